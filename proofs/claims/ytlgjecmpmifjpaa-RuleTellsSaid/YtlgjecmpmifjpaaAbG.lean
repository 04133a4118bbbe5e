/-
  What the abstract operations do the model's operations do: stores.
-/
import Derived.Test.YtlgjecmpmifjpaaAbF
set_option linter.unusedVariables false
set_option linter.unusedSimpArgs false
namespace Go.Ab
open Go.RowKit

variable {P : Program} {M : Mem} {B : List Gh} {D : List Nat} {σ : Store} {base nt : Nat} {w0 w : World}

theorem getElem?_over {α : Type} {xs vs : List α} {k : Nat} (h : k + vs.length ≤ xs.length) (j : Nat) :
    (over xs k vs)[j]? = if j < k then xs[j]? else if j < k + vs.length then vs[j - k]? else xs[j]? := by
  unfold over
  by_cases h1 : j < k
  · rw [if_pos h1, List.append_assoc, List.getElem?_append_left (by simp; omega), List.getElem?_take_of_lt h1]
  · rw [if_neg h1]
    by_cases h2 : j < k + vs.length
    · rw [if_pos h2, List.getElem?_append_left (by simp; omega), List.getElem?_append_right (by simp; omega)]
      congr 1; simp; omega
    · rw [if_neg h2, List.getElem?_append_right (by simp; omega), List.getElem?_drop]
      congr 1; simp; omega

theorem length_over {α : Type} {xs vs : List α} {k : Nat} (h : k + vs.length ≤ xs.length) : (over xs k vs).length = xs.length := by
  unfold over; simp; omega

theorem overV_rel {cs ds : List AV} {vs us : List Value} {k : Nat} (h : RelVC M B cs vs) (h' : RelVC M B ds us) : RelVC M B (over cs k ds) (over vs k us) := by
  unfold over
  rw [h'.length]
  exact appV_rel (appV_rel (takeV_rel _ h) h') (dropV_rel _ h)
theorem over_rel {cs ds : List PV} {vs us : List Value} {k : Nat} (h : RelC M cs vs) (h' : RelC M ds us) : RelC M (over cs k ds) (over vs k us) := by
  unfold over
  rw [h'.length]
  exact app_rel (app_rel (take_rel _ h) h') (drop_rel _ h)

theorem relVC_one : ∀ {cs : List AV} {vs : List Value}, RelVC M B cs vs → ∀ v ∈ vs, v.oneCell' = true
  | [], vs, h => by simp only [RelVC] at h; subst h; simp
  | c :: cs, vs, h => by
    simp only [RelVC] at h
    obtain ⟨v, r, rfl, h1, h2, h3, h4⟩ := h
    intro u hu
    rcases List.mem_cons.1 hu with rfl | hu
    · exact h2
    · exact relVC_one h4 u hu
theorem relC_one : ∀ {cs : List PV} {vs : List Value}, RelC M cs vs → ∀ v ∈ vs, v.oneCell' = true
  | [], vs, h => by simp only [RelC] at h; subst h; simp
  | c :: cs, vs, h => by
    simp only [RelC] at h
    obtain ⟨v, r, rfl, h1, h2, h3⟩ := h
    intro u hu
    rcases List.mem_cons.1 hu with rfl | hu
    · exact h2.oneCell h1
    · exact relC_one h3 u hu

theorem run_storeVar_at {T : TypeId} {b off : Nat} {x : Value} {cur : Array Value} {t : TypeId} (h0 : 0 < szT P T) (hx : x.cells.size = szT P T) (hh : w.heap[b]? = some (.cells cur t (0, 0)))
    (hfit : off + szT P T ≤ cur.size) (h1 : ∀ v ∈ x.cells.toList, v.oneCell' = true) :
    (storeVar T ⟨b, off, none⟩ x).run P w = .ok () (w.setRow b (over cur.toList off x.cells.toList).toArray) := by
  have := run_storeCells_at P b off t x.cells.toList 0 cur w hh (by simp; omega) h1
  simp only [Nat.add_zero] at this
  simp only [storeVar, Sem.run_bind, run_sizeOf' h0, Result.andThen_ok, hx, ne_eq, not_true_eq_false, if_false, pure_bind]
  exact this

theorem grownBy_setRow (w : World) (b : Nat) (cs : Array Value) : w.grownBy (w.setRow b cs) (some b) :=
  ⟨rfl, rfl, rfl, by simp, fun k _ hk => setRow_other w b k _ (fun e => hk (by rw [e]))⟩

theorem mark_ne (h : StOK P M B D σ base w0 w) {b : Nat} {O : Obj} (hb : w.heap[b]? = some O) (hO : ∀ l, O ≠ .deferred l) : ∀ r ∈ D, r ≠ b := fun r hr e => by
  have := (h.marks r hr).1
  rw [e, hb] at this
  injection this with this
  exact hO _ this

theorem set_same {α : Type} {l : List α} {i : Nat} {x : α} (h : l[i]? = some x) : l.set i x = l := by
  apply List.ext_getElem?
  intro j
  by_cases e : i = j
  · subst e; rw [List.getElem?_set_self (List.getElem?_eq_some_iff.1 h).1, h]
  · rw [List.getElem?_set_ne e]

/-- A store into a variable. -/
theorem store_box (h : StOK P M B D σ base w0 w) {id off : Nat} {T : TypeId} {cs : List AV} {v : AV} {x y : Value} (ho : σ[id]? = some (.box cs)) (hp : RelV M B (.ptr id off) x) (hv : RelV M B v y)
    (hs : v.solid = true) (h0 : 0 < szT P T) (hl : v.cells.length = szT P T) (hfit : off + szT P T ≤ cs.length) :
    ∃ w', (Instr.storeAt T x y).run P w = .ok () w' ∧ Done P M B D (σ.set id (.box (over cs off v.cells))) base w0 (.tup []) undef w' := by
  simp only [RelV] at hp
  obtain ⟨g, hg, hgr, rfl⟩ := hp
  obtain ⟨_, _, ⟨vs, t, hh, hr⟩, hn⟩ := h.obj id _ g ho hg
  have hc := cells_ok hs hv
  have hcl := hc.length
  have hrl := hr.length
  simp only [Array.length_toList] at hcl hrl
  have hrun := run_storeVar_at (P := P) (w := w) (T := T) (b := g.blk) (off := off) (x := y) h0 (by omega) hh (by omega) (relVC_one hc)
  refine ⟨_, by simpa [Instr.storeAt, Instr.sureAddr] using hrun, ?_⟩
  obtain ⟨h1, h2⟩ := h.upd (o' := .box (over cs off v.cells)) (g' := g) (w' := w.setRow g.blk (over vs.toList off y.cells.toList).toArray) ho hg (GLe.refl g) (fun hr => ⟨hr, fun _ => rfl⟩) (fun hr => .inl ⟨hr, rfl⟩)
    (fun hr => by simpa using (h.lo id g hg hr).2) (by rw [hgr.1]; exact grownBy_setRow w g.blk _) (fun hr => (h.lo id g hg hr).1)
    (fun b k u hm _ e => by subst e; rw [hn k] at hm; cases hm) (fun _ => mark_ne h hh (by simp))
    (by
      rw [set_same hg]
      exact ⟨hgr.1, hgr.2, ⟨_, t, setRow_heap w g.blk vs _ t _ hh, by simpa using overV_rel hr hc⟩, hn⟩)
  exact ⟨M, _, h1, h2, undef_rel⟩

theorem word1_ok {v : AV} {x : PV} {y : Value} (h : word1 v = some x) (hv : RelV M B v y) : RelP M x y := by
  cases v <;> simp [word1] at h
  · subst h; simpa only [RelV] using hv
  · subst h; simp only [RelV] at hv; subst hv; simp only [RelP]; exact ⟨none, 0, 0, rfl, rfl, Nat.le_refl _, .inl trivial⟩

theorem word1_one {v : AV} {x : PV} (h : word1 v = some x) (ho : v.one = true) : x.one = true := by
  cases v <;> simp [word1] at h <;> subst h <;> first | rfl | simpa [AV.one] using ho

theorem words_ok : ∀ {cs : List AV} {ps : List PV} {vs : List Value}, cs.mapM word1 = some ps → RelVC M B cs vs → RelC M ps vs
  | [], ps, vs, h, hr => by rw [mapM_nil_some h]; simpa only [RelVC, RelC] using hr
  | c :: cs, ps, vs, h, hr => by
    obtain ⟨y, ys, h1, h2, rfl⟩ := mapM_cons_some h
    simp only [RelVC] at hr
    obtain ⟨v, r, rfl, ho, _, hv, hr⟩ := hr
    simp only [RelC]
    exact ⟨v, r, rfl, word1_one h1 ho, word1_ok h1 hv, words_ok h2 hr⟩

theorem wordOf_ok {v : AV} {x : PV} {y : Value} (h : wordOf v = some x) (hv : RelV M B v y) : RelP M x y := by
  unfold wordOf at h
  split at h
  · rename_i cs
    split at h
    · rename_i ps hp
      injection h with h; subst h
      simp only [RelV] at hv
      obtain ⟨vs, rfl, hv⟩ := hv
      simp only [RelP]
      exact ⟨vs, rfl, words_ok hp hv⟩
    · cases h
  · exact word1_ok h hv

theorem relP_cells {x : PV} {y : Value} (h : RelP M x y) : RelC M x.cells y.cells.toList := by
  cases x with
  | agg cs => simp only [RelP] at h; obtain ⟨vs, rfl, h⟩ := h; exact h
  | val z =>
    have h1 := h.oneCell rfl
    rw [cells_of_one h1]
    simp only [PV.cells, RelC]
    exact ⟨y, [], rfl, rfl, h, rfl⟩
  | list es =>
    have h1 := h.oneCell rfl
    rw [cells_of_one h1]
    simp only [PV.cells, RelC]
    exact ⟨y, [], rfl, rfl, h, rfl⟩

theorem setCells_cells {e : PV} {cs : List PV} {vs : List Value} (hl : cs.length = e.cells.length) (hr : RelC M cs vs) : (setCells e cs).cells = cs := by
  cases e with
  | agg ds => rfl
  | val x =>
    match cs, hl with
    | [c], _ =>
      simp only [RelC] at hr
      obtain ⟨v, r, rfl, h1, _⟩ := hr
      simp only [setCells]
      exact PV.cells_one h1
  | list x =>
    match cs, hl with
    | [c], _ =>
      simp only [RelC] at hr
      obtain ⟨v, r, rfl, h1, _⟩ := hr
      simp only [setCells]
      exact PV.cells_one h1

/-- A store into a row of the call's own. -/
theorem store_own (h : StOK P M B D σ base w0 w) {id n i off fz : Nat} {T T' : TypeId} {es : List PV} {e z : PV} {x y : Value} (ho : σ[id]? = some (.arr T' es fz)) (hp : RelV M B (.optr id n i off) x) (hz : RelP M z y)
    (hn : n = es.length) (he : es[i]? = some e) (hfz : fz ≤ i) (h0 : 0 < szT P T) (hl : z.cells.length = szT P T) (hfit : off + szT P T ≤ e.cells.length) :
    ∃ w', (Instr.storeAt T x y).run P w = .ok () w' ∧ Done P M B D (σ.set id (.arr T' (es.set i (setCells e (over e.cells off z.cells))) fz)) base w0 (.tup []) undef w' := by
  simp only [RelV] at hp
  obtain ⟨g, hg, hle, A0, rfl, hx⟩ := hp
  obtain ⟨hgl, hfl, hd⟩ := h.obj id _ g ho hg
  have hil := (List.getElem?_eq_some_iff.1 he).1
  rcases hd with ⟨rfl, _⟩ | ⟨hr, hA, hne, hsz, hpos, ⟨xs, hown, hrel⟩, hnm⟩
  · simp at he
  have := hx (by omega)
  subst this
  obtain ⟨hrc, hec⟩ := hrel i e he
  rcases hown.2 with ⟨hv, _⟩ | ⟨b, cap, cur, hv, hb, hh, hnc, hcm, hcs, htake⟩
  · rw [hA] at hv; simp at hv
  rw [hA] at hv
  have hv' := hv
  injection hv with hv _ hcap
  injection hv with hv
  injection hv with hv _ _
  subst hv
  have hzc := relP_cells hz
  have hzl := hzc.length
  simp only [Array.length_toList] at hzl
  have hxl : xs.length = g.len * g.sz := hown.1
  have hseg : i * g.sz + g.sz ≤ g.len * g.sz := by
    rw [hgl]
    calc i * g.sz + g.sz = (i + 1) * g.sz := by rw [Nat.add_mul]; omega
      _ ≤ es.length * g.sz := Nat.mul_le_mul_right _ hil
  have hcurl : g.len * g.sz ≤ cur.size := by rw [hcs]; exact Nat.mul_le_mul_right _ hnc
  have hrun := run_storeVar_at (P := P) (w := w) (T := T) (b := g.blk) (off := i * g.sz + off) (x := y) h0 (by omega) hh (by omega) (relC_one hzc)
  refine ⟨_, by simpa [Instr.storeAt, Instr.sureAddr] using hrun, ?_⟩
  have hol : (over e.cells off z.cells).length = e.cells.length := length_over (by omega)
  have hseg' : ∀ j, j < g.sz → ((xs.drop (i * g.sz)).take g.sz)[j]? = xs[i * g.sz + j]? := fun j hj => by rw [List.getElem?_take_of_lt hj, List.getElem?_drop]
  have hsl : ((xs.drop (i * g.sz)).take g.sz).length = g.sz := by simp; omega
  obtain ⟨h1, h2⟩ := h.upd (o' := .arr T' (es.set i (setCells e (over e.cells off z.cells))) fz) (g' := g) (w' := w.setRow g.blk (over cur.toList (i * g.sz + off) y.cells.toList).toArray) ho hg (GLe.refl g) (fun hr => ⟨hr, fun _ => rfl⟩) (fun hr => .inl ⟨hr, rfl⟩)
    (fun hr => by simpa using (h.lo id g hg hr).2) (by rw [hr]; exact grownBy_setRow w g.blk _) (fun hr => (h.lo id g hg hr).1)
    (fun b k u hm _ e => by
      subst e
      have hk : k < fz * g.sz := by
        rcases Nat.lt_or_ge k (fz * g.sz) with hk | hk
        · exact hk
        · rw [hnm k hk] at hm; cases hm
      have hk2 : k < i * g.sz := Nat.lt_of_lt_of_le hk (Nat.mul_le_mul_right _ hfz)
      have hc := h.mem _ _ _ hm
      simp only [World.cell?, hh] at hc
      simp only [World.cell?, setRow_heap w g.blk cur _ T' _ hh]
      simp only [Option.isSome_none, Bool.false_eq_true, if_false] at hc ⊢
      rw [List.getElem?_toArray, getElem?_over (by simp; omega), if_pos (by omega)]
      simpa using hc) (fun _ => mark_ne h hh (by simp))
    (by
      rw [set_same hg]
      refine ⟨by simpa using hgl, by simpa using hfl, .inr ⟨hr, hA, by simpa using hne, hsz, hpos, ⟨over xs (i * g.sz + off) y.cells.toList, ⟨by rw [length_over (by simp; omega)]; exact hxl, .inr ⟨g.blk, cap, _, by rw [hA]; exact hv', hb, setRow_heap w g.blk cur _ T' _ hh, hnc, hcm, by simp [length_over (xs := cur.toList) (vs := y.cells.toList) (k := i * g.sz + off) (by simp; omega), hcs], ?_⟩⟩, ?_⟩, hnm⟩⟩
      · apply List.ext_getElem?
        intro j
        by_cases hj : j < g.len * g.sz
        · rw [List.getElem?_take_of_lt hj, getElem?_over (by simp; omega), getElem?_over (by simp; omega)]
          have : xs[j]? = cur.toList[j]? := by rw [← htake, List.getElem?_take_of_lt hj]
          rw [this]
        · rw [List.getElem?_eq_none (by simp; omega), List.getElem?_eq_none (by rw [length_over (by simp; omega)]; omega)]
      · intro k e' hk
        by_cases hki : i = k
        · subst hki
          rw [List.getElem?_set_self hil] at hk
          injection hk with hk
          subst hk
          have hov := over_rel (k := off) hrc hzc
          have hcc : (setCells e (over e.cells off z.cells)).cells = over e.cells off z.cells := setCells_cells hol hov
          rw [hcc]
          refine ⟨?_, by omega⟩
          have : ((over xs (i * g.sz + off) y.cells.toList).drop (i * g.sz)).take g.sz = over ((xs.drop (i * g.sz)).take g.sz) off y.cells.toList := by
            apply List.ext_getElem?
            intro j
            by_cases hj : j < g.sz
            · rw [List.getElem?_take_of_lt hj, List.getElem?_drop, getElem?_over (by simp; omega), getElem?_over (by rw [hsl]; simp; omega), hseg' j hj]
              by_cases c1 : j < off
              · rw [if_pos c1, if_pos (by omega)]
              · rw [if_neg c1, if_neg (by omega)]
                by_cases c2 : j < off + y.cells.toList.length
                · rw [if_pos c2, if_pos (by omega)]; congr 1; omega
                · rw [if_neg c2, if_neg (by omega)]
            · rw [List.getElem?_eq_none (by simp; omega), List.getElem?_eq_none (by rw [length_over (by rw [hsl]; simp; omega), hsl]; omega)]
          rw [this]
          exact hov
        · rw [List.getElem?_set_ne hki] at hk
          have hk' := hrel k e' hk
          refine ⟨?_, hk'.2⟩
          have : ((over xs (i * g.sz + off) y.cells.toList).drop (k * g.sz)).take g.sz = (xs.drop (k * g.sz)).take g.sz := by
            apply List.ext_getElem?
            intro j
            by_cases hj : j < g.sz
            · rw [List.getElem?_take_of_lt hj, List.getElem?_take_of_lt hj, List.getElem?_drop, List.getElem?_drop, getElem?_over (by simp; omega)]
              rcases Nat.lt_or_gt_of_ne hki with hlt | hgt
              · have : (i + 1) * g.sz ≤ k * g.sz := Nat.mul_le_mul_right _ hlt
                rw [Nat.add_mul] at this
                rw [if_neg (by omega), if_neg (by simp; omega)]
              · have : (k + 1) * g.sz ≤ i * g.sz := Nat.mul_le_mul_right _ hgt
                rw [Nat.add_mul] at this
                rw [if_pos (by omega)]
            · rw [List.getElem?_eq_none (by simp; omega), List.getElem?_eq_none (by simp; omega)]
          rw [this]
          exact hk'.1)
  exact ⟨M, _, h1, h2, undef_rel⟩

end Go.Ab
