/-
  What the abstract operations do the model's operations do: append, its steps on the store.
-/
import Derived.Test.YtlgjecmpmifjpaaAbI
set_option linter.unusedVariables false
set_option linter.unusedSimpArgs false
namespace Go.Ab
open Go.RowKit

variable {P : Program} {M : Mem} {B : List Gh} {D : List Nat} {σ : Store} {base nt : Nat} {w0 w : World}

theorem sliceOf_ok {x : AV} {es : List PV} {y : Value} (h : sliceOf x = some es) (hx : RelV M B x y) : RelP M (.list es) y := by
  cases x with
  | p z => cases z with
    | list fs => simp [sliceOf] at h; subst h; simpa only [RelV] using hx
    | val v => simp [sliceOf] at h
    | agg cs => simp [sliceOf] at h
  | e0 => simp [sliceOf] at h; subst h; simp only [RelV] at hx; subst hx; simp only [RelP]; exact ⟨none, 0, 0, rfl, rfl, Nat.le_refl _, .inl trivial⟩
  | _ => simp [sliceOf] at h

/-- A list that is read: where its cells lie. -/
theorem list_src (h : StOK P M B D σ base w0 w) {es : List PV} {y : Value} (hy : RelP M (.list es) y) (hne : es ≠ []) {sz : Nat} (hh : headB sz es = true) :
    ∃ a c news, y = .slice (some a) es.length c ∧ news.length = es.length * sz ∧ (∀ j u, news[j]? = some u → w.cell? (a.add j) = some u) ∧ RelF M sz es news ∧ ∀ u ∈ news, u.oneCell' = true := by
  simp only [RelP] at hy
  obtain ⟨A, n, c, rfl, rfl, hc, hx⟩ := hy
  rcases hx with rfl | ⟨b, off, sz', rfl, hr⟩
  · exact absurd rfl hne
  have hsz : sz' = sz := by
    cases es with
    | nil => exact absurd rfl hne
    | cons e es =>
      obtain ⟨⟨vs, h1, _, h3⟩, _⟩ := relE_cons.1 hr
      simp only [headB, beq_iff_eq] at hh
      have := h3.length
      omega
  subst hsz
  obtain ⟨news, g1, g2, g3, g4⟩ := relE_flat hr
  refine ⟨_, c, news, rfl, g1, fun j u hu => ?_, g3, g4⟩
  rw [add0]
  have := g2 j (List.getElem?_eq_some_iff.1 hu).1
  rw [hu] at this
  exact h.mem _ _ _ this

/-- A row grows. -/
theorem append_own_ok (h : StOK P M B D σ base w0 w) {t T T' ty : TypeId} {id n fz : Nat} {es xs : List PV} {x y : Value} (ht : P.underlying t = some (.slice T)) (ho : σ[id]? = some (.arr T' es fz))
    (hx : RelV M B (.own id n) x) (hy : RelP M (.list xs) y) (hn : n = es.length) (hT : es = [] ∨ T' = T) (hne : xs ≠ []) (hh : headB (szT P T) xs = true) (hroom : roomB P T (es ++ xs).length = true) :
    ∃ val w', (Builtin.append_ #[t, t] ty #[x, y]).run P w = .ok val w' ∧ Done P M B D (σ.set id (.arr T (es ++ xs) fz)) base w0 (.own id (es ++ xs).length) val w' := by
  obtain ⟨i, z, hi, hz, hzs, hsz, hby, hisz⟩ := roomB_ok hroom
  obtain ⟨a, c, news, rfl, hnl, hnews, hrelF, hone⟩ := list_src h hy hne hh
  simp only [RelV] at hx
  obtain ⟨g, hg, hle, A, cp, rfl, hhd⟩ := hx
  obtain ⟨hgl, hfl, hd⟩ := h.obj id _ g ho hg
  obtain ⟨rfl, rfl⟩ := hhd (by omega)
  subst hn
  have hxl : 0 < xs.length := List.length_pos_iff.2 hne
  have hidB := (List.getElem?_eq_some_iff.1 hg).1
  have hbig : (es.length + xs.length) * (i.bytes + 1) ≤ 2 ^ 40 := by simpa using hby
  have hb1 : (es.length + xs.length) * i.bytes ≤ 140737488355328 := by
    have : (es.length + xs.length) * i.bytes ≤ (es.length + xs.length) * (i.bytes + 1) := Nat.mul_le_mul_left _ (by omega)
    omega
  have hb2 : es.length + xs.length ≤ maxLen := by
    have : (es.length + xs.length) * 1 ≤ (es.length + xs.length) * (i.bytes + 1) := Nat.mul_le_mul_left _ (by omega)
    simp only [maxLen]; omega
  rw [← hisz] at hnl hrelF
  rcases hd with ⟨rfl, hA, hcap, hre⟩ | ⟨hre, hA, hen, hgsz, hpos, ⟨xs0, hown, hrel⟩, hnm⟩
  · -- out of nil
    rw [hA, hcap]
    obtain ⟨v', w', hrun, hown', hgrow, _⟩ := run_append_own (P := P) w w.heap.size t ty T i z i.size i.bytes ht hi hz rfl rfl hzs hsz (.slice none 0 0) 0 [] (World.ownsRow_nil w _ T i.size) a xs.length c news hnl hnews hone
      (by simpa using hb2) (by simpa using hb1) (Nat.le_refl _)
    simp only [Nat.zero_add, List.nil_append] at hown' hgrow
    rcases hown'.2 with ⟨_, h0⟩ | ⟨gb, cap', cur, rfl, hb, hhp, hnc, hcm, hcs, htake⟩
    · omega
    refine ⟨_, w', by simpa using hrun, ?_⟩
    obtain ⟨h1, h2⟩ := h.upd (o' := .arr T xs fz) (g' := ⟨gb, xs.length, some ⟨gb, 0, none⟩, cap', szT P T, true⟩) (w' := w') ho hg
      ⟨by simp at hgl; simp [hgl], fun e => by simp at hgl; simp at e; omega⟩ (fun hr => by rw [hre] at hr; cases hr) (fun _ => .inr hb) (fun _ => heap_lt hhp) (by rw [hre]; exact hgrow)
      (fun hr => by rw [hre] at hr; cases hr) (fun _ _ _ _ hr => by rw [hre] at hr; cases hr) (fun hr => by rw [hre] at hr; cases hr)
      ⟨rfl, by simp at hfl; omega, .inr ⟨rfl, rfl, hne, rfl, by rw [← hisz]; exact hsz, ⟨news, by
          rw [← hisz]
          exact ⟨hown'.1, .inr ⟨gb, cap', cur, rfl, Nat.le_trans h.size hb, hhp, hnc, hcm, hcs, htake⟩⟩, by rw [← hisz]; exact hrelF⟩, fun o ho' => by
          cases hm : M gb o with
          | none => rfl
          | some v => exact absurd (h.mem_lt hm) (by omega)⟩⟩
    refine ⟨M, _, h1, h2, ?_⟩
    simp only [RelV, List.nil_append]
    exact ⟨_, List.getElem?_set_self hidB, Nat.le_refl _, _, _, rfl, fun _ => ⟨rfl, rfl⟩⟩
  · -- a row that has elements
    obtain rfl : T' = T := hT.resolve_left hen
    rw [hA] at hown ⊢
    rw [hgl] at hown
    rw [hgsz, ← hisz] at hown hrel
    obtain ⟨gb, cap', w', hrun, hown', hgrow, hwhere⟩ := append_row (P := P) (w := w) t ty T' i z ht hi hz hzs hsz g.blk es.length g.cap xs0 hown a xs.length c news hnl hnews hone hb2 hb1 h.size
    refine ⟨_, w', hrun, ?_⟩
    have hlt : gb < w'.heap.size := by
      rcases hown'.2 with ⟨hv, _⟩ | ⟨b2, c2, cur, hv, hb, hhp, _⟩
      · simp at hv
      · injection hv with hv _ _
        injection hv with hv
        injection hv with hv _ _
        subst hv
        exact heap_lt hhp
    have hkeep : ∀ k v, M g.blk k = some v → k < fz * g.sz := fun k v hm => by
      rcases Nat.lt_or_ge k (fz * g.sz) with hk | hk
      · exact hk
      · rw [hnm k hk] at hm; cases hm
    obtain ⟨h1, h2⟩ := h.upd (o' := .arr T' (es ++ xs) fz) (g' := ⟨gb, es.length + xs.length, some ⟨gb, 0, none⟩, cap', szT P T', true⟩) (w' := w') ho hg
      ⟨by simp [hgl], fun e => by simp only [hgl] at e; omega⟩ (fun _ => ⟨rfl, fun e => by rw [hgl] at e; exact absurd (List.eq_nil_of_length_eq_zero e) hen⟩)
      (fun _ => by
        rcases hwhere with e | ⟨e, _⟩
        · exact .inl ⟨hre, e⟩
        · exact .inr (by simp [e])) (fun _ => hlt) (by rw [hre]; exact hgrow) (fun hr => (h.lo id g hg hr).1)
      (fun b k v hm _ e => by
        subst e
        have hc := h.mem _ _ _ hm
        rcases hwhere with e | ⟨e, hold⟩
        · subst e
          have hk := hkeep k v hm
          have hk2 : k < xs0.length := by
            rw [hown.1, hisz, ← hgsz]
            exact Nat.lt_of_lt_of_le hk (Nat.mul_le_mul_right _ hfl)
          have e1 := hown.cells (g := g.blk) rfl k xs0[k] (List.getElem?_eq_getElem hk2)
          have e2 := hown'.cells (g := g.blk) rfl k xs0[k] (by rw [List.getElem?_append_left hk2]; exact List.getElem?_eq_getElem hk2)
          rw [add0] at e1 e2
          simp only [Nat.zero_add] at e1 e2
          rw [e2, ← e1]; exact hc
        · rw [World.cell?_of_block (w := w) (a := ⟨g.blk, k, none⟩) (hold _ (h.mem_lt hm))]
          exact hc)
      (fun hr => by
        rcases hown.2 with ⟨hv, _⟩ | ⟨b2, c2, cur, hv, hb, hhp, _⟩
        · simp at hv
        · injection hv with hv _ _
          injection hv with hv
          injection hv with hv _ _
          subst hv
          exact mark_ne h hhp (by simp))
      ⟨by simp, by simp; omega, .inr ⟨rfl, rfl, by simp [hen], rfl, by rw [← hisz]; exact hsz, ⟨xs0 ++ news, by rw [← hisz]; exact hown', by rw [← hisz]; exact relF_app hown.1 hrel hrelF⟩, fun o ho' => by
          rcases hwhere with e | ⟨e, _⟩
          · simp only at ho' ⊢
            rw [e]
            exact hnm o (by rw [hgsz]; exact ho')
          · simp only
            rw [e]
            exact h.mem_new o⟩⟩
    refine ⟨M, _, h1, h2, ?_⟩
    simp only [RelV, List.length_append]
    exact ⟨_, List.getElem?_set_self hidB, Nat.le_refl _, _, _, rfl, fun _ => ⟨rfl, rfl⟩⟩

end Go.Ab
