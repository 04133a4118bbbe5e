/-
  Rows that are handed on are written no more; calls of functions that see values alone.
-/
import Derived.Test.YtlgjecmpmifjpaaAbO

set_option linter.unusedVariables false
set_option linter.unusedSimpArgs false
namespace Go.Ab
open Go.RowKit

variable {P : Program} {M : Mem} {B : List Gh} {D : List Nat} {σ σ' : Store} {base nt : Nat} {w0 w : World}

/-- What an own row holds is known. -/
def Froz (M : Mem) (B : List Gh) (σ : Store) (id : Nat) : Prop :=
  ∀ (T : TypeId) (es : List PV) (fz : Nat) (g : Gh), σ[id]? = some (.arr T es fz) → B[id]? = some g → es ≠ [] → RelE M g.blk g.sz es 0

theorem Froz.mono {M' : Mem} (hM : MLe M M') {id : Nat} (h : Froz M B σ id) : Froz M' B σ id := fun T es fz g h1 h2 h3 => RelE.mono hM _ _ _ _ (h T es fz g h1 h2 h3)

theorem fzAt_get {id j : Nat} {T : TypeId} {es : List PV} {fz : Nat} (h : σ[j]? = some (.arr T es fz)) : ∃ fz', (fzAt σ id)[j]? = some (.arr T es fz') := by
  unfold fzAt
  split
  · rename_i T' es' fz' ho
    by_cases e : id = j
    · subst e
      rw [h] at ho
      injection ho with ho
      injection ho with h1 h2 h3
      subst h1; subst h2
      exact ⟨_, List.getElem?_set_self (List.getElem?_eq_some_iff.1 h).1⟩
    · exact ⟨fz, by rw [List.getElem?_set_ne e]; exact h⟩
  · exact ⟨fz, h⟩

theorem fzAt_ok (h : StOK P M B D σ base w0 w) (id : Nat) : ∃ M', Ext base M M' B B ∧ StOK P M' B D (fzAt σ id) base w0 w ∧ Froz M' B σ id := by
  unfold fzAt
  split
  · rename_i T es fz ho
    have hid := (List.getElem?_eq_some_iff.1 ho).1
    obtain ⟨g, hg⟩ : ∃ g, B[id]? = some g := ⟨B[id]'(by rw [h.len]; exact hid), List.getElem?_eq_getElem _⟩
    have hob := h.obj id _ g ho hg
    obtain ⟨hl, hf, hd⟩ := hob
    rcases hd with ⟨rfl, hA, hc, hr⟩ | ⟨hr, hA, hne, hsz, hpos, ⟨xs, hown, hrel⟩, hnm⟩
    · refine ⟨M, Ext.refl _ _ _, ?_, fun T' es' fz' g' h1 h2 h3 => ?_⟩
      · have e : fz = 0 := by simpa using hf
        subst e
        rw [List.length_nil, set_same ho]
        exact h
      · rw [ho] at h1
        injection h1 with h1
        injection h1 with h1 h4 h5
        exact absurd h4.symm h3
    · let M' : Mem := fun b o => if b = g.blk ∧ o < es.length * g.sz then w.cell? ⟨b, o, none⟩ else M b o
      have hM : MLe M M' := fun b o v hv => by
        show (if b = g.blk ∧ o < es.length * g.sz then w.cell? ⟨b, o, none⟩ else M b o) = some v
        split
        · exact h.mem _ _ _ hv
        · exact hv
      have hlo := h.lo id g hg hr
      have hother : ∀ b o, b ≠ g.blk → M' b o = M b o := fun b o hb => by
        show (if b = g.blk ∧ o < es.length * g.sz then w.cell? ⟨b, o, none⟩ else M b o) = M b o
        rw [if_neg (fun e => hb e.1)]
      have hE : RelE M' g.blk g.sz es 0 := by
        refine relE_of_flat (news := xs) hpos (fun j hj => ?_) (by rw [hown.1, hl]; exact Nat.le_refl _) (fun i e he => ⟨RelC.mono hM _ _ (hrel i e he).1, (hrel i e he).2⟩)
        rw [Nat.zero_add]
        have hx : j < xs.length := by rw [hown.1, hl]; exact hj
        rw [List.getElem?_eq_getElem hx]
        have hc := hown.cells (g := g.blk) (n := g.len) (by rw [hA]; rfl) j xs[j] (List.getElem?_eq_getElem hx)
        rw [add0] at hc
        simp only [Nat.zero_add] at hc
        show (if g.blk = g.blk ∧ j < es.length * g.sz then w.cell? ⟨g.blk, j, none⟩ else M g.blk j) = _
        rw [if_pos ⟨rfl, hj⟩]
        exact hc
      refine ⟨M', ⟨hM, BLe.refl B, fun b o hb => hother b o (by omega)⟩, ⟨by simp [h.len], ?_, h.dist, h.lo, ?_, h.marks, h.dup, h.below, h.size⟩, fun T' es' fz' g' h1 h2 h3 => ?_⟩
      · intro j oj gj hoj hgj
        by_cases e : id = j
        · subst e
          rw [List.getElem?_set_self hid] at hoj
          injection hoj with hoj; subst hoj
          rw [hg] at hgj
          injection hgj with hgj; subst hgj
          refine ⟨hl, Nat.le_refl _, .inr ⟨hr, hA, hne, hsz, hpos, ⟨xs, hown, fun i e he => ⟨RelC.mono hM _ _ (hrel i e he).1, (hrel i e he).2⟩⟩, fun o ho' => ?_⟩⟩
          show (if g.blk = g.blk ∧ o < es.length * g.sz then w.cell? ⟨g.blk, o, none⟩ else M g.blk o) = none
          rw [if_neg (by omega)]
          exact hnm o (Nat.le_trans (Nat.mul_le_mul_right _ hf) ho')
        · rw [List.getElem?_set_ne e] at hoj
          exact (h.obj j oj gj hoj hgj).step hM (BLe.refl B) (fun _ => rfl) (fun hr' k => hother _ _ (fun eb => e (h.dist id j g gj hg hgj hr hr' eb.symm)))
      · intro b o v hv
        have hv' : (if b = g.blk ∧ o < es.length * g.sz then w.cell? ⟨b, o, none⟩ else M b o) = some v := hv
        split at hv'
        · exact hv'
        · exact h.mem _ _ _ hv'
      · rw [ho] at h1
        injection h1 with h1
        injection h1 with h1 h4 h5
        subst h4
        rw [hg] at h2
        injection h2 with h2
        subst h2
        exact hE
  · rename_i hno
    exact ⟨M, Ext.refl _ _ _, h, fun T es fz g h1 => absurd h1 (fun e => hno T es fz e)⟩

theorem fzAll_ok : ∀ (ids : List Nat) {M : Mem} {σ : Store}, StOK P M B D σ base w0 w → ∃ M', Ext base M M' B B ∧ StOK P M' B D (fzAll σ ids) base w0 w ∧ ∀ id ∈ ids, Froz M' B σ id
  | [], M, σ, h => ⟨M, Ext.refl _ _ _, h, by simp⟩
  | i :: ids, M, σ, h => by
    obtain ⟨M1, e1, h1, f1⟩ := fzAt_ok h i
    obtain ⟨M2, e2, h2, f2⟩ := fzAll_ok ids h1
    refine ⟨M2, e1.trans e2, h2, fun id hid => ?_⟩
    rcases List.mem_cons.1 hid with rfl | hid
    · exact f1.mono e2.mem
    · intro T es fz g g1 g2 g3
      obtain ⟨fz', hz⟩ := fzAt_get (id := i) g1
      exact f2 id hid T es fz' g hz g2 g3

theorem frz_own_ok (h : StOK P M B D σ base w0 w) {M' : Mem} {id n : Nat} {x : PV} {val : Value} (hx : frz σ (.own id n) = some x) (hv : RelV M B (.own id n) val) (hf : Froz M' B σ id) : RelP M' x val ∧ x.one = true := by
  simp only [frz] at hx
  split at hx
  · rename_i T es fz ho
    split at hx
    · rename_i hn
      injection hx with hx; subst hx
      simp only [RelV] at hv
      obtain ⟨g, hg, hle, A, c, rfl, hh⟩ := hv
      obtain ⟨hl, _, hd⟩ := h.obj id _ g ho hg
      obtain ⟨rfl, rfl⟩ := hh (by omega)
      refine ⟨?_, rfl⟩
      simp only [RelP]
      rcases hd with ⟨rfl, hA, hc, hr⟩ | ⟨hr, hA, hne, hsz, hpos, ⟨xs, hown, _⟩, _⟩
      · exact ⟨_, _, _, rfl, by simpa using hn, by simp at hn; omega, .inl rfl⟩
      · refine ⟨_, _, _, rfl, hn, ?_, .inr ⟨g.blk, 0, g.sz, hA, hf _ _ _ _ ho hg hne⟩⟩
        rcases hown.2 with ⟨hv, _⟩ | ⟨g0, cap0, cur, hv, _, _, hnc, _⟩
        · rw [hA] at hv; simp at hv
        · injection hv with _ _ hcap
          omega
    · cases hx
  · cases hx

theorem frz_one_ok (h : StOK P M B D σ base w0 w) {M' : Mem} (hM : MLe M M') {v : AV} {x : PV} {val : Value} (ho : v.one = true) (hx : frz σ v = some x) (hv : RelV M B v val) (hf : ∀ id n, v = .own id n → Froz M' B σ id) : RelP M' x val ∧ x.one = true := by
  cases v with
  | p y =>
    simp only [frz, Option.some.injEq] at hx; subst hx
    simp only [RelV] at hv
    exact ⟨RelP.mono hM _ _ hv, by simpa [AV.one] using ho⟩
  | e0 =>
    simp only [frz, Option.some.injEq] at hx; subst hx
    simp only [RelV] at hv
    subst hv
    refine ⟨?_, rfl⟩
    simp only [RelP]
    exact ⟨none, 0, 0, rfl, rfl, Nat.le_refl _, .inl trivial⟩
  | own id n => exact frz_own_ok h hx hv (hf id n rfl)
  | agg cs => simp [AV.one] at ho
  | _ => simp [frz] at hx

theorem frzC_ok (h : StOK P M B D σ base w0 w) {M' : Mem} (hM : MLe M M') : ∀ {cs : List AV} {xs : List PV} {vs : List Value}, frzL σ cs = some xs → RelVC M B cs vs → (∀ id n, .own id n ∈ cs → Froz M' B σ id) → RelC M' xs vs
  | [], xs, vs, hx, hv, _ => by
    simp only [frzL, Option.some.injEq] at hx; subst hx
    simpa only [RelVC, RelC] using hv
  | c :: cs, xs, vs, hx, hv, hf => by
    simp only [frzL] at hx
    split at hx
    · rename_i x hx1
      split at hx
      · rename_i xs' hx2
        injection hx with hx; subst hx
        simp only [RelVC] at hv
        obtain ⟨u, r, rfl, h1, h2, h3, h4⟩ := hv
        obtain ⟨g1, g2⟩ := frz_one_ok h hM h1 hx1 h3 (fun id n e => hf id n (by rw [← e]; simp))
        simp only [RelC]
        exact ⟨u, r, rfl, g2, g1, frzC_ok h hM hx2 h4 (fun id n hm => hf id n (by simp [hm]))⟩
      · cases hx
    · cases hx

theorem ownIds_agg {cs : List AV} {id n : Nat} (h : AV.own id n ∈ cs) : id ∈ ownIds (.agg cs) := by
  simp only [ownIds, List.mem_filterMap]
  exact ⟨_, h, rfl⟩

theorem frz_ok (h : StOK P M B D σ base w0 w) {M' : Mem} (hM : MLe M M') {v : AV} {x : PV} {val : Value} (hx : frz σ v = some x) (hv : RelV M B v val) (hf : ∀ id ∈ ownIds v, Froz M' B σ id) : RelP M' x val := by
  cases v with
  | p y =>
    simp only [frz, Option.some.injEq] at hx; subst hx
    simp only [RelV] at hv
    exact RelP.mono hM _ _ hv
  | e0 => exact (frz_one_ok h hM rfl hx hv (fun id n e => by cases e)).1
  | own id n => exact (frz_own_ok h hx hv (hf id (by simp [ownIds]))).1
  | agg cs =>
    simp only [frz, Option.map_eq_some_iff] at hx
    obtain ⟨xs, hxs, rfl⟩ := hx
    simp only [RelV] at hv
    obtain ⟨vs, rfl, hv⟩ := hv
    simp only [RelP]
    exact ⟨vs, rfl, frzC_ok h hM hxs hv (fun id n hm => hf id (ownIds_agg hm))⟩
  | _ => simp [frz] at hx

theorem frzL_ok (h : StOK P M B D σ base w0 w) {M' : Mem} (hM : MLe M M') : ∀ {cs : List AV} {xs : List PV} {vs : List Value}, frzL σ cs = some xs → RelVT M B cs vs → (∀ id ∈ cs.flatMap ownIds, Froz M' B σ id) → ∀ B', RelVT M' B' (xs.map .p) vs
  | [], xs, vs, hx, hv, _ => by
    simp only [frzL, Option.some.injEq] at hx; subst hx
    intro B'
    simpa only [RelVT, List.map_nil] using hv
  | c :: cs, xs, vs, hx, hv, hf => by
    intro B'
    simp only [frzL] at hx
    split at hx
    · rename_i x hx1
      split at hx
      · rename_i xs' hx2
        injection hx with hx; subst hx
        simp only [RelVT] at hv
        obtain ⟨u, r, rfl, h1, h2⟩ := hv
        simp only [List.map_cons, RelVT]
        refine ⟨u, r, rfl, ?_, frzL_ok h hM hx2 h2 (fun id hm => hf id (by simp only [List.flatMap_cons, List.mem_append]; exact .inr hm)) B'⟩
        simp only [RelV]
        exact frz_ok h hM hx1 h1 (fun id hm => hf id (by simp only [List.flatMap_cons, List.mem_append]; exact .inl hm))
      · cases hx
    · cases hx

theorem argA_ok (h : StOK P M B D σ base w0 w) {M' : Mem} (hM : MLe M M') : ∀ {cs : List AV} {vs : List Value}, RelVT M B cs vs → (∀ id ∈ cs.flatMap ownIds, Froz M' B σ id) → RelVT M' B (cs.map (argA σ)) vs
  | [], vs, hv, _ => by simpa only [RelVT, List.map_nil] using hv
  | c :: cs, vs, hv, hf => by
    simp only [RelVT] at hv
    obtain ⟨u, r, rfl, h1, h2⟩ := hv
    simp only [List.map_cons, RelVT]
    refine ⟨u, r, rfl, ?_, argA_ok h hM h2 (fun id hm => hf id (by simp only [List.flatMap_cons, List.mem_append]; exact .inr hm))⟩
    unfold argA
    split
    · rename_i x hx
      simp only [RelV]
      exact frz_ok h hM hx h1 (fun id hm => hf id (by simp only [List.flatMap_cons, List.mem_append]; exact .inl hm))
    · exact RelV.mono hM (BLe.refl B) _ _ h1

/-- Behind a call that saw values alone. -/
theorem StOK.after (h : StOK P M B D σ base w0 w) {M' : Mem} {w' : World} (hM : MLe M M') (hold : ∀ b o, b < w.heap.size → M' b o = M b o) (hmem : ∀ b o v, M' b o = some v → w'.cell? ⟨b, o, none⟩ = some v)
    (hb : Below w.heap.size w w') : Ext base M M' B B ∧ StOK P M' B D σ base w0 w' := by
  have hsz := h.size
  refine ⟨⟨hM, BLe.refl B, fun b o hlt => hold b o (by omega)⟩, h.len, ?_, h.dist, ?_, hmem, ?_, h.dup, h.below.trans (hb.mono hsz), Nat.le_trans hsz hb.size⟩
  · intro id o g ho hg
    exact (h.obj id o g ho hg).step hM (BLe.refl B) (fun hr => hb.block _ (h.lo id g hg hr).2) (fun hr k => hold _ _ (h.lo id g hg hr).2)
  · intro i g hg hr
    have := h.lo i g hg hr
    exact ⟨this.1, Nat.lt_of_lt_of_le this.2 hb.size⟩
  · intro r hr
    have := h.marks r hr
    exact ⟨by rw [hb.block r (heap_lt this.1)]; exact this.1, this.2⟩

/-- A value is called. -/
def CallsTo (P : Program) (fv : Value) (avs : Array Value) (w : World) (post : Value → World → Prop) : Prop :=
  ∃ d nx, (Deferred.ofValue fv avs).run P w = .ok d w ∧ (invoke d.target d.args).run P w = .ok nx w ∧ (∀ f x y, fv = .func (.func f) x y → ∃ g as, nx = .enter g as) ∧
    match nx with
    | .enter f args => CallsIn Fence.wide 0 P f args w fun e w' => ∃ val, e = .returned val ∧ post val w'
    | .round l f tmps assign body => RoundIn Fence.wide 0 P l f tmps assign body w fun e w' => ∃ val, e = .returned val ∧ post val w'
    | _ => False

theorem CallsTo.mono {fv : Value} {avs : Array Value} {post post' : Value → World → Prop} (h : CallsTo P fv avs w post) (hp : ∀ val w', post val w' → post' val w') : CallsTo P fv avs w post' := by
  obtain ⟨d, nx, h1, h2, h4, h3⟩ := h
  refine ⟨d, nx, h1, h2, h4, ?_⟩
  cases nx <;> first
    | exact h3.mono fun e w' ⟨val, he, hq⟩ => ⟨val, he, hp _ _ hq⟩
    | exact h3

/-- What is owed for a value that is called on values and a store. -/
def InvOK (P : Program) (inv : AV → List AV → Store → Option (AV × Store)) : Prop :=
  ∀ (fa : AV) (args : List AV) (σ : Store) (v : AV) (σ' : Store), inv fa args σ = some (v, σ') → ∀ (M : Mem) (B : List Gh) (D : List Nat) (base : Nat) (w0 w : World) (fv : Value) (avs : Array Value),
    StOK P M B D σ base w0 w → RelV M B fa fv → RelVT M B args avs.toList → CallsTo P fv avs w fun val w' => Done P M B D σ' base w0 v val w'

/-- What is owed for a function that is called on values alone. -/
def PrOK (P : Program) (pr : FuncId → List PV → Option AV) : Prop :=
  ∀ (f : FuncId) (ps : List PV) (r : AV), pr f ps = some r → ∀ (M : Mem) (w : World) (avs : Array Value), (∀ b o v, M b o = some v → w.cell? ⟨b, o, none⟩ = some v) → (∀ B, RelVT M B (ps.map .p) avs.toList) →
    CallsTo P (.func (.func f) #[] #[]) avs w fun val w' => ∃ M', MLe M M' ∧ (∀ b o, b < w.heap.size → M' b o = M b o) ∧ (∀ b o v, M' b o = some v → w'.cell? ⟨b, o, none⟩ = some v) ∧ Below w.heap.size w w' ∧ ∀ B, RelV M' B r val

theorem StOK.start (P : Program) (M : Mem) (w : World) (hm : ∀ b o v, M b o = some v → w.cell? ⟨b, o, none⟩ = some v) : StOK P M [] [] [] w.heap.size w w :=
  ⟨rfl, by simp, by simp, by simp, hm, by simp, List.nodup_nil, Below.refl _ _, Nat.le_refl _⟩

def ownAll : AV → List Nat
  | .tup vs => vs.flatMap ownIds
  | v => ownIds v

theorem ownAll_of {v : AV} (h : ∀ vs, v ≠ .tup vs) : ownAll v = ownIds v := by
  cases v <;> first | rfl | exact absurd rfl (h _)

theorem finish_ok (h : StOK P M B D σ base w0 w) {v r : AV} {val : Value} (hx : finish σ v = some r) (hv : RelV M B v val) : ∃ M', Ext base M M' B B ∧ (∀ b o v, M' b o = some v → w.cell? ⟨b, o, none⟩ = some v) ∧ ∀ B', RelV M' B' r val := by
  obtain ⟨M', e, h2, hf⟩ := fzAll_ok (ownAll v) h
  refine ⟨M', e, h2.mem, ?_⟩
  unfold finish at hx
  split at hx
  · rename_i vs
    split at hx
    · rename_i ps hp
      injection hx with hx; subst hx
      simp only [RelV] at hv
      obtain ⟨us, rfl, hv⟩ := hv
      intro B'
      simp only [RelV]
      exact ⟨us, rfl, frzL_ok h e.mem hp hv hf B'⟩
    · cases hx
  · rename_i v hnt
    split at hx
    · rename_i x hp
      injection hx with hx; subst hx
      intro B'
      simp only [RelV]
      exact frz_ok h e.mem hp hv fun id hm => hf id (by rw [ownAll_of (fun vs e => hnt vs e)]; exact hm)
    · cases hx

theorem prOK_of_inv {inv : AV → List AV → Store → Option (AV × Store)} (h : InvOK P inv) :
    PrOK P fun g ps => match inv (.fn g [] []) (ps.map .p) [] with
      | some (v, σ) => finish σ v
      | none => none := by
  intro f ps r hr M w avs hm hargs
  simp only at hr
  split at hr
  · rename_i v σ' hi
    refine (h _ _ _ _ _ hi M [] [] w.heap.size w w (.func (.func f) #[] #[]) avs (StOK.start P M w hm) (by simp only [RelV, RelVT]; exact ⟨#[], #[], rfl, rfl, rfl⟩) (hargs [])).mono ?_
    rintro val w' ⟨M1, B1, e1, h1, r1⟩
    obtain ⟨M2, e2, hm2, hr2⟩ := finish_ok h1 hr r1
    exact ⟨M2, e1.mem.trans e2.mem, fun b o hb => (e2.old b o hb).trans (e1.old b o hb), hm2, h1.below, hr2⟩
  · cases hr

end Go.Ab
