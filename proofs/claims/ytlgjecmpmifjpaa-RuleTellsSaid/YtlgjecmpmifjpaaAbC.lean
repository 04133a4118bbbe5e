/-
  What the abstract operations do the model's operations do: values, constants, loads, stores.
-/
import Derived.Test.YtlgjecmpmifjpaaAbB
set_option linter.unusedVariables false
set_option linter.unusedSimpArgs false
namespace Go.Ab
open Go.RowKit

variable {P : Program} {M : Mem} {B : List Gh} {D : List Nat} {σ : Store} {base nt : Nat} {w0 w : World}

theorem scalar_relV {v : Value} (h : scalarB v = true) : RelV M B (.p (.val v)) v := by simp [RelV, RelP, h]

theorem cellConst_ok {c : Value} {v : AV} (h : cellConst c = some v) : v.one = true ∧ c.oneCell' = true ∧ RelV M B v c := by
  unfold cellConst at h
  split at h
  · injection h with h; subst h; exact ⟨rfl, rfl, by simp only [RelV]⟩
  · split at h
    · rename_i hs
      injection h with h; subst h
      exact ⟨rfl, scalar_one hs, scalar_relV hs⟩
    · cases h

theorem mapM_cons_some {α β : Type} {f : α → Option β} {x : α} {xs : List α} {r : List β} (h : (x :: xs).mapM f = some r) : ∃ y ys, f x = some y ∧ xs.mapM f = some ys ∧ r = y :: ys := by
  simp only [List.mapM_cons, Option.pure_def, Option.bind_eq_bind, Option.bind_eq_some_iff] at h
  obtain ⟨y, hy, ys, hys, h⟩ := h
  exact ⟨y, ys, hy, hys, by simpa using h.symm⟩
theorem mapM_nil_some {α β : Type} {f : α → Option β} {r : List β} (h : ([] : List α).mapM f = some r) : r = [] := by simpa using h.symm

theorem cellConsts_ok : ∀ {cs : List Value} {vs : List AV}, cs.mapM cellConst = some vs → RelVC M B vs cs
  | [], vs, h => by rw [mapM_nil_some h]; simp only [RelVC]
  | c :: cs, vs, h => by
    obtain ⟨y, ys, h1, h2, rfl⟩ := mapM_cons_some h
    have := cellConst_ok (M := M) (B := B) h1
    simp only [RelVC]
    exact ⟨c, cs, rfl, this.1, this.2.1, this.2.2, cellConsts_ok h2⟩

theorem pvs_ok : ∀ {cs : List AV} {ps : List PV} {vs : List Value}, cs.mapM AV.pv = some ps → RelVC M B cs vs → RelC M ps vs
  | [], ps, vs, h, hr => by rw [mapM_nil_some h]; simpa only [RelVC, RelC] using hr
  | c :: cs, ps, vs, h, hr => by
    obtain ⟨y, ys, h1, h2, rfl⟩ := mapM_cons_some h
    simp only [RelVC] at hr
    obtain ⟨v, r, rfl, ho, _, hv, hr⟩ := hr
    simp only [RelC]
    cases c <;> simp [AV.pv] at h1
    subst h1
    exact ⟨v, r, rfl, by simpa [AV.one] using ho, by simpa only [RelV] using hv, pvs_ok h2 hr⟩

theorem mkAgg_ok {cs : List AV} {vs : List Value} (h : RelVC M B cs vs) : RelV M B (mkAgg cs) (.agg vs.toArray) := by
  unfold mkAgg
  split
  · rename_i ps hp
    simp only [RelV, RelP]
    exact ⟨vs.toArray, rfl, pvs_ok hp h⟩
  · simp only [RelV]
    exact ⟨vs.toArray, rfl, h⟩

theorem ofConst_ok {c : Value} {v : AV} (h : ofConst c = some v) : RelV M B v c := by
  unfold ofConst at h
  split at h
  · rename_i cs
    simp only [Option.map_eq_some_iff] at h
    obtain ⟨vs, h1, rfl⟩ := h
    simpa using mkAgg_ok (cellConsts_ok (M := M) (B := B) h1)
  · rename_i vs
    split at h
    · rename_i h0
      injection h with h; subst h
      simp only [RelV, RelVT]
      exact ⟨vs, rfl, by simpa using Array.eq_empty_of_size_eq_zero h0⟩
    · cases h
  · exact (cellConst_ok h).2.2

theorem evA_ok {tm : Nat → AV} {a : Act} (hf : FrOK M B nt tm a.tmps) {x : Operand} {v : AV} (h : evA tm x = some v) : RelV M B v (a.eval x) := by
  cases x with
  | tmp t => injection h with h; subst h; exact hf.2 t
  | const c => exact ofConst_ok h
  | global g => cases h
  | func f => injection h with h; subst h; exact scalar_relV rfl

theorem RelVC.length : ∀ {cs : List AV} {vs : List Value}, RelVC M B cs vs → cs.length = vs.length
  | [], vs, h => by simp only [RelVC] at h; subst h; rfl
  | c :: cs, vs, h => by
    simp only [RelVC] at h
    obtain ⟨v, r, rfl, _, _, _, h⟩ := h
    simp [RelVC.length h]

theorem relC_relVC : ∀ {cs : List PV} {vs : List Value}, RelC M cs vs → RelVC M B (cs.map .p) vs
  | [], vs, h => by simpa only [RelC, RelVC, List.map_nil] using h
  | c :: cs, vs, h => by
    simp only [RelC] at h
    obtain ⟨v, r, rfl, h1, h2, h3⟩ := h
    simp only [List.map_cons, RelVC]
    exact ⟨v, r, rfl, by simpa [AV.one] using h1, h2.oneCell h1, by simpa only [RelV] using h2, relC_relVC h3⟩

theorem relV_one_cells {v : AV} {x : Value} (hs : v.solid = true) (ho : v.one = true) (h : RelV M B v x) : x.oneCell' = true := by
  cases v with
  | bot => simp [AV.solid] at hs
  | p y => simp only [RelV] at h; exact h.oneCell (by simpa [AV.one] using ho)
  | agg cs => simp [AV.one] at ho
  | tup cs => simp [AV.solid] at hs
  | ro cs => simp only [RelV] at h; obtain ⟨b, off, vs, rfl, _⟩ := h; rfl
  | ptr id off => simp only [RelV] at h; obtain ⟨g, _, _, rfl⟩ := h; rfl
  | own id n => simp only [RelV] at h; obtain ⟨g, _, _, A, c, rfl, _⟩ := h; rfl
  | optr id n i off => simp [AV.solid] at hs
  | map id => simp only [RelV] at h; obtain ⟨g, _, _, rfl⟩ := h; rfl
  | fn f xs ys => simp only [RelV] at h; obtain ⟨vx, vy, rfl, _⟩ := h; rfl
  | yld id => simp only [RelV] at h; obtain ⟨g, _, _, rfl⟩ := h; rfl
  | e0 => simp only [RelV] at h; subst h; rfl

/-- A value's cells. -/
theorem cells_ok {v : AV} {x : Value} (hs : v.solid = true) (h : RelV M B v x) : RelVC M B v.cells x.cells.toList := by
  by_cases ho : v.one = true
  · have h1 := relV_one_cells hs ho h
    have h2 : v.cells = [v] := by
      cases v <;> simp_all [AV.one, AV.cells]
      rename_i y
      cases y <;> simp_all [PV.one, AV.cells]
    rw [cells_of_one h1, h2]
    simp only [RelVC]
    exact ⟨x, [], rfl, ho, h1, h, rfl⟩
  · cases v with
    | p y => cases y with
      | agg cs =>
        simp only [RelV, RelP] at h
        obtain ⟨vs, rfl, h⟩ := h
        exact relC_relVC h
      | val y => simp [AV.one, PV.one] at ho
      | list es => simp [AV.one, PV.one] at ho
    | agg cs => simp only [RelV] at h; obtain ⟨vs, rfl, h⟩ := h; exact h
    | tup cs => simp [AV.solid] at hs
    | _ => simp [AV.one] at ho

end Go.Ab
