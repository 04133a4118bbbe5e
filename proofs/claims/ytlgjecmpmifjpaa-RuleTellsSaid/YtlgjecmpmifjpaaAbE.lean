/-
  What the abstract operations do the model's operations do: one operation that calls nothing.
-/
import Derived.Test.YtlgjecmpmifjpaaAbD
import Derived.Laws.OwnMore
import Derived.RangeFuncRecord
set_option linter.unusedVariables false
set_option linter.unusedSimpArgs false
namespace Go.Ab
open Go.RowKit

variable {P : Program} {M : Mem} {B : List Gh} {D : List Nat} {σ : Store} {base nt : Nat} {w0 w : World}

/-- What is owed for a step: the answer, and what has become of memory. -/
def Done (P : Program) (M : Mem) (B : List Gh) (D : List Nat) (σ' : Store) (base : Nat) (w0 : World) (v : AV) (val : Value) (w' : World) : Prop :=
  ∃ M' B', Ext base M M' B B' ∧ StOK P M' B' D σ' base w0 w' ∧ RelV M' B' v val

theorem Done.same (h : StOK P M B D σ base w0 w) {v : AV} {val : Value} (hv : RelV M B v val) : Done P M B D σ base w0 v val w :=
  ⟨M, B, Ext.refl _ _ _, h, hv⟩

theorem kindT_some {T : TypeId} {b : Bool} (h : kindT P T = some b) : ∃ d, P.underlying T = some d ∧ isAggD d = b := by
  unfold kindT at h
  split at h
  · rename_i d hd; injection h with h; exact ⟨d, hd, h⟩
  · cases h

theorem run_isAgg {T : TypeId} {b : Bool} (h : kindT P T = some b) (w : World) : (isAgg T).run P w = .ok b w := by
  obtain ⟨d, hd, rfl⟩ := kindT_some h
  cases d <;> simp [isAgg, run_underlying hd, isAggD]

theorem info_of_szT {T : TypeId} (h : 0 < szT P T) : ∃ i, P.info? T = some i ∧ i.size = szT P T := by
  unfold szT Program.cellsOf at *
  cases hi : P.info? T with
  | none => simp [hi] at h
  | some i => exact ⟨i, rfl, by simp [hi]⟩

theorem run_sizeOf' {T : TypeId} (h : 0 < szT P T) (w : World) : (sizeOf T).run P w = .ok (szT P T) w := by
  obtain ⟨i, hi, hs⟩ := info_of_szT h
  simp [sizeOf, typeInfo, hi, hs]

theorem run_loadVar_agg {T : TypeId} (hk : kindT P T = some true) (h0 : 0 < szT P T) (a : Addr) (vs : List Value) (hl : vs.length = szT P T)
    (hc : ∀ j v, vs[j]? = some v → w.cell? (a.add j) = some v) : (loadVar T a).run P w = .ok (.agg vs.toArray) w := by
  have h1 := run_loadCells_list (P := P) w a vs hc
  rw [hl] at h1
  simp [loadVar, run_isAgg hk, run_sizeOf' h0, h1]

theorem run_loadVar_one {T : TypeId} (hk : kindT P T = some false) (a : Addr) (v : Value) (hc : w.cell? a = some v) : (loadVar T a).run P w = .ok v w := by
  simp [loadVar, run_isAgg hk, hc]

theorem add0 (b o j : Nat) : (⟨b, o, none⟩ : Addr).add j = ⟨b, o + j, none⟩ := by unfold Addr.add; split <;> simp_all

theorem take_rel : ∀ {cs : List PV} {vs : List Value} (n : Nat), RelC M cs vs → RelC M (cs.take n) (vs.take n)
  | cs, vs, 0, h => by simp only [List.take_zero, RelC]
  | [], vs, n + 1, h => by simp only [RelC] at h; subst h; simp only [List.take_nil, RelC]
  | c :: cs, vs, n + 1, h => by
    simp only [RelC] at h
    obtain ⟨v, r, rfl, h1, h2, h3⟩ := h
    simp only [List.take_succ_cons, RelC]
    exact ⟨v, r.take n, rfl, h1, h2, take_rel n h3⟩
theorem drop_rel : ∀ {cs : List PV} {vs : List Value} (n : Nat), RelC M cs vs → RelC M (cs.drop n) (vs.drop n)
  | cs, vs, 0, h => by simpa using h
  | [], vs, n + 1, h => by simp only [RelC] at h; subst h; simp only [List.drop_nil, RelC]
  | c :: cs, vs, n + 1, h => by
    simp only [RelC] at h
    obtain ⟨v, r, rfl, h1, h2, h3⟩ := h
    simpa using drop_rel n h3
theorem takeV_rel : ∀ {cs : List AV} {vs : List Value} (n : Nat), RelVC M B cs vs → RelVC M B (cs.take n) (vs.take n)
  | cs, vs, 0, h => by simp only [List.take_zero, RelVC]
  | [], vs, n + 1, h => by simp only [RelVC] at h; subst h; simp only [List.take_nil, RelVC]
  | c :: cs, vs, n + 1, h => by
    simp only [RelVC] at h
    obtain ⟨v, r, rfl, h1, h2, h3, h4⟩ := h
    simp only [List.take_succ_cons, RelVC]
    exact ⟨v, r.take n, rfl, h1, h2, h3, takeV_rel n h4⟩
theorem dropV_rel : ∀ {cs : List AV} {vs : List Value} (n : Nat), RelVC M B cs vs → RelVC M B (cs.drop n) (vs.drop n)
  | cs, vs, 0, h => by simpa using h
  | [], vs, n + 1, h => by simp only [RelVC] at h; subst h; simp only [List.drop_nil, RelVC]
  | c :: cs, vs, n + 1, h => by
    simp only [RelVC] at h
    obtain ⟨v, r, rfl, h1, h2, h3, h4⟩ := h
    simpa using dropV_rel n h4
theorem appV_rel : ∀ {cs ds : List AV} {vs us : List Value}, RelVC M B cs vs → RelVC M B ds us → RelVC M B (cs ++ ds) (vs ++ us)
  | [], ds, vs, us, h, h' => by simp only [RelVC] at h; subst h; simpa using h'
  | c :: cs, ds, vs, us, h, h' => by
    simp only [RelVC] at h
    obtain ⟨v, r, rfl, h1, h2, h3, h4⟩ := h
    simp only [List.cons_append, RelVC]
    exact ⟨v, r ++ us, rfl, h1, h2, h3, appV_rel h4 h'⟩
theorem app_rel : ∀ {cs ds : List PV} {vs us : List Value}, RelC M cs vs → RelC M ds us → RelC M (cs ++ ds) (vs ++ us)
  | [], ds, vs, us, h, h' => by simp only [RelC] at h; subst h; simpa using h'
  | c :: cs, ds, vs, us, h, h' => by
    simp only [RelC] at h
    obtain ⟨v, r, rfl, h1, h2, h3⟩ := h
    simp only [List.cons_append, RelC]
    exact ⟨v, r ++ us, rfl, h1, h2, app_rel h3 h'⟩

/-- A variable read out of cells that nobody writes. -/
theorem loadP_ok (h : StOK P M B D σ base w0 w) {T : TypeId} {cs : List PV} {v : AV} (hl : loadP P T cs = some v) {b off : Nat} {vs : List Value}
    (hm : ∀ j, j < vs.length → w.cell? ⟨b, off + j, none⟩ = vs[j]?) (hr : RelC M cs vs) : ∃ val, (loadVar T ⟨b, off, none⟩).run P w = .ok val w ∧ RelV M B v val := by
  unfold loadP at hl
  have hlen := hr.length
  split at hl
  · rename_i hk
    split at hl
    · rename_i hsz
      injection hl with hl; subst hl
      refine ⟨_, run_loadVar_agg hk hsz.1 _ (vs.take (szT P T)) (by simp; omega) (fun j v hj => ?_), ?_⟩
      · rw [add0]
        have hj' := (List.getElem?_eq_some_iff.1 hj).1
        simp only [List.length_take] at hj'
        rw [hm j (by omega)]
        rw [List.getElem?_take_of_lt (by omega)] at hj
        exact hj
      · simp only [RelV, RelP]
        exact ⟨_, rfl, by simpa using take_rel (szT P T) hr⟩
    · cases hl
  · rename_i hk
    cases cs with
    | nil => cases hl
    | cons c cs =>
      injection hl with hl; subst hl
      simp only [RelC] at hr
      obtain ⟨v, r, rfl, h1, h2, h3⟩ := hr
      refine ⟨v, run_loadVar_one hk _ v (by simpa using hm 0 (by simp)), by simpa only [RelV] using h2⟩
  · cases hl

theorem loadA_ok (h : StOK P M B D σ base w0 w) {T : TypeId} {cs : List AV} {v : AV} (hl : loadA P T cs = some v) {b off : Nat} {vs : List Value}
    (hm : ∀ j, j < vs.length → w.cell? ⟨b, off + j, none⟩ = vs[j]?) (hr : RelVC M B cs vs) : ∃ val, (loadVar T ⟨b, off, none⟩).run P w = .ok val w ∧ RelV M B v val := by
  unfold loadA at hl
  have hlen := hr.length
  split at hl
  · rename_i hk
    split at hl
    · rename_i hsz
      injection hl with hl; subst hl
      refine ⟨_, run_loadVar_agg hk hsz.1 _ (vs.take (szT P T)) (by simp; omega) (fun j v hj => ?_), ?_⟩
      · rw [add0]
        have hj' := (List.getElem?_eq_some_iff.1 hj).1
        simp only [List.length_take] at hj'
        rw [hm j (by omega)]
        rw [List.getElem?_take_of_lt (by omega)] at hj
        exact hj
      · exact mkAgg_ok (takeV_rel _ hr)
    · cases hl
  · rename_i hk
    cases cs with
    | nil => cases hl
    | cons c cs =>
      injection hl with hl; subst hl
      simp only [RelVC] at hr
      obtain ⟨v, r, rfl, h1, h2, h3, h4⟩ := hr
      exact ⟨v, run_loadVar_one hk _ v (by simpa using hm 0 (by simp)), h3⟩
  · cases hl

theorem box_cells {vs : Array Value} {T : TypeId} {b : Nat} {fr : Nat × Nat} (hh : w.heap[b]? = some (.cells vs T fr)) (off : Nat) :
    ∀ j, j < (vs.toList.drop off).length → w.cell? ⟨b, off + j, none⟩ = (vs.toList.drop off)[j]? := fun j hj => by
  simp only [World.cell?, hh, List.getElem?_drop, Array.getElem?_toList]
  rfl

end Go.Ab
