/-
  What the abstract operations do the model's operations do: structs and slices that are written out.
-/
import Derived.Test.YtlgjecmpmifjpaaAbK
set_option linter.unusedVariables false
set_option linter.unusedSimpArgs false
namespace Go.Ab
open Go.RowKit

variable {P : Program} {M : Mem} {B : List Gh} {D : List Nat} {σ : Store} {base nt : Nat} {w0 w : World}

theorem foldl_put : ∀ (vs : List Value) (k off : Nat) (cells : List Value), off + k + vs.length ≤ cells.length →
    ((vs.zipIdx k).foldl (fun (cs : Array Value) (x : Value × Nat) => cs.setIfInBounds (off + x.2) x.1) cells.toArray) = (over cells (off + k) vs).toArray
  | [], k, off, cells, _ => by simp [over]
  | v :: vs, k, off, cells, h => by
    simp only [List.length_cons] at h
    simp only [List.zipIdx_cons, List.foldl_cons]
    have e : (cells.toArray.setIfInBounds (off + k) v) = (cells.set (off + k) v).toArray := by simp
    rw [e, foldl_put vs (k + 1) off (cells.set (off + k) v) (by simp; omega)]
    congr 1
    apply List.ext_getElem?
    intro j
    rw [getElem?_over (by simp; omega), getElem?_over (by simp; omega)]
    by_cases h1 : j < off + k
    · rw [if_pos h1, if_pos (by omega), List.getElem?_set_ne (by omega)]
    · rw [if_neg h1]
      by_cases h2 : j = off + k
      · subst h2
        rw [if_pos (by omega), if_pos (by simp), List.getElem?_set_self (by omega)]
        simp
      · rw [if_neg (by omega)]
        by_cases h3 : j < off + k + (vs.length + 1)
        · rw [if_pos (by omega), if_pos (by simpa using h3)]
          have : j - (off + k) = (j - (off + (k + 1))) + 1 := by omega
          rw [this, List.getElem?_cons_succ]
        · rw [if_neg (by omega), if_neg (by simpa using h3), List.getElem?_set_ne (by omega)]

theorem fill_cons {place : Nat → Option (Nat × Nat)} {cells : Array Value} {i off size : Nat} {v : Value} {rest : List (Nat × Value)} (hp : place i = some (off, size)) (hv : v.cells.size = size) (hf : off + size ≤ cells.size) :
    Instr.fill place cells ((i, v) :: rest) = Instr.fill place (over cells.toList off v.cells.toList).toArray rest := by
  simp only [Instr.fill, hp]
  have hc : (v.cells.size ≠ size || off + v.cells.size > cells.size) = false := by simp; omega
  simp only [hc, Bool.false_eq_true, if_false]
  have := foldl_put v.cells.toList 0 off cells.toList (by simp; omega)
  simp only [Nat.add_zero] at this
  rw [← this]
  congr 1
  rw [← Array.foldl_toList]
  simp [Array.toList_zipIdx]

theorem over_over {α : Type} {xs a b : List α} {k : Nat} (h : k + a.length + b.length ≤ xs.length) : over (over xs k a) (k + a.length) b = over xs k (a ++ b) := by
  have hl : (over xs k a).length = xs.length := length_over (by omega)
  apply List.ext_getElem?
  intro j
  rw [getElem?_over (by omega), getElem?_over (by omega), getElem?_over (by simp; omega)]
  by_cases h1 : j < k
  · rw [if_pos (by omega), if_pos h1, if_pos h1]
  · rw [if_neg h1, if_neg h1]
    by_cases h2 : j < k + a.length
    · rw [if_pos h2, if_pos h2, if_pos (by simp; omega), List.getElem?_append_left (by omega)]
    · rw [if_neg h2, if_neg h2]
      by_cases h3 : j < k + a.length + b.length
      · rw [if_pos h3, if_pos (by simp; omega), List.getElem?_append_right (by omega)]
        congr 1; omega
      · rw [if_neg h3, if_neg (by simp; omega)]

def RelI (M : Mem) (B : List Gh) : List (Nat × AV) → List (Nat × Value) → Prop
  | [], vs => vs = []
  | (i, c) :: cs, vs => ∃ v r, vs = (i, v) :: r ∧ RelV M B c v ∧ RelI M B cs r

theorem partsA_ok {tm : Nat → AV} {a : Act} (hf : FrOK M B nt tm a.tmps) : ∀ {xs : List (Nat × Operand)} {ps : List (Nat × AV)}, partsA (evA tm) xs = some ps → RelI M B ps (xs.map fun x => (x.1, a.eval x.2))
  | [], ps, h => by simp only [partsA] at h; injection h with h; subst h; simp only [RelI, List.map_nil]
  | (i, x) :: xs, ps, h => by
    simp only [partsA] at h
    split at h
    · rename_i v hv
      split at h
      · rename_i us hu
        injection h with h; subst h
        simp only [RelI, List.map_cons]
        exact ⟨_, _, rfl, evA_ok hf hv, partsA_ok hf hu⟩
      · cases h
    · cases h

theorem relF_cons {sz : Nat} {e : PV} {es : List PV} {vs news : List Value} (hl : vs.length = sz) (h : RelC M e.cells vs) (h' : RelF M sz es news) : RelF M sz (e :: es) (vs ++ news) := by
  have := relF_app (M := M) (sz := sz) (es := [e]) (fs := es) (xs := vs) (ys := news) (by simp [hl]) (fun i x hx => by
    cases i with
    | zero =>
      obtain rfl : e = x := by simpa using hx
      have e2 : (vs.drop (0 * sz)).take sz = vs := by simp [← hl]
      rw [e2]
      exact ⟨h, by have := h.length; omega⟩
    | succ i => simp at hx) h'
  simpa using this

theorem fill_elems {sz : Nat} : ∀ {ps : List (Nat × AV)} {vs : List (Nat × Value)} {es : List PV} {k : Nat} {cells : Array Value}, elemsA sz k ps = some es → RelI M B ps vs → (k + es.length) * sz ≤ cells.size →
    ∃ news : List Value, Instr.fill (fun i => some (i * sz, sz)) cells vs = some (over cells.toList (k * sz) news).toArray ∧ news.length = es.length * sz ∧ RelF M sz es news
  | [], vs, es, k, cells, h, hr, _ => by
    simp only [elemsA] at h; injection h with h; subst h
    simp only [RelI] at hr; subst hr
    exact ⟨[], by simp [Instr.fill, over], by simp, relF_nil⟩
  | (i, c) :: ps, vs, es, k, cells, h, hr, hs => by
    simp only [elemsA] at h
    split at h
    · rename_i hi
      subst hi
      split at h
      · rename_i x hx
        split at h
        · rename_i hxl
          split at h
          · rename_i xs hxs
            injection h with h; subst h
            simp only [RelI] at hr
            obtain ⟨v, r, rfl, hv, hr⟩ := hr
            have hc := relP_cells (wordOf_ok hx hv)
            have hcl := hc.length
            simp only [Array.length_toList] at hcl
            simp only [List.length_cons] at hs
            have hs1 : i * sz + sz ≤ cells.size := by
              have : i * sz + sz = (i + 1) * sz := by rw [Nat.add_mul]; omega
              rw [this]
              exact Nat.le_trans (Nat.mul_le_mul_right _ (by omega)) hs
            have hol : (over cells.toList (i * sz) v.cells.toList).length = cells.size := by rw [length_over (by simp; omega)]; simp
            obtain ⟨news, h1, h2, h3⟩ := fill_elems (k := i + 1) (cells := (over cells.toList (i * sz) v.cells.toList).toArray) hxs hr (by
              simp only [List.size_toArray, hol]
              rw [show i + 1 + xs.length = i + (xs.length + 1) by omega]; exact hs)
            refine ⟨v.cells.toList ++ news, ?_, by simp [h2, Nat.add_mul]; omega, relF_cons (by simp; omega) hc h3⟩
            rw [fill_cons (off := i * sz) (size := sz) rfl (by omega) hs1, h1]
            have hn : i * sz + sz + news.length ≤ cells.size := by
              rw [h2]
              have : i * sz + sz + xs.length * sz = (i + (xs.length + 1)) * sz := by simp only [Nat.add_mul]; omega
              omega
            have e1 : (i + 1) * sz = i * sz + v.cells.toList.length := by rw [Nat.add_mul]; simp; omega
            rw [e1]
            have e2 := over_over (xs := cells.toList) (a := v.cells.toList) (b := news) (k := i * sz) (by simp; omega)
            rw [← e2]
          · cases h
        · cases h
      · cases h
    · cases h

/-- A slice that is written out. -/
theorem buildSlice_run {T e : TypeId} {es : List PV} {ps : List (Nat × AV)} {vs : Array (Nat × Value)} {len : Nat} (hu : P.underlying T = some (.slice e)) (hes : elemsA (szT P e) 0 ps = some es) (hr : RelI M B ps vs.toList)
    (hlen : es.length = len) (h24 : len * szT P e ≤ 2 ^ 24) (h0 : 0 < szT P e) {z : AV} (hz : zeroT P e = some z) (w : World) :
    ∃ news : List Value, (Instr.buildSlice T len vs).run P w = .ok (.slice (some ⟨w.heap.size, 0, none⟩) len len) (w.alloc (.cells news.toArray e)) ∧ news.length = es.length * szT P e ∧ RelF M (szT P e) es news := by
  obtain ⟨zv, hzr, hzs, _⟩ := zeroT_ok hz
  subst hlen
  let zc : Array Value := if es.length * szT P e = 0 then #[] else zv.cells
  obtain ⟨news, h1, h2, h3⟩ := fill_elems (M := M) (B := B) (sz := szT P e) (k := 0) (cells := (Array.range (es.length * szT P e)).map (zc[· % zc.size]!)) hes hr (by simp)
  refine ⟨news, ?_, h2, h3⟩
  have ho : over ((Array.range (es.length * szT P e)).map (zc[· % zc.size]!)).toList (0 * szT P e) news = news := by
    unfold over
    simp [h2]
  rw [ho] at h1
  have h24' : ¬ (es.length * szT P e > 2 ^ 24) := by omega
  simp only [Instr.buildSlice, run_underlying hu, Sem.run_bind, Result.andThen_ok, run_sizeOf' h0, Sem.run_ite, h24', if_false, newRow, run_newObj]
  by_cases h00 : es.length * szT P e = 0
  · simp only [zc, if_pos h00] at h1
    rw [h00] at h1
    simp only [h00, if_pos, Sem.run_pure, Result.andThen_ok, h1]
    rfl
  · simp only [zc, if_neg h00] at h1
    simp only [h00, if_neg, not_false_eq_true, Sem.run_bind, hzr, Result.andThen_ok, Sem.run_pure, h1]
    rfl

theorem fillA_ok {place : Nat → Option (Nat × Nat)} : ∀ {ps : List (Nat × AV)} {vs : List (Nat × Value)} {cs cs' : List AV} {cells : Array Value}, fillA place cs ps = some cs' → RelI M B ps vs → RelVC M B cs cells.toList →
    ∃ cells', Instr.fill place cells vs = some cells' ∧ RelVC M B cs' cells'.toList
  | [], vs, cs, cs', cells, h, hi, hr => by
    simp only [fillA] at h; injection h with h; subst h
    simp only [RelI] at hi; subst hi
    exact ⟨cells, rfl, hr⟩
  | (i, c) :: ps, vs, cs, cs', cells, h, hi, hr => by
    simp only [fillA] at h
    split at h
    · rename_i off size hp
      split at h
      · rename_i hc
        obtain ⟨hs, hl, hf⟩ := hc
        simp only [RelI] at hi
        obtain ⟨v, r, rfl, hv, hi⟩ := hi
        have hcl := cells_ok hs hv
        have hln := hcl.length
        have hrl := hr.length
        simp only [Array.length_toList] at hln hrl
        rw [fill_cons hp (by omega) (by omega)]
        exact fillA_ok h hi (by simpa using overV_rel hr hcl)
      · cases h
    · cases h

theorem run_places {l : List Field} (h : l.all (fun f => decide (0 < P.cellsOf f.type)) = true) (w : World) :
    (l.mapM fun f => do pure (f.offset, ← sizeOf f.type) : Sem (List (Nat × Nat))).run P w = .ok (l.map fun f => (f.offset, P.cellsOf f.type)) w := by
  induction l with
  | nil => simp
  | cons f l ih =>
    simp only [List.all_cons, Bool.and_eq_true, decide_eq_true_eq] at h
    have := run_sizeOf' (P := P) (T := f.type) h.1 w
    simp only [List.mapM_cons, Sem.run_bind, this, Result.andThen_ok, Sem.run_pure, ih h.2, List.map_cons, szT]

/-- A struct is put together. -/
theorem build_ok {T : TypeId} {ps : List (Nat × AV)} {vs : Array (Nat × Value)} {v : AV} (hb : buildA P T ps = some v) (hr : RelI M B ps vs.toList) (w : World) :
    ∃ val, (Instr.build T vs).run P w = .ok val w ∧ RelV M B v val := by
  unfold buildA at hb
  split at hb
  · rename_i pl z hpl hz
    split at hb
    · rename_i hs
      split at hb
      · rename_i cs hf
        injection hb with hb; subst hb
        obtain ⟨zv, hzr, hzs, hzrel⟩ := zeroT_ok hz
        unfold placesT at hpl
        split at hpl
        · rename_i fs hu
          split at hpl
          · rename_i hall
            injection hpl with hpl; subst hpl
            obtain ⟨cells', h1, h2⟩ := fillA_ok (M := M) (B := B) (cells := zv.cells) hf hr (cells_ok hs (hzrel M B))
            refine ⟨.agg cells', ?_, by simpa using mkAgg_ok h2⟩
            have hp := run_places hall w
            simp only [Instr.build, Sem.run_bind, hzr, Result.andThen_ok, Sem.run_pure, run_underlying hu, Array.mapM_eq_mapM_toList, Sem.run_map, hp, List.getElem?_toArray, h1]
          · cases hpl
        · cases hpl
      · cases hb
    · cases hb
  · cases hb

end Go.Ab
