/-
  What the abstract operations do the model's operations do: new rows.
-/
import Derived.Test.YtlgjecmpmifjpaaAbJ
set_option linter.unusedVariables false
set_option linter.unusedSimpArgs false
namespace Go.Ab
open Go.RowKit

variable {P : Program} {M : Mem} {B : List Gh} {D : List Nat} {σ : Store} {base nt : Nat} {w0 w : World}

theorem StOK.drew (h : StOK P M B D σ base w0 w) : StOK P M B D σ base w0 w.drew :=
  ⟨h.len, h.obj, h.dist, h.lo, h.mem, h.marks, h.dup, h.below.drew, h.size⟩

/-- A new row of the call's own. -/
theorem new_arr (h : StOK P M B D σ base w0 w) {T : TypeId} {es : List PV} {news : List Value} {cur : Array Value} {cap : Nat} (hne : es ≠ []) (hsz : 0 < szT P T) (hl : news.length = es.length * szT P T)
    (hr : RelF M (szT P T) es news) (hc : cur.size = cap * szT P T) (ht : cur.toList.take (es.length * szT P T) = news) (hle : es.length ≤ cap) (hm : cap ≤ maxLen) :
    Done P M B D (σ ++ [.arr T es 0]) base w0 (.own σ.length es.length) (.slice (some ⟨w.heap.size, 0, none⟩) es.length cap) (w.alloc (.cells cur T)) := by
  let g : Gh := ⟨w.heap.size, es.length, some ⟨w.heap.size, 0, none⟩, cap, szT P T, true⟩
  obtain ⟨h1, h2⟩ := h.push (.cells cur T) g (.arr T es 0) rfl rfl ⟨rfl, Nat.zero_le _, .inr ⟨rfl, rfl, hne, rfl, hsz, ⟨news, ⟨hl, .inr ⟨w.heap.size, cap, cur, rfl, h.size, heap_new w _, hle, hm, hc, ht⟩⟩, hr⟩, fun o _ => h.mem_new o⟩⟩
  refine ⟨M, _, h1, h2, ?_⟩
  simp only [RelV]
  exact ⟨g, by rw [← h.len]; simp, Nat.le_refl _, _, _, rfl, fun _ => ⟨rfl, rfl⟩⟩

/-- Cells of one more block. -/
def memAdd (M : Mem) (b n : Nat) (vs : List Value) : Mem := fun b' o => if b' = b then (if o < n then vs[o]? else none) else M b' o

theorem relE_of_flat {b sz : Nat} (hsz : 0 < sz) {es : List PV} {news : List Value} {off : Nat} (hm : ∀ j, j < es.length * sz → M b (off + j) = news[j]?) (hl : es.length * sz ≤ news.length) (hr : RelF M sz es news) : RelE M b sz es off :=
  RelE.mk es off fun i e he => by
    have hi := (List.getElem?_eq_some_iff.1 he).1
    have hle : i * sz + sz ≤ es.length * sz := by
      calc i * sz + sz = (i + 1) * sz := by rw [Nat.add_mul]; omega
        _ ≤ es.length * sz := Nat.mul_le_mul_right _ hi
    refine ⟨(news.drop (i * sz)).take sz, by simp; omega, fun j hj => ?_, (hr i e he).1⟩
    rw [List.getElem?_take_of_lt hj, List.getElem?_drop, Nat.add_assoc]
    exact hm _ (by omega)

/-- A new row that nobody writes any more. -/
theorem new_list (h : StOK P M B D σ base w0 w) {T : TypeId} {es : List PV} {news : List Value} {cur : Array Value} {cap : Nat} (hsz : 0 < szT P T) (hl : news.length = es.length * szT P T)
    (hr : RelF M (szT P T) es news) (ht : cur.toList.take (es.length * szT P T) = news) (hle : es.length ≤ cap) :
    Done P M B D σ base w0 (.p (.list es)) (.slice (some ⟨w.heap.size, 0, none⟩) es.length cap) (w.alloc (.cells cur T)) := by
  have hM' : ∀ b o, b ≠ w.heap.size → memAdd M w.heap.size news.length news b o = M b o := fun b o hb => by simp [memAdd, hb]
  obtain ⟨h1, h2⟩ := h.frozen (.cells cur T) (memAdd M w.heap.size news.length news) hM' (fun o v hv => by
    simp only [memAdd, if_true] at hv
    split at hv
    · rename_i ho
      simp only [World.cell?, heap_new w, Option.isSome_none, Bool.false_eq_true, if_false]
      rw [← ht, List.getElem?_take_of_lt (by omega)] at hv
      simpa using hv
    · cases hv)
  refine ⟨_, B, h1, h2, ?_⟩
  simp only [RelV, RelP]
  refine ⟨_, _, _, rfl, rfl, hle, .inr ⟨w.heap.size, 0, szT P T, rfl, relE_of_flat hsz (news := news) (fun j hj => ?_) (by omega) (fun i e he => ⟨RelC.mono h1.mem _ _ (hr i e he).1, (hr i e he).2⟩)⟩⟩
  simp [memAdd, hl, hj]

/-- append onto nil. -/
theorem append_nil_run (h : StOK P M B D σ base w0 w) {t T ty : TypeId} {xs : List PV} {y : Value} (ht : P.underlying t = some (.slice T)) (hy : RelP M (.list xs) y) (hne : xs ≠ []) (hh : headB (szT P T) xs = true) (hroom : roomB P T xs.length = true) :
    ∃ cap cur news, (Builtin.append_ #[t, t] ty #[.slice none 0 0, y]).run P w = .ok (.slice (some ⟨w.heap.size, 0, none⟩) xs.length cap) (w.drew.alloc (.cells cur T)) ∧ 0 < szT P T ∧
      news.length = xs.length * szT P T ∧ RelF M (szT P T) xs news ∧ cur.size = cap * szT P T ∧ cur.toList.take (xs.length * szT P T) = news ∧ xs.length ≤ cap ∧ cap ≤ maxLen := by
  obtain ⟨i, z, hi, hz, hzs, hsz, hby, hisz⟩ := roomB_ok hroom
  obtain ⟨a, c, news, rfl, hnl, hnews, hrelF, hone⟩ := list_src h hy hne hh
  have hxl : 0 < xs.length := List.length_pos_iff.2 hne
  have hb1 : xs.length * i.bytes ≤ 140737488355328 := by
    have : xs.length * i.bytes ≤ xs.length * (i.bytes + 1) := Nat.mul_le_mul_left _ (by omega)
    omega
  have hb2 : xs.length ≤ maxLen := by
    have : xs.length * 1 ≤ xs.length * (i.bytes + 1) := Nat.mul_le_mul_left _ (by omega)
    simp only [maxLen]; omega
  rw [← hisz] at hnl hrelF ⊢
  have hr := run_append_nil (P := P) w t ty T i z ht hi hz a xs.length c news hnl hnews hxl (by simp only [maxLen] at hb2; omega) (by omega)
  have hge := grownCap_ge w xs.length 0 T
  refine ⟨_, _, news, hr, hsz, hnl, hrelF, ?_, ?_, hge, grownCap_le_maxLen w xs.length 0 T hb2⟩
  · simp only [Array.size_append, List.size_toArray, size_zeroCells, hzs, hnl, ← Nat.add_mul]
    congr 1
    omega
  · simp only [Array.toList_append]
    rw [← hnl]
    exact List.take_left

end Go.Ab
