/-
  What the abstract operations do the model's operations do: append.
-/
import Derived.Test.YtlgjecmpmifjpaaAbH
set_option linter.unusedVariables false
set_option linter.unusedSimpArgs false
namespace Go.Ab
open Go.RowKit

variable {P : Program} {M : Mem} {B : List Gh} {D : List Nat} {σ : Store} {base nt : Nat} {w0 w : World}

theorem relF_nil {sz : Nat} : RelF M sz [] [] := fun i e h => by simp at h

/-- The cells of a slice that is read, as one list. -/
theorem relE_flat {b sz : Nat} : ∀ {es : List PV} {off : Nat}, RelE M b sz es off → ∃ news : List Value, news.length = es.length * sz ∧ (∀ j, j < news.length → M b (off + j) = news[j]?) ∧ RelF M sz es news ∧ ∀ u ∈ news, u.oneCell' = true
  | [], off, _ => ⟨[], by simp, by simp, relF_nil, by simp⟩
  | e :: es, off, h => by
    obtain ⟨⟨vs, h1, h2, h3⟩, h4⟩ := relE_cons.1 h
    obtain ⟨news, g1, g2, g3, g4⟩ := relE_flat h4
    refine ⟨vs ++ news, by simp [g1, h1, Nat.add_mul]; omega, fun j hj => ?_, fun i x hx => ?_, fun u hu => ?_⟩
    · by_cases hlt : j < sz
      · rw [List.getElem?_append_left (by omega)]; exact h2 j hlt
      · rw [List.getElem?_append_right (by omega)]
        have := g2 (j - sz) (by simp at hj; omega)
        rw [h1, ← this]; congr 1; omega
    · cases i with
      | zero =>
        obtain rfl : e = x := by simpa using hx
        have : ((vs ++ news).drop (0 * sz)).take sz = vs := by simp [← h1]
        rw [this]
        exact ⟨h3, by have := h3.length; omega⟩
      | succ i =>
        have := g3 i x (by simpa using hx)
        have e2 : (vs ++ news).drop ((i + 1) * sz) = news.drop (i * sz) := by
          rw [Nat.add_mul, Nat.one_mul, Nat.add_comm, ← List.drop_drop]
          congr 1
          simp [← h1]
        rw [e2]
        exact this
    · rcases List.mem_append.1 hu with hu | hu
      · exact relC_one h3 u hu
      · exact g4 u hu

theorem relF_app {sz : Nat} {es fs : List PV} {xs ys : List Value} (hl : xs.length = es.length * sz) (h : RelF M sz es xs) (h' : RelF M sz fs ys) : RelF M sz (es ++ fs) (xs ++ ys) := fun i e he => by
  by_cases hi : i < es.length
  · rw [List.getElem?_append_left hi] at he
    have := h i e he
    have hle : i * sz + sz ≤ xs.length := by
      rw [hl]
      calc i * sz + sz = (i + 1) * sz := by rw [Nat.add_mul]; omega
        _ ≤ es.length * sz := Nat.mul_le_mul_right _ hi
    have e2 : ((xs ++ ys).drop (i * sz)).take sz = (xs.drop (i * sz)).take sz := by
      rw [List.drop_append_of_le_length (by omega), List.take_append_of_le_length (by simp; omega)]
    rw [e2]
    exact this
  · rw [List.getElem?_append_right (by omega)] at he
    have := h' _ e he
    have e2 : (xs ++ ys).drop (i * sz) = ys.drop ((i - es.length) * sz) := by
      rw [List.drop_append, hl]
      have : es.length * sz ≤ i * sz := Nat.mul_le_mul_right _ (by omega)
      rw [List.drop_eq_nil_of_le (by omega), List.nil_append, Nat.sub_mul]
    rw [e2]
    exact this

theorem roomB_ok {T : TypeId} {n : Nat} (h : roomB P T n = true) : ∃ i z, P.info? T = some i ∧ i.zero = some z ∧ z.cells.size = i.size ∧ 0 < i.size ∧ n * (i.bytes + 1) ≤ 2 ^ 40 ∧ i.size = szT P T := by
  unfold roomB at h
  split at h
  · rename_i i hi
    simp only [Bool.and_eq_true, decide_eq_true_eq] at h
    obtain ⟨⟨h1, h2⟩, h3⟩ := h
    split at h1
    · rename_i z hz
      exact ⟨i, z, hi, hz, by simpa using h1, h2, h3, by simp [szT, Program.cellsOf, hi]⟩
    · cases h1
  · cases h

/-- append on a row of one's own: in place, or into a new block. -/
theorem append_row (t ty e : TypeId) (i : TypeInfo) (z : Value) (ht : P.underlying t = some (.slice e)) (hi : P.info? e = some i) (hz : i.zero = some z) (hzs : z.cells.size = i.size) (hsz : 0 < i.size)
    (g n cap : Nat) (xs : List Value) (hown : w.ownsRow base e i.size (.slice (some ⟨g, 0, none⟩) n cap) n xs) (a : Addr) (m c : Nat) (news : List Value) (hl : news.length = m * i.size)
    (hnews : ∀ j u, news[j]? = some u → w.cell? (a.add j) = some u) (h1 : ∀ u ∈ news, u.oneCell' = true) (h63 : n + m ≤ maxLen) (hbytes : (n + m) * i.bytes ≤ 140737488355328) (hbase : base ≤ w.heap.size) :
    ∃ g' cap' w', (Builtin.append_ #[t, t] ty #[.slice (some ⟨g, 0, none⟩) n cap, .slice (some a) m c]).run P w = .ok (.slice (some ⟨g', 0, none⟩) (n + m) cap') w' ∧
      w'.ownsRow base e i.size (.slice (some ⟨g', 0, none⟩) (n + m) cap') (n + m) (xs ++ news) ∧ w.grownBy w' (some g) ∧ (g' = g ∨ (g' = w.heap.size ∧ ∀ k, k < w.heap.size → w'.heap[k]? = w.heap[k]?)) := by
  have hsmall : n + m ≤ 9223372036854775807 := by simp only [maxLen] at h63; omega
  have hlen : (xs ++ news).length = (n + m) * i.size := by rw [List.length_append, hown.1, hl, Nat.add_mul]
  rcases hown.2 with ⟨hv, _⟩ | ⟨g0, cap0, cur, hv, hbg, hg, hnc, hcm, hcs, htake⟩
  · simp at hv
  injection hv with hv _ hcap
  injection hv with hv
  injection hv with hv _ _
  subst hv; subst hcap
  by_cases hroom : n + m ≤ cap
  · have hfit : n * i.size + news.length ≤ cur.size := by rw [hl, hcs, ← Nat.add_mul]; exact Nat.mul_le_mul_right _ hroom
    have hr := run_append_room (P := P) w t ty e i ht hi g n cap cur hg a m c news hl hnews h1 hroom hfit
    refine ⟨g, cap, _, hr, ⟨hlen, .inr ⟨g, cap, _, rfl, hbg, setRow_heap w g cur _ e _ hg, hroom, hcm, ?_, ?_⟩⟩, ⟨rfl, rfl, rfl, by simp, fun k _ hk => setRow_other w g k _ (fun e => hk (by simp [e]))⟩, .inl rfl⟩
    · simp only [List.size_toArray, List.length_append, List.length_take, List.length_drop, Array.length_toList]
      omega
    · rw [htake, ← hlen]
      exact List.take_left
  · have holds : ∀ j u, xs[j]? = some u → w.cell? ((⟨g, 0, none⟩ : Addr).add j) = some u := hown.cells (g := g) rfl
    have hr := run_append_grow (P := P) w t ty e i z ht hi hz ⟨g, 0, none⟩ n cap xs hown.1 holds a m c news hl hnews (by omega) (by omega) (growslice_fits (by omega) hbytes)
    have hge := grownCap_ge w (n + m) cap e
    have hcm' : grownCap w (n + m) cap e ≤ maxLen := grownCap_le_maxLen w (n + m) cap e h63
    refine ⟨w.heap.size, _, _, hr, ⟨hlen, .inr ⟨w.heap.size, _, _, rfl, hbase, Go.heap_alloc_new w.drew _, hge, hcm', ?_, ?_⟩⟩, ⟨rfl, rfl, rfl, by simp, fun k hk _ => Go.heap_alloc_old w.drew _ k hk⟩, .inr ⟨rfl, fun k hk => Go.heap_alloc_old w.drew _ k hk⟩⟩
    · simp only [Array.size_append, List.size_toArray, size_zeroCells, hzs, hown.1, hl, ← Nat.add_mul]
      congr 1
      omega
    · simp only [Array.toList_append, List.append_assoc]
      rw [← List.append_assoc, ← hlen]
      exact List.take_left

end Go.Ab
