/-
  How the store and its memory change together.
-/
import Derived.Test.YtlgjecmpmifjpaaAbC
set_option linter.unusedVariables false
set_option linter.unusedSimpArgs false
namespace Go.Ab
open Go.RowKit

variable {P : Program} {M : Mem} {B : List Gh} {D : List Nat} {σ : Store} {base nt : Nat} {w0 w : World}

theorem getElem?_snoc {α : Type} {l : List α} {x y : α} {i : Nat} (h : (l ++ [x])[i]? = some y) : l[i]? = some y ∨ (i = l.length ∧ x = y) := by
  rcases Nat.lt_trichotomy i l.length with hlt | heq | hgt
  · left; rwa [List.getElem?_append_left hlt] at h
  · right; subst heq; simpa using h
  · rw [List.getElem?_eq_none (by simp; omega)] at h; cases h

theorem ObjOK.step {M' : Mem} {B' : List Gh} {w' : World} {g : Gh} {o : AObj} (h : ObjOK P M B w base g o) (hM : MLe M M') (hB : BLe B B')
    (hw : g.real = true → w'.heap[g.blk]? = w.heap[g.blk]?) (hG : g.real = true → ∀ k, M' g.blk k = M g.blk k) : ObjOK P M' B' w' base g o := by
  cases o with
  | box cs =>
    obtain ⟨hr, hl, ⟨vs, T, hh, hc⟩, hn⟩ := h
    exact ⟨hr, hl, ⟨vs, T, by rw [hw hr]; exact hh, RelVC.mono hM hB _ _ hc⟩, fun k => by rw [hG hr]; exact hn k⟩
  | arr T es fz =>
    obtain ⟨hl, hf, h⟩ := h
    refine ⟨hl, hf, h.imp id ?_⟩
    rintro ⟨hr, hA, hne, hsz, hpos, ⟨xs, hown, hrel⟩, hn⟩
    refine ⟨hr, hA, hne, hsz, hpos, ⟨xs, ?_, fun i e he => ⟨RelC.mono hM _ _ (hrel i e he).1, (hrel i e he).2⟩⟩, fun k hk => by rw [hG hr]; exact hn k hk⟩
    refine ⟨hown.1, hown.2.imp id ?_⟩
    rintro ⟨b, cap, cur, hv, hb, hh, rest⟩
    refine ⟨b, cap, cur, hv, hb, ?_, rest⟩
    rw [hA] at hv
    injection hv with hv _ _
    injection hv with hv
    injection hv with hv _ _
    subst hv
    rw [hw hr]; exact hh
  | map kvs =>
    obtain ⟨hr, hl, es, clock, hh, hs, hk⟩ := h
    exact ⟨hr, hl, es, clock, by rw [hw hr]; exact hh, hs, fun i e k v h1 h2 => ⟨RelP.mono hM _ _ (hk i e k v h1 h2).1, RelP.mono hM _ _ (hk i e k v h1 h2).2.1, (hk i e k v h1 h2).2.2⟩⟩
  | loop st pend tm ps assign body f =>
    obtain ⟨hr, hl, L, hh, h1, h2, h4, h5, h6, h7, h8⟩ := h
    exact ⟨hr, hl, L, by rw [hw hr]; exact hh, h1, h2, h4, h5, h6, fun t => RelV.mono hM hB _ _ (h7 t), h8⟩

/-- A block that the store doesn't know. -/
theorem StOK.mem_lt (h : StOK P M B D σ base w0 w) {b o : Nat} {v : Value} (hm : M b o = some v) : b < w.heap.size :=
  World.block_lt_of_cell? w _ (h.mem b o v hm)

theorem StOK.mem_new (h : StOK P M B D σ base w0 w) (o : Nat) : M w.heap.size o = none := by
  cases hm : M w.heap.size o with
  | none => rfl
  | some v => exact absurd (h.mem_lt hm) (by omega)

theorem heap_new (w : World) (O : Obj) : (w.alloc O).heap[w.heap.size]? = some O := by show (w.heap.push O)[w.heap.size]? = _; simp
theorem heap_old (w : World) (O : Obj) {k : Nat} (h : k < w.heap.size) : (w.alloc O).heap[k]? = w.heap[k]? := by
  show (w.heap.push O)[k]? = _
  rw [Array.getElem?_push, if_neg (by omega)]
theorem cell_old (w : World) (O : Obj) {k o : Nat} (h : k < w.heap.size) : (w.alloc O).cell? ⟨k, o, none⟩ = w.cell? ⟨k, o, none⟩ :=
  World.cell?_of_block (w := w) (heap_old w O h)

theorem heap_lt {w : World} {k : Nat} {O : Obj} (h : w.heap[k]? = some O) : k < w.heap.size := (Array.getElem?_eq_some_iff.1 h).1

/-- A new block that nobody writes any more. -/
theorem StOK.frozen (h : StOK P M B D σ base w0 w) (O : Obj) (M' : Mem) (hM' : ∀ b o, b ≠ w.heap.size → M' b o = M b o)
    (hmem : ∀ o v, M' w.heap.size o = some v → (w.alloc O).cell? ⟨w.heap.size, o, none⟩ = some v) :
    Ext base M M' B B ∧ StOK P M' B D σ base w0 (w.alloc O) := by
  have hM : MLe M M' := fun b o v hv => by rw [hM' b o (by have := h.mem_lt hv; omega)]; exact hv
  refine ⟨⟨hM, BLe.refl B, fun b o hb => hM' b o (by have := h.size; omega)⟩, h.len, ?_, h.dist, ?_, ?_, ?_, h.dup, h.below.alloc h.size O, by have := h.size; simp; omega⟩
  · intro id o g ho hg
    refine (h.obj id o g ho hg).step hM (BLe.refl B) (fun hr => heap_old w O (h.lo id g hg hr).2) (fun hr k => hM' _ _ (by have := (h.lo id g hg hr).2; omega))
  · intro i g hg hr
    have := h.lo i g hg hr
    exact ⟨this.1, by simp; omega⟩
  · intro b o v hv
    by_cases e : b = w.heap.size
    · subst e; exact hmem o v hv
    · rw [hM' b o e] at hv
      rw [cell_old w O (h.mem_lt hv)]
      exact h.mem b o v hv
  · intro r hr
    have := h.marks r hr
    exact ⟨by rw [heap_old w O (heap_lt this.1)]; exact this.1, this.2⟩

/-- A new object in a new block. -/
theorem StOK.push (h : StOK P M B D σ base w0 w) (O : Obj) (g : Gh) (o : AObj) (hgr : g.real = true) (hg : g.blk = w.heap.size)
    (hO : ObjOK P M (B ++ [g]) (w.alloc O) base g o) :
    Ext base M M B (B ++ [g]) ∧ StOK P M (B ++ [g]) D (σ ++ [o]) base w0 (w.alloc O) := by
  have hB : BLe B (B ++ [g]) := BLe.append B [g]
  have hsz := h.size
  refine ⟨⟨MLe.refl M, hB, fun _ _ _ => rfl⟩, by simp [h.len], ?_, ?_, ?_, ?_, ?_, h.dup, h.below.alloc h.size O, by simp; omega⟩
  · intro id o' g' ho hg'
    rcases getElem?_snoc ho with ho | ⟨hid, rfl⟩
    · have hid : id < B.length := by rw [h.len]; exact (List.getElem?_eq_some_iff.1 ho).1
      rw [List.getElem?_append_left hid] at hg'
      exact (h.obj id o' g' ho hg').step (MLe.refl M) hB (fun hr => heap_old w O (h.lo id g' hg' hr).2) (fun _ _ => rfl)
    · subst hid
      rw [← h.len] at hg'
      have : g = g' := by simpa using hg'
      subst this
      exact hO
  · intro i j gi gj hi hj ri rj e
    rcases getElem?_snoc hi with hi | ⟨hi, rfl⟩ <;> rcases getElem?_snoc hj with hj | ⟨hj, rfl⟩
    · exact h.dist i j gi gj hi hj ri rj e
    · have := (h.lo i gi hi ri).2; omega
    · have := (h.lo j gj hj rj).2; omega
    · omega
  · intro i g' hi hr
    rcases getElem?_snoc hi with hi | ⟨hi, rfl⟩
    · have := h.lo i g' hi hr
      exact ⟨this.1, by simp; omega⟩
    · exact ⟨by omega, by simp; omega⟩
  · intro b k v hv
    rw [cell_old w O (h.mem_lt hv)]
    exact h.mem b k v hv
  · intro r hr
    have := h.marks r hr
    exact ⟨by rw [heap_old w O (heap_lt this.1)]; exact this.1, this.2⟩

def gNil : Gh := ⟨0, 0, none, 0, 0, false⟩

/-- A row that is empty yet. -/
theorem StOK.pushNil (h : StOK P M B D σ base w0 w) (T : TypeId) :
    Ext base M M B (B ++ [gNil]) ∧ StOK P M (B ++ [gNil]) D (σ ++ [.arr T [] 0]) base w0 w := by
  have hB : BLe B (B ++ [gNil]) := BLe.append B [gNil]
  refine ⟨⟨MLe.refl M, hB, fun _ _ _ => rfl⟩, by simp [h.len], ?_, ?_, ?_, h.mem, h.marks, h.dup, h.below, h.size⟩
  · intro id o' g' ho hg'
    rcases getElem?_snoc ho with ho | ⟨hid, rfl⟩
    · have hid : id < B.length := by rw [h.len]; exact (List.getElem?_eq_some_iff.1 ho).1
      rw [List.getElem?_append_left hid] at hg'
      exact (h.obj id o' g' ho hg').step (MLe.refl M) hB (fun _ => rfl) (fun _ _ => rfl)
    · subst hid
      rw [← h.len] at hg'
      have : gNil = g' := by simpa using hg'
      subst this
      exact ⟨rfl, Nat.le_refl _, .inl ⟨rfl, rfl, rfl, rfl⟩⟩
  · intro i j gi gj hi hj ri rj e
    rcases getElem?_snoc hi with hi | ⟨hi, rfl⟩ <;> rcases getElem?_snoc hj with hj | ⟨hj, rfl⟩
    · exact h.dist i j gi gj hi hj ri rj e
    · simp [gNil] at rj
    · simp [gNil] at ri
    · omega
  · intro i g' hi hr
    rcases getElem?_snoc hi with hi | ⟨hi, rfl⟩
    · exact h.lo i g' hi hr
    · simp [gNil] at hr

/-- An object turns into another one: in its own block, or in a new one. -/
theorem StOK.upd (h : StOK P M B D σ base w0 w) {id : Nat} {o o' : AObj} {g g' : Gh} {w' : World} (ho : σ[id]? = some o) (hg : B[id]? = some g)
    (hle : GLe g g') (hreal : g.real = true → g'.real = true ∧ (g.len = 0 → g' = g))
    (hblk : g'.real = true → (g.real = true ∧ g'.blk = g.blk) ∨ (w.heap.size ≤ g'.blk)) (hlt : g'.real = true → g'.blk < w'.heap.size)
    (hw : w.grownBy w' (if g.real then some g.blk else none)) (hbase : g.real = true → base ≤ g.blk)
    (hmem : ∀ b k v, M b k = some v → (g.real = true → b = g.blk → w'.cell? ⟨b, k, none⟩ = some v))
    (hmk : g.real = true → ∀ r ∈ D, r ≠ g.blk)
    (hO : ObjOK P M (B.set id g') w' base g' o') :
    Ext base M M B (B.set id g') ∧ StOK P M (B.set id g') D (σ.set id o') base w0 w' := by
  have hidB : id < B.length := (List.getElem?_eq_some_iff.1 hg).1
  have hidS : id < σ.length := (List.getElem?_eq_some_iff.1 ho).1
  have hB : BLe B (B.set id g') := fun j gj hj => by
    by_cases e : id = j
    · subst e
      obtain rfl : gj = g := by rw [hg] at hj; injection hj with hj; exact hj.symm
      exact ⟨g', by rw [List.getElem?_set_self hidB], hle, hreal⟩
    · exact ⟨gj, by rw [List.getElem?_set_ne e]; exact hj, GLe.refl _, fun hr => ⟨hr, fun _ => rfl⟩⟩
  have hold : ∀ k, k < w.heap.size → (g.real = true → k ≠ g.blk) → w'.heap[k]? = w.heap[k]? := fun k hk hne => hw.block k hk (by
    cases hr : g.real with
    | true => simpa using hne hr
    | false => simp)
  refine ⟨⟨MLe.refl M, hB, fun _ _ _ => rfl⟩, by simp [h.len], ?_, ?_, ?_, ?_, ?_, h.dup, ?_, Nat.le_trans h.size hw.size⟩
  · intro j oj gj hoj hgj
    by_cases e : id = j
    · subst e
      rw [List.getElem?_set_self hidS] at hoj
      rw [List.getElem?_set_self hidB] at hgj
      injection hoj with hoj; injection hgj with hgj
      subst hoj; subst hgj
      exact hO
    · rw [List.getElem?_set_ne e] at hoj hgj
      exact (h.obj j oj gj hoj hgj).step (MLe.refl M) hB (fun hr => hold _ (h.lo j gj hgj hr).2 (fun hr' e' => e (h.dist id j g gj hg hgj hr' hr e'.symm))) (fun _ _ => rfl)
  · intro i j gi gj hi hj ri rj e
    by_cases ei : id = i <;> by_cases ej : id = j
    · omega
    · subst ei
      rw [List.getElem?_set_self hidB] at hi
      rw [List.getElem?_set_ne ej] at hj
      injection hi with hi; subst hi
      rcases hblk ri with ⟨hr, hb⟩ | hb
      · exact h.dist id j g gj hg hj hr rj (hb ▸ e)
      · have := (h.lo j gj hj rj).2; omega
    · subst ej
      rw [List.getElem?_set_self hidB] at hj
      rw [List.getElem?_set_ne ei] at hi
      injection hj with hj; subst hj
      rcases hblk rj with ⟨hr, hb⟩ | hb
      · exact h.dist i id gi g hi hg ri hr (hb ▸ e)
      · have := (h.lo i gi hi ri).2; omega
    · rw [List.getElem?_set_ne ei] at hi
      rw [List.getElem?_set_ne ej] at hj
      exact h.dist i j gi gj hi hj ri rj e
  · intro i gi hi hr
    by_cases ei : id = i
    · subst ei
      rw [List.getElem?_set_self hidB] at hi
      injection hi with hi; subst hi
      refine ⟨?_, hlt hr⟩
      rcases hblk hr with ⟨hr', hb⟩ | hb
      · rw [hb]; exact hbase hr'
      · have := h.size; omega
    · rw [List.getElem?_set_ne ei] at hi
      have := h.lo i gi hi hr
      exact ⟨this.1, Nat.lt_of_lt_of_le this.2 hw.size⟩
  · intro b k v hv
    by_cases e : g.real = true ∧ b = g.blk
    · exact hmem b k v hv e.1 e.2
    · rw [World.cell?_of_block (w := w) (a := ⟨b, k, none⟩) (hold b (h.mem_lt hv) (fun hr e' => e ⟨hr, e'⟩))]
      exact h.mem b k v hv
  · intro r hr
    have := h.marks r hr
    exact ⟨by rw [hold r (heap_lt this.1) (fun hr' => hmk hr' r hr)]; exact this.1, this.2⟩
  · exact h.below.grown hw h.size (fun k hk => by
      cases hr : g.real with
      | true => simp [hr] at hk; subst hk; exact hbase hr
      | false => simp [hr] at hk)

end Go.Ab
