/-
  What the abstract operations do the model's operations do: moves, variables, loads and stores.
-/
import Derived.Test.YtlgjecmpmifjpaaAbE
set_option linter.unusedVariables false
set_option linter.unusedSimpArgs false
namespace Go.Ab
open Go.RowKit

variable {P : Program} {M : Mem} {B : List Gh} {D : List Nat} {σ : Store} {base nt : Nat} {w0 w : World}

/-- One operation is carried out. -/
def ExecOK (P : Program) (ρ : Operand → Value) (o : Oper) (w : World) (post : Value → World → Prop) : Prop :=
  ∃ nx val w', (execOp ρ o).run P w = .ok nx w' ∧ (nx = .value val ∨ (nx = .skip ∧ val = undef)) ∧ post val w'

theorem ExecOK.value {ρ : Operand → Value} {o : Oper} {post : Value → World → Prop} {val : Value} {w' : World} (h : (execOp ρ o).run P w = .ok (.value val) w') (hp : post val w') : ExecOK P ρ o w post :=
  ⟨_, val, w', h, .inl rfl, hp⟩
theorem ExecOK.skip {ρ : Operand → Value} {o : Oper} {post : Value → World → Prop} {w' : World} (h : (execOp ρ o).run P w = .ok .skip w') (hp : post undef w') : ExecOK P ρ o w post :=
  ⟨_, undef, w', h, .inr ⟨rfl, rfl⟩, hp⟩

theorem undef_rel : RelV M B (.tup []) undef := by simp only [RelV, RelVT]; exact ⟨#[], rfl, rfl⟩

theorem own_nil_rel {id : Nat} (h : B[id]? = some gNil) : RelV M B (.own id 0) (.slice none 0 0) := by
  simp only [RelV]
  exact ⟨gNil, h, Nat.le_refl _, none, 0, rfl, fun _ => ⟨rfl, rfl⟩⟩

/-- A row of the call's own that is empty yet, in place of nil. -/
theorem nil_own (h : StOK P M B D σ base w0 w) : Done P M B D (σ ++ [.arr 0 [] 0]) base w0 (.own σ.length 0) (.slice none 0 0) w := by
  obtain ⟨h1, h2⟩ := h.pushNil 0
  exact ⟨M, _, h1, h2, own_nil_rel (by rw [← h.len]; simp)⟩

/-- A new variable. -/
theorem new_box (h : StOK P M B D σ base w0 w) {cs : List AV} {vs : Array Value} (T : TypeId) (hr : RelVC M B cs vs.toList) :
    Done P M B D (σ ++ [.box cs]) base w0 (.ptr σ.length 0) (.pointer (some ⟨w.heap.size, 0, none⟩)) (w.alloc (.cells vs T)) := by
  let g : Gh := ⟨w.heap.size, 0, none, 0, 0, true⟩
  obtain ⟨h1, h2⟩ := h.push (.cells vs T) g (.box cs) rfl rfl ⟨rfl, rfl, ⟨vs, T, heap_new w _, RelVC.mono (MLe.refl M) (BLe.append B [g]) _ _ hr⟩, fun o => h.mem_new o⟩
  refine ⟨M, _, h1, h2, ?_⟩
  simp only [RelV]
  exact ⟨g, by rw [← h.len]; simp, ⟨rfl, rfl⟩, rfl⟩

theorem BLe.replicate (B : List Gh) (k : Nat) : BLe B (B ++ List.replicate k gNil) := BLe.append B _

theorem pushNils (h : StOK P M B D σ base w0 w) : ∀ (k : Nat), Ext base M M B (B ++ List.replicate k gNil) ∧ StOK P M (B ++ List.replicate k gNil) D (σ ++ List.replicate k (.arr 0 [] 0)) base w0 w
  | 0 => by simpa using ⟨Ext.refl base M B, h⟩
  | k + 1 => by
    obtain ⟨h1, h2⟩ := pushNils h k
    obtain ⟨h3, h4⟩ := h2.pushNil 0
    rw [List.replicate_succ', List.replicate_succ', ← List.append_assoc, ← List.append_assoc]
    exact ⟨h1.trans h3, h4⟩

theorem newBox_objs : ∀ (cs : List AV) (b : Nat), (newBox b cs).2 = List.replicate (newBox b cs).2.length (.arr 0 [] 0)
  | [], b => by simp [newBox]
  | c :: cs, b => by
    cases c <;> simp only [newBox] <;> first
      | exact newBox_objs cs b
      | (have := newBox_objs cs (b + 1); simp only [List.length_cons, List.replicate_succ]; rw [← this])

theorem newBox_rel {B' : List Gh} (hB : BLe B B') : ∀ (cs : List AV) (b : Nat) (vs : List Value), RelVC M B cs vs → (∀ i, i < (newBox b cs).2.length → B'[b + i]? = some gNil) → RelVC M B' (newBox b cs).1 vs
  | [], b, vs, h, _ => by simpa only [newBox, RelVC] using h
  | c :: cs, b, vs, h, hn => by
    simp only [RelVC] at h
    obtain ⟨v, r, rfl, h1, h2, h3, h4⟩ := h
    cases c with
    | e0 =>
      simp only [newBox, RelVC] at hn ⊢
      simp only [RelV] at h3
      subst h3
      refine ⟨_, r, rfl, rfl, rfl, own_nil_rel (by simpa using hn 0 (by simp)), newBox_rel hB cs (b + 1) r h4 fun i hi => ?_⟩
      have := hn (i + 1) (by simp; omega)
      rwa [show b + (i + 1) = b + 1 + i by omega] at this
    | _ =>
      simp only [newBox, RelVC] at hn ⊢
      exact ⟨v, r, rfl, h1, h2, RelV.mono (MLe.refl M) hB _ _ h3, newBox_rel hB cs b r h4 hn⟩

theorem zeroT_ok {T : TypeId} {z : AV} (h : zeroT P T = some z) : ∃ zv, (∀ w, (zeroValue T).run P w = .ok zv w) ∧ zv.cells.size = szT P T ∧ ∀ M B, RelV M B z zv := by
  unfold zeroT at h
  cases hi : P.info? T with
  | none => simp [hi] at h
  | some i =>
    simp only [hi, Option.bind_some] at h
    cases hz : i.zero with
    | none => simp [hz] at h
    | some zv =>
      simp only [hz, Option.bind_some] at h
      split at h
      · rename_i hs
        exact ⟨zv, fun w => by simp [zeroValue, typeInfo, hi, hz], by simp [szT, Program.cellsOf, hi, hs], fun M B => ofConst_ok h⟩
      · cases h

theorem alloc_ok (h : StOK P M B D σ base w0 w) {T : TypeId} {z : AV} (hz : zeroT P T = some z) (hs : z.solid = true) :
    ∃ w', (Instr.alloc T true (.tuple #[])).run P w = .ok (.pointer (some ⟨w.heap.size, 0, none⟩)) w' ∧
      Done P M B D (σ ++ [.box z.cells]) base w0 (.ptr σ.length 0) (.pointer (some ⟨w.heap.size, 0, none⟩)) w' ∧
      Done P M B D (σ ++ (newBox σ.length z.cells).2 ++ [.box (newBox σ.length z.cells).1]) base w0 (.ptr (σ.length + (newBox σ.length z.cells).2.length) 0) (.pointer (some ⟨w.heap.size, 0, none⟩)) w' := by
  obtain ⟨zv, hrun, _, hrel⟩ := zeroT_ok hz
  refine ⟨w.alloc (.cells zv.cells T), ?_, ?_, ?_⟩
  · simp [Instr.alloc, hrun, newVar, newRow]
  · exact new_box h T (cells_ok hs (hrel M B))
  · obtain ⟨h1, h2⟩ := pushNils h (newBox σ.length z.cells).2.length
    obtain ⟨M', B', e, s, r⟩ := new_box (σ := σ ++ List.replicate (newBox σ.length z.cells).2.length (.arr 0 [] 0)) h2 (cs := (newBox σ.length z.cells).1) (vs := zv.cells) T
      (newBox_rel h1.gh _ _ _ (cells_ok hs (hrel M B)) fun i hi => by
        rw [← h.len] at hi ⊢
        rw [List.getElem?_append_right (by omega)]
        simp only [Nat.add_sub_cancel_left, List.getElem?_replicate]
        rw [if_pos hi])
    simp only [List.length_append, List.length_replicate] at r
    refine ⟨M', B', h1.trans e, ?_, r⟩
    rw [newBox_objs]
    exact s

theorem box_ok (h : StOK P M B D σ base w0 w) {T : TypeId} {v : AV} {x : Value} (hs : v.solid = true) (hv : RelV M B v x) :
    ∃ val w', (Instr.box T x).run P w = .ok val w' ∧ Done P M B D (σ ++ [.box v.cells]) base w0 (.ptr σ.length 0) val w' :=
  ⟨_, w.alloc (.cells x.cells T), by simp [Instr.box, newVar, newRow], new_box h T (cells_ok hs hv)⟩

/-- Loads. -/
theorem load_box (h : StOK P M B D σ base w0 w) {id off : Nat} {T : TypeId} {cs : List AV} {v : AV} {x : Value} (ho : σ[id]? = some (.box cs)) (hv : RelV M B (.ptr id off) x) (hl : loadA P T (cs.drop off) = some v) :
    ∃ val, (Instr.loadAt T x).run P w = .ok val w ∧ RelV M B v val := by
  simp only [RelV] at hv
  obtain ⟨g, hg, _, rfl⟩ := hv
  obtain ⟨_, _, ⟨vs, T', hh, hr⟩, _⟩ := h.obj id _ g ho hg
  obtain ⟨val, hrun, hrel⟩ := loadA_ok h hl (b := g.blk) (off := off) (box_cells hh off) (dropV_rel off hr)
  exact ⟨val, by simpa [Instr.loadAt, Instr.sureAddr] using hrun, hrel⟩

theorem load_ro (h : StOK P M B D σ base w0 w) {T : TypeId} {cs : List PV} {v : AV} {x : Value} (hv : RelV M B (.ro cs) x) (hl : loadP P T cs = some v) :
    ∃ val, (Instr.loadAt T x).run P w = .ok val w ∧ RelV M B v val := by
  simp only [RelV] at hv
  obtain ⟨b, off, vs, rfl, hm, hr⟩ := hv
  obtain ⟨val, hrun, hrel⟩ := loadP_ok h hl (b := b) (off := off) (vs := vs) (fun j hj => by
    have := hm j hj
    rw [List.getElem?_eq_getElem hj] at this ⊢
    exact h.mem _ _ _ this) hr
  exact ⟨val, by simpa [Instr.loadAt, Instr.sureAddr] using hrun, hrel⟩

/-- A row of the call's own: its cells. -/
theorem own_cells (h : StOK P M B D σ base w0 w) {id fz : Nat} {T : TypeId} {es : List PV} {g : Gh} (ho : σ[id]? = some (.arr T es fz)) (hg : B[id]? = some g) {i : Nat} {e : PV} (he : es[i]? = some e) :
    g.real = true ∧ g.A = some ⟨g.blk, 0, none⟩ ∧ g.sz = szT P T ∧ 0 < g.sz ∧ e.cells.length = g.sz ∧ ∃ vs : List Value, vs.length = g.sz ∧ RelC M e.cells vs ∧ ∀ j, j < g.sz → w.cell? ⟨g.blk, i * g.sz + j, none⟩ = vs[j]? := by
  obtain ⟨hl, hf, hd⟩ := h.obj id _ g ho hg
  rcases hd with ⟨rfl, _⟩ | ⟨hr, hA, hne, hsz, hpos, ⟨xs, hown, hrel⟩, hn⟩
  · simp at he
  · obtain ⟨h1, h2⟩ := hrel i e he
    refine ⟨hr, hA, hsz, hpos, h2, _, by have := h1.length; omega, h1, fun j hj => ?_⟩
    rcases hown.2 with ⟨hv, _⟩ | ⟨b, cap, cur, hv, hb, hh, hnc, hcm, hcs, htake⟩
    · rw [hA] at hv; simp at hv
    · rw [hA] at hv
      injection hv with hv _ _
      injection hv with hv
      injection hv with hv _ _
      subst hv
      simp only [World.cell?, hh, Option.isSome_none, Bool.false_eq_true, if_false]
      rw [← htake]
      have hi := (List.getElem?_eq_some_iff.1 he).1
      have : i * g.sz + j < g.len * g.sz := by
        rw [hl]
        calc i * g.sz + j < i * g.sz + g.sz := by omega
          _ = (i + 1) * g.sz := by rw [Nat.add_mul]; omega
          _ ≤ es.length * g.sz := Nat.mul_le_mul_right _ hi
      rw [List.getElem?_take_of_lt (by omega), List.getElem?_drop, List.getElem?_take_of_lt this]
      simp

theorem load_own (h : StOK P M B D σ base w0 w) {id n i off fz : Nat} {T T' : TypeId} {es : List PV} {e : PV} {v : AV} {x : Value} (ho : σ[id]? = some (.arr T' es fz)) (hn : n = es.length) (he : es[i]? = some e)
    (hv : RelV M B (.optr id n i off) x) (hl : loadP P T (e.cells.drop off) = some v) : ∃ val, (Instr.loadAt T x).run P w = .ok val w ∧ RelV M B v val := by
  simp only [RelV] at hv
  obtain ⟨g, hg, hle, A0, rfl, hx⟩ := hv
  obtain ⟨hr, hA, hsz, hpos, hel, vs, hvl, hrel, hc⟩ := own_cells h ho hg he
  have hlen := (h.obj id _ g ho hg).1
  have := hx (by omega)
  subst this
  obtain ⟨val, hrun, hrel⟩ := loadP_ok h hl (b := g.blk) (off := i * g.sz + off) (vs := vs.drop off) (fun j hj => by
    simp only [List.length_drop] at hj
    rw [List.getElem?_drop, ← hc (off + j) (by omega)]
    congr 2
    omega) (drop_rel off hrel)
  exact ⟨val, by simpa [Instr.loadAt, Instr.sureAddr] using hrun, hrel⟩

end Go.Ab
