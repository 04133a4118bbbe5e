/-
  What the abstract operations do the model's operations do: maps, lengths, the rest.
-/
import Derived.Test.YtlgjecmpmifjpaaAbL
import Derived.Carry
set_option linter.unusedVariables false
set_option linter.unusedSimpArgs false
namespace Go.Ab
open Go.RowKit

variable {P : Program} {M : Mem} {B : List Gh} {D : List Nat} {σ : Store} {base nt : Nat} {w0 w : World}

/-! ### append of nothing -/
theorem load_none (a : Addr) (w : World) : (loadCells a 0).run P w = .ok #[] w := by
  have := run_loadCells_list (P := P) w a [] (by simp)
  simpa using this

theorem store_none (a : Addr) (w : World) : (storeCells a []).run P w = .ok () w := by
  simp [storeCells]

theorem append_none_run {t T ty : TypeId} {A A' : Option Addr} {n c c' : Nat} (ht : P.underlying t = some (.slice T)) (hle : n ≤ c) (h0 : 0 < szT P T) (w : World) :
    (Builtin.append_ #[t, t] ty #[.slice A n c, .slice A' 0 c']).run P w = .ok (.slice A n c) w := by
  have hfc : (Builtin.firstCells (szT P T) 0 (.slice A' 0 c')).run P w = .ok #[] w := by
    cases A' with
    | none => simp [Builtin.firstCells]
    | some a' => simp [Builtin.firstCells, load_none]
  cases A with
  | none => simp [Builtin.append_, run_underlying ht, run_sizeOf' h0, Builtin.lenOf, hle, hfc]
  | some a => simp [Builtin.append_, run_underlying ht, run_sizeOf' h0, Builtin.lenOf, hle, hfc, store_none]

/-! ### Maps -/
theorem mapT_ok {T e : TypeId} (h : mapT P T = some e) : ∃ k, P.underlying T = some (.map k e) ∧ P.underlying k = some .string := by
  unfold mapT at h
  split at h
  · rename_i k e' hu
    split at h
    · rename_i hk; injection h with h; subst h; exact ⟨k, hu, hk⟩
    · cases h
  · cases h

theorem run_checkKey {k : TypeId} (hk : P.underlying k = some .string) (em : Bool) (s : ByteArray) (w : World) : (Instr.checkKey em 10000 k (.string s)).run P w = .ok () w := by
  show Sem.run P (Instr.checkKey em (9999 + 1) k (.string s)) w = _
  rw [Instr.checkKey]
  simp [run_underlying hk]

theorem ba_beq (a b : ByteArray) : (a == b) = decide (a = b) := by
  rw [Bool.eq_iff_iff]
  simp only [decide_eq_true_eq]
  obtain ⟨x⟩ := a
  obtain ⟨y⟩ := b
  constructor
  · intro h
    have e : x = y := by simpa using (show (x == y) = true from h)
    rw [e]
  · intro h
    cases h
    show (x == x) = true
    simp

/-- A map's entries, in memory. -/
def RelM (M : Mem) : List (PV × PV) → List MapEntry → Prop
  | [], es => es = []
  | (k, v) :: kvs, es => ∃ e r, es = e :: r ∧ RelP M k e.key ∧ RelP M v e.val ∧ keyB k = true ∧ RelM M kvs r

theorem relM_of : ∀ {kvs : List (PV × PV)} {es : List MapEntry}, es.length = kvs.length → (∀ (i : Nat) (e : MapEntry) (k v : PV), es[i]? = some e → kvs[i]? = some (k, v) → RelP M k e.key ∧ RelP M v e.val ∧ keyB k = true) → RelM M kvs es
  | [], es, hl, _ => by simp only [RelM]; exact List.length_eq_zero_iff.1 hl
  | (k, v) :: kvs, [], hl, _ => by simp at hl
  | (k, v) :: kvs, e :: es, hl, h => by
    simp only [RelM]
    have := h 0 e k v (by simp) (by simp)
    exact ⟨e, es, rfl, this.1, this.2.1, this.2.2, relM_of (by simpa using hl) fun i e' k' v' h1 h2 => h (i + 1) e' k' v' (by simpa using h1) (by simpa using h2)⟩

theorem of_relM : ∀ {kvs : List (PV × PV)} {es : List MapEntry}, RelM M kvs es → es.length = kvs.length ∧ (∀ (i : Nat) (e : MapEntry) (k v : PV), es[i]? = some e → kvs[i]? = some (k, v) → RelP M k e.key ∧ RelP M v e.val ∧ keyB k = true)
  | [], es, h => by simp only [RelM] at h; subst h; simp
  | (k, v) :: kvs, es, h => by
    simp only [RelM] at h
    obtain ⟨e, r, rfl, h1, h2, h3, h4⟩ := h
    obtain ⟨g1, g2⟩ := of_relM h4
    refine ⟨by simp [g1], fun i e' k' v' he hk => ?_⟩
    cases i with
    | zero =>
      simp at he hk
      obtain ⟨rfl, rfl⟩ := hk
      subst he
      exact ⟨h1, h2, h3⟩
    | succ i => exact g2 i e' k' v' (by simpa using he) (by simpa using hk)

theorem keyB_ok {k : PV} {v : Value} (hk : keyB k = true) (h : RelP M k v) : ∃ s, k = .val (.string s) ∧ v = .string s := by
  cases k with
  | val x =>
    cases x <;> simp [keyB] at hk
    simp only [RelP] at h
    exact ⟨_, rfl, h.1⟩
  | agg cs => simp [keyB] at hk
  | list es => simp [keyB] at hk

theorem findNow_ok (s : ByteArray) : ∀ {kvs : List (PV × PV)} {es : List MapEntry} (i : Nat), RelM M kvs es →
    (∃ (j : Nat) (e : MapEntry) (v : PV), Instr.findNow .string (.string s) es i = some (some (i + j, e.val)) ∧ es[j]? = some e ∧ e.key = .string s ∧ lookM (.val (.string s)) kvs = some v ∧ RelP M v e.val ∧
      ∀ x, setM (.val (.string s)) x kvs = kvs.set j (.val (.string s), x)) ∨
    (Instr.findNow .string (.string s) es i = some none ∧ lookM (.val (.string s)) kvs = none ∧ ∀ x, setM (.val (.string s)) x kvs = kvs ++ [(.val (.string s), x)])
  | [], es, i, h => by
    simp only [RelM] at h; subst h
    exact .inr ⟨rfl, rfl, fun _ => rfl⟩
  | (k, v) :: kvs, es, i, h => by
    simp only [RelM] at h
    obtain ⟨e, r, rfl, h1, h2, h3, h4⟩ := h
    obtain ⟨t, rfl, ht⟩ := keyB_ok h3 h1
    by_cases hst : s = t
    · subst hst
      refine .inl ⟨0, e, v, ?_, by simp, ht, ?_, h2, fun x => ?_⟩
      · simp [Instr.findNow, Instr.sameNow, ht, ba_beq]
      · simp [lookM, keyEq, ba_beq]
      · simp [setM, keyEq, ba_beq]
    · have hb : (s == t) = false := by simp [ba_beq, hst]
      have e1 : Instr.findNow .string (.string s) (e :: r) i = Instr.findNow .string (.string s) r (i + 1) := by simp [Instr.findNow, Instr.sameNow, ht, hb]
      have e2 : lookM (.val (.string s)) ((.val (.string t), v) :: kvs) = lookM (.val (.string s)) kvs := by simp [lookM, keyEq, hb]
      have e3 : ∀ x, setM (.val (.string s)) x ((.val (.string t), v) :: kvs) = (.val (.string t), v) :: setM (.val (.string s)) x kvs := fun x => by simp [setM, keyEq, hb]
      rcases findNow_ok s (i + 1) h4 with ⟨j, e', v', g1, g2, g3, g4, g5, g6⟩ | ⟨g1, g2, g3⟩
      · exact .inl ⟨j + 1, e', v', by rw [e1, g1]; congr 3; omega, by simpa using g2, g3, by rw [e2]; exact g4, g5, fun x => by rw [e3, g6]; rfl⟩
      · exact .inr ⟨by rw [e1]; exact g1, by rw [e2]; exact g2, fun x => by rw [e3, g3]; rfl⟩

theorem run_findKey {k : TypeId} (hk : P.underlying k = some .string) {s : ByteArray} {es : List MapEntry} {r : Option (Nat × Value)} (h : Instr.findNow .string (.string s) es 0 = some r) (w : World) :
    (Instr.findKey k (.string s) es).run P w = .ok r w := by
  simp [Instr.findKey, run_underlying hk, h]

theorem run_getMap {b : Nat} {es : Array MapEntry} {clock : Nat} (h : w.heap[b]? = some (.map es clock)) : (getObj b).run P w = .ok (.map es clock) w := by simp [getObj, Sem.run, h]
theorem run_setMap {b : Nat} {es : Array MapEntry} {clock : Nat} {O' : Obj} (h : w.heap[b]? = some (.map es clock)) : (setObj b O').run P w = .ok () (w.putObj b O') := by simp [setObj, Sem.run, h, World.putObj]

theorem lookup_ok (h : StOK P M B D σ base w0 w) {T e : TypeId} {id : Nat} {kvs : List (PV × PV)} {k : PV} {x y : Value} (ht : mapT P T = some e) (ho : σ[id]? = some (.map kvs)) (hx : RelV M B (.map id) x) (hy : RelP M k y) (hk : keyB k = true) {v : AV}
    (hv : (match lookM k kvs, zeroT P e with
        | some v, _ => some (.p v)
        | none, some (.p z) => some (.p z)
        | _, _ => none) = some v) : ∃ val, (Instr.lookup T x y false).run P w = .ok val w ∧ RelV M B v val := by
  obtain ⟨kt, hu, hks⟩ := mapT_ok ht
  obtain ⟨s, rfl, rfl⟩ := keyB_ok hk hy
  simp only [RelV] at hx
  obtain ⟨g, hg, _, rfl⟩ := hx
  obtain ⟨_, _, es, clock, hh, hs, hes⟩ := h.obj id _ g ho hg
  have hM : RelM M kvs es.toList := relM_of (by simpa using hs) (by simpa using hes)
  rcases findNow_ok s 0 hM with ⟨j, e', v', g1, g2, g3, g4, g5, g6⟩ | ⟨g1, g2, g3⟩
  · rw [g4] at hv
    simp only [Option.some.injEq] at hv
    subst hv
    refine ⟨e'.val, ?_, by simpa only [RelV] using g5⟩
    simp [Instr.lookup, run_underlying hu, run_getMap hh, run_checkKey hks, run_findKey hks g1]
  · rw [g2] at hv
    split at hv
    · simp at *
    · rename_i z _ hz
      injection hv with hv; subst hv
      obtain ⟨zv, hzr, _, hzrel⟩ := zeroT_ok hz
      refine ⟨zv, ?_, hzrel M B⟩
      simp [Instr.lookup, run_underlying hu, run_getMap hh, run_checkKey hks, run_findKey hks g1, hzr]
    · cases hv

theorem sameBits_string (s : ByteArray) : Instr.sameBits 10000 (.string s) (.string s) = true := by
  show Instr.sameBits (9999 + 1) _ _ = true
  simp [Instr.sameBits, ba_beq]

theorem grownBy_putObj (w : World) (b : Nat) (O : Obj) : w.grownBy (w.putObj b O) (some b) :=
  ⟨rfl, rfl, rfl, by simp, fun k _ hk => World.putObj_heap_other (fun e => hk (by rw [e]))⟩

/-- An object of the store's that is written anew in its own block. -/
theorem StOK.put_obj (h : StOK P M B D σ base w0 w) {id : Nat} {o o' : AObj} {g : Gh} {O O' : Obj} (ho : σ[id]? = some o) (hg : B[id]? = some g) (hr : g.real = true) (hh : w.heap[g.blk]? = some O) (hO : ∀ l, O ≠ .deferred l)
    (hm : ∀ k v, M g.blk k = some v → (w.putObj g.blk O').cell? ⟨g.blk, k, none⟩ = some v) (hnew : ObjOK P M B (w.putObj g.blk O') base g o') : StOK P M B D (σ.set id o') base w0 (w.putObj g.blk O') := by
  obtain ⟨_, h2⟩ := h.upd (o' := o') (g' := g) (w' := w.putObj g.blk O') ho hg (GLe.refl g) (fun hr => ⟨hr, fun _ => rfl⟩) (fun hr => .inl ⟨hr, rfl⟩)
    (fun hr => by simpa using (h.lo id g hg hr).2) (by rw [hr]; exact grownBy_putObj w g.blk _) (fun hr => (h.lo id g hg hr).1)
    (fun b k u hm' _ e => by subst e; exact hm k u hm') (fun _ => mark_ne h hh hO) (by rw [set_same hg]; exact hnew)
  rw [set_same hg] at h2
  exact h2

theorem no_cell_map {b k : Nat} {es : Array MapEntry} {clock : Nat} {v : Value} (hh : w.heap[b]? = some (.map es clock)) (hc : w.cell? ⟨b, k, none⟩ = some v) : False := by
  simp [World.cell?, hh] at hc

theorem update_ok (h : StOK P M B D σ base w0 w) {T e : TypeId} {id : Nat} {kvs : List (PV × PV)} {k v : PV} {x y z : Value} (ht : mapT P T = some e) (ho : σ[id]? = some (.map kvs)) (hx : RelV M B (.map id) x) (hy : RelP M k y) (hz : RelP M v z) (hk : keyB k = true) :
    ∃ w', (Instr.mapUpdate T x y z).run P w = .ok () w' ∧ Done P M B D (σ.set id (.map (setM k v kvs))) base w0 (.tup []) undef w' := by
  obtain ⟨kt, hu, hks⟩ := mapT_ok ht
  obtain ⟨s, rfl, rfl⟩ := keyB_ok hk hy
  simp only [RelV] at hx
  obtain ⟨g, hg, hgr, rfl⟩ := hx
  obtain ⟨_, _, es, clock, hh, hs, hes⟩ := h.obj id _ g ho hg
  have hM : RelM M kvs es.toList := relM_of (by simpa using hs) (by simpa using hes)
  have hnc : ∀ k v, M g.blk k = some v → False := fun k v hm => no_cell_map hh (h.mem _ _ _ hm)
  rcases findNow_ok s 0 hM with ⟨j, e', v', g1, g2, g3, g4, g5, g6⟩ | ⟨g1, g2, g3⟩
  · have hj : j < es.size := by simpa using (List.getElem?_eq_some_iff.1 g2).1
    have hej : es[j]? = some e' := by simpa using g2
    refine ⟨w.putObj g.blk (.map (es.modify j fun e => { e with key := .string s, val := z }) clock), ?_, M, B, Ext.refl _ _ _, ?_, undef_rel⟩
    · have hkk : ((Option.map (fun x => x.key) es[0 + j]?).getD (.string s)) = .string s := by simp [hej, g3]
      simp only [Instr.mapUpdate, Sem.run_bind, run_underlying hu, Result.andThen_ok, run_getMap hh, run_checkKey hks, run_findKey hks g1, Instr.keyThatStays, hkk, sameBits_string, if_true, Sem.run_pure]
      rw [run_setMap hh]
      simp only [Nat.zero_add]
    · refine h.put_obj ho hg hgr.1 hh (by simp) (fun k v hm => (hnc k v hm).elim) ⟨hgr.1, hgr.2, _, clock, World.putObj_heap_same (heap_lt hh), ?_, ?_⟩
      · rw [g6]; simpa using hs
      · intro i e2 k2 v2 h1 h2
        rw [g6] at h2
        by_cases hij : j = i
        · subst hij
          rw [List.getElem?_set_self (by omega)] at h2
          simp only [Option.some.injEq, Prod.mk.injEq] at h2
          obtain ⟨rfl, rfl⟩ := h2
          rw [Array.getElem?_modify, if_pos rfl, hej] at h1
          simp only [Option.map_some, Option.some.injEq] at h1
          subst h1
          exact ⟨hy, hz, rfl⟩
        · rw [List.getElem?_set_ne hij] at h2
          rw [Array.getElem?_modify, if_neg hij] at h1
          exact hes i e2 k2 v2 h1 h2
  · refine ⟨w.putObj g.blk (.map (es.push { key := .string s, val := z, born := clock }) (clock + 1)), ?_, M, B, Ext.refl _ _ _, ?_, undef_rel⟩
    · simp only [Instr.mapUpdate, Sem.run_bind, run_underlying hu, Result.andThen_ok, run_getMap hh, run_checkKey hks, run_findKey hks g1]
      rw [run_setMap hh]
    · refine h.put_obj ho hg hgr.1 hh (by simp) (fun k v hm => (hnc k v hm).elim) ⟨hgr.1, hgr.2, _, _, World.putObj_heap_same (heap_lt hh), ?_, ?_⟩
      · rw [g3]; simpa using hs
      · intro i e2 k2 v2 h1 h2
        rw [g3] at h2
        rw [Array.getElem?_push] at h1
        by_cases hi : i = es.size
        · rw [if_pos hi] at h1
          rw [List.getElem?_append_right (by omega)] at h2
          have : i - kvs.length = 0 := by omega
          rw [this] at h2
          simp only [List.getElem?_cons_zero, Option.some.injEq, Prod.mk.injEq] at h2
          obtain ⟨rfl, rfl⟩ := h2
          injection h1 with h1
          subst h1
          exact ⟨hy, hz, rfl⟩
        · rw [if_neg hi] at h1
          have hlt : i < es.size := (Array.getElem?_eq_some_iff.1 h1).1
          rw [List.getElem?_append_left (by omega)] at h2
          exact hes i e2 k2 v2 h1 h2

theorem new_map (h : StOK P M B D σ base w0 w) : Done P M B D (σ ++ [.map []]) base w0 (.map σ.length) (.map (some w.heap.size)) (w.alloc (.map #[] 0)) := by
  let g : Gh := ⟨w.heap.size, 0, none, 0, 0, true⟩
  obtain ⟨h1, h2⟩ := h.push (.map #[] 0) g (.map []) rfl rfl ⟨rfl, rfl, #[], 0, heap_new w _, rfl, by simp⟩
  refine ⟨M, _, h1, h2, ?_⟩
  simp only [RelV]
  exact ⟨g, by rw [← h.len]; simp, ⟨rfl, rfl⟩, rfl⟩

end Go.Ab
