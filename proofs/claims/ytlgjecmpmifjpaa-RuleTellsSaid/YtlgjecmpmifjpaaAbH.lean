/-
  What the abstract operations do the model's operations do: numbers, texts, places.
-/
import Derived.Test.YtlgjecmpmifjpaaAbG
set_option linter.unusedVariables false
set_option linter.unusedSimpArgs false
namespace Go.Ab
open Go.RowKit

variable {P : Program} {M : Mem} {B : List Gh} {D : List Nat} {σ : Store} {base nt : Nat} {w0 w : World}

theorem binV_scalar {op : BinOp} {x y v : Value} (h : binV op x y = some v) : scalarB v = true := by
  unfold binV at h
  split at h
  · split at h
    · split at h
      · cases h
      · injection h with h; subst h; rfl
    · split at h
      · cases h
      · injection h with h; subst h; rfl
    · split at h
      · split at h <;> first | (injection h with h; subst h; rfl) | (split at h <;> first | (injection h with h; subst h; rfl) | cases h) | cases h
      · cases h
  · split at h <;> first | (injection h with h; subst h; rfl) | (split at h <;> first | (injection h with h; subst h; rfl) | cases h) | cases h
  · cases h

theorem binV_run {op : BinOp} {x y v : Value} {T : TypeId} (h : binV op x y = some v) (w : World) : (binOp op T x y).run P w = .ok v w := by
  unfold binV at h
  split at h
  · rename_i k a k' b
    split at h
    · split at h
      · cases h
      · rename_i hb
        injection h with h; subst h
        simp [binOp, Op.shift, hb]
    · split at h
      · cases h
      · rename_i hb
        injection h with h; subst h
        simp [binOp, Op.shift, hb]
    · rename_i hs1 hs2
      split at h
      · rename_i hk
        subst hk
        cases op <;> simp at h hs1 hs2 <;> first
          | (subst h; simp [binOp, Op.intArith, Op.intBits, Op.intCmp]; done)
          | (obtain ⟨hb, rfl⟩ := h; simp [binOp, Op.intDiv, hb])
      · cases h
  · rename_i a b
    cases op <;> simp at h <;> first
      | (subst h; simp [binOp, Op.stringOp]; done)
      | (obtain ⟨hb, rfl⟩ := h
         have : ¬ (((a.size + b.size : Nat) : Int) > IntKind.i64.max) := by simp [IntKind.max, IntKind.signed, IntKind.bits]; omega
         simp only [binOp, Op.stringOp]
         rw [if_neg this]
         rfl)
  · cases h

theorem eqGuard_scalar {op : BinOp} {T : TypeId} {x y : Operand} {a b : Value} (ha : a.oneCell' = true) (hn : a ≠ .nilIface) (w : World) : (eqGuard op T x y a b).run P w = .ok () w := by
  unfold eqGuard
  cases op <;> simp <;> (cases a <;> simp_all [Value.oneCell'] <;> rfl)

theorem run_equal_bool {T : TypeId} (hu : P.underlying T = some .bool) (a b : Bool) (w : World) : (Op.equal T (.bool a) (.bool b)).run P w = .ok (a == b) w := by
  unfold Op.equal
  show Sem.run P (Op.equalIn (9999 + 1) T (.bool a) (.bool b)) w = _
  rw [Op.equalIn]
  simp [run_underlying hu]

theorem binT_ok {op : BinOp} {x y v : Value} {T : TypeId} (h : binT P op T x y = some v) (w : World) : scalarB v = true ∧ (binOp op T x y).run P w = .ok v w ∧ x.oneCell' = true ∧ x ≠ .nilIface := by
  unfold binT at h
  split at h
  · rename_i a b
    split at h
    · rename_i hu
      cases op <;> simp at h <;> subst h
      · exact ⟨rfl, by simp only [binOp, Sem.run_bind, run_equal_bool hu, Result.andThen_ok, Sem.run_pure], rfl, by simp⟩
      · exact ⟨rfl, by simp only [binOp, Sem.run_bind, run_equal_bool hu, Result.andThen_ok, Sem.run_pure], rfl, by simp⟩
    · cases h
  · refine ⟨binV_scalar h, binV_run h w, ?_, ?_⟩ <;> (unfold binV at h; split at h <;> first | rfl | (simp; done) | cases h)

theorem unV_ok {op : UnOp} {x v : Value} (h : unV op x = some v) (w : World) : scalarB v = true ∧ (Op.unary op x).run P w = .ok v w := by
  unfold unV at h
  split at h
  · injection h with h; subst h; exact ⟨rfl, by simp [Op.unary]⟩
  · injection h with h; subst h; exact ⟨rfl, by simp [Op.unary, Op.intArith]⟩
  · cases h

theorem convV_ok {S T : TypeId} {x v : Value} (h : convV P S T x = some v) (w : World) : scalarB v = true ∧ (convert S T x).run P w = .ok v w := by
  unfold convV at h
  split at h
  · rename_i d k k' n h1 h2
    injection h with h; subst h
    exact ⟨rfl, by simp [convert, run_underlying h1, run_underlying h2, Conv.intToInt]⟩
  · rename_i k k' n h1 h2
    injection h with h; subst h
    exact ⟨rfl, by simp [convert, run_underlying h1, run_underlying h2, Conv.intToString]⟩
  · rename_i s h1 h2
    injection h with h; subst h
    exact ⟨rfl, by simp [convert, run_underlying h1, run_underlying h2]⟩
  · cases h

theorem argsA_ok {tm : Nat → AV} {a : Act} (hf : FrOK M B nt tm a.tmps) : ∀ {xs : List Operand} {vs : List AV}, argsA (evA tm) xs = some vs → RelVT M B vs (xs.map a.eval)
  | [], vs, h => by simp only [argsA] at h; injection h with h; subst h; simp only [RelVT, List.map_nil]
  | x :: xs, vs, h => by
    simp only [argsA] at h
    split at h
    · rename_i v hv
      split at h
      · rename_i us hu
        injection h with h; subst h
        simp only [RelVT, List.map_cons]
        exact ⟨_, _, rfl, evA_ok hf hv, argsA_ok hf hu⟩
      · cases h
    · cases h

theorem fldT_ok {T : TypeId} {f k : Nat} (h : fldT P T f = some k) (a : Addr) (w : World) : (Instr.fieldAt T (.pointer (some a)) f).run P w = .ok (.pointer (some (a.add k))) w := by
  unfold fldT at h
  split at h
  · rename_i fs hu
    split at h
    · rename_i fl hfl
      split at h
      · cases h
      · rename_i hz
        injection h with h; subst h
        have h0 : 0 < szT P fl.type := by unfold szT; omega
        have hne : ¬ szT P fl.type = 0 := by omega
        simp [Instr.fieldAt, run_underlying hu, hfl, Instr.sureAddr, fieldPlace, run_sizeOf' h0, hne]
    · cases h
  · cases h

theorem elemT_ok {T e : TypeId} (h : elemT P T = some e) : P.underlying T = some (.slice e) := by
  unfold elemT at h
  split at h
  · rename_i e' hu; injection h with h; subst h; exact hu
  · cases h

theorem idxOf_ok {i : AV} {n : Int} {x : Value} (h : idxOf i = some n) (hv : RelV M B i x) : ∃ k, x = .int k n := by
  unfold idxOf at h
  split at h
  · rename_i k m
    injection h with h; subst h
    simp only [RelV, RelP] at hv
    exact ⟨k, hv.1⟩
  · cases h

theorem run_indexAt {T e : TypeId} (hu : P.underlying T = some (.slice e)) (h0 : 0 < szT P e) {a : Addr} {len cap : Nat} {k : IntKind} {i : Int} (hi : 0 ≤ i) (hl : i < len) (w : World) :
    (Instr.indexAt T (.slice (some a) len cap) (.int k i)).run P w = .ok (.pointer (some (a.add (i.toNat * szT P e)))) w := by
  simp [Instr.indexAt, asIntOf, run_underlying hu, hi, hl, run_sizeOf' h0]

theorem index_list (h : StOK P M B D σ base w0 w) {T e : TypeId} {es : List PV} {x i : Value} {k : IntKind} {n : Int} {z : PV} (hu : P.underlying T = some (.slice e)) (hx : RelV M B (.p (.list es)) x) (hi : i = .int k n) (h0 : 0 ≤ n)
    (hz : es[n.toNat]? = some z) (hs : 0 < szT P e) (hl : z.cells.length = szT P e) : ∃ val, (Instr.indexAt T x i).run P w = .ok val w ∧ RelV M B (.ro z.cells) val := by
  subst hi
  simp only [RelV, RelP] at hx
  obtain ⟨A, m, c, rfl, hm, hc, hx⟩ := hx
  have hlt := (List.getElem?_eq_some_iff.1 hz).1
  rcases hx with rfl | ⟨b, off, sz, rfl, hr⟩
  · simp at hz
  obtain ⟨vs, h1, h2, h3⟩ := hr.get hz
  have hsz : sz = szT P e := by have := h3.length; omega
  subst hsz
  refine ⟨_, run_indexAt hu hs h0 (by omega) w, ?_⟩
  simp only [RelV]
  exact ⟨b, off + n.toNat * szT P e, vs, by rw [add0], fun j hj => h2 j (by omega), h3⟩

theorem index_own (h : StOK P M B D σ base w0 w) {T e : TypeId} {es : List PV} {fz id n : Nat} {x i : Value} {k : IntKind} {m : Int} (hu : P.underlying T = some (.slice e)) (ho : σ[id]? = some (.arr e es fz)) (hx : RelV M B (.own id n) x) (hi : i = .int k m)
    (hn : n = es.length) (h0 : 0 ≤ m) (hm : m < n) : ∃ val, (Instr.indexAt T x i).run P w = .ok val w ∧ RelV M B (.optr id n m.toNat 0) val := by
  subst hi
  simp only [RelV] at hx
  obtain ⟨g, hg, hle, A, c, rfl, hh⟩ := hx
  have hgl := (h.obj id _ g ho hg).1
  have hlt : m.toNat < es.length := by omega
  obtain ⟨hr, hA, hsz, hpos, _⟩ := own_cells h ho hg (List.getElem?_eq_getElem hlt)
  obtain ⟨rfl, rfl⟩ := hh (by omega)
  rw [hA]
  refine ⟨_, run_indexAt hu (by rw [← hsz]; exact hpos) h0 hm w, ?_⟩
  simp only [RelV]
  exact ⟨g, hg, hle, _, rfl, fun _ => by rw [add0, hsz]; simp⟩

end Go.Ab
