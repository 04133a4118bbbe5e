/-
  The interpreter, step by step, for simp.
-/
import Derived.Test.YtlgjecmpmifjpaaAbU
import Derived.Test.YtlgjecmpmifjpaaAbRg
set_option linter.unusedVariables false
set_option linter.unusedSimpArgs false
namespace Go.Ab

/-- On with a run. -/
def bindR {α β : Type} (r : Option α) (k : α → Option β) : Option β := match r with
  | some x => k x
  | none => none
@[simp] theorem bindR_some {α β : Type} (x : α) (k : α → Option β) : bindR (some x) k = k x := rfl
@[simp] theorem bindR_none {α β : Type} (k : α → Option β) : bindR (none : Option α) k = none := rfl

def seqR (r : Option (Ex × ASt)) (k : ASt → Option (Ex × ASt)) : Option (Ex × ASt) := match r with
  | some (.normal, s) => k s
  | r => r
@[simp] theorem seqR_normal (s : ASt) (k : ASt → Option (Ex × ASt)) : seqR (some (.normal, s)) k = k s := rfl
@[simp] theorem seqR_ret (s : ASt) (k : ASt → Option (Ex × ASt)) : seqR (some (.ret, s)) k = some (.ret, s) := rfl
@[simp] theorem seqR_exit (i : Nat) (s : ASt) (k : ASt → Option (Ex × ASt)) : seqR (some (.exit i, s)) k = some (.exit i, s) := rfl
@[simp] theorem seqR_none (k : ASt → Option (Ex × ASt)) : seqR none k = none := rfl

def blockR (id : Nat) (r : Option (Ex × ASt)) : Option (Ex × ASt) := match r with
  | some (.exit i, s) => if i = id then some (.normal, s) else some (.exit i, s)
  | r => r
@[simp] theorem blockR_normal (id : Nat) (s : ASt) : blockR id (some (.normal, s)) = some (.normal, s) := rfl
@[simp] theorem blockR_ret (id : Nat) (s : ASt) : blockR id (some (.ret, s)) = some (.ret, s) := rfl
@[simp] theorem blockR_exit (id i : Nat) (s : ASt) : blockR id (some (.exit i, s)) = if i = id then some (.normal, s) else some (.exit i, s) := rfl
@[simp] theorem blockR_none (id : Nat) : blockR id none = none := rfl

def condR (v : Option AV) (x y : Option (Ex × ASt)) : Option (Ex × ASt) := match v with
  | some (.p (.val (.bool t))) => if t then x else y
  | _ => none
@[simp] theorem condR_bool (t : Bool) (x y : Option (Ex × ASt)) : condR (some (.p (.val (.bool t)))) x y = if t then x else y := rfl

def runL (E : Env) (nt : Nat) (ops : Array Oper) : List Oper → ASt → Option ASt
  | [], s => some s
  | o :: r, s => bindR (stepA E nt ops o s) (runL E nt ops r)

theorem runA_drop (E : Env) (nt : Nat) (ops : Array Oper) : ∀ (k n : Nat) (s : ASt), k + n = ops.size → runA E nt ops ((List.range n).map (k + ·)) s = runL E nt ops (ops.toList.drop k) s
  | k, 0, s, h => by
    rw [List.drop_eq_nil_of_le (by simp; omega)]
    simp [runA, runL]
  | k, n + 1, s, h => by
    have hk : k < ops.size := by omega
    have e : ops.toList.drop k = ops[k] :: ops.toList.drop (k + 1) := by
      rw [List.drop_eq_getElem_cons (by simpa using hk)]
      simp
    rw [e, List.range_succ_eq_map, List.map_cons, runA]
    simp only [Nat.add_zero, Array.getElem?_eq_getElem hk, runL]
    cases stepA E nt ops ops[k] s with
    | none => rfl
    | some s1 =>
      simp only [bindR_some]
      rw [← runA_drop E nt ops (k + 1) n s1 (by omega)]
      congr 1
      simp only [List.map_map]
      apply List.map_congr_left
      intro x _
      simp; omega

theorem runA_range (E : Env) (nt : Nat) (ops : Array Oper) (s : ASt) : runA E nt ops (List.range ops.size) s = runL E nt ops ops.toList s := by
  have := runA_drop E nt ops 0 ops.size s (by omega)
  simpa using this

@[simp] theorem codeA_skip (E : Env) (nt : Nat) (s : ASt) : codeA E nt .skip s = some (.normal, s) := rfl
@[simp] theorem codeA_label (E : Env) (nt l : Nat) (s : ASt) : codeA E nt (.label l) s = some (.normal, s) := rfl
@[simp] theorem codeA_ret (E : Env) (nt : Nat) (s : ASt) : codeA E nt .ret s = some (.ret, s) := rfl
@[simp] theorem codeA_exit (E : Env) (nt i : Nat) (s : ASt) : codeA E nt (.exit i) s = some (.exit i, s) := rfl
@[simp] theorem codeA_seq (E : Env) (nt : Nat) (x y : Code) (s : ASt) : codeA E nt (.seq x y) s = seqR (codeA E nt x s) (codeA E nt y) := by
  simp only [codeA, seqR]
  rfl
@[simp] theorem codeA_cond (E : Env) (nt : Nat) (c : Operand) (x y : Code) (s : ASt) : codeA E nt (.cond c x y) s = condR (evA s.tm c) (codeA E nt x s) (codeA E nt y s) := by
  simp only [codeA, condR]
  rfl
@[simp] theorem codeA_block (E : Env) (nt id : Nat) (c : Code) (s : ASt) : codeA E nt (.block id c) s = blockR id (codeA E nt c s) := by
  simp only [codeA, blockR]
  rfl
@[simp] theorem codeA_region (E : Env) (nt id : Nat) (l : List Oper) (s : ASt) : codeA E nt (.region id l.toArray false) s = bindR (runL E nt l.toArray l s) fun s => some (.normal, s) := by
  simp only [codeA, runA_range, List.toList_toArray]
  cases runL E nt l.toArray l s <;> rfl

@[simp] theorem codeA_loop (E : Env) (nt : Nat) (c : Code) (s : ASt) : codeA E nt (.loop c) s = loopA (!E.H.keep E.fid) (codeA E nt c) E.K s := rfl
def loopK (gc : Bool) (body : ASt → Option (Ex × ASt)) (k n : Nat) : Option (Ex × ASt) → Option (Ex × ASt)
  | some (.normal, s) => loopA gc body k (if gc then gcA n s else s)
  | r => r
@[simp] theorem loopK_normal (gc : Bool) (body : ASt → Option (Ex × ASt)) (k n : Nat) (s : ASt) : loopK gc body k n (some (.normal, s)) = loopA gc body k (if gc then gcA n s else s) := rfl
@[simp] theorem loopK_exit (gc : Bool) (body : ASt → Option (Ex × ASt)) (k n i : Nat) (s : ASt) : loopK gc body k n (some (.exit i, s)) = some (.exit i, s) := rfl
@[simp] theorem loopK_ret (gc : Bool) (body : ASt → Option (Ex × ASt)) (k n : Nat) (s : ASt) : loopK gc body k n (some (.ret, s)) = some (.ret, s) := rfl
@[simp] theorem loopA_succ (gc : Bool) (body : ASt → Option (Ex × ASt)) (k : Nat) (s : ASt) : loopA gc body (k + 1) s = loopK gc body k s.st.length (body s) := by
  simp only [loopA, loopK]
  cases body s with
  | none => rfl
  | some x => obtain ⟨e, s'⟩ := x; cases e <;> rfl
@[simp] theorem runL_nil (E : Env) (nt : Nat) (ops : Array Oper) (s : ASt) : runL E nt ops [] s = some s := rfl

def goR (E : Env) (nt : Nat) (ops : Array Oper) (dst : Option Nat) (tm : Nat → AV) (r : List Oper) (x : Option (AV × Store)) : Option ASt := bindR x fun x => runL E nt ops r ⟨put tm dst x.1, x.2⟩
@[simp] theorem goR_some (E : Env) (nt : Nat) (ops : Array Oper) (dst : Option Nat) (tm : Nat → AV) (r : List Oper) (v : AV) (σ : Store) : goR E nt ops dst tm r (some (v, σ)) = runL E nt ops r ⟨put tm dst v, σ⟩ := rfl
@[simp] theorem goR_none (E : Env) (nt : Nat) (ops : Array Oper) (dst : Option Nat) (tm : Nat → AV) (r : List Oper) : goR E nt ops dst tm r none = none := rfl

@[simp] theorem runL_plain (E : Env) (nt : Nat) (ops : Array Oper) (dst : Option Nat) (op : Op) (ty : TypeId) (after : Array Edge) (pos : String) (r : List Oper) (tm : Nat → AV) (σ : Store) :
    runL E nt ops (⟨dst, op, ty, pos, after, none⟩ :: r) ⟨tm, σ⟩ = if dstB nt dst then goR E nt ops dst tm r ((opEff E dst (evA tm) op).run σ) else none := by
  simp only [runL, stepA, wantA, goR]
  split
  · simp only [if_true]
    split <;> rename_i h <;> rw [h] <;> rfl
  · rfl

def guardR (E : Env) (nt : Nat) (ops : Array Oper) (dst : Option Nat) (op : Op) (b : Bool) (tm : Nat → AV) (σ : Store) (r : List Oper) : AV → Option ASt
  | .p (.val (.bool t)) => if t = b then goR E nt ops dst tm r ((opEff E dst (evA tm) op).run σ) else runL E nt ops r ⟨put tm dst (.tup []), σ⟩
  | .tup [] => runL E nt ops r ⟨put tm dst (.tup []), σ⟩
  | _ => none
@[simp] theorem guardR_bool (E : Env) (nt : Nat) (ops : Array Oper) (dst : Option Nat) (op : Op) (b t : Bool) (tm : Nat → AV) (σ : Store) (r : List Oper) :
    guardR E nt ops dst op b tm σ r (.p (.val (.bool t))) = if t = b then goR E nt ops dst tm r ((opEff E dst (evA tm) op).run σ) else runL E nt ops r ⟨put tm dst (.tup []), σ⟩ := rfl
@[simp] theorem guardR_none (E : Env) (nt : Nat) (ops : Array Oper) (dst : Option Nat) (op : Op) (b : Bool) (tm : Nat → AV) (σ : Store) (r : List Oper) :
    guardR E nt ops dst op b tm σ r (.tup []) = runL E nt ops r ⟨put tm dst (.tup []), σ⟩ := rfl

def dstOf (ops : Array Oper) (g : Nat) : Option Nat := (ops[g]?).bind (·.dst)

def guardO (E : Env) (nt : Nat) (ops : Array Oper) (dst : Option Nat) (op : Op) (b : Bool) (tm : Nat → AV) (σ : Store) (r : List Oper) : Option Nat → Option ASt
  | some d => guardR E nt ops dst op b tm σ r (tm d)
  | none => none
@[simp] theorem guardO_some (E : Env) (nt : Nat) (ops : Array Oper) (dst : Option Nat) (op : Op) (b : Bool) (tm : Nat → AV) (σ : Store) (r : List Oper) (d : Nat) : guardO E nt ops dst op b tm σ r (some d) = guardR E nt ops dst op b tm σ r (tm d) := rfl

@[simp] theorem runL_guard (E : Env) (nt : Nat) (ops : Array Oper) (dst : Option Nat) (op : Op) (ty : TypeId) (after : Array Edge) (pos : String) (g : Nat) (b : Bool) (r : List Oper) (tm : Nat → AV) (σ : Store) :
    runL E nt ops (⟨dst, op, ty, pos, after, some (g, b)⟩ :: r) ⟨tm, σ⟩ = if dstB nt dst then guardO E nt ops dst op b tm σ r (dstOf ops g) else none := by
  simp only [runL, stepA, wantA, dstOf]
  cases hd : (ops[g]?).bind (·.dst) with
  | none => simp [guardO]
  | some d =>
    simp only [guardO_some]
    cases hv : tm d <;> try (simp [guardR]; done)
    · rename_i x
      cases x <;> try (simp [guardR]; done)
      rename_i x
      cases x <;> try (simp [guardR]; done)
      rename_i t
      simp only [guardR_bool]
      by_cases hb : t = b
      · subst hb
        simp only [beq_self_eq_true, if_true]
        split
        · simp only [goR]
          split <;> rename_i h <;> rw [h] <;> rfl
        · rfl
      · have : (t == b) = false := by simpa using hb
        rw [this]
        simp only [Bool.false_eq_true, if_false, hb]
        split <;> rfl
    · rename_i vs
      cases vs with
      | nil =>
        simp only [guardR_none, Bool.false_eq_true, if_false]
        split <;> rfl
      | cons v vs => simp [guardR]

@[simp] theorem dstB_some (nt d : Nat) : dstB nt (some d) = decide (d < nt) := rfl
@[simp] theorem dstB_none (nt : Nat) : dstB nt none = true := rfl
@[simp] theorem put_some (tm : Nat → AV) (d : Nat) (v : AV) (t : Nat) : put tm (some d) v t = if t = d then v else tm t := rfl
@[simp] theorem put_none (tm : Nat → AV) (v : AV) : put tm none v = tm := rfl
@[simp] theorem evA_tmp (tm : Nat → AV) (t : Nat) : evA tm (.tmp t) = some (tm t) := rfl
@[simp] theorem evA_func (tm : Nat → AV) (f : FuncId) : evA tm (.func f) = some (.p (.val (.func (.func f) #[] #[]))) := rfl
@[simp] theorem evA_int (tm : Nat → AV) (k : IntKind) (n : Int) : evA tm (.const (.int k n)) = some (.p (.val (.int k n))) := rfl
@[simp] theorem evA_bool (tm : Nat → AV) (b : Bool) : evA tm (.const (.bool b)) = some (.p (.val (.bool b))) := rfl
@[simp] theorem evA_string (tm : Nat → AV) (s : ByteArray) : evA tm (.const (.string s)) = some (.p (.val (.string s))) := rfl
@[simp] theorem evA_nil (tm : Nat → AV) : evA tm (.const (.slice none 0 0)) = some .e0 := rfl
@[simp] theorem evA_agg (tm : Nat → AV) (cs : List Value) : evA tm (.const (.agg cs.toArray)) = (cs.mapM cellConst).map mkAgg := rfl

@[simp] theorem run_pure_some (v : AV) (σ : Store) : (Eff.pure (some v)).run σ = some (v, σ) := rfl
@[simp] theorem run_pure_none (σ : Store) : (Eff.pure none).run σ = none := rfl
def readR (f : AObj → Option AV) (σ : Store) : Option AObj → Option (AV × Store)
  | some o => bindR (f o) fun v => some (v, σ)
  | none => none
@[simp] theorem readR_some (f : AObj → Option AV) (σ : Store) (o : AObj) : readR f σ (some o) = bindR (f o) fun v => some (v, σ) := rfl
@[simp] theorem run_read (id : Nat) (f : AObj → Option AV) (σ : Store) : (Eff.read id f).run σ = readR f σ σ[id]? := by
  simp only [Eff.run, readR]
  cases σ[id]? with
  | none => rfl
  | some o => simp only [bindR]; cases f o <;> rfl
def writeR (f : AObj → Option (AV × AObj)) (id : Nat) (σ : Store) : Option AObj → Option (AV × Store)
  | some o => bindR (f o) fun x => some (x.1, σ.set id x.2)
  | none => none
@[simp] theorem writeR_some (f : AObj → Option (AV × AObj)) (id : Nat) (σ : Store) (o : AObj) : writeR f id σ (some o) = bindR (f o) fun x => some (x.1, σ.set id x.2) := rfl
@[simp] theorem run_write (id : Nat) (f : AObj → Option (AV × AObj)) (σ : Store) : (Eff.write id f).run σ = writeR f id σ σ[id]? := by
  simp only [Eff.run, writeR]
  cases σ[id]? with
  | none => rfl
  | some o =>
    simp only [bindR]
    cases f o with
    | none => rfl
    | some x => rfl
@[simp] theorem run_new (os : List AObj) (g : Nat → AV) (σ : Store) : (Eff.new os g).run σ = some (g σ.length, σ ++ os) := rfl
@[simp] theorem run_full (f : Store → Option (AV × Store)) (σ : Store) : (Eff.full f).run σ = f σ := rfl

attribute [simp] PV.cells AV.cells AV.solid wordOf word1 over headB

/-! ### A region that draws its order -/
def runLE (E : Env) (nt : Nat) (ops : Array Oper) : List Oper → ASt → Option (List Eff × ASt)
  | [], s => some ([], s)
  | o :: r, s => match effW E ops o s.tm with
    | some e => if dstB nt o.dst then bindR (e.run s.st) fun x => bindR (runLE E nt ops r ⟨put s.tm o.dst x.1, x.2⟩) fun y => some (e :: y.1, y.2) else none
    | none => none

theorem runE_drop (E : Env) (nt : Nat) (ops : Array Oper) : ∀ (k n : Nat) (s : ASt), k + n = ops.size → runE E nt ops ((List.range n).map (k + ·)) s = runLE E nt ops (ops.toList.drop k) s
  | k, 0, s, h => by
    rw [List.drop_eq_nil_of_le (by simp; omega)]
    simp [runE, runLE]
  | k, n + 1, s, h => by
    have hk : k < ops.size := by omega
    have e : ops.toList.drop k = ops[k] :: ops.toList.drop (k + 1) := by
      rw [List.drop_eq_getElem_cons (by simpa using hk)]
      simp
    have e2 : (List.range n).map (k + ·) = (List.range n).map (k + ·) := rfl
    have e3 : List.map (fun x => k + x) (List.map Nat.succ (List.range n)) = (List.range n).map (k + 1 + ·) := by
      simp only [List.map_map]
      apply List.map_congr_left
      intro x _
      simp; omega
    rw [e, List.range_succ_eq_map, List.map_cons, runE, e3]
    simp only [Nat.add_zero, stepE, Array.getElem?_eq_getElem hk, runLE]
    cases effW E ops ops[k] s.tm with
    | none => rfl
    | some f =>
      cases hd : dstB nt ops[k].dst with
      | false => rfl
      | true =>
        simp only [if_true]
        cases hr : f.run s.st with
        | none => rfl
        | some x =>
          simp only [bindR_some]
          rw [runE_drop E nt ops (k + 1) n _ (by omega)]
          cases runLE E nt ops (List.drop (k + 1) ops.toList) ⟨put s.tm ops[k].dst x.1, x.2⟩ <;> rfl

theorem runE_range (E : Env) (nt : Nat) (ops : Array Oper) (s : ASt) : runE E nt ops (List.range ops.size) s = runLE E nt ops ops.toList s := by
  have := runE_drop E nt ops 0 ops.size s (by omega)
  simpa using this

def drawR (ok : Bool) (fm : List (Nat × Nat)) : Option (List Eff × ASt) → Option (Ex × ASt)
  | some (es, s) => if ok && fm.all (fun x => (es.getD x.1 (.pure none)).comm (es.getD x.2 (.pure none))) then some (.normal, s) else none
  | none => none
@[simp] theorem drawR_some (ok : Bool) (fm : List (Nat × Nat)) (es : List Eff) (s : ASt) : drawR ok fm (some (es, s)) = if ok && fm.all (fun x => (es.getD x.1 (.pure none)).comm (es.getD x.2 (.pure none))) then some (.normal, s) else none := rfl
@[simp] theorem codeA_draw (E : Env) (nt id : Nat) (l : List Oper) (s : ASt) : codeA E nt (.region id l.toArray true) s = drawR (orderB l.toArray) (freeM l.toArray) (runLE E nt l.toArray l s) := by
  simp only [codeA, drawA, runE_range, List.toList_toArray]
  cases runLE E nt l.toArray l s with
  | none => rfl
  | some x =>
    simp only [drawR]
    split <;> rename_i h
    · split at h
      · injection h with h; subst h; rw [if_pos (by assumption)]
      · cases h
    · split at h
      · cases h
      · rw [if_neg (by assumption)]

@[simp] theorem runLE_nil (E : Env) (nt : Nat) (ops : Array Oper) (s : ASt) : runLE E nt ops [] s = some ([], s) := rfl
def goE (E : Env) (nt : Nat) (ops : Array Oper) (dst : Option Nat) (tm : Nat → AV) (r : List Oper) (e : Eff) (x : Option (AV × Store)) : Option (List Eff × ASt) := bindR x fun x => bindR (runLE E nt ops r ⟨put tm dst x.1, x.2⟩) fun y => some (e :: y.1, y.2)
@[simp] theorem goE_some (E : Env) (nt : Nat) (ops : Array Oper) (dst : Option Nat) (tm : Nat → AV) (r : List Oper) (e : Eff) (v : AV) (σ : Store) : goE E nt ops dst tm r e (some (v, σ)) = bindR (runLE E nt ops r ⟨put tm dst v, σ⟩) fun y => some (e :: y.1, y.2) := rfl
@[simp] theorem goE_none (E : Env) (nt : Nat) (ops : Array Oper) (dst : Option Nat) (tm : Nat → AV) (r : List Oper) (e : Eff) : goE E nt ops dst tm r e none = none := rfl
def goE2 (E : Env) (nt : Nat) (ops : Array Oper) (dst : Option Nat) (tm : Nat → AV) (r : List Oper) (σ : Store) (e : Eff) : Option (List Eff × ASt) := goE E nt ops dst tm r e (e.run σ)
@[simp] theorem goE2_pure (E : Env) (nt : Nat) (ops : Array Oper) (dst : Option Nat) (tm : Nat → AV) (r : List Oper) (σ : Store) (v : Option AV) : goE2 E nt ops dst tm r σ (.pure v) = goE E nt ops dst tm r (.pure v) ((Eff.pure v).run σ) := rfl
@[simp] theorem goE2_read (E : Env) (nt : Nat) (ops : Array Oper) (dst : Option Nat) (tm : Nat → AV) (r : List Oper) (σ : Store) (i : Nat) (f : AObj → Option AV) : goE2 E nt ops dst tm r σ (.read i f) = goE E nt ops dst tm r (.read i f) ((Eff.read i f).run σ) := rfl
@[simp] theorem goE2_write (E : Env) (nt : Nat) (ops : Array Oper) (dst : Option Nat) (tm : Nat → AV) (r : List Oper) (σ : Store) (i : Nat) (f : AObj → Option (AV × AObj)) : goE2 E nt ops dst tm r σ (.write i f) = goE E nt ops dst tm r (.write i f) ((Eff.write i f).run σ) := rfl
@[simp] theorem goE2_new (E : Env) (nt : Nat) (ops : Array Oper) (dst : Option Nat) (tm : Nat → AV) (r : List Oper) (σ : Store) (i : List AObj) (f : Nat → AV) : goE2 E nt ops dst tm r σ (.new i f) = goE E nt ops dst tm r (.new i f) ((Eff.new i f).run σ) := rfl
@[simp] theorem goE2_full (E : Env) (nt : Nat) (ops : Array Oper) (dst : Option Nat) (tm : Nat → AV) (r : List Oper) (σ : Store) (f : Store → Option (AV × Store)) : goE2 E nt ops dst tm r σ (.full f) = goE E nt ops dst tm r (.full f) ((Eff.full f).run σ) := rfl

@[simp] theorem runLE_plain (E : Env) (nt : Nat) (ops : Array Oper) (dst : Option Nat) (op : Op) (ty : TypeId) (after : Array Edge) (pos : String) (r : List Oper) (tm : Nat → AV) (σ : Store) :
    runLE E nt ops (⟨dst, op, ty, pos, after, none⟩ :: r) ⟨tm, σ⟩ = if dstB nt dst then goE2 E nt ops dst tm r σ (opEff E dst (evA tm) op) else none := rfl

def guardE (E : Env) (nt : Nat) (ops : Array Oper) (dst : Option Nat) (op : Op) (b : Bool) (tm : Nat → AV) (σ : Store) (r : List Oper) : AV → Option (List Eff × ASt)
  | .p (.val (.bool t)) => if t = b then goE2 E nt ops dst tm r σ (opEff E dst (evA tm) op) else goE2 E nt ops dst tm r σ (.pure (some (.tup [])))
  | .tup [] => goE2 E nt ops dst tm r σ (.pure (some (.tup [])))
  | _ => none
@[simp] theorem guardE_bool (E : Env) (nt : Nat) (ops : Array Oper) (dst : Option Nat) (op : Op) (b t : Bool) (tm : Nat → AV) (σ : Store) (r : List Oper) :
    guardE E nt ops dst op b tm σ r (.p (.val (.bool t))) = if t = b then goE2 E nt ops dst tm r σ (opEff E dst (evA tm) op) else goE2 E nt ops dst tm r σ (.pure (some (.tup []))) := rfl
@[simp] theorem guardE_none (E : Env) (nt : Nat) (ops : Array Oper) (dst : Option Nat) (op : Op) (b : Bool) (tm : Nat → AV) (σ : Store) (r : List Oper) :
    guardE E nt ops dst op b tm σ r (.tup []) = goE2 E nt ops dst tm r σ (.pure (some (.tup []))) := rfl
def guardEO (E : Env) (nt : Nat) (ops : Array Oper) (dst : Option Nat) (op : Op) (b : Bool) (tm : Nat → AV) (σ : Store) (r : List Oper) : Option Nat → Option (List Eff × ASt)
  | some d => guardE E nt ops dst op b tm σ r (tm d)
  | none => none
@[simp] theorem guardEO_some (E : Env) (nt : Nat) (ops : Array Oper) (dst : Option Nat) (op : Op) (b : Bool) (tm : Nat → AV) (σ : Store) (r : List Oper) (d : Nat) : guardEO E nt ops dst op b tm σ r (some d) = guardE E nt ops dst op b tm σ r (tm d) := rfl
@[simp] theorem runLE_guard (E : Env) (nt : Nat) (ops : Array Oper) (dst : Option Nat) (op : Op) (ty : TypeId) (after : Array Edge) (pos : String) (g : Nat) (b : Bool) (r : List Oper) (tm : Nat → AV) (σ : Store) :
    runLE E nt ops (⟨dst, op, ty, pos, after, some (g, b)⟩ :: r) ⟨tm, σ⟩ = if dstB nt dst then guardEO E nt ops dst op b tm σ r (dstOf ops g) else none := by
  simp only [runLE, effW, wantA, dstOf]
  cases hd : (ops[g]?).bind (·.dst) with
  | none => simp [guardEO]
  | some d =>
    simp only [guardEO_some]
    cases hv : tm d <;> try (simp [guardE]; done)
    · rename_i x
      cases x <;> try (simp [guardE]; done)
      rename_i x
      cases x <;> try (simp [guardE]; done)
      rename_i t
      simp only [guardE_bool]
      by_cases hb : t = b
      · subst hb
        simp only [beq_self_eq_true, if_true]
        rfl
      · have : (t == b) = false := by simpa using hb
        rw [this]
        simp only [hb, if_false]
        rfl
    · rename_i vs
      cases vs with
      | nil => rfl
      | cons v vs => simp [guardE]

theorem comm_pl (r : Option AV) (f : Eff) : (Eff.pure r).comm f = true := by cases f <;> rfl
theorem comm_pr (r : Option AV) (f : Eff) : f.comm (Eff.pure r) = true := by cases f <;> rfl
attribute [simp] comm_pl comm_pr
@[simp] theorem comm_rr (i j : Nat) (f g : AObj → Option AV) : (Eff.read i f).comm (Eff.read j g) = true := rfl
@[simp] theorem comm_rw (i j : Nat) (f : AObj → Option AV) (g : AObj → Option (AV × AObj)) : (Eff.read i f).comm (Eff.write j g) = (i != j) := rfl
@[simp] theorem comm_wr (i j : Nat) (f : AObj → Option AV) (g : AObj → Option (AV × AObj)) : (Eff.write j g).comm (Eff.read i f) = (j != i) := rfl
@[simp] theorem comm_ww (i j : Nat) (f g : AObj → Option (AV × AObj)) : (Eff.write i f).comm (Eff.write j g) = (i != j) := rfl

/-! ### One operation -/
variable (E : Env) (dst : Option Nat) (tm : Nat → AV)

def moveR (own : Bool) : Option AV → Eff
  | some .e0 => if own then .new [.arr 0 [] 0] (fun b => .own b 0) else .pure (some .e0)
  | some v => .pure (some v)
  | none => .pure none
@[simp] theorem moveR_p (own : Bool) (x : PV) : moveR own (some (.p x)) = .pure (some (.p x)) := rfl
@[simp] theorem moveR_agg (own : Bool) (x : List AV) : moveR own (some (.agg x)) = .pure (some (.agg x)) := rfl
@[simp] theorem moveR_tup (own : Bool) (x : List AV) : moveR own (some (.tup x)) = .pure (some (.tup x)) := rfl
@[simp] theorem moveR_ro (own : Bool) (x : List PV) : moveR own (some (.ro x)) = .pure (some (.ro x)) := rfl
@[simp] theorem moveR_ptr (own : Bool) (i o : Nat) : moveR own (some (.ptr i o)) = .pure (some (.ptr i o)) := rfl
@[simp] theorem moveR_own (own : Bool) (i o : Nat) : moveR own (some (.own i o)) = .pure (some (.own i o)) := rfl
@[simp] theorem moveR_map (own : Bool) (i : Nat) : moveR own (some (.map i)) = .pure (some (.map i)) := rfl
@[simp] theorem moveR_fn (own : Bool) (f : FuncId) (x y : List AV) : moveR own (some (.fn f x y)) = .pure (some (.fn f x y)) := rfl
@[simp] theorem moveR_yld (own : Bool) (i : Nat) : moveR own (some (.yld i)) = .pure (some (.yld i)) := rfl
@[simp] theorem moveR_e0 (own : Bool) : moveR own (some .e0) = if own then .new [.arr 0 [] 0] (fun b => .own b 0) else .pure (some .e0) := rfl
@[simp] theorem op_move (x : Operand) : opEff E dst (evA tm) (.move x) = moveR (ownD E dst) (evA tm x) := rfl
@[simp] theorem op_assign (x : Operand) : opEff E dst (evA tm) (.assign x) = moveR (ownD E dst) (evA tm x) := rfl

def pickR (x y : Option AV) : Option AV → Eff
  | some (.p (.val (.bool t))) => .pure (if t then x else y)
  | _ => .pure none
@[simp] theorem pickR_bool (x y : Option AV) (t : Bool) : pickR x y (some (.p (.val (.bool t)))) = .pure (if t then x else y) := rfl
@[simp] theorem op_pick (c x y : Operand) : opEff E dst (evA tm) (.pick c x y) = pickR (evA tm x) (evA tm y) (evA tm c) := rfl

def allocR (own : Bool) : Option AV → Eff
  | some z => if z.solid then (if own then .full (fun σ => some (.ptr (σ.length + (newBox σ.length z.cells).2.length) 0, σ ++ (newBox σ.length z.cells).2 ++ [.box (newBox σ.length z.cells).1]))
      else .new [.box z.cells] (fun b => .ptr b 0)) else .pure none
  | none => .pure none
@[simp] theorem allocR_some (own : Bool) (z : AV) : allocR own (some z) = if z.solid then (if own then .full (fun σ => some (.ptr (σ.length + (newBox σ.length z.cells).2.length) 0, σ ++ (newBox σ.length z.cells).2 ++ [.box (newBox σ.length z.cells).1]))
      else .new [.box z.cells] (fun b => .ptr b 0)) else .pure none := rfl
@[simp] theorem op_alloc (T : TypeId) : opEff E dst (evA tm) (.alloc T) = allocR (ownD E dst) (zeroT E.P T) := rfl

def boxR : Option AV → Eff
  | some v => if v.solid then .new [.box v.cells] (fun b => .ptr b 0) else .pure none
  | none => .pure none
@[simp] theorem boxR_some (v : AV) : boxR (some v) = if v.solid then .new [.box v.cells] (fun b => .ptr b 0) else .pure none := rfl
@[simp] theorem op_box (T : TypeId) (x : Operand) : opEff E dst (evA tm) (.box T x) = boxR (evA tm x) := rfl

@[simp] theorem partsA_nil : partsA (evA tm) [] = some [] := rfl
@[simp] theorem partsA_cons (i : Nat) (x : Operand) (r : List (Nat × Operand)) : partsA (evA tm) ((i, x) :: r) = bindR (evA tm x) fun v => bindR (partsA (evA tm) r) fun vs => some ((i, v) :: vs) := by
  simp only [partsA]
  cases evA tm x with
  | none => rfl
  | some v => simp only [bindR_some]; cases partsA (evA tm) r <;> rfl
@[simp] theorem argsA_nil : argsA (evA tm) [] = some [] := rfl
@[simp] theorem argsA_cons (x : Operand) (r : List Operand) : argsA (evA tm) (x :: r) = bindR (evA tm x) fun v => bindR (argsA (evA tm) r) fun vs => some (v :: vs) := by
  simp only [argsA]
  cases evA tm x with
  | none => rfl
  | some v => simp only [bindR_some]; cases argsA (evA tm) r <;> rfl

@[simp] theorem op_build (T : TypeId) (l : List (Nat × Operand)) : opEff E dst (evA tm) (.build T l.toArray) = .pure (bindR (partsA (evA tm) l) fun ps => buildA E.P T ps) := by
  simp only [opEff, List.toList_toArray]
  cases partsA (evA tm) l <;> rfl

def sliceR (P : Program) (own : Bool) (len : Nat) : Option TypeId → Option (List (Nat × AV)) → Eff
  | some e, some ps => match elemsA (szT P e) 0 ps with
      | some es => if es.length = len ∧ len * szT P e ≤ 2 ^ 24 ∧ 0 < szT P e ∧ (zeroT P e).isSome then (if own then (if len = 0 then .pure none else .new [.arr e es 0] (fun b => .own b es.length)) else .pure (some (.p (.list es)))) else .pure none
      | none => .pure none
  | _, _ => .pure none
def sliceR2 (P : Program) (own : Bool) (len : Nat) (e : TypeId) : Option (List PV) → Eff
  | some es => if es.length = len ∧ len * szT P e ≤ 2 ^ 24 ∧ 0 < szT P e ∧ (zeroT P e).isSome then (if own then (if len = 0 then .pure none else .new [.arr e es 0] (fun b => .own b es.length)) else .pure (some (.p (.list es)))) else .pure none
  | none => .pure none
@[simp] theorem sliceR2_some (P : Program) (own : Bool) (len : Nat) (e : TypeId) (es : List PV) : sliceR2 P own len e (some es) =
  if es.length = len ∧ len * szT P e ≤ 2 ^ 24 ∧ 0 < szT P e ∧ (zeroT P e).isSome then (if own then (if len = 0 then .pure none else .new [.arr e es 0] (fun b => .own b es.length)) else .pure (some (.p (.list es)))) else .pure none := rfl
@[simp] theorem sliceR_some (P : Program) (own : Bool) (len : Nat) (e : TypeId) (ps : List (Nat × AV)) : sliceR P own len (some e) (some ps) = sliceR2 P own len e (elemsA (szT P e) 0 ps) := by
  simp only [sliceR, sliceR2]
@[simp] theorem op_buildSlice (T : TypeId) (len : Nat) (l : List (Nat × Operand)) : opEff E dst (evA tm) (.buildSlice T len l.toArray) = sliceR E.P (ownD E dst) len (elemT E.P T) (partsA (evA tm) l) := by
  simp only [opEff, List.toList_toArray, sliceR]
  cases elemT E.P T <;> cases partsA (evA tm) l <;> rfl
@[simp] theorem elemsA_nil (sz k : Nat) : elemsA sz k [] = some [] := rfl
@[simp] theorem elemsA_cons (sz k i : Nat) (v : AV) (r : List (Nat × AV)) : elemsA sz k ((i, v) :: r) = if i = k then bindR (wordOf v) (fun x => if x.cells.length = sz then bindR (elemsA sz (k + 1) r) (fun xs => some (x :: xs)) else none) else none := by
  simp only [elemsA]
  split
  · cases wordOf v with
    | none => rfl
    | some x =>
      simp only [bindR_some]
      split
      · cases elemsA sz (k + 1) r <;> rfl
      · rfl
  · rfl

def loadR (P : Program) (T : TypeId) : Option AV → Eff
  | some (.ptr id off) => .read id fun
      | .box cs => loadA P T (cs.drop off)
      | _ => none
  | some (.ro cs) => .pure (loadP P T cs)
  | some (.optr id n i off) => .read id fun
      | .arr _ es _ => if n = es.length then match es[i]? with
          | some e => loadP P T (e.cells.drop off)
          | none => none
        else none
      | _ => none
  | _ => .pure none
@[simp] theorem loadR_ptr (P : Program) (T : TypeId) (id off : Nat) : loadR P T (some (.ptr id off)) = .read id fun
      | .box cs => loadA P T (cs.drop off)
      | _ => none := rfl
@[simp] theorem loadR_ro (P : Program) (T : TypeId) (cs : List PV) : loadR P T (some (.ro cs)) = .pure (loadP P T cs) := rfl
@[simp] theorem loadR_optr (P : Program) (T : TypeId) (id n i off : Nat) : loadR P T (some (.optr id n i off)) = .read id fun
      | .arr _ es _ => if n = es.length then bindR es[i]? (fun e => loadP P T (e.cells.drop off)) else none
      | _ => none := by
  simp only [loadR]
  congr 1
  funext o
  cases o <;> try rfl
  simp only
  split
  · rename_i es _ _
    cases es[i]? <;> rfl
  · rfl
@[simp] theorem op_load (T : TypeId) (x : Operand) : opEff E dst (evA tm) (.load T x) = loadR E.P T (evA tm x) := rfl

def storeR (P : Program) (T : TypeId) : Option AV → Option AV → Eff
  | some (.ptr id off), some v => .write id fun
      | .box cs => if v.solid ∧ 0 < szT P T ∧ v.cells.length = szT P T ∧ off + szT P T ≤ cs.length then some (.tup [], .box (over cs off v.cells)) else none
      | _ => none
  | some (.optr id n i off), some v => match wordOf v with
      | some x => .write id fun
        | .arr T' es fz => match es[i]? with
          | some e => if n = es.length ∧ fz ≤ i ∧ 0 < szT P T ∧ x.cells.length = szT P T ∧ off + szT P T ≤ e.cells.length then some (.tup [], .arr T' (es.set i (setCells e (over e.cells off x.cells))) fz) else none
          | none => none
        | _ => none
      | none => .pure none
  | _, _ => .pure none
@[simp] theorem storeR_ptr (P : Program) (T : TypeId) (id off : Nat) (v : AV) : storeR P T (some (.ptr id off)) (some v) = .write id fun
      | .box cs => if v.solid ∧ 0 < szT P T ∧ v.cells.length = szT P T ∧ off + szT P T ≤ cs.length then some (.tup [], .box (over cs off v.cells)) else none
      | _ => none := rfl
@[simp] theorem op_store (T : TypeId) (x y : Operand) : opEff E dst (evA tm) (.store T x y) = storeR E.P T (evA tm x) (evA tm y) := rfl

def binR (P : Program) (op : BinOp) (T : TypeId) : Option AV → Option AV → Eff
  | some (.p (.val a)), some (.p (.val b)) => .pure ((binT P op T a b).map fun v => .p (.val v))
  | _, _ => .pure none
@[simp] theorem binR_val (P : Program) (op : BinOp) (T : TypeId) (a b : Value) : binR P op T (some (.p (.val a))) (some (.p (.val b))) = .pure ((binT P op T a b).map fun v => .p (.val v)) := rfl
@[simp] theorem op_bin (op : BinOp) (T T' : TypeId) (x y : Operand) : opEff E dst (evA tm) (.binOp op T x y T') = binR E.P op T (evA tm x) (evA tm y) := rfl
def unR (op : UnOp) : Option AV → Eff
  | some (.p (.val a)) => .pure ((unV op a).map fun v => .p (.val v))
  | _ => .pure none
@[simp] theorem unR_val (op : UnOp) (a : Value) : unR op (some (.p (.val a))) = .pure ((unV op a).map fun v => .p (.val v)) := rfl
@[simp] theorem op_un (op : UnOp) (T : TypeId) (x : Operand) : opEff E dst (evA tm) (.unOp op T x) = unR op (evA tm x) := rfl
def convR (P : Program) (S T : TypeId) : Option AV → Eff
  | some (.p (.val a)) => .pure ((convV P S T a).map fun v => .p (.val v))
  | _ => .pure none
@[simp] theorem convR_val (P : Program) (S T : TypeId) (a : Value) : convR P S T (some (.p (.val a))) = .pure ((convV P S T a).map fun v => .p (.val v)) := rfl
@[simp] theorem op_conv (S T : TypeId) (x : Operand) : opEff E dst (evA tm) (.convert S T x) = convR E.P S T (evA tm x) := rfl
@[simp] theorem op_makeFunc (f : FuncId) (l r : List Operand) : opEff E dst (evA tm) (.makeFunc (.func f) l.toArray r.toArray) = .pure (bindR (argsA (evA tm) l) fun xs => bindR (argsA (evA tm) r) fun ys => some (.fn f xs ys)) := by
  simp only [opEff, List.toList_toArray]
  cases argsA (evA tm) l <;> cases argsA (evA tm) r <;> rfl
@[simp] theorem op_makeMap (T : TypeId) : opEff E dst (evA tm) (.makeMap T none) = .new [.map []] (fun b => .map b) := rfl
def fieldR : Option Nat → Option AV → Eff
    | some k, some (.ptr id off) => .pure (some (.ptr id (off + k)))
    | some k, some (.ro cs) => .pure (some (.ro (cs.drop k)))
    | some k, some (.optr id n i off) => .pure (some (.optr id n i (off + k)))
    | _, _ => .pure none
@[simp] theorem fieldR_ptr (k id off : Nat) : fieldR (some k) (some (.ptr id off)) = .pure (some (.ptr id (off + k))) := rfl
@[simp] theorem fieldR_ro (k : Nat) (cs : List PV) : fieldR (some k) (some (.ro cs)) = .pure (some (.ro (cs.drop k))) := rfl
@[simp] theorem fieldR_optr (k id n i off : Nat) : fieldR (some k) (some (.optr id n i off)) = .pure (some (.optr id n i (off + k))) := rfl
@[simp] theorem op_field (T : TypeId) (x : Operand) (f : Nat) : opEff E dst (evA tm) (.fieldAddr T x f) = fieldR (fldT E.P T f) (evA tm x) := rfl
def indexR (P : Program) (T : TypeId) : Option AV → Option AV → Eff
  | some x, some i => indexEff P T x i
  | _, _ => .pure none
def indexR2 (P : Program) (i : Int) (x : AV) : Option TypeId → Eff
  | some e => match x with
    | .p (.list es) => .pure (if 0 ≤ i then bindR es[i.toNat]? (fun x => if 0 < szT P e ∧ x.cells.length = szT P e then some (.ro x.cells) else none) else none)
    | .own id n => .read id fun
      | .arr T' es _ => if n = es.length ∧ 0 ≤ i ∧ i < n ∧ T' = e then some (.optr id n i.toNat 0) else none
      | _ => none
    | _ => .pure none
  | none => .pure none
@[simp] theorem indexR2_list (P : Program) (i : Int) (es : List PV) (e : TypeId) : indexR2 P i (.p (.list es)) (some e) = .pure (if 0 ≤ i then bindR es[i.toNat]? (fun x => if 0 < szT P e ∧ x.cells.length = szT P e then some (.ro x.cells) else none) else none) := rfl
@[simp] theorem indexR2_own (P : Program) (i : Int) (id n : Nat) (e : TypeId) : indexR2 P i (.own id n) (some e) = .read id fun
      | .arr T' es _ => if n = es.length ∧ 0 ≤ i ∧ i < n ∧ T' = e then some (.optr id n i.toNat 0) else none
      | _ => none := rfl
@[simp] theorem indexR_int (P : Program) (T : TypeId) (x : AV) (k : IntKind) (i : Int) : indexR P T (some x) (some (.p (.val (.int k i)))) = indexR2 P i x (elemT P T) := by
  simp only [indexR, indexR2, indexEff, idxOf]
  cases elemT P T with
  | none => rfl
  | some e =>
    cases x <;> try rfl
    rename_i x
    cases x <;> try rfl
    simp only
    congr 1
    split
    · rename_i es _
      cases es[i.toNat]? <;> rfl
    · rfl
@[simp] theorem op_index (T : TypeId) (x i : Operand) : opEff E dst (evA tm) (.indexAddr T x i) = indexR E.P T (evA tm x) (evA tm i) := by
  simp only [opEff, indexR]
  cases evA tm x <;> cases evA tm i <;> rfl
def extractR (i : Nat) : Option AV → Eff
  | some (.tup vs) => .pure vs[i]?
  | _ => .pure none
@[simp] theorem extractR_tup (i : Nat) (vs : List AV) : extractR i (some (.tup vs)) = .pure vs[i]? := rfl
@[simp] theorem op_extract (x : Operand) (i : Nat) : opEff E dst (evA tm) (.extract x i) = extractR i (evA tm x) := rfl

def callR (own : Bool) : Option AV → Option (List AV) → Eff
  | some fv, some args => callEff E fv args
  | _, _ => .pure none
@[simp] theorem callR_some (own : Bool) (fv : AV) (args : List AV) : callR E own (some fv) (some args) = callEff E fv args := rfl
@[simp] theorem op_call (f : Operand) (l : List Operand) (Ts : Array TypeId) : opEff E dst (evA tm) (.call ⟨.value f, l.toArray, Ts⟩) = callR E (ownD E dst) (evA tm f) (argsA (evA tm) l) := by
  simp only [opEff, callR, List.toList_toArray]
  cases evA tm f <;> cases argsA (evA tm) l <;> rfl
def builtR (own : Bool) (b : Builtin) (Ts : Array TypeId) : Option (List AV) → Eff
  | some args => builtinEff E.P own b Ts args
  | none => .pure none
@[simp] theorem builtR_some (own : Bool) (b : Builtin) (Ts : Array TypeId) (args : List AV) : builtR E own b Ts (some args) = builtinEff E.P own b Ts args := rfl
@[simp] theorem op_builtin (b : Builtin) (l : List Operand) (Ts : Array TypeId) : opEff E dst (evA tm) (.call ⟨.builtin b, l.toArray, Ts⟩) = builtR E (ownD E dst) b Ts (argsA (evA tm) l) := by
  simp only [opEff, List.toList_toArray]
  cases argsA (evA tm) l <;> rfl

@[simp] theorem callEff_func (f : FuncId) (x y : Array Value) (args : List AV) : callEff E (.p (.val (.func (.func f) x y))) args = if E.H.shared f then sharedEff E (.fn f [] []) args else pureEff E f args := rfl
@[simp] theorem callEff_fn (f : FuncId) (x y : List AV) (args : List AV) : callEff E (.fn f x y) args = sharedEff E (.fn f x y) args := rfl
@[simp] theorem callEff_yld (i : Nat) (args : List AV) : callEff E (.yld i) args = sharedEff E (.yld i) args := rfl

def pureR (ids : List Nat) (f : FuncId) (args : List AV) : Eff := match ids with
  | [] => match frzL [] args with
    | some ps => .pure (E.pr f ps)
    | none => .pure none
  | ids => .full fun σ => match frzL σ args with
    | some ps => match E.pr f ps with
      | some r => some (r, fzAll σ ids)
      | none => none
    | none => none
@[simp] theorem pureR_nil (f : FuncId) (args : List AV) : pureR E [] f args = .pure (bindR (frzL [] args) fun ps => E.pr f ps) := by
  simp only [pureR]; cases frzL [] args <;> rfl
@[simp] theorem pureR_cons (i : Nat) (ids : List Nat) (f : FuncId) (args : List AV) : pureR E (i :: ids) f args = .full fun σ => bindR (frzL σ args) fun ps => bindR (E.pr f ps) fun r => some (r, fzAll σ (i :: ids)) := by
  simp only [pureR]
  congr 1
  funext σ
  cases frzL σ args with
  | none => rfl
  | some ps => simp only [bindR_some]; cases E.pr f ps <;> rfl
@[simp] theorem pureEff_eq (f : FuncId) (args : List AV) : pureEff E f args = pureR E (args.flatMap ownIds) f args := by
  unfold pureEff pureR
  cases args.flatMap ownIds with
  | nil => rfl
  | cons i ids => rfl

@[simp] theorem frzL_nil (σ : Store) : frzL σ [] = some [] := rfl
@[simp] theorem frzL_cons (σ : Store) (c : AV) (cs : List AV) : frzL σ (c :: cs) = bindR (frz σ c) fun x => bindR (frzL σ cs) fun xs => some (x :: xs) := by
  simp only [frzL]
  cases frz σ c with
  | none => rfl
  | some x => simp only [bindR_some]; cases frzL σ cs <;> rfl
@[simp] theorem frz_p (σ : Store) (x : PV) : frz σ (.p x) = some x := rfl
@[simp] theorem frz_e0 (σ : Store) : frz σ .e0 = some (.list []) := rfl
@[simp] theorem frz_agg (σ : Store) (cs : List AV) : frz σ (.agg cs) = (frzL σ cs).map .agg := rfl
def frzO (n : Nat) : Option AObj → Option PV
  | some (.arr _ es _) => if n = es.length then some (.list es) else none
  | _ => none
@[simp] theorem frzO_arr (n : Nat) (T : TypeId) (es : List PV) (fz : Nat) : frzO n (some (.arr T es fz)) = if n = es.length then some (.list es) else none := rfl
@[simp] theorem frz_own (σ : Store) (id n : Nat) : frz σ (.own id n) = frzO n σ[id]? := by
  simp only [frz, frzO]
  split <;> simp_all
@[simp] theorem frz_fn (σ : Store) (f : FuncId) (x y : List AV) : frz σ (.fn f x y) = none := rfl
@[simp] theorem frz_ptr (σ : Store) (i j : Nat) : frz σ (.ptr i j) = none := rfl
@[simp] theorem frz_yld (σ : Store) (i : Nat) : frz σ (.yld i) = none := rfl

attribute [simp] below belows belowO cleanA gcA dstOf numI boolA ownIds finish argA fzAll fzAt mkAgg AV.pv tupA retA resA binT binV unV convV loadA loadP lenA sliceOf maxV minV builtinEff appendEff scalarB cellConst ofConst

end Go.Ab
