/-
  The program of the seat, for the interpreter.
-/
import Derived.Test.YtlgjecmpmifjpaaAbV
import Derived.Test.YtlgjecmpmifjpaaProg
import Derived.KernelRfl
set_option linter.unusedVariables false
namespace Go.Ab
open Go.Proofs

def HT : Hint := { own := fun f t => [(11,3),(19,3),(20,12),(21,14),(25,3),(41,57)].contains (f,t), shared := fun f => f == 29, keep := fun f => f == 39 }
@[irreducible] noncomputable def TP : Program := Try.prog
theorem TP_eq : TP = Try.prog := by unfold TP; rfl

noncomputable def mkE (n : Nat) (f : FuncId) (r : Bool) : Env := ⟨TP, HT, f, prA TP HT n, invA TP HT n, n, r⟩
@[simp] theorem mkE_P (n : Nat) (f : FuncId) (r : Bool) : (mkE n f r).P = TP := rfl
@[simp] theorem mkE_H (n : Nat) (f : FuncId) (r : Bool) : (mkE n f r).H = HT := rfl
@[simp] theorem mkE_pr (n : Nat) (f : FuncId) (r : Bool) : (mkE n f r).pr = prA TP HT n := rfl
@[simp] theorem mkE_inv (n : Nat) (f : FuncId) (r : Bool) : (mkE n f r).inv = invA TP HT n := rfl
@[simp] theorem mkE_K (n : Nat) (f : FuncId) (r : Bool) : (mkE n f r).K = n := rfl
@[simp] theorem mkE_inR (n : Nat) (f : FuncId) (r : Bool) : (mkE n f r).inR = r := rfl
@[simp] theorem mkE_fid (n : Nat) (f : FuncId) (r : Bool) : (mkE n f r).fid = f := rfl
@[simp] theorem ownD_none (E : Env) : ownD E none = false := rfl
@[simp] theorem ownD_some (n : Nat) (f : FuncId) (r : Bool) (d : Nat) : ownD (mkE n f r) (some d) = [(11,3),(19,3),(20,12),(21,14),(25,3),(41,57)].contains (f,d) := rfl
@[simp] theorem HT_shared (f : FuncId) : HT.shared f = (f == 29) := rfl
@[simp] theorem HT_keep (f : FuncId) : HT.keep f = (f == 39) := rfl

def finR : Option (AV × Store) → Option AV
  | some (v, σ) => finish σ v
  | none => none
@[simp] theorem finR_some (v : AV) (σ : Store) : finR (some (v, σ)) = finish σ v := rfl
@[simp] theorem finR_none : finR none = none := rfl

noncomputable def bodyR (n : Nat) (f : FuncId) (fn : Func) (args : List AV) (σ : Store) : Option (AV × Store) := match fn.body with
  | some c => if args.length ≤ fn.ntmps ∧ fn.name ≠ "runtime.NumGoroutine" then retA TP fn.results.toList (codeA (mkE n f false) fn.ntmps c ⟨argTm args, σ⟩) else none
  | none => none

theorem inv_run {n : Nat} {f : FuncId} {fn : Func} {first args cap : List AV} {σ : Store} (hf : TP.funcs[f]? = some fn) : invA TP HT (n + 1) (.fn f first cap) args σ = bodyR n f fn (first ++ args ++ cap) σ := by
  simp only [invA, hf, bodyR]
  rfl
theorem pr_run {n : Nat} {f : FuncId} {fn : Func} {ps : List PV} (hf : TP.funcs[f]? = some fn) : prA TP HT (n + 1) f ps = finR (bodyR n f fn (ps.map .p) []) := by
  simp only [prA, inv_run hf, List.nil_append, List.append_nil]
  cases bodyR n f fn (ps.map .p) [] with
  | none => rfl
  | some x => rfl

@[simp] theorem szT1 : szT TP 1 = 1 := by unfold TP; rfl
@[simp] theorem kindT1 : kindT TP 1 = some false := by unfold TP; rfl
@[simp] theorem zeroT1 : zeroT TP 1 = some (.p (.val .nilFunc)) := by unfold TP; rfl
@[simp] theorem roomB1 (n : Nat) : roomB TP 1 n = decide (n * 9 ≤ 2 ^ 40) := by unfold TP; rfl
@[simp] theorem szT2 : szT TP 2 = 1 := by unfold TP; rfl
@[simp] theorem kindT2 : kindT TP 2 = some false := by unfold TP; rfl
@[simp] theorem zeroT2 : zeroT TP 2 = some (.p (.val (.int .i64 (0)))) := by unfold TP; rfl
@[simp] theorem roomB2 (n : Nat) : roomB TP 2 n = decide (n * 9 ≤ 2 ^ 40) := by unfold TP; rfl
@[simp] theorem und2 : TP.underlying 2 = some (.int .i64) := by unfold TP; rfl
@[simp] theorem szT3 : szT TP 3 = 1 := by unfold TP; rfl
@[simp] theorem kindT3 : kindT TP 3 = some false := by unfold TP; rfl
@[simp] theorem zeroT3 : zeroT TP 3 = some (.p (.val (.int .i64 (0)))) := by unfold TP; rfl
@[simp] theorem roomB3 (n : Nat) : roomB TP 3 n = decide (n * 9 ≤ 2 ^ 40) := by unfold TP; rfl
@[simp] theorem und3 : TP.underlying 3 = some (.int .i64) := by unfold TP; rfl
@[simp] theorem szT4 : szT TP 4 = 1 := by unfold TP; rfl
@[simp] theorem kindT4 : kindT TP 4 = some false := by unfold TP; rfl
@[simp] theorem zeroT4 : zeroT TP 4 = some (.p (.val (.bool false))) := by unfold TP; rfl
@[simp] theorem roomB4 (n : Nat) : roomB TP 4 n = decide (n * 2 ≤ 2 ^ 40) := by unfold TP; rfl
@[simp] theorem und4 : TP.underlying 4 = some .bool := by unfold TP; rfl
@[simp] theorem szT5 : szT TP 5 = 1 := by unfold TP; rfl
@[simp] theorem kindT5 : kindT TP 5 = some false := by unfold TP; rfl
@[simp] theorem zeroT5 : zeroT TP 5 = some (.p (.val (.int .u8 (0)))) := by unfold TP; rfl
@[simp] theorem roomB5 (n : Nat) : roomB TP 5 n = decide (n * 2 ≤ 2 ^ 40) := by unfold TP; rfl
@[simp] theorem und5 : TP.underlying 5 = some (.int .u8) := by unfold TP; rfl
@[simp] theorem szT6 : szT TP 6 = 1 := by unfold TP; rfl
@[simp] theorem kindT6 : kindT TP 6 = some false := by unfold TP; rfl
@[simp] theorem zeroT6 : zeroT TP 6 = some (.p (.val (.int .u8 (0)))) := by unfold TP; rfl
@[simp] theorem roomB6 (n : Nat) : roomB TP 6 n = decide (n * 2 ≤ 2 ^ 40) := by unfold TP; rfl
@[simp] theorem und6 : TP.underlying 6 = some (.int .u8) := by unfold TP; rfl
@[simp] theorem szT7 : szT TP 7 = 4 := by unfold TP; rfl
@[simp] theorem kindT7 : kindT TP 7 = some true := by unfold TP; rfl
@[simp] theorem zeroT7 : zeroT TP 7 = some (.p (.agg [(.val (.int .i64 (0))), (.val (.int .i64 (0))), (.val (.bool false)), (.val (.int .u8 (0)))])) := by unfold TP; rfl
@[simp] theorem roomB7 (n : Nat) : roomB TP 7 n = decide (n * 25 ≤ 2 ^ 40) := by unfold TP; rfl
@[simp] theorem fldT7_0 : fldT TP 7 0 = some 0 := by unfold TP; rfl
@[simp] theorem fldT7_1 : fldT TP 7 1 = some 1 := by unfold TP; rfl
@[simp] theorem fldT7_2 : fldT TP 7 2 = some 2 := by unfold TP; rfl
@[simp] theorem fldT7_3 : fldT TP 7 3 = some 3 := by unfold TP; rfl
@[simp] theorem placesT7 : placesT TP 7 = some [(0, 1), (1, 1), (2, 1), (3, 1)] := by unfold TP; rfl
@[simp] theorem szT8 : szT TP 8 = 4 := by unfold TP; rfl
@[simp] theorem kindT8 : kindT TP 8 = some true := by unfold TP; rfl
@[simp] theorem zeroT8 : zeroT TP 8 = some (.p (.agg [(.val (.int .i64 (0))), (.val (.int .i64 (0))), (.val (.bool false)), (.val (.int .u8 (0)))])) := by unfold TP; rfl
@[simp] theorem roomB8 (n : Nat) : roomB TP 8 n = decide (n * 25 ≤ 2 ^ 40) := by unfold TP; rfl
@[simp] theorem fldT8_0 : fldT TP 8 0 = some 0 := by unfold TP; rfl
@[simp] theorem fldT8_1 : fldT TP 8 1 = some 1 := by unfold TP; rfl
@[simp] theorem fldT8_2 : fldT TP 8 2 = some 2 := by unfold TP; rfl
@[simp] theorem fldT8_3 : fldT TP 8 3 = some 3 := by unfold TP; rfl
@[simp] theorem placesT8 : placesT TP 8 = some [(0, 1), (1, 1), (2, 1), (3, 1)] := by unfold TP; rfl
@[simp] theorem szT9 : szT TP 9 = 1 := by unfold TP; rfl
@[simp] theorem kindT9 : kindT TP 9 = some false := by unfold TP; rfl
@[simp] theorem zeroT9 : zeroT TP 9 = some (.p (.val (.string ⟨#[]⟩))) := by unfold TP; rfl
@[simp] theorem roomB9 (n : Nat) : roomB TP 9 n = decide (n * 17 ≤ 2 ^ 40) := by unfold TP; rfl
@[simp] theorem und9 : TP.underlying 9 = some .string := by unfold TP; rfl
@[simp] theorem szT10 : szT TP 10 = 1 := by unfold TP; rfl
@[simp] theorem kindT10 : kindT TP 10 = some false := by unfold TP; rfl
@[simp] theorem zeroT10 : zeroT TP 10 = some (.p (.val (.string ⟨#[]⟩))) := by unfold TP; rfl
@[simp] theorem roomB10 (n : Nat) : roomB TP 10 n = decide (n * 17 ≤ 2 ^ 40) := by unfold TP; rfl
@[simp] theorem und10 : TP.underlying 10 = some .string := by unfold TP; rfl
@[simp] theorem szT11 : szT TP 11 = 1 := by unfold TP; rfl
@[simp] theorem kindT11 : kindT TP 11 = some false := by unfold TP; rfl
@[simp] theorem zeroT11 : zeroT TP 11 = some (.p (.val (.string ⟨#[]⟩))) := by unfold TP; rfl
@[simp] theorem roomB11 (n : Nat) : roomB TP 11 n = decide (n * 17 ≤ 2 ^ 40) := by unfold TP; rfl
@[simp] theorem und11 : TP.underlying 11 = some .string := by unfold TP; rfl
@[simp] theorem szT12 : szT TP 12 = 1 := by unfold TP; rfl
@[simp] theorem kindT12 : kindT TP 12 = some false := by unfold TP; rfl
@[simp] theorem zeroT12 : zeroT TP 12 = some (.p (.val (.int .u64 (0)))) := by unfold TP; rfl
@[simp] theorem roomB12 (n : Nat) : roomB TP 12 n = decide (n * 9 ≤ 2 ^ 40) := by unfold TP; rfl
@[simp] theorem und12 : TP.underlying 12 = some (.int .u64) := by unfold TP; rfl
@[simp] theorem szT13 : szT TP 13 = 2 := by unfold TP; rfl
@[simp] theorem kindT13 : kindT TP 13 = some true := by unfold TP; rfl
@[simp] theorem zeroT13 : zeroT TP 13 = some (.p (.agg [(.val (.string ⟨#[]⟩)), (.val (.int .u64 (0)))])) := by unfold TP; rfl
@[simp] theorem roomB13 (n : Nat) : roomB TP 13 n = decide (n * 25 ≤ 2 ^ 40) := by unfold TP; rfl
@[simp] theorem fldT13_0 : fldT TP 13 0 = some 0 := by unfold TP; rfl
@[simp] theorem fldT13_1 : fldT TP 13 1 = some 1 := by unfold TP; rfl
@[simp] theorem placesT13 : placesT TP 13 = some [(0, 1), (1, 1)] := by unfold TP; rfl
@[simp] theorem szT14 : szT TP 14 = 2 := by unfold TP; rfl
@[simp] theorem kindT14 : kindT TP 14 = some true := by unfold TP; rfl
@[simp] theorem zeroT14 : zeroT TP 14 = some (.p (.agg [(.val (.string ⟨#[]⟩)), (.val (.int .u64 (0)))])) := by unfold TP; rfl
@[simp] theorem roomB14 (n : Nat) : roomB TP 14 n = decide (n * 25 ≤ 2 ^ 40) := by unfold TP; rfl
@[simp] theorem fldT14_0 : fldT TP 14 0 = some 0 := by unfold TP; rfl
@[simp] theorem fldT14_1 : fldT TP 14 1 = some 1 := by unfold TP; rfl
@[simp] theorem placesT14 : placesT TP 14 = some [(0, 1), (1, 1)] := by unfold TP; rfl
@[simp] theorem szT15 : szT TP 15 = 1 := by unfold TP; rfl
@[simp] theorem kindT15 : kindT TP 15 = some false := by unfold TP; rfl
@[simp] theorem zeroT15 : zeroT TP 15 = some (.p (.val (.pointer none))) := by unfold TP; rfl
@[simp] theorem roomB15 (n : Nat) : roomB TP 15 n = decide (n * 9 ≤ 2 ^ 40) := by unfold TP; rfl
@[simp] theorem szT16 : szT TP 16 = 1 := by unfold TP; rfl
@[simp] theorem kindT16 : kindT TP 16 = some false := by unfold TP; rfl
@[simp] theorem zeroT16 : zeroT TP 16 = some (.p (.val (.pointer none))) := by unfold TP; rfl
@[simp] theorem roomB16 (n : Nat) : roomB TP 16 n = decide (n * 9 ≤ 2 ^ 40) := by unfold TP; rfl
@[simp] theorem szT17 : szT TP 17 = 1 := by unfold TP; rfl
@[simp] theorem kindT17 : kindT TP 17 = some false := by unfold TP; rfl
@[simp] theorem zeroT17 : zeroT TP 17 = some (.p (.val (.pointer none))) := by unfold TP; rfl
@[simp] theorem roomB17 (n : Nat) : roomB TP 17 n = decide (n * 9 ≤ 2 ^ 40) := by unfold TP; rfl
@[simp] theorem szT18 : szT TP 18 = 1 := by unfold TP; rfl
@[simp] theorem kindT18 : kindT TP 18 = some true := by unfold TP; rfl
@[simp] theorem zeroT18 : zeroT TP 18 = some (.p (.agg [(.val (.pointer none))])) := by unfold TP; rfl
@[simp] theorem roomB18 (n : Nat) : roomB TP 18 n = decide (n * 9 ≤ 2 ^ 40) := by unfold TP; rfl
@[simp] theorem fldT18_0 : fldT TP 18 0 = some 0 := by unfold TP; rfl
@[simp] theorem placesT18 : placesT TP 18 = some [(0, 1)] := by unfold TP; rfl
@[simp] theorem szT19 : szT TP 19 = 1 := by unfold TP; rfl
@[simp] theorem kindT19 : kindT TP 19 = some true := by unfold TP; rfl
@[simp] theorem zeroT19 : zeroT TP 19 = some (.p (.agg [(.val (.pointer none))])) := by unfold TP; rfl
@[simp] theorem roomB19 (n : Nat) : roomB TP 19 n = decide (n * 9 ≤ 2 ^ 40) := by unfold TP; rfl
@[simp] theorem fldT19_0 : fldT TP 19 0 = some 0 := by unfold TP; rfl
@[simp] theorem placesT19 : placesT TP 19 = some [(0, 1)] := by unfold TP; rfl
@[simp] theorem szT21 : szT TP 21 = 1 := by unfold TP; rfl
@[simp] theorem kindT21 : kindT TP 21 = some false := by unfold TP; rfl
@[simp] theorem zeroT21 : zeroT TP 21 = some (.p (.val (.int .i32 (0)))) := by unfold TP; rfl
@[simp] theorem roomB21 (n : Nat) : roomB TP 21 n = decide (n * 5 ≤ 2 ^ 40) := by unfold TP; rfl
@[simp] theorem und21 : TP.underlying 21 = some (.int .i32) := by unfold TP; rfl
@[simp] theorem szT22 : szT TP 22 = 1 := by unfold TP; rfl
@[simp] theorem kindT22 : kindT TP 22 = some false := by unfold TP; rfl
@[simp] theorem zeroT22 : zeroT TP 22 = some .e0 := by unfold TP; rfl
@[simp] theorem roomB22 (n : Nat) : roomB TP 22 n = decide (n * 25 ≤ 2 ^ 40) := by unfold TP; rfl
@[simp] theorem elemT22 : elemT TP 22 = some 24 := by unfold TP; rfl
@[simp] theorem und22 : TP.underlying 22 = some (.slice 24) := by unfold TP; rfl
@[simp] theorem szT23 : szT TP 23 = 2 := by unfold TP; rfl
@[simp] theorem kindT23 : kindT TP 23 = some true := by unfold TP; rfl
@[simp] theorem zeroT23 : zeroT TP 23 = some (.agg [(.p (.val (.int .i64 (0)))), .e0]) := by unfold TP; rfl
@[simp] theorem roomB23 (n : Nat) : roomB TP 23 n = decide (n * 33 ≤ 2 ^ 40) := by unfold TP; rfl
@[simp] theorem fldT23_0 : fldT TP 23 0 = some 0 := by unfold TP; rfl
@[simp] theorem fldT23_1 : fldT TP 23 1 = some 1 := by unfold TP; rfl
@[simp] theorem placesT23 : placesT TP 23 = some [(0, 1), (1, 1)] := by unfold TP; rfl
@[simp] theorem szT24 : szT TP 24 = 2 := by unfold TP; rfl
@[simp] theorem kindT24 : kindT TP 24 = some true := by unfold TP; rfl
@[simp] theorem zeroT24 : zeroT TP 24 = some (.agg [(.p (.val (.int .i64 (0)))), .e0]) := by unfold TP; rfl
@[simp] theorem roomB24 (n : Nat) : roomB TP 24 n = decide (n * 33 ≤ 2 ^ 40) := by unfold TP; rfl
@[simp] theorem fldT24_0 : fldT TP 24 0 = some 0 := by unfold TP; rfl
@[simp] theorem fldT24_1 : fldT TP 24 1 = some 1 := by unfold TP; rfl
@[simp] theorem placesT24 : placesT TP 24 = some [(0, 1), (1, 1)] := by unfold TP; rfl
@[simp] theorem szT25 : szT TP 25 = 1 := by unfold TP; rfl
@[simp] theorem kindT25 : kindT TP 25 = some false := by unfold TP; rfl
@[simp] theorem zeroT25 : zeroT TP 25 = some (.p (.val .nilFunc)) := by unfold TP; rfl
@[simp] theorem roomB25 (n : Nat) : roomB TP 25 n = decide (n * 9 ≤ 2 ^ 40) := by unfold TP; rfl
@[simp] theorem szT26 : szT TP 26 = 1 := by unfold TP; rfl
@[simp] theorem kindT26 : kindT TP 26 = some false := by unfold TP; rfl
@[simp] theorem zeroT26 : zeroT TP 26 = some (.p (.val .nilFunc)) := by unfold TP; rfl
@[simp] theorem roomB26 (n : Nat) : roomB TP 26 n = decide (n * 9 ≤ 2 ^ 40) := by unfold TP; rfl
@[simp] theorem szT27 : szT TP 27 = 1 := by unfold TP; rfl
@[simp] theorem kindT27 : kindT TP 27 = some false := by unfold TP; rfl
@[simp] theorem zeroT27 : zeroT TP 27 = some (.p (.val .nilFunc)) := by unfold TP; rfl
@[simp] theorem roomB27 (n : Nat) : roomB TP 27 n = decide (n * 9 ≤ 2 ^ 40) := by unfold TP; rfl
@[simp] theorem szT28 : szT TP 28 = 1 := by unfold TP; rfl
@[simp] theorem kindT28 : kindT TP 28 = some false := by unfold TP; rfl
@[simp] theorem zeroT28 : zeroT TP 28 = some (.p (.val .nilFunc)) := by unfold TP; rfl
@[simp] theorem roomB28 (n : Nat) : roomB TP 28 n = decide (n * 9 ≤ 2 ^ 40) := by unfold TP; rfl
@[simp] theorem szT29 : szT TP 29 = 1 := by unfold TP; rfl
@[simp] theorem kindT29 : kindT TP 29 = some false := by unfold TP; rfl
@[simp] theorem zeroT29 : zeroT TP 29 = some (.p (.val .nilFunc)) := by unfold TP; rfl
@[simp] theorem roomB29 (n : Nat) : roomB TP 29 n = decide (n * 9 ≤ 2 ^ 40) := by unfold TP; rfl
@[simp] theorem szT31 : szT TP 31 = 1 := by unfold TP; rfl
@[simp] theorem kindT31 : kindT TP 31 = some false := by unfold TP; rfl
@[simp] theorem zeroT31 : zeroT TP 31 = some (.p (.val .nilFunc)) := by unfold TP; rfl
@[simp] theorem roomB31 (n : Nat) : roomB TP 31 n = decide (n * 9 ≤ 2 ^ 40) := by unfold TP; rfl
@[simp] theorem szT32 : szT TP 32 = 1 := by unfold TP; rfl
@[simp] theorem kindT32 : kindT TP 32 = some false := by unfold TP; rfl
@[simp] theorem zeroT32 : zeroT TP 32 = some (.p (.val .nilFunc)) := by unfold TP; rfl
@[simp] theorem roomB32 (n : Nat) : roomB TP 32 n = decide (n * 9 ≤ 2 ^ 40) := by unfold TP; rfl
@[simp] theorem szT33 : szT TP 33 = 1 := by unfold TP; rfl
@[simp] theorem kindT33 : kindT TP 33 = some false := by unfold TP; rfl
@[simp] theorem zeroT33 : zeroT TP 33 = some (.p (.val .nilFunc)) := by unfold TP; rfl
@[simp] theorem roomB33 (n : Nat) : roomB TP 33 n = decide (n * 9 ≤ 2 ^ 40) := by unfold TP; rfl
@[simp] theorem szT34 : szT TP 34 = 1 := by unfold TP; rfl
@[simp] theorem kindT34 : kindT TP 34 = some false := by unfold TP; rfl
@[simp] theorem zeroT34 : zeroT TP 34 = some (.p (.val .nilFunc)) := by unfold TP; rfl
@[simp] theorem roomB34 (n : Nat) : roomB TP 34 n = decide (n * 9 ≤ 2 ^ 40) := by unfold TP; rfl
@[simp] theorem szT35 : szT TP 35 = 1 := by unfold TP; rfl
@[simp] theorem kindT35 : kindT TP 35 = some false := by unfold TP; rfl
@[simp] theorem zeroT35 : zeroT TP 35 = some (.p (.val .nilFunc)) := by unfold TP; rfl
@[simp] theorem roomB35 (n : Nat) : roomB TP 35 n = decide (n * 9 ≤ 2 ^ 40) := by unfold TP; rfl
@[simp] theorem szT36 : szT TP 36 = 1 := by unfold TP; rfl
@[simp] theorem kindT36 : kindT TP 36 = some false := by unfold TP; rfl
@[simp] theorem zeroT36 : zeroT TP 36 = some (.p (.val .nilFunc)) := by unfold TP; rfl
@[simp] theorem roomB36 (n : Nat) : roomB TP 36 n = decide (n * 9 ≤ 2 ^ 40) := by unfold TP; rfl
@[simp] theorem szT37 : szT TP 37 = 1 := by unfold TP; rfl
@[simp] theorem kindT37 : kindT TP 37 = some false := by unfold TP; rfl
@[simp] theorem zeroT37 : zeroT TP 37 = some (.p (.val .nilFunc)) := by unfold TP; rfl
@[simp] theorem roomB37 (n : Nat) : roomB TP 37 n = decide (n * 9 ≤ 2 ^ 40) := by unfold TP; rfl
@[simp] theorem szT38 : szT TP 38 = 1 := by unfold TP; rfl
@[simp] theorem kindT38 : kindT TP 38 = some false := by unfold TP; rfl
@[simp] theorem zeroT38 : zeroT TP 38 = some (.p (.val .nilFunc)) := by unfold TP; rfl
@[simp] theorem roomB38 (n : Nat) : roomB TP 38 n = decide (n * 9 ≤ 2 ^ 40) := by unfold TP; rfl
@[simp] theorem szT40 : szT TP 40 = 1 := by unfold TP; rfl
@[simp] theorem kindT40 : kindT TP 40 = some false := by unfold TP; rfl
@[simp] theorem zeroT40 : zeroT TP 40 = some (.p (.val .nilFunc)) := by unfold TP; rfl
@[simp] theorem roomB40 (n : Nat) : roomB TP 40 n = decide (n * 9 ≤ 2 ^ 40) := by unfold TP; rfl
@[simp] theorem szT41 : szT TP 41 = 1 := by unfold TP; rfl
@[simp] theorem kindT41 : kindT TP 41 = some false := by unfold TP; rfl
@[simp] theorem zeroT41 : zeroT TP 41 = some (.p (.val .nilFunc)) := by unfold TP; rfl
@[simp] theorem roomB41 (n : Nat) : roomB TP 41 n = decide (n * 9 ≤ 2 ^ 40) := by unfold TP; rfl
@[simp] theorem szT42 : szT TP 42 = 1 := by unfold TP; rfl
@[simp] theorem kindT42 : kindT TP 42 = some false := by unfold TP; rfl
@[simp] theorem zeroT42 : zeroT TP 42 = some (.p (.val .nilFunc)) := by unfold TP; rfl
@[simp] theorem roomB42 (n : Nat) : roomB TP 42 n = decide (n * 9 ≤ 2 ^ 40) := by unfold TP; rfl
@[simp] theorem szT43 : szT TP 43 = 1 := by unfold TP; rfl
@[simp] theorem kindT43 : kindT TP 43 = some false := by unfold TP; rfl
@[simp] theorem zeroT43 : zeroT TP 43 = some (.p (.val .nilFunc)) := by unfold TP; rfl
@[simp] theorem roomB43 (n : Nat) : roomB TP 43 n = decide (n * 9 ≤ 2 ^ 40) := by unfold TP; rfl
@[simp] theorem szT44 : szT TP 44 = 1 := by unfold TP; rfl
@[simp] theorem kindT44 : kindT TP 44 = some false := by unfold TP; rfl
@[simp] theorem zeroT44 : zeroT TP 44 = some (.p (.val .nilFunc)) := by unfold TP; rfl
@[simp] theorem roomB44 (n : Nat) : roomB TP 44 n = decide (n * 9 ≤ 2 ^ 40) := by unfold TP; rfl
@[simp] theorem szT45 : szT TP 45 = 1 := by unfold TP; rfl
@[simp] theorem kindT45 : kindT TP 45 = some false := by unfold TP; rfl
@[simp] theorem zeroT45 : zeroT TP 45 = some (.p (.val .nilFunc)) := by unfold TP; rfl
@[simp] theorem roomB45 (n : Nat) : roomB TP 45 n = decide (n * 9 ≤ 2 ^ 40) := by unfold TP; rfl
@[simp] theorem szT46 : szT TP 46 = 1 := by unfold TP; rfl
@[simp] theorem kindT46 : kindT TP 46 = some false := by unfold TP; rfl
@[simp] theorem zeroT46 : zeroT TP 46 = some (.p (.val .nilFunc)) := by unfold TP; rfl
@[simp] theorem roomB46 (n : Nat) : roomB TP 46 n = decide (n * 9 ≤ 2 ^ 40) := by unfold TP; rfl
@[simp] theorem szT47 : szT TP 47 = 2 := by unfold TP; rfl
@[simp] theorem kindT47 : kindT TP 47 = some true := by unfold TP; rfl
@[simp] theorem zeroT47 : zeroT TP 47 = some (.agg [(.p (.val (.int .i64 (0)))), .e0]) := by unfold TP; rfl
@[simp] theorem roomB47 (n : Nat) : roomB TP 47 n = decide (n * 33 ≤ 2 ^ 40) := by unfold TP; rfl
@[simp] theorem fldT47_0 : fldT TP 47 0 = some 0 := by unfold TP; rfl
@[simp] theorem placesT47 : placesT TP 47 = some [(0, 2)] := by unfold TP; rfl
@[simp] theorem szT48 : szT TP 48 = 2 := by unfold TP; rfl
@[simp] theorem kindT48 : kindT TP 48 = some true := by unfold TP; rfl
@[simp] theorem zeroT48 : zeroT TP 48 = some (.agg [(.p (.val (.int .i64 (0)))), .e0]) := by unfold TP; rfl
@[simp] theorem roomB48 (n : Nat) : roomB TP 48 n = decide (n * 33 ≤ 2 ^ 40) := by unfold TP; rfl
@[simp] theorem fldT48_0 : fldT TP 48 0 = some 0 := by unfold TP; rfl
@[simp] theorem placesT48 : placesT TP 48 = some [(0, 2)] := by unfold TP; rfl
@[simp] theorem szT49 : szT TP 49 = 1 := by unfold TP; rfl
@[simp] theorem kindT49 : kindT TP 49 = some false := by unfold TP; rfl
@[simp] theorem zeroT49 : zeroT TP 49 = some (.p (.val .nilFunc)) := by unfold TP; rfl
@[simp] theorem roomB49 (n : Nat) : roomB TP 49 n = decide (n * 9 ≤ 2 ^ 40) := by unfold TP; rfl
@[simp] theorem szT50 : szT TP 50 = 1 := by unfold TP; rfl
@[simp] theorem kindT50 : kindT TP 50 = some false := by unfold TP; rfl
@[simp] theorem zeroT50 : zeroT TP 50 = some (.p (.val (.map none))) := by unfold TP; rfl
@[simp] theorem roomB50 (n : Nat) : roomB TP 50 n = decide (n * 9 ≤ 2 ^ 40) := by unfold TP; rfl
@[simp] theorem und50 : TP.underlying 50 = some (.map 9 4) := by unfold TP; rfl
@[simp] theorem mapT50 : mapT TP 50 = some 4 := by unfold TP; rfl
@[simp] theorem szT51 : szT TP 51 = 1 := by unfold TP; rfl
@[simp] theorem kindT51 : kindT TP 51 = some false := by unfold TP; rfl
@[simp] theorem zeroT51 : zeroT TP 51 = some (.p (.val .nilFunc)) := by unfold TP; rfl
@[simp] theorem roomB51 (n : Nat) : roomB TP 51 n = decide (n * 9 ≤ 2 ^ 40) := by unfold TP; rfl
@[simp] theorem szT52 : szT TP 52 = 1 := by unfold TP; rfl
@[simp] theorem kindT52 : kindT TP 52 = some false := by unfold TP; rfl
@[simp] theorem zeroT52 : zeroT TP 52 = some .e0 := by unfold TP; rfl
@[simp] theorem roomB52 (n : Nat) : roomB TP 52 n = decide (n * 25 ≤ 2 ^ 40) := by unfold TP; rfl
@[simp] theorem elemT52 : elemT TP 52 = some 45 := by unfold TP; rfl
@[simp] theorem und52 : TP.underlying 52 = some (.slice 45) := by unfold TP; rfl
@[simp] theorem szT54 : szT TP 54 = 1 := by unfold TP; rfl
@[simp] theorem kindT54 : kindT TP 54 = some false := by unfold TP; rfl
@[simp] theorem zeroT54 : zeroT TP 54 = some (.p (.val .nilFunc)) := by unfold TP; rfl
@[simp] theorem roomB54 (n : Nat) : roomB TP 54 n = decide (n * 9 ≤ 2 ^ 40) := by unfold TP; rfl
@[simp] theorem szT55 : szT TP 55 = 1 := by unfold TP; rfl
@[simp] theorem kindT55 : kindT TP 55 = some false := by unfold TP; rfl
@[simp] theorem zeroT55 : zeroT TP 55 = some .e0 := by unfold TP; rfl
@[simp] theorem roomB55 (n : Nat) : roomB TP 55 n = decide (n * 25 ≤ 2 ^ 40) := by unfold TP; rfl
@[simp] theorem elemT55 : elemT TP 55 = some 3 := by unfold TP; rfl
@[simp] theorem und55 : TP.underlying 55 = some (.slice 3) := by unfold TP; rfl
@[simp] theorem szT57 : szT TP 57 = 1 := by unfold TP; rfl
@[simp] theorem kindT57 : kindT TP 57 = some false := by unfold TP; rfl
@[simp] theorem zeroT57 : zeroT TP 57 = some (.p (.val .nilFunc)) := by unfold TP; rfl
@[simp] theorem roomB57 (n : Nat) : roomB TP 57 n = decide (n * 9 ≤ 2 ^ 40) := by unfold TP; rfl
@[simp] theorem szT58 : szT TP 58 = 1 := by unfold TP; rfl
@[simp] theorem kindT58 : kindT TP 58 = some false := by unfold TP; rfl
@[simp] theorem zeroT58 : zeroT TP 58 = some (.p (.val .nilFunc)) := by unfold TP; rfl
@[simp] theorem roomB58 (n : Nat) : roomB TP 58 n = decide (n * 9 ≤ 2 ^ 40) := by unfold TP; rfl
@[simp] theorem szT59 : szT TP 59 = 4 := by unfold TP; rfl
@[simp] theorem kindT59 : kindT TP 59 = some true := by unfold TP; rfl
@[simp] theorem zeroT59 : zeroT TP 59 = some (.p (.agg [(.val (.pointer none)), (.val (.pointer none)), (.val (.pointer none)), (.val (.string ⟨#[]⟩))])) := by unfold TP; rfl
@[simp] theorem roomB59 (n : Nat) : roomB TP 59 n = decide (n * 41 ≤ 2 ^ 40) := by unfold TP; rfl
@[simp] theorem fldT59_0 : fldT TP 59 0 = some 0 := by unfold TP; rfl
@[simp] theorem fldT59_1 : fldT TP 59 1 = some 1 := by unfold TP; rfl
@[simp] theorem fldT59_2 : fldT TP 59 2 = some 2 := by unfold TP; rfl
@[simp] theorem fldT59_3 : fldT TP 59 3 = some 3 := by unfold TP; rfl
@[simp] theorem placesT59 : placesT TP 59 = some [(0, 1), (1, 1), (2, 1), (3, 1)] := by unfold TP; rfl
@[simp] theorem szT60 : szT TP 60 = 4 := by unfold TP; rfl
@[simp] theorem kindT60 : kindT TP 60 = some true := by unfold TP; rfl
@[simp] theorem zeroT60 : zeroT TP 60 = some (.p (.agg [(.val (.pointer none)), (.val (.pointer none)), (.val (.pointer none)), (.val (.string ⟨#[]⟩))])) := by unfold TP; rfl
@[simp] theorem roomB60 (n : Nat) : roomB TP 60 n = decide (n * 41 ≤ 2 ^ 40) := by unfold TP; rfl
@[simp] theorem fldT60_0 : fldT TP 60 0 = some 0 := by unfold TP; rfl
@[simp] theorem fldT60_1 : fldT TP 60 1 = some 1 := by unfold TP; rfl
@[simp] theorem fldT60_2 : fldT TP 60 2 = some 2 := by unfold TP; rfl
@[simp] theorem fldT60_3 : fldT TP 60 3 = some 3 := by unfold TP; rfl
@[simp] theorem placesT60 : placesT TP 60 = some [(0, 1), (1, 1), (2, 1), (3, 1)] := by unfold TP; rfl
@[simp] theorem szT61 : szT TP 61 = 0 := by unfold TP; rfl
@[simp] theorem kindT61 : kindT TP 61 = some true := by unfold TP; rfl
@[simp] theorem zeroT61 : zeroT TP 61 = some (.p (.agg [])) := by unfold TP; rfl
@[simp] theorem szT62 : szT TP 62 = 0 := by unfold TP; rfl
@[simp] theorem kindT62 : kindT TP 62 = some true := by unfold TP; rfl
@[simp] theorem zeroT62 : zeroT TP 62 = some (.p (.agg [])) := by unfold TP; rfl
@[simp] theorem szT63 : szT TP 63 = 0 := by unfold TP; rfl
@[simp] theorem kindT63 : kindT TP 63 = some true := by unfold TP; rfl
@[simp] theorem zeroT63 : zeroT TP 63 = some (.p (.agg [])) := by unfold TP; rfl
@[simp] theorem szT64 : szT TP 64 = 1 := by unfold TP; rfl
@[simp] theorem kindT64 : kindT TP 64 = some false := by unfold TP; rfl
@[simp] theorem zeroT64 : zeroT TP 64 = some (.p (.val .nilFunc)) := by unfold TP; rfl
@[simp] theorem roomB64 (n : Nat) : roomB TP 64 n = decide (n * 9 ≤ 2 ^ 40) := by unfold TP; rfl
@[simp] theorem szT65 : szT TP 65 = 1 := by unfold TP; rfl
@[simp] theorem kindT65 : kindT TP 65 = some false := by unfold TP; rfl
@[simp] theorem zeroT65 : zeroT TP 65 = some (.p (.val (.int .u32 (0)))) := by unfold TP; rfl
@[simp] theorem roomB65 (n : Nat) : roomB TP 65 n = decide (n * 5 ≤ 2 ^ 40) := by unfold TP; rfl
@[simp] theorem und65 : TP.underlying 65 = some (.int .u32) := by unfold TP; rfl
@[simp] theorem szT66 : szT TP 66 = 1 := by unfold TP; rfl
@[simp] theorem kindT66 : kindT TP 66 = some false := by unfold TP; rfl
@[simp] theorem zeroT66 : zeroT TP 66 = some (.p (.val (.int .u8 (0)))) := by unfold TP; rfl
@[simp] theorem roomB66 (n : Nat) : roomB TP 66 n = decide (n * 2 ≤ 2 ^ 40) := by unfold TP; rfl
@[simp] theorem und66 : TP.underlying 66 = some (.int .u8) := by unfold TP; rfl
@[simp] theorem szT67 : szT TP 67 = 1 := by unfold TP; rfl
@[simp] theorem kindT67 : kindT TP 67 = some false := by unfold TP; rfl
@[simp] theorem zeroT67 : zeroT TP 67 = some (.p (.val (.int .u8 (0)))) := by unfold TP; rfl
@[simp] theorem roomB67 (n : Nat) : roomB TP 67 n = decide (n * 2 ≤ 2 ^ 40) := by unfold TP; rfl
@[simp] theorem und67 : TP.underlying 67 = some (.int .u8) := by unfold TP; rfl
@[simp] theorem szT68 : szT TP 68 = 1 := by unfold TP; rfl
@[simp] theorem kindT68 : kindT TP 68 = some false := by unfold TP; rfl
@[simp] theorem zeroT68 : zeroT TP 68 = some (.p (.val .nilFunc)) := by unfold TP; rfl
@[simp] theorem roomB68 (n : Nat) : roomB TP 68 n = decide (n * 9 ≤ 2 ^ 40) := by unfold TP; rfl
@[simp] theorem szT69 : szT TP 69 = 1 := by unfold TP; rfl
@[simp] theorem kindT69 : kindT TP 69 = some false := by unfold TP; rfl
@[simp] theorem zeroT69 : zeroT TP 69 = some (.p (.val (.pointer none))) := by unfold TP; rfl
@[simp] theorem roomB69 (n : Nat) : roomB TP 69 n = decide (n * 9 ≤ 2 ^ 40) := by unfold TP; rfl
@[simp] theorem szT70 : szT TP 70 = 1 := by unfold TP; rfl
@[simp] theorem kindT70 : kindT TP 70 = some false := by unfold TP; rfl
@[simp] theorem zeroT70 : zeroT TP 70 = some (.p (.val (.int .i32 (0)))) := by unfold TP; rfl
@[simp] theorem roomB70 (n : Nat) : roomB TP 70 n = decide (n * 5 ≤ 2 ^ 40) := by unfold TP; rfl
@[simp] theorem und70 : TP.underlying 70 = some (.int .i32) := by unfold TP; rfl
@[simp] theorem szT71 : szT TP 71 = 1 := by unfold TP; rfl
@[simp] theorem kindT71 : kindT TP 71 = some false := by unfold TP; rfl
@[simp] theorem zeroT71 : zeroT TP 71 = some (.p (.val (.int .i32 (0)))) := by unfold TP; rfl
@[simp] theorem roomB71 (n : Nat) : roomB TP 71 n = decide (n * 5 ≤ 2 ^ 40) := by unfold TP; rfl
@[simp] theorem und71 : TP.underlying 71 = some (.int .i32) := by unfold TP; rfl
@[simp] theorem szT72 : szT TP 72 = 11 := by unfold TP; rfl
@[simp] theorem kindT72 : kindT TP 72 = some true := by unfold TP; rfl
@[simp] theorem zeroT72 : zeroT TP 72 = some (.p (.agg [(.val (.int .u64 (0))), (.val (.int .u64 (0))), (.val (.int .u32 (0))), (.val (.int .u8 (0))), (.val (.int .u8 (0))), (.val (.int .u8 (0))), (.val (.int .u8 (0))), (.val .nilFunc), (.val (.pointer none)), (.val (.int .i32 (0))), (.val (.int .i32 (0)))])) := by unfold TP; rfl
@[simp] theorem roomB72 (n : Nat) : roomB TP 72 n = decide (n * 49 ≤ 2 ^ 40) := by unfold TP; rfl
@[simp] theorem fldT72_0 : fldT TP 72 0 = some 0 := by unfold TP; rfl
@[simp] theorem fldT72_1 : fldT TP 72 1 = some 1 := by unfold TP; rfl
@[simp] theorem fldT72_2 : fldT TP 72 2 = some 2 := by unfold TP; rfl
@[simp] theorem fldT72_3 : fldT TP 72 3 = some 3 := by unfold TP; rfl
@[simp] theorem fldT72_4 : fldT TP 72 4 = some 4 := by unfold TP; rfl
@[simp] theorem fldT72_5 : fldT TP 72 5 = some 5 := by unfold TP; rfl
@[simp] theorem fldT72_6 : fldT TP 72 6 = some 6 := by unfold TP; rfl
@[simp] theorem fldT72_7 : fldT TP 72 7 = some 7 := by unfold TP; rfl
@[simp] theorem fldT72_8 : fldT TP 72 8 = some 8 := by unfold TP; rfl
@[simp] theorem fldT72_9 : fldT TP 72 9 = some 9 := by unfold TP; rfl
@[simp] theorem fldT72_10 : fldT TP 72 10 = some 10 := by unfold TP; rfl
@[simp] theorem placesT72 : placesT TP 72 = some [(0, 1), (1, 1), (2, 1), (3, 1), (4, 1), (5, 1), (6, 1), (7, 1), (8, 1), (9, 1), (10, 1)] := by unfold TP; rfl
@[simp] theorem szT73 : szT TP 73 = 11 := by unfold TP; rfl
@[simp] theorem kindT73 : kindT TP 73 = some true := by unfold TP; rfl
@[simp] theorem zeroT73 : zeroT TP 73 = some (.p (.agg [(.val (.int .u64 (0))), (.val (.int .u64 (0))), (.val (.int .u32 (0))), (.val (.int .u8 (0))), (.val (.int .u8 (0))), (.val (.int .u8 (0))), (.val (.int .u8 (0))), (.val .nilFunc), (.val (.pointer none)), (.val (.int .i32 (0))), (.val (.int .i32 (0)))])) := by unfold TP; rfl
@[simp] theorem roomB73 (n : Nat) : roomB TP 73 n = decide (n * 49 ≤ 2 ^ 40) := by unfold TP; rfl
@[simp] theorem fldT73_0 : fldT TP 73 0 = some 0 := by unfold TP; rfl
@[simp] theorem fldT73_1 : fldT TP 73 1 = some 1 := by unfold TP; rfl
@[simp] theorem fldT73_2 : fldT TP 73 2 = some 2 := by unfold TP; rfl
@[simp] theorem fldT73_3 : fldT TP 73 3 = some 3 := by unfold TP; rfl
@[simp] theorem fldT73_4 : fldT TP 73 4 = some 4 := by unfold TP; rfl
@[simp] theorem fldT73_5 : fldT TP 73 5 = some 5 := by unfold TP; rfl
@[simp] theorem fldT73_6 : fldT TP 73 6 = some 6 := by unfold TP; rfl
@[simp] theorem fldT73_7 : fldT TP 73 7 = some 7 := by unfold TP; rfl
@[simp] theorem fldT73_8 : fldT TP 73 8 = some 8 := by unfold TP; rfl
@[simp] theorem fldT73_9 : fldT TP 73 9 = some 9 := by unfold TP; rfl
@[simp] theorem fldT73_10 : fldT TP 73 10 = some 10 := by unfold TP; rfl
@[simp] theorem placesT73 : placesT TP 73 = some [(0, 1), (1, 1), (2, 1), (3, 1), (4, 1), (5, 1), (6, 1), (7, 1), (8, 1), (9, 1), (10, 1)] := by unfold TP; rfl
-- 3: roadbook/roadbooklaw08.RuleCount
theorem fn3 : TP.funcs[3]? = some Try.f3 := by rw [TP_eq]; exact Try.func3
-- 4: roadbook/roadbooklaw08.RuleTells
theorem fn4 : TP.funcs[4]? = some Try.f4 := by rw [TP_eq]; exact Try.func4
-- 5: roadbook/roadbooklaw08.RuleTwo
theorem fn5 : TP.funcs[5]? = some Try.f5 := by rw [TP_eq]; exact Try.func5
-- 6: roadbook/roadbooklaw08.RuleBack
theorem fn6 : TP.funcs[6]? = some Try.f6 := by rw [TP_eq]; exact Try.func6
-- 7: roadbook/roadbooklaw08.RuleAll
theorem fn7 : TP.funcs[7]? = some Try.f7 := by rw [TP_eq]; exact Try.func7
-- 8: roadbook/roadbooklaw08.awake
theorem fn8 : TP.funcs[8]? = some Try.f8 := by rw [TP_eq]; exact Try.func8
-- 9: roadbook/roadbookref06.Size
theorem fn9 : TP.funcs[9]? = some Try.f9 := by rw [TP_eq]; exact Try.func9
-- 10: roadbook/tree.May
theorem fn10 : TP.funcs[10]? = some Try.f10 := by rw [TP_eq]; exact Try.func10
-- 11: roadbook/rule.Next
theorem fn11 : TP.funcs[11]? = some Try.f11 := by rw [TP_eq]; exact Try.func11
-- 12: roadbook/roadbooklaw08.joins
theorem fn12 : TP.funcs[12]? = some Try.f12 := by rw [TP_eq]; exact Try.func12
-- 13: roadbook/rule.Turn
theorem fn13 : TP.funcs[13]? = some Try.f13 := by rw [TP_eq]; exact Try.func13
-- 14: roadbook/roadbookref08.Turn
theorem fn14 : TP.funcs[14]? = some Try.f14 := by rw [TP_eq]; exact Try.func14
-- 15: roadbook/rule.Move
theorem fn15 : TP.funcs[15]? = some Try.f15 := by rw [TP_eq]; exact Try.func15
-- 16: roadbook/roadbookref08.Move
theorem fn16 : TP.funcs[16]? = some Try.f16 := by rw [TP_eq]; exact Try.func16
-- 17: roadbook/roadbookref06.Same
theorem fn17 : TP.funcs[17]? = some Try.f17 := by rw [TP_eq]; exact Try.func17
-- 18: roadbook/roadbookref06.Lists
theorem fn18 : TP.funcs[18]? = some Try.f18 := by rw [TP_eq]; exact Try.func18
-- 19: roadbook/roadbookref08.Next
theorem fn19 : TP.funcs[19]? = some Try.f19 := by rw [TP_eq]; exact Try.func19
-- 20: roadbook/rule.Close
theorem fn20 : TP.funcs[20]? = some Try.f20 := by rw [TP_eq]; exact Try.func20
-- 21: roadbook/roadbookref08.Close
theorem fn21 : TP.funcs[21]? = some Try.f21 := by rw [TP_eq]; exact Try.func21
-- 22: roadbook/roadbookref08.Has
theorem fn22 : TP.funcs[22]? = some Try.f22 := by rw [TP_eq]; exact Try.func22
-- 23: roadbook/tree.Same
theorem fn23 : TP.funcs[23]? = some Try.f23 := by rw [TP_eq]; exact Try.func23
-- 24: roadbook/tree.Set
theorem fn24 : TP.funcs[24]? = some Try.f24 := by rw [TP_eq]; exact Try.func24
-- 25: roadbook/tree.All
theorem fn25 : TP.funcs[25]? = some Try.f25 := by rw [TP_eq]; exact Try.func25
-- 26: roadbook/tree.First
theorem fn26 : TP.funcs[26]? = some Try.f26 := by rw [TP_eq]; exact Try.func26
-- 27: roadbook/tree.Text
theorem fn27 : TP.funcs[27]? = some Try.f27 := by rw [TP_eq]; exact Try.func27
-- 28: roadbook/tree.set
theorem fn28 : TP.funcs[28]? = some Try.f28 := by rw [TP_eq]; exact Try.func28
-- 29: roadbook/rule.each
theorem fn29 : TP.funcs[29]? = some Try.f29 := by rw [TP_eq]; exact Try.func29
-- 30: roadbook/rule.by
theorem fn30 : TP.funcs[30]? = some Try.f30 := by rw [TP_eq]; exact Try.func30
-- 31: (roadbook/rule.node).turn
theorem fn31 : TP.funcs[31]? = some Try.f31 := by rw [TP_eq]; exact Try.func31
-- 32: roadbook/roadbookref06.May
theorem fn32 : TP.funcs[32]? = some Try.f32 := by rw [TP_eq]; exact Try.func32
-- 33: roadbook/roadbookref06.Join
theorem fn33 : TP.funcs[33]? = some Try.f33 := by rw [TP_eq]; exact Try.func33
-- 34: (roadbook/rule.node).move
theorem fn34 : TP.funcs[34]? = some Try.f34 := by rw [TP_eq]; exact Try.func34
-- 35: slices.EqualFunc[[]roadbook/api.Tree,[]roadbook/api.Tree,roadbook/api.Tree,roadbook/api.Tree]
theorem fn35 : TP.funcs[35]? = some Try.f35 := by rw [TP_eq]; exact Try.func35
-- 36: roadbook/tree.Leaf
theorem fn36 : TP.funcs[36]? = some Try.f36 := by rw [TP_eq]; exact Try.func36
-- 37: roadbook/tree.Join
theorem fn37 : TP.funcs[37]? = some Try.f37 := by rw [TP_eq]; exact Try.func37
-- 38: roadbook/tree.text
theorem fn38 : TP.funcs[38]? = some Try.f38 := by rw [TP_eq]; exact Try.func38
-- 39: roadbook/rule.each$1
theorem fn39 : TP.funcs[39]? = some Try.f39 := by rw [TP_eq]; exact Try.func39
-- 40: (roadbook/rule.node).two
theorem fn40 : TP.funcs[40]? = some Try.f40 := by rw [TP_eq]; exact Try.func40
-- 41: roadbook/roadbookref06.leaves
theorem fn41 : TP.funcs[41]? = some Try.f41 := by rw [TP_eq]; exact Try.func41

attribute [simp] buildA fillA newBox
end Go.Ab
