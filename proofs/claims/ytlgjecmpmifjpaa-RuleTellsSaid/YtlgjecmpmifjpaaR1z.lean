/-
  From the interpreter's answers to the model's calls: a law of one tree.
-/
import Derived.Test.YtlgjecmpmifjpaaR1k
import Derived.Test.YtlgjecmpmifjpaaRows
import Derived.ProofKit
import Derived.Below
import Derived.Carry
import Derived.ChangeSame
set_option linter.unusedVariables false
set_option linter.unusedSimpArgs false
namespace Go.Ab
open Go.Proofs Go.RowKit Go.ChangeShapes

/-- What is known of memory as a call begins. -/
def memW (W : World) : Mem := fun b o => W.cell? ⟨b, o, none⟩

theorem cell_spot {W : World} {b o : Nat} {s : Option _} {v : Value} (h : W.cell? ⟨b, o, s⟩ = some v) : s = none := by
  unfold World.cell? at h
  split at h
  · split at h
    · cases h
    · rename_i hs; cases s <;> simp_all
  · cases h

theorem cells_get {W : World} {a : Addr} {n : Nat} {cs : List Value} (h : W.cells? 0 a n = some cs) : cs.length = n ∧ ∀ j, j < n → W.cell? (a.add j) = cs[j]? := by
  unfold World.cells? at h
  rw [if_pos (Nat.zero_le _)] at h
  have hl := mapM_some_length h
  simp only [List.length_range] at hl
  refine ⟨hl, fun j hj => ?_⟩
  exact mapM_some_get h j j (by simp [hj])

variable {H : Type} {enc : TypeId × Value → H}

theorem tree_rel (W : World) (sp : Nat → Bool) (held : Bool) : ∀ (fuel : Nat) (cs : List Value) (d : DataW H) (ps : List MemPlace), DataW.trod enc Try.prog W 0 sp held fuel 24 cs = some (d, ps) → ∃ t : Tr, RelC (memW W) t.enc.cells cs := by
  intro fuel
  induction fuel using Nat.strongRecOn with
  | _ fuel ih =>
    intro cs d ps h
    match fuel, ih with
    | 0, _ => simp [DataW.trod] at h
    | fuel + 1, ih =>
      have hc : Try.prog.cellsOf 24 = 2 := by rfl
      have hc3 : Try.prog.cellsOf 3 = 1 := by rfl
      have hc22 : Try.prog.cellsOf 22 = 1 := by rfl
      unfold DataW.trod at h
      simp only [Try.underlying24] at h
      split at h
      · rename_i hl
        rw [hc] at hl
        match cs, hl with
        | [c0, c1], _ =>
          simp only [List.mapM_cons, List.mapM_nil, hc3, hc22, List.drop_zero, List.take_succ_cons, List.take_zero, List.drop_succ_cons, Option.pure_def, Option.bind_eq_bind, Option.map_eq_some_iff, Option.bind_eq_some_iff] at h
          obtain ⟨x, ⟨y0, h0, y, ⟨y1, h1, rest⟩, rest2⟩, hx⟩ := h
          match fuel, ih, h0, h1 with
          | 0, _, h0, _ => simp [DataW.trod] at h0
          | fuel + 1, ih, h0, h1 =>
            obtain ⟨n, rfl⟩ : ∃ n, c0 = .int .i64 n := by
              cases c0 <;> simp [DataW.trod, Try.underlying3] at h0
              exact ⟨_, by rw [h0.1.1]⟩
            have mk : ∀ (l : List Tr), RelP (memW W) (.list (encL l)) c1 → ∃ t : Tr, RelC (memW W) t.enc.cells [.int .i64 n, c1] := fun l hl => by
              refine ⟨.mk n l, ?_⟩
              simp only [Tr.enc, PV.cells, RelC, iV]
              exact ⟨_, _, rfl, rfl, by simp [RelP, scalarB], c1, [], rfl, rfl, hl, rfl⟩
            obtain ⟨A, len, cap, rfl⟩ : ∃ A len cap, c1 = .slice A len cap := by
              cases c1 <;> simp [DataW.trod, Try.underlying22] at h1
              exact ⟨_, _, _, rfl⟩
            cases A with
            | none =>
              have hz : len = 0 ∧ cap = 0 := by
                cases len <;> cases cap <;> simp [DataW.trod, Try.underlying22] at h1
                exact ⟨rfl, rfl⟩
              obtain ⟨rfl, rfl⟩ := hz
              exact mk [] (by simp only [RelP, encL]; exact ⟨none, 0, 0, rfl, rfl, Nat.le_refl _, .inl trivial⟩)
            | some a =>
              simp only [DataW.trod, Try.underlying22, hc] at h1
              split at h1
              · rename_i hcap
                simp only [Option.bind_eq_some_iff] at h1
                obtain ⟨elems, he, _⟩ := h1
                have hel := mapM_some_length he
                simp only [List.length_range] at hel
                have key : ∀ i, i < len → ∃ t : Tr, ∃ csi : List Value, csi.length = 2 ∧ (∀ j, j < 2 → W.cell? ((a.add (i * 2)).add j) = csi[j]?) ∧ RelC (memW W) t.enc.cells csi := fun i hi => by
                  have hg := mapM_some_get he i i (by simp [hi])
                  rw [List.getElem?_eq_getElem (by omega)] at hg
                  simp only [Option.bind_eq_some_iff] at hg
                  obtain ⟨csi, hcs, htr⟩ := hg
                  obtain ⟨g1, g2⟩ := cells_get hcs
                  obtain ⟨t, ht⟩ := ih fuel (by omega) csi _ _ htr
                  exact ⟨t, csi, g1, g2, ht⟩
                let ts : List Tr := (List.range len).attach.map fun i => Classical.choose (key i.1 (List.mem_range.1 i.2))
                have hts : ts.length = len := by simp [ts]
                have hget : ∀ i (hi : i < len), ts[i]? = some (Classical.choose (key i hi)) := fun i hi => by
                  simp [ts, hi]
                refine mk ts ?_
                simp only [RelP]
                refine ⟨some a, len, cap, rfl, by rw [encL_len, hts], hcap.2.1, ?_⟩
                cases len with
                | zero => left; exact List.length_eq_zero_iff.1 (by rw [encL_len, hts])
                | succ len =>
                  right
                  obtain ⟨b, off, spot⟩ := a
                  have hsp : spot = none := by
                    obtain ⟨t0, csi, q1, q2, _⟩ := key 0 (by omega)
                    have := q2 0 (by omega)
                    rw [List.getElem?_eq_getElem (by omega)] at this
                    simp only [Addr.add, Nat.zero_mul, if_true] at this
                    exact cell_spot this
                  subst hsp
                  refine ⟨b, off, 2, rfl, RelE.mk _ _ fun i e he2 => ?_⟩
                  rw [encL_map] at he2
                  have hi : i < len + 1 := by
                    have := (List.getElem?_eq_some_iff.1 he2).1
                    simp only [List.length_map] at this
                    omega
                  rw [List.getElem?_map, hget i hi] at he2
                  simp only [Option.map_some, Option.some.injEq] at he2
                  subst he2
                  obtain ⟨csi, q1, q2, q3⟩ := Classical.choose_spec (key i hi)
                  refine ⟨csi, q1, fun j hj => ?_, q3⟩
                  rw [← q2 j hj]
                  simp only [memW, add0]
              · cases h1
      · cases h

end Go.Ab
