/-
  What the abstract operations do the model's operations do: one operation that is no call of a function.
-/
import Derived.Test.YtlgjecmpmifjpaaAbM
set_option linter.unusedVariables false
set_option linter.unusedSimpArgs false
namespace Go.Ab
open Go.RowKit

variable {P : Program} {M : Mem} {B : List Gh} {D : List Nat} {σ σ' : Store} {base nt : Nat} {w0 w : World}

theorem eff_pure {r : Option AV} {v : AV} (h : (Eff.pure r).run σ = some (v, σ')) : r = some v ∧ σ' = σ := by
  simp only [Eff.run] at h
  split at h
  · simp only [Option.some.injEq, Prod.mk.injEq] at h
    obtain ⟨rfl, rfl⟩ := h
    exact ⟨rfl, rfl⟩
  · cases h
theorem eff_none {v : AV} (h : (Eff.pure none).run σ = some (v, σ')) : False := by cases (eff_pure h).1
theorem eff_read {id : Nat} {f : AObj → Option AV} {v : AV} (h : (Eff.read id f).run σ = some (v, σ')) : ∃ ob, σ[id]? = some ob ∧ f ob = some v ∧ σ' = σ := by
  simp only [Eff.run] at h
  split at h
  · rename_i ob ho
    split at h
    · rename_i v' hv
      simp only [Option.some.injEq, Prod.mk.injEq] at h
      obtain ⟨rfl, rfl⟩ := h
      exact ⟨ob, ho, hv, rfl⟩
    · cases h
  · cases h
theorem eff_write {id : Nat} {f : AObj → Option (AV × AObj)} {v : AV} (h : (Eff.write id f).run σ = some (v, σ')) : ∃ ob ob', σ[id]? = some ob ∧ f ob = some (v, ob') ∧ σ' = σ.set id ob' := by
  simp only [Eff.run] at h
  split at h
  · rename_i ob ho
    split at h
    · rename_i v' ob' hv
      simp only [Option.some.injEq, Prod.mk.injEq] at h
      obtain ⟨rfl, rfl⟩ := h
      exact ⟨ob, ob', ho, hv, rfl⟩
    · cases h
  · cases h
theorem eff_new {os : List AObj} {g : Nat → AV} {v : AV} (h : (Eff.new os g).run σ = some (v, σ')) : v = g σ.length ∧ σ' = σ ++ os := by
  simp only [Eff.run, Option.some.injEq, Prod.mk.injEq] at h
  exact ⟨h.1.symm, h.2.symm⟩

/-- A call of a function (whatever value it is). -/
def callB : Op → Bool
  | .call c => match c.callee with
    | .value _ => true
    | _ => false
  | _ => false

section
variable {E : Env} {tm : Nat → AV} {a : Act} {o : Oper} {v : AV}

theorem move_ok (h : StOK P M B D σ base w0 w) (hf : FrOK M B nt tm a.tmps) {x : Operand} {own : Bool}
    (he : (match evA tm x with
      | some .e0 => if own then Eff.new [.arr 0 [] 0] (fun b => .own b 0) else .pure (some .e0)
      | some v => .pure (some v)
      | none => .pure none).run σ = some (v, σ')) : Done P M B D σ' base w0 v (a.eval x) w := by
  split at he
  · rename_i hx
    have hv := evA_ok hf hx
    simp only [RelV] at hv
    rw [hv]
    split at he
    · obtain ⟨rfl, rfl⟩ := eff_new he
      exact nil_own h
    · obtain ⟨h1, rfl⟩ := eff_pure he
      injection h1 with h1; subst h1
      exact Done.same h (by simp only [RelV])
  · rename_i y hy hx
    obtain ⟨h1, rfl⟩ := eff_pure he
    injection h1 with h1; subst h1
    exact Done.same h (evA_ok hf hx)
  · exact (eff_none he).elim

theorem pick_ok (h : StOK P M B D σ base w0 w) (hf : FrOK M B nt tm a.tmps) {c x y : Operand}
    (he : (match evA tm c with
      | some (.p (.val (.bool t))) => Eff.pure (if t then evA tm x else evA tm y)
      | _ => .pure none).run σ = some (v, σ')) : ∃ t, a.eval c = .bool t ∧ Done P M B D σ' base w0 v (if t then a.eval x else a.eval y) w := by
  split at he
  · rename_i t hc
    have hcv := evA_ok hf hc
    simp only [RelV, RelP] at hcv
    obtain ⟨h1, rfl⟩ := eff_pure he
    refine ⟨t, hcv.1, ?_⟩
    cases t with
    | true => exact Done.same h (evA_ok hf h1)
    | false => exact Done.same h (evA_ok hf h1)
  · exact (eff_none he).elim

theorem relV_val {x : Value} {y : Value} (h : RelV M B (.p (.val x)) y) : y = x ∧ scalarB x = true := by simpa only [RelV, RelP] using h

theorem lenA_ok (h : StOK P M B D σ base w0 w) {x : AV} {n : Nat} {y : Value} (hl : lenA x = some n) (hx : RelV M B x y) (hne : ∀ z, x ≠ .p (.val z)) : ∃ A c, y = .slice A n c := by
  cases x with
  | p z => cases z with
    | val z => exact absurd rfl (hne z)
    | agg cs => simp [lenA] at hl
    | list es =>
      simp only [lenA, Option.some.injEq] at hl; subst hl
      simp only [RelV, RelP] at hx
      obtain ⟨A, n, c, rfl, rfl, _⟩ := hx
      exact ⟨A, c, rfl⟩
  | own id m =>
    simp only [lenA, Option.some.injEq] at hl; subst hl
    simp only [RelV] at hx
    obtain ⟨g, _, _, A, c, rfl, _⟩ := hx
    exact ⟨A, c, rfl⟩
  | e0 =>
    simp only [lenA, Option.some.injEq] at hl; subst hl
    simp only [RelV] at hx
    exact ⟨none, 0, hx⟩
  | _ => simp [lenA] at hl

theorem max_run {x y z : Value} {ts : Array TypeId} {ty : TypeId} (h : maxV x y = some z) (w : World) : (Builtin.max_ ts ty #[x, y]).run P w = .ok z w ∧ scalarB z = true := by
  unfold maxV at h
  split at h
  · injection h with h; subst h
    exact ⟨by simp [Builtin.max_, Builtin.max2], rfl⟩
  · cases h
theorem min_run {x y z : Value} {ts : Array TypeId} {ty : TypeId} (h : minV x y = some z) (w : World) : (Builtin.min_ ts ty #[x, y]).run P w = .ok z w ∧ scalarB z = true := by
  unfold minV at h
  split at h
  · injection h with h; subst h
    exact ⟨by simp [Builtin.min_, Builtin.min2], rfl⟩
  · cases h

theorem relVT_one {x : AV} {vs : List Value} (h : RelVT M B [x] vs) : ∃ y, vs = [y] ∧ RelV M B x y := by
  simp only [RelVT] at h
  obtain ⟨v, r, rfl, h1, rfl⟩ := h
  exact ⟨v, rfl, h1⟩
theorem relVT_two {x x' : AV} {vs : List Value} (h : RelVT M B [x, x'] vs) : ∃ y y', vs = [y, y'] ∧ RelV M B x y ∧ RelV M B x' y' := by
  simp only [RelVT] at h
  obtain ⟨v, r, rfl, h1, v', r', rfl, h2, rfl⟩ := h
  exact ⟨v, v', rfl, h1, h2⟩

theorem append_ok (h : StOK P M B D σ base w0 w) {own : Bool} {t T ty : TypeId} {s x : AV} {y z : Value} (ht : P.underlying t = some (.slice T)) (hs : RelV M B s y) (hx : RelV M B x z)
    (he : (appendEff P own T s x).run σ = some (v, σ')) : ∃ val w', (Builtin.append_ #[t, t] ty #[y, z]).run P w = .ok val w' ∧ Done P M B D σ' base w0 v val w' := by
  unfold appendEff at he
  split at he
  · rename_i hsx
    obtain ⟨h1, rfl⟩ := eff_pure he
    split at h1
    · rename_i hr
      injection h1 with h1; subst h1
      obtain ⟨i, zz, _, _, _, h0, _, hsz⟩ := roomB_ok hr
      simp only [RelV] at hs
      subst hs
      have := sliceOf_ok hsx hx
      simp only [RelP] at this
      obtain ⟨A, n, c, rfl, hn, _⟩ := this
      simp only [List.length_nil] at hn
      subst hn
      exact ⟨_, w, append_none_run ht (Nat.le_refl _) (by omega) w, Done.same h (by simp only [RelV])⟩
    · cases h1
  · rename_i es hne hsx
    split at he
    · rename_i hc
      simp only [Bool.and_eq_true] at hc
      obtain ⟨hh, hr⟩ := hc
      simp only [RelV] at hs
      subst hs
      have hne' : es ≠ [] := by rintro rfl; exact hne rfl
      obtain ⟨cap, cur, news, hrun, h0, hl, hrel, hcs, htk, hle, hm⟩ := append_nil_run (ty := ty) h ht (sliceOf_ok hsx hx) hne' hh hr
      split at he
      · obtain ⟨rfl, rfl⟩ := eff_new he
        exact ⟨_, _, hrun, new_arr h.drew hne' h0 hl hrel hcs htk hle hm⟩
      · obtain ⟨h1, rfl⟩ := eff_pure he
        injection h1 with h1; subst h1
        exact ⟨_, _, hrun, new_list h.drew h0 hl hrel htk hle⟩
    · exact (eff_none he).elim
  · rename_i id n xs hsx
    obtain ⟨ob, ob', ho, hw, rfl⟩ := eff_write he
    split at hw
    · rename_i T' es fz
      split at hw
      · rename_i hc
        obtain ⟨hn, hT, hh, hr⟩ := hc
        split at hw
        · rename_i hx0
          subst hx0
          simp only [Option.some.injEq, Prod.mk.injEq] at hw
          obtain ⟨rfl, rfl⟩ := hw
          obtain ⟨i, zz, _, _, _, h0, _, hsz⟩ := roomB_ok hr
          have := sliceOf_ok hsx hx
          simp only [RelP] at this
          obtain ⟨A, m, c, rfl, hm, _⟩ := this
          simp only [List.length_nil] at hm
          subst hm
          have hs' := hs
          simp only [RelV] at hs
          obtain ⟨g, hg, hle, A2, c2, rfl, hh2⟩ := hs
          have hob := h.obj id _ g ho hg
          obtain ⟨hgl, _, hd⟩ := hob
          obtain ⟨rfl, rfl⟩ := hh2 (by omega)
          have hle2 : n ≤ g.cap := by
            rcases hd with ⟨rfl, _, _, _⟩ | ⟨_, hA, _, _, _, ⟨xs0, hown, _⟩, _⟩
            · simp only [List.length_nil] at hn; omega
            · rcases hown.2 with ⟨hv, _⟩ | ⟨g0, cap0, cur, hv, _, _, hnc, _⟩
              · rw [hA] at hv; simp at hv
              · injection hv with _ _ hcap
                omega
          rw [set_same ho]
          exact ⟨_, w, append_none_run ht hle2 (by omega) w, Done.same h hs'⟩
        · rename_i hx0
          simp only [Option.some.injEq, Prod.mk.injEq] at hw
          obtain ⟨rfl, rfl⟩ := hw
          exact append_own_ok h ht ho hs (sliceOf_ok hsx hx) hn hT hx0 hh hr
      · cases hw
    · cases hw
  · exact (eff_none he).elim

theorem args_two {c : Call} {x y : Value} (h : (c.args.toList.map a.eval) = [x, y]) : c.args.map a.eval = #[x, y] := by
  apply Array.ext'
  simpa using h
theorem args_one {c : Call} {x : Value} (h : (c.args.toList.map a.eval) = [x]) : c.args.map a.eval = #[x] := by
  apply Array.ext'
  simpa using h

theorem builtin_ok (h : StOK P M B D σ base w0 w) {own : Bool} {b : Builtin} {Ts : Array TypeId} {ty : TypeId} {cs : Array Bool} {args : List AV} {xs : Array Value} (hx : RelVT M B args xs.toList)
    (he : (builtinEff P own b Ts args).run σ = some (v, σ')) : ∃ val w', (builtin b Ts ty cs xs).run P w = .ok (.value val) w' ∧ Done P M B D σ' base w0 v val w' := by
  unfold builtinEff at he
  split at he
  · -- len
    obtain ⟨y, hy, hv⟩ := relVT_one hx
    obtain rfl : xs = #[y] := Array.ext' (by simpa using hy)
    split at he
    · rename_i id k e ht
      simp only [Option.bind_eq_some_iff] at ht
      obtain ⟨t, ht, hu⟩ := ht
      obtain ⟨ob, ho, hr, rfl⟩ := eff_read he
      split at hr
      · rename_i kvs
        injection hr with hr; subst hr
        have hv' := hv
        simp only [RelV] at hv
        obtain ⟨g, hg, _, rfl⟩ := hv
        obtain ⟨_, _, es, clock, hh, hs, _⟩ := h.obj id _ g ho hg
        refine ⟨goInt es.size, w, by simp [builtin, Builtin.len_, ht, run_underlying hu, run_getMap hh], Done.same h ?_⟩
        rw [hs]
        exact scalar_relV rfl
      · cases hr
    · rename_i e ht
      simp only [Option.bind_eq_some_iff] at ht
      obtain ⟨t, ht, hu⟩ := ht
      split at he
      · exact (eff_none he).elim
      · rename_i x hne
        obtain ⟨h1, rfl⟩ := eff_pure he
        simp only [Option.map_eq_some_iff] at h1
        obtain ⟨n, hn, rfl⟩ := h1
        obtain ⟨A, c, rfl⟩ := lenA_ok h hn hv (fun z e => hne z e)
        exact ⟨goInt n, w, by simp [builtin, Builtin.len_, ht, run_underlying hu], Done.same h (scalar_relV rfl)⟩
    · rename_i s ht
      simp only [Option.bind_eq_some_iff] at ht
      obtain ⟨t, ht, hu⟩ := ht
      obtain ⟨h1, rfl⟩ := eff_pure he
      injection h1 with h1; subst h1
      obtain ⟨rfl, _⟩ := relV_val hv
      exact ⟨goInt s.size, w, by simp [builtin, Builtin.len_, ht, run_underlying hu], Done.same h (scalar_relV rfl)⟩
    · exact (eff_none he).elim
  · -- append
    obtain ⟨y, z, hyz, hs, hx'⟩ := relVT_two hx
    obtain rfl : xs = #[y, z] := Array.ext' (by simpa using hyz)
    split at he
    · rename_i t t' hTs
      obtain rfl : Ts = #[t, t'] := Array.ext' (by simpa using hTs)
      split at he
      · rename_i htt
        subst htt
        split at he
        · rename_i T hT
          obtain ⟨val, w', hrun, hd⟩ := append_ok (ty := ty) h (elemT_ok hT) hs hx' he
          exact ⟨val, w', by simp [builtin, hrun], hd⟩
        · exact (eff_none he).elim
      · exact (eff_none he).elim
    · exact (eff_none he).elim
  · -- max
    obtain ⟨y, z, hyz, hs, hx'⟩ := relVT_two hx
    obtain rfl : xs = #[y, z] := Array.ext' (by simpa using hyz)
    obtain ⟨h1, rfl⟩ := eff_pure he
    simp only [Option.map_eq_some_iff] at h1
    obtain ⟨u, hu, rfl⟩ := h1
    obtain ⟨rfl, _⟩ := relV_val hs
    obtain ⟨rfl, _⟩ := relV_val hx'
    exact ⟨u, w, by simp [builtin, (max_run hu w).1], Done.same h (scalar_relV (max_run (P := P) (ts := #[]) (ty := 0) hu w).2)⟩
  · obtain ⟨y, z, hyz, hs, hx'⟩ := relVT_two hx
    obtain rfl : xs = #[y, z] := Array.ext' (by simpa using hyz)
    obtain ⟨h1, rfl⟩ := eff_pure he
    simp only [Option.map_eq_some_iff] at h1
    obtain ⟨u, hu, rfl⟩ := h1
    obtain ⟨rfl, _⟩ := relV_val hs
    obtain ⟨rfl, _⟩ := relV_val hx'
    exact ⟨u, w, by simp [builtin, (min_run hu w).1], Done.same h (scalar_relV (min_run (P := P) (ts := #[]) (ty := 0) hu w).2)⟩
  · exact (eff_none he).elim

end
end Go.Ab
