/-
  What holds of all trees that may be.
-/
import Derived.Test.YtlgjecmpmifjpaaR1x
set_option linter.unusedVariables false
set_option linter.unusedSimpArgs false
namespace Go.Ab

theorem mask_land : (masks.all fun m => masks.all fun k => !(m &&& k == 0) || masks.contains (m ||| k)) = true := by decide +kernel
theorem leaf_ok : (masks.contains 1 && memB (.lf 0) (SetL 1) && memB (.lf 1) (SetL 2) && memB (.lf 2) (SetL 4) && memB (.lf 3) (SetL 8)) = true := by decide +kernel

theorem in_set : ∀ (d : Nat) (b : BT), (setS d b.tr).2 = true → (setS d b.tr).1 ∈ masks ∧ b ∈ SetL (setS d b.tr).1
  | 0, b, h => by simp [setS] at h
  | d + 1, .lf i, h => by
    simp only [BT.tr, setS, Bool.and_eq_true, decide_eq_true_eq] at h ⊢
    have hi : i < 4 := by omega
    match i, hi with
    | 0, _ => exact ⟨by decide, memB_iff.1 (by decide +kernel)⟩
    | 1, _ => exact ⟨by decide, memB_iff.1 (by decide +kernel)⟩
    | 2, _ => exact ⟨by decide, memB_iff.1 (by decide +kernel)⟩
    | 3, _ => exact ⟨by decide, memB_iff.1 (by decide +kernel)⟩
  | d + 1, .jn a b, h => by
    simp only [BT.tr, setS, if_true, Bool.and_eq_true] at h ⊢
    obtain ⟨⟨h1, h2⟩, h3⟩ := h
    obtain ⟨m1, a1⟩ := in_set d a h1
    obtain ⟨m2, a2⟩ := in_set d b h2
    refine ⟨?_, ?_⟩
    · have := List.all_eq_true.1 (List.all_eq_true.1 mask_land _ m1) _ m2
      rw [h3] at this
      simpa using this
    · have := List.all_eq_true.1 (List.all_eq_true.1 pairs_ok _ m1) _ m2
      rw [h3] at this
      simp only [Bool.not_true, Bool.false_or] at this
      exact memB_iff.1 (List.all_eq_true.1 (List.all_eq_true.1 this _ a1) _ a2)

/-- A tree's set. -/
def msk (b : BT) : Nat := (setS 4 b.tr).1

theorem ok_in {b : BT} (h : b.ok = true) : msk b ∈ masks ∧ b ∈ SetL (msk b) := in_set 4 b h

structure Facts (t : BT) (m : Nat) : Prop where
  all : okAll t = true
  lt4 : t.lt4 = true
  big : t.big ≤ 1000
  bud : bud t ≤ 1000
  msk : msk t = m
  next : ∀ x ∈ eachS t, x ∈ SetL m

theorem facts {m : Nat} {t : BT} (hm : m ∈ masks) (ht : t ∈ SetL m) : Facts t m := by
  have := List.all_eq_true.1 (List.all_eq_true.1 facts_ok m hm) t ht
  simp only [okAllB, Bool.and_eq_true, decide_eq_true_eq, beq_iff_eq, List.all_eq_true] at this
  obtain ⟨⟨⟨⟨⟨h1, h2⟩, h3⟩, h4⟩, h5⟩, h6⟩ := this
  exact ⟨h1, h2, h3, h4, h5, fun x hx => memB_iff.1 (h6 x hx)⟩

theorem set_nodup {m : Nat} (hm : m ∈ masks) : (SetL m).Nodup := nodB_iff (List.all_eq_true.1 nod_ok m hm)

theorem mem_A4 {t : BT} : t ∈ A4 ↔ ∃ m ∈ masks, t ∈ SetL m := by simp [A4]

theorem eqL_iff : ∀ (a b : List UInt8), eqL a b = true ↔ a = b
  | [], [] => by simp [eqL]
  | [], _ :: _ => by simp [eqL]
  | _ :: _, [] => by simp [eqL]
  | a :: l, b :: r => by
    simp only [eqL, Bool.and_eq_true, beq_iff_eq, eqL_iff l r, List.cons.injEq]
    rw [UInt8.toNat_inj]

theorem nodT_inj : ∀ {l : List BT}, nodT (l.map textL) = true → ∀ x ∈ l, ∀ y ∈ l, textL x = textL y → x = y
  | [], _, x, hx, _, _, _ => by simp at hx
  | z :: l, h, x, hx, y, hy, e => by
    simp only [List.map_cons, nodT, Bool.and_eq_true, Bool.not_eq_true'] at h
    have hno : ∀ w ∈ l, textL z ≠ textL w := fun w hw e => by
      have : (l.map textL).any (eqL (textL z)) = true := List.any_eq_true.2 ⟨textL w, List.mem_map.2 ⟨w, hw, rfl⟩, (eqL_iff _ _).2 e⟩
      rw [this] at h
      simp at h
    rcases List.mem_cons.1 hx with hx' | hx' <;> rcases List.mem_cons.1 hy with hy' | hy'
    · rw [hx', hy']
    · rw [hx'] at e; exact absurd e (hno _ hy')
    · rw [hy'] at e; exact absurd e.symm (hno _ hx')
    · exact nodT_inj h.2 x hx' y hy' e

theorem text_inj {x y : BT} (hx : x ∈ A4) (hy : y ∈ A4) (h : textS x = textS y) : x = y := by
  refine nodT_inj texts_ok x hx y hy ?_
  have h1 : (textL x).toArray = (textL y).toArray := by
    have := congrArg ByteArray.data h
    exact this
  simpa using h1

/-- What a tree comes to. -/
inductive Reach (t : BT) : BT → Prop
  | refl : Reach t t
  | step {x y : BT} : Reach t x → y ∈ eachS x → Reach t y
theorem Reach.trans {a b c : BT} (h : Reach a b) (h' : Reach b c) : Reach a c := by
  induction h' with
  | refl => exact h
  | step _ hy ih => exact .step ih hy
theorem Reach.head {a b c : BT} (hb : b ∈ eachS a) (h : Reach b c) : Reach a c := Reach.trans (.step .refl hb) h

theorem fwd_reach {c : BT} : ∀ {l seen : List BT}, fwdB seen l = true → (∀ s ∈ seen, Reach c s) → ∀ t ∈ l, Reach c t
  | [], _, _, _, t, ht => by simp at ht
  | x :: l, seen, h, hs, t, ht => by
    simp only [fwdB, Bool.and_eq_true, List.any_eq_true] at h
    obtain ⟨⟨s, h1, h2⟩, h3⟩ := h
    have hx : Reach c x := .step (hs s h1) (memB_iff.1 h2)
    rcases List.mem_cons.1 ht with rfl | ht
    · exact hx
    · exact fwd_reach h3 (fun s h => by rcases List.mem_cons.1 h with rfl | h; exact hx; exact hs s h) t ht
theorem bwd_reach {c : BT} : ∀ {l seen : List BT}, bwdB seen l = true → (∀ s ∈ seen, Reach s c) → ∀ t ∈ l, Reach t c
  | [], _, _, _, t, ht => by simp at ht
  | x :: l, seen, h, hs, t, ht => by
    simp only [bwdB, Bool.and_eq_true, List.any_eq_true] at h
    obtain ⟨⟨s, h1, h2⟩, h3⟩ := h
    have hx : Reach x c := .head (memB_iff.1 h2) (hs s h1)
    rcases List.mem_cons.1 ht with rfl | ht
    · exact hx
    · exact bwd_reach h3 (fun s h => by rcases List.mem_cons.1 h with rfl | h; exact hx; exact hs s h) t ht

/-- Of one set each tree comes to each. -/
theorem reach_all {m : Nat} (hm : m ∈ masks) {x y : BT} (hx : x ∈ SetL m) (hy : y ∈ SetL m) : Reach x y := by
  have h1 := List.all_eq_true.1 fwd_ok m hm
  have h2 := List.all_eq_true.1 bwd_ok m hm
  cases hS : SetL m with
  | nil => rw [hS] at hx; simp at hx
  | cons c r =>
    simp only [hS] at h1 h2
    cases hB : BackL m with
    | nil => simp [hB] at h2
    | cons c' r' =>
      simp only [hB, Bool.and_eq_true, List.all_eq_true] at h2
      obtain ⟨⟨h3, h4⟩, h5⟩ := h2
      obtain rfl := (bt_eq _ _).1 h3
      have hback : Reach x c := by
        have := memB_iff.1 (h5 x (by rw [← hS]; exact hx))
        rcases List.mem_cons.1 this with rfl | hx
        · exact .refl
        · exact bwd_reach h4 (fun s hs => by simp at hs; subst hs; exact .refl) x hx
      have hfwd : Reach c y := by
        rw [hS] at hy
        rcases List.mem_cons.1 hy with rfl | hy
        · exact .refl
        · exact fwd_reach h1 (fun s hs => by simp at hs; subst hs; exact .refl) y hy
      exact hback.trans hfwd
theorem reach_in {m : Nat} (hm : m ∈ masks) {x y : BT} (hx : x ∈ SetL m) (h : Reach x y) : y ∈ SetL m := by
  induction h with
  | refl => exact hx
  | step _ hy ih => exact (facts hm ih).next _ hy

/-! ### Close -/
def addS (out : List BT) (x : BT) : List BT := if x ∈ out then out else out ++ [x]
def addAll (out : List BT) : List BT → List BT
  | [] => out
  | x :: l => addAll (addS out x) l
def closeL : Nat → List BT → Nat → List BT
  | 0, out, _ => out
  | k + 1, out, i => match out[i]? with
    | some t => closeL k (addAll out (eachS t)) (i + 1)
    | none => out
def closeS (t : BT) : List BT := closeL 200 [t] 0

theorem addS_pre (out : List BT) (x : BT) : ∃ r, addS out x = out ++ r := by
  unfold addS; split
  · exact ⟨[], by simp⟩
  · exact ⟨[x], rfl⟩
theorem addAll_pre : ∀ (l out : List BT), ∃ r, addAll out l = out ++ r
  | [], out => ⟨[], by simp [addAll]⟩
  | x :: l, out => by
    obtain ⟨r1, h1⟩ := addS_pre out x
    obtain ⟨r2, h2⟩ := addAll_pre l (addS out x)
    exact ⟨r1 ++ r2, by rw [addAll, h2, h1, List.append_assoc]⟩
theorem addAll_mem : ∀ (l out : List BT) (y : BT), y ∈ addAll out l ↔ y ∈ out ∨ y ∈ l
  | [], out, y => by simp [addAll]
  | x :: l, out, y => by
    rw [addAll, addAll_mem l, List.mem_cons]
    unfold addS
    split
    · rename_i hx
      constructor
      · rintro (h | h)
        · exact .inl h
        · exact .inr (.inr h)
      · rintro (h | rfl | h)
        · exact .inl h
        · exact .inl hx
        · exact .inr h
    · simp only [List.mem_append, List.mem_singleton, or_assoc]
theorem addAll_nodup : ∀ (l out : List BT), out.Nodup → (addAll out l).Nodup
  | [], out, h => h
  | x :: l, out, h => by
    rw [addAll]
    apply addAll_nodup l
    unfold addS
    split
    · exact h
    · rename_i hx
      rw [List.nodup_append]
      exact ⟨h, by simp, fun a ha b hb => by simp at hb; subst hb; rintro rfl; exact hx ha⟩

/-- What stands while trees are looked for. -/
structure BInv (t : BT) (m : Nat) (out : List BT) (i : Nat) : Prop where
  nodup : out.Nodup
  sub : ∀ x ∈ out, x ∈ SetL m
  first : ∃ r, out = t :: r
  reach : ∀ x ∈ out, Reach t x
  done : ∀ (j : Nat) (x : BT), j < i → out[j]? = some x → ∀ y ∈ eachS x, y ∈ out
  le : i ≤ out.length

theorem BInv.step {t : BT} {m : Nat} (hm : m ∈ masks) {out : List BT} {i : Nat} (h : BInv t m out i) {x : BT} (hx : out[i]? = some x) : BInv t m (addAll out (eachS x)) (i + 1) := by
  have hxm := List.mem_of_getElem? hx
  have hlt := (List.getElem?_eq_some_iff.1 hx).1
  obtain ⟨r, hr⟩ := addAll_pre (eachS x) out
  refine ⟨addAll_nodup _ _ h.nodup, fun y hy => ?_, ?_, fun y hy => ?_, fun j z hj hz y hy => ?_, ?_⟩
  · rcases (addAll_mem _ _ _).1 hy with hy | hy
    · exact h.sub y hy
    · exact (facts hm (h.sub x hxm)).next y hy
  · obtain ⟨q, hq⟩ := h.first
    exact ⟨q ++ r, by rw [hr, hq]; rfl⟩
  · rcases (addAll_mem _ _ _).1 hy with hy | hy
    · exact h.reach y hy
    · exact .step (h.reach x hxm) hy
  · rw [addAll_mem]
    rw [hr] at hz
    rw [List.getElem?_append_left (by omega)] at hz
    by_cases hji : j = i
    · subst hji
      rw [hx] at hz
      injection hz with hz
      subst hz
      exact .inr hy
    · exact .inl (h.done j z (by omega) hz y hy)
  · rw [hr]; simp; omega

theorem set_len : (masks.all fun m => decide ((SetL m).length ≤ 120)) = true := by decide +kernel

theorem nodup_len {l r : List BT} (h : l.Nodup) (hs : ∀ x ∈ l, x ∈ r) : l.length ≤ r.length := List.Nodup.length_le_of_subset h hs

theorem BInv.len {t : BT} {m : Nat} (hm : m ∈ masks) {out : List BT} {i : Nat} (h : BInv t m out i) : out.length ≤ 120 :=
  Nat.le_trans (nodup_len h.nodup h.sub) (by simpa using List.all_eq_true.1 set_len m hm)

theorem closeL_ok {t : BT} {m : Nat} (hm : m ∈ masks) : ∀ (k : Nat) (out : List BT) (i : Nat), BInv t m out i → 121 ≤ k + i → ∃ i', BInv t m (closeL k out i) i' ∧ i' = (closeL k out i).length
  | 0, out, i, h, hk => by
    have := h.len hm
    have := h.le
    omega
  | k + 1, out, i, h, hk => by
    simp only [closeL]
    cases hx : out[i]? with
    | none =>
      have : out.length ≤ i := by
        rcases Nat.lt_or_ge i out.length with h | h
        · rw [List.getElem?_eq_getElem h] at hx; cases hx
        · exact h
      exact ⟨i, h, by have := h.le; show i = out.length; omega⟩
    | some x => exact closeL_ok hm k _ _ (h.step hm hx) (by omega)

theorem start_inv {t : BT} {m : Nat} (ht : t ∈ SetL m) : BInv t m [t] 0 :=
  ⟨by simp, fun x hx => by simp at hx; subst hx; exact ht, ⟨[], rfl⟩, fun x hx => by simp at hx; subst hx; exact .refl, fun j x hj => by omega, by simp⟩

structure CloseOK (t : BT) (m : Nat) (l : List BT) : Prop where
  nodup : l.Nodup
  mem : ∀ x, x ∈ l ↔ x ∈ SetL m
  first : ∃ r, l = t :: r

theorem close_ok {t : BT} {m : Nat} (hm : m ∈ masks) (ht : t ∈ SetL m) : CloseOK t m (closeS t) := by
  obtain ⟨i, h, hi⟩ := closeL_ok hm 200 [t] 0 (start_inv ht) (by omega)
  refine ⟨h.nodup, fun x => ⟨h.sub x, fun hx => ?_⟩, h.first⟩
  have hr := reach_all hm ht hx
  have hcl : ∀ y, Reach t y → y ∈ closeS t := by
    intro y hy
    induction hy with
    | refl => obtain ⟨r, hr⟩ := h.first; show t ∈ closeL 200 [t] 0; rw [hr]; simp
    | step _ hy ih =>
      obtain ⟨j, hj, he⟩ := List.getElem_of_mem ih
      exact h.done j _ (by rw [hi]; exact hj) (by rw [List.getElem?_eq_getElem (show j < (closeL 200 [t] 0).length from hj)]; exact congrArg some he) _ hy
  exact hcl x hr

theorem close_len {t : BT} {m : Nat} (hm : m ∈ masks) (ht : t ∈ SetL m) : (closeS t).length = (SetL m).length := by
  have h := close_ok hm ht
  exact Nat.le_antisymm (nodup_len h.nodup fun x hx => (h.mem x).1 hx) (nodup_len (set_nodup hm) fun x hx => (h.mem x).2 hx)

end Go.Ab
