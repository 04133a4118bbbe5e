/-
  How the abstract interpreter's values and store stand to the model's values and worlds.
-/
import Derived.Test.YtlgjecmpmifjpaaAbA
import Derived.Below
import Derived.Laws.AppendOwn
import Derived.Laws.OwnMore
set_option linter.unusedVariables false
namespace Go.Ab
open Go.RowKit

/-- Cells that nobody writes any more. -/
abbrev Mem := Nat → Nat → Option Value

mutual
def RelP (M : Mem) : PV → Value → Prop
  | .val x, v => v = x ∧ scalarB x = true
  | .agg cs, v => ∃ vs, v = .agg vs ∧ RelC M cs vs.toList
  | .list es, v => ∃ A n c, v = .slice A n c ∧ n = es.length ∧ n ≤ c ∧ (es = [] ∨ ∃ b off sz, A = some ⟨b, off, none⟩ ∧ RelE M b sz es off)
def RelC (M : Mem) : List PV → List Value → Prop
  | [], vs => vs = []
  | c :: cs, vs => ∃ v r, vs = v :: r ∧ c.one = true ∧ RelP M c v ∧ RelC M cs r
def RelE (M : Mem) (b sz : Nat) : List PV → Nat → Prop
  | [], _ => True
  | .agg cs :: es, off => (∃ vs, vs.length = sz ∧ (∀ j, j < sz → M b (off + j) = vs[j]?) ∧ RelC M cs vs) ∧ RelE M b sz es (off + sz)
  | .val x :: es, off => sz = 1 ∧ (∃ v, M b off = some v ∧ RelP M (.val x) v) ∧ RelE M b sz es (off + sz)
  | .list xs :: es, off => sz = 1 ∧ (∃ v, M b off = some v ∧ RelP M (.list xs) v) ∧ RelE M b sz es (off + sz)
end

theorem RelC.length {M : Mem} : ∀ {cs : List PV} {vs : List Value}, RelC M cs vs → cs.length = vs.length
  | [], vs, h => by simp only [RelC] at h; subst h; rfl
  | c :: cs, vs, h => by
    simp only [RelC] at h
    obtain ⟨v, r, rfl, _, _, h⟩ := h
    simp [RelC.length h]

theorem PV.cells_one {c : PV} (h : c.one = true) : c.cells = [c] := by cases c <;> simp_all [PV.one, PV.cells]

theorem scalar_one {v : Value} (h : scalarB v = true) : v.oneCell' = true := by
  cases v <;> simp_all [scalarB, Value.oneCell']
theorem cells_of_one {v : Value} (h : v.oneCell' = true) : v.cells = #[v] := by
  cases v <;> simp_all [Value.oneCell', Value.cells]

theorem RelP.oneCell {M : Mem} {c : PV} {v : Value} (h1 : c.one = true) (h : RelP M c v) : v.oneCell' = true := by
  cases c with
  | val x => simp only [RelP] at h; obtain ⟨rfl, h⟩ := h; exact scalar_one h
  | agg cs => simp [PV.one] at h1
  | list es => simp only [RelP] at h; obtain ⟨A, n, c, rfl, _⟩ := h; rfl

/-- An element's cells, however it looks. -/
theorem relE_cons {M : Mem} {b sz off : Nat} {e : PV} {es : List PV} : RelE M b sz (e :: es) off ↔
    (∃ vs : List Value, vs.length = sz ∧ (∀ j, j < sz → M b (off + j) = vs[j]?) ∧ RelC M e.cells vs) ∧ RelE M b sz es (off + sz) := by
  cases e with
  | agg cs => simp only [RelE, PV.cells]
  | val x =>
    simp only [RelE, PV.cells]
    constructor
    · rintro ⟨rfl, ⟨v, hm, hr⟩, h⟩
      exact ⟨⟨[v], rfl, ⟨fun j hj => (by obtain rfl : j = 0 := (by omega); simpa using hm), (by simp only [RelC]; exact ⟨v, [], rfl, rfl, hr, rfl⟩)⟩⟩, h⟩
    · rintro ⟨⟨vs, rfl, hm, hr⟩, h⟩
      simp only [RelC] at hr
      obtain ⟨v, r, rfl, _, hr, rfl⟩ := hr
      exact ⟨rfl, ⟨v, by simpa using hm 0 (by simp), hr⟩, h⟩
  | list xs =>
    simp only [RelE, PV.cells]
    constructor
    · rintro ⟨rfl, ⟨v, hm, hr⟩, h⟩
      exact ⟨⟨[v], rfl, ⟨fun j hj => (by obtain rfl : j = 0 := (by omega); simpa using hm), (by simp only [RelC]; exact ⟨v, [], rfl, rfl, hr, rfl⟩)⟩⟩, h⟩
    · rintro ⟨⟨vs, rfl, hm, hr⟩, h⟩
      simp only [RelC] at hr
      obtain ⟨v, r, rfl, _, hr, rfl⟩ := hr
      exact ⟨rfl, ⟨v, by simpa using hm 0 (by simp), hr⟩, h⟩

theorem RelE.get {M : Mem} {b sz : Nat} : ∀ {es : List PV} {off i : Nat} {e : PV}, RelE M b sz es off → es[i]? = some e →
    ∃ vs : List Value, vs.length = sz ∧ (∀ j, j < sz → M b (off + i * sz + j) = vs[j]?) ∧ RelC M e.cells vs
  | [], off, i, e, _, h => by simp at h
  | x :: es, off, 0, e, hr, h => by
    obtain rfl : x = e := by simpa using h
    simpa using (relE_cons.1 hr).1
  | x :: es, off, i + 1, e, hr, h => by
    obtain ⟨vs, h1, h2, h3⟩ := RelE.get (i := i) (relE_cons.1 hr).2 (by simpa using h)
    exact ⟨vs, h1, fun j hj => by rw [← h2 j hj]; congr 1; rw [Nat.add_mul]; omega, h3⟩

theorem RelE.mk {M : Mem} {b sz : Nat} : ∀ (es : List PV) (off : Nat),
    (∀ (i : Nat) (e : PV), es[i]? = some e → ∃ vs : List Value, vs.length = sz ∧ (∀ j, j < sz → M b (off + i * sz + j) = vs[j]?) ∧ RelC M e.cells vs) → RelE M b sz es off
  | [], off, _ => by simp [RelE]
  | x :: es, off, h => by
    refine relE_cons.2 ⟨by simpa using h 0 x (by simp), RelE.mk es (off + sz) fun i e he => ?_⟩
    obtain ⟨vs, h1, h2, h3⟩ := h (i + 1) e (by simpa using he)
    exact ⟨vs, h1, fun j hj => by rw [← h2 j hj]; congr 1; rw [Nat.add_mul]; omega, h3⟩

/-- More cells are known. -/
def MLe (M M' : Mem) : Prop := ∀ b o v, M b o = some v → M' b o = some v
theorem MLe.refl (M : Mem) : MLe M M := fun _ _ _ h => h
theorem MLe.trans {M M' M'' : Mem} (h : MLe M M') (h' : MLe M' M'') : MLe M M'' := fun b o v hv => h' b o v (h b o v hv)

mutual
theorem RelP.mono {M M' : Mem} (hM : MLe M M') : ∀ (x : PV) (v : Value), RelP M x v → RelP M' x v
  | .val x, v, h => by simpa only [RelP] using h
  | .agg cs, v, h => by
    simp only [RelP] at h ⊢
    obtain ⟨vs, rfl, h⟩ := h
    exact ⟨vs, rfl, RelC.mono hM cs _ h⟩
  | .list es, v, h => by
    simp only [RelP] at h ⊢
    obtain ⟨A, n, c, rfl, hn, hc, h⟩ := h
    refine ⟨A, n, c, rfl, hn, hc, h.imp id fun ⟨b, off, sz, hA, h⟩ => ⟨b, off, sz, hA, RelE.mono hM b sz es off h⟩⟩
theorem RelC.mono {M M' : Mem} (hM : MLe M M') : ∀ (cs : List PV) (vs : List Value), RelC M cs vs → RelC M' cs vs
  | [], vs, h => by simpa only [RelC] using h
  | c :: cs, vs, h => by
    simp only [RelC] at h ⊢
    obtain ⟨v, r, rfl, h1, h2, h3⟩ := h
    exact ⟨v, r, rfl, h1, RelP.mono hM c v h2, RelC.mono hM cs r h3⟩
theorem RelE.mono {M M' : Mem} (hM : MLe M M') (b sz : Nat) : ∀ (es : List PV) (off : Nat), RelE M b sz es off → RelE M' b sz es off
  | [], off, _ => by simp [RelE]
  | .agg cs :: es, off, h => by
    simp only [RelE] at h ⊢
    obtain ⟨⟨vs, h1, h2, h3⟩, h⟩ := h
    exact ⟨⟨vs, h1, fun j hj => by
      have := h2 j hj
      rw [List.getElem?_eq_getElem (by omega)] at this ⊢
      exact hM _ _ _ this, RelC.mono hM cs vs h3⟩, RelE.mono hM b sz es _ h⟩
  | .val x :: es, off, h => by
    simp only [RelE] at h ⊢
    obtain ⟨h1, ⟨v, h2, h3⟩, h⟩ := h
    exact ⟨h1, ⟨v, hM _ _ _ h2, RelP.mono hM _ v h3⟩, RelE.mono hM b sz es _ h⟩
  | .list xs :: es, off, h => by
    simp only [RelE] at h ⊢
    obtain ⟨h1, ⟨v, h2, h3⟩, h⟩ := h
    exact ⟨h1, ⟨v, hM _ _ _ h2, RelP.mono hM _ v h3⟩, RelE.mono hM b sz es _ h⟩
end

/-- What stands behind a name of the store's. -/
structure Gh where
  blk : Nat
  len : Nat
  A : Option Addr
  cap : Nat
  sz : Nat
  real : Bool

def AV.one : AV → Bool
  | .agg _ => false
  | .tup _ => false
  | .p x => x.one
  | _ => true

mutual
def RelV (M : Mem) (B : List Gh) : AV → Value → Prop
  | .bot, _ => True
  | .p x, v => RelP M x v
  | .agg cs, v => ∃ vs, v = .agg vs ∧ RelVC M B cs vs.toList
  | .tup cs, v => ∃ vs, v = .tuple vs ∧ RelVT M B cs vs.toList
  | .ro cs, v => ∃ b off, ∃ vs : List Value, v = .pointer (some ⟨b, off, none⟩) ∧ (∀ j, j < vs.length → M b (off + j) = vs[j]?) ∧ RelC M cs vs
  | .ptr id off, v => ∃ g, B[id]? = some g ∧ (g.real = true ∧ g.len = 0) ∧ v = .pointer (some ⟨g.blk, off, none⟩)
  | .own id n, v => ∃ g, B[id]? = some g ∧ n ≤ g.len ∧ ∃ A c, v = .slice A n c ∧ (n = g.len → A = g.A ∧ c = g.cap)
  | .optr id n i off, v => ∃ g, B[id]? = some g ∧ n ≤ g.len ∧ ∃ A, v = .pointer (some A) ∧ (n = g.len → A = ⟨g.blk, i * g.sz + off, none⟩)
  | .map id, v => ∃ g, B[id]? = some g ∧ (g.real = true ∧ g.len = 0) ∧ v = .map (some g.blk)
  | .fn f xs ys, v => ∃ vx vy, v = .func (.func f) vx vy ∧ RelVT M B xs vx.toList ∧ RelVT M B ys vy.toList
  | .yld id, v => ∃ g, B[id]? = some g ∧ (g.real = true ∧ g.len = 0) ∧ v = .func (.yield g.blk) #[] #[]
  | .e0, v => v = .slice none 0 0
def RelVC (M : Mem) (B : List Gh) : List AV → List Value → Prop
  | [], vs => vs = []
  | c :: cs, vs => ∃ v r, vs = v :: r ∧ c.one = true ∧ v.oneCell' = true ∧ RelV M B c v ∧ RelVC M B cs r
def RelVT (M : Mem) (B : List Gh) : List AV → List Value → Prop
  | [], vs => vs = []
  | c :: cs, vs => ∃ v r, vs = v :: r ∧ RelV M B c v ∧ RelVT M B cs r
end

def GLe (g g' : Gh) : Prop := g.len ≤ g'.len ∧ (g.len = g'.len → g' = g)
theorem GLe.refl (g : Gh) : GLe g g := ⟨Nat.le_refl _, fun _ => rfl⟩
theorem GLe.trans {a b c : Gh} (h : GLe a b) (h' : GLe b c) : GLe a c :=
  ⟨Nat.le_trans h.1 h'.1, fun e => by
    have h1 := h.1
    have h2 := h'.1
    have e1 : a.len = b.len := by omega
    have e2 : b.len = c.len := by omega
    rw [h'.2 e2, h.2 e1]⟩

/-- Names keep what stands behind them (a row may grow). -/
def BLe (B B' : List Gh) : Prop := ∀ (id : Nat) (g : Gh), B[id]? = some g → ∃ g', B'[id]? = some g' ∧ GLe g g' ∧ (g.real = true → g'.real = true ∧ (g.len = 0 → g' = g))
theorem BLe.refl (B : List Gh) : BLe B B := fun _ g h => ⟨g, h, GLe.refl g, fun h => ⟨h, fun _ => rfl⟩⟩
theorem BLe.trans {a b c : List Gh} (h : BLe a b) (h' : BLe b c) : BLe a c := fun id g hg => by
  obtain ⟨g1, h1, l1, k1⟩ := h id g hg
  obtain ⟨g2, h2, l2, k2⟩ := h' id g1 h1
  exact ⟨g2, h2, l1.trans l2, fun hr => ⟨(k2 (k1 hr).1).1, fun h0 => by
    have e := (k1 hr).2 h0
    subst e
    exact (k2 hr).2 h0⟩⟩
theorem BLe.append (B C : List Gh) : BLe B (B ++ C) := fun id g h =>
  ⟨g, by rw [List.getElem?_append_left (List.getElem?_eq_some_iff.1 h).1]; exact h, GLe.refl g, fun h => ⟨h, fun _ => rfl⟩⟩

mutual
theorem RelV.mono {M M' : Mem} {B B' : List Gh} (hM : MLe M M') (hB : BLe B B') : ∀ (x : AV) (v : Value), RelV M B x v → RelV M' B' x v
  | .bot, v, h => by simp only [RelV]
  | .p x, v, h => by simp only [RelV] at h ⊢; exact RelP.mono hM x v h
  | .agg cs, v, h => by
    simp only [RelV] at h ⊢
    obtain ⟨vs, rfl, h⟩ := h
    exact ⟨vs, rfl, RelVC.mono hM hB cs _ h⟩
  | .tup cs, v, h => by
    simp only [RelV] at h ⊢
    obtain ⟨vs, rfl, h⟩ := h
    exact ⟨vs, rfl, RelVT.mono hM hB cs _ h⟩
  | .ro cs, v, h => by
    simp only [RelV] at h ⊢
    obtain ⟨b, off, vs, rfl, h1, h2⟩ := h
    refine ⟨b, off, vs, rfl, fun j hj => ?_, RelC.mono hM cs vs h2⟩
    have := h1 j hj
    rw [List.getElem?_eq_getElem hj] at this ⊢
    exact hM _ _ _ this
  | .ptr id off, v, h => by
    simp only [RelV] at h ⊢
    obtain ⟨g, hg, hr, rfl⟩ := h
    obtain ⟨g', hg', hl, hk⟩ := hB id g hg
    have e := (hk hr.1).2 hr.2
    subst e
    exact ⟨g', hg', hr, rfl⟩
  | .own id n, v, h => by
    simp only [RelV] at h ⊢
    obtain ⟨g, hg, hn, A, c, rfl, hh⟩ := h
    obtain ⟨g', hg', hl, hk⟩ := hB id g hg
    refine ⟨g', hg', Nat.le_trans hn hl.1, A, c, rfl, fun e => ?_⟩
    have h1 := hl.1
    have e2 := hl.2 (by omega)
    subst e2
    exact hh e
  | .optr id n i off, v, h => by
    simp only [RelV] at h ⊢
    obtain ⟨g, hg, hn, A, rfl, hh⟩ := h
    obtain ⟨g', hg', hl, hk⟩ := hB id g hg
    refine ⟨g', hg', Nat.le_trans hn hl.1, A, rfl, fun e => ?_⟩
    have h1 := hl.1
    have e2 := hl.2 (by omega)
    subst e2
    exact hh e
  | .map id, v, h => by
    simp only [RelV] at h ⊢
    obtain ⟨g, hg, hr, rfl⟩ := h
    obtain ⟨g', hg', hl, hk⟩ := hB id g hg
    have e := (hk hr.1).2 hr.2
    subst e
    exact ⟨g', hg', hr, rfl⟩
  | .fn f xs ys, v, h => by
    simp only [RelV] at h ⊢
    obtain ⟨vx, vy, rfl, h1, h2⟩ := h
    exact ⟨vx, vy, rfl, RelVT.mono hM hB xs _ h1, RelVT.mono hM hB ys _ h2⟩
  | .yld id, v, h => by
    simp only [RelV] at h ⊢
    obtain ⟨g, hg, hr, rfl⟩ := h
    obtain ⟨g', hg', hl, hk⟩ := hB id g hg
    have e := (hk hr.1).2 hr.2
    subst e
    exact ⟨g', hg', hr, rfl⟩
  | .e0, v, h => by simpa only [RelV] using h
theorem RelVC.mono {M M' : Mem} {B B' : List Gh} (hM : MLe M M') (hB : BLe B B') : ∀ (cs : List AV) (vs : List Value), RelVC M B cs vs → RelVC M' B' cs vs
  | [], vs, h => by simpa only [RelVC] using h
  | c :: cs, vs, h => by
    simp only [RelVC] at h ⊢
    obtain ⟨v, r, rfl, h1, h2, h3, h4⟩ := h
    exact ⟨v, r, rfl, h1, h2, RelV.mono hM hB c v h3, RelVC.mono hM hB cs r h4⟩
theorem RelVT.mono {M M' : Mem} {B B' : List Gh} (hM : MLe M M') (hB : BLe B B') : ∀ (cs : List AV) (vs : List Value), RelVT M B cs vs → RelVT M' B' cs vs
  | [], vs, h => by simpa only [RelVT] using h
  | c :: cs, vs, h => by
    simp only [RelVT] at h ⊢
    obtain ⟨v, r, rfl, h1, h2⟩ := h
    exact ⟨v, r, rfl, RelV.mono hM hB c v h1, RelVT.mono hM hB cs r h2⟩
end

/-- A row's cells, element by element. -/
def RelF (M : Mem) (sz : Nat) (es : List PV) (xs : List Value) : Prop :=
  ∀ (i : Nat) (e : PV), es[i]? = some e → RelC M e.cells ((xs.drop (i * sz)).take sz) ∧ e.cells.length = sz

/-- An object of the store, in memory. -/
def ObjOK (P : Program) (M : Mem) (B : List Gh) (w : World) (base : Nat) (g : Gh) : AObj → Prop
  | .box cs => g.real = true ∧ g.len = 0 ∧ (∃ vs T, w.heap[g.blk]? = some (.cells vs T (0, 0)) ∧ RelVC M B cs vs.toList) ∧ ∀ o, M g.blk o = none
  | .arr T es fz => g.len = es.length ∧ fz ≤ es.length ∧ ((es = [] ∧ g.A = none ∧ g.cap = 0 ∧ g.real = false) ∨
      (g.real = true ∧ g.A = some ⟨g.blk, 0, none⟩ ∧ es ≠ [] ∧ g.sz = szT P T ∧ 0 < g.sz ∧
        (∃ xs, w.ownsRow base T g.sz (.slice g.A g.len g.cap) g.len xs ∧ RelF M g.sz es xs) ∧ ∀ o, fz * g.sz ≤ o → M g.blk o = none))
  | .map kvs => g.real = true ∧ g.len = 0 ∧ ∃ (es : Array MapEntry) (clock : Nat), w.heap[g.blk]? = some (.map es clock) ∧ es.size = kvs.length ∧
      ∀ (i : Nat) (e : MapEntry) (k v : PV), es[i]? = some e → kvs[i]? = some (k, v) → RelP M k e.key ∧ RelP M v e.val ∧ keyB k = true
  | .loop st pend tm ps assign body f => g.real = true ∧ g.len = 0 ∧ ∃ L, w.heap[g.blk]? = some (.loop L) ∧ L.state = st ∧ L.pending = pend ∧ L.params.toList = ps ∧ L.assign = assign ∧ L.body = body ∧
      (∀ t, RelV M B (tm t) (L.tmps.getD t undef)) ∧ L.tmps.size = ((P.funcs[f]?).map (·.ntmps)).getD 0

/-- The store, in memory. -/
structure StOK (P : Program) (M : Mem) (B : List Gh) (D : List Nat) (σ : Store) (base : Nat) (w0 w : World) : Prop where
  len : B.length = σ.length
  obj : ∀ (id : Nat) (o : AObj) (g : Gh), σ[id]? = some o → B[id]? = some g → ObjOK P M B w base g o
  dist : ∀ (i j : Nat) (gi gj : Gh), B[i]? = some gi → B[j]? = some gj → gi.real = true → gj.real = true → gi.blk = gj.blk → i = j
  lo : ∀ (i : Nat) (g : Gh), B[i]? = some g → g.real = true → base ≤ g.blk ∧ g.blk < w.heap.size
  mem : ∀ b o v, M b o = some v → w.cell? ⟨b, o, none⟩ = some v
  marks : ∀ r ∈ D, w.heap[r]? = some (.deferred (some [])) ∧ base ≤ r
  dup : D.Nodup
  below : Below base w0 w
  size : base ≤ w.heap.size

/-- A step further: what was known is known still. -/
structure Ext (base : Nat) (M M' : Mem) (B B' : List Gh) : Prop where
  mem : MLe M M'
  gh : BLe B B'
  old : ∀ b o, b < base → M' b o = M b o

theorem Ext.refl (base : Nat) (M : Mem) (B : List Gh) : Ext base M M B B := ⟨MLe.refl M, BLe.refl B, fun _ _ _ => rfl⟩
theorem Ext.trans {base : Nat} {M M' M'' : Mem} {B B' B'' : List Gh} (h : Ext base M M' B B') (h' : Ext base M' M'' B' B'') : Ext base M M'' B B'' :=
  ⟨h.mem.trans h'.mem, h.gh.trans h'.gh, fun b o hb => (h'.old b o hb).trans (h.old b o hb)⟩

theorem RelV.ext {base : Nat} {M M' : Mem} {B B' : List Gh} (h : Ext base M M' B B') {x : AV} {v : Value} (hr : RelV M B x v) : RelV M' B' x v := RelV.mono h.mem h.gh x v hr

/-- A frame's slots. -/
def FrOK (M : Mem) (B : List Gh) (nt : Nat) (tm : Nat → AV) (tmps : Array Value) : Prop := tmps.size = nt ∧ ∀ t, RelV M B (tm t) (tmps.getD t undef)

theorem FrOK.ext {base nt : Nat} {M M' : Mem} {B B' : List Gh} (h : Ext base M M' B B') {tm : Nat → AV} {tmps : Array Value} (hf : FrOK M B nt tm tmps) : FrOK M' B' nt tm tmps :=
  ⟨hf.1, fun t => (hf.2 t).ext h⟩

theorem FrOK.put {nt : Nat} {M : Mem} {B : List Gh} {tm : Nat → AV} {a : Act} (hf : FrOK M B nt tm a.tmps) {d : Option Nat} (hd : dstB nt d = true) {v : AV} {x : Value} (hv : RelV M B v x) :
    FrOK M B nt (put tm d v) (a.put d x).tmps := by
  cases d with
  | none => exact hf
  | some d =>
    simp only [dstB, decide_eq_true_eq] at hd
    refine ⟨by simp [Act.put, hf.1], fun t => ?_⟩
    simp only [Ab.put, Act.put]
    by_cases h : t = d
    · subst h
      rw [if_pos rfl]
      have : (a.tmps.setIfInBounds t x).getD t undef = x := by simp [Array.getD, hf.1, hd]
      rw [this]
      exact hv
    · rw [if_neg h]
      have : (a.tmps.setIfInBounds d x).getD t undef = a.tmps.getD t undef := by
        simp only [Array.getD_eq_getD_getElem?, Array.getElem?_setIfInBounds]
        rw [if_neg (fun e => h e.symm)]
      rw [this]
      exact hf.2 t

end Go.Ab
