/- Prefixes as numbers: the first bits of an address; no condition. -/
namespace Go.Proofs.YtnpeafhjcelpfaaGreat.Tri
set_option linter.unusedVariables false

/-- The first n bits of a. -/
def top (a n : Nat) : Nat := a / 2 ^ (32 - n)
def bitOf (a n : Nat) : Nat := a / 2 ^ (31 - n) % 2
def maskOf (a n : Nat) : Nat := a / 2 ^ (32 - n) * 2 ^ (32 - n)
theorem top_top {a m n : Nat} (h : m ≤ n) (hn : n ≤ 32) : top a m = top a n / 2 ^ (n - m) := by
  unfold top
  rw [Nat.div_div_eq_div_mul, ← Nat.pow_add]
  congr 2
  omega
theorem top_succ {a n : Nat} (hn : n < 32) : top a (n + 1) = 2 * top a n + bitOf a n := by
  have h := top_top (a := a) (m := n) (n := n + 1) (by omega) (by omega)
  have e : n + 1 - n = 1 := by omega
  rw [e] at h
  have h2 : bitOf a n = top a (n + 1) % 2 := by
    unfold bitOf top
    have : 32 - (n + 1) = 31 - n := by omega
    rw [this]
  omega
theorem bitOf_lt (a n : Nat) : bitOf a n < 2 := by unfold bitOf; omega
theorem maskOf_top (a n : Nat) : maskOf a n = top a n * 2 ^ (32 - n) := rfl
theorem top_mask (a n : Nat) : top (maskOf a n) n = top a n := by
  unfold top maskOf
  exact Nat.mul_div_cancel _ (Nat.two_pow_pos _)
theorem maskOf_eq {a b n : Nat} : maskOf a n = maskOf b n ↔ top a n = top b n := by
  constructor
  · intro h
    have := congrArg (top · n) h
    simpa [top_mask] using this
  · intro h; rw [maskOf_top, maskOf_top, h]
theorem top_zero {a : Nat} (h : a < 4294967296) : top a 0 = 0 := by
  unfold top; exact Nat.div_eq_of_lt (by simpa using h)
theorem top_all (a : Nat) : top a 32 = a := by unfold top; simp
theorem top_mono {a b m n : Nat} (h : m ≤ n) (hn : n ≤ 32) (e : top a n = top b n) : top a m = top b m := by
  rw [top_top h hn, top_top h hn, e]
theorem maskOf_le (a n : Nat) : maskOf a n ≤ a := Nat.div_mul_le_self _ _

/-- A prefix. -/
structure Px where
  a : Nat
  n : Nat
instance pxEq : DecidableEq Px := fun p q =>
  if h : p.a = q.a ∧ p.n = q.n then isTrue (by cases p; cases q; simp at h; simp [h]) else isFalse (fun e => h (by subst e; exact ⟨rfl, rfl⟩))
def Px.ok (p : Px) : Prop := p.n ≤ 32 ∧ p.a < 4294967296 ∧ maskOf p.a p.n = p.a
def ins (q p : Px) : Prop := p.n ≤ q.n ∧ top q.a p.n = top p.a p.n
instance insDec (q p : Px) : Decidable (ins q p) := by unfold ins; exact inferInstance
theorem Px.ext' {p q : Px} (hp : p.ok) (hq : q.ok) (hn : p.n = q.n) (ht : top p.a p.n = top q.a p.n) : p = q := by
  obtain ⟨a, n⟩ := p
  obtain ⟨b, m⟩ := q
  obtain rfl : n = m := hn
  have h1 := hp.2.2
  have h2 := hq.2.2
  simp only at h1 h2 ht
  have : a = b := by rw [← h1, ← h2, maskOf_eq]; exact ht
  subst this; rfl
theorem ins_refl (p : Px) : ins p p := ⟨Nat.le_refl _, rfl⟩
theorem ins_trans {r q p : Px} (hq : q.n ≤ 32) (h1 : ins r q) (h2 : ins q p) : ins r p :=
  ⟨Nat.le_trans h2.1 h1.1, (top_mono h2.1 hq h1.2).trans h2.2⟩
/-- Two that hold one: the longer one lies in the shorter one. -/
theorem ins_nest {e p q : Px} (hq : q.n ≤ 32) (h1 : ins e p) (h2 : ins e q) (h : p.n ≤ q.n) : ins q p :=
  ⟨h, (top_mono h hq h2.2).symm.trans h1.2⟩
theorem ins_anti {p q : Px} (hp : p.ok) (hq : q.ok) (h1 : ins p q) (h2 : ins q p) : p = q :=
  Px.ext' hp hq (Nat.le_antisymm h2.1 h1.1) (by have := h2.2; exact this.symm)
/-- Lies below p on side b. -/
def onSide (q p : Px) (b : Nat) : Prop := p.n < q.n ∧ ins q p ∧ bitOf q.a p.n = b
theorem onSide.of_ins {r q p : Px} {b : Nat} (hq : q.n ≤ 32) (h : onSide q p b) (h1 : ins r q) : onSide r p b := by
  obtain ⟨h2, h3, h4⟩ := h
  refine ⟨Nat.lt_of_lt_of_le h2 h1.1, ins_trans hq h1 h3, ?_⟩
  have e := top_mono (m := p.n + 1) (by omega) hq h1.2
  rw [top_succ (by omega), top_succ (by omega)] at e
  have e2 := top_mono (m := p.n) (by omega) hq h1.2
  omega
theorem onSide.ne {q p : Px} {b : Nat} (h : onSide q p b) : q ≠ p := by rintro rfl; exact Nat.lt_irrefl _ h.1
theorem side_of {q p : Px} (h : ins q p) (hn : q ≠ p) (hq : q.ok) (hp : p.ok) : onSide q p (bitOf q.a p.n) := by
  refine ⟨?_, h, rfl⟩
  rcases Nat.lt_or_ge p.n q.n with h1 | h1
  · exact h1
  · have e : q.n = p.n := by have := h.1; omega
    exact absurd (ins_anti hq hp h ⟨h1, by rw [e]; exact h.2.symm⟩) hn
theorem sides_apart {q p : Px} {b c : Nat} (h1 : onSide q p b) (h2 : onSide q p c) : b = c := h1.2.2.symm.trans h2.2.2
/-- The order of prefixes. -/
def plt (p q : Px) : Prop := p.a < q.a ∨ p.a = q.a ∧ p.n < q.n
theorem plt_trans {p q r : Px} (h1 : plt p q) (h2 : plt q r) : plt p r := by unfold plt at *; omega
theorem plt_irrefl {p : Px} (h : plt p p) : False := by unfold plt at h; omega
theorem plt_ne {p q : Px} (h : plt p q) : p ≠ q := by rintro rfl; exact plt_irrefl h
theorem ins_le {q p : Px} (hp : p.ok) (h : ins q p) : p.a ≤ q.a := by
  have h1 := hp.2.2
  rw [← h1, maskOf_top, ← h.2, ← maskOf_top]
  exact maskOf_le _ _
theorem plt_of_side {q p : Px} {b : Nat} (hp : p.ok) (h : onSide q p b) : plt p q := by
  have := ins_le hp h.2.1
  have := h.1
  unfold plt; omega
theorem plt_sides {q r p : Px} (hp : p.ok) (hq : q.n ≤ 32) (hr : r.n ≤ 32) (h1 : onSide q p 0) (h2 : onSide r p 1) : plt q r := by
  have a1 := top_succ (a := q.a) (n := p.n) (by have := h1.1; omega)
  have a2 := top_succ (a := r.a) (n := p.n) (by have := h1.1; omega)
  rw [h1.2.1.2, h1.2.2] at a1
  rw [h2.2.1.2, h2.2.2] at a2
  left
  rcases Nat.lt_or_ge q.a r.a with h | h
  · exact h
  · exfalso
    have : top r.a (p.n + 1) ≤ top q.a (p.n + 1) := Nat.div_le_div_right h
    omega
end Go.Proofs.YtnpeafhjcelpfaaGreat.Tri
