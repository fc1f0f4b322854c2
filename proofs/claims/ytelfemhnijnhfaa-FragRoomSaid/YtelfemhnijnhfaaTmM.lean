/- Plain laws of the heap of timers: what putM, upM and downM keep; no program in sight; no condition. -/
import Derived.Test.YtelfemhnijnhfaaTmD
namespace Go.Proofs.Ytelfemhnijnhfaa.Fr.Tm
set_option linter.unusedVariables false
set_option maxRecDepth 100000

def at0 (l : List Pr) (i : Nat) : Pr := l.getD i (0, 0)
theorem at0_set (l : List Pr) (j : Nat) (p : Pr) (i : Nat) (hj : j < l.length) : at0 (l.set j p) i = if i = j then p else at0 l i := by
  unfold at0
  simp only [List.getD_eq_getElem?_getD, List.getElem?_set]
  by_cases e : j = i
  · subst e; simp [hj]
  · simp [e, Ne.symm e]
theorem at0_some {l : List Pr} {i : Nat} {p : Pr} (h : l[i]? = some p) : at0 l i = p := by simp [at0, List.getD_eq_getElem?_getD, h]
theorem some_at0 {l : List Pr} {i : Nat} (h : i < l.length) : l[i]? = some (at0 l i) := by simp [at0, List.getD_eq_getElem?_getD, h]

/-- a is not behind b. -/
def le (a b : Pr) : Prop := a.2 < b.2 ∨ (a.2 = b.2 ∧ a.1 ≤ b.1)
theorem ahead_true {a b : Pr} : aheadB a b = true ↔ (a.2 < b.2 ∨ (a.2 = b.2 ∧ a.1 < b.1)) := by
  unfold aheadB
  split
  · simp; left; assumption
  · split
    · simp; omega
    · simp; omega
theorem ahead_false {a b : Pr} : aheadB a b = false ↔ le b a := by
  rw [← Bool.not_eq_true, ahead_true]; unfold le; omega
theorem le_refl' (a : Pr) : le a a := by unfold le; omega
theorem le_tr {a b c : Pr} (h : le a b) (k : le b c) : le a c := by unfold le at *; omega
theorem le_of_ahead {a b : Pr} (h : aheadB a b = true) : le a b := by rw [ahead_true] at h; unfold le; omega
theorem le_anti {a b : Pr} (h : le a b) (k : le b a) : a = b := by
  unfold le at *; obtain ⟨a0, a1⟩ := a; obtain ⟨b0, b1⟩ := b; simp only [Prod.mk.injEq]; simp only at h k; omega
theorem le_total (a b : Pr) : le a b ∨ le b a := by unfold le; omega

/-- Each id stands where the places say. -/
structure TInv (s : St) : Prop where
  f : ∀ (i : Nat) (p : Pr), s.hp[i]? = some p → s.f p.1 = some (i : Int)
  back : ∀ y v, s.f y = some v → ∃ (i : Nat) (p : Pr), v = (i : Int) ∧ s.hp[i]? = some p ∧ p.1 = y

/-- The same, but for place j, which is free for id. -/
structure Hole (s : St) (j : Nat) (id : Int) : Prop where
  f : ∀ (i : Nat) (p : Pr), i ≠ j → s.hp[i]? = some p → s.f p.1 = some (i : Int) ∧ p.1 ≠ id
  back : ∀ y v, y ≠ id → s.f y = some v → ∃ (i : Nat) (p : Pr), v = (i : Int) ∧ i ≠ j ∧ s.hp[i]? = some p ∧ p.1 = y

def val (s : St) (y : Int) : Option Int := (s.f y).bind fun v => (s.hp[v.toNat]?).map (·.2)

theorem get_set (l : List Pr) (j : Nat) (p : Pr) (i : Nat) (hj : j < l.length) : (l.set j p)[i]? = if i = j then some p else l[i]? := by
  rw [List.getElem?_set]
  by_cases e : j = i
  · subst e; simp [hj]
  · simp [e, Ne.symm e]

theorem Hole.close {s : St} {j : Nat} {x : Pr} (h : Hole s j x.1) (hj : j < s.hp.length) : TInv (putM s j x) := by
  constructor
  · intro i p hp
    simp only [putM, get_set _ _ _ _ hj] at hp
    simp only [putM, upd]
    by_cases e : i = j
    · rw [if_pos e] at hp; cases hp; rw [if_pos rfl, e]
    · rw [if_neg e] at hp
      obtain ⟨h1, h2⟩ := h.f i p e hp
      rw [if_neg h2]; exact h1
  · intro y v hy
    simp only [putM, upd] at hy
    simp only [putM, get_set _ _ _ _ hj]
    by_cases e : y = x.1
    · rw [if_pos e] at hy; cases hy; exact ⟨j, x, rfl, by rw [if_pos rfl], e.symm⟩
    · rw [if_neg e] at hy
      obtain ⟨i, p, h1, h2, h3, h4⟩ := h.back y v e hy
      exact ⟨i, p, h1, by rw [if_neg h2]; exact h3, h4⟩

theorem Hole.close_val {s : St} {j : Nat} {x : Pr} (h : Hole s j x.1) (hj : j < s.hp.length) (y : Int) : val (putM s j x) y = if y = x.1 then some x.2 else val s y := by
  unfold val
  simp only [putM, upd]
  by_cases e : y = x.1
  · simp only [if_pos e, Option.bind_some, Int.toNat_natCast, get_set _ _ _ _ hj, if_true, Option.map_some]
  · simp only [if_neg e]
    cases hf : s.f y with
    | none => rfl
    | some v =>
      obtain ⟨i, p, h1, h2, h3, h4⟩ := h.back y v e hf
      subst h1
      simp only [Option.bind_some, Int.toNat_natCast, get_set _ _ _ _ hj, if_neg h2]

theorem Hole.move {s : St} {j q : Nat} {id : Int} (h : Hole s j id) (hj : j < s.hp.length) (hq : q < s.hp.length) (hne : q ≠ j) : Hole (putM s j (at0 s.hp q)) q id := by
  have hqs := some_at0 hq
  obtain ⟨fq, nq⟩ := h.f q _ hne hqs
  constructor
  · intro i p hi hp
    simp only [putM, get_set _ _ _ _ hj] at hp
    simp only [putM, upd]
    by_cases e : i = j
    · rw [if_pos e] at hp; cases hp; rw [if_pos rfl, e]; exact ⟨rfl, nq⟩
    · rw [if_neg e] at hp
      obtain ⟨h1, h2⟩ := h.f i p e hp
      refine ⟨?_, h2⟩
      rw [if_neg]
      · exact h1
      · intro e2
        rw [e2, fq] at h1
        injection h1 with h1
        omega
  · intro y v hid hy
    simp only [putM, upd] at hy
    simp only [putM, get_set _ _ _ _ hj]
    by_cases e : y = (at0 s.hp q).1
    · rw [if_pos e] at hy; cases hy; exact ⟨j, _, rfl, Ne.symm hne, by rw [if_pos rfl], e.symm⟩
    · rw [if_neg e] at hy
      obtain ⟨i, p, h1, h2, h3, h4⟩ := h.back y v hid hy
      refine ⟨i, p, h1, ?_, by rw [if_neg h2]; exact h3, h4⟩
      rintro rfl
      rw [hqs] at h3; cases h3
      exact e h4.symm

theorem Hole.move_val {s : St} {j q : Nat} {id : Int} (h : Hole s j id) (hj : j < s.hp.length) (hq : q < s.hp.length) (hne : q ≠ j) (y : Int) (hy : y ≠ id) : val (putM s j (at0 s.hp q)) y = val s y := by
  have hqs := some_at0 hq
  obtain ⟨fq, nq⟩ := h.f q _ hne hqs
  unfold val
  simp only [putM, upd]
  by_cases e : y = (at0 s.hp q).1
  · subst e
    simp only [if_true, Option.bind_some, Int.toNat_natCast, get_set _ _ _ _ hj, Option.map_some, fq, hqs]
  · simp only [if_neg e]
    cases hf : s.f y with
    | none => rfl
    | some v =>
      obtain ⟨i, p, h1, h2, h3, h4⟩ := h.back y v hy hf
      subst h1
      simp only [Option.bind_some, Int.toNat_natCast, get_set _ _ _ _ hj, if_neg h2]

/-- Which ids there are, and how many. -/
structure Same (s t : St) : Prop where
  len : t.hp.length = s.hp.length
  n : t.n = s.n
  key : ∀ y, (t.f y).isSome = (s.f y).isSome

theorem Same.refl (s : St) : Same s s := ⟨rfl, rfl, fun _ => rfl⟩
theorem Same.trans {a b c : St} (h : Same a b) (k : Same b c) : Same a c := ⟨k.len.trans h.len, k.n.trans h.n, fun y => (k.key y).trans (h.key y)⟩
theorem Same.put (s : St) (j : Nat) (p : Pr) (hk : (s.f p.1).isSome = true) : Same s (putM s j p) := by
  refine ⟨by simp [putM], by simp [putM, hk], fun y => ?_⟩
  simp only [putM, upd]
  by_cases e : y = p.1
  · rw [if_pos e, e, hk]; rfl
  · rw [if_neg e]

/-! ### order -/
def HeapOk (l : List Pr) : Prop := ∀ i, 0 < i → i < l.length → le (at0 l ((i - 1) / 2)) (at0 l i)
/-- In order but for place j. -/
structure Alm (l : List Pr) (j : Nat) : Prop where
  far : ∀ i, 0 < i → i < l.length → i ≠ j → (i - 1) / 2 ≠ j → le (at0 l ((i - 1) / 2)) (at0 l i)
  near : ∀ i, 0 < i → i < l.length → (i - 1) / 2 = j → 0 < j → le (at0 l ((j - 1) / 2)) (at0 l i)
/-- In order but for what is below place p. -/
structure But (l : List Pr) (p : Nat) : Prop where
  far : ∀ i, 0 < i → i < l.length → (i - 1) / 2 ≠ p → le (at0 l ((i - 1) / 2)) (at0 l i)
  near : ∀ i, 0 < i → i < l.length → (i - 1) / 2 = p → 0 < p → le (at0 l ((p - 1) / 2)) (at0 l i)

theorem HeapOk.alm {l : List Pr} (h : HeapOk l) (j : Nat) : Alm l j :=
  ⟨fun i h0 h1 _ _ => h i h0 h1, fun i h0 h1 hp hj => by
    have := h i h0 h1; rw [hp] at this
    exact le_tr (h j hj (by omega)) this⟩

theorem Alm.up {l : List Pr} {j : Nat} (h : Alm l j) (hj : j < l.length) (h0 : 0 < j) : Alm (l.set j (at0 l ((j - 1) / 2))) ((j - 1) / 2) := by
  have hq : (j - 1) / 2 < j := by omega
  constructor
  · intro i i0 il hi hpi
    simp only [List.length_set] at il
    rw [at0_set _ _ _ _ hj, at0_set _ _ _ _ hj]
    by_cases e : i = j
    · exact absurd (by rw [e]) hpi
    · rw [if_neg e]
      by_cases e2 : (i - 1) / 2 = j
      · rw [if_pos e2]; exact h.near i i0 il e2 h0
      · rw [if_neg e2]; exact h.far i i0 il e e2
  · intro i i0 il hpi hq0
    simp only [List.length_set] at il
    rw [at0_set _ _ _ _ hj, at0_set _ _ _ _ hj, if_neg (show ¬ (((j - 1) / 2 - 1) / 2 = j) by omega)]
    have h1 := h.far ((j - 1) / 2) hq0 (by omega) (by omega) (by omega)
    by_cases e : i = j
    · rw [if_pos e]; exact h1
    · rw [if_neg e]
      have h2 := h.far i i0 il e (by omega)
      rw [hpi] at h2
      exact le_tr h1 h2

theorem Alm.stop_up {l : List Pr} {j : Nat} {x : Pr} (h : Alm l j) (hj : j < l.length) (hs : 0 < j → le (at0 l ((j - 1) / 2)) x) : But (l.set j x) j := by
  constructor
  · intro i i0 il hpi
    simp only [List.length_set] at il
    rw [at0_set _ _ _ _ hj, at0_set _ _ _ _ hj, if_neg hpi]
    by_cases e : i = j
    · rw [if_pos e]; subst e; exact hs i0
    · rw [if_neg e]; exact h.far i i0 il e hpi
  · intro i i0 il hpi h0
    simp only [List.length_set] at il
    rw [at0_set _ _ _ _ hj, at0_set _ _ _ _ hj, if_neg (show ¬ ((j - 1) / 2 = j) by omega), if_neg (show ¬ i = j by omega)]
    exact h.near i i0 il hpi h0

/-- What up gives. -/
structure UpOut (s : St) (x : Pr) (t : St) : Prop where
  inv : TInv t
  same : Same s t
  val : ∀ y, val t y = if y = x.1 then some x.2 else val s y
  place : ∃ p : Nat, p < t.hp.length ∧ t.hp[p]? = some x ∧ t.f x.1 = some (p : Int) ∧ But t.hp p

theorem getD_at0 (l : List Pr) (i : Nat) : l.getD i (0, 0) = at0 l i := rfl

theorem up_out (x : Pr) : ∀ (k : Nat) (s : St) (j : Nat), Hole s j x.1 → j < s.hp.length → (s.f x.1).isSome = true → Alm s.hp j → j ≤ k → UpOut s x (upM x k s j) := by
  have stop : ∀ (s : St) (j : Nat), Hole s j x.1 → j < s.hp.length → (s.f x.1).isSome = true → Alm s.hp j → (0 < j → le (at0 s.hp ((j - 1) / 2)) x) → UpOut s x (putM s j x) := by
    intro s j hH hj hk hA hs
    exact ⟨hH.close hj, Same.put s j x hk, hH.close_val hj, j, by simp [putM, hj], by simp [putM, hj], by simp [putM, upd], hA.stop_up hj hs⟩
  intro k
  induction k with
  | zero =>
    intro s j hH hj hk hA hjk
    rw [upM]
    exact stop s j hH hj hk hA (by omega)
  | succ k ih =>
    intro s j hH hj hk hA hjk
    rw [upM, getD_at0]
    by_cases hc : 0 < j ∧ aheadB x (at0 s.hp ((j - 1) / 2)) = true
    · rw [if_pos hc]
      have hq : (j - 1) / 2 < s.hp.length := by omega
      have hne : (j - 1) / 2 ≠ j := by omega
      have hH2 := hH.move hj hq hne
      obtain ⟨fq, nq⟩ := hH.f _ _ hne (some_at0 hq)
      have hS := Same.put s j (at0 s.hp ((j - 1) / 2)) (by rw [fq]; rfl)
      have r := ih (putM s j (at0 s.hp ((j - 1) / 2))) ((j - 1) / 2) hH2 (by rw [hS.len]; exact hq) (by rw [hS.key]; exact hk) (hA.up hj hc.1) (by omega)
      refine ⟨r.inv, hS.trans r.same, fun y => ?_, r.place⟩
      rw [r.val y]
      by_cases e : y = x.1
      · rw [if_pos e, if_pos e]
      · rw [if_neg e, if_neg e]; exact hH.move_val hj hq hne y e
    · rw [if_neg hc]
      refine stop s j hH hj hk hA (fun h0 => ?_)
      rw [← ahead_false]
      cases hb : aheadB x (at0 s.hp ((j - 1) / 2)) with
      | true => exact absurd ⟨h0, hb⟩ hc
      | false => rfl

/-! ### down -/
structure Dn (l : List Pr) (j : Nat) (x : Pr) : Prop where
  far : ∀ i, 0 < i → i < l.length → i ≠ j → (i - 1) / 2 ≠ j → le (at0 l ((i - 1) / 2)) (at0 l i)
  near : ∀ i, 0 < i → i < l.length → (i - 1) / 2 = j → 0 < j → le (at0 l ((j - 1) / 2)) (at0 l i)
  up : 0 < j → le (at0 l ((j - 1) / 2)) x
theorem But.dn {l : List Pr} {p : Nat} (h : But l p) (hp : p < l.length) : Dn l p (at0 l p) :=
  ⟨fun i i0 il _ hpi => h.far i i0 il hpi, h.near, fun h0 => h.far p h0 hp (by omega)⟩

theorem pick_spec (l : List Pr) (j : Nat) (h : 2 * j + 1 < l.length) : pickM l j < l.length ∧ (pickM l j - 1) / 2 = j ∧ j < pickM l j ∧ ∀ i, 0 < i → i < l.length → (i - 1) / 2 = j → le (at0 l (pickM l j)) (at0 l i) := by
  by_cases hc : 2 * j + 2 < l.length ∧ aheadB (at0 l (2 * j + 2)) (at0 l (2 * j + 1)) = true
  · have e : pickM l j = 2 * j + 2 := by unfold pickM pickB; exact if_pos (decide_eq_true hc)
    rw [e]
    refine ⟨hc.1, by omega, by omega, fun i i0 il hi => ?_⟩
    rcases (show i = 2 * j + 1 ∨ i = 2 * j + 2 by omega) with rfl | rfl
    · exact le_of_ahead hc.2
    · exact le_refl' _
  · have e : pickM l j = 2 * j + 1 := by unfold pickM pickB; exact if_neg (fun hh => hc (of_decide_eq_true hh))
    rw [e]
    refine ⟨h, by omega, by omega, fun i i0 il hi => ?_⟩
    rcases (show i = 2 * j + 1 ∨ i = 2 * j + 2 by omega) with rfl | rfl
    · exact le_refl' _
    · rw [← ahead_false]
      cases hb : aheadB (at0 l (2 * j + 2)) (at0 l (2 * j + 1)) with
      | true => exact absurd ⟨il, hb⟩ hc
      | false => rfl

theorem Dn.down {l : List Pr} {j : Nat} {x : Pr} (h : Dn l j x) (hj : j < l.length) (h2 : 2 * j + 1 < l.length) (hb : aheadB (at0 l (pickM l j)) x = true) : Dn (l.set j (at0 l (pickM l j))) (pickM l j) x := by
  obtain ⟨p1, p2, p3, p4⟩ := pick_spec l j h2
  refine ⟨fun i i0 il hi hpi => ?_, fun i i0 il hpi hp0 => ?_, fun hp0 => ?_⟩
  · simp only [List.length_set] at il
    rw [at0_set _ _ _ _ hj, at0_set _ _ _ _ hj]
    by_cases e : i = j
    · rw [if_pos e, if_neg (show ¬ (i - 1) / 2 = j by omega), e]
      exact h.near _ (by omega) p1 p2 (by omega)
    · rw [if_neg e]
      by_cases e2 : (i - 1) / 2 = j
      · rw [if_pos e2]; exact p4 i i0 il e2
      · rw [if_neg e2]; exact h.far i i0 il e e2
  · simp only [List.length_set] at il
    rw [at0_set _ _ _ _ hj, at0_set _ _ _ _ hj, if_pos p2, if_neg (show ¬ i = j by omega)]
    have := h.far i i0 il (by omega) (by omega)
    rw [hpi] at this
    exact this
  · rw [at0_set _ _ _ _ hj, if_pos p2]
    exact le_of_ahead hb

theorem Dn.stop {l : List Pr} {j : Nat} {x : Pr} (h : Dn l j x) (hj : j < l.length) (hs : ¬ (2 * j + 1 < l.length ∧ aheadB (at0 l (pickM l j)) x = true)) : HeapOk (l.set j x) := by
  intro i i0 il
  simp only [List.length_set] at il
  rw [at0_set _ _ _ _ hj, at0_set _ _ _ _ hj]
  by_cases e : i = j
  · rw [if_pos e, if_neg (show ¬ (i - 1) / 2 = j by omega), e]
    exact h.up (by omega)
  · rw [if_neg e]
    by_cases e2 : (i - 1) / 2 = j
    · rw [if_pos e2]
      obtain ⟨p1, p2, p3, p4⟩ := pick_spec l j (by omega)
      have h1 : le x (at0 l (pickM l j)) := by
        rw [← ahead_false]
        cases hb : aheadB (at0 l (pickM l j)) x with
        | true => exact absurd ⟨by omega, hb⟩ hs
        | false => rfl
      exact le_tr h1 (p4 i i0 il e2)
    · rw [if_neg e2]; exact h.far i i0 il e e2

structure DownOut (s : St) (x : Pr) (t : St) : Prop where
  inv : TInv t
  same : Same s t
  val : ∀ y, val t y = if y = x.1 then some x.2 else val s y
  heap : HeapOk t.hp

theorem down_out (x : Pr) : ∀ (k : Nat) (s : St) (j : Nat), Hole s j x.1 → j < s.hp.length → (s.f x.1).isSome = true → Dn s.hp j x → s.hp.length ≤ j + k → DownOut s x (downM x k s j) := by
  have stop : ∀ (s : St) (j : Nat), Hole s j x.1 → j < s.hp.length → (s.f x.1).isSome = true → Dn s.hp j x → ¬ (2 * j + 1 < s.hp.length ∧ aheadB (at0 s.hp (pickM s.hp j)) x = true) → DownOut s x (putM s j x) := by
    intro s j hH hj hk hA hs
    exact ⟨hH.close hj, Same.put s j x hk, hH.close_val hj, hA.stop hj hs⟩
  intro k
  induction k with
  | zero => intro s j _ hj _ _ hk; omega
  | succ k ih =>
    intro s j hH hj hk hA hjk
    rw [downM, getD_at0]
    by_cases hc : 2 * j + 1 < s.hp.length ∧ aheadB (at0 s.hp (pickM s.hp j)) x = true
    · rw [if_pos hc]
      obtain ⟨hq, p2, p3, _⟩ := pick_spec s.hp j hc.1
      have hne : pickM s.hp j ≠ j := by omega
      have hH2 := hH.move hj hq hne
      obtain ⟨fq, nq⟩ := hH.f _ _ hne (some_at0 hq)
      have hS := Same.put s j (at0 s.hp (pickM s.hp j)) (by rw [fq]; rfl)
      have r := ih (putM s j (at0 s.hp (pickM s.hp j))) (pickM s.hp j) hH2 (by rw [hS.len]; exact hq) (by rw [hS.key]; exact hk) (hA.down hj hc.1 hc.2) (by rw [hS.len]; omega)
      refine ⟨r.inv, hS.trans r.same, fun y => ?_, r.heap⟩
      rw [r.val y]
      by_cases e : y = x.1
      · rw [if_pos e, if_pos e]
      · rw [if_neg e, if_neg e]; exact hH.move_val hj hq hne y e
    · rw [if_neg hc]
      exact stop s j hH hj hk hA hc

/-- A place that holds x: the hole of x. -/
theorem TInv.hole {s : St} (h : TInv s) {p : Nat} {x : Pr} (hp : s.hp[p]? = some x) : Hole s p x.1 := by
  have hx := h.f p x hp
  constructor
  · intro i q hi hq
    have h1 := h.f i q hq
    refine ⟨h1, fun e => ?_⟩
    rw [e, hx] at h1
    injection h1 with h1
    omega
  · intro y v hy hv
    obtain ⟨i, q, h1, h2, h3⟩ := h.back y v hv
    refine ⟨i, q, h1, ?_, h2, h3⟩
    rintro rfl
    rw [hp] at h2; cases h2
    exact hy h3.symm

/-- In a heap the first is the least. -/
theorem HeapOk.least {l : List Pr} (h : HeapOk l) : ∀ i, i < l.length → le (at0 l 0) (at0 l i) := by
  intro i
  induction i using Nat.strongRecOn with
  | _ i ih =>
    intro hi
    rcases Nat.eq_zero_or_pos i with rfl | h0
    · exact le_refl' _
    · exact le_tr (ih ((i - 1) / 2) (by omega) (by omega)) (h i h0 hi)
end Go.Proofs.Ytelfemhnijnhfaa.Fr.Tm
