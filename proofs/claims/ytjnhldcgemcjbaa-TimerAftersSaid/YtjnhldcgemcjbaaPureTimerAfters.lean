/- TimerAfters: for all int64 lists, timer.After and the reference's After both are the saturating sum, both ways round; no condition. -/
import Derived.Test.YtjnhldcgemcjbaaPTimerAftersx1
namespace Go.Proofs.Ytjnhldcgemcjbaa.Pure
open Go.RowKit Go.Proofs.Ytjnhldcgemcjbaa.PTimerAfters Go.Proofs.YtjnhldcgemcjbaaW.PrintWords Go.Proofs.YtjnhldcgemcjbaaW.PrintLast

/-- The saturating sum. -/
def sat (a b : Int) : Int := if a + b > 9223372036854775807 then 9223372036854775807 else if a + b < -9223372036854775808 then -9223372036854775808 else a + b

theorem wrap_id {x : Int} (h0 : -9223372036854775808 ≤ x) (h1 : x ≤ 9223372036854775807) : wrap64 x = x := by
  unfold wrap64; omega

theorem after_sat (k : Nat) (a b : Int) (ha0 : -9223372036854775808 ≤ a) (ha1 : a ≤ 9223372036854775807) (hb0 : -9223372036854775808 ≤ b) (hb1 : b ≤ 9223372036854775807) :
    timer_After.f (k + 1) a b = some (sat a b) := by
  have hw : wrap64 (a + b) = if a + b > 9223372036854775807 then a + b - 18446744073709551616 else if a + b < -9223372036854775808 then a + b + 18446744073709551616 else a + b := by
    unfold wrap64; split
    · omega
    · split <;> omega
  unfold timer_After.f
  simp only [timer_After.j0]
  generalize wrap64 (a + b) = s at *
  unfold sat
  by_cases h1 : a + b > 9223372036854775807
  · rw [if_pos h1] at hw ⊢
    rw [if_pos (by omega), if_pos (by omega), if_pos (by simp; omega)]
  · rw [if_neg h1] at hw ⊢
    by_cases h2 : a + b < -9223372036854775808
    · rw [if_pos h2] at hw ⊢
      rw [if_neg (by omega), if_neg (by simp), if_pos (by omega), if_pos (by omega), if_pos (by omega)]
    · rw [if_neg h2] at hw ⊢
      subst hw
      by_cases h3 : a > 0
      · rw [if_pos h3]
        by_cases h4 : b > 0
        · rw [if_pos h4, if_neg (by simp; omega), if_neg (by omega)]
        · rw [if_neg h4, if_neg (by simp), if_neg (by omega)]
      · rw [if_neg h3, if_neg (by simp)]
        by_cases h4 : a < 0
        · rw [if_pos h4]
          by_cases h5 : b < 0
          · rw [if_pos h5, if_neg (by omega)]
          · rw [if_neg h5]
        · rw [if_neg h4]

theorem tdiv_pos (a c : Int) : Int.tdiv a c = if 0 ≤ a then a / c else -((-a) / c) := by
  split
  · exact Int.tdiv_eq_ediv_of_nonneg ‹_›
  · rename_i h
    have e : a = -(-a) := by omega
    conv => lhs; rw [e]
    rw [Int.neg_tdiv, Int.tdiv_eq_ediv_of_nonneg (by omega)]

theorem ref_sat (k : Nat) (a b : Int) (ha0 : -9223372036854775808 ≤ a) (ha1 : a ≤ 9223372036854775807) (hb0 : -9223372036854775808 ≤ b) (hb1 : b ≤ 9223372036854775807) :
    weftref4_After.f (k + 1) a b = some (sat a b) := by
  unfold weftref4_After.f
  simp only [weftref4_After.j0]
  have hA : -2147483648 ≤ Int.tdiv a 4294967296 ∧ Int.tdiv a 4294967296 ≤ 2147483647 ∧ -4294967296 < a - Int.tdiv a 4294967296 * 4294967296 ∧ a - Int.tdiv a 4294967296 * 4294967296 < 4294967296 := by
    rw [tdiv_pos]; split <;> omega
  have hB : -2147483648 ≤ Int.tdiv b 4294967296 ∧ Int.tdiv b 4294967296 ≤ 2147483647 ∧ -4294967296 < b - Int.tdiv b 4294967296 * 4294967296 ∧ b - Int.tdiv b 4294967296 * 4294967296 < 4294967296 := by
    rw [tdiv_pos]; split <;> omega
  generalize Int.tdiv a 4294967296 = A at *
  generalize Int.tdiv b 4294967296 = B at *
  obtain ⟨hA0, hA1, hA2, hA3⟩ := hA
  obtain ⟨hB0, hB1, hB2, hB3⟩ := hB
  rw [wrap_id (x := A) (by omega) (by omega), wrap_id (x := B) (by omega) (by omega)]
  rw [wrap_id (x := A * 4294967296) (by omega) (by omega), wrap_id (x := B * 4294967296) (by omega) (by omega)]
  rw [wrap_id (x := a - A * 4294967296) (by omega) (by omega), wrap_id (x := b - B * 4294967296) (by omega) (by omega)]
  rw [wrap_id (x := a - A * 4294967296 + (b - B * 4294967296)) (by omega) (by omega)]
  rw [Int.tmod_def]
  have hL : (Int.tdiv (a - A * 4294967296 + (b - B * 4294967296)) 4294967296) * 4294967296 < (a - A * 4294967296 + (b - B * 4294967296)) + 4294967296 ∧ (a - A * 4294967296 + (b - B * 4294967296)) - 4294967296 < (Int.tdiv (a - A * 4294967296 + (b - B * 4294967296)) 4294967296) * 4294967296 := by
    rw [tdiv_pos]; split <;> omega
  generalize Int.tdiv (a - A * 4294967296 + (b - B * 4294967296)) 4294967296 = L at *
  obtain ⟨hL0, hL1⟩ := hL
  rw [wrap_id (x := A + B) (by omega) (by omega), wrap_id (x := L) (by omega) (by omega), wrap_id (x := A + B + L) (by omega) (by omega)]
  rw [wrap_id (x := A + B + L - 1) (by omega) (by omega)]
  have fin : ∀ low high : Int, 0 ≤ low → low < 4294967296 → -8589934592 ≤ high → high ≤ 8589934592 → high * 4294967296 + low = a + b →
      (if high ≥ 2147483648 then (some (9223372036854775807 : Int)) else (if high < (-2147483648) then (some (-9223372036854775808)) else (some (wrap64 ((wrap64 (high * 4294967296)) + low))))) = some (sat a b) := by
    intro low high h0 h1 h2 h3 h4
    unfold sat
    by_cases c1 : high ≥ 2147483648
    · rw [if_pos c1, if_pos (by omega)]
    · rw [if_neg c1]
      by_cases c2 : high < -2147483648
      · rw [if_pos c2, if_neg (show ¬ a + b > 9223372036854775807 by omega), if_pos (by omega)]
      · rw [if_neg c2, if_neg (show ¬ a + b > 9223372036854775807 by omega), if_neg (show ¬ a + b < -9223372036854775808 by omega), wrap_id (x := high * 4294967296) (by omega) (by omega), wrap_id (by omega) (by omega), h4]
  by_cases hc : (a - A * 4294967296 + (b - B * 4294967296)) - 4294967296 * L < 0
  · rw [if_pos hc, wrap_id (x := (a - A * 4294967296 + (b - B * 4294967296)) - 4294967296 * L + 4294967296) (by omega) (by omega)]
    exact fin _ _ (by omega) (by omega) (by omega) (by omega) (by omega)
  · rw [if_neg hc]
    exact fin _ _ (by omega) (by omega) (by omega) (by omega) (by omega)

theorem sat_comm (a b : Int) : sat a b = sat b a := by unfold sat; rw [Int.add_comm a b]

theorem wf_bd {x : Int} (h : (Lit.int .i64 x).wf = true) : -9223372036854775808 ≤ x ∧ x ≤ 9223372036854775807 := by
  simp [Lit.wf, IntKind.min, IntKind.max, IntKind.signed, IntKind.bits] at h; omega

theorem rd_bd (l : List Int) (i : Int) (h : ∀ x ∈ l, (Lit.int .i64 x).wf = true) : -9223372036854775808 ≤ rd l i ∧ rd l i ≤ 9223372036854775807 := by
  unfold rd
  rw [List.getD_eq_getElem?_getD]
  by_cases hi : i.toNat < l.length
  · rw [List.getElem?_eq_getElem hi]; exact wf_bd (h _ (List.getElem_mem hi))
  · rw [List.getElem?_eq_none (by omega)]; simp

theorem loop_true (l0 l1 : List Int) (h0 : l0.length ≤ maxLen) (w0 : ∀ x ∈ l0, (Lit.int .i64 x).wf = true) (w1 : ∀ x ∈ l1, (Lit.int .i64 x).wf = true) (d : Nat) :
    ∀ (k : Nat) (i : Int), 0 ≤ i → i ≤ l0.length → (l0.length : Int) - i = d → 2 * d + 3 < k → weftlaw4_TimerAfters.l0 k l0 l1 i = some true := by
  unfold maxLen at h0
  induction d with
  | zero =>
    intro k i hi0 hi1 hd hk
    obtain ⟨k, rfl⟩ : ∃ m, k = m + 1 + 1 := ⟨k - 2, by omega⟩
    simp only [weftlaw4_TimerAfters.l0]
    rw [if_neg (by omega)]
    simp only [weftlaw4_TimerAfters.j1]
    rw [if_neg (by simp)]
  | succ d ih =>
    intro k i hi0 hi1 hd hk
    obtain ⟨k, rfl⟩ : ∃ m, k = m + 1 + 1 + 1 := ⟨k - 3, by omega⟩
    have hlt : i < (l0.length : Int) := by omega
    rw [weftlaw4_TimerAfters.l0, if_pos hlt]
    by_cases hlt1 : i < (l1.length : Int)
    · rw [weftlaw4_TimerAfters.j1, if_pos (by simpa using hlt1), if_pos hi0, if_pos hlt, if_pos hlt1]
      obtain ⟨a0, a1⟩ := rd_bd l0 i w0
      obtain ⟨b0, b1⟩ := rd_bd l1 i w1
      rw [after_sat _ _ _ a0 a1 b0 b1, ref_sat _ _ _ a0 a1 b0 b1, after_sat _ _ _ b0 b1 a0 a1]
      simp only [Option.bind_some]
      rw [if_pos True.intro, if_pos (sat_comm _ _)]
      rw [wrap_id (x := i + 1) (by omega) (by omega)]
      exact ih (k + 1) (i + 1) (by omega) (by omega) (by omega) (by omega)
    · rw [weftlaw4_TimerAfters.j1, if_neg (by simpa using hlt1)]

theorem TimerAfters : weftlaw4_TimerAfters.Pure := by
  intro l0 l1 h0 _ w0 _ _ w1
  refine ⟨2 * l0.length + 4, ?_⟩
  unfold weftlaw4_TimerAfters.f
  rw [show 2 * l0.length + 4 = (2 * l0.length + 3) + 1 from rfl, after_sat _ _ _ (by omega) (by omega) (by omega) (by omega)]
  simp only [Option.bind_some]
  rw [if_pos (by decide)]
  exact loop_true l0 l1 h0 w0 w1 l0.length _ 0 (by omega) (by omega) (by omega) (by omega)

end Go.Proofs.Ytjnhldcgemcjbaa.Pure
