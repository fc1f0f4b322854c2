/- compareBytes is a strict weak order; no condition. -/
import Derived.Test.YtnpeafhjcelpfaaGreatLN
import Derived.Test.YtnpeafhjcelpfaaGreatLO
namespace Go.Proofs.YtnpeafhjcelpfaaGreat.Tri
set_option linter.unusedVariables false

theorem cb_refl : ∀ a : List UInt8, Lib.compareBytes a a = 0
  | [] => rfl
  | x :: a => by
    unfold Lib.compareBytes
    rw [if_neg (UInt8.lt_irrefl x), if_neg (UInt8.lt_irrefl x)]
    exact cb_refl a
theorem cb_trans : ∀ a b c : List UInt8, Lib.compareBytes a b < 0 → Lib.compareBytes b c < 0 → Lib.compareBytes a c < 0
  | [], [], c, h1, h2 => h2
  | [], y :: b, [], h1, h2 => by simp [Lib.compareBytes] at h2
  | [], y :: b, z :: c, h1, h2 => by simp [Lib.compareBytes]
  | x :: a, [], c, h1, h2 => by simp [Lib.compareBytes] at h1
  | x :: a, y :: b, [], h1, h2 => by simp [Lib.compareBytes] at h2
  | x :: a, y :: b, z :: c, h1, h2 => by
    unfold Lib.compareBytes at h1 h2 ⊢
    simp only [UInt8.lt_iff_toNat_lt] at h1 h2 ⊢
    have ih := cb_trans a b c
    split at h1 <;> split at h2
    · rw [if_pos (by omega)]; omega
    · split at h2
      · omega
      · rw [if_pos (by omega)]; omega
    · split at h1
      · omega
      · rw [if_pos (by omega)]; omega
    · split at h1
      · omega
      · split at h2
        · omega
        · rw [if_neg (by omega), if_neg (by omega)]
          exact ih h1 h2
theorem cb_ntrans : ∀ a b c : List UInt8, ¬ Lib.compareBytes a b < 0 → ¬ Lib.compareBytes b c < 0 → ¬ Lib.compareBytes a c < 0
  | [], [], c, h1, h2 => h2
  | [], y :: b, c, h1, h2 => by simp [Lib.compareBytes] at h1
  | x :: a, [], [], h1, h2 => by simp [Lib.compareBytes]
  | x :: a, [], z :: c, h1, h2 => by simp [Lib.compareBytes] at h2
  | x :: a, y :: b, [], h1, h2 => by simp [Lib.compareBytes]
  | x :: a, y :: b, z :: c, h1, h2 => by
    unfold Lib.compareBytes at h1 h2 ⊢
    simp only [UInt8.lt_iff_toNat_lt] at h1 h2 ⊢
    have ih := cb_ntrans a b c
    split at h1
    · omega
    · split at h2
      · omega
      · rw [if_neg (by omega)]
        split at h1 <;> split at h2
        · rw [if_pos (by omega)]; omega
        · rw [if_pos (by omega)]; omega
        · rw [if_pos (by omega)]; omega
        · rw [if_neg (by omega)]
          exact ih h1 h2
end Go.Proofs.YtnpeafhjcelpfaaGreat.Tri
