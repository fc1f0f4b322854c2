/- Compare of addresses; the order of neighbours; no condition. -/
import Derived.Test.YtnpeafhjcelpfaaGreatLJ
namespace Go.Proofs.YtnpeafhjcelpfaaGreat.Tri
open Go.RowKit Go.Maps
set_option linter.unusedVariables false
set_option linter.unusedSimpArgs false
set_option maxRecDepth 100000

def cmpI (a b : Int) : Int := if a < b then -1 else if b < a then 1 else 0
theorem nanA (w : World) (x : Int) : Calls Tryz.prog 82 #[.int .u32 x] w fun e w' => e = .returned (.bool false) ∧ w' = w := by
  go_enter Tryz.func82, Tryz.ntmps82
  go_wp2
  go_ret
  exact ⟨rfl, rfl⟩
theorem cmpA (w : World) (x y : Int) : Calls Tryz.prog 56 #[.int .u32 x, .int .u32 y] w fun e w' => e = .returned (.int .i64 (cmpI x y)) ∧ w' = w := by
  unfold cmpI
  by_cases h : x < y
  · rw [if_pos h]
    go_enter Tryz.func56, Tryz.ntmps56
    go_wp2_with (go_at_call 82; refine (nanA _ _).mono ?_; rintro e w' ⟨rfl, rfl⟩)
    go_ret
    exact ⟨rfl, rfl⟩
  · by_cases h2 : y < x
    · rw [if_neg h, if_pos h2]
      go_enter Tryz.func56, Tryz.ntmps56
      go_wp2_with (go_at_call 82; refine (nanA _ _).mono ?_; rintro e w' ⟨rfl, rfl⟩)
      go_ret
      exact ⟨rfl, rfl⟩
    · rw [if_neg h, if_neg h2]
      go_enter Tryz.func56, Tryz.ntmps56
      go_wp2_with (go_at_call 82; refine (nanA _ _).mono ?_; rintro e w' ⟨rfl, rfl⟩)
      go_ret
      exact ⟨rfl, rfl⟩
theorem byIp_calls (w : World) (x y : Int) (m n : M6) : Calls Tryz.prog 55 #[.agg (neiC x m), .agg (neiC y n)] w fun e w' => e = .returned (.int .i64 (cmpI x y)) ∧ Touch [] w w' := by
  unfold neiC
  go_enter Tryz.func55, Tryz.ntmps55
  go_wp2_with fail
  refine (cmpA _ x y).mono ?_
  rintro e w1 ⟨rfl, h1⟩
  subst h1
  go_wp2
  go_ret
  exact ⟨rfl, ((Touch.refl [] w).alloc _).alloc _⟩
end Go.Proofs.YtnpeafhjcelpfaaGreat.Tri
