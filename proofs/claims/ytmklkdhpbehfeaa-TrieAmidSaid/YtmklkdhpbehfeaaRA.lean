/- The reference's object; size, valid, holds, inside; no condition. -/
import Derived.Test.YtmklkdhpbehfeaaTK
namespace Go.Proofs.Ytmklkdhpbehfeaa.Tri
open Go.RowKit Go.Maps
set_option linter.unusedVariables false

theorem size_val {n : Nat} (hn : n ≤ 32) : RowKit.wrap64 ((2 : Int) ^ (32 - n)) = ((2 ^ (32 - n) : Nat) : Int) := by
  have h1 := pow_bd hn
  have e : (2 : Int) ^ (32 - n) = ((2 ^ (32 - n) : Nat) : Int) := by push_cast; rfl
  rw [e]
  unfold RowKit.wrap64
  generalize 2 ^ (32 - n) = x at *
  omega
set_option maxHeartbeats 400000 in
theorem size_calls (n : Nat) (w : World) (hn : n ≤ 32) :
    Calls Try.prog 84 #[.int .i64 n] w fun e w' => e = .returned (.int .i64 ((2 ^ (32 - n) : Nat) : Int)) ∧ w' = w := by
  go_enter Try.func84, Try.ntmps84
  go_wp2
  go_ret
  exact ⟨ret_int (by first | exact size_val hn | (have := size_val hn; simpa using this)), rfl⟩
theorem size_near {w0 : World} (u : Near w0) (n x : Nat) (hn : n ≤ 32) (hx : x = 2 ^ (32 - n)) :
    Calls Try.prog 84 #[.int .i64 n] u.w fun e w' => e = .returned (.int .i64 x) ∧ ∃ x : Near w0, w' = x.w := by
  subst hx
  exact near_call u ((size_calls n u.w hn).mono fun _ _ ⟨h1, h2⟩ => ⟨h1, by rw [h2]; exact Touch.refl _ _⟩)
set_option maxHeartbeats 1000000 in
set_option maxRecDepth 100000 in
theorem rvalid_calls (a : Nat) (m : Int) (w : World) (ha : a < 4294967296) (r : Bool) (hr : r = true ↔ okP a m) :
    Calls Try.prog 80 #[.agg #[.int .u32 a, .int .i64 m]] w fun e w' => e = .returned (.bool r) ∧ Touch [] w w' := by
  by_cases h1 : 0 ≤ m
  · by_cases h2 : m ≤ 32
    · obtain ⟨n, rfl⟩ := Int.eq_ofNat_of_zero_le h1
      have hn : n ≤ 32 := by omega
      have hp := pow_bd hn
      have e1 : ((((a % 2 ^ (32 - n) : Nat)) : Int) == 0) = r := by
        rw [Bool.eq_iff_iff, beq_iff_eq, hr]
        unfold okP Px.ok
        simp only [Int.toNat_natCast, mask_mod]
        omega
      have e2 : ((2 ^ (32 - n) : Nat) : Int) ≠ 0 := by omega
      have e3 : (a : Int).tmod ((2 ^ (32 - n) : Nat) : Int) = ((a % 2 ^ (32 - n) : Nat) : Int) := by rw [Int.tmod_eq_emod_of_nonneg (by omega)]; push_cast; rfl
      obtain ⟨x, hx⟩ : ∃ x : Nat, x = 2 ^ (32 - n) := ⟨_, rfl⟩
      rw [← hx] at e1 e2 e3 hp
      have HX := Lib.hid hx
      obtain ⟨hp1, hp2⟩ := hp
      obtain ⟨y, hy⟩ : ∃ y : Nat, y = a % x := ⟨_, rfl⟩
      rw [← hy] at e1 e3
      have hy2 : y < 4294967296 := by rw [hy]; exact Nat.lt_of_le_of_lt (Nat.mod_le _ _) ha
      have e4 : x ≠ 0 := by omega
      have e5 : ¬ (x : Int) = 0 := e2
      clear hr hx hy
      go_enter Try.func80, Try.ntmps80
      go_wp2
      obtain ⟨W1, hW1⟩ : ∃ W1 : World, W1 = w.alloc (.cells #[.int .u32 a, .int .i64 n] 32) := ⟨_, rfl⟩
      rw [← hW1]
      have X1 := Lib.hid (show W1.heap[w.heap.size]? = some (.cells #[.int .u32 a, .int .i64 n] 32 (0, 0)) by rw [hW1]; exact box_at w _)
      have T1 := Lib.hid (show Touch [] w W1 by rw [hW1]; exact (Touch.refl [] w).alloc _)
      clear hW1
      obtain ⟨c0, c1, _⟩ := two_cells X1.out
      have n0 := fun u : Near W1 => u.cell c0
      have n1 := fun u : Near W1 => u.cell c1
      clear c0 c1
      refine wp_region_near (by kernel_rfl) (by kernel_rfl) ?_
      repeat (go_big_quiet_step ((go_at_call 84; exact size_near _ n x hn HX.out)))
      refine wpQuiet_nil ?_
      rintro _ ⟨u2, rfl⟩
      have TX := Lib.hid (T1.out.trans u2.near (by simp))
      clear n0 n1
      go_wp2
      go_ret
      exact ⟨rfl, TX.out⟩
    · have hr' : r = false := by rw [Bool.eq_false_iff]; intro h; have h4 := (hr.1 h).2.1; simp only at h4; omega
      subst hr'
      have h1' : 0 ≤ m := h1
      have h2' : decide (m ≤ 32) = false := by rw [decide_eq_false_iff_not]; exact h2
      clear hr h2
      go_enter Try.func80, Try.ntmps80
      go_wp2
      go_quiet (fail)
      go_wp2
      go_ret
      exact ⟨rfl, ((Touch.refl [] w).alloc _).drewN _⟩
  · have hr' : r = false := by rw [Bool.eq_false_iff]; intro h; have h4 := (hr.1 h).1; omega
    subst hr'
    have h1' : decide (0 ≤ m) = false := by rw [decide_eq_false_iff_not]; exact h1
    clear hr h1
    go_enter Try.func80, Try.ntmps80
    go_wp2
    go_quiet (fail)
    go_wp2
    go_ret
    exact ⟨rfl, ((Touch.refl [] w).alloc _).drewN _⟩
end Go.Proofs.Ytmklkdhpbehfeaa.Tri
