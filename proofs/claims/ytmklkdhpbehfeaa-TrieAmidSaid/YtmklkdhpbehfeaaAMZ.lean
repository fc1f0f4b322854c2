/- TrieAmid called; no condition. -/
import Derived.Test.YtmklkdhpbehfeaaAM
import Derived.Test.YtmklkdhpbehfeaaWC
namespace Go.Proofs.Ytmklkdhpbehfeaa.Tri
open Go.RowKit Go.Maps Go.Shelf
set_option linter.unusedVariables false

theorem amid_row {w : World} {A0 A2 : Option Addr} {n0 n2 cap0 cap2 : Nat} {l0 l2 : List OpX} (h0 : RdO w A0 n0 l0) (h2 : RdO w A2 n2 l2) (za : Nat) (zm : Int) (hza : za < 4294967296) (hz1 : -9223372036854775808 ≤ zm) (hz2 : zm ≤ 9223372036854775807) (hn0 : 48 * n0 ≤ 140737488355328) (hn2 : 48 * n2 ≤ 140737488355328) :
    Calls Try.prog 13 #[.slice A0 n0 cap0, .agg #[.int .u32 za, .int .i64 zm], .slice A2 n2 cap2] w fun e w' => e = .returned (.bool true) ∧ Touch [] w w' := by
  have H0 := Lib.hid h0
  have H2 := Lib.hid h2
  clear h0 h2
  go_enter Try.func13, Try.ntmps13
  go_wp2_with fail
  have t0 : Touch [] w (w.alloc (.cells #[.int .u32 za, .int .i64 zm] 32)) := (Touch.refl [] w).alloc _
  obtain ⟨W0, hW0⟩ : ∃ W0 : World, W0 = w.alloc (.cells #[.int .u32 za, .int .i64 zm] 32) := ⟨_, rfl⟩
  rw [← hW0] at t0 ⊢
  have B0 := Lib.hid (show W0.heap[w.heap.size]? = some (.cells #[.int .u32 za, .int .i64 zm] 32 (0, 0)) by rw [hW0]; exact box_at w _)
  have T0 := Lib.hid t0
  clear hW0 t0
  refine (amidst_calls false (H0.out.kept T0.out) (H2.out.kept T0.out) za zm hza hn0 hn2).mono ?_
  rintro e w1 ⟨rfl, t1⟩
  have T1 := Lib.hid (T0.out.trans t1 (by simp))
  obtain ⟨q0, q1, _⟩ := two_cells (touch_box t1 B0.out (by simp))
  clear t1
  go_wp2_with fail
  refine (amidst_calls true (H0.out.kept T1.out) (H2.out.kept T1.out) za zm hza hn0 hn2).mono ?_
  rintro e w2 ⟨rfl, t2⟩
  have T2 := Lib.hid (T1.out.trans t2 (by simp))
  clear t2 q0 q1
  go_wp2
  go_ret
  exact ⟨rfl, T2.out⟩
end Go.Proofs.Ytmklkdhpbehfeaa.Tri
