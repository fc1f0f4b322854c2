/- The order of entries (Dump$2); no condition. -/
import Derived.Test.YtnpeafhjcelpfaaGreatLM
namespace Go.Proofs.YtnpeafhjcelpfaaGreat.Tri
open Go.RowKit Go.Maps
set_option linter.unusedVariables false
set_option linter.unusedSimpArgs false
set_option maxRecDepth 100000

def macL (m : M6) : List Int := [m.m0, m.m1, m.m2, m.m3, m.m4, m.m5]
def cmpM (m n : M6) : Int := Lib.compareBytes (Lib.bytesOf (macL m)) (Lib.bytesOf (macL n))
theorem mac_at {w : World} {b : Nat} {m : M6} {x : Int} {T : TypeId} (h : w.heap[b]? = some (.cells (fdbC m x) T (0, 0))) (j : Nat) (y : Int) (hj : (macL m)[j]? = some y) : w.cell? ((⟨b, 0, none⟩ : Addr).add j) = some (.int .u8 y) := by
  have hj' : j < 6 := by have := (List.getElem?_eq_some_iff.1 hj).1; simpa [macL] using this
  rcases (show j = 0 ∨ j = 1 ∨ j = 2 ∨ j = 3 ∨ j = 4 ∨ j = 5 by omega) with rfl | rfl | rfl | rfl | rfl | rfl <;> simp [macL] at hj <;> subst hj <;> simp [World.cell?, Addr.add, h, fdbC]
set_option maxHeartbeats 2000000 in
theorem byMac_calls (w : World) (m n : M6) (x y : Int) : Calls Tryz.prog 58 #[.agg (fdbC m x), .agg (fdbC n y)] w fun e w' => e = .returned (.int .i64 (cmpM m n)) ∧ Touch [] w w' := by
  have X := Lib.hid (box_keep (.cells (fdbC n y) 55) (box_at w (.cells (fdbC m x) 55)))
  have Y := Lib.hid (box_at' (w.alloc (.cells (fdbC m x) 55)) (.cells (fdbC n y) 55) (w.heap.size + 1) (by simp))
  have TW := Lib.hid (((Touch.refl [] w).alloc (.cells (fdbC m x) 55)).alloc (.cells (fdbC n y) 55))
  go_enter Tryz.func58, Tryz.ntmps58
  go_upto_region 1 with (fail)
  obtain ⟨W0, hW0⟩ : ∃ W0 : World, W0 = (w.alloc (.cells (fdbC m x) 55)).alloc (.cells (fdbC n y) 55) := ⟨_, rfl⟩
  rw [← hW0] at X Y TW ⊢
  clear hW0
  refine wp_region_near (by kernel_rfl) (by kernel_rfl) ?_
  have HV := Lib.hid (fun u : Near W0 => near_call u ((bcmp_calls (w := u.w) (macL m) (macL n) ⟨w.heap.size, 0, none⟩ ⟨w.heap.size + 1, 0, none⟩ (mac_at (touch_box u.near X.out (by simp))) (mac_at (touch_box u.near Y.out (by simp))) 6 6).mono fun _ _ ⟨h1, h2⟩ => ⟨h1, by rw [h2]; exact Touch.refl [] _⟩))
  repeat (go_big_quiet_step ((go_at_call 59; exact HV.out _)))
  refine wpQuiet_nil ?_
  rintro _ ⟨u2, rfl⟩
  have TY := Lib.hid (TW.out.trans u2.near (by simp))
  go_wp2
  go_ret
  exact ⟨rfl, TY.out⟩
end Go.Proofs.YtnpeafhjcelpfaaGreat.Tri
