/- matches of weftlaw5, where it is true; no condition. -/
import Derived.Test.YtelfemhnijnhfaaGR
namespace Go.Proofs.Ytelfemhnijnhfaa.Fr
open Go.RowKit Go.Maps
set_option linter.unusedVariables false
set_option linter.unusedSimpArgs false
set_option maxRecDepth 100000
attribute [local go_sem] nilB

theorem enc_cell {w : World} {b : Nat} {l : List Int} {T : TypeId} (h : w.heap[b]? = some (.cells (encB l).toArray T (0, 0))) {j : Nat} (hj : j < l.length) : w.cell? ⟨b, j, none⟩ = some (.int .u8 (l.getD j 0)) := by
  simp [World.cell?, h, encB, hj, List.getD_eq_getElem?_getD]
set_option maxHeartbeats 4000000 in
theorem matches_calls {w : World} {VO VB : Value} {tos ttl proto src dst : Int} {df : Bool} {body wl : List Int} (hb : RdB w VB body) (hlen : body.length = 168) (hwl : wl.length = 168) (hlo : ∀ j < 160, body[j]? = some (wl.getD j 0)) (hhi : ∀ j, 160 ≤ j → j < 168 → body[j]? = some 250) :
    Calls Try.prog 21 #[.agg (pkC ⟨tos, 5, df, false, 0, ttl, proto, src, dst⟩ VO VB), .agg (encB wl).toArray, .int .u8 ttl] w fun e w' => e = .returned (.bool true) ∧ Touch [] w w' := by
  have HB := Lib.hid hb
  obtain ⟨⟨A, cap, rfl, hcap, _, hr⟩, wf⟩ := hb
  obtain ⟨bb, ob, rfl, hbb, hx⟩ := hr (by omega)
  rw [hlen]
  have HX := Lib.hid hx
  have HW := Lib.hid hwl
  have HLO := Lib.hid hlo
  have HHI := Lib.hid hhi
  obtain ⟨C, hC⟩ : ∃ C, C = (encB wl).toArray := ⟨_, rfl⟩
  rw [← hC]
  have HC := Lib.hid hC
  rw [hlen] at hcap
  clear hx hwl hlo hhi hC wf hr hlen
  go_enter Try.func21, Try.ntmps21
  go_upto_region 1 with (fail)
  obtain ⟨W0, hW0⟩ : ∃ W0 : World, W0 = (w.alloc (.cells (pkC ⟨tos, 5, df, false, 0, ttl, proto, src, dst⟩ VO (.slice (some ⟨bb, ob, none⟩) 168 cap)) 30)).alloc (.cells C 48) := ⟨_, rfl⟩
  rw [← hW0]
  have t0 : Touch [] w W0 := by rw [hW0]; exact ((Touch.refl [] w).alloc _).alloc _
  have Y0 := Lib.hid (show W0.heap[w.heap.size]? = some (.cells (pkC ⟨tos, 5, df, false, 0, ttl, proto, src, dst⟩ VO (.slice (some ⟨bb, ob, none⟩) 168 cap)) 30 (0, 0)) by rw [hW0]; exact box_keep _ (box_at w _))
  have C0 := Lib.hid (show W0.heap[w.heap.size + 1]? = some (.cells (encB wl).toArray 48 (0, 0)) by rw [hW0, HC.out]; exact box_at' _ _ _ (by simp))
  have T0 := Lib.hid t0
  obtain ⟨b0, hb0⟩ : ∃ b0, b0 = w.heap.size := ⟨_, rfl⟩
  obtain ⟨b1, hb1⟩ : ∃ b1, b1 = w.heap.size + 1 := ⟨_, rfl⟩
  rw [← hb1] at C0
  rw [← hb0] at Y0
  rw [← hb1, ← hb0]
  clear hb0 hb1 t0 hW0
  obtain ⟨c0, c1, c2, c3, c4, c5, c6, c7, c8, c9, c10⟩ := pk_cells Y0.out
  dsimp only at c0 c1 c2 c3 c4 c5 c6 c7 c8 c9 c10
  have htt : (ttl != ttl) = false := by simp
  go_wp2_with fail
  clear c0 c1 c2 c3 c4 c5 c6 c7 c8 c9 c10
  go_loopg [7] 168 (fun kq v7 wr => ∃ j : Nat, v7 = .int .i64 j ∧ j ≤ 168 ∧ 168 - j ≤ kq ∧ Hid (Touch [] W0 wr))
  case atStart => exact ⟨0, rfl, by omega, by omega, Lib.hid (Touch.refl _ _)⟩
  case round =>
    obtain ⟨j, rfl, hj, hjk, hT⟩ := hrel
    by_cases hj8 : j < 168
    · have li : (j : Int) < 168 := by omega
      have Y1 := Lib.hid (touch_box hT.out Y0.out (by simp))
      have C1 := Lib.hid (touch_box hT.out C0.out (by simp))
      obtain ⟨_, _, _, _, _, _, _, _, _, _, c10⟩ := pk_cells Y1.out
      have n10 := fun u : Near wr => u.cell c10
      have kw := enc_cell C1.out (j := j) (by rw [HW.out]; exact hj8)
      have TW : Touch [] w wr := T0.out.trans hT.out (by simp)
      by_cases hj6 : j < 160
      · have l6 : (j : Int) < 160 := by omega
        have ld : decide ((j : Int) < 160) = true := by rw [decide_eq_true_eq]; exact l6
        have lg : decide (160 ≤ (j : Int)) = false := by rw [decide_eq_false_iff_not]; omega
        have kb := cell_touch TW (HX.out j _ (HLO.out j hj6)) (by simp)
        obtain ⟨x, hx⟩ : ∃ x, x = wl.getD j 0 := ⟨_, rfl⟩
        rw [← hx] at kw kb
        have nb := fun u : Near wr => u.cell kb
        have nw := fun u : Near wr => u.cell kw
        have hxx : (x != x) = false := by simp
        clear hx kw kb c10 TW
        go_wp2
        refine wp_region_near (by kernel_rfl) (by kernel_rfl) ?_
        repeat (go_big_quiet_step (fail))
        refine wpQuiet_nil ?_
        rintro _ ⟨u, rfl⟩
        have TX := Lib.hid (hT.out.trans u.near (by simp))
        clear nb nw n10
        go_wp2
        go_roundg (gk - 1)
        case rel => exact ⟨j + 1, by go_num, by omega, by omega, TX⟩
        case measure => omega
      · have l6 : ¬ (j : Int) < 160 := by omega
        have ld : decide ((j : Int) < 160) = false := by rw [decide_eq_false_iff_not]; exact l6
        have lg : decide (160 ≤ (j : Int)) = true := by rw [decide_eq_true_eq]; omega
        have kb := cell_touch TW (HX.out j _ (HHI.out j (by omega) hj8)) (by simp)
        have nb := fun u : Near wr => u.cell kb
        clear kw kb c10 TW l6
        go_wp2
        refine wp_region_near (by kernel_rfl) (by kernel_rfl) ?_
        repeat (go_big_quiet_step (fail))
        refine wpQuiet_nil ?_
        rintro _ ⟨u, rfl⟩
        have TX := Lib.hid (hT.out.trans u.near (by simp))
        clear nb n10
        go_wp2
        go_roundg (gk - 1)
        case rel => exact ⟨j + 1, by go_num, by omega, by omega, TX⟩
        case measure => omega
    · have li : ¬ (j : Int) < 168 := by omega
      go_wp2
      go_ret
      exact ⟨rfl, T0.out.trans hT.out (by simp)⟩
end Go.Proofs.Ytelfemhnijnhfaa.Fr
