/- speaks of routes; no condition. -/
import Derived.Test.YtnpeafhjcelpfaaGreatLH
namespace Go.Proofs.YtnpeafhjcelpfaaGreat.Tri
open Go.RowKit Go.Maps
set_option linter.unusedVariables false
set_option linter.unusedSimpArgs false
set_option maxRecDepth 100000

noncomputable def okB (a : Nat) (m : Int) : Bool := @decide (okP a m) (Classical.propDecidable _)
theorem valid_near {w0 : World} (u : Near w0) (a : Nat) (m : Int) (ha : a < 4294967296) {b : Bool} (hb : okB a m = b) :
    Calls Tryz.prog 79 #[.agg #[.int .u32 a, .int .i64 m]] u.w fun e w' => e = .returned (.bool b) ∧ ∃ x : Near w0, w' = x.w := by
  by_cases h : okP a m
  · have : b = true := by rw [← hb]; simp [okB, h]
    subst this
    exact near_call u ((valid_yes a m u.w ha h).mono fun _ _ ⟨h1, h2⟩ => ⟨h1, h2⟩)
  · have : b = false := by rw [← hb]; simp [okB, h]
    subst this
    exact near_call u ((valid_no a m u.w ha h).mono fun _ _ ⟨h1, h2⟩ => ⟨h1, h2⟩)
def ifcR (tb : Nat) : Value := .iface 90 (.agg #[.pointer (some ⟨tb, 0, none⟩)])
noncomputable def okR (kd : Int) (a : Nat) (m v : Int) : Bool := okB a m && !(decide (kd = 1) && rL v && !decide (rV v = 0))
theorem op_cells {w : World} {b : Nat} (o : OpR) (ho : w.heap[b]? = some (.cells (opC o) 57 (0, 0))) :
    w.cell? ⟨b, 0, none⟩ = some (.int .i64 o.kd) ∧ w.cell? ⟨b, 1, none⟩ = some (.int .u32 o.pa) ∧ w.cell? ⟨b, 2, none⟩ = some (.int .i64 o.pm) ∧ w.cell? ⟨b, 3, none⟩ = some (.int .u32 (rV o.v)) ∧ w.cell? ⟨b, 4, none⟩ = some (.bool (rL o.v)) := by
  refine ⟨?_, ?_, ?_, ?_, ?_⟩ <;> simp [World.cell?, ho, opC]
set_option maxHeartbeats 4000000 in
theorem speaks_route {w : World} {kb tb b1 m1 b2 m2 : Nat} {S : List Nat} {l0 l1 l2 : Int} {s : KSt} (h : KerAt w kb tb b1 m1 b2 m2 S l0 l1 l2 s) (o : OpR) (hpa : o.pa < 4294967296) (hk : o.kd = 1 ∨ o.kd = 2) :
    Calls Tryz.prog 52 #[.pointer (some ⟨kb, 0, none⟩), .agg (opC o)] w (fun e w' => e = .returned (.tuple #[ifcR tb, .int .i64 l0, .bool (decide (o.kd = 1)), .bool (okR o.kd o.pa o.pm o.v)]) ∧ Touch [] w w') := by
  have T1 := Lib.hid ((Touch.refl [] w).alloc (.cells (opC o) 57))
  have B := Lib.hid (touch_box T1.out h.blk (by simp))
  clear h
  obtain ⟨q0, q1, q2, q3, q4, q5⟩ := six_cells B.out
  obtain ⟨x0, x1, x2, x3, x4⟩ := op_cells o (box_at w (.cells (opC o) 57))
  unfold opC at q0 q1 q2 q3 q4 q5 x0 x1 x2 x3 x4 T1 ⊢
  obtain ⟨kd, hkd⟩ : ∃ kd, kd = o.kd := ⟨_, rfl⟩
  rw [← hkd] at hk q0 q1 q2 q3 q4 q5 x0 x1 x2 x3 x4 T1 ⊢
  clear hkd B
  unfold ifcR okR
  obtain ⟨ob, hob⟩ : ∃ ob, okB o.pa o.pm = ob := ⟨_, rfl⟩
  have HV := Lib.hid (fun (w0 : World) (u : Near w0) => valid_near u o.pa o.pm hpa hob)
  rw [hob]
  obtain ⟨lv, hlv⟩ : ∃ lv, rL o.v = lv := ⟨_, rfl⟩
  obtain ⟨vv, hvv⟩ : ∃ vv, rV o.v = vv := ⟨_, rfl⟩
  rw [hvv] at q0 q1 q2 q3 q4 q5 x0 x1 x2 x3 x4 T1 ⊢
  rw [hlv] at q0 q1 q2 q3 q4 q5 x0 x1 x2 x3 x4 T1 ⊢
  clear hob hlv hvv
  obtain ⟨W0, hW0⟩ : ∃ W0 : World, W0 = w.alloc (.cells #[.int .i64 kd, .int .u32 o.pa, .int .i64 o.pm, .int .u32 vv, .bool lv, .int .u32 o.ip, .int .u8 o.nm.m0, .int .u8 o.nm.m1, .int .u8 o.nm.m2, .int .u8 o.nm.m3, .int .u8 o.nm.m4, .int .u8 o.nm.m5, .int .u8 o.fm.m0, .int .u8 o.fm.m1, .int .u8 o.fm.m2, .int .u8 o.fm.m3, .int .u8 o.fm.m4, .int .u8 o.fm.m5, .int .u32 o.ua] 57) := ⟨_, rfl⟩
  rw [← hW0] at q0 q1 q2 q3 q4 q5 x0 x1 x2 x3 x4 T1
  have HW0 := Lib.hid hW0
  clear hW0
  rcases hk with rfl | rfl
  · cases lv <;> cases ob <;> rcases Classical.em (vv = 0) with rfl | hv
    all_goals
      go_enter Tryz.func52, Tryz.ntmps52
      have n0 := fun u : Near W0 => Near.cell u q0
      have n3 := fun u : Near W0 => Near.cell u q3
      have y0 := fun u : Near W0 => Near.cell u x0
      have y1 := fun u : Near W0 => Near.cell u x1
      have y2 := fun u : Near W0 => Near.cell u x2
      have y3 := fun u : Near W0 => Near.cell u x3
      have y4 := fun u : Near W0 => Near.cell u x4
      go_wp2
      rw [← HW0.out]
      refine wp_region_near (by kernel_rfl) (by kernel_rfl) ?_
      repeat (go_big_quiet_step ((go_at_call 79; exact HV.out _ _)))
      refine wpQuiet_nil ?_
      rintro _ ⟨u2, rfl⟩
      have TY := Lib.hid (T1.out.trans u2.near (by simp))
      clear T1 HV
      go_wp2
      refine bodyPost_ret (results_t4 fun52 _ _) rfl ?_
      refine ⟨?_, TY.out⟩
      first | simp [hv] | simp
  · cases ob
    all_goals
      go_enter Tryz.func52, Tryz.ntmps52
      have n0 := fun u : Near W0 => Near.cell u q0
      have n3 := fun u : Near W0 => Near.cell u q3
      have y0 := fun u : Near W0 => Near.cell u x0
      have y1 := fun u : Near W0 => Near.cell u x1
      have y2 := fun u : Near W0 => Near.cell u x2
      have y3 := fun u : Near W0 => Near.cell u x3
      have y4 := fun u : Near W0 => Near.cell u x4
      go_wp2
      rw [← HW0.out]
      refine wp_region_near (by kernel_rfl) (by kernel_rfl) ?_
      repeat (go_big_quiet_step ((go_at_call 79; exact HV.out _ _)))
      refine wpQuiet_nil ?_
      rintro _ ⟨u2, rfl⟩
      have TY := Lib.hid (T1.out.trans u2.near (by simp))
      clear T1 HV
      go_wp2
      refine bodyPost_ret (results_t4 fun52 _ _) rfl ?_
      exact ⟨rfl, TY.out⟩
end Go.Proofs.YtnpeafhjcelpfaaGreat.Tri
