/- speaks; no condition. -/
import Derived.Test.YtnpeafhjcelpfaaGreatLG
namespace Go.Proofs.YtnpeafhjcelpfaaGreat.Tri
open Go.RowKit Go.Maps
set_option linter.unusedVariables false
set_option linter.unusedSimpArgs false
set_option maxRecDepth 100000

def ifc1 (b1 : Nat) : Value := .iface 91 (.pointer (some ⟨b1, 0, none⟩))
def ifc2 (b2 : Nat) : Value := .iface 92 (.pointer (some ⟨b2, 0, none⟩))
def spk (b1 b2 : Nat) (l1 l2 : Int) (kd : Int) : Array Value :=
  if kd = 3 ∨ kd = 4 then #[ifc1 b1, .int .i64 l1, .bool (decide (kd = 3)), .bool true]
  else if kd = 5 ∨ kd = 6 then #[ifc2 b2, .int .i64 l2, .bool (decide (kd = 5)), .bool true]
  else #[.nilIface, .int .i64 0, .bool false, .bool false]
theorem results_t4 {fn : Func} {a b c d : Tmp} (h : fn.results = #[.tmp a, .tmp b, .tmp c, .tmp d]) (tmps : Array Value) (w : World) :
    (results fn tmps).run Tryz.prog w = .ok (.tuple #[tmps.getD a undef, tmps.getD b undef, tmps.getD c undef, tmps.getD d undef]) w := by
  simp [results, h]
theorem fun52 : Tryz.f52.results = #[.tmp 4, .tmp 5, .tmp 6, .tmp 7] := by kernel_rfl
set_option maxHeartbeats 4000000 in
theorem speaks_flat {w : World} {kb tb b1 m1 b2 m2 : Nat} {S : List Nat} {l0 l1 l2 : Int} {s : KSt} (h : KerAt w kb tb b1 m1 b2 m2 S l0 l1 l2 s) (o : OpR) (h1 : o.kd ≠ 1) (h2 : o.kd ≠ 2) :
    Calls Tryz.prog 52 #[.pointer (some ⟨kb, 0, none⟩), .agg (opC o)] w (fun e w' => e = .returned (.tuple (spk b1 b2 l1 l2 o.kd)) ∧ Touch [] w w') := by
  have T1 := Lib.hid ((Touch.refl [] w).alloc (.cells (opC o) 57))
  have B := Lib.hid (touch_box T1.out h.blk (by simp))
  have h1' : ¬ o.kd = 1 := h1
  have h2' : ¬ o.kd = 2 := h2
  clear h h1 h2
  obtain ⟨q0, q1, q2, q3, q4, q5⟩ := six_cells B.out
  unfold opC at q0 q1 q2 q3 q4 q5 T1 ⊢
  have key : (o.kd = 3 ∨ o.kd = 4 ∨ o.kd = 5 ∨ o.kd = 6 ∨ (¬ o.kd = 3 ∧ ¬ o.kd = 4 ∧ ¬ o.kd = 5 ∧ ¬ o.kd = 6)) := by omega
  obtain ⟨kd, hkd⟩ : ∃ kd, kd = o.kd := ⟨_, rfl⟩
  rw [← hkd] at h1' h2' key q0 q1 q2 q3 q4 q5 T1 ⊢
  clear hkd B
  unfold spk ifc1 ifc2
  rcases key with rfl | rfl | rfl | rfl | ⟨g3, g4, g5, g6⟩
  · go_enter Tryz.func52, Tryz.ntmps52
    go_wp2
    go_region
    all_goals
      go_wp2
      refine bodyPost_ret (results_t4 fun52 _ _) rfl ?_
      exact ⟨rfl, T1.out.drew⟩
  · go_enter Tryz.func52, Tryz.ntmps52
    go_wp2
    go_region
    all_goals
      go_wp2
      refine bodyPost_ret (results_t4 fun52 _ _) rfl ?_
      exact ⟨rfl, T1.out.drew⟩
  · go_enter Tryz.func52, Tryz.ntmps52
    go_wp2
    go_region
    all_goals
      go_wp2
      refine bodyPost_ret (results_t4 fun52 _ _) rfl ?_
      exact ⟨rfl, T1.out.drew⟩
  · go_enter Tryz.func52, Tryz.ntmps52
    go_wp2
    go_region
    all_goals
      go_wp2
      refine bodyPost_ret (results_t4 fun52 _ _) rfl ?_
      exact ⟨rfl, T1.out.drew⟩
  · have T := Lib.hid T1.out
    clear T1
    rw [if_neg (by omega), if_neg (by omega)]
    go_enter Tryz.func52, Tryz.ntmps52
    go_wp2
    refine bodyPost_ret (results_t4 fun52 _ _) rfl ?_
    exact ⟨rfl, T.out⟩
end Go.Proofs.YtnpeafhjcelpfaaGreat.Tri
