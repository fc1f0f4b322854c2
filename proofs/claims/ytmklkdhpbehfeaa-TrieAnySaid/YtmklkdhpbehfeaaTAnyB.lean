/- Put and Find of tries of texts and of structs that hold at most one prefix; no condition. -/
import Derived.Test.YtmklkdhpbehfeaaTAny
namespace Go.Proofs.Ytmklkdhpbehfeaa.Tri
open Go.RowKit Go.Maps
set_option linter.unusedVariables false
theorem putE_close {w w1 Wd w5 : World} {tb b : Nat} {T : TypeId} {y z : Value} {nd : Obj} (hlt : tb < w.heap.size) (T1 : Touch [] w w1) (B : w1.heap[tb]? = some (.cells #[y, z] T (0, 0))) (tWd : Touch [] w1 Wd) (t5 : Touch [] Wd w5) (hb : w5.heap[b]? = some nd) (hge : w.heap.size ≤ b) :
    (w5.setCell ⟨tb, 0, none⟩ (.pointer (some ⟨b, 0, none⟩))).heap[tb]? = some (.cells #[.pointer (some ⟨b, 0, none⟩), z] T (0, 0)) ∧ (w5.setCell ⟨tb, 0, none⟩ (.pointer (some ⟨b, 0, none⟩))).heap[b]? = some nd ∧ Touch [tb] w (w5.setCell ⟨tb, 0, none⟩ (.pointer (some ⟨b, 0, none⟩))) := by
  refine ⟨?_, box_other _ _ hb (by show b ≠ tb; omega), ((((T1.trans tWd (by simp)).trans t5 (by simp))).mono (S' := [tb]) (by simp)).setCell _ _ (.inl (by simp))⟩
  have := box_set (o := 0) (touch_box t5 (touch_box tWd B (by simp)) (by simp)) (.pointer (some ⟨b, 0, none⟩))
  simpa using this
theorem putS_close {w w1 Wd w5 : World} {tb b : Nat} {T : TypeId} {y z : Value} {nd : Obj} (hlt : tb < w.heap.size) (hne : b ≠ tb) (T1 : Touch [] w w1) (B : w1.heap[tb]? = some (.cells #[y, z] T (0, 0))) (tWd : Touch [] w1 Wd) (t5 : Touch [b] Wd w5) (hb : w5.heap[b]? = some nd) :
    (w5.setCell ⟨tb, 0, none⟩ (.pointer (some ⟨b, 0, none⟩))).heap[tb]? = some (.cells #[.pointer (some ⟨b, 0, none⟩), z] T (0, 0)) ∧ (w5.setCell ⟨tb, 0, none⟩ (.pointer (some ⟨b, 0, none⟩))).heap[b]? = some nd ∧ Touch [tb, b] w (w5.setCell ⟨tb, 0, none⟩ (.pointer (some ⟨b, 0, none⟩))) := by
  refine ⟨?_, box_other _ _ hb hne, (((T1.trans tWd (by simp)).mono (S' := [tb, b]) (by simp)).trans t5 (fun k hk => .inl (by simp at hk; simp [hk]))).setCell _ _ (.inl (by simp))⟩
  have := box_set (o := 0) (touch_box t5 (touch_box tWd B (by simp)) (by simpa using fun e => hne e.symm)) (.pointer (some ⟨b, 0, none⟩))
  simpa using this
set_option maxHeartbeats 4000000 in
theorem puts_empty {w : World} {tb : Nat} (h : Emps w tb) (q : Px) (v : ByteArray) (hq : q.ok) :
    Calls Try.prog 32 #[.pointer (some ⟨tb, 0, none⟩), .agg #[.int .u32 q.a, .int .i64 q.n], (.string v)] w fun e w' => e = .returned (.int .i64 0) ∧ Touch [tb] w w' ∧ ∃ b, w.heap.size ≤ b ∧ Sgls w' tb q v b := by
  have HR := Lib.hid (show w.heap[tb]? = some (.cells #[.pointer none, .int .i64 0] 99 (0, 0)) from h)
  have hlt := (Array.getElem?_eq_some_iff.1 HR.out).1
  have HQ := Lib.hid hq
  have hqa := hq.2.1
  clear h hq
  go_enter Try.func32, Try.ntmps32
  go_wp2_with fail
  refine (refusal_yes q.a q.n _ hqa ⟨by omega, by simpa using HQ.out⟩).mono ?_
  rintro e w1 ⟨rfl, ht⟩
  have T1 := Lib.hid (((Touch.refl [] w).alloc (.cells #[.int .u32 q.a, .int .i64 q.n] 32)).trans ht (by simp))
  have X := Lib.hid (touch_box ht (box_at w (.cells #[.int .u32 q.a, .int .i64 q.n] 32)) (by simp))
  have B := Lib.hid (touch_box T1.out HR.out (by simp))
  clear ht
  obtain ⟨c0, c1, f0, f1⟩ := two_cells B.out
  obtain ⟨d0, d1, _⟩ := two_cells X.out
  go_wp2
  go_upto_region 5 with (fail)
  go_cut [8] (fun v8 wc => v8 = .bool true ∧ ∃ b, Hid (wc.heap[tb]? = some (.cells #[.pointer (some ⟨b, 0, none⟩), .int .i64 0] 99 (0, 0))) ∧ Hid (wc.heap[b]? = some (.cells (nodeCs q v) 106 (0, 0))) ∧ Hid (Touch [tb] w wc) ∧ w.heap.size ≤ b)
  case first =>
    go_region_law (first | (go_simp; go_at_call 51; refine (hangs_nil _ q v).mono ?_; rintro e w5 ⟨rfl, hN, t5⟩; have k4 := cell_touch t5 (a := ⟨tb, 0, none⟩) (v := .pointer none) (by simp [c0]) List.not_mem_nil; have kf := frozen_touch t5 (b := tb) (o := 0) (v := .pointer none) (by simp [c0]) (by simp [f0]) List.not_mem_nil))
    all_goals
      have hs := T1.out.size
      obtain ⟨g1, g2, g3⟩ := putE_close hlt T1.out B.out (by first | exact (Touch.refl [] _).drew | exact (Touch.refl [] _).drewN _ | exact Touch.refl [] _) t5 hN (by simp; omega)
      go_wp2
      go_meet
      case rel => exact ⟨rfl, _, Lib.hid g1, Lib.hid g2, Lib.hid g3, by simp; omega⟩
  case rest =>
  obtain ⟨rfl, b, hB, hN, hT, hge⟩ := hcut
  clear c0 c1 f0 f1 d0 d1 X B
  obtain ⟨c0, c1, f0, f1⟩ := two_cells hB.out
  go_wp2
  go_ret
  refine ⟨rfl, hT.out.setCell _ _ (.inl (by simp)), b, hge, ?_, box_other _ _ hN.out (by show b ≠ tb; omega), by omega⟩
  have := box_set (o := 1) hB.out (.int .i64 1)
  simpa using this
set_option maxHeartbeats 4000000 in
theorem puts_sgl {w : World} {tb b : Nat} {q : Px} {u : ByteArray} (h : Sgls w tb q u b) (v : ByteArray) (hq : q.ok) :
    Calls Try.prog 32 #[.pointer (some ⟨tb, 0, none⟩), .agg #[.int .u32 q.a, .int .i64 q.n], (.string v)] w fun e w' => e = .returned (.int .i64 0) ∧ Touch [tb, b] w w' ∧ Sgls w' tb q v b := by
  have HR := Lib.hid h.root
  have HN := Lib.hid h.node
  have HNE := Lib.hid h.ne
  have hlt := (Array.getElem?_eq_some_iff.1 HR.out).1
  have HQ := Lib.hid hq
  have hqa := hq.2.1
  clear h hq
  go_enter Try.func32, Try.ntmps32
  go_wp2_with fail
  refine (refusal_yes q.a q.n _ hqa ⟨by omega, by simpa using HQ.out⟩).mono ?_
  rintro e w1 ⟨rfl, ht⟩
  have T1 := Lib.hid (((Touch.refl [] w).alloc (.cells #[.int .u32 q.a, .int .i64 q.n] 32)).trans ht (by simp))
  have X := Lib.hid (touch_box ht (box_at w (.cells #[.int .u32 q.a, .int .i64 q.n] 32)) (by simp))
  have B := Lib.hid (touch_box T1.out HR.out (by simp))
  clear ht
  obtain ⟨c0, c1, f0, f1⟩ := two_cells B.out
  obtain ⟨d0, d1, _⟩ := two_cells X.out
  go_wp2
  go_upto_region 5 with (fail)
  have BN := Lib.hid (touch_box T1.out HN.out (by simp))
  have htn : Hid (tb ∉ [b]) := Lib.hid (by simpa using fun e => HNE.out e.symm)
  go_cut [8] (fun v8 wc => v8 = .bool false ∧ Hid (wc.heap[tb]? = some (.cells #[.pointer (some ⟨b, 0, none⟩), .int .i64 1] 99 (0, 0))) ∧ Hid (wc.heap[b]? = some (.cells (nodeCs q v) 106 (0, 0))) ∧ Hid (Touch [tb, b] w wc))
  case first =>
    go_region_law (first | (go_simp; go_at_call 51; refine (hangs_eq (by exact BN.out) v).mono ?_; rintro e w5 ⟨rfl, hN, t5⟩; have k4 := cell_touch t5 (a := ⟨tb, 0, none⟩) (v := .pointer (some ⟨b, 0, none⟩)) (by simp [c0]) htn.out; have kf := frozen_touch t5 (b := tb) (o := 0) (v := .pointer (some ⟨b, 0, none⟩)) (by simp [c0]) (by simp [f0]) htn.out))
    all_goals
      obtain ⟨g1, g2, g3⟩ := putS_close hlt HNE.out T1.out B.out (by first | exact (Touch.refl [] _).drew | exact (Touch.refl [] _).drewN _ | exact Touch.refl [] _) t5 hN
      go_wp2
      go_meet
      case rel => exact ⟨rfl, Lib.hid g1, Lib.hid g2, Lib.hid g3⟩
  case rest =>
  obtain ⟨rfl, hB, hN, hT⟩ := hcut
  clear c0 c1 f0 f1 d0 d1 X B
  go_wp2
  go_ret
  exact ⟨rfl, hT.out, hB.out, hN.out, HNE.out⟩
set_option maxHeartbeats 4000000 in
theorem putp_empty {w : World} {tb : Nat} (h : Empp w tb) (q : Px) (x : Int) (A : Option Addr) (n c : Nat) (hq : q.ok) :
    Calls Try.prog 33 #[.pointer (some ⟨tb, 0, none⟩), .agg #[.int .u32 q.a, .int .i64 q.n], (.agg #[.int .i64 x, .slice A n c])] w fun e w' => e = .returned (.int .i64 0) ∧ Touch [tb] w w' ∧ ∃ b, w.heap.size ≤ b ∧ Sglp w' tb q x A n c b := by
  have HR := Lib.hid (show w.heap[tb]? = some (.cells #[.pointer none, .int .i64 0] 102 (0, 0)) from h)
  have hlt := (Array.getElem?_eq_some_iff.1 HR.out).1
  have HQ := Lib.hid hq
  have hqa := hq.2.1
  clear h hq
  go_enter Try.func33, Try.ntmps33
  go_wp2_with fail
  refine (refusal_yes q.a q.n _ hqa ⟨by omega, by simpa using HQ.out⟩).mono ?_
  rintro e w1 ⟨rfl, ht⟩
  have T1 := Lib.hid ((((Touch.refl [] w).alloc (.cells #[.int .u32 q.a, .int .i64 q.n] 32)).alloc (.cells #[.int .i64 x, .slice A n c] 57)).trans ht (by simp))
  have X := Lib.hid (touch_box ht (box_keep (.cells #[.int .i64 x, .slice A n c] 57) (box_at w (.cells #[.int .u32 q.a, .int .i64 q.n] 32))) (by simp))
  have B := Lib.hid (touch_box T1.out HR.out (by simp))
  have Y := Lib.hid (touch_box ht (box_at' (w.alloc (.cells #[.int .u32 q.a, .int .i64 q.n] 32)) (.cells #[.int .i64 x, .slice A n c] 57) (w.heap.size + 1) (by simp)) (by simp))
  obtain ⟨y0, y1, _⟩ := two_cells Y.out
  clear ht
  obtain ⟨c0, c1, f0, f1⟩ := two_cells B.out
  obtain ⟨d0, d1, _⟩ := two_cells X.out
  go_wp2
  go_upto_region 5 with (fail)
  go_cut [8] (fun v8 wc => v8 = .bool true ∧ ∃ b, Hid (wc.heap[tb]? = some (.cells #[.pointer (some ⟨b, 0, none⟩), .int .i64 0] 102 (0, 0))) ∧ Hid (wc.heap[b]? = some (.cells (nodeCp q x A n c) 114 (0, 0))) ∧ Hid (Touch [tb] w wc) ∧ w.heap.size ≤ b)
  case first =>
    go_region_law (first | (go_simp; go_at_call 52; refine (hangp_nil _ q x A n c).mono ?_; rintro e w5 ⟨rfl, hN, t5⟩; have k4 := cell_touch t5 (a := ⟨tb, 0, none⟩) (v := .pointer none) (by simp [c0]) List.not_mem_nil; have kf := frozen_touch t5 (b := tb) (o := 0) (v := .pointer none) (by simp [c0]) (by simp [f0]) List.not_mem_nil))
    all_goals
      have hs := T1.out.size
      obtain ⟨g1, g2, g3⟩ := putE_close hlt T1.out B.out (by first | exact (Touch.refl [] _).drew | exact (Touch.refl [] _).drewN _ | exact Touch.refl [] _) t5 hN (by simp; omega)
      go_wp2
      go_meet
      case rel => exact ⟨rfl, _, Lib.hid g1, Lib.hid g2, Lib.hid g3, by simp; omega⟩
  case rest =>
  obtain ⟨rfl, b, hB, hN, hT, hge⟩ := hcut
  clear c0 c1 f0 f1 d0 d1 X B
  obtain ⟨c0, c1, f0, f1⟩ := two_cells hB.out
  go_wp2
  go_ret
  refine ⟨rfl, hT.out.setCell _ _ (.inl (by simp)), b, hge, ?_, box_other _ _ hN.out (by show b ≠ tb; omega), by omega⟩
  have := box_set (o := 1) hB.out (.int .i64 1)
  simpa using this
set_option maxHeartbeats 4000000 in
theorem putp_sgl {w : World} {tb b : Nat} {q : Px} {y : Int} {B : Option Addr} {m d : Nat} (h : Sglp w tb q y B m d b) (x : Int) (A : Option Addr) (n c : Nat) (hq : q.ok) :
    Calls Try.prog 33 #[.pointer (some ⟨tb, 0, none⟩), .agg #[.int .u32 q.a, .int .i64 q.n], (.agg #[.int .i64 x, .slice A n c])] w fun e w' => e = .returned (.int .i64 0) ∧ Touch [tb, b] w w' ∧ Sglp w' tb q x A n c b := by
  have HR := Lib.hid h.root
  have HN := Lib.hid h.node
  have HNE := Lib.hid h.ne
  have hlt := (Array.getElem?_eq_some_iff.1 HR.out).1
  have HQ := Lib.hid hq
  have hqa := hq.2.1
  clear h hq
  go_enter Try.func33, Try.ntmps33
  go_wp2_with fail
  refine (refusal_yes q.a q.n _ hqa ⟨by omega, by simpa using HQ.out⟩).mono ?_
  rintro e w1 ⟨rfl, ht⟩
  have T1 := Lib.hid ((((Touch.refl [] w).alloc (.cells #[.int .u32 q.a, .int .i64 q.n] 32)).alloc (.cells #[.int .i64 x, .slice A n c] 57)).trans ht (by simp))
  have X := Lib.hid (touch_box ht (box_keep (.cells #[.int .i64 x, .slice A n c] 57) (box_at w (.cells #[.int .u32 q.a, .int .i64 q.n] 32))) (by simp))
  have B := Lib.hid (touch_box T1.out HR.out (by simp))
  have Y := Lib.hid (touch_box ht (box_at' (w.alloc (.cells #[.int .u32 q.a, .int .i64 q.n] 32)) (.cells #[.int .i64 x, .slice A n c] 57) (w.heap.size + 1) (by simp)) (by simp))
  obtain ⟨y0, y1, _⟩ := two_cells Y.out
  clear ht
  obtain ⟨c0, c1, f0, f1⟩ := two_cells B.out
  obtain ⟨d0, d1, _⟩ := two_cells X.out
  go_wp2
  go_upto_region 5 with (fail)
  have BN := Lib.hid (touch_box T1.out HN.out (by simp))
  have htn : Hid (tb ∉ [b]) := Lib.hid (by simpa using fun e => HNE.out e.symm)
  go_cut [8] (fun v8 wc => v8 = .bool false ∧ Hid (wc.heap[tb]? = some (.cells #[.pointer (some ⟨b, 0, none⟩), .int .i64 1] 102 (0, 0))) ∧ Hid (wc.heap[b]? = some (.cells (nodeCp q x A n c) 114 (0, 0))) ∧ Hid (Touch [tb, b] w wc))
  case first =>
    go_region_law (first | (go_simp; go_at_call 52; refine (hangp_eq (by exact BN.out) x A n c).mono ?_; rintro e w5 ⟨rfl, hN, t5⟩; have k4 := cell_touch t5 (a := ⟨tb, 0, none⟩) (v := .pointer (some ⟨b, 0, none⟩)) (by simp [c0]) htn.out; have kf := frozen_touch t5 (b := tb) (o := 0) (v := .pointer (some ⟨b, 0, none⟩)) (by simp [c0]) (by simp [f0]) htn.out))
    all_goals
      obtain ⟨g1, g2, g3⟩ := putS_close hlt HNE.out T1.out B.out (by first | exact (Touch.refl [] _).drew | exact (Touch.refl [] _).drewN _ | exact Touch.refl [] _) t5 hN
      go_wp2
      go_meet
      case rel => exact ⟨rfl, Lib.hid g1, Lib.hid g2, Lib.hid g3⟩
  case rest =>
  obtain ⟨rfl, hB, hN, hT⟩ := hcut
  clear c0 c1 f0 f1 d0 d1 X B
  go_wp2
  go_ret
  exact ⟨rfl, hT.out, hB.out, hN.out, HNE.out⟩
end Go.Proofs.Ytmklkdhpbehfeaa.Tri
