/- Find of tries of texts and of structs that hold one prefix; no condition. -/
import Derived.Test.YtmklkdhpbehfeaaTAnyB
namespace Go.Proofs.Ytmklkdhpbehfeaa.Tri
open Go.RowKit Go.Maps
set_option linter.unusedVariables false
def left1 (v : Value) : Nat := match v with
  | .pointer (some _) => 1
  | _ => 0
set_option maxHeartbeats 8000000 in
set_option maxRecDepth 100000 in
theorem finds_sgl {w : World} {tb b : Nat} {q : Px} {v : ByteArray} (h : Sgls w tb q v b) (hq : q.ok) :
    Calls Try.prog 34 #[.pointer (some ⟨tb, 0, none⟩), .int .u32 q.a] w fun e w' => e = .returned (.tuple #[.agg #[.int .u32 q.a, .int .i64 q.n], (.string v), .int .i64 0]) ∧ Touch [] w w' := by
  have HR := Lib.hid h.root
  have HN := Lib.hid h.node
  have HLT := Lib.hid (Array.getElem?_eq_some_iff.1 h.node).1
  have hqa := hq.2.1
  have hqn := hq.1
  have hm := hq.2.2
  have e1 : (((maskOf q.a q.n : Nat) : Int) == (q.a : Int)) = true := by rw [hm]; simp
  obtain ⟨c0, c1, f0, f1⟩ := two_cells (box_keep (.cells #[.int .u32 0, .int .i64 0] 32) h.root)
  clear h hq hm
  go_enter Try.func34, Try.ntmps34
  go_wp2
  obtain ⟨W1, hW1⟩ : ∃ W1 : World, W1 = w.alloc (.cells #[.int .u32 0, .int .i64 0] 32) := ⟨_, rfl⟩
  rw [← hW1]
  have T1 := Lib.hid (show Touch [] w W1 by rw [hW1]; exact (Touch.refl [] w).alloc _)
  have X1 := Lib.hid (show W1.heap[w.heap.size]? = some (.cells #[.int .u32 0, .int .i64 0] 32 (0, 0)) by rw [hW1]; exact box_at w _)
  have B1 := Lib.hid (touch_box T1.out HN.out (by simp))
  clear hW1 c0 c1 f0 f1
  go_loopw [7, 8] (fun v7 v8 wr => ((v7 = .pointer none ∧ v8 = .pointer (some ⟨b, 0, none⟩)) ∨ (v7 = .pointer (some ⟨b, 0, none⟩) ∧ v8 = .pointer none)) ∧ Hid (Touch [] W1 wr)) (fun _ v8 _ => left1 v8)
  case atStart => exact ⟨.inl ⟨rfl, rfl⟩, Lib.hid (Touch.refl _ _)⟩
  case round =>
    obtain ⟨hh, hTr⟩ := hrel
    rcases hh with ⟨rfl, rfl⟩ | ⟨rfl, rfl⟩
    · have BR := Lib.hid (touch_box hTr.out B1.out (by simp))
      obtain ⟨q0, q1, _⟩ := nodes_cells BR.out
      have n0 := fun u : Near wr => u.cell q0
      have n1 := fun u : Near wr => u.cell q1
      clear q0 q1
      go_wp2
      refine wp_region_near (by kernel_rfl) (by kernel_rfl) ?_
      repeat (go_big_quiet_step ((go_at_call 44; exact mask_near _ _ _ hqa hqn)))
      refine wpQuiet_nil ?_
      rintro _ ⟨u2, rfl⟩
      have TX := Lib.hid (hTr.out.trans u2.near (by simp))
      have B2 := Lib.hid (touch_box u2.near BR.out (by simp))
      clear n0 n1 e1 BR hTr
      obtain ⟨q0, q1, q2, q3, q4, q5, _⟩ := nodes_cells B2.out
      by_cases h32 : q.n = 32
      · have e2 : ((q.n : Int) == 32) = true := by rw [beq_iff_eq]; omega
        clear h32
        have XX := Lib.hid (touch_box TX.out X1.out (by simp))
        have TW := Lib.hid (T1.out.trans TX.out (by simp))
        have BB := Lib.hid (touch_box TX.out B1.out (by simp))
        obtain ⟨r0, r1, r2, r3⟩ := two_cells XX.out
        obtain ⟨z0, z1, _, z3, _⟩ := nodes_cells BB.out
        have hne7 : b ≠ w.heap.size := by have := HLT.out; omega
        have hne8 := hne7.symm
        have y := two_set XX.out (.int .u32 q.a) (.int .i64 q.n)
        obtain ⟨y2, y3⟩ := y
        go_wp2
        go_region_law (fail)
        all_goals
          go_wp2
          refine bodyPost_ret (v := .tuple #[.agg #[.int .u32 q.a, .int .i64 q.n], (.string v), .int .i64 0]) (by simp [results, Try.results34, go_sem, y2, y3]) rfl ?_
          exact ⟨rfl, ((TW.out.setCell _ _ (.inr (by simp))).setCell _ _ (.inr (by simp))).drew⟩
      · have e2 : ((q.n : Int) == 32) = false := by rw [beq_eq_false_iff_ne]; omega
        have h31 : q.n ≤ 31 := by omega
        clear h32
        go_wp2
        have n1 := fun u : Near u2.w => u.cell q1
        have n4 := fun u : Near u2.w => u.cell q4
        have n5 := fun u : Near u2.w => u.cell q5
        clear q0 q1 q2 q3 q4 q5 
        have HC := Lib.hid (fun u : Near u2.w => bit_near u q.a q.n hqa h31)
        rcases bit_two q.a q.n with hb0 | hb0
        all_goals
          rw [hb0] at HC
          clear hb0
          refine wp_region_near (by kernel_rfl) (by kernel_rfl) ?_
          repeat (go_big_quiet_step ((go_at_call 45; exact HC.out _)))
          refine wpQuiet_nil ?_
          rintro _ ⟨u3, rfl⟩
          have TY := Lib.hid (TX.out.trans u3.near (by simp))
          clear n1 n4 n5 HC
          go_wp2
          go_roundw
          case rel => exact ⟨.inr ⟨rfl, rfl⟩, TY⟩
          case measure => simp [left1]
    · go_wp2
      refine wp_region_near (by kernel_rfl) (by kernel_rfl) ?_
      repeat (go_big_quiet_step (fail))
      refine wpQuiet_nil ?_
      rintro _ ⟨u2, rfl⟩
      have TX := Lib.hid (hTr.out.trans u2.near (by simp))
      clear hTr
      have XX := Lib.hid (touch_box TX.out X1.out (by simp))
      have TW := Lib.hid (T1.out.trans TX.out (by simp))
      have BB := Lib.hid (touch_box TX.out B1.out (by simp))
      obtain ⟨r0, r1, r2, r3⟩ := two_cells XX.out
      obtain ⟨z0, z1, _, z3, _⟩ := nodes_cells BB.out
      have hne7 : b ≠ w.heap.size := by have := HLT.out; omega
      have hne8 := hne7.symm
      have y := two_set XX.out (.int .u32 q.a) (.int .i64 q.n)
      obtain ⟨y2, y3⟩ := y
      go_wp2
      go_region_law (fail)
      all_goals
        go_wp2
        refine bodyPost_ret (v := .tuple #[.agg #[.int .u32 q.a, .int .i64 q.n], (.string v), .int .i64 0]) (by simp [results, Try.results34, go_sem, y2, y3]) rfl ?_
        exact ⟨rfl, ((TW.out.setCell _ _ (.inr (by simp))).setCell _ _ (.inr (by simp))).drew⟩
set_option maxHeartbeats 8000000 in
set_option maxRecDepth 100000 in
theorem findp_sgl {w : World} {tb b : Nat} {q : Px} {x : Int} {A : Option Addr} {n c : Nat} (h : Sglp w tb q x A n c b) (hq : q.ok) :
    Calls Try.prog 35 #[.pointer (some ⟨tb, 0, none⟩), .int .u32 q.a] w fun e w' => e = .returned (.tuple #[.agg #[.int .u32 q.a, .int .i64 q.n], (.agg #[.int .i64 x, .slice A n c]), .int .i64 0]) ∧ Touch [] w w' := by
  have HR := Lib.hid h.root
  have HN := Lib.hid h.node
  have HLT := Lib.hid (Array.getElem?_eq_some_iff.1 h.node).1
  have hqa := hq.2.1
  have hqn := hq.1
  have hm := hq.2.2
  have e1 : (((maskOf q.a q.n : Nat) : Int) == (q.a : Int)) = true := by rw [hm]; simp
  obtain ⟨c0, c1, f0, f1⟩ := two_cells (box_keep (.cells #[.int .i64 0, .slice none 0 0] 57) (box_keep (.cells #[.int .u32 0, .int .i64 0] 32) h.root))
  clear h hq hm
  go_enter Try.func35, Try.ntmps35
  go_wp2
  obtain ⟨W1, hW1⟩ : ∃ W1 : World, W1 = (w.alloc (.cells #[.int .u32 0, .int .i64 0] 32)).alloc (.cells #[.int .i64 0, .slice none 0 0] 57) := ⟨_, rfl⟩
  rw [← hW1]
  have T1 := Lib.hid (show Touch [] w W1 by rw [hW1]; exact ((Touch.refl [] w).alloc _).alloc _)
  have X1 := Lib.hid (show W1.heap[w.heap.size]? = some (.cells #[.int .u32 0, .int .i64 0] 32 (0, 0)) by rw [hW1]; exact box_keep _ (box_at w _))
  have B1 := Lib.hid (touch_box T1.out HN.out (by simp))
  have Y1 := Lib.hid (show W1.heap[w.heap.size + 1]? = some (.cells #[.int .i64 0, .slice none 0 0] 57 (0, 0)) by rw [hW1]; exact box_at' _ _ _ (by simp))
  clear hW1 c0 c1 f0 f1
  go_loopw [7, 8] (fun v7 v8 wr => ((v7 = .pointer none ∧ v8 = .pointer (some ⟨b, 0, none⟩)) ∨ (v7 = .pointer (some ⟨b, 0, none⟩) ∧ v8 = .pointer none)) ∧ Hid (Touch [] W1 wr)) (fun _ v8 _ => left1 v8)
  case atStart => exact ⟨.inl ⟨rfl, rfl⟩, Lib.hid (Touch.refl _ _)⟩
  case round =>
    obtain ⟨hh, hTr⟩ := hrel
    rcases hh with ⟨rfl, rfl⟩ | ⟨rfl, rfl⟩
    · have BR := Lib.hid (touch_box hTr.out B1.out (by simp))
      obtain ⟨q0, q1, _⟩ := nodep_cells BR.out
      have n0 := fun u : Near wr => u.cell q0
      have n1 := fun u : Near wr => u.cell q1
      clear q0 q1
      go_wp2
      refine wp_region_near (by kernel_rfl) (by kernel_rfl) ?_
      repeat (go_big_quiet_step ((go_at_call 44; exact mask_near _ _ _ hqa hqn)))
      refine wpQuiet_nil ?_
      rintro _ ⟨u2, rfl⟩
      have TX := Lib.hid (hTr.out.trans u2.near (by simp))
      have B2 := Lib.hid (touch_box u2.near BR.out (by simp))
      clear n0 n1 e1 BR hTr
      obtain ⟨q0, q1, q2, q3, q3b, q4, q5, _⟩ := nodep_cells B2.out
      by_cases h32 : q.n = 32
      · have e2 : ((q.n : Int) == 32) = true := by rw [beq_iff_eq]; omega
        clear h32
        have XX := Lib.hid (touch_box TX.out X1.out (by simp))
        have TW := Lib.hid (T1.out.trans TX.out (by simp))
        have BB := Lib.hid (touch_box TX.out B1.out (by simp))
        obtain ⟨r0, r1, r2, r3⟩ := two_cells XX.out
        obtain ⟨z0, z1, _, z3, z4, _⟩ := nodep_cells BB.out
        have YY := Lib.hid (touch_box TX.out Y1.out (by simp))
        obtain ⟨s0, s1, s2, s3⟩ := two_cells YY.out
        have hne7 : b ≠ w.heap.size := by have := HLT.out; omega
        have hne8 := hne7.symm
        have hne9 : b ≠ w.heap.size + 1 := by have := HLT.out; omega
        have hne10 := hne9.symm
        have y := two_set XX.out (.int .u32 q.a) (.int .i64 q.n)
        obtain ⟨y2, y3⟩ := y
        have yp := two_set YY.out (.int .i64 x) (.slice A n c)
        obtain ⟨yp2, yp3⟩ := yp
        have yq := two_set (box_other ⟨w.heap.size, 1, none⟩ (.int .i64 q.n) (box_other ⟨w.heap.size, 0, none⟩ (.int .u32 q.a) YY.out (by show w.heap.size + 1 ≠ w.heap.size; omega)) (by show w.heap.size + 1 ≠ w.heap.size; omega)) (.int .i64 x) (.slice A n c)
        obtain ⟨yq2, yq3⟩ := yq
        go_wp2
        go_region_law (fail)
        all_goals
          go_wp2
          refine bodyPost_ret (v := .tuple #[.agg #[.int .u32 q.a, .int .i64 q.n], (.agg #[.int .i64 x, .slice A n c]), .int .i64 0]) (by simp [results, Try.results35, go_sem, y2, y3, yq2, yq3]) rfl ?_
          exact ⟨rfl, ((((TW.out.setCell _ _ (.inr (by simp))).setCell _ _ (.inr (by simp))).setCell _ _ (.inr (by simp))).setCell _ _ (.inr (by simp))).drew⟩
      · have e2 : ((q.n : Int) == 32) = false := by rw [beq_eq_false_iff_ne]; omega
        have h31 : q.n ≤ 31 := by omega
        clear h32
        go_wp2
        have n1 := fun u : Near u2.w => u.cell q1
        have n4 := fun u : Near u2.w => u.cell q4
        have n5 := fun u : Near u2.w => u.cell q5
        clear q0 q1 q2 q3 q4 q5 q3b
        have HC := Lib.hid (fun u : Near u2.w => bit_near u q.a q.n hqa h31)
        rcases bit_two q.a q.n with hb0 | hb0
        all_goals
          rw [hb0] at HC
          clear hb0
          refine wp_region_near (by kernel_rfl) (by kernel_rfl) ?_
          repeat (go_big_quiet_step ((go_at_call 45; exact HC.out _)))
          refine wpQuiet_nil ?_
          rintro _ ⟨u3, rfl⟩
          have TY := Lib.hid (TX.out.trans u3.near (by simp))
          clear n1 n4 n5 HC
          go_wp2
          go_roundw
          case rel => exact ⟨.inr ⟨rfl, rfl⟩, TY⟩
          case measure => simp [left1]
    · go_wp2
      refine wp_region_near (by kernel_rfl) (by kernel_rfl) ?_
      repeat (go_big_quiet_step (fail))
      refine wpQuiet_nil ?_
      rintro _ ⟨u2, rfl⟩
      have TX := Lib.hid (hTr.out.trans u2.near (by simp))
      clear hTr
      have XX := Lib.hid (touch_box TX.out X1.out (by simp))
      have TW := Lib.hid (T1.out.trans TX.out (by simp))
      have BB := Lib.hid (touch_box TX.out B1.out (by simp))
      obtain ⟨r0, r1, r2, r3⟩ := two_cells XX.out
      obtain ⟨z0, z1, _, z3, z4, _⟩ := nodep_cells BB.out
      have YY := Lib.hid (touch_box TX.out Y1.out (by simp))
      obtain ⟨s0, s1, s2, s3⟩ := two_cells YY.out
      have hne7 : b ≠ w.heap.size := by have := HLT.out; omega
      have hne8 := hne7.symm
      have hne9 : b ≠ w.heap.size + 1 := by have := HLT.out; omega
      have hne10 := hne9.symm
      have y := two_set XX.out (.int .u32 q.a) (.int .i64 q.n)
      obtain ⟨y2, y3⟩ := y
      have yp := two_set YY.out (.int .i64 x) (.slice A n c)
      obtain ⟨yp2, yp3⟩ := yp
      have yq := two_set (box_other ⟨w.heap.size, 1, none⟩ (.int .i64 q.n) (box_other ⟨w.heap.size, 0, none⟩ (.int .u32 q.a) YY.out (by show w.heap.size + 1 ≠ w.heap.size; omega)) (by show w.heap.size + 1 ≠ w.heap.size; omega)) (.int .i64 x) (.slice A n c)
      obtain ⟨yq2, yq3⟩ := yq
      go_wp2
      go_region_law (fail)
      all_goals
        go_wp2
        refine bodyPost_ret (v := .tuple #[.agg #[.int .u32 q.a, .int .i64 q.n], (.agg #[.int .i64 x, .slice A n c]), .int .i64 0]) (by simp [results, Try.results35, go_sem, y2, y3, yq2, yq3]) rfl ?_
        exact ⟨rfl, ((((TW.out.setCell _ _ (.inr (by simp))).setCell _ _ (.inr (by simp))).setCell _ _ (.inr (by simp))).setCell _ _ (.inr (by simp))).drew⟩
end Go.Proofs.Ytmklkdhpbehfeaa.Tri
