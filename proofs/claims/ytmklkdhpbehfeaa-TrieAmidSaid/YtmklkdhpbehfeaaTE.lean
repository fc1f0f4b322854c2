/- Find, Contains; no condition. -/
import Derived.Test.YtmklkdhpbehfeaaTD
import Derived.Deep.LoopGhost
namespace Go.Proofs.Ytmklkdhpbehfeaa.Tri
open Go.RowKit Go.Maps
set_option linter.unusedVariables false

def tsize : T → Nat
  | .nil => 0
  | .node _ _ l r => tsize l + tsize r + 1
/-- What is the best so far. -/
def BestAt (w : World) (v : Value) (b : Option Ent) : Prop :=
  (v = .pointer none ∧ b = none) ∨ ∃ bb q u pl pr, v = .pointer (some ⟨bb, 0, none⟩) ∧ b = some (q, u) ∧ w.heap[bb]? = some (.cells (nodeC q (some u) pl pr) 90 (0, 0))
theorem BestAt.kept {w w' : World} {v : Value} {b : Option Ent} (h : BestAt w v b) (t : Touch [] w w') : BestAt w' v b := by
  rcases h with h | ⟨bb, q, u, pl, pr, h1, h2, h3⟩
  · exact .inl h
  · exact .inr ⟨bb, q, u, pl, pr, h1, h2, touch_box t h3 (by simp)⟩
def FindPost (w : World) (x : Option Ent) (e : Ending) (w' : World) : Prop :=
  Touch [] w w' ∧ ((x = none ∧ e = .returned (.tuple #[.agg #[.int .u32 0, .int .i64 0], .int .i64 0, .int .i64 3])) ∨ ∃ (q : Px) (v : Int), x = some (q, v) ∧ e = .returned (.tuple #[.agg #[.int .u32 q.a, .int .i64 q.n], .int .i64 v, .int .i64 0]))
set_option maxHeartbeats 8000000 in
set_option maxRecDepth 100000 in
theorem find_calls {w : World} {tb : Nat} {t : T} {S : List Nat} {k : Nat} (h : TrieAt w tb t S k) (a : Nat) (ha : a < 4294967296) :
    Calls Try.prog 19 #[.pointer (some ⟨tb, 0, none⟩), .int .u32 a] w (FindPost w (find t a none)) := by
  obtain ⟨pv, S0, hb, hT, h1, rfl⟩ := h.at_
  have HB := Lib.hid hb
  have HT := Lib.hid hT
  have HO := Lib.hid h.ok
  obtain ⟨c0, c1, f0, f1⟩ := two_cells (box_keep (.cells #[.int .u32 0, .int .i64 0] 32 (0, 0)) hb)
  clear hb hT h1 h
  go_enter Try.func19, Try.ntmps19
  go_wp2
  obtain ⟨W1, hW1⟩ : ∃ W1 : World, W1 = w.alloc (.cells #[.int .u32 0, .int .i64 0] 32) := ⟨_, rfl⟩
  rw [← hW1]
  have X1 := Lib.hid (show W1.heap[w.heap.size]? = some (.cells #[.int .u32 0, .int .i64 0] 32 (0, 0)) by rw [hW1]; exact box_at w _)
  have T1 := Lib.hid (show Touch [] w W1 by rw [hW1]; exact (Touch.refl [] w).alloc _)
  clear hW1 c0 c1 f0 f1
  go_loopg [7, 8] (tsize t) (fun kq v7 v8 wr => ∃ (x : T) (px : Option Addr) (Sx : List Nat) (bst : Option Ent), v8 = .pointer px ∧ Hid (Tr w x (.pointer px) Sx) ∧ Hid (Ok x) ∧ Hid (BestAt w v7 bst) ∧ Hid (find t a none = find x a bst) ∧ Hid (Touch [] W1 wr) ∧ tsize x ≤ kq)
  case atStart => exact ⟨t, pv, S0, none, rfl, HT, HO, Lib.hid (.inl ⟨rfl, rfl⟩), Lib.hid rfl, Lib.hid (Touch.refl _ _), Nat.le_refl _⟩
  case round =>
    obtain ⟨x, px, Sx, bst, rfl, hTx, hOx, hBs, hF, hTr, hk⟩ := hrel
    cases x with
    | nil =>
      have e0 : px = none := by have := hTx.out.1; simpa using this
      subst e0
      have HR : Hid (find t a none = bst) := Lib.hid (by rw [hF.out]; rfl)
      clear hF hk
      go_wp2
      refine wp_region_near (by kernel_rfl) (by kernel_rfl) ?_
      repeat (go_big_quiet_step (fail))
      refine wpQuiet_nil ?_
      rintro _ ⟨u2, rfl⟩
      have TX := Lib.hid ((hTr.out.trans u2.near (by simp)))
      have XX := Lib.hid (touch_box TX.out X1.out (by simp))
      have TW := Lib.hid (T1.out.trans TX.out (by simp))
      obtain ⟨r0, r1, r2, r3⟩ := two_cells XX.out
      rcases hBs.out with ⟨hv7, hb7⟩ | ⟨bb, bq, bu, bpl, bpr, hv7, hb7, hbb⟩
      · subst hv7
        have HR2 := Lib.hid (HR.out.trans hb7)
        clear hb7
        have y := two_set XX.out (.int .u32 0) (.int .i64 0)
        obtain ⟨y2, y3⟩ := y
        go_wp2
        refine bodyPost_ret (v := .tuple #[.agg #[.int .u32 0, .int .i64 0], .int .i64 0, .int .i64 3]) (by simp [results, Try.results19, go_sem, y2, y3]) rfl ?_
        exact ⟨(TW.out.setCell _ _ (.inr (by simp))).setCell _ _ (.inr (by simp)), .inl ⟨HR2.out, rfl⟩⟩
      · subst hv7
        have HR2 := Lib.hid (HR.out.trans hb7)
        have BB := Lib.hid (touch_box TW.out hbb (by simp))
        clear hb7
        obtain ⟨z0, z1, _, z3, _⟩ := node_cells BB.out
        simp only [Option.getD_some] at z3
        have hlt7 := (Array.getElem?_eq_some_iff.1 hbb).1
        have hne7 : _ ≠ w.heap.size := Nat.ne_of_lt hlt7
        have hne8 := hne7.symm
        clear hlt7
        have y := two_set XX.out (.int .u32 bq.a) (.int .i64 bq.n)
        obtain ⟨y2, y3⟩ := y
        go_wp2
        go_region_law (fail)
        all_goals
          go_wp2
          refine bodyPost_ret (v := .tuple #[.agg #[.int .u32 bq.a, .int .i64 bq.n], .int .i64 bu, .int .i64 0]) (by simp [results, Try.results19, go_sem, y2, y3]) rfl ?_
          exact ⟨((TW.out.setCell _ _ (.inr (by simp))).setCell _ _ (.inr (by simp))).drew, .inr ⟨bq, bu, HR2.out, rfl⟩⟩
    | node q u l r =>
      obtain ⟨b, pl, pr, Sl, Sr, hp, hb, hl, hr, hS, h1, h2, h3⟩ := hTx.out
      obtain ⟨o1, o2, o3, o4, o5, o6⟩ := hOx.out
      have e0 : px = some ⟨b, 0, none⟩ := by simpa using hp
      subst e0
      have hqn := o1.1
      have B := Lib.hid (touch_box hTr.out (touch_box T1.out hb (by simp)) (by simp))
      obtain ⟨q0, q1, q2, q3, q4, q5, _⟩ := node_cells B.out
      have n0 := fun u : Near wr => u.cell q0
      have n1 := fun u : Near wr => u.cell q1
      have HLt := Lib.hid hl
      have HRt := Lib.hid hr
      have HB2 := Lib.hid hb
      have O1 := Lib.hid o1
      have O5 := Lib.hid o5
      have O6 := Lib.hid o6
      have HSX := Lib.hid hS
      clear hp hb hl hr hS h1 h2 h3 o1 o2 o3 o4 o5 o6 q0 q1 q2 q3 q4 q5
      by_cases hm : maskOf a q.n = q.a
      · have e1 : (((maskOf a q.n : Nat) : Int) == (q.a : Int)) = true := by rw [hm]; simp
        have HM : Hid (top a q.n = top q.a q.n) := Lib.hid (by rw [← hm, top_mask])
        clear hm
        go_wp2
        refine wp_region_near (by kernel_rfl) (by kernel_rfl) ?_
        repeat (go_big_quiet_step ((go_at_call 44; exact mask_near _ _ _ ha hqn)))
        refine wpQuiet_nil ?_
        rintro _ ⟨u2, rfl⟩
        have TX := Lib.hid ((hTr.out.trans u2.near (by simp)))
        have B2 := Lib.hid (touch_box u2.near B.out (by simp))
        clear n0 n1 e1 hTr B
        obtain ⟨q0, q1, q2, q3, q4, q5, _⟩ := node_cells B2.out
        have hF1 : Hid (find t a none = if q.n = 32 then pick q u bst else if bitOf a q.n = 0 then find l a (pick q u bst) else find r a (pick q u bst)) := Lib.hid (by rw [hF.out, find, if_pos HM.out])
        clear hF
        cases u with
        | some uv =>
          have hBs2 : Hid (BestAt w (.pointer (some ⟨b, 0, none⟩)) (pick q (some uv) bst)) := Lib.hid (.inr ⟨b, q, uv, pl, pr, rfl, rfl, HB2.out⟩)
          by_cases h32 : q.n = 32
          · have e2 : ((q.n : Int) == 32) = true := by rw [beq_iff_eq]; omega
            have HR : Hid (find t a none = pick q (some uv) bst) := Lib.hid (by rw [hF1.out, if_pos h32])
            clear h32 hk hF1 hBs
            have XX := Lib.hid (touch_box TX.out X1.out (by simp))
            have TW := Lib.hid (T1.out.trans TX.out (by simp))
            obtain ⟨r0, r1, r2, r3⟩ := two_cells XX.out
            have hb7 : pick q (some uv) bst = some (q, uv) := rfl
            have hbb := HB2.out
            have HR2 := Lib.hid (HR.out.trans hb7)
            have BB := Lib.hid (touch_box TW.out hbb (by simp))
            clear hb7
            obtain ⟨z0, z1, _, z3, _⟩ := node_cells BB.out
            simp only [Option.getD_some] at z3
            have hlt7 := (Array.getElem?_eq_some_iff.1 hbb).1
            have hne7 : _ ≠ w.heap.size := Nat.ne_of_lt hlt7
            have hne8 := hne7.symm
            clear hlt7
            have y := two_set XX.out (.int .u32 q.a) (.int .i64 q.n)
            obtain ⟨y2, y3⟩ := y
            go_wp2
            go_region_law (fail)
            all_goals
              go_wp2
              refine bodyPost_ret (v := .tuple #[.agg #[.int .u32 q.a, .int .i64 q.n], .int .i64 uv, .int .i64 0]) (by simp [results, Try.results19, go_sem, y2, y3]) rfl ?_
              exact ⟨((TW.out.setCell _ _ (.inr (by simp))).setCell _ _ (.inr (by simp))).drew, .inr ⟨q, uv, HR2.out, rfl⟩⟩
          · have e2 : ((q.n : Int) == 32) = false := by rw [beq_eq_false_iff_ne]; omega
            have h31 : q.n ≤ 31 := by omega
            have hF2 : Hid (find t a none = if bitOf a q.n = 0 then find l a (pick q (some uv) bst) else find r a (pick q (some uv) bst)) := Lib.hid (by rw [hF1.out, if_neg h32])
            clear h32 hF1 hBs
            go_wp2
            have n1 := fun u : Near u2.w => u.cell q1
            have n4 := fun u : Near u2.w => u.cell q4
            have n5 := fun u : Near u2.w => u.cell q5
            clear q0 q1 q2 q3 q4 q5
            rcases bit_two a q.n with hb0 | hb0
            · have HC := Lib.hid (fun u : Near u2.w => bit_near u a q.n ha h31)
              have hF3 : Hid (find t a none = find l a (pick q (some uv) bst)) := Lib.hid (by rw [hF2.out, if_pos hb0])
              have hlk : tsize l < gk := by have := hk; simp only [tsize] at this; omega
              rw [hb0] at HC
              clear hF2 hb0 hk
              refine wp_region_near (by kernel_rfl) (by kernel_rfl) ?_
              repeat (go_big_quiet_step ((go_at_call 45; exact HC.out _)))
              refine wpQuiet_nil ?_
              rintro _ ⟨u3, rfl⟩
              have TY := Lib.hid (TX.out.trans u3.near (by simp))
              clear n1 n4 n5 HC
              obtain ⟨ax, hax⟩ := HLt.out.ptr
              subst hax
              go_wp2
              go_roundg (gk - 1)
              case rel => exact ⟨l, ax, Sl, _, rfl, HLt, O5, hBs2, hF3, TY, by omega⟩
              case measure => omega
            · have HC := Lib.hid (fun u : Near u2.w => bit_near u a q.n ha h31)
              have hF3 : Hid (find t a none = find r a (pick q (some uv) bst)) := Lib.hid (by rw [hF2.out, if_neg (by omega)])
              have hlk : tsize r < gk := by have := hk; simp only [tsize] at this; omega
              rw [hb0] at HC
              clear hF2 hb0 hk
              refine wp_region_near (by kernel_rfl) (by kernel_rfl) ?_
              repeat (go_big_quiet_step ((go_at_call 45; exact HC.out _)))
              refine wpQuiet_nil ?_
              rintro _ ⟨u3, rfl⟩
              have TY := Lib.hid (TX.out.trans u3.near (by simp))
              clear n1 n4 n5 HC
              obtain ⟨ax, hax⟩ := HRt.out.ptr
              subst hax
              go_wp2
              go_roundg (gk - 1)
              case rel => exact ⟨r, ax, Sr, _, rfl, HRt, O6, hBs2, hF3, TY, by omega⟩
              case measure => omega
        | none =>
          have hBs2 : Hid (BestAt w u7 (pick q none bst)) := hBs
          by_cases h32 : q.n = 32
          · have e2 : ((q.n : Int) == 32) = true := by rw [beq_iff_eq]; omega
            have HR : Hid (find t a none = pick q none bst) := Lib.hid (by rw [hF1.out, if_pos h32])
            clear h32 hk hF1 hBs
            have XX := Lib.hid (touch_box TX.out X1.out (by simp))
            have TW := Lib.hid (T1.out.trans TX.out (by simp))
            obtain ⟨r0, r1, r2, r3⟩ := two_cells XX.out
            rcases hBs2.out with ⟨hv7, hb7⟩ | ⟨bb, bq, bu, bpl, bpr, hv7, hb7, hbb⟩
            · subst hv7
              have HR2 := Lib.hid (HR.out.trans hb7)
              clear hb7
              have y := two_set XX.out (.int .u32 0) (.int .i64 0)
              obtain ⟨y2, y3⟩ := y
              go_wp2
              refine bodyPost_ret (v := .tuple #[.agg #[.int .u32 0, .int .i64 0], .int .i64 0, .int .i64 3]) (by simp [results, Try.results19, go_sem, y2, y3]) rfl ?_
              exact ⟨(TW.out.setCell _ _ (.inr (by simp))).setCell _ _ (.inr (by simp)), .inl ⟨HR2.out, rfl⟩⟩
            · subst hv7
              have HR2 := Lib.hid (HR.out.trans hb7)
              have BB := Lib.hid (touch_box TW.out hbb (by simp))
              clear hb7
              obtain ⟨z0, z1, _, z3, _⟩ := node_cells BB.out
              simp only [Option.getD_some] at z3
              have hlt7 := (Array.getElem?_eq_some_iff.1 hbb).1
              have hne7 : _ ≠ w.heap.size := Nat.ne_of_lt hlt7
              have hne8 := hne7.symm
              clear hlt7
              have y := two_set XX.out (.int .u32 bq.a) (.int .i64 bq.n)
              obtain ⟨y2, y3⟩ := y
              go_wp2
              go_region_law (fail)
              all_goals
                go_wp2
                refine bodyPost_ret (v := .tuple #[.agg #[.int .u32 bq.a, .int .i64 bq.n], .int .i64 bu, .int .i64 0]) (by simp [results, Try.results19, go_sem, y2, y3]) rfl ?_
                exact ⟨((TW.out.setCell _ _ (.inr (by simp))).setCell _ _ (.inr (by simp))).drew, .inr ⟨bq, bu, HR2.out, rfl⟩⟩
          · have e2 : ((q.n : Int) == 32) = false := by rw [beq_eq_false_iff_ne]; omega
            have h31 : q.n ≤ 31 := by omega
            have hF2 : Hid (find t a none = if bitOf a q.n = 0 then find l a (pick q none bst) else find r a (pick q none bst)) := Lib.hid (by rw [hF1.out, if_neg h32])
            clear h32 hF1 hBs
            go_wp2
            have n1 := fun u : Near u2.w => u.cell q1
            have n4 := fun u : Near u2.w => u.cell q4
            have n5 := fun u : Near u2.w => u.cell q5
            clear q0 q1 q2 q3 q4 q5
            rcases bit_two a q.n with hb0 | hb0
            · have HC := Lib.hid (fun u : Near u2.w => bit_near u a q.n ha h31)
              have hF3 : Hid (find t a none = find l a (pick q none bst)) := Lib.hid (by rw [hF2.out, if_pos hb0])
              have hlk : tsize l < gk := by have := hk; simp only [tsize] at this; omega
              rw [hb0] at HC
              clear hF2 hb0 hk
              refine wp_region_near (by kernel_rfl) (by kernel_rfl) ?_
              repeat (go_big_quiet_step ((go_at_call 45; exact HC.out _)))
              refine wpQuiet_nil ?_
              rintro _ ⟨u3, rfl⟩
              have TY := Lib.hid (TX.out.trans u3.near (by simp))
              clear n1 n4 n5 HC
              obtain ⟨ax, hax⟩ := HLt.out.ptr
              subst hax
              go_wp2
              go_roundg (gk - 1)
              case rel => exact ⟨l, ax, Sl, _, rfl, HLt, O5, hBs2, hF3, TY, by omega⟩
              case measure => omega
            · have HC := Lib.hid (fun u : Near u2.w => bit_near u a q.n ha h31)
              have hF3 : Hid (find t a none = find r a (pick q none bst)) := Lib.hid (by rw [hF2.out, if_neg (by omega)])
              have hlk : tsize r < gk := by have := hk; simp only [tsize] at this; omega
              rw [hb0] at HC
              clear hF2 hb0 hk
              refine wp_region_near (by kernel_rfl) (by kernel_rfl) ?_
              repeat (go_big_quiet_step ((go_at_call 45; exact HC.out _)))
              refine wpQuiet_nil ?_
              rintro _ ⟨u3, rfl⟩
              have TY := Lib.hid (TX.out.trans u3.near (by simp))
              clear n1 n4 n5 HC
              obtain ⟨ax, hax⟩ := HRt.out.ptr
              subst hax
              go_wp2
              go_roundg (gk - 1)
              case rel => exact ⟨r, ax, Sr, _, rfl, HRt, O6, hBs2, hF3, TY, by omega⟩
              case measure => omega
      · have e1 : (((maskOf a q.n : Nat) : Int) == (q.a : Int)) = false := by rw [beq_eq_false_iff_ne]; intro e; exact hm (by omega)
        have HR : Hid (find t a none = bst) := Lib.hid (by
          rw [hF.out, find, if_neg]
          intro e
          exact hm (by rw [← O1.out.2.2, maskOf_eq]; exact e))
        clear hm hF hk
        go_wp2
        refine wp_region_near (by kernel_rfl) (by kernel_rfl) ?_
        repeat (go_big_quiet_step ((go_at_call 44; exact mask_near _ _ _ ha hqn)))
        refine wpQuiet_nil ?_
        rintro _ ⟨u2, rfl⟩
        have TX := Lib.hid ((hTr.out.trans u2.near (by simp)))
        clear n0 n1 e1
        have XX := Lib.hid (touch_box TX.out X1.out (by simp))
        have TW := Lib.hid (T1.out.trans TX.out (by simp))
        obtain ⟨r0, r1, r2, r3⟩ := two_cells XX.out
        rcases hBs.out with ⟨hv7, hb7⟩ | ⟨bb, bq, bu, bpl, bpr, hv7, hb7, hbb⟩
        · subst hv7
          have HR2 := Lib.hid (HR.out.trans hb7)
          clear hb7
          have y := two_set XX.out (.int .u32 0) (.int .i64 0)
          obtain ⟨y2, y3⟩ := y
          go_wp2
          refine bodyPost_ret (v := .tuple #[.agg #[.int .u32 0, .int .i64 0], .int .i64 0, .int .i64 3]) (by simp [results, Try.results19, go_sem, y2, y3]) rfl ?_
          exact ⟨(TW.out.setCell _ _ (.inr (by simp))).setCell _ _ (.inr (by simp)), .inl ⟨HR2.out, rfl⟩⟩
        · subst hv7
          have HR2 := Lib.hid (HR.out.trans hb7)
          have BB := Lib.hid (touch_box TW.out hbb (by simp))
          clear hb7
          obtain ⟨z0, z1, _, z3, _⟩ := node_cells BB.out
          simp only [Option.getD_some] at z3
          have hlt7 := (Array.getElem?_eq_some_iff.1 hbb).1
          have hne7 : _ ≠ w.heap.size := Nat.ne_of_lt hlt7
          have hne8 := hne7.symm
          clear hlt7
          have y := two_set XX.out (.int .u32 bq.a) (.int .i64 bq.n)
          obtain ⟨y2, y3⟩ := y
          go_wp2
          go_region_law (fail)
          all_goals
            go_wp2
            refine bodyPost_ret (v := .tuple #[.agg #[.int .u32 bq.a, .int .i64 bq.n], .int .i64 bu, .int .i64 0]) (by simp [results, Try.results19, go_sem, y2, y3]) rfl ?_
            exact ⟨((TW.out.setCell _ _ (.inr (by simp))).setCell _ _ (.inr (by simp))).drew, .inr ⟨bq, bu, HR2.out, rfl⟩⟩
end Go.Proofs.Ytmklkdhpbehfeaa.Tri
