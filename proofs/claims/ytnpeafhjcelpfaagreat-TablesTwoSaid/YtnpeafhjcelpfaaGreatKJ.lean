/- The tree of routes: Find; no condition. -/
import Derived.Test.YtnpeafhjcelpfaaGreatKI
import Derived.Deep.LoopGhost
namespace Go.Proofs.YtnpeafhjcelpfaaGreat.Tri
open Go.RowKit Go.Maps
set_option linter.unusedVariables false
set_option linter.unusedSimpArgs false

/-- What is the best so far. -/
def BestAt (w : World) (v : Value) (b : Option Ent) : Prop :=
  (v = .pointer none ∧ b = none) ∨ ∃ bb q u pl pr, v = .pointer (some ⟨bb, 0, none⟩) ∧ b = some (q, u) ∧ w.heap[bb]? = some (.cells (nodeC q (some u) pl pr) 155 (0, 0))
theorem BestAt.kept {w w' : World} {v : Value} {b : Option Ent} (h : BestAt w v b) (t : Touch [] w w') : BestAt w' v b := by
  rcases h with h | ⟨bb, q, u, pl, pr, h1, h2, h3⟩
  · exact .inl h
  · exact .inr ⟨bb, q, u, pl, pr, h1, h2, touch_box t h3 (by simp)⟩
def FindPost (w : World) (x : Option Ent) (e : Ending) (w' : World) : Prop :=
  Touch [] w w' ∧ ((x = none ∧ e = .returned (.tuple #[.agg #[.int .u32 0, .int .i64 0], zeroRt, .int .i64 3])) ∨ ∃ (q : Px) (v : Int), x = some (q, v) ∧ e = .returned (.tuple #[.agg #[.int .u32 q.a, .int .i64 q.n], rtV q v, .int .i64 0]))
theorem put_two {w : World} {bx br : Nat} {p0 p1 r0 r1 r2 r3 : Value} {T1 T2 : TypeId} (hx : w.heap[bx]? = some (.cells #[p0, p1] T1 (0, 0))) (hr : w.heap[br]? = some (.cells #[r0, r1, r2, r3] T2 (0, 0))) (hne : bx ≠ br) (x y a b c d : Value) :
    (∃ W : World, W = (((((w.setCell ⟨bx, 0, none⟩ x).setCell ⟨bx, 1, none⟩ y).setCell ⟨br, 0, none⟩ a).setCell ⟨br, 1, none⟩ b).setCell ⟨br, 2, none⟩ c).setCell ⟨br, 3, none⟩ d ∧ W.heap[bx]? = some (.cells #[x, y] T1 (0, 0)) ∧ W.heap[br]? = some (.cells #[a, b, c, d] T2 (0, 0)) ∧ Touch [bx, br] w W) ∧
    (∃ W : World, W = (((((w.setCell ⟨br, 0, none⟩ a).setCell ⟨br, 1, none⟩ b).setCell ⟨br, 2, none⟩ c).setCell ⟨br, 3, none⟩ d).setCell ⟨bx, 0, none⟩ x).setCell ⟨bx, 1, none⟩ y ∧ W.heap[bx]? = some (.cells #[x, y] T1 (0, 0)) ∧ W.heap[br]? = some (.cells #[a, b, c, d] T2 (0, 0)) ∧ Touch [bx, br] w W) := by
  have x1 : (w.setCell ⟨bx, 0, none⟩ x).heap[bx]? = some (.cells #[x, p1] T1 (0, 0)) := box_set (o := 0) hx x
  have x2 : ((w.setCell ⟨bx, 0, none⟩ x).setCell ⟨bx, 1, none⟩ y).heap[bx]? = some (.cells #[x, y] T1 (0, 0)) := box_set (o := 1) x1 y
  have tx : ∀ w : World, Touch [bx, br] w ((w.setCell ⟨bx, 0, none⟩ x).setCell ⟨bx, 1, none⟩ y) := fun w => (((Touch.refl _ w).setCell _ _ (.inl (by simp))).setCell _ _ (.inl (by simp)))
  have tx' : ∀ w : World, Touch [bx] w ((w.setCell ⟨bx, 0, none⟩ x).setCell ⟨bx, 1, none⟩ y) := fun w => (((Touch.refl _ w).setCell _ _ (.inl (by simp))).setCell _ _ (.inl (by simp)))
  obtain ⟨W1, e1, k1, t1⟩ := rt_set (touch_box (tx' w) hr (by simp; exact fun e => hne e.symm)) a b c d
  obtain ⟨W2, e2, k2, t2⟩ := rt_set hr a b c d
  refine ⟨⟨W1, e1, touch_box t1 x2 (by simp; exact hne), k1, (tx w).trans t1 (fun z hz => .inl (by simp at hz; simp [hz]))⟩, ?_⟩
  have y0 : W2.heap[bx]? = some (.cells #[p0, p1] T1 (0, 0)) := touch_box t2 hx (by simp; exact hne)
  have y1 : (W2.setCell ⟨bx, 0, none⟩ x).heap[bx]? = some (.cells #[x, p1] T1 (0, 0)) := box_set (o := 0) y0 x
  have y2 : ((W2.setCell ⟨bx, 0, none⟩ x).setCell ⟨bx, 1, none⟩ y).heap[bx]? = some (.cells #[x, y] T1 (0, 0)) := box_set (o := 1) y1 y
  exact ⟨_, by rw [e2], y2, touch_box (tx' W2) k2 (by simp; exact fun e => hne e.symm), (t2.mono (S' := [bx, br]) (fun z hz => .inl (by simp at hz; simp [hz]))).trans (tx W2) (fun z hz => .inl hz)⟩
set_option maxHeartbeats 8000000 in
set_option maxRecDepth 100000 in
theorem find_calls {w : World} {tb : Nat} {t : T} {S : List Nat} {k : Nat} (h : TrieAt w tb t S k) (a : Nat) (ha : a < 4294967296) :
    Calls Tryz.prog 60 #[.pointer (some ⟨tb, 0, none⟩), .int .u32 a] w (FindPost w (find t a none)) := by
  obtain ⟨pv, S0, hb, hT, h1, rfl⟩ := h.at_
  have HB := Lib.hid hb
  have HT := Lib.hid hT
  have HO := Lib.hid h.ok
  obtain ⟨c0, c1, f0, f1⟩ := two_cells (box_keep (.cells #[.int .u32 0, .int .i64 0, .int .u32 0, .bool false] 49) (box_keep (.cells #[.int .u32 0, .int .i64 0] 47) hb))
  clear hb hT h1 h
  go_enter Tryz.func60, Tryz.ntmps60
  go_wp2
  obtain ⟨W1, hW1⟩ : ∃ W1 : World, W1 = (w.alloc (.cells #[.int .u32 0, .int .i64 0] 47)).alloc (.cells #[.int .u32 0, .int .i64 0, .int .u32 0, .bool false] 49) := ⟨_, rfl⟩
  rw [← hW1]
  obtain ⟨bx, hbx⟩ : ∃ bx, bx = w.heap.size := ⟨_, rfl⟩
  obtain ⟨br, hbr⟩ : ∃ br, br = w.heap.size + 1 := ⟨_, rfl⟩
  have X1 := Lib.hid (show W1.heap[bx]? = some (.cells #[.int .u32 0, .int .i64 0] 47 (0, 0)) by rw [hW1, hbx]; exact box_keep _ (box_at w _))
  have R1 := Lib.hid (show W1.heap[br]? = some (.cells #[.int .u32 0, .int .i64 0, .int .u32 0, .bool false] 49 (0, 0)) by rw [hW1, hbr]; exact box_at' _ _ _ (by simp))
  have T1 := Lib.hid (show Touch [] w W1 by rw [hW1]; exact ((Touch.refl [] w).alloc _).alloc _)
  have HBX : Hid (w.heap.size ≤ bx ∧ w.heap.size ≤ br ∧ bx ≠ br) := Lib.hid (by omega)
  rw [← hbr, ← hbx]
  clear hbr hbx
  clear hW1 c0 c1 f0 f1
  go_loopg [7, 8] (tsize t) (fun kq v7 v8 wr => ∃ (x : T) (px : Option Addr) (Sx : List Nat) (bst : Option Ent), v8 = .pointer px ∧ Hid (Tr w x (.pointer px) Sx) ∧ Hid (Ok x) ∧ Hid (BestAt w v7 bst) ∧ Hid (find t a none = find x a bst) ∧ Hid (Touch [] W1 wr) ∧ tsize x ≤ kq)
  case atStart => exact ⟨t, pv, S0, none, rfl, HT, HO, Lib.hid (.inl ⟨rfl, rfl⟩), Lib.hid rfl, Lib.hid (Touch.refl _ _), Nat.le_refl _⟩
  case round =>
    obtain ⟨x, px, Sx, bst, rfl, hTx, hOx, hBs, hF, hTr, hk⟩ := hrel
    cases x with
    | nil =>
      have e0 : px = none := by have := hTx.out.1; simpa using this
      subst e0
      have HR : Hid (find t a none = bst) := Lib.hid (by rw [hF.out]; rfl)
      clear hF hk
      go_wp2
      refine wp_region_near (by kernel_rfl) (by kernel_rfl) ?_
      repeat (go_big_quiet_step (fail))
      refine wpQuiet_nil ?_
      rintro _ ⟨u2, rfl⟩
      have tu := u2.near
      obtain ⟨WT, hWT⟩ : ∃ X : World, X = u2.w := ⟨_, rfl⟩
      rw [← hWT] at tu ⊢
      clear hWT
      have TX := Lib.hid ((hTr.out.trans tu (by simp)))
      have XX := Lib.hid (touch_box TX.out X1.out (by simp))
      have RR := Lib.hid (touch_box TX.out R1.out (by simp))
      have TW := Lib.hid (T1.out.trans TX.out (by simp))
      have TWT := TW
      rcases hBs.out with ⟨hv7, hb7⟩ | ⟨bb, bq, bu, bpl, bpr, hv7, hb7, hbb⟩
      · subst hv7
        have HR2 := Lib.hid (HR.out.trans hb7)
        clear hb7
        go_upto_region 10 with (fail)
        obtain ⟨WZ, hWZ⟩ : ∃ X : World, X = WT.alloc (.cells #[.int .u32 0, .int .i64 0, .int .u32 0, .bool false] 49) := ⟨_, rfl⟩
        rw [← hWZ]
        have XZ := Lib.hid (show WZ.heap[bx]? = some (.cells #[.int .u32 0, .int .i64 0] 47 (0, 0)) by rw [hWZ]; exact box_keep _ XX.out)
        have RZ := Lib.hid (show WZ.heap[br]? = some (.cells #[.int .u32 0, .int .i64 0, .int .u32 0, .bool false] 49 (0, 0)) by rw [hWZ]; exact box_keep _ RR.out)
        have ZZ := Lib.hid (show WZ.heap[WT.heap.size]? = some (.cells #[.int .u32 0, .int .i64 0, .int .u32 0, .bool false] 49 (0, 0)) by rw [hWZ]; exact box_at _ _)
        have TWZ := Lib.hid (show Touch [] w WZ by rw [hWZ]; exact TW.out.alloc _)
        have hzz : bx ≠ WT.heap.size ∧ br ≠ WT.heap.size := by have h1 := (Array.getElem?_eq_some_iff.1 XX.out).1; have h2 := (Array.getElem?_eq_some_iff.1 RR.out).1; omega
        obtain ⟨hz1, hz2⟩ := hzz
        have hz3 := hz1.symm
        have hz4 := hz2.symm
        obtain ⟨z0, z1, z2, z3⟩ := rt_cells ZZ.out
        generalize WT.heap.size = zb at *
        clear hWZ
        obtain ⟨⟨WA, hWA, a1, a2, a3⟩, ⟨WB, hWB, b1, b2, b3⟩⟩ := put_two XZ.out RZ.out HBX.out.2.2 (.int .u32 0) (.int .i64 0) (.int .u32 0) (.int .i64 0) (.int .u32 0) (.bool false)
        have PA := Lib.hid (show WA.drew.heap[bx]? = some (.cells #[(.int .u32 0), (.int .i64 0)] 47 (0, 0)) ∧ WA.drew.heap[br]? = some (.cells #[(.int .u32 0), (.int .i64 0), (.int .u32 0), (.bool false)] 49 (0, 0)) ∧ Touch [bx, br] WZ WA.drew from ⟨a1, a2, a3.drew⟩)
        have PB := Lib.hid (show WB.drew.heap[bx]? = some (.cells #[(.int .u32 0), (.int .i64 0)] 47 (0, 0)) ∧ WB.drew.heap[br]? = some (.cells #[(.int .u32 0), (.int .i64 0), (.int .u32 0), (.bool false)] 49 (0, 0)) ∧ Touch [bx, br] WZ WB.drew from ⟨b1, b2, b3.drew⟩)
        rw [hWA] at PA
        rw [hWB] at PB
        have xf := fun o => rt_frozen XZ.out o
        have rf := fun o => rt_frozen RZ.out o
        have hxr1 : ¬ (bx = br) := HBX.out.2.2
        have hxr2 : ¬ (br = bx) := fun e => HBX.out.2.2 e.symm
        obtain ⟨x0, x1, -⟩ := two_cells XZ.out
        obtain ⟨r0, r1, r2, r3⟩ := rt_cells RZ.out
        clear hWA a1 a2 a3 hWB b1 b2 b3 WA WB
        go_cut [6] from 56 to 58 (fun v wc => v = .int .i64 3 ∧ Hid (wc.heap[bx]? = some (.cells #[(.int .u32 0), (.int .i64 0)] 47 (0, 0)) ∧ wc.heap[br]? = some (.cells #[(.int .u32 0), (.int .i64 0), (.int .u32 0), (.bool false)] 49 (0, 0)) ∧ Touch [bx, br] WZ wc))
        case first =>
          go_region_law (fail)
          all_goals (try go_wp2)
          all_goals go_meet
          all_goals first
            | (with_reducible exact ⟨rfl, PA⟩)
            | (with_reducible exact ⟨rfl, PB⟩)
        case rest =>
        obtain ⟨rfl, hfin⟩ := hcut
        have TF := Lib.hid (TWZ.out.trans hfin.out.2.2 (fun x hx => .inr (by have := HBX.out; simp at hx; rcases hx with h | h <;> rw [h] <;> omega)))
        clear x0 x1 r0 r1 r2 r3 xf rf hxr1 hxr2 z0 z1 z2 z3 hz1 hz2 hz3 hz4
        obtain ⟨x0, x1, -⟩ := two_cells hfin.out.1
        obtain ⟨r0, r1, r2, r3⟩ := rt_cells hfin.out.2.1
        go_wp2
        refine bodyPost_ret (v := .tuple #[.agg #[.int .u32 0, .int .i64 0], zeroRt, .int .i64 3]) (by simp [results, Tryz.results60, go_sem, x0, x1, r0, r1, r2, r3, zeroRt, rtV]) rfl ?_
        exact ⟨TF.out, .inl ⟨HR2.out, rfl⟩⟩
      · subst hv7
        have HR2 := Lib.hid (HR.out.trans hb7)
        have BB := Lib.hid (touch_box TW.out hbb (by simp))
        clear hb7
        obtain ⟨z0, z1, _, ⟨n3, n4, n5, n6⟩, _⟩ := node_cells BB.out
        dsimp only [oA, oN, oV, oL] at n3 n4 n5 n6
        have hlt7 := (Array.getElem?_eq_some_iff.1 hbb).1
        have hne7 : bb ≠ bx := by have := HBX.out; omega
        have hne8 := hne7.symm
        have hne9 : bb ≠ br := by have := HBX.out; omega
        have hneA := hne9.symm
        clear hlt7
        go_upto_region 11 with (fail)
        obtain ⟨⟨WA, hWA, a1, a2, a3⟩, ⟨WB, hWB, b1, b2, b3⟩⟩ := put_two XX.out RR.out HBX.out.2.2 (.int .u32 bq.a) (.int .i64 bq.n) (.int .u32 bq.a) (.int .i64 bq.n) (.int .u32 (rV bu)) (.bool (rL bu))
        have PA := Lib.hid (show WA.drew.heap[bx]? = some (.cells #[(.int .u32 bq.a), (.int .i64 bq.n)] 47 (0, 0)) ∧ WA.drew.heap[br]? = some (.cells #[(.int .u32 bq.a), (.int .i64 bq.n), (.int .u32 (rV bu)), (.bool (rL bu))] 49 (0, 0)) ∧ Touch [bx, br] WT WA.drew from ⟨a1, a2, a3.drew⟩)
        have PB := Lib.hid (show WB.drew.heap[bx]? = some (.cells #[(.int .u32 bq.a), (.int .i64 bq.n)] 47 (0, 0)) ∧ WB.drew.heap[br]? = some (.cells #[(.int .u32 bq.a), (.int .i64 bq.n), (.int .u32 (rV bu)), (.bool (rL bu))] 49 (0, 0)) ∧ Touch [bx, br] WT WB.drew from ⟨b1, b2, b3.drew⟩)
        rw [hWA] at PA
        rw [hWB] at PB
        have xf := fun o => rt_frozen XX.out o
        have rf := fun o => rt_frozen RR.out o
        have hxr1 : ¬ (bx = br) := HBX.out.2.2
        have hxr2 : ¬ (br = bx) := fun e => HBX.out.2.2 e.symm
        obtain ⟨x0, x1, -⟩ := two_cells XX.out
        obtain ⟨r0, r1, r2, r3⟩ := rt_cells RR.out
        clear hWA a1 a2 a3 hWB b1 b2 b3 WA WB
        go_cut [6] from 58 to 66 (fun v wc => v = .int .i64 0 ∧ Hid (wc.heap[bx]? = some (.cells #[(.int .u32 bq.a), (.int .i64 bq.n)] 47 (0, 0)) ∧ wc.heap[br]? = some (.cells #[(.int .u32 bq.a), (.int .i64 bq.n), (.int .u32 (rV bu)), (.bool (rL bu))] 49 (0, 0)) ∧ Touch [bx, br] WT wc))
        case first =>
          go_region_law (fail)
          all_goals (try go_wp2)
          all_goals go_meet
          all_goals first
            | (with_reducible exact ⟨rfl, PA⟩)
            | (with_reducible exact ⟨rfl, PB⟩)
        case rest =>
        obtain ⟨rfl, hfin⟩ := hcut
        have TF := Lib.hid (TWT.out.trans hfin.out.2.2 (fun x hx => .inr (by have := HBX.out; simp at hx; rcases hx with h | h <;> rw [h] <;> omega)))
        clear x0 x1 r0 r1 r2 r3 xf rf hxr1 hxr2 z0 z1 n3 n4 n5 n6 hne7 hne8 hne9 hneA
        obtain ⟨x0, x1, -⟩ := two_cells hfin.out.1
        obtain ⟨r0, r1, r2, r3⟩ := rt_cells hfin.out.2.1
        go_wp2
        refine bodyPost_ret (v := .tuple #[.agg #[.int .u32 bq.a, .int .i64 bq.n], rtV bq bu, .int .i64 0]) (by simp [results, Tryz.results60, go_sem, x0, x1, r0, r1, r2, r3, zeroRt, rtV]) rfl ?_
        exact ⟨TF.out, .inr ⟨bq, bu, HR2.out, rfl⟩⟩
    | node q u l r =>
      obtain ⟨b, pl, pr, Sl, Sr, hp, hb, hl, hr, hS, h1, h2, h3⟩ := hTx.out
      obtain ⟨o1, o2, o3, o4, o5, o6⟩ := hOx.out
      have e0 : px = some ⟨b, 0, none⟩ := by simpa using hp
      subst e0
      have hqn := o1.1
      have B := Lib.hid (touch_box hTr.out (touch_box T1.out hb (by simp)) (by simp))
      obtain ⟨q0, q1, q2, q3, q4, q5, _⟩ := node_cells B.out
      have n0 := fun u : Near wr => u.cell q0
      have n1 := fun u : Near wr => u.cell q1
      have HLt := Lib.hid hl
      have HRt := Lib.hid hr
      have HB2 := Lib.hid hb
      have O1 := Lib.hid o1
      have O5 := Lib.hid o5
      have O6 := Lib.hid o6
      have HSX := Lib.hid hS
      clear hp hb hl hr hS h1 h2 h3 o1 o2 o3 o4 o5 o6 q0 q1 q2 q3 q4 q5
      by_cases hm : maskOf a q.n = q.a
      · have e1 : (((maskOf a q.n : Nat) : Int) == (q.a : Int)) = true := by rw [hm]; simp
        have HM : Hid (top a q.n = top q.a q.n) := Lib.hid (by rw [← hm, top_mask])
        clear hm
        go_wp2
        refine wp_region_near (by kernel_rfl) (by kernel_rfl) ?_
        repeat (go_big_quiet_step ((go_at_call 85; exact mask_near _ _ _ ha hqn)))
        refine wpQuiet_nil ?_
        rintro _ ⟨u2, rfl⟩
        have tu := u2.near
        obtain ⟨WT, hWT⟩ : ∃ X : World, X = u2.w := ⟨_, rfl⟩
        rw [← hWT] at tu ⊢
        clear hWT
        have TX := Lib.hid ((hTr.out.trans tu (by simp)))
        have B2 := Lib.hid (touch_box tu B.out (by simp))
        clear n0 n1 e1 hTr B
        obtain ⟨q0, q1, q2, q3, q4, q5, _⟩ := node_cells B2.out
        have hF1 : Hid (find t a none = if q.n = 32 then pick q u bst else if bitOf a q.n = 0 then find l a (pick q u bst) else find r a (pick q u bst)) := Lib.hid (by rw [hF.out, find, if_pos HM.out])
        clear hF
        cases u with
        | some uv =>
          have hBs2 : Hid (BestAt w (.pointer (some ⟨b, 0, none⟩)) (pick q (some uv) bst)) := Lib.hid (.inr ⟨b, q, uv, pl, pr, rfl, rfl, HB2.out⟩)
          by_cases h32 : q.n = 32
          · have e2 : ((q.n : Int) == 32) = true := by rw [beq_iff_eq]; omega
            have HR : Hid (find t a none = pick q (some uv) bst) := Lib.hid (by rw [hF1.out, if_pos h32])
            clear h32 hk hF1 hBs
            go_upto_region 8 with (fail)
            clear q0 q1 q2 q3 q4 q5 e2
            have XX := Lib.hid (touch_box TX.out X1.out (by simp))
            have RR := Lib.hid (touch_box TX.out R1.out (by simp))
            have TW := Lib.hid (T1.out.trans TX.out (by simp))
            have TWT := TW
            have hb7 : pick q (some uv) bst = some (q, uv) := rfl
            have hbb := HB2.out
            have HR2 := Lib.hid (HR.out.trans hb7)
            have BB := Lib.hid (touch_box TW.out hbb (by simp))
            clear hb7
            obtain ⟨z0, z1, _, ⟨n3, n4, n5, n6⟩, _⟩ := node_cells BB.out
            dsimp only [oA, oN, oV, oL] at n3 n4 n5 n6
            have hlt7 := (Array.getElem?_eq_some_iff.1 hbb).1
            have hne7 : b ≠ bx := by have := HBX.out; omega
            have hne8 := hne7.symm
            have hne9 : b ≠ br := by have := HBX.out; omega
            have hneA := hne9.symm
            clear hlt7
            go_upto_region 11 with (fail)
            obtain ⟨⟨WA, hWA, a1, a2, a3⟩, ⟨WB, hWB, b1, b2, b3⟩⟩ := put_two XX.out RR.out HBX.out.2.2 (.int .u32 q.a) (.int .i64 q.n) (.int .u32 q.a) (.int .i64 q.n) (.int .u32 (rV uv)) (.bool (rL uv))
            have PA := Lib.hid (show WA.drew.heap[bx]? = some (.cells #[(.int .u32 q.a), (.int .i64 q.n)] 47 (0, 0)) ∧ WA.drew.heap[br]? = some (.cells #[(.int .u32 q.a), (.int .i64 q.n), (.int .u32 (rV uv)), (.bool (rL uv))] 49 (0, 0)) ∧ Touch [bx, br] WT WA.drew from ⟨a1, a2, a3.drew⟩)
            have PB := Lib.hid (show WB.drew.heap[bx]? = some (.cells #[(.int .u32 q.a), (.int .i64 q.n)] 47 (0, 0)) ∧ WB.drew.heap[br]? = some (.cells #[(.int .u32 q.a), (.int .i64 q.n), (.int .u32 (rV uv)), (.bool (rL uv))] 49 (0, 0)) ∧ Touch [bx, br] WT WB.drew from ⟨b1, b2, b3.drew⟩)
            rw [hWA] at PA
            rw [hWB] at PB
            have xf := fun o => rt_frozen XX.out o
            have rf := fun o => rt_frozen RR.out o
            have hxr1 : ¬ (bx = br) := HBX.out.2.2
            have hxr2 : ¬ (br = bx) := fun e => HBX.out.2.2 e.symm
            obtain ⟨x0, x1, -⟩ := two_cells XX.out
            obtain ⟨r0, r1, r2, r3⟩ := rt_cells RR.out
            clear hWA a1 a2 a3 hWB b1 b2 b3 WA WB
            go_cut [6] from 58 to 66 (fun v wc => v = .int .i64 0 ∧ Hid (wc.heap[bx]? = some (.cells #[(.int .u32 q.a), (.int .i64 q.n)] 47 (0, 0)) ∧ wc.heap[br]? = some (.cells #[(.int .u32 q.a), (.int .i64 q.n), (.int .u32 (rV uv)), (.bool (rL uv))] 49 (0, 0)) ∧ Touch [bx, br] WT wc))
            case first =>
              go_region_law (fail)
              all_goals (try go_wp2)
              all_goals go_meet
              all_goals first
                | (with_reducible exact ⟨rfl, PA⟩)
                | (with_reducible exact ⟨rfl, PB⟩)
            case rest =>
            obtain ⟨rfl, hfin⟩ := hcut
            have TF := Lib.hid (TWT.out.trans hfin.out.2.2 (fun x hx => .inr (by have := HBX.out; simp at hx; rcases hx with h | h <;> rw [h] <;> omega)))
            clear x0 x1 r0 r1 r2 r3 xf rf hxr1 hxr2 z0 z1 n3 n4 n5 n6 hne7 hne8 hne9 hneA
            obtain ⟨x0, x1, -⟩ := two_cells hfin.out.1
            obtain ⟨r0, r1, r2, r3⟩ := rt_cells hfin.out.2.1
            go_wp2
            refine bodyPost_ret (v := .tuple #[.agg #[.int .u32 q.a, .int .i64 q.n], rtV q uv, .int .i64 0]) (by simp [results, Tryz.results60, go_sem, x0, x1, r0, r1, r2, r3, zeroRt, rtV]) rfl ?_
            exact ⟨TF.out, .inr ⟨q, uv, HR2.out, rfl⟩⟩
          · have e2 : ((q.n : Int) == 32) = false := by rw [beq_eq_false_iff_ne]; omega
            have h31 : q.n ≤ 31 := by omega
            have hF2 : Hid (find t a none = if bitOf a q.n = 0 then find l a (pick q (some uv) bst) else find r a (pick q (some uv) bst)) := Lib.hid (by rw [hF1.out, if_neg h32])
            clear h32 hF1 hBs
            go_wp2
            have n1 := fun u : Near WT => u.cell q1
            have n4 := fun u : Near WT => u.cell q4
            have n5 := fun u : Near WT => u.cell q5
            clear q0 q1 q2 q3 q4 q5
            rcases bit_two a q.n with hb0 | hb0
            · have HC := Lib.hid (fun u : Near WT => bit_near u a q.n ha h31)
              have hF3 : Hid (find t a none = find l a (pick q (some uv) bst)) := Lib.hid (by rw [hF2.out, if_pos hb0])
              have hlk : tsize l < gk := by have := hk; simp only [tsize] at this; omega
              rw [hb0] at HC
              clear hF2 hb0 hk
              refine wp_region_near (by kernel_rfl) (by kernel_rfl) ?_
              repeat (go_big_quiet_step ((go_at_call 86; exact HC.out _)))
              refine wpQuiet_nil ?_
              rintro _ ⟨u3, rfl⟩
              have TY := Lib.hid (TX.out.trans u3.near (by simp))
              clear n1 n4 n5 HC
              obtain ⟨ax, hax⟩ := HLt.out.ptr
              subst hax
              go_wp2
              go_roundg (gk - 1)
              case rel => exact ⟨l, ax, Sl, _, rfl, HLt, O5, hBs2, hF3, TY, by omega⟩
              case measure => omega
            · have HC := Lib.hid (fun u : Near WT => bit_near u a q.n ha h31)
              have hF3 : Hid (find t a none = find r a (pick q (some uv) bst)) := Lib.hid (by rw [hF2.out, if_neg (by omega)])
              have hlk : tsize r < gk := by have := hk; simp only [tsize] at this; omega
              rw [hb0] at HC
              clear hF2 hb0 hk
              refine wp_region_near (by kernel_rfl) (by kernel_rfl) ?_
              repeat (go_big_quiet_step ((go_at_call 86; exact HC.out _)))
              refine wpQuiet_nil ?_
              rintro _ ⟨u3, rfl⟩
              have TY := Lib.hid (TX.out.trans u3.near (by simp))
              clear n1 n4 n5 HC
              obtain ⟨ax, hax⟩ := HRt.out.ptr
              subst hax
              go_wp2
              go_roundg (gk - 1)
              case rel => exact ⟨r, ax, Sr, _, rfl, HRt, O6, hBs2, hF3, TY, by omega⟩
              case measure => omega
        | none =>
          have hBs2 : Hid (BestAt w u7 (pick q none bst)) := hBs
          by_cases h32 : q.n = 32
          · have e2 : ((q.n : Int) == 32) = true := by rw [beq_iff_eq]; omega
            have HR : Hid (find t a none = pick q none bst) := Lib.hid (by rw [hF1.out, if_pos h32])
            clear h32 hk hF1 hBs
            go_upto_region 8 with (fail)
            clear q0 q1 q2 q3 q4 q5 e2
            have XX := Lib.hid (touch_box TX.out X1.out (by simp))
            have RR := Lib.hid (touch_box TX.out R1.out (by simp))
            have TW := Lib.hid (T1.out.trans TX.out (by simp))
            have TWT := TW
            rcases hBs2.out with ⟨hv7, hb7⟩ | ⟨bb, bq, bu, bpl, bpr, hv7, hb7, hbb⟩
            · subst hv7
              have HR2 := Lib.hid (HR.out.trans hb7)
              clear hb7
              go_upto_region 10 with (fail)
              obtain ⟨WZ, hWZ⟩ : ∃ X : World, X = WT.alloc (.cells #[.int .u32 0, .int .i64 0, .int .u32 0, .bool false] 49) := ⟨_, rfl⟩
              rw [← hWZ]
              have XZ := Lib.hid (show WZ.heap[bx]? = some (.cells #[.int .u32 0, .int .i64 0] 47 (0, 0)) by rw [hWZ]; exact box_keep _ XX.out)
              have RZ := Lib.hid (show WZ.heap[br]? = some (.cells #[.int .u32 0, .int .i64 0, .int .u32 0, .bool false] 49 (0, 0)) by rw [hWZ]; exact box_keep _ RR.out)
              have ZZ := Lib.hid (show WZ.heap[WT.heap.size]? = some (.cells #[.int .u32 0, .int .i64 0, .int .u32 0, .bool false] 49 (0, 0)) by rw [hWZ]; exact box_at _ _)
              have TWZ := Lib.hid (show Touch [] w WZ by rw [hWZ]; exact TW.out.alloc _)
              have hzz : bx ≠ WT.heap.size ∧ br ≠ WT.heap.size := by have h1 := (Array.getElem?_eq_some_iff.1 XX.out).1; have h2 := (Array.getElem?_eq_some_iff.1 RR.out).1; omega
              obtain ⟨hz1, hz2⟩ := hzz
              have hz3 := hz1.symm
              have hz4 := hz2.symm
              obtain ⟨z0, z1, z2, z3⟩ := rt_cells ZZ.out
              generalize WT.heap.size = zb at *
              clear hWZ
              obtain ⟨⟨WA, hWA, a1, a2, a3⟩, ⟨WB, hWB, b1, b2, b3⟩⟩ := put_two XZ.out RZ.out HBX.out.2.2 (.int .u32 0) (.int .i64 0) (.int .u32 0) (.int .i64 0) (.int .u32 0) (.bool false)
              have PA := Lib.hid (show WA.drew.heap[bx]? = some (.cells #[(.int .u32 0), (.int .i64 0)] 47 (0, 0)) ∧ WA.drew.heap[br]? = some (.cells #[(.int .u32 0), (.int .i64 0), (.int .u32 0), (.bool false)] 49 (0, 0)) ∧ Touch [bx, br] WZ WA.drew from ⟨a1, a2, a3.drew⟩)
              have PB := Lib.hid (show WB.drew.heap[bx]? = some (.cells #[(.int .u32 0), (.int .i64 0)] 47 (0, 0)) ∧ WB.drew.heap[br]? = some (.cells #[(.int .u32 0), (.int .i64 0), (.int .u32 0), (.bool false)] 49 (0, 0)) ∧ Touch [bx, br] WZ WB.drew from ⟨b1, b2, b3.drew⟩)
              rw [hWA] at PA
              rw [hWB] at PB
              have xf := fun o => rt_frozen XZ.out o
              have rf := fun o => rt_frozen RZ.out o
              have hxr1 : ¬ (bx = br) := HBX.out.2.2
              have hxr2 : ¬ (br = bx) := fun e => HBX.out.2.2 e.symm
              obtain ⟨x0, x1, -⟩ := two_cells XZ.out
              obtain ⟨r0, r1, r2, r3⟩ := rt_cells RZ.out
              clear hWA a1 a2 a3 hWB b1 b2 b3 WA WB
              go_cut [6] from 56 to 58 (fun v wc => v = .int .i64 3 ∧ Hid (wc.heap[bx]? = some (.cells #[(.int .u32 0), (.int .i64 0)] 47 (0, 0)) ∧ wc.heap[br]? = some (.cells #[(.int .u32 0), (.int .i64 0), (.int .u32 0), (.bool false)] 49 (0, 0)) ∧ Touch [bx, br] WZ wc))
              case first =>
                go_region_law (fail)
                all_goals (try go_wp2)
                all_goals go_meet
                all_goals first
                  | (with_reducible exact ⟨rfl, PA⟩)
                  | (with_reducible exact ⟨rfl, PB⟩)
              case rest =>
              obtain ⟨rfl, hfin⟩ := hcut
              have TF := Lib.hid (TWZ.out.trans hfin.out.2.2 (fun x hx => .inr (by have := HBX.out; simp at hx; rcases hx with h | h <;> rw [h] <;> omega)))
              clear x0 x1 r0 r1 r2 r3 xf rf hxr1 hxr2 z0 z1 z2 z3 hz1 hz2 hz3 hz4
              obtain ⟨x0, x1, -⟩ := two_cells hfin.out.1
              obtain ⟨r0, r1, r2, r3⟩ := rt_cells hfin.out.2.1
              go_wp2
              refine bodyPost_ret (v := .tuple #[.agg #[.int .u32 0, .int .i64 0], zeroRt, .int .i64 3]) (by simp [results, Tryz.results60, go_sem, x0, x1, r0, r1, r2, r3, zeroRt, rtV]) rfl ?_
              exact ⟨TF.out, .inl ⟨HR2.out, rfl⟩⟩
            · subst hv7
              have HR2 := Lib.hid (HR.out.trans hb7)
              have BB := Lib.hid (touch_box TW.out hbb (by simp))
              clear hb7
              obtain ⟨z0, z1, _, ⟨n3, n4, n5, n6⟩, _⟩ := node_cells BB.out
              dsimp only [oA, oN, oV, oL] at n3 n4 n5 n6
              have hlt7 := (Array.getElem?_eq_some_iff.1 hbb).1
              have hne7 : bb ≠ bx := by have := HBX.out; omega
              have hne8 := hne7.symm
              have hne9 : bb ≠ br := by have := HBX.out; omega
              have hneA := hne9.symm
              clear hlt7
              go_upto_region 11 with (fail)
              obtain ⟨⟨WA, hWA, a1, a2, a3⟩, ⟨WB, hWB, b1, b2, b3⟩⟩ := put_two XX.out RR.out HBX.out.2.2 (.int .u32 bq.a) (.int .i64 bq.n) (.int .u32 bq.a) (.int .i64 bq.n) (.int .u32 (rV bu)) (.bool (rL bu))
              have PA := Lib.hid (show WA.drew.heap[bx]? = some (.cells #[(.int .u32 bq.a), (.int .i64 bq.n)] 47 (0, 0)) ∧ WA.drew.heap[br]? = some (.cells #[(.int .u32 bq.a), (.int .i64 bq.n), (.int .u32 (rV bu)), (.bool (rL bu))] 49 (0, 0)) ∧ Touch [bx, br] WT WA.drew from ⟨a1, a2, a3.drew⟩)
              have PB := Lib.hid (show WB.drew.heap[bx]? = some (.cells #[(.int .u32 bq.a), (.int .i64 bq.n)] 47 (0, 0)) ∧ WB.drew.heap[br]? = some (.cells #[(.int .u32 bq.a), (.int .i64 bq.n), (.int .u32 (rV bu)), (.bool (rL bu))] 49 (0, 0)) ∧ Touch [bx, br] WT WB.drew from ⟨b1, b2, b3.drew⟩)
              rw [hWA] at PA
              rw [hWB] at PB
              have xf := fun o => rt_frozen XX.out o
              have rf := fun o => rt_frozen RR.out o
              have hxr1 : ¬ (bx = br) := HBX.out.2.2
              have hxr2 : ¬ (br = bx) := fun e => HBX.out.2.2 e.symm
              obtain ⟨x0, x1, -⟩ := two_cells XX.out
              obtain ⟨r0, r1, r2, r3⟩ := rt_cells RR.out
              clear hWA a1 a2 a3 hWB b1 b2 b3 WA WB
              go_cut [6] from 58 to 66 (fun v wc => v = .int .i64 0 ∧ Hid (wc.heap[bx]? = some (.cells #[(.int .u32 bq.a), (.int .i64 bq.n)] 47 (0, 0)) ∧ wc.heap[br]? = some (.cells #[(.int .u32 bq.a), (.int .i64 bq.n), (.int .u32 (rV bu)), (.bool (rL bu))] 49 (0, 0)) ∧ Touch [bx, br] WT wc))
              case first =>
                go_region_law (fail)
                all_goals (try go_wp2)
                all_goals go_meet
                all_goals first
                  | (with_reducible exact ⟨rfl, PA⟩)
                  | (with_reducible exact ⟨rfl, PB⟩)
              case rest =>
              obtain ⟨rfl, hfin⟩ := hcut
              have TF := Lib.hid (TWT.out.trans hfin.out.2.2 (fun x hx => .inr (by have := HBX.out; simp at hx; rcases hx with h | h <;> rw [h] <;> omega)))
              clear x0 x1 r0 r1 r2 r3 xf rf hxr1 hxr2 z0 z1 n3 n4 n5 n6 hne7 hne8 hne9 hneA
              obtain ⟨x0, x1, -⟩ := two_cells hfin.out.1
              obtain ⟨r0, r1, r2, r3⟩ := rt_cells hfin.out.2.1
              go_wp2
              refine bodyPost_ret (v := .tuple #[.agg #[.int .u32 bq.a, .int .i64 bq.n], rtV bq bu, .int .i64 0]) (by simp [results, Tryz.results60, go_sem, x0, x1, r0, r1, r2, r3, zeroRt, rtV]) rfl ?_
              exact ⟨TF.out, .inr ⟨bq, bu, HR2.out, rfl⟩⟩
          · have e2 : ((q.n : Int) == 32) = false := by rw [beq_eq_false_iff_ne]; omega
            have h31 : q.n ≤ 31 := by omega
            have hF2 : Hid (find t a none = if bitOf a q.n = 0 then find l a (pick q none bst) else find r a (pick q none bst)) := Lib.hid (by rw [hF1.out, if_neg h32])
            clear h32 hF1 hBs
            go_wp2
            have n1 := fun u : Near WT => u.cell q1
            have n4 := fun u : Near WT => u.cell q4
            have n5 := fun u : Near WT => u.cell q5
            clear q0 q1 q2 q3 q4 q5
            rcases bit_two a q.n with hb0 | hb0
            · have HC := Lib.hid (fun u : Near WT => bit_near u a q.n ha h31)
              have hF3 : Hid (find t a none = find l a (pick q none bst)) := Lib.hid (by rw [hF2.out, if_pos hb0])
              have hlk : tsize l < gk := by have := hk; simp only [tsize] at this; omega
              rw [hb0] at HC
              clear hF2 hb0 hk
              refine wp_region_near (by kernel_rfl) (by kernel_rfl) ?_
              repeat (go_big_quiet_step ((go_at_call 86; exact HC.out _)))
              refine wpQuiet_nil ?_
              rintro _ ⟨u3, rfl⟩
              have TY := Lib.hid (TX.out.trans u3.near (by simp))
              clear n1 n4 n5 HC
              obtain ⟨ax, hax⟩ := HLt.out.ptr
              subst hax
              go_wp2
              go_roundg (gk - 1)
              case rel => exact ⟨l, ax, Sl, _, rfl, HLt, O5, hBs2, hF3, TY, by omega⟩
              case measure => omega
            · have HC := Lib.hid (fun u : Near WT => bit_near u a q.n ha h31)
              have hF3 : Hid (find t a none = find r a (pick q none bst)) := Lib.hid (by rw [hF2.out, if_neg (by omega)])
              have hlk : tsize r < gk := by have := hk; simp only [tsize] at this; omega
              rw [hb0] at HC
              clear hF2 hb0 hk
              refine wp_region_near (by kernel_rfl) (by kernel_rfl) ?_
              repeat (go_big_quiet_step ((go_at_call 86; exact HC.out _)))
              refine wpQuiet_nil ?_
              rintro _ ⟨u3, rfl⟩
              have TY := Lib.hid (TX.out.trans u3.near (by simp))
              clear n1 n4 n5 HC
              obtain ⟨ax, hax⟩ := HRt.out.ptr
              subst hax
              go_wp2
              go_roundg (gk - 1)
              case rel => exact ⟨r, ax, Sr, _, rfl, HRt, O6, hBs2, hF3, TY, by omega⟩
              case measure => omega
      · have e1 : (((maskOf a q.n : Nat) : Int) == (q.a : Int)) = false := by rw [beq_eq_false_iff_ne]; intro e; exact hm (by omega)
        have HR : Hid (find t a none = bst) := Lib.hid (by
          rw [hF.out, find, if_neg]
          intro e
          exact hm (by rw [← O1.out.2.2, maskOf_eq]; exact e))
        clear hm hF hk
        go_wp2
        refine wp_region_near (by kernel_rfl) (by kernel_rfl) ?_
        repeat (go_big_quiet_step ((go_at_call 85; exact mask_near _ _ _ ha hqn)))
        refine wpQuiet_nil ?_
        rintro _ ⟨u2, rfl⟩
        have tu := u2.near
        obtain ⟨WT, hWT⟩ : ∃ X : World, X = u2.w := ⟨_, rfl⟩
        rw [← hWT] at tu ⊢
        clear hWT
        have TX := Lib.hid ((hTr.out.trans tu (by simp)))
        clear n0 n1 e1
        have XX := Lib.hid (touch_box TX.out X1.out (by simp))
        have RR := Lib.hid (touch_box TX.out R1.out (by simp))
        have TW := Lib.hid (T1.out.trans TX.out (by simp))
        have TWT := TW
        rcases hBs.out with ⟨hv7, hb7⟩ | ⟨bb, bq, bu, bpl, bpr, hv7, hb7, hbb⟩
        · subst hv7
          have HR2 := Lib.hid (HR.out.trans hb7)
          clear hb7
          go_upto_region 10 with (fail)
          obtain ⟨WZ, hWZ⟩ : ∃ X : World, X = WT.alloc (.cells #[.int .u32 0, .int .i64 0, .int .u32 0, .bool false] 49) := ⟨_, rfl⟩
          rw [← hWZ]
          have XZ := Lib.hid (show WZ.heap[bx]? = some (.cells #[.int .u32 0, .int .i64 0] 47 (0, 0)) by rw [hWZ]; exact box_keep _ XX.out)
          have RZ := Lib.hid (show WZ.heap[br]? = some (.cells #[.int .u32 0, .int .i64 0, .int .u32 0, .bool false] 49 (0, 0)) by rw [hWZ]; exact box_keep _ RR.out)
          have ZZ := Lib.hid (show WZ.heap[WT.heap.size]? = some (.cells #[.int .u32 0, .int .i64 0, .int .u32 0, .bool false] 49 (0, 0)) by rw [hWZ]; exact box_at _ _)
          have TWZ := Lib.hid (show Touch [] w WZ by rw [hWZ]; exact TW.out.alloc _)
          have hzz : bx ≠ WT.heap.size ∧ br ≠ WT.heap.size := by have h1 := (Array.getElem?_eq_some_iff.1 XX.out).1; have h2 := (Array.getElem?_eq_some_iff.1 RR.out).1; omega
          obtain ⟨hz1, hz2⟩ := hzz
          have hz3 := hz1.symm
          have hz4 := hz2.symm
          obtain ⟨z0, z1, z2, z3⟩ := rt_cells ZZ.out
          generalize WT.heap.size = zb at *
          clear hWZ
          obtain ⟨⟨WA, hWA, a1, a2, a3⟩, ⟨WB, hWB, b1, b2, b3⟩⟩ := put_two XZ.out RZ.out HBX.out.2.2 (.int .u32 0) (.int .i64 0) (.int .u32 0) (.int .i64 0) (.int .u32 0) (.bool false)
          have PA := Lib.hid (show WA.drew.heap[bx]? = some (.cells #[(.int .u32 0), (.int .i64 0)] 47 (0, 0)) ∧ WA.drew.heap[br]? = some (.cells #[(.int .u32 0), (.int .i64 0), (.int .u32 0), (.bool false)] 49 (0, 0)) ∧ Touch [bx, br] WZ WA.drew from ⟨a1, a2, a3.drew⟩)
          have PB := Lib.hid (show WB.drew.heap[bx]? = some (.cells #[(.int .u32 0), (.int .i64 0)] 47 (0, 0)) ∧ WB.drew.heap[br]? = some (.cells #[(.int .u32 0), (.int .i64 0), (.int .u32 0), (.bool false)] 49 (0, 0)) ∧ Touch [bx, br] WZ WB.drew from ⟨b1, b2, b3.drew⟩)
          rw [hWA] at PA
          rw [hWB] at PB
          have xf := fun o => rt_frozen XZ.out o
          have rf := fun o => rt_frozen RZ.out o
          have hxr1 : ¬ (bx = br) := HBX.out.2.2
          have hxr2 : ¬ (br = bx) := fun e => HBX.out.2.2 e.symm
          obtain ⟨x0, x1, -⟩ := two_cells XZ.out
          obtain ⟨r0, r1, r2, r3⟩ := rt_cells RZ.out
          clear hWA a1 a2 a3 hWB b1 b2 b3 WA WB
          go_cut [6] from 56 to 58 (fun v wc => v = .int .i64 3 ∧ Hid (wc.heap[bx]? = some (.cells #[(.int .u32 0), (.int .i64 0)] 47 (0, 0)) ∧ wc.heap[br]? = some (.cells #[(.int .u32 0), (.int .i64 0), (.int .u32 0), (.bool false)] 49 (0, 0)) ∧ Touch [bx, br] WZ wc))
          case first =>
            go_region_law (fail)
            all_goals (try go_wp2)
            all_goals go_meet
            all_goals first
              | (with_reducible exact ⟨rfl, PA⟩)
              | (with_reducible exact ⟨rfl, PB⟩)
          case rest =>
          obtain ⟨rfl, hfin⟩ := hcut
          have TF := Lib.hid (TWZ.out.trans hfin.out.2.2 (fun x hx => .inr (by have := HBX.out; simp at hx; rcases hx with h | h <;> rw [h] <;> omega)))
          clear x0 x1 r0 r1 r2 r3 xf rf hxr1 hxr2 z0 z1 z2 z3 hz1 hz2 hz3 hz4
          obtain ⟨x0, x1, -⟩ := two_cells hfin.out.1
          obtain ⟨r0, r1, r2, r3⟩ := rt_cells hfin.out.2.1
          go_wp2
          refine bodyPost_ret (v := .tuple #[.agg #[.int .u32 0, .int .i64 0], zeroRt, .int .i64 3]) (by simp [results, Tryz.results60, go_sem, x0, x1, r0, r1, r2, r3, zeroRt, rtV]) rfl ?_
          exact ⟨TF.out, .inl ⟨HR2.out, rfl⟩⟩
        · subst hv7
          have HR2 := Lib.hid (HR.out.trans hb7)
          have BB := Lib.hid (touch_box TW.out hbb (by simp))
          clear hb7
          obtain ⟨z0, z1, _, ⟨n3, n4, n5, n6⟩, _⟩ := node_cells BB.out
          dsimp only [oA, oN, oV, oL] at n3 n4 n5 n6
          have hlt7 := (Array.getElem?_eq_some_iff.1 hbb).1
          have hne7 : bb ≠ bx := by have := HBX.out; omega
          have hne8 := hne7.symm
          have hne9 : bb ≠ br := by have := HBX.out; omega
          have hneA := hne9.symm
          clear hlt7
          go_upto_region 11 with (fail)
          obtain ⟨⟨WA, hWA, a1, a2, a3⟩, ⟨WB, hWB, b1, b2, b3⟩⟩ := put_two XX.out RR.out HBX.out.2.2 (.int .u32 bq.a) (.int .i64 bq.n) (.int .u32 bq.a) (.int .i64 bq.n) (.int .u32 (rV bu)) (.bool (rL bu))
          have PA := Lib.hid (show WA.drew.heap[bx]? = some (.cells #[(.int .u32 bq.a), (.int .i64 bq.n)] 47 (0, 0)) ∧ WA.drew.heap[br]? = some (.cells #[(.int .u32 bq.a), (.int .i64 bq.n), (.int .u32 (rV bu)), (.bool (rL bu))] 49 (0, 0)) ∧ Touch [bx, br] WT WA.drew from ⟨a1, a2, a3.drew⟩)
          have PB := Lib.hid (show WB.drew.heap[bx]? = some (.cells #[(.int .u32 bq.a), (.int .i64 bq.n)] 47 (0, 0)) ∧ WB.drew.heap[br]? = some (.cells #[(.int .u32 bq.a), (.int .i64 bq.n), (.int .u32 (rV bu)), (.bool (rL bu))] 49 (0, 0)) ∧ Touch [bx, br] WT WB.drew from ⟨b1, b2, b3.drew⟩)
          rw [hWA] at PA
          rw [hWB] at PB
          have xf := fun o => rt_frozen XX.out o
          have rf := fun o => rt_frozen RR.out o
          have hxr1 : ¬ (bx = br) := HBX.out.2.2
          have hxr2 : ¬ (br = bx) := fun e => HBX.out.2.2 e.symm
          obtain ⟨x0, x1, -⟩ := two_cells XX.out
          obtain ⟨r0, r1, r2, r3⟩ := rt_cells RR.out
          clear hWA a1 a2 a3 hWB b1 b2 b3 WA WB
          go_cut [6] from 58 to 66 (fun v wc => v = .int .i64 0 ∧ Hid (wc.heap[bx]? = some (.cells #[(.int .u32 bq.a), (.int .i64 bq.n)] 47 (0, 0)) ∧ wc.heap[br]? = some (.cells #[(.int .u32 bq.a), (.int .i64 bq.n), (.int .u32 (rV bu)), (.bool (rL bu))] 49 (0, 0)) ∧ Touch [bx, br] WT wc))
          case first =>
            go_region_law (fail)
            all_goals (try go_wp2)
            all_goals go_meet
            all_goals first
              | (with_reducible exact ⟨rfl, PA⟩)
              | (with_reducible exact ⟨rfl, PB⟩)
          case rest =>
          obtain ⟨rfl, hfin⟩ := hcut
          have TF := Lib.hid (TWT.out.trans hfin.out.2.2 (fun x hx => .inr (by have := HBX.out; simp at hx; rcases hx with h | h <;> rw [h] <;> omega)))
          clear x0 x1 r0 r1 r2 r3 xf rf hxr1 hxr2 z0 z1 n3 n4 n5 n6 hne7 hne8 hne9 hneA
          obtain ⟨x0, x1, -⟩ := two_cells hfin.out.1
          obtain ⟨r0, r1, r2, r3⟩ := rt_cells hfin.out.2.1
          go_wp2
          refine bodyPost_ret (v := .tuple #[.agg #[.int .u32 bq.a, .int .i64 bq.n], rtV bq bu, .int .i64 0]) (by simp [results, Tryz.results60, go_sem, x0, x1, r0, r1, r2, r3, zeroRt, rtV]) rfl ?_
          exact ⟨TF.out, .inr ⟨bq, bu, HR2.out, rfl⟩⟩
end Go.Proofs.YtnpeafhjcelpfaaGreat.Tri
