/- Resolve; no condition. -/
import Derived.Test.YtnpeafhjcelpfaaGreatY0
import Derived.Test.YtnpeafhjcelpfaaGreatLI

namespace Go.Proofs.YtnpeafhjcelpfaaGreat.Tri
open Go.RowKit Go.Maps
set_option linter.unusedVariables false
set_option linter.unusedSimpArgs false
set_option maxRecDepth 100000

def m60 : M6 := ⟨0, 0, 0, 0, 0, 0⟩
def hopC (l : Bool) (a m v : Int) (y : M6) (u : Int) : Array Value := #[.bool l, .int .u32 a, .int .i64 m, .int .u32 v, .int .u8 y.m0, .int .u8 y.m1, .int .u8 y.m2, .int .u8 y.m3, .int .u8 y.m4, .int .u8 y.m5, .int .u32 u]
def hop0 : Array Value := hopC false 0 0 0 m60 0
/-- What f1 and f2 hold, as neighbours and entries. -/
structure Well (s : KSt) (nm : Int → Option M6) (em : M6 → Option Int) : Prop where
  h1 : ∀ x, s.f1 (.int .u32 x) = (nm x).map fun y => .agg (neiC x y)
  h2 : ∀ m, s.f2 (macV m) = (em m).map fun u => .agg (fdbC m u)
  w1 : ∀ x y, nm x = some y → 0 ≤ x ∧ x < 4294967296 ∧ y.wf
  w2 : ∀ m u, em m = some u → m.wf ∧ 0 ≤ u ∧ u < 4294967296
  wt : ∀ e ∈ ents s.t, 0 ≤ e.2 ∧ e.2 < 8589934592
def resV (x : Option Ent) (nm : Int → Option M6) (em : M6 → Option Int) : Array Value × Int := match x with
  | none => (hop0, 90)
  | some (p, v) => if rL v then (hopC true p.a p.n 0 m60 0, 0) else match nm (rV v) with
    | none => (hop0, 91)
    | some y => match em y with
      | none => (hop0, 92)
      | some u => (hopC false p.a p.n (rV v) y u, 0)
theorem results_ct {fn : Func} {u p : Tmp} {ty : TypeId} (h : fn.results = #[.cell p ty, .tmp u]) (tmps : Array Value) (w : World) (g : Nat) (t : TypeId) (cs : Array Value) (fr : Nat × Nat) (d : TypeDesc)
    (hp : tmps.getD p undef = .pointer (some ⟨g, 0, none⟩)) (hg : w.heap[g]? = some (.cells cs t fr))
    (hd : (match d with | .struct _ | .array _ _ => true | _ => false) = true) (hu : Tryz.prog.underlying ty = some d) (hi : (Tryz.prog.info? ty).map (·.size) = some cs.size) :
    (results fn tmps).run Tryz.prog w = .ok (.tuple #[.agg cs, tmps.getD u undef]) w := by
  have hp' : tmps[p]?.getD undef = .pointer (some ⟨g, 0, none⟩) := by simpa using hp
  simp [results, h, hp', asAddr, run_loadVar_row w g t ty cs fr d hg hu (by revert hd; cases d <;> exact id) hi]
theorem fun26 : Tryz.f26.results = #[.cell 4 71, .tmp 5] := by kernel_rfl
theorem infoH : (Tryz.prog.info? 71).map (·.size) = some 11 := by kernel_rfl
theorem one_hop (l : Bool) (a m v : Int) (y : M6) (u : Int) : (hopC l a m v y u).all (·.oneCell') = true := by
  simp [hopC, Value.oneCell']
theorem Touch.rowed {w w' : World} (t : Touch [] w w') {b : Nat} (hb : w.heap.size ≤ b) (cs : Array Value) : Touch [] w (w'.setRow b cs) :=
  ⟨t.os, t.tape, t.output, by rw [size_setRow]; exact t.size, fun k hk hn => by rw [setRow_other _ _ _ _ (by omega)]; exact t.block k hk hn⟩
set_option maxHeartbeats 4000000 in
theorem resolve_calls {w : World} {kb tb b1 m1 b2 m2 : Nat} {S : List Nat} {l0 l1 l2 : Int} {s : KSt} {nm : Int → Option M6} {em : M6 → Option Int} (h : KerAt w kb tb b1 m1 b2 m2 S l0 l1 l2 s) (hw : Well s nm em) (a : Nat) (ha : a < 4294967296) :
    Calls Tryz.prog 26 #[.pointer (some ⟨kb, 0, none⟩), .int .u32 a] w (fun e w' => e = .returned (.tuple #[.agg (resV (find s.t a none) nm em).1, .int .i64 (resV (find s.t a none) nm em).2]) ∧ Touch [] w w') := by
  have H := Lib.hid h
  have HW := Lib.hid hw
  obtain ⟨HP, hHP⟩ : ∃ W : World, W = w.alloc (.cells (hopC false 0 0 0 m60 0) 71) := ⟨_, rfl⟩
  have T0 : Hid (Touch [] w HP) := Lib.hid (by rw [hHP]; exact (Touch.refl [] w).alloc _)
  obtain ⟨hb, hhb⟩ : ∃ n, n = w.heap.size := ⟨_, rfl⟩
  have X0 : Hid (HP.heap[hb]? = some (.cells (hopC false 0 0 0 m60 0) 71 (0, 0))) := Lib.hid (by rw [hHP, hhb]; exact box_at _ _)
  have H0 := Lib.hid (h.kept T0.out (by simp))
  have hHP' := Lib.hid hHP
  have hhb' := Lib.hid hhb
  have HBK := Lib.hid H0.out.blk
  obtain ⟨c0, c1, c2, c3, c4, c5⟩ := six_cells HBK.out
  obtain ⟨x, hx⟩ : ∃ x, x = find s.t a none := ⟨_, rfl⟩
  have HX := Lib.hid hx
  rw [← hx]
  clear h hw hHP hhb hx
  go_enter Tryz.func26, Tryz.ntmps26
  go_upto_region 1 with (fail)
  have hHP := hHP'.out
  simp only [hopC, m60] at hHP
  have hhb := hhb'.out
  rw [← hHP, ← hhb]
  clear hHP hhb
  go_wp2_with fail
  refine (find_calls H0.out.tri a ha).mono ?_
  rintro e w1 ⟨ht, hr⟩
  have T1 := Lib.hid ht
  have X1 := Lib.hid (touch_box ht X0.out (by simp))
  have H1 := Lib.hid (H0.out.kept ht (by simp))
  have TT1 := Lib.hid (T0.out.trans ht (by simp))
  clear ht c0 c1 c2 c3 c4 c5
  rw [← HX.out] at hr
  rcases hr with ⟨rfl, rfl⟩ | ⟨q, v, rfl, rfl⟩
  · unfold zeroRt
    go_upto_region 2 with (fail)
    obtain ⟨W2, hW2⟩ : ∃ W : World, W = (w1.alloc (.cells #[.int .u32 0, .int .i64 0] 47)).alloc (.cells #[.int .u32 0, .int .i64 0, .int .u32 0, .bool false] 49) := ⟨_, rfl⟩
    rw [← hW2]
    have t2 : Touch [] w1 W2 := by rw [hW2]; exact ((Touch.refl [] w1).alloc _).alloc _
    have X2 := Lib.hid (touch_box t2 X1.out (by simp))
    have TT2 := Lib.hid (TT1.out.trans t2 (by simp))
    have HS2 : Hid (w.heap.size ≤ hb) := Lib.hid (by rw [hhb'.out]; omega)
    clear hW2 t2
    go_wp2_with (refine wpList_store_row (by rfl) 71 (.tmp 4) (.tmp 25) (by rfl) hb hop0 (by rfl) (by rfl) 71 _ X2.out infoH (by rfl) (one_hop _ _ _ _ _ _) ?_)
    refine bodyPost_ret (results_ct fun26 _ _ hb 71 hop0 (0, 0) _ rfl (setRow_heap _ _ _ _ _ _ X2.out) rfl Tryz.underlying71 (by kernel_rfl)) rfl ?_
    exact ⟨rfl, TT2.out.rowed HS2.out _⟩
  · have hmem : (q, v) ∈ ents s.t := ((find_longest H.out.tri.ok).some_ _ HX.out.symm).1
    have hv := HW.out.wt _ hmem
    dsimp only at hv
    have HV := Lib.hid (show 0 ≤ rV v ∧ rV v < 4294967296 by unfold rV; omega)
    clear hmem hv
    unfold rtV
    go_upto_region 2 with (fail)
    obtain ⟨W2, hW2⟩ : ∃ W : World, W = (w1.alloc (.cells #[.int .u32 q.a, .int .i64 q.n] 47)).alloc (.cells #[.int .u32 q.a, .int .i64 q.n, .int .u32 (rV v), .bool (rL v)] 49) := ⟨_, rfl⟩
    rw [← hW2]
    have t2 : Touch [] w1 W2 := by rw [hW2]; exact ((Touch.refl [] w1).alloc _).alloc _
    have X2 := Lib.hid (touch_box t2 X1.out (by simp))
    have TT2 := Lib.hid (TT1.out.trans t2 (by simp))
    have HS2 : Hid (w.heap.size ≤ hb) := Lib.hid (by rw [hhb'.out]; omega)
    obtain ⟨r2, hr2⟩ : ∃ r2, r2 = w1.heap.size + 1 := ⟨_, rfl⟩
    have R2 : Hid (W2.heap[r2]? = some (.cells #[.int .u32 q.a, .int .i64 q.n, .int .u32 (rV v), .bool (rL v)] 49 (0, 0))) := Lib.hid (by rw [hW2]; exact box_at' _ _ _ (by rw [hr2]; simp))
    have H2 := Lib.hid (H1.out.kept t2 (by simp))
    rw [← hr2]
    clear hW2 t2 hr2
    obtain ⟨q0, q1, q2, q3⟩ := rt_cells R2.out
    cases hl : rL v with
    | true =>
      rw [hl] at q3
      have HL := Lib.hid hl
      clear hl
      go_wp2_with (refine wpList_store_row (by rfl) 71 (.tmp 4) (.tmp 30) (by rfl) hb (hopC true q.a q.n 0 m60 0) (by rfl) (by rfl) 71 _ X2.out infoH (by rfl) (one_hop _ _ _ _ _ _) ?_)
      refine bodyPost_ret (results_ct fun26 _ _ hb 71 (hopC true q.a q.n 0 m60 0) (0, 0) _ rfl (setRow_heap _ _ _ _ _ _ X2.out) rfl Tryz.underlying71 (by kernel_rfl)) rfl ?_
      exact ⟨by simp only [resV, HL.out]; rfl, TT2.out.rowed HS2.out _⟩
    | false =>
      rw [hl] at q3
      have HL := Lib.hid hl
      clear hl q0 q1
      have KB2 := Lib.hid H2.out.blk
      obtain ⟨c0, c1, c2, c3, c4, c5⟩ := six_cells KB2.out
      obtain ⟨g0, _⟩ := two_cells H2.out.fl1.blk
      have hk := keyAddr HV.out.1 HV.out.2
      have hl0 := fun (W : World) (t : Touch [] W2 W) => ((H2.out.fl1.kept t (by simp) (by simp)).map.look lawAddr Tryz.underlying119 (z1 _) hk).1
      have hl1 := hl0 W2.drew (Touch.refl [] W2).drew
      have hl2 := fun ob => hl0 (W2.drew.alloc ob) ((Touch.refl [] W2).drew.alloc ob)
      have hl3 := fun ob => hl0 ((W2.alloc ob).drew) ((Touch.refl [] W2).alloc ob).drew
      have ca4 := fun ob => (six_cells (box_keep ob KB2.out)).2.2.2.2.1
      have ga0 := fun ob => (two_cells (box_keep ob H2.out.fl1.blk)).1
      have qa2 := fun ob => (rt_cells (box_keep ob R2.out)).2.2.1
      clear hl0 hk c0 c1 c2 c3 c5
      rw [HW.out.h1 (rV v)] at hl1 hl2 hl3
      cases hy : nm (rV v) with
      | none =>
        rw [hy] at hl1 hl2 hl3
        simp only [Option.map_none, Option.getD_none, Option.isSome_none, neiC] at hl1 hl2 hl3
        have HY := Lib.hid hy
        clear hy
        go_upto_region 6 with (fail)
        go_cut [10] (fun v10 wc => v10 = .bool false ∧ Hid (Touch [] W2 wc))
        case first =>
          go_region
          all_goals
            clear hl1 hl2 hl3 ca4 ga0 qa2 c4 g0 q2 q3
            go_wp2
            go_meet
            case rel =>
              refine ⟨rfl, Lib.hid ?_⟩
              repeat (first | with_reducible exact Touch.refl [] W2 | with_reducible refine Touch.drew ?_ | with_reducible refine Touch.alloc ?_ _ | (with_reducible refine Touch.setCell ?_ _ _ (.inr (by simp only [sz_drew]; omega))))
        case rest =>
          obtain ⟨rfl, hT⟩ := hcut
          clear hl1 hl2 hl3 ca4 ga0 qa2 c4 g0 q2 q3
          have X3 := Lib.hid (touch_box hT.out X2.out (by simp))
          go_wp2_with (refine wpList_store_row (by rfl) 71 (.tmp 4) (.tmp 46) (by rfl) hb hop0 (by rfl) (by rfl) 71 _ X3.out infoH (by rfl) (one_hop _ _ _ _ _ _) ?_)
          refine bodyPost_ret (results_ct fun26 _ _ hb 71 hop0 (0, 0) _ rfl (setRow_heap _ _ _ _ _ _ X3.out) rfl Tryz.underlying71 (by kernel_rfl)) rfl ?_
          exact ⟨by simp only [resV, HL.out, HY.out]; rfl, (TT2.out.trans hT.out (by simp)).rowed HS2.out _⟩
      | some y =>
        rw [hy] at hl1 hl2 hl3
        simp only [Option.map_some, Option.getD_some, Option.isSome_some, neiC] at hl1 hl2 hl3
        have HY := Lib.hid hy
        clear hy
        go_upto_region 6 with (fail)
        go_cut [9, 10] (fun v9 v10 wc => ∃ r9, v9 = .pointer (some ⟨r9, 0, none⟩) ∧ v10 = .bool true ∧ Hid (wc.heap[r9]? = some (.cells (neiC (rV v) y) 53 (0, 0))) ∧ Hid (Touch [] W2 wc))
        case first =>
          go_region
          all_goals
            clear hl1 hl2 hl3 ca4 ga0 qa2 c4 g0 q2 q3
            go_wp2
            go_meet
            case rel =>
              unfold neiC
              refine ⟨_, rfl, rfl, Lib.hid ?_, Lib.hid ?_⟩
              · repeat (first | with_reducible exact at2' (by simp; done) | with_reducible refine set7v (c0 := .int .u32 0) (c1 := .int .u8 0) (c2 := .int .u8 0) (c3 := .int .u8 0) (c4 := .int .u8 0) (c5 := .int .u8 0) (c6 := .int .u8 0) ?_ _ _ _ _ _ _ _ | with_reducible refine drew_keep ?_ | with_reducible refine box_keep _ ?_)
              · repeat (first | with_reducible exact Touch.refl [] W2 | with_reducible refine Touch.drew ?_ | with_reducible refine Touch.alloc ?_ _ | (with_reducible refine Touch.setCell ?_ _ _ (.inr (by simp only [sz_drew]; omega))))
        case rest =>
          obtain ⟨r9, rfl, rfl, hr9, hT⟩ := hcut
          clear hl1 hl2 hl3 ca4 ga0 qa2 c4 g0 q2 q3
          have X3 := Lib.hid (touch_box hT.out X2.out (by simp))
          have R3 := Lib.hid (touch_box hT.out R2.out (by simp))
          have H3 := Lib.hid (H2.out.kept hT.out (by simp))
          have TT3 := Lib.hid (TT2.out.trans hT.out (by simp))
          clear hT
          have Y9 := Lib.hid (show wc.heap[r9]? = some (.cells #[.int .u32 (rV v), .int .u8 y.m0, .int .u8 y.m1, .int .u8 y.m2, .int .u8 y.m3, .int .u8 y.m4, .int .u8 y.m5] 53 (0, 0)) from hr9.out)
          clear hr9
          have KB3 := Lib.hid H3.out.blk
          obtain ⟨c0, c1, c2, c3, c4, c5⟩ := six_cells KB3.out
          obtain ⟨g0, _⟩ := two_cells H3.out.fl2.blk
          obtain ⟨n0, n1, n2, n3, n4, n5, n6⟩ := seven_cells Y9.out
          obtain ⟨kl, hk⟩ := mac_some (HW.out.w1 _ _ HY.out).2.2
          have hl0 := fun (W : World) (t : Touch [] wc W) => ((H3.out.fl2.kept t (by simp) (by simp)).map.look lawMac Tryz.underlying124 (z2 _) hk).1
          have hl1 := hl0 wc.drew (Touch.refl [] wc).drew
          have hl2 := fun ob => hl0 (wc.drew.alloc ob) ((Touch.refl [] wc).drew.alloc ob)
          have hl3 := fun ob => hl0 ((wc.alloc ob).drew) ((Touch.refl [] wc).alloc ob).drew
          have ca5 := fun ob => (six_cells (box_keep ob KB3.out)).2.2.2.2.2
          have ga0 := fun ob => (two_cells (box_keep ob H3.out.fl2.blk)).1
          have na1 := fun ob => (seven_cells (box_keep ob Y9.out)).2.1
          have na2 := fun ob => (seven_cells (box_keep ob Y9.out)).2.2.1
          have na3 := fun ob => (seven_cells (box_keep ob Y9.out)).2.2.2.1
          have na4 := fun ob => (seven_cells (box_keep ob Y9.out)).2.2.2.2.1
          have na5 := fun ob => (seven_cells (box_keep ob Y9.out)).2.2.2.2.2.1
          have na6 := fun ob => (seven_cells (box_keep ob Y9.out)).2.2.2.2.2.2
          clear hl0 hk c0 c1 c2 c3 c4 n0
          rw [HW.out.h2 y] at hl1 hl2 hl3
          unfold macV at hl1 hl2 hl3
          cases hu : em y with
          | none =>
            rw [hu] at hl1 hl2 hl3
            simp only [Option.map_none, Option.getD_none, Option.isSome_none, fdbC] at hl1 hl2 hl3
            have HU := Lib.hid hu
            clear hu
            go_upto_region 9 with (fail)
            go_cut [10] (fun v10 wd => v10 = .bool false ∧ Hid (Touch [] wc wd))
            case first =>
              go_region
              all_goals
                clear hl1 hl2 hl3 ca5 ga0 c5 g0 n1 n2 n3 n4 n5 n6 na1 na2 na3 na4 na5 na6
                go_wp2
                go_meet
                case rel =>
                  refine ⟨rfl, Lib.hid ?_⟩
                  repeat (first | with_reducible exact Touch.refl [] wc | with_reducible refine Touch.drew ?_ | with_reducible refine Touch.alloc ?_ _ | (with_reducible refine Touch.setCell ?_ _ _ (.inr (by simp only [sz_drew]; omega))))
            case rest =>
              obtain ⟨rfl, hT⟩ := hcut
              clear hl1 hl2 hl3 ca5 ga0 c5 g0 n1 n2 n3 n4 n5 n6 na1 na2 na3 na4 na5 na6
              have X4 := Lib.hid (touch_box hT.out X3.out (by simp))
              go_wp2_with (refine wpList_store_row (by rfl) 71 (.tmp 4) (.tmp 62) (by rfl) hb hop0 (by rfl) (by rfl) 71 _ X4.out infoH (by rfl) (one_hop _ _ _ _ _ _) ?_)
              refine bodyPost_ret (results_ct fun26 _ _ hb 71 hop0 (0, 0) _ rfl (setRow_heap _ _ _ _ _ _ X4.out) rfl Tryz.underlying71 (by kernel_rfl)) rfl ?_
              exact ⟨by simp only [resV, HL.out, HY.out, HU.out]; rfl, (TT3.out.trans hT.out (by simp)).rowed HS2.out _⟩
          | some u =>
            rw [hu] at hl1 hl2 hl3
            simp only [Option.map_some, Option.getD_some, Option.isSome_some, fdbC] at hl1 hl2 hl3
            have HU := Lib.hid hu
            clear hu
            go_upto_region 9 with (fail)
            go_cut [11, 10] (fun v11 v10 wd => ∃ r11, v11 = .pointer (some ⟨r11, 0, none⟩) ∧ v10 = .bool true ∧ Hid (wd.heap[r11]? = some (.cells (fdbC y u) 55 (0, 0))) ∧ Hid (Touch [] wc wd))
            case first =>
              go_region
              all_goals
                clear hl1 hl2 hl3 ca5 ga0 c5 g0 n1 n2 n3 n4 n5 n6 na1 na2 na3 na4 na5 na6
                go_wp2
                go_meet
                case rel =>
                  unfold fdbC
                  refine ⟨_, rfl, rfl, Lib.hid ?_, Lib.hid ?_⟩
                  · repeat (first | with_reducible exact at2' (by simp; done) | with_reducible refine set7v (c0 := .int .u8 0) (c1 := .int .u8 0) (c2 := .int .u8 0) (c3 := .int .u8 0) (c4 := .int .u8 0) (c5 := .int .u8 0) (c6 := .int .u32 0) ?_ _ _ _ _ _ _ _ | with_reducible refine drew_keep ?_ | with_reducible refine box_keep _ ?_)
                  · repeat (first | with_reducible exact Touch.refl [] wc | with_reducible refine Touch.drew ?_ | with_reducible refine Touch.alloc ?_ _ | (with_reducible refine Touch.setCell ?_ _ _ (.inr (by simp only [sz_drew]; omega))))
            case rest =>
              obtain ⟨r11, rfl, rfl, hr11, hT⟩ := hcut
              clear hl1 hl2 hl3 ca5 ga0 c5 g0 n1 n2 n3 n4 n5 n6 na1 na2 na3 na4 na5 na6
              have X4 := Lib.hid (touch_box hT.out X3.out (by simp))
              obtain ⟨q0, q1, q2, q3⟩ := rt_cells (touch_box hT.out R3.out (by simp))
              obtain ⟨n0, n1, n2, n3, n4, n5, n6⟩ := seven_cells (touch_box hT.out Y9.out (by simp))
              obtain ⟨u0, u1, u2, u3, u4, u5, u6⟩ := seven_cells (show (_ : World).heap[r11]? = some (.cells #[.int .u8 y.m0, .int .u8 y.m1, .int .u8 y.m2, .int .u8 y.m3, .int .u8 y.m4, .int .u8 y.m5, .int .u32 u] 55 (0, 0)) from hr11.out)
              clear hr11
              go_wp2_with (refine wpList_store_row (by rfl) 71 (.tmp 4) (.tmp 71) (by rfl) hb (hopC false q.a q.n (rV v) y u) (by rfl) (by rfl) 71 _ X4.out infoH (by rfl) (one_hop _ _ _ _ _ _) ?_)
              refine bodyPost_ret (results_ct fun26 _ _ hb 71 (hopC false q.a q.n (rV v) y u) (0, 0) _ rfl (setRow_heap _ _ _ _ _ _ X4.out) rfl Tryz.underlying71 (by kernel_rfl)) rfl ?_
              exact ⟨by simp only [resV, HL.out, HY.out, HU.out]; rfl, (TT3.out.trans hT.out (by simp)).rowed HS2.out _⟩
end Go.Proofs.YtnpeafhjcelpfaaGreat.Tri

