/- hang: a node is set between (to the left); no condition. -/
import Derived.Test.YtnpeafhjcelpfaaGreatKC
import Derived.Deep.DeepCutAuto
namespace Go.Proofs.YtnpeafhjcelpfaaGreat.Tri
open Go.RowKit Go.Maps
set_option linter.unusedVariables false

set_option maxHeartbeats 4000000 in
set_option maxRecDepth 100000 in
theorem hang_split_a (q : Px) (u : Option Int) (l r : T) (b : Nat) (pl pr : Value) (S : List Nat) (w : World) (p : Px) (v : Int) (hb : w.heap[b]? = some (.cells (nodeC q u pl pr) 155 (0, 0))) (hT : Tr w (.node q u l r) (.pointer (some ⟨b, 0, none⟩)) S)
    (hp : p.ok) (e : q ≠ p) (hi : ¬ ins p q) (hq : q.ok) (hbit : bitOf q.a (common p q).n = 0) :
    Calls Tryz.prog 158 #[.pointer (some ⟨b, 0, none⟩), .agg #[.int .u32 p.a, .int .i64 p.n], .agg #[.int .u32 p.a, .int .i64 p.n, .int .u32 (rV v), .bool (rL v)]] w (HangPost w (.node q u l r) S p v) := by
  have hg := guard32
  have hne := fun w => px_eql q.a q.n p.a p.n false (px_bne e) w
  have hc := common_is hp hq hi
  have hmask : Hid (q.n ≤ p.n → maskOf p.a q.n ≠ q.a) := Lib.hid (fun hle h => hi ⟨hle, by rw [← h, top_mask]⟩)
  have hpa := hp.2.1
  have hp32 := hp.1
  have hqa := hq.2.1
  have hqn := hq.1
  have HC := Lib.hid (fun w => common_calls p q w hp hq)
  have hc31 : (common p q).n ≤ 31 := by
    have h4 := hc.inq.1
    have h5 := hc.inp.1
    by_cases h6 : common p q = p
    · have := side_of hc.inq (fun e' => e (e'.trans h6)) hq hc.ok
      have := this.1; omega
    · have := (hc.side h6).1.1; omega
  have hca := hc.ok.2.1
  have HE := Lib.hid e
  have HI := Lib.hid hi
  have HB := Lib.hid hb
  have HT := Lib.hid hT
  have HBIT := Lib.hid hbit
  have HCI := Lib.hid hc
  clear hb hT e hi hc hbit hp hq
  obtain ⟨c, hcc⟩ : ∃ c, c = common p q := ⟨_, rfl⟩
  have HCC := Lib.hid hcc
  rw [← hcc] at HC HCI HBIT hc31 hca
  clear hcc
  go_enter Tryz.func158, Tryz.ntmps158
  go_wp2
  obtain ⟨W1, hW1⟩ : ∃ W1 : World, W1 = (w.alloc (.cells #[.int .u32 p.a, .int .i64 p.n] 47)).alloc (.cells #[.int .u32 p.a, .int .i64 p.n, .int .u32 (rV v), .bool (rL v)] 49) := ⟨_, rfl⟩
  rw [← hW1]
  have X1 := Lib.hid (show W1.heap[w.heap.size]? = some (.cells #[.int .u32 p.a, .int .i64 p.n] 47 (0, 0)) by rw [hW1]; exact box_keep _ (box_at w _))
  have Z1 := Lib.hid (show W1.heap[w.heap.size + 1]? = some (.cells #[.int .u32 p.a, .int .i64 p.n, .int .u32 (rV v), .bool (rL v)] 49 (0, 0)) by rw [hW1]; exact box_at' _ _ _ (by simp))
  have T1 := Lib.hid (show Touch [] w W1 by rw [hW1]; exact ((Touch.refl [] w).alloc _).alloc _)
  have B1 := Lib.hid (touch_box T1.out HB.out (by simp))
  clear hW1
  obtain ⟨c0, c1, _⟩ := node_cells B1.out
  have n0 := fun u : Near W1 => u.cell c0
  have n1 := fun u : Near W1 => u.cell c1
  obtain ⟨d0, d1, _⟩ := two_cells X1.out
  have m0 := fun u : Near W1 => u.cell d0
  have m1 := fun u : Near W1 => u.cell d1
  clear c0 c1 d0 d1
  go_wp2
  refine wp_region_near (by kernel_rfl) (by kernel_rfl) ?_
  repeat (go_big_quiet_step (fail))
  refine wpQuiet_nil ?_
  rintro _ ⟨u2, rfl⟩
  have X2 := Lib.hid (touch_box u2.near X1.out (by simp))
  have Z2 := Lib.hid (touch_box u2.near Z1.out (by simp))
  have B2 := Lib.hid (touch_box u2.near B1.out (by simp))
  have T2 := Lib.hid (T1.out.trans u2.near (by simp))
  clear n0 n1 m0 m1
  obtain ⟨W2, hW⟩ : ∃ W2 : World, W2 = u2.w := ⟨_, rfl⟩
  rw [← hW] at X2 Z2 B2 T2 ⊢
  clear hW u2 X1 Z1 B1 T1
  obtain ⟨c0, c1, _⟩ := node_cells B2.out
  have n0 := fun u : Near W2 => u.cell c0
  have n1 := fun u : Near W2 => u.cell c1
  obtain ⟨d0, d1, _⟩ := two_cells X2.out
  have m0 := fun u : Near W2 => u.cell d0
  have m1 := fun u : Near W2 => u.cell d1
  clear c0 c1 d0 d1
  go_wp2
  refine wp_region_near (by kernel_rfl) (by kernel_rfl) ?_
  repeat (go_big_quiet_step ((go_at_call 122; exact near_call _ (inside_no _ _ _ _ _ hpa hqn hp32 hmask.out))))
  refine wpQuiet_nil ?_
  rintro _ ⟨u2, rfl⟩
  have X3 := Lib.hid (touch_box u2.near X2.out (by simp))
  have Z3 := Lib.hid (touch_box u2.near Z2.out (by simp))
  have B3 := Lib.hid (touch_box u2.near B2.out (by simp))
  have T3 := Lib.hid (T2.out.trans u2.near (by simp))
  clear n0 n1 m0 m1
  obtain ⟨W3, hW⟩ : ∃ W3 : World, W3 = u2.w := ⟨_, rfl⟩
  rw [← hW] at X3 Z3 B3 T3 ⊢
  clear hW u2 X2 Z2 B2 T2
  clear hne
  obtain ⟨c0, c1, _⟩ := node_cells B3.out
  obtain ⟨d0, d1, _⟩ := two_cells X3.out
  go_wp2
  go_still_tail 5, (by kernel_rfl)
  change wpList _ _ _ _ _ (World.drew W3)
  go_wp2_with fail
  refine (HC.out _).mono ?_
  rintro e' w5 ⟨rfl, t5⟩
  have X5 := Lib.hid (touch_box t5 (touch_box (Touch.refl [] W3).drew X3.out (by simp)) (by simp))
  have Z5 := Lib.hid (touch_box t5 (touch_box (Touch.refl [] W3).drew Z3.out (by simp)) (by simp))
  have B5 := Lib.hid (touch_box t5 (touch_box (Touch.refl [] W3).drew B3.out (by simp)) (by simp))
  have T5 := Lib.hid ((T3.out.trans (Touch.refl [] W3).drew (by simp)).trans t5 (by simp))
  clear c0 c1 d0 d1 t5
  go_wp2_with fail
  obtain ⟨W6, hW6⟩ : ∃ W6 : World, W6 = w5.alloc (.cells (nodeC c none (.pointer none) (.pointer none)) 155) := ⟨_, rfl⟩
  have hU6 : W6.heap[w5.heap.size]? = some (.cells (nodeC c none (.pointer none) (.pointer none)) 155 (0, 0)) := by rw [hW6]; exact box_at w5 _
  have X6 := Lib.hid (show W6.heap[w.heap.size]? = some (.cells #[.int .u32 p.a, .int .i64 p.n] 47 (0, 0)) by rw [hW6]; exact box_keep _ X5.out)
  have Z6 := Lib.hid (show W6.heap[w.heap.size + 1]? = some (.cells #[.int .u32 p.a, .int .i64 p.n, .int .u32 (rV v), .bool (rL v)] 49 (0, 0)) by rw [hW6]; exact box_keep _ Z5.out)
  have B6 := Lib.hid (show W6.heap[b]? = some (.cells (nodeC q u pl pr) 155 (0, 0)) by rw [hW6]; exact box_keep _ B5.out)
  have T6 := Lib.hid (show Touch [] w W6 by rw [hW6]; exact T5.out.alloc _)
  have hub : w.heap.size + 1 < w5.heap.size := (Array.getElem?_eq_some_iff.1 Z5.out).1
  change Code.wp _ _ _ _ (w5.alloc (.cells (nodeC c none (.pointer none) (.pointer none)) 155))
  rw [← hW6]
  clear hW6 X5 Z5 B5 T5
  generalize w5.heap.size = ub at *
  have U6 := Lib.hid hU6
  have hbl : b < w.heap.size := (Array.getElem?_eq_some_iff.1 HB.out).1
  have hb_ne : b ≠ ub := by omega
  have hw_ne : w.heap.size ≠ ub ∧ w.heap.size + 1 ≠ ub := by omega
  have NE := Lib.hid hb_ne
  have NW := Lib.hid hw_ne
  clear hU6 hb_ne hw_ne
  obtain ⟨c0, c1, _⟩ := node_cells B6.out
  obtain ⟨d0, d1, _⟩ := two_cells X6.out
  obtain ⟨u0, u1, u2, -, u4, u5, uf⟩ := node_cells U6.out
  have cf := uf 7
  clear uf
  go_upto_region 12 with (fail)
  go_cut [88] (fun _ wc => Hid (Touch [ub] W6 wc) ∧ Hid (wc.heap[ub]? = some (.cells (nodeC c none (.pointer (some ⟨b, 0, none⟩)) (.pointer none)) 155 (0, 0))))
  case first =>
    go_region_law (first | (go_simp; go_at_call 86; refine (bit_calls _ _ _ hqa hc31).mono ?_; rw [HBIT.out]; rintro e w7 ⟨rfl, hw7⟩; obtain rfl := hw7.symm))
    all_goals
      go_wp2
      go_meet
      case rel => first | exact ⟨Lib.hid ((Touch.refl [ub] W6).drew.setCell _ _ (.inl (by simp))), Lib.hid (node_set7 (touch_box (Touch.refl [] W6).drew U6.out (by simp)) _)⟩ | exact ⟨Lib.hid (((Touch.refl [ub] W6).setCell _ _ (.inl (by simp))).drew), Lib.hid (node_set7 U6.out _)⟩
  case rest =>
  obtain ⟨htc, hU⟩ := hcut
  have X7 := Lib.hid (touch_box htc.out X6.out (by simpa using NW.out.1))
  have Z7 := Lib.hid (touch_box htc.out Z6.out (by simpa using NW.out.2))
  have T7 := Lib.hid (T6.out.trans htc.out (by simp; omega))
  have U7 := Lib.hid hU.out
  clear c0 c1 d0 d1 u0 u1 u2 u4 u5 cf X6 Z6 B6 T6 U6 hU htc
  obtain ⟨W7, hW7⟩ : ∃ W7 : World, W7 = wc := ⟨_, rfl⟩
  rw [← hW7] at X7 Z7 T7 U7 ⊢
  clear hW7
  obtain ⟨c0, c1, _⟩ := node_cells U7.out
  obtain ⟨d0, d1, _⟩ := two_cells X7.out
  have n0 := fun u : Near W7 => u.cell c0
  have n1 := fun u : Near W7 => u.cell c1
  have m0 := fun u : Near W7 => u.cell d0
  have m1 := fun u : Near W7 => u.cell d1
  clear c0 c1 d0 d1
  by_cases hcp : c = p
  · have heq := fun w => px_eql c.a c.n p.a p.n true (px_beq hcp) w
    have HCP := Lib.hid hcp
    clear hcp
    go_wp2
    refine wp_region_near (by kernel_rfl) (by kernel_rfl) ?_
    repeat (go_big_quiet_step (fail))
    refine wpQuiet_nil ?_
    rintro _ ⟨u2, rfl⟩
    have Z8 := Lib.hid (touch_box u2.near Z7.out (by simp))
    have U8 := Lib.hid (touch_box u2.near U7.out (by simp))
    have T8 := Lib.hid (T7.out.trans u2.near (by simp))
    clear n0 n1 m0 m1 heq
    obtain ⟨W8, hW⟩ : ∃ W8 : World, W8 = u2.w := ⟨_, rfl⟩
    rw [← hW] at U8 Z8 T8 ⊢
    clear hW u2 U7 T7 X7 Z7
    obtain ⟨c0, c1, c2, ⟨c3, c4, c5, c6⟩, -, -, cf⟩ := node_cells U8.out
    obtain ⟨z0, z1, z2, z3⟩ := rt_cells Z8.out
    go_upto_region 14 with (fail)
    go_cut [] from 99 to 106 (fun wc => Hid (Touch [ub] W8 wc) ∧ Hid (wc.heap[ub]? = some (.cells (nodeC c (some v) (.pointer (some ⟨b, 0, none⟩)) (.pointer none)) 155 (0, 0))))
    case first =>
      have g2 := cf 2
      have g3 := cf 3
      have g4 := cf 4
      have g5 := cf 5
      have g6 := cf 6
      clear cf
      have NZ : Hid (w.heap.size + 1 ∉ [ub]) := Lib.hid (by simp; have := NW.out.2; omega)
      have PA := Lib.hid (node_putA U8.out HCP.out.symm v)
      have PB := Lib.hid (node_putB U8.out HCP.out.symm v)
      have PC := Lib.hid (node_putA (show (World.drew W8).heap[ub]? = _ from U8.out) HCP.out.symm v)
      have PD := Lib.hid (node_putB (show (World.drew W8).heap[ub]? = _ from U8.out) HCP.out.symm v)
      have hz1 : ¬ (ub = w.heap.size + 1) := by have := NZ.out; simp at this; omega
      have hz2 : ¬ (w.heap.size + 1 = ub) := by have := NZ.out; simp at this; omega
      go_region_law (fail)
      all_goals (try go_wp2)
      all_goals go_meet
      all_goals first
        | exact ⟨Lib.hid PA.out.2.drew, Lib.hid PA.out.1⟩
        | exact ⟨Lib.hid PB.out.2.drew, Lib.hid PB.out.1⟩
        | exact ⟨Lib.hid (((Touch.refl [] W8).drew.mono (by simp)).trans PC.out.2 (fun x hx => .inl hx)), Lib.hid PC.out.1⟩
        | exact ⟨Lib.hid (((Touch.refl [] W8).drew.mono (by simp)).trans PD.out.2 (fun x hx => .inl hx)), Lib.hid PD.out.1⟩
    case rest =>
    obtain ⟨hts, hbs⟩ := hcut
    clear c0 c1 c2 c3 c4 c5 c6 cf z0 z1 z2 z3
    obtain ⟨W9, hW9⟩ : ∃ W9, W9 = wc := ⟨_, rfl⟩
    rw [← hW9] at hts hbs ⊢
    clear hW9
    have T9 := Lib.hid (T8.out.trans hts.out (fun x hx => .inr (by simp at hx; omega)))
    go_wp2
    go_ret2
    have t3 := T9.out
    have hS := HT.out.lt
    have HH : hang (.node q u l r) p v = ((.node c (some v) (.node q u l r) .nil), true) := by
      rw [hang, if_neg HE.out, if_neg HI.out]
      simp only [← HCC.out]
      rw [if_pos HCP.out, if_pos HBIT.out]
    unfold HangPost
    rw [HH]
    have hub2 : ub ∉ S := fun h => by have := hS _ h; omega
    exact ⟨some ⟨ub, 0, none⟩, (ub :: (S ++ [])), rfl, ⟨ub, _, _, S, [], rfl, hbs.out, HT.out.kept t3 (by simp), ⟨rfl, rfl⟩, rfl, hub2, by simp, by simp⟩, t3.mono (by simp), fun k hk => by
      simp at hk
      rcases hk with rfl | hk
      · exact .inr (by omega)
      · exact .inl hk⟩
  · have heq := fun w => px_eql c.a c.n p.a p.n false (px_bne hcp) w
    have HCP := Lib.hid hcp
    have HB2 : Hid (bitOf p.a c.n = 1) := Lib.hid (by
      have h8 := ((HCI.out.side hcp).2).2.2
      rw [HBIT.out] at h8
      have := bitOf_lt p.a c.n
      omega)
    clear hcp
    go_wp2
    refine wp_region_near (by kernel_rfl) (by kernel_rfl) ?_
    repeat (go_big_quiet_step (fail))
    refine wpQuiet_nil ?_
    rintro _ ⟨u2, rfl⟩
    have X8 := Lib.hid (touch_box u2.near X7.out (by simp))
    have Z8 := Lib.hid (touch_box u2.near Z7.out (by simp))
    have U8 := Lib.hid (touch_box u2.near U7.out (by simp))
    have T8 := Lib.hid (T7.out.trans u2.near (by simp))
    clear n0 n1 m0 m1 heq
    obtain ⟨W8, hW⟩ : ∃ W8 : World, W8 = u2.w := ⟨_, rfl⟩
    rw [← hW] at U8 T8 X8 Z8 ⊢
    clear hW u2 U7 T7 X7 Z7
    obtain ⟨c0, c1, _, _, c4, c5, cf⟩ := node_cells U8.out
    obtain ⟨d0, d1, _⟩ := two_cells X8.out
    have f := cf 8
    have hl8 : ub < W8.heap.size := (Array.getElem?_eq_some_iff.1 U8.out).1
    clear cf
    have HFIN : Hid (HangPost w (.node q u l r) S p v (.returned (.tuple #[.pointer (some ⟨ub, 0, none⟩), .bool true])) ((W8.setCell ⟨ub, 8, none⟩ (.pointer (some ⟨W8.heap.size, 0, none⟩))).alloc (.cells (nodeC p (some v) (.pointer none) (.pointer none)) 155)).drew) := Lib.hid (by
      have tF : Touch [] w ((W8.setCell ⟨ub, 8, none⟩ (.pointer (some ⟨W8.heap.size, 0, none⟩))).alloc (.cells (nodeC p (some v) (.pointer none) (.pointer none)) 155)).drew := ((T8.out.setCell _ _ (.inr (by simp; omega))).alloc _).drew
      have hS := HT.out.lt
      have HH : hang (.node q u l r) p v = ((.node c none (.node q u l r) (.node p (some v) .nil .nil)), true) := by
        rw [hang, if_neg HE.out, if_neg HI.out]
        simp only [← HCC.out]
        rw [if_neg HCP.out, if_pos HBIT.out]
      unfold HangPost
      rw [HH]
      have hub2 : ub ∉ S := fun h => by have := hS _ h; omega
      obtain ⟨nb, hnb⟩ : ∃ nb, nb = W8.heap.size := ⟨_, rfl⟩
      have hlf : Tr ((W8.setCell ⟨ub, 8, none⟩ (.pointer (some ⟨W8.heap.size, 0, none⟩))).alloc (.cells (nodeC p (some v) (.pointer none) (.pointer none)) 155)).drew (.node p (some v) .nil .nil) (.pointer (some ⟨nb, 0, none⟩)) [nb] :=
        ⟨nb, .pointer none, .pointer none, [], [], rfl, box_at' (W8.setCell ⟨ub, 8, none⟩ (.pointer (some ⟨W8.heap.size, 0, none⟩))) _ nb (by rw [hnb]; simp), ⟨rfl, rfl⟩, ⟨rfl, rfl⟩, rfl, by simp, by simp, by simp⟩
      refine ⟨some ⟨ub, 0, none⟩, (ub :: (S ++ [nb])), rfl, ⟨ub, _, _, S, [nb], rfl, box_keep (w := W8.setCell ⟨ub, 8, none⟩ (.pointer (some ⟨W8.heap.size, 0, none⟩))) _ (node_set8 U8.out _), HT.out.kept tF (by simp), ?_, rfl, hub2, by simp; omega, ?_⟩, tF.mono (by simp), fun k hk => ?_⟩
      · rw [← hnb] at hlf ⊢; exact hlf
      · intro k hk hk2
        simp at hk hk2
        have := hS k hk; omega
      · simp at hk
        rcases hk with rfl | hk | rfl
        · exact .inr (by omega)
        · exact .inl hk
        · exact .inr (by omega))
    have a0 := fun o => (two_cells (box_keep (w := W8) o X8.out)).1
    have a1 := fun o => (two_cells (box_keep (w := W8) o X8.out)).2.1
    have a2 := fun o => (node_cells (box_keep (w := W8) o U8.out)).2.1
    have a3 := fun o => (node_cells (box_keep (w := W8) o U8.out)).2.2.2.2.2.1
    have a5 := fun o => (rt_cells (box_keep (w := W8) o Z8.out)).1
    have a6 := fun o => (rt_cells (box_keep (w := W8) o Z8.out)).2.1
    have a7 := fun o => (rt_cells (box_keep (w := W8) o Z8.out)).2.2.1
    have a8 := fun o => (rt_cells (box_keep (w := W8) o Z8.out)).2.2.2
    obtain ⟨z0, z1, z2, z3⟩ := rt_cells Z8.out
    have a4 := fun o => (node_cells (box_keep (w := W8) o U8.out)).2.2.2.2.2.2 8
    go_wp2_with fail
    have KS := Lib.hid (show ∀ (x : Value) (o : Obj), (((W8.setCell ⟨ub, 8, none⟩ x).alloc o).drew).cell? ⟨w.heap.size, 0, none⟩ = some (.int .u32 p.a) ∧ (((W8.setCell ⟨ub, 8, none⟩ x).alloc o).drew).cell? ⟨w.heap.size, 1, none⟩ = some (.int .i64 p.n) ∧ (((W8.setCell ⟨ub, 8, none⟩ x).alloc o).drew).cell? ⟨ub, 1, none⟩ = some (.int .i64 c.n) ∧ (((W8.setCell ⟨ub, 8, none⟩ x).alloc o).drew).cell? ⟨w.heap.size + 1, 0, none⟩ = some (.int .u32 p.a) ∧ (((W8.setCell ⟨ub, 8, none⟩ x).alloc o).drew).cell? ⟨w.heap.size + 1, 1, none⟩ = some (.int .i64 p.n) ∧ (((W8.setCell ⟨ub, 8, none⟩ x).alloc o).drew).cell? ⟨w.heap.size + 1, 2, none⟩ = some (.int .u32 (rV v)) ∧ (((W8.setCell ⟨ub, 8, none⟩ x).alloc o).drew).cell? ⟨w.heap.size + 1, 3, none⟩ = some (.bool (rL v)) from fun x o => ⟨(two_cells (drew_keep (box_keep (w := W8.setCell ⟨ub, 8, none⟩ x) o (box_other _ _ X8.out NW.out.1)))).1, (two_cells (drew_keep (box_keep (w := W8.setCell ⟨ub, 8, none⟩ x) o (box_other _ _ X8.out NW.out.1)))).2.1, (node_cells (drew_keep (box_keep (w := W8.setCell ⟨ub, 8, none⟩ x) o (node_set8 U8.out _)))).2.1, (rt_cells (drew_keep (box_keep (w := W8.setCell ⟨ub, 8, none⟩ x) o (box_other _ _ Z8.out NW.out.2)))).1, (rt_cells (drew_keep (box_keep (w := W8.setCell ⟨ub, 8, none⟩ x) o (box_other _ _ Z8.out NW.out.2)))).2.1, (rt_cells (drew_keep (box_keep (w := W8.setCell ⟨ub, 8, none⟩ x) o (box_other _ _ Z8.out NW.out.2)))).2.2.1, (rt_cells (drew_keep (box_keep (w := W8.setCell ⟨ub, 8, none⟩ x) o (box_other _ _ Z8.out NW.out.2)))).2.2.2⟩)
    go_region_held3 (fun w' => w'.cell? ⟨w.heap.size, 0, none⟩ = some (.int .u32 p.a) ∧ w'.cell? ⟨w.heap.size, 1, none⟩ = some (.int .i64 p.n) ∧ w'.cell? ⟨ub, 1, none⟩ = some (.int .i64 c.n) ∧ w'.cell? ⟨w.heap.size + 1, 0, none⟩ = some (.int .u32 p.a) ∧ w'.cell? ⟨w.heap.size + 1, 1, none⟩ = some (.int .i64 p.n) ∧ w'.cell? ⟨w.heap.size + 1, 2, none⟩ = some (.int .u32 (rV v)) ∧ w'.cell? ⟨w.heap.size + 1, 3, none⟩ = some (.bool (rL v)))
      (first | exact KS.out _ _ | go_keep | exact ⟨(two_cells (box_keep (w := W8) _ X8.out)).1, (two_cells (box_keep (w := W8) _ X8.out)).2.1, (node_cells (box_keep (w := W8) _ U8.out)).2.1, (rt_cells (box_keep (w := W8) _ Z8.out)).1, (rt_cells (box_keep (w := W8) _ Z8.out)).2.1, (rt_cells (box_keep (w := W8) _ Z8.out)).2.2.1, (rt_cells (box_keep (w := W8) _ Z8.out)).2.2.2⟩ | exact ⟨(two_cells (box_keep (w := W8.drew) _ X8.out)).1, (two_cells (box_keep (w := W8.drew) _ X8.out)).2.1, (node_cells (box_keep (w := W8.drew) _ U8.out)).2.1, (rt_cells (box_keep (w := W8.drew) _ Z8.out)).1, (rt_cells (box_keep (w := W8.drew) _ Z8.out)).2.1, (rt_cells (box_keep (w := W8.drew) _ Z8.out)).2.2.1, (rt_cells (box_keep (w := W8.drew) _ Z8.out)).2.2.2⟩)
      (first | (go_at_call 86; refine (bit_calls _ _ _ hpa hc31).mono ?_; rw [HB2.out]; rintro e w7 ⟨rfl, hw7⟩; obtain rfl := hw7.symm))
    all_goals
      clear c0 c1 c4 c5 d0 d1 f a0 a1 a2 a3 a4 a5 a6 a7 a8 z0 z1 z2 z3
      go_wp2
      go_ret2
    all_goals exact HFIN.out
end Go.Proofs.YtnpeafhjcelpfaaGreat.Tri
