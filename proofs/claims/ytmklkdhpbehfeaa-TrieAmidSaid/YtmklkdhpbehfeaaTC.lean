/- hang: the other ways; no condition. -/
import Derived.Test.YtmklkdhpbehfeaaTB
import Derived.Deep.DeepCutAuto
namespace Go.Proofs.Ytmklkdhpbehfeaa.Tri
open Go.RowKit Go.Maps
set_option linter.unusedVariables false

set_option maxHeartbeats 1000000 in
theorem hang_nil (w : World) (p : Px) (v : Int) :
    Calls Try.prog 41 #[.pointer none, .agg #[.int .u32 p.a, .int .i64 p.n], .int .i64 v] w (HangPost w .nil [] p v) := by
  go_enter Try.func41, Try.ntmps41
  go_wp2
  go_ret2
  refine ⟨some ⟨w.heap.size + 1, 0, none⟩, [w.heap.size + 1], rfl, ⟨w.heap.size + 1, .pointer none, .pointer none, [], [], rfl, box_at' _ _ _ (by simp), ⟨rfl, rfl⟩, ⟨rfl, rfl⟩, rfl, by simp, by simp, by simp⟩, ((Touch.refl [] w).alloc _).alloc _, ?_⟩
  intro k hk
  simp at hk; subst hk; exact .inr (by omega)
theorem node_set23 {w : World} {b : Nat} {q : Px} {u : Option Int} {pl pr : Value} {T : TypeId} (h : w.heap[b]? = some (.cells (nodeC q u pl pr) T (0, 0))) (v : Int) :
    ((w.setCell ⟨b, 2, none⟩ (.bool true)).setCell ⟨b, 3, none⟩ (.int .i64 v)).heap[b]? = some (.cells (nodeC q (some v) pl pr) T (0, 0)) := by
  have h1 := box_set (o := 2) h (.bool true)
  have h2 := box_set (o := 3) h1 (.int .i64 v)
  simpa [nodeC] using h2
set_option maxHeartbeats 2000000 in
set_option maxRecDepth 100000 in
theorem hang_eq (q : Px) (u : Option Int) (l r : T) (b : Nat) (pl pr : Value) (Sl Sr : List Nat) (w : World) (v : Int) (hb : w.heap[b]? = some (.cells (nodeC q u pl pr) 90 (0, 0))) (hl : Tr w l pl Sl) (hr : Tr w r pr Sr)
    (h1 : b ∉ Sl) (h2 : b ∉ Sr) (h3 : ∀ k ∈ Sl, k ∉ Sr) :
    Calls Try.prog 41 #[.pointer (some ⟨b, 0, none⟩), .agg #[.int .u32 q.a, .int .i64 q.n], .int .i64 v] w (HangPost w (.node q u l r) (b :: (Sl ++ Sr)) q v) := by
  obtain ⟨p, hp⟩ : ∃ p : Px, p = q := ⟨_, rfl⟩
  rw [show (Value.agg #[.int .u32 q.a, .int .i64 q.n]) = .agg #[.int .u32 p.a, .int .i64 p.n] by rw [hp]]
  have hg := guard32
  have hne := fun w => px_eql q.a q.n p.a p.n true (px_beq hp.symm) w
  have HP := Lib.hid hp
  have HB := Lib.hid hb
  have HL := Lib.hid hl
  have HR := Lib.hid hr
  have H1 := Lib.hid h1
  have H2 := Lib.hid h2
  have H3 := Lib.hid h3
  have HLT := Lib.hid (Array.getElem?_eq_some_iff.1 hb).1
  clear hb hl hr h1 h2 h3 hp
  go_enter Try.func41, Try.ntmps41
  go_wp2
  obtain ⟨W1, hW1⟩ : ∃ W1 : World, W1 = w.alloc (.cells #[.int .u32 p.a, .int .i64 p.n] 32) := ⟨_, rfl⟩
  rw [← hW1]
  have X1 := Lib.hid (show W1.heap[w.heap.size]? = some (.cells #[.int .u32 p.a, .int .i64 p.n] 32 (0, 0)) by rw [hW1]; exact box_at w _)
  have T1 := Lib.hid (show Touch [] w W1 by rw [hW1]; exact (Touch.refl [] w).alloc _)
  have B1 := Lib.hid (touch_box T1.out HB.out (by simp))
  clear hW1
  obtain ⟨c0, c1, _⟩ := node_cells B1.out
  have n0 := fun u : Near W1 => u.cell c0
  have n1 := fun u : Near W1 => u.cell c1
  obtain ⟨d0, d1, _⟩ := two_cells X1.out
  have m0 := fun u : Near W1 => u.cell d0
  have m1 := fun u : Near W1 => u.cell d1
  clear c0 c1 d0 d1
  go_wp2
  refine wp_region_near (by kernel_rfl) (by kernel_rfl) ?_
  repeat (go_big_quiet_step (fail))
  refine wpQuiet_nil ?_
  rintro _ ⟨u2, rfl⟩
  have X2 := Lib.hid (touch_box u2.near X1.out (by simp))
  have B2 := Lib.hid (touch_box u2.near B1.out (by simp))
  have T2 := Lib.hid (T1.out.trans u2.near (by simp))
  clear n0 n1 m0 m1
  obtain ⟨W2, hW⟩ : ∃ W2 : World, W2 = u2.w := ⟨_, rfl⟩
  rw [← hW] at X2 B2 T2 ⊢
  clear hW u2 X1 B1 T1
  obtain ⟨c0, c1, c2, c3, _, _, cf⟩ := node_cells B2.out
  have f2 := cf 2
  have f3 := cf 3
  clear cf
  go_wp2
  go_ret2
  have t3 : Touch [b] w ((W2.setCell ⟨b, 2, none⟩ (.bool true)).setCell ⟨b, 3, none⟩ (.int .i64 v)) := ((T2.out.mono (S' := [b]) (by simp)).setCell _ _ (.inl (by simp))).setCell _ _ (.inl (by simp))
  unfold HangPost
  rw [hang, if_pos rfl]
  refine ⟨some ⟨b, 0, none⟩, b :: (Sl ++ Sr), by cases u <;> rfl, ⟨b, pl, pr, Sl, Sr, rfl, node_set23 B2.out v, HL.out.kept t3 ?_, HR.out.kept t3 ?_, rfl, H1.out, H2.out, H3.out⟩, t3.mono (by simp), fun k hk => .inl hk⟩
  · intro k hk hx; simp at hx; subst hx; exact H1.out hk
  · intro k hk hx; simp at hx; subst hx; exact H2.out hk
set_option maxHeartbeats 4000000 in
set_option maxRecDepth 100000 in
theorem hang_split_a (q : Px) (u : Option Int) (l r : T) (b : Nat) (pl pr : Value) (S : List Nat) (w : World) (p : Px) (v : Int) (hb : w.heap[b]? = some (.cells (nodeC q u pl pr) 90 (0, 0))) (hT : Tr w (.node q u l r) (.pointer (some ⟨b, 0, none⟩)) S)
    (hp : p.ok) (e : q ≠ p) (hi : ¬ ins p q) (hq : q.ok) (hbit : bitOf q.a (common p q).n = 0) :
    Calls Try.prog 41 #[.pointer (some ⟨b, 0, none⟩), .agg #[.int .u32 p.a, .int .i64 p.n], .int .i64 v] w (HangPost w (.node q u l r) S p v) := by
  have hg := guard32
  have hne := fun w => px_eql q.a q.n p.a p.n false (px_bne e) w
  have hc := common_is hp hq hi
  have hmask : Hid (q.n ≤ p.n → maskOf p.a q.n ≠ q.a) := Lib.hid (fun hle h => hi ⟨hle, by rw [← h, top_mask]⟩)
  have hpa := hp.2.1
  have hp32 := hp.1
  have hqa := hq.2.1
  have hqn := hq.1
  have HC := Lib.hid (fun w => common_calls p q w hp hq)
  have hc31 : (common p q).n ≤ 31 := by
    have h4 := hc.inq.1
    have h5 := hc.inp.1
    by_cases h6 : common p q = p
    · have := side_of hc.inq (fun e' => e (e'.trans h6)) hq hc.ok
      have := this.1; omega
    · have := (hc.side h6).1.1; omega
  have hca := hc.ok.2.1
  have HE := Lib.hid e
  have HI := Lib.hid hi
  have HB := Lib.hid hb
  have HT := Lib.hid hT
  have HBIT := Lib.hid hbit
  have HCI := Lib.hid hc
  clear hb hT e hi hc hbit hp hq
  obtain ⟨c, hcc⟩ : ∃ c, c = common p q := ⟨_, rfl⟩
  have HCC := Lib.hid hcc
  rw [← hcc] at HC HCI HBIT hc31 hca
  clear hcc
  go_enter Try.func41, Try.ntmps41
  go_wp2
  obtain ⟨W1, hW1⟩ : ∃ W1 : World, W1 = w.alloc (.cells #[.int .u32 p.a, .int .i64 p.n] 32) := ⟨_, rfl⟩
  rw [← hW1]
  have X1 := Lib.hid (show W1.heap[w.heap.size]? = some (.cells #[.int .u32 p.a, .int .i64 p.n] 32 (0, 0)) by rw [hW1]; exact box_at w _)
  have T1 := Lib.hid (show Touch [] w W1 by rw [hW1]; exact (Touch.refl [] w).alloc _)
  have B1 := Lib.hid (touch_box T1.out HB.out (by simp))
  clear hW1
  obtain ⟨c0, c1, _⟩ := node_cells B1.out
  have n0 := fun u : Near W1 => u.cell c0
  have n1 := fun u : Near W1 => u.cell c1
  obtain ⟨d0, d1, _⟩ := two_cells X1.out
  have m0 := fun u : Near W1 => u.cell d0
  have m1 := fun u : Near W1 => u.cell d1
  clear c0 c1 d0 d1
  go_wp2
  refine wp_region_near (by kernel_rfl) (by kernel_rfl) ?_
  repeat (go_big_quiet_step (fail))
  refine wpQuiet_nil ?_
  rintro _ ⟨u2, rfl⟩
  have X2 := Lib.hid (touch_box u2.near X1.out (by simp))
  have B2 := Lib.hid (touch_box u2.near B1.out (by simp))
  have T2 := Lib.hid (T1.out.trans u2.near (by simp))
  clear n0 n1 m0 m1
  obtain ⟨W2, hW⟩ : ∃ W2 : World, W2 = u2.w := ⟨_, rfl⟩
  rw [← hW] at X2 B2 T2 ⊢
  clear hW u2 X1 B1 T1
  obtain ⟨c0, c1, _⟩ := node_cells B2.out
  have n0 := fun u : Near W2 => u.cell c0
  have n1 := fun u : Near W2 => u.cell c1
  obtain ⟨d0, d1, _⟩ := two_cells X2.out
  have m0 := fun u : Near W2 => u.cell d0
  have m1 := fun u : Near W2 => u.cell d1
  clear c0 c1 d0 d1
  go_wp2
  refine wp_region_near (by kernel_rfl) (by kernel_rfl) ?_
  repeat (go_big_quiet_step ((go_at_call 64; exact near_call _ (inside_no _ _ _ _ _ hpa hqn hp32 hmask.out))))
  refine wpQuiet_nil ?_
  rintro _ ⟨u2, rfl⟩
  have X3 := Lib.hid (touch_box u2.near X2.out (by simp))
  have B3 := Lib.hid (touch_box u2.near B2.out (by simp))
  have T3 := Lib.hid (T2.out.trans u2.near (by simp))
  clear n0 n1 m0 m1
  obtain ⟨W3, hW⟩ : ∃ W3 : World, W3 = u2.w := ⟨_, rfl⟩
  rw [← hW] at X3 B3 T3 ⊢
  clear hW u2 X2 B2 T2
  clear hne
  obtain ⟨c0, c1, _⟩ := node_cells B3.out
  obtain ⟨d0, d1, _⟩ := two_cells X3.out
  go_wp2
  go_still_tail 5, (by kernel_rfl)
  change wpList _ _ _ _ _ (World.drew W3)
  go_wp2_with fail
  refine (HC.out _).mono ?_
  rintro e' w5 ⟨rfl, t5⟩
  have X5 := Lib.hid (touch_box t5 (touch_box (Touch.refl [] W3).drew X3.out (by simp)) (by simp))
  have B5 := Lib.hid (touch_box t5 (touch_box (Touch.refl [] W3).drew B3.out (by simp)) (by simp))
  have T5 := Lib.hid ((T3.out.trans (Touch.refl [] W3).drew (by simp)).trans t5 (by simp))
  clear c0 c1 d0 d1 t5
  go_wp2_with fail
  obtain ⟨W6, hW6⟩ : ∃ W6 : World, W6 = w5.alloc (.cells (nodeC c none (.pointer none) (.pointer none)) 90) := ⟨_, rfl⟩
  have hU6 : W6.heap[w5.heap.size]? = some (.cells (nodeC c none (.pointer none) (.pointer none)) 90 (0, 0)) := by rw [hW6]; exact box_at w5 _
  have X6 := Lib.hid (show W6.heap[w.heap.size]? = some (.cells #[.int .u32 p.a, .int .i64 p.n] 32 (0, 0)) by rw [hW6]; exact box_keep _ X5.out)
  have B6 := Lib.hid (show W6.heap[b]? = some (.cells (nodeC q u pl pr) 90 (0, 0)) by rw [hW6]; exact box_keep _ B5.out)
  have T6 := Lib.hid (show Touch [] w W6 by rw [hW6]; exact T5.out.alloc _)
  have hub : w.heap.size < w5.heap.size := (Array.getElem?_eq_some_iff.1 X5.out).1
  change Code.wp _ _ _ _ (w5.alloc (.cells (nodeC c none (.pointer none) (.pointer none)) 90))
  rw [← hW6]
  clear hW6 X5 B5 T5
  generalize w5.heap.size = ub at *
  have U6 := Lib.hid hU6
  have hbl : b < w.heap.size := (Array.getElem?_eq_some_iff.1 HB.out).1
  have hb_ne : b ≠ ub := by omega
  have hw_ne : w.heap.size ≠ ub := by omega
  have NE := Lib.hid hb_ne
  have NW := Lib.hid hw_ne
  clear hU6 hb_ne hw_ne
  obtain ⟨c0, c1, _⟩ := node_cells B6.out
  obtain ⟨d0, d1, _⟩ := two_cells X6.out
  obtain ⟨u0, u1, u2, u3, u4, u5, uf⟩ := node_cells U6.out
  have cf := uf 4
  clear uf
  go_upto_region 12 with (fail)
  go_cut [88] (fun _ wc => Hid (Touch [ub] W6 wc) ∧ Hid (wc.heap[ub]? = some (.cells (nodeC c none (.pointer (some ⟨b, 0, none⟩)) (.pointer none)) 90 (0, 0))))
  case first =>
    go_region_law (first | (go_simp; go_at_call 45; refine (bit_calls _ _ _ hqa hc31).mono ?_; rw [HBIT.out]; rintro e w7 ⟨rfl, hw7⟩; obtain rfl := hw7.symm))
    all_goals
      go_wp2
      go_meet
      case rel => first | exact ⟨Lib.hid ((Touch.refl [ub] W6).drew.setCell _ _ (.inl (by simp))), Lib.hid (node_set4 (touch_box (Touch.refl [] W6).drew U6.out (by simp)) _)⟩ | exact ⟨Lib.hid (((Touch.refl [ub] W6).setCell _ _ (.inl (by simp))).drew), Lib.hid (node_set4 U6.out _)⟩
  case rest =>
  obtain ⟨htc, hU⟩ := hcut
  have X7 := Lib.hid (touch_box htc.out X6.out (by simpa using NW.out))
  have T7 := Lib.hid (T6.out.trans htc.out (by simp; omega))
  have U7 := Lib.hid hU.out
  clear c0 c1 d0 d1 u0 u1 u2 u3 u4 u5 cf X6 B6 T6 U6 hU htc
  obtain ⟨W7, hW7⟩ : ∃ W7 : World, W7 = wc := ⟨_, rfl⟩
  rw [← hW7] at X7 T7 U7 ⊢
  clear hW7
  obtain ⟨c0, c1, _⟩ := node_cells U7.out
  obtain ⟨d0, d1, _⟩ := two_cells X7.out
  have n0 := fun u : Near W7 => u.cell c0
  have n1 := fun u : Near W7 => u.cell c1
  have m0 := fun u : Near W7 => u.cell d0
  have m1 := fun u : Near W7 => u.cell d1
  clear c0 c1 d0 d1
  by_cases hcp : c = p
  · have heq := fun w => px_eql c.a c.n p.a p.n true (px_beq hcp) w
    have HCP := Lib.hid hcp
    clear hcp
    go_wp2
    refine wp_region_near (by kernel_rfl) (by kernel_rfl) ?_
    repeat (go_big_quiet_step (fail))
    refine wpQuiet_nil ?_
    rintro _ ⟨u2, rfl⟩
    have U8 := Lib.hid (touch_box u2.near U7.out (by simp))
    have T8 := Lib.hid (T7.out.trans u2.near (by simp))
    clear n0 n1 m0 m1 heq
    obtain ⟨W8, hW⟩ : ∃ W8 : World, W8 = u2.w := ⟨_, rfl⟩
    rw [← hW] at U8 T8 ⊢
    clear hW u2 U7 T7 X7
    obtain ⟨_, _, c2, c3, _, _, cf⟩ := node_cells U8.out
    have f2 := cf 2
    have f3 := cf 3
    clear cf
    go_wp2
    go_ret2
    have t3 : Touch [] w ((W8.setCell ⟨ub, 2, none⟩ (.bool true)).setCell ⟨ub, 3, none⟩ (.int .i64 v)) := (T8.out.setCell _ _ (.inr (by simp; omega))).setCell _ _ (.inr (by simp; omega))
    have hS := HT.out.lt
    have HH : hang (.node q u l r) p v = ((.node c (some v) (.node q u l r) .nil), true) := by
      rw [hang, if_neg HE.out, if_neg HI.out]
      simp only [← HCC.out]
      rw [if_pos HCP.out, if_pos HBIT.out]
    unfold HangPost
    rw [HH]
    have hub2 : ub ∉ S := fun h => by have := hS _ h; omega
    exact ⟨some ⟨ub, 0, none⟩, (ub :: (S ++ [])), rfl, ⟨ub, _, _, S, [], rfl, node_set23 U8.out v, HT.out.kept t3 (by simp), ⟨rfl, rfl⟩, rfl, hub2, by simp, by simp⟩, t3.mono (by simp), fun k hk => by
      simp at hk
      rcases hk with rfl | hk
      · exact .inr (by omega)
      · exact .inl hk⟩
  · have heq := fun w => px_eql c.a c.n p.a p.n false (px_bne hcp) w
    have HCP := Lib.hid hcp
    have HB2 : Hid (bitOf p.a c.n = 1) := Lib.hid (by
      have h8 := ((HCI.out.side hcp).2).2.2
      rw [HBIT.out] at h8
      have := bitOf_lt p.a c.n
      omega)
    clear hcp
    go_wp2
    refine wp_region_near (by kernel_rfl) (by kernel_rfl) ?_
    repeat (go_big_quiet_step (fail))
    refine wpQuiet_nil ?_
    rintro _ ⟨u2, rfl⟩
    have X8 := Lib.hid (touch_box u2.near X7.out (by simp))
    have U8 := Lib.hid (touch_box u2.near U7.out (by simp))
    have T8 := Lib.hid (T7.out.trans u2.near (by simp))
    clear n0 n1 m0 m1 heq
    obtain ⟨W8, hW⟩ : ∃ W8 : World, W8 = u2.w := ⟨_, rfl⟩
    rw [← hW] at U8 T8 X8 ⊢
    clear hW u2 U7 T7 X7
    obtain ⟨c0, c1, _, _, c4, c5, cf⟩ := node_cells U8.out
    obtain ⟨d0, d1, _⟩ := two_cells X8.out
    have f := cf 5
    have hl8 : ub < W8.heap.size := (Array.getElem?_eq_some_iff.1 U8.out).1
    clear cf
    have HFIN : Hid (HangPost w (.node q u l r) S p v (.returned (.tuple #[.pointer (some ⟨ub, 0, none⟩), .bool true])) ((W8.setCell ⟨ub, 5, none⟩ (.pointer (some ⟨W8.heap.size, 0, none⟩))).alloc (.cells (nodeC p (some v) (.pointer none) (.pointer none)) 90)).drew) := Lib.hid (by
      have tF : Touch [] w ((W8.setCell ⟨ub, 5, none⟩ (.pointer (some ⟨W8.heap.size, 0, none⟩))).alloc (.cells (nodeC p (some v) (.pointer none) (.pointer none)) 90)).drew := ((T8.out.setCell _ _ (.inr (by simp; omega))).alloc _).drew
      have hS := HT.out.lt
      have HH : hang (.node q u l r) p v = ((.node c none (.node q u l r) (.node p (some v) .nil .nil)), true) := by
        rw [hang, if_neg HE.out, if_neg HI.out]
        simp only [← HCC.out]
        rw [if_neg HCP.out, if_pos HBIT.out]
      unfold HangPost
      rw [HH]
      have hub2 : ub ∉ S := fun h => by have := hS _ h; omega
      obtain ⟨nb, hnb⟩ : ∃ nb, nb = W8.heap.size := ⟨_, rfl⟩
      have hlf : Tr ((W8.setCell ⟨ub, 5, none⟩ (.pointer (some ⟨W8.heap.size, 0, none⟩))).alloc (.cells (nodeC p (some v) (.pointer none) (.pointer none)) 90)).drew (.node p (some v) .nil .nil) (.pointer (some ⟨nb, 0, none⟩)) [nb] :=
        ⟨nb, .pointer none, .pointer none, [], [], rfl, box_at' (W8.setCell ⟨ub, 5, none⟩ (.pointer (some ⟨W8.heap.size, 0, none⟩))) _ nb (by rw [hnb]; simp), ⟨rfl, rfl⟩, ⟨rfl, rfl⟩, rfl, by simp, by simp, by simp⟩
      refine ⟨some ⟨ub, 0, none⟩, (ub :: (S ++ [nb])), rfl, ⟨ub, _, _, S, [nb], rfl, box_keep (w := W8.setCell ⟨ub, 5, none⟩ (.pointer (some ⟨W8.heap.size, 0, none⟩))) _ (node_set5 U8.out _), HT.out.kept tF (by simp), ?_, rfl, hub2, by simp; omega, ?_⟩, tF.mono (by simp), fun k hk => ?_⟩
      · rw [← hnb] at hlf ⊢; exact hlf
      · intro k hk hk2
        simp at hk hk2
        have := hS k hk; omega
      · simp at hk
        rcases hk with rfl | hk | rfl
        · exact .inr (by omega)
        · exact .inl hk
        · exact .inr (by omega))
    have a0 := fun o => (two_cells (box_keep (w := W8) o X8.out)).1
    have a1 := fun o => (two_cells (box_keep (w := W8) o X8.out)).2.1
    have a2 := fun o => (node_cells (box_keep (w := W8) o U8.out)).2.1
    have a3 := fun o => (node_cells (box_keep (w := W8) o U8.out)).2.2.2.2.2.1
    have a4 := fun o => (node_cells (box_keep (w := W8) o U8.out)).2.2.2.2.2.2 5
    go_wp2_with fail
    go_region_law (first | (go_simp; go_at_call 45; refine (bit_calls _ _ _ hpa hc31).mono ?_; rw [HB2.out]; rintro e w7 ⟨rfl, hw7⟩; obtain rfl := hw7.symm))
    all_goals
      clear c0 c1 c4 c5 d0 d1 f a0 a1 a2 a3 a4
      go_wp2
      go_ret2
    all_goals exact HFIN.out
set_option maxHeartbeats 4000000 in
set_option maxRecDepth 100000 in
theorem hang_split_b (q : Px) (u : Option Int) (l r : T) (b : Nat) (pl pr : Value) (S : List Nat) (w : World) (p : Px) (v : Int) (hb : w.heap[b]? = some (.cells (nodeC q u pl pr) 90 (0, 0))) (hT : Tr w (.node q u l r) (.pointer (some ⟨b, 0, none⟩)) S)
    (hp : p.ok) (e : q ≠ p) (hi : ¬ ins p q) (hq : q.ok) (hbit : bitOf q.a (common p q).n = 1) :
    Calls Try.prog 41 #[.pointer (some ⟨b, 0, none⟩), .agg #[.int .u32 p.a, .int .i64 p.n], .int .i64 v] w (HangPost w (.node q u l r) S p v) := by
  have hg := guard32
  have hne := fun w => px_eql q.a q.n p.a p.n false (px_bne e) w
  have hc := common_is hp hq hi
  have hmask : Hid (q.n ≤ p.n → maskOf p.a q.n ≠ q.a) := Lib.hid (fun hle h => hi ⟨hle, by rw [← h, top_mask]⟩)
  have hpa := hp.2.1
  have hp32 := hp.1
  have hqa := hq.2.1
  have hqn := hq.1
  have HC := Lib.hid (fun w => common_calls p q w hp hq)
  have hc31 : (common p q).n ≤ 31 := by
    have h4 := hc.inq.1
    have h5 := hc.inp.1
    by_cases h6 : common p q = p
    · have := side_of hc.inq (fun e' => e (e'.trans h6)) hq hc.ok
      have := this.1; omega
    · have := (hc.side h6).1.1; omega
  have hca := hc.ok.2.1
  have HE := Lib.hid e
  have HI := Lib.hid hi
  have HB := Lib.hid hb
  have HT := Lib.hid hT
  have HBIT := Lib.hid hbit
  have HCI := Lib.hid hc
  clear hb hT e hi hc hbit hp hq
  obtain ⟨c, hcc⟩ : ∃ c, c = common p q := ⟨_, rfl⟩
  have HCC := Lib.hid hcc
  rw [← hcc] at HC HCI HBIT hc31 hca
  clear hcc
  go_enter Try.func41, Try.ntmps41
  go_wp2
  obtain ⟨W1, hW1⟩ : ∃ W1 : World, W1 = w.alloc (.cells #[.int .u32 p.a, .int .i64 p.n] 32) := ⟨_, rfl⟩
  rw [← hW1]
  have X1 := Lib.hid (show W1.heap[w.heap.size]? = some (.cells #[.int .u32 p.a, .int .i64 p.n] 32 (0, 0)) by rw [hW1]; exact box_at w _)
  have T1 := Lib.hid (show Touch [] w W1 by rw [hW1]; exact (Touch.refl [] w).alloc _)
  have B1 := Lib.hid (touch_box T1.out HB.out (by simp))
  clear hW1
  obtain ⟨c0, c1, _⟩ := node_cells B1.out
  have n0 := fun u : Near W1 => u.cell c0
  have n1 := fun u : Near W1 => u.cell c1
  obtain ⟨d0, d1, _⟩ := two_cells X1.out
  have m0 := fun u : Near W1 => u.cell d0
  have m1 := fun u : Near W1 => u.cell d1
  clear c0 c1 d0 d1
  go_wp2
  refine wp_region_near (by kernel_rfl) (by kernel_rfl) ?_
  repeat (go_big_quiet_step (fail))
  refine wpQuiet_nil ?_
  rintro _ ⟨u2, rfl⟩
  have X2 := Lib.hid (touch_box u2.near X1.out (by simp))
  have B2 := Lib.hid (touch_box u2.near B1.out (by simp))
  have T2 := Lib.hid (T1.out.trans u2.near (by simp))
  clear n0 n1 m0 m1
  obtain ⟨W2, hW⟩ : ∃ W2 : World, W2 = u2.w := ⟨_, rfl⟩
  rw [← hW] at X2 B2 T2 ⊢
  clear hW u2 X1 B1 T1
  obtain ⟨c0, c1, _⟩ := node_cells B2.out
  have n0 := fun u : Near W2 => u.cell c0
  have n1 := fun u : Near W2 => u.cell c1
  obtain ⟨d0, d1, _⟩ := two_cells X2.out
  have m0 := fun u : Near W2 => u.cell d0
  have m1 := fun u : Near W2 => u.cell d1
  clear c0 c1 d0 d1
  go_wp2
  refine wp_region_near (by kernel_rfl) (by kernel_rfl) ?_
  repeat (go_big_quiet_step ((go_at_call 64; exact near_call _ (inside_no _ _ _ _ _ hpa hqn hp32 hmask.out))))
  refine wpQuiet_nil ?_
  rintro _ ⟨u2, rfl⟩
  have X3 := Lib.hid (touch_box u2.near X2.out (by simp))
  have B3 := Lib.hid (touch_box u2.near B2.out (by simp))
  have T3 := Lib.hid (T2.out.trans u2.near (by simp))
  clear n0 n1 m0 m1
  obtain ⟨W3, hW⟩ : ∃ W3 : World, W3 = u2.w := ⟨_, rfl⟩
  rw [← hW] at X3 B3 T3 ⊢
  clear hW u2 X2 B2 T2
  clear hne
  obtain ⟨c0, c1, _⟩ := node_cells B3.out
  obtain ⟨d0, d1, _⟩ := two_cells X3.out
  go_wp2
  go_still_tail 5, (by kernel_rfl)
  change wpList _ _ _ _ _ (World.drew W3)
  go_wp2_with fail
  refine (HC.out _).mono ?_
  rintro e' w5 ⟨rfl, t5⟩
  have X5 := Lib.hid (touch_box t5 (touch_box (Touch.refl [] W3).drew X3.out (by simp)) (by simp))
  have B5 := Lib.hid (touch_box t5 (touch_box (Touch.refl [] W3).drew B3.out (by simp)) (by simp))
  have T5 := Lib.hid ((T3.out.trans (Touch.refl [] W3).drew (by simp)).trans t5 (by simp))
  clear c0 c1 d0 d1 t5
  go_wp2_with fail
  obtain ⟨W6, hW6⟩ : ∃ W6 : World, W6 = w5.alloc (.cells (nodeC c none (.pointer none) (.pointer none)) 90) := ⟨_, rfl⟩
  have hU6 : W6.heap[w5.heap.size]? = some (.cells (nodeC c none (.pointer none) (.pointer none)) 90 (0, 0)) := by rw [hW6]; exact box_at w5 _
  have X6 := Lib.hid (show W6.heap[w.heap.size]? = some (.cells #[.int .u32 p.a, .int .i64 p.n] 32 (0, 0)) by rw [hW6]; exact box_keep _ X5.out)
  have B6 := Lib.hid (show W6.heap[b]? = some (.cells (nodeC q u pl pr) 90 (0, 0)) by rw [hW6]; exact box_keep _ B5.out)
  have T6 := Lib.hid (show Touch [] w W6 by rw [hW6]; exact T5.out.alloc _)
  have hub : w.heap.size < w5.heap.size := (Array.getElem?_eq_some_iff.1 X5.out).1
  change Code.wp _ _ _ _ (w5.alloc (.cells (nodeC c none (.pointer none) (.pointer none)) 90))
  rw [← hW6]
  clear hW6 X5 B5 T5
  generalize w5.heap.size = ub at *
  have U6 := Lib.hid hU6
  have hbl : b < w.heap.size := (Array.getElem?_eq_some_iff.1 HB.out).1
  have hb_ne : b ≠ ub := by omega
  have hw_ne : w.heap.size ≠ ub := by omega
  have NE := Lib.hid hb_ne
  have NW := Lib.hid hw_ne
  clear hU6 hb_ne hw_ne
  obtain ⟨c0, c1, _⟩ := node_cells B6.out
  obtain ⟨d0, d1, _⟩ := two_cells X6.out
  obtain ⟨u0, u1, u2, u3, u4, u5, uf⟩ := node_cells U6.out
  have cf := uf 5
  clear uf
  go_upto_region 12 with (fail)
  go_cut [88] (fun _ wc => Hid (Touch [ub] W6 wc) ∧ Hid (wc.heap[ub]? = some (.cells (nodeC c none (.pointer none) (.pointer (some ⟨b, 0, none⟩))) 90 (0, 0))))
  case first =>
    go_region_law (first | (go_simp; go_at_call 45; refine (bit_calls _ _ _ hqa hc31).mono ?_; rw [HBIT.out]; rintro e w7 ⟨rfl, hw7⟩; obtain rfl := hw7.symm))
    all_goals
      go_wp2
      go_meet
      case rel => first | exact ⟨Lib.hid ((Touch.refl [ub] W6).drew.setCell _ _ (.inl (by simp))), Lib.hid (node_set5 (touch_box (Touch.refl [] W6).drew U6.out (by simp)) _)⟩ | exact ⟨Lib.hid (((Touch.refl [ub] W6).setCell _ _ (.inl (by simp))).drew), Lib.hid (node_set5 U6.out _)⟩
  case rest =>
  obtain ⟨htc, hU⟩ := hcut
  have X7 := Lib.hid (touch_box htc.out X6.out (by simpa using NW.out))
  have T7 := Lib.hid (T6.out.trans htc.out (by simp; omega))
  have U7 := Lib.hid hU.out
  clear c0 c1 d0 d1 u0 u1 u2 u3 u4 u5 cf X6 B6 T6 U6 hU htc
  obtain ⟨W7, hW7⟩ : ∃ W7 : World, W7 = wc := ⟨_, rfl⟩
  rw [← hW7] at X7 T7 U7 ⊢
  clear hW7
  obtain ⟨c0, c1, _⟩ := node_cells U7.out
  obtain ⟨d0, d1, _⟩ := two_cells X7.out
  have n0 := fun u : Near W7 => u.cell c0
  have n1 := fun u : Near W7 => u.cell c1
  have m0 := fun u : Near W7 => u.cell d0
  have m1 := fun u : Near W7 => u.cell d1
  clear c0 c1 d0 d1
  by_cases hcp : c = p
  · have heq := fun w => px_eql c.a c.n p.a p.n true (px_beq hcp) w
    have HCP := Lib.hid hcp
    clear hcp
    go_wp2
    refine wp_region_near (by kernel_rfl) (by kernel_rfl) ?_
    repeat (go_big_quiet_step (fail))
    refine wpQuiet_nil ?_
    rintro _ ⟨u2, rfl⟩
    have U8 := Lib.hid (touch_box u2.near U7.out (by simp))
    have T8 := Lib.hid (T7.out.trans u2.near (by simp))
    clear n0 n1 m0 m1 heq
    obtain ⟨W8, hW⟩ : ∃ W8 : World, W8 = u2.w := ⟨_, rfl⟩
    rw [← hW] at U8 T8 ⊢
    clear hW u2 U7 T7 X7
    obtain ⟨_, _, c2, c3, _, _, cf⟩ := node_cells U8.out
    have f2 := cf 2
    have f3 := cf 3
    clear cf
    go_wp2
    go_ret2
    have t3 : Touch [] w ((W8.setCell ⟨ub, 2, none⟩ (.bool true)).setCell ⟨ub, 3, none⟩ (.int .i64 v)) := (T8.out.setCell _ _ (.inr (by simp; omega))).setCell _ _ (.inr (by simp; omega))
    have hS := HT.out.lt
    have HH : hang (.node q u l r) p v = ((.node c (some v) .nil (.node q u l r)), true) := by
      rw [hang, if_neg HE.out, if_neg HI.out]
      simp only [← HCC.out]
      rw [if_pos HCP.out, if_neg (by rw [HBIT.out]; decide)]
    unfold HangPost
    rw [HH]
    have hub2 : ub ∉ S := fun h => by have := hS _ h; omega
    exact ⟨some ⟨ub, 0, none⟩, (ub :: ([] ++ S)), rfl, ⟨ub, _, _, [], S, rfl, node_set23 U8.out v, ⟨rfl, rfl⟩, HT.out.kept t3 (by simp), rfl, by simp, hub2, by simp⟩, t3.mono (by simp), fun k hk => by
      simp at hk
      rcases hk with rfl | hk
      · exact .inr (by omega)
      · exact .inl hk⟩
  · have heq := fun w => px_eql c.a c.n p.a p.n false (px_bne hcp) w
    have HCP := Lib.hid hcp
    have HB2 : Hid (bitOf p.a c.n = 0) := Lib.hid (by
      have h8 := ((HCI.out.side hcp).2).2.2
      rw [HBIT.out] at h8
      have := bitOf_lt p.a c.n
      omega)
    clear hcp
    go_wp2
    refine wp_region_near (by kernel_rfl) (by kernel_rfl) ?_
    repeat (go_big_quiet_step (fail))
    refine wpQuiet_nil ?_
    rintro _ ⟨u2, rfl⟩
    have X8 := Lib.hid (touch_box u2.near X7.out (by simp))
    have U8 := Lib.hid (touch_box u2.near U7.out (by simp))
    have T8 := Lib.hid (T7.out.trans u2.near (by simp))
    clear n0 n1 m0 m1 heq
    obtain ⟨W8, hW⟩ : ∃ W8 : World, W8 = u2.w := ⟨_, rfl⟩
    rw [← hW] at U8 T8 X8 ⊢
    clear hW u2 U7 T7 X7
    obtain ⟨c0, c1, _, _, c4, c5, cf⟩ := node_cells U8.out
    obtain ⟨d0, d1, _⟩ := two_cells X8.out
    have f := cf 4
    have hl8 : ub < W8.heap.size := (Array.getElem?_eq_some_iff.1 U8.out).1
    clear cf
    have HFIN : Hid (HangPost w (.node q u l r) S p v (.returned (.tuple #[.pointer (some ⟨ub, 0, none⟩), .bool true])) ((W8.setCell ⟨ub, 4, none⟩ (.pointer (some ⟨W8.heap.size, 0, none⟩))).alloc (.cells (nodeC p (some v) (.pointer none) (.pointer none)) 90)).drew) := Lib.hid (by
      have tF : Touch [] w ((W8.setCell ⟨ub, 4, none⟩ (.pointer (some ⟨W8.heap.size, 0, none⟩))).alloc (.cells (nodeC p (some v) (.pointer none) (.pointer none)) 90)).drew := ((T8.out.setCell _ _ (.inr (by simp; omega))).alloc _).drew
      have hS := HT.out.lt
      have HH : hang (.node q u l r) p v = ((.node c none (.node p (some v) .nil .nil) (.node q u l r)), true) := by
        rw [hang, if_neg HE.out, if_neg HI.out]
        simp only [← HCC.out]
        rw [if_neg HCP.out, if_neg (by rw [HBIT.out]; decide)]
      unfold HangPost
      rw [HH]
      have hub2 : ub ∉ S := fun h => by have := hS _ h; omega
      obtain ⟨nb, hnb⟩ : ∃ nb, nb = W8.heap.size := ⟨_, rfl⟩
      have hlf : Tr ((W8.setCell ⟨ub, 4, none⟩ (.pointer (some ⟨W8.heap.size, 0, none⟩))).alloc (.cells (nodeC p (some v) (.pointer none) (.pointer none)) 90)).drew (.node p (some v) .nil .nil) (.pointer (some ⟨nb, 0, none⟩)) [nb] :=
        ⟨nb, .pointer none, .pointer none, [], [], rfl, box_at' (W8.setCell ⟨ub, 4, none⟩ (.pointer (some ⟨W8.heap.size, 0, none⟩))) _ nb (by rw [hnb]; simp), ⟨rfl, rfl⟩, ⟨rfl, rfl⟩, rfl, by simp, by simp, by simp⟩
      refine ⟨some ⟨ub, 0, none⟩, (ub :: ([nb] ++ S)), rfl, ⟨ub, _, _, [nb], S, rfl, box_keep (w := W8.setCell ⟨ub, 4, none⟩ (.pointer (some ⟨W8.heap.size, 0, none⟩))) _ (node_set4 U8.out _), ?_, HT.out.kept tF (by simp), rfl, by simp; omega, hub2, ?_⟩, tF.mono (by simp), fun k hk => ?_⟩
      · rw [← hnb] at hlf ⊢; exact hlf
      · intro k hk hk2
        simp at hk hk2
        have := hS k hk2; omega
      · simp at hk
        rcases hk with rfl | rfl | hk
        · exact .inr (by omega)
        · exact .inr (by omega)
        · exact .inl hk)
    have a0 := fun o => (two_cells (box_keep (w := W8) o X8.out)).1
    have a1 := fun o => (two_cells (box_keep (w := W8) o X8.out)).2.1
    have a2 := fun o => (node_cells (box_keep (w := W8) o U8.out)).2.1
    have a3 := fun o => (node_cells (box_keep (w := W8) o U8.out)).2.2.2.2.1
    have a4 := fun o => (node_cells (box_keep (w := W8) o U8.out)).2.2.2.2.2.2 4
    go_wp2_with fail
    go_region_law (first | (go_simp; go_at_call 45; refine (bit_calls _ _ _ hpa hc31).mono ?_; rw [HB2.out]; rintro e w7 ⟨rfl, hw7⟩; obtain rfl := hw7.symm))
    all_goals
      clear c0 c1 c4 c5 d0 d1 f a0 a1 a2 a3 a4
      go_wp2
      go_ret2
    all_goals exact HFIN.out
end Go.Proofs.Ytmklkdhpbehfeaa.Tri
