/- hang: the other ways; no condition. -/
import Derived.Test.YtnpeafhjcelpfaaGreatKB
import Derived.Deep.DeepCutAuto
namespace Go.Proofs.YtnpeafhjcelpfaaGreat.Tri
open Go.RowKit Go.Maps
set_option linter.unusedVariables false

set_option maxHeartbeats 1000000 in
theorem hang_nil (w : World) (p : Px) (v : Int) :
    Calls Tryz.prog 158 #[.pointer none, .agg #[.int .u32 p.a, .int .i64 p.n], .agg #[.int .u32 p.a, .int .i64 p.n, .int .u32 (rV v), .bool (rL v)]] w (HangPost w .nil [] p v) := by
  go_enter Tryz.func158, Tryz.ntmps158
  go_wp2
  go_ret2
  refine ⟨some ⟨w.heap.size + 1 + 1, 0, none⟩, [w.heap.size + 1 + 1], rfl, ⟨w.heap.size + 1 + 1, .pointer none, .pointer none, [], [], rfl, box_at' _ _ _ (by simp), ⟨rfl, rfl⟩, ⟨rfl, rfl⟩, rfl, by simp, by simp, by simp⟩, (((Touch.refl [] w).alloc _).alloc _).alloc _, ?_⟩
  intro k hk
  simp at hk; subst hk; exact .inr (by omega)
theorem drew_keep {w : World} {k : Nat} {x : Obj} (h : w.heap[k]? = some x) : w.drew.heap[k]? = some x := h
theorem node_putA {w : World} {b : Nat} {q : Px} {u : Option Int} {pl pr : Value} {T : TypeId} (h : w.heap[b]? = some (.cells (nodeC q u pl pr) T (0, 0))) {p : Px} (hp : p = q) (v : Int) :
    (((((w.setCell ⟨b, 2, none⟩ (.bool true)).setCell ⟨b, 3, none⟩ (.int .u32 p.a)).setCell ⟨b, 4, none⟩ (.int .i64 p.n)).setCell ⟨b, 5, none⟩ (.int .u32 (rV v))).setCell ⟨b, 6, none⟩ (.bool (rL v))).heap[b]? = some (.cells (nodeC q (some v) pl pr) T (0, 0)) ∧ Touch [b] w (((((w.setCell ⟨b, 2, none⟩ (.bool true)).setCell ⟨b, 3, none⟩ (.int .u32 p.a)).setCell ⟨b, 4, none⟩ (.int .i64 p.n)).setCell ⟨b, 5, none⟩ (.int .u32 (rV v))).setCell ⟨b, 6, none⟩ (.bool (rL v))) := by
  subst hp
  exact ⟨box_set (o := 6) (box_set (o := 5) (box_set (o := 4) (box_set (o := 3) (box_set (o := 2) h (.bool true)) (.int .u32 p.a)) (.int .i64 p.n)) (.int .u32 (rV v))) (.bool (rL v)), (((((Touch.refl [b] w).setCell _ _ (.inl (by simp))).setCell _ _ (.inl (by simp))).setCell _ _ (.inl (by simp))).setCell _ _ (.inl (by simp))).setCell _ _ (.inl (by simp))⟩
theorem node_putB {w : World} {b : Nat} {q : Px} {u : Option Int} {pl pr : Value} {T : TypeId} (h : w.heap[b]? = some (.cells (nodeC q u pl pr) T (0, 0))) {p : Px} (hp : p = q) (v : Int) :
    (((((w.setCell ⟨b, 3, none⟩ (.int .u32 p.a)).setCell ⟨b, 4, none⟩ (.int .i64 p.n)).setCell ⟨b, 5, none⟩ (.int .u32 (rV v))).setCell ⟨b, 6, none⟩ (.bool (rL v))).setCell ⟨b, 2, none⟩ (.bool true)).heap[b]? = some (.cells (nodeC q (some v) pl pr) T (0, 0)) ∧ Touch [b] w (((((w.setCell ⟨b, 3, none⟩ (.int .u32 p.a)).setCell ⟨b, 4, none⟩ (.int .i64 p.n)).setCell ⟨b, 5, none⟩ (.int .u32 (rV v))).setCell ⟨b, 6, none⟩ (.bool (rL v))).setCell ⟨b, 2, none⟩ (.bool true)) := by
  subst hp
  exact ⟨box_set (o := 2) (box_set (o := 6) (box_set (o := 5) (box_set (o := 4) (box_set (o := 3) h (.int .u32 p.a)) (.int .i64 p.n)) (.int .u32 (rV v))) (.bool (rL v))) (.bool true), (((((Touch.refl [b] w).setCell _ _ (.inl (by simp))).setCell _ _ (.inl (by simp))).setCell _ _ (.inl (by simp))).setCell _ _ (.inl (by simp))).setCell _ _ (.inl (by simp))⟩
set_option maxHeartbeats 2000000 in
set_option maxRecDepth 100000 in
theorem hang_eq (q : Px) (u : Option Int) (l r : T) (b : Nat) (pl pr : Value) (Sl Sr : List Nat) (w : World) (v : Int) (hb : w.heap[b]? = some (.cells (nodeC q u pl pr) 155 (0, 0))) (hl : Tr w l pl Sl) (hr : Tr w r pr Sr)
    (h1 : b ∉ Sl) (h2 : b ∉ Sr) (h3 : ∀ k ∈ Sl, k ∉ Sr) :
    Calls Tryz.prog 158 #[.pointer (some ⟨b, 0, none⟩), .agg #[.int .u32 q.a, .int .i64 q.n], .agg #[.int .u32 q.a, .int .i64 q.n, .int .u32 (rV v), .bool (rL v)]] w (HangPost w (.node q u l r) (b :: (Sl ++ Sr)) q v) := by
  obtain ⟨p, hp⟩ : ∃ p : Px, p = q := ⟨_, rfl⟩
  rw [show (Value.agg #[.int .u32 q.a, .int .i64 q.n]) = .agg #[.int .u32 p.a, .int .i64 p.n] by rw [hp], show (Value.agg #[.int .u32 q.a, .int .i64 q.n, .int .u32 (rV v), .bool (rL v)]) = .agg #[.int .u32 p.a, .int .i64 p.n, .int .u32 (rV v), .bool (rL v)] by rw [hp]]
  have hg := guard32
  have hne := fun w => px_eql q.a q.n p.a p.n true (px_beq hp.symm) w
  have HP := Lib.hid hp
  have HB := Lib.hid hb
  have HL := Lib.hid hl
  have HR := Lib.hid hr
  have H1 := Lib.hid h1
  have H2 := Lib.hid h2
  have H3 := Lib.hid h3
  have HLT := Lib.hid (Array.getElem?_eq_some_iff.1 hb).1
  clear hb hl hr h1 h2 h3 hp
  go_enter Tryz.func158, Tryz.ntmps158
  go_wp2
  obtain ⟨W1, hW1⟩ : ∃ W1 : World, W1 = (w.alloc (.cells #[.int .u32 p.a, .int .i64 p.n] 47)).alloc (.cells #[.int .u32 p.a, .int .i64 p.n, .int .u32 (rV v), .bool (rL v)] 49) := ⟨_, rfl⟩
  rw [← hW1]
  have X1 := Lib.hid (show W1.heap[w.heap.size]? = some (.cells #[.int .u32 p.a, .int .i64 p.n] 47 (0, 0)) by rw [hW1]; exact box_keep _ (box_at w _))
  have Z1 := Lib.hid (show W1.heap[w.heap.size + 1]? = some (.cells #[.int .u32 p.a, .int .i64 p.n, .int .u32 (rV v), .bool (rL v)] 49 (0, 0)) by rw [hW1]; exact box_at' _ _ _ (by simp))
  have T1 := Lib.hid (show Touch [] w W1 by rw [hW1]; exact ((Touch.refl [] w).alloc _).alloc _)
  have B1 := Lib.hid (touch_box T1.out HB.out (by simp))
  clear hW1
  obtain ⟨c0, c1, _⟩ := node_cells B1.out
  have n0 := fun u : Near W1 => u.cell c0
  have n1 := fun u : Near W1 => u.cell c1
  obtain ⟨d0, d1, _⟩ := two_cells X1.out
  have m0 := fun u : Near W1 => u.cell d0
  have m1 := fun u : Near W1 => u.cell d1
  clear c0 c1 d0 d1
  go_wp2
  refine wp_region_near (by kernel_rfl) (by kernel_rfl) ?_
  repeat (go_big_quiet_step (fail))
  refine wpQuiet_nil ?_
  rintro _ ⟨u2, rfl⟩
  have X2 := Lib.hid (touch_box u2.near X1.out (by simp))
  have Z2 := Lib.hid (touch_box u2.near Z1.out (by simp))
  have B2 := Lib.hid (touch_box u2.near B1.out (by simp))
  have T2 := Lib.hid (T1.out.trans u2.near (by simp))
  clear n0 n1 m0 m1
  obtain ⟨W2, hW⟩ : ∃ W2 : World, W2 = u2.w := ⟨_, rfl⟩
  rw [← hW] at X2 Z2 B2 T2 ⊢
  clear hW u2 X1 Z1 B1 T1
  obtain ⟨c0, c1, c2, ⟨c3, c4, c5, c6⟩, -, -, cf⟩ := node_cells B2.out
  obtain ⟨z0, z1, z2, z3⟩ := rt_cells Z2.out
  go_upto_region 5 with (fail)
  go_cut [] from 27 to 34 (fun wc => Hid (Touch [b] W2 wc) ∧ Hid (wc.heap[b]? = some (.cells (nodeC q (some v) pl pr) 155 (0, 0))))
  case first =>
    have g2 := cf 2
    have g3 := cf 3
    have g4 := cf 4
    have g5 := cf 5
    have g6 := cf 6
    clear cf
    have NZ : Hid (w.heap.size + 1 ∉ [b]) := Lib.hid (by simp; have := HLT.out; omega)
    have PA := Lib.hid (node_putA B2.out HP.out v)
    have PB := Lib.hid (node_putB B2.out HP.out v)
    have PC := Lib.hid (node_putA (show (World.drew W2).heap[b]? = _ from B2.out) HP.out v)
    have PD := Lib.hid (node_putB (show (World.drew W2).heap[b]? = _ from B2.out) HP.out v)
    have hz1 : ¬ (b = w.heap.size + 1) := by have := NZ.out; simp at this; omega
    have hz2 : ¬ (w.heap.size + 1 = b) := by have := NZ.out; simp at this; omega
    go_region_law (fail)
    all_goals (try go_wp2)
    all_goals go_meet
    all_goals first
      | exact ⟨Lib.hid PA.out.2.drew, Lib.hid PA.out.1⟩
      | exact ⟨Lib.hid PB.out.2.drew, Lib.hid PB.out.1⟩
      | exact ⟨Lib.hid (((Touch.refl [] W2).drew.mono (by simp)).trans PC.out.2 (fun x hx => .inl hx)), Lib.hid PC.out.1⟩
      | exact ⟨Lib.hid (((Touch.refl [] W2).drew.mono (by simp)).trans PD.out.2 (fun x hx => .inl hx)), Lib.hid PD.out.1⟩
  case rest =>
  obtain ⟨hts, hbs⟩ := hcut
  clear c0 c1 c2 c3 c4 c5 c6 cf z0 z1 z2 z3
  obtain ⟨W3, hW3⟩ : ∃ W3, W3 = wc := ⟨_, rfl⟩
  rw [← hW3] at hts hbs ⊢
  clear hW3
  have t3 : Touch [b] w W3 := (T2.out.mono (S' := [b]) (by simp)).trans hts.out (fun x hx => .inl hx)
  have T3 := Lib.hid t3
  clear t3
  go_wp2
  go_ret2
  have t3 := T3.out
  unfold HangPost
  rw [hang, if_pos rfl]
  refine ⟨some ⟨b, 0, none⟩, b :: (Sl ++ Sr), by cases u <;> rfl, ⟨b, pl, pr, Sl, Sr, rfl, hbs.out, HL.out.kept t3 ?_, HR.out.kept t3 ?_, rfl, H1.out, H2.out, H3.out⟩, t3.mono (by simp), fun k hk => .inl hk⟩
  · intro k hk hx; simp at hx; subst hx; exact H1.out hk
  · intro k hk hx; simp at hx; subst hx; exact H2.out hk
end Go.Proofs.YtnpeafhjcelpfaaGreat.Tri
