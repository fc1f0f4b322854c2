/- weftref5: copied, fits, part; no condition. -/
import Derived.Test.YtelfemhnijnhfaaFM
namespace Go.Proofs.Ytelfemhnijnhfaa.Fr
open Go.RowKit Go.Maps
set_option linter.unusedVariables false
set_option maxRecDepth 100000
attribute [local go_sem] nilB

theorem splice_all {l m : List Int} (h : l.length = m.length) : splice l 0 m = m := by
  unfold splice
  rw [List.take_zero, List.nil_append, Nat.zero_add, List.drop_eq_nil_of_le (by omega), List.append_nil]
set_option maxHeartbeats 1000000 in
theorem rclone_calls {w : World} {V : Value} {l : List Int} (h : RdB w V l) (hlen : l.length ≤ 140737488355328) :
    Calls Try.prog 67 #[V] w (ClonePost w l) := by
  have H := Lib.hid h
  have HL := Lib.hid hlen
  obtain ⟨A, cap, rfl⟩ := h.len_lt
  clear h hlen
  go_enter Try.func67, Try.ntmps67
  go_upto_region 2 with (refine wpList_make_b _ (by rfl) (.tmp 5) (.tmp 5) (by rfl) l.length (by rfl) (by rfl) HL.out ?_; intro w3 o3 t3; have O3 := Lib.hid o3; have T3 := Lib.hid t3; clear o3 t3)
  go_wp2_with (refine wpList_copy_n (by rfl) (.tmp 7) (.tmp 8) (by rfl) 0 (List.replicate l.length 0) l (.slice A l.length cap) (by rfl) (by rfl) O3.out (H.out.near T3.out) (fun _ => by rfl) (by omega) (Nat.le_refl _) HL.out ?_; intro w4 o4 t4; have O4 := Lib.hid o4; have T4 := Lib.hid (T3.out.trans t4 (by simp)); clear o4 t4)
  go_ret
  refine ⟨_, rfl, ?_, fun b hb => by simp [Value.ownBlock] at hb; omega, T4.out⟩
  have := O4.out
  rw [splice_all (by simp)] at this
  exact this
set_option maxHeartbeats 1000000 in
theorem fits_calls (w : World) (A : Option Addr) (n cap : Nat) (mtu : Int) (hn : n ≤ 1000) (h0 : 0 ≤ mtu) (h1 : mtu ≤ 9223372036854775807) :
    Calls Try.prog 32 #[.slice A n cap, .int .i64 mtu] w fun e w' => e = .returned (.int .i64 (mtu - 20 - n)) ∧ w' = w := by
  go_enter Try.func32, Try.ntmps32
  go_wp2
  go_ret
  exact ⟨rfl, rfl⟩
/-- The stretch of a list that is told by a slice expression. -/
def PartPost (w : World) (h : Hd) (opts body : List Int) (e : Ending) (w' : World) : Prop :=
  ∃ VO VB, e = .returned (.agg (pkC h VO VB)) ∧ OwB w' VO opts ∧ OwB w' VB body ∧ Fresh w.heap.size VO ∧ Fresh w.heap.size VB ∧ (∀ b, VO.ownBlock = some b → VB.ownBlock ≠ some b) ∧ Touch [] w w'
set_option maxHeartbeats 4000000 in
theorem part_calls {w : World} {VO VB VP : Value} {p : Pk} {ol : List Int} (hvo : RdB w VO p.opts) (hb : RdB w VB p.body) (ho : RdB w VP ol) (hlo : ol.length ≤ 1000) (hlb : p.body.length ≤ 70000) (fr tt : Nat) (hft : fr ≤ tt) (htl : tt ≤ p.body.length) (hfr : fr < p.body.length) (mf : Bool) (hoff : 0 ≤ p.h.off ∧ p.h.off ≤ 70000) (FR TO : Int) (hFR : FR = fr) (hTO : TO = tt) :
    Calls Try.prog 33 #[.agg (pkC p.h VO VB), .int .i64 FR, .int .i64 TO, VP, .bool mf] w (PartPost w { p.h with off := p.h.off + fr, mf := mf } ol ((p.body.drop fr).take (tt - fr))) := by
  subst hFR hTO
  have HB := Lib.hid hb
  have HO := Lib.hid ho
  obtain ⟨of1, of2⟩ := hoff
  obtain ⟨AO, capO, rfl⟩ := ho.len_lt
  obtain ⟨AV, capV, rfl⟩ := hvo.len_lt
  obtain ⟨AB, capB, rfl⟩ := hb.len_lt
  clear hb ho hvo
  go_enter Try.func33, Try.ntmps33
  go_upto_region 1 with (fail)
  obtain ⟨W0, hW0⟩ : ∃ W0 : World, W0 = (w.alloc (.cells (pkC p.h (.slice AV p.opts.length capV) (.slice AB p.body.length capB)) 30)).alloc (.cells #[.int .u8 0, .int .u16 0, .bool false, .bool false, .int .i64 0, .int .u8 0, .int .u8 0, .int .u32 0, .int .u32 0, .slice none 0 0, .slice none 0 0] 30) := ⟨_, rfl⟩
  rw [← hW0]
  have X0 := Lib.hid (show W0.heap[w.heap.size]? = some (.cells (pkC p.h (.slice AV p.opts.length capV) (.slice AB p.body.length capB)) 30 (0, 0)) by rw [hW0]; exact box_keep _ (box_at w _))
  have Y0 := Lib.hid (show W0.heap[w.heap.size + 1]? = some (.cells (pkC ⟨0, 0, false, false, 0, 0, 0, 0, 0⟩ (.slice none 0 0) (.slice none 0 0)) 30 (0, 0)) by rw [hW0]; exact box_at' _ _ _ (by simp))
  have T0 := Lib.hid (show Touch [] w W0 by rw [hW0]; exact ((Touch.refl [] w).alloc _).alloc _)
  have S0 := Lib.hid (show W0.heap.size = w.heap.size + 2 by rw [hW0]; simp)
  clear hW0
  obtain ⟨c0, c1, c2, c3, c4, c5, c6, c7, c8, c9, c10⟩ := pk_cells X0.out
  go_upto_region 2 with (fail)
  obtain ⟨b2, hb2⟩ : ∃ b2, b2 = W0.heap.size := ⟨_, rfl⟩
  obtain ⟨W1, hW1⟩ : ∃ W1 : World, W1 = W0.alloc (.cells (pkC p.h (.slice AV p.opts.length capV) (.slice AB p.body.length capB)) 30) := ⟨_, rfl⟩
  rw [← hW1]
  have X1 := Lib.hid (show W1.heap[w.heap.size]? = some (.cells (pkC p.h (.slice AV p.opts.length capV) (.slice AB p.body.length capB)) 30 (0, 0)) by rw [hW1]; exact box_keep _ X0.out)
  have Y1 := Lib.hid (show W1.heap[w.heap.size + 1]? = some (.cells (pkC ⟨0, 0, false, false, 0, 0, 0, 0, 0⟩ (.slice none 0 0) (.slice none 0 0)) 30 (0, 0)) by rw [hW1]; exact box_keep _ Y0.out)
  have Z1 := (show W1.heap[b2]? = some (.cells (pkC p.h (.slice AV p.opts.length capV) (.slice AB p.body.length capB)) 30 (0, 0)) by rw [hW1, hb2]; exact box_at _ _)
  have T1 := Lib.hid (show Touch [] w W1 by rw [hW1]; exact T0.out.alloc _)
  have S1 : Hid (b2 = w.heap.size + 2 ∧ W1.heap.size = w.heap.size + 3) := Lib.hid (by rw [hb2, hW1]; have := S0.out; simp [this])
  rw [← hb2]
  have ne1 : ¬ w.heap.size = b2 := by have := S1.out.1; omega
  have ne2 : ¬ b2 = w.heap.size := fun e => ne1 e.symm
  clear hb2 hW1 X0 Y0 T0 S0 c0 c1 c2 c3 c4 c5 c6 c7 c8 c9 c10
  obtain ⟨c0, c1, c2, c3, c4, c5, c6, c7, c8, c9, c10⟩ := pk_cells X1.out
  obtain ⟨d0, d1, d2, d3, d4, d5, d6, d7, d8, d9, d10⟩ := pk_cells Z1
  have z := fun o => box_frozen Z1 o
  obtain ⟨W3, hW3⟩ : ∃ W3 : World, W3 = (W1.setCell ⟨b2, 4, none⟩ (.int .i64 (p.h.off + (fr : Int)))).setCell ⟨b2, 3, none⟩ (.bool mf) := ⟨_, rfl⟩
  have Z3 : Hid (W3.heap[b2]? = some (.cells (pkC { p.h with off := p.h.off + fr, mf := mf } (.slice AV p.opts.length capV) (.slice AB p.body.length capB)) 30 (0, 0))) := Lib.hid (by rw [hW3]; simpa using box_set (o := 3) (box_set (o := 4) Z1 (.int .i64 (p.h.off + (fr : Int)))) (.bool mf))
  have t3 : Touch [b2] W1 W3 := by rw [hW3]; exact ((Touch.refl _ W1).setCell _ _ (.inl (by simp))).setCell _ _ (.inl (by simp))
  have X3 := Lib.hid (touch_box t3 X1.out (by simpa using ne1))
  have Y3 := Lib.hid (touch_box t3 Y1.out (by have := S1.out.1; simp; omega))
  have T3 := Lib.hid (T1.out.trans t3 (by have := S1.out.1; simp; omega))
  have S3 : Hid (W3.heap.size = w.heap.size + 3) := Lib.hid (by rw [hW3]; have := S1.out.2; simp [this])
  have SB := Lib.hid S1.out.1
  go_upto_region 4 with (fail)
  rw [← hW3]
  clear hW3 t3 Z1 X1 Y1 T1 S1 c0 c1 c2 c3 c4 c5 c6 c7 c8 c9 c10 d0 d1 d2 d3 d4 d5 d6 d7 d8 d9 d10 z
  go_wp2_with fail
  refine (rclone_calls (HO.out.near T3.out) (by omega)).mono ?_
  rintro e w4 ⟨VO1, rfl, o4, f4, t4⟩
  obtain ⟨A4, cp4, rfl⟩ := o4.row.form
  have Z4 := Lib.hid (touch_box t4 Z3.out (by simp))
  have X4 := Lib.hid (touch_box t4 X3.out (by simp))
  have Y4 := Lib.hid (touch_box t4 Y3.out (by simp))
  have T4 := Lib.hid (T3.out.trans t4 (by simp))
  have O4 := Lib.hid o4
  have F4 := Lib.hid f4
  have S4 := Lib.hid t4.size
  clear o4 f4 t4 Z3 X3 Y3
  obtain ⟨W5, hW5⟩ : ∃ W5 : World, W5 = w4.setCell ⟨b2, 9, none⟩ (.slice A4 ol.length cp4) := ⟨_, rfl⟩
  have Z5 := Lib.hid (show W5.heap[b2]? = some (.cells (pkC { p.h with off := p.h.off + fr, mf := mf } (.slice A4 ol.length cp4) (.slice AB p.body.length capB)) 30 (0, 0)) by rw [hW5]; simpa using box_set (o := 9) Z4.out (.slice A4 ol.length cp4))
  have t5 : Touch [b2] w4 W5 := by rw [hW5]; exact (Touch.refl _ w4).setCell _ _ (.inl (by simp))
  have X5 := Lib.hid (touch_box t5 X4.out (by simpa using ne1))
  have Y5 := Lib.hid (touch_box t5 Y4.out (by have := SB.out; simp; omega))
  have T5 := Lib.hid (T4.out.trans t5 (by have := SB.out; simp; omega))
  have O5 := Lib.hid (O4.out.kept t5 (fun k hk h => by have := F4.out k hk; have := S3.out; have := SB.out; simp at h; omega))
  have S5 := Lib.hid t5.size
  obtain ⟨_, _, _, _, _, _, _, _, _, d9, d10⟩ := pk_cells Z4.out
  have z9 := box_frozen Z4.out 9
  go_upto_region 5 with (fail)
  rw [← hW5]
  clear hW5 t5 Z4 X4 Y4 T4 O4 d9 d10 z9
  obtain ⟨c0, c1, c2, c3, c4, c5, c6, c7, c8, c9, c10⟩ := pk_cells X5.out
  have hB5 := HB.out.near T5.out
  have HB5 := Lib.hid hB5
  obtain ⟨⟨A', cap', hV, hcap, hnil, hr⟩, wf⟩ := hB5
  simp only [Value.slice.injEq, true_and] at hV
  obtain ⟨rfl, rfl⟩ := hV
  obtain ⟨M, hM⟩ : ∃ M, M = (p.body.drop fr).take (tt - fr) := ⟨_, rfl⟩
  have hMl : Hid (M.length ≤ 70000) := Lib.hid (by rw [hM, List.length_take, List.length_drop]; omega)
  rw [← hM]
  have HM := Lib.hid hM
  clear hM
  go_cut [] from 27 to 33 (fun wc => ∃ (A6 : Option Addr) (cp6 : Nat), Hid (wc.heap[b2]? = some (.cells (pkC { p.h with off := p.h.off + fr, mf := mf } (.slice A4 ol.length cp4) (.slice A6 M.length cp6)) 30 (0, 0))) ∧ Hid (OwB wc (.slice A6 M.length cp6) M) ∧ Hid (Fresh W5.heap.size (.slice A6 M.length cp6)) ∧ Hid (Touch [b2] W5 wc))
  case first =>
    obtain ⟨b, off, hA, hb, hc⟩ := hr (by omega)
    subst hA
    have RS := Lib.hid (RdB.sub HB5.out (lo := fr) (hi := tt) hft htl)
    rw [← HM.out] at RS
    have cn : ¬ capB = fr := by omega
    have l1 : (tt : Int) ≤ (capB : Int) := by omega
    have l2 : (fr : Int) ≤ (tt : Int) := by omega
    clear hr wf hnil hc
    go_wp2_with fail
    refine (rclone_calls RS.out (by have := hMl.out; omega)).mono ?_
    rintro e w6 ⟨VB1, rfl, o6, f6, t6⟩
    obtain ⟨A6, cp6, rfl⟩ := o6.row.form
    have Z6 := Lib.hid (touch_box t6 Z5.out (by simp))
    have O6 := Lib.hid o6
    have F6 := Lib.hid f6
    have T6 := Lib.hid t6
    clear o6 f6 t6 c0 c1 c2 c3 c4 c5 c6 c7 c8 c9 c10
    obtain ⟨_, _, _, _, _, _, _, _, _, _, d10⟩ := pk_cells Z6.out
    have z10 := box_frozen Z6.out 10
    go_wp2
    go_meet
    case rel =>
      have t7 : Touch [b2] w6 (w6.setCell ⟨b2, 10, none⟩ (.slice A6 M.length cp6)) := (Touch.refl _ w6).setCell _ _ (.inl (by simp))
      refine ⟨A6, cp6, Lib.hid ?_, Lib.hid (O6.out.kept t7 (fun k hk h => ?_)), F6, Lib.hid (T6.out.mono (by simp) |>.trans t7 (fun x hx => .inl hx))⟩
      · simpa using box_set (o := 10) Z6.out (.slice A6 M.length cp6)
      · have := F6.out k hk
        have := S3.out
        have := S4.out
        have := S5.out
        have := SB.out
        simp at h; omega
  case rest =>
  obtain ⟨A6, cp6, Z6, O6, F6, T6⟩ := hcut
  obtain ⟨w6, hw6⟩ : ∃ w6, w6 = wc := ⟨_, rfl⟩
  rw [← hw6] at Z6 O6 T6 ⊢
  clear hw6
  have X6 := Lib.hid (touch_box T6.out X5.out (by simpa using ne1))
  have Y6 := Lib.hid (touch_box T6.out Y5.out (by have := SB.out; simp; omega))
  have TT6 := Lib.hid (T5.out.trans T6.out (by have := SB.out; simp; omega))
  have F4w := Lib.hid (F4.out)
  have O56 := Lib.hid (O5.out.kept T6.out (fun k hk h => by have := F4.out k hk; have := S3.out; have := SB.out; simp at h; omega))
  have NE : Hid (∀ b, (Value.slice A4 ol.length cp4).ownBlock = some b → (Value.slice A6 M.length cp6).ownBlock ≠ some b) := Lib.hid (fun b hb hb2 => by
    have h1 := F6.out b hb2
    have h2 := O5.out.row.lt b hb
    omega)
  clear c0 c1 c2 c3 c4 c5 c6 c7 c8 c9 c10 hr wf hnil
  obtain ⟨c0, c1, c2, c3, c4, c5, c6, c7, c8, c9, c10⟩ := pk_cells Z6.out
  obtain ⟨d0, d1, d2, d3, d4, d5, d6, d7, d8, d9, d10⟩ := pk_cells Y6.out
  have z := fun o => box_frozen Y6.out o
  go_wp2
  obtain ⟨W7, hW7, X7, t7⟩ := pk_set (w := w6) (k := w.heap.size + 1) (h := { p.h with off := p.h.off + fr, mf := mf }) (VO := .slice A4 ol.length cp4) (VB := .slice A6 M.length cp6) Y6.out
  rw [← hW7]
  clear hW7 c0 c1 c2 c3 c4 c5 c6 c7 c8 c9 c10 d0 d1 d2 d3 d4 d5 d6 d7 d8 d9 d10 z
  obtain ⟨c0, c1, c2, c3, c4, c5, c6, c7, c8, c9, c10⟩ := pk_cells X7
  have hs3 := S3.out
  have hs4 := S4.out
  have hs5 := S5.out
  have f4 := F4.out
  have f6 := F6.out
  refine bodyPost_ret (v := .agg (pkC { p.h with off := p.h.off + fr, mf := mf } (.slice A4 ol.length cp4) (.slice A6 M.length cp6))) (by simp [results, Try.results33, go_sem, c0, c1, c2, c3, c4, c5, c6, c7, c8, c9, c10]) rfl ?_
  have hMo := HM.out
  unfold PartPost
  rw [← hMo]
  refine ⟨_, _, rfl, O56.out.kept t7 (fun k hk h => ?_), O6.out.kept t7 (fun k hk h => ?_), fun b hb => ?_, fun b hb => ?_, NE.out, TT6.out.trans t7 (fun x hx => .inr ?_)⟩
  · have := f4 k hk; simp at h; omega
  · have := f6 k hk; simp at h; omega
  · have := f4 b hb; omega
  · have := f6 b hb; omega
  · simp at hx; omega
set_option maxHeartbeats 4000000 in
theorem part_nil {w : World} {VO VB VP : Value} {p : Pk} {ol : List Int} (hvo : RdB w VO p.opts) (hb : RdB w VB p.body) (ho : RdB w VP ol) (hlo : ol.length ≤ 1000) (hlb : p.body.length ≤ 70000) (hn0 : p.body.length = 0) (mf : Bool) (hoff : 0 ≤ p.h.off ∧ p.h.off ≤ 70000) (FR TO : Int) (hFR : FR = 0) (hTO : TO = 0) :
    Calls Try.prog 33 #[.agg (pkC p.h VO VB), .int .i64 FR, .int .i64 TO, VP, .bool mf] w (PartPost w { p.h with mf := mf } ol []) := by
  subst hFR hTO
  have HN0 := Lib.hid hn0
  have HB := Lib.hid hb
  have HO := Lib.hid ho
  obtain ⟨of1, of2⟩ := hoff
  obtain ⟨AO, capO, rfl⟩ := ho.len_lt
  obtain ⟨AV, capV, rfl⟩ := hvo.len_lt
  obtain ⟨AB, capB, rfl⟩ := hb.len_lt
  clear hb ho hvo hn0
  go_enter Try.func33, Try.ntmps33
  go_upto_region 1 with (fail)
  obtain ⟨W0, hW0⟩ : ∃ W0 : World, W0 = (w.alloc (.cells (pkC p.h (.slice AV p.opts.length capV) (.slice AB p.body.length capB)) 30)).alloc (.cells #[.int .u8 0, .int .u16 0, .bool false, .bool false, .int .i64 0, .int .u8 0, .int .u8 0, .int .u32 0, .int .u32 0, .slice none 0 0, .slice none 0 0] 30) := ⟨_, rfl⟩
  rw [← hW0]
  have X0 := Lib.hid (show W0.heap[w.heap.size]? = some (.cells (pkC p.h (.slice AV p.opts.length capV) (.slice AB p.body.length capB)) 30 (0, 0)) by rw [hW0]; exact box_keep _ (box_at w _))
  have Y0 := Lib.hid (show W0.heap[w.heap.size + 1]? = some (.cells (pkC ⟨0, 0, false, false, 0, 0, 0, 0, 0⟩ (.slice none 0 0) (.slice none 0 0)) 30 (0, 0)) by rw [hW0]; exact box_at' _ _ _ (by simp))
  have T0 := Lib.hid (show Touch [] w W0 by rw [hW0]; exact ((Touch.refl [] w).alloc _).alloc _)
  have S0 := Lib.hid (show W0.heap.size = w.heap.size + 2 by rw [hW0]; simp)
  clear hW0
  obtain ⟨c0, c1, c2, c3, c4, c5, c6, c7, c8, c9, c10⟩ := pk_cells X0.out
  go_upto_region 2 with (fail)
  obtain ⟨b2, hb2⟩ : ∃ b2, b2 = W0.heap.size := ⟨_, rfl⟩
  obtain ⟨W1, hW1⟩ : ∃ W1 : World, W1 = W0.alloc (.cells (pkC p.h (.slice AV p.opts.length capV) (.slice AB p.body.length capB)) 30) := ⟨_, rfl⟩
  rw [← hW1]
  have X1 := Lib.hid (show W1.heap[w.heap.size]? = some (.cells (pkC p.h (.slice AV p.opts.length capV) (.slice AB p.body.length capB)) 30 (0, 0)) by rw [hW1]; exact box_keep _ X0.out)
  have Y1 := Lib.hid (show W1.heap[w.heap.size + 1]? = some (.cells (pkC ⟨0, 0, false, false, 0, 0, 0, 0, 0⟩ (.slice none 0 0) (.slice none 0 0)) 30 (0, 0)) by rw [hW1]; exact box_keep _ Y0.out)
  have Z1 := (show W1.heap[b2]? = some (.cells (pkC p.h (.slice AV p.opts.length capV) (.slice AB p.body.length capB)) 30 (0, 0)) by rw [hW1, hb2]; exact box_at _ _)
  have T1 := Lib.hid (show Touch [] w W1 by rw [hW1]; exact T0.out.alloc _)
  have S1 : Hid (b2 = w.heap.size + 2 ∧ W1.heap.size = w.heap.size + 3) := Lib.hid (by rw [hb2, hW1]; have := S0.out; simp [this])
  rw [← hb2]
  have ne1 : ¬ w.heap.size = b2 := by have := S1.out.1; omega
  have ne2 : ¬ b2 = w.heap.size := fun e => ne1 e.symm
  clear hb2 hW1 X0 Y0 T0 S0 c0 c1 c2 c3 c4 c5 c6 c7 c8 c9 c10
  obtain ⟨c0, c1, c2, c3, c4, c5, c6, c7, c8, c9, c10⟩ := pk_cells X1.out
  obtain ⟨d0, d1, d2, d3, d4, d5, d6, d7, d8, d9, d10⟩ := pk_cells Z1
  have z := fun o => box_frozen Z1 o
  obtain ⟨W3, hW3⟩ : ∃ W3 : World, W3 = (W1.setCell ⟨b2, 4, none⟩ (.int .i64 p.h.off)).setCell ⟨b2, 3, none⟩ (.bool mf) := ⟨_, rfl⟩
  have Z3 : Hid (W3.heap[b2]? = some (.cells (pkC { p.h with mf := mf } (.slice AV p.opts.length capV) (.slice AB p.body.length capB)) 30 (0, 0))) := Lib.hid (by rw [hW3]; simpa using box_set (o := 3) (box_set (o := 4) Z1 (.int .i64 p.h.off)) (.bool mf))
  have t3 : Touch [b2] W1 W3 := by rw [hW3]; exact ((Touch.refl _ W1).setCell _ _ (.inl (by simp))).setCell _ _ (.inl (by simp))
  have X3 := Lib.hid (touch_box t3 X1.out (by simpa using ne1))
  have Y3 := Lib.hid (touch_box t3 Y1.out (by have := S1.out.1; simp; omega))
  have T3 := Lib.hid (T1.out.trans t3 (by have := S1.out.1; simp; omega))
  have S3 : Hid (W3.heap.size = w.heap.size + 3) := Lib.hid (by rw [hW3]; have := S1.out.2; simp [this])
  have SB := Lib.hid S1.out.1
  go_upto_region 4 with (fail)
  rw [← hW3]
  clear hW3 t3 Z1 X1 Y1 T1 S1 c0 c1 c2 c3 c4 c5 c6 c7 c8 c9 c10 d0 d1 d2 d3 d4 d5 d6 d7 d8 d9 d10 z
  go_wp2_with fail
  refine (rclone_calls (HO.out.near T3.out) (by omega)).mono ?_
  rintro e w4 ⟨VO1, rfl, o4, f4, t4⟩
  obtain ⟨A4, cp4, rfl⟩ := o4.row.form
  have Z4 := Lib.hid (touch_box t4 Z3.out (by simp))
  have X4 := Lib.hid (touch_box t4 X3.out (by simp))
  have Y4 := Lib.hid (touch_box t4 Y3.out (by simp))
  have T4 := Lib.hid (T3.out.trans t4 (by simp))
  have O4 := Lib.hid o4
  have F4 := Lib.hid f4
  have S4 := Lib.hid t4.size
  clear o4 f4 t4 Z3 X3 Y3
  obtain ⟨W5, hW5⟩ : ∃ W5 : World, W5 = w4.setCell ⟨b2, 9, none⟩ (.slice A4 ol.length cp4) := ⟨_, rfl⟩
  have Z5 := Lib.hid (show W5.heap[b2]? = some (.cells (pkC { p.h with mf := mf } (.slice A4 ol.length cp4) (.slice AB p.body.length capB)) 30 (0, 0)) by rw [hW5]; simpa using box_set (o := 9) Z4.out (.slice A4 ol.length cp4))
  have t5 : Touch [b2] w4 W5 := by rw [hW5]; exact (Touch.refl _ w4).setCell _ _ (.inl (by simp))
  have X5 := Lib.hid (touch_box t5 X4.out (by simpa using ne1))
  have Y5 := Lib.hid (touch_box t5 Y4.out (by have := SB.out; simp; omega))
  have T5 := Lib.hid (T4.out.trans t5 (by have := SB.out; simp; omega))
  have O5 := Lib.hid (O4.out.kept t5 (fun k hk h => by have := F4.out k hk; have := S3.out; have := SB.out; simp at h; omega))
  have S5 := Lib.hid t5.size
  obtain ⟨_, _, _, _, _, _, _, _, _, d9, d10⟩ := pk_cells Z4.out
  have z9 := box_frozen Z4.out 9
  go_upto_region 5 with (fail)
  rw [← hW5]
  clear hW5 t5 Z4 X4 Y4 T4 O4 d9 d10 z9
  obtain ⟨c0, c1, c2, c3, c4, c5, c6, c7, c8, c9, c10⟩ := pk_cells X5.out
  have hB5 := HB.out.near T5.out
  have HB5 := Lib.hid hB5
  obtain ⟨⟨A', cap', hV, hcap, hnil, hr⟩, wf⟩ := hB5
  simp only [Value.slice.injEq, true_and] at hV
  obtain ⟨rfl, rfl⟩ := hV
  obtain ⟨M, hM⟩ : ∃ M : List Int, M = [] := ⟨_, rfl⟩
  have hMl : Hid (M.length ≤ 70000) := Lib.hid (by rw [hM]; simp)
  have HM := Lib.hid hM
  clear hM
  go_cut [] from 27 to 33 (fun wc => ∃ (A6 : Option Addr) (cp6 : Nat), Hid (wc.heap[b2]? = some (.cells (pkC { p.h with mf := mf } (.slice A4 ol.length cp4) (.slice A6 M.length cp6)) 30 (0, 0))) ∧ Hid (OwB wc (.slice A6 M.length cp6) M) ∧ Hid (Fresh W5.heap.size (.slice A6 M.length cp6)) ∧ Hid (Touch [b2] W5 wc))
  case first =>
    rcases AB with _ | ab
    · obtain rfl := hnil rfl
      clear hnil
      go_wp2_with fail
      refine (rclone_calls (l := M) (by rw [HM.out]; exact RdB.nil _) (by have := hMl.out; omega)).mono ?_
      rintro e w6 ⟨VB1, rfl, o6, f6, t6⟩
      obtain ⟨A6, cp6, rfl⟩ := o6.row.form
      have Z6 := Lib.hid (touch_box t6 Z5.out (by simp))
      have O6 := Lib.hid o6
      have F6 := Lib.hid f6
      have T6 := Lib.hid t6
      clear o6 f6 t6 c0 c1 c2 c3 c4 c5 c6 c7 c8 c9 c10
      obtain ⟨_, _, _, _, _, _, _, _, _, _, d10⟩ := pk_cells Z6.out
      have z10 := box_frozen Z6.out 10
      go_wp2
      go_meet
      case rel =>
        have t7 : Touch [b2] w6 (w6.setCell ⟨b2, 10, none⟩ (.slice A6 M.length cp6)) := (Touch.refl _ w6).setCell _ _ (.inl (by simp))
        refine ⟨A6, cp6, Lib.hid ?_, Lib.hid (O6.out.kept t7 (fun k hk h => ?_)), F6, Lib.hid (T6.out.mono (by simp) |>.trans t7 (fun x hx => .inl hx))⟩
        · simpa using box_set (o := 10) Z6.out (.slice A6 M.length cp6)
        · have := F6.out k hk
          have := S3.out
          have := S4.out
          have := S5.out
          have := SB.out
          simp at h; omega
    · clear hnil
      go_wp2_with fail
      refine (rclone_calls (l := M) (by rw [HM.out]; exact ⟨⟨_, _, rfl, Nat.zero_le _, fun e => by (cases e), fun h => by simp at h⟩, by simp [okB]⟩) (by have := hMl.out; omega)).mono ?_
      rintro e w6 ⟨VB1, rfl, o6, f6, t6⟩
      obtain ⟨A6, cp6, rfl⟩ := o6.row.form
      have Z6 := Lib.hid (touch_box t6 Z5.out (by simp))
      have O6 := Lib.hid o6
      have F6 := Lib.hid f6
      have T6 := Lib.hid t6
      clear o6 f6 t6 c0 c1 c2 c3 c4 c5 c6 c7 c8 c9 c10
      obtain ⟨_, _, _, _, _, _, _, _, _, _, d10⟩ := pk_cells Z6.out
      have z10 := box_frozen Z6.out 10
      go_wp2
      go_meet
      case rel =>
        have t7 : Touch [b2] w6 (w6.setCell ⟨b2, 10, none⟩ (.slice A6 M.length cp6)) := (Touch.refl _ w6).setCell _ _ (.inl (by simp))
        refine ⟨A6, cp6, Lib.hid ?_, Lib.hid (O6.out.kept t7 (fun k hk h => ?_)), F6, Lib.hid (T6.out.mono (by simp) |>.trans t7 (fun x hx => .inl hx))⟩
        · simpa using box_set (o := 10) Z6.out (.slice A6 M.length cp6)
        · have := F6.out k hk
          have := S3.out
          have := S4.out
          have := S5.out
          have := SB.out
          simp at h; omega
  case rest =>
  obtain ⟨A6, cp6, Z6, O6, F6, T6⟩ := hcut
  obtain ⟨w6, hw6⟩ : ∃ w6, w6 = wc := ⟨_, rfl⟩
  rw [← hw6] at Z6 O6 T6 ⊢
  clear hw6
  have X6 := Lib.hid (touch_box T6.out X5.out (by simpa using ne1))
  have Y6 := Lib.hid (touch_box T6.out Y5.out (by have := SB.out; simp; omega))
  have TT6 := Lib.hid (T5.out.trans T6.out (by have := SB.out; simp; omega))
  have F4w := Lib.hid (F4.out)
  have O56 := Lib.hid (O5.out.kept T6.out (fun k hk h => by have := F4.out k hk; have := S3.out; have := SB.out; simp at h; omega))
  have NE : Hid (∀ b, (Value.slice A4 ol.length cp4).ownBlock = some b → (Value.slice A6 M.length cp6).ownBlock ≠ some b) := Lib.hid (fun b hb hb2 => by
    have h1 := F6.out b hb2
    have h2 := O5.out.row.lt b hb
    omega)
  clear c0 c1 c2 c3 c4 c5 c6 c7 c8 c9 c10 hr wf hnil
  obtain ⟨c0, c1, c2, c3, c4, c5, c6, c7, c8, c9, c10⟩ := pk_cells Z6.out
  obtain ⟨d0, d1, d2, d3, d4, d5, d6, d7, d8, d9, d10⟩ := pk_cells Y6.out
  have z := fun o => box_frozen Y6.out o
  go_wp2
  obtain ⟨W7, hW7, X7, t7⟩ := pk_set (w := w6) (k := w.heap.size + 1) (h := { p.h with mf := mf }) (VO := .slice A4 ol.length cp4) (VB := .slice A6 M.length cp6) Y6.out
  rw [← hW7]
  clear hW7 c0 c1 c2 c3 c4 c5 c6 c7 c8 c9 c10 d0 d1 d2 d3 d4 d5 d6 d7 d8 d9 d10 z
  obtain ⟨c0, c1, c2, c3, c4, c5, c6, c7, c8, c9, c10⟩ := pk_cells X7
  have hs3 := S3.out
  have hs4 := S4.out
  have hs5 := S5.out
  have f4 := F4.out
  have f6 := F6.out
  refine bodyPost_ret (v := .agg (pkC { p.h with mf := mf } (.slice A4 ol.length cp4) (.slice A6 M.length cp6))) (by simp [results, Try.results33, go_sem, c0, c1, c2, c3, c4, c5, c6, c7, c8, c9, c10]) rfl ?_
  have hMo := HM.out
  unfold PartPost
  rw [← hMo]
  refine ⟨_, _, rfl, O56.out.kept t7 (fun k hk h => ?_), O6.out.kept t7 (fun k hk h => ?_), fun b hb => ?_, fun b hb => ?_, NE.out, TT6.out.trans t7 (fun x hx => .inr ?_)⟩
  · have := f4 k hk; simp at h; omega
  · have := f6 k hk; simp at h; omega
  · have := f4 b hb; omega
  · have := f6 b hb; omega
  · simp at hx; omega
end Go.Proofs.Ytelfemhnijnhfaa.Fr
