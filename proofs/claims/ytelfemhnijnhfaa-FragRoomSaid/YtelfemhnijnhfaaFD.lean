/- Copies and comparisons of packets; no condition. -/
import Derived.Test.YtelfemhnijnhfaaFC
namespace Go.Proofs.Ytelfemhnijnhfaa.Fr
open Go.RowKit Go.Maps
set_option linter.unusedVariables false
set_option maxRecDepth 100000
attribute [local go_sem] nilB

set_option maxHeartbeats 2000000 in
theorem lcopied_calls {w : World} {VO VB : Value} {p : Pk} (ho : RdB w VO p.opts) (hb : RdB w VB p.body) (hlo : p.opts.length ≤ 140737488355328) (hlb : p.body.length ≤ 140737488355328) :
    Calls Try.prog 11 #[.agg (pkC p.h VO VB)] w (OwnPost w p) := by
  have HO := Lib.hid ho
  have HB := Lib.hid hb
  have LO := Lib.hid hlo
  have LB := Lib.hid hlb
  clear ho hb hlo hlb
  go_enter Try.func11, Try.ntmps11
  go_upto_region 1 with (fail)
  obtain ⟨W0, hW0⟩ : ∃ W0 : World, W0 = (w.alloc (.cells (pkC p.h VO VB) 30)).alloc (.cells #[.int .u8 0, .int .u16 0, .bool false, .bool false, .int .i64 0, .int .u8 0, .int .u8 0, .int .u32 0, .int .u32 0, .slice none 0 0, .slice none 0 0] 30) := ⟨_, rfl⟩
  rw [← hW0]
  have X0 := Lib.hid (show W0.heap[w.heap.size]? = some (.cells (pkC p.h VO VB) 30 (0, 0)) by rw [hW0]; exact box_keep _ (box_at w _))
  have Y0 := Lib.hid (show W0.heap[w.heap.size + 1]? = some (.cells (pkC ⟨0, 0, false, false, 0, 0, 0, 0, 0⟩ (.slice none 0 0) (.slice none 0 0)) 30 (0, 0)) by rw [hW0]; exact box_at' _ _ _ (by simp))
  have T0 := Lib.hid (show Touch [] w W0 by rw [hW0]; exact ((Touch.refl [] w).alloc _).alloc _)
  have S0 := Lib.hid (show W0.heap.size = w.heap.size + 2 by rw [hW0]; simp)
  clear hW0
  obtain ⟨_, _, _, _, _, _, _, _, _, c9, c10⟩ := pk_cells X0.out
  go_wp2_with (first
    | (at_builtin
       refine wpList_append_none (by rfl) (.const (.slice none 0 0)) (.tmp 5) (by rfl) VO p.opts (by rfl) (by rfl) (HO.out.near T0.out) LO.out ?_
       intro A1 cp1 w1 o1 f1 t1
       clear c9 c10
       have X1 := Lib.hid (touch_box t1 X0.out (by simp))
       have Y1 := Lib.hid (touch_box t1 Y0.out (by simp))
       have T1 := Lib.hid (T0.out.trans t1 (by simp))
       have O1 := Lib.hid o1
       have F1 := Lib.hid f1
       have S1 := Lib.hid t1.size
       clear o1 f1 t1 X0 Y0
       obtain ⟨_, _, _, _, _, _, _, _, _, c9, c10⟩ := pk_cells X1.out
       have z9 := box_frozen X1.out 9
       obtain ⟨W2, hW2⟩ : ∃ W2 : World, W2 = w1.setCell ⟨w.heap.size, 9, none⟩ (.slice A1 p.opts.length cp1) := ⟨_, rfl⟩
       have X2 := Lib.hid (show W2.heap[w.heap.size]? = some (.cells (pkC p.h (.slice A1 p.opts.length cp1) VB) 30 (0, 0)) by rw [hW2]; simpa using box_set (o := 9) X1.out (.slice A1 p.opts.length cp1))
       have Y2 := Lib.hid (show W2.heap[w.heap.size + 1]? = some (.cells (pkC ⟨0, 0, false, false, 0, 0, 0, 0, 0⟩ (.slice none 0 0) (.slice none 0 0)) 30 (0, 0)) by rw [hW2]; exact box_other _ _ Y1.out (by simp))
       have t2 : Touch [w.heap.size] w1 W2 := by rw [hW2]; exact (Touch.refl _ w1).setCell _ _ (.inl (by simp))
       have T2 := Lib.hid (T1.out.trans t2 (by simp))
       have O2 := Lib.hid (O1.out.kept t2 (fun k hk h => by have := F1.out k hk; have := S0.out; simp at h; omega))
       have S2 := Lib.hid t2.size
       clear t2)
    | (at_builtin
       rw [← hW2]
       clear hW2 c9 c10 z9
       refine wpList_append_none (by rfl) (.const (.slice none 0 0)) (.tmp 10) (by rfl) VB p.body (by rfl) (by rfl) (HB.out.near T2.out) LB.out ?_
       intro A3 cp3 w3 o3 f3 t3
       have X3 := Lib.hid (touch_box t3 X2.out (by simp))
       have Y3 := Lib.hid (touch_box t3 Y2.out (by simp))
       have T3 := Lib.hid (T2.out.trans t3 (by simp))
       have O3 := Lib.hid o3
       have O23 := Lib.hid (O2.out.near t3)
       have F3 := Lib.hid f3
       have S3 := Lib.hid t3.size
       have NE : Hid (∀ b, (Value.slice A1 p.opts.length cp1).ownBlock = some b → (Value.slice A3 p.body.length cp3).ownBlock ≠ some b) := Lib.hid (fun b hb hb2 => by
         have h1 := f3 b hb2
         have h2 := O2.out.row.lt b hb
         omega)
       clear o3 f3 t3 X2 Y2
       obtain ⟨c0, c1, c2, c3, c4, c5, c6, c7, c8, c9, c10⟩ := pk_cells X3.out
       obtain ⟨d0, d1, d2, d3, d4, d5, d6, d7, d8, d9, d10⟩ := pk_cells Y3.out
       have z := fun o => box_frozen X3.out o
       have y := fun o => box_frozen Y3.out o))
  obtain ⟨W4, hW4, X4, t4⟩ := pk_set (w := w3.setCell ⟨w.heap.size, 10, none⟩ (.slice A3 p.body.length cp3)) (k := w.heap.size + 1) (h := p.h) (VO := .slice A1 p.opts.length cp1) (VB := .slice A3 p.body.length cp3) (box_other _ _ Y3.out (by simp))
  rw [← hW4]
  clear hW4
  have t5 : Touch [w.heap.size, w.heap.size + 1] w3 W4 := ((Touch.refl _ w3).setCell _ _ (.inl (by simp))).trans t4 (by simp)
  have hs0 := S0.out
  have hs1 := S1.out
  have hs2 := S2.out
  have hs3 := S3.out
  have f1 := F1.out
  have f3 := F3.out
  clear c0 c1 c2 c3 c4 c5 c6 c7 c8 c9 c10 d0 d1 d2 d3 d4 d5 d6 d7 d8 d9 d10 z y
  obtain ⟨c0, c1, c2, c3, c4, c5, c6, c7, c8, c9, c10⟩ := pk_cells X4
  refine bodyPost_ret (v := .agg (pkC p.h (.slice A1 p.opts.length cp1) (.slice A3 p.body.length cp3))) (by simp [results, Try.results11, go_sem, c0, c1, c2, c3, c4, c5, c6, c7, c8, c9, c10]) rfl ?_
  refine ⟨_, _, rfl, O23.out.kept t5 (fun k hk h => ?_), O3.out.kept t5 (fun k hk h => ?_), fun b hb => ?_, fun b hb => ?_, NE.out, T3.out.trans t5 (fun x hx => .inr ?_)⟩
  · have := f1 k hk; simp at h; omega
  · have := f3 k hk; simp at h; omega
  · have := f1 b hb; omega
  · have := f3 b hb; omega
  · simp at hx; omega
set_option maxHeartbeats 1000000 in
theorem eqb_calls {w : World} {V V' : Value} {l : List Int} (h : RdB w V l) (h' : RdB w V' l) (hlen : l.length ≤ 140737488355328) :
    Calls Try.prog 16 #[V, V'] w fun e w' => e = .returned (.bool true) ∧ Touch [] w w' := by
  obtain ⟨⟨A, cap, rfl, _, _, hr⟩, _⟩ := h
  obtain ⟨⟨A', cap', rfl, _, _, hr'⟩, _⟩ := h'
  have HR := Lib.hid hr
  have HR' := Lib.hid hr'
  have HL := Lib.hid hlen
  have hl2 : l.length < 4611686018427387904 := by omega
  clear hr hr' hlen
  go_enter Try.func16, Try.ntmps16
  go_wp2
  go_loopg [5] l.length (fun kq v wr => ∃ i : Nat, v = .int .i64 i ∧ i ≤ l.length ∧ l.length - i ≤ kq ∧ Hid (Touch [] w wr))
  case atStart => exact ⟨0, rfl, by omega, by omega, Lib.hid (Touch.refl _ _)⟩
  case round =>
    obtain ⟨i, rfl, hi, hk, hT⟩ := hrel
    by_cases hlt : i < l.length
    · obtain ⟨b, off, hA, hb, hc⟩ := HR.out (by omega)
      obtain ⟨b', off', hA', hb', hc'⟩ := HR'.out (by omega)
      obtain ⟨x, hx⟩ : ∃ x, l[i]? = some x := ⟨_, List.getElem?_eq_getElem hlt⟩
      have m0 := cell_touch hT.out (hc i x hx) (by simp)
      have m1 := cell_touch hT.out (hc' i x hx) (by simp)
      subst hA hA'
      have lt1 : (i : Int) < (l.length : Int) := by omega
      have n0 := fun u : Near wr => u.cell m0
      have n1 := fun u : Near wr => u.cell m1
      have hxx : (x != x) = false := by simp
      clear hc hc' hx m0 m1
      go_wp2
      refine wp_region_near (by kernel_rfl) (by kernel_rfl) ?_
      repeat (go_big_quiet_step (fail))
      refine wpQuiet_nil ?_
      rintro _ ⟨u2, rfl⟩
      have TX := Lib.hid (hT.out.trans u2.near (by simp))
      clear n0 n1 hxx
      go_wp2
      go_roundg (gk - 1)
      case rel => exact ⟨i + 1, by go_num, by omega, by omega, TX⟩
      case measure => omega
    · have lt1 : ¬ (i : Int) < (l.length : Int) := by omega
      go_wp2
      go_ret
      exact ⟨rfl, hT.out⟩
set_option maxHeartbeats 2000000 in
theorem eqh_calls {w : World} {VO VO' : Value} (hd : Hd) {l : List Int} (h : RdB w VO l) (h' : RdB w VO' l) (hlen : l.length ≤ 140737488355328) :
    Calls Try.prog 35 #[.agg (hdC hd VO), .agg (hdC hd VO')] w fun e w' => e = .returned (.bool true) ∧ Touch [] w w' := by
  have H := Lib.hid h
  have H' := Lib.hid h'
  have HL := Lib.hid hlen
  have b0 : (hd.tos != hd.tos) = false := by simp
  have b1 : (hd.id != hd.id) = false := by simp
  have b2 : (hd.off != hd.off) = false := by simp
  have b3 : (hd.ttl != hd.ttl) = false := by simp
  clear h h' hlen
  go_enter Try.func35, Try.ntmps35
  go_upto_region 1 with (fail)
  obtain ⟨W0, hW0⟩ : ∃ W0 : World, W0 = (w.alloc (.cells (hdC hd VO) 28)).alloc (.cells (hdC hd VO') 28) := ⟨_, rfl⟩
  rw [← hW0]
  have X0 := (show W0.heap[w.heap.size]? = some (.cells (hdC hd VO) 28 (0, 0)) by rw [hW0]; exact box_keep _ (box_at w _))
  have Y0 := (show W0.heap[w.heap.size + 1]? = some (.cells (hdC hd VO') 28 (0, 0)) by rw [hW0]; exact box_at' _ _ _ (by simp))
  have T0 := Lib.hid (show Touch [] w W0 by rw [hW0]; exact ((Touch.refl [] w).alloc _).alloc _)
  clear hW0
  obtain ⟨c0, c1, c2, c3, c4, c5, c6, c7, c8, c9⟩ := hd_cells X0
  obtain ⟨d0, d1, d2, d3, d4, d5, d6, d7, d8, d9⟩ := hd_cells Y0
  clear X0 Y0
  go_wp2_with fail
  refine (eqb_calls (H.out.near T0.out) (H'.out.near T0.out) HL.out).mono ?_
  rintro e w1 ⟨rfl, t1⟩
  have T1 := Lib.hid (T0.out.trans t1 (by simp))
  clear t1 c0 c1 c2 c3 c4 c5 c6 c7 c8 c9 d0 d1 d2 d3 d4 d5 d6 d7 d8 d9
  go_wp2
  go_ret
  exact ⟨rfl, T1.out⟩
set_option maxHeartbeats 2000000 in
theorem eqp_calls {w : World} {VO VO' VB VB' : Value} {p : Pk} (ho : RdB w VO p.opts) (ho' : RdB w VO' p.opts) (hb : RdB w VB p.body) (hb' : RdB w VB' p.body) (hlo : p.opts.length ≤ 140737488355328) (hlb : p.body.length ≤ 140737488355328) :
    Calls Try.prog 14 #[.agg (pkC p.h VO VB), .agg (pkC p.h VO' VB')] w fun e w' => e = .returned (.bool true) ∧ Touch [] w w' := by
  have H := Lib.hid ho
  have H' := Lib.hid ho'
  have HB := Lib.hid hb
  have HB' := Lib.hid hb'
  have LO := Lib.hid hlo
  have LB := Lib.hid hlb
  clear ho ho' hb hb' hlo hlb
  go_enter Try.func14, Try.ntmps14
  go_upto_region 1 with (fail)
  obtain ⟨W0, hW0⟩ : ∃ W0 : World, W0 = (w.alloc (.cells (pkC p.h VO VB) 30)).alloc (.cells (pkC p.h VO' VB') 30) := ⟨_, rfl⟩
  rw [← hW0]
  have X0 := (show W0.heap[w.heap.size]? = some (.cells (pkC p.h VO VB) 30 (0, 0)) by rw [hW0]; exact box_keep _ (box_at w _))
  have Y0 := (show W0.heap[w.heap.size + 1]? = some (.cells (pkC p.h VO' VB') 30 (0, 0)) by rw [hW0]; exact box_at' _ _ _ (by simp))
  have HX := Lib.hid X0
  have HY := Lib.hid Y0
  have T0 := Lib.hid (show Touch [] w W0 by rw [hW0]; exact ((Touch.refl [] w).alloc _).alloc _)
  clear hW0
  obtain ⟨c0, c1, c2, c3, c4, c5, c6, c7, c8, c9, c10⟩ := pk_cells X0
  obtain ⟨d0, d1, d2, d3, d4, d5, d6, d7, d8, d9, d10⟩ := pk_cells Y0
  clear X0 Y0
  go_wp2_with fail
  refine (eqh_calls p.h (H.out.near T0.out) (H'.out.near T0.out) LO.out).mono ?_
  rintro e w1 ⟨rfl, t1⟩
  have T1 := Lib.hid (T0.out.trans t1 (by simp))
  clear c0 c1 c2 c3 c4 c5 c6 c7 c8 c9 c10 d0 d1 d2 d3 d4 d5 d6 d7 d8 d9 d10
  obtain ⟨c0, c1, c2, c3, c4, c5, c6, c7, c8, c9, c10⟩ := pk_cells (touch_box t1 HX.out (by simp))
  obtain ⟨d0, d1, d2, d3, d4, d5, d6, d7, d8, d9, d10⟩ := pk_cells (touch_box t1 HY.out (by simp))
  clear t1
  go_wp2_with fail
  refine (eqb_calls (HB.out.near T1.out) (HB'.out.near T1.out) LB.out).mono ?_
  rintro e w2 ⟨rfl, t2⟩
  have T2 := Lib.hid (T1.out.trans t2 (by simp))
  clear t2 c0 c1 c2 c3 c4 c5 c6 c7 c8 c9 c10 d0 d1 d2 d3 d4 d5 d6 d7 d8 d9 d10
  go_wp2
  go_ret
  exact ⟨rfl, T2.out⟩
end Go.Proofs.Ytelfemhnijnhfaa.Fr
