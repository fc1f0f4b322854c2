/- Add, a piece that makes a whole; no condition. -/
import Derived.Test.YtelfemhnijnhfaaGH
import Derived.Test.YtelfemhnijnhfaaGK
namespace Go.Proofs.Ytelfemhnijnhfaa.Fr
open Go.RowKit Go.Maps
set_option linter.unusedVariables false
set_option linter.unusedSimpArgs false
set_option maxRecDepth 100000
attribute [local go_sem] nilB

set_option maxHeartbeats 8000000 in
theorem add_broken {w : World} {a : Nat} {S : List Nat} {st : ASt} (h : AsmAt w a S st) (hst : st.ok) {p : Pk} {VO VB : Value} (hr : ∀ w', Touch S w w' → RdB w' VO p.opts ∧ RdB w' VB p.body) (hlo : p.opts.length ≤ 140737488355328) (hlb : p.body.length ≤ 140737488355328) (hw : p.h.wf) (hE : bErr p = 0) (hz : ¬ (p.h.off = 0 ∧ p.h.mf = false)) (hc : clashB (oldD st (keyP p)) p = false) (hwb : wholeB (takenD (oldD st (keyP p)) p) = true) (hq : bErr (packD (takenD (oldD st (keyP p)) p)) ≠ 0) :
    Calls Try.prog 20 #[.pointer (some ⟨a, 0, none⟩), .agg (pkC p.h VO VB)] w (AddPost w a S st p) := by
  have HST := Lib.hid hst
  obtain ⟨ho, hb⟩ := hr w (Touch.refl S w)
  have HAL : Hid (∀ k ∈ S, k < w.heap.size) := Lib.hid h.lt
  have HAK : Hid (∀ k ∈ S, Kind w k) := Lib.hid h.kinds
  have HPW := Lib.hid hw
  have HKW := Lib.hid (keyP_wf hw)
  have HE0 := Lib.hid hE
  have HZ := Lib.hid hz
  have HC := Lib.hid hc
  have HWC := Lib.hid hwb
  clear hE hz hc hwb
  have HBP := Lib.hid hq
  clear hq
  obtain ⟨P, hP⟩ : ∃ P, P = p := ⟨_, rfl⟩
  have HP := Lib.hid hP
  rw [← hP] at HPW HKW HE0 HZ HC HWC HBP
  have EP : Hid (AddPost w a S st p = AddPost w a S st P) := Lib.hid (by rw [hP])
  rw [EP.out]
  clear EP
  obtain ⟨⟨tos, id, df, mf, off, ttl, proto, src, dst⟩, opts, body⟩ := p
  dsimp only at ho hb hlo hlb hr ⊢
  clear hw hst hP
  obtain ⟨A, cap, rfl⟩ := hb.len_lt
  obtain ⟨AV, cV, rfl⟩ := ho.len_lt
  have HO := Lib.hid ho
  have HB := Lib.hid hb
  have H := Lib.hid h
  have HRD := Lib.hid hr
  clear h ho hb hr
  go_enter Try.func20, Try.ntmps20
  go_upto_region 1 with (fail)
  obtain ⟨W0, hW0⟩ : ∃ W0 : World, W0 = (w.alloc (.cells (pkC ⟨tos, id, df, mf, off, ttl, proto, src, dst⟩ (.slice AV opts.length cV) (.slice A body.length cap)) 30)).alloc (.cells (pkC ⟨0, 0, false, false, 0, 0, 0, 0, 0⟩ (.slice none 0 0) (.slice none 0 0)) 30) := ⟨_, rfl⟩
  rw [← hW0]
  have t0 : Touch [] w W0 := by rw [hW0]; exact ((Touch.refl [] w).alloc _).alloc _
  obtain ⟨b0, hb0⟩ : ∃ b0, b0 = w.heap.size := ⟨_, rfl⟩
  obtain ⟨b1, hb1⟩ : ∃ b1, b1 = w.heap.size + 1 := ⟨_, rfl⟩
  have HB0 := Lib.hid hb0
  have HB1 := Lib.hid hb1
  have Y0 := Lib.hid (show W0.heap[b0]? = some (.cells (pkC ⟨tos, id, df, mf, off, ttl, proto, src, dst⟩ (.slice AV opts.length cV) (.slice A body.length cap)) 30 (0, 0)) by rw [hW0, hb0]; exact box_keep _ (box_at w _))
  have R0 := Lib.hid (show W0.heap[b1]? = some (.cells (pkC ⟨0, 0, false, false, 0, 0, 0, 0, 0⟩ (.slice none 0 0) (.slice none 0 0)) 30 (0, 0)) by rw [hW0, hb1]; exact box_at' _ _ _ (by simp))
  have T0 := Lib.hid t0
  rw [← hb1, ← hb0]
  clear hb0 hb1 t0 hW0
  obtain ⟨c0, c1, c2, c3, c4, c5, c6, c7, c8, c9, c10⟩ := pk_cells Y0.out
  dsimp only at c0 c1 c2 c3 c4 c5 c6 c7 c8 c9 c10
  go_wp2_with fail
  refine (build_calls (p := ⟨⟨tos, id, df, mf, off, ttl, proto, src, dst⟩, opts, body⟩) (HO.out.near T0.out) (HB.out.near T0.out) hlo hlb (by have := HPW.out; rw [HP.out] at this; exact this)).mono ?_
  rintro e W1 ⟨t1, hp⟩
  have HBE : Hid (bErr P = bErr ⟨⟨tos, id, df, mf, off, ttl, proto, src, dst⟩, opts, body⟩) := Lib.hid (by rw [HP.out])
  rw [← HBE.out] at hp
  have Y1 := Lib.hid (touch_box t1 Y0.out (by simp))
  have R1 := Lib.hid (touch_box t1 R0.out (by simp))
  have T1 := Lib.hid (T0.out.trans t1 (by simp))
  clear t1 Y0 R0 T0 c0 c1 c2 c3 c4 c5 c6 c7 c8 c9 c10
  rcases hp with ⟨hp, _⟩ | ⟨_, VZ, rfl, _, _⟩
  · exact absurd HE0.out hp
  obtain ⟨c0, c1, c2, c3, c4, c5, c6, c7, c8, c9, c10⟩ := pk_cells Y1.out
  dsimp only at c0 c1 c2 c3 c4 c5 c6 c7 c8 c9 c10
  go_upto_region 5 with (fail)
  obtain ⟨W2, hW2⟩ : ∃ W2 : World, W2 = W1.alloc (.cells #[.int .u32 src, .int .u32 dst, .int .u8 proto, .int .u16 id] 109) := ⟨_, rfl⟩
  rw [← hW2]
  have t2 : Touch [] W1 W2 := by rw [hW2]; exact (Touch.refl [] W1).alloc _
  have X2 := Lib.hid (show W2.heap[W1.heap.size]? = some (.cells #[.int .u32 src, .int .u32 dst, .int .u8 proto, .int .u16 id] 109 (0, 0)) by rw [hW2]; exact box_at _ _)
  obtain ⟨b2, hb2⟩ : ∃ b2, b2 = W1.heap.size := ⟨_, rfl⟩
  have HB2 : Hid (b1 < b2) := Lib.hid (by rw [hb2]; exact (Array.getElem?_eq_some_iff.1 R1.out).1)
  have Y2 := Lib.hid (touch_box t2 Y1.out (by simp))
  have R2 := Lib.hid (touch_box t2 R1.out (by simp))
  have T2 := Lib.hid (T1.out.trans t2 (by simp))
  rw [← hb2] at X2 ⊢
  clear hb2 t2 hW2 Y1 R1 T1 c0 c1 c2 c3 c4 c5 c6 c7 c8 c9 c10
  have HKP : Hid (keyP P = ⟨src, dst, proto, id⟩) := Lib.hid (by rw [HP.out]; rfl)
  have HKV : Hid (kv (keyP P) = .agg #[.int .u32 src, .int .u32 dst, .int .u8 proto, .int .u16 id]) := Lib.hid (by rw [HKP.out]; rfl)
  obtain ⟨c0, c1, c2, c3, c4, c5, c6, c7, c8, c9, c10⟩ := pk_cells Y2.out
  dsimp only at c0 c1 c2 c3 c4 c5 c6 c7 c8 c9 c10
  have x0 := (show W2.cell? ⟨b2, 0, none⟩ = some (.int .u32 src) by simp [World.cell?, X2.out])
  have x1 := (show W2.cell? ⟨b2, 1, none⟩ = some (.int .u32 dst) by simp [World.cell?, X2.out])
  have x2 := (show W2.cell? ⟨b2, 2, none⟩ = some (.int .u8 proto) by simp [World.cell?, X2.out])
  have x3 := (show W2.cell? ⟨b2, 3, none⟩ = some (.int .u16 id) by simp [World.cell?, X2.out])
  go_upto_region 5 with (fail)
  go_cut [47] from 38 to 47 (fun v wq => v = .bool false ∧ Hid (wq = W2))
  case first =>
    have hnz := HZ.out
    rw [HP.out] at hnz
    dsimp only at hnz
    by_cases ho0 : off = 0
    · have hm1 : mf = true := by cases mf; exact absurd ⟨ho0, rfl⟩ hnz; rfl
      subst ho0 hm1
      clear hnz
      go_wp2
      go_meet
      case rel => exact ⟨rfl, Lib.hid rfl⟩
    · have o0 : (off == 0) = false := by rw [beq_eq_false_iff_ne]; exact ho0
      clear hnz ho0
      go_wp2
      go_meet
      case rel => exact ⟨rfl, Lib.hid rfl⟩
  case rest =>
  obtain ⟨rfl, hwq⟩ := hcut
  obtain ⟨W3, hw3⟩ : ∃ w3, w3 = wc := ⟨_, rfl⟩
  obtain rfl : W3 = W2 := by rw [hw3]; exact hwq.out
  rw [← hw3]
  clear hwq hw3 x0 x1 x2 x3 c0 c1 c2 c3 c4 c5 c6 c7 c8 c9 c10
  obtain ⟨q, hq⟩ : ∃ q : Option Addr, q = (st.g (keyP P)).map fun x => ⟨x.1, 0, none⟩ := ⟨_, rfl⟩
  have HQ := Lib.hid hq
  clear hq
  go_upto_region 8 with (fail)
  go_cut [9] from 53 to 58 (fun v wq => v = .pointer q ∧ Hid (Touch [] W3 wq))
  case first =>
    obtain ⟨hb, kb, tb, TS, s, fh, fk, rfl, h⟩ := H.out.near T2.out
    obtain ⟨kl, hkl⟩ := key_some HKW.out
    have A0 := Lib.hid h
    have HFH : Hid (fh (.agg #[.int .u32 src, .int .u32 dst, .int .u8 proto, .int .u16 id]) = (st.g (keyP P)).map fun x => .pointer (some ⟨x.1, 0, none⟩)) := Lib.hid (by rw [← HKV.out]; exact h.look _ HKW.out)
    obtain ⟨a0, a1, a2, a3, a4, a5, a6⟩ := asm_cells h.blk
    have n4 := fun u : Near W3 => u.cell a4
    have y0 := fun u : Near W3 => u.cell (show W3.cell? ⟨b2, 0, none⟩ = some (.int .u32 src) by simp [World.cell?, X2.out])
    have y1 := fun u : Near W3 => u.cell (show W3.cell? ⟨b2, 1, none⟩ = some (.int .u32 dst) by simp [World.cell?, X2.out])
    have y2 := fun u : Near W3 => u.cell (show W3.cell? ⟨b2, 2, none⟩ = some (.int .u8 proto) by simp [World.cell?, X2.out])
    have y3 := fun u : Near W3 => u.cell (show W3.cell? ⟨b2, 3, none⟩ = some (.int .u16 id) by simp [World.cell?, X2.out])
    have nl := fun u : Near W3 => (by
      have h1 := ((A0.out.near u.near).held.look lawKey Try.underlying104 (zeroDg u.w) hkl).2
      rw [HKV.out, HFH.out] at h1
      have h2 : ((st.g (keyP P)).map fun x => Value.pointer (some ⟨x.1, 0, none⟩)).getD (.pointer none) = .pointer q := by rw [HQ.out]; cases st.g (keyP P) <;> rfl
      rw [h2] at h1
      exact h1 : (Instr.lookup 104 (.map (some hb)) (.agg #[.int .u32 src, .int .u32 dst, .int .u8 proto, .int .u16 id]) false).run Try.prog u.w = .ok (.pointer q) u.w)
    clear a0 a1 a2 a3 a4 a5 a6 h hkl
    refine wp_region_near (by kernel_rfl) (by kernel_rfl) ?_
    repeat (go_big_quiet_step (fail))
    refine wpQuiet_nil ?_
    rintro _ ⟨u, rfl⟩
    have TX := Lib.hid u.near
    clear n4 y0 y1 y2 y3 nl
    go_wp2
    go_meet
    case rel => exact ⟨rfl, TX⟩
  case rest =>
  obtain ⟨rfl, hT3⟩ := hcut
  obtain ⟨W4, hw4⟩ : ∃ w4, w4 = wc := ⟨_, rfl⟩
  rw [← hw4] at hT3 ⊢
  have Y4 := Lib.hid (touch_box hT3.out Y2.out (by simp))
  have X4 := Lib.hid (touch_box hT3.out X2.out (by simp))
  have R4 := Lib.hid (touch_box hT3.out R2.out (by simp))
  have T4 := Lib.hid (T2.out.trans hT3.out (by simp))
  clear hw4 hT3 Y2 X2 R2 T2
  obtain ⟨D0, hD0⟩ : ∃ D0, D0 = oldD st (keyP P) := ⟨_, rfl⟩
  have HD0 := Lib.hid hD0
  clear hD0
  go_upto_if 61 with (fail)
  obtain ⟨fb, hfb⟩ : ∃ fb, fb = q.isNone := ⟨_, rfl⟩
  rw [← hfb]
  have HFB : Hid (fb = !(st.g (keyP P)).isSome) := Lib.hid (by rw [hfb, HQ.out]; cases st.g (keyP P) <;> rfl)
  have HFQ := Lib.hid hfb
  clear hfb
  go_cut [9] from 61 to 63 (fun v wc => ∃ d0, v = .pointer (some ⟨d0, 0, none⟩) ∧ Hid (DgAt wc d0 D0) ∧ Hid (Touch [] W4 wc) ∧ Hid (∀ x, st.g (keyP P) = some x → d0 = x.1))
  case first =>
    cases hg : st.g (keyP P) with
    | none =>
      have hq : q = none := by rw [HQ.out, hg]; rfl
      have hf : fb = true := by rw [HFB.out, hg]; rfl
      have hd : D0 = freshD := by rw [HD0.out]; unfold oldD; rw [hg]
      have HDF := Lib.hid hd
      have HG := Lib.hid hg
      subst hq hf
      clear hd hg
      go_wp2
      go_meet
      case rel => exact ⟨W4.heap.size, rfl, Lib.hid (by rw [HDF.out]; exact ⟨_, _, _, box_at _ _, OwB.nil _, OwB.nil _, OwB.nil _⟩), Lib.hid ((Touch.refl [] W4).alloc _), Lib.hid (fun x hx => by rw [HG.out] at hx; cases hx)⟩
    | some x =>
      obtain ⟨d0, D1⟩ := x
      have hq : q = some ⟨d0, 0, none⟩ := by rw [HQ.out, hg]; rfl
      have hf : fb = false := by rw [HFB.out, hg]; rfl
      have hd : D0 = D1 := by rw [HD0.out]; unfold oldD; rw [hg]
      have HDA : Hid (DgAt W4 d0 D0) := Lib.hid (by
        obtain ⟨hb, kb, tb, TS, s, fh, fk, rfl, h⟩ := H.out.near T4.out
        rw [hd]
        exact (h.each _ _ HKW.out hg).1)
      have HG := Lib.hid hg
      have HXX : Hid (∀ x, st.g (keyP P) = some x → d0 = x.1) := Lib.hid (fun x hx => by rw [HG.out] at hx; cases hx; rfl)
      subst hq hf
      clear hd hg
      go_wp2
      go_meet
      case rel => exact ⟨d0, rfl, HDA, Lib.hid (Touch.refl [] W4), HXX⟩
  case rest =>
  obtain ⟨d0, rfl, HDA, hT4, HDX⟩ := hcut
  obtain ⟨W5, hw5⟩ : ∃ w5, w5 = wc := ⟨_, rfl⟩
  rw [← hw5] at HDA hT4 ⊢
  have Y5 := Lib.hid (touch_box hT4.out Y4.out (by simp))
  have X5 := Lib.hid (touch_box hT4.out X4.out (by simp))
  have R5 := Lib.hid (touch_box hT4.out R4.out (by simp))
  have T5 := Lib.hid (T4.out.trans hT4.out (by simp))
  clear hw5 hT4 Y4 X4 R4 T4
  have HBZ := Lib.hid (bErr_zero HE0.out)
  have hz1 : 0 ≤ off := by have := HBZ.out.2.2.2.2.1; rw [HP.out] at this; exact this
  have hz2 : off ≤ 65528 := by have := HBZ.out.2.2.2.2.2.1; rw [HP.out] at this; exact this
  have hz3 : off + body.length ≤ 65535 := by have := HBZ.out.2.2.2.2.2.2.2.1; rw [HP.out] at this; exact this
  have hz4 : opts.length ≤ 40 := by have := HBZ.out.2.2.1; rw [HP.out] at this; exact this
  obtain ⟨c0, c1, c2, c3, c4, c5, c6, c7, c8, c9, c10⟩ := pk_cells Y5.out
  dsimp only at c0 c1 c2 c3 c4 c5 c6 c7 c8 c9 c10
  go_wp2_with fail
  refine (clash_calls (p := ⟨⟨tos, id, df, mf, off, ttl, proto, src, dst⟩, opts, body⟩) HDA.out (HRD.out W5 (T5.out.mono (by simp))).2 (by dsimp only; omega) hz1 (by dsimp only; omega)).mono ?_
  rintro e W6 ⟨rfl, t6⟩
  rw [← HP.out, HD0.out]
  have Y6 := Lib.hid (touch_box t6 Y5.out (by simp))
  have X6 := Lib.hid (touch_box t6 X5.out (by simp))
  have R6 := Lib.hid (touch_box t6 R5.out (by simp))
  have D6 := Lib.hid (HDA.out.near t6)
  have T6 := Lib.hid (T5.out.trans t6 (by simp))
  clear t6 Y5 X5 R5 T5 HDA c0 c1 c2 c3 c4 c5 c6 c7 c8 c9 c10
  rw [HC.out]
  have HOK : Hid (D0.ok) := Lib.hid (by rw [HD0.out]; exact oldD_ok HST.out HPW.out)
  obtain ⟨D1, hD1⟩ : ∃ D1, D1 = takenD (oldD st (keyP P)) P := ⟨_, rfl⟩
  have HD1 := Lib.hid hD1
  have HTK : Hid (D1.ok) := Lib.hid (by rw [hD1]; exact (takes (oldD_ok HST.out HPW.out) HE0.out HPW.out HZ.out).ok)
  clear hD1
  have HWB : Hid (wholeB D1 = true) := Lib.hid (by rw [HD1.out]; exact HWC.out)
  have hpos : 0 < off + (body.length : Int) := by
    have h1 := HZ.out
    have h2 := HBZ.out.2.2.2.2.2.2.2.2.2
    rw [HP.out] at h1 h2
    dsimp only at h1 h2
    cases mf
    · have : off ≠ 0 := fun e => h1 ⟨e, rfl⟩
      omega
    · have := (h2 rfl).1
      omega
  obtain ⟨c0, c1, c2, c3, c4, c5, c6, c7, c8, c9, c10⟩ := pk_cells Y6.out
  dsimp only at c0 c1 c2 c3 c4 c5 c6 c7 c8 c9 c10
  go_wp2_with fail
  refine (taken_calls (p := ⟨⟨tos, id, df, mf, off, ttl, proto, src, dst⟩, opts, body⟩) D6.out (HRD.out W6 (T6.out.mono (by simp))).1 (HRD.out W6 (T6.out.mono (by simp))).2 hz4 hz1 hz3 hpos HOK.out.len HOK.out.le HOK.out.c0.1 HOK.out.c0.2 HOK.out.far0 HOK.out.far9).mono ?_
  rintro e W7 ⟨d1, rfl, hd1, t7, hd7⟩
  rw [← HP.out, HD0.out, ← HD1.out] at hd1
  have Y7 := Lib.hid (touch_box t7 Y6.out (by simp))
  have X7 := Lib.hid (touch_box t7 X6.out (by simp))
  have R7 := Lib.hid (touch_box t7 R6.out (by simp))
  have D7 := Lib.hid hd1
  have HDG : Hid (w.heap.size ≤ d1) := Lib.hid (Nat.le_trans T6.out.size hd7)
  have HDB : Hid (W6.heap.size ≤ d1) := Lib.hid hd7
  have HWS : Hid (b2 < W6.heap.size) := Lib.hid (Array.getElem?_eq_some_iff.1 X6.out).1
  have T7 := Lib.hid (T6.out.trans t7 (by simp))
  clear t7 hd1 hd7 Y6 X6 R6 D6 T6 c0 c1 c2 c3 c4 c5 c6 c7 c8 c9 c10
  go_wp2_with fail
  refine (dwhole_calls D7.out).mono ?_
  rintro e W8 ⟨rfl, t8⟩
  rw [HWB.out]
  have Y8 := Lib.hid (touch_box t8 Y7.out (by simp))
  have X8 := Lib.hid (touch_box t8 X7.out (by simp))
  have R8 := Lib.hid (touch_box t8 R7.out (by simp))
  have D8 := Lib.hid (D7.out.near t8)
  have T8 := Lib.hid (T7.out.trans t8 (by simp))
  clear t8 Y7 X7 R7 D7 T7
  have HDL : Hid (0 < D1.length ∧ D1.length ≤ D1.bytes.length) := Lib.hid (by
    have h1 := HWB.out
    unfold wholeB at h1
    simp only [Bool.and_eq_true, decide_eq_true_eq] at h1
    rcases HTK.out.length with h2 | h2
    · have := h1.1; omega
    · exact h2)
  go_wp2_with fail
  refine (packet_calls D8.out HDL.out.1 HDL.out.2 (by have := HTK.out.le; omega) HTK.out.opts).mono ?_
  rintro e W9 ⟨VO9, VB9, rfl, o, o', f, f', nd, t9⟩
  obtain ⟨Q, hQ⟩ : ∃ Q, Q = packD D1 := ⟨_, rfl⟩
  have HQQ := Lib.hid hQ
  rw [← hQ] at o o' ⊢
  have HQW : Hid (Q.h.wf) := Lib.hid (by rw [hQ]; exact ⟨HTK.out.wf.tos, HTK.out.wf.id, HTK.out.wf.off, HTK.out.wf.ttl, HTK.out.wf.proto, HTK.out.wf.src, HTK.out.wf.dst⟩)
  have HQL : Hid (Q.opts.length ≤ 40 ∧ Q.body.length ≤ 65535) := Lib.hid (by rw [hQ]; exact ⟨HTK.out.opts, by have := HTK.out.le; simp [packD]; omega⟩)
  have HBQ : Hid (bErr (packD D1) = bErr Q) := Lib.hid (by rw [hQ])
  clear hQ
  obtain ⟨⟨qt, qi, qd, qm, qf, ql, qp, qs, qe⟩, qo, qb⟩ := Q
  obtain ⟨A7, cp7, rfl⟩ := o.row.form
  obtain ⟨A8, cp8, rfl⟩ := o'.row.form
  dsimp only at o o' f f' nd
  have O := Lib.hid o
  have O' := Lib.hid o'
  have F := Lib.hid (show Fresh w.heap.size (.slice A7 qo.length cp7) from fun k hk => Nat.le_trans T8.out.size (f k hk))
  have F' := Lib.hid (show Fresh w.heap.size (.slice A8 qb.length cp8) from fun k hk => Nat.le_trans T8.out.size (f' k hk))
  have X9 := Lib.hid (touch_box t9 X8.out (by simp))
  have R9 := Lib.hid (touch_box t9 R8.out (by simp))
  have T9 := Lib.hid (T8.out.trans t9 (by simp))
  clear o o' f f' nd t9 Y8 X8 R8 D8 T8
  go_upto_region 17 with (fail)
  obtain ⟨WA, hWA⟩ : ∃ W : World, W = W9.alloc (.cells (pkC ⟨qt, qi, qd, qm, qf, ql, qp, qs, qe⟩ (.slice A7 qo.length cp7) (.slice A8 qb.length cp8)) 30) := ⟨_, rfl⟩
  rw [← hWA]
  have tA : Touch [] W9 WA := by rw [hWA]; exact (Touch.refl [] W9).alloc _
  obtain ⟨b5, hb5⟩ : ∃ b5, b5 = W9.heap.size := ⟨_, rfl⟩
  have YA := Lib.hid (show WA.heap[b5]? = some (.cells (pkC ⟨qt, qi, qd, qm, qf, ql, qp, qs, qe⟩ (.slice A7 qo.length cp7) (.slice A8 qb.length cp8)) 30 (0, 0)) by rw [hWA, hb5]; exact box_at _ _)
  have HB5 : Hid (w.heap.size ≤ b5) := Lib.hid (by rw [hb5]; exact T9.out.size)
  have XA := Lib.hid (touch_box tA X9.out (by simp))
  have RA := Lib.hid (touch_box tA R9.out (by simp))
  have OA := Lib.hid (O.out.near tA)
  have OA' := Lib.hid (O'.out.near tA)
  have TA := Lib.hid (T9.out.trans tA (by simp))
  rw [← hb5]
  clear hb5 tA hWA X9 R9 T9 O O'
  obtain ⟨c0, c1, c2, c3, c4, c5, c6, c7, c8, c9, c10⟩ := pk_cells YA.out
  dsimp only at c0 c1 c2 c3 c4 c5 c6 c7 c8 c9 c10
  go_wp2_with fail
  refine (build_calls (p := ⟨⟨qt, qi, qd, qm, qf, ql, qp, qs, qe⟩, qo, qb⟩) OA.out.rdb OA'.out.rdb (by have := HQL.out.1; dsimp only at this ⊢; omega) (by have := HQL.out.2; dsimp only at this ⊢; omega) HQW.out).mono ?_
  rintro e WB ⟨tB, hp⟩
  rw [← HBQ.out] at hp
  have YB := Lib.hid (touch_box tB YA.out (by simp))
  have XB := Lib.hid (touch_box tB XA.out (by simp))
  have RB := Lib.hid (touch_box tB RA.out (by simp))
  have OB := Lib.hid (OA.out.near tB)
  have OB' := Lib.hid (OA'.out.near tB)
  have TB := Lib.hid (TA.out.trans tB (by simp))
  clear tB YA XA RA OA OA' TA c0 c1 c2 c3 c4 c5 c6 c7 c8 c9 c10
  have HBR : Hid (bErr (packD D1) ≠ 0) := Lib.hid (by rw [HD1.out]; exact HBP.out)
  rcases hp with ⟨_, rfl⟩ | ⟨hp, _⟩
  rotate_left
  · exact absurd hp HBR.out
  obtain ⟨r, hr⟩ : ∃ r, r = bErr (packD D1) := ⟨_, rfl⟩
  have HR : Hid (r = bErr (packD (takenD (oldD st (keyP P)) P))) := Lib.hid (by rw [hr, HD1.out])
  rw [← hr]
  have hrn : (r != 0) = true := by rw [bne_iff_ne]; rw [hr]; exact HBR.out
  clear hr
  obtain ⟨r0, r1, r2, r3, r4, r5, r6, r7, r8, r9, r10⟩ := pk_cells RB.out
  dsimp only at r0 r1 r2 r3 r4 r5 r6 r7 r8 r9 r10
  have z := fun o => box_frozen RB.out o
  obtain ⟨WZ, hWZ, RZ, tZ⟩ := pk_set (h := ⟨0, 0, false, false, 0, 0, 0, 0, 0⟩) (VO := .slice none 0 0) (VB := .slice none 0 0) RB.out
  dsimp only at hWZ
  have HWZ := Lib.hid hWZ
  have HRZ := Lib.hid RZ
  have TZ := Lib.hid tZ
  clear hWZ RZ tZ
  go_wp2
  rw [← HWZ.out]
  clear r0 r1 r2 r3 r4 r5 r6 r7 r8 r9 r10 z HWZ
  obtain ⟨r0, r1, r2, r3, r4, r5, r6, r7, r8, r9, r10⟩ := pk_cells HRZ.out
  dsimp only at r0 r1 r2 r3 r4 r5 r6 r7 r8 r9 r10
  refine bodyPost_ret (v := .tuple #[.agg (pkC ⟨0, 0, false, false, 0, 0, 0, 0, 0⟩ (.slice none 0 0) (.slice none 0 0)), .int .i64 r]) (by simp [results, Try.results20, go_sem, r0, r1, r2, r3, r4, r5, r6, r7, r8, r9, r10]) rfl ?_
  exact ⟨zeroP, r, st, S, PktR.zero, (H.out.near TB.out).keptK TZ.out (fun k hk hs => by have := HAL.out k hs; have := HB1.out; simp at hk; omega) (kind_pk RB.out), (TB.out.trans TZ.out (fun x hx => .inr (by have := HB1.out; simp at hx; omega))).mono (by simp), fun k hk => .inl hk, .inr (.inr ⟨HE0.out, HZ.out, .inr (.inl ⟨HC.out, HWC.out, HBP.out, HR.out, rfl, rfl⟩)⟩)⟩

set_option maxHeartbeats 8000000 in
theorem add_whole {w : World} {a : Nat} {S : List Nat} {st : ASt} (h : AsmAt w a S st) (hst : st.ok) {p : Pk} {VO VB : Value} (hr : ∀ w', Touch S w w' → RdB w' VO p.opts ∧ RdB w' VB p.body) (hlo : p.opts.length ≤ 140737488355328) (hlb : p.body.length ≤ 140737488355328) (hw : p.h.wf) (hE : bErr p = 0) (hz : ¬ (p.h.off = 0 ∧ p.h.mf = false)) (hc : clashB (oldD st (keyP p)) p = false) (hwb : wholeB (takenD (oldD st (keyP p)) p) = true) (hq : bErr (packD (takenD (oldD st (keyP p)) p)) = 0) :
    Calls Try.prog 20 #[.pointer (some ⟨a, 0, none⟩), .agg (pkC p.h VO VB)] w (AddPost w a S st p) := by
  have HST := Lib.hid hst
  obtain ⟨ho, hb⟩ := hr w (Touch.refl S w)
  have HAL : Hid (∀ k ∈ S, k < w.heap.size) := Lib.hid h.lt
  have HAK : Hid (∀ k ∈ S, Kind w k) := Lib.hid h.kinds
  have HPW := Lib.hid hw
  have HKW := Lib.hid (keyP_wf hw)
  have HE0 := Lib.hid hE
  have HZ := Lib.hid hz
  have HC := Lib.hid hc
  have HWC := Lib.hid hwb
  clear hE hz hc hwb
  have HBP := Lib.hid hq
  clear hq
  obtain ⟨P, hP⟩ : ∃ P, P = p := ⟨_, rfl⟩
  have HP := Lib.hid hP
  rw [← hP] at HPW HKW HE0 HZ HC HWC HBP
  have EP : Hid (AddPost w a S st p = AddPost w a S st P) := Lib.hid (by rw [hP])
  rw [EP.out]
  clear EP
  obtain ⟨⟨tos, id, df, mf, off, ttl, proto, src, dst⟩, opts, body⟩ := p
  dsimp only at ho hb hlo hlb hr ⊢
  clear hw hst hP
  obtain ⟨A, cap, rfl⟩ := hb.len_lt
  obtain ⟨AV, cV, rfl⟩ := ho.len_lt
  have HO := Lib.hid ho
  have HB := Lib.hid hb
  have H := Lib.hid h
  have HRD := Lib.hid hr
  clear h ho hb hr
  go_enter Try.func20, Try.ntmps20
  go_upto_region 1 with (fail)
  obtain ⟨W0, hW0⟩ : ∃ W0 : World, W0 = (w.alloc (.cells (pkC ⟨tos, id, df, mf, off, ttl, proto, src, dst⟩ (.slice AV opts.length cV) (.slice A body.length cap)) 30)).alloc (.cells (pkC ⟨0, 0, false, false, 0, 0, 0, 0, 0⟩ (.slice none 0 0) (.slice none 0 0)) 30) := ⟨_, rfl⟩
  rw [← hW0]
  have t0 : Touch [] w W0 := by rw [hW0]; exact ((Touch.refl [] w).alloc _).alloc _
  obtain ⟨b0, hb0⟩ : ∃ b0, b0 = w.heap.size := ⟨_, rfl⟩
  obtain ⟨b1, hb1⟩ : ∃ b1, b1 = w.heap.size + 1 := ⟨_, rfl⟩
  have HB0 := Lib.hid hb0
  have HB1 := Lib.hid hb1
  have Y0 := Lib.hid (show W0.heap[b0]? = some (.cells (pkC ⟨tos, id, df, mf, off, ttl, proto, src, dst⟩ (.slice AV opts.length cV) (.slice A body.length cap)) 30 (0, 0)) by rw [hW0, hb0]; exact box_keep _ (box_at w _))
  have R0 := Lib.hid (show W0.heap[b1]? = some (.cells (pkC ⟨0, 0, false, false, 0, 0, 0, 0, 0⟩ (.slice none 0 0) (.slice none 0 0)) 30 (0, 0)) by rw [hW0, hb1]; exact box_at' _ _ _ (by simp))
  have T0 := Lib.hid t0
  rw [← hb1, ← hb0]
  clear hb0 hb1 t0 hW0
  obtain ⟨c0, c1, c2, c3, c4, c5, c6, c7, c8, c9, c10⟩ := pk_cells Y0.out
  dsimp only at c0 c1 c2 c3 c4 c5 c6 c7 c8 c9 c10
  go_wp2_with fail
  refine (build_calls (p := ⟨⟨tos, id, df, mf, off, ttl, proto, src, dst⟩, opts, body⟩) (HO.out.near T0.out) (HB.out.near T0.out) hlo hlb (by have := HPW.out; rw [HP.out] at this; exact this)).mono ?_
  rintro e W1 ⟨t1, hp⟩
  have HBE : Hid (bErr P = bErr ⟨⟨tos, id, df, mf, off, ttl, proto, src, dst⟩, opts, body⟩) := Lib.hid (by rw [HP.out])
  rw [← HBE.out] at hp
  have Y1 := Lib.hid (touch_box t1 Y0.out (by simp))
  have R1 := Lib.hid (touch_box t1 R0.out (by simp))
  have T1 := Lib.hid (T0.out.trans t1 (by simp))
  clear t1 Y0 R0 T0 c0 c1 c2 c3 c4 c5 c6 c7 c8 c9 c10
  rcases hp with ⟨hp, _⟩ | ⟨_, VZ, rfl, _, _⟩
  · exact absurd HE0.out hp
  obtain ⟨c0, c1, c2, c3, c4, c5, c6, c7, c8, c9, c10⟩ := pk_cells Y1.out
  dsimp only at c0 c1 c2 c3 c4 c5 c6 c7 c8 c9 c10
  go_upto_region 5 with (fail)
  obtain ⟨W2, hW2⟩ : ∃ W2 : World, W2 = W1.alloc (.cells #[.int .u32 src, .int .u32 dst, .int .u8 proto, .int .u16 id] 109) := ⟨_, rfl⟩
  rw [← hW2]
  have t2 : Touch [] W1 W2 := by rw [hW2]; exact (Touch.refl [] W1).alloc _
  have X2 := Lib.hid (show W2.heap[W1.heap.size]? = some (.cells #[.int .u32 src, .int .u32 dst, .int .u8 proto, .int .u16 id] 109 (0, 0)) by rw [hW2]; exact box_at _ _)
  obtain ⟨b2, hb2⟩ : ∃ b2, b2 = W1.heap.size := ⟨_, rfl⟩
  have HB2 : Hid (b1 < b2) := Lib.hid (by rw [hb2]; exact (Array.getElem?_eq_some_iff.1 R1.out).1)
  have Y2 := Lib.hid (touch_box t2 Y1.out (by simp))
  have R2 := Lib.hid (touch_box t2 R1.out (by simp))
  have T2 := Lib.hid (T1.out.trans t2 (by simp))
  rw [← hb2] at X2 ⊢
  clear hb2 t2 hW2 Y1 R1 T1 c0 c1 c2 c3 c4 c5 c6 c7 c8 c9 c10
  have HKP : Hid (keyP P = ⟨src, dst, proto, id⟩) := Lib.hid (by rw [HP.out]; rfl)
  have HKV : Hid (kv (keyP P) = .agg #[.int .u32 src, .int .u32 dst, .int .u8 proto, .int .u16 id]) := Lib.hid (by rw [HKP.out]; rfl)
  obtain ⟨c0, c1, c2, c3, c4, c5, c6, c7, c8, c9, c10⟩ := pk_cells Y2.out
  dsimp only at c0 c1 c2 c3 c4 c5 c6 c7 c8 c9 c10
  have x0 := (show W2.cell? ⟨b2, 0, none⟩ = some (.int .u32 src) by simp [World.cell?, X2.out])
  have x1 := (show W2.cell? ⟨b2, 1, none⟩ = some (.int .u32 dst) by simp [World.cell?, X2.out])
  have x2 := (show W2.cell? ⟨b2, 2, none⟩ = some (.int .u8 proto) by simp [World.cell?, X2.out])
  have x3 := (show W2.cell? ⟨b2, 3, none⟩ = some (.int .u16 id) by simp [World.cell?, X2.out])
  go_upto_region 5 with (fail)
  go_cut [47] from 38 to 47 (fun v wq => v = .bool false ∧ Hid (wq = W2))
  case first =>
    have hnz := HZ.out
    rw [HP.out] at hnz
    dsimp only at hnz
    by_cases ho0 : off = 0
    · have hm1 : mf = true := by cases mf; exact absurd ⟨ho0, rfl⟩ hnz; rfl
      subst ho0 hm1
      clear hnz
      go_wp2
      go_meet
      case rel => exact ⟨rfl, Lib.hid rfl⟩
    · have o0 : (off == 0) = false := by rw [beq_eq_false_iff_ne]; exact ho0
      clear hnz ho0
      go_wp2
      go_meet
      case rel => exact ⟨rfl, Lib.hid rfl⟩
  case rest =>
  obtain ⟨rfl, hwq⟩ := hcut
  obtain ⟨W3, hw3⟩ : ∃ w3, w3 = wc := ⟨_, rfl⟩
  obtain rfl : W3 = W2 := by rw [hw3]; exact hwq.out
  rw [← hw3]
  clear hwq hw3 x0 x1 x2 x3 c0 c1 c2 c3 c4 c5 c6 c7 c8 c9 c10
  obtain ⟨q, hq⟩ : ∃ q : Option Addr, q = (st.g (keyP P)).map fun x => ⟨x.1, 0, none⟩ := ⟨_, rfl⟩
  have HQ := Lib.hid hq
  clear hq
  go_upto_region 8 with (fail)
  go_cut [9] from 53 to 58 (fun v wq => v = .pointer q ∧ Hid (Touch [] W3 wq))
  case first =>
    obtain ⟨hb, kb, tb, TS, s, fh, fk, rfl, h⟩ := H.out.near T2.out
    obtain ⟨kl, hkl⟩ := key_some HKW.out
    have A0 := Lib.hid h
    have HFH : Hid (fh (.agg #[.int .u32 src, .int .u32 dst, .int .u8 proto, .int .u16 id]) = (st.g (keyP P)).map fun x => .pointer (some ⟨x.1, 0, none⟩)) := Lib.hid (by rw [← HKV.out]; exact h.look _ HKW.out)
    obtain ⟨a0, a1, a2, a3, a4, a5, a6⟩ := asm_cells h.blk
    have n4 := fun u : Near W3 => u.cell a4
    have y0 := fun u : Near W3 => u.cell (show W3.cell? ⟨b2, 0, none⟩ = some (.int .u32 src) by simp [World.cell?, X2.out])
    have y1 := fun u : Near W3 => u.cell (show W3.cell? ⟨b2, 1, none⟩ = some (.int .u32 dst) by simp [World.cell?, X2.out])
    have y2 := fun u : Near W3 => u.cell (show W3.cell? ⟨b2, 2, none⟩ = some (.int .u8 proto) by simp [World.cell?, X2.out])
    have y3 := fun u : Near W3 => u.cell (show W3.cell? ⟨b2, 3, none⟩ = some (.int .u16 id) by simp [World.cell?, X2.out])
    have nl := fun u : Near W3 => (by
      have h1 := ((A0.out.near u.near).held.look lawKey Try.underlying104 (zeroDg u.w) hkl).2
      rw [HKV.out, HFH.out] at h1
      have h2 : ((st.g (keyP P)).map fun x => Value.pointer (some ⟨x.1, 0, none⟩)).getD (.pointer none) = .pointer q := by rw [HQ.out]; cases st.g (keyP P) <;> rfl
      rw [h2] at h1
      exact h1 : (Instr.lookup 104 (.map (some hb)) (.agg #[.int .u32 src, .int .u32 dst, .int .u8 proto, .int .u16 id]) false).run Try.prog u.w = .ok (.pointer q) u.w)
    clear a0 a1 a2 a3 a4 a5 a6 h hkl
    refine wp_region_near (by kernel_rfl) (by kernel_rfl) ?_
    repeat (go_big_quiet_step (fail))
    refine wpQuiet_nil ?_
    rintro _ ⟨u, rfl⟩
    have TX := Lib.hid u.near
    clear n4 y0 y1 y2 y3 nl
    go_wp2
    go_meet
    case rel => exact ⟨rfl, TX⟩
  case rest =>
  obtain ⟨rfl, hT3⟩ := hcut
  obtain ⟨W4, hw4⟩ : ∃ w4, w4 = wc := ⟨_, rfl⟩
  rw [← hw4] at hT3 ⊢
  have Y4 := Lib.hid (touch_box hT3.out Y2.out (by simp))
  have X4 := Lib.hid (touch_box hT3.out X2.out (by simp))
  have R4 := Lib.hid (touch_box hT3.out R2.out (by simp))
  have T4 := Lib.hid (T2.out.trans hT3.out (by simp))
  clear hw4 hT3 Y2 X2 R2 T2
  obtain ⟨D0, hD0⟩ : ∃ D0, D0 = oldD st (keyP P) := ⟨_, rfl⟩
  have HD0 := Lib.hid hD0
  clear hD0
  go_upto_if 61 with (fail)
  obtain ⟨fb, hfb⟩ : ∃ fb, fb = q.isNone := ⟨_, rfl⟩
  rw [← hfb]
  have HFB : Hid (fb = !(st.g (keyP P)).isSome) := Lib.hid (by rw [hfb, HQ.out]; cases st.g (keyP P) <;> rfl)
  have HFQ := Lib.hid hfb
  clear hfb
  go_cut [9] from 61 to 63 (fun v wc => ∃ d0, v = .pointer (some ⟨d0, 0, none⟩) ∧ Hid (DgAt wc d0 D0) ∧ Hid (Touch [] W4 wc) ∧ Hid (∀ x, st.g (keyP P) = some x → d0 = x.1))
  case first =>
    cases hg : st.g (keyP P) with
    | none =>
      have hq : q = none := by rw [HQ.out, hg]; rfl
      have hf : fb = true := by rw [HFB.out, hg]; rfl
      have hd : D0 = freshD := by rw [HD0.out]; unfold oldD; rw [hg]
      have HDF := Lib.hid hd
      have HG := Lib.hid hg
      subst hq hf
      clear hd hg
      go_wp2
      go_meet
      case rel => exact ⟨W4.heap.size, rfl, Lib.hid (by rw [HDF.out]; exact ⟨_, _, _, box_at _ _, OwB.nil _, OwB.nil _, OwB.nil _⟩), Lib.hid ((Touch.refl [] W4).alloc _), Lib.hid (fun x hx => by rw [HG.out] at hx; cases hx)⟩
    | some x =>
      obtain ⟨d0, D1⟩ := x
      have hq : q = some ⟨d0, 0, none⟩ := by rw [HQ.out, hg]; rfl
      have hf : fb = false := by rw [HFB.out, hg]; rfl
      have hd : D0 = D1 := by rw [HD0.out]; unfold oldD; rw [hg]
      have HDA : Hid (DgAt W4 d0 D0) := Lib.hid (by
        obtain ⟨hb, kb, tb, TS, s, fh, fk, rfl, h⟩ := H.out.near T4.out
        rw [hd]
        exact (h.each _ _ HKW.out hg).1)
      have HG := Lib.hid hg
      have HXX : Hid (∀ x, st.g (keyP P) = some x → d0 = x.1) := Lib.hid (fun x hx => by rw [HG.out] at hx; cases hx; rfl)
      subst hq hf
      clear hd hg
      go_wp2
      go_meet
      case rel => exact ⟨d0, rfl, HDA, Lib.hid (Touch.refl [] W4), HXX⟩
  case rest =>
  obtain ⟨d0, rfl, HDA, hT4, HDX⟩ := hcut
  obtain ⟨W5, hw5⟩ : ∃ w5, w5 = wc := ⟨_, rfl⟩
  rw [← hw5] at HDA hT4 ⊢
  have Y5 := Lib.hid (touch_box hT4.out Y4.out (by simp))
  have X5 := Lib.hid (touch_box hT4.out X4.out (by simp))
  have R5 := Lib.hid (touch_box hT4.out R4.out (by simp))
  have T5 := Lib.hid (T4.out.trans hT4.out (by simp))
  clear hw5 hT4 Y4 X4 R4 T4
  have HBZ := Lib.hid (bErr_zero HE0.out)
  have hz1 : 0 ≤ off := by have := HBZ.out.2.2.2.2.1; rw [HP.out] at this; exact this
  have hz2 : off ≤ 65528 := by have := HBZ.out.2.2.2.2.2.1; rw [HP.out] at this; exact this
  have hz3 : off + body.length ≤ 65535 := by have := HBZ.out.2.2.2.2.2.2.2.1; rw [HP.out] at this; exact this
  have hz4 : opts.length ≤ 40 := by have := HBZ.out.2.2.1; rw [HP.out] at this; exact this
  obtain ⟨c0, c1, c2, c3, c4, c5, c6, c7, c8, c9, c10⟩ := pk_cells Y5.out
  dsimp only at c0 c1 c2 c3 c4 c5 c6 c7 c8 c9 c10
  go_wp2_with fail
  refine (clash_calls (p := ⟨⟨tos, id, df, mf, off, ttl, proto, src, dst⟩, opts, body⟩) HDA.out (HRD.out W5 (T5.out.mono (by simp))).2 (by dsimp only; omega) hz1 (by dsimp only; omega)).mono ?_
  rintro e W6 ⟨rfl, t6⟩
  rw [← HP.out, HD0.out]
  have Y6 := Lib.hid (touch_box t6 Y5.out (by simp))
  have X6 := Lib.hid (touch_box t6 X5.out (by simp))
  have R6 := Lib.hid (touch_box t6 R5.out (by simp))
  have D6 := Lib.hid (HDA.out.near t6)
  have T6 := Lib.hid (T5.out.trans t6 (by simp))
  clear t6 Y5 X5 R5 T5 HDA c0 c1 c2 c3 c4 c5 c6 c7 c8 c9 c10
  rw [HC.out]
  have HOK : Hid (D0.ok) := Lib.hid (by rw [HD0.out]; exact oldD_ok HST.out HPW.out)
  obtain ⟨D1, hD1⟩ : ∃ D1, D1 = takenD (oldD st (keyP P)) P := ⟨_, rfl⟩
  have HD1 := Lib.hid hD1
  have HTK : Hid (D1.ok) := Lib.hid (by rw [hD1]; exact (takes (oldD_ok HST.out HPW.out) HE0.out HPW.out HZ.out).ok)
  clear hD1
  have HWB : Hid (wholeB D1 = true) := Lib.hid (by rw [HD1.out]; exact HWC.out)
  have hpos : 0 < off + (body.length : Int) := by
    have h1 := HZ.out
    have h2 := HBZ.out.2.2.2.2.2.2.2.2.2
    rw [HP.out] at h1 h2
    dsimp only at h1 h2
    cases mf
    · have : off ≠ 0 := fun e => h1 ⟨e, rfl⟩
      omega
    · have := (h2 rfl).1
      omega
  obtain ⟨c0, c1, c2, c3, c4, c5, c6, c7, c8, c9, c10⟩ := pk_cells Y6.out
  dsimp only at c0 c1 c2 c3 c4 c5 c6 c7 c8 c9 c10
  go_wp2_with fail
  refine (taken_calls (p := ⟨⟨tos, id, df, mf, off, ttl, proto, src, dst⟩, opts, body⟩) D6.out (HRD.out W6 (T6.out.mono (by simp))).1 (HRD.out W6 (T6.out.mono (by simp))).2 hz4 hz1 hz3 hpos HOK.out.len HOK.out.le HOK.out.c0.1 HOK.out.c0.2 HOK.out.far0 HOK.out.far9).mono ?_
  rintro e W7 ⟨d1, rfl, hd1, t7, hd7⟩
  rw [← HP.out, HD0.out, ← HD1.out] at hd1
  have Y7 := Lib.hid (touch_box t7 Y6.out (by simp))
  have X7 := Lib.hid (touch_box t7 X6.out (by simp))
  have R7 := Lib.hid (touch_box t7 R6.out (by simp))
  have D7 := Lib.hid hd1
  have HDG : Hid (w.heap.size ≤ d1) := Lib.hid (Nat.le_trans T6.out.size hd7)
  have HDB : Hid (W6.heap.size ≤ d1) := Lib.hid hd7
  have HWS : Hid (b2 < W6.heap.size) := Lib.hid (Array.getElem?_eq_some_iff.1 X6.out).1
  have T7 := Lib.hid (T6.out.trans t7 (by simp))
  clear t7 hd1 hd7 Y6 X6 R6 D6 T6 c0 c1 c2 c3 c4 c5 c6 c7 c8 c9 c10
  go_wp2_with fail
  refine (dwhole_calls D7.out).mono ?_
  rintro e W8 ⟨rfl, t8⟩
  rw [HWB.out]
  have Y8 := Lib.hid (touch_box t8 Y7.out (by simp))
  have X8 := Lib.hid (touch_box t8 X7.out (by simp))
  have R8 := Lib.hid (touch_box t8 R7.out (by simp))
  have D8 := Lib.hid (D7.out.near t8)
  have T8 := Lib.hid (T7.out.trans t8 (by simp))
  clear t8 Y7 X7 R7 D7 T7
  have HDL : Hid (0 < D1.length ∧ D1.length ≤ D1.bytes.length) := Lib.hid (by
    have h1 := HWB.out
    unfold wholeB at h1
    simp only [Bool.and_eq_true, decide_eq_true_eq] at h1
    rcases HTK.out.length with h2 | h2
    · have := h1.1; omega
    · exact h2)
  go_wp2_with fail
  refine (packet_calls D8.out HDL.out.1 HDL.out.2 (by have := HTK.out.le; omega) HTK.out.opts).mono ?_
  rintro e W9 ⟨VO9, VB9, rfl, o, o', f, f', nd, t9⟩
  obtain ⟨Q, hQ⟩ : ∃ Q, Q = packD D1 := ⟨_, rfl⟩
  have HQQ := Lib.hid hQ
  rw [← hQ] at o o' ⊢
  have HQW : Hid (Q.h.wf) := Lib.hid (by rw [hQ]; exact ⟨HTK.out.wf.tos, HTK.out.wf.id, HTK.out.wf.off, HTK.out.wf.ttl, HTK.out.wf.proto, HTK.out.wf.src, HTK.out.wf.dst⟩)
  have HQL : Hid (Q.opts.length ≤ 40 ∧ Q.body.length ≤ 65535) := Lib.hid (by rw [hQ]; exact ⟨HTK.out.opts, by have := HTK.out.le; simp [packD]; omega⟩)
  have HBQ : Hid (bErr (packD D1) = bErr Q) := Lib.hid (by rw [hQ])
  clear hQ
  obtain ⟨⟨qt, qi, qd, qm, qf, ql, qp, qs, qe⟩, qo, qb⟩ := Q
  obtain ⟨A7, cp7, rfl⟩ := o.row.form
  obtain ⟨A8, cp8, rfl⟩ := o'.row.form
  dsimp only at o o' f f' nd
  have O := Lib.hid o
  have O' := Lib.hid o'
  have F := Lib.hid (show Fresh w.heap.size (.slice A7 qo.length cp7) from fun k hk => Nat.le_trans T8.out.size (f k hk))
  have F' := Lib.hid (show Fresh w.heap.size (.slice A8 qb.length cp8) from fun k hk => Nat.le_trans T8.out.size (f' k hk))
  have X9 := Lib.hid (touch_box t9 X8.out (by simp))
  have R9 := Lib.hid (touch_box t9 R8.out (by simp))
  have T9 := Lib.hid (T8.out.trans t9 (by simp))
  clear o o' f f' nd t9 Y8 X8 R8 D8 T8
  go_upto_region 17 with (fail)
  obtain ⟨WA, hWA⟩ : ∃ W : World, W = W9.alloc (.cells (pkC ⟨qt, qi, qd, qm, qf, ql, qp, qs, qe⟩ (.slice A7 qo.length cp7) (.slice A8 qb.length cp8)) 30) := ⟨_, rfl⟩
  rw [← hWA]
  have tA : Touch [] W9 WA := by rw [hWA]; exact (Touch.refl [] W9).alloc _
  obtain ⟨b5, hb5⟩ : ∃ b5, b5 = W9.heap.size := ⟨_, rfl⟩
  have YA := Lib.hid (show WA.heap[b5]? = some (.cells (pkC ⟨qt, qi, qd, qm, qf, ql, qp, qs, qe⟩ (.slice A7 qo.length cp7) (.slice A8 qb.length cp8)) 30 (0, 0)) by rw [hWA, hb5]; exact box_at _ _)
  have HB5 : Hid (w.heap.size ≤ b5) := Lib.hid (by rw [hb5]; exact T9.out.size)
  have XA := Lib.hid (touch_box tA X9.out (by simp))
  have RA := Lib.hid (touch_box tA R9.out (by simp))
  have OA := Lib.hid (O.out.near tA)
  have OA' := Lib.hid (O'.out.near tA)
  have TA := Lib.hid (T9.out.trans tA (by simp))
  rw [← hb5]
  clear hb5 tA hWA X9 R9 T9 O O'
  obtain ⟨c0, c1, c2, c3, c4, c5, c6, c7, c8, c9, c10⟩ := pk_cells YA.out
  dsimp only at c0 c1 c2 c3 c4 c5 c6 c7 c8 c9 c10
  go_wp2_with fail
  refine (build_calls (p := ⟨⟨qt, qi, qd, qm, qf, ql, qp, qs, qe⟩, qo, qb⟩) OA.out.rdb OA'.out.rdb (by have := HQL.out.1; dsimp only at this ⊢; omega) (by have := HQL.out.2; dsimp only at this ⊢; omega) HQW.out).mono ?_
  rintro e WB ⟨tB, hp⟩
  rw [← HBQ.out] at hp
  have YB := Lib.hid (touch_box tB YA.out (by simp))
  have XB := Lib.hid (touch_box tB XA.out (by simp))
  have RB := Lib.hid (touch_box tB RA.out (by simp))
  have OB := Lib.hid (OA.out.near tB)
  have OB' := Lib.hid (OA'.out.near tB)
  have TB := Lib.hid (TA.out.trans tB (by simp))
  clear tB YA XA RA OA OA' TA c0 c1 c2 c3 c4 c5 c6 c7 c8 c9 c10
  have HBR : Hid (bErr (packD D1) = 0) := Lib.hid (by rw [HD1.out]; exact HBP.out)
  rcases hp with ⟨hp, _⟩ | ⟨_, VQ, rfl, _⟩
  · exact absurd HBR.out hp
  have x0 := (show WB.cell? ⟨b2, 0, none⟩ = some (.int .u32 src) by simp [World.cell?, XB.out])
  have x1 := (show WB.cell? ⟨b2, 1, none⟩ = some (.int .u32 dst) by simp [World.cell?, XB.out])
  have x2 := (show WB.cell? ⟨b2, 2, none⟩ = some (.int .u8 proto) by simp [World.cell?, XB.out])
  have x3 := (show WB.cell? ⟨b2, 3, none⟩ = some (.int .u16 id) by simp [World.cell?, XB.out])
  go_wp2_with fail
  refine (adrop_calls (H.out.near TB.out) (K := ⟨src, dst, proto, id⟩) (by rw [← HKP.out]; exact HKW.out)).mono ?_
  rintro e WC ⟨rfl, aC, tC⟩
  have AC := Lib.hid aC
  have hks := (H.out.near TB.out).kinds
  have YC := Lib.hid (touch_box tC YB.out (fun hs => by have := HAL.out _ hs; have := HB5.out; omega))
  have RC := Lib.hid (touch_box tC RB.out (fun hs => by have := HAL.out _ hs; have := HB1.out; omega))
  have OC := Lib.hid (OB.out.kind tC hks)
  have OC' := Lib.hid (OB'.out.kind tC hks)
  have TC := Lib.hid ((TB.out.mono (S' := S) (by simp)).trans tC (fun x hx => .inl hx))
  clear aC tC hks YB RB XB OB OB' TB x0 x1 x2 x3
  obtain ⟨c0, c1, c2, c3, c4, c5, c6, c7, c8, c9, c10⟩ := pk_cells YC.out
  dsimp only at c0 c1 c2 c3 c4 c5 c6 c7 c8 c9 c10
  obtain ⟨r0, r1, r2, r3, r4, r5, r6, r7, r8, r9, r10⟩ := pk_cells RC.out
  dsimp only at r0 r1 r2 r3 r4 r5 r6 r7 r8 r9 r10
  have z := fun o => box_frozen RC.out o
  obtain ⟨WZ, hWZ, RZ, tZ⟩ := pk_set (h := ⟨qt, qi, qd, qm, qf, ql, qp, qs, qe⟩) (VO := .slice A7 qo.length cp7) (VB := .slice A8 qb.length cp8) RC.out
  dsimp only at hWZ
  have HWZ := Lib.hid hWZ
  have HRZ := Lib.hid RZ
  have TZ := Lib.hid tZ
  clear hWZ RZ tZ
  go_wp2
  rw [← HWZ.out]
  clear r0 r1 r2 r3 r4 r5 r6 r7 r8 r9 r10 z HWZ
  obtain ⟨r0, r1, r2, r3, r4, r5, r6, r7, r8, r9, r10⟩ := pk_cells HRZ.out
  dsimp only at r0 r1 r2 r3 r4 r5 r6 r7 r8 r9 r10
  refine bodyPost_ret (v := .tuple #[.agg (pkC ⟨qt, qi, qd, qm, qf, ql, qp, qs, qe⟩ (.slice A7 qo.length cp7) (.slice A8 qb.length cp8)), .int .i64 0]) (by simp [results, Try.results20, go_sem, r0, r1, r2, r3, r4, r5, r6, r7, r8, r9, r10]) rfl ?_
  refine ⟨⟨⟨qt, qi, qd, qm, qf, ql, qp, qs, qe⟩, qo, qb⟩, 0, gone st (keyP P), S, ?_, ?_, TC.out.trans TZ.out (fun x hx => .inr (by have := HB1.out; simp at hx; omega)), fun k hk => .inl hk, .inr (.inr ⟨HE0.out, HZ.out, .inr (.inr (.inl ⟨HC.out, HWC.out, HBP.out, rfl, by rw [HQQ.out, HD1.out], rfl⟩))⟩)⟩
  · exact ⟨_, _, rfl, OC.out.kept TZ.out (OC.out.off RC.out (by decide)), OC'.out.kept TZ.out (OC'.out.off RC.out (by decide)), F.out, F'.out⟩
  · rw [HKP.out]
    exact AC.out.keptK TZ.out (fun k hk hs => by have := HAL.out k hs; have := HB1.out; simp at hk; omega) (kind_pk RC.out)
end Go.Proofs.Ytelfemhnijnhfaa.Fr
