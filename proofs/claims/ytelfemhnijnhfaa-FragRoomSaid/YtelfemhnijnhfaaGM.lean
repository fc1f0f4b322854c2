/- Add, a piece that leaves its datagram open; no condition. -/
import Derived.Test.YtelfemhnijnhfaaGH
import Derived.Test.YtelfemhnijnhfaaGK
namespace Go.Proofs.Ytelfemhnijnhfaa.Fr
open Go.RowKit Go.Maps
set_option linter.unusedVariables false
set_option linter.unusedSimpArgs false
set_option maxRecDepth 100000
attribute [local go_sem] nilB

set_option maxHeartbeats 8000000 in
theorem add_more {w : World} {a : Nat} {S : List Nat} {st : ASt} (h : AsmAt w a S st) (hst : st.ok) {p : Pk} {VO VB : Value} (hr : ∀ w', Touch S w w' → RdB w' VO p.opts ∧ RdB w' VB p.body) (hlo : p.opts.length ≤ 140737488355328) (hlb : p.body.length ≤ 140737488355328) (hw : p.h.wf) (hE : bErr p = 0) (hz : ¬ (p.h.off = 0 ∧ p.h.mf = false)) (hc : clashB (oldD st (keyP p)) p = false) (hwb : wholeB (takenD (oldD st (keyP p)) p) = false) (hrm : (st.g (keyP p)).isSome = true ∨ (st.n : Int) < st.room) (hbn : st.began < 4611686018427387904) :
    Calls Try.prog 20 #[.pointer (some ⟨a, 0, none⟩), .agg (pkC p.h VO VB)] w (AddPost w a S st p) := by
  have HST := Lib.hid hst
  obtain ⟨ho, hb⟩ := hr w (Touch.refl S w)
  have HAL : Hid (∀ k ∈ S, k < w.heap.size) := Lib.hid h.lt
  have HAK : Hid (∀ k ∈ S, Kind w k) := Lib.hid h.kinds
  have HPW := Lib.hid hw
  have HKW := Lib.hid (keyP_wf hw)
  have HE0 := Lib.hid hE
  have HZ := Lib.hid hz
  have HC := Lib.hid hc
  have HWC := Lib.hid hwb
  clear hE hz hc hwb
  have HRM := Lib.hid hrm
  have HBN := Lib.hid hbn
  clear hrm hbn
  obtain ⟨P, hP⟩ : ∃ P, P = p := ⟨_, rfl⟩
  have HP := Lib.hid hP
  rw [← hP] at HPW HKW HE0 HZ HC HWC HRM
  have EP : Hid (AddPost w a S st p = AddPost w a S st P) := Lib.hid (by rw [hP])
  rw [EP.out]
  clear EP
  obtain ⟨⟨tos, id, df, mf, off, ttl, proto, src, dst⟩, opts, body⟩ := p
  dsimp only at ho hb hlo hlb hr ⊢
  clear hw hst hP
  obtain ⟨A, cap, rfl⟩ := hb.len_lt
  obtain ⟨AV, cV, rfl⟩ := ho.len_lt
  have HO := Lib.hid ho
  have HB := Lib.hid hb
  have H := Lib.hid h
  have HRD := Lib.hid hr
  clear h ho hb hr
  go_enter Try.func20, Try.ntmps20
  go_upto_region 1 with (fail)
  obtain ⟨W0, hW0⟩ : ∃ W0 : World, W0 = (w.alloc (.cells (pkC ⟨tos, id, df, mf, off, ttl, proto, src, dst⟩ (.slice AV opts.length cV) (.slice A body.length cap)) 30)).alloc (.cells (pkC ⟨0, 0, false, false, 0, 0, 0, 0, 0⟩ (.slice none 0 0) (.slice none 0 0)) 30) := ⟨_, rfl⟩
  rw [← hW0]
  have t0 : Touch [] w W0 := by rw [hW0]; exact ((Touch.refl [] w).alloc _).alloc _
  obtain ⟨b0, hb0⟩ : ∃ b0, b0 = w.heap.size := ⟨_, rfl⟩
  obtain ⟨b1, hb1⟩ : ∃ b1, b1 = w.heap.size + 1 := ⟨_, rfl⟩
  have HB0 := Lib.hid hb0
  have HB1 := Lib.hid hb1
  have Y0 := Lib.hid (show W0.heap[b0]? = some (.cells (pkC ⟨tos, id, df, mf, off, ttl, proto, src, dst⟩ (.slice AV opts.length cV) (.slice A body.length cap)) 30 (0, 0)) by rw [hW0, hb0]; exact box_keep _ (box_at w _))
  have R0 := Lib.hid (show W0.heap[b1]? = some (.cells (pkC ⟨0, 0, false, false, 0, 0, 0, 0, 0⟩ (.slice none 0 0) (.slice none 0 0)) 30 (0, 0)) by rw [hW0, hb1]; exact box_at' _ _ _ (by simp))
  have T0 := Lib.hid t0
  rw [← hb1, ← hb0]
  clear hb0 hb1 t0 hW0
  obtain ⟨c0, c1, c2, c3, c4, c5, c6, c7, c8, c9, c10⟩ := pk_cells Y0.out
  dsimp only at c0 c1 c2 c3 c4 c5 c6 c7 c8 c9 c10
  go_wp2_with fail
  refine (build_calls (p := ⟨⟨tos, id, df, mf, off, ttl, proto, src, dst⟩, opts, body⟩) (HO.out.near T0.out) (HB.out.near T0.out) hlo hlb (by have := HPW.out; rw [HP.out] at this; exact this)).mono ?_
  rintro e W1 ⟨t1, hp⟩
  have HBE : Hid (bErr P = bErr ⟨⟨tos, id, df, mf, off, ttl, proto, src, dst⟩, opts, body⟩) := Lib.hid (by rw [HP.out])
  rw [← HBE.out] at hp
  have Y1 := Lib.hid (touch_box t1 Y0.out (by simp))
  have R1 := Lib.hid (touch_box t1 R0.out (by simp))
  have T1 := Lib.hid (T0.out.trans t1 (by simp))
  clear t1 Y0 R0 T0 c0 c1 c2 c3 c4 c5 c6 c7 c8 c9 c10
  rcases hp with ⟨hp, _⟩ | ⟨_, VZ, rfl, _, _⟩
  · exact absurd HE0.out hp
  obtain ⟨c0, c1, c2, c3, c4, c5, c6, c7, c8, c9, c10⟩ := pk_cells Y1.out
  dsimp only at c0 c1 c2 c3 c4 c5 c6 c7 c8 c9 c10
  go_upto_region 5 with (fail)
  obtain ⟨W2, hW2⟩ : ∃ W2 : World, W2 = W1.alloc (.cells #[.int .u32 src, .int .u32 dst, .int .u8 proto, .int .u16 id] 109) := ⟨_, rfl⟩
  rw [← hW2]
  have t2 : Touch [] W1 W2 := by rw [hW2]; exact (Touch.refl [] W1).alloc _
  have X2 := Lib.hid (show W2.heap[W1.heap.size]? = some (.cells #[.int .u32 src, .int .u32 dst, .int .u8 proto, .int .u16 id] 109 (0, 0)) by rw [hW2]; exact box_at _ _)
  obtain ⟨b2, hb2⟩ : ∃ b2, b2 = W1.heap.size := ⟨_, rfl⟩
  have HB2 : Hid (b1 < b2) := Lib.hid (by rw [hb2]; exact (Array.getElem?_eq_some_iff.1 R1.out).1)
  have Y2 := Lib.hid (touch_box t2 Y1.out (by simp))
  have R2 := Lib.hid (touch_box t2 R1.out (by simp))
  have T2 := Lib.hid (T1.out.trans t2 (by simp))
  rw [← hb2] at X2 ⊢
  clear hb2 t2 hW2 Y1 R1 T1 c0 c1 c2 c3 c4 c5 c6 c7 c8 c9 c10
  have HKP : Hid (keyP P = ⟨src, dst, proto, id⟩) := Lib.hid (by rw [HP.out]; rfl)
  have HKV : Hid (kv (keyP P) = .agg #[.int .u32 src, .int .u32 dst, .int .u8 proto, .int .u16 id]) := Lib.hid (by rw [HKP.out]; rfl)
  obtain ⟨c0, c1, c2, c3, c4, c5, c6, c7, c8, c9, c10⟩ := pk_cells Y2.out
  dsimp only at c0 c1 c2 c3 c4 c5 c6 c7 c8 c9 c10
  have x0 := (show W2.cell? ⟨b2, 0, none⟩ = some (.int .u32 src) by simp [World.cell?, X2.out])
  have x1 := (show W2.cell? ⟨b2, 1, none⟩ = some (.int .u32 dst) by simp [World.cell?, X2.out])
  have x2 := (show W2.cell? ⟨b2, 2, none⟩ = some (.int .u8 proto) by simp [World.cell?, X2.out])
  have x3 := (show W2.cell? ⟨b2, 3, none⟩ = some (.int .u16 id) by simp [World.cell?, X2.out])
  go_upto_region 5 with (fail)
  go_cut [47] from 38 to 47 (fun v wq => v = .bool false ∧ Hid (wq = W2))
  case first =>
    have hnz := HZ.out
    rw [HP.out] at hnz
    dsimp only at hnz
    by_cases ho0 : off = 0
    · have hm1 : mf = true := by cases mf; exact absurd ⟨ho0, rfl⟩ hnz; rfl
      subst ho0 hm1
      clear hnz
      go_wp2
      go_meet
      case rel => exact ⟨rfl, Lib.hid rfl⟩
    · have o0 : (off == 0) = false := by rw [beq_eq_false_iff_ne]; exact ho0
      clear hnz ho0
      go_wp2
      go_meet
      case rel => exact ⟨rfl, Lib.hid rfl⟩
  case rest =>
  obtain ⟨rfl, hwq⟩ := hcut
  obtain ⟨W3, hw3⟩ : ∃ w3, w3 = wc := ⟨_, rfl⟩
  obtain rfl : W3 = W2 := by rw [hw3]; exact hwq.out
  rw [← hw3]
  clear hwq hw3 x0 x1 x2 x3 c0 c1 c2 c3 c4 c5 c6 c7 c8 c9 c10
  obtain ⟨q, hq⟩ : ∃ q : Option Addr, q = (st.g (keyP P)).map fun x => ⟨x.1, 0, none⟩ := ⟨_, rfl⟩
  have HQ := Lib.hid hq
  clear hq
  go_upto_region 8 with (fail)
  go_cut [9] from 53 to 58 (fun v wq => v = .pointer q ∧ Hid (Touch [] W3 wq))
  case first =>
    obtain ⟨hb, kb, tb, TS, s, fh, fk, rfl, h⟩ := H.out.near T2.out
    obtain ⟨kl, hkl⟩ := key_some HKW.out
    have A0 := Lib.hid h
    have HFH : Hid (fh (.agg #[.int .u32 src, .int .u32 dst, .int .u8 proto, .int .u16 id]) = (st.g (keyP P)).map fun x => .pointer (some ⟨x.1, 0, none⟩)) := Lib.hid (by rw [← HKV.out]; exact h.look _ HKW.out)
    obtain ⟨a0, a1, a2, a3, a4, a5, a6⟩ := asm_cells h.blk
    have n4 := fun u : Near W3 => u.cell a4
    have y0 := fun u : Near W3 => u.cell (show W3.cell? ⟨b2, 0, none⟩ = some (.int .u32 src) by simp [World.cell?, X2.out])
    have y1 := fun u : Near W3 => u.cell (show W3.cell? ⟨b2, 1, none⟩ = some (.int .u32 dst) by simp [World.cell?, X2.out])
    have y2 := fun u : Near W3 => u.cell (show W3.cell? ⟨b2, 2, none⟩ = some (.int .u8 proto) by simp [World.cell?, X2.out])
    have y3 := fun u : Near W3 => u.cell (show W3.cell? ⟨b2, 3, none⟩ = some (.int .u16 id) by simp [World.cell?, X2.out])
    have nl := fun u : Near W3 => (by
      have h1 := ((A0.out.near u.near).held.look lawKey Try.underlying104 (zeroDg u.w) hkl).2
      rw [HKV.out, HFH.out] at h1
      have h2 : ((st.g (keyP P)).map fun x => Value.pointer (some ⟨x.1, 0, none⟩)).getD (.pointer none) = .pointer q := by rw [HQ.out]; cases st.g (keyP P) <;> rfl
      rw [h2] at h1
      exact h1 : (Instr.lookup 104 (.map (some hb)) (.agg #[.int .u32 src, .int .u32 dst, .int .u8 proto, .int .u16 id]) false).run Try.prog u.w = .ok (.pointer q) u.w)
    clear a0 a1 a2 a3 a4 a5 a6 h hkl
    refine wp_region_near (by kernel_rfl) (by kernel_rfl) ?_
    repeat (go_big_quiet_step (fail))
    refine wpQuiet_nil ?_
    rintro _ ⟨u, rfl⟩
    have TX := Lib.hid u.near
    clear n4 y0 y1 y2 y3 nl
    go_wp2
    go_meet
    case rel => exact ⟨rfl, TX⟩
  case rest =>
  obtain ⟨rfl, hT3⟩ := hcut
  obtain ⟨W4, hw4⟩ : ∃ w4, w4 = wc := ⟨_, rfl⟩
  rw [← hw4] at hT3 ⊢
  have Y4 := Lib.hid (touch_box hT3.out Y2.out (by simp))
  have X4 := Lib.hid (touch_box hT3.out X2.out (by simp))
  have R4 := Lib.hid (touch_box hT3.out R2.out (by simp))
  have T4 := Lib.hid (T2.out.trans hT3.out (by simp))
  clear hw4 hT3 Y2 X2 R2 T2
  obtain ⟨D0, hD0⟩ : ∃ D0, D0 = oldD st (keyP P) := ⟨_, rfl⟩
  have HD0 := Lib.hid hD0
  clear hD0
  go_upto_if 61 with (fail)
  obtain ⟨fb, hfb⟩ : ∃ fb, fb = q.isNone := ⟨_, rfl⟩
  rw [← hfb]
  have HFB : Hid (fb = !(st.g (keyP P)).isSome) := Lib.hid (by rw [hfb, HQ.out]; cases st.g (keyP P) <;> rfl)
  have HFQ := Lib.hid hfb
  clear hfb
  go_cut [9] from 61 to 63 (fun v wc => ∃ d0, v = .pointer (some ⟨d0, 0, none⟩) ∧ Hid (DgAt wc d0 D0) ∧ Hid (Touch [] W4 wc) ∧ Hid (∀ x, st.g (keyP P) = some x → d0 = x.1))
  case first =>
    cases hg : st.g (keyP P) with
    | none =>
      have hq : q = none := by rw [HQ.out, hg]; rfl
      have hf : fb = true := by rw [HFB.out, hg]; rfl
      have hd : D0 = freshD := by rw [HD0.out]; unfold oldD; rw [hg]
      have HDF := Lib.hid hd
      have HG := Lib.hid hg
      subst hq hf
      clear hd hg
      go_wp2
      go_meet
      case rel => exact ⟨W4.heap.size, rfl, Lib.hid (by rw [HDF.out]; exact ⟨_, _, _, box_at _ _, OwB.nil _, OwB.nil _, OwB.nil _⟩), Lib.hid ((Touch.refl [] W4).alloc _), Lib.hid (fun x hx => by rw [HG.out] at hx; cases hx)⟩
    | some x =>
      obtain ⟨d0, D1⟩ := x
      have hq : q = some ⟨d0, 0, none⟩ := by rw [HQ.out, hg]; rfl
      have hf : fb = false := by rw [HFB.out, hg]; rfl
      have hd : D0 = D1 := by rw [HD0.out]; unfold oldD; rw [hg]
      have HDA : Hid (DgAt W4 d0 D0) := Lib.hid (by
        obtain ⟨hb, kb, tb, TS, s, fh, fk, rfl, h⟩ := H.out.near T4.out
        rw [hd]
        exact (h.each _ _ HKW.out hg).1)
      have HG := Lib.hid hg
      have HXX : Hid (∀ x, st.g (keyP P) = some x → d0 = x.1) := Lib.hid (fun x hx => by rw [HG.out] at hx; cases hx; rfl)
      subst hq hf
      clear hd hg
      go_wp2
      go_meet
      case rel => exact ⟨d0, rfl, HDA, Lib.hid (Touch.refl [] W4), HXX⟩
  case rest =>
  obtain ⟨d0, rfl, HDA, hT4, HDX⟩ := hcut
  obtain ⟨W5, hw5⟩ : ∃ w5, w5 = wc := ⟨_, rfl⟩
  rw [← hw5] at HDA hT4 ⊢
  have Y5 := Lib.hid (touch_box hT4.out Y4.out (by simp))
  have X5 := Lib.hid (touch_box hT4.out X4.out (by simp))
  have R5 := Lib.hid (touch_box hT4.out R4.out (by simp))
  have T5 := Lib.hid (T4.out.trans hT4.out (by simp))
  clear hw5 hT4 Y4 X4 R4 T4
  have HBZ := Lib.hid (bErr_zero HE0.out)
  have hz1 : 0 ≤ off := by have := HBZ.out.2.2.2.2.1; rw [HP.out] at this; exact this
  have hz2 : off ≤ 65528 := by have := HBZ.out.2.2.2.2.2.1; rw [HP.out] at this; exact this
  have hz3 : off + body.length ≤ 65535 := by have := HBZ.out.2.2.2.2.2.2.2.1; rw [HP.out] at this; exact this
  have hz4 : opts.length ≤ 40 := by have := HBZ.out.2.2.1; rw [HP.out] at this; exact this
  obtain ⟨c0, c1, c2, c3, c4, c5, c6, c7, c8, c9, c10⟩ := pk_cells Y5.out
  dsimp only at c0 c1 c2 c3 c4 c5 c6 c7 c8 c9 c10
  go_wp2_with fail
  refine (clash_calls (p := ⟨⟨tos, id, df, mf, off, ttl, proto, src, dst⟩, opts, body⟩) HDA.out (HRD.out W5 (T5.out.mono (by simp))).2 (by dsimp only; omega) hz1 (by dsimp only; omega)).mono ?_
  rintro e W6 ⟨rfl, t6⟩
  rw [← HP.out, HD0.out]
  have Y6 := Lib.hid (touch_box t6 Y5.out (by simp))
  have X6 := Lib.hid (touch_box t6 X5.out (by simp))
  have R6 := Lib.hid (touch_box t6 R5.out (by simp))
  have D6 := Lib.hid (HDA.out.near t6)
  have T6 := Lib.hid (T5.out.trans t6 (by simp))
  clear t6 Y5 X5 R5 T5 HDA c0 c1 c2 c3 c4 c5 c6 c7 c8 c9 c10
  rw [HC.out]
  have HOK : Hid (D0.ok) := Lib.hid (by rw [HD0.out]; exact oldD_ok HST.out HPW.out)
  obtain ⟨D1, hD1⟩ : ∃ D1, D1 = takenD (oldD st (keyP P)) P := ⟨_, rfl⟩
  have HD1 := Lib.hid hD1
  have HTK : Hid (D1.ok) := Lib.hid (by rw [hD1]; exact (takes (oldD_ok HST.out HPW.out) HE0.out HPW.out HZ.out).ok)
  clear hD1
  have HWB : Hid (wholeB D1 = false) := Lib.hid (by rw [HD1.out]; exact HWC.out)
  have hpos : 0 < off + (body.length : Int) := by
    have h1 := HZ.out
    have h2 := HBZ.out.2.2.2.2.2.2.2.2.2
    rw [HP.out] at h1 h2
    dsimp only at h1 h2
    cases mf
    · have : off ≠ 0 := fun e => h1 ⟨e, rfl⟩
      omega
    · have := (h2 rfl).1
      omega
  obtain ⟨c0, c1, c2, c3, c4, c5, c6, c7, c8, c9, c10⟩ := pk_cells Y6.out
  dsimp only at c0 c1 c2 c3 c4 c5 c6 c7 c8 c9 c10
  go_wp2_with fail
  refine (taken_calls (p := ⟨⟨tos, id, df, mf, off, ttl, proto, src, dst⟩, opts, body⟩) D6.out (HRD.out W6 (T6.out.mono (by simp))).1 (HRD.out W6 (T6.out.mono (by simp))).2 hz4 hz1 hz3 hpos HOK.out.len HOK.out.le HOK.out.c0.1 HOK.out.c0.2 HOK.out.far0 HOK.out.far9).mono ?_
  rintro e W7 ⟨d1, rfl, hd1, t7, hd7⟩
  rw [← HP.out, HD0.out, ← HD1.out] at hd1
  have Y7 := Lib.hid (touch_box t7 Y6.out (by simp))
  have X7 := Lib.hid (touch_box t7 X6.out (by simp))
  have R7 := Lib.hid (touch_box t7 R6.out (by simp))
  have D7 := Lib.hid hd1
  have HDG : Hid (w.heap.size ≤ d1) := Lib.hid (Nat.le_trans T6.out.size hd7)
  have HDB : Hid (W6.heap.size ≤ d1) := Lib.hid hd7
  have HWS : Hid (b2 < W6.heap.size) := Lib.hid (Array.getElem?_eq_some_iff.1 X6.out).1
  have T7 := Lib.hid (T6.out.trans t7 (by simp))
  clear t7 hd1 hd7 Y6 X6 R6 D6 T6 c0 c1 c2 c3 c4 c5 c6 c7 c8 c9 c10
  go_wp2_with fail
  refine (dwhole_calls D7.out).mono ?_
  rintro e W8 ⟨rfl, t8⟩
  rw [HWB.out]
  have Y8 := Lib.hid (touch_box t8 Y7.out (by simp))
  have X8 := Lib.hid (touch_box t8 X7.out (by simp))
  have R8 := Lib.hid (touch_box t8 R7.out (by simp))
  have D8 := Lib.hid (D7.out.near t8)
  have T8 := Lib.hid (T7.out.trans t8 (by simp))
  clear t8 Y7 X7 R7 D7 T7
  obtain ⟨hb, kb, tb, TS, s, fh, fk, rfl, h8⟩ := H.out.near T8.out
  have A8 := Lib.hid h8
  clear h8
  have HN : Hid ((st.n : Int) ≤ 256) := Lib.hid (by have := HST.out.n; have := HST.out.r9; omega)
  have hda : d1 ≠ a := by have := HAL.out a (by simp); have := HDG.out; omega
  obtain ⟨bg, hbg⟩ : ∃ bg, bg = if (st.g (keyP P)).isSome then st.began else st.began + 1 := ⟨_, rfl⟩
  obtain ⟨og, hog⟩ : ∃ og, og = if (st.g (keyP P)).isSome then D0.order else st.began := ⟨_, rfl⟩
  have HBG := Lib.hid hbg
  have HOG := Lib.hid hog
  clear hbg hog
  have HD1I : Hid (D1.id = D0.id ∧ D1.order = D0.order ∧ D1.until_ = D0.until_) := Lib.hid (by rw [HD1.out, HD0.out]; exact ⟨rfl, rfl, rfl⟩)
  go_upto_if 88 with (fail)
  go_cut [] from 88 to 121 (fun wc => ∃ i : Int, Hid (match st.g (keyP P) with | some x => i = x.2.id | none => fk (.int .i64 i) = none) ∧ Hid (0 ≤ i ∧ i ≤ 256) ∧ Hid (Asm0 wc a hb kb tb TS s fh fk { st with began := bg }) ∧ Hid (DgAt wc d1 { D1 with id := i, order := og }) ∧ Hid (Touch [d1, a] W8 wc))
  case first =>
    cases hg : st.g (keyP P) with
    | some x =>
      have hf : fb = false := by rw [HFB.out, hg]; rfl
      have e1 : bg = st.began := by rw [HBG.out, hg]; rfl
      have e2 : og = D0.order := by rw [HOG.out, hg]; rfl
      have e3 : D0.id = x.2.id := by rw [HD0.out]; unfold oldD; rw [hg]
      have hx := (A8.out.each _ _ HKW.out hg).2.2.2
      have HR1 : Hid (Asm0 W8 a hb kb tb TS s fh fk { st with began := bg }) := Lib.hid (by rw [e1]; exact A8.out)
      have HR2 : Hid (DgAt W8 d1 { D1 with id := x.2.id, order := og }) := Lib.hid (by
        have : ({ D1 with id := x.2.id, order := og } : Dg) = D1 := by rw [e2, ← e3, ← HD1I.out.1, ← HD1I.out.2.1]
        rw [this]; exact D8.out)
      have HX := Lib.hid hx
      have HG := Lib.hid hg
      subst hf
      clear hg e1 e2 e3 hx
      go_wp2
      go_meet
      case rel => exact ⟨x.2.id, Lib.hid (by rw [HG.out]), HX, HR1, HR2, Lib.hid (Touch.refl _ _)⟩
    | none =>
      have hf : fb = true := by rw [HFB.out, hg]; rfl
      have e1 : bg = st.began + 1 := by rw [HBG.out, hg]; rfl
      have e2 : og = st.began := by rw [HOG.out, hg]; rfl
      have HE1 := Lib.hid e1
      have HE2 := Lib.hid e2
      have HG := Lib.hid hg
      have hroom : ¬ st.room ≤ (st.n : Int) := by
        rcases HRM.out with h1 | h1
        · rw [hg] at h1; cases h1
        · omega
      have hd1 : decide (st.room ≤ (st.n : Int)) = false := decide_eq_false hroom
      have hbn := HST.out.b0
      subst hf
      clear hg e1 e2
      obtain ⟨a0, a1, a2, a3, a4, a5, a6⟩ := asm_cells A8.out.blk
      have n0 := fun u : Near W8 => u.cell a0
      have n4 := fun u : Near W8 => u.cell a4
      have nl := fun u : Near W8 => ((A8.out.near u.near).held.len Try.underlying104 3)
      clear a0 a1 a2 a3 a4 a5 a6 hroom
      go_wp2
      refine wp_region_near (by kernel_rfl) (by kernel_rfl) ?_
      repeat (go_big_quiet_step (fail))
      refine wpQuiet_nil ?_
      rintro _ ⟨u, rfl⟩
      have TU := Lib.hid u.near
      obtain ⟨WU, hWU⟩ : ∃ W, W = u.w := ⟨_, rfl⟩
      rw [← hWU] at TU ⊢
      have AU := Lib.hid (A8.out.near TU.out)
      clear n0 n4 nl hWU
      go_wp2_with fail
      refine (number_calls AU.out (by have := HN.out; omega)).mono ?_
      rintro e W9 ⟨i, rfl, hi9, hif, t9⟩
      have HIF := Lib.hid hif
      have T89 := Lib.hid (TU.out.trans t9 (by simp))
      have A9 := Lib.hid (AU.out.near t9)
      have D9 := Lib.hid (D8.out.near T89.out)
      clear t9 hif TU AU
      obtain ⟨VB9, VH9, VO9, hd9, r1, r2, r3⟩ := D9.out
      obtain ⟨d0', d1', _⟩ := dg_cells hd9
      obtain ⟨a0, a1, a2, a3, a4, a5, a6⟩ := asm_cells A9.out.blk
      have fd := fun o => box_frozen hd9 o
      have fa := fun o => box_frozen A9.out.blk o
      have HDD9 := Lib.hid hd9
      obtain ⟨WX, hWX⟩ : ∃ W : World, W = ((W9.setCell ⟨d1, 0, none⟩ (.int .i64 i)).setCell ⟨d1, 1, none⟩ (.int .i64 st.began)).setCell ⟨a, 3, none⟩ (.int .i64 (st.began + 1)) := ⟨_, rfl⟩
      have HWX := Lib.hid hWX
      clear hWX hd9 r1 r2 r3
      have hbn9 := HBN.out
      go_wp2
      rw [← HWX.out]
      have tX : Touch [d1, a] W9 WX := by rw [HWX.out]; exact (((Touch.refl _ W9).setCell _ _ (.inl (by simp))).setCell _ _ (.inl (by simp))).setCell _ _ (.inl (by simp))
      have DX : DgAt WX d1 { D1 with id := (i : Int), order := og } := by
        have q1 := (dg_set0 D9.out (i : Int)).1
        have q2 := (dg_set0 q1 st.began).2.1
        rw [HE2.out, HWX.out]
        refine q2.kindD ((Touch.refl [a] _).setCell _ _ (.inl (by simp))) (fun k hk => .inl ?_)
        simp at hk
        subst hk
        refine .inr ⟨_, _, box_other _ _ (box_other _ _ A9.out.blk (by simpa using Ne.symm hda)) (by simpa using Ne.symm hda), by decide, by decide⟩
      have hkp : ∀ (L : K4) (x : Nat × Dg), L.wf → st.g L = some x → DgAt WX x.1 x.2 := by
        intro L x hL hx
        refine (A9.out.each L x hL hx).1.kindD tX (fun k hk => ?_)
        simp at hk
        rcases hk with rfl | rfl
        · refine .inr ⟨⟨_, HDD9.out⟩, fun he => ?_⟩
          have h1 : AsmAt w a (a :: hb :: kb :: TS) st := H.out
          obtain ⟨hb', kb', tb', TS', s', fh', fk', _, h2⟩ := h1
          have h3 := (h2.each L x hL hx).1.lt
          have := HDG.out
          omega
        · exact .inl (.inr ⟨_, _, A9.out.blk, by decide, by decide⟩)
      have hal : ∀ k ∈ a :: hb :: kb :: TS, k ≠ d1 := fun k hk he => by have := HAL.out k hk; have := HDG.out; omega
      have AX : Asm0 WX a hb kb tb TS s fh fk { st with began := bg } := by
        rw [HE1.out]
        refine A9.out.began tX (fun k hk hm => ?_) _ hkp ?_
        · simp only [List.mem_cons, List.not_mem_nil, or_false] at hk
          rcases hk with rfl | rfl
          · exact hal k (by simp [List.mem_cons] at hm ⊢; right; exact hm) rfl
          · have h1 := A9.out.ab
            have h2 := A9.out.at_
            simp only [List.mem_cons] at hm
            rcases hm with h | h | h
            · exact h1.1 h
            · exact h1.2 h
            · exact h2 h
        · rw [HWX.out]
          have z1 := box_other (k := a) ⟨d1, 1, none⟩ (.int .i64 st.began) (box_other (k := a) ⟨d1, 0, none⟩ (.int .i64 i) A9.out.blk (by simpa using Ne.symm hda)) (by simpa using Ne.symm hda)
          simpa using box_set (o := 3) z1 (.int .i64 (st.began + 1))
      go_meet
      case rel => exact ⟨i, Lib.hid (by rw [HG.out]; exact HIF.out), Lib.hid (by omega), Lib.hid AX, Lib.hid DX, Lib.hid ((T89.out.mono (by simp)).trans tX (fun x hx => .inl hx))⟩
  case rest =>
  obtain ⟨i, HI, HI9, A9, D9, hT9⟩ := hcut
  obtain ⟨W9, hw9⟩ : ∃ w9, w9 = wc := ⟨_, rfl⟩
  rw [← hw9] at A9 D9 hT9 ⊢
  have nb0 : b0 ∉ [d1, a] := by have := HAL.out a (by simp); have := HB0.out; have := HB1.out; have := HB2.out; have := HDB.out; have := HWS.out; simp; omega
  have nb1 : b1 ∉ [d1, a] := by have := HAL.out a (by simp); have := HB0.out; have := HB1.out; have := HB2.out; have := HDB.out; have := HWS.out; simp; omega
  have nb2 : b2 ∉ [d1, a] := by have := HAL.out a (by simp); have := HB0.out; have := HB1.out; have := HB2.out; have := HDB.out; have := HWS.out; simp; omega
  have Y9 := Lib.hid (touch_box hT9.out Y8.out nb0)
  have X9 := Lib.hid (touch_box hT9.out X8.out nb2)
  have R9 := Lib.hid (touch_box hT9.out R8.out nb1)
  have T9 := Lib.hid ((T8.out.mono (S' := a :: hb :: kb :: TS) (by simp)).trans hT9.out (fun x hx => by have := HDG.out; simp at hx; rcases hx with rfl | rfl; exact .inr this; exact .inl (by simp)))
  clear hw9 hT9 Y8 X8 R8 T8 D8 A8 nb0 nb1 nb2
  have httl : 0 ≤ ttl ∧ ttl < 256 := by have := HPW.out.ttl; rw [HP.out] at this; exact this
  obtain ⟨sp, hsp⟩ : ∃ sp, sp = spanI st P := ⟨_, rfl⟩
  have HSP : Hid (sp = if st.life < (if ttl < 1 then 1 else ttl) then st.life else (if ttl < 1 then 1 else ttl)) := Lib.hid (by rw [hsp, HP.out]; rfl)
  have HSS := Lib.hid hsp
  have hspb := spanI_bd HST.out P
  rw [← hsp] at hspb
  obtain ⟨hspb0, hspb1⟩ := hspb
  clear hsp
  go_upto_region 28 with (fail)
  go_cut [15] from 122 to 131 (fun v wq => v = .int .i64 sp ∧ Hid (Touch [] W9 wq))
  case first =>
    obtain ⟨_, _, _, _, _, c5, _⟩ := pk_cells Y9.out
    dsimp only at c5
    obtain ⟨_, a1, _⟩ := asm_cells A9.out.blk
    dsimp only at a1
    have n5 := fun u : Near W9 => u.cell c5
    have n1 := fun u : Near W9 => u.cell a1
    clear c5 a1
    refine wp_region_near (by kernel_rfl) (by kernel_rfl) ?_
    repeat' (go_big_quiet_step (fail))
    all_goals
      refine wpQuiet_nil ?_
      rintro _ ⟨u, rfl⟩
      have TX := Lib.hid u.near
      clear n5 n1
      go_wp2
      all_goals go_meet
      all_goals exact ⟨by rw [HSP.out]; congr 1; (repeat' split) <;> omega, TX⟩
  case rest =>
  obtain ⟨rfl, hT9⟩ := hcut
  obtain ⟨WA, hwA⟩ : ∃ wA, wA = wc := ⟨_, rfl⟩
  rw [← hwA] at hT9 ⊢
  have AA := Lib.hid (A9.out.near hT9.out)
  have DA := Lib.hid (D9.out.near hT9.out)
  have XA := Lib.hid (touch_box hT9.out X9.out (by simp))
  have RA := Lib.hid (touch_box hT9.out R9.out (by simp))
  have TA := Lib.hid (T9.out.trans hT9.out (by simp))
  clear hwA hT9 X9 R9 Y9 A9 D9 T9
  obtain ⟨un, hun⟩ : ∃ un, un = untilI st P D0 := ⟨_, rfl⟩
  have HUN : Hid (un = if D1.until_ < afterI st.now sp then afterI st.now sp else D1.until_) := Lib.hid (by rw [hun, HD1I.out.2.2, HSS.out]; rfl)
  have HUU := Lib.hid hun
  have hunb := untilI_bd (p := P) HST.out HOK.out
  rw [← hun] at hunb
  obtain ⟨hunb0, hunb1⟩ := hunb
  clear hun
  go_upto_region 29 with (fail)
  go_cut [] from 132 to 145 (fun wc => Hid (DgAt wc d1 { D1 with id := i, order := og, until_ := un }) ∧ Hid (Touch [d1] WA wc))
  case first =>
    obtain ⟨VBA, VHA, VOA, hdA, q1, q2, q3⟩ := DA.out
    obtain ⟨_, _, dd2, _⟩ := dg_cells hdA
    dsimp only at dd2
    have df2 := box_frozen hdA 2
    obtain ⟨_, _, a2, _⟩ := asm_cells AA.out.blk
    dsimp only at a2
    have htn := HST.out.t0
    have htn9 := HST.out.t9
    clear hdA q1 q2 q3
    go_region_law (go_simp; go_at_call 50; refine (after_calls _ st.now sp htn htn9 hspb0 (by omega)).mono ?_; rintro e w2 ⟨rfl, rfl⟩)
    all_goals (try go_wp2)
    all_goals go_meet
    all_goals exact ⟨Lib.hid (by
      have q1 := (dg_set0 (DA.out.near (Touch.refl [] WA).drew) un).2.2
      first
        | (have hv : un = afterI st.now sp := by rw [HUN.out]; split <;> omega
           rw [hv] at q1 ⊢
           exact q1)
        | (have hv : un = D1.until_ := by rw [HUN.out]; split <;> omega
           rw [hv] at q1 ⊢
           exact q1)), Lib.hid ((((Touch.refl [] WA).drew).mono (by simp)).setCell _ _ (.inl (by simp)))⟩
  case rest =>
  obtain ⟨DB, hTB⟩ := hcut
  obtain ⟨WB, hwB⟩ : ∃ wB, wB = wc := ⟨_, rfl⟩
  rw [← hwB] at DB hTB ⊢
  clear hwB
  have hS : Hid (∀ k ∈ a :: hb :: kb :: TS, k < w.heap.size) := HAL
  have ab := Lib.hid AA.out.ab
  have hkp : Hid (∀ (L : K4) (x : Nat × Dg), L.wf → st.g L = some x → DgAt WB x.1 x.2) := Lib.hid (fun L x hL hx => by
    obtain ⟨hb', kb', tb', TS', s', fh', fk', _, h2⟩ := (show AsmAt w a (a :: hb :: kb :: TS) st from H.out)
    have h3 := (h2.each L x hL hx).1.lt
    obtain ⟨VBA, VHA, VOA, hdA, _⟩ := DA.out
    refine (AA.out.each L x hL hx).1.kindD hTB.out (fun k hk => ?_)
    simp at hk
    subst hk
    exact .inr ⟨⟨_, hdA⟩, fun he => by have := HDG.out; omega⟩)
  have nd : ∀ k ∈ a :: hb :: kb :: TS, k ∉ [d1] := fun k hk hm => by have := hS.out k hk; have := HDG.out; simp at hm; omega
  have SAB := Lib.hid hTB.out.size
  have HELD := Lib.hid (AA.out.held.kept hTB.out (nd hb (by simp)))
  have KEYS := Lib.hid (AA.out.keys.kept hTB.out (nd kb (by simp)))
  have TIM := Lib.hid (tim_kept AA.out.tim hTB.out (fun k hk => nd k (by simp [hk])))
  have BLK := Lib.hid (touch_box hTB.out AA.out.blk (nd a (by simp)))
  have XB := Lib.hid (touch_box hTB.out XA.out (by have := HDB.out; have := HWS.out; simp; omega))
  have RB := Lib.hid (touch_box hTB.out RA.out (by have := HDB.out; have := HWS.out; have := HB2.out; simp; omega))
  have TB := Lib.hid (TA.out.trans hTB.out (fun x hx => .inr (by have := HDG.out; simp at hx; omega)))
  have HKD : Hid (∀ k ∈ a :: hb :: kb :: TS, Kind WB k) := Lib.hid (fun k hk => by
    have h1 : AsmAt WA a (a :: hb :: kb :: TS) { st with began := bg } := ⟨hb, kb, tb, TS, s, fh, fk, rfl, AA.out⟩
    rcases h1.kinds k hk with ⟨es, c, hm⟩ | ⟨c, T, hm, h5, h6⟩
    · exact .inl ⟨es, c, touch_box hTB.out hm (nd k hk)⟩
    · exact .inr ⟨c, T, touch_box hTB.out hm (nd k hk), h5, h6⟩)
  clear hTB DA XA RA TA nd
  obtain ⟨n', hn'⟩ : ∃ n', n' = if (st.g (keyP P)).isSome then st.n else st.n + 1 := ⟨_, rfl⟩
  have HN' := Lib.hid hn'
  have HFI : Hid ((fh (.agg #[.int .u32 src, .int .u32 dst, .int .u8 proto, .int .u16 id])).isSome = (st.g (keyP P)).isSome) := Lib.hid (by
    rw [← HKV.out, AA.out.look _ HKW.out]
    show ((st.g (keyP P)).map _).isSome = _
    cases st.g (keyP P) <;> rfl)
  have HKI : Hid ((fk (.int .i64 i)).isSome = (st.g (keyP P)).isSome) := Lib.hid (by
    have h1 := HI.out
    cases hg : st.g (keyP P) with
    | none => rw [hg] at h1; dsimp only at h1; rw [h1]; rfl
    | some x => rw [hg] at h1; dsimp only at h1; rw [h1, (AA.out.each _ x HKW.out hg).2.1]; rfl)
  have HVI : Hid ((Tm.val s i).isSome = (st.g (keyP P)).isSome) := Lib.hid (by
    have h1 := HI.out
    cases hg : st.g (keyP P) with
    | none =>
      rw [hg] at h1
      dsimp only at h1
      cases hv : (Tm.val s i).isSome
      · rfl
      · have := AA.out.due i hv; rw [h1] at this; cases this
    | some x => rw [hg] at h1; dsimp only at h1; rw [h1, (AA.out.each _ x HKW.out hg).2.2.1]; rfl)
  clear hn'
  have hn9 : st.n < 9223372036854775807 := by have := HN.out; omega
  obtain ⟨hi0, hi9⟩ := HI9.out
  go_upto_region 30 with (fail)
  go_cut [] from 146 to 151 (fun wc => Hid (GMap 109 wc hb (updV fh (kv (keyP P)) (some (.pointer (some ⟨d1, 0, none⟩)))) n') ∧ Hid (Touch [hb] WB wc))
  case first =>
    obtain ⟨kl, hkl⟩ := key_some HKW.out
    have HKL := Lib.hid hkl
    obtain ⟨_, _, _, _, a4, _⟩ := asm_cells BLK.out
    have x0 := (show WB.cell? ⟨b2, 0, none⟩ = some (.int .u32 src) by simp [World.cell?, XB.out])
    have x1 := (show WB.cell? ⟨b2, 1, none⟩ = some (.int .u32 dst) by simp [World.cell?, XB.out])
    have x2 := (show WB.cell? ⟨b2, 2, none⟩ = some (.int .u8 proto) by simp [World.cell?, XB.out])
    have x3 := (show WB.cell? ⟨b2, 3, none⟩ = some (.int .u16 id) by simp [World.cell?, XB.out])
    have KD := Lib.hid (HELD.out.kept (Touch.refl [] WB).drew (by simp))
    clear hkl
    obtain ⟨w4, hrun, k4, t4⟩ := KD.out.store lawKey Try.underlying104 HKL.out (.pointer (some ⟨d1, 0, none⟩)) hn9
    rw [HKV.out, HFI.out, ← HN'.out] at k4
    rw [HKV.out] at hrun
    have K4' := Lib.hid k4
    have T4' := Lib.hid t4
    clear k4 t4
    go_region_law (fail)
    all_goals (try go_wp2)
    all_goals go_meet
    all_goals exact ⟨Lib.hid (by rw [HKV.out]; exact K4'.out), Lib.hid ((((Touch.refl [] WB).drew).mono (by simp)).trans T4'.out (fun x hx => .inl hx))⟩
  case rest =>
  obtain ⟨HELDC, hTC⟩ := hcut
  obtain ⟨WC, hwC⟩ : ∃ wC, wC = wc := ⟨_, rfl⟩
  rw [← hwC] at HELDC hTC ⊢
  clear hwC
  have KEYSC := Lib.hid (KEYS.out.kept hTC.out (by simp; exact fun e => AA.out.hk e.symm))
  have TIMC := Lib.hid (tim_kept TIM.out hTC.out (fun k hk => by simp; rintro rfl; exact AA.out.ht hk))
  have BLKC := Lib.hid (touch_box hTC.out BLK.out (by simp; exact ab.out.1))
  have DC := Lib.hid (DB.out.kind hTC.out (fun k hk => HKD.out k (by simp at hk; simp [hk])))
  have XC := Lib.hid (touch_box hTC.out XB.out (by have := hS.out hb (by simp); have := HB0.out; have := HB1.out; have := HB2.out; simp; omega))
  have RC := Lib.hid (touch_box hTC.out RB.out (by have := hS.out hb (by simp); have := HB0.out; have := HB1.out; have := HB2.out; simp; omega))
  have TC : Hid (Touch (hb :: kb :: TS) WB WC) := Lib.hid (hTC.out.mono (fun x hx => .inl (by simp at hx; simp [hx])))
  clear hTC HELD KEYS TIM BLK XB RB
  go_upto_region 31 with (fail)
  go_cut [] from 152 to 160 (fun wc => Hid (GMap 3 wc kb (updV fk (.int .i64 i) (some (kv (keyP P)))) n') ∧ Hid (Touch [kb] WC wc))
  case first =>
    obtain ⟨VBA, VHA, VOA, hdC, _⟩ := DC.out
    obtain ⟨dd0, _⟩ := dg_cells hdC
    dsimp only at dd0
    obtain ⟨_, _, _, _, _, a5, _⟩ := asm_cells BLKC.out
    have x0 := (show WC.cell? ⟨b2, 0, none⟩ = some (.int .u32 src) by simp [World.cell?, XC.out])
    have x1 := (show WC.cell? ⟨b2, 1, none⟩ = some (.int .u32 dst) by simp [World.cell?, XC.out])
    have x2 := (show WC.cell? ⟨b2, 2, none⟩ = some (.int .u8 proto) by simp [World.cell?, XC.out])
    have x3 := (show WC.cell? ⟨b2, 3, none⟩ = some (.int .u16 id) by simp [World.cell?, XC.out])
    have KD := Lib.hid (KEYSC.out.kept (Touch.refl [] WC).drew (by simp))
    clear hdC
    obtain ⟨w4, hrun, k4, t4⟩ := KD.out.store lawInt Try.underlying105 (keyInt (x := i) (by omega) (by omega)) (.agg #[.int .u32 src, .int .u32 dst, .int .u8 proto, .int .u16 id]) hn9
    rw [HKI.out, ← HN'.out] at k4
    have K4' := Lib.hid k4
    have T4' := Lib.hid t4
    clear k4 t4
    go_region_law (fail)
    all_goals (try go_wp2)
    all_goals go_meet
    all_goals exact ⟨Lib.hid (by rw [HKV.out]; exact K4'.out), Lib.hid ((((Touch.refl [] WC).drew).mono (by simp)).trans T4'.out (fun x hx => .inl hx))⟩
  case rest =>
  obtain ⟨KEYSD, hTD⟩ := hcut
  obtain ⟨WD, hwD⟩ : ∃ wD, wD = wc := ⟨_, rfl⟩
  rw [← hwD] at KEYSD hTD ⊢
  clear hwD
  have HELDD := Lib.hid (HELDC.out.kept hTD.out (by simp; exact AA.out.hk))
  have TIMD := Lib.hid (tim_kept TIMC.out hTD.out (fun k hk => by simp; rintro rfl; exact AA.out.kt hk))
  have BLKD := Lib.hid (touch_box hTD.out BLKC.out (by simp; exact ab.out.2))
  have TD : Hid (Touch (hb :: kb :: TS) WB WD) := Lib.hid (TC.out.trans hTD.out (fun x hx => .inl (by simp at hx; simp [hx])))
  have DD := Lib.hid (DB.out.kind TD.out (fun k hk => HKD.out k (by simp at hk; simp; exact .inr hk)))
  have RD := Lib.hid (touch_box hTD.out RC.out (by have := hS.out kb (by simp); have := HB0.out; have := HB1.out; have := HB2.out; simp; omega))
  clear hTD TC XC RC DC BLKC KEYSC TIMC HELDC
  go_upto_region 32 with (fail)
  go_cut [] from 161 to 173 (fun wc => ∃ s' TS', Hid (Tm.Goes WD wc tb TS 256 s' TS') ∧ Hid (s'.hp.length = n') ∧ Hid (∀ y, Tm.val s' y = if y = i then some un else Tm.val s y))
  case first =>
    obtain ⟨VBA, VHA, VOA, hdD, _⟩ := DD.out
    obtain ⟨dd0, _, dd2, _⟩ := dg_cells hdD
    dsimp only at dd0 dd2
    obtain ⟨_, _, _, _, _, _, a6⟩ := asm_cells BLKD.out
    have TK := Lib.hid (tim_kept TIMD.out (Touch.refl [] WD).drew (by simp))
    have HLEN : Hid (s.hp.length = st.n) := Lib.hid AA.out.len
    have hw1 : Tm.wfi i := Tm.wfi_mk (by omega) (by omega)
    have hw2 : Tm.wfi un := Tm.wfi_mk (by omega) (by omega)
    clear hdD
    go_region_law (go_simp; go_at_call 51; refine (Tm.set_calls TK.out i un hw1 hw2).mono ?_; rintro e w2 ⟨s', TS', k1, hp⟩; rcases hp with ⟨hp, hp2, _⟩ | ⟨_, rfl, hp, hp'⟩; (exfalso; have h1 := HVI.out; rw [hp] at h1; have h2 := HLEN.out; have h3 := HRM.out; have h4 := HST.out.r9; rw [← h1] at h3; rcases h3 with h3 | h3; cases h3; omega); have K1 := Lib.hid k1; have K2 := Lib.hid hp; have K3 := Lib.hid hp'; clear k1 hp hp')
    all_goals (try go_wp2)
    all_goals go_meet
    all_goals exact ⟨s', TS', Lib.hid ⟨K1.out.tim, (((Touch.refl [] WD).drew).mono (by simp)).trans K1.out.touch (fun x hx => .inl hx), fun k hk => K1.out.sub k hk⟩, Lib.hid (by rw [K2.out, HVI.out, HLEN.out, HN'.out]), K3⟩
  case rest =>
  obtain ⟨s', TS', HG, HL', HV'⟩ := hcut
  obtain ⟨WE, hwE⟩ : ∃ wE, wE = wc := ⟨_, rfl⟩
  rw [← hwE] at HG ⊢
  clear hwE
  have HELDE := Lib.hid (HELDD.out.kept HG.out.touch AA.out.ht)
  have KEYSE := Lib.hid (KEYSD.out.kept HG.out.touch AA.out.kt)
  have BLKE := Lib.hid (touch_box HG.out.touch BLKD.out AA.out.at_)
  have TE : Hid (Touch (hb :: kb :: TS) WB WE) := Lib.hid (TD.out.trans HG.out.touch (fun x hx => .inl (by simp [hx])))
  have HKE : Hid (∀ k ∈ hb :: kb :: TS, Kind WB k) := Lib.hid (fun k hk => HKD.out k (by simp at hk; simp; exact .inr hk))
  have RE := Lib.hid (touch_box HG.out.touch RD.out (fun hm => by have := hS.out b1 (by simp [hm]); have := HB1.out; omega))
  have RLT : Hid (b1 < WD.heap.size) := Lib.hid (Array.getElem?_eq_some_iff.1 RD.out).1
  have SBD := Lib.hid TD.out.size
  have RK : Hid (∀ k ∈ a :: hb :: kb :: TS', k ∈ a :: hb :: kb :: TS ∨ WD.heap.size ≤ k) := Lib.hid (fun k hk => by
    simp only [List.mem_cons] at hk ⊢
    rcases hk with h | h | h | h
    · exact .inl (.inl h)
    · exact .inl (.inr (.inl h))
    · exact .inl (.inr (.inr (.inl h)))
    · rcases HG.out.sub k h with h | h
      · exact .inl (.inr (.inr (.inr h)))
      · exact .inr h)
  have FIN : Hid (AsmAt WE a (a :: hb :: kb :: TS') (kept st P d1 i)) := Lib.hid (by
    have h1 := AA.out.put (d := d1) (D := { D1 with id := i, order := og, until_ := un }) (i := i) (u := un) (w' := WE) (TS' := TS') (s' := s') HKW.out rfl rfl (by have := HI.out; exact this) HI9.out.1 HI9.out.2 BLKE.out (by have := HELDE.out; rw [HN'.out] at this; exact this) (by have := KEYSE.out; rw [HN'.out] at this; exact this) HG.out.tim (by rw [HL'.out, HN'.out]) HV'.out (fun k hk => by
      rcases HG.out.sub k hk with h | h
      · exact .inl h
      · exact .inr (Nat.le_trans SAB.out (Nat.le_trans SBD.out h))) (DB.out.kind TE.out HKE.out) (fun L x hL hx => (hkp.out L x hL hx).kind TE.out HKE.out)
    have e : kept st P d1 i = { ({ st with began := bg } : ASt) with g := updK st.g (keyP P) (some (d1, { D1 with id := i, order := og, until_ := un })), n := if (st.g (keyP P)).isSome then st.n else st.n + 1 } := by
      have e2 : newD st P i = { D1 with id := i, order := og, until_ := un } := by
        unfold newD
        rw [HD1.out, HOG.out, HUU.out, HD0.out]
        have h2 := HI.out
        cases hg : st.g (keyP P) with
        | none => simp
        | some x =>
          rw [hg] at h2
          dsimp only at h2
          have e3 : (oldD st (keyP P)).id = i := by rw [h2]; unfold oldD; rw [hg]
          simp [e3]
      unfold kept
      rw [e2, HBG.out]
    rw [e]
    exact ⟨hb, kb, tb, TS', s', _, _, rfl, h1⟩)
  have TT : Hid (Touch (a :: hb :: kb :: TS) w WE) := Lib.hid (TB.out.trans TE.out (fun x hx => .inl (by simp at hx; simp; exact .inr hx)))
  clear HELDE KEYSE BLKE TE HKE TD HELDD KEYSD BLKD TIMD DD DB
  obtain ⟨r0, r1, r2, r3, r4, r5, r6, r7, r8, r9, r10⟩ := pk_cells RE.out
  dsimp only at r0 r1 r2 r3 r4 r5 r6 r7 r8 r9 r10
  have z := fun o => box_frozen RE.out o
  obtain ⟨WZ, hWZ, RZ, tZ⟩ := pk_set (h := ⟨0, 0, false, false, 0, 0, 0, 0, 0⟩) (VO := .slice none 0 0) (VB := .slice none 0 0) RE.out
  dsimp only at hWZ
  have HWZ := Lib.hid hWZ
  have HRZ := Lib.hid RZ
  have TZ := Lib.hid tZ
  clear hWZ RZ tZ
  go_wp2
  rw [← HWZ.out]
  clear r0 r1 r2 r3 r4 r5 r6 r7 r8 r9 r10 z HWZ
  obtain ⟨r0, r1, r2, r3, r4, r5, r6, r7, r8, r9, r10⟩ := pk_cells HRZ.out
  dsimp only at r0 r1 r2 r3 r4 r5 r6 r7 r8 r9 r10
  refine bodyPost_ret (v := .tuple #[.agg (pkC ⟨0, 0, false, false, 0, 0, 0, 0, 0⟩ (.slice none 0 0) (.slice none 0 0)), .int .i64 52]) (by simp [results, Try.results20, go_sem, r0, r1, r2, r3, r4, r5, r6, r7, r8, r9, r10]) rfl ?_
  exact ⟨zeroP, 52, kept st P d1 i, a :: hb :: kb :: TS', PktR.zero, FIN.out.keptK TZ.out (fun k hk hs => by simp only [List.mem_singleton] at hk; subst hk; rcases RK.out _ hs with h | h; (have := HAL.out _ h; have := HB1.out; omega); (have := RLT.out; omega)) (kind_pk RE.out), TT.out.trans TZ.out (fun x hx => .inr (by have := HB1.out; simp at hx; omega)), fun k hk => (RK.out k hk).imp (fun h => h) (fun h => Nat.le_trans TB.out.size (Nat.le_trans SBD.out h)), .inr (.inr ⟨HE0.out, HZ.out, .inr (.inr (.inr ⟨HC.out, HWC.out, rfl, rfl, d1, i, rfl⟩))⟩)⟩
end Go.Proofs.Ytelfemhnijnhfaa.Fr
