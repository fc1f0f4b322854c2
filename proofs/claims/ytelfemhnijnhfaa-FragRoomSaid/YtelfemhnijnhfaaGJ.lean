/- Add, a piece that clashes; no condition. -/
import Derived.Test.YtelfemhnijnhfaaGH
import Derived.Test.YtelfemhnijnhfaaGK
namespace Go.Proofs.Ytelfemhnijnhfaa.Fr
open Go.RowKit Go.Maps
set_option linter.unusedVariables false
set_option linter.unusedSimpArgs false
set_option maxRecDepth 100000
attribute [local go_sem] nilB

set_option maxHeartbeats 8000000 in
theorem add_clash {w : World} {a : Nat} {S : List Nat} {st : ASt} (h : AsmAt w a S st) (hst : st.ok) {p : Pk} {VO VB : Value} (hr : ∀ w', Touch S w w' → RdB w' VO p.opts ∧ RdB w' VB p.body) (hlo : p.opts.length ≤ 140737488355328) (hlb : p.body.length ≤ 140737488355328) (hw : p.h.wf) (hE : bErr p = 0) (hz : ¬ (p.h.off = 0 ∧ p.h.mf = false)) (hc : clashB (oldD st (keyP p)) p = true) :
    Calls Try.prog 20 #[.pointer (some ⟨a, 0, none⟩), .agg (pkC p.h VO VB)] w (AddPost w a S st p) := by
  have HST := Lib.hid hst
  obtain ⟨ho, hb⟩ := hr w (Touch.refl S w)
  have HAL : Hid (∀ k ∈ S, k < w.heap.size) := Lib.hid h.lt
  have HAK : Hid (∀ k ∈ S, Kind w k) := Lib.hid h.kinds
  have HPW := Lib.hid hw
  have HKW := Lib.hid (keyP_wf hw)
  have HE0 := Lib.hid hE
  have HZ := Lib.hid hz
  have HC := Lib.hid hc
  clear hE hz hc
  obtain ⟨P, hP⟩ : ∃ P, P = p := ⟨_, rfl⟩
  have HP := Lib.hid hP
  rw [← hP] at HPW HKW HE0 HZ HC
  have EP : Hid (AddPost w a S st p = AddPost w a S st P) := Lib.hid (by rw [hP])
  rw [EP.out]
  clear EP
  obtain ⟨⟨tos, id, df, mf, off, ttl, proto, src, dst⟩, opts, body⟩ := p
  dsimp only at ho hb hlo hlb hr ⊢
  clear hw hst hP
  obtain ⟨A, cap, rfl⟩ := hb.len_lt
  obtain ⟨AV, cV, rfl⟩ := ho.len_lt
  have HO := Lib.hid ho
  have HB := Lib.hid hb
  have H := Lib.hid h
  have HRD := Lib.hid hr
  clear h ho hb hr
  go_enter Try.func20, Try.ntmps20
  go_upto_region 1 with (fail)
  obtain ⟨W0, hW0⟩ : ∃ W0 : World, W0 = (w.alloc (.cells (pkC ⟨tos, id, df, mf, off, ttl, proto, src, dst⟩ (.slice AV opts.length cV) (.slice A body.length cap)) 30)).alloc (.cells (pkC ⟨0, 0, false, false, 0, 0, 0, 0, 0⟩ (.slice none 0 0) (.slice none 0 0)) 30) := ⟨_, rfl⟩
  rw [← hW0]
  have t0 : Touch [] w W0 := by rw [hW0]; exact ((Touch.refl [] w).alloc _).alloc _
  obtain ⟨b0, hb0⟩ : ∃ b0, b0 = w.heap.size := ⟨_, rfl⟩
  obtain ⟨b1, hb1⟩ : ∃ b1, b1 = w.heap.size + 1 := ⟨_, rfl⟩
  have HB0 := Lib.hid hb0
  have HB1 := Lib.hid hb1
  have Y0 := Lib.hid (show W0.heap[b0]? = some (.cells (pkC ⟨tos, id, df, mf, off, ttl, proto, src, dst⟩ (.slice AV opts.length cV) (.slice A body.length cap)) 30 (0, 0)) by rw [hW0, hb0]; exact box_keep _ (box_at w _))
  have R0 := Lib.hid (show W0.heap[b1]? = some (.cells (pkC ⟨0, 0, false, false, 0, 0, 0, 0, 0⟩ (.slice none 0 0) (.slice none 0 0)) 30 (0, 0)) by rw [hW0, hb1]; exact box_at' _ _ _ (by simp))
  have T0 := Lib.hid t0
  rw [← hb1, ← hb0]
  clear hb0 hb1 t0 hW0
  obtain ⟨c0, c1, c2, c3, c4, c5, c6, c7, c8, c9, c10⟩ := pk_cells Y0.out
  dsimp only at c0 c1 c2 c3 c4 c5 c6 c7 c8 c9 c10
  go_wp2_with fail
  refine (build_calls (p := ⟨⟨tos, id, df, mf, off, ttl, proto, src, dst⟩, opts, body⟩) (HO.out.near T0.out) (HB.out.near T0.out) hlo hlb (by have := HPW.out; rw [HP.out] at this; exact this)).mono ?_
  rintro e W1 ⟨t1, hp⟩
  have HBE : Hid (bErr P = bErr ⟨⟨tos, id, df, mf, off, ttl, proto, src, dst⟩, opts, body⟩) := Lib.hid (by rw [HP.out])
  rw [← HBE.out] at hp
  have Y1 := Lib.hid (touch_box t1 Y0.out (by simp))
  have R1 := Lib.hid (touch_box t1 R0.out (by simp))
  have T1 := Lib.hid (T0.out.trans t1 (by simp))
  clear t1 Y0 R0 T0 c0 c1 c2 c3 c4 c5 c6 c7 c8 c9 c10
  rcases hp with ⟨hp, _⟩ | ⟨_, VZ, rfl, _, _⟩
  · exact absurd HE0.out hp
  obtain ⟨c0, c1, c2, c3, c4, c5, c6, c7, c8, c9, c10⟩ := pk_cells Y1.out
  dsimp only at c0 c1 c2 c3 c4 c5 c6 c7 c8 c9 c10
  go_upto_region 5 with (fail)
  obtain ⟨W2, hW2⟩ : ∃ W2 : World, W2 = W1.alloc (.cells #[.int .u32 src, .int .u32 dst, .int .u8 proto, .int .u16 id] 109) := ⟨_, rfl⟩
  rw [← hW2]
  have t2 : Touch [] W1 W2 := by rw [hW2]; exact (Touch.refl [] W1).alloc _
  have X2 := Lib.hid (show W2.heap[W1.heap.size]? = some (.cells #[.int .u32 src, .int .u32 dst, .int .u8 proto, .int .u16 id] 109 (0, 0)) by rw [hW2]; exact box_at _ _)
  obtain ⟨b2, hb2⟩ : ∃ b2, b2 = W1.heap.size := ⟨_, rfl⟩
  have HB2 : Hid (b1 < b2) := Lib.hid (by rw [hb2]; exact (Array.getElem?_eq_some_iff.1 R1.out).1)
  have Y2 := Lib.hid (touch_box t2 Y1.out (by simp))
  have R2 := Lib.hid (touch_box t2 R1.out (by simp))
  have T2 := Lib.hid (T1.out.trans t2 (by simp))
  rw [← hb2] at X2 ⊢
  clear hb2 t2 hW2 Y1 R1 T1 c0 c1 c2 c3 c4 c5 c6 c7 c8 c9 c10
  have HKP : Hid (keyP P = ⟨src, dst, proto, id⟩) := Lib.hid (by rw [HP.out]; rfl)
  have HKV : Hid (kv (keyP P) = .agg #[.int .u32 src, .int .u32 dst, .int .u8 proto, .int .u16 id]) := Lib.hid (by rw [HKP.out]; rfl)
  obtain ⟨c0, c1, c2, c3, c4, c5, c6, c7, c8, c9, c10⟩ := pk_cells Y2.out
  dsimp only at c0 c1 c2 c3 c4 c5 c6 c7 c8 c9 c10
  have x0 := (show W2.cell? ⟨b2, 0, none⟩ = some (.int .u32 src) by simp [World.cell?, X2.out])
  have x1 := (show W2.cell? ⟨b2, 1, none⟩ = some (.int .u32 dst) by simp [World.cell?, X2.out])
  have x2 := (show W2.cell? ⟨b2, 2, none⟩ = some (.int .u8 proto) by simp [World.cell?, X2.out])
  have x3 := (show W2.cell? ⟨b2, 3, none⟩ = some (.int .u16 id) by simp [World.cell?, X2.out])
  go_upto_region 5 with (fail)
  go_cut [47] from 38 to 47 (fun v wq => v = .bool false ∧ Hid (wq = W2))
  case first =>
    have hnz := HZ.out
    rw [HP.out] at hnz
    dsimp only at hnz
    by_cases ho0 : off = 0
    · have hm1 : mf = true := by cases mf; exact absurd ⟨ho0, rfl⟩ hnz; rfl
      subst ho0 hm1
      clear hnz
      go_wp2
      go_meet
      case rel => exact ⟨rfl, Lib.hid rfl⟩
    · have o0 : (off == 0) = false := by rw [beq_eq_false_iff_ne]; exact ho0
      clear hnz ho0
      go_wp2
      go_meet
      case rel => exact ⟨rfl, Lib.hid rfl⟩
  case rest =>
  obtain ⟨rfl, hwq⟩ := hcut
  obtain ⟨W3, hw3⟩ : ∃ w3, w3 = wc := ⟨_, rfl⟩
  obtain rfl : W3 = W2 := by rw [hw3]; exact hwq.out
  rw [← hw3]
  clear hwq hw3 x0 x1 x2 x3 c0 c1 c2 c3 c4 c5 c6 c7 c8 c9 c10
  obtain ⟨q, hq⟩ : ∃ q : Option Addr, q = (st.g (keyP P)).map fun x => ⟨x.1, 0, none⟩ := ⟨_, rfl⟩
  have HQ := Lib.hid hq
  clear hq
  go_upto_region 8 with (fail)
  go_cut [9] from 53 to 58 (fun v wq => v = .pointer q ∧ Hid (Touch [] W3 wq))
  case first =>
    obtain ⟨hb, kb, tb, TS, s, fh, fk, rfl, h⟩ := H.out.near T2.out
    obtain ⟨kl, hkl⟩ := key_some HKW.out
    have A0 := Lib.hid h
    have HFH : Hid (fh (.agg #[.int .u32 src, .int .u32 dst, .int .u8 proto, .int .u16 id]) = (st.g (keyP P)).map fun x => .pointer (some ⟨x.1, 0, none⟩)) := Lib.hid (by rw [← HKV.out]; exact h.look _ HKW.out)
    obtain ⟨a0, a1, a2, a3, a4, a5, a6⟩ := asm_cells h.blk
    have n4 := fun u : Near W3 => u.cell a4
    have y0 := fun u : Near W3 => u.cell (show W3.cell? ⟨b2, 0, none⟩ = some (.int .u32 src) by simp [World.cell?, X2.out])
    have y1 := fun u : Near W3 => u.cell (show W3.cell? ⟨b2, 1, none⟩ = some (.int .u32 dst) by simp [World.cell?, X2.out])
    have y2 := fun u : Near W3 => u.cell (show W3.cell? ⟨b2, 2, none⟩ = some (.int .u8 proto) by simp [World.cell?, X2.out])
    have y3 := fun u : Near W3 => u.cell (show W3.cell? ⟨b2, 3, none⟩ = some (.int .u16 id) by simp [World.cell?, X2.out])
    have nl := fun u : Near W3 => (by
      have h1 := ((A0.out.near u.near).held.look lawKey Try.underlying104 (zeroDg u.w) hkl).2
      rw [HKV.out, HFH.out] at h1
      have h2 : ((st.g (keyP P)).map fun x => Value.pointer (some ⟨x.1, 0, none⟩)).getD (.pointer none) = .pointer q := by rw [HQ.out]; cases st.g (keyP P) <;> rfl
      rw [h2] at h1
      exact h1 : (Instr.lookup 104 (.map (some hb)) (.agg #[.int .u32 src, .int .u32 dst, .int .u8 proto, .int .u16 id]) false).run Try.prog u.w = .ok (.pointer q) u.w)
    clear a0 a1 a2 a3 a4 a5 a6 h hkl
    refine wp_region_near (by kernel_rfl) (by kernel_rfl) ?_
    repeat (go_big_quiet_step (fail))
    refine wpQuiet_nil ?_
    rintro _ ⟨u, rfl⟩
    have TX := Lib.hid u.near
    clear n4 y0 y1 y2 y3 nl
    go_wp2
    go_meet
    case rel => exact ⟨rfl, TX⟩
  case rest =>
  obtain ⟨rfl, hT3⟩ := hcut
  obtain ⟨W4, hw4⟩ : ∃ w4, w4 = wc := ⟨_, rfl⟩
  rw [← hw4] at hT3 ⊢
  have Y4 := Lib.hid (touch_box hT3.out Y2.out (by simp))
  have X4 := Lib.hid (touch_box hT3.out X2.out (by simp))
  have R4 := Lib.hid (touch_box hT3.out R2.out (by simp))
  have T4 := Lib.hid (T2.out.trans hT3.out (by simp))
  clear hw4 hT3 Y2 X2 R2 T2
  obtain ⟨D0, hD0⟩ : ∃ D0, D0 = oldD st (keyP P) := ⟨_, rfl⟩
  have HD0 := Lib.hid hD0
  clear hD0
  go_upto_if 61 with (fail)
  obtain ⟨fb, hfb⟩ : ∃ fb, fb = q.isNone := ⟨_, rfl⟩
  rw [← hfb]
  have HFB : Hid (fb = !(st.g (keyP P)).isSome) := Lib.hid (by rw [hfb, HQ.out]; cases st.g (keyP P) <;> rfl)
  have HFQ := Lib.hid hfb
  clear hfb
  go_cut [9] from 61 to 63 (fun v wc => ∃ d0, v = .pointer (some ⟨d0, 0, none⟩) ∧ Hid (DgAt wc d0 D0) ∧ Hid (Touch [] W4 wc) ∧ Hid (∀ x, st.g (keyP P) = some x → d0 = x.1))
  case first =>
    cases hg : st.g (keyP P) with
    | none =>
      have hq : q = none := by rw [HQ.out, hg]; rfl
      have hf : fb = true := by rw [HFB.out, hg]; rfl
      have hd : D0 = freshD := by rw [HD0.out]; unfold oldD; rw [hg]
      have HDF := Lib.hid hd
      have HG := Lib.hid hg
      subst hq hf
      clear hd hg
      go_wp2
      go_meet
      case rel => exact ⟨W4.heap.size, rfl, Lib.hid (by rw [HDF.out]; exact ⟨_, _, _, box_at _ _, OwB.nil _, OwB.nil _, OwB.nil _⟩), Lib.hid ((Touch.refl [] W4).alloc _), Lib.hid (fun x hx => by rw [HG.out] at hx; cases hx)⟩
    | some x =>
      obtain ⟨d0, D1⟩ := x
      have hq : q = some ⟨d0, 0, none⟩ := by rw [HQ.out, hg]; rfl
      have hf : fb = false := by rw [HFB.out, hg]; rfl
      have hd : D0 = D1 := by rw [HD0.out]; unfold oldD; rw [hg]
      have HDA : Hid (DgAt W4 d0 D0) := Lib.hid (by
        obtain ⟨hb, kb, tb, TS, s, fh, fk, rfl, h⟩ := H.out.near T4.out
        rw [hd]
        exact (h.each _ _ HKW.out hg).1)
      have HG := Lib.hid hg
      have HXX : Hid (∀ x, st.g (keyP P) = some x → d0 = x.1) := Lib.hid (fun x hx => by rw [HG.out] at hx; cases hx; rfl)
      subst hq hf
      clear hd hg
      go_wp2
      go_meet
      case rel => exact ⟨d0, rfl, HDA, Lib.hid (Touch.refl [] W4), HXX⟩
  case rest =>
  obtain ⟨d0, rfl, HDA, hT4, HDX⟩ := hcut
  obtain ⟨W5, hw5⟩ : ∃ w5, w5 = wc := ⟨_, rfl⟩
  rw [← hw5] at HDA hT4 ⊢
  have Y5 := Lib.hid (touch_box hT4.out Y4.out (by simp))
  have X5 := Lib.hid (touch_box hT4.out X4.out (by simp))
  have R5 := Lib.hid (touch_box hT4.out R4.out (by simp))
  have T5 := Lib.hid (T4.out.trans hT4.out (by simp))
  clear hw5 hT4 Y4 X4 R4 T4
  have HBZ := Lib.hid (bErr_zero HE0.out)
  have hz1 : 0 ≤ off := by have := HBZ.out.2.2.2.2.1; rw [HP.out] at this; exact this
  have hz2 : off ≤ 65528 := by have := HBZ.out.2.2.2.2.2.1; rw [HP.out] at this; exact this
  have hz3 : off + body.length ≤ 65535 := by have := HBZ.out.2.2.2.2.2.2.2.1; rw [HP.out] at this; exact this
  have hz4 : opts.length ≤ 40 := by have := HBZ.out.2.2.1; rw [HP.out] at this; exact this
  obtain ⟨c0, c1, c2, c3, c4, c5, c6, c7, c8, c9, c10⟩ := pk_cells Y5.out
  dsimp only at c0 c1 c2 c3 c4 c5 c6 c7 c8 c9 c10
  go_wp2_with fail
  refine (clash_calls (p := ⟨⟨tos, id, df, mf, off, ttl, proto, src, dst⟩, opts, body⟩) HDA.out (HRD.out W5 (T5.out.mono (by simp))).2 (by dsimp only; omega) hz1 (by dsimp only; omega)).mono ?_
  rintro e W6 ⟨rfl, t6⟩
  rw [← HP.out, HD0.out]
  have Y6 := Lib.hid (touch_box t6 Y5.out (by simp))
  have X6 := Lib.hid (touch_box t6 X5.out (by simp))
  have R6 := Lib.hid (touch_box t6 R5.out (by simp))
  have D6 := Lib.hid (HDA.out.near t6)
  have T6 := Lib.hid (T5.out.trans t6 (by simp))
  clear t6 Y5 X5 R5 T5 HDA c0 c1 c2 c3 c4 c5 c6 c7 c8 c9 c10
  rw [HC.out]
  obtain ⟨r0, r1, r2, r3, r4, r5, r6, r7, r8, r9, r10⟩ := pk_cells R6.out
  dsimp only at r0 r1 r2 r3 r4 r5 r6 r7 r8 r9 r10
  have z := fun o => box_frozen R6.out o
  obtain ⟨WZ, hWZ, RZ, tZ⟩ := pk_set (h := ⟨0, 0, false, false, 0, 0, 0, 0, 0⟩) (VO := .slice none 0 0) (VB := .slice none 0 0) R6.out
  dsimp only at hWZ
  have HWZ := Lib.hid hWZ
  have HRZ := Lib.hid RZ
  have TZ := Lib.hid tZ
  clear hWZ RZ tZ
  go_wp2
  rw [← HWZ.out]
  clear r0 r1 r2 r3 r4 r5 r6 r7 r8 r9 r10 z HWZ
  obtain ⟨r0, r1, r2, r3, r4, r5, r6, r7, r8, r9, r10⟩ := pk_cells HRZ.out
  dsimp only at r0 r1 r2 r3 r4 r5 r6 r7 r8 r9 r10
  refine bodyPost_ret (v := .tuple #[.agg (pkC ⟨0, 0, false, false, 0, 0, 0, 0, 0⟩ (.slice none 0 0) (.slice none 0 0)), .int .i64 53]) (by simp [results, Try.results20, go_sem, r0, r1, r2, r3, r4, r5, r6, r7, r8, r9, r10]) rfl ?_
  exact ⟨zeroP, 53, st, S, PktR.zero, (H.out.near T6.out).keptK TZ.out (fun k hk hs => by have := HAL.out k hs; have := HB1.out; simp at hk; omega) (kind_pk R6.out), (T6.out.trans TZ.out (fun x hx => .inr (by have := HB1.out; simp at hx; omega))).mono (by simp), fun k hk => .inl hk, .inr (.inr ⟨HE0.out, HZ.out, .inl ⟨HC.out, rfl, rfl, rfl⟩⟩)⟩
end Go.Proofs.Ytelfemhnijnhfaa.Fr
