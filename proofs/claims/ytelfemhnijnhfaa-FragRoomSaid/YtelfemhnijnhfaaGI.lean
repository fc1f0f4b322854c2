/- Add, a packet that may not be, one that is whole by itself; no condition. -/
import Derived.Test.YtelfemhnijnhfaaGH
import Derived.Test.YtelfemhnijnhfaaGK
namespace Go.Proofs.Ytelfemhnijnhfaa.Fr
open Go.RowKit Go.Maps
set_option linter.unusedVariables false
set_option linter.unusedSimpArgs false
set_option maxRecDepth 100000
attribute [local go_sem] nilB

set_option maxHeartbeats 8000000 in
theorem add_bad {w : World} {a : Nat} {S : List Nat} {st : ASt} (h : AsmAt w a S st) (hst : st.ok) {p : Pk} {VO VB : Value} (hr : ∀ w', Touch S w w' → RdB w' VO p.opts ∧ RdB w' VB p.body) (hlo : p.opts.length ≤ 140737488355328) (hlb : p.body.length ≤ 140737488355328) (hw : p.h.wf) (hE : bErr p ≠ 0) :
    Calls Try.prog 20 #[.pointer (some ⟨a, 0, none⟩), .agg (pkC p.h VO VB)] w (AddPost w a S st p) := by
  have HST := Lib.hid hst
  obtain ⟨ho, hb⟩ := hr w (Touch.refl S w)
  have HAL : Hid (∀ k ∈ S, k < w.heap.size) := Lib.hid h.lt
  have HAK : Hid (∀ k ∈ S, Kind w k) := Lib.hid h.kinds
  have HPW := Lib.hid hw
  have HKW := Lib.hid (keyP_wf hw)
  have HE0 := Lib.hid hE
  clear hE
  obtain ⟨P, hP⟩ : ∃ P, P = p := ⟨_, rfl⟩
  have HP := Lib.hid hP
  rw [← hP] at HPW HKW HE0
  have EP : Hid (AddPost w a S st p = AddPost w a S st P) := Lib.hid (by rw [hP])
  rw [EP.out]
  clear EP
  obtain ⟨⟨tos, id, df, mf, off, ttl, proto, src, dst⟩, opts, body⟩ := p
  dsimp only at ho hb hlo hlb hr ⊢
  clear hw hst hP
  obtain ⟨A, cap, rfl⟩ := hb.len_lt
  obtain ⟨AV, cV, rfl⟩ := ho.len_lt
  have HO := Lib.hid ho
  have HB := Lib.hid hb
  have H := Lib.hid h
  have HRD := Lib.hid hr
  clear h ho hb hr
  go_enter Try.func20, Try.ntmps20
  go_upto_region 1 with (fail)
  obtain ⟨W0, hW0⟩ : ∃ W0 : World, W0 = (w.alloc (.cells (pkC ⟨tos, id, df, mf, off, ttl, proto, src, dst⟩ (.slice AV opts.length cV) (.slice A body.length cap)) 30)).alloc (.cells (pkC ⟨0, 0, false, false, 0, 0, 0, 0, 0⟩ (.slice none 0 0) (.slice none 0 0)) 30) := ⟨_, rfl⟩
  rw [← hW0]
  have t0 : Touch [] w W0 := by rw [hW0]; exact ((Touch.refl [] w).alloc _).alloc _
  obtain ⟨b0, hb0⟩ : ∃ b0, b0 = w.heap.size := ⟨_, rfl⟩
  obtain ⟨b1, hb1⟩ : ∃ b1, b1 = w.heap.size + 1 := ⟨_, rfl⟩
  have HB0 := Lib.hid hb0
  have HB1 := Lib.hid hb1
  have Y0 := Lib.hid (show W0.heap[b0]? = some (.cells (pkC ⟨tos, id, df, mf, off, ttl, proto, src, dst⟩ (.slice AV opts.length cV) (.slice A body.length cap)) 30 (0, 0)) by rw [hW0, hb0]; exact box_keep _ (box_at w _))
  have R0 := Lib.hid (show W0.heap[b1]? = some (.cells (pkC ⟨0, 0, false, false, 0, 0, 0, 0, 0⟩ (.slice none 0 0) (.slice none 0 0)) 30 (0, 0)) by rw [hW0, hb1]; exact box_at' _ _ _ (by simp))
  have T0 := Lib.hid t0
  rw [← hb1, ← hb0]
  clear hb0 hb1 t0 hW0
  obtain ⟨c0, c1, c2, c3, c4, c5, c6, c7, c8, c9, c10⟩ := pk_cells Y0.out
  dsimp only at c0 c1 c2 c3 c4 c5 c6 c7 c8 c9 c10
  go_wp2_with fail
  refine (build_calls (p := ⟨⟨tos, id, df, mf, off, ttl, proto, src, dst⟩, opts, body⟩) (HO.out.near T0.out) (HB.out.near T0.out) hlo hlb (by have := HPW.out; rw [HP.out] at this; exact this)).mono ?_
  rintro e W1 ⟨t1, hp⟩
  have HBE : Hid (bErr P = bErr ⟨⟨tos, id, df, mf, off, ttl, proto, src, dst⟩, opts, body⟩) := Lib.hid (by rw [HP.out])
  rw [← HBE.out] at hp
  have Y1 := Lib.hid (touch_box t1 Y0.out (by simp))
  have R1 := Lib.hid (touch_box t1 R0.out (by simp))
  have T1 := Lib.hid (T0.out.trans t1 (by simp))
  clear t1 Y0 R0 T0 c0 c1 c2 c3 c4 c5 c6 c7 c8 c9 c10
  rcases hp with ⟨_, rfl⟩ | ⟨hp, _⟩
  · obtain ⟨r, hr⟩ : ∃ r, r = bErr P := ⟨_, rfl⟩
    have HR := Lib.hid hr
    rw [← hr]
    have hrn : (r != 0) = true := by rw [bne_iff_ne]; rw [hr]; exact HE0.out
    clear hr
    obtain ⟨r0, r1, r2, r3, r4, r5, r6, r7, r8, r9, r10⟩ := pk_cells R1.out
    dsimp only at r0 r1 r2 r3 r4 r5 r6 r7 r8 r9 r10
    have z := fun o => box_frozen R1.out o
    obtain ⟨WZ, hWZ, RZ, tZ⟩ := pk_set (h := ⟨0, 0, false, false, 0, 0, 0, 0, 0⟩) (VO := .slice none 0 0) (VB := .slice none 0 0) R1.out
    dsimp only at hWZ
    have HWZ := Lib.hid hWZ
    have HRZ := Lib.hid RZ
    have TZ := Lib.hid tZ
    clear hWZ RZ tZ
    go_wp2
    rw [← HWZ.out]
    clear r0 r1 r2 r3 r4 r5 r6 r7 r8 r9 r10 z HWZ
    obtain ⟨r0, r1, r2, r3, r4, r5, r6, r7, r8, r9, r10⟩ := pk_cells HRZ.out
    dsimp only at r0 r1 r2 r3 r4 r5 r6 r7 r8 r9 r10
    refine bodyPost_ret (v := .tuple #[.agg (pkC ⟨0, 0, false, false, 0, 0, 0, 0, 0⟩ (.slice none 0 0) (.slice none 0 0)), .int .i64 r]) (by simp [results, Try.results20, go_sem, r0, r1, r2, r3, r4, r5, r6, r7, r8, r9, r10]) rfl ?_
    exact ⟨zeroP, r, st, S, PktR.zero, (H.out.near T1.out).keptK TZ.out (fun k hk hs => by have := HAL.out k hs; have := HB1.out; simp at hk; omega) (kind_pk R1.out), (T1.out.trans TZ.out (fun x hx => .inr (by have := HB1.out; simp at hx; omega))).mono (by simp), fun k hk => .inl hk, .inl ⟨HE0.out, HR.out, rfl, rfl⟩⟩
  · exact absurd hp HE0.out

set_option maxHeartbeats 8000000 in
theorem add_self {w : World} {a : Nat} {S : List Nat} {st : ASt} (h : AsmAt w a S st) (hst : st.ok) {p : Pk} {VO VB : Value} (hr : ∀ w', Touch S w w' → RdB w' VO p.opts ∧ RdB w' VB p.body) (hlo : p.opts.length ≤ 140737488355328) (hlb : p.body.length ≤ 140737488355328) (hw : p.h.wf) (hE : bErr p = 0) (hz : p.h.off = 0 ∧ p.h.mf = false) :
    Calls Try.prog 20 #[.pointer (some ⟨a, 0, none⟩), .agg (pkC p.h VO VB)] w (AddPost w a S st p) := by
  have HST := Lib.hid hst
  obtain ⟨ho, hb⟩ := hr w (Touch.refl S w)
  have HAL : Hid (∀ k ∈ S, k < w.heap.size) := Lib.hid h.lt
  have HAK : Hid (∀ k ∈ S, Kind w k) := Lib.hid h.kinds
  have HPW := Lib.hid hw
  have HKW := Lib.hid (keyP_wf hw)
  have HE0 := Lib.hid hE
  have HZ := Lib.hid hz
  clear hE hz
  obtain ⟨P, hP⟩ : ∃ P, P = p := ⟨_, rfl⟩
  have HP := Lib.hid hP
  rw [← hP] at HPW HKW HE0 HZ
  have EP : Hid (AddPost w a S st p = AddPost w a S st P) := Lib.hid (by rw [hP])
  rw [EP.out]
  clear EP
  obtain ⟨⟨tos, id, df, mf, off, ttl, proto, src, dst⟩, opts, body⟩ := p
  dsimp only at ho hb hlo hlb hr ⊢
  clear hw hst hP
  obtain ⟨A, cap, rfl⟩ := hb.len_lt
  obtain ⟨AV, cV, rfl⟩ := ho.len_lt
  have HO := Lib.hid ho
  have HB := Lib.hid hb
  have H := Lib.hid h
  have HRD := Lib.hid hr
  clear h ho hb hr
  go_enter Try.func20, Try.ntmps20
  go_upto_region 1 with (fail)
  obtain ⟨W0, hW0⟩ : ∃ W0 : World, W0 = (w.alloc (.cells (pkC ⟨tos, id, df, mf, off, ttl, proto, src, dst⟩ (.slice AV opts.length cV) (.slice A body.length cap)) 30)).alloc (.cells (pkC ⟨0, 0, false, false, 0, 0, 0, 0, 0⟩ (.slice none 0 0) (.slice none 0 0)) 30) := ⟨_, rfl⟩
  rw [← hW0]
  have t0 : Touch [] w W0 := by rw [hW0]; exact ((Touch.refl [] w).alloc _).alloc _
  obtain ⟨b0, hb0⟩ : ∃ b0, b0 = w.heap.size := ⟨_, rfl⟩
  obtain ⟨b1, hb1⟩ : ∃ b1, b1 = w.heap.size + 1 := ⟨_, rfl⟩
  have HB0 := Lib.hid hb0
  have HB1 := Lib.hid hb1
  have Y0 := Lib.hid (show W0.heap[b0]? = some (.cells (pkC ⟨tos, id, df, mf, off, ttl, proto, src, dst⟩ (.slice AV opts.length cV) (.slice A body.length cap)) 30 (0, 0)) by rw [hW0, hb0]; exact box_keep _ (box_at w _))
  have R0 := Lib.hid (show W0.heap[b1]? = some (.cells (pkC ⟨0, 0, false, false, 0, 0, 0, 0, 0⟩ (.slice none 0 0) (.slice none 0 0)) 30 (0, 0)) by rw [hW0, hb1]; exact box_at' _ _ _ (by simp))
  have T0 := Lib.hid t0
  rw [← hb1, ← hb0]
  clear hb0 hb1 t0 hW0
  obtain ⟨c0, c1, c2, c3, c4, c5, c6, c7, c8, c9, c10⟩ := pk_cells Y0.out
  dsimp only at c0 c1 c2 c3 c4 c5 c6 c7 c8 c9 c10
  go_wp2_with fail
  refine (build_calls (p := ⟨⟨tos, id, df, mf, off, ttl, proto, src, dst⟩, opts, body⟩) (HO.out.near T0.out) (HB.out.near T0.out) hlo hlb (by have := HPW.out; rw [HP.out] at this; exact this)).mono ?_
  rintro e W1 ⟨t1, hp⟩
  have HBE : Hid (bErr P = bErr ⟨⟨tos, id, df, mf, off, ttl, proto, src, dst⟩, opts, body⟩) := Lib.hid (by rw [HP.out])
  rw [← HBE.out] at hp
  have Y1 := Lib.hid (touch_box t1 Y0.out (by simp))
  have R1 := Lib.hid (touch_box t1 R0.out (by simp))
  have T1 := Lib.hid (T0.out.trans t1 (by simp))
  clear t1 Y0 R0 T0 c0 c1 c2 c3 c4 c5 c6 c7 c8 c9 c10
  rcases hp with ⟨hp, _⟩ | ⟨_, VZ, rfl, _, _⟩
  · exact absurd HE0.out hp
  obtain ⟨c0, c1, c2, c3, c4, c5, c6, c7, c8, c9, c10⟩ := pk_cells Y1.out
  dsimp only at c0 c1 c2 c3 c4 c5 c6 c7 c8 c9 c10
  go_upto_region 5 with (fail)
  obtain ⟨W2, hW2⟩ : ∃ W2 : World, W2 = W1.alloc (.cells #[.int .u32 src, .int .u32 dst, .int .u8 proto, .int .u16 id] 109) := ⟨_, rfl⟩
  rw [← hW2]
  have t2 : Touch [] W1 W2 := by rw [hW2]; exact (Touch.refl [] W1).alloc _
  have X2 := Lib.hid (show W2.heap[W1.heap.size]? = some (.cells #[.int .u32 src, .int .u32 dst, .int .u8 proto, .int .u16 id] 109 (0, 0)) by rw [hW2]; exact box_at _ _)
  obtain ⟨b2, hb2⟩ : ∃ b2, b2 = W1.heap.size := ⟨_, rfl⟩
  have HB2 : Hid (b1 < b2) := Lib.hid (by rw [hb2]; exact (Array.getElem?_eq_some_iff.1 R1.out).1)
  have Y2 := Lib.hid (touch_box t2 Y1.out (by simp))
  have R2 := Lib.hid (touch_box t2 R1.out (by simp))
  have T2 := Lib.hid (T1.out.trans t2 (by simp))
  rw [← hb2] at X2 ⊢
  clear hb2 t2 hW2 Y1 R1 T1 c0 c1 c2 c3 c4 c5 c6 c7 c8 c9 c10
  have HKP : Hid (keyP P = ⟨src, dst, proto, id⟩) := Lib.hid (by rw [HP.out]; rfl)
  have HKV : Hid (kv (keyP P) = .agg #[.int .u32 src, .int .u32 dst, .int .u8 proto, .int .u16 id]) := Lib.hid (by rw [HKP.out]; rfl)
  obtain ⟨c0, c1, c2, c3, c4, c5, c6, c7, c8, c9, c10⟩ := pk_cells Y2.out
  dsimp only at c0 c1 c2 c3 c4 c5 c6 c7 c8 c9 c10
  have x0 := (show W2.cell? ⟨b2, 0, none⟩ = some (.int .u32 src) by simp [World.cell?, X2.out])
  have x1 := (show W2.cell? ⟨b2, 1, none⟩ = some (.int .u32 dst) by simp [World.cell?, X2.out])
  have x2 := (show W2.cell? ⟨b2, 2, none⟩ = some (.int .u8 proto) by simp [World.cell?, X2.out])
  have x3 := (show W2.cell? ⟨b2, 3, none⟩ = some (.int .u16 id) by simp [World.cell?, X2.out])
  obtain ⟨ho0, hm0⟩ : off = 0 ∧ mf = false := by have := HZ.out; rw [HP.out] at this; exact this
  subst ho0 hm0
  go_wp2_with fail
  refine (adrop_calls (H.out.near T2.out) (K := ⟨src, dst, proto, id⟩) (by rw [← HKP.out]; exact HKW.out)).mono ?_
  rintro e W3 ⟨rfl, a3, t3⟩
  have A3 := Lib.hid a3
  have Y3 := Lib.hid (touch_box t3 Y2.out (fun hs => by have := HAL.out _ hs; have := HB0.out; omega))
  have R3 := Lib.hid (touch_box t3 R2.out (fun hs => by have := HAL.out _ hs; have := HB1.out; omega))
  have T3 := Lib.hid ((T2.out.mono (S' := S) (by simp)).trans t3 (fun x hx => .inl hx))
  clear a3 t3 c0 c1 c2 c3 c4 c5 c6 c7 c8 c9 c10 x0 x1 x2 x3 Y2 R2 T2
  obtain ⟨c0, c1, c2, c3, c4, c5, c6, c7, c8, c9, c10⟩ := pk_cells Y3.out
  dsimp only at c0 c1 c2 c3 c4 c5 c6 c7 c8 c9 c10
  go_wp2_with fail
  refine (own_calls (p := ⟨⟨tos, id, df, false, 0, ttl, proto, src, dst⟩, opts, body⟩) (HRD.out W3 T3.out).1 (HRD.out W3 T3.out).2 hlo hlb).mono ?_
  rintro e W4 ⟨VO4, VB4, rfl, o, o', f, f', nd, t4⟩
  obtain ⟨A7, cp7, rfl⟩ := o.row.form
  obtain ⟨A8, cp8, rfl⟩ := o'.row.form
  dsimp only at o o' f f' nd
  have O := Lib.hid o
  have O' := Lib.hid o'
  have F := Lib.hid (show Fresh w.heap.size (.slice A7 opts.length cp7) from fun k hk => Nat.le_trans T3.out.size (f k hk))
  have F' := Lib.hid (show Fresh w.heap.size (.slice A8 body.length cp8) from fun k hk => Nat.le_trans T3.out.size (f' k hk))
  have A4 := Lib.hid (A3.out.near t4)
  have R4 := Lib.hid (touch_box t4 R3.out (by simp))
  have T4 := Lib.hid (T3.out.trans t4 (by simp))
  clear o o' f f' nd t4 c0 c1 c2 c3 c4 c5 c6 c7 c8 c9 c10 Y3 R3 A3
  obtain ⟨r0, r1, r2, r3, r4, r5, r6, r7, r8, r9, r10⟩ := pk_cells R4.out
  dsimp only at r0 r1 r2 r3 r4 r5 r6 r7 r8 r9 r10
  have z := fun o => box_frozen R4.out o
  obtain ⟨WZ, hWZ, RZ, tZ⟩ := pk_set (h := ⟨tos, id, df, false, 0, ttl, proto, src, dst⟩) (VO := .slice A7 opts.length cp7) (VB := .slice A8 body.length cp8) R4.out
  dsimp only at hWZ
  have HWZ := Lib.hid hWZ
  have HRZ := Lib.hid RZ
  have TZ := Lib.hid tZ
  clear hWZ RZ tZ
  go_wp2
  rw [← HWZ.out]
  clear r0 r1 r2 r3 r4 r5 r6 r7 r8 r9 r10 z HWZ
  obtain ⟨r0, r1, r2, r3, r4, r5, r6, r7, r8, r9, r10⟩ := pk_cells HRZ.out
  dsimp only at r0 r1 r2 r3 r4 r5 r6 r7 r8 r9 r10
  refine bodyPost_ret (v := .tuple #[.agg (pkC ⟨tos, id, df, false, 0, ttl, proto, src, dst⟩ (.slice A7 opts.length cp7) (.slice A8 body.length cp8)), .int .i64 0]) (by simp [results, Try.results20, go_sem, r0, r1, r2, r3, r4, r5, r6, r7, r8, r9, r10]) rfl ?_
  refine ⟨P, 0, gone st (keyP P), S, ?_, ?_, T4.out.trans TZ.out (fun x hx => .inr (by have := HB1.out; simp at hx; omega)), fun k hk => .inl hk, .inr (.inl ⟨HE0.out, HZ.out, rfl, rfl, rfl⟩)⟩
  · rw [HP.out]
    exact ⟨_, _, rfl, O.out.kept TZ.out (O.out.off R4.out (by decide)), O'.out.kept TZ.out (O'.out.off R4.out (by decide)), F.out, F'.out⟩
  · rw [HKP.out]
    exact A4.out.keptK TZ.out (fun k hk hs => by have := HAL.out k hs; have := HB1.out; simp at hk; omega) (kind_pk R4.out)
end Go.Proofs.Ytelfemhnijnhfaa.Fr
