/- The packet of a datagram that is whole; no condition. -/
import Derived.Test.YtelfemhnijnhfaaGC
namespace Go.Proofs.Ytelfemhnijnhfaa.Fr
open Go.RowKit Go.Maps
set_option linter.unusedVariables false
set_option linter.unusedSimpArgs false
set_option maxRecDepth 100000
attribute [local go_sem] nilB

def packD (D : Dg) : Pk := ⟨{ D.h with mf := false }, D.opts, D.bytes.take D.length.toNat⟩
set_option maxHeartbeats 4000000 in
theorem packet_calls {w : World} {d : Nat} {D : Dg} (h : DgAt w d D) (h0 : 0 < D.length) (h1 : D.length ≤ D.bytes.length) (h9 : D.bytes.length ≤ 70000) (ho : D.opts.length ≤ 40) :
    Calls Try.prog 47 #[.pointer (some ⟨d, 0, none⟩)] w (OwnPost w (packD D)) := by
  obtain ⟨VB', VH', VO', hd, r1, r2, r3⟩ := h
  obtain ⟨did, order, until_, bytes, have_, count, length, far, first, ⟨tos, id, df, mf, off, ttl, proto, src, dst⟩, opts⟩ := D
  dsimp only at h0 h1 h9 ho r1 r2 r3
  obtain ⟨n, rfl⟩ : ∃ n : Nat, length = n := ⟨length.toNat, by omega⟩
  obtain ⟨gb, cb, cur, rfl, hcb, hcur, _⟩ := r1.formP (by omega)
  obtain ⟨AH, cH, rfl⟩ := r2.row.form
  obtain ⟨AO, cO, rfl⟩ := r3.row.form
  obtain ⟨L, hL⟩ : ∃ L, L = bytes.length := ⟨_, rfl⟩
  rw [← hL] at hcb h1 hd r1 h9
  have HLL := Lib.hid hL
  have hn9 : (n : Int) ≤ (cb : Int) := by omega
  have HD := Lib.hid hd
  have RB := Lib.hid r1
  have RO := Lib.hid r3
  have HP : Hid (packD ⟨did, order, until_, bytes, have_, count, n, far, first, ⟨tos, id, df, mf, off, ttl, proto, src, dst⟩, opts⟩ = ⟨⟨tos, id, df, false, off, ttl, proto, src, dst⟩, opts, bytes.take n⟩) := Lib.hid (by unfold packD; simp)
  have HTL : Hid ((bytes.take n).length = n) := Lib.hid (by simp; omega)
  obtain ⟨bn, hbn⟩ : ∃ bn, bn = bytes.take n := ⟨_, rfl⟩
  have HBN := Lib.hid hbn
  rw [HP.out, ← hbn]
  rw [← hbn] at HTL
  clear hd r1 r2 r3 hcur HP hL hbn
  go_enter Try.func47, Try.ntmps47
  go_upto_region 1 with (fail)
  obtain ⟨W0, hW0⟩ : ∃ W0 : World, W0 = w.alloc (.cells (pkC ⟨0, 0, false, false, 0, 0, 0, 0, 0⟩ (.slice none 0 0) (.slice none 0 0)) 30) := ⟨_, rfl⟩
  rw [← hW0]
  have t0 : Touch [] w W0 := by rw [hW0]; exact (Touch.refl [] w).alloc _
  have Y0 := Lib.hid (show W0.heap[w.heap.size]? = some (.cells (pkC ⟨0, 0, false, false, 0, 0, 0, 0, 0⟩ (.slice none 0 0) (.slice none 0 0)) 30 (0, 0)) by rw [hW0]; exact box_at _ _)
  have D0 := Lib.hid (touch_box t0 HD.out (by simp))
  have T0 := Lib.hid t0
  obtain ⟨b0, hb0⟩ : ∃ b0, b0 = w.heap.size := ⟨_, rfl⟩
  have HWS : Hid (W0.heap.size = b0 + 1) := Lib.hid (by rw [hW0, hb0]; simp)
  have HB0 := Lib.hid hb0
  rw [← hb0] at Y0 ⊢
  clear hb0 t0 hW0
  obtain ⟨d0, d1, d2, d3, d4, d5, d6, d7, d8, d9, d10, d11, d12, d13, d14, d15, d16, d17, d18⟩ := dg_cells D0.out
  dsimp only at d0 d1 d2 d3 d4 d5 d6 d7 d8 d9 d10 d11 d12 d13 d14 d15 d16 d17 d18
  go_upto_region 2 with (fail)
  obtain ⟨W1, hW1⟩ : ∃ W1 : World, W1 = W0.alloc (.cells (hdC ⟨tos, id, df, mf, off, ttl, proto, src, dst⟩ (.slice AO opts.length cO)) 28) := ⟨_, rfl⟩
  rw [← hW1]
  have t1 : Touch [] W0 W1 := by rw [hW1]; exact (Touch.refl [] W0).alloc _
  obtain ⟨b1, hb1⟩ : ∃ b1, b1 = W0.heap.size := ⟨_, rfl⟩
  have HB1 : Hid (b1 = b0 + 1) := Lib.hid (by rw [hb1]; exact HWS.out)
  have Z1 := Lib.hid (show W1.heap[b1]? = some (.cells (hdC ⟨tos, id, df, mf, off, ttl, proto, src, dst⟩ (.slice AO opts.length cO)) 28 (0, 0)) by rw [hW1, hb1]; exact box_at _ _)
  have Y1 := Lib.hid (touch_box t1 Y0.out (by simp))
  have T1 := Lib.hid (T0.out.trans t1 (by simp))
  rw [← hb1]
  clear hb1 hW1 t1 Y0 D0 T0 d0 d1 d2 d3 d4 d5 d6 d7 d8 d9 d10 d11 d12 d13 d14 d15 d16 d17 d18
  obtain ⟨c0, c1, c2, c3, c4, c5, c6, c7, c8, c9⟩ := hd_cells Z1.out
  have f3 := box_frozen Z1.out 3
  dsimp only at c0 c1 c2 c3 c4 c5 c6 c7 c8 c9
  go_upto_region 3 with (fail)
  obtain ⟨W2, hW2⟩ : ∃ W2 : World, W2 = W1.setCell ⟨b1, 3, none⟩ (.bool false) := ⟨_, rfl⟩
  rw [← hW2]
  have t2 : Touch [b1] W1 W2 := by rw [hW2]; exact (Touch.refl _ W1).setCell _ _ (.inl (by simp))
  have Z2 := Lib.hid (show W2.heap[b1]? = some (.cells (hdC ⟨tos, id, df, false, off, ttl, proto, src, dst⟩ (.slice AO opts.length cO)) 28 (0, 0)) by rw [hW2]; simpa using box_set (o := 3) Z1.out (.bool false))
  have Y2 := Lib.hid (touch_box t2 Y1.out (by have := HB1.out; simp; omega))
  have T2 := Lib.hid (T1.out.trans t2 (fun x hx => .inr (by have := HB0.out; have := HB1.out; simp at hx; omega)))
  clear hW2 t2 Z1 Y1 T1 c0 c1 c2 c3 c4 c5 c6 c7 c8 c9 f3
  obtain ⟨c0, c1, c2, c3, c4, c5, c6, c7, c8, c9⟩ := hd_cells Z2.out
  obtain ⟨d0, d1, d2, d3, d4, d5, d6, d7, d8, _⟩ := dg_cells (touch_box T2.out HD.out (by simp))
  dsimp only at c0 c1 c2 c3 c4 c5 c6 c7 c8 c9 d0 d1 d2 d3 d4 d5 d6 d7 d8
  have RO2 := Lib.hid ((RO.out.near T2.out).near (Touch.refl [] W2).drew)
  have RB2 : Hid (RdB W2.drew (.slice (some ⟨gb, 0, none⟩) n cb) bn) := Lib.hid (by
    have := ((RB.out.near T2.out).near (Touch.refl [] W2).drew).sub (lo := 0) (hi := n) (by omega) (by omega)
    rw [HBN.out]
    simpa using this)
  go_region_law (first
    | (go_simp; go_at_call 29
       refine (own_calls (p := ⟨⟨tos, id, df, false, off, ttl, proto, src, dst⟩, opts, bn⟩) RO2.out.rdb RB2.out (by dsimp only; omega) (by dsimp only; rw [HTL.out]; omega)).mono ?_
       rintro e w7 ⟨VO7, VB7, rfl, o, o', f, f', nd, t⟩
       obtain ⟨A7, cp7, rfl⟩ := o.row.form
       obtain ⟨A8, cp8, rfl⟩ := o'.row.form
       dsimp only at o o' f f' nd
       have Y7 := Lib.hid (touch_box t (touch_box (Touch.refl [] W2).drew Y2.out (by simp)) (by simp))
       obtain ⟨p0, p1, p2, p3, p4, p5, p6, p7, p8, p9, p10⟩ := pk_cells Y7.out
       dsimp only at p0 p1 p2 p3 p4 p5 p6 p7 p8 p9 p10
       have q := fun o => box_frozen Y7.out o
       have O := Lib.hid o
       have O' := Lib.hid o'
       have F := Lib.hid f
       have F' := Lib.hid f'
       have ND := Lib.hid nd
       have T67 := Lib.hid t
       clear o o' f f' nd t))
  all_goals
    obtain ⟨W8, hW8, Y8, t8⟩ := pk_set (h := ⟨tos, id, df, false, off, ttl, proto, src, dst⟩) (VO := .slice A7 opts.length cp7) (VB := .slice A8 bn.length cp8) Y7.out
    dsimp only at hW8
    rw [← hW8]
    have HY8 := Lib.hid Y8
    have T8 := Lib.hid t8
    have hw2 : w.heap.size ≤ W2.heap.size := T2.out.size
    have hb0lt : b0 < W2.heap.size := (Array.getElem?_eq_some_iff.1 Y2.out).1
    have ne : ∀ {VX : Value}, Fresh W2.drew.heap.size VX → ∀ k, VX.ownBlock = some k → k ∉ [b0] := by
      intro VX hf k hk hm
      have h1 := hf k hk
      have h2 : W2.heap.size ≤ k := h1
      have h3 := HB0.out
      simp at hm
      omega
    have O8 := Lib.hid (O.out.kept t8 (ne F.out))
    have O8' := Lib.hid (O'.out.kept t8 (ne F'.out))
    have FF := Lib.hid (show Fresh w.heap.size (.slice A7 opts.length cp7) from fun k hk => Nat.le_trans hw2 (F.out k hk))
    have FF' := Lib.hid (show Fresh w.heap.size (.slice A8 bn.length cp8) from fun k hk => Nat.le_trans hw2 (F'.out k hk))
    have TT := Lib.hid (((T2.out.trans (Touch.refl [] W2).drew (by simp)).trans T67.out (by simp)).trans t8 (fun x hx => .inr (by have := HB0.out; simp at hx; omega)))
    clear hW8 Y8 t8 ne c0 c1 c2 c3 c4 c5 c6 c7 c8 c9 d0 d1 d2 d3 d4 d5 d6 d7 d8 p0 p1 p2 p3 p4 p5 p6 p7 p8 p9 p10 q Y7 Y2 Z2
    obtain ⟨c0, c1, c2, c3, c4, c5, c6, c7, c8, c9, c10⟩ := pk_cells HY8.out
    dsimp only at c0 c1 c2 c3 c4 c5 c6 c7 c8 c9 c10
    go_wp2
    refine bodyPost_ret (v := .agg (pkC ⟨tos, id, df, false, off, ttl, proto, src, dst⟩ (.slice A7 opts.length cp7) (.slice A8 bn.length cp8))) (by simp [results, Try.results47, go_sem, c0, c1, c2, c3, c4, c5, c6, c7, c8, c9, c10]) rfl ?_
    exact ⟨_, _, rfl, O8.out, O8'.out, FF.out, FF'.out, ND.out, TT.out⟩
end Go.Proofs.Ytelfemhnijnhfaa.Fr
