/- A datagram with one piece more; no condition. -/
import Derived.Test.YtelfemhnijnhfaaGB
import Derived.Deep.MidRow
import Derived.Deep.WholeRow
namespace Go.Proofs.Ytelfemhnijnhfaa.Fr
open Go.RowKit Go.Maps
set_option linter.unusedVariables false
set_option linter.unusedSimpArgs false
set_option maxRecDepth 100000
attribute [local go_sem] nilB

theorem infoDg : (Try.prog.info? 113).map (·.size) = some 19 := by kernel_rfl
theorem range_all {w : World} {k : Nat} {c : Array Value} {T : TypeId} (hb : w.heap[k]? = some (.cells c T (0, 0))) : w.rangeAt k 0 c.toList := by
  intro j v hv
  simp [World.cell?, hb]
  simpa using hv
theorem one_dg (D : Dg) (A B C : Option Addr) (a b c a' b' c' : Nat) : (dgC D (.slice A a a') (.slice B b b') (.slice C c c')).all (·.oneCell') = true := by
  simp [Value.oneCell']
def lay : Nat → List Int → List Int × List Int × Int → List Int × List Int × Int
  | _, [], s => s
  | a, c :: cs, s => if s.2.1.getD a 0 = 0 then lay (a + 1) cs (s.1.set a c, s.2.1.set a 1, s.2.2 + 1) else lay (a + 1) cs s
def takenN (D : Dg) (p : Pk) : Nat := if (D.bytes.length : Int) < endI p then (endI p).toNat else D.bytes.length
def layD (D : Dg) (p : Pk) : List Int × List Int × Int := lay p.h.off.toNat p.body (splice (List.replicate (takenN D p) 0) 0 D.bytes, splice (List.replicate (takenN D p) 0) 0 D.have_, D.count)
def takenD (D : Dg) (p : Pk) : Dg :=
  ⟨D.id, D.order, D.until_, (layD D p).1, (layD D p).2.1, (layD D p).2.2, if p.h.mf then D.length else endI p, if D.far < endI p then endI p else D.far, if p.h.off = 0 then true else D.first,
    if p.h.off = 0 ∧ D.first = false then p.h else D.h, if p.h.off = 0 ∧ D.first = false then p.opts else D.opts⟩
theorem lay_len : ∀ (cs : List Int) (a : Nat) (s : List Int × List Int × Int), (lay a cs s).1.length = s.1.length ∧ (lay a cs s).2.1.length = s.2.1.length
  | [], a, s => ⟨rfl, rfl⟩
  | c :: cs, a, s => by
    unfold lay
    split
    · have := lay_len cs (a + 1) (s.1.set a c, s.2.1.set a 1, s.2.2 + 1)
      simpa using this
    · exact lay_len cs (a + 1) s
theorem OwB.off {w : World} {V : Value} {m : List Int} {b : Nat} {c : Array Value} {T : TypeId} {f : Nat × Nat} (ho : OwB w V m) (hb : w.heap[b]? = some (.cells c T f)) (hT : T ≠ 5) : ∀ k, V.ownBlock = some k → k ∉ [b] := by
  intro k hk hm
  simp at hm
  subst hm
  obtain ⟨c', hc⟩ := ho.row.blk _ hk
  rw [hb] at hc
  simp only [Option.some.injEq, Obj.cells.injEq] at hc
  exact hT hc.2.1
theorem OwB.ext {w : World} {g n c : Nat} {l : List Int} {b : Nat} (ho : OwB w (.slice (some ⟨g, 0, none⟩) n c) l) {w' : World} (t : Touch [b] w w') (hb : g ≠ b) : OwB w' (.slice (some ⟨g, 0, none⟩) n c) l :=
  ho.kept t (by intro k hk hm; simp [Value.ownBlock] at hk hm; omega)
theorem OwB.cellv {w : World} {g n c : Nat} {l : List Int} (h : OwB w (.slice (some ⟨g, 0, none⟩) n c) l) {i : Nat} {x : Int} (hx : l[i]? = some x) : w.cell? ⟨g, i, none⟩ = some (.int .u8 x) ∧ w.frozen? ⟨g, i, none⟩ = false := by
  have hi := (List.getElem?_eq_some_iff.1 hx).1
  obtain ⟨g', cap', cur, e, _, hcur, hc⟩ := h.formP (by omega)
  simp only [Value.slice.injEq, Option.some.injEq, Addr.mk.injEq, and_true, true_and] at e
  obtain ⟨rfl, _, _⟩ := e
  exact ⟨hc i _ hx, box_frozen hcur i⟩
theorem dg_head {w : World} {k : Nat} {D : Dg} {VB VH VO VO' : Value} {T : TypeId} (h : Hd) (hb : w.heap[k]? = some (.cells (dgC D VB VH VO) T (0, 0))) :
    ∃ W : World, W = ((((((((((w.setCell ⟨k, 9, none⟩ (.int .u8 h.tos)).setCell ⟨k, 10, none⟩ (.int .u16 h.id)).setCell ⟨k, 11, none⟩ (.bool h.df)).setCell ⟨k, 12, none⟩ (.bool h.mf)).setCell ⟨k, 13, none⟩ (.int .i64 h.off)).setCell ⟨k, 14, none⟩ (.int .u8 h.ttl)).setCell ⟨k, 15, none⟩ (.int .u8 h.proto)).setCell ⟨k, 16, none⟩ (.int .u32 h.src)).setCell ⟨k, 17, none⟩ (.int .u32 h.dst)).setCell ⟨k, 18, none⟩ VO') ∧ W.heap[k]? = some (.cells (dgC { D with h := h } VB VH VO') T (0, 0)) ∧ Touch [k] w W := by
  have b0 := box_set (o := 9) hb (.int .u8 h.tos)
  have b1 := box_set (o := 10) b0 (.int .u16 h.id)
  have b2 := box_set (o := 11) b1 (.bool h.df)
  have b3 := box_set (o := 12) b2 (.bool h.mf)
  have b4 := box_set (o := 13) b3 (.int .i64 h.off)
  have b5 := box_set (o := 14) b4 (.int .u8 h.ttl)
  have b6 := box_set (o := 15) b5 (.int .u8 h.proto)
  have b7 := box_set (o := 16) b6 (.int .u32 h.src)
  have b8 := box_set (o := 17) b7 (.int .u32 h.dst)
  have b9 := box_set (o := 18) b8 VO'
  refine ⟨_, rfl, by simpa using b9, ?_⟩
  exact (((((((((((Touch.refl [k] w).setCell _ _ (.inl (by simp))).setCell _ _ (.inl (by simp))).setCell _ _ (.inl (by simp))).setCell _ _ (.inl (by simp))).setCell _ _ (.inl (by simp))).setCell _ _ (.inl (by simp))).setCell _ _ (.inl (by simp))).setCell _ _ (.inl (by simp))).setCell _ _ (.inl (by simp))).setCell _ _ (.inl (by simp)))
set_option maxHeartbeats 4000000 in
theorem taken_calls {w : World} {d : Nat} {D : Dg} {p : Pk} {VO VB : Value} (h : DgAt w d D) (ho : RdB w VO p.opts) (hb : RdB w VB p.body) (hlo : p.opts.length ≤ 40) (h0 : 0 ≤ p.h.off) (he : endI p ≤ 65535) (h9 : 0 < endI p)
    (hL : D.have_.length = D.bytes.length) (hL9 : D.bytes.length ≤ 65535) (hc0 : 0 ≤ D.count) (hc9 : D.count ≤ 65535) (hf0 : 0 ≤ D.far) (hf9 : D.far ≤ 65535) :
    Calls Try.prog 45 #[.pointer (some ⟨d, 0, none⟩), .agg (pkC p.h VO VB)] w fun e w' => ∃ d', e = .returned (.pointer (some ⟨d', 0, none⟩)) ∧ DgAt w' d' (takenD D p) ∧ Touch [] w w' ∧ w.heap.size ≤ d' := by
  obtain ⟨⟨tos, id, df, mf, off, ttl, proto, src, dst⟩, opts, body⟩ := p
  obtain ⟨n, hn⟩ : ∃ n, n = body.length := ⟨_, rfl⟩
  obtain ⟨o, rfl⟩ : ∃ o : Nat, off = o := ⟨off.toNat, by dsimp only at h0; omega⟩
  have hee : endI ⟨⟨tos, id, df, mf, o, ttl, proto, src, dst⟩, opts, body⟩ = ((o + n : Nat) : Int) := by unfold endI; dsimp only; omega
  obtain ⟨N, hN⟩ : ∃ N, N = takenN D ⟨⟨tos, id, df, mf, o, ttl, proto, src, dst⟩, opts, body⟩ := ⟨_, rfl⟩
  have HN : Hid (N = if D.bytes.length < o + n then o + n else D.bytes.length) := Lib.hid (by rw [hN]; unfold takenN; rw [hee]; split <;> split <;> omega)
  obtain ⟨R, hR⟩ : ∃ R, R = layD D ⟨⟨tos, id, df, mf, o, ttl, proto, src, dst⟩, opts, body⟩ := ⟨_, rfl⟩
  have HR : Hid (lay o body (splice (List.replicate N 0) 0 D.bytes, splice (List.replicate N 0) 0 D.have_, D.count) = R) := Lib.hid (by rw [hR, hN]; unfold layD; dsimp only; rw [Int.toNat_natCast])
  obtain ⟨DF, hDF⟩ : ∃ DF, DF = takenD D ⟨⟨tos, id, df, mf, o, ttl, proto, src, dst⟩, opts, body⟩ := ⟨_, rfl⟩
  rw [← hDF]
  have HDF := Lib.hid hDF
  have HLR := lay_len body o (splice (List.replicate N 0) 0 D.bytes, splice (List.replicate N 0) 0 D.have_, D.count)
  rw [HR.out] at HLR
  rw [hee] at he h9
  have HRR := Lib.hid hR
  have HEE := Lib.hid hee
  obtain ⟨A, cap, rfl⟩ := hb.len_lt
  obtain ⟨AV, cV, rfl⟩ := ho.len_lt
  have H := Lib.hid h
  have HO := Lib.hid ho
  have HB := Lib.hid hb
  dsimp only at HO HB hlo h0 H ⊢
  have HNN := Lib.hid hn
  rw [← hn]
  have HL := Lib.hid hL
  clear h ho hb hN hR hDF hee hn hL
  obtain ⟨VB', VH', VO', hd, r1, r2, r3⟩ := H.out
  obtain ⟨AB, cB, rfl⟩ := r1.row.form
  obtain ⟨AH, cH, rfl⟩ := r2.row.form
  obtain ⟨AO, cO, rfl⟩ := r3.row.form
  have hdlt : d < w.heap.size := (Array.getElem?_eq_some_iff.1 hd).1
  have HD := Lib.hid hd
  have RB := Lib.hid r1
  have RH := Lib.hid r2
  have RO := Lib.hid r3
  clear hd r1 r2 r3 H
  go_enter Try.func45, Try.ntmps45
  go_upto_region 1 with (fail)
  obtain ⟨W0, hW0⟩ : ∃ W0 : World, W0 = w.alloc (.cells (pkC ⟨tos, id, df, mf, o, ttl, proto, src, dst⟩ (.slice AV opts.length cV) (.slice A n cap)) 30) := ⟨_, rfl⟩
  rw [← hW0]
  have t0 : Touch [] w W0 := by rw [hW0]; exact (Touch.refl [] w).alloc _
  have Y0 := Lib.hid (show W0.heap[w.heap.size]? = some (.cells (pkC ⟨tos, id, df, mf, o, ttl, proto, src, dst⟩ (.slice AV opts.length cV) (.slice A n cap)) 30 (0, 0)) by rw [hW0]; exact box_at _ _)
  have HD0 := Lib.hid (touch_box t0 HD.out (by simp))
  have T0 := Lib.hid t0
  obtain ⟨b0, hb0⟩ : ∃ b0, b0 = w.heap.size := ⟨_, rfl⟩
  have HWS : Hid (W0.heap.size = b0 + 1) := Lib.hid (by rw [hW0, hb0]; simp)
  have HB0 := Lib.hid hb0
  rw [← hb0] at Y0 ⊢
  clear hb0 t0 hW0
  go_upto_region 2 with (first
    | (refine wpList_load_mid (by rfl) 113 (.tmp 12) (by rfl) d 0 (by rfl) (dgC D (.slice AB D.bytes.length cB) (.slice AH D.have_.length cH) (.slice AO D.opts.length cO)).toList _ (range_all HD0.out) Try.underlying113 rfl infoDg ?_)
    | (refine wpList_store_row (by rfl) 113 (.tmp 5) (.tmp 13) (by rfl) W0.heap.size (dgC D (.slice AB D.bytes.length cB) (.slice AH D.have_.length cH) (.slice AO D.opts.length cO)) (by rfl) (by rfl) 113 _ (box_at _ _) infoDg (by rfl) (one_dg _ _ _ _ _ _ _ _ _ _) ?_; rw [World.setRow_alloc_new]))
  obtain ⟨W1, hW1⟩ : ∃ W1 : World, W1 = W0.alloc (.cells (dgC D (.slice AB D.bytes.length cB) (.slice AH D.have_.length cH) (.slice AO D.opts.length cO)) 113) := ⟨_, rfl⟩
  rw [← hW1]
  have t1 : Touch [] W0 W1 := by rw [hW1]; exact (Touch.refl [] W0).alloc _
  obtain ⟨b1, hb1⟩ : ∃ b1, b1 = W0.heap.size := ⟨_, rfl⟩
  have HB1 : Hid (b1 = b0 + 1) := Lib.hid (by rw [hb1]; exact HWS.out)
  have Y1 := Lib.hid (touch_box t1 Y0.out (by simp))
  have Z1 := Lib.hid (show W1.heap[b1]? = some (.cells (dgC D (.slice AB D.bytes.length cB) (.slice AH D.have_.length cH) (.slice AO D.opts.length cO)) 113 (0, 0)) by rw [hW1, hb1]; exact box_at _ _)
  have T1 := Lib.hid (T0.out.trans t1 (by simp))
  have HW1 : Hid (W1.heap.size = b1 + 1) := Lib.hid (by rw [hW1, hb1]; simp)
  rw [← hb1]
  clear hb1 hW1 t1 Y0 HD0 T0
  obtain ⟨c0, c1, c2, c3, c4, c5, c6, c7, c8, c9, c10⟩ := pk_cells Y1.out
  obtain ⟨d0, d1, d2, d3, d4, d5, d6, d7, d8, d9, d10, d11, d12, d13, d14, d15, d16, d17, d18⟩ := dg_cells (touch_box T1.out HD.out (by simp))
  dsimp only at c0 c1 c2 c3 c4 c5 c6 c7 c8 c9 c10
  go_upto_region 3 with (fail)
  go_upto_region 4 with (fail)
  have hNe : (if (D.bytes.length : Int) < (o : Int) + (n : Int) then (o : Int) + (n : Int) else (D.bytes.length : Int)) = (N : Int) := by
    have h7 := HN.out
    split <;> split at h7 <;> omega
  rw [hNe]
  have hN9 : N ≤ 65535 := by have h7 := HN.out; split at h7 <;> omega
  have hNo : o + n ≤ N := by have h7 := HN.out; split at h7 <;> omega
  have hNb : D.bytes.length ≤ N := by have h7 := HN.out; split at h7 <;> omega
  clear hNe d0 d1 d2 d3 d4 d5 d6 d7 d8 d9 d10 d11 d12 d13 d14 d15 d16 d17 d18 c0 c1 c2 c3 c4 c5 c6 c7 c8 c9 c10
  go_upto_region 5 with (refine wpList_make_b _ (by rfl) (.tmp 28) (.tmp 28) (by rfl) N (by rfl) (by rfl) (by omega) ?_; intro w2 o2 t2; obtain ⟨_, _, _, e3, _⟩ := dg_cells (touch_box t2 Z1.out (by simp)); have e3f := box_frozen (touch_box t2 Z1.out (by simp)) 3; have O2 := Lib.hid o2; have T2 := Lib.hid t2; clear o2 t2)
  obtain ⟨gB, hgB⟩ : ∃ gB, gB = W1.heap.size := ⟨_, rfl⟩
  have HGB : Hid (gB = b1 + 1) := Lib.hid (by rw [hgB]; exact HW1.out)
  rw [← hgB] at O2 ⊢
  obtain ⟨W2, hW2⟩ : ∃ W2 : World, W2 = w2.setCell ⟨b1, 3, none⟩ (.slice (some ⟨gB, 0, none⟩) N N) := ⟨_, rfl⟩
  rw [← hW2]
  have t2 : Touch [b1] w2 W2 := by rw [hW2]; exact (Touch.refl _ w2).setCell _ _ (.inl (by simp))
  have Z2 := Lib.hid (show W2.heap[b1]? = some (.cells (dgC D (.slice (some ⟨gB, 0, none⟩) N N) (.slice AH D.have_.length cH) (.slice AO D.opts.length cO)) 113 (0, 0)) by rw [hW2]; simpa using box_set (o := 3) (touch_box T2.out Z1.out (by simp)) (.slice (some ⟨gB, 0, none⟩) N N))
  have Y2 := Lib.hid (touch_box t2 (touch_box T2.out Y1.out (by simp)) (by have := HB1.out; simp; omega))
  have OB2 := Lib.hid (OwB.ext O2.out t2 (by have := HGB.out; omega))
  have TT2 := Lib.hid ((T1.out.trans T2.out (by simp)).trans t2 (fun x hx => .inr (by have := HB1.out; have := HB0.out; simp at hx; omega)))
  have HG2 : Hid (gB < W2.heap.size) := Lib.hid (by obtain ⟨c, hc⟩ := OB2.out.row.blk gB rfl; exact (Array.getElem?_eq_some_iff.1 hc).1)
  clear hgB hW2 t2 e3 e3f O2 T2 Z1 Y1 T1 HW1
  go_upto_region 6 with (refine wpList_make_b _ (by rfl) (.tmp 31) (.tmp 31) (by rfl) N (by rfl) (by rfl) (by omega) ?_; intro w3 o3 t3; obtain ⟨_, _, _, _, e3, _⟩ := dg_cells (touch_box t3 Z2.out (by simp)); have e3f := box_frozen (touch_box t3 Z2.out (by simp)) 4; have O3 := Lib.hid o3; have T3 := Lib.hid t3; clear o3 t3)
  obtain ⟨gH, hgH⟩ : ∃ gH, gH = W2.heap.size := ⟨_, rfl⟩
  have HGH : Hid (gB < gH) := Lib.hid (by rw [hgH]; exact HG2.out)
  rw [← hgH] at O3 ⊢
  obtain ⟨W3, hW3⟩ : ∃ W3 : World, W3 = w3.setCell ⟨b1, 4, none⟩ (.slice (some ⟨gH, 0, none⟩) N N) := ⟨_, rfl⟩
  rw [← hW3]
  have t3 : Touch [b1] w3 W3 := by rw [hW3]; exact (Touch.refl _ w3).setCell _ _ (.inl (by simp))
  have Z3 := Lib.hid (show W3.heap[b1]? = some (.cells (dgC D (.slice (some ⟨gB, 0, none⟩) N N) (.slice (some ⟨gH, 0, none⟩) N N) (.slice AO D.opts.length cO)) 113 (0, 0)) by rw [hW3]; simpa using box_set (o := 4) (touch_box T3.out Z2.out (by simp)) (.slice (some ⟨gH, 0, none⟩) N N))
  have Y3 := Lib.hid (touch_box t3 (touch_box T3.out Y2.out (by simp)) (by have := HB1.out; simp; omega))
  have OB3 := Lib.hid (OwB.ext (OB2.out.near T3.out) t3 (by have := HGB.out; omega))
  have OH3 := Lib.hid (OwB.ext O3.out t3 (by have := HGB.out; have := HGH.out; omega))
  have TT3 := Lib.hid ((TT2.out.trans T3.out (by simp)).trans t3 (fun x hx => .inr (by have := HB1.out; have := HB0.out; simp at hx; omega)))
  clear hgH hW3 t3 e3 e3f O3 T3 Z2 Y2 TT2 OB2 HG2
  go_upto_region 6 with (fail)
  go_cut [] from 34 to 40 (fun wc => Hid (OwB wc (.slice (some ⟨gB, 0, none⟩) N N) (splice (List.replicate N 0) 0 D.bytes)) ∧ Hid (Touch [gB] W3 wc))
  case first =>
    obtain ⟨e0, e1, e2, e3, e4, e5, e6, e7, e8, _⟩ := dg_cells Z3.out
    obtain ⟨d0, d1, d2, d3, d4, d5, d6, d7, d8, _⟩ := dg_cells (touch_box TT3.out HD.out (by simp))
    have RX := Lib.hid ((RB.out.near TT3.out).rdb.near (Touch.refl [] W3).drew)
    have OD := Lib.hid (OB3.out.near (Touch.refl [] W3).drew)
    go_region_law (refine step_copy_n (by rfl) (.tmp 35) (.tmp 39) (by rfl) 0 (List.replicate N 0) D.bytes (.slice AB D.bytes.length cB) (by rfl) (by rfl) OD.out RX.out (fun _ => by first | rfl | simp) (by omega) hNb (by omega) ?_; intro w4 o4 t4)
    all_goals (try go_wp2)
    all_goals go_meet
    all_goals exact ⟨Lib.hid o4, Lib.hid (((Touch.refl [gB] W3).drew).trans t4 (fun x hx => .inl hx))⟩
  case rest =>
  obtain ⟨OB4, hT4⟩ := hcut
  obtain ⟨W4, hw4⟩ : ∃ w4, w4 = wc := ⟨_, rfl⟩
  rw [← hw4] at OB4 hT4 ⊢
  clear hw4
  have Z4 := Lib.hid (touch_box hT4.out Z3.out (by have := HGB.out; simp; omega))
  have Y4 := Lib.hid (touch_box hT4.out Y3.out (by have := HGB.out; have := HB1.out; simp; omega))
  have OH4 := Lib.hid (OwB.ext OH3.out hT4.out (by have := HGH.out; omega))
  have TT4 := Lib.hid (TT3.out.trans hT4.out (fun x hx => .inr (by have := HGB.out; have := HB1.out; have := HB0.out; simp at hx; omega)))
  clear hT4 Z3 Y3 OB3 OH3 TT3
  go_upto_region 7 with (fail)
  go_cut [] from 41 to 47 (fun wc => Hid (OwB wc (.slice (some ⟨gH, 0, none⟩) N N) (splice (List.replicate N 0) 0 D.have_)) ∧ Hid (Touch [gH] W4 wc))
  case first =>
    obtain ⟨e0, e1, e2, e3, e4, e5, e6, e7, e8, _⟩ := dg_cells Z4.out
    obtain ⟨d0, d1, d2, d3, d4, d5, d6, d7, d8, _⟩ := dg_cells (touch_box TT4.out HD.out (by simp))
    have RX := Lib.hid ((RH.out.near TT4.out).rdb.near (Touch.refl [] W4).drew)
    have OD := Lib.hid (OH4.out.near (Touch.refl [] W4).drew)
    have hNh : D.have_.length ≤ N := by rw [HL.out]; exact hNb
    go_region_law (refine step_copy_n (by rfl) (.tmp 42) (.tmp 46) (by rfl) 0 (List.replicate N 0) D.have_ (.slice AH D.have_.length cH) (by rfl) (by rfl) OD.out RX.out (fun _ => by first | rfl | simp) (by omega) hNh (by omega) ?_; intro w5 o5 t5)
    all_goals (try go_wp2)
    all_goals go_meet
    all_goals exact ⟨Lib.hid o5, Lib.hid (((Touch.refl [gH] W4).drew).trans t5 (fun x hx => .inl hx))⟩
  case rest =>
  obtain ⟨OH5, hT5⟩ := hcut
  obtain ⟨W5, hw5⟩ : ∃ w5, w5 = wc := ⟨_, rfl⟩
  rw [← hw5] at OH5 hT5 ⊢
  clear hw5
  have Z5 := Lib.hid (touch_box hT5.out Z4.out (by have := HGH.out; have := HGB.out; simp; omega))
  have Y5 := Lib.hid (touch_box hT5.out Y4.out (by have := HGH.out; have := HGB.out; have := HB1.out; simp; omega))
  have OB5 := Lib.hid (OwB.ext OB4.out hT5.out (by have := HGH.out; omega))
  have TT5 := Lib.hid (TT4.out.trans hT5.out (fun x hx => .inr (by have := HGH.out; have := HGB.out; have := HB1.out; have := HB0.out; simp at hx; omega)))
  clear hT5 Z4 Y4 OB4 OH4 TT4
  obtain ⟨c0, c1, c2, c3, c4, c5, c6, c7, c8, c9, c10⟩ := pk_cells Y5.out
  dsimp only at c0 c1 c2 c3 c4 c5 c6 c7 c8 c9 c10
  go_wp2_with fail
  clear c0 c1 c2 c3 c4 c5 c6 c7 c8 c9 c10
  go_loopg [51] n (fun kq v51 wr => ∃ (i : Nat) (B Hv : List Int) (cnt : Int), v51 = .int .i64 i ∧ i ≤ n ∧ n - i ≤ kq ∧ Hid (lay (o + i) (body.drop i) (B, Hv, cnt) = R) ∧ Hid (wr.heap[b1]? = some (.cells (dgC { D with count := cnt } (.slice (some ⟨gB, 0, none⟩) N N) (.slice (some ⟨gH, 0, none⟩) N N) (.slice AO D.opts.length cO)) 113 (0, 0))) ∧ Hid (OwB wr (.slice (some ⟨gB, 0, none⟩) N N) B) ∧ Hid (OwB wr (.slice (some ⟨gH, 0, none⟩) N N) Hv) ∧ 0 ≤ cnt ∧ cnt ≤ 65535 + i ∧ Hid (Touch [] w wr) ∧ Hid (wr.heap[b0]? = some (.cells (pkC ⟨tos, id, df, mf, o, ttl, proto, src, dst⟩ (.slice AV opts.length cV) (.slice A n cap)) 30 (0, 0))))
  case atStart => exact ⟨0, _, _, _, rfl, by omega, by omega, HR, Z5, OB5, OH5, hc0, by omega, TT5, Y5⟩
  case round =>
    obtain ⟨i, B, Hv, cnt, rfl, hi, hik, hR, hZ, hB, hH, hn0, hn9, hT, hY⟩ := hrel
    by_cases hin : i < n
    · have li : (i : Int) < (n : Int) := by omega
      obtain ⟨⟨A', cap', hV, hcap, hnil, hr⟩, wfb⟩ := HB.out.near hT.out
      simp only [Value.slice.injEq] at hV
      obtain ⟨rfl, -, rfl⟩ := hV
      obtain ⟨bb, ob, rfl, hbb, hbx⟩ := hr (by rw [← HNN.out]; omega)
      obtain ⟨x, hx⟩ : ∃ x, body[i]? = some x := ⟨_, List.getElem?_eq_getElem (by rw [← HNN.out]; exact hin)⟩
      have hxw := wfb x (List.mem_of_getElem? hx)
      have kb := hbx i x hx
      obtain ⟨y, hy⟩ : ∃ y, Hv[o + i]? = some y := ⟨_, List.getElem?_eq_getElem (by rw [← hH.out.len]; omega)⟩
      obtain ⟨z, hz⟩ : ∃ z, B[o + i]? = some z := ⟨_, List.getElem?_eq_getElem (by rw [← hB.out.len]; omega)⟩
      obtain ⟨ky, fy⟩ := hH.out.cellv hy
      obtain ⟨kz, fz⟩ := hB.out.cellv hz
      have hR' := hR.out
      have hdr : body.drop i = x :: body.drop (i + 1) := by
        have h1 := (List.getElem?_eq_some_iff.1 hx)
        obtain ⟨h2, h3⟩ := h1
        rw [List.drop_eq_getElem_cons h2, h3]
      rw [hdr] at hR'
      unfold lay at hR'
      have hg : (Hv.getD (o + i) 0) = y := by rw [List.getD_eq_getElem?_getD, hy]; rfl
      dsimp only at hR'
      rw [hg] at hR'
      obtain ⟨c0, c1, c2, c3, c4, c5, c6, c7, c8, c9, c10⟩ := pk_cells hY.out
      obtain ⟨e0, e1, e2, e3, e4, e5, e6, e7, e8, _⟩ := dg_cells hZ.out
      have e5f := box_frozen hZ.out 5
      dsimp only at c0 c1 c2 c3 c4 c5 c6 c7 c8 c9 c10 e0 e1 e2 e3 e4 e5 e6 e7 e8
      have hlo : (o : Int) + (i : Int) < (N : Int) := by omega
      have ne1 : b1 ≠ gB := by have := HGB.out; omega
      have ne2 : b1 ≠ gH := by have := HGB.out; have := HGH.out; omega
      have ne3 : gB ≠ gH := by have := HGH.out; omega
      by_cases hy0 : y = 0
      · rw [if_pos hy0] at hR'
        subst hy0
        have HRR' := Lib.hid hR'
        obtain ⟨W6, hW6⟩ : ∃ W6 : World, W6 = ((wr.setCell ⟨gB, o + i, none⟩ (.int .u8 x)).setCell ⟨gH, o + i, none⟩ (.int .u8 1)).setCell ⟨b1, 5, none⟩ (.int .i64 (cnt + 1)) := ⟨_, rfl⟩
        have HW6 := Lib.hid hW6
        clear hR' hdr hg hy hz hx wfb hbx hnil hr hcap hW6
        go_wp2
        rw [← HW6.out]
        have t6 : Touch [gB, gH, b1] wr W6 := by rw [HW6.out]; exact (((Touch.refl _ wr).setCell _ _ (.inl (by simp))).setCell _ _ (.inl (by simp))).setCell _ _ (.inl (by simp))
        have Z6 := Lib.hid (show W6.heap[b1]? = some (.cells (dgC { D with count := cnt + 1 } (.slice (some ⟨gB, 0, none⟩) N N) (.slice (some ⟨gH, 0, none⟩) N N) (.slice AO D.opts.length cO)) 113 (0, 0)) by
          rw [HW6.out]
          have z1 := touch_box (((Touch.refl [gB, gH] wr).setCell ⟨gB, o + i, none⟩ (.int .u8 x) (.inl (by simp))).setCell ⟨gH, o + i, none⟩ (.int .u8 1) (.inl (by simp))) hZ.out (by simp; exact ⟨ne1, ne2⟩)
          simpa using box_set (o := 5) z1 (.int .i64 (cnt + 1)))
        have B6 := Lib.hid (show OwB W6 (.slice (some ⟨gB, 0, none⟩) N N) (B.set (o + i) x) by
          rw [HW6.out]
          exact ((hB.out.setc (o + i) hxw).kept ((Touch.refl [gH] _).setCell _ _ (.inl (by simp))) (by intro k hk hm; simp [Value.ownBlock] at hk hm; omega)).kept ((Touch.refl [b1] _).setCell _ _ (.inl (by simp))) (by intro k hk hm; simp [Value.ownBlock] at hk hm; omega))
        have H6 := Lib.hid (show OwB W6 (.slice (some ⟨gH, 0, none⟩) N N) (Hv.set (o + i) 1) by
          rw [HW6.out]
          exact ((hH.out.kept ((Touch.refl [gB] wr).setCell ⟨gB, o + i, none⟩ (.int .u8 x) (.inl (by simp))) (by intro k hk hm; simp [Value.ownBlock] at hk hm; omega)).setc (o + i) (by omega)).kept ((Touch.refl [b1] _).setCell _ _ (.inl (by simp))) (by intro k hk hm; simp [Value.ownBlock] at hk hm; omega))
        have hgb := HGB.out
        have hgh := HGH.out
        have hbo := HB0.out
        have hb1 := HB1.out
        have Y6 := Lib.hid (touch_box t6 hY.out (by simp; omega))
        have T6 := Lib.hid (hT.out.trans t6 (fun x hx => .inr (by simp at hx; omega)))
        go_roundg (gk - 1)
        case rel => exact ⟨i + 1, _, _, cnt + 1, by go_num, by omega, by omega, Lib.hid (by rw [show o + (i + 1) = o + i + 1 by omega]; exact HRR'.out), Z6, B6, H6, by omega, by omega, T6, Y6⟩
        case measure => omega
      · rw [if_neg hy0] at hR'
        have HRR' := Lib.hid hR'
        have hyb : (y == 0) = false := by rw [beq_eq_false_iff_ne]; exact hy0
        clear hR' hdr hg hy hz hx wfb hbx hnil hr hcap hy0
        go_wp2
        go_roundg (gk - 1)
        case rel => exact ⟨i + 1, _, _, cnt, by go_num, by omega, by omega, Lib.hid (by rw [show o + (i + 1) = o + i + 1 by omega]; exact HRR'.out), hZ, hB, hH, by omega, by omega, hT, hY⟩
        case measure => omega
    · have hin' : i = n := by omega
      subst hin'
      have li : ¬ (i : Int) < (i : Int) := by omega
      have hRn : Hid ((B, Hv, cnt) = R) := Lib.hid (by
        have h1 := hR.out
        rw [List.drop_eq_nil_of_le (by rw [← HNN.out]; omega)] at h1
        exact h1)
      obtain ⟨c0, c1, c2, c3, c4, c5, c6, c7, c8, c9, c10⟩ := pk_cells hY.out
      obtain ⟨e0, e1, e2, e3, e4, e5, e6, e7, e8, _⟩ := dg_cells hZ.out
      have e7f := box_frozen hZ.out 7
      dsimp only at c0 c1 c2 c3 c4 c5 c6 c7 c8 c9 c10 e0 e1 e2 e3 e4 e5 e6 e7 e8
      clear hR
      go_upto_region 17 with (fail)
      obtain ⟨fr, hfr⟩ : ∃ fr, fr = if D.far < (o : Int) + (i : Int) then (o : Int) + (i : Int) else D.far := ⟨_, rfl⟩
      rw [← hfr]
      have HDD : Hid (DF = ⟨D.id, D.order, D.until_, B, Hv, cnt, if mf then D.length else (o : Int) + (i : Int), fr, if (o : Int) = 0 then true else D.first, if (o : Int) = 0 ∧ D.first = false then ⟨tos, id, df, mf, o, ttl, proto, src, dst⟩ else D.h, if (o : Int) = 0 ∧ D.first = false then opts else D.opts⟩) := Lib.hid (by
        have h1 := HEE.out
        rw [Int.natCast_add] at h1
        rw [HDF.out, hfr]
        unfold takenD
        rw [h1, ← HRR.out, ← hRn.out])
      obtain ⟨W7, hW7⟩ : ∃ W7 : World, W7 = wr.setCell ⟨b1, 7, none⟩ (.int .i64 fr) := ⟨_, rfl⟩
      rw [← hW7]
      have t7 : Touch [b1] wr W7 := by rw [hW7]; exact (Touch.refl _ wr).setCell _ _ (.inl (by simp))
      have Z7 := Lib.hid (show W7.heap[b1]? = some (.cells (dgC { D with count := cnt, far := fr } (.slice (some ⟨gB, 0, none⟩) N N) (.slice (some ⟨gH, 0, none⟩) N N) (.slice AO D.opts.length cO)) 113 (0, 0)) by rw [hW7]; simpa using box_set (o := 7) hZ.out (.int .i64 fr))
      have Y7 := Lib.hid (touch_box t7 hY.out (by have := HB1.out; simp; omega))
      have B7 := Lib.hid (OwB.ext hB.out t7 (by have := HGB.out; omega))
      have H7 := Lib.hid (OwB.ext hH.out t7 (by have := HGB.out; have := HGH.out; omega))
      have T7 := Lib.hid (hT.out.trans t7 (fun x hx => .inr (by have := HB0.out; have := HB1.out; simp at hx; omega)))
      clear hfr hW7 t7 hZ hY hB hH hT c0 c1 c2 c3 c4 c5 c6 c7 c8 c9 c10 e0 e1 e2 e3 e4 e5 e6 e7 e8 e7f
      obtain ⟨_, _, _, c3, _⟩ := pk_cells Y7.out
      dsimp only at c3
      go_upto_if 89 with (fail)
      clear c3
      go_cut [] from 86 to 91 (fun wc => ∃ ln, Hid (ln = if mf then D.length else (o : Int) + (i : Int)) ∧ Hid (wc.heap[b1]? = some (.cells (dgC { D with count := cnt, far := fr, length := ln } (.slice (some ⟨gB, 0, none⟩) N N) (.slice (some ⟨gH, 0, none⟩) N N) (.slice AO D.opts.length cO)) 113 (0, 0))) ∧ Hid (Touch [b1] W7 wc))
      case first =>
        obtain ⟨c0, c1, c2, c3, c4, c5, c6, c7, c8, c9, c10⟩ := pk_cells Y7.out
        obtain ⟨e0, e1, e2, e3, e4, e5, e6, e7, e8, _⟩ := dg_cells Z7.out
        have e6f := box_frozen Z7.out 6
        dsimp only at c0 c1 c2 c3 c4 c5 c6 c7 c8 c9 c10 e0 e1 e2 e3 e4 e5 e6 e7 e8
        cases mf
        · go_wp2
          go_meet
          case rel => exact ⟨_, Lib.hid rfl, Lib.hid (by simpa using box_set (o := 6) Z7.out (.int .i64 ((o : Int) + (i : Int)))), Lib.hid ((Touch.refl _ W7).setCell _ _ (.inl (by simp)))⟩
        · go_wp2
          go_meet
          case rel => exact ⟨_, Lib.hid rfl, Z7, Lib.hid (Touch.refl _ W7)⟩
      case rest =>
      obtain ⟨ln, HLN, Z8, hT8⟩ := hcut
      obtain ⟨W8, hw8⟩ : ∃ w8, w8 = wc := ⟨_, rfl⟩
      rw [← hw8] at Z8 hT8 ⊢
      clear hw8
      have Y8 := Lib.hid (touch_box hT8.out Y7.out (by have := HB1.out; simp; omega))
      have B8 := Lib.hid (OwB.ext B7.out hT8.out (by have := HGB.out; omega))
      have H8 := Lib.hid (OwB.ext H7.out hT8.out (by have := HGB.out; have := HGH.out; omega))
      have T8 := Lib.hid (T7.out.trans hT8.out (fun x hx => .inr (by have := HB0.out; have := HB1.out; simp at hx; omega)))
      clear hT8 Z7 Y7 B7 H7 T7
      obtain ⟨c0, c1, c2, c3, c4, c5, c6, c7, c8, c9, c10⟩ := pk_cells Y8.out
      obtain ⟨e0, e1, e2, e3, e4, e5, e6, e7, e8, e9, e10, e11, e12, e13, e14, e15, e16, e17, e18⟩ := dg_cells Z8.out
      have e8f := box_frozen Z8.out 8
      have f9 := box_frozen Z8.out 9
      have f10 := box_frozen Z8.out 10
      have f11 := box_frozen Z8.out 11
      have f12 := box_frozen Z8.out 12
      have f13 := box_frozen Z8.out 13
      have f14 := box_frozen Z8.out 14
      have f15 := box_frozen Z8.out 15
      have f16 := box_frozen Z8.out 16
      have f17 := box_frozen Z8.out 17
      have f18 := box_frozen Z8.out 18
      dsimp only at c0 c1 c2 c3 c4 c5 c6 c7 c8 c9 c10 e0 e1 e2 e3 e4 e5 e6 e7 e8 e9 e10 e11 e12 e13 e14 e15 e16 e17 e18
      by_cases ho0 : o = 0
      · have o0 : Hid (o = 0) := Lib.hid ho0
        subst ho0
        cases hfst : D.first
        · have HF := Lib.hid hfst
          rw [hfst] at e8
          have FIN := Lib.hid (fun (W : World) (VX : Value) (hz : W.heap[b1]? = some (.cells (dgC { D with count := cnt, far := fr, length := ln, first := true, h := ⟨tos, id, df, mf, 0, ttl, proto, src, dst⟩ } (.slice (some ⟨gB, 0, none⟩) N N) (.slice (some ⟨gH, 0, none⟩) N N) VX) 113 (0, 0))) (hbb : OwB W (.slice (some ⟨gB, 0, none⟩) N N) B) (hhh : OwB W (.slice (some ⟨gH, 0, none⟩) N N) Hv) (hxx : OwB W VX opts) => (show DgAt W b1 DF by
            rw [HDD.out, ← HLN.out, HF.out]
            exact ⟨_, _, _, hz, hbb, hhh, hxx⟩))
          clear e9 e10 e11 e12 e13 e14 e15 e16 e17 e18 f9 f10 f11 f12 f13 f14 f15 f16 f17 f18
          go_upto_region 21 with (fail)
          obtain ⟨W9, hW9⟩ : ∃ W9 : World, W9 = W8.setCell ⟨b1, 8, none⟩ (.bool true) := ⟨_, rfl⟩
          rw [← hW9]
          have t9 : Touch [b1] W8 W9 := by rw [hW9]; exact (Touch.refl [b1] W8).setCell ⟨b1, 8, none⟩ (.bool true) (.inl (by simp))
          have Z9 := Lib.hid (show W9.heap[b1]? = some (.cells (dgC { D with count := cnt, far := fr, length := ln, first := true } (.slice (some ⟨gB, 0, none⟩) N N) (.slice (some ⟨gH, 0, none⟩) N N) (.slice AO D.opts.length cO)) 113 (0, 0)) by rw [hW9]; simpa using box_set (o := 8) Z8.out (.bool true))
          have Y9 := Lib.hid (touch_box t9 Y8.out (by have := HB1.out; simp; omega))
          have T89 := Lib.hid t9
          clear hW9 t9 c0 c1 c2 c3 c4 c5 c6 c7 c8 c9 c10 e0 e1 e2 e3 e4 e5 e6 e7 e8 e8f Z8 Y8
          obtain ⟨c0, c1, c2, c3, c4, c5, c6, c7, c8, c9, c10⟩ := pk_cells Y9.out
          obtain ⟨e0, e1, e2, e3, e4, e5, e6, e7, e8, e9, e10, e11, e12, e13, e14, e15, e16, e17, e18⟩ := dg_cells Z9.out
          have f9 := box_frozen Z9.out 9
          have f10 := box_frozen Z9.out 10
          have f11 := box_frozen Z9.out 11
          have f12 := box_frozen Z9.out 12
          have f13 := box_frozen Z9.out 13
          have f14 := box_frozen Z9.out 14
          have f15 := box_frozen Z9.out 15
          have f16 := box_frozen Z9.out 16
          have f17 := box_frozen Z9.out 17
          have f18 := box_frozen Z9.out 18
          dsimp only at c0 c1 c2 c3 c4 c5 c6 c7 c8 c9 c10 e0 e1 e2 e3 e4 e5 e6 e7 e8 e9 e10 e11 e12 e13 e14 e15 e16 e17 e18
          obtain ⟨WA, hWA, ZA, tA⟩ := dg_head (VO' := .slice AV opts.length cV) ⟨tos, id, df, mf, 0, ttl, proto, src, dst⟩ Z9.out
          have HWA := Lib.hid hWA
          have ZA' := Lib.hid ZA
          have TA := Lib.hid tA
          clear hWA ZA tA
          go_upto_region 22 with (fail)
          rw [← HWA.out]
          clear HWA c0 c1 c2 c3 c4 c5 c6 c7 c8 c9 c10 e0 e1 e2 e3 e4 e5 e6 e7 e8 e9 e10 e11 e12 e13 e14 e15 e16 e17 e18 f9 f10 f11 f12 f13 f14 f15 f16 f17 f18
          have T9A := Lib.hid (T89.out.trans TA.out (by simp))
          have YA := Lib.hid (touch_box TA.out Y9.out (by have := HB1.out; simp; omega))
          have BA := Lib.hid (OwB.ext B8.out T9A.out (by have := HGB.out; omega))
          have HA := Lib.hid (OwB.ext H8.out T9A.out (by have := HGB.out; have := HGH.out; omega))
          have TTA := Lib.hid (T8.out.trans T9A.out (fun x hx => .inr (by have := HB0.out; have := HB1.out; simp at hx; omega)))
          have SA : Hid (b1 < WA.heap.size) := Lib.hid (Array.getElem?_eq_some_iff.1 ZA'.out).1
          clear T9A TA T89 Y9 Z9 B8 H8 T8
          obtain ⟨_, _, _, _, _, _, _, _, _, c9, _⟩ := pk_cells YA.out
          go_wp2_with fail
          refine (clone_calls (HO.out.near TTA.out) (by omega)).mono ?_
          rintro e wB ⟨VC, rfl, oC, fC, tC⟩
          obtain ⟨AC, cC, rfl⟩ := oC.row.form
          have ZB := Lib.hid (touch_box tC ZA'.out (by simp))
          have BB := Lib.hid (BA.out.near tC)
          have HBH := Lib.hid (HA.out.near tC)
          have TB := Lib.hid (TTA.out.trans tC (by simp))
          have OC := Lib.hid oC
          have FC := Lib.hid fC
          clear oC fC tC c9 ZA' YA BA HA TTA
          obtain ⟨_, _, _, _, _, _, _, _, _, _, _, _, _, _, _, _, _, _, e18⟩ := dg_cells ZB.out
          have f18 := box_frozen ZB.out 18
          go_wp2
          go_ret
          have tX : Touch [b1] wB (wB.setCell ⟨b1, 18, none⟩ (.slice AC opts.length cC)) := (Touch.refl _ wB).setCell _ _ (.inl (by simp))
          refine ⟨b1, rfl, FIN.out _ (.slice AC opts.length cC) (by simpa using box_set (o := 18) ZB.out (.slice AC opts.length cC)) (OwB.ext BB.out tX (by have := HGB.out; omega)) (OwB.ext HBH.out tX (by have := HGB.out; have := HGH.out; omega)) (OC.out.kept tX (fun k hk hm => by have := FC.out k hk; have := SA.out; simp at hm; omega)), TB.out.trans tX (fun x hx => .inr (by have := HB0.out; have := HB1.out; simp at hx; omega)), by have := HB0.out; have := HB1.out; omega⟩
        · have HF := Lib.hid hfst
          rw [hfst] at e8
          clear hfst
          go_wp2
          go_ret
          refine ⟨b1, rfl, ?_, T8.out, by have := HB0.out; have := HB1.out; omega⟩
          rw [HDD.out, ← HLN.out, HF.out]
          refine ⟨_, _, _, ?_, B8.out, H8.out, RO.out.near T8.out⟩
          have h1 := Z8.out
          simp only [dgC, HF.out] at h1
          simpa using h1
      · have o0 : ((o : Int) == 0) = false := by rw [beq_eq_false_iff_ne]; omega
        have o1 : Hid (¬ (o : Int) = 0) := Lib.hid (by omega)
        clear ho0
        go_wp2
        go_ret
        refine ⟨b1, rfl, ?_, T8.out, by have := HB0.out; have := HB1.out; omega⟩
        rw [HDD.out, ← HLN.out, if_neg o1.out, if_neg (fun h => o1.out h.1), if_neg (fun h => o1.out h.1)]
        exact ⟨_, _, _, Z8.out, B8.out, H8.out, RO.out.near T8.out⟩
end Go.Proofs.Ytelfemhnijnhfaa.Fr
