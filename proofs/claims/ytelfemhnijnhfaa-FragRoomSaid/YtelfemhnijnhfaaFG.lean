/- ip4.Build; no condition. -/
import Derived.Test.YtelfemhnijnhfaaFF
namespace Go.Proofs.Ytelfemhnijnhfaa.Fr
open Go.RowKit Go.Maps
set_option linter.unusedVariables false
set_option maxRecDepth 100000
attribute [local go_sem] nilB

def bErr (p : Pk) : Int := if areaB p.opts = false then 34 else if ordB p.h.off p.body.length p.h.mf = false then 36 else if 65535 < 20 + p.opts.length + p.body.length then 37 else 0
def flagsI (h : Hd) : Int := h.off / 8 + (if h.df then 16384 else 0) + (if h.mf then 8192 else 0)
def hlen (p : Pk) : Nat := 20 + p.opts.length
def total (p : Pk) : Nat := hlen p + p.body.length
def bld1 (p : Pk) : List Int := ((List.replicate (total p) (0 : Int)).set 0 (64 + ((hlen p / 4 : Nat) : Int))).set 1 p.h.tos
def bld2 (p : Pk) : List Int := putW (putW (putW (bld1 p) 2 (total p)) 4 p.h.id) 6 (flagsI p.h)
def bld3 (p : Pk) : List Int := putL (putL (((bld2 p).set 8 p.h.ttl).set 9 p.h.proto) 12 p.h.src) 16 p.h.dst
def bld4 (p : Pk) : List Int := splice (splice (bld3 p) 20 p.opts) (hlen p) p.body
def bldS (p : Pk) : Int := 65535 - foldI (wsum ((bld4 p).take 10 ++ ((bld4 p).drop 12).take (hlen p - 12)) true)
def buildL (p : Pk) : List Int := putW (bld4 p) 10 (bldS p)
def BuildPost (w : World) (p : Pk) (e : Ending) (w' : World) : Prop :=
  Touch [] w w' ∧ ((bErr p ≠ 0 ∧ e = .returned (.tuple #[.slice none 0 0, .int .i64 (bErr p)])) ∨ (bErr p = 0 ∧ ∃ V, e = .returned (.tuple #[V, .int .i64 0]) ∧ OwB w' V (buildL p) ∧ Fresh w.heap.size V))
theorem or_df {x : Int} (h0 : 0 ≤ x) (h1 : x < 8192) : bits .or .u16 x 16384 = x + 16384 := by
  obtain ⟨n, rfl⟩ := Int.eq_ofNat_of_zero_le h0
  have hn : n < 8192 := by omega
  have e := (bits_nat .u16 16 (by decide) (fun n h0 h1 => by rw [IntKind.wrap_u16]; omega) n 16384 (by omega) (by decide)).2
  have e2 := Nat.two_pow_add_eq_or_of_lt (i := 13) hn 2
  rw [show ((16384 : Nat) : Int) = 16384 from rfl] at e
  rw [e, Nat.or_comm, show (16384 : Nat) = 2 ^ 13 * 2 from rfl, ← e2]; omega
theorem or_mf {x : Int} (h0 : 0 ≤ x) (h1 : x < 8192) : bits .or .u16 x 8192 = x + 8192 := by
  obtain ⟨n, rfl⟩ := Int.eq_ofNat_of_zero_le h0
  have hn : n < 8192 := by omega
  have e := (bits_nat .u16 16 (by decide) (fun n h0 h1 => by rw [IntKind.wrap_u16]; omega) n 8192 (by omega) (by decide)).2
  have e2 := Nat.two_pow_add_eq_or_of_lt (i := 13) hn 1
  rw [show ((8192 : Nat) : Int) = 8192 from rfl] at e
  rw [e, Nat.or_comm, show (8192 : Nat) = 2 ^ 13 * 1 from rfl, ← e2]; omega
theorem or_both {x : Int} (h0 : 0 ≤ x) (h1 : x < 8192) : bits .or .u16 (x + 16384) 8192 = x + 16384 + 8192 := by
  obtain ⟨n, rfl⟩ := Int.eq_ofNat_of_zero_le h0
  have hn : n < 8192 := by omega
  have e := (bits_nat .u16 16 (by decide) (fun n h0 h1 => by rw [IntKind.wrap_u16]; omega) (n + 16384) 8192 (by omega) (by decide)).2
  have e2 := Nat.two_pow_add_eq_or_of_lt (i := 13) hn 2
  have e3 := Nat.two_pow_add_eq_or_of_lt (i := 13) hn 3
  rw [show ((8192 : Nat) : Int) = 8192 from rfl, show ((n + 16384 : Nat) : Int) = (n : Int) + 16384 by omega] at e
  have h4 : (n + 16384) ||| 8192 = n + 16384 + 8192 := by
    rw [show n + 16384 = 2 ^ 13 * 2 + n by omega, e2, Nat.or_assoc, Nat.or_comm n 8192, ← Nat.or_assoc, show (2 ^ 13 * 2 ||| 8192 : Nat) = 2 ^ 13 * 3 by decide, ← e3]
    omega
  rw [e, h4]; omega
theorem or_first {n : Nat} (h : n < 64) : bits .or .i64 64 (n : Int) = 64 + (n : Int) := by
  have e := (bits_nat .i64 63 (by decide) (fun n h0 h1 => by rw [IntKind.wrap_i64]; omega) 64 n (by decide) (Nat.lt_of_lt_of_le h (by decide))).2
  have e2 := Nat.two_pow_add_eq_or_of_lt (i := 6) h 1
  rw [show ((64 : Nat) : Int) = 64 from rfl] at e
  rw [e, show (64 : Nat) = 2 ^ 6 * 1 from rfl, ← e2]; omega
theorem bld1_len (p : Pk) : (bld1 p).length = total p := by simp [bld1]
theorem bld2_len (p : Pk) : (bld2 p).length = total p := by simp [bld2, putW_len, bld1_len]
theorem bld3_len (p : Pk) : (bld3 p).length = total p := by simp [bld3, putL_len, bld2_len]
theorem bld4_len (p : Pk) : (bld4 p).length = total p := by
  unfold bld4
  rw [length_splice, length_splice, bld3_len]
  · rw [bld3_len]; unfold total hlen; omega
  · rw [length_splice, bld3_len]
    · unfold total hlen; omega
    · rw [bld3_len]; unfold total hlen; omega
set_option maxHeartbeats 2000000 in
theorem build_calls {w : World} {VO VB : Value} {p : Pk} (ho : RdB w VO p.opts) (hb : RdB w VB p.body) (hlo : p.opts.length ≤ 140737488355328) (hlb : p.body.length ≤ 140737488355328) (hw : p.h.wf) :
    Calls Try.prog 17 #[.agg (pkC p.h VO VB)] w (BuildPost w p) := by
  have HO := Lib.hid ho
  have HB := Lib.hid hb
  have lo4 : p.opts.length < 4611686018427387904 := by omega
  have lb4 : p.body.length < 4611686018427387904 := by omega
  obtain ⟨A, cap, rfl⟩ := ho.len_lt
  obtain ⟨A', cap', rfl⟩ := hb.len_lt
  have HW := Lib.hid hw
  have hoff := hw.off
  obtain ⟨of1, of2⟩ := hoff
  clear ho hb hlo hlb hw
  go_enter Try.func17, Try.ntmps17
  go_upto_region 1 with (fail)
  have X0 := Lib.hid (box_at w (.cells (pkC p.h (.slice A p.opts.length cap) (.slice A' p.body.length cap')) 30))
  obtain ⟨W0, hW0⟩ : ∃ W0 : World, W0 = w.alloc (.cells (pkC p.h (.slice A p.opts.length cap) (.slice A' p.body.length cap')) 30) := ⟨_, rfl⟩
  rw [← hW0] at X0 ⊢
  have T0 := Lib.hid (show Touch [] w W0 by rw [hW0]; exact (Touch.refl [] w).alloc _)
  have S0 : Hid (W0.heap.size = w.heap.size + 1) := Lib.hid (by rw [hW0]; simp)
  clear hW0
  obtain ⟨c0, c1, c2, c3, c4, c5, c6, c7, c8, c9, c10⟩ := pk_cells X0.out
  go_upto_region 2 with (fail)
  obtain ⟨W1, hW1⟩ : ∃ W1 : World, W1 = W0.alloc (.cells (hdC p.h (.slice A p.opts.length cap)) 28) := ⟨_, rfl⟩
  rw [← hW1]
  have X1 := Lib.hid (show W1.heap[w.heap.size]? = some (.cells (pkC p.h (.slice A p.opts.length cap) (.slice A' p.body.length cap')) 30 (0, 0)) by rw [hW1]; exact box_keep _ X0.out)
  have Y1 := Lib.hid (show W1.heap[W0.heap.size]? = some (.cells (hdC p.h (.slice A p.opts.length cap)) 28 (0, 0)) by rw [hW1]; exact box_at _ _)
  have T1 := Lib.hid (show Touch [] w W1 by rw [hW1]; exact T0.out.alloc _)
  obtain ⟨b2, hb2⟩ : ∃ b2, b2 = W0.heap.size := ⟨_, rfl⟩
  have S1 : Hid (b2 = w.heap.size + 1 ∧ W1.heap.size = w.heap.size + 2) := Lib.hid (by rw [hb2, hW1]; have := S0.out; simp [this])
  rw [← hb2] at Y1 ⊢
  clear hW1 hb2 c0 c1 c2 c3 c4 c5 c6 c7 c8 c9 c10 X0 T0 S0
  obtain ⟨c0, c1, c2, c3, c4, c5, c6, c7, c8, c9, c10⟩ := pk_cells X1.out
  obtain ⟨d0, d1, d2, d3, d4, d5, d6, d7, d8, d9⟩ := hd_cells Y1.out
  go_wp2_with fail
  refine (opts_calls (HO.out.near T1.out) lo4).mono ?_
  rintro e w' ⟨rfl, rfl⟩
  by_cases ha : areaB p.opts = false
  · have HE : Hid (bErr p = 34) := Lib.hid (by unfold bErr; rw [if_pos ha])
    rw [ha]
    clear ha
    go_wp2
    go_ret2
    exact ⟨T1.out, .inl ⟨by rw [HE.out]; decide, by rw [HE.out]; rfl⟩⟩
  have HA := Lib.hid (show areaB p.opts = true by simpa using ha)
  rw [HA.out]
  have l40 : p.opts.length ≤ 40 := by have := HA.out; unfold areaB at this; simp at this; omega
  have lm4 : Hid (p.opts.length % 4 = 0) := Lib.hid (by have := HA.out; unfold areaB at this; simp at this; omega)
  clear ha
  go_wp2_with fail
  refine (ord_calls _ p.h.off p.body.length p.h.mf of1 of2 (by omega) (by omega)).mono ?_
  rintro e w' ⟨rfl, rfl⟩
  by_cases hb : ordB p.h.off p.body.length p.h.mf = false
  · have HE : Hid (bErr p = 36) := Lib.hid (by unfold bErr; rw [if_neg (by rw [HA.out]; decide), if_pos hb])
    rw [hb]
    clear hb
    go_wp2
    go_ret2
    exact ⟨T1.out, .inl ⟨by rw [HE.out]; decide, by rw [HE.out]; rfl⟩⟩
  have HBo := Lib.hid (show ordB p.h.off p.body.length p.h.mf = true by simpa using hb)
  rw [HBo.out]
  clear hb
  by_cases hbig : 65535 < 20 + p.opts.length + p.body.length
  · have HE : Hid (bErr p = 37) := Lib.hid (by unfold bErr; rw [if_neg (by rw [HA.out]; decide), if_neg (by rw [HBo.out]; decide), if_pos hbig])
    have hbi : (65535 : Int) < 20 + (p.opts.length : Int) + (p.body.length : Int) := by omega
    go_wp2
    go_ret2
    exact ⟨T1.out, .inl ⟨by rw [HE.out]; decide, by rw [HE.out]; rfl⟩⟩
  have HE : Hid (bErr p = 0) := Lib.hid (by unfold bErr; rw [if_neg (by rw [HA.out]; decide), if_neg (by rw [HBo.out]; decide), if_neg hbig])
  have hbi : ¬ (65535 : Int) < 20 + (p.opts.length : Int) + (p.body.length : Int) := by omega
  have hof := HBo.out
  simp only [ordB, Bool.and_eq_true, decide_eq_true_eq] at hof
  obtain ⟨⟨o1, o2, o3, o4⟩, _⟩ := hof
  obtain ⟨H, hH⟩ : ∃ H : Nat, H = hlen p := ⟨_, rfl⟩
  obtain ⟨N, hN⟩ : ∃ N : Nat, N = total p := ⟨_, rfl⟩
  have hH2 : Hid ((20 : Int) + (p.opts.length : Int) = (H : Int)) := Lib.hid (by rw [hH]; unfold hlen; omega)
  have hN2 : Hid ((H : Int) + (p.body.length : Int) = (N : Int)) := Lib.hid (by rw [hN, hH]; unfold total; omega)
  have hHb : 20 ≤ H ∧ H ≤ 60 := by rw [hH]; unfold hlen; omega
  have hNb : H ≤ N ∧ N ≤ 65535 := by rw [hN, hH]; unfold total hlen; omega
  obtain ⟨hH20, hH60⟩ := hHb
  obtain ⟨hHN, hN64⟩ := hNb
  have HHl := Lib.hid hH
  have HNl := Lib.hid hN
  clear hH hN
  go_upto_region 9 with (fail)
  rw [hH2.out, hN2.out]
  clear c0 c1 c2 c3 c4 c5 c6 c7 c8 c9 d0 d1 d2 d3 d4 d5 d6 d7 d8 d9
  go_upto_region 10 with (refine wpList_make_b _ (by rfl) (.tmp 39) (.tmp 39) (by rfl) N (by rw [← hN2.out]; rfl) (by rw [← hN2.out]; rfl) (by omega) ?_; intro w3 o3 t3; have O3 := Lib.hid o3; have T3 := Lib.hid t3; clear o3 t3)
  obtain ⟨g, hg⟩ : ∃ g, g = w'.heap.size := ⟨_, rfl⟩
  rw [← hg] at O3 ⊢
  have G0 : Hid (g = w.heap.size + 2) := Lib.hid (by rw [hg]; exact S1.out.2)
  have GB : Hid (b2 = w.heap.size + 1) := Lib.hid S1.out.1
  have X3 := Lib.hid (touch_box T3.out X1.out (by simp))
  have Y3 := Lib.hid (touch_box T3.out Y1.out (by simp))
  have T03 := Lib.hid (T1.out.trans T3.out (by simp))
  clear hg T3 T1 X1 Y1 S1 c10
  have hrl : (List.replicate N (0 : Int)).length = N := List.length_replicate
  obtain ⟨g', cap3, cur3, hV3, _, hcur3, hc3⟩ := O3.out.formP (by rw [hrl]; omega)
  simp only [Value.slice.injEq, Option.some.injEq, Addr.mk.injEq, and_true] at hV3
  obtain ⟨e1, e2⟩ := hV3
  subst e1
  clear e2
  have k0 := hc3 0 0 (by rw [List.getElem?_replicate, if_pos (by omega)])
  have k1 := hc3 1 0 (by rw [List.getElem?_replicate, if_pos (by omega)])
  have z0 := box_frozen hcur3 0
  have z1 := box_frozen hcur3 1
  obtain ⟨d0, _⟩ := hd_cells Y3.out
  have ne1 : ¬ b2 = g := by rw [G0.out, GB.out]; omega
  have ne2 : ¬ g = b2 := fun e => ne1 e.symm
  obtain ⟨q, hq⟩ : ∃ q : Nat, q = H / 4 := ⟨_, rfl⟩
  have e64 : bits .or .i64 64 ((H : Int) / 4) = 64 + (q : Int) := by
    have := or_first (n := H / 4) (by omega)
    rw [hq, ← this]; rfl
  have hq16 : q < 16 := by omega
  have HQ := Lib.hid hq
  clear hq hrl
  have lN0 : (0 : Int) < (N : Int) := by omega
  have lN1 : (1 : Int) < (N : Int) := by omega
  clear hcur3 hc3
  have BI := Lib.hid hbi
  have OF := Lib.hid (And.intro of1 (And.intro of2 (And.intro o2 o4)))
  have L4 := Lib.hid (And.intro lo4 lb4)
  clear hbi of1 of2 o2 o4 lo4 lb4 hbig
  go_region
  obtain ⟨W4, hW4⟩ : ∃ W4 : World, W4 = ((w3.setCell ⟨g, 0, none⟩ (.int .u8 (64 + (q : Int)))).setCell ⟨g, 1, none⟩ (.int .u8 p.h.tos)).drew := ⟨_, rfl⟩
  have O4 : Hid (OwB W4 (.slice (some ⟨g, 0, none⟩) N N) (bld1 p)) := Lib.hid (by
    have h1 := (O3.out.setc 0 (v := 64 + (q : Int)) (by omega)).setc 1 (v := p.h.tos) HW.out.tos
    have e : bld1 p = ((List.replicate N 0).set 0 (64 + (q : Int))).set 1 p.h.tos := by unfold bld1; rw [← HNl.out, ← HHl.out, HQ.out]
    rw [e, hW4]
    exact h1.near ((Touch.refl [] _).drew))
  have t4 : Touch [g] w3 W4 := by rw [hW4]; exact (((Touch.refl _ w3).setCell _ _ (.inl (by simp))).setCell _ _ (.inl (by simp))).drew
  have X4 := Lib.hid (touch_box t4 X3.out (by have := G0.out; simp; omega))
  have Y4 := Lib.hid (touch_box t4 Y3.out (by simpa using ne1))
  have T4 := Lib.hid (T03.out.trans t4 (by have := G0.out; simp; omega))
  rw [← hW4]
  have hl1 : Hid ((bld1 p).length = N) := Lib.hid (by rw [bld1_len, HNl.out])
  have hl2 : Hid ((bld2 p).length = N) := Lib.hid (by rw [bld2_len, HNl.out])
  have hl3 : Hid ((bld3 p).length = N) := Lib.hid (by rw [bld3_len, HNl.out])
  have hl4 : Hid ((bld4 p).length = N) := Lib.hid (by rw [bld4_len, HNl.out])
  clear hW4 t4 X3 Y3 T03 O3 k0 k1 z0 z1 d0 e64
  go_wp2_with fail
  refine (putw_calls O4.out 2 _ rfl N (by rw [hl1.out]; omega) (by omega) (by rw [hl1.out]; omega)).mono ?_
  rintro e w5 ⟨rfl, o5, t5⟩
  have O5 := Lib.hid o5
  have X5 := Lib.hid (touch_box t5 X4.out (by have := G0.out; simp [Value.ownBlock]; omega))
  have Y5 := Lib.hid (touch_box t5 Y4.out (by simpa [Value.ownBlock] using ne1))
  have T5 := Lib.hid (T4.out.trans t5 (by have := G0.out; simp [Value.ownBlock]; omega))
  clear o5 t5 X4 Y4 T4 O4
  obtain ⟨d0, d1, d2, d3, d4, d5, d6, d7, d8, d9⟩ := hd_cells Y5.out
  go_wp2_with fail
  refine (putw_calls O5.out 4 _ rfl p.h.id (by rw [putW_len, hl1.out]; omega) HW.out.id (by rw [putW_len, hl1.out]; omega)).mono ?_
  rintro e w6 ⟨rfl, o6, t6⟩
  have O6 := Lib.hid o6
  have X6 := Lib.hid (touch_box t6 X5.out (by have := G0.out; simp [Value.ownBlock]; omega))
  have Y6 := Lib.hid (touch_box t6 Y5.out (by simpa [Value.ownBlock] using ne1))
  have T6 := Lib.hid (T5.out.trans t6 (by have := G0.out; simp [Value.ownBlock]; omega))
  clear o6 t6 X5 Y5 T5 O5 d0 d1 d2 d3 d4 d5 d6 d7 d8 d9
  obtain ⟨d0, d1, d2, d3, d4, d5, d6, d7, d8, d9⟩ := hd_cells Y6.out
  have o2 := OF.out.2.2.1
  have x0 : 0 ≤ p.h.off / 8 := by omega
  have x1 : p.h.off / 8 < 8192 := by omega
  have ED := Lib.hid (or_df x0 x1)
  have EM := Lib.hid (or_mf x0 x1)
  have EB := Lib.hid (or_both x0 x1)
  obtain ⟨bd, hbd⟩ : ∃ b : Bool, b = p.h.df := ⟨_, rfl⟩
  rw [← hbd] at d2
  have HBD := Lib.hid hbd
  clear hbd
  go_upto_if 65 with (fail)
  go_cut [7] from 65 to 67 (fun v7 wc => ∃ f1 : Int, v7 = .int .u16 f1 ∧ 0 ≤ f1 ∧ f1 < 24576 ∧ Hid (f1 = p.h.off / 8 + (if p.h.df then 16384 else 0)) ∧ Hid (bits .or .u16 f1 8192 = f1 + 8192) ∧ Hid (wc = w6))
  case first =>
    have ed := ED.out
    cases bd
    · go_wp2
      go_meet
      case rel => exact ⟨_, rfl, x0, by omega, Lib.hid (by rw [← HBD.out]; simp), EM, Lib.hid rfl⟩
    · go_wp2
      go_meet
      case rel => exact ⟨_, rfl, by omega, by omega, Lib.hid (by rw [← HBD.out]; simp), EB, Lib.hid rfl⟩
  case rest =>
  obtain ⟨f1, rfl, f10, f11, hf1, hf1m, hwc⟩ := hcut
  obtain rfl := hwc.out
  obtain ⟨bm, hbm⟩ : ∃ b : Bool, b = p.h.mf := ⟨_, rfl⟩
  rw [← hbm] at d3
  have HBM := Lib.hid hbm
  clear hbm
  go_upto_if 69 with (fail)
  go_cut [7] from 69 to 71 (fun v7 wq => ∃ f2 : Int, v7 = .int .u16 f2 ∧ 0 ≤ f2 ∧ f2 < 65536 ∧ Hid (f2 = flagsI p.h) ∧ Hid (wq = wc))
  case first =>
    have em := hf1m.out
    cases bm
    · go_wp2
      go_meet
      case rel => exact ⟨_, rfl, by omega, by omega, Lib.hid (by unfold flagsI; rw [hf1.out, ← HBM.out]; simp), Lib.hid rfl⟩
    · go_wp2
      go_meet
      case rel => exact ⟨_, rfl, by omega, by omega, Lib.hid (by unfold flagsI; rw [hf1.out, ← HBM.out]; simp), Lib.hid rfl⟩
  case rest =>
  obtain ⟨f2, rfl, f20, f21, hf2, hwq⟩ := hcut
  obtain rfl := hwq.out
  clear ED EM EB hf1 hf1m
  go_wp2_with fail
  rw [hf2.out]
  refine (putw_calls O6.out 6 _ rfl (flagsI p.h) (by rw [putW_len, putW_len, hl1.out]; omega) (by rw [← hf2.out]; omega) (by rw [putW_len, putW_len, hl1.out]; omega)).mono ?_
  rintro e w7 ⟨rfl, o7, t7⟩
  have o7 : OwB w7 (.slice (some ⟨g, 0, none⟩) N N) (bld2 p) := by unfold bld2; rw [← HNl.out]; exact o7
  have O7 := Lib.hid o7
  have X7 := Lib.hid (touch_box t7 X6.out (by have := G0.out; simp [Value.ownBlock]; omega))
  have Y7 := Lib.hid (touch_box t7 Y6.out (by simpa [Value.ownBlock] using ne1))
  have T7 := Lib.hid (T6.out.trans t7 (by have := G0.out; simp [Value.ownBlock]; omega))
  clear o7 t7 X6 Y6 T6 O6
  clear d0 d1 d2 d3 d4 d5 d6 d7 d8 d9
  go_upto_region 19 with (fail)
  obtain ⟨d0, d1, d2, d3, d4, d5, d6, d7, d8, d9⟩ := hd_cells Y7.out
  obtain ⟨⟨y8, k8⟩, z8⟩ := O7.out.at_ (i := 8) (by omega)
  obtain ⟨⟨y9, k9⟩, z9⟩ := O7.out.at_ (i := 9) (by omega)
  have lN8 : (8 : Int) < (N : Int) := by omega
  have lN9 : (9 : Int) < (N : Int) := by omega
  go_region
  obtain ⟨W8, hW8⟩ : ∃ W8 : World, W8 = ((w7.setCell ⟨g, 8, none⟩ (.int .u8 p.h.ttl)).setCell ⟨g, 9, none⟩ (.int .u8 p.h.proto)).drew := ⟨_, rfl⟩
  have O8 : Hid (OwB W8 (.slice (some ⟨g, 0, none⟩) N N) (((bld2 p).set 8 p.h.ttl).set 9 p.h.proto)) := Lib.hid (by
    have h1 := (O7.out.setc 8 HW.out.ttl).setc 9 HW.out.proto
    rw [hW8]
    exact h1.near ((Touch.refl [] _).drew))
  have t8 : Touch [g] w7 W8 := by rw [hW8]; exact (((Touch.refl _ w7).setCell _ _ (.inl (by simp))).setCell _ _ (.inl (by simp))).drew
  have X8 := Lib.hid (touch_box t8 X7.out (by have := G0.out; simp; omega))
  have Y8 := Lib.hid (touch_box t8 Y7.out (by simpa using ne1))
  have T8 := Lib.hid (T7.out.trans t8 (by have := G0.out; simp; omega))
  rw [← hW8]
  clear hW8 t8 X7 Y7 T7 O7 k8 k9 z8 z9 lN8 lN9 d0 d1 d2 d3 d4 d5 d6 d7 d8 d9
  obtain ⟨d0, d1, d2, d3, d4, d5, d6, d7, d8, d9⟩ := hd_cells Y8.out
  have hls : Hid ((((bld2 p).set 8 p.h.ttl).set 9 p.h.proto).length = N) := Lib.hid (by rw [List.length_set, List.length_set, hl2.out])
  go_wp2_with fail
  refine (putl_calls O8.out 12 _ rfl p.h.src (by rw [hls.out]; omega) HW.out.src (by rw [hls.out]; omega)).mono ?_
  rintro e w9 ⟨rfl, o9, t9⟩
  have O9 := Lib.hid o9
  have X9 := Lib.hid (touch_box t9 X8.out (by have := G0.out; simp [Value.ownBlock]; omega))
  have Y9 := Lib.hid (touch_box t9 Y8.out (by simpa [Value.ownBlock] using ne1))
  have T9 := Lib.hid (T8.out.trans t9 (by have := G0.out; simp [Value.ownBlock]; omega))
  clear o9 t9 X8 Y8 T8 O8 d0 d1 d2 d3 d4 d5 d6 d7 d8 d9
  obtain ⟨d0, d1, d2, d3, d4, d5, d6, d7, d8, d9⟩ := hd_cells Y9.out
  go_wp2_with fail
  refine (putl_calls O9.out 16 _ rfl p.h.dst (by rw [putL_len, hls.out]; omega) HW.out.dst (by rw [putL_len, hls.out]; omega)).mono ?_
  rintro e w10 ⟨rfl, o10, t10⟩
  have o10 : OwB w10 (.slice (some ⟨g, 0, none⟩) N N) (bld3 p) := o10
  have O10 := Lib.hid o10
  have X10 := Lib.hid (touch_box t10 X9.out (by have := G0.out; simp [Value.ownBlock]; omega))
  have Y10 := Lib.hid (touch_box t10 Y9.out (by simpa [Value.ownBlock] using ne1))
  have T10 := Lib.hid (T9.out.trans t10 (by have := G0.out; simp [Value.ownBlock]; omega))
  clear o10 t10 X9 Y9 T9 O9 d0 d1 d2 d3 d4 d5 d6 d7 d8 d9
  go_upto_region 22 with (fail)
  go_cut [] from 91 to 95 (fun wc => Hid (OwB wc (.slice (some ⟨g, 0, none⟩) N N) (splice (bld3 p) 20 p.opts)) ∧ Hid (Touch [g] w10 wc))
  case first =>
    obtain ⟨d0, d1, d2, d3, d4, d5, d6, d7, d8, d9⟩ := hd_cells Y10.out
    have RO := Lib.hid ((HO.out.near T10.out).near (Touch.refl [] w10).drew)
    have OD := Lib.hid (O10.out.near (Touch.refl [] w10).drew)
    have h20 : (20 : Int) ≤ (N : Int) := by omega
    have hfit : 20 + p.opts.length ≤ N := by have := hH2.out; omega
    have hofs : p.opts.length ≤ N - 20 := by omega
    by_cases hN : N = 20
    · have ho0 : Hid (¬ 0 < p.opts.length) := Lib.hid (by omega)
      subst hN
      go_region_law (refine step_copy_n (by rfl) (.tmp 92) (.tmp 94) (by rfl) 20 (bld3 p) p.opts (.slice A p.opts.length cap) (by rfl) (by rfl) OD.out RO.out (fun h => absurd h ho0.out) hfit hofs (by omega) ?_; intro w11 o11 t11)
      go_wp2
      go_meet
      case rel => exact ⟨Lib.hid o11, Lib.hid (((Touch.refl [g] w10).drew).trans t11 (fun x hx => .inl hx))⟩
    · have hN1 : ¬ N = 20 := hN
      clear hN
      go_region_law (refine step_copy_n (by rfl) (.tmp 92) (.tmp 94) (by rfl) 20 (bld3 p) p.opts (.slice A p.opts.length cap) (by rfl) (by rfl) OD.out RO.out (fun _ => by first | rfl | simp) hfit hofs (by omega) ?_; intro w11 o11 t11)
      go_wp2
      go_meet
      case rel => exact ⟨Lib.hid o11, Lib.hid (((Touch.refl [g] w10).drew).trans t11 (fun x hx => .inl hx))⟩
  case rest =>
  obtain ⟨O11, hT11⟩ := hcut
  obtain ⟨w11, hw11⟩ : ∃ w11, w11 = wc := ⟨_, rfl⟩
  rw [← hw11] at O11 hT11 ⊢
  clear hw11
  have t11 := hT11.out
  have X11 := Lib.hid (touch_box t11 X10.out (by have := G0.out; simp; omega))
  have T11 := Lib.hid (T10.out.trans t11 (by have := G0.out; simp; omega))
  clear t11 hT11 X10 Y10 T10 O10
  go_upto_region 23 with (fail)
  go_cut [] from 96 to 101 (fun wc => Hid (OwB wc (.slice (some ⟨g, 0, none⟩) N N) (bld4 p)) ∧ Hid (Touch [g] w11 wc))
  case first =>
    obtain ⟨c0, c1, c2, c3, c4, c5, c6, c7, c8, c9, c10⟩ := pk_cells X11.out
    have RB := Lib.hid ((HB.out.near T11.out).near (Touch.refl [] w11).drew)
    have OD := Lib.hid (O11.out.near (Touch.refl [] w11).drew)
    have hHNi : (H : Int) ≤ (N : Int) := by omega
    have hfit : H + p.body.length ≤ N := by have := hN2.out; omega
    have hofs : p.body.length ≤ N - H := by omega
    have B4 : Hid (splice (splice (bld3 p) 20 p.opts) H p.body = bld4 p) := Lib.hid (by unfold bld4; rw [← HHl.out])
    by_cases hN : N = H
    · have ho0 : Hid (¬ 0 < p.body.length) := Lib.hid (by omega)
      have hN2' := hN.symm
      clear hN
      subst hN2'
      go_region_law (refine step_copy_n (by rfl) (.tmp 98) (.tmp 100) (by rfl) H (splice (bld3 p) 20 p.opts) p.body (.slice A' p.body.length cap') (by rfl) (by rfl) OD.out RB.out (fun h => absurd h ho0.out) hfit (by have := ho0.out; omega) (by omega) ?_; intro w12 o12 t12)
      rw [B4.out] at o12
      go_wp2
      go_meet
      case rel => exact ⟨Lib.hid o12, Lib.hid (((Touch.refl [g] w11).drew).trans t12 (fun x hx => .inl hx))⟩
    · have hN1 : ¬ N = H := hN
      clear hN
      go_region_law (refine step_copy_n (by rfl) (.tmp 98) (.tmp 100) (by rfl) H (splice (bld3 p) 20 p.opts) p.body (.slice A' p.body.length cap') (by rfl) (by rfl) OD.out RB.out (fun _ => by first | rfl | simp) hfit hofs (by omega) ?_; intro w12 o12 t12)
      rw [B4.out] at o12
      go_wp2
      go_meet
      case rel => exact ⟨Lib.hid o12, Lib.hid (((Touch.refl [g] w11).drew).trans t12 (fun x hx => .inl hx))⟩
  case rest =>
  obtain ⟨O12, hT12⟩ := hcut
  obtain ⟨w12, hw12⟩ : ∃ w12, w12 = wc := ⟨_, rfl⟩
  rw [← hw12] at O12 hT12 ⊢
  clear hw12
  have T12 := Lib.hid (T11.out.trans hT12.out (by have := G0.out; simp; omega))
  clear hT12 X11 T11 O11
  have h10 : (10 : Int) ≤ (N : Int) := by omega
  have h12 : (12 : Int) ≤ (H : Int) := by omega
  have hHNi : (H : Int) ≤ (N : Int) := by omega
  have hn12 : ¬ N = 12 := by omega
  go_upto_region 24 with (fail)
  obtain ⟨W13, hW13⟩ : ∃ W13 : World, W13 = (w12.alloc (.cells #[.slice (some ⟨g, 0, none⟩) 10 N, .slice (some ⟨g, 12, none⟩) (H - 12) (N - 12)] 26)).drew := ⟨_, rfl⟩
  have t13 : Touch [] w12 W13 := by rw [hW13]; exact ((Touch.refl [] w12).alloc _).drew
  have b13 : W13.heap[w12.heap.size]? = some (.cells #[.slice (some ⟨g, 0, none⟩) 10 N, .slice (some ⟨g, 12, none⟩) (H - 12) (N - 12)] 26 (0, 0)) := by rw [hW13]; exact box_at w12 _
  have RS := Lib.hid (RdS.two t13 b13 O12.out (by omega) hHN)
  have O13 := Lib.hid (O12.out.near t13)
  have hjl : Hid ((joinS [(Value.slice (some ⟨g, 0, none⟩) 10 N, (bld4 p).take 10), (.slice (some ⟨g, 12, none⟩) (H - 12) (N - 12), ((bld4 p).drop 12).take (H - 12))]).length ≤ 1000000) := Lib.hid (by
    simp only [joinS, List.flatMap_cons, List.flatMap_nil, List.length_append, List.length_take, List.length_drop, List.append_nil]; omega)
  have hjs : Hid (65535 - foldI (wsum (joinS [(Value.slice (some ⟨g, 0, none⟩) 10 N, (bld4 p).take 10), (.slice (some ⟨g, 12, none⟩) (H - 12) (N - 12), ((bld4 p).drop 12).take (H - 12))]) true) = bldS p) := Lib.hid (by
    unfold bldS; rw [← HHl.out]; simp [joinS])
  have hjb : Hid (0 ≤ bldS p ∧ bldS p < 65536) := Lib.hid (by
    unfold bldS
    have : ∀ t, 0 ≤ t → 0 ≤ foldI t ∧ foldI t ≤ 65535 := fun t ht => by unfold foldI; split <;> omega
    have h1 := (wsum_bd (l := (bld4 p).take 10 ++ ((bld4 p).drop 12).take (hlen p - 12)) (fun x hx => by
      rcases List.mem_append.1 hx with hx | hx
      · exact O12.out.wf x (List.mem_of_mem_take hx)
      · exact O12.out.wf x (List.mem_of_mem_drop (List.mem_of_mem_take hx))) true).1
    have := this _ h1
    omega)
  rw [hW13] at RS O13 t13
  have T13 := Lib.hid (T12.out.trans t13 (by simp))
  clear hW13 b13 t13
  go_region_law (first
    | (go_simp; go_at_call 41; refine (sum_calls RS.out (by omega) hjl.out).mono ?_; rw [hjs.out]; rintro e w14 ⟨rfl, rfl⟩)
    | (go_simp; go_at_call 39; refine (putw_calls O13.out 10 _ rfl (bldS p) (by rw [hl4.out]; omega) hjb.out (by rw [hl4.out]; omega)).mono ?_; rintro e w15 ⟨rfl, o15, t15⟩))
  have O15 := Lib.hid o15
  have T15 := Lib.hid (T13.out.trans t15 (by have := G0.out; simp [Value.ownBlock]; omega))
  clear o15 t15
  go_wp2
  go_ret2
  refine ⟨T15.out, .inr ⟨HE.out, _, rfl, O15.out, fun b hb => ?_⟩⟩
  have := G0.out
  simp [Value.ownBlock] at hb
  omega
end Go.Proofs.Ytelfemhnijnhfaa.Fr
