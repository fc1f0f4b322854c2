/- weftref3.header; no condition. -/
import Derived.Test.YtelfemhnijnhfaaFJ
namespace Go.Proofs.Ytelfemhnijnhfaa.Fr
open Go.RowKit Go.Maps
set_option linter.unusedVariables false
set_option maxRecDepth 100000
attribute [local go_sem] nilB

def hdr0 (ol : Nat) (h : Hd) : List Int := [69 + ((ol / 4 : Nat) : Int), h.tos]
def hdr1 (ol : Nat) (h : Hd) (n : Int) : List Int := hdr0 ol h ++ [n / 256, n % 256]
def hdr2 (ol : Nat) (h : Hd) (n : Int) : List Int := hdr1 ol h n ++ [h.id / 256, h.id % 256]
def hdr3 (ol : Nat) (h : Hd) (n : Int) : List Int := hdr2 ol h n ++ [flagsI h / 256, flagsI h % 256]
def hdr4 (ol : Nat) (h : Hd) (n : Int) : List Int := hdr3 ol h n ++ [h.ttl, h.proto]
def hdr5 (ol : Nat) (h : Hd) (n s : Int) : List Int := hdr4 ol h n ++ [s / 256, s % 256]
def hdr6 (ol : Nat) (h : Hd) (n s : Int) : List Int := hdr5 ol h n s ++ [h.src / 65536 / 256, h.src / 65536 % 256]
def hdr7 (ol : Nat) (h : Hd) (n s : Int) : List Int := hdr6 ol h n s ++ [h.src % 65536 / 256, h.src % 65536 % 256]
def hdr8 (ol : Nat) (h : Hd) (n s : Int) : List Int := hdr7 ol h n s ++ [h.dst / 65536 / 256, h.dst / 65536 % 256]
def hdr9 (ol : Nat) (h : Hd) (n s : Int) : List Int := hdr8 ol h n s ++ [h.dst % 65536 / 256, h.dst % 65536 % 256]
def hdrL (h : Hd) (opts : List Int) (n s : Int) : List Int := hdr9 opts.length h n s ++ opts
theorem hdrL_len (h : Hd) (opts : List Int) (n s : Int) : (hdrL h opts n s).length = 20 + opts.length := by
  simp [hdrL, hdr9, hdr8, hdr7, hdr6, hdr5, hdr4, hdr3, hdr2, hdr1, hdr0]; omega
set_option maxHeartbeats 4000000 in
theorem header_calls {w : World} {VO : Value} {h : Hd} {l : List Int} (ho : RdB w VO l) (hlo : l.length ≤ 40) (hw : h.wf) (hoff : 0 ≤ h.off ∧ h.off ≤ 65528) (n s : Int) (n0 : 0 ≤ n) (n1 : n < 65536) (s0 : 0 ≤ s) (s1 : s < 65536) :
    Calls Try.prog 65 #[.agg (hdC h VO), .int .i64 n, .int .u16 s] w (AppPost w (hdrL h l n s)) := by
  have HO := Lib.hid ho
  have HW := Lib.hid hw
  obtain ⟨A, cap, rfl⟩ := ho.len_lt
  obtain ⟨of1, of2⟩ := hoff
  obtain ⟨i0, i1⟩ := hw.id
  obtain ⟨sr0, sr1⟩ := hw.src
  obtain ⟨ds0, ds1⟩ := hw.dst
  clear ho hw
  go_enter Try.func65, Try.ntmps65
  go_upto_region 2 with (fail)
  have Y0 := Lib.hid (box_at w (.cells (hdC h (.slice A l.length cap)) 28))
  obtain ⟨W0, hW0⟩ : ∃ W0 : World, W0 = w.alloc (.cells (hdC h (.slice A l.length cap)) 28) := ⟨_, rfl⟩
  rw [← hW0] at Y0 ⊢
  have T0 := Lib.hid (show Touch [] w W0 by rw [hW0]; exact (Touch.refl [] w).alloc _)
  clear hW0
  obtain ⟨d0, d1, d2, d3, d4, d5, d6, d7, d8, d9⟩ := hd_cells Y0.out
  obtain ⟨q, hq⟩ : ∃ q : Nat, q = l.length / 4 := ⟨_, rfl⟩
  have hqi : (l.length : Int) / 4 = (q : Int) := by omega
  have hq10 : q ≤ 10 := by omega
  have HQ : Hid (hdr0 l.length h = [69 + (q : Int), h.tos]) := Lib.hid (by unfold hdr0; rw [hq])
  clear hq
  go_upto_region 3 with (at_builtin; refine wpList_append_o (w0 := W0) (by rfl) (.tmp 10) (.tmp 19) (by rfl) (.slice none 0 0) (.slice (some ⟨W0.heap.size, 0, none⟩) 2 2) [] [69 + (q : Int), h.tos] (hdr0 l.length h) HQ.out (by rfl) (OwB.nil _) (by rfl) (rdb_two W0 _ _ (by omega) HW.out.tos) (by rw [HQ.out]; simp) (Fresh.nil _) ((Touch.refl [] W0).alloc _) ?_; intro A1 cp1 w1 h1 h2 h3; have O1 := Lib.hid h1; have F1 := Lib.hid h2; have T1 := Lib.hid h3; clear h1 h2 h3)
  have HL1 : Hid ((hdr0 l.length h).length = 2) := Lib.hid (by simp [hdr0])
  clear d0 d1 d2 d3 d4 d5 d6 d7 d8 d9
  obtain ⟨d0, d1, d2, d3, d4, d5, d6, d7, d8, d9⟩ := hd_cells (touch_box T1.out Y0.out (by simp))
  go_wp2_with fail
  refine (put2_calls (w0 := W0) O1.out F1.out T1.out (by rw [HL1.out]; omega) (n) n0 n1).mono ?_
  rintro e w2 ⟨A2, cp2, rfl, o, f, t⟩
  have O2 : Hid (OwB w2 (.slice A2 (hdr1 l.length h n).length cp2) (hdr1 l.length h n)) := Lib.hid o
  have F2 : Hid (Fresh W0.heap.size (.slice A2 (hdr1 l.length h n).length cp2)) := Lib.hid f
  have T2 := Lib.hid t
  have HL2 : Hid ((hdr1 l.length h n).length = 4) := Lib.hid (by simp [hdr0, hdr1])
  clear o f t O1 F1 T1 d0 d1 d2 d3 d4 d5 d6 d7 d8 d9
  obtain ⟨d0, d1, d2, d3, d4, d5, d6, d7, d8, d9⟩ := hd_cells (touch_box T2.out Y0.out (by simp))
  go_wp2_with fail
  refine (put2_calls (w0 := W0) O2.out F2.out T2.out (by rw [HL2.out]; omega) (h.id) i0 i1).mono ?_
  rintro e w3 ⟨A3, cp3, rfl, o, f, t⟩
  have O3 : Hid (OwB w3 (.slice A3 (hdr2 l.length h n).length cp3) (hdr2 l.length h n)) := Lib.hid o
  have F3 : Hid (Fresh W0.heap.size (.slice A3 (hdr2 l.length h n).length cp3)) := Lib.hid f
  have T3 := Lib.hid t
  have HL3 : Hid ((hdr2 l.length h n).length = 6) := Lib.hid (by simp [hdr0, hdr1, hdr2])
  clear o f t O2 F2 T2 d0 d1 d2 d3 d4 d5 d6 d7 d8 d9
  obtain ⟨d0, d1, d2, d3, d4, d5, d6, d7, d8, d9⟩ := hd_cells (touch_box T3.out Y0.out (by simp))
  have x0 : 0 ≤ h.off / 8 := by omega
  have x1 : h.off / 8 < 8192 := by omega
  obtain ⟨bd, hbd⟩ : ∃ b : Bool, b = h.df := ⟨_, rfl⟩
  rw [← hbd] at d2
  have HBD := Lib.hid hbd
  clear hbd
  go_upto_if 33 with (fail)
  go_cut [8] from 33 to 35 (fun v8 wc => ∃ f1 : Int, v8 = .int .i64 f1 ∧ 0 ≤ f1 ∧ f1 < 24576 ∧ Hid (f1 = h.off / 8 + (if h.df then 16384 else 0)) ∧ Hid (wc = w3))
  case first =>
    cases bd
    · go_wp2
      go_meet
      case rel => exact ⟨_, rfl, x0, by omega, Lib.hid (by rw [← HBD.out]; simp), Lib.hid rfl⟩
    · go_wp2
      go_meet
      case rel => exact ⟨_, rfl, by omega, by omega, Lib.hid (by rw [← HBD.out]; simp), Lib.hid rfl⟩
  case rest =>
  obtain ⟨f1, rfl, f10, f11, hf1, hwc⟩ := hcut
  obtain rfl := hwc.out
  obtain ⟨bm, hbm⟩ : ∃ b : Bool, b = h.mf := ⟨_, rfl⟩
  rw [← hbm] at d3
  have HBM := Lib.hid hbm
  clear hbm
  go_upto_if 37 with (fail)
  go_cut [8] from 37 to 39 (fun v8 wq => ∃ f2 : Int, v8 = .int .i64 f2 ∧ 0 ≤ f2 ∧ f2 < 65536 ∧ Hid (f2 = flagsI h) ∧ Hid (wq = wc))
  case first =>
    cases bm
    · go_wp2
      go_meet
      case rel => exact ⟨_, rfl, by omega, by omega, Lib.hid (by unfold flagsI; rw [hf1.out, ← HBM.out]; simp), Lib.hid rfl⟩
    · go_wp2
      go_meet
      case rel => exact ⟨_, rfl, by omega, by omega, Lib.hid (by unfold flagsI; rw [hf1.out, ← HBM.out]; simp), Lib.hid rfl⟩
  case rest =>
  obtain ⟨f2, rfl, f20, f21, hf2, hwq⟩ := hcut
  obtain rfl := hwq.out
  clear d0 d1 d2 d3 d4 d5 d6 d7 d8 d9
  obtain ⟨d0, d1, d2, d3, d4, d5, d6, d7, d8, d9⟩ := hd_cells (touch_box T3.out Y0.out (by simp))
  go_wp2_with fail
  refine (put2_calls (w0 := W0) O3.out F3.out T3.out (by rw [HL3.out]; omega) (f2) f20 f21).mono ?_
  rintro e w4 ⟨A4, cp4, rfl, o, f, t⟩
  have O4 : Hid (OwB w4 (.slice A4 (hdr2 l.length h n ++ [f2 / 256, f2 % 256]).length cp4) (hdr2 l.length h n ++ [f2 / 256, f2 % 256])) := Lib.hid o
  have F4 : Hid (Fresh W0.heap.size (.slice A4 (hdr2 l.length h n ++ [f2 / 256, f2 % 256]).length cp4)) := Lib.hid f
  have T4 := Lib.hid t
  have HL4 : Hid ((hdr2 l.length h n ++ [f2 / 256, f2 % 256]).length = 8) := Lib.hid (by simp [hdr0, hdr1, hdr2])
  clear o f t O3 F3 T3 d0 d1 d2 d3 d4 d5 d6 d7 d8 d9
  obtain ⟨d0, d1, d2, d3, d4, d5, d6, d7, d8, d9⟩ := hd_cells (touch_box T4.out Y0.out (by simp))
  rw [hf2.out] at O4 F4 HL4 ⊢
  change Hid (OwB _ (.slice _ (hdr3 l.length h n).length _) (hdr3 l.length h n)) at O4
  change Hid (Fresh _ (.slice _ (hdr3 l.length h n).length _)) at F4
  change Hid ((hdr3 l.length h n).length = _) at HL4
  go_upto_region 12 with (at_builtin; refine wpList_append_o (w0 := W0) (by rfl) (.tmp 43) (.tmp 48) (by rfl) (.slice A4 (hdr3 l.length h n).length cp4) (.slice (some ⟨w4.heap.size, 0, none⟩) 2 2) (hdr3 l.length h n) [h.ttl, h.proto] (hdr4 l.length h n) rfl (by rfl) (O4.out.near ((Touch.refl [] w4).alloc _)) (by rfl) (rdb_two w4 _ _ HW.out.ttl HW.out.proto) (by unfold hdr4; rw [List.length_append, HL4.out]; simp) F4.out (T4.out.alloc _) ?_; intro A5 cp5 w5 h1 h2 h3; have O5 := Lib.hid h1; have F5 := Lib.hid h2; have T5 := Lib.hid h3; clear h1 h2 h3)
  have HL5 : Hid ((hdr4 l.length h n).length = 10) := Lib.hid (by unfold hdr4; rw [List.length_append, HL4.out]; simp)
  clear d0 d1 d2 d3 d4 d5 d6 d7 d8 d9 O4 F4 T4 HL4
  obtain ⟨d0, d1, d2, d3, d4, d5, d6, d7, d8, d9⟩ := hd_cells (touch_box T5.out Y0.out (by simp))
  go_wp2_with fail
  refine (put2_calls (w0 := W0) O5.out F5.out T5.out (by rw [HL5.out]; omega) (s) s0 s1).mono ?_
  rintro e w6 ⟨A6, cp6, rfl, o, f, t⟩
  have O6 : Hid (OwB w6 (.slice A6 (hdr5 l.length h n s).length cp6) (hdr5 l.length h n s)) := Lib.hid o
  have F6 : Hid (Fresh W0.heap.size (.slice A6 (hdr5 l.length h n s).length cp6)) := Lib.hid f
  have T6 := Lib.hid t
  have HL6 : Hid ((hdr5 l.length h n s).length = 12) := Lib.hid (by simp [hdr0, hdr1, hdr2, hdr3, hdr4, hdr5])
  clear o f t O5 F5 T5 d0 d1 d2 d3 d4 d5 d6 d7 d8 d9
  obtain ⟨d0, d1, d2, d3, d4, d5, d6, d7, d8, d9⟩ := hd_cells (touch_box T6.out Y0.out (by simp))
  go_wp2_with fail
  refine (put2_calls (w0 := W0) O6.out F6.out T6.out (by rw [HL6.out]; omega) (h.src / 65536) (by omega) (by omega)).mono ?_
  rintro e w7 ⟨A7, cp7, rfl, o, f, t⟩
  have O7 : Hid (OwB w7 (.slice A7 (hdr6 l.length h n s).length cp7) (hdr6 l.length h n s)) := Lib.hid o
  have F7 : Hid (Fresh W0.heap.size (.slice A7 (hdr6 l.length h n s).length cp7)) := Lib.hid f
  have T7 := Lib.hid t
  have HL7 : Hid ((hdr6 l.length h n s).length = 14) := Lib.hid (by simp [hdr0, hdr1, hdr2, hdr3, hdr4, hdr5, hdr6])
  clear o f t O6 F6 T6 d0 d1 d2 d3 d4 d5 d6 d7 d8 d9
  obtain ⟨d0, d1, d2, d3, d4, d5, d6, d7, d8, d9⟩ := hd_cells (touch_box T7.out Y0.out (by simp))
  go_wp2_with fail
  refine (put2_calls (w0 := W0) O7.out F7.out T7.out (by rw [HL7.out]; omega) (h.src % 65536) (by omega) (by omega)).mono ?_
  rintro e w8 ⟨A8, cp8, rfl, o, f, t⟩
  have O8 : Hid (OwB w8 (.slice A8 (hdr7 l.length h n s).length cp8) (hdr7 l.length h n s)) := Lib.hid o
  have F8 : Hid (Fresh W0.heap.size (.slice A8 (hdr7 l.length h n s).length cp8)) := Lib.hid f
  have T8 := Lib.hid t
  have HL8 : Hid ((hdr7 l.length h n s).length = 16) := Lib.hid (by simp [hdr0, hdr1, hdr2, hdr3, hdr4, hdr5, hdr6, hdr7])
  clear o f t O7 F7 T7 d0 d1 d2 d3 d4 d5 d6 d7 d8 d9
  obtain ⟨d0, d1, d2, d3, d4, d5, d6, d7, d8, d9⟩ := hd_cells (touch_box T8.out Y0.out (by simp))
  go_wp2_with fail
  refine (put2_calls (w0 := W0) O8.out F8.out T8.out (by rw [HL8.out]; omega) (h.dst / 65536) (by omega) (by omega)).mono ?_
  rintro e w9 ⟨A9, cp9, rfl, o, f, t⟩
  have O9 : Hid (OwB w9 (.slice A9 (hdr8 l.length h n s).length cp9) (hdr8 l.length h n s)) := Lib.hid o
  have F9 : Hid (Fresh W0.heap.size (.slice A9 (hdr8 l.length h n s).length cp9)) := Lib.hid f
  have T9 := Lib.hid t
  have HL9 : Hid ((hdr8 l.length h n s).length = 18) := Lib.hid (by simp [hdr0, hdr1, hdr2, hdr3, hdr4, hdr5, hdr6, hdr7, hdr8])
  clear o f t O8 F8 T8 d0 d1 d2 d3 d4 d5 d6 d7 d8 d9
  obtain ⟨d0, d1, d2, d3, d4, d5, d6, d7, d8, d9⟩ := hd_cells (touch_box T9.out Y0.out (by simp))
  go_wp2_with fail
  refine (put2_calls (w0 := W0) O9.out F9.out T9.out (by rw [HL9.out]; omega) (h.dst % 65536) (by omega) (by omega)).mono ?_
  rintro e w10 ⟨A10, cp10, rfl, o, f, t⟩
  have O10 : Hid (OwB w10 (.slice A10 (hdr9 l.length h n s).length cp10) (hdr9 l.length h n s)) := Lib.hid o
  have F10 : Hid (Fresh W0.heap.size (.slice A10 (hdr9 l.length h n s).length cp10)) := Lib.hid f
  have T10 := Lib.hid t
  have HL10 : Hid ((hdr9 l.length h n s).length = 20) := Lib.hid (by simp [hdr0, hdr1, hdr2, hdr3, hdr4, hdr5, hdr6, hdr7, hdr8, hdr9])
  clear o f t O9 F9 T9 d0 d1 d2 d3 d4 d5 d6 d7 d8 d9
  obtain ⟨d0, d1, d2, d3, d4, d5, d6, d7, d8, d9⟩ := hd_cells (touch_box T10.out Y0.out (by simp))
  clear d0 d1 d2 d3 d4 d5 d6 d7 d8 d9
  go_wp2_with fail
  go_loopg [7, 9] l.length (fun kq v7 v9 wr => ∃ (i : Nat) (A7 : Option Addr) (c7 : Nat) (m : List Int), v9 = .int .i64 i ∧ v7 = .slice A7 m.length c7 ∧ i ≤ l.length ∧ l.length - i ≤ kq ∧ Hid (m = hdr9 l.length h n s ++ l.take i) ∧ Hid (OwB wr (.slice A7 m.length c7) m) ∧ Hid (Fresh W0.heap.size (.slice A7 m.length c7)) ∧ Hid (Touch [] W0 wr))
  case atStart => exact ⟨0, A10, cp10, hdr9 l.length h n s, rfl, rfl, by omega, by omega, Lib.hid (by simp), O10, F10, T10⟩
  case round =>
    obtain ⟨i, A7, c7, m, rfl, rfl, hi, hk, hm, hO, hF, hT⟩ := hrel
    obtain ⟨_, _, _, _, _, _, _, _, _, d9⟩ := hd_cells (touch_box hT.out Y0.out (by simp))
    by_cases hlt : i < l.length
    · have R := (HO.out.near T0.out).near hT.out
      obtain ⟨⟨A', cap', hV, _, _, hr⟩, wf⟩ := R
      simp only [Value.slice.injEq, true_and] at hV
      obtain ⟨rfl, rfl⟩ := hV
      obtain ⟨b, off, rfl, hb, hc⟩ := hr (by omega)
      obtain ⟨x, hx⟩ : ∃ x, l[i]? = some x := ⟨_, List.getElem?_eq_getElem hlt⟩
      have xw := Lib.hid (wf x (List.mem_of_getElem? hx))
      have m0 := hc i x hx
      have lt1 : (i : Int) < (l.length : Int) := by omega
      have HN : Hid (m ++ [x] = hdr9 l.length h n s ++ l.take (i + 1)) := Lib.hid (by rw [hm.out, List.append_assoc, List.take_add_one, hx]; rfl)
      have HLn : Hid (m.length ≤ 100) := Lib.hid (by rw [hm.out, List.length_append, HL10.out, List.length_take]; omega)
      clear hc hx hr wf
      go_wp2_with (at_builtin
                   refine wpList_append_o (w0 := W0) (by rfl) (.tmp 85) (.tmp 91) (by rfl) (.slice A7 m.length c7) (.slice (some ⟨wr.heap.size, 0, none⟩) 1 1) m [x] (m ++ [x]) rfl (by rfl) (hO.out.near ((Touch.refl [] wr).alloc _)) (by rfl) (rdb_one wr x xw.out) (by rw [List.length_append]; have := HLn.out; simp only [List.length_cons, List.length_nil]; omega) hF.out (hT.out.alloc _) ?_
                   intro A8 c8 w8 h1 h2 h3
                   have O8 := Lib.hid h1
                   have F8 := Lib.hid h2
                   have T8 := Lib.hid h3
                   clear h1 h2 h3)
      go_roundg (gk - 1)
      case rel => exact ⟨i + 1, A8, c8, m ++ [x], by go_num, by first | rfl | simp, by omega, by omega, HN, O8, F8, T8⟩
      case measure => omega
    · have lt1 : ¬ (i : Int) < (l.length : Int) := by omega
      have HD : Hid (m = hdrL h l n s) := Lib.hid (by rw [hm.out, List.take_of_length_le (by omega)]; rfl)
      go_wp2
      go_ret
      have f := hF.out
      have o := hO.out
      rw [HD.out] at f o
      refine ⟨A7, c7, by rw [← HD.out]; rfl, o, f.mono T0.out.size, T0.out.trans hT.out (by simp)⟩
end Go.Proofs.Ytelfemhnijnhfaa.Fr
