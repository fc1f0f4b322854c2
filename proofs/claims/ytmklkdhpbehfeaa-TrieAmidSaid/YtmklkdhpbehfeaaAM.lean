/- The walk of amidst; no condition. -/
import Derived.Test.YtmklkdhpbehfeaaAE
namespace Go.Proofs.Ytmklkdhpbehfeaa.Tri
open Go.RowKit Go.Maps Go.Shelf
set_option linter.unusedVariables false
attribute [local go_sem] Oper.semAt_some

def FrameA (A0 : Option Addr) (n0 cap0 : Nat) (all : Bool) (C : AmC) (rd : Nat) (Ds : List Nat) (u : Nat → Value) : Act :=
  { tmps := #[.slice A0 n0 cap0, .bool all, .agg #[.int .u32 C.za, .int .i64 C.zm], .slice C.A3 C.n3 C.cap3, undef, undef, .pointer (some ⟨C.b6, 0, none⟩), .pointer (some ⟨C.b6 + 1, 0, none⟩), .pointer (some ⟨C.b6 + 1 + 1, 0, none⟩), .pointer (some ⟨C.B9, 0, none⟩), .pointer (some ⟨C.B10, 0, none⟩), .func (.func 46) #[] #[.pointer (some ⟨C.B + 1, 0, none⟩), .pointer (some ⟨C.B, 0, none⟩)], (u 12), .int .i64 rd, (u 14), (u 15), (u 16), (u 17), (u 18), (u 19), (u 20), (u 21), (u 22), (u 23), (u 24), (u 25), (u 26), (u 27), (u 28), (u 29), (u 30), (u 31), (u 32), (u 33), (u 34), (u 35), (u 36), (u 37), (u 38), (u 39), (u 40), (u 41), (u 42), (u 43), (u 44), (u 45), (u 46), (u 47), (u 48), (u 49), (u 50), (u 51), (u 52), (u 53), (u 54), (u 55), (u 56), (u 57), (u 58), (u 59), (u 60), (u 61), (u 62), (u 63), (u 64), (u 65), (u 66), (u 67), (u 68), (u 69), (u 70), (u 71), (u 72), (u 73), (u 74), (u 75), (u 76), (u 77), (u 78), (u 79), (u 80), (u 81), (u 82), (u 83), (u 84), (u 85), (u 86), (u 87), (u 88), (u 89), (u 90), (u 91), (u 92), (u 93), (u 94), (u 95), (u 96), (u 97), (u 98), (u 99), (u 100), (u 101), (u 102), (u 103), (u 104), (u 105), (u 106), (u 107), (u 108), (u 109), (u 110), (u 111), (u 112), (u 113), (u 114), (u 115), (u 116), (u 117), (u 118), (u 119), (u 120), (u 121), (u 122), (u 123), (u 124), (u 125), (u 126), (u 127), (u 128), (u 129), (u 130), (u 131), (u 132), (u 133), (u 134), (u 135), (u 136), (u 137), (u 138), (u 139), (u 140), (u 141), (u 142), (u 143)], defers := Ds.map mark }
theorem frame_a {A0 : Option Addr} {n0 cap0 : Nat} {all : Bool} {C : AmC} {rd : Nat} {Ds : List Nat} {x : Act} (h : x = FrameA A0 n0 cap0 all C rd Ds (fun k => x.tmps.getD k undef)) : ∃ u, x = FrameA A0 n0 cap0 all C rd Ds u := ⟨_, h⟩
set_option maxHeartbeats 16000000 in
set_option maxRecDepth 100000 in
theorem amidst_calls {w : World} {A0 A3 : Option Addr} {n0 n3 cap0 cap3 : Nat} {l0 l3 : List OpX} (all : Bool) (h0 : RdO w A0 n0 l0) (h3 : RdO w A3 n3 l3) (za : Nat) (zm : Int) (hza : za < 4294967296) (hn0 : 48 * n0 ≤ 140737488355328) (hn3 : 48 * n3 ≤ 140737488355328) :
    Calls Try.prog 39 #[.slice A0 n0 cap0, .bool all, .agg #[.int .u32 za, .int .i64 zm], .slice A3 n3 cap3] w fun e w' => e = .returned (.bool true) ∧ Touch [] w w' := by
  have H0 := Lib.hid h0
  have H3 := Lib.hid h3
  have hg := guard32
  clear h0 h3
  refine calls_marks Try.func39 rfl ?_
  simp only [Try.ntmps39, List.size_toArray, List.length_cons, List.length_nil, Nat.reduceAdd, Nat.reduceSub, Array.replicate_succ, Array.replicate_zero, List.push_toArray, List.append_toArray, List.nil_append, List.cons_append]
  go_wp2_with fail
  obtain ⟨V0, hV0⟩ : ∃ V0 : World, V0 = ((w.alloc (.cells #[.int .u32 za, .int .i64 zm] 32)).alloc (.cells #[.slice A3 n3 cap3] 73)).alloc (.cells #[.bool false] 4) := ⟨_, rfl⟩
  have Z6 := Lib.hid (show V0.heap[w.heap.size]? = some (.cells #[.int .u32 za, .int .i64 zm] 32 (0, 0)) by rw [hV0]; exact box_keep _ (box_keep _ (box_at w _)))
  have Z7 := Lib.hid (show V0.heap[w.heap.size + 1]? = some (.cells #[.slice A3 n3 cap3] 73 (0, 0)) by rw [hV0]; exact box_keep _ (box_at' _ _ _ (by simp)))
  have Z8 := Lib.hid (show V0.heap[w.heap.size + 1 + 1]? = some (.cells #[.bool false] 4 (0, 0)) by rw [hV0]; exact box_at' _ _ _ (by simp))
  have TV := Lib.hid (show Touch [] w V0 by rw [hV0]; exact (((Touch.refl [] w).alloc _).alloc _).alloc _)
  have HSV := Lib.hid (show V0.heap.size = w.heap.size + 1 + 1 + 1 by rw [hV0]; simp)
  rw [← hV0]
  clear hV0
  refine (new_calls V0).mono ?_
  rintro e V1 ⟨rfl, hta, t1⟩
  obtain ⟨V2, hV2⟩ : ∃ V2 : World, V2 = V1.alloc (.cells #[.pointer (some ⟨V0.heap.size, 0, none⟩)] 25) := ⟨_, rfl⟩
  have t2 : Touch [] V1 V2 := by rw [hV2]; exact (Touch.refl [] V1).alloc _
  have TA := Lib.hid hta
  have T01 := Lib.hid t1
  have T12 := Lib.hid t2
  have Z9 := Lib.hid (show V2.heap[V1.heap.size]? = some (.cells #[.pointer (some ⟨V0.heap.size, 0, none⟩)] 25 (0, 0)) by rw [hV2]; exact box_at V1 _)
  have hlt1 := hta.lt V0.heap.size (by simp)
  have HS2 := Lib.hid (show V2.heap.size = V1.heap.size + 1 by rw [hV2]; simp)
  clear hta t1 t2
  go_wp2_with fail
  rw [← hV2]
  clear hV2
  refine (rnew_calls V2).mono ?_
  rintro e V3 ⟨rfl, hrt, t3⟩
  obtain ⟨V4, hV4⟩ : ∃ V4 : World, V4 = V3.alloc (.cells #[.pointer (some ⟨V2.heap.size, 0, none⟩)] 120) := ⟨_, rfl⟩
  have t4 : Touch [] V3 V4 := by rw [hV4]; exact (Touch.refl [] V3).alloc _
  have hlt3 := hrt.rb_lt
  have HS4 := Lib.hid (show V4.heap.size = V3.heap.size + 1 by rw [hV4]; simp)
  have Z10 := Lib.hid (show V4.heap[V3.heap.size]? = some (.cells #[.pointer (some ⟨V2.heap.size, 0, none⟩)] 120 (0, 0)) by rw [hV4]; exact box_at V3 _)
  have DU := Lib.hid ((DuoAt.new TA.out T01.out T12.out hrt t3).kept t4 (by simp))
  have T24 := Lib.hid (t3.trans t4 (by simp))
  have Z94 := Lib.hid (touch_box T24.out Z9.out (by simp))
  clear hrt t3 t4
  go_upto_region 3 with (fail)
  rw [← hV4]
  clear hV4
  obtain ⟨p9, _⟩ := one_cells Z94.out
  go_wp2_with fail
  refine (begun_calls _).mono ?_
  rintro e V5 ⟨rfl, t5⟩
  have DU5 := Lib.hid (DU.out.kept t5 (by simp))
  have Z95 := Lib.hid (touch_box t5 Z94.out (by simp))
  have Z105 := Lib.hid (touch_box t5 Z10.out (by simp))
  have T05 := Lib.hid ((((TV.out.trans T01.out (by simp)).trans T12.out (by simp)).trans T24.out (by simp)).trans t5 (by simp))
  have TV5 := Lib.hid ((((T01.out).trans T12.out (by simp)).trans T24.out (by simp)).trans t5 (by simp))
  have Z65 := Lib.hid (touch_box TV5.out Z6.out (by simp))
  have Z75 := Lib.hid (touch_box TV5.out Z7.out (by simp))
  have Z85 := Lib.hid (touch_box TV5.out Z8.out (by simp))
  have h45 := t5.size
  clear t5 DU Z94 Z10 TV Z6 Z7 Z8 T24 T12 T01 TA TV5 p9
  obtain ⟨p9, _⟩ := one_cells Z95.out
  obtain ⟨q0, q1, _⟩ := two_cells Z65.out
  go_wp2_with fail
  refine (within_calls V0.heap.size za zm V5).mono ?_
  rintro e V6 ⟨rfl, hsq, t6⟩
  have SQ := Lib.hid hsq
  have T56 := Lib.hid t6
  clear hsq t6 p9 q0 q1
  obtain ⟨p9, _⟩ := one_cells (touch_box T56.out Z95.out (by simp))
  unfold seqV
  go_upto_if 31 with (fail)
  go_cut [11] from 31 to 33 (fun v11 wc => ∃ (B a0 : Nat) (m0 : Int), v11 = seqV B ∧ V5.heap.size ≤ B ∧ a0 < 4294967296 ∧ Hid (SeqAt wc B V0.heap.size a0 m0) ∧ Hid (Touch [] V5 wc) ∧ Hid (all = true → a0 = 0 ∧ m0 = 0) ∧ Hid (all = false → a0 = za ∧ m0 = zm))
  case first =>
    cases all
    · go_wp2
      go_meet
      case rel => exact ⟨_, za, zm, rfl, Nat.le_refl _, hza, SQ, T56, Lib.hid (by simp), Lib.hid (by simp)⟩
    · go_wp2_with fail
      refine (all_calls V0.heap.size V6).mono ?_
      rintro e V7 ⟨rfl, hsq, t7⟩
      have SQ7 := Lib.hid hsq
      have T57 := Lib.hid (T56.out.trans t7 (by simp))
      clear hsq t7
      go_wp2
      go_meet
      case rel => exact ⟨_, 0, 0, rfl, T56.out.size, by decide, SQ7, T57, Lib.hid (by simp), Lib.hid (by simp)⟩
  case rest =>
  obtain ⟨B, a0, m0, rfl, hB5, ha0, hSQ, hT, HA1, HA2⟩ := hcut
  obtain ⟨Wb, hWb⟩ : ∃ Wb : World, Wb = wc := ⟨_, rfl⟩
  rw [← hWb] at hSQ hT ⊢
  clear hWb SQ T56 p9
  obtain ⟨C, hC⟩ : ∃ C : AmC, C = ⟨w.heap.size, V0.heap.size, V2.heap.size, V1.heap.size, V3.heap.size, B, Wb.heap.size, za, zm, a0, m0, A3, n3, cap3⟩ := ⟨_, rfl⟩
  have HC := Lib.hid hC
  have hCok : C.ok w := by
    have e1 := HSV.out
    have e2 := HS2.out
    have e3 := HS4.out
    have e4 := hSQ.out.lt
    rw [hC]
    exact ⟨rfl, by simp only; omega, by simp only; omega, by simp only; omega, by simp only; omega, by simp only; omega, by simp only; omega⟩
  have OK := Lib.hid hCok
  have AT := Lib.hid (show AmAt w Wb C ⟨V0.heap.size, V2.heap.size, .slice none 0 0, .nil, [V0.heap.size], 0⟩ by
    rw [hC]
    exact ⟨DU5.out.kept hT.out (by simp), rfl, rfl, by simp [Duo.foot, rfoot, Value.ownBlock], touch_box hT.out Z65.out (by simp), touch_box hT.out Z75.out (by simp), touch_box hT.out Z85.out (by simp), touch_box hT.out Z95.out (by simp), touch_box hT.out Z105.out (by simp), hSQ.out, T05.out.trans hT.out (by simp)⟩)
  have HN := Lib.hid (show C.N = Wb.heap.size by rw [hC])
  have g1 : V0.heap.size = C.tb := by rw [hC]
  have g2 : V2.heap.size = C.rb := by rw [hC]
  have g3 : V1.heap.size = C.B9 := by rw [hC]
  have g4 : V3.heap.size = C.B10 := by rw [hC]
  have g5 : B = C.B := by rw [hC]
  have g6 : za = C.za := by rw [hC]
  have g7 : zm = C.zm := by rw [hC]
  have g8 : a0 = C.a0 := by rw [hC]
  have g9 : m0 = C.m0 := by rw [hC]
  have g10 : A3 = C.A3 := by rw [hC]
  have g11 : n3 = C.n3 := by rw [hC]
  have g12 : cap3 = C.cap3 := by rw [hC]
  have g13 : w.heap.size = C.b6 := by rw [hC]
  clear hC HC hCok DU5 Z65 Z75 Z85 Z95 Z105 T05 hT hSQ hlt1 hlt3 HSV HS2 HS4 h45 hB5 Z9
  rw [g1, g2, g3, g4, g13]
  rw [g1, g2] at AT
  subst g5 g6 g7 g8 g9 g10 g11 g12
  have G13 := Lib.hid g13
  clear g1 g2 g3 g4 g13
  obtain ⟨P0, hP0⟩ : ∃ P0 : Duo, P0 = ⟨C.tb, C.rb, .slice none 0 0, .nil, [C.tb], 0⟩ := ⟨_, rfl⟩
  rw [← hP0] at AT
  clear hP0
  go_wp2
  go_loopw [12] (fun v12 wr => ∃ (i : Nat) (P : Duo), v12 = .int .i64 i ∧ i ≤ n0 ∧ Hid (AmAt w wr C P) ∧ Hid (Wb.heap.size ≤ wr.heap.size)) (fun v12 _ => n0 - (intOf v12).toNat)
  case atStart => exact ⟨0, P0, rfl, Nat.zero_le _, AT, Lib.hid (Nat.le_refl _)⟩
  case round =>
    clear AT
    obtain ⟨i, P, rfl, hi, hAT, hsz⟩ := hrel
    by_cases hlt : i < n0
    · have b1 : (i : Int) < (n0 : Int) := by omega
      obtain ⟨b, off, hA, hb, hc⟩ := (H0.out).at_ (by omega)
      have HA := Lib.hid hA
      clear hA
      obtain ⟨x, hx⟩ : ∃ x, l0[i]? = some x := ⟨_, List.getElem?_eq_getElem (by rw [H0.out.len]; omega)⟩
      have hwf := H0.out.wf _ (List.mem_of_getElem? hx)
      obtain ⟨m0, m1, m2, m3, m4, m5⟩ := hc i _ hx
      obtain ⟨kd, wh, a, m, aA, v⟩ := x
      obtain ⟨wf1, wf2, wf3, wf4⟩ := hwf
      dsimp only at m0 m1 m2 m3 m4 m5 wf1 wf2 wf3 wf4
      clear hc hx
      have ht := hAT.out.touch
      have m0 := cell_touch ht m0 (by simp)
      have m1 := cell_touch ht m1 (by simp)
      have m2 := cell_touch ht m2 (by simp)
      have m3 := cell_touch ht m3 (by simp)
      have m4 := cell_touch ht m4 (by simp)
      have m5 := cell_touch ht m5 (by simp)
      clear ht
      obtain ⟨p9, _⟩ := one_cells hAT.out.x9
      obtain ⟨p10, _⟩ := one_cells hAT.out.x10
      obtain rfl := HA.out
      by_cases hkd : kd = 1 ∨ kd = 2
      · have tz := (Touch.refl [] wr).drew
        have HC := Lib.hid (plays_A (wh := wh) (m := m) (v := v) wf3 wf4 (show kd = 1 ∨ kd = 2 ∨ kd = 4 by omega) (hAT.out.kept OK.out tz (by simp)).duo)
        rw [hAT.out.tb, hAT.out.rb] at HC
        unfold opV at HC
        have NB : Hid (b ∉ P.foot ∧ C.B9 ∉ P.foot ∧ C.B10 ∉ P.foot) := Lib.hid (by
          obtain ⟨o1, o2, o3, o4, o5, o6, o7⟩ := OK.out
          refine ⟨fun h => ?_, fun h => ?_, fun h => ?_⟩ <;> rcases hAT.out.foot _ h with e | e | e <;> omega)
        obtain ⟨r1, e1, e2⟩ : ∃ r1 : Bool, (kd == 1) = r1 ∧ (r1 = false → (kd == 2) = true) := ⟨_, rfl, fun h => by rw [beq_eq_false_iff_ne] at h; rw [beq_iff_eq]; rcases hkd with h1 | h1; exact absurd h1 h; exact h1⟩
        have E2 := Lib.hid e2
        clear hkd e2
        cases r1
        all_goals
          have e2 := E2.out
          simp only [Bool.true_eq_false, false_imp_iff, true_imp_iff] at e2
          go_upto_region 12 with (fail)
          go_region_held3 (fun w' => w'.cell? ⟨b, off + i * 6, none⟩ = some (.int .i64 kd) ∧ w'.cell? ⟨b, off + i * 6 + 1, none⟩ = some (.int .i64 wh) ∧ w'.cell? ⟨b, off + i * 6 + 2, none⟩ = some (.int .u32 a) ∧ w'.cell? ⟨b, off + i * 6 + 3, none⟩ = some (.int .i64 m) ∧ w'.cell? ⟨b, off + i * 6 + 4, none⟩ = some (.int .u32 aA) ∧ w'.cell? ⟨b, off + i * 6 + 5, none⟩ = some (.int .i64 v) ∧ w'.cell? ⟨C.B9, 0, none⟩ = some (.pointer (some ⟨C.tb, 0, none⟩)) ∧ w'.cell? ⟨C.B10, 0, none⟩ = some (.pointer (some ⟨C.rb, 0, none⟩)))
            (first | trivial | exact ⟨cell_touch ST.touch (cell_touch tz m0 (by simp)) NB.out.1, cell_touch ST.touch (cell_touch tz m1 (by simp)) NB.out.1, cell_touch ST.touch (cell_touch tz m2 (by simp)) NB.out.1, cell_touch ST.touch (cell_touch tz m3 (by simp)) NB.out.1, cell_touch ST.touch (cell_touch tz m4 (by simp)) NB.out.1, cell_touch ST.touch (cell_touch tz m5 (by simp)) NB.out.1, cell_touch ST.touch (cell_touch tz p9 (by simp)) NB.out.2.1, cell_touch ST.touch (cell_touch tz p10 (by simp)) NB.out.2.2⟩)
            ((go_at_call 60; refine HC.out.mono ?_; rintro e w5 ⟨rfl, P', ST⟩))
          all_goals
            have hs := hsz.out
            have hz := tz.size
            have hn := HN.out
            have AT' := Lib.hid ((hAT.out.kept OK.out tz (by simp)).step OK.out (by omega) ST)
            have SZ := Lib.hid (show Wb.heap.size ≤ w5.heap.size from Nat.le_trans hs (Nat.le_trans hz ST.touch.size))
            clear ST m0 m1 m2 m3 m4 m5 p9 p10 hs hz hn tz
            go_wp2
            go_roundw
            case rel => exact ⟨i + 1, P', by go_num, by omega, AT', SZ⟩
            case measure => simp [intOf]; omega
      · have e1 : (kd == 1) = false := by rw [beq_eq_false_iff_ne]; exact fun h => hkd (.inl h)
        have e2 : (kd == 2) = false := by rw [beq_eq_false_iff_ne]; exact fun h => hkd (.inr h)
        clear hkd
        go_wp2
        go_roundw
        case rel => exact ⟨i + 1, P, by go_num, by omega, hAT, hsz⟩
        case measure => simp [intOf]; omega
    · have b1 : ¬ (i : Int) < (n0 : Int) := by omega
      obtain ⟨Wd, hWd⟩ : ∃ Wd : World, Wd = wr := ⟨_, rfl⟩
      rw [← hWd] at hAT hsz ⊢
      clear hWd hlt
      have hnil := seq_some Wd (.func 46) #[] #[.pointer (some ⟨C.B + 1, 0, none⟩), .pointer (some ⟨C.B, 0, none⟩)]
      unfold seqV
      go_wp2_with fail
      clear hnil
      have hlen0 : C.N ≤ Wd.heap.size := by have := HN.out; have := hsz.out; omega
      refine wp_loop_ghost (fun n a' W => ∃ (rd : Nat) (Ds : List Nat) (P : Duo), (∃ u, a' = FrameA A0 n0 cap0 all C rd Ds u) ∧ rd + n = 2 ∧ Hid (AmAt w W C P) ∧ Hid (C.N ≤ W.heap.size) ∧ Hid (Ds.Nodup) ∧ Hid (∀ D ∈ Ds, W.heap[D]? = some (.deferred (some []))) ∧ Hid (∀ D ∈ Ds, w.heap.size ≤ D)) 2
        ⟨0, [], P, frame_a rfl, rfl, hAT, Lib.hid hlen0, Lib.hid (by simp), Lib.hid (by simp), Lib.hid (by simp)⟩ ?_
      clear hAT hsz hlen0
      rintro n ar W ⟨rd, Ds, P, ⟨u, rfl⟩, hn, hAT, hNs, hDn, hDd, hDg⟩
      unfold FrameA
      by_cases hrd : rd < 2
      · have hrd2 : (rd : Int) < 2 := by omega
        have FEW := Lib.hid (few_duo hAT.out.duo)
        have HLEN := Lib.hid hAT.out.duo.a.len
        have HOK := Lib.hid hAT.out.duo.a.ok
        have RB := Lib.hid (hAT.out.rb ▸ hAT.out.duo.b : RefT W C.rb P.V (ents P.t))
        have hL4 : (ents P.t).length < 4000000000000 := by rw [← HLEN.out]; have := FEW.out; omega
        obtain ⟨p10, _⟩ := one_cells hAT.out.x10
        obtain ⟨q0, q1, _⟩ := two_cells hAT.out.x6
        go_wp2_with fail
        refine (rwithin_calls RB.out C.za C.zm hza hL4).mono ?_
        rintro e W1 ⟨A1, c1, rfl, hV1, t1, hown1⟩
        obtain ⟨W2, hW2⟩ : ∃ W2 : World, W2 = W1.alloc (.cells #[.slice A1 (insideR (ents P.t) C.za C.zm).length c1] 131) := ⟨_, rfl⟩
        have t2 : Touch [] W1 W2 := by rw [hW2]; exact (Touch.refl [] W1).alloc _
        have X14 := Lib.hid (show W2.heap[W1.heap.size]? = some (.cells #[.slice A1 (insideR (ents P.t) C.za C.zm).length c1] 131 (0, 0)) by rw [hW2]; exact box_at W1 _)
        have V14 := Lib.hid (hV1.kept t2 (by simp))
        have OW1 := Lib.hid (fun b hb => show W.heap.size ≤ b ∧ b ≠ W1.heap.size from ⟨hown1 b hb, by have := hV1.lt b hb; omega⟩)
        have T2 := Lib.hid (t1.trans t2 (by simp))
        have h01 := t1.size
        have p10b := cell_touch T2.out p10 (by simp)
        clear hV1 hown1 t1 t2 p10 q0 q1
        go_upto_if 70 with (fail)
        rw [← hW2]
        clear hW2
        obtain ⟨B14, hB14⟩ : ∃ B14, B14 = W1.heap.size := ⟨_, rfl⟩
        rw [← hB14] at X14 OW1 h01 ⊢
        clear hB14
        go_cut [] from 70 to 72 (fun wc => ∃ (A14 : Option Addr) (c14 : Nat) (L : List Ent), Hid (insideL P.t C.a0 C.m0 = L) ∧ L.length < 4000000000000 ∧ Hid (wc.heap[B14]? = some (.cells #[.slice A14 L.length c14] 131 (0, 0))) ∧ Hid (VRow wc 135 3 (.slice A14 L.length c14) L.length (flatE L)) ∧ Hid (∀ b, (Value.slice A14 L.length c14).ownBlock = some b → W.heap.size ≤ b ∧ b ≠ B14) ∧ Hid (Touch [] W wc))
        case first =>
          cases all
          · have EZ := Lib.hid (HA2.out rfl)
            go_wp2
            go_meet
            case rel =>
              obtain ⟨e1, e2⟩ := EZ.out
              refine ⟨A1, c1, insideR (ents P.t) C.za C.zm, Lib.hid (by rw [e1, e2, insideL_R HOK.out]), ?_, X14, V14, OW1, T2⟩
              refine Nat.lt_of_le_of_lt ?_ hL4
              unfold insideR
              split
              · exact List.length_filter_le _ _
              · exact Nat.zero_le _
          · have EZ := Lib.hid (HA1.out rfl)
            go_wp2_with fail
            refine (rall_calls (RB.out.kept T2.out (by simp)) hL4).mono ?_
            rintro e W3 ⟨A2, c2, rfl, hV2, t3, hown2⟩
            obtain ⟨b14, f14⟩ := one_cells (touch_box t3 X14.out (by simp))
            have X143 := Lib.hid (touch_box t3 X14.out (by simp))
            have V2' := Lib.hid hV2
            have OW2 := Lib.hid hown2
            have T3 := Lib.hid (T2.out.trans t3 (by simp))
            clear hV2 hown2 t3
            go_wp2
            go_meet
            case rel =>
              obtain ⟨e1, e2⟩ := EZ.out
              have hlt := (Array.getElem?_eq_some_iff.1 X14.out).1
              have tS : Touch [B14] W3 (W3.setCell ⟨B14, 0, none⟩ (.slice A2 (ents P.t).length c2)) := (Touch.refl _ W3).setCell _ _ (.inl (by simp))
              refine ⟨A2, c2, ents P.t, Lib.hid (by rw [e1, e2, insideL_all HOK.out]), hL4, Lib.hid (by simpa using box_set (o := 0) X143.out (.slice A2 (ents P.t).length c2)), Lib.hid (V2'.out.kept tS (fun k hk => by have := OW2.out k hk; simp; omega)), Lib.hid (fun b hb => ?_), Lib.hid (T3.out.trans tS (fun x hx => .inr (by simp at hx; omega)))⟩
              have := OW2.out b hb
              have := T2.out.size
              omega
        case rest =>
        obtain ⟨A14, c14, L, HIL, hLl, X14, V14, OW, TW⟩ := hcut
        obtain ⟨W0, hW0⟩ : ∃ W0 : World, W0 = wc.alloc (.cells #[.int .i64 0] 3) := ⟨_, rfl⟩
        have t0 : Touch [] wc W0 := by rw [hW0]; exact (Touch.refl [] wc).alloc _
        have X15 := Lib.hid (show W0.heap[wc.heap.size]? = some (.cells #[.int .i64 (([] : List Ent).length : Int)] 3 (0, 0)) by rw [hW0]; exact box_at wc _)
        have hWc := TW.out.size
        have hltF := hAT.out.duo.lt
        have AI : Hid (AmI w W0 C B14 wc.heap.size c14 A14 L Ds [] W0) := Lib.hid
          ⟨⟨P, hAT.out.kept OK.out (TW.out.trans t0 (by simp)) (by simp), fun h => by have := hltF _ h; omega, fun h => by have := hltF _ h; omega, fun b hb h => by have := hltF _ h; have := OW.out b hb; omega⟩,
            X15.out, List.nil_prefix, touch_box t0 X14.out (by simp), V14.out.kept t0 (by simp), fun D hD => touch_box (TW.out.trans t0 (by simp)) (hDd.out D hD) (by simp), Nat.le_refl _⟩
        have HIL2 := Lib.hid HIL.out
        have hSeq := Lib.hid ((hAT.out.kept OK.out (TW.out.trans t0 (by simp)) (by simp)).seq)
        have hTr := Lib.hid ((hAT.out.kept OK.out (TW.out.trans t0 (by simp)) (by simp)).duo.a)
        have hTB := hAT.out.tb
        rw [← hTB] at hSeq
        have hND : Hid (∀ D ∈ Ds, D < W0.heap.size) := Lib.hid (fun D hD => by have := (Array.getElem?_eq_some_iff.1 (hDd.out D hD)).1; have := t0.size; omega)
        have hN0 : C.N ≤ W0.heap.size := by have := hNs.out; have := t0.size; omega
        have hWW : W.heap.size ≤ W0.heap.size := by have := t0.size; omega
        have hB15 := (Array.getElem?_eq_some_iff.1 X15.out).1
        have hB15N : C.N ≤ wc.heap.size := by have := hNs.out; omega
        have FEW2 := FEW.out
        clear hltF hTB t0 hWc
        go_wp2_with fail
        rw [← hW0]
        clear hW0 X14 V14 OW TW X15
        obtain ⟨B15, hB⟩ : ∃ B15, B15 = wc.heap.size := ⟨_, rfl⟩
        rw [← hB] at AI hB15 hB15N ⊢
        clear hB
        refine wp_range2 74 75 16 17 (by rfl) hTr.out (by omega) ha0 hSeq.out HIL2.out (AmI w W0 C B14 B15 c14 A14 L Ds) (fun c pre _ => c = .ret ∧ ¬ pre <+: L) (AmI.own OK.out hN0 hND.out) (fun c _ _ _ _ h _ _ => h)
          AI.out ?assign ?body (fun pre W o h => h.alloc OK.out o) (fun pre W h => h.size) ?done ?stop
        case assign =>
          intro l pre x W' K hI hK
          simp only [encE]
          gi_wp2
          exact hK
        case body =>
          intro l pre x Bx W' hl hr hI hBx hx hlen
          simp only [frameB, List.setIfInBounds_toArray, List.set_cons_succ, List.set_cons_zero]
          obtain ⟨⟨P1, hA1, hn14, hn15, hn1r⟩, hnn, hpf, hx14, hrow, hds, hsz'⟩ := hI
          obtain ⟨⟨ep, ev⟩, hL⟩ : ∃ e, L[pre.length]? = some e := ⟨_, List.getElem?_eq_getElem hlen⟩
          obtain ⟨gg, cc, hsl, hgl, hc⟩ := hrow.at_ (by omega)
          simp only [Value.slice.injEq, true_and] at hsl
          obtain ⟨hA, hcc⟩ := hsl
          obtain ⟨k0, k1, k2⟩ := flatE_get L _ _ hL
          have m0 := hc _ _ k0
          have m1 := hc _ _ k1
          have m2 := hc _ _ k2
          dsimp only at m0 m1 m2
          obtain ⟨p15, g15⟩ := one_cells hnn
          obtain ⟨p14, _⟩ := one_cells hx14
          obtain ⟨p8, g8⟩ := one_cells hA1.x8
          obtain ⟨z0, z1, _⟩ := two_cells hx
          have hnx := pre_next (x := x) hpf hL
          have A1 := Lib.hid hA1
          have N14 := Lib.hid hn14
          have N15 := Lib.hid hn15
          have N1R := Lib.hid hn1r
          have NN := Lib.hid hnn
          have XX14 := Lib.hid hx14
          have ROW := Lib.hid hrow
          have DS := Lib.hid hds
          have hPL : (pre.length : Int) < (L.length : Int) := by omega
          have hge : decide ((L.length : Int) ≤ (pre.length : Int)) = false := by rw [decide_eq_false_iff_not]; omega
          have hge2 : decide (L.length ≤ pre.length) = false := by rw [decide_eq_false_iff_not]; omega
          have n15 := fun u : Near W' => u.cell p15
          have n14 := fun u : Near W' => u.cell p14
          have nz0 := fun u : Near W' => u.cell z0
          have nz1 := fun u : Near W' => u.cell z1
          have nm0 := fun u : Near W' => u.cell m0
          have nm1 := fun u : Near W' => u.cell m1
          have nm2 := fun u : Near W' => u.cell m2
          have P8 := Lib.hid p8
          have G8 := Lib.hid g8
          have P15 := Lib.hid p15
          have G15 := Lib.hid g15
          subst hA hcc
          clear hA1 hn14 hn15 hn1r hnn hpf hx14 hrow hds hc k0 k1 k2 hL p15 g15 p14 p8 g8 z0 z1 m0 m1 m2 hx hl
          by_cases hp : x.1 = ep
          · have hneq := fun w => px_neq x.1.a x.1.n ep.a ep.n true (px_beq hp) w
            by_cases hv : x.2 = ev
            · have hv1 : (x.2 == ev) = true := by rw [beq_iff_eq]; exact hv
              have hv2 : (x.2 != ev) = false := by rw [bne, hv1]; rfl
              have hxe : x = (ep, ev) := by rw [← hp, ← hv]
              have HX := Lib.hid (hnx.2 hxe)
              clear hxe hnx hp hv
              gi_wp2
              refine wpIn_round_near (by kernel_rfl) (by kernel_rfl) (by kernel_rfl) ?_
              repeat (go_big_quiet_step (fail))
              refine wpQuiet_nil ?_
              rintro _ ⟨u2, rfl⟩
              clear n15 n14 nz0 nz1 nm0 nm1 nm2 hneq
              gi_wp2
              have TU := Lib.hid u2.near
              have AU := Lib.hid (A1.out.kept OK.out u2.near (by simp))
              obtain ⟨Wu, hWu⟩ : ∃ Wu : World, Wu = u2.w := ⟨_, rfl⟩
              rw [← hWu] at TU AU ⊢
              clear hWu u2
              have N15u := Lib.hid (touch_box TU.out NN.out (by simp))
              have hcl : (pre.length : Int) ≤ 4000000000000 := by omega
              gi_loopg [18] 3 (fun kq v18 wr => ∃ (j : Nat) (P2 : Duo), v18 = .int .i64 j ∧ j ≤ 3 ∧ 3 - j ≤ kq ∧ Hid (AmAt w wr C P2) ∧ Hid (∀ y ∈ P2.foot, y ∈ P1.foot ∨ W'.heap.size ≤ y) ∧ Hid (Touch P1.foot W' wr))
              case atStart => exact ⟨0, P1, rfl, by omega, by omega, AU, Lib.hid (fun y hy => .inl hy), Lib.hid (TU.out.mono (by simp))⟩
              case round =>
                obtain ⟨j, P2, rfl, hj, hjq, hA2, hF2, hT2⟩ := hrel
                have N15r := Lib.hid (touch_box hT2.out NN.out N15.out)
                obtain ⟨p15, g15⟩ := one_cells N15r.out
                obtain ⟨p7, _⟩ := one_cells hA2.out.x7
                by_cases hj3 : j < 3
                · have j3 : (j : Int) < 3 := by omega
                  have j3d : decide ((j : Int) < 3) = true := by rw [decide_eq_true_eq]; omega
                  obtain ⟨ix, hix⟩ : ∃ ix : Nat, ix = 3 * pre.length + j := ⟨_, rfl⟩
                  have hixI : 3 * (pre.length : Int) + (j : Int) = (ix : Int) := by omega
                  have HIX := Lib.hid hix
                  clear hix
                  by_cases hlx : ix < C.n3
                  · have lx : (ix : Int) < (C.n3 : Int) := by omega
                    have lxd : decide ((ix : Int) < (C.n3 : Int)) = true := by rw [decide_eq_true_eq]; omega
                    have lx2 : 3 * (pre.length : Int) + (j : Int) < (C.n3 : Int) := by omega
                    obtain ⟨b, off, hA3, hb, hc⟩ := (H3.out.kept hA2.out.touch).at_ (by omega)
                    obtain ⟨y, hy⟩ : ∃ y, l3[ix]? = some y := ⟨_, List.getElem?_eq_getElem (by rw [H3.out.len]; omega)⟩
                    have hwf := H3.out.wf _ (List.mem_of_getElem? hy)
                    obtain ⟨m0, m1, m2, m3, m4, m5⟩ := hc ix _ hy
                    obtain ⟨kd, wh, a, m, aA, v⟩ := y
                    obtain ⟨wf1, wf2, wf3, wf4⟩ := hwf
                    dsimp only at m0 m1 m2 m3 m4 m5 wf1 wf2 wf3 wf4
                    rw [hA3] at p7
                    have HA3 := Lib.hid hA3
                    clear hc hy hb hA3
                    obtain ⟨p9, _⟩ := one_cells hA2.out.x9
                    obtain ⟨p10, _⟩ := one_cells hA2.out.x10
                    have toA : ∀ o, Touch [] wr (wr.alloc o) := fun o => (Touch.refl [] wr).alloc o
                    have p9o := fun o => cell_touch (toA o) p9 (by simp)
                    have p10o := fun o => cell_touch (toA o) p10 (by simp)
                    have hf60 : Fence.wide.fn 60 := trivial
                    by_cases hkd : kd = 1 ∨ kd = 2 ∨ kd = 4
                    · have HC := Lib.hid (fun n => (callsIn_wide (n := n).2 (plays_A (wh := wh) (m := m) (v := v) wf3 wf4 hkd (hA2.out.kept OK.out (toA (.cells (opC kd wh a m aA v) 127)) (by simp)).duo)).inRound l)
                      rw [hA2.out.tb, hA2.out.rb] at HC
                      unfold opV opC at HC
                      have HTO := Lib.hid (toA (.cells (opC kd wh a m aA v) 127))
                      unfold opC at HTO
                      obtain ⟨r1, r2, r4, e1, e2, e4, er⟩ : ∃ r1 r2 r4 : Bool, (kd == 1) = r1 ∧ (kd == 2) = r2 ∧ (kd == 4) = r4 ∧ (r1 || r2 || r4) = true := ⟨_, _, _, rfl, rfl, rfl, by rcases hkd with rfl | rfl | rfl <;> rfl⟩
                      clear hkd toA p9 p10
                      cases r1 <;> cases r2 <;> cases r4 <;> first | (exfalso; exact absurd er (by decide)) | skip
                      all_goals
                        clear er
                        gi_wp2_with (fail)
                        refine (HC.out _).mono ?_
                        rintro e w5 ⟨rfl, P3, ST⟩
                        have AT' := Lib.hid ((hA2.out.kept OK.out HTO.out (by simp)).step OK.out (by have h1 := hT2.out.size; have h2 := hsz'; have h3 := HTO.out.size; omega) ST)
                        have TT' := Lib.hid ((hT2.out.trans HTO.out (by simp)).trans ST.touch (fun y hy => hF2.out y hy))
                        have FF' : Hid (∀ y ∈ P3.foot, y ∈ P1.foot ∨ W'.heap.size ≤ y) := Lib.hid (fun y hy => by
                          rcases ST.foot y hy with h | h
                          · exact hF2.out y h
                          · exact .inr (Nat.le_trans hT2.out.size (Nat.le_trans HTO.out.size h)))
                        clear ST p9o p10o p15 p7 m0 m1 m2 m3 m4 m5
                        gi_wp2
                        gi_roundg (gk - 1)
                        case rel => exact ⟨j + 1, P3, by go_num, by omega, by omega, AT', FF', TT'⟩
                        case measure => omega
                    · have e1 : (kd == 1) = false := by rw [beq_eq_false_iff_ne]; exact fun h => hkd (.inl h)
                      have e2 : (kd == 2) = false := by rw [beq_eq_false_iff_ne]; exact fun h => hkd (.inr (.inl h))
                      have e4 : (kd == 4) = false := by rw [beq_eq_false_iff_ne]; exact fun h => hkd (.inr (.inr h))
                      have HTO := Lib.hid (toA (.cells (opC kd wh a m aA v) 127))
                      unfold opC at HTO
                      clear hkd toA p9 p10
                      gi_wp2
                      gi_roundg (gk - 1)
                      case rel => exact ⟨j + 1, P2, by go_num, by omega, by omega, Lib.hid (hA2.out.kept OK.out HTO.out (by simp)), hF2, Lib.hid (hT2.out.trans HTO.out (by simp))⟩
                      case measure => omega
                  · have lx : ¬ (ix : Int) < (C.n3 : Int) := by omega
                    have lxd : decide ((ix : Int) < (C.n3 : Int)) = false := by rw [decide_eq_false_iff_not]; omega
                    gi_wp2
                    exact am_round A1.out OK.out N14.out N15.out N1R.out NN.out XX14.out ROW.out DS.out hsz' hB15N hA2.out hF2.out hT2.out HX.out
                · have j3 : ¬ (j : Int) < 3 := by omega
                  have j3d : decide ((j : Int) < 3) = false := by rw [decide_eq_false_iff_not]; omega
                  gi_wp2
                  exact am_round A1.out OK.out N14.out N15.out N1R.out NN.out XX14.out ROW.out DS.out hsz' hB15N hA2.out hF2.out hT2.out HX.out
            · have hv1 : (x.2 == ev) = false := by rw [beq_eq_false_iff_ne]; exact hv
              have hv2 : (x.2 != ev) = true := by rw [bne, hv1]; rfl
              have HX : Hid (¬ pre ++ [x] <+: L) := Lib.hid (fun h => hv (by rw [hnx.1 h]))
              clear hnx hp hv
              gi_wp2
              refine wpIn_round_near (by kernel_rfl) (by kernel_rfl) (by kernel_rfl) ?_
              repeat (go_big_quiet_step (fail))
              refine wpQuiet_nil ?_
              rintro _ ⟨u2, rfl⟩
              have p8b := u2.cell P8.out
              have g8b := frozen_touch u2.near P8.out G8.out (by simp)
              clear n15 n14 nz0 nz1 nm0 nm1 nm2 hneq
              gi_wp2
              have tX : Touch [C.b6 + 1 + 1] W' (u2.w.setCell ⟨C.b6 + 1 + 1, 0, none⟩ (.bool false)) := (u2.near.mono (by simp)).setCell _ _ (.inl (by simp))
              exact ⟨keepsFrom_touch tX (fun y hy => by simp at hy; subst hy; exact ⟨_, _, _, A1.out.x8⟩), rfl, HX.out⟩
          · have hneq := fun w => px_neq x.1.a x.1.n ep.a ep.n false (px_bne hp) w
            have HX : Hid (¬ pre ++ [x] <+: L) := Lib.hid (fun h => hp (by rw [hnx.1 h]))
            clear hnx hp
            gi_wp2
            refine wpIn_round_near (by kernel_rfl) (by kernel_rfl) (by kernel_rfl) ?_
            repeat (go_big_quiet_step (fail))
            refine wpQuiet_nil ?_
            rintro _ ⟨u2, rfl⟩
            have p8b := u2.cell P8.out
            have g8b := frozen_touch u2.near P8.out G8.out (by simp)
            clear n15 n14 nz0 nz1 nm0 nm1 nm2 hneq
            gi_wp2
            have tX : Touch [C.b6 + 1 + 1] W' (u2.w.setCell ⟨C.b6 + 1 + 1, 0, none⟩ (.bool false)) := (u2.near.mono (by simp)).setCell _ _ (.inl (by simp))
            exact ⟨keepsFrom_touch tX (fun y hy => by simp at hy; subst hy; exact ⟨_, _, _, A1.out.x8⟩), rfl, HX.out⟩
        case done =>
          intro D V hD hI hK
          have HI := Lib.hid hI
          obtain ⟨p15, g15⟩ := one_cells hI.n
          obtain ⟨p14, g14⟩ := one_cells hI.x14
          have HK := Lib.hid hK
          clear hI hK
          unfold mark
          go_wp2
          obtain ⟨P', hAP, _⟩ := HI.out.ex
          rw [show ((rd : Int) + 1) = ((rd + 1 : Nat) : Int) by push_cast; rfl]
          refine ⟨n - 1, by omega, rd + 1, D :: Ds, P', frame_a rfl, by omega, Lib.hid hAP, Lib.hid (Nat.le_trans hN0 HI.out.size), Lib.hid (List.nodup_cons.2 ⟨fun hx => ?_, hDn.out⟩), Lib.hid (fun E hE => ?_), Lib.hid (fun E hE => ?_)⟩
          · have := hND.out D hx; omega
          · rcases List.mem_cons.1 hE with rfl | hE
            · exact HK.out
            · exact HI.out.ds E hE
          · rcases List.mem_cons.1 hE with rfl | hE
            · have := hAT.out.touch.size; omega
            · exact hDg.out E hE
        case stop =>
          rintro D c pre V hD hpre ⟨rfl, hn⟩ hK
          exact absurd hpre hn
      · have hrd2 : ¬ (rd : Int) < 2 := by omega
        have hrd3 : decide ((rd : Int) < 2) = false := by rw [decide_eq_false_iff_not]; omega
        have hb6 := G13.out
        obtain ⟨p8, g8⟩ := one_cells hAT.out.x8
        have X8 := Lib.hid hAT.out.x8
        have HB6 := Lib.hid hb6
        clear hb6 G13
        go_wp2
        have t8 : Touch [C.b6 + 1 + 1] W (W.setCell ⟨C.b6 + 1 + 1, 0, none⟩ (.bool true)) := (Touch.refl _ W).setCell _ _ (.inl (by simp))
        have b8 : (W.setCell ⟨C.b6 + 1 + 1, 0, none⟩ (.bool true)).heap[C.b6 + 1 + 1]? = some (.cells #[.bool true] 4 (0, 0)) := by simpa using box_set (o := 0) X8.out (.bool true)
        have hno : ∀ D ∈ Ds, D ≠ C.b6 + 1 + 1 := fun D hD e => by have := hDd.out D hD; rw [e, X8.out] at this; cases this
        refine leaves_marks Ds _ hDn.out (fun D hD => touch_box t8 (hDd.out D hD) (by simp; exact hno D hD)) (fun W' t' => ?_)
        have b8' := touch_box t' b8 (fun hx => hno _ hx rfl)
        obtain ⟨r8, _⟩ := one_cells b8'
        have hb6 := HB6.out
        refine ⟨.bool true, ?_, rfl, (hAT.out.touch.trans t8 (fun x hx => .inr (by simp at hx; omega))).trans t' (fun x hx => .inr (hDg.out x hx))⟩
        simp [results, Try.f39, go_sem, r8]
end Go.Proofs.Ytmklkdhpbehfeaa.Tri
