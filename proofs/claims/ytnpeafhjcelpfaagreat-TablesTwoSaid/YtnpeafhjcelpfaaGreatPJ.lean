/- The law: two kernels, their steps in turns; no condition. -/
import Derived.Test.YtnpeafhjcelpfaaGreatPI
namespace Go.Proofs.YtnpeafhjcelpfaaGreat.Tri
open Go.RowKit Go.Maps
set_option linter.unusedVariables false
set_option linter.unusedSimpArgs false
set_option maxRecDepth 100000

theorem range3 {w : World} {g o : Nat} {x y z : Value} (h0 : w.cell? ⟨g, o, none⟩ = some x) (h1 : w.cell? ⟨g, o + 1, none⟩ = some y) (h2 : w.cell? ⟨g, o + 2, none⟩ = some z) : w.rangeAt g o [x, y, z] := by
  intro j v hj
  match j with
  | 0 => cases hj; exact h0
  | 1 => cases hj; exact h1
  | 2 => cases hj; exact h2
  | j + 3 => simp at hj
theorem info40 : (Tryz.prog.info? 40).map (·.size) = some 3 := by kernel_rfl
set_option maxHeartbeats 32000000 in
theorem two_calls {w : World} (a0 a1 a2 c0 c1 c2 : Int) (A : Option Addr) (c : Nat) (l : List SOp) (B : Option Addr) (cb : Nat) (ts : List Bool) (hA : RdS w A l) (hn : l.length < 4611686018427387904) (hB : RdL w B ts) (hm : ts.length < 4611686018427387904) :
    Calls Tryz.prog 8 #[.agg #[.int .i64 a0, .int .i64 a1, .int .i64 a2], .agg #[.int .i64 c0, .int .i64 c1, .int .i64 c2], .slice A l.length c, .slice B ts.length cb] w (fun e w' => e = .returned (.bool true) ∧ Touch [] w w') := by
  obtain ⟨N, hN⟩ : ∃ N, N = l.length := ⟨_, rfl⟩
  obtain ⟨M, hM⟩ : ∃ M, M = ts.length := ⟨_, rfl⟩
  have HN := Lib.hid hN
  have HM := Lib.hid hM
  rw [← hN, ← hM]
  rw [← hN] at hn
  rw [← hM] at hm
  obtain ⟨W1, hW1⟩ : ∃ W1 : World, W1 = (w.alloc (.cells #[.int .i64 a0, .int .i64 a1, .int .i64 a2] 23)).alloc (.cells #[.int .i64 c0, .int .i64 c1, .int .i64 c2] 23) := ⟨_, rfl⟩
  have T1 := Lib.hid (show Touch [] w W1 by rw [hW1]; exact ((Touch.refl [] w).alloc _).alloc _)
  obtain ⟨b4, hb4⟩ : ∃ b4, b4 = w.heap.size := ⟨_, rfl⟩
  obtain ⟨b5, hb5⟩ : ∃ b5, b5 = b4 + 1 := ⟨_, rfl⟩
  have X1 := Lib.hid (show W1.heap[b4]? = some (.cells #[.int .i64 a0, .int .i64 a1, .int .i64 a2] 23 (0, 0)) by rw [hW1, hb4]; exact box_keep _ (box_at w _))
  have Y1 := Lib.hid (show W1.heap[b5]? = some (.cells #[.int .i64 c0, .int .i64 c1, .int .i64 c2] 23 (0, 0)) by rw [hW1, hb5, hb4]; exact box_at' _ _ _ (by simp))
  have HA := Lib.hid (hA.kept T1.out)
  have HB := Lib.hid (hB.kept T1.out)
  have HW1 := Lib.hid hW1
  have HB4 := Lib.hid hb4
  have HB5 := Lib.hid hb5
  clear hW1 hb4 hb5 hA hN hB hM
  obtain ⟨x0, x1, x2⟩ := th3 X1.out
  go_enter Tryz.func8, Tryz.ntmps8
  go_upto_region 1 with (fail)
  rw [← HB4.out, ← HB5.out, ← HW1.out]
  go_wp2_with fail
  refine (both_one a0 a1 a2).mono ?_
  rintro e w2 ⟨t2, hh⟩
  have T2 := Lib.hid t2
  clear x0 x1 x2 t2
  rcases hh with ⟨hc, rfl⟩ | ⟨hc, kb, rb, rfl, hD⟩
  · clear hc
    go_wp2_with fail
    refine first_calls.mono ?_
    rintro e w3 ⟨rfl, t3⟩
    have T3 := Lib.hid (T2.out.trans t3 (by simp))
    clear t3
    go_wp2
    go_ret
    exact ⟨rfl, T1.out.trans T3.out (by simp)⟩
  · have D2 := Lib.hid hD
    clear hc hD
    go_wp2_with fail
    refine first_calls.mono ?_
    rintro e w3 ⟨rfl, t3⟩
    have T3 := Lib.hid (T2.out.trans t3 (by simp))
    have D3 := Lib.hid (D2.out.kept t3)
    clear t3
    have HBG := Lib.hid (begins_calls B cb ts (HB.out.kept T3.out) (by rw [← HM.out]; exact hm))
    rw [← HM.out] at HBG
    go_wp2_with fail
    refine HBG.out.mono ?_
    rintro e w3' ⟨at_, rfl, hat, rfl⟩
    clear HBG
    go_wp2_with fail
    go_loopg [13] (N + 1) (fun kq v13 wr => ∃ (i : Nat), v13 = .int .i64 i ∧ i ≤ N ∧ N + 1 - i ≤ kq ∧ Hid (One W1 wr kb rb a0 a1 a2) ∧ Hid (Touch [] W1 wr))
    case atStart => exact ⟨0, rfl, Nat.zero_le _, by omega, D3, T3⟩
    case round =>
      obtain ⟨i, rfl, hi, hkq, hD, hT⟩ := hrel
      have hsplit : (i < N ∧ i < at_) ∨ ((i : Int) < (N : Int) ∧ ¬ (i : Int) < (at_ : Int)) ∨ ¬ (i : Int) < (N : Int) := by omega
      rcases hsplit with ⟨hlt, hlt2⟩ | hex
      · have b1 : (i : Int) < (N : Int) := by omega
        have b2 : (i : Int) < (at_ : Int) := by omega
        obtain ⟨x, hx⟩ : ∃ x, l[i]? = some x := ⟨l[i]'(by rw [← HN.out]; exact hlt), List.getElem?_eq_getElem _⟩
        obtain ⟨hst, g, p, hAe, m0, m1, m2⟩ := (HA.out.kept hT.out).at_ i x hx
        subst hAe
        have HP := Lib.hid (one_play hD.out hT.out x (HA.out.at_ i x hx).1)
        have HL := Lib.hid hlt
        clear hst hx hlt hlt2
        go_wp2_with fail
        refine HP.out.mono ?_
        rintro e w5 ⟨rfl, hd, ht⟩
        have D5 := Lib.hid hd
        have T5 := Lib.hid ht
        clear hd ht HP m0 m1 m2 b1 b2
        go_wp2
        have hlt := HL.out
        go_roundg (N - i)
        case rel => exact ⟨i + 1, by simp, by omega, by omega, D5, T5⟩
        case measure => omega
      · have ED := Lib.hid hD.out
        have ET := Lib.hid hT.out
        have YR := Lib.hid (touch_box hT.out Y1.out (by simp))
        clear hD hT hkq D2 T2 D3 T3
        rcases hex with ⟨b1, b2⟩ | b1
        all_goals
          obtain ⟨y0, y1, y2⟩ := th3 YR.out
          go_wp2_with fail
          refine (both_one c0 c1 c2).mono ?_
          rintro e w4 ⟨t4, hh⟩
          have T4w := Lib.hid t4
          have T4 := Lib.hid (ET.out.trans t4 (by simp))
          have D4 := Lib.hid (ED.out.kept t4)
          clear y0 y1 y2 t4
          rcases hh with ⟨hc, rfl⟩ | ⟨hc, kc, rc, rfl, hC⟩
          · have HP := Lib.hid (one_play D4.out T4.out dumpOp (dumpOp_ok _))
            clear hc
            unfold dumpOp at HP
            go_wp2_with fail
            refine HP.out.mono ?_
            rintro e w5 ⟨rfl, hd, ht⟩
            have T5 := Lib.hid ht
            clear hd ht HP
            go_wp2
            go_ret
            exact ⟨rfl, T1.out.trans T5.out (by simp)⟩
          · have F4 := Lib.hid (ED.out.four hC T4w.out ET.out)
            have HP := Lib.hid (four_play F4.out T4.out dumpOp (dumpOp_ok _))
            have HC := Lib.hid hc
            clear hc hC
            unfold dumpOp at HP
            go_wp2_with fail
            refine HP.out.mono ?_
            rintro e w5 ⟨rfl, hd, ht⟩
            have F5 := Lib.hid hd
            have T5 := Lib.hid ht
            clear hd ht HP F4 T4 D4 T4w ED ET YR
            go_wp2_with fail
            go_loopg [17] (N + 1) (fun kq v17 wr => ∃ (i : Nat), v17 = .int .i64 i ∧ i ≤ N + M ∧ N + 1 - i ≤ kq ∧ Hid (Four W1 wr kb rb kc rc a0 a1 a2 c0 c1 c2) ∧ Hid (Touch [] W1 wr))
            case atStart => exact ⟨at_, rfl, by omega, by omega, F5, T5⟩
            case round =>
              obtain ⟨i, rfl, hi, hkq, hD, hT⟩ := hrel
              clear F5 T5
              by_cases hlt : i < N
              · have b3 : (i : Int) < (N : Int) := by omega
                obtain ⟨x, hx⟩ : ∃ x, l[i]? = some x := ⟨l[i]'(by rw [← HN.out]; exact hlt), List.getElem?_eq_getElem _⟩
                obtain ⟨hst, g, p, hAe, m0, m1, m2⟩ := (HA.out.kept hT.out).at_ i x hx
                subst hAe
                have HST := Lib.hid (HA.out.at_ i x hx).1
                have HX := Lib.hid hx
                have R3 := Lib.hid (range3 m0 m1 m2)
                have HL := Lib.hid hlt
                clear hst hx hlt
                have hs : (¬ (i : Int) < (M : Int)) ∨ (i : Int) < (M : Int) := by omega
                rcases hs with b4' | b4'
                · have HP := Lib.hid (four_play hD.out hT.out x HST.out)
                  go_wp2_with (first
                    | (refine wpList_load_want (by rfl) 40 (.tmp 144) (by rfl) g (p + i * 3) (by rfl) _ _ R3.out Tryz.underlying40 rfl info40 ?_)
                    | fail)
                  refine HP.out.mono ?_
                  rintro e w6 ⟨rfl, hd, ht⟩
                  have D6 := Lib.hid hd
                  have T6 := Lib.hid ht
                  clear hd ht HP m0 m1 m2 R3 b4'
                  go_wp2
                  have hlt := HL.out
                  go_roundg (N - i)
                  case rel => exact ⟨i + 1, by simp, by omega, by omega, D6, T6⟩
                  case measure => omega
                · obtain ⟨y, hy⟩ : ∃ y, ts[i]? = some y := ⟨ts[i]'(by rw [← HM.out]; omega), List.getElem?_eq_getElem _⟩
                  obtain ⟨gb, pb, hBe, mb⟩ := (HB.out.kept hT.out).at_ i y hy
                  subst hBe
                  clear hy
                  cases y with
                  | false =>
                    have HP := Lib.hid (four_play hD.out hT.out x HST.out)
                    go_wp2_with (first
                      | (refine wpList_load_want (by rfl) 40 (.tmp 144) (by rfl) g (p + i * 3) (by rfl) _ _ R3.out Tryz.underlying40 rfl info40 ?_)
                      | fail)
                    refine HP.out.mono ?_
                    rintro e w6 ⟨rfl, hd, ht⟩
                    have D6 := Lib.hid hd
                    have T6 := Lib.hid ht
                    clear hd ht HP m0 m1 m2 R3 b4' mb
                    go_wp2
                    have hlt := HL.out
                    go_roundg (N - i)
                    case rel => exact ⟨i + 1, by simp, by omega, by omega, D6, T6⟩
                    case measure => omega
                  | true =>
                    have HP := Lib.hid (four_play2 hD.out hT.out x HST.out)
                    go_wp2_with (first
                      | (refine wpList_load_want (by rfl) 40 (.tmp 105) (by rfl) g (p + i * 3) (by rfl) _ _ R3.out Tryz.underlying40 rfl info40 ?_)
                      | fail)
                    refine HP.out.mono ?_
                    rintro e w6 ⟨rfl, hd, ht⟩
                    have D6 := Lib.hid hd
                    have T6 := Lib.hid ht
                    have Y6 := Lib.hid (touch_box ht Y1.out (by simp))
                    clear hd ht HP m0 m1 m2 R3 b4' mb hD hT
                    obtain ⟨y0, y1, y2⟩ := th3 Y6.out
                    go_wp2_with fail
                    refine (both_one c0 c1 c2).mono ?_
                    rintro e w7 ⟨t7, hh⟩
                    have T7w := Lib.hid t7
                    have T7 := Lib.hid (T6.out.trans t7 (by simp))
                    clear y0 y1 y2 t7
                    rcases hh with ⟨hc, _⟩ | ⟨hc, kd, rd, rfl, hC⟩
                    · exact absurd HC.out hc
                    · obtain ⟨hst, g, p, hAe, m0, m1, m2⟩ := (HA.out.kept T7.out).at_ i x HX.out
                      cases hAe
                      have R3 := Lib.hid (range3 m0 m1 m2)
                      have HP := Lib.hid (one_play hC T7w.out x (HST.out.kept T6.out))
                      clear hc hC hst
                      go_wp2_with (first
                        | (refine wpList_load_want (by rfl) 40 (.tmp 132) (by rfl) g (p + i * 3) (by rfl) _ _ R3.out Tryz.underlying40 rfl info40 ?_)
                        | fail)
                      refine HP.out.mono ?_
                      rintro e w8 ⟨rfl, hd, ht⟩
                      have D8 := Lib.hid (D6.out.kept ht)
                      have T8 := Lib.hid (T6.out.trans ht (by simp))
                      clear hd ht HP m0 m1 m2 R3
                      go_wp2
                      have hlt := HL.out
                      go_roundg (N - i)
                      case rel => exact ⟨i + 1, by simp, by omega, by omega, D8, T8⟩
                      case measure => omega
              · have b3 : ¬ (i : Int) < (N : Int) := by omega
                have HP := Lib.hid (four_play hD.out hT.out dumpOp (dumpOp_ok _))
                unfold dumpOp at HP
                go_wp2_with fail
                refine HP.out.mono ?_
                rintro e w6 ⟨rfl, hd, ht⟩
                have HQ := Lib.hid (four_play2 hd ht dumpOp (dumpOp_ok _))
                unfold dumpOp at HQ
                clear hd ht HP hD hT
                go_wp2_with fail
                refine HQ.out.mono ?_
                rintro e w7 ⟨rfl, hd, ht⟩
                have T7 := Lib.hid ht
                clear hd ht HQ
                go_wp2
                go_ret
                exact ⟨rfl, T1.out.trans T7.out (by simp)⟩
end Go.Proofs.YtnpeafhjcelpfaaGreat.Tri
