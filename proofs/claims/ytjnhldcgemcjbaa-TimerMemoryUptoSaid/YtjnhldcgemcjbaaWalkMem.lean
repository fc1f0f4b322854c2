/- The walk of TimerMemory; no condition. -/
import Derived.Test.YtjnhldcgemcjbaaBk
import Derived.Test.YtjnhldcgemcjbaaWalkUnt
namespace Go.Proofs.Ytjnhldcgemcjbaa.Tm
open Go.RowKit Go.Maps
set_option linter.unusedVariables false

set_option maxHeartbeats 16000000 in
set_option maxRecDepth 100000 in
theorem mem_calls {w : World} {A0 A1 : Option Addr} {n0 n1 cap0 cap1 : Nat} {l0 : List Pr} {l1 : List Int} (h0 : RdPr w A0 n0 l0) (h1 : RdI w A1 n1 l1) (hs0 : n0 ≤ 1048576) (hs1 : n1 ≤ 1048576) :
    Calls Try.prog 4 #[.slice A0 n0 cap0, .slice A1 n1 cap1] w fun e w' => e = .returned (.bool true) ∧ Touch [] w w' := by
  have H0 := Lib.hid h0
  have H1 := Lib.hid h1
  clear h0 h1
  go_enter Try.func4, Try.ntmps4
  go_wp2_with fail
  refine (begun_calls w).mono ?_
  rintro e wb ⟨rfl, tb0⟩
  have HTB := Lib.hid tb0
  clear tb0
  go_wp2_with fail
  refine (newE_calls wb 65536 (by omega) (by omega)).mono ?_
  rintro e wa ⟨tb, s, rfl, S, hT, ht, hnew, hz, hv⟩
  have HTA := Lib.hid (HTB.out.trans ht (by simp))
  have HT := Lib.hid hT
  have HN : Hid (∀ b ∈ S, w.heap.size ≤ b) := Lib.hid (fun b hb => Nat.le_trans HTB.out.size (hnew b hb))
  have HV := Lib.hid hv
  clear hT ht hnew hv hz
  go_wp2_with fail
  refine (unt_calls (cap0 := cap0) (cap1 := cap1) (H0.out.kept HTA.out) (H1.out.kept HTA.out) hs0 hs1).mono ?_
  rintro e wu ⟨rfl, tu⟩
  have HTU := Lib.hid (HTA.out.trans tu (by simp))
  have HT2 := Lib.hid (HT.out.kept tu (by simp))
  clear tu HT HTA HTB
  go_wp2
  go_loopw [9, 10] (fun v9 v10 wr => ∃ (k : Nat) (S : List Nat) (s : St) (B : List Bn), v10 = .int .i64 k ∧ k ≤ n1 ∧ Hid (Tim wr tb S 65536 s) ∧ Hid (Sub l0 s) ∧ Hid (∀ b ∈ S, w.heap.size ≤ b) ∧ Hid (Book w wr v9 B) ∧ Hid (B.length = 4 * k) ∧ Hid (Touch [] w wr)) (fun _ v10 _ => n1 - (intOf v10).toNat)
  case atStart => exact ⟨0, S, s, [], rfl, Nat.zero_le _, HT2, Lib.hid (fun y hy => by rw [HV.out] at hy; cases hy), HN, Lib.hid (Book.start _ _), Lib.hid rfl, HTU⟩
  case round =>
    clear HT2 HTU HN HV
    obtain ⟨k, S, s, B, rfl, hk, hT, hS, hN, hB, hBl, hTc⟩ := hrel
    by_cases hlt : k < n1
    · have b1 : (k : Int) < (n1 : Int) := by omega
      go_wp2
      go_loopw [11] (fun v11 wr => ∃ (i : Nat) (S : List Nat) (s : St), v11 = .int .i64 i ∧ i ≤ n0 ∧ Hid (Tim wr tb S 65536 s) ∧ Hid (Sub l0 s) ∧ Hid (∀ b ∈ S, w.heap.size ≤ b) ∧ Hid (Book w wr u9 B) ∧ Hid (Touch [] w wr)) (fun v11 _ => n0 - (intOf v11).toNat)
      case atStart => exact ⟨0, S, s, rfl, Nat.zero_le _, hT, hS, hN, hB, hTc⟩
      case round =>
        clear hT hS hN hB hTc
        obtain ⟨i, S, s, rfl, hi, hT, hS, hN, hG, hTc⟩ := hrel
        obtain ⟨wq, rfl⟩ : ∃ wq : World, wq = wr := ⟨_, rfl⟩
        go_upto_region 15 with (fail)
        go_cut [54] (fun v54 wc => wq = wc ∧ ∃ bb : Bool, v54 = .bool bb ∧ Hid (bb = true ↔ (i < n0 ∧ i < 300)))
        case first =>
          by_cases h1 : i < n0
          · have b2 : (i : Int) < (n0 : Int) := by omega
            by_cases h2 : i < 300
            · have b3 : (i : Int) < 300 := by omega
              go_wp2
              go_meet
              case rel => exact ⟨rfl, true, rfl, Lib.hid (by simp [h1, h2])⟩
            · have b3 : ¬ (i : Int) < 300 := by omega
              go_wp2
              go_meet
              case rel => exact ⟨rfl, false, rfl, Lib.hid (by simp [h1, h2])⟩
          · have b2 : ¬ (i : Int) < (n0 : Int) := by omega
            go_wp2
            go_meet
            case rel => exact ⟨rfl, false, rfl, Lib.hid (by simp [h1])⟩
        case rest =>
        obtain ⟨rfl, bb, rfl, hbb⟩ := hcut
        cases bb with
        | true =>
          have hin := hbb.out.1 rfl
          have b2 : (i : Int) < (n0 : Int) := by omega
          have b3 : (i : Int) < 300 := by omega
          have hR := H0.out.kept hTc.out
          obtain ⟨b, off, hA, hb, hc⟩ := hR.at_ (by omega)
          have HA := Lib.hid hA
          clear hA
          obtain ⟨⟨x0, x1⟩, hx⟩ : ∃ x, l0[i]? = some x := ⟨_, List.getElem?_eq_getElem (by rw [H0.out.len]; omega)⟩
          obtain ⟨m0, m1⟩ := hc i _ hx
          dsimp only at m0 m1
          have HX := Lib.hid hx
          have HWF := Lib.hid (H0.out.wf _ (List.mem_of_getElem? hx))
          have hsl := hS.out.len hT.out.ok.inv
          clear hR hc hx
          obtain rfl := HA.out
          go_wp2_with fail
          go_still_tail 11, (by kernel_rfl)
          change wpList _ _ _ _ _ (World.drew wq)
          go_wp2_with fail
          have hd : Touch [] wq wq.drew := (Touch.refl [] wq).drew
          refine (set_calls (hT.out.kept hd (by simp)) x0 x1 HWF.out.1 HWF.out.2).mono ?_
          rintro e w5 ⟨s', S', g, hh⟩
          have G := Lib.hid g
          have HD := Lib.hid hd
          clear g m0 m1 hd
          rcases hh with ⟨_, hx5, _⟩ | ⟨_, rfl, _, hv5⟩
          · omega
          have HV5 := Lib.hid hv5
          clear hv5
          go_wp2
          go_roundw
          case rel =>
            exact ⟨i + 1, S', s', by go_num, by omega, Lib.hid G.out.tim, Lib.hid (hS.out.set HX.out (by omega) HV5.out), Lib.hid (fun b hb => by
              rcases G.out.sub b hb with h | h
              · exact hN.out b h
              · have := hTc.out.size; have : wq.drew.heap.size = wq.heap.size := rfl; omega), Lib.hid ((hG.out.near HD.out).tim (hT.out.kept HD.out (by simp)) G.out.touch), Lib.hid ((hTc.out.trans HD.out (by simp)).trans G.out.touch (fun x hx => .inr (hN.out x hx)))⟩
          case measure => simp [intOf]; omega
        | false =>
          have hsl := hS.out.len hT.out.ok.inv
          obtain ⟨b, off, hA, hb, hc⟩ := (H1.out.kept hTc.out).at_ (by omega)
          have HA := Lib.hid hA
          clear hA
          obtain ⟨x0, hx⟩ : ∃ x, l1[k]? = some x := ⟨_, List.getElem?_eq_getElem (by rw [H1.out.len]; omega)⟩
          have m0 := hc k _ hx
          have HX := Lib.hid hx
          clear hc hx hi
          obtain rfl := HA.out
          go_wp2_with fail
          refine (tlen_calls hT.out).mono ?_
          rintro e w5 ⟨rfl, hw5⟩
          obtain rfl := hw5.symm
          go_wp2_with fail
          refine (due_calls hT.out x0).mono ?_
          rintro e w5 ⟨Va, la, s5, rfl, T5, t5, ra, D5⟩
          have hla : la.length ≤ 300 := by have := D5.len; omega
          have HS5 := Lib.hid (hS.out.due D5)
          have hlen5 : s5.hp.length + (la.map (·.1)).length = s.hp.length := by simpa using D5.len
          have HLV : Hid (∀ x ∈ la.map (·.1), wfi x ∧ val s5 x = none) := Lib.hid (fun x hx => by
            obtain ⟨p, hp, rfl⟩ := List.mem_map.1 hx
            exact ⟨(hT.out.wf (D5.mem p hp).1).1, by rw [D5.vals, if_pos hx]⟩)
          have MM := Lib.hid (Mem.start hG.out hT.out t5 T5 hTc.out (hTc.out.trans t5 (fun x hx => .inr (hN.out x hx))))
          generalize hLa : la.map (·.1) = La at ra hlen5 HLV
          have hLl : La.length ≤ 300 := by rw [← hLa]; simpa using hla
          obtain ⟨Aa, ca, hva⟩ := ra.form
          subst hva
          have RA := Lib.hid ra
          have h5 : s5.hp.length ≤ 300 := by omega
          have e1 : ((s5.hp.length : Int) != (s.hp.length : Int) - (La.length : Int)) = false := by rw [bne_eq_false_iff_eq]; omega
          clear T5 t5 ra D5 hLa hla hT hS hG hTc m0 hbb hlen5
          go_wp2_with fail
          refine (tlen_calls MM.out.tim).mono ?_
          rintro e w6 ⟨rfl, hw6⟩
          obtain rfl := hw6.symm
          go_wp2
          clear e1
          go_loopw [14, 15] (fun v14 v15 wr => ∃ i : Nat, v15 = .int .i64 i ∧ i ≤ La.length ∧ Hid (Mem w wr tb S s5 wq.heap.size 0 u9 B []) ∧ Hid (IRow wr wq.heap.size (.slice Aa La.length ca) (List.replicate i (-100 * (k : Int) - 1) ++ La.drop i)) ∧ Hid (IRow wr wq.heap.size v14 (List.replicate i (-100 * (k : Int) - 1))) ∧ Hid (∀ b, (Value.slice Aa La.length ca).ownBlock = some b → v14.ownBlock ≠ some b)) (fun _ v15 _ => La.length - (intOf v15).toNat)
          case atStart => exact ⟨0, rfl, Nat.zero_le _, MM, RA, Lib.hid (IRow.nil _ _), Lib.hid (by simp [Value.ownBlock])⟩
          case round =>
            clear MM RA
            obtain ⟨i, rfl, hi, MM, RL, RW, AP⟩ := hrel
            obtain ⟨wz, rfl⟩ : ∃ wz : World, wz = wr := ⟨_, rfl⟩
            by_cases hil : i < La.length
            · have b4 : (i : Int) < (La.length : Int) := by omega
              obtain ⟨g, hg⟩ := RL.out.addr (by omega)
              have HG := Lib.hid hg
              clear hg
              obtain rfl := HG.out
              obtain ⟨x, hx⟩ : ∃ x, La[i]? = some x := ⟨_, List.getElem?_eq_getElem hil⟩
              obtain ⟨m1, f1⟩ := RL.out.cell i x (marks_get La i _ x hx)
              have HX := Lib.hid hx
              have HW := Lib.hid (HLV.out x (List.mem_of_getElem? hx))
              clear hx
              go_wp2_with fail
              refine (when_calls MM.out.tim x HW.out.1).mono ?_
              rintro e w6 ⟨hw, hw6⟩
              obtain rfl := hw6.symm
              rcases hw with ⟨_, rfl⟩ | ⟨v, hv, _⟩
              · obtain ⟨Aw, cw, hvw⟩ := RW.out.form
                rw [List.length_replicate] at hvw
                subst hvw
                have hst : Touch (Value.slice (some ⟨g, 0, none⟩) La.length ca).ownBlock.toList wz (wz.setCell ⟨g, i, none⟩ (.int .i64 (-100 * (k : Int) - 1))) := (Touch.refl _ wz).setCell _ _ (.inl (by simp [Value.ownBlock]))
                have M1 := Lib.hid (MM.out.store RL.out hst)
                have R1 := Lib.hid (RL.out.stored (marks_len La i _ hi) i (-100 * (k : Int) - 1))
                have W1 := Lib.hid (RW.out.kept hst (fun b hb hx => AP.out b (by simpa using hx) hb))
                clear hst
                go_wp2_with (at_builtin; refine wpList_append_vh (by rfl) (.tmp 109) (.tmp 114) (by rfl) wz.heap.size (by simp) wq.heap.size (.slice Aw i cw) (List.replicate i (-100 * (k : Int) - 1)) [-100 * (k : Int) - 1] (by rfl) W1.out M1.out.hi (by rfl) (by simp; omega) ?_
                             intro A' c' w' r t o
                             simp only [List.length_replicate, List.length_singleton] at r o
                             have R := Lib.hid r
                             have K := Lib.hid t
                             have O := Lib.hid o
                             clear r t o)
                go_roundw
                case rel =>
                  refine ⟨i + 1, by go_num, by omega, Lib.hid (M1.out.grow K.out W1.out (Nat.zero_le _)), Lib.hid ?_, Lib.hid ?_, Lib.hid ?_⟩
                  · rw [← marks_set _ _ _ hil]
                    exact R1.out.by K.out (by simpa using AP.out)
                  · rw [List.replicate_succ']; exact R.out
                  · intro b hb hb2
                    rcases O.out with o | ⟨b', o, hb'⟩
                    · rw [o] at hb2; exact AP.out b hb (by simpa using hb2)
                    · rw [o] at hb2; cases hb2; have := (R1.out.block b hb).2; omega
                case measure => simp [intOf]; omega
              · rw [HW.out.2] at hv; cases hv
            · obtain rfl : i = La.length := by omega
              obtain ⟨L0, hL0⟩ : ∃ L0 : List Int, L0 = List.replicate La.length (-100 * (k : Int) - 1) := ⟨_, rfl⟩
              have hl0 : L0.length = La.length := by rw [hL0]; simp
              have R0 : Hid (IRow wz wq.heap.size (.slice Aa La.length ca) L0) := Lib.hid (by have := RL.out; rw [List.drop_length, List.append_nil, ← hL0] at this; exact this)
              obtain ⟨Aw, cw, hvw⟩ := RW.out.form
              rw [List.length_replicate] at hvw
              subst hvw
              have W0 : Hid (IRow wz wq.heap.size (.slice Aw La.length cw) L0) := Lib.hid (by rw [hL0]; exact RW.out)
              have MM0 := Lib.hid ((MM.out.view R0.out.vw L0.length (Nat.zero_le _) (Nat.le_refl _)).view W0.out.vw L0.length (Nat.le_refl _) (Nat.le_refl _))
              obtain ⟨L1, hL1⟩ : ∃ L1 : List Int, L1 = L0 ++ [-100 * (k : Int) - 2] := ⟨_, rfl⟩
              obtain ⟨L3, hL3⟩ : ∃ L3 : List Int, L3 = L1 ++ [-100 * (k : Int) - 3, -100 * (k : Int) - 3] := ⟨_, rfl⟩
              have hl1 : L1.length = L0.length + 1 := by rw [hL1]; simp
              have hl3 : L3.length = L1.length + 2 := by rw [hL3]; simp
              have b30 : L0.length ≤ 300 := by omega
              have b31 : L1.length ≤ 301 := by omega
              have b33 : L3.length ≤ 303 := by omega
              have bB : B.length ≤ 4194304 := by have := hBl.out; omega
              have hbase := MM0.out.hi
              have HL0 := Lib.hid hl0
              have HL1 := Lib.hid hL1
              have HL3 := Lib.hid hL3
              have Hl1 := Lib.hid hl1
              have Hl3 := Lib.hid hl3
              have bL01 : L0.length ≤ L1.length := by omega
              have bL13 : L1.length ≤ L3.length := by omega
              clear hL0 hl0 hL1 hL3 hl1 hl3 MM RL RW AP hi hil hLl
              go_wp2_with (at_builtin; first
                | (refine wpList_append_vs (by rfl) (.tmp 116) (.tmp 120) (by rfl) wq.heap.size (.slice Aa La.length ca) L0 [-100 * (k : Int) - 2] (by rfl) R0.out hbase (by rfl) (by simp; omega) ?_
                   intro A1 c1 w1 r t o
                   have G1 : Hid (IRow w1 wq.heap.size (.slice A1 (L0.length + 1) c1) L1) := Lib.hid (by rw [HL1.out]; exact r)
                   have M1 := Lib.hid ((MM0.out.grow t R0.out (Nat.le_refl _)).view G1.out.vw L1.length bL01 (Nat.le_refl _))
                   have hi1 := M1.out.hi
                   clear r t o hbase MM0 R0 W0)
                | (refine wpList_append_vs (by rfl) (.tmp 122) (.tmp 129) (by rfl) wq.heap.size (.slice A1 (L0.length + 1) c1) L1 [-100 * (k : Int) - 3, -100 * (k : Int) - 3] (by rfl) G1.out hi1 (by rfl) (by simp; omega) ?_
                   intro A3 c3 w3 r t o
                   have G3 : Hid (IRow w3 wq.heap.size (.slice A3 (L1.length + 2) c3) L3) := Lib.hid (by rw [HL3.out]; exact r)
                   have M3 := Lib.hid ((M1.out.grow t G1.out (Nat.le_refl _)).view G3.out.vw L3.length bL13 (Nat.le_refl _))
                   clear r t o hi1 M1 G1)
                | (refine wpList_append_vr (by rfl) (.tmp 131) (.tmp 135) 32 42 2 48 _ Try.underlying32 (by rfl) info42 rfl (by omega) (by omega) u9 B.length (bcells B) 1 #[.slice Aa La.length ca, .slice Aw La.length cw] (by rfl) M3.out.book.row (by rfl) (by rfl) (by simp [Value.oneCell']) (by omega) ?_
                   intro A5 c5 w5 q t o
                   obtain ⟨B1, hb1, m5⟩ := M3.out.more (.slice Aa La.length ca) (.slice Aw La.length cw) L0 q t o (by simp) (by simp) (by omega)
                   have M5 := Lib.hid m5
                   have Hb1 := Lib.hid hb1
                   have bB1 : B1.length ≤ 4194305 := by omega
                   have G5 := Lib.hid (M3.out.row_kept t G3.out)
                   clear q t o M3 G3 m5 hb1)
                | (refine wpList_append_copy (by rfl) (.const (.slice none 0 0)) (.tmp 137) (by rfl) (.slice Aw La.length cw) L0 (by rfl) (M5.out.ys (.slice Aw La.length cw, L0) (by simp)).1 (by rfl) (by omega) ?_
                   intro A6 c6 w6 r t
                   have R6 := Lib.hid r
                   have T6 := Lib.hid t
                   have hi6 := t.size
                   clear r t)
                | (refine wpList_append_vs (by rfl) (.tmp 138) (.tmp 142) (by rfl) w5.heap.size (.slice A6 L0.length c6) L0 [-100 * (k : Int) - 2] (by rfl) R6.out hi6 (by rfl) (by simp; omega) ?_
                   intro A7 c7 w7 r t o
                   have T7 := T6.out.trans t.1 (fun x hx => .inr (R6.out.block x (by simpa using hx)).1)
                   have W7 : Hid (IRow w7 w5.heap.size (.slice A7 (L0.length + 1) c7) L1) := Lib.hid (by rw [HL1.out]; exact r)
                   have M7 := Lib.hid ((M5.out.near T7).view W7.out.vw L3.length (Nat.le_refl _) bL13)
                   have G7 := Lib.hid (G5.out.kept T7 (by simp))
                   clear r t o R6 T6 T7 W7 M5 G5 hi6)
                | (refine wpList_append_vr (by rfl) (.tmp 144) (.tmp 148) 32 42 2 48 _ Try.underlying32 (by rfl) info42 rfl (by omega) (by omega) (.slice A5 (B.length + 1) c5) B1.length (bcells B1) 1 #[.slice A1 (L0.length + 1) c1, .slice A7 (L0.length + 1) c7] (by rfl) M7.out.book.row (by rfl) (by rfl) (by simp [Value.oneCell']) (by omega) ?_
                   intro A8 c8 w8 q t o
                   obtain ⟨B2, hb2, m8⟩ := M7.out.more (.slice A1 (L0.length + 1) c1) (.slice A7 (L0.length + 1) c7) L1 q t o (by simp) (by simp) (by omega)
                   have M8 := Lib.hid m8
                   have Hb2 := Lib.hid hb2
                   have bB2 : B2.length ≤ 4194306 := by omega
                   have G8 := Lib.hid (M7.out.row_kept t G7.out)
                   clear q t o M7 G7 m8 hb2)
                | (refine wpList_append_copy (by rfl) (.const (.slice none 0 0)) (.tmp 150) (by rfl) (.slice A7 (L0.length + 1) c7) L1 (by rfl) (M8.out.ys (.slice A7 (L0.length + 1) c7, L1) (by simp)).1 (by rfl) (by omega) ?_
                   intro A9 c9 w9 r t
                   have R9 := Lib.hid r
                   have T9 := Lib.hid t
                   have hi9 := t.size
                   clear r t)
                | (refine wpList_append_vs (by rfl) (.tmp 151) (.tmp 158) (by rfl) w8.heap.size (.slice A9 L1.length c9) L1 [-100 * (k : Int) - 3, -100 * (k : Int) - 3] (by rfl) R9.out hi9 (by rfl) (by simp; omega) ?_
                   intro A10 c10 w10 r t o
                   have T10 := T9.out.trans t.1 (fun x hx => .inr (R9.out.block x (by simpa using hx)).1)
                   have W10 : Hid (IRow w10 w8.heap.size (.slice A10 (L1.length + 2) c10) L3) := Lib.hid (by rw [HL3.out]; exact r)
                   have M10 := Lib.hid ((M8.out.near T10).view W10.out.vw L3.length (Nat.le_refl _) (Nat.le_refl _))
                   have G10 := Lib.hid (G8.out.kept T10 (by simp))
                   clear r t o R9 T9 T10 W10 M8 G8 hi9)
                | (refine wpList_append_vr (by rfl) (.tmp 160) (.tmp 164) 32 42 2 48 _ Try.underlying32 (by rfl) info42 rfl (by omega) (by omega) (.slice A8 (B1.length + 1) c8) B2.length (bcells B2) 1 #[.slice A3 (L1.length + 2) c3, .slice A10 (L1.length + 2) c10] (by rfl) M10.out.book.row (by rfl) (by rfl) (by simp [Value.oneCell']) (by omega) ?_
                   intro A11 c11 w11 q t o
                   obtain ⟨B3, hb3, m11⟩ := M10.out.more (.slice A3 (L1.length + 2) c3) (.slice A10 (L1.length + 2) c10) L3 q t o (by simp) (by simp) (by omega)
                   have M11 := Lib.hid m11
                   have Hb3 := Lib.hid hb3
                   have bB3 : B3.length ≤ 4194307 := by omega
                   have G11 := Lib.hid (M10.out.row_kept t G10.out)
                   clear q t o M10 G10 m11 hb3)
                | (refine wpList_append_copy (by rfl) (.const (.slice none 0 0)) (.tmp 167) (by rfl) (.slice A10 (L1.length + 2) c10) L3 (by rfl) (M11.out.ys (.slice A10 (L1.length + 2) c10, L3) (by simp)).1 (by rfl) (by omega) ?_
                   intro A12 c12 w12 r t
                   have M12 := Lib.hid (M11.out.near t)
                   have G12 := Lib.hid (G11.out.kept t (by simp))
                   have W12 : Hid (IRow w12 wq.heap.size (.slice A12 L3.length c12) L3) := Lib.hid (r.base_le M11.out.hi)
                   have AP12 : Hid (∀ b, (Value.slice A3 (L1.length + 2) c3).ownBlock = some b → (Value.slice A12 L3.length c12).ownBlock ≠ some b) := Lib.hid (fun b hb hb2 => by have := (G11.out.block b hb).2; have := (r.block b hb2).1; omega)
                   clear r t M11 G11))
              go_loopw [14, 20, 21] (fun v14 v20 v21 wr => ∃ (q : Nat) (l4 : List Int), v21 = .int .i64 q ∧ q ≤ 70000 ∧ Hid (Mem w wr tb S s5 wq.heap.size L3.length (.slice A11 (B2.length + 1) c11) B3 [(.slice A10 (L1.length + 2) c10, L3), (.slice A7 (L0.length + 1) c7, L1), (.slice A3 (L1.length + 2) c3, L3), (.slice A1 (L0.length + 1) c1, L1), (.slice Aw La.length cw, L0), (.slice Aa La.length ca, L0)]) ∧ Hid (IRow wr wq.heap.size v20 l4) ∧ Hid (IRow wr wq.heap.size v14 l4) ∧ Hid (∀ b, v20.ownBlock = some b → v14.ownBlock ≠ some b) ∧ Hid (l4.length = L3.length + q)) (fun _ _ v21 _ => 70000 - (intOf v21).toNat)
              case atStart => exact ⟨0, L3, rfl, by omega, M12, G12, W12, AP12, Lib.hid rfl⟩
              case round =>
                clear M12 G12 W12 AP12
                obtain ⟨q, l4, rfl, hq, M, G, W, AP, hl4⟩ := hrel
                obtain ⟨A20, c20, hv20⟩ := G.out.form
                obtain ⟨A14, c14, hv14⟩ := W.out.form
                subst hv20 hv14
                obtain ⟨wy, rfl⟩ : ∃ wy : World, wy = wr := ⟨_, rfl⟩
                have b4 : l4.length ≤ 70303 := by have := hl4.out; omega
                have b34 : L3.length ≤ l4.length := by have := hl4.out; omega
                go_upto_region 43 with (fail)
                go_cut [177] (fun v177 wc => ∃ bb : Bool, v177 = .bool bb ∧ Hid (bb = true → q < 70000) ∧ Hid (Touch [] wy wc))
                case first =>
                  by_cases h1 : l4.length < ca
                  · have b4 : (l4.length : Int) < (ca : Int) := by omega
                    by_cases h2 : q < 70000
                    · have b5 : (q : Int) < 70000 := by omega
                      go_wp2
                      go_meet
                      case rel => exact ⟨true, rfl, Lib.hid (fun _ => h2), Lib.hid (Touch.refl _ _)⟩
                    · have b5 : ¬ (q : Int) < 70000 := by omega
                      go_wp2
                      go_meet
                      case rel => exact ⟨false, rfl, Lib.hid (by simp), Lib.hid (Touch.refl _ _)⟩
                  · have b4 : ¬ (l4.length : Int) < (ca : Int) := by omega
                    go_wp2
                    go_meet
                    case rel => exact ⟨false, rfl, Lib.hid (by simp), Lib.hid (Touch.refl _ _)⟩
                case rest =>
                obtain ⟨bb, rfl, hbb, htc⟩ := hcut
                have Mc := Lib.hid (M.out.near htc.out)
                have Gc := Lib.hid (G.out.kept htc.out (by simp))
                have Wc := Lib.hid (W.out.kept htc.out (by simp))
                have hic := Mc.out.hi
                clear M G W htc
                cases bb with
                | true =>
                  have h2 := hbb.out rfl
                  obtain ⟨l5, hl5⟩ : ∃ l5 : List Int, l5 = l4 ++ [-100 * (k : Int) - 4] := ⟨_, rfl⟩
                  have HL5 := Lib.hid hl5
                  have Hl5 : Hid (l5.length = l4.length + 1) := Lib.hid (by rw [hl5]; simp)
                  clear hl5 hbb
                  go_wp2_with (at_builtin; first
                    | (refine wpList_append_vs (by rfl) (.tmp 180) (.tmp 184) (by rfl) wq.heap.size (.slice A20 l4.length c20) l4 [-100 * (k : Int) - 4] (by rfl) Gc.out hic (by rfl) (by simp; omega) ?_
                       intro A' c' w' r t o
                       have G' : Hid (IRow w' wq.heap.size (.slice A' (l4.length + 1) c') l5) := Lib.hid (by rw [HL5.out]; exact r)
                       have M' := Lib.hid (Mc.out.grow t Gc.out b34)
                       have W' := Lib.hid (Wc.out.grown t (fun _ => Nat.le_refl _))
                       have AP' : Hid (∀ b, (Value.slice A' (l4.length + 1) c').ownBlock = some b → (Value.slice A14 l4.length c14).ownBlock ≠ some b) := Lib.hid (fun b hb hb2 => by
                         rcases o with o | ⟨b', o, hb'⟩
                         · exact AP.out b (by rw [← o]; exact hb) hb2
                         · have e : b' = b := by have := o.symm.trans hb; simpa using this
                           have := (Wc.out.block b hb2).2; omega)
                       have hi' := M'.out.hi
                       clear r t o Mc Gc Wc AP hic)
                    | (refine wpList_append_vs (by rfl) (.tmp 186) (.tmp 190) (by rfl) wq.heap.size (.slice A14 l4.length c14) l4 [-100 * (k : Int) - 4] (by rfl) W'.out hi' (by rfl) (by simp; omega) ?_
                       intro A2 c2 w2 r t o
                       have W2 : Hid (IRow w2 wq.heap.size (.slice A2 (l4.length + 1) c2) l5) := Lib.hid (by rw [HL5.out]; exact r)
                       have M2 := Lib.hid (M'.out.grow t W'.out b34)
                       have G2 := Lib.hid (G'.out.by t AP'.out)
                       have AP2 : Hid (∀ b, (Value.slice A' (l4.length + 1) c').ownBlock = some b → (Value.slice A2 (l4.length + 1) c2).ownBlock ≠ some b) := Lib.hid (fun b hb hb2 => by
                         rcases o with o | ⟨b', o, hb'⟩
                         · exact AP'.out b hb (by rw [← o]; exact hb2)
                         · have e : b' = b := by have := o.symm.trans hb2; simpa using this
                           have := (G'.out.block b hb).2; omega)
                       clear r t o M' G' W' AP' hi'))
                  go_roundw
                  case rel => exact ⟨q + 1, l5, by go_num, by omega, M2, G2, W2, AP2, Lib.hid (by rw [Hl5.out, hl4.out]; omega)⟩
                  case measure => simp [intOf]; omega
                | false =>
                  have MF := Lib.hid ((Mc.out.view Gc.out.vw l4.length b34 (Nat.le_refl _)).view Wc.out.vw l4.length (Nat.le_refl _) (Nat.le_refl _))
                  clear Mc Gc Wc hic hbb AP
                  go_wp2_with (at_builtin; first
                    | (refine wpList_append_vr (by rfl) (.tmp 192) (.tmp 196) 32 42 2 48 _ Try.underlying32 (by rfl) info42 rfl (by omega) (by omega) (.slice A11 (B2.length + 1) c11) B3.length (bcells B3) 1 #[.slice A20 l4.length c20, .slice A14 l4.length c14] (by rfl) MF.out.book.row (by rfl) (by rfl) (by simp [Value.oneCell']) (by omega) ?_
                       intro A13 c13 w13 q13 t o
                       obtain ⟨B4, hb4, m13⟩ := MF.out.more (.slice A20 l4.length c20) (.slice A14 l4.length c14) l4 q13 t o (by simp) (by simp) (by omega)
                       have T13 := Lib.hid m13.tim
                       have K13 : Hid (Book w w13 (.slice A13 B4.length c13) B4) := Lib.hid (by rw [hb4]; exact m13.book)
                       rw [← hb4]
                       have P13 := Lib.hid m13.top
                       have Hb4 := Lib.hid hb4
                       have bB4 : B4.length ≤ 4194308 := by omega
                       clear q13 t o MF m13 hb4))
                  go_loopw [22] (fun v22 wr => ∃ i : Nat, v22 = .int .i64 i ∧ i ≤ B4.length ∧ Hid (Touch [] w13 wr)) (fun v22 _ => B4.length - (intOf v22).toNat)
                  case atStart => exact ⟨0, rfl, Nat.zero_le _, Lib.hid (Touch.refl _ _)⟩
                  case round =>
                    obtain ⟨i, rfl, hi, hti⟩ := hrel
                    have Ki := Lib.hid (K13.out.near hti.out)
                    by_cases hil : i < B4.length
                    · have b5 : (i : Int) < (B4.length : Int) := by omega
                      obtain ⟨g13, L, W, l, hA, m1, m2, v1, v2, hl⟩ := Ki.out.at_ hil
                      have HA := Lib.hid hA
                      clear hA
                      obtain rfl := HA.out
                      obtain ⟨AL, cL, hvL⟩ := v1.form
                      obtain ⟨AW, cW, hvW⟩ := v2.form
                      subst hvL hvW
                      have VL := Lib.hid v1
                      have VW := Lib.hid v2
                      have n1 := fun u : Near wr => u.cell m1
                      have n2 := fun u : Near wr => u.cell m2
                      have hl' : l.length ≤ 9223372036854775807 := by omega
                      clear v1 v2
                      go_wp2
                      refine wp_region_near (by kernel_rfl) (by kernel_rfl) ?_
                      repeat (go_big_quiet_step ((go_at_call 17; refine near_call _ (sameV_calls (VL.out.kept (Near.near _) (by simp)) (VW.out.kept (Near.near _) (by simp)) hl'))))
                      refine wpQuiet_nil ?_
                      rintro _ ⟨u, rfl⟩
                      have TU := Lib.hid (hti.out.trans u.near (by simp))
                      clear n1 n2
                      go_wp2
                      go_roundw
                      case rel => exact ⟨i + 1, by go_num, by omega, TU⟩
                      case measure => simp [intOf]; omega
                    · have b5 : ¬ (i : Int) < (B4.length : Int) := by omega
                      go_wp2
                      go_roundw
                      case rel => exact ⟨k + 1, S, s5, B4, by go_num, by omega, Lib.hid (T13.out.kept hti.out (by simp)), HS5, hN, Ki, Lib.hid (by have := hBl.out; have := Hb1.out; have := Hb2.out; have := Hb3.out; have := Hb4.out; omega), Lib.hid (P13.out.trans hti.out (by simp))⟩
                      case measure => simp [intOf]; omega
    · have b1 : ¬ (k : Int) < (n1 : Int) := by omega
      go_wp2
      go_ret
      exact ⟨rfl, hTc.out⟩
end Go.Proofs.Ytjnhldcgemcjbaa.Tm
