/- The walk of TimerSorts; no condition. -/
import Derived.Test.YtjnhldcgemcjbaaTwo
namespace Go.Proofs.Ytjnhldcgemcjbaa.Tm
open Go.RowKit Go.Maps
set_option linter.unusedVariables false

theorem Nd.perm {m l : List Pr} (h : Nd l) (p : m.Perm l) : Nd m := ((p.map (fun x : Pr => x.1)).nodup_iff).2 h

theorem next_want {W : List Pr} {i : Nat} {x : Pr} {t : St} {e : Ending} (hS : W.Pairwise le) (nd : Nd W) (hx : W[i]? = some x) (hv : ∀ y, val t y = lval (W.drop i) y) (hl : t.hp.length = W.length - i) (hN : NextT (val t) t.hp.length e) :
    e = .returned (.tuple #[.int .i64 x.1, .int .i64 x.2, .int .i64 0]) := by
  have hi := (List.getElem?_eq_some_iff.1 hx).1
  have hx' : W[i] = x := (List.getElem?_eq_some_iff.1 hx).2
  have e1 : W.drop i = x :: W.drop (i + 1) := by rw [List.drop_eq_getElem_cons hi, hx']
  have hnd : Nd (W.drop i) := by unfold Nd at *; exact nd.sublist ((List.drop_sublist i W).map _)
  have hso : (W.drop i).Pairwise le := hS.sublist (List.drop_sublist i W)
  rcases hN with ⟨h0, _⟩ | ⟨a, b, _, hab, hmin, he⟩
  · omega
  · have h1 : le (a, b) x := hmin x.1 x.2 (by rw [hv, lval_iff hnd, e1]; simp)
    have h2 : (a, b) ∈ W.drop i := by rw [← lval_iff hnd, ← hv]; exact hab
    have h3 : le x (a, b) := by
      rw [e1] at h2 hso
      rcases List.mem_cons.1 h2 with h4 | h4
      · rw [h4]; exact le_refl' _
      · exact (List.pairwise_cons.1 hso).1 _ h4
    have := le_anti h1 h3
    subst this
    exact he

set_option maxHeartbeats 4000000 in
set_option maxRecDepth 100000 in
theorem walk_sorts {w : World} {A : Option Addr} {n cap : Nat} {l : List Pr} (h : RdPr w A n l) (hsm : n ≤ 1048576) (now : Int) :
    Calls Try.prog 5 #[.slice A n cap, .int .i64 now] w fun e w' => e = .returned (.bool true) ∧ Touch [] w w' := by
  have hlen := h.len
  have HL := Lib.hid hlen
  have H := Lib.hid h
  clear h hlen
  go_enter Try.func5, Try.ntmps5
  go_wp2_with fail
  refine (begun_calls _).mono ?_
  rintro e w0 ⟨rfl, ht0⟩
  have HT0 := Lib.hid ht0
  clear ht0
  go_wp2_with fail
  refine (last_calls (cap := cap) (H.out.kept HT0.out) hsm).mono ?_
  rintro e w1 ⟨V1, acc, rfl, hP1, ht1, hB1, hI1⟩
  obtain ⟨A1, c1, hv1⟩ := hP1.form
  subst hv1
  have hR1 := hP1.rd hI1.wf
  have hal : acc.length ≤ n := by have := hI1.len; rw [HL.out] at this; exact this
  have HI1 := Lib.hid hI1
  have HT1 := Lib.hid (HT0.out.trans ht1 (by simp))
  have HR1 := Lib.hid hR1
  clear hP1 hB1 hR1 hI1 ht1
  go_wp2_with fail
  refine (order_calls (cap := c1) HR1.out (by omega)).mono ?_
  rintro e w2 ⟨V2, W, rfl, hP2, ht2, hB2, hI2⟩
  obtain ⟨A2, c2, hv2⟩ := hP2.form
  subst hv2
  have hW : Want l W := ⟨HI1.out.nd.perm hI2.perm, fun y => by
    rw [← HI1.out.vals y]
    exact opt_ext fun v => by rw [lval_iff (HI1.out.nd.perm hI2.perm), lval_iff HI1.out.nd]; exact hI2.perm.mem_iff⟩
  have hRW := hP2.rd (fun p hp => HI1.out.wf p (hI2.perm.mem_iff.1 hp))
  have hWl : W.length ≤ n := by have := hI2.len; omega
  have HSO := Lib.hid hI2.sorted
  have HT2 := Lib.hid (HT1.out.trans ht2 (by simp))
  have HW := Lib.hid hW
  have HRW := Lib.hid hRW
  have H2 := Lib.hid (H.out.kept HT2.out)
  clear hP2 hB2 hI2 ht2 hW hRW HR1 HI1 HT1
  by_cases hz : W.length = 0
  · have b1 : ((W.length : Int) == 0) = true := by simp; exact List.eq_nil_of_length_eq_zero hz
    go_wp2
    go_ret
    exact ⟨rfl, HT2.out⟩
  · have b1 : ((W.length : Int) == 0) = false := by rw [beq_eq_false_iff_ne]; omega
    by_cases hbig : 65536 < W.length
    · have b2 : (65536 : Int) < (W.length : Int) := by omega
      go_wp2
      go_ret
      exact ⟨rfl, HT2.out⟩
    · have b2 : ¬ (65536 : Int) < (W.length : Int) := by omega
      go_wp2_with fail
      refine (newE_calls w2 W.length (by omega) (by omega)).mono ?_
      rintro e w3 ⟨t1, s1, rfl, hN1⟩
      have HN1 := Lib.hid hN1
      clear hN1
      go_wp2_with fail
      refine (newE_calls w3 65536 (by omega) (by omega)).mono ?_
      rintro e w4 ⟨t2, s2, rfl, hN2⟩
      obtain ⟨hTwo, hz1, hz2⟩ := Two.new HN1.out hN2
      have HTW := Lib.hid hTwo
      have HZ1 := Lib.hid hz1
      have HZ2 := Lib.hid hz2
      clear hTwo hz1 hz2 HN1 hN2
      go_wp2
      go_loopw [8, 10, 11] (fun v8 v10 v11 wr => ∃ (k : Nat) (s1 s2 : St), v8 = .int .i64 0 ∧ v10 = .int .i64 0 ∧ v11 = .int .i64 k ∧ k ≤ n ∧ Hid (Two w2 wr t1 W.length s1 t2 65536 s2) ∧ Hid (∀ y, val s1 y = mset (l.take k) y) ∧ Hid (∀ y, val s2 y = mset (l.take k) y)) (fun _ _ v11 _ => n - (intOf v11).toNat)
      case atStart => exact ⟨0, s1, s2, rfl, rfl, rfl, Nat.zero_le _, HTW, Lib.hid (fun y => HZ1.out.2 y), Lib.hid (fun y => HZ2.out.2 y)⟩
      case round =>
        clear HTW HZ1 HZ2
        obtain ⟨k, q1, q2, rfl, rfl, rfl, hk, hT, hv1, hv2⟩ := hrel
        by_cases hlt : k < n
        · have hR := H2.out.kept hT.out.touch
          obtain ⟨b, off, hA, hb, hc⟩ := hR.at_ (by omega)
          subst hA
          obtain ⟨⟨x0, x1⟩, hx⟩ : ∃ x, l[k]? = some x := ⟨_, List.getElem?_eq_getElem (by rw [HL.out]; exact hlt)⟩
          obtain ⟨m0, m1⟩ := hc k _ hx
          dsimp only at m0 m1
          have HX := Lib.hid hx
          have HWF := Lib.hid (H2.out.wf _ (List.mem_of_getElem? hx))
          have b3 : (k : Int) < (n : Int) := by omega
          obtain ⟨wo, rfl⟩ : ∃ wo : World, wo = wr := ⟨_, rfl⟩
          clear hR hc hx
          go_wp2_with fail
          go_still_tail 11, (by kernel_rfl)
          change wpList _ _ _ _ _ (World.drew wo)
          go_wp2_with fail
          refine (Two.set (hT.out.near (Touch.refl [] wo).drew) x0 x1 HWF.out.1 HWF.out.2 (fun hn => by
            have := HW.out.room hT.out.inv.1 hv1.out HX.out hn; omega)).mono ?_
          rintro e w5 ⟨q1', hT1, rfl, hl1, hv1'⟩
          have HT1 := Lib.hid hT1
          have HV1 := Lib.hid hv1'
          have m2 : w5.cell? ⟨b, off + k * 2, none⟩ = some (.int .i64 x0) := by
            obtain ⟨b', off', hA', _, hc'⟩ := (H2.out.kept hT1.touch).at_ (by omega)
            injection hA' with hA'; injection hA' with hA1 hA2; subst hA1 hA2
            exact (hc' k _ HX.out).1
          have m3 : w5.cell? ⟨b, off + k * 2 + 1, none⟩ = some (.int .i64 x1) := by
            obtain ⟨b', off', hA', _, hc'⟩ := (H2.out.kept hT1.touch).at_ (by omega)
            injection hA' with hA'; injection hA' with hA1 hA2; subst hA1 hA2
            exact (hc' k _ HX.out).2
          clear hT1 hl1 hv1' m0 m1
          go_wp2_with fail
          go_still_tail 11, (by kernel_rfl)
          change wpList _ _ _ _ _ (World.drew w5)
          go_wp2_with fail
          refine (Two.set (HT1.out.swap.near (Touch.refl [] w5).drew) x0 x1 HWF.out.1 HWF.out.2 (fun hn => by
            have := HW.out.room HT1.out.inv.2 hv2.out HX.out hn; omega)).mono ?_
          rintro e w6 ⟨q2', hT2, rfl, hl2, hv2'⟩
          have HT2' := Lib.hid hT2.swap
          have HV2 := Lib.hid hv2'
          clear hT2 hl2 hv2' m2 m3
          go_wp2
          go_roundw
          case rel =>
            have etk : l.take (k + 1) = l.take k ++ [(x0, x1)] := by rw [List.take_add_one, HX.out]; rfl
            exact ⟨k + 1, q1', q2', by go_num, by go_num, by go_num, by omega, HT2', Lib.hid (fun y => by rw [HV1.out, etk, mset_snoc, hv1.out]), Lib.hid (fun y => by rw [HV2.out, etk, mset_snoc, hv2.out])⟩
          case measure => simp [intOf]; omega
        · have b3 : ¬ (k : Int) < (n : Int) := by omega
          obtain rfl : k = n := by omega
          have e1 : l.take k = l := by rw [← HL.out, List.take_length]
          have hq1 : ∀ y, val q1 y = lval W y := fun y => by rw [hv1.out, e1, HW.out.vals]
          have hq2 : ∀ y, val q2 y = lval W y := fun y => by rw [hv2.out, e1, HW.out.vals]
          have hl1 := len_of_vals HW.out.nd hT.out.inv.1 hq1
          have hl2 := len_of_vals HW.out.nd hT.out.inv.2 hq2
          have HQ1 := Lib.hid hq1
          have HQ2 := Lib.hid hq2
          obtain ⟨wo, rfl⟩ : ∃ wo : World, wo = wr := ⟨_, rfl⟩
          clear hv1 hv2 e1 hq1 hq2 hlt
          go_wp2_with fail
          have c1' := hT.out.len
          rw [hl1] at c1'
          refine c1'.mono ?_
          rintro e _ ⟨rfl, rfl⟩
          go_wp2_with fail
          have c2' := hT.out.swap.len
          rw [hl2] at c2'
          refine c2'.mono ?_
          rintro e _ ⟨rfl, rfl⟩
          clear c1' c2'
          obtain ⟨S1, S2, T1, T2, n1, n2, hap, htc⟩ := hT.out
          have HT1 := Lib.hid T1
          have HN1 := Lib.hid n1
          have HN2 := Lib.hid n2
          have HAP := Lib.hid hap
          have HTC := Lib.hid htc
          go_wp2_with fail
          have HLT2 := Lib.hid T2.lt
          refine (due_calls T2 now).mono ?_
          clear T1 T2 n1 n2 hap htc
          rintro e w5 ⟨VE, lpE, r2, rfl, T2', ht5, hE, hD1⟩
          have HT1' := Lib.hid (HT1.out.kept ht5 (fun k h1 h2 => HAP.out k h1 h2))
          have HTC5 := Lib.hid (HTC.out.trans ht5 (fun x hx => .inr (HN2.out x hx)))
          have HEa := Lib.hid (hE.block)
          have HE := Lib.hid hE
          have HD1 := Lib.hid hD1
          have HLT := Lib.hid (HT1'.out.lt)
          clear hE hD1 ht5
          go_wp2_with fail
          refine (due_calls T2' 9223372036854775807).mono ?_
          rintro e w6 ⟨VL, lpL, r3, rfl, T2'', ht6, hL, hD2⟩
          have hcut := want_cut HSO.out HW.out.nd HQ2.out HD1.out hD2 (fun y v hv => (wfi_bd (hT.out.swap.wf hv).2).2)
          have HCUT := Lib.hid hcut
          have hWl2 : W.length = lpE.length + lpL.length := by rw [hcut]; simp
          have hr3 : r3.hp.length = 0 := by have := HD1.out.len; have := hD2.len; omega
          have hEk := HE.out.kept ht6 (fun k hk hk2 => by have := (HEa.out k hk).1; have := HLT2.out k hk2; omega)
          have HLB := Lib.hid hL.block
          have hT16 := HT1'.out.kept ht6 (fun k h1 h2 => HAP.out k h1 h2)
          have HTC6 := Lib.hid (HTC5.out.trans ht6 (fun x hx => .inr (HN2.out x hx)))
          have hlt1 := HLT.out
          have hEn : ∀ k, VE.ownBlock = some k → k ∉ S1 := fun k hk hk1 => by have := (HEa.out k hk).1; have := HT1.out.lt k hk1; omega
          have hLn : ∀ k, VL.ownBlock = some k → k ∉ S1 := fun k hk hk1 => by have := (HLB.out k hk).1; have := hlt1 k hk1; omega
          have HEN := Lib.hid hEn
          have HLN := Lib.hid hLn
          obtain ⟨AE, cE, hvE⟩ := hEk.form
          subst hvE
          obtain ⟨AL, cL, hvL⟩ := hL.form
          subst hvL
          simp only [List.length_map] at *
          have HE6 := Lib.hid hEk
          have HL6 := Lib.hid hL
          have HT6 := Lib.hid hT16
          have HD2 := Lib.hid hD2
          have b4 : ((lpE.length : Int) + (lpL.length : Int)) = (W.length : Int) := by omega
          have hlE : lpE.length ≤ 65536 := by omega
          have hlL : lpL.length ≤ 65536 := by omega
          have HR3 := Lib.hid hr3
          have HWL := Lib.hid hWl2
          have c3' := tlen_calls T2''
          rw [hr3] at c3'
          clear hcut hr3 hEk hT16 hlt1 hEn hLn hL hD2 ht6 HE HLT HLT2 HEa HLB HT1 HT1' T2' HTC5 hWl2
          go_wp2_with fail
          refine c3'.mono ?_
          rintro e w7 ⟨rfl, rfl⟩
          clear c3' T2'' hl1 hl2 hT
          go_wp2
          go_loopw [14] (fun v14 wr => ∃ (i : Nat) (t : St), v14 = .int .i64 i ∧ i ≤ W.length ∧ Hid (Tim wr t1 S1 W.length t) ∧ Hid (∀ y, val t y = lval (W.drop i) y) ∧ Hid (t.hp.length = W.length - i) ∧ Hid (Touch S1 w7 wr)) (fun v14 _ => W.length - (intOf v14).toNat)
          case atStart => exact ⟨0, q1, rfl, Nat.zero_le _, HT6, Lib.hid (fun y => HQ1.out y), Lib.hid (len_of_vals HW.out.nd HT6.out.ok.inv HQ1.out), Lib.hid (Touch.refl _ _)⟩
          case round =>
            obtain ⟨i, t, rfl, hi, hTm, hvt, hlt', htc⟩ := hrel
            obtain ⟨wo, rfl⟩ : ∃ wo : World, wo = wr := ⟨_, rfl⟩
            by_cases hil : i < W.length
            · have b5 : (i : Int) < (W.length : Int) := by omega
              obtain ⟨⟨x0, x1⟩, hx⟩ : ∃ x, W[i]? = some x := ⟨_, List.getElem?_eq_getElem hil⟩
              have HX := Lib.hid hx
              clear hx
              go_wp2_with fail
              refine (next_calls hTm.out).mono ?_
              rintro e w8 ⟨hN, ht8⟩
              obtain rfl := next_want HSO.out HW.out.nd HX.out hvt.out hlt'.out hN
              have HT8 := Lib.hid ht8
              have hwx := HRW.out.wf _ (List.mem_of_getElem? HX.out)
              clear hN ht8
              go_wp2_with fail
              refine (drop_calls (hTm.out.kept HT8.out (by simp)) x0 hwx.1).mono ?_
              rintro e w9 ⟨t', hT9, ht9, hh⟩
              have hcases : e = .returned (.int .i64 0) ∧ t'.hp.length = t.hp.length - 1 ∧ ∀ y, val t' y = if y = x0 then none else val t y := by
                rcases hh with ⟨h1, _⟩ | ⟨_, h2, h3, _, h4⟩
                · have hnd : Nd (W.drop i) := by have := HW.out.nd; unfold Nd at *; exact this.sublist ((List.drop_sublist i W).map _)
                  have e1 : W.drop i = (x0, x1) :: W.drop (i + 1) := by rw [List.drop_eq_getElem_cons hil]; congr 1; exact (List.getElem?_eq_some_iff.1 HX.out).2
                  have := (lval_iff hnd x0 x1).2 (by rw [e1]; simp)
                  rw [← hvt.out, h1] at this; cases this
                · exact ⟨h2, h3, h4⟩
              obtain ⟨rfl, hl9, hv9⟩ := hcases
              have hT9' := Lib.hid hT9
              have HL9 := Lib.hid hl9
              have HV9 : Hid (∀ y, val t' y = lval (W.drop (i + 1)) y) := Lib.hid (fun y => by rw [hv9, lval_drop HW.out.nd HX.out, hvt.out])
              have htc9 : Touch S1 w7 w9 := (htc.out.trans HT8.out (by simp)).trans ht9 (fun x hx => .inl hx)
              have HTC9 := Lib.hid htc9
              have hR := HRW.out.kept (HTC6.out.trans htc9 (fun x hx => .inr (HN1.out x hx)))
              obtain ⟨b, off, hA, hb, hc⟩ := hR.at_ (by omega)
              subst hA
              obtain ⟨m0, m1⟩ := hc i _ HX.out
              dsimp only at m0 m1
              clear hh hT9 hl9 hv9 ht9 hR hc htc9
              by_cases hE : i < lpE.length
              · have hxE : lpE[i]? = some (x0, x1) := by have := HX.out; rw [HCUT.out, List.getElem?_append_left hE] at this; exact this
                have hle : x1 ≤ now := (HD1.out.mem _ (List.mem_of_getElem? hxE)).2
                have b6 : (i : Int) < (lpE.length : Int) := by omega
                obtain ⟨g, cap', hV, hg⟩ := (HE6.out.kept HTC9.out HEN.out).formP (by simp; omega)
                injection hV with hV1 hV2 hV3
                subst hV1 hV3
                have k0 := (HE6.out.kept HTC9.out HEN.out).cell i x0 (by simp [hxE])
                clear hxE hV2
                go_wp2
                go_roundw
                case rel => exact ⟨i + 1, t', by go_num, by omega, hT9', HV9, Lib.hid (by rw [HL9.out, hlt'.out]; omega), HTC9⟩
                case measure => simp [intOf]; omega
              · have hdL : i - lpE.length < lpL.length := by have := HWL.out; omega
                have hxL : lpL[i - lpE.length]? = some (x0, x1) := by have := HX.out; rw [HCUT.out, List.getElem?_append_right (by omega)] at this; exact this
                have hgt : ¬ x1 ≤ now := by have := HD1.out.left _ _ (HD2.out.mem _ (List.mem_of_getElem? hxL)).1; dsimp only at this; omega
                have b6 : ¬ (i : Int) < (lpE.length : Int) := by omega
                have b7 : (lpE.length : Int) ≤ (i : Int) := by omega
                obtain ⟨g, cap', hV, hg⟩ := (HL6.out.kept HTC9.out HLN.out).formP (by simp; omega)
                injection hV with hV1 hV2 hV3
                subst hV1 hV3
                have k0 := (HL6.out.kept HTC9.out HLN.out).cell (i - lpE.length) x0 (by simp [hxL])
                obtain ⟨d, hd⟩ : ∃ d, d = i - lpE.length := ⟨_, rfl⟩
                have hid : i = lpE.length + d := by omega
                rw [← hd] at k0 hdL
                clear hxL hV2 hd
                have b8 : (i : Int) - (lpE.length : Int) = (d : Int) := by omega
                have b9 : (d : Int) < (lpL.length : Int) := by omega
                clear hid
                go_wp2
                go_roundw
                case rel => exact ⟨i + 1, t', by go_num, by omega, hT9', HV9, Lib.hid (by rw [HL9.out, hlt'.out]; omega), HTC9⟩
                case measure => simp [intOf]; omega
            · have b5 : ¬ (i : Int) < (W.length : Int) := by omega
              have hiW : i = W.length := by omega
              have ht0 : t.hp.length = 0 := by rw [hlt'.out, hiW]; omega
              have HT0' := Lib.hid ht0
              clear hil
              go_wp2_with fail
              refine (next_calls hTm.out).mono ?_
              rintro e w8 ⟨hN, ht8⟩
              rcases hN with ⟨_, rfl⟩ | ⟨_, _, h1, _⟩
              · have c4 := tlen_calls (hTm.out.kept ht8 (by simp))
                rw [HT0'.out] at c4
                have HT8 := Lib.hid ht8
                clear ht8 ht0
                go_wp2_with fail
                refine c4.mono ?_
                rintro e w9 ⟨rfl, rfl⟩
                clear c4
                go_wp2
                go_ret
                exact ⟨rfl, ((HT2.out.trans HTC6.out (by simp)).trans htc.out (fun x hx => .inr (Nat.le_trans HT2.out.size (HN1.out x hx)))).trans HT8.out (by simp)⟩
              · omega
end Go.Proofs.Ytjnhldcgemcjbaa.Tm
