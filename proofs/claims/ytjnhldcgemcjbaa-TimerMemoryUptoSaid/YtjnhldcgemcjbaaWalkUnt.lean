/- The walk of untouched; no condition. -/
import Derived.Test.YtjnhldcgemcjbaaUnt
namespace Go.Proofs.Ytjnhldcgemcjbaa.Tm
open Go.RowKit Go.Maps
set_option linter.unusedVariables false

set_option maxHeartbeats 8000000 in
set_option maxRecDepth 100000 in
theorem unt_calls {w : World} {A0 A1 : Option Addr} {n0 n1 cap0 cap1 : Nat} {l0 : List Pr} {l1 : List Int} (h0 : RdPr w A0 n0 l0) (h1 : RdI w A1 n1 l1) (hs0 : n0 ≤ 1048576) (hs1 : n1 ≤ 1048576) :
    Calls Try.prog 12 #[.slice A0 n0 cap0, .slice A1 n1 cap1] w fun e w' => e = .returned (.bool true) ∧ Touch [] w w' := by
  have H0 := Lib.hid h0
  have H1 := Lib.hid h1
  clear h0 h1
  go_enter Try.func12, Try.ntmps12
  go_wp2_with fail
  refine (newE_calls w 65536 (by omega) (by omega)).mono ?_
  rintro e wa ⟨tb, s, rfl, S, hT, ht, hnew, hz, hv⟩
  have HT := Lib.hid hT
  have HTA := Lib.hid ht
  have HN := Lib.hid hnew
  have HV := Lib.hid hv
  clear hT ht hnew hv hz
  go_wp2
  go_loopw [7, 8, 9] (fun v7 v8 v9 wr => ∃ (k : Nat) (S : List Nat) (s : St) (E F : List En), v9 = .int .i64 k ∧ k ≤ n1 ∧ Hid (Tim wr tb S 65536 s) ∧ Hid (Sub l0 s) ∧ Hid (∀ b ∈ S, w.heap.size ≤ b) ∧ Hid (Gath w wr v7 v8 E F) ∧ Hid (E.length = 2 * k) ∧ Hid (∀ p ∈ E, p.2.length ≤ 300) ∧ Hid (Touch [] w wr)) (fun _ _ v9 _ => n1 - (intOf v9).toNat)
  case atStart => exact ⟨0, S, s, [], [], rfl, Nat.zero_le _, HT, Lib.hid (fun y hy => by rw [HV.out] at hy; cases hy), HN, Lib.hid (Gath.start _ _), Lib.hid rfl, Lib.hid (by simp), HTA⟩
  case round =>
    clear HT HTA HN HV
    obtain ⟨k, S, s, E, F, rfl, hk, hT, hS, hN, hG, hE, h300, hTc⟩ := hrel
    by_cases hlt : k < n1
    · have b1 : (k : Int) < (n1 : Int) := by omega
      obtain ⟨wo, rfl⟩ : ∃ wo : World, wo = wr := ⟨_, rfl⟩
      go_wp2
      go_loopw [10] (fun v10 wr => ∃ (i : Nat) (S : List Nat) (s : St), v10 = .int .i64 i ∧ i ≤ n0 ∧ Hid (Tim wr tb S 65536 s) ∧ Hid (Sub l0 s) ∧ Hid (∀ b ∈ S, w.heap.size ≤ b) ∧ Hid (Gath w wr u7 u8 E F) ∧ Hid (Touch [] w wr)) (fun v10 _ => n0 - (intOf v10).toNat)
      case atStart => exact ⟨0, S, s, rfl, Nat.zero_le _, hT, hS, hN, hG, hTc⟩
      case round =>
        clear hT hS hN hG hTc
        obtain ⟨i, S, s, rfl, hi, hT, hS, hN, hG, hTc⟩ := hrel
        obtain ⟨wq, rfl⟩ : ∃ wq : World, wq = wr := ⟨_, rfl⟩
        go_upto_region 10 with (fail)
        go_cut [45] (fun v45 wc => wq = wc ∧ ∃ bb : Bool, v45 = .bool bb ∧ Hid (bb = true ↔ (i < n0 ∧ i < 300)))
        case first =>
          by_cases h1 : i < n0
          · have b2 : (i : Int) < (n0 : Int) := by omega
            by_cases h2 : i < 300
            · have b3 : (i : Int) < 300 := by omega
              go_wp2
              go_meet
              case rel => exact ⟨rfl, true, rfl, Lib.hid (by simp [h1, h2])⟩
            · have b3 : ¬ (i : Int) < 300 := by omega
              go_wp2
              go_meet
              case rel => exact ⟨rfl, false, rfl, Lib.hid (by simp [h1, h2])⟩
          · have b2 : ¬ (i : Int) < (n0 : Int) := by omega
            go_wp2
            go_meet
            case rel => exact ⟨rfl, false, rfl, Lib.hid (by simp [h1])⟩
        case rest =>
        obtain ⟨rfl, bb, rfl, hbb⟩ := hcut
        cases bb with
        | true =>
          have hin := hbb.out.1 rfl
          have b2 : (i : Int) < (n0 : Int) := by omega
          have b3 : (i : Int) < 300 := by omega
          have hR := H0.out.kept hTc.out
          obtain ⟨b, off, hA, hb, hc⟩ := hR.at_ (by omega)
          have HA := Lib.hid hA
          clear hA
          obtain ⟨⟨x0, x1⟩, hx⟩ : ∃ x, l0[i]? = some x := ⟨_, List.getElem?_eq_getElem (by rw [H0.out.len]; omega)⟩
          obtain ⟨m0, m1⟩ := hc i _ hx
          dsimp only at m0 m1
          have HX := Lib.hid hx
          have HWF := Lib.hid (H0.out.wf _ (List.mem_of_getElem? hx))
          have hsl := hS.out.len hT.out.ok.inv
          clear hR hc hx
          obtain rfl := HA.out
          go_wp2_with fail
          go_still_tail 11, (by kernel_rfl)
          change wpList _ _ _ _ _ (World.drew wq)
          go_wp2_with fail
          have hd : Touch [] wq wq.drew := (Touch.refl [] wq).drew
          refine (set_calls (hT.out.kept hd (by simp)) x0 x1 HWF.out.1 HWF.out.2).mono ?_
          rintro e w5 ⟨s', S', g, hh⟩
          have G := Lib.hid g
          have HD := Lib.hid hd
          clear g m0 m1 hd
          rcases hh with ⟨_, hx5, _⟩ | ⟨_, rfl, _, hv5⟩
          · omega
          have HV5 := Lib.hid hv5
          clear hv5
          go_wp2
          go_roundw
          case rel =>
            exact ⟨i + 1, S', s', by go_num, by omega, Lib.hid G.out.tim, Lib.hid (hS.out.set HX.out (by omega) HV5.out), Lib.hid (fun b hb => by
              rcases G.out.sub b hb with h | h
              · exact hN.out b h
              · have := hTc.out.size; have : wq.drew.heap.size = wq.heap.size := rfl; omega), Lib.hid ((hG.out.near HD.out).tim (hT.out.kept HD.out (by simp)) G.out.touch), Lib.hid ((hTc.out.trans HD.out (by simp)).trans G.out.touch (fun x hx => .inr (hN.out x hx)))⟩
          case measure => simp [intOf]; omega
        | false =>
          have hsl := hS.out.len hT.out.ok.inv
          obtain ⟨b, off, hA, hb, hc⟩ := (H1.out.kept hTc.out).at_ (by omega)
          have HA := Lib.hid hA
          clear hA
          obtain ⟨x0, hx⟩ : ∃ x, l1[k]? = some x := ⟨_, List.getElem?_eq_getElem (by rw [H1.out.len]; omega)⟩
          have m0 := hc k _ hx
          have HX := Lib.hid hx
          clear hc hx hi
          obtain rfl := HA.out
          go_wp2_with fail
          refine (due_calls hT.out x0).mono ?_
          rintro e w5 ⟨Va, la, s5, rfl, T5, t5, ra, D5⟩
          have m1 : w5.cell? ⟨b, off + k, none⟩ = some (.int .i64 x0) := by
            have htt : Touch [] w w5 := hTc.out.trans t5 (fun x hx => .inr (hN.out x hx))
            obtain ⟨b', off', hA', _, hc'⟩ := (H1.out.kept htt).at_ (by omega)
            injection hA' with hA'; injection hA' with hA1 hA2; subst hA1 hA2
            exact hc' k _ HX.out
          have HSL := hS.out
          have hla : la.length ≤ 300 := by have := D5.len; omega
          generalize hLa : la.map (·.1) = La at ra
          have hLl : La.length ≤ 300 := by rw [← hLa]; simpa using hla
          obtain ⟨Aa, ca, hva⟩ := ra.form
          subst hva
          have RAB := Lib.hid ra.block
          have P5 := Lib.hid T5
          have HT5 := Lib.hid t5
          have RA := Lib.hid ra
          have S5 := Lib.hid (HSL.due D5)
          clear T5 t5 ra D5 HSL m0 hLa hla
          go_wp2_with fail
          refine (due_calls P5.out x0).mono ?_
          rintro e w6 ⟨Vb, lb, s6, rfl, T6, t6, rb, D6⟩
          have hlb : lb.length ≤ 300 := by have := D6.len; have := S5.out.len P5.out.ok.inv; omega
          generalize hLb : lb.map (·.1) = Lb at rb
          have hLm : Lb.length ≤ 300 := by rw [← hLb]; simpa using hlb
          obtain ⟨Ab, cb, hvb⟩ := rb.form
          subst hvb
          have RBB := Lib.hid rb.block
          have P6 := Lib.hid T6
          have RA6 := Lib.hid (RA.out.kept t6 (RA.out.no_tim P5.out))
          have RB := Lib.hid rb
          have S6 := Lib.hid (S5.out.due D6)
          have HG6 := Lib.hid ((hG.out.tim hT.out HT5.out).tim P5.out t6)
          have HTC6 := Lib.hid ((hTc.out.trans HT5.out (fun x hx => .inr (hN.out x hx))).trans t6 (fun x hx => .inr (hN.out x hx)))
          have hsz5 : wq.heap.size ≤ w5.heap.size := HT5.out.size
          have hELT : ∀ p ∈ E, ∀ b, p.1.ownBlock = some b → b < wq.heap.size := fun p hp b hb => (hG.out.2.2.1.row p hp).lt b hb
          have HEL := Lib.hid hELT
          have HF2 : Hid (F.length = 2 * k) := Lib.hid (by have := congrArg List.length hG.out.2.2.2.2.1; simp at this; rw [← this]; exact hE.out)
          have hE2 : E.length ≤ 2097152 := by have := hE.out; omega
          have hF2 : F.length ≤ 2097152 := by have := HF2.out; omega
          clear T6 t6 rb D6 m1 hELT hLb hlb
          go_wp2_with (at_builtin; first
            | (refine wpList_append_vr (by rfl) (.tmp 74) (.tmp 77) 64 37 1 24 _ Try.underlying64 (by rfl) info37 rfl (by omega) (by omega) u7 E.length (E.map (·.1)) 2 #[.slice Aa La.length ca, .slice Ab Lb.length cb] (by rfl) HG6.out.1 (by rfl) (by rfl) (by simp [Value.oneCell']) (by omega) ?_
               intro A7 c7 w7 q7 t7 o7
               have Q7 := Lib.hid q7
               have T7 := Lib.hid t7
               have O7 := Lib.hid o7
               have RA7 := Lib.hid (RA6.out.kept t7 (RA6.out.off HG6.out.1 (by decide)))
               have RB7 := Lib.hid (RB.out.kept t7 (RB.out.off HG6.out.1 (by decide)))
               clear q7 t7 o7)
            | (refine wpList_append_copy (by rfl) (.const (.slice none 0 0)) (.tmp 80) (by rfl) (.slice Aa La.length ca) La (by rfl) RA7.out.vw (by rfl) (by omega) ?_
               intro A8 c8 w8 q8 t8
               have Q8 := Lib.hid q8
               have T8 := Lib.hid t8
               have RB8 := Lib.hid (RB7.out.kept t8 (by simp))
               clear q8 t8)
            | (refine wpList_append_copy (by rfl) (.const (.slice none 0 0)) (.tmp 82) (by rfl) (.slice Ab Lb.length cb) Lb (by rfl) RB8.out.vw (by rfl) (by omega) ?_
               intro A9 c9 w9 q9 t9
               have Q9 := Lib.hid q9
               have T9 := Lib.hid t9
               have T89 := Lib.hid (T8.out.trans t9 (by simp))
               have Q8' := Lib.hid (Q8.out.kept t9 (by simp))
               have HF9 := Lib.hid ((HG6.out.2.1.kept T7.out (fun k hk hx => by simp at hx; exact HG6.out.2.2.2.2.2.1 k hx hk)).kept T89.out (by simp))
               clear q9 t9)
            | (refine wpList_append_vr (by rfl) (.tmp 79) (.tmp 84) 64 37 1 24 _ Try.underlying64 (by rfl) info37 rfl (by omega) (by omega) u8 F.length (F.map (·.1)) 2 #[.slice A8 La.length c8, .slice A9 Lb.length c9] (by rfl) HF9.out (by rfl) (by rfl) (by simp [Value.oneCell']) (by omega) ?_
               intro A10 c10 w10 q10 t10 o10
               have Q10 := Lib.hid q10
               have T10 := Lib.hid t10
               have O10 := Lib.hid o10
               clear q10 t10 o10))
          go_roundw
          case rel =>
            have hszw := hTc.out.size
            have hT7 : Tim w7 tb S 65536 s6 := P6.out.kept T7.out (fun k hk hx => HG6.out.1.no_tim (by decide) (by decide) P6.out k (by simpa using hx) hk)
            have hT9 := hT7.kept T89.out (by simp)
            have hT10 : Tim w10 tb S 65536 s6 := hT9.kept T10.out (fun k hk hx => HF9.out.no_tim (by decide) (by decide) hT9 k (by simpa using hx) hk)
            refine ⟨k + 1, S, s6, _, _, by go_num, by omega, Lib.hid hT10, S6, hN, Lib.hid (HG6.out.more (by have := HTC6.out.size; omega) RA6.out RB.out ?_ ?_ ?_ ?_ ?_ Q7.out T7.out O7.out T89.out Q8'.out Q9.out Q10.out T10.out O10.out), Lib.hid ?_, Lib.hid ?_, Lib.hid ?_⟩
            · intro p hp b hb hb2
              have := HEL.out p hp b hb
              have := (RAB.out b hb2).1
              omega
            · intro p hp b hb hb2
              have := HEL.out p hp b hb
              have := (RBB.out b hb2).1
              omega
            · intro b hb hb2
              have := (RAB.out b hb).2
              have := (RBB.out b hb2).1
              omega
            · intro b hb
              have := (RAB.out b hb).1
              omega
            · intro b hb
              have := (RBB.out b hb).1
              omega
            · have := hE.out; simp; omega
            · intro p hp
              rcases List.mem_append.1 hp with h | h
              · exact h300.out p h
              · simp at h
                rcases h with rfl | rfl
                · exact hLl
                · exact hLm
            · have h7 := HG6.out.2.2.2.2.2.2.1
              have h8 := HG6.out.2.2.2.2.2.2.2.1
              exact ((HTC6.out.trans T7.out (fun x hx => .inr (h7 x (by simpa using hx)))).trans T89.out (by simp)).trans T10.out (fun x hx => .inr (h8 x (by simpa using hx)))
          case measure => simp [intOf]; omega
    · have b1 : ¬ (k : Int) < (n1 : Int) := by omega
      obtain ⟨wo, rfl⟩ : ∃ wo : World, wo = wr := ⟨_, rfl⟩
      have HG := Lib.hid hG.out
      obtain ⟨A7, c7, hv7⟩ := hG.out.1.form
      obtain ⟨A8, c8, hv8⟩ := hG.out.2.1.form
      subst hv7 hv8
      have hEF : F.length = E.length := by have := congrArg List.length HG.out.2.2.2.2.1; simpa using this.symm
      have HEF := Lib.hid hEF
      have hE2 : E.length ≤ 2097152 := by have := hE.out; omega
      rw [hEF] at hG
      clear hT hS hN hE hEF hlt
      go_wp2
      go_loopw [13] (fun v13 wr => ∃ i : Nat, v13 = .int .i64 i ∧ i ≤ E.length ∧ Hid (Touch [] wo wr)) (fun v13 _ => E.length - (intOf v13).toNat)
      case atStart => exact ⟨0, rfl, Nat.zero_le _, Lib.hid (Touch.refl _ _)⟩
      case round =>
        obtain ⟨i, rfl, hi, hti⟩ := hrel
        by_cases hil : i < E.length
        · have b2 : (i : Int) < (E.length : Int) := by omega
          have b3 : (i : Int) < (F.length : Int) := by rw [HEF.out]; omega
          have HGi := Lib.hid (HG.out.near hti.out)
          obtain ⟨⟨V, la⟩, hx⟩ : ∃ x, E[i]? = some x := ⟨_, List.getElem?_eq_getElem hil⟩
          obtain ⟨⟨Wv, lb⟩, hy⟩ : ∃ x, F[i]? = some x := ⟨_, List.getElem?_eq_getElem (by rw [HEF.out]; exact hil)⟩
          have hla : la = lb := by
            have h5 := congrArg (fun z : List (List Int) => z[i]?) HG.out.2.2.2.2.1
            simp [hx, hy] at h5
            exact h5
          subst hla
          obtain ⟨g7, c7', hV7, hg7, m7⟩ := HGi.out.1.at_ (by omega)
          injection hV7 with hA7 _ hC7
          have k7 := m7 i V (by simp [hx])
          obtain ⟨g8, c8', hV8, hg8, m8⟩ := HGi.out.2.1.at_ (by rw [HEF.out]; omega)
          injection hV8 with hA8 _ hC8
          have k8 := m8 i Wv (by simp [hy])
          have rV := HGi.out.2.2.1.row _ (List.mem_of_getElem? hx)
          have rW := HGi.out.2.2.2.1 _ (List.mem_of_getElem? hy)
          dsimp only at rV rW
          obtain ⟨AV, cV, hvV⟩ := rV.form
          subst hvV
          obtain ⟨AW, cW, hvW⟩ := rW.form
          subst hvW
          have RV := Lib.hid rV
          have RW := Lib.hid rW
          have n1 := fun u : Near wr => u.cell k7
          have n2 := fun u : Near wr => u.cell k8
          have HA7 := Lib.hid hA7
          have HA8 := Lib.hid hA8
          clear m7 m8 rV rW hx hy hA7 hA8 hC7 hC8
          obtain rfl := HA7.out
          obtain rfl := HA8.out
          go_wp2
          refine wp_region_near (by kernel_rfl) (by kernel_rfl) ?_
          repeat (go_big_quiet_step ((go_at_call 17; refine near_call _ (same_calls (RV.out.kept (Near.near _) (by simp)) (RW.out.kept (Near.near _) (by simp))))))
          refine wpQuiet_nil ?_
          rintro _ ⟨u, rfl⟩
          have TU := Lib.hid (hti.out.trans u.near (by simp))
          clear n1 n2
          go_wp2
          go_roundw
          case rel => exact ⟨i + 1, by go_num, by omega, TU⟩
          case measure => simp [intOf]; omega
        · have b2 : ¬ (i : Int) < (E.length : Int) := by omega
          have HMK := Lib.hid (HG.out.near hti.out).marked
          have TC := Lib.hid (hTc.out.trans hti.out (by simp))
          clear HG hG hti hTc HEF
          go_wp2
          go_loopw [14, 15] (fun v14 v15 wr => ∃ (i : Nat) (M : List En), v14 = .int .i64 i ∧ i ≤ E.length ∧ Hid (Marked w wr (.slice A7 E.length c7) E M i) ∧ Hid (∀ p ∈ M, p.2.length ≤ 300) ∧ Hid (Touch [] w wr)) (fun v14 _ _ => E.length - (intOf v14).toNat)
          case atStart => exact ⟨0, E, rfl, Nat.zero_le _, HMK, h300, TC⟩
          case round =>
            clear HMK TC h300
            obtain ⟨i, M, rfl, hi, hm, h300, hTc⟩ := hrel
            obtain ⟨wz, rfl⟩ : ∃ wz : World, wz = wr := ⟨_, rfl⟩
            by_cases hil : i < E.length
            · have b3 : (i : Int) < (E.length : Int) := by omega
              obtain ⟨A, n, c, l, hmid⟩ := hm.out.begin_ hil
              have HMID := Lib.hid hmid
              clear hmid
              go_wp2
              go_loopw [15] (fun v15 wr => ∃ (k : Nat) (M : List En) (l : List Int), v15 = .int .i64 k ∧ Hid (Marked w wr (.slice A7 E.length c7) E M i) ∧ Hid (Mid M i k A n c l) ∧ Hid (∀ p ∈ M, p.2.length ≤ 300) ∧ Hid (Touch [] w wr)) (fun v15 _ => n - (intOf v15).toNat)
              case atStart => exact ⟨0, M, l, rfl, hm, HMID, h300, hTc⟩
              case round =>
                clear hm HMID h300 hTc
                obtain ⟨k, M, l, rfl, hm, hmid, h300, hTc⟩ := hrel
                obtain ⟨wq, rfl⟩ : ∃ wq : World, wq = wr := ⟨_, rfl⟩
                obtain ⟨g, hg7, hc7, hkn, hat⟩ := hm.out.mid_at hmid.out hil h300.out
                have HA7 := Lib.hid hg7
                clear hg7
                obtain rfl := HA7.out
                by_cases hlt : k < n
                · obtain ⟨g', hA', hc', hz'⟩ := hat hlt
                  obtain ⟨v', hv'⟩ := hc'
                  have HA' := Lib.hid hA'
                  clear hA'
                  obtain rfl := HA'.out
                  have b4 : (k : Int) < (n : Int) := by omega
                  go_wp2
                  go_roundw
                  case rel =>
                    obtain ⟨s1, s2, s3⟩ := hm.out.store hmid.out hlt
                    exact ⟨k + 1, _, _, by go_num, Lib.hid s1, Lib.hid s2, Lib.hid (Marked.len_set hmid.out h300.out), Lib.hid (hTc.out.setCell _ _ (.inr s3))⟩
                  case measure => simp [intOf]; omega
                · have b4 : ¬ (k : Int) < (n : Int) := by omega
                  obtain rfl : k = n := by have := hmid.out.2.2.1; omega
                  go_wp2
                  go_roundw
                  case rel => exact ⟨i + 1, M, by go_num, by omega, Lib.hid (hm.out.next hmid.out), h300, hTc⟩
                  case measure => simp [intOf]; omega
            · have b3 : ¬ (i : Int) < (E.length : Int) := by omega
              obtain rfl : i = E.length := by omega
              have HGR := Lib.hid (Grew.start hm.out hTc.out.size)
              have HM := hm
              obtain ⟨wp, rfl⟩ : ∃ wp : World, wp = wz := ⟨_, rfl⟩
              have H300 := h300
              clear hm hil hi h300
              go_wp2
              go_loopw [16, 17] (fun v16 v17 wr => ∃ (i : Nat) (G : List En), v17 = .int .i64 i ∧ i ≤ E.length ∧ G.length = i ∧ Hid (Grew w wp wr (.slice A7 E.length c7) v16 E M G) ∧ Hid (∀ p ∈ G, p.2.length ≤ 71000) ∧ Hid (Touch [] w wr)) (fun _ v17 _ => E.length - (intOf v17).toNat)
              case atStart => exact ⟨0, [], rfl, Nat.zero_le _, rfl, HGR, Lib.hid (by simp), hTc⟩
              case round =>
                clear HGR hTc
                obtain ⟨i, G, rfl, hi, hGl, hG, h71, hTc⟩ := hrel
                obtain ⟨wz, rfl⟩ : ∃ wz : World, wz = wr := ⟨_, rfl⟩
                subst hGl
                by_cases hil : G.length < E.length
                · have b3 : (G.length : Int) < (E.length : Int) := by omega
                  obtain ⟨A, n, c, l, hq⟩ := hG.out.marked.begin_ hil
                  obtain ⟨g, hg7, hc7, hn3, _⟩ := hG.out.marked.mid_at hq hil H300.out
                  have HQ := Lib.hid hq
                  have HG0 : Hid (Growing wz M G.length wz.heap.size (.slice A n c) l) := Lib.hid (hG.out.growing hq)
                  have HNL : Hid (l.length = n) := Lib.hid hq.2.1.symm
                  have HA7 := Lib.hid hg7
                  clear hq hg7
                  obtain rfl := HA7.out
                  go_wp2
                  go_loopw [18, 19] (fun v18 v19 wr => ∃ (q : Nat) (l : List Int), v19 = .int .i64 q ∧ q ≤ 70000 ∧ Hid (Grew w wp wr (.slice (some ⟨g, 0, none⟩) E.length c7) u16 E M G) ∧ Hid (Growing wr M G.length wz.heap.size v18 l) ∧ Hid (l.length = n + q) ∧ Hid (Touch [] w wr) ∧ Hid (wz.heap.size ≤ wr.heap.size)) (fun _ v19 _ => 70000 - (intOf v19).toNat)
                  case atStart => exact ⟨0, l, rfl, by omega, hG, HG0, HNL, hTc, Lib.hid (Nat.le_refl _)⟩
                  case round =>
                    clear HG0 HNL hTc
                    obtain ⟨q, l, rfl, hq, hGr, hl, hln, hTc, hsz⟩ := hrel
                    obtain ⟨A18, c18, hV18⟩ := hl.out.row.form
                    subst hV18
                    obtain ⟨wq, rfl⟩ : ∃ wq : World, wq = wr := ⟨_, rfl⟩
                    have hln2 : l.length ≤ 70300 := by have := hln.out; omega
                    have hc2 := hGr.out.marked.load HQ.out hil H300.out
                    go_upto_region 37 with (fail)
                    go_cut [146] (fun v146 wc => ∃ bb : Bool, v146 = .bool bb ∧ Hid (bb = true → q < 70000) ∧ Hid (Touch [] wq wc))
                    case first =>
                      by_cases h1 : l.length < c
                      · have b4 : (l.length : Int) < (c : Int) := by omega
                        by_cases h2 : q < 70000
                        · have b5 : (q : Int) < 70000 := by omega
                          go_wp2
                          go_meet
                          case rel => exact ⟨true, rfl, Lib.hid (fun _ => h2), Lib.hid (Touch.refl _ _)⟩
                        · have b5 : ¬ (q : Int) < 70000 := by omega
                          go_wp2
                          go_meet
                          case rel => exact ⟨false, rfl, Lib.hid (by simp), Lib.hid (Touch.refl _ _)⟩
                      · have b4 : ¬ (l.length : Int) < (c : Int) := by omega
                        go_wp2
                        go_meet
                        case rel => exact ⟨false, rfl, Lib.hid (by simp), Lib.hid (Touch.refl _ _)⟩
                    case rest =>
                    obtain ⟨bb, rfl, hbb, htc⟩ := hcut
                    cases bb with
                    | true =>
                      have h2 := hbb.out rfl
                      have HGc := Lib.hid (hGr.out.near htc.out)
                      have HLc := Lib.hid (hl.out.near htc.out)
                      have hszc : Hid (wz.heap.size ≤ wc.heap.size) := Lib.hid (Nat.le_trans hsz.out htc.out.size)
                      have HTc := Lib.hid (hTc.out.trans htc.out (by simp))
                      have hE2 : G.length ≤ 2097152 := by omega
                      have hl71 : l.length + 1 < 8796093022208 := by omega
                      clear hGr hl hsz hTc hc2 hbb htc
                      go_wp2_with (at_builtin; refine wpList_append_vs (by rfl) (.tmp 149) (.tmp 152) (by rfl) 0 (.slice A18 l.length c18) l [-1 - (G.length : Int)] (by rfl) HLc.out.row (by omega) (by rfl) hl71 ?_
                                   intro A' c' w' r t o
                                   have R := Lib.hid r
                                   have K := Lib.hid t
                                   have O := Lib.hid o
                                   clear r t o)
                      go_roundw
                      case rel =>
                        obtain ⟨n1, n2⟩ := Grew.grow hG.out HGc.out HLc.out K.out R.out O.out hszc.out
                        exact ⟨q + 1, l ++ [markOf G.length], by go_num, by omega, Lib.hid n1, Lib.hid n2, Lib.hid (by simp; have := hln.out; omega), Lib.hid (HTc.out.trans K.out.1 (fun x hx => .inr (Growing.old hG.out HLc.out x (by simpa using hx)))), Lib.hid (Nat.le_trans hszc.out K.out.1.size)⟩
                      case measure => simp [intOf]; omega
                    | false =>
                      have HGc := Lib.hid (hGr.out.near htc.out)
                      have HLc := Lib.hid (hl.out.near htc.out)
                      have HTc := Lib.hid (hTc.out.trans htc.out (by simp))
                      have hE2 : G.length + 1 < 1099511627776 := by omega
                      clear hGr hl hsz hTc hc2 hbb htc
                      go_wp2_with (at_builtin; refine wpList_append_vr (by rfl) (.tmp 154) (.tmp 156) 64 37 1 24 _ Try.underlying64 (by rfl) info37 rfl (by omega) (by omega) u16 G.length (G.map (·.1)) 1 #[.slice A18 l.length c18] (by rfl) HGc.out.row (by rfl) (by rfl) (by simp [Value.oneCell']) hE2 ?_
                                   intro A' c' w' r t o
                                   have R := Lib.hid r
                                   have K := Lib.hid t
                                   have O := Lib.hid o
                                   clear r t o)
                      go_roundw
                      case rel =>
                        refine ⟨G.length + 1, G ++ [(.slice A18 l.length c18, l)], by go_num, by omega, by simp, Lib.hid (Grew.more HGc.out HLc.out hG.out.size.2 R.out K.out O.out), Lib.hid ?_, Lib.hid (HTc.out.trans K.out (fun x hx => .inr (HGc.out.new x (by simpa using hx))))⟩
                        intro p hp
                        rcases List.mem_append.1 hp with h | h
                        · exact h71.out p h
                        · simp at h; subst h; dsimp only; omega
                      case measure => simp [intOf]; omega
                · have b3 : ¬ (G.length : Int) < (E.length : Int) := by omega
                  have hGE : G.length = E.length := by omega
                  have HGE := Lib.hid hGE
                  have hGm : G.length ≤ 2097152 := by omega
                  obtain ⟨A16, c16, hV16⟩ := hG.out.row.form
                  subst hV16
                  clear hi hil hGE
                  go_wp2
                  go_loopw [20, 21] (fun v20 v21 wr => ∃ i : Nat, v20 = .int .i64 i ∧ i ≤ G.length ∧ Hid (Touch [] wz wr)) (fun v20 _ _ => G.length - (intOf v20).toNat)
                  case atStart => exact ⟨0, rfl, Nat.zero_le _, Lib.hid (Touch.refl _ _)⟩
                  case round =>
                    obtain ⟨i, rfl, hi, hti⟩ := hrel
                    obtain ⟨wo, rfl⟩ : ∃ wo : World, wo = wr := ⟨_, rfl⟩
                    by_cases hil : i < G.length
                    · have b4 : (i : Int) < (G.length : Int) := by omega
                      have b7 : (i : Int) < (E.length : Int) := by have := HGE.out; omega
                      have HF := Lib.hid (hG.out.near hti.out)
                      obtain ⟨g7, g16, A, n, c, A2, n2, c2, h0, h1, k16, k7, hn, hn2, hr, hr2⟩ := HF.out.fin hil HGE.out H300.out h71.out
                      have HA16 := Lib.hid h1
                      have HR := Lib.hid hr
                      have HR2 := Lib.hid hr2
                      have HA7 := Lib.hid h0
                      clear h0 h1 hr hr2
                      obtain rfl := HA16.out
                      obtain rfl := HA7.out
                      go_wp2
                      go_loopw [21] (fun v21 wr => ∃ k : Nat, v21 = .int .i64 k ∧ k ≤ n ∧ Hid (Touch [] wo wr)) (fun v21 _ => n - (intOf v21).toNat)
                      case atStart => exact ⟨0, rfl, Nat.zero_le _, Lib.hid (Touch.refl _ _)⟩
                      case round =>
                        obtain ⟨k, rfl, hk, htk⟩ := hrel
                        obtain ⟨wq, rfl⟩ : ∃ wq : World, wq = wr := ⟨_, rfl⟩
                        have q16 := cell_touch htk.out k16 (by simp)
                        have q7 := cell_touch htk.out k7 (by simp)
                        by_cases hkn : k < n
                        · have b5 : (k : Int) < (n : Int) := by omega
                          obtain ⟨ga, hga, hca⟩ := HR.out k hkn
                          have HGA := Lib.hid hga
                          have qa := cell_touch htk.out hca (by simp)
                          clear hga hca
                          obtain rfl := HGA.out
                          by_cases hk2 : k < n2
                          · have b6 : (k : Int) < (n2 : Int) := by omega
                            obtain ⟨gb, hgb, hcb⟩ := HR2.out k hk2
                            have HGB := Lib.hid hgb
                            have qb := cell_touch htk.out hcb (by simp)
                            clear hgb hcb
                            obtain rfl := HGB.out
                            go_wp2
                            go_roundw
                            case rel => exact ⟨k + 1, by go_num, by omega, htk⟩
                            case measure => simp [intOf]; omega
                          · have b6 : ¬ (k : Int) < (n2 : Int) := by omega
                            go_wp2
                            go_roundw
                            case rel => exact ⟨k + 1, by go_num, by omega, htk⟩
                            case measure => simp [intOf]; omega
                        · have b5 : ¬ (k : Int) < (n : Int) := by omega
                          go_wp2
                          go_roundw
                          case rel => exact ⟨i + 1, by go_num, by omega, Lib.hid (hti.out.trans htk.out (by simp))⟩
                          case measure => simp [intOf]; omega
                    · have b4 : ¬ (i : Int) < (G.length : Int) := by omega
                      go_wp2
                      go_ret
                      exact ⟨rfl, hTc.out.trans hti.out (by simp)⟩
end Go.Proofs.Ytjnhldcgemcjbaa.Tm
