/- weftref3.Copied; no condition. -/
import Derived.Test.YtelfemhnijnhfaaFL
import Derived.Deep.CutBlock
namespace Go.Proofs.Ytelfemhnijnhfaa.Fr
open Go.RowKit Go.Maps
set_option linter.unusedVariables false
set_option maxRecDepth 100000
attribute [local go_sem] nilB

set_option maxHeartbeats 4000000 in
theorem rcopiedo_calls {w : World} {V : Value} {l : List Int} (h : RdB w V l) (hlen : l.length < 4611686018427387904) :
    Calls Try.prog 34 #[V] w (CopiedPost w l) := by
  have HV := Lib.hid h
  obtain ⟨A, cap, rfl⟩ := h.len_lt
  obtain ⟨⟨A', cap', hV, hcap, _, hr⟩, wf⟩ := h
  simp only [Value.slice.injEq, true_and] at hV
  obtain ⟨rfl, rfl⟩ := hV
  have HR := Lib.hid hr
  have WF := Lib.hid wf
  clear hr wf
  go_enter Try.func34, Try.ntmps34
  go_wp2_with fail
  refine (area_calls HV.out hlen).mono ?_
  rintro e w' ⟨rfl, rfl⟩
  by_cases ha : areaB l = false
  · have HA := Lib.hid ha
    rw [ha]
    clear ha
    go_wp2
    go_ret2
    exact ⟨Touch.refl _ _, .inl ⟨HA.out, rfl⟩⟩
  have HA := Lib.hid (show areaB l = true by simpa using ha)
  rw [HA.out]
  clear ha
  have hok : Hid (optsOK l = true) := Lib.hid (by have := HA.out; unfold areaB at this; simp at this; exact this.2)
  have l40 : l.length ≤ 40 := by have := HA.out; unfold areaB at this; simp at this; omega
  clear hlen
  go_upto_block 0 with (fail)
  go_cut [4] from 5 to 36 (fun v4 wc => ∃ (A4 : Option Addr) (c4 : Nat), v4 = .slice A4 (copyO l).length c4 ∧ Hid (OwB wc (.slice A4 (copyO l).length c4) (copyO l)) ∧ Hid (Fresh w'.heap.size (.slice A4 (copyO l).length c4)) ∧ Hid (Touch [] w' wc))
  case first =>
    go_wp2_with fail
    go_loopg [4, 5] l.length (fun kq v4 v5 wr => ∃ (i : Nat) (A4 : Option Addr) (c4 : Nat) (m : List Int), v5 = .int .i64 i ∧ v4 = .slice A4 m.length c4 ∧ i ≤ l.length ∧ l.length - i ≤ kq ∧ m.length ≤ i ∧ Hid (copyO l = m ++ copyO (l.drop i)) ∧ Hid (optsOK (l.drop i) = true) ∧ Hid (OwB wr (.slice A4 m.length c4) m) ∧ Hid (Fresh w'.heap.size (.slice A4 m.length c4)) ∧ Hid (Touch [] w' wr))
    case atStart => exact ⟨0, none, 0, [], rfl, rfl, by omega, by omega, by simp, Lib.hid (by simp), Lib.hid (by simpa using hok.out), Lib.hid (OwB.nil _), Lib.hid (Fresh.nil _), Lib.hid (Touch.refl _ _)⟩
    case round =>
      obtain ⟨i, A4, c4, m, rfl, rfl, hi, hk, hm40, hC, hO, hOw, hF, hT⟩ := hrel
      by_cases hlt : i < l.length
      · obtain ⟨b, off, hA, hb, hc⟩ := HR.out (by omega)
        subst hA
        obtain ⟨x, hx⟩ : ∃ x, l[i]? = some x := ⟨_, List.getElem?_eq_getElem hlt⟩
        obtain ⟨x0, x1⟩ := WF.out x (List.mem_of_getElem? hx)
        have m0 := cell_touch hT.out (hc i x hx) (by simp)
        have lt1 : (i : Int) < (l.length : Int) := by omega
        have HX := Lib.hid hx
        have HCc := Lib.hid hc
        clear hc hx
        go_wp2_with fail
        refine (behind_calls (HV.out.near hT.out) (by omega) i hlt).mono ?_
        rintro e w1 ⟨rfl, r, rfl, hr⟩
        rcases hr with ⟨_, hf⟩ | ⟨j, rfl, hij, hjl, hok2, hcp⟩
        · have := hO.out; rw [hf] at this; cases this
        have HO2 : Hid (optsOK (l.drop j) = true) := Lib.hid (by rw [← hok2]; exact hO.out)
        have HC2 := Lib.hid (hcp hO.out x HX.out)
        clear hok2 hcp
        by_cases h128 : 128 ≤ x
        · have h128d : decide (128 ≤ x) = true := by rw [decide_eq_true_eq]; exact h128
          have HN : Hid (copyO l = (m ++ (l.drop i).take (j - i)) ++ copyO (l.drop j)) := Lib.hid (by rw [hC.out, HC2.out, if_pos h128, List.append_assoc])
          clear HC2
          revert gk
          intro g0
          intros
          rename l.length - i ≤ g0 => hk
          go_wp2_with fail
          go_loopg [4, 7] (j - i) (fun kq v4 v7 wq => ∃ (k : Nat) (A7 : Option Addr) (c7 : Nat) (m2 : List Int), v7 = .int .i64 k ∧ v4 = .slice A7 m2.length c7 ∧ i ≤ k ∧ k ≤ j ∧ j - k ≤ kq ∧ m2.length ≤ k ∧ Hid (m2 = m ++ (l.drop i).take (k - i)) ∧ Hid (OwB wq (.slice A7 m2.length c7) m2) ∧ Hid (Fresh w'.heap.size (.slice A7 m2.length c7)) ∧ Hid (Touch [] w' wq))
          case atStart => exact ⟨i, A4, c4, m, rfl, rfl, Nat.le_refl _, by omega, by omega, hm40, Lib.hid (by simp), hOw, hF, hT⟩
          case round =>
            obtain ⟨k, A7, c7, m2, rfl, rfl, hik, hkj, hkq, hm2, hM, hOw2, hF2, hT2⟩ := hrel
            by_cases hkl : k < j
            · obtain ⟨y, hy⟩ : ∃ y, l[k]? = some y := ⟨_, List.getElem?_eq_getElem (by omega)⟩
              have yw := Lib.hid (WF.out y (List.mem_of_getElem? hy))
              have my := cell_touch hT2.out (HCc.out k y hy) (by simp)
              have lk1 : (k : Int) < (j : Int) := by omega
              have lk2 : (k : Int) < (l.length : Int) := by omega
              have HN2 : Hid (m2 ++ [y] = m ++ (l.drop i).take (k + 1 - i)) := Lib.hid (by
                rw [hM.out, List.append_assoc, show k + 1 - i = (k - i) + 1 by omega, List.take_add_one, List.getElem?_drop, show i + (k - i) = k by omega, hy]; rfl)
              clear hy
              go_wp2_with (at_builtin
                           refine wpList_append_o (w0 := w') (by rfl) (.tmp 29) (.tmp 34) (by rfl) (.slice A7 m2.length c7) (.slice (some ⟨wr.heap.size, 0, none⟩) 1 1) m2 [y] (m2 ++ [y]) rfl (by rfl) (hOw2.out.near ((Touch.refl [] wr).alloc _)) (by rfl) (rdb_one wr y yw.out) (by rw [List.length_append]; simp only [List.length_cons, List.length_nil]; omega) hF2.out (hT2.out.alloc _) ?_
                           intro A8 c8 w8 h1 h2 h3
                           have O8 := Lib.hid h1
                           have F8 := Lib.hid h2
                           have T8 := Lib.hid h3
                           clear h1 h2 h3)
              go_roundg (gk - 1)
              case rel => exact ⟨k + 1, A8, c8, m2 ++ [y], by go_num, by first | rfl | simp, by omega, by omega, by omega, by rw [List.length_append]; simp only [List.length_cons, List.length_nil]; omega, HN2, O8, F8, T8⟩
              case measure => omega
            · have lk1 : ¬ (k : Int) < (j : Int) := by omega
              have hkk : k = j := by omega
              have HN3 : Hid (m2 = m ++ (l.drop i).take (j - i)) := Lib.hid (by rw [hM.out, hkk])
              clear hkk
              go_wp2
              go_roundg (g0 - 1)
              case rel => exact ⟨j, A7, c7, m2, rfl, rfl, by omega, by omega, by omega, Lib.hid (by rw [HN3.out]; exact HN.out), HO2, hOw2, hF2, hT2⟩
              case measure => omega
        · have h128d : decide (128 ≤ x) = false := by rw [decide_eq_false_iff_not]; exact h128
          have HN : Hid (copyO l = m ++ copyO (l.drop j)) := Lib.hid (by rw [hC.out, HC2.out, if_neg h128]; rfl)
          clear HC2
          go_wp2
          go_roundg (gk - 1)
          case rel => exact ⟨j, A4, c4, m, rfl, rfl, by omega, by omega, by omega, HN, HO2, hOw, hF, hT⟩
          case measure => omega
      · have lt1 : ¬ (i : Int) < (l.length : Int) := by omega
        have HDone : Hid (copyO l = m) := Lib.hid (by rw [hC.out, copy_end (by omega), List.append_nil])
        go_wp2
        go_meet
        case rel => exact ⟨A4, c4, by rw [HDone.out], by rw [HDone.out]; exact hOw, by rw [HDone.out]; exact hF, hT⟩
  case rest =>
  obtain ⟨A4, c4, rfl, hOw, hF, hT⟩ := hcut
  have hcl : (copyO l).length ≤ 40 := by have := copy_len l.length l 0 (by omega) (by simpa using hok.out); simp only [List.drop_zero] at this; omega
  have HFin : Hid (pad4 (copyO l) = copiedO l) := Lib.hid rfl
  have hfl : Hid ((copiedO l).length ≤ 40) := Lib.hid (by have := (copied_len HA.out).1; omega)
  obtain ⟨M, hM⟩ : ∃ M, M = copyO l := ⟨_, rfl⟩
  rw [← hM] at hOw hF HFin hcl ⊢
  clear hM
  go_wp2_with fail
  go_loopg [4] ((4 - M.length % 4) % 4) (fun kq v4 wr => ∃ (A4 : Option Addr) (c4 : Nat) (m : List Int), v4 = .slice A4 m.length c4 ∧ (4 - m.length % 4) % 4 ≤ kq ∧ m.length ≤ 40 ∧ Hid (pad4 m = copiedO l) ∧ Hid (OwB wr (.slice A4 m.length c4) m) ∧ Hid (Fresh w'.heap.size (.slice A4 m.length c4)) ∧ Hid (Touch [] w' wr))
  case atStart => exact ⟨A4, c4, M, rfl, Nat.le_refl _, hcl, HFin, hOw, hF, hT⟩
  case round =>
    obtain ⟨A4, c4, m, rfl, hk, hm40, hP, hOw, hF, hT⟩ := hrel
    by_cases h4 : m.length % 4 = 0
    · have e2 : (((m.length : Int) % 4) != 0) = false := by simp; omega
      have e2' : (((m.length : Int) % 4) == 0) = true := by rw [beq_iff_eq]; omega
      have HD : Hid (m = copiedO l) := Lib.hid (by rw [← hP.out, pad4_done h4])
      clear h4
      go_wp2
      go_ret2
      refine ⟨hT.out, .inr ⟨HA.out, _, rfl, ?_, hF.out⟩⟩
      rw [← HD.out]; exact hOw.out
    · have e2 : (((m.length : Int) % 4) != 0) = true := by simp; omega
      have e2' : (((m.length : Int) % 4) == 0) = false := by rw [beq_eq_false_iff_ne]; omega
      have HD := Lib.hid (pad4_step h4)
      have hm1 : Hid (m.length + 1 ≤ 40) := Lib.hid (by
        have h1 := pad4_len m
        rw [hP.out] at h1
        have := hfl.out
        omega)
      have hm2 : Hid ((m ++ [(0 : Int)]).length = m.length + 1) := Lib.hid (by simp)
      have h4' : Hid (m.length % 4 ≠ 0) := Lib.hid h4
      clear h4
      go_wp2_with (at_builtin
                   refine wpList_append_o (w0 := w') (by rfl) (.tmp 41) (.tmp 42) (by rfl) (.slice A4 m.length c4) (.slice (some ⟨wr.heap.size, 0, none⟩) 1 1) m [0] (m ++ [0]) rfl (by rfl) (hOw.out.near ((Touch.refl [] wr).alloc _)) (by rfl) (rdb_one wr 0 (by omega)) (by rw [hm2.out]; omega) hF.out (hT.out.alloc _) ?_
                   intro A5 c5 w5 h1 h2 h3
                   have O5 := Lib.hid h1
                   have F5 := Lib.hid h2
                   have T5 := Lib.hid h3
                   clear h1 h2 h3)
      go_roundg (gk - 1)
      case rel => exact ⟨A5, c5, m ++ [0], by first | rfl | simp, by rw [hm2.out]; have := h4'.out; omega, by rw [hm2.out]; exact hm1.out, Lib.hid (by rw [HD.out, hP.out]), O5, F5, T5⟩
      case measure => have := h4'.out; omega
end Go.Proofs.Ytelfemhnijnhfaa.Fr
