/- ip4.Copied; no condition. -/
import Derived.Test.YtelfemhnijnhfaaFG
import Derived.Deep.CutBlock
namespace Go.Proofs.Ytelfemhnijnhfaa.Fr
open Go.RowKit Go.Maps
set_option linter.unusedVariables false
set_option maxRecDepth 100000
attribute [local go_sem] nilB

theorem and128 {x : Int} (h0 : 0 ≤ x) (h1 : x < 256) : bits .and .u8 x 128 = if 128 ≤ x then 128 else 0 := by
  obtain ⟨n, rfl⟩ := Int.eq_ofNat_of_zero_le h0
  have hn : n < 256 := by omega
  have key : ∀ m : Fin 256, bits .and .u8 ((m.val : Nat) : Int) 128 = if (128 : Int) ≤ ((m.val : Nat) : Int) then 128 else 0 := by decide +kernel
  exact key ⟨n, hn⟩
theorem RdB.sub {w : World} {b off n cap : Nat} {l : List Int} (h : RdB w (.slice (some ⟨b, off, none⟩) n cap) l) {lo hi : Nat} (hl : lo ≤ hi) (hh : hi ≤ l.length) : RdB w (.slice (some ⟨b, off + lo, none⟩) (hi - lo) (cap - lo)) ((l.drop lo).take (hi - lo)) := by
  obtain ⟨⟨A, cp, hV, hcap, _, hr⟩, wf⟩ := h
  simp only [Value.slice.injEq] at hV
  obtain ⟨hA, hn, rfl⟩ := hV
  have hlen : ((l.drop lo).take (hi - lo)).length = hi - lo := by rw [List.length_take, List.length_drop]; omega
  refine ⟨⟨_, _, by rw [hlen], by omega, fun e => by (cases e), fun h0 => ?_⟩, fun x hx => wf x (List.mem_of_mem_drop (List.mem_of_mem_take hx))⟩
  obtain ⟨b', off', hA', hb, hc⟩ := hr (by omega)
  rw [← hA] at hA'
  simp only [Option.some.injEq, Addr.mk.injEq, and_true] at hA'
  obtain ⟨rfl, rfl⟩ := hA'
  refine ⟨b, off + lo, rfl, hb, fun i x hx => ?_⟩
  have hi2 := (List.getElem?_eq_some_iff.1 hx).1
  rw [List.getElem?_take, if_pos (by omega), List.getElem?_drop] at hx
  have := hc _ _ hx
  rw [Nat.add_assoc]; exact this
theorem wpList_append_o {w0 w : World} {ops : Array Oper} {rest : List Oper} {o : Oper} {a : Act} {Q : Exit → Act → World → Prop} (hgd : o.guard = none) (s x : Operand)
    (ho : o.op = .call { callee := .builtin .append, args := #[s, x], argTypes := #[26, 26] })
    (V VX : Value) (l m M : List Int) (hM : M = l ++ m) (hs : a.eval s = V) (hr : OwB w V l) (hx : a.eval x = VX) (hm : RdB w VX m) (hn : M.length ≤ 140737488355328) (hF : Fresh w0.heap.size V) (hT : Touch [] w0 w)
    (h : ∀ A' c' w', OwB w' (.slice A' M.length c') M → Fresh w0.heap.size (.slice A' M.length c') → Touch [] w0 w' → wpList Try.prog ops Q rest (a.put o.dst (.slice A' M.length c')) w') : wpList Try.prog ops Q (o :: rest) a w := by
  subst hM
  rw [List.length_append] at hn
  refine wpList_append_b hgd s x ho V VX l m hs hr.row hx hm hn ?_
  intro A' c' w' h1 h2 h3
  have e : l.length + m.length = (l ++ m).length := (List.length_append).symm
  rw [e] at h1 h3 ⊢
  refine h A' c' w' ⟨h1, fun y hy => ?_⟩ (Fresh.own h3 hF hT.size) (hT.trans h2 (fun y hy => .inr (hF y (by simpa using hy))))
  rcases List.mem_append.1 hy with hy | hy
  · exact hr.wf y hy
  · exact hm.wf y hy
theorem rdb_lit (w : World) (cs : List Int) (h : okB cs) : RdB (w.alloc (.cells (encB cs).toArray 5)) (.slice (some ⟨w.heap.size, 0, none⟩) cs.length cs.length) cs := by
  refine ⟨⟨_, _, rfl, Nat.le_refl _, fun e => by (cases e), fun h0 => ⟨_, _, rfl, by simp, fun i x hx => ?_⟩⟩, h⟩
  have hb := box_at w (.cells (encB cs).toArray 5 (0, 0))
  rw [Nat.zero_add]
  exact (cell_of_row _ _ i _ _ _ hb).trans (by simpa using encB_get hx)
theorem rdb_one (w : World) (x : Int) (h : 0 ≤ x ∧ x < 256) : RdB (w.alloc (.cells #[.int .u8 x] 5)) (.slice (some ⟨w.heap.size, 0, none⟩) 1 1) [x] :=
  rdb_lit w [x] (by intro y hy; simp at hy; subst hy; exact h)
theorem pad4_done {m : List Int} (h : m.length % 4 = 0) : pad4 m = m := by unfold pad4; rw [h]; simp
theorem pad4_step {m : List Int} (h : m.length % 4 ≠ 0) : pad4 (m ++ [0]) = pad4 m := by
  unfold pad4
  rw [List.length_append, List.append_assoc]
  have e : (4 - m.length % 4) % 4 = ((4 - (m.length + [(0:Int)].length) % 4) % 4) + 1 := by simp only [List.length_cons, List.length_nil]; omega
  rw [e, List.replicate_succ]
  rfl
def CopiedPost (w : World) (l : List Int) (e : Ending) (w' : World) : Prop :=
  Touch [] w w' ∧ ((areaB l = false ∧ e = .returned (.tuple #[.slice none 0 0, .int .i64 34])) ∨ (areaB l = true ∧ ∃ V, e = .returned (.tuple #[V, .int .i64 0]) ∧ OwB w' V (copiedO l) ∧ Fresh w.heap.size V))
set_option maxHeartbeats 4000000 in
theorem copiedo_calls {w : World} {V : Value} {l : List Int} (h : RdB w V l) (hlen : l.length < 4611686018427387904) :
    Calls Try.prog 30 #[V] w (CopiedPost w l) := by
  have HV := Lib.hid h
  obtain ⟨A, cap, rfl⟩ := h.len_lt
  obtain ⟨⟨A', cap', hV, hcap, _, hr⟩, wf⟩ := h
  simp only [Value.slice.injEq, true_and] at hV
  obtain ⟨rfl, rfl⟩ := hV
  have HR := Lib.hid hr
  have WF := Lib.hid wf
  clear hr wf
  go_enter Try.func30, Try.ntmps30
  go_wp2_with fail
  refine (opts_calls HV.out hlen).mono ?_
  rintro e w' ⟨rfl, rfl⟩
  by_cases ha : areaB l = false
  · have HA := Lib.hid ha
    rw [ha]
    clear ha
    go_wp2
    go_ret2
    exact ⟨Touch.refl _ _, .inl ⟨HA.out, rfl⟩⟩
  have HA := Lib.hid (show areaB l = true by simpa using ha)
  rw [HA.out]
  clear ha
  have hok : Hid (optsOK l = true) := Lib.hid (by have := HA.out; unfold areaB at this; simp at this; exact this.2)
  have l40 : l.length ≤ 40 := by have := HA.out; unfold areaB at this; simp at this; omega
  clear hlen
  go_upto_block 0 with (fail)
  go_cut [4] from 5 to 48 (fun v4 wc => ∃ (A4 : Option Addr) (c4 : Nat), v4 = .slice A4 (copyO l).length c4 ∧ Hid (OwB wc (.slice A4 (copyO l).length c4) (copyO l)) ∧ Hid (Fresh w'.heap.size (.slice A4 (copyO l).length c4)) ∧ Hid (Touch [] w' wc))
  case first =>
    go_wp2_with fail
    go_loopg [4, 5] l.length (fun kq v4 v5 wr => ∃ (i : Nat) (A4 : Option Addr) (c4 : Nat) (m : List Int), v5 = .int .i64 i ∧ v4 = .slice A4 m.length c4 ∧ i ≤ l.length ∧ l.length - i ≤ kq ∧ m.length ≤ i ∧ Hid (copyO l = m ++ copyO (l.drop i)) ∧ Hid (optsOK (l.drop i) = true) ∧ Hid (OwB wr (.slice A4 m.length c4) m) ∧ Hid (Fresh w'.heap.size (.slice A4 m.length c4)) ∧ Hid (Touch [] w' wr))
    case atStart => exact ⟨0, none, 0, [], rfl, rfl, by omega, by omega, by simp, Lib.hid (by simp), Lib.hid (by simpa using hok.out), Lib.hid (OwB.nil _), Lib.hid (Fresh.nil _), Lib.hid (Touch.refl _ _)⟩
    case round =>
      obtain ⟨i, A4, c4, m, rfl, rfl, hi, hk, hm40, hC, hO, hOw, hF, hT⟩ := hrel
      by_cases hlt : i < l.length
      · obtain ⟨b, off, hA, hb, hc⟩ := HR.out (by omega)
        subst hA
        obtain ⟨x, hx⟩ : ∃ x, l[i]? = some x := ⟨_, List.getElem?_eq_getElem hlt⟩
        obtain ⟨x0, x1⟩ := WF.out x (List.mem_of_getElem? hx)
        have m0 := cell_touch hT.out (hc i x hx) (by simp)
        have lt1 : (i : Int) < (l.length : Int) := by omega
        by_cases h0 : x = 0
        · subst h0
          have HDone : Hid (copyO l = m) := Lib.hid (by rw [hC.out, copy_zero hx, List.append_nil])
          clear hc hx
          go_wp2
          go_meet
          case rel => exact ⟨A4, c4, by rw [HDone.out], by rw [HDone.out]; exact hOw, by rw [HDone.out]; exact hF, hT⟩
        · have hx0 : (x != 0) = true := by simpa using h0
          have hx0' : (x == 0) = false := by simpa using h0
          by_cases h1 : x = 1
          · subst h1
            have hand := and128 x0 x1
            have HN := Lib.hid (copy_nop hx)
            have HO2 := Lib.hid (ok_nop hx)
            clear hc hx
            go_wp2
            go_roundg (gk - 1)
            case rel => exact ⟨i + 1, A4, c4, m, by go_num, rfl, by omega, by omega, by omega, Lib.hid (by rw [hC.out, HN.out]), Lib.hid (by rw [← HO2.out, hO.out]), hOw, hF, hT⟩
            case measure => omega
          · have hx1 : (x != 1) = true := by simpa using h1
            have hx1' : (x == 1) = false := by simpa using h1
            obtain ⟨n, hn, hn2, hnl⟩ := ok_inv hO.out hx h0 h1
            have m1 := cell_touch hT.out (hc (i + 1) n hn) (by simp)
            have hnw := WF.out n (List.mem_of_getElem? hn)
            have HN := Lib.hid (copy_next hx h0 h1 hn hn2)
            have HO2 := Lib.hid (ok_next hx h0 h1 hn hn2 hnl)
            obtain ⟨nn, rfl⟩ := Int.eq_ofNat_of_zero_le hnw.1
            have hn2' : 2 ≤ nn := by omega
            have hnl' : i + nn ≤ l.length := by omega
            have hn256 : nn < 256 := by omega
            have cn : ¬ cap = i := by omega
            have li1 : (i : Int) + 1 < (l.length : Int) := by omega
            have li2 : (i : Int) + (nn : Int) ≤ (cap : Int) := by omega
            have li3 : (i : Int) ≤ (i : Int) + (nn : Int) := by omega
            have hsub : Hid (i + nn - i = nn) := Lib.hid (by omega)
            have RX : Hid (RdB wr (.slice (some ⟨b, off + i, none⟩) (i + nn - i) (cap - i)) ((l.drop i).take nn)) := Lib.hid (by
              have h := RdB.sub (HV.out.near hT.out) (lo := i) (hi := i + nn) (by omega) hnl'
              rwa [show (l.drop i).take (i + nn - i) = (l.drop i).take nn by rw [hsub.out]] at h)
            clear hn2 hnl hnw hc hx hn
            by_cases h128 : 128 ≤ x
            · have hand : bits .and .u8 x 128 = 128 := by rw [and128 x0 x1, if_pos h128]
              have HN2 : Hid (copyO l = (m ++ (l.drop i).take nn) ++ copyO (l.drop (i + nn))) := Lib.hid (by rw [hC.out, HN.out, if_pos h128, List.append_assoc]; simp)
              have hlen2 : Hid (((l.drop i).take nn).length = nn) := Lib.hid (by rw [List.length_take, List.length_drop]; omega)
              have hin : m.length + nn ≤ i + nn := by omega
              clear h128
              go_wp2_with (at_builtin
                           refine wpList_append_o (w0 := w') (by rfl) (.tmp 38) (.tmp 44) (by rfl) (.slice A4 m.length c4) _ m ((l.drop i).take nn) (m ++ (l.drop i).take nn) rfl (by rfl) hOw.out (by rfl) RX.out (by rw [List.length_append, hlen2.out]; omega) hF.out hT.out ?_
                           intro A5 c5 w5 h1 h2 h3
                           have O5 := Lib.hid h1
                           have F5 := Lib.hid h2
                           have T5 := Lib.hid h3
                           clear h1 h2 h3)
              go_roundg (gk - 1)
              case rel => exact ⟨i + nn, A5, c5, m ++ (l.drop i).take nn, by push_cast; rfl, by first | rfl | simp, by omega, by omega, by rw [List.length_append, hlen2.out]; omega, HN2, Lib.hid (by rw [← hO.out, HO2.out]; simp), O5, F5, T5⟩
              case measure => omega
            · have hand : bits .and .u8 x 128 = 0 := by rw [and128 x0 x1, if_neg h128]
              have HN2 : Hid (copyO l = m ++ copyO (l.drop (i + nn))) := Lib.hid (by rw [hC.out, HN.out, if_neg h128]; simp)
              clear h128
              go_wp2
              go_roundg (gk - 1)
              case rel => exact ⟨i + nn, A4, c4, m, by push_cast; rfl, rfl, by omega, by omega, by omega, HN2, Lib.hid (by rw [← hO.out, HO2.out]; simp), hOw, hF, hT⟩
              case measure => omega
      · have lt1 : ¬ (i : Int) < (l.length : Int) := by omega
        have HDone : Hid (copyO l = m) := Lib.hid (by rw [hC.out, copy_end (by omega), List.append_nil])
        go_wp2
        go_meet
        case rel => exact ⟨A4, c4, by rw [HDone.out], by rw [HDone.out]; exact hOw, by rw [HDone.out]; exact hF, hT⟩
  case rest =>
  obtain ⟨A4, c4, rfl, hOw, hF, hT⟩ := hcut
  have hcl : (copyO l).length ≤ 40 := by have := copy_len l.length l 0 (by omega) (by simpa using hok.out); simp only [List.drop_zero] at this; omega
  have HFin : Hid (pad4 (copyO l) = copiedO l) := Lib.hid rfl
  have hfl : Hid ((copiedO l).length ≤ 40) := Lib.hid (by have := (copied_len HA.out).1; omega)
  obtain ⟨M, hM⟩ : ∃ M, M = copyO l := ⟨_, rfl⟩
  rw [← hM] at hOw hF HFin hcl ⊢
  clear hM
  go_wp2_with fail
  go_loopg [4] ((4 - M.length % 4) % 4) (fun kq v4 wr => ∃ (A4 : Option Addr) (c4 : Nat) (m : List Int), v4 = .slice A4 m.length c4 ∧ (4 - m.length % 4) % 4 ≤ kq ∧ m.length ≤ 40 ∧ Hid (pad4 m = copiedO l) ∧ Hid (OwB wr (.slice A4 m.length c4) m) ∧ Hid (Fresh w'.heap.size (.slice A4 m.length c4)) ∧ Hid (Touch [] w' wr))
  case atStart => exact ⟨A4, c4, M, rfl, Nat.le_refl _, hcl, HFin, hOw, hF, hT⟩
  case round =>
    obtain ⟨A4, c4, m, rfl, hk, hm40, hP, hOw, hF, hT⟩ := hrel
    by_cases h4 : m.length % 4 = 0
    · have e2 : (((m.length : Int) % 4) != 0) = false := by simp; omega
      have e2' : (((m.length : Int) % 4) == 0) = true := by rw [beq_iff_eq]; omega
      have HD : Hid (m = copiedO l) := Lib.hid (by rw [← hP.out, pad4_done h4])
      clear h4
      go_wp2
      go_ret2
      refine ⟨hT.out, .inr ⟨HA.out, _, rfl, ?_, hF.out⟩⟩
      rw [← HD.out]; exact hOw.out
    · have e2 : (((m.length : Int) % 4) != 0) = true := by simp; omega
      have e2' : (((m.length : Int) % 4) == 0) = false := by rw [beq_eq_false_iff_ne]; omega
      have HD := Lib.hid (pad4_step h4)
      have hm1 : Hid (m.length + 1 ≤ 40) := Lib.hid (by
        have h1 := pad4_len m
        rw [hP.out] at h1
        have := hfl.out
        omega)
      have hm2 : Hid ((m ++ [(0 : Int)]).length = m.length + 1) := Lib.hid (by simp)
      have h4' : Hid (m.length % 4 ≠ 0) := Lib.hid h4
      clear h4
      go_wp2_with (at_builtin
                   refine wpList_append_o (w0 := w') (by rfl) (.tmp 53) (.tmp 54) (by rfl) (.slice A4 m.length c4) (.slice (some ⟨wr.heap.size, 0, none⟩) 1 1) m [0] (m ++ [0]) rfl (by rfl) (hOw.out.near ((Touch.refl [] wr).alloc _)) (by rfl) (rdb_one wr 0 (by omega)) (by rw [hm2.out]; omega) hF.out (hT.out.alloc _) ?_
                   intro A5 c5 w5 h1 h2 h3
                   have O5 := Lib.hid h1
                   have F5 := Lib.hid h2
                   have T5 := Lib.hid h3
                   clear h1 h2 h3)
      go_roundg (gk - 1)
      case rel => exact ⟨A5, c5, m ++ [0], by first | rfl | simp, by rw [hm2.out]; have := h4'.out; omega, by rw [hm2.out]; exact hm1.out, Lib.hid (by rw [HD.out, hP.out]), O5, F5, T5⟩
      case measure => have := h4'.out; omega
end Go.Proofs.Ytelfemhnijnhfaa.Fr
