/- weftref3: Refused, Sum, put2; no condition. -/
import Derived.Test.YtelfemhnijnhfaaFI
namespace Go.Proofs.Ytelfemhnijnhfaa.Fr
open Go.RowKit Go.Maps
set_option linter.unusedVariables false
set_option maxRecDepth 100000
attribute [local go_sem] nilB

set_option maxHeartbeats 2000000 in
theorem refused_calls {w : World} {VO VB : Value} {p : Pk} (ho : RdB w VO p.opts) (hb : RdB w VB p.body) (hlo : p.opts.length ≤ 140737488355328) (hlb : p.body.length ≤ 140737488355328) (hw : p.h.wf) :
    Calls Try.prog 64 #[.agg (pkC p.h VO VB)] w fun e w' => e = .returned (.int .i64 (bErr p)) ∧ Touch [] w w' := by
  have HO := Lib.hid ho
  have lo4 : p.opts.length < 4611686018427387904 := by omega
  have lb4 : p.body.length < 4611686018427387904 := by omega
  obtain ⟨A, cap, rfl⟩ := ho.len_lt
  obtain ⟨A', cap', rfl⟩ := hb.len_lt
  obtain ⟨of1, of2⟩ := hw.off
  clear ho hb hlo hlb hw
  go_enter Try.func64, Try.ntmps64
  go_upto_region 1 with (fail)
  have X0 := Lib.hid (box_at w (.cells (pkC p.h (.slice A p.opts.length cap) (.slice A' p.body.length cap')) 30))
  obtain ⟨W0, hW0⟩ : ∃ W0 : World, W0 = w.alloc (.cells (pkC p.h (.slice A p.opts.length cap) (.slice A' p.body.length cap')) 30) := ⟨_, rfl⟩
  rw [← hW0] at X0 ⊢
  have T0 := Lib.hid (show Touch [] w W0 by rw [hW0]; exact (Touch.refl [] w).alloc _)
  clear hW0
  obtain ⟨c0, c1, c2, c3, c4, c5, c6, c7, c8, c9, c10⟩ := pk_cells X0.out
  go_wp2_with fail
  refine (area_calls (HO.out.near T0.out) lo4).mono ?_
  rintro e w' ⟨rfl, rfl⟩
  by_cases ha : areaB p.opts = false
  · have HE : Hid (bErr p = 34) := Lib.hid (by unfold bErr; rw [if_pos ha])
    rw [ha]
    clear ha
    go_wp2
    go_ret
    exact ⟨by rw [HE.out]; rfl, T0.out⟩
  have HA := Lib.hid (show areaB p.opts = true by simpa using ha)
  rw [HA.out]
  have l40 : p.opts.length ≤ 40 := by have := HA.out; unfold areaB at this; simp at this; omega
  clear ha
  go_wp2_with fail
  refine (piece_calls _ p.h.off p.body.length p.h.mf of1 of2 (by omega) (by omega)).mono ?_
  rintro e w' ⟨rfl, rfl⟩
  by_cases hb : ordB p.h.off p.body.length p.h.mf = false
  · have HE : Hid (bErr p = 36) := Lib.hid (by unfold bErr; rw [if_neg (by rw [HA.out]; decide), if_pos hb])
    rw [hb]
    clear hb
    go_wp2
    go_ret
    exact ⟨by rw [HE.out]; rfl, T0.out⟩
  have HBo := Lib.hid (show ordB p.h.off p.body.length p.h.mf = true by simpa using hb)
  rw [HBo.out]
  clear hb
  by_cases hbig : 65535 < 20 + p.opts.length + p.body.length
  · have HE : Hid (bErr p = 37) := Lib.hid (by unfold bErr; rw [if_neg (by rw [HA.out]; decide), if_neg (by rw [HBo.out]; decide), if_pos hbig])
    have hbi : (65535 : Int) < 20 + (p.opts.length : Int) + (p.body.length : Int) := by omega
    go_wp2
    go_ret
    exact ⟨by rw [HE.out]; rfl, T0.out⟩
  · have HE : Hid (bErr p = 0) := Lib.hid (by unfold bErr; rw [if_neg (by rw [HA.out]; decide), if_neg (by rw [HBo.out]; decide), if_neg hbig])
    have hbi : ¬ (65535 : Int) < 20 + (p.opts.length : Int) + (p.body.length : Int) := by omega
    have hbd : decide ((65535 : Int) < 20 + (p.opts.length : Int) + (p.body.length : Int)) = false := by rw [decide_eq_false_iff_not]; omega
    go_wp2
    go_ret
    exact ⟨by rw [HE.out]; rfl, T0.out⟩
def AppPost (w0 : World) (M : List Int) (e : Ending) (w' : World) : Prop := ∃ A c, e = .returned (.slice A M.length c) ∧ OwB w' (.slice A M.length c) M ∧ Fresh w0.heap.size (.slice A M.length c) ∧ Touch [] w0 w'
theorem rdb_two (w : World) (x y : Int) (h : 0 ≤ x ∧ x < 256) (k : 0 ≤ y ∧ y < 256) : RdB (w.alloc (.cells #[.int .u8 x, .int .u8 y] 5)) (.slice (some ⟨w.heap.size, 0, none⟩) 2 2) [x, y] :=
  rdb_lit w [x, y] (by intro z hz; simp at hz; rcases hz with rfl | rfl; exact h; exact k)
set_option maxHeartbeats 1000000 in
theorem put2_calls {w0 w : World} {V : Value} {l : List Int} (h : OwB w V l) (hF : Fresh w0.heap.size V) (hT : Touch [] w0 w) (hl : l.length ≤ 100000) (n : Int) (h0 : 0 ≤ n) (h1 : n < 65536) :
    Calls Try.prog 85 #[V, .int .i64 n] w (AppPost w0 (l ++ [n / 256, n % 256])) := by
  obtain ⟨A, c, rfl⟩ := h.row.form
  have H := Lib.hid h
  have HF := Lib.hid hF
  have HT := Lib.hid hT
  clear h hF hT
  go_enter Try.func85, Try.ntmps85
  go_wp2_with (at_builtin
               refine wpList_append_o (w0 := w0) (by rfl) (.tmp 5) (.tmp 12) (by rfl) (.slice A l.length c) (.slice (some ⟨w.heap.size, 0, none⟩) 2 2) l [n / 256, n % 256] (l ++ [n / 256, n % 256]) rfl (by rfl) (H.out.near ((Touch.refl [] w).alloc _)) (by rfl) (rdb_two w _ _ (by omega) (by omega)) (by rw [List.length_append]; simp only [List.length_cons, List.length_nil]; omega) HF.out (HT.out.alloc _) ?_
               intro A5 c5 w5 h1 h2 h3
               have O5 := Lib.hid h1
               have F5 := Lib.hid h2
               have T5 := Lib.hid h3
               clear h1 h2 h3)
  go_ret
  exact ⟨A5, c5, by rw [List.length_append]; rfl, O5.out, F5.out, T5.out⟩
theorem wsum_take (l : List Int) (i : Nat) (x : Int) (h : l[i]? = some x) : wsum (l.take (i + 1)) true = wsum (l.take i) true + (if i % 2 = 0 then 256 * x else x) := by
  have hi := (List.getElem?_eq_some_iff.1 h).1
  rw [List.take_add_one, h]
  simp only [Option.toList_some]
  rw [wsum_snoc, List.length_take, Nat.min_eq_left (by omega)]
  congr 1
  rcases Nat.mod_two_eq_zero_or_one i with e | e <;> simp [e]
set_option maxHeartbeats 1000000 in
theorem total_calls {w : World} {V : Value} {l : List Int} (h : RdB w V l) (hl : l.length ≤ 1000000) :
    Calls Try.prog 86 #[V] w fun e w' => e = .returned (.int .i64 (wsum l true)) ∧ w' = w := by
  obtain ⟨⟨A, cap, rfl, _, _, hr⟩, wf⟩ := h
  have HR := Lib.hid hr
  have WF := Lib.hid wf
  clear hr wf
  go_enter Try.func86, Try.ntmps86
  go_wp2
  go_loopg [3, 4] l.length (fun kq v3 v4 wr => ∃ (i : Nat) (t : Int), v4 = .int .i64 i ∧ v3 = .int .i64 t ∧ i ≤ l.length ∧ l.length - i ≤ kq ∧ Hid (t = wsum (l.take i) true) ∧ Hid (wr = w))
  case atStart => exact ⟨0, 0, rfl, rfl, by omega, by omega, Lib.hid (by simp [wsum]), Lib.hid rfl⟩
  case round =>
    obtain ⟨i, t, rfl, rfl, hi, hk, ht, hw⟩ := hrel
    obtain rfl := hw.out
    have hbd : 0 ≤ t ∧ t ≤ 65280000000 := by
      have h1 := wsum_bd (l := l.take i) (fun y hy => WF.out y (List.mem_of_mem_take hy)) true
      have h2 : (l.take i).length ≤ 1000000 := by rw [List.length_take]; omega
      rw [ht.out]; omega
    obtain ⟨t0, t1⟩ := hbd
    by_cases hlt : i < l.length
    · obtain ⟨b, off, hA, hb, hc⟩ := HR.out (by omega)
      subst hA
      obtain ⟨x, hx⟩ : ∃ x, l[i]? = some x := ⟨_, List.getElem?_eq_getElem hlt⟩
      obtain ⟨x0, x1⟩ := WF.out x (List.mem_of_getElem? hx)
      have m0 := hc i x hx
      have lt1 : (i : Int) < (l.length : Int) := by omega
      have HW := Lib.hid (wsum_take l i x hx)
      clear hc hx
      by_cases hp : i % 2 = 0
      · have e2 : (((i : Int) % 2) == 0) = true := by rw [beq_iff_eq]; omega
        have HN : Hid (wsum (l.take (i + 1)) true = t + 256 * x) := Lib.hid (by rw [HW.out, if_pos hp, ← ht.out])
        clear hp
        go_wp2
        go_roundg (gk - 1)
        case rel => exact ⟨i + 1, _, by go_num, rfl, by omega, by omega, Lib.hid HN.out.symm, Lib.hid rfl⟩
        case measure => omega
      · have e2 : (((i : Int) % 2) == 0) = false := by rw [beq_eq_false_iff_ne]; omega
        have HN : Hid (wsum (l.take (i + 1)) true = t + x) := Lib.hid (by rw [HW.out, if_neg hp, ← ht.out])
        clear hp
        go_wp2
        go_roundg (gk - 1)
        case rel => exact ⟨i + 1, _, by go_num, rfl, by omega, by omega, Lib.hid HN.out.symm, Lib.hid rfl⟩
        case measure => omega
    · have lt1 : ¬ (i : Int) < (l.length : Int) := by omega
      have HD : Hid (t = wsum l true) := Lib.hid (by rw [ht.out, List.take_of_length_le (by omega)])
      go_wp2
      go_ret
      exact ⟨by rw [HD.out]; rfl, rfl⟩
set_option maxHeartbeats 1000000 in
theorem rfold_calls (w : World) (t : Int) (h0 : 0 ≤ t) (h1 : t ≤ 65280000000) :
    Calls Try.prog 87 #[.int .i64 t] w fun e w' => e = .returned (.int .i64 (foldI t)) ∧ w' = w := by
  by_cases h : t = 0
  · subst h
    go_enter Try.func87, Try.ntmps87
    go_wp2
    go_ret
    exact ⟨rfl, rfl⟩
  · have e0 : (t == 0) = false := by rw [beq_eq_false_iff_ne]; exact h
    have HF : Hid (foldI t = 1 + (t - 1) % 65535) := Lib.hid (by unfold foldI; rw [if_neg h])
    have h2 : 0 ≤ t - 1 := by omega
    clear h
    go_enter Try.func87, Try.ntmps87
    go_wp2
    go_ret
    exact ⟨by rw [HF.out]; rfl, rfl⟩
set_option maxHeartbeats 1000000 in
theorem rsum_calls {w : World} {A : Option Addr} {n cap : Nat} {ps : List (Value × List Int)} (h : RdS w A n ps) (hn : n < 1000) (hlen : (joinS ps).length ≤ 1000000) :
    Calls Try.prog 66 #[.slice A n cap] w fun e w' => e = .returned (.int .u16 (65535 - foldI (wsum (joinS ps) true))) ∧ Touch [] w w' := by
  have H := Lib.hid h
  have HL := Lib.hid hlen
  have OKJ := Lib.hid (joinS_ok h)
  clear h hlen
  go_enter Try.func66, Try.ntmps66
  go_wp2
  go_loopg [3, 4] n (fun kq v3 v4 wr => ∃ (i : Nat) (A3 : Option Addr) (c3 : Nat) (m : List Int), v4 = .int .i64 i ∧ v3 = .slice A3 m.length c3 ∧ i ≤ n ∧ n - i ≤ kq ∧ Hid (m = joinS (ps.take i)) ∧ Hid (OwB wr (.slice A3 m.length c3) m) ∧ Hid (Fresh w.heap.size (.slice A3 m.length c3)) ∧ Hid (Touch [] w wr))
  case atStart => exact ⟨0, none, 0, [], rfl, rfl, by omega, by omega, Lib.hid (by simp [joinS]), Lib.hid (OwB.nil _), Lib.hid (Fresh.nil _), Lib.hid (Touch.refl _ _)⟩
  case round =>
    obtain ⟨i, A3, c3, m, rfl, rfl, hi, hk, hm, hO, hF, hT⟩ := hrel
    by_cases hlt : i < n
    · obtain ⟨⟨V, l⟩, hp⟩ : ∃ p, ps[i]? = some p := ⟨_, List.getElem?_eq_getElem (by rw [H.out.len]; exact hlt)⟩
      obtain ⟨b, off, hA, hc⟩ := H.out.at_ (by omega)
      have m0 := cell_touch hT.out (hc i _ hp) (by simp)
      have hV := (H.out.rd _ (List.mem_of_getElem? hp)).near hT.out
      dsimp only at hV m0
      obtain ⟨A1, cap1, rfl⟩ := hV.len_lt
      subst hA
      have lt1 : (i : Int) < (n : Int) := by omega
      have HNext : Hid (joinS (ps.take (i + 1)) = m ++ l) := Lib.hid (by rw [hm.out, List.take_add_one, hp]; simp [joinS])
      have HLen : Hid ((m ++ l).length ≤ 1000000) := Lib.hid (by
        have h1 := HL.out
        have h2 : joinS ps = joinS (ps.take (i + 1)) ++ joinS (ps.drop (i + 1)) := by unfold joinS; rw [← List.flatMap_append, List.take_append_drop]
        rw [h2, HNext.out, List.length_append] at h1
        omega)
      have RV := Lib.hid hV
      clear hc hp hV
      go_wp2_with (at_builtin
                   refine wpList_append_o (w0 := w) (by rfl) (.tmp 12) (.tmp 16) (by rfl) (.slice A3 m.length c3) (.slice A1 l.length cap1) m l (m ++ l) rfl (by rfl) hO.out (by rfl) RV.out (Nat.le_trans HLen.out (by decide)) hF.out hT.out ?_
                   intro A5 c5 w5 h1 h2 h3
                   have O5 := Lib.hid h1
                   have F5 := Lib.hid h2
                   have T5 := Lib.hid h3
                   clear h1 h2 h3)
      go_roundg (gk - 1)
      case rel => exact ⟨i + 1, A5, c5, m ++ l, by go_num, by first | rfl | simp, by omega, by omega, Lib.hid HNext.out.symm, O5, F5, T5⟩
      case measure => omega
    · have lt1 : ¬ (i : Int) < (n : Int) := by omega
      have hJ : Hid (m = joinS ps) := Lib.hid (by rw [hm.out, List.take_of_length_le (by rw [H.out.len]; omega)])
      have hm6 : Hid (m.length ≤ 1000000) := Lib.hid (by rw [hJ.out]; exact HL.out)
      go_wp2_with fail
      refine (total_calls hO.out.rdb hm6.out).mono ?_
      rintro e w1 ⟨rfl, rfl⟩
      have hbd : 0 ≤ wsum m true ∧ wsum m true ≤ 65280000000 := by
        have h1 := wsum_bd hO.out.wf true
        have := hm6.out
        omega
      obtain ⟨t, ht⟩ : ∃ t, t = wsum m true := ⟨_, rfl⟩
      rw [← ht] at hbd ⊢
      obtain ⟨t0, t1⟩ := hbd
      have HT := Lib.hid ht
      clear ht
      go_wp2_with fail
      refine (rfold_calls _ t t0 t1).mono ?_
      rintro e w1 ⟨rfl, rfl⟩
      have hf : 0 ≤ foldI t ∧ foldI t ≤ 65535 := by unfold foldI; split <;> omega
      obtain ⟨f, hf2⟩ : ∃ f, f = foldI t := ⟨_, rfl⟩
      rw [← hf2] at hf ⊢
      obtain ⟨f0, f1⟩ := hf
      have HF2 := Lib.hid hf2
      clear hf2
      go_wp2
      go_ret
      exact ⟨by rw [← hJ.out, ← HT.out, ← HF2.out]; rfl, hT.out⟩
end Go.Proofs.Ytelfemhnijnhfaa.Fr
