/- weftref5.Split; no condition. -/
import Derived.Test.YtelfemhnijnhfaaFP
namespace Go.Proofs.Ytelfemhnijnhfaa.Fr
open Go.RowKit Go.Maps
set_option linter.unusedVariables false
set_option linter.unusedSimpArgs false
set_option maxRecDepth 100000
attribute [local go_sem] nilB

theorem part_last {w : World} {VO VB VP : Value} {p : Pk} {ol : List Int} (hvo : RdB w VO p.opts) (hb : RdB w VB p.body) (ho : RdB w VP ol) (hlo : ol.length ≤ 1000) (hlb : p.body.length ≤ 70000) (pos : Nat) (hpos : pos < p.body.length ∨ (p.body.length = 0 ∧ pos = 0)) (mf : Bool) (hoff : 0 ≤ p.h.off ∧ p.h.off ≤ 70000) :
    Calls Try.prog 33 #[.agg (pkC p.h VO VB), .int .i64 pos, .int .i64 p.body.length, VP, .bool mf] w (PartPost w { p.h with off := p.h.off + pos, mf := mf } ol (p.body.drop pos)) := by
  by_cases h0 : p.body.length = 0
  · have hp : pos = 0 := by omega
    subst hp
    have h := part_nil hvo hb ho hlo hlb h0 mf hoff ((0 : Nat) : Int) (p.body.length : Int) rfl (by omega)
    have e : p.body.drop 0 = [] := by rw [List.drop_zero]; exact List.eq_nil_of_length_eq_zero h0
    rw [e]
    simpa using h
  · have h := part_calls hvo hb ho hlo hlb pos p.body.length (by omega) (Nat.le_refl _) (by omega) mf hoff (pos : Int) (p.body.length : Int) rfl rfl
    rw [List.take_of_length_le (by rw [List.length_drop]; omega)] at h
    exact h
set_option maxHeartbeats 4000000 in
theorem rsplit_calls {w : World} {VO VB : Value} {p : Pk} (ho : RdB w VO p.opts) (hb : RdB w VB p.body) (hlo : p.opts.length ≤ 140737488355328) (hlb : p.body.length ≤ 140737488355328) (hw : p.h.wf) (mtu : Int) (hm : -9223372036854775808 ≤ mtu) (hm2 : mtu ≤ 9223372036854775807) :
    Calls Try.prog 13 #[.agg (pkC p.h VO VB), .int .i64 mtu] w (SplitPost w p mtu) := by
  have HO := Lib.hid ho
  have HB := Lib.hid hb
  have LO := Lib.hid hlo
  have LB := Lib.hid hlb
  obtain ⟨A, cap, rfl⟩ := ho.len_lt
  obtain ⟨A', cap', rfl⟩ := hb.len_lt
  have HW := Lib.hid hw
  clear ho hb hlo hlb hw
  by_cases h68 : mtu < 68
  · have HE : Hid (splitE p mtu = 50) := Lib.hid (by unfold splitE; rw [if_pos h68])
    have HP : Hid (splitP p mtu = []) := Lib.hid (by unfold splitP; rw [HE.out]; rfl)
    go_enter Try.func13, Try.ntmps13
    go_wp2
    go_ret2
    exact ⟨(Touch.refl [] w).alloc _, .slice none 0 0, [], by rw [HE.out]; rfl, PRow.nil _, by rw [HP.out]; rfl, Fresh.nil _, by simp⟩
  have H68 := Lib.hid h68
  go_enter Try.func13, Try.ntmps13
  go_upto_region 3 with (fail)
  have X0 := Lib.hid (box_at w (.cells (pkC p.h (.slice A p.opts.length cap) (.slice A' p.body.length cap')) 30))
  obtain ⟨W0, hW0⟩ : ∃ W0 : World, W0 = w.alloc (.cells (pkC p.h (.slice A p.opts.length cap) (.slice A' p.body.length cap')) 30) := ⟨_, rfl⟩
  rw [← hW0] at X0 ⊢
  have T0 := Lib.hid (show Touch [] w W0 by rw [hW0]; exact (Touch.refl [] w).alloc _)
  clear hW0
  obtain ⟨c0, c1, c2, c3, c4, c5, c6, c7, c8, c9, c10⟩ := pk_cells X0.out
  go_wp2_with fail
  refine (rbuild_calls (HO.out.near T0.out) (HB.out.near T0.out) LO.out LB.out HW.out).mono ?_
  rintro e w1 ⟨t1, hpost⟩
  have X1 := Lib.hid (touch_box t1 X0.out (by simp))
  have T1 := Lib.hid (T0.out.trans t1 (by simp))
  have SX : Hid (w.heap.size < w1.heap.size) := Lib.hid (Array.getElem?_eq_some_iff.1 X1.out).1
  clear t1 X0 T0 c0 c1 c2 c3 c4 c5 c6 c7 c8 c9 c10
  rcases hpost with ⟨hbe, rfl⟩ | ⟨hbe, VBu, rfl, _, _⟩
  · obtain ⟨eb, heb⟩ : ∃ eb, eb = bErr p := ⟨_, rfl⟩
    have HE : Hid (splitE p mtu = eb) := Lib.hid (by unfold splitE; rw [if_neg (show ¬ mtu < 68 by have := H68.out; omega), if_pos hbe, heb])
    have HP : Hid (splitP p mtu = []) := Lib.hid (by unfold splitP; rw [HE.out, if_pos (by rw [heb]; exact hbe)])
    rw [← heb] at hbe ⊢
    have hne : (eb != 0) = true := by simpa using hbe
    clear heb hbe
    go_wp2
    go_ret2
    exact ⟨T1.out, .slice none 0 0, [], by rw [HE.out]; rfl, PRow.nil _, by rw [HP.out]; rfl, Fresh.nil _, by simp⟩
  have HBE := Lib.hid hbe
  obtain ⟨harea, hord, l40, lm4, o1, o2, o3, o4, hbig, hmfb⟩ := bErr_zero hbe
  have HAR := Lib.hid harea
  clear hbe harea hord hmfb lm4 o3
  obtain ⟨c0, c1, c2, c3, c4, c5, c6, c7, c8, c9, c10⟩ := pk_cells X1.out
  have HCL := Lib.hid (copied_len HAR.out)
  obtain ⟨L, hL⟩ : ∃ L, L = copiedO p.opts := ⟨_, rfl⟩
  have hL40 : L.length ≤ 40 := by rw [hL]; have := HCL.out.1; omega
  have HLL := Lib.hid hL
  obtain ⟨S, hS⟩ : ∃ S, S = splitL p L mtu (p.body.length + 1) 0 p.opts := ⟨_, rfl⟩
  have HSS := Lib.hid hS
  clear hL hS
  go_wp2_with fail
  go_loopg [8, 9, 10] p.body.length (fun kq v8 v9 v10 wr => ∃ (pos k : Nat) (A8 : Option Addr) (cq : Nat) (l : List PE) (AC : Option Addr) (cC : Nat) (ol : List Int),
    v8 = .slice A8 l.length cq ∧ v9 = .slice AC ol.length cC ∧ v10 = .int .i64 pos ∧ pos ≤ p.body.length ∧ p.body.length - pos ≤ kq ∧ Hid (p.body.length < pos + k) ∧ l.length ≤ pos ∧ ol.length ≤ 40 ∧
    Hid (S = l.map (·.1) ++ splitL p L mtu k pos ol) ∧ Hid (PRow wr (.slice A8 l.length cq) l) ∧ Hid (Fresh w1.heap.size (.slice A8 l.length cq)) ∧ Hid (∀ b ∈ l.flatMap kB, w.heap.size ≤ b) ∧
    Hid ((AC = A ∧ cC = cap ∧ ol = p.opts) ∨ OwB wr (.slice AC ol.length cC) ol) ∧ Hid (Touch [] w1 wr) ∧ Hid (l = [] → pos = 0 ∧ ol = p.opts) ∧ Hid (l ≠ [] → pos < p.body.length ∧ ol = L ∧ p.h.df = false ∧ mtu < (20 + p.opts.length + p.body.length : Int)))
  case atStart =>
    exact ⟨0, p.body.length + 1, none, 0, [], A, cap, p.opts, rfl, rfl, rfl, by omega, by omega, Lib.hid (by omega), Nat.le_refl _, l40, Lib.hid (by rw [HSS.out]; rfl), Lib.hid (PRow.nil _), Lib.hid (Fresh.nil _), Lib.hid (by simp), Lib.hid (.inl ⟨rfl, rfl, rfl⟩), Lib.hid (Touch.refl _ _), Lib.hid (fun _ => ⟨rfl, rfl⟩), Lib.hid (fun h => absurd rfl h)⟩
  case round =>
    obtain ⟨pos, k, A8, cq, l, AC, cC, ol, rfl, rfl, rfl, hpos, hk, hfuel, hll, hol, hsp, hPR, hFR, hFB, hVC, hT, hl0, hl1⟩ := hrel
    have Tw := Lib.hid (T1.out.trans hT.out (by simp))
    have RC : Hid (RdB wr (.slice AC ol.length cC) ol) := Lib.hid (by
      rcases hVC.out with ⟨h1, h2, h3⟩ | h
      · rw [h1, h2, h3]; exact HO.out.near Tw.out
      · exact h.rdb)
    have Xr := Lib.hid (touch_box hT.out X1.out (by simp))
    clear c0 c1 c2 c3 c4 c5 c6 c7 c8 c9 c10
    obtain ⟨c0, c1, c2, c3, c4, c5, c6, c7, c8, c9, c10⟩ := pk_cells Xr.out
    obtain ⟨k', hk'⟩ : ∃ k', k = k' + 1 := ⟨k - 1, by have := hfuel.out; omega⟩
    have HK := Lib.hid hk'
    clear hk'
    go_wp2_with fail
    refine (fits_calls _ AC ol.length cC mtu (by omega) (by omega) hm2).mono ?_
    rintro e w' ⟨rfl, rfl⟩
    obtain ⟨r, hr⟩ : ∃ r : Int, mtu - 20 - (ol.length : Int) = r := ⟨_, rfl⟩
    rw [hr]
    have hr8 : 8 ≤ r := by have := H68.out; omega
    have hr62 : r ≤ 9223372036854775807 := by omega
    have HR := Lib.hid hr
    clear hr
    by_cases hlast : (p.body.length : Int) - (pos : Int) ≤ r
    · have HS : Hid (S = l.map (·.1) ++ [⟨{ p.h with off := p.h.off + pos }, ol, p.body.drop pos⟩]) := Lib.hid (by
        rw [hsp.out, HK.out, splitL_last (by rw [HR.out]; exact hlast)])
      have HE : Hid (splitE p mtu = 0 ∧ splitP p mtu = S) := Lib.hid (by
        have he : splitE p mtu = 0 := by
          unfold splitE
          rw [if_neg (show ¬ mtu < 68 by have := H68.out; omega), if_neg (by simpa using HBE.out)]
          by_cases hl : l = []
          · obtain ⟨h1, h2⟩ := hl0.out hl
            have := HR.out
            rw [h2] at this
            rw [if_pos (by rw [h1] at hlast; omega)]
          · obtain ⟨_, _, h2, h3⟩ := hl1.out hl
            rw [if_neg (by omega), h2]; rfl
        exact ⟨he, by unfold splitP; rw [he, if_neg (by simp), HSS.out, HLL.out]⟩)
      obtain ⟨D, hD⟩ : ∃ D, D = p.body.drop pos := ⟨_, rfl⟩
      rw [← hD] at HS
      have hDl : Hid (D.length ≤ 70000) := Lib.hid (by rw [hD, List.length_drop]; omega)
      have HD := Lib.hid hD
      clear hD
      have hpb : pos < p.body.length ∨ (p.body.length = 0 ∧ pos = 0) := by
        by_cases hl : l = []
        · have := (hl0.out hl).1; omega
        · exact .inl (hl1.out hl).1
      have HPB := Lib.hid hpb
      clear hpb
      go_wp2_with fail
      refine (part_last (HO.out.near Tw.out) (HB.out.near Tw.out) RC.out (by omega) (by omega) pos HPB.out p.h.mf ⟨o1, by omega⟩).mono ?_
      rw [← HD.out]
      rintro e w7 ⟨VO7, VB7, rfl, o, o', f, f', nd, t⟩
      obtain ⟨A7, cp7, rfl⟩ := o.row.form
      obtain ⟨A9, cp8, rfl⟩ := o'.row.form
      have O := Lib.hid o
      have O' := Lib.hid o'
      have ND := Lib.hid nd
      have P7 := Lib.hid (hPR.out.near t)
      have T7 := Lib.hid (Tw.out.trans t (by simp))
      have hne : Hid (∀ k ∈ kB (⟨⟨{ p.h with off := p.h.off + pos }, ol, D⟩, .slice A7 ol.length cp7, .slice A9 D.length cp8⟩ : PE), k ∉ l.flatMap kB) := Lib.hid (fun k hk h => by
        have h1 := kB_ge f f' k hk
        have h2 := (hPR.out.lt k h).1
        omega)
      have hge : Hid (∀ k ∈ kB (⟨⟨{ p.h with off := p.h.off + pos }, ol, D⟩, .slice A7 ol.length cp7, .slice A9 D.length cp8⟩ : PE), w.heap.size ≤ k) := Lib.hid (fun k hk => by
        have h1 := kB_ge f f' k hk
        have h2 := Tw.out.size
        omega)
      clear o o' f f' nd t c0 c1 c2 c3 c4 c5 c6 c7 c8 c9 c10
      go_wp2_with (at_builtin
                   refine wpList_append_k (by rfl) (.tmp 36) (.tmp 47) (by rfl) (.slice A8 l.length cq) l (⟨⟨{ p.h with off := p.h.off + pos }, ol, D⟩, .slice A7 ol.length cp7, .slice A9 D.length cp8⟩ : PE) (by rfl) P7.out (by rfl) ⟨O.out, O'.out⟩ (kB_nodup ND.out) hne.out (by omega) ?_
                   intro A10 cp9 w9 h1 h2 h3
                   have P9 := Lib.hid h1
                   have T9 := Lib.hid h2
                   have F9 := Lib.hid h3
                   clear h1 h2 h3)
      go_ret2
      refine ⟨T7.out.trans T9.out (fun x hx => .inr (Nat.le_trans T1.out.size (hFR.out x (by simpa using hx)))), _, _, by rw [HE.out.1]; rfl, P9.out, by rw [HE.out.2, HS.out]; simp, fun b hb => ?_, fun k hk => ?_⟩
      · have h1 := T7.out.size
        rcases F9.out with h | ⟨b', h, hge'⟩
        · exact Nat.le_trans T1.out.size (hFR.out b (by rw [← h]; exact hb))
        · have hb2 : (Value.slice A10 (l.length + 1) cp9).ownBlock = some b := hb
          rw [h] at hb2; cases hb2; omega
      · rw [List.flatMap_append] at hk
        rcases List.mem_append.1 hk with hk | hk
        · exact hFB.out k hk
        · exact hge.out k (by simpa using hk)
    · have hlast1 : ¬ (p.body.length : Int) - (pos : Int) ≤ r := hlast
      have HL1 : Hid (r < (p.body.length : Int) - (pos : Int)) := Lib.hid (by omega)
      obtain ⟨bd, hbd⟩ : ∃ b : Bool, b = p.h.df := ⟨_, rfl⟩
      rw [← hbd] at c2
      have HBD := Lib.hid hbd
      clear hbd
      have hnofit : Hid (l = [] → mtu < (20 + p.opts.length + p.body.length : Int)) := Lib.hid (fun hl => by
        obtain ⟨h1, h2⟩ := hl0.out hl
        have := HR.out
        rw [h2] at this
        have := HL1.out
        rw [h1] at this
        omega)
      cases bd
      rotate_left
      · have hE : Hid (splitE p mtu = 51) := Lib.hid (by
          by_cases hl : l = []
          · unfold splitE
            rw [if_neg (show ¬ mtu < 68 by have := H68.out; omega), if_neg (by simpa using HBE.out), if_neg (by have := hnofit.out hl; omega), ← HBD.out]; rfl
          · have := (hl1.out hl).2.2.1
            rw [← HBD.out] at this; cases this)
        have hP : Hid (splitP p mtu = []) := Lib.hid (by unfold splitP; rw [hE.out]; rfl)
        go_wp2
        go_ret2
        exact ⟨Tw.out, .slice none 0 0, [], by rw [hE.out]; rfl, PRow.nil _, by rw [hP.out]; rfl, Fresh.nil _, by simp⟩
      obtain ⟨n, hn⟩ : ∃ n : Nat, r / 8 * 8 = (n : Int) := ⟨(r / 8 * 8).toNat, by omega⟩
      have hn8 : 8 ≤ n := by omega
      have hnm : pos + n < p.body.length := by omega
      obtain ⟨D, hD⟩ : ∃ D, D = (p.body.drop pos).take n := ⟨_, rfl⟩
      have hDl : Hid (D.length = n) := Lib.hid (by rw [hD, List.length_take, List.length_drop]; omega)
      have HS : Hid (S = l.map (·.1) ++ (⟨{ p.h with off := p.h.off + pos, mf := true }, ol, D⟩ :: splitL p L mtu k' (pos + n) L)) := Lib.hid (by
        rw [hD, hsp.out, HK.out, splitL_more (n := n) (by rw [HR.out]; exact hlast) (by rw [HR.out]; exact hn.symm)])
      have HD : Hid ((p.body.drop pos).take (pos + n - pos) = D) := Lib.hid (by rw [hD, show pos + n - pos = n by omega])
      clear hD hlast
      go_upto_region 15 with (fail)
      rw [HBD.out] at c2
      go_wp2_with fail
      refine (part_calls (HO.out.near Tw.out) (HB.out.near Tw.out) RC.out (by omega) (by omega) pos (pos + n) (by omega) (by omega) (by omega) true ⟨o1, by omega⟩ (pos : Int) ((pos : Int) + (n : Int)) rfl (by push_cast; rfl)).mono ?_
      rw [HD.out]
      rintro e w7 ⟨VO7, VB7, rfl, o, o', f, f', nd, t⟩
      obtain ⟨A7, cp7, rfl⟩ := o.row.form
      obtain ⟨A9, cp8, rfl⟩ := o'.row.form
      have O := Lib.hid o
      have O' := Lib.hid o'
      have ND := Lib.hid nd
      have P7 := Lib.hid (hPR.out.near t)
      have T7 := Lib.hid (hT.out.trans t (by simp))
      have hne : Hid (∀ k ∈ kB (⟨⟨{ p.h with off := p.h.off + pos, mf := true }, ol, D⟩, .slice A7 ol.length cp7, .slice A9 D.length cp8⟩ : PE), k ∉ l.flatMap kB) := Lib.hid (fun k hk h => by
        have h1 := kB_ge f f' k hk
        have h2 := (hPR.out.lt k h).1
        omega)
      have hge : Hid (∀ k ∈ kB (⟨⟨{ p.h with off := p.h.off + pos, mf := true }, ol, D⟩, .slice A7 ol.length cp7, .slice A9 D.length cp8⟩ : PE), w.heap.size ≤ k) := Lib.hid (fun k hk => by
        have h1 := kB_ge f f' k hk
        have h2 := Tw.out.size
        omega)
      have VC7 : Hid ((AC = A ∧ cC = cap ∧ ol = p.opts) ∨ OwB w7 (.slice AC ol.length cC) ol) := Lib.hid (by
        rcases hVC.out with h | h
        · exact .inl h
        · exact .inr (h.near t))
      clear o o' f f' nd t c0 c1 c2 c3 c4 c5 c6 c7 c8 c9 c10
      go_upto_region 17 with (at_builtin; refine wpList_append_k (by rfl) (.tmp 56) (.tmp 64) (by rfl) (.slice A8 l.length cq) l (⟨⟨{ p.h with off := p.h.off + pos, mf := true }, ol, D⟩, .slice A7 ol.length cp7, .slice A9 D.length cp8⟩ : PE) (by rfl) P7.out (by rfl) ⟨O.out, O'.out⟩ (kB_nodup ND.out) hne.out (by omega) ?_; intro A10 cp9 w9 h1 h2 h3; have P9 := Lib.hid h1; have T9 := Lib.hid h2; have F9 := Lib.hid h3; clear h1 h2 h3)
      have T19 := Lib.hid (T7.out.trans T9.out (fun x hx => .inr (hFR.out x (by simpa using hx))))
      have FR9 : Hid (Fresh w1.heap.size (.slice A10 (l.length + 1) cp9)) := Lib.hid (fun b' hb' => by
        have h1 := T7.out.size
        rcases F9.out with h | ⟨b'', h, hge'⟩
        · exact hFR.out b' (by rw [← h]; exact hb')
        · rw [h] at hb'; cases hb'; omega)
      have VC9 : Hid ((AC = A ∧ cC = cap ∧ ol = p.opts) ∨ OwB w9 (.slice AC ol.length cC) ol) := Lib.hid (by
        rcases VC7.out with h | h
        · exact .inl h
        · refine .inr (h.kept T9.out (fun b hb hm => ?_))
          obtain ⟨c, hc⟩ := h.row.blk b hb
          obtain ⟨c', hc'⟩ := P7.out.row.blk b (by simpa using hm)
          rw [hc] at hc'; cases hc')
      obtain ⟨E, hE⟩ : ∃ E : PE, E = (⟨⟨{ p.h with off := p.h.off + pos, mf := true }, ol, D⟩, .slice A7 ol.length cp7, .slice A9 D.length cp8⟩ : PE) := ⟨_, rfl⟩
      rw [← hE] at P9 hge
      have HEE : Hid (E.1 = ⟨{ p.h with off := p.h.off + pos, mf := true }, ol, D⟩) := Lib.hid (by rw [hE])
      have FB9 : Hid (∀ b ∈ (l ++ [E]).flatMap kB, w.heap.size ≤ b) := Lib.hid (fun b' hb' => by
        rw [List.flatMap_append] at hb'
        rcases List.mem_append.1 hb' with hb' | hb'
        · exact hFB.out b' hb'
        · exact hge.out b' (by simpa using hb'))
      have HLE : Hid ((l ++ [E]).length = l.length + 1) := Lib.hid (by simp)
      have hnl1 : l.length + 1 ≤ pos + n := by omega
      clear hE hge P7 VC7 T7 O O' ND hne
      by_cases hl : l.length = 0
      · have hnil : l = [] := List.eq_nil_of_length_eq_zero hl
        have e1 : (((l.length : Int) + 1) == 1) = true := by rw [beq_iff_eq]; omega
        have RC9 : Hid (RdB w9 (.slice AC ol.length cC) ol) := Lib.hid (by
          rcases VC9.out with ⟨h1, h2, h3⟩ | h
          · rw [h1, h2, h3]; exact HO.out.near (T1.out.trans T19.out (by simp))
          · exact h.rdb)
        have hop : Hid (ol = p.opts) := Lib.hid (hl0.out hnil).2
        have hlx : Hid (mtu < (20 + p.opts.length + p.body.length : Int)) := Lib.hid (hnofit.out hnil)
        clear hl hnil
        go_wp2_with fail
        refine (rcopiedo_calls RC9.out (by omega)).mono ?_
        rintro e w10 ⟨t10, hpost⟩
        rcases hpost with ⟨hf, _⟩ | ⟨_, VL, rfl, ol10, fl⟩
        · have := HAR.out; rw [hop.out] at hf; rw [hf] at this; cases this
        obtain ⟨AL, cpL, rfl⟩ := ol10.row.form
        have hLe : copiedO ol = L := by rw [hop.out, HLL.out]
        rw [hLe] at ol10 ⊢
        have OL := Lib.hid ol10
        have T10 := Lib.hid t10
        clear ol10 fl t10 hLe
        go_wp2
        go_roundg (gk - 1)
        case rel =>
          exact ⟨pos + n, k', A10, cp9, l ++ [E], AL, cpL, L, by rw [HLE.out], rfl, by push_cast; rfl, by omega, by omega, Lib.hid (by have := hfuel.out; have := HK.out; omega), by rw [HLE.out]; exact hnl1, hL40, Lib.hid (by rw [HS.out]; simp [HEE.out]), Lib.hid (by rw [HLE.out]; exact P9.out.near T10.out), Lib.hid (by rw [HLE.out]; exact FR9.out), FB9, Lib.hid (.inr OL.out), Lib.hid (T19.out.trans T10.out (by simp)), Lib.hid (fun h => by simp at h), Lib.hid (fun _ => ⟨hnm, rfl, HBD.out.symm, hlx.out⟩)⟩
        case measure => omega
      · have e1 : (((l.length : Int) + 1) == 1) = false := by rw [beq_eq_false_iff_ne]; omega
        have hnil : l ≠ [] := fun h => hl (by rw [h]; rfl)
        obtain ⟨_, hoL, hdf, hmt⟩ := hl1.out hnil
        have HOL := Lib.hid hoL
        have HMT := Lib.hid hmt
        clear hl hnil hoL hdf hmt
        go_wp2
        go_roundg (gk - 1)
        case rel =>
          exact ⟨pos + n, k', A10, cp9, l ++ [E], AC, cC, ol, by rw [HLE.out], rfl, by push_cast; rfl, by omega, by omega, Lib.hid (by have := hfuel.out; have := HK.out; omega), by rw [HLE.out]; exact hnl1, hol, Lib.hid (by rw [HS.out, HOL.out]; simp [HEE.out, HOL.out]), Lib.hid (by rw [HLE.out]; exact P9.out), Lib.hid (by rw [HLE.out]; exact FR9.out), FB9, VC9, T19, Lib.hid (fun h => by simp at h), Lib.hid (fun _ => ⟨hnm, HOL.out, HBD.out.symm, HMT.out⟩)⟩
        case measure => omega
end Go.Proofs.Ytelfemhnijnhfaa.Fr
