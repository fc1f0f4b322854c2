/- frag.Split; no condition. -/
import Derived.Test.YtelfemhnijnhfaaFO
namespace Go.Proofs.Ytelfemhnijnhfaa.Fr
open Go.RowKit Go.Maps
set_option linter.unusedVariables false
set_option linter.unusedSimpArgs false
set_option maxRecDepth 100000
attribute [local go_sem] nilB

theorem PRow.one {w : World} {e : PE} (he : OwB w e.2.1 e.1.opts ∧ OwB w e.2.2 e.1.body) (hnd : (kB e).Nodup) : PRow (w.alloc (.cells (pkC e.1.h e.2.1 e.2.2) 30)) (.slice (some ⟨w.heap.size, 0, none⟩) 1 1) [e] := by
  refine ⟨⟨World.ownsRow_lit w (pkC e.1.h e.2.1 e.2.2) 1 (Nat.zero_le _) (by unfold maxLen; omega) rfl⟩, fun x hx => ?_, by simpa using hnd⟩
  simp only [List.mem_singleton] at hx
  subst hx
  have t := (Touch.refl [] w).alloc (.cells (pkC x.1.h x.2.1 x.2.2) 30)
  exact ⟨he.1.near t, he.2.near t⟩
theorem kB_nodup {e : PE} (h : ∀ b, e.2.1.ownBlock = some b → e.2.2.ownBlock ≠ some b) : (kB e).Nodup := by
  unfold kB
  rw [List.nodup_append]
  refine ⟨by cases e.2.1.ownBlock <;> simp, by cases e.2.2.ownBlock <;> simp, fun a ha b hb e' => ?_⟩
  subst e'
  simp at ha hb
  exact h a ha hb
theorem kB_ge {e : PE} {n : Nat} (h1 : Fresh n e.2.1) (h2 : Fresh n e.2.2) : ∀ k ∈ kB e, n ≤ k := by
  intro k hk
  simp only [kB, List.mem_append, Option.mem_toList] at hk
  rcases hk with hk | hk
  · exact h1 k hk
  · exact h2 k hk
theorem PRow.offHead {w : World} {V : Value} {l : List PE} {b : Nat} {c : Array Value} {f : Nat × Nat} (h : PRow w V l) (hb : w.heap[b]? = some (.cells c 28 f)) : (∀ k, V.ownBlock = some k → k ∉ [b]) ∧ ∀ k ∈ l.flatMap kB, k ∉ [b] := by
  refine ⟨fun k hk hm => ?_, fun k hk hm => ?_⟩
  · obtain ⟨c', hc⟩ := h.row.blk k hk
    simp at hm; subst hm
    rw [hb] at hc; cases hc
  · obtain ⟨_, c', hc⟩ := h.lt k hk
    simp at hm; subst hm
    rw [hb] at hc; cases hc
theorem OwB.offHead {w : World} {V : Value} {l : List Int} {b : Nat} {c : Array Value} {f : Nat × Nat} (h : OwB w V l) (hb : w.heap[b]? = some (.cells c 28 f)) : ∀ k, V.ownBlock = some k → k ∉ [b] := by
  intro k hk hm
  obtain ⟨c', hc⟩ := h.row.blk k hk
  simp at hm; subst hm
  rw [hb] at hc; cases hc
set_option maxHeartbeats 4000000 in
theorem split_calls {w : World} {VO VB : Value} {p : Pk} (ho : RdB w VO p.opts) (hb : RdB w VB p.body) (hlo : p.opts.length ≤ 140737488355328) (hlb : p.body.length ≤ 140737488355328) (hw : p.h.wf) (mtu : Int) (hm : -9223372036854775808 ≤ mtu) (hm2 : mtu ≤ 9223372036854775807) :
    Calls Try.prog 12 #[.agg (pkC p.h VO VB), .int .i64 mtu] w (SplitPost w p mtu) := by
  have HO := Lib.hid ho
  have HB := Lib.hid hb
  have LO := Lib.hid hlo
  have LB := Lib.hid hlb
  obtain ⟨A, cap, rfl⟩ := ho.len_lt
  obtain ⟨A', cap', rfl⟩ := hb.len_lt
  have HW := Lib.hid hw
  clear ho hb hlo hlb hw
  by_cases h68 : mtu < 68
  · have HE : Hid (splitE p mtu = 50) := Lib.hid (by unfold splitE; rw [if_pos h68])
    have HP : Hid (splitP p mtu = []) := Lib.hid (by unfold splitP; rw [HE.out]; rfl)
    go_enter Try.func12, Try.ntmps12
    go_wp2
    go_ret2
    exact ⟨(Touch.refl [] w).alloc _, .slice none 0 0, [], by rw [HE.out]; rfl, PRow.nil _, by rw [HP.out]; rfl, Fresh.nil _, by simp⟩
  have H68 := Lib.hid h68
  go_enter Try.func12, Try.ntmps12
  go_upto_region 3 with (fail)
  have X0 := Lib.hid (box_at w (.cells (pkC p.h (.slice A p.opts.length cap) (.slice A' p.body.length cap')) 30))
  obtain ⟨W0, hW0⟩ : ∃ W0 : World, W0 = w.alloc (.cells (pkC p.h (.slice A p.opts.length cap) (.slice A' p.body.length cap')) 30) := ⟨_, rfl⟩
  rw [← hW0] at X0 ⊢
  have T0 := Lib.hid (show Touch [] w W0 by rw [hW0]; exact (Touch.refl [] w).alloc _)
  clear hW0
  obtain ⟨c0, c1, c2, c3, c4, c5, c6, c7, c8, c9, c10⟩ := pk_cells X0.out
  go_wp2_with fail
  refine (build_calls (HO.out.near T0.out) (HB.out.near T0.out) LO.out LB.out HW.out).mono ?_
  rintro e w1 ⟨t1, hpost⟩
  have X1 := Lib.hid (touch_box t1 X0.out (by simp))
  have T1 := Lib.hid (T0.out.trans t1 (by simp))
  clear t1 X0 T0 c0 c1 c2 c3 c4 c5 c6 c7 c8 c9 c10
  rcases hpost with ⟨hbe, rfl⟩ | ⟨hbe, VBu, rfl, _, _⟩
  · obtain ⟨eb, heb⟩ : ∃ eb, eb = bErr p := ⟨_, rfl⟩
    have HE : Hid (splitE p mtu = eb) := Lib.hid (by unfold splitE; rw [if_neg (show ¬ mtu < 68 by have := H68.out; omega), if_pos hbe, heb])
    have HP : Hid (splitP p mtu = []) := Lib.hid (by unfold splitP; rw [HE.out, if_pos (by rw [heb]; exact hbe)])
    rw [← heb] at hbe ⊢
    have hne : (eb != 0) = true := by simpa using hbe
    clear heb hbe
    go_wp2
    go_ret2
    exact ⟨T1.out, .slice none 0 0, [], by rw [HE.out]; rfl, PRow.nil _, by rw [HP.out]; rfl, Fresh.nil _, by simp⟩
  have HBE := Lib.hid hbe
  obtain ⟨harea, hord, l40, lm4, o1, o2, o3, o4, hbig, hmfb⟩ := bErr_zero hbe
  have HAR := Lib.hid harea
  have HMF := Lib.hid hmfb
  clear hbe harea hord hmfb lm4 o3
  obtain ⟨c0, c1, c2, c3, c4, c5, c6, c7, c8, c9, c10⟩ := pk_cells X1.out
  by_cases hfit : (20 + p.opts.length + p.body.length : Int) ≤ mtu
  · have HE : Hid (splitE p mtu = 0) := Lib.hid (by unfold splitE; rw [if_neg (show ¬ mtu < 68 by have := H68.out; omega), if_neg (by simpa using HBE.out), if_pos hfit])
    have HP : Hid (splitP p mtu = [p]) := Lib.hid (by unfold splitP; rw [HE.out, if_neg (by simp), splitL_last (by omega)]; simp)
    go_wp2_with fail
    refine (own_calls (HO.out.near T1.out) (HB.out.near T1.out) LO.out LB.out).mono ?_
    rintro e w2 ⟨VO2, VB2, rfl, o, o', f, f', nd, t⟩
    have O := Lib.hid o
    have O' := Lib.hid o'
    have F := Lib.hid f
    have F' := Lib.hid f'
    have ND := Lib.hid nd
    have T2 := Lib.hid (T1.out.trans t (by simp))
    obtain ⟨A2, cp2, rfl⟩ := o.row.form
    obtain ⟨A3, cp3, rfl⟩ := o'.row.form
    clear o o' f f' nd t
    go_wp2
    go_ret2
    refine ⟨T2.out.alloc _, _, [(p, .slice A2 p.opts.length cp2, .slice A3 p.body.length cp3)], by rw [HE.out]; rfl, PRow.one (e := (p, .slice A2 p.opts.length cp2, .slice A3 p.body.length cp3)) ⟨O.out, O'.out⟩ (kB_nodup ND.out), by rw [HP.out]; rfl, fun b hb => ?_, fun k hk => ?_⟩
    · simp [Value.ownBlock] at hb; have := T2.out.size; omega
    · have := kB_ge F.out F'.out k (by simpa using hk)
      have := T1.out.size
      omega
  · obtain ⟨df, hdf⟩ : ∃ b : Bool, b = p.h.df := ⟨_, rfl⟩
    rw [← hdf] at c2
    cases df
    rotate_left
    · have HE : Hid (splitE p mtu = 51) := Lib.hid (by unfold splitE; rw [if_neg (show ¬ mtu < 68 by have := H68.out; omega), if_neg (by simpa using HBE.out), if_neg hfit, ← hdf]; rfl)
      have HP : Hid (splitP p mtu = []) := Lib.hid (by unfold splitP; rw [HE.out]; rfl)
      clear hdf
      go_wp2
      go_ret2
      exact ⟨T1.out, .slice none 0 0, [], by rw [HE.out]; rfl, PRow.nil _, by rw [HP.out]; rfl, Fresh.nil _, by simp⟩
    have HE : Hid (splitE p mtu = 0) := Lib.hid (by unfold splitE; rw [if_neg (show ¬ mtu < 68 by have := H68.out; omega), if_neg (by simpa using HBE.out), if_neg hfit, ← hdf]; rfl)
    have HP : Hid (splitP p mtu = splitL p (copiedO p.opts) mtu (p.body.length + 1) 0 p.opts) := Lib.hid (by unfold splitP; rw [HE.out, if_neg (by simp)])
    clear hdf
    go_wp2_with fail
    refine (copiedo_calls (HO.out.near T1.out) (by omega)).mono ?_
    rintro e w2 ⟨t2, hpost⟩
    rcases hpost with ⟨hf, _⟩ | ⟨_, VL, rfl, ol, fl⟩
    · have := HAR.out; rw [hf] at this; cases this
    obtain ⟨AL, cpL, rfl⟩ := ol.row.form
    have OL := Lib.hid ol
    have FL := Lib.hid (fl.mono T1.out.size)
    have X2 := Lib.hid (touch_box t2 X1.out (by simp))
    have T2 := Lib.hid (T1.out.trans t2 (by simp))
    have HCL := Lib.hid (copied_len HAR.out)
    clear ol fl t2 X1 T1 c0 c1 c2 c3 c4 c5 c6 c7 c8 c9 c10
    obtain ⟨c0, c1, c2, c3, c4, c5, c6, c7, c8, c9, c10⟩ := pk_cells X2.out
    go_upto_region 15 with (fail)
    obtain ⟨b2, hb2⟩ : ∃ b2, b2 = w2.heap.size := ⟨_, rfl⟩
    obtain ⟨W3, hW3⟩ : ∃ W3 : World, W3 = w2.alloc (.cells (hdC p.h (.slice A p.opts.length cap)) 28) := ⟨_, rfl⟩
    rw [← hW3]
    have t3 : Touch [] w2 W3 := by rw [hW3]; exact (Touch.refl [] w2).alloc _
    have X3 := Lib.hid (touch_box t3 X2.out (by simp))
    have Y3 := Lib.hid (show W3.heap[b2]? = some (.cells (hdC p.h (.slice A p.opts.length cap)) 28 (0, 0)) by rw [hW3, hb2]; exact box_at _ _)
    have T3 := Lib.hid (T2.out.trans t3 (by simp))
    have OL3 := Lib.hid (OL.out.near t3)
    have SB : Hid (w.heap.size < b2 ∧ b2 < W3.heap.size) := Lib.hid (by
      have h1 := (Array.getElem?_eq_some_iff.1 X2.out).1
      rw [hb2, hW3]; simp; omega)
    rw [← hb2]
    clear hb2 hW3 t3 X2 T2 OL c0 c1 c2 c3 c4 c5 c6 c7 c8 c9 c10
    obtain ⟨c0, c1, c2, c3, c4, c5, c6, c7, c8, c9, c10⟩ := pk_cells X3.out
    obtain ⟨L, hL⟩ : ∃ L, L = copiedO p.opts := ⟨_, rfl⟩
    rw [← hL] at OL3 FL HCL HP ⊢
    clear hL
    have hL40 : L.length ≤ 40 := by have := HCL.out.1; omega
    have hfit2 : Hid (mtu < 20 + p.opts.length + p.body.length) := Lib.hid (by omega)
    clear hfit
    go_wp2_with fail
    go_loopg [10, 12] p.body.length (fun kq v10 v12 wr => ∃ (pos k : Nat) (A10 : Option Addr) (cq : Nat) (l : List PE) (VR VC : Value) (ol : List Int) (mfv : Bool),
      v10 = .slice A10 l.length cq ∧ v12 = VR ∧ pos ≤ p.body.length ∧ p.body.length - pos ≤ kq ∧ Hid (p.body.length < pos + k) ∧ l.length ≤ pos ∧ ol.length ≤ 40 ∧ Hid (RdB w VR (p.body.drop pos)) ∧
      Hid (splitP p mtu = l.map (·.1) ++ splitL p L mtu k pos ol) ∧ Hid (PRow wr (.slice A10 l.length cq) l) ∧ Hid (Fresh W3.heap.size (.slice A10 l.length cq)) ∧ Hid (∀ b ∈ l.flatMap kB, w.heap.size ≤ b) ∧
      Hid (wr.heap[b2]? = some (.cells (hdC { p.h with off := p.h.off + pos, mf := mfv } VC) 28 (0, 0))) ∧ Hid ((VC = .slice A p.opts.length cap ∧ ol = p.opts) ∨ (VC = .slice AL L.length cpL ∧ ol = L)) ∧ Hid (Touch [b2] W3 wr) ∧ Hid (0 < pos → ol = L))
    case atStart =>
      refine ⟨0, p.body.length + 1, none, 0, [], _, .slice A p.opts.length cap, p.opts, p.h.mf, rfl, rfl, by omega, by omega, Lib.hid (by omega), Nat.le_refl _, l40, Lib.hid (by simpa using HB.out), Lib.hid (by rw [HP.out]; rfl), Lib.hid (PRow.nil _), Lib.hid (Fresh.nil _), Lib.hid (by simp), Lib.hid (by simpa using Y3.out), Lib.hid (.inl ⟨rfl, rfl⟩), Lib.hid (Touch.refl _ _), Lib.hid (by simp)⟩
    case round =>
      obtain ⟨pos, k, A10, cq, l, VR, VC, ol, mfv, rfl, rfl, hpos, hk, hfuel, hll, hol, hVR, hsp, hPR, hFR, hFB, hY, hVC, hT, hlat⟩ := hrel
      obtain ⟨D, hD⟩ : ∃ D, D = p.body.drop pos := ⟨_, rfl⟩
      rw [← hD] at hVR
      obtain ⟨AR, capR, hVRf⟩ := hVR.out.len_lt
      have hml : D.length = p.body.length - pos := by rw [hD]; exact List.length_drop
      have HDl := Lib.hid hml
      have HD := Lib.hid hD
      clear hD
      rw [hml] at hVRf
      obtain ⟨m, hm'⟩ : ∃ m, m = p.body.length - pos := ⟨_, rfl⟩
      rw [← hm'] at hVRf
      subst hVRf
      have hmi : (m : Int) = (p.body.length : Int) - pos := by omega
      have HM' := Lib.hid hm'
      clear hm'
      have HMI := Lib.hid hmi
      have Tw := Lib.hid (T3.out.trans hT.out (fun x hx => .inr (by have := SB.out; simp at hx; omega)))
      have OLr := Lib.hid (OL3.out.kept hT.out (fun b hb h => by
        obtain ⟨c, hc⟩ := OL3.out.row.blk b hb
        simp at h; subst h
        rw [Y3.out] at hc; cases hc))
      obtain ⟨AC, cC, hVCf⟩ : ∃ (AC : Option Addr) (cC : Nat), VC = .slice AC ol.length cC := by
        rcases hVC.out with ⟨h1, h2⟩ | ⟨h1, h2⟩
        · exact ⟨A, cap, by rw [h1, h2]⟩
        · exact ⟨AL, cpL, by rw [h1, h2]⟩
      have getR : Hid (∀ W', Touch [b2] W3 W' → RdB W' VC ol ∧ RdB W' (.slice AR m capR) D ∧ Touch [] w W') := Lib.hid (fun W' t => by
        have tw := T3.out.trans t (fun x hx => .inr (by have := SB.out; simp at hx; omega))
        refine ⟨?_, hVR.out.near tw, tw⟩
        rcases hVC.out with ⟨h1, h2⟩ | ⟨h1, h2⟩
        · rw [h1, h2]; exact HO.out.near tw
        · rw [h1, h2]; exact (OL3.out.kept t (OL3.out.offHead Y3.out)).rdb)
      subst hVCf
      have Xr := Lib.hid (touch_box hT.out X3.out (by have := SB.out; simp; omega))
      clear hml c0 c1 c2 c3 c4 c5 c6 c7 c8 c9 c10
      obtain ⟨c0, c1, c2, c3, c4, c5, c6, c7, c8, c9, c10⟩ := pk_cells Xr.out
      obtain ⟨d0, d1, d2, d3, d4, d5, d6, d7, d8, d9⟩ := hd_cells hY.out
      dsimp only at d0 d1 d2 d3 d4 d5 d6 d7 d8 d9
      have z := fun o => box_frozen hY.out o
      obtain ⟨k', hk'⟩ : ∃ k', k = k' + 1 := ⟨k - 1, by have := hfuel.out; omega⟩
      have HK := Lib.hid hk'
      obtain ⟨r, hr⟩ : ∃ r : Int, mtu - 20 - (ol.length : Int) = r := ⟨_, rfl⟩
      have hr8 : 8 ≤ r := by have := H68.out; omega
      have hr62 : r ≤ 9223372036854775807 := by omega
      clear hk' hmi
      by_cases hlast : (m : Int) ≤ r
      · have HS : Hid (splitP p mtu = l.map (·.1) ++ [⟨{ p.h with off := p.h.off + pos }, ol, D⟩]) := Lib.hid (by
          rw [HD.out, hsp.out, HK.out, splitL_last (by rw [hr, ← HMI.out]; exact hlast)])
        go_upto_region 19 with (fail)
        obtain ⟨W6, hW6⟩ : ∃ W6 : World, W6 = wr.setCell ⟨b2, 3, none⟩ (.bool p.h.mf) := ⟨_, rfl⟩
        rw [← hW6]
        have t6 : Touch [b2] wr W6 := by rw [hW6]; exact (Touch.refl _ wr).setCell _ _ (.inl (by simp))
        have Y6 := Lib.hid (show W6.heap[b2]? = some (.cells (hdC { p.h with off := p.h.off + pos } (.slice AC ol.length cC)) 28 (0, 0)) by rw [hW6]; simpa using box_set (o := 3) hY.out (.bool p.h.mf))
        have P6 := Lib.hid (hPR.out.kept t6 (hPR.out.offHead hY.out).1 (hPR.out.offHead hY.out).2)
        have T36 := Lib.hid (hT.out.trans t6 (fun x hx => .inl hx))
        clear hW6 t6 c0 c1 c2 c3 c4 c5 c6 c7 c8 c9 c10 d0 d1 d2 d3 d4 d5 d6 d7 d8 d9 z
        obtain ⟨d0, d1, d2, d3, d4, d5, d6, d7, d8, d9⟩ := hd_cells Y6.out
        dsimp only at d0 d1 d2 d3 d4 d5 d6 d7 d8 d9
        go_wp2_with fail
        refine (own_calls (p := ⟨{ p.h with off := p.h.off + pos }, ol, D⟩) (getR.out W6 T36.out).1 (getR.out W6 T36.out).2.1 (Nat.le_trans hol (by decide)) (by dsimp only; rw [HDl.out]; omega)).mono ?_
        rintro e w7 ⟨VO7, VB7, rfl, o, o', f, f', nd, t⟩
        obtain ⟨A7, cp7, rfl⟩ := o.row.form
        obtain ⟨A8, cp8, rfl⟩ := o'.row.form
        have O := Lib.hid o
        have O' := Lib.hid o'
        have F := Lib.hid f
        have F' := Lib.hid f'
        have ND := Lib.hid nd
        have P7 := Lib.hid (P6.out.near t)
        have T7 := Lib.hid ((getR.out W6 T36.out).2.2.trans t (by simp))
        have hne : Hid (∀ k ∈ kB (⟨⟨{ p.h with off := p.h.off + pos }, ol, D⟩, .slice A7 ol.length cp7, .slice A8 D.length cp8⟩ : PE), k ∉ l.flatMap kB) := Lib.hid (fun k hk h => by
          have h1 := kB_ge f f' k hk
          have h2 := (P6.out.lt k h).1
          omega)
        have hge : Hid (∀ k ∈ kB (⟨⟨{ p.h with off := p.h.off + pos }, ol, D⟩, .slice A7 ol.length cp7, .slice A8 D.length cp8⟩ : PE), w.heap.size ≤ k) := Lib.hid (fun k hk => by
          have h1 := kB_ge f f' k hk
          have h2 := (getR.out W6 T36.out).2.2.size
          omega)
        clear o o' f f' nd t d0 d1 d2 d3 d4 d5 d6 d7 d8 d9
        go_wp2_with (at_builtin
                     refine wpList_append_k (by rfl) (.tmp 69) (.tmp 74) (by rfl) (.slice A10 l.length cq) l (⟨⟨{ p.h with off := p.h.off + pos }, ol, D⟩, .slice A7 ol.length cp7, .slice A8 D.length cp8⟩ : PE) (by rfl) P7.out (by rfl) ⟨O.out, O'.out⟩ (kB_nodup ND.out) hne.out (by omega) ?_
                     intro A9 cp9 w9 h1 h2 h3
                     have P9 := Lib.hid h1
                     have T9 := Lib.hid h2
                     have F9 := Lib.hid h3
                     clear h1 h2 h3)
        go_ret2
        refine ⟨T7.out.trans T9.out (fun x hx => .inr (Nat.le_trans T3.out.size (hFR.out x (by simpa using hx)))), _, _, by rw [HE.out]; rfl, P9.out, by rw [HS.out]; simp, fun b hb => ?_, fun k hk => ?_⟩
        · have h1 := T7.out.size
          rcases F9.out with h | ⟨b', h, hge'⟩
          · exact Nat.le_trans T3.out.size (hFR.out b (by rw [← h]; exact hb))
          · have hb2 : (Value.slice A9 (l.length + 1) cp9).ownBlock = some b := hb
            rw [h] at hb2; cases hb2; omega
        · rw [List.flatMap_append] at hk
          rcases List.mem_append.1 hk with hk | hk
          · exact hFB.out k hk
          · exact hge.out k (by simpa using hk)
      · have hlast1 : ¬ (m : Int) ≤ r := hlast
        obtain ⟨n, hn⟩ : ∃ n : Nat, (n : Int) = r / 8 * 8 := ⟨(r / 8 * 8).toNat, by omega⟩
        have hn8 : 8 ≤ n := by omega
        have hnm : n < m := by omega
        have ern : r - r % 8 = (n : Int) := by omega
        obtain ⟨⟨AR', capR', hVf, hcapR, _, hrr⟩, _⟩ := hVR.out
        simp only [Value.slice.injEq] at hVf
        obtain ⟨eA, em, ec⟩ := hVf
        obtain ⟨b, off, eA', _, _⟩ := hrr (by omega)
        have hcapm : m ≤ capR := by rw [ec]; omega
        subst eA eA'
        obtain ⟨D1, hD1⟩ : ∃ D1, D1 = D.take n := ⟨_, rfl⟩
        have HD1l : Hid (D1.length = n) := Lib.hid (by rw [hD1, List.length_take, HDl.out]; have := HM'.out; omega)
        have HS : Hid (splitP p mtu = l.map (·.1) ++ (⟨{ p.h with off := p.h.off + pos, mf := true }, ol, D1⟩ :: splitL p L mtu k' (pos + n) L)) := Lib.hid (by
          rw [hD1, HD.out, hsp.out, HK.out, splitL_more (n := n) (by rw [hr, ← HMI.out]; exact hlast) (by rw [hr]; exact hn)])
        have gR1 : Hid (∀ W', Touch [b2] W3 W' → RdB W' (.slice (some ⟨b, off, none⟩) n capR) D1) := Lib.hid (fun W' t => by
          have h := RdB.sub (getR.out W' t).2.1 (lo := 0) (hi := n) (Nat.zero_le _) (by rw [HDl.out]; have := HM'.out; omega)
          rw [hD1]
          simpa using h)
        have hVR2 : Hid (RdB w (.slice (some ⟨b, off + n, none⟩) (m - n) (capR - n)) (p.body.drop (pos + n))) := Lib.hid (by
          have h := RdB.sub hVR.out (lo := n) (hi := m) (by omega) (by rw [HDl.out]; have := HM'.out; omega)
          rw [List.take_of_length_le (by rw [List.length_drop, HDl.out]; have := HM'.out; omega), HD.out, List.drop_drop] at h
          exact h)
        have hrl : Hid (RdB w (.slice (some ⟨b, off, none⟩) m capR) D) := hVR
        have HNN := Lib.hid hn
        have cn : ¬ capR = n := by omega
        have l1 : (n : Int) ≤ (capR : Int) := by omega
        have l2 : (n : Int) ≤ (m : Int) := by omega
        have l3 : (0 : Int) ≤ (n : Int) := by omega
        have EM := Lib.hid em
        have EC := Lib.hid ec
        clear hn hrr hD1 em ec
        go_upto_region 22 with (fail)
        obtain ⟨W6, hW6⟩ : ∃ W6 : World, W6 = wr.setCell ⟨b2, 3, none⟩ (.bool true) := ⟨_, rfl⟩
        rw [← hW6]
        have t6 : Touch [b2] wr W6 := by rw [hW6]; exact (Touch.refl _ wr).setCell _ _ (.inl (by simp))
        have Y6 := Lib.hid (show W6.heap[b2]? = some (.cells (hdC { p.h with off := p.h.off + pos, mf := true } (.slice AC ol.length cC)) 28 (0, 0)) by rw [hW6]; simpa using box_set (o := 3) hY.out (.bool true))
        have P6 := Lib.hid ((hPR.out.kept t6 (hPR.out.offHead hY.out).1 (hPR.out.offHead hY.out).2).near (Touch.refl [] W6).drew)
        have T36 := Lib.hid ((hT.out.trans t6 (fun x hx => .inl hx)).drew)
        clear hW6 t6 c0 c1 c2 c3 c4 c5 c6 c7 c8 c9 c10 d0 d1 d2 d3 d4 d5 d6 d7 d8 d9 z
        obtain ⟨d0, d1, d2, d3, d4, d5, d6, d7, d8, d9⟩ := hd_cells Y6.out
        dsimp only at d0 d1 d2 d3 d4 d5 d6 d7 d8 d9
        go_region_law (first
          | (go_simp; go_at_call 29
             refine (own_calls (p := ⟨{ p.h with off := p.h.off + pos, mf := true }, ol, D1⟩) (getR.out _ T36.out).1 (gR1.out _ T36.out) (Nat.le_trans hol (by decide)) (by dsimp only; rw [HD1l.out]; omega)).mono ?_
             rintro e w7 ⟨VO7, VB7, rfl, o, o', f, f', nd, t⟩
             obtain ⟨A7, cp7, rfl⟩ := o.row.form
             obtain ⟨A8, cp8, rfl⟩ := o'.row.form
             have O := Lib.hid o
             have O' := Lib.hid o'
             have ND := Lib.hid nd
             have P7 := Lib.hid (P6.out.near t)
             have T67 := Lib.hid t
             have hne : Hid (∀ k ∈ kB (⟨⟨{ p.h with off := p.h.off + pos, mf := true }, ol, D1⟩, .slice A7 ol.length cp7, .slice A8 D1.length cp8⟩ : PE), k ∉ l.flatMap kB) := Lib.hid (fun k hk h => by
               have h1 := kB_ge f f' k hk
               have h2 := (P6.out.lt k h).1
               omega)
             have hge : Hid (∀ k ∈ kB (⟨⟨{ p.h with off := p.h.off + pos, mf := true }, ol, D1⟩, .slice A7 ol.length cp7, .slice A8 D1.length cp8⟩ : PE), w.heap.size ≤ k) := Lib.hid (fun k hk => by
               have h1 := kB_ge f f' k hk
               have h2 := (getR.out _ T36.out).2.2.size
               omega)
             clear o o' f f' nd t)
          | (refine step_append_k (by rfl) (.tmp 81) (.tmp 88) (by rfl) (.slice A10 l.length cq) l (⟨⟨{ p.h with off := p.h.off + pos, mf := true }, ol, D1⟩, .slice A7 ol.length cp7, .slice A8 D1.length cp8⟩ : PE) (by rfl) P7.out (by rfl) ⟨O.out, O'.out⟩ (kB_nodup ND.out) hne.out (by omega) ?_
             intro A9 cp9 w9 h1 h2 h3
             have P9 := Lib.hid h1
             have T9 := Lib.hid h2
             have F9 := Lib.hid h3
             clear h1 h2 h3))
        have t69 : Touch (b2 :: (Value.slice A10 l.length cq).ownBlock.toList) W6.drew w9 := (T67.out.mono (by simp)).trans T9.out (fun x hx => .inl (List.mem_cons_of_mem _ hx))
        have Y9 := Lib.hid (touch_box T9.out (touch_box T67.out (touch_box (Touch.refl [] W6).drew Y6.out (by simp)) (by simp)) (fun h => (P6.out.offHead (b := b2) (touch_box (Touch.refl [] W6).drew Y6.out (by simp))).1 b2 (by simpa using h) (by simp)))
        have T39 := Lib.hid ((T36.out.trans T67.out (by simp)).trans T9.out (fun x hx => .inr (hFR.out x (by simpa using hx))))
        have FR9 : Hid (Fresh W3.heap.size (.slice A9 (l.length + 1) cp9)) := Lib.hid (fun b' hb' => by
          have h1 := T36.out.size
          have h2 := T67.out.size
          rcases F9.out with h | ⟨b'', h, hge'⟩
          · exact hFR.out b' (by rw [← h]; exact hb')
          · rw [h] at hb'; cases hb'; omega)
        clear t69 d0 d1 d2 d3 d4 d5 d6 d7 d8 d9
        obtain ⟨d0, d1, d2, d3, d4, d5, d6, d7, d8, d9⟩ := hd_cells Y9.out
        dsimp only at d0 d1 d2 d3 d4 d5 d6 d7 d8 d9
        have z := fun o => box_frozen Y9.out o
        have hpn : p.h.off + (pos : Int) + (n : Int) ≤ 70000 := by have := HMI.out; omega
        have hpn0 : 0 ≤ p.h.off + (pos : Int) := by omega
        go_wp2
        have tf : Touch [b2] w9 ((w9.setCell ⟨b2, 4, none⟩ (.int .i64 (p.h.off + (pos : Int) + (n : Int)))).setCell ⟨b2, 9, none⟩ (.slice AL L.length cpL)) := ((Touch.refl _ w9).setCell _ _ (.inl (by simp))).setCell _ _ (.inl (by simp))
        go_roundg (gk - 1)
        case rel =>
          refine ⟨pos + n, k', A9, cp9, l ++ [(⟨{ p.h with off := p.h.off + pos, mf := true }, ol, D1⟩, .slice A7 ol.length cp7, .slice A8 D1.length cp8)], _, .slice AL L.length cpL, L, true, by first | rfl | simp, rfl, by have := HM'.out; omega, by have := HM'.out; omega, Lib.hid (by have := hfuel.out; have := HK.out; omega), by rw [List.length_append]; simp only [List.length_cons, List.length_nil]; omega, hL40, hVR2,
            Lib.hid (by rw [HS.out]; simp), Lib.hid ?_, Lib.hid ?_, Lib.hid ?_, Lib.hid ?_, Lib.hid (.inr ⟨rfl, rfl⟩), Lib.hid (T39.out.trans tf (fun x hx => .inl hx)), Lib.hid (fun _ => rfl)⟩
          · have h := P9.out.offHead Y9.out
            have := P9.out.kept tf h.1 h.2
            rw [List.length_append]
            exact this
          · rw [List.length_append]; exact FR9.out
          · intro b' hb'
            rw [List.flatMap_append] at hb'
            rcases List.mem_append.1 hb' with hb' | hb'
            · exact hFB.out b' hb'
            · exact hge.out b' (by simpa using hb')
          · have := box_set (o := 9) (box_set (o := 4) Y9.out (.int .i64 (p.h.off + (pos : Int) + (n : Int)))) (.slice AL L.length cpL)
            rw [this]
            simp [Int.add_assoc]
        case measure => have := HM'.out; omega
end Go.Proofs.Ytelfemhnijnhfaa.Fr
