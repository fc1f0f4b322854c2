/- alike of the Timer laws; no condition. -/
import Derived.Test.YtjnhldcgemcjbaaBoth
namespace Go.Proofs.Ytjnhldcgemcjbaa.Tm
open Go.RowKit Go.Maps
set_option linter.unusedVariables false

theorem Two.when {w0 wr : World} {t1 t2 : Nat} {l1 l2 : Int} {s1 s2 : St} (h : Two w0 wr t1 l1 s1 t2 l2 s2) (id : Int) (hid : wfi id) :
    Calls Try.prog 16 #[.pointer (some ⟨t1, 0, none⟩), .int .i64 id] wr fun e w' => WhenT (val s1) id e ∧ w' = wr := by
  obtain ⟨S1, S2, a, _⟩ := h
  exact when_calls a id hid
theorem Two.next {w0 wr : World} {t1 t2 : Nat} {l1 l2 : Int} {s1 s2 : St} (h : Two w0 wr t1 l1 s1 t2 l2 s2) :
    Calls Try.prog 20 #[.pointer (some ⟨t1, 0, none⟩)] wr fun e w' => NextT (val s1) s1.hp.length e ∧ Touch [] wr w' := by
  obtain ⟨S1, S2, a, _⟩ := h
  exact next_calls a
theorem next_same {m m' : Int → Option Int} {n : Nat} {e e' : Ending} (h : NextT m n e) (h' : NextT m' n e') (hm : ∀ y, m y = m' y) : ∃ a b c : Int, e = .returned (.tuple #[.int .i64 a, .int .i64 b, .int .i64 c]) ∧ e' = .returned (.tuple #[.int .i64 a, .int .i64 b, .int .i64 c]) := by
  rcases h with ⟨h0, he⟩ | ⟨a, b, h0, hab, hmin, he⟩
  · rcases h' with ⟨_, he'⟩ | ⟨a', b', h0', _⟩
    · exact ⟨0, 0, 3, he, he'⟩
    · omega
  · rcases h' with ⟨h0', _⟩ | ⟨a', b', _, hab', hmin', he'⟩
    · omega
    · have h1 := hmin a' b' (by rw [hm]; exact hab')
      have h2 := hmin' a b (by rw [← hm]; exact hab)
      have h3 := le_anti h1 h2
      simp only [Prod.mk.injEq] at h3
      obtain ⟨rfl, rfl⟩ := h3
      exact ⟨a, b, 0, he, he'⟩
theorem next_form {m : Int → Option Int} {n : Nat} {e : Ending} (h : NextT m n e) : ∃ a b c : Int, e = .returned (.tuple #[.int .i64 a, .int .i64 b, .int .i64 c]) := by
  obtain ⟨a, b, c, h, _⟩ := next_same h h (fun _ => rfl); exact ⟨a, b, c, h⟩
theorem due_same {s1 s2 r1 r2 : St} {now : Int} {lp1 lp2 : List Pr} (h1 : Dued s1 now lp1 r1) (h2 : Dued s2 now lp2 r2) (hv : ∀ y, val s1 y = val s2 y) : lp1 = lp2 ∧ ∀ y, val r1 y = val r2 y := by
  have e : val s1 = val s2 := funext hv
  have d1 := h1.spec
  rw [e] at d1
  have := d1.unique h2.spec
  exact ⟨this, fun y => by rw [h1.vals, h2.vals, this, hv]⟩

theorem due_all {w : World} {tb : Nat} {S : List Nat} {lim : Int} {s s' : St} {lp : List Pr} (h : Dued s 9223372036854775807 lp s') (hT : Tim w tb S lim s') : s'.hp.length = 0 := by
  rcases Nat.eq_zero_or_pos s'.hp.length with h0 | h0
  · exact h0
  · have h1 := hT.ok.inv.val_mem (List.getElem_mem h0)
    have h2 := h.left _ _ h1
    have h3 := (wfi_bd (hT.wf h1).2).2
    omega

set_option maxHeartbeats 4000000 in
set_option maxRecDepth 100000 in
theorem alike_calls {w0 w : World} {t1 t2 : Nat} {l1 l2 : Int} {s1 s2 : St} (h : Two w0 w t1 l1 s1 t2 l2 s2) {A : Option Addr} {cap : Nat} {ks : List Pr} (hk : RdPr w A ks.length ks) (nd : Nd ks) (hv1 : ∀ y, val s1 y = lval ks y) (hv2 : ∀ y, val s2 y = lval ks y) (now : Int) (hsm : ks.length ≤ 70000) :
    Calls Try.prog 25 #[.pointer (some ⟨t1, 0, none⟩), .pointer (some ⟨t2, 0, none⟩), .slice A ks.length cap, .int .i64 now] w fun e w' => e = .returned (.bool true) ∧ ∃ r1 r2, Two w0 w' t1 l1 r1 t2 l2 r2 ∧ r1.hp.length = 0 ∧ r2.hp.length = 0 := by
  have hn1 := len_of_vals nd h.inv.1 hv1
  have hn2 := len_of_vals nd h.inv.2 hv2
  have H := Lib.hid h
  have HK := Lib.hid hk
  have HV1 := Lib.hid hv1
  have HV2 := Lib.hid hv2
  have HN1 := Lib.hid hn1
  have HN2 := Lib.hid hn2
  have ND := Lib.hid nd
  have c1 := h.len
  rw [hn1] at c1
  have c2 := h.swap.len
  rw [hn2] at c2
  clear h hk hv1 hv2 nd hn1 hn2
  go_enter Try.func25, Try.ntmps25
  go_wp2_with fail
  refine c1.mono ?_
  rintro e _ ⟨rfl, rfl⟩
  go_wp2_with fail
  refine c2.mono ?_
  rintro e wa ⟨rfl, rfl⟩
  go_wp2
  go_loopw [9] (fun v9 wr => ∃ k : Nat, v9 = .int .i64 k ∧ k ≤ ks.length ∧ wr = wa) (fun v9 _ => ks.length - (intOf v9).toNat)
  case atStart => exact ⟨0, rfl, Nat.zero_le _, rfl⟩
  case round =>
    obtain ⟨k, rfl, hkl, rfl⟩ := hrel
    by_cases hlt : k < ks.length
    · obtain ⟨b, off, hA, hb, hc⟩ := HK.out.at_ (by omega)
      subst hA
      obtain ⟨⟨x0, x1⟩, hx⟩ : ∃ x, ks[k]? = some x := ⟨_, List.getElem?_eq_getElem hlt⟩
      obtain ⟨m0, m1⟩ := hc k _ hx
      dsimp only at m0 m1
      have hval : lval ks x0 = some x1 := (lval_iff ND.out _ _).2 (List.mem_of_getElem? hx)
      have HVAL := Lib.hid hval
      have HWF := Lib.hid (HK.out.wf _ (List.mem_of_getElem? hx))
      have b3 : (k : Int) < (ks.length : Int) := by omega
      clear hc hx hval c1 c2
      go_wp2_with fail
      refine (H.out.when x0 HWF.out.1).mono ?_
      rintro e _ ⟨hw, rfl⟩
      rcases hw with ⟨h1, _⟩ | ⟨v, h1, rfl⟩
      · rw [HV1.out, HVAL.out] at h1; cases h1
      rw [HV1.out, HVAL.out] at h1
      injection h1 with h1
      subst h1
      go_wp2_with fail
      refine (H.out.swap.when x0 HWF.out.1).mono ?_
      rintro e _ ⟨hw, rfl⟩
      rcases hw with ⟨h1, _⟩ | ⟨v, h1, rfl⟩
      · rw [HV2.out, HVAL.out] at h1; cases h1
      rw [HV2.out, HVAL.out] at h1
      injection h1 with h1
      subst h1
      go_wp2
      go_roundw
      case rel => exact ⟨k + 1, by go_num, by omega, trivial⟩
      case measure => simp [intOf]; omega
    · have b3 : ¬ (k : Int) < (ks.length : Int) := by omega
      clear c1 c2 hlt hkl
      go_wp2_with fail
      refine H.out.next.mono ?_
      rintro e wb ⟨hN1, htb⟩
      obtain ⟨a, b, c, rfl⟩ := next_form hN1
      have HNX := Lib.hid hN1
      have HB := Lib.hid (H.out.near htb)
      clear hN1 htb
      go_wp2_with fail
      refine HB.out.swap.next.mono ?_
      rintro e wc ⟨hN2, htc⟩
      have hN1 := HNX.out
      rw [HN1.out] at hN1
      rw [HN2.out] at hN2
      obtain ⟨a', b', c', hh, rfl⟩ := next_same hN1 hN2 (fun y => by rw [HV1.out, HV2.out])
      simp only [Ending.returned.injEq, Value.tuple.injEq] at hh
      have hh' := congrArg Array.toList hh
      simp at hh'
      obtain ⟨rfl, rfl, rfl⟩ := hh'
      have HC := Lib.hid (HB.out.near htc)
      clear hN1 hN2 htc hh HNX HB H
      go_wp2_with fail
      obtain ⟨S1, S2, T1, T2, n1, n2, hap, htc⟩ := HC.out
      have P1 := Lib.hid T1
      have P2 := Lib.hid T2
      have HG1 := Lib.hid n1
      have HG2 := Lib.hid n2
      have HAP := Lib.hid hap
      have HTC := Lib.hid htc
      clear T1 T2 n1 n2 hap htc
      refine (due_calls P1.out now).mono ?_
      rintro e wd ⟨VE, lp, r1, rfl, T1, td, hE, hD1⟩
      have P1' := Lib.hid T1
      have P2' := Lib.hid (P2.out.kept td (fun k h1 h2 => HAP.out k h2 h1))
      have HTD := Lib.hid (HTC.out.trans td (fun x hx => .inr (HG1.out x hx)))
      have HE := Lib.hid hE
      have HEB := Lib.hid hE.block
      have HD1 := Lib.hid hD1
      clear T1 td hE hD1
      go_wp2_with fail
      refine (due_calls P2'.out now).mono ?_
      rintro e we ⟨VL, lp2, r2, rfl, T2, te, hL, hD2⟩
      obtain ⟨rfl, hvr⟩ := due_same HD1.out hD2 (fun y => by rw [HV1.out, HV2.out])
      have hl2 := P2.out.lt
      have hE' := HE.out.kept te (fun k hk hk2 => by have := (HEB.out k hk).1; have := hl2 k hk2; omega)
      have P1'' := Lib.hid (P1'.out.kept te (fun k h1 h2 => HAP.out k h1 h2))
      have P2'' := Lib.hid T2
      have HTE := Lib.hid (HTD.out.trans te (fun x hx => .inr (HG2.out x hx)))
      have HVR := Lib.hid hvr
      have hlr1 : r1.hp.length = ks.length - lp.length := by have := HD1.out.len; rw [HN1.out] at this; omega
      have hlr2 : r2.hp.length = ks.length - lp.length := by have := hD2.len; rw [HN2.out] at this; omega
      have hlp : lp.length ≤ ks.length := by have := HD1.out.len; rw [HN1.out] at this; omega
      have cs := same_calls hE' hL
      obtain ⟨AE, cE, hvE⟩ := hE'.form
      subst hvE
      simp only [List.length_map] at cs
      have hle : ((ks.length - lp.length : Nat) : Int) = (ks.length : Int) - (lp.length : Int) := by omega
      have HLR1 : Hid (r1.hp.length = ks.length - lp.length) := Lib.hid hlr1
      have HLR2 : Hid (r2.hp.length = ks.length - lp.length) := Lib.hid hlr2
      have HLE := Lib.hid hle
      have HCS := Lib.hid cs
      clear hlr1 hlr2 hl2 hE' hvr te T2 hD2 hL HE HEB hle cs
      go_wp2_with fail
      refine HCS.out.mono ?_
      rintro e wf ⟨rfl, tf⟩
      have Q1 := Lib.hid (P1''.out.kept tf (by simp))
      have Q2 := Lib.hid (P2''.out.kept tf (by simp))
      have HTF := Lib.hid (HTE.out.trans tf (by simp))
      have ce := tlen_calls Q1.out
      have cf := tlen_calls Q2.out
      rw [HLR1.out, HLE.out] at ce
      rw [HLR2.out, HLE.out] at cf
      have HCE := Lib.hid ce
      have HCF := Lib.hid cf
      clear tf ce cf HCS
      go_wp2_with fail
      refine HCE.out.mono ?_
      rintro e _ ⟨rfl, rfl⟩
      go_wp2_with fail
      refine HCF.out.mono ?_
      rintro e _ ⟨rfl, rfl⟩
      go_wp2_with fail
      refine HCE.out.mono ?_
      rintro e wg ⟨rfl, rfl⟩
      clear HCE HCF
      go_wp2_with fail
      refine (due_calls Q1.out 9223372036854775807).mono ?_
      rintro e wh ⟨VE2, lq, q1, rfl, T1, td, hE, hD1⟩
      have U1' := Lib.hid T1
      have U2' := Lib.hid (Q2.out.kept td (fun k h1 h2 => HAP.out k h2 h1))
      have HTD2 := Lib.hid (HTF.out.trans td (fun x hx => .inr (HG1.out x hx)))
      have HE := Lib.hid hE
      have HEB := Lib.hid hE.block
      have HD3 := Lib.hid hD1
      clear T1 td hE hD1
      go_wp2_with fail
      refine (due_calls U2'.out 9223372036854775807).mono ?_
      rintro e wi ⟨VL2, lq2, q2, rfl, T2, te, hL, hD2⟩
      obtain ⟨rfl, hvr⟩ := due_same HD3.out hD2 (fun y => HVR.out y)
      have hl2 := Q2.out.lt
      have hE' := HE.out.kept te (fun k hk hk2 => by have := (HEB.out k hk).1; have := hl2 k hk2; omega)
      have U1'' := Lib.hid (U1'.out.kept te (fun k h1 h2 => HAP.out k h1 h2))
      have U2'' := Lib.hid T2
      have HTE2 := Lib.hid (HTD2.out.trans te (fun x hx => .inr (HG2.out x hx)))
      have HZ1 := Lib.hid (due_all HD3.out U1''.out)
      have HZ2 := Lib.hid (due_all hD2 U2''.out)
      have HCS := Lib.hid (same_calls hE' hL)
      clear hl2 hE' hvr te T2 hD2 hL HE HEB
      go_wp2_with fail
      refine HCS.out.mono ?_
      rintro e wj ⟨rfl, tf⟩
      have V1 := Lib.hid (U1''.out.kept tf (by simp))
      have V2 := Lib.hid (U2''.out.kept tf (by simp))
      have HTJ := Lib.hid (HTE2.out.trans tf (by simp))
      have ce := tlen_calls V1.out
      rw [HZ1.out] at ce
      have HCE := Lib.hid ce
      clear tf ce HCS
      go_wp2_with fail
      refine HCE.out.mono ?_
      rintro e wk ⟨rfl, rfl⟩
      go_wp2
      go_ret
      exact ⟨rfl, q1, q2, ⟨S1, S2, V1.out, V2.out, HG1.out, HG2.out, HAP.out, HTJ.out⟩, HZ1.out, HZ2.out⟩
end Go.Proofs.Ytjnhldcgemcjbaa.Tm
