/- The walk of TrieNested; no condition. -/
import Derived.Test.YtmklkdhpbehfeaaNW
import Derived.Test.YtmklkdhpbehfeaaGO
import Derived.Test.YtmklkdhpbehfeaaTOpen
namespace Go.Proofs.Ytmklkdhpbehfeaa.Tri
open Go.RowKit Go.Maps Go.Shelf
set_option linter.unusedVariables false

theorem RdI.take {w : World} {A : Option Addr} {n i : Nat} {l : List (Nat × Int)} (h : RdI w A n l) (hi : i ≤ n) : RdI w A i (l.take i) := by
  refine ⟨by rw [List.length_take, h.len]; omega, fun x hx => h.wf x (List.mem_of_mem_take hx), fun h0 => ?_⟩
  obtain ⟨b, off, hA, hb, hc⟩ := h.at_ (by omega)
  exact ⟨b, off, hA, hb, fun j p hp => hc j p (by rw [List.getElem?_take] at hp; split at hp <;> simp_all)⟩
theorem rdi_two {w : World} {b : Nat} {za ya : Nat} {zm ym : Int} {T : TypeId} (h : w.heap[b]? = some (.cells #[.int .u32 za, .int .i64 zm, .int .u32 ya, .int .i64 ym] T (0, 0))) (hza : za < 4294967296) (hm1 : -9223372036854775808 ≤ zm) (hm2 : zm ≤ 9223372036854775807)
    (hya : ya < 4294967296) (hy1 : -9223372036854775808 ≤ ym) (hy2 : ym ≤ 9223372036854775807) : RdI w (some ⟨b, 0, none⟩) 2 [(za, zm), (ya, ym)] := by
  have hc : ∀ o v, (#[Value.int .u32 za, .int .i64 zm, .int .u32 ya, .int .i64 ym] : Array Value)[o]? = some v → w.cell? ⟨b, o, none⟩ = some v := fun o v hv => by simp [World.cell?, h, hv]
  refine ⟨rfl, fun x hx => ?_, fun _ => ⟨b, 0, rfl, (Array.getElem?_eq_some_iff.1 h).1, fun i p hp => ?_⟩⟩
  · simp at hx
    rcases hx with rfl | rfl
    · exact ⟨hza, hm1, hm2⟩
    · exact ⟨hya, hy1, hy2⟩
  · match i, hp with
    | 0, hp => simp at hp; subst hp; exact ⟨hc 0 _ rfl, hc 1 _ rfl⟩
    | 1, hp => simp at hp; subst hp; exact ⟨hc 2 _ rfl, hc 3 _ rfl⟩
theorem held_step {W w w' : World} {b o : Nat} {x0 x1 x2 x3 : Value} (t : Touch [] w w') (h : w.cell? ⟨b, o, none⟩ = some x0 ∧ w.cell? ⟨b, o + 1, none⟩ = some x1 ∧ w.cell? ⟨b, o + 2, none⟩ = some x2 ∧ w.cell? ⟨b, o + 2 + 1, none⟩ = some x3 ∧ Touch [] W w) :
    w'.cell? ⟨b, o, none⟩ = some x0 ∧ w'.cell? ⟨b, o + 1, none⟩ = some x1 ∧ w'.cell? ⟨b, o + 2, none⟩ = some x2 ∧ w'.cell? ⟨b, o + 2 + 1, none⟩ = some x3 ∧ Touch [] W w' :=
  ⟨cell_touch t h.1 (by simp), cell_touch t h.2.1 (by simp), cell_touch t h.2.2.1 (by simp), cell_touch t h.2.2.2.1 (by simp), h.2.2.2.2.trans t (by simp)⟩
structure FiveAt (W : World) (tb : Nat) (t : T) (S : List Nat) (k B Bx By : Nat) (q1 q2 : Px) (L M1 M2 : List Ent) (A4 A6 A7 : Option Addr) : Prop where
  tr : TrieAt W tb t S k
  s0 : SeqAt W B tb 0 0
  s1 : SeqAt W Bx tb q1.a q1.n
  s2 : SeqAt W By tb q2.a q2.n
  r0 : RdX W A4 L.length (L.map (·.1))
  r1 : RdX W A6 M1.length (M1.map (·.1))
  r2 : RdX W A7 M2.length (M2.map (·.1))
  b0 : ∀ b, (Value.slice A4 L.length 0).ownBlock = some b → b < W.heap.size
  b1 : ∀ b, (Value.slice A6 M1.length 0).ownBlock = some b → b < W.heap.size
  b2 : ∀ b, (Value.slice A7 M2.length 0).ownBlock = some b → b < W.heap.size
theorem FiveAt.kept {W W' : World} {tb : Nat} {t : T} {S : List Nat} {k B Bx By : Nat} {q1 q2 : Px} {L M1 M2 : List Ent} {A4 A6 A7 : Option Addr} (h : FiveAt W tb t S k B Bx By q1 q2 L M1 M2 A4 A6 A7) (tt : Touch [] W W') : FiveAt W' tb t S k B Bx By q1 q2 L M1 M2 A4 A6 A7 :=
  ⟨h.tr.kept tt (by simp), h.s0.kept tt (by simp) (by simp), h.s1.kept tt (by simp) (by simp), h.s2.kept tt (by simp) (by simp), h.r0.kept tt, h.r1.kept tt, h.r2.kept tt,
    fun b hb => Nat.lt_of_lt_of_le (h.b0 b hb) tt.size, fun b hb => Nat.lt_of_lt_of_le (h.b1 b hb) tt.size, fun b hb => Nat.lt_of_lt_of_le (h.b2 b hb) tt.size⟩
theorem own_any {A : Option Addr} {n c b : Nat} (hb : (Value.slice A n 0).ownBlock = some b) : (Value.slice A n c).ownBlock = some b := by
  cases A with
  | none => cases hb
  | some a => exact hb
set_option maxHeartbeats 8000000 in
set_option maxRecDepth 100000 in
theorem nested_row {w : World} {A0 : Option Addr} {n0 cap0 : Nat} {l0 : List (Nat × Int)} (h0 : RdI w A0 n0 l0) (hcap : n0 ≤ cap0) (za : Nat) (zm : Int) (hza : za < 4294967296) (hm1 : -9223372036854775808 ≤ zm) (hm2 : zm ≤ 9223372036854775807)
    (ya : Nat) (ym : Int) (hya : ya < 4294967296) (hy1 : -9223372036854775808 ≤ ym) (hy2 : ym ≤ 9223372036854775807) (hn0 : n0 ≤ 140737488355328) :
    Calls Try.prog 4 #[.slice A0 n0 cap0, .agg #[.int .u32 za, .int .i64 zm], .agg #[.int .u32 ya, .int .i64 ym]] w fun e w' => e = .returned (.bool true) ∧ Touch [] w w' := by
  have H0 := Lib.hid h0
  have hg := guard32
  clear h0
  go_enter Try.func4, Try.ntmps4
  go_upto_if 20 with (fail)
  obtain ⟨V0, hV0⟩ : ∃ V0 : World, V0 = (w.alloc (.cells #[.int .u32 za, .int .i64 zm] 32)).alloc (.cells #[.int .u32 ya, .int .i64 ym] 32) := ⟨_, rfl⟩
  have Z4 := Lib.hid (show V0.heap[w.heap.size]? = some (.cells #[.int .u32 za, .int .i64 zm] 32 (0, 0)) by rw [hV0]; exact box_keep _ (box_at w _))
  have Z5 := Lib.hid (show V0.heap[w.heap.size + 1]? = some (.cells #[.int .u32 ya, .int .i64 ym] 32 (0, 0)) by rw [hV0]; exact box_at' _ _ _ (by simp))
  have TV := Lib.hid (show Touch [] w V0 by rw [hV0]; exact ((Touch.refl [] w).alloc _).alloc _)
  rw [← hV0]
  have HV := Lib.hid (H0.out.kept TV.out)
  clear hV0 H0
  go_cut [0] from 18 to 23 (fun v0 wc => V0 = wc ∧ ∃ (n1 : Nat) (l1 : List (Nat × Int)), v0 = .slice A0 n1 cap0 ∧ n1 ≤ 12 ∧ Hid (RdI V0 A0 n1 l1))
  case first =>
    by_cases hn : n0 ≤ 12
    · have b1 : ¬ (12 : Int) < (n0 : Int) := by omega
      have b2 : ¬ 12 < n0 := by omega
      go_wp2
      go_meet
      case rel => exact ⟨rfl, n0, l0, rfl, hn, HV⟩
    · have b1 : (12 : Int) < (n0 : Int) := by omega
      have b2 : 12 < n0 := by omega
      have b3 : (12 : Int) ≤ (cap0 : Int) := by omega
      have b4 : 12 ≤ cap0 := by omega
      go_wp2
      go_meet
      case rel => exact ⟨rfl, 12, l0.take 12, rfl, by omega, Lib.hid (HV.out.take (by omega))⟩
  case rest =>
  obtain ⟨rfl, n1, l1, rfl, hn1, H1⟩ := hcut
  clear HV hcap hn0
  go_wp2_with fail
  refine (valids_calls (cap := cap0) H1.out (by omega)).mono ?_
  rintro e W0 ⟨A, c, rfl, hv, ht0⟩
  obtain ⟨L0, hL⟩ : ∃ L : List Px, L = (l1.take 200).map (fun x => pxOf x.1 x.2) := ⟨_, rfl⟩
  rw [← hL] at hv ⊢
  have hLok : ∀ p ∈ L0, p.ok := fun p hp => by
    rw [hL] at hp
    obtain ⟨x, hx, rfl⟩ := List.mem_map.1 hp
    exact pxOf_ok (H1.out.wf x (List.mem_of_mem_take hx)).1
  have hLl : L0.length ≤ 12 := by rw [hL]; simp; have := H1.out.len; omega
  have LOK := Lib.hid hLok
  have RX := Lib.hid (hv.rdx rfl)
  have Z41 := Lib.hid (touch_box ht0 Z4.out (by simp))
  have Z51 := Lib.hid (touch_box ht0 Z5.out (by simp))
  have T0 := Lib.hid (TV.out.trans ht0 (by simp))
  clear hv ht0 hL hLok Z4 Z5 TV H1 hn1
  obtain ⟨z0, z1, _⟩ := two_cells Z41.out
  obtain ⟨z2, z3, _⟩ := two_cells Z51.out
  go_wp2_with fail
  obtain ⟨V2, hV2⟩ : ∃ V2 : World, V2 = W0.alloc (.cells #[.int .u32 za, .int .i64 zm, .int .u32 ya, .int .i64 ym] 32) := ⟨_, rfl⟩
  have t2 : Touch [] W0 V2 := by rw [hV2]; exact (Touch.refl [] W0).alloc _
  have R2 := Lib.hid (rdi_two (show V2.heap[W0.heap.size]? = some (.cells #[.int .u32 za, .int .i64 zm, .int .u32 ya, .int .i64 ym] 32 (0, 0)) by rw [hV2]; exact box_at W0 _) hza hm1 hm2 hya hy1 hy2)
  rw [← hV2]
  clear hV2 z0 z1 z2 z3 Z41 Z51
  refine (valids_calls (cap := 2) R2.out (by decide)).mono ?_
  rintro e W1 ⟨A2, c2, rfl, hv, ht1⟩
  obtain ⟨q1, hq1⟩ : ∃ q1, q1 = pxOf za zm := ⟨_, rfl⟩
  obtain ⟨q2, hq2⟩ : ∃ q2, q2 = pxOf ya ym := ⟨_, rfl⟩
  have HQ1 : Hid q1.ok := Lib.hid (by rw [hq1]; exact pxOf_ok hza)
  have HQ2 : Hid q2.ok := Lib.hid (by rw [hq2]; exact pxOf_ok hya)
  have h2n : (([(za, zm), (ya, ym)].take 200).map (fun x : Nat × Int => pxOf x.1 x.2)) = [q1, q2] := by rw [hq1, hq2]; rfl
  rw [h2n] at hv ⊢
  simp only [List.length_cons, List.length_nil, Nat.zero_add, Nat.reduceAdd] at hv ⊢
  have RT := Lib.hid (hv.rdx rfl)
  have T01 := Lib.hid (t2.trans ht1 (by simp))
  have T1 := Lib.hid (T0.out.trans T01.out (by simp))
  have RX1 := Lib.hid (RX.out.kept T01.out)
  clear hq1 hq2 h2n hv ht1 t2 R2 T0 RX T01
  go_wp2_with fail
  refine (new_calls W1).mono ?_
  rintro e W2 ⟨rfl, hta, ht1⟩
  have TA := Lib.hid hta
  have TN := Lib.hid ht1
  clear hta ht1
  obtain ⟨tb, htb⟩ : ∃ tb, tb = W1.heap.size := ⟨_, rfl⟩
  have HTB := Lib.hid htb
  rw [← htb] at TA ⊢
  clear htb
  go_wp2
  go_loopw [10] (fun v10 wr => ∃ (i : Nat) (t : T) (S : List Nat) (k : Nat), v10 = .int .i64 i ∧ i ≤ L0.length ∧ k ≤ i ∧ Hid (TrieAt wr tb t S k) ∧ Hid (PutsIs t (L0.take i) 0) ∧ Hid (∀ x ∈ S, W1.heap.size ≤ x) ∧ Hid (Touch [] W1 wr)) (fun v10 _ => L0.length - (intOf v10).toNat)
  case atStart => exact ⟨0, .nil, [tb], 0, rfl, Nat.zero_le _, Nat.le_refl _, TA, Lib.hid (by simpa using puts_start 0), Lib.hid (by simp [HTB.out]), TN⟩
  case round =>
    clear TA TN
    obtain ⟨i, t, S, k, rfl, hi, hki, hT, hP, hS, hTo⟩ := hrel
    by_cases hlt : i < L0.length
    · have b1 : (i : Int) < (L0.length : Int) := by omega
      obtain ⟨b, off, hA, hb, hc⟩ := (RX1.out.kept hTo.out).at_ (by omega)
      have HA := Lib.hid hA
      clear hA
      obtain ⟨p, hx⟩ : ∃ x, L0[i]? = some x := ⟨_, List.getElem?_eq_getElem hlt⟩
      obtain ⟨m0, m1⟩ := hc i _ hx
      have HX := Lib.hid hx
      have HP := Lib.hid (LOK.out p (List.mem_of_getElem? hx))
      clear hc hx
      obtain rfl := HA.out
      go_wp2_with fail
      refine (put_calls hT.out p (i : Int) HP.out (by omega)).mono ?_
      rintro e w5 ⟨rfl, S', k', hT', ht', hS'⟩
      have hg' := hang_is t p (i : Int) hT.out.ok HP.out
      have hk' := len_hang (v := (i : Int)) hT.out.ok HP.out
      have hkk : k' ≤ i + 1 := by
        have e1 := hT'.len
        have e2 := hT.out.len
        rw [hk'] at e1
        split at e1 <;> omega
      have HT' := Lib.hid hT'
      have HG := Lib.hid hg'
      have HTT := Lib.hid ht'
      have HSS := Lib.hid hS'
      clear hT' hg' ht' hS' hk'
      go_wp2
      go_roundw
      case rel =>
        refine ⟨i + 1, _, S', k', by go_num, by omega, by omega, HT', Lib.hid ?_, Lib.hid (fun x hx => ?_), Lib.hid (hTo.out.trans HTT.out (fun x hx => .inr (hS.out x hx)))⟩
        · have hlen : (L0.take i).length = i := by simp; omega
          have := puts_step (p := p) hP.out (by rw [hlen]; simpa using HG.out)
          rw [List.take_add_one, HX.out]
          exact this
        · rcases HSS.out x hx with h | h
          · exact hS.out x h
          · exact Nat.le_trans hTo.out.size h
      case measure => simp [intOf]; omega
    · have b1 : ¬ (i : Int) < (L0.length : Int) := by omega
      obtain rfl : i = L0.length := by omega
      have PI : Hid (PutsIs t L0 0) := Lib.hid (by have := hP.out; rwa [List.take_length] at this)
      obtain ⟨W2, hW2⟩ : ∃ W2 : World, W2 = wr := ⟨_, rfl⟩
      rw [← hW2] at hTo hT ⊢
      have hk12 : k ≤ 12 := by omega
      clear hlt hi hP hW2 hki
      have hlen := hT.out.len
      have HIN := Lib.hid (insideL_all hT.out.ok)
      have HI1 := Lib.hid (insideL_filter hT.out.ok HQ1.out)
      have HI2 := Lib.hid (insideL_filter hT.out.ok HQ2.out)
      have HOK : Hid (∀ p ∈ (ents t).map (·.1), p.ok) := Lib.hid (fun p hp => by obtain ⟨e, he, rfl⟩ := List.mem_map.1 hp; exact ents_ok hT.out.ok e he)
      have HNE : Hid (0 < L0.length → 0 < (ents t).length) := Lib.hid (fun h => by
        obtain ⟨q, u, hq⟩ : ∃ q u, (q, u) ∈ ents t := by
          obtain ⟨j, h1, h2⟩ := last_ex L0 L0[0] (List.getElem_mem h)
          exact ⟨L0[0], _, (PI.out _ _).2 ⟨j, h1, rfl, h2⟩⟩
        exact List.length_pos_of_mem hq)
      have htold := Lib.hid (told_calls hT.out (by omega))
      obtain ⟨L, hLe⟩ : ∃ L, L = ents t := ⟨_, rfl⟩
      have HLE := Lib.hid hLe
      rw [← hLe] at hlen htold HIN HI1 HI2 HOK HNE
      clear hLe PI
      go_wp2_with fail
      refine htold.out.mono ?_
      rintro e W3 ⟨A4, c4, A5, c5, rfl, hr4, hr5, t3⟩
      have R4 := Lib.hid (hr4.rdx (by simp))
      have B4 : Hid (∀ b, (Value.slice A4 L.length 0).ownBlock = some b → b < W3.heap.size) := Lib.hid (fun b hb => hr4.lt b (by cases A4 with
        | none => cases hb
        | some a => exact hb))
      have T3 := Lib.hid (hTo.out.trans t3 (by simp))
      have HT3 := Lib.hid (hT.out.kept t3 (by simp))
      have RT3 := Lib.hid (RT.out.kept T3.out)
      have HNE2 := HNE.out
      clear hr4 hr5 t3 htold hT hTo RX1 RT
      have hk48 : 48 * k ≤ 140737488355328 := by omega
      have hL4 : L.length ≤ 400 := by omega
      obtain ⟨r0, e2, e3⟩ : ∃ r : Bool, decide (0 < L0.length) = r ∧ (r = true → ((L.length : Int) == 0) = false) := ⟨_, rfl, fun h => by rw [decide_eq_true_eq] at h; have := HNE2 h; rw [beq_eq_false_iff_ne]; omega⟩
      have e1 : decide ((0 : Int) < (L0.length : Int)) = r0 := by rw [← e2]; simp
      have HE3 := Lib.hid e3
      clear e3 HNE2
      cases r0
      all_goals
        have e3 := HE3.out
        simp only [Bool.false_eq_true, false_imp_iff, true_imp_iff] at e3
        go_wp2_with fail
        refine (all_calls tb W3).mono ?_
        rintro e W4 ⟨rfl, hsq, t4⟩
        have S1 := Lib.hid hsq
        have T4 := Lib.hid (T3.out.trans t4 (by simp))
        have R4b := Lib.hid (R4.out.kept t4)
        have HT4 := Lib.hid (HT3.out.kept t4 (by simp))
        have RT4 := Lib.hid (RT3.out.kept t4)
        have h34 := t4.size
        clear hsq t4
        unfold seqV
        go_wp2_with fail
        refine (all_calls tb W4).mono ?_
        rintro e W5 ⟨rfl, hsq, t5⟩
        have S2 := Lib.hid hsq
        have S1 := Lib.hid (S1.out.kept t5 (by simp) (by simp))
        have T5 := Lib.hid (T4.out.trans t5 (by simp))
        have R5 := Lib.hid (R4b.out.kept t5)
        have HT5 := Lib.hid (HT4.out.kept t5 (by simp))
        have RT5 := Lib.hid (RT4.out.kept t5)
        have h45 := t5.size
        clear hsq t5
        unfold seqV
        go_wp2_with fail
        refine (nested_calls HT5.out hk48 S1.out S2.out (by decide) (by decide) HIN.out HIN.out R5.out R5.out hL4 hL4 (fun b hb => by have := B4.out b hb; omega) (fun b hb => by have := B4.out b hb; omega)).mono ?_
        rintro e W6 ⟨rfl, t6⟩
        have S1 := Lib.hid (S1.out.kept t6 (by simp) (by simp))
        have T6 := Lib.hid (T5.out.trans t6 (by simp))
        have R6 := Lib.hid (R5.out.kept t6)
        have HT6 := Lib.hid (HT5.out.kept t6 (by simp))
        have RT6 := Lib.hid (RT5.out.kept t6)
        have h56 := t6.size
        clear t6 R5 HT5 RT5 T5 S2 T4 HT4 R4b RT4
        go_wp2_with fail
        refine (all_calls tb W6).mono ?_
        rintro e W7 ⟨rfl, hsq, t7⟩
        have S7 := Lib.hid hsq
        have T7 := Lib.hid (T6.out.trans t7 (by simp))
        have R7 := Lib.hid (R6.out.kept t7)
        have HT7 := Lib.hid (HT6.out.kept t7 (by simp))
        have RT7 := Lib.hid (RT6.out.kept t7)
        have h67 := t7.size
        clear hsq t7 R6 HT6 RT6 T6
        unfold seqV
        go_wp2_with fail
        refine (nested_calls HT7.out hk48 S7.out S7.out (by decide) (by decide) HIN.out HIN.out R7.out R7.out hL4 hL4 (fun b hb => by have := B4.out b hb; omega) (fun b hb => by have := B4.out b hb; omega)).mono ?_
        rintro e W8 ⟨rfl, t8⟩
        have S8 := Lib.hid (S7.out.kept t8 (by simp) (by simp))
        have T8 := Lib.hid (T7.out.trans t8 (by simp))
        have R8 := Lib.hid (R7.out.kept t8)
        have HT8 := Lib.hid (HT7.out.kept t8 (by simp))
        have RT8 := Lib.hid (RT7.out.kept t8)
        have h78 := t8.size
        clear t8 R7 HT7 RT7 T7 S7
        go_upto_region 19 with (fail)
        obtain ⟨b2, o2, hA2, hb2, hc⟩ := RT8.out.at_ (by decide)
        obtain ⟨m0, m1⟩ := hc 0 q1 rfl
        obtain ⟨m2, m3⟩ := hc 1 q2 rfl
        have HA2 := Lib.hid hA2
        clear hc hA2
        obtain rfl := HA2.out
        simp only [Nat.zero_mul, Nat.one_mul, Nat.add_zero] at m0 m1 m2 m3
        obtain ⟨M1, hM1⟩ : ∃ M1, M1 = L.filter (fun e => decide (ins e.1 q1)) := ⟨_, rfl⟩
        obtain ⟨M2, hM2⟩ : ∃ M2, M2 = L.filter (fun e => decide (ins e.1 q2)) := ⟨_, rfl⟩
        have HJ1 : Hid (insideL t q1.a q1.n = M1) := Lib.hid (by rw [HI1.out, hM1])
        have HJ2 : Hid (insideL t q2.a q2.n = M2) := Lib.hid (by rw [HI2.out, hM2])
        have hl1 : M1.length ≤ 400 := by rw [hM1]; exact Nat.le_trans (List.length_filter_le _ _) hL4
        have hl2 : M2.length ≤ 400 := by rw [hM2]; exact Nat.le_trans (List.length_filter_le _ _) hL4
        have C1 := Lib.hid (fun (w' : World) (t' : (w'.cell? ⟨b2, o2, none⟩ = some (.int .u32 q1.a) ∧ w'.cell? ⟨b2, o2 + 1, none⟩ = some (.int .i64 q1.n) ∧ w'.cell? ⟨b2, o2 + 2, none⟩ = some (.int .u32 q2.a) ∧ w'.cell? ⟨b2, o2 + 2 + 1, none⟩ = some (.int .i64 q2.n) ∧ Touch [] W8 w')) => wlist_calls (cap := c4) (R8.out.kept t'.2.2.2.2) HOK.out (by omega) q1 HQ1.out)
        have C2 := Lib.hid (fun (w' : World) (t' : (w'.cell? ⟨b2, o2, none⟩ = some (.int .u32 q1.a) ∧ w'.cell? ⟨b2, o2 + 1, none⟩ = some (.int .i64 q1.n) ∧ w'.cell? ⟨b2, o2 + 2, none⟩ = some (.int .u32 q2.a) ∧ w'.cell? ⟨b2, o2 + 2 + 1, none⟩ = some (.int .i64 q2.n) ∧ Touch [] W8 w')) => wlist_calls (cap := c4) (R8.out.kept t'.2.2.2.2) HOK.out (by omega) q2 HQ2.out)
        rw [show (L.map (·.1)).filter (fun x => decide (ins x q1)) = M1.map (·.1) by rw [hM1, List.filter_map]; rfl] at C1
        rw [show (L.map (·.1)).filter (fun x => decide (ins x q2)) = M2.map (·.1) by rw [hM2, List.filter_map]; rfl] at C2
        clear hM1 hM2 e1 e2 e3 HE3 b1
        go_cut [14, 15] from 85 to 95 (fun v14 v15 wc => ∃ A6 c6 A7 c7, v14 = .slice A6 M1.length c6 ∧ v15 = .slice A7 M2.length c7 ∧ Hid (RdX wc A6 M1.length (M1.map (·.1))) ∧ Hid (RdX wc A7 M2.length (M2.map (·.1)))
          ∧ Hid (∀ b, (Value.slice A6 M1.length 0).ownBlock = some b → b < wc.heap.size) ∧ Hid (∀ b, (Value.slice A7 M2.length 0).ownBlock = some b → b < wc.heap.size) ∧ Hid (Touch [] W8 wc))
        case first =>
          have tz := Touch.refl [] W8
          have K1 := True.intro
          have tz2 : Touch [] W8 W8.drew := tz.drew
          go_region_held3 (fun w' => (w'.cell? ⟨b2, o2, none⟩ = some (.int .u32 q1.a) ∧ w'.cell? ⟨b2, o2 + 1, none⟩ = some (.int .i64 q1.n) ∧ w'.cell? ⟨b2, o2 + 2, none⟩ = some (.int .u32 q2.a) ∧ w'.cell? ⟨b2, o2 + 2 + 1, none⟩ = some (.int .i64 q2.n) ∧ Touch [] W8 w'))
            (first | exact held_step tz2 ⟨m0, m1, m2, m3, tz⟩ | exact held_step t7 (by assumption) | exact held_step t9 (by assumption))
            (first | (go_at_call 24; clear K1; refine (C1.out _ (by assumption)).mono ?_; rintro e w7 ⟨A6, c6, rfl, hr6, t7⟩) | (go_at_call 24; refine (C2.out _ (by assumption)).mono ?_; rintro e w9 ⟨A7, c7, rfl, hr7, t9⟩))
          all_goals
            go_wp2
            go_meet
            case rel =>
              refine ⟨A6, c6, A7, c7, by simp, by simp, Lib.hid ?_, Lib.hid ?_, Lib.hid (fun b hb => Nat.lt_of_lt_of_le (hr6.lt b ?_) t9.size), Lib.hid (fun b hb => hr7.lt b ?_), Lib.hid ((tz2.trans t7 (by simp)).trans t9 (by simp))⟩
              · have := (hr6.rdx rfl).kept t9
                rwa [List.length_map] at this
              · have := hr7.rdx rfl
                rwa [List.length_map] at this
              · rw [List.length_map]; exact own_any hb
              · rw [List.length_map]; exact own_any hb
        case rest =>
        obtain ⟨A6, c6, A7, c7, rfl, rfl, R6, R7, B6, B7, hT9⟩ := hcut
        obtain ⟨W9, hW9⟩ : ∃ W9 : World, W9 = wc := ⟨_, rfl⟩
        rw [← hW9] at R6 R7 B6 B7 hT9 ⊢
        clear hW9 C1 C2
        have h89 := hT9.out.size
        have k0 := cell_touch hT9.out m0 (by simp)
        have k1 := cell_touch hT9.out m1 (by simp)
        have M2' := Lib.hid m2
        have M3' := Lib.hid m3
        clear m0 m1 m2 m3
        go_wp2_with fail
        refine (within_calls tb q1.a q1.n W9).mono ?_
        rintro e W10 ⟨rfl, hsx, t10⟩
        have SX := Lib.hid hsx
        have T10 := Lib.hid (hT9.out.trans t10 (by simp))
        have h910 := t10.size
        have R6 := Lib.hid (R6.out.kept t10)
        have R7 := Lib.hid (R7.out.kept t10)
        have k2 := cell_touch T10.out M2'.out (by simp)
        have k3 := cell_touch T10.out M3'.out (by simp)
        clear hsx t10 k0 k1
        unfold seqV
        go_wp2_with fail
        refine (within_calls tb q2.a q2.n W10).mono ?_
        rintro e W11 ⟨rfl, hsy, t11⟩
        have T11 := Lib.hid (T10.out.trans t11 (by simp))
        have h1011 := t11.size
        have FV := Lib.hid (show FiveAt W11 tb t S k W6.heap.size W9.heap.size W10.heap.size q1 q2 L M1 M2 A4 A6 A7 from
          ⟨HT8.out.kept T11.out (by simp), S8.out.kept T11.out (by simp) (by simp), SX.out.kept t11 (by simp) (by simp), hsy, R8.out.kept T11.out, R6.out.kept t11, R7.out.kept t11,
            fun b hb => by have := B4.out b hb; omega, fun b hb => by have := B6.out b hb; omega, fun b hb => by have := B7.out b hb; omega⟩)
        have TT := Lib.hid (T1.out.trans (T8.out.trans T11.out (by simp)) (by simp))
        have hqa1 := HQ1.out.2.1
        have hqa2 := HQ2.out.2.1
        clear hsy t11 k2 k3 M2' M3' HT8 S8 SX R8 R6 R7 T8 T10 T11 hT9 T1 B4 B6 B7 h34 h45 h56 h67 h78 h89 h910 h1011 hb2
        unfold seqV
        go_wp2_with fail
        refine (nested_calls FV.out.tr hk48 FV.out.s1 FV.out.s1 hqa1 hqa1 HJ1.out HJ1.out FV.out.r1 FV.out.r1 hl1 hl1 FV.out.b1 FV.out.b1).mono ?_
        rintro e W12 ⟨rfl, t12⟩
        have FV := Lib.hid (FV.out.kept t12)
        have TT := Lib.hid (TT.out.trans t12 (by simp))
        clear t12
        go_wp2_with fail
        refine (nested_calls FV.out.tr hk48 FV.out.s1 FV.out.s2 hqa1 hqa2 HJ1.out HJ2.out FV.out.r1 FV.out.r2 hl1 hl2 FV.out.b1 FV.out.b2).mono ?_
        rintro e W13 ⟨rfl, t12⟩
        have FV := Lib.hid (FV.out.kept t12)
        have TT := Lib.hid (TT.out.trans t12 (by simp))
        clear t12
        go_wp2_with fail
        refine (nested_calls FV.out.tr hk48 FV.out.s2 FV.out.s1 hqa2 hqa1 HJ2.out HJ1.out FV.out.r2 FV.out.r1 hl2 hl1 FV.out.b2 FV.out.b1).mono ?_
        rintro e W14 ⟨rfl, t12⟩
        have FV := Lib.hid (FV.out.kept t12)
        have TT := Lib.hid (TT.out.trans t12 (by simp))
        clear t12
        go_wp2_with fail
        refine (nested_calls FV.out.tr hk48 FV.out.s0 FV.out.s1 (by decide) hqa1 HIN.out HJ1.out FV.out.r0 FV.out.r1 hL4 hl1 FV.out.b0 FV.out.b1).mono ?_
        rintro e W15 ⟨rfl, t12⟩
        have FV := Lib.hid (FV.out.kept t12)
        have TT := Lib.hid (TT.out.trans t12 (by simp))
        clear t12
        go_wp2_with fail
        refine (nested_calls FV.out.tr hk48 FV.out.s1 FV.out.s0 hqa1 (by decide) HJ1.out HIN.out FV.out.r1 FV.out.r0 hl1 hL4 FV.out.b1 FV.out.b0).mono ?_
        rintro e W16 ⟨rfl, t12⟩
        have TT := Lib.hid (TT.out.trans t12 (by simp))
        clear t12
        go_wp2
        go_ret
        exact ⟨rfl, TT.out⟩
open Go.ChangeShapes Go.WideShapes Go.Deep Go.Joins in
theorem px_cap {H : Type} {enc : TypeId × Value → H} {W : World} {base : Nat} {spare : Nat → Bool} {held : Bool} {fuel : Nat} {A : Option Addr} {len cap : Nat} {x : DataW H × List MemPlace} (h : DataW.trod enc Try.prog W base spare held fuel 22 [.slice A len cap] = some x) : len ≤ cap := by
  rcases open_slice Try.underlying22 h with ⟨hcs, rfl⟩ | ⟨a, l, c, m, n, D, Pl, hcs, hb, hl, hm, hmm, hx, hel⟩
  · simp at hcs
    omega
  · simp at hcs
    omega
end Go.Proofs.Ytmklkdhpbehfeaa.Tri
