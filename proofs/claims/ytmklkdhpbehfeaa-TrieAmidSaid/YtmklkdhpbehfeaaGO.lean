/- The walk of TrieGone; no condition. -/
import Derived.Test.YtmklkdhpbehfeaaZG
namespace Go.Proofs.Ytmklkdhpbehfeaa.Tri
open Go.RowKit Go.Maps
set_option linter.unusedVariables false

theorem RdX.take {w : World} {A : Option Addr} {n i : Nat} {l : List Px} (h : RdX w A n l) (hi : i ≤ n) : RdX w A i (l.take i) := by
  refine ⟨by rw [List.length_take, h.len]; omega, fun h0 => ?_⟩
  obtain ⟨b, off, hA, hb, hc⟩ := h.at_ (by omega)
  exact ⟨b, off, hA, hb, fun j p hp => hc j p (by rw [List.getElem?_take] at hp; split at hp <;> simp_all)⟩
theorem last_some (l : List Px) (p : Px) : ∃ r, LastIs l p r := by
  by_cases h : p ∈ l
  · obtain ⟨j, h1, h2⟩ := last_ex l p h
    exact ⟨j, .inr ⟨j, rfl, h1, h2⟩⟩
  · exact ⟨-1, .inl ⟨rfl, h⟩⟩
theorem last_is {w : World} {A : Option Addr} {n cap : Nat} {l : List Px} (h : RdX w A n l) {p : Px} {r : Int} (hr : LastIs l p r) (hn : n ≤ 4611686018427387904) :
    Calls Try.prog 20 #[.slice A n cap, .agg #[.int .u32 p.a, .int .i64 p.n]] w fun e w' => e = .returned (.int .i64 r) ∧ Touch [] w w' :=
  (last_calls h p hn).mono fun _ _ ⟨r', h1, h2, h3⟩ => ⟨by rw [h1, h2.unique hr], h3⟩
theorem VRow.cap {w : World} {e : TypeId} {sz n c : Nat} {A : Option Addr} {xs : List Value} (h : VRow w e sz (.slice A n c) n xs) : n ≤ c := by
  rcases h.own.2 with ⟨h1, h2⟩ | ⟨g, cap, cur, h1, _, _, h2, _⟩
  · simp at h1; omega
  · simp at h1; omega
/-- What is left behind i deletions. -/
def LeftIs (t : T) (M : List Px) (c : Int) (i : Nat) : Prop := ∀ q u, (q, u) ∈ ents t ↔ q ∉ M.take i ∧ ∃ j : Nat, M[j]? = some q ∧ u = c + (j : Int) ∧ ∀ i, j < i → M[i]? ≠ some q
theorem left_end {t : T} {M : List Px} {c : Int} (hO : Ok t) (h : LeftIs t M c M.length) : t = .nil := by
  rcases Classical.em (t = .nil) with h1 | h1
  · exact h1
  · obtain ⟨⟨q, u⟩, he⟩ := ents_some hO h1
    obtain ⟨h2, j, h3, _⟩ := (h q u).1 he
    rw [List.take_length] at h2
    exact absurd (List.mem_of_getElem? h3) h2
set_option maxHeartbeats 8000000 in
set_option maxRecDepth 100000 in
theorem gone_calls {w : World} {A0 : Option Addr} {n0 cap0 : Nat} {l0 : List (Nat × Int)} (h0 : RdI w A0 n0 l0) (hn0 : n0 ≤ 140737488355328) :
    Calls Try.prog 14 #[.slice A0 n0 cap0] w fun e w' => e = .returned (.bool true) ∧ Touch [] w w' := by
  have H0 := Lib.hid h0
  have hg := guard32
  clear h0
  go_enter Try.func14, Try.ntmps14
  go_wp2_with fail
  refine (valids_calls (cap := cap0) H0.out (by omega)).mono ?_
  rintro e W0 ⟨A, c, rfl, hv, ht0⟩
  obtain ⟨L, hL⟩ : ∃ L : List Px, L = (l0.take 200).map (fun x => pxOf x.1 x.2) := ⟨_, rfl⟩
  rw [← hL] at hv ⊢
  have hLok : ∀ p ∈ L, p.ok := fun p hp => by
    rw [hL] at hp
    obtain ⟨x, hx, rfl⟩ := List.mem_map.1 hp
    exact pxOf_ok (H0.out.wf x (List.mem_of_mem_take hx)).1
  have hLl : L.length ≤ 200 := by rw [hL]; simp; omega
  have LOK := Lib.hid hLok
  have RX := Lib.hid (hv.rdx rfl)
  have hcap := hv.cap
  have T0 := Lib.hid ht0
  clear hv ht0 hL hLok
  go_wp2_with fail
  refine (new_calls W0).mono ?_
  rintro e W1 ⟨rfl, hta, ht1⟩
  have TA := Lib.hid hta
  have T1 := Lib.hid ht1
  clear hta ht1
  obtain ⟨tb, htb⟩ : ∃ tb, tb = W0.heap.size := ⟨_, rfl⟩
  have HTB := Lib.hid htb
  rw [← htb] at TA ⊢
  clear htb
  go_wp2
  go_loopw [5] (fun v5 wr => ∃ (i : Nat) (t : T) (S : List Nat) (k : Nat), v5 = .int .i64 i ∧ i ≤ L.length ∧ k ≤ i ∧ Hid (TrieAt wr tb t S k) ∧ Hid (PutsIs t (L.take i) 7) ∧ Hid (∀ x ∈ S, W0.heap.size ≤ x) ∧ Hid (Touch [] W0 wr)) (fun v5 _ => L.length - (intOf v5).toNat)
  case atStart => exact ⟨0, .nil, [tb], 0, rfl, Nat.zero_le _, Nat.le_refl _, TA, Lib.hid (by simpa using puts_start 7), Lib.hid (by simp [HTB.out]), T1⟩
  case round =>
    clear TA T1
    obtain ⟨i, t, S, k, rfl, hi, hki, hT, hP, hS, hTo⟩ := hrel
    by_cases hlt : i < L.length
    · have b1 : (i : Int) < (L.length : Int) := by omega
      obtain ⟨b, off, hA, hb, hc⟩ := (RX.out.kept hTo.out).at_ (by omega)
      have HA := Lib.hid hA
      clear hA
      obtain ⟨p, hx⟩ : ∃ x, L[i]? = some x := ⟨_, List.getElem?_eq_getElem hlt⟩
      obtain ⟨m0, m1⟩ := hc i _ hx
      have HX := Lib.hid hx
      have HP := Lib.hid (LOK.out p (List.mem_of_getElem? hx))
      clear hc hx
      obtain rfl := HA.out
      go_wp2_with fail
      refine (put_calls hT.out p ((i : Int) + 7) HP.out (by omega)).mono ?_
      rintro e w5 ⟨rfl, S', k', hT', ht', hS'⟩
      have hg' := hang_is t p ((i : Int) + 7) hT.out.ok HP.out
      have hk' := len_hang (v := (i : Int) + 7) hT.out.ok HP.out
      have hkk : k' ≤ i + 1 := by
        have e1 := hT'.len
        have e2 := hT.out.len
        rw [hk'] at e1
        split at e1 <;> omega
      have HT' := Lib.hid hT'
      have HG := Lib.hid hg'
      have HTT := Lib.hid ht'
      have HSS := Lib.hid hS'
      clear hT' hg' ht' hS' hk'
      go_wp2
      go_roundw
      case rel =>
        refine ⟨i + 1, _, S', k', by go_num, by omega, by omega, HT', Lib.hid ?_, Lib.hid (fun x hx => ?_), Lib.hid (hTo.out.trans HTT.out (fun x hx => .inr (hS.out x hx)))⟩
        · have hlen : (L.take i).length = i := by simp; omega
          have := puts_step (p := p) hP.out (by rw [hlen, Int.add_comm]; exact HG.out)
          rw [List.take_add_one, HX.out]
          exact this
        · rcases HSS.out x hx with h | h
          · exact hS.out x h
          · exact Nat.le_trans hTo.out.size h
      case measure => simp [intOf]; omega
    · have b1 : ¬ (i : Int) < (L.length : Int) := by omega
      obtain rfl : i = L.length := by omega
      have PI : Hid (PutsIs t L 7) := Lib.hid (by have := hP.out; rwa [List.take_length] at this)
      obtain ⟨W2, hW2⟩ : ∃ W2 : World, W2 = wr := ⟨_, rfl⟩
      rw [← hW2] at hTo hT ⊢
      have hk200 : k ≤ 200 := by omega
      clear hlt hi hP hW2 hki
      go_wp2
      go_loopw [6] (fun v6 wr => ∃ (i : Nat) (t' : T) (S' : List Nat) (k' : Nat), v6 = .int .i64 i ∧ i ≤ L.length ∧ k' ≤ 200 ∧ Hid (TrieAt wr tb t' S' k') ∧ Hid (LeftIs t' L 7 i) ∧ Hid (∀ x ∈ S', W0.heap.size ≤ x) ∧ Hid (Touch [] W0 wr)) (fun v6 _ => L.length - (intOf v6).toNat)
      case atStart => exact ⟨0, t, S, k, rfl, Nat.zero_le _, hk200, hT, Lib.hid (fun q u => by rw [PI.out q u]; simp), hS, hTo⟩
      case round =>
        obtain ⟨i, t', S', k', rfl, hi, hki, hT2, hP, hS2, hTo2⟩ := hrel
        by_cases hlt : i < L.length
        · have b1 : (i : Int) < (L.length : Int) := by omega
          obtain ⟨b, off, hA, hb, hc⟩ := (RX.out.kept hTo2.out).at_ (by omega)
          have HA := Lib.hid hA
          clear hA
          obtain ⟨p, hx⟩ : ∃ x, L[i]? = some x := ⟨_, List.getElem?_eq_getElem hlt⟩
          obtain ⟨m0, m1⟩ := hc i _ hx
          have HX := Lib.hid hx
          have HP := Lib.hid (LOK.out p (List.mem_of_getElem? hx))
          have M0 := Lib.hid m0
          have M1 := Lib.hid m1
          obtain ⟨j, hj, hjl⟩ := last_ex L p (List.mem_of_getElem? hx)
          have HJ := Lib.hid hj
          have HJL := Lib.hid hjl
          have LI : Hid (LastIs L p (j : Int)) := Lib.hid (.inr ⟨j, rfl, hj, hjl⟩)
          obtain ⟨r2, hr2⟩ := last_some (L.take i) p
          have LR := Lib.hid hr2
          have hj200 : j < L.length := (List.getElem?_eq_some_iff.1 hj).1
          have hic : (i : Int) ≤ (c : Int) := by omega
          have hic2 : i ≤ c := by omega
          clear hc hx hj hjl hr2
          obtain rfl := HA.out
          go_wp2_with fail
          refine (last_is (RX.out.kept hTo2.out) LI.out (by omega)).mono ?_
          rintro e w3 ⟨rfl, t3⟩
          have T3 := Lib.hid (hTo2.out.trans t3 (by simp))
          have T3a := Lib.hid t3
          have m03 := cell_touch t3 M0.out (by simp)
          have m13 := cell_touch t3 M1.out (by simp)
          clear t3 m0 m1
          go_wp2_with fail
          refine (del_calls (hT2.out.kept T3a.out (by simp)) p HP.out (by omega)).mono ?_
          rintro e w4 hd
          have hseek := fun v => seek_is t' p v hT2.out.ok HP.out
          rcases hd with ⟨hn, rfl, t4⟩ | ⟨v, hv, rfl, S2, k2, hT4, t4, hS4⟩
          · have hmem : p ∈ L.take i := by
              rcases Classical.em (p ∈ L.take i) with h | h
              · exact h
              · have := (hseek (7 + (j : Int))).2 ((hP.out _ _).2 ⟨h, j, HJ.out, rfl, HJL.out⟩)
                rw [hn] at this; cases this
            obtain ⟨j2, hj2⟩ : ∃ j2 : Nat, r2 = (j2 : Int) := by
              rcases LR.out with ⟨_, h⟩ | ⟨j2, h, _⟩
              · exact absurd hmem h
              · exact ⟨j2, h⟩
            subst hj2
            have T4 := Lib.hid (T3.out.trans t4 (by simp))
            have T4b := Lib.hid (T3a.out.trans t4 (by simp))
            obtain ⟨b', off', hA', _, hc'⟩ := (RX.out.kept T4.out).at_ (by omega)
            simp only [Option.some.injEq, Addr.mk.injEq, and_true] at hA'
            obtain ⟨hb1, hb2⟩ := hA'
            subst hb1 hb2
            obtain ⟨q0, q1⟩ := hc' i _ HX.out
            have n0 := fun u : Near w4 => u.cell q0
            have n1 := fun u : Near w4 => u.cell q1
            have RX2 := Lib.hid ((RX.out.kept T4.out).take hi)
            have HC := Lib.hid (fun u : Near w4 => last_near (cap := c) u RX2.out LR.out (by omega))
            have hge : (0 : Int) ≤ (j2 : Int) := by omega
            have HL : Hid (LeftIs t' L 7 (i + 1)) := Lib.hid (fun q u => by
              rw [hP.out q u, List.take_add_one, HX.out]
              constructor
              · rintro ⟨h1, h2⟩
                refine ⟨fun hx => ?_, h2⟩
                rcases List.mem_append.1 hx with hx | hx
                · exact h1 hx
                · simp at hx; subst hx; exact h1 hmem
              · rintro ⟨h1, h2⟩
                exact ⟨fun hx => h1 (List.mem_append_left _ hx), h2⟩)
            have HT4 := Lib.hid (hT2.out.kept T4b.out (by simp))
            clear hseek hn t4 hmem hc' q0 q1 m03 m13 hP hb
            go_wp2
            refine wp_region_near (by kernel_rfl) (by kernel_rfl) ?_
            repeat (go_big_quiet_step ((go_at_call 20; exact HC.out _)))
            refine wpQuiet_nil ?_
            rintro _ ⟨u5, rfl⟩
            have T5 := Lib.hid (T4.out.trans u5.near (by simp))
            have HT5 := Lib.hid (HT4.out.kept u5.near (by simp))
            clear n0 n1 HC
            go_wp2
            go_roundw
            case rel => exact ⟨i + 1, t', S', k', by go_num, by omega, hki, HT5, HL, hS2, T5⟩
            case measure => simp [intOf]; omega
          · have hm := (hseek v).1 hv
            obtain ⟨hno, j3, h31, h32, h33⟩ := (hP.out _ _).1 hm
            have hj3 : j3 = j := by
              rcases Nat.lt_trichotomy j3 j with h | h | h
              · exact absurd HJ.out (h33 _ h)
              · exact h
              · exact absurd h31 (HJL.out _ h)
            subst hj3
            have hv7 : v = (j3 : Int) + 7 := by omega
            subst hv7
            have hr2 : r2 = -1 := by
              rcases LR.out with ⟨h, _⟩ | ⟨j2, _, h, _⟩
              · exact h
              · exact absurd (List.mem_of_getElem? h) hno
            subst hr2
            have hg' := take_is t' p _ hT2.out.ok hm
            have hk' := len_take hT2.out.ok hm
            have T4 := Lib.hid (T3.out.trans t4 (fun x hx => .inr (hS2.out x hx)))
            obtain ⟨b', off', hA', _, hc'⟩ := (RX.out.kept T4.out).at_ (by omega)
            simp only [Option.some.injEq, Addr.mk.injEq, and_true] at hA'
            obtain ⟨hb1, hb2⟩ := hA'
            subst hb1 hb2
            obtain ⟨q0, q1⟩ := hc' i _ HX.out
            have n0 := fun u : Near w4 => u.cell q0
            have n1 := fun u : Near w4 => u.cell q1
            have RX2 := Lib.hid ((RX.out.kept T4.out).take hi)
            have HC := Lib.hid (fun u : Near w4 => last_near (cap := c) u RX2.out LR.out (by omega))
            have hkk : k2 ≤ 200 := by
              have e1 := hT4.len
              have e2 := hT2.out.len
              omega
            have HL : Hid (LeftIs (take t' p) L 7 (i + 1)) := Lib.hid (fun q u => by
              rw [hg'.mem q u, hP.out q u, List.take_add_one, HX.out]
              constructor
              · rintro ⟨h0, h1, h2⟩
                refine ⟨fun hx => ?_, h2⟩
                rcases List.mem_append.1 hx with hx | hx
                · exact h1 hx
                · simp at hx; exact h0 hx
              · rintro ⟨h1, h2⟩
                exact ⟨fun e => h1 (List.mem_append_right _ (by simp [e])), fun hx => h1 (List.mem_append_left _ hx), h2⟩)
            have HT4 := Lib.hid hT4
            have HS4 : Hid (∀ x ∈ S2, W0.heap.size ≤ x) := Lib.hid (fun x hx => hS2.out x (hS4 x hx))
            clear hseek t4 hm hc' q0 q1 m03 m13 hP hb hg' hk' hT4 hS4 hno h31 h32 h33 hv
            go_wp2
            refine wp_region_near (by kernel_rfl) (by kernel_rfl) ?_
            repeat (go_big_quiet_step ((go_at_call 20; exact HC.out _)))
            refine wpQuiet_nil ?_
            rintro _ ⟨u5, rfl⟩
            have T5 := Lib.hid (T4.out.trans u5.near (by simp))
            have HT5 := Lib.hid (HT4.out.kept u5.near (by simp))
            clear n0 n1 HC
            go_wp2
            go_roundw
            case rel => exact ⟨i + 1, take t' p, S2, k2, by go_num, by omega, hkk, HT5, HL, HS4, T5⟩
            case measure => simp [intOf]; omega
        · have b1 : ¬ (i : Int) < (L.length : Int) := by omega
          obtain rfl : i = L.length := by omega
          have ht0 : t' = .nil := left_end hT2.out.ok hP.out
          subst ht0
          have hk0 : k' = 0 := by have := hT2.out.len; simpa [ents] using this
          subst hk0
          clear hP hlt hki
          go_wp2_with fail
          refine (told_calls hT2.out (by omega)).mono ?_
          rintro e w3 ⟨A4, c4, A5, c5, rfl, _, _, t3⟩
          rw [show (ents T.nil).length = 0 from rfl]
          have T3 := Lib.hid (hTo2.out.trans t3 (by simp))
          have HT3 := Lib.hid (hT2.out.kept t3 (by simp))
          clear t3
          go_wp2_with fail
          refine (find_calls HT3.out 167772160 (by decide)).mono ?_
          rintro e w4 ⟨t4, hh⟩
          have hfn : find .nil 167772160 none = (none : Option Ent) := rfl
          rw [hfn] at hh
          rcases hh with ⟨_, rfl⟩ | ⟨_, _, h, _⟩
          · have T4 := Lib.hid (T3.out.trans t4 (by simp))
            have HT4 := Lib.hid (HT3.out.kept t4 (by simp))
            clear t4
            go_wp2_with fail
            refine (put_bad _ 1 31 1 (by decide) (fun h => by have := h.2.2.2; simp [maskOf] at this)).mono ?_
            rintro e w5 ⟨rfl, t5⟩
            have T5 := Lib.hid (T4.out.trans (((Touch.refl [] w4).alloc (.cells #[.int .u32 0, .int .i64 0] 32)).trans t5 (by simp)) (by simp))
            have HT5 := Lib.hid (HT4.out.kept (((Touch.refl [] w4).alloc (.cells #[.int .u32 0, .int .i64 0] 32)).trans t5 (by simp)) (by simp))
            clear t5
            go_wp2_with fail
            refine (len_calls HT5.out).mono ?_
            rintro e w6 ⟨rfl, hw⟩
            obtain rfl := hw.symm
            go_wp2_with fail
            refine (nodes_calls HT5.out (by simp [tsize])).mono ?_
            rintro e w7 ⟨rfl, t7⟩
            rw [show tsize T.nil = 0 from rfl]
            have T7 := Lib.hid (T5.out.trans t7 (by simp))
            clear t7
            go_wp2
            go_ret
            exact ⟨rfl, T0.out.trans T7.out (by simp)⟩
          · cases h
end Go.Proofs.Ytmklkdhpbehfeaa.Tri
