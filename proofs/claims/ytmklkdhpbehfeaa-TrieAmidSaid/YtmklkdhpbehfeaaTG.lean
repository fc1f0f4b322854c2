/- The walk of TrieLongest; no condition. -/
import Derived.Test.YtmklkdhpbehfeaaTF
namespace Go.Proofs.Ytmklkdhpbehfeaa.Tri
open Go.RowKit Go.Maps
set_option linter.unusedVariables false

/-- A list of addresses that came in. -/
structure RdA (w : World) (A : Option Addr) (n : Nat) (l : List Nat) : Prop where
  len : l.length = n
  wf : ∀ x ∈ l, x < 4294967296
  at_ : 0 < n → ∃ b off, A = some ⟨b, off, none⟩ ∧ b < w.heap.size ∧ ∀ (i : Nat) (x : Nat), l[i]? = some x → w.cell? ⟨b, off + i, none⟩ = some (.int .u32 x)
theorem RdA.kept {w w' : World} {A : Option Addr} {n : Nat} {l : List Nat} (h : RdA w A n l) (t : Touch [] w w') : RdA w' A n l := by
  refine ⟨h.len, h.wf, fun h0 => ?_⟩
  obtain ⟨b, off, hA, hb, hc⟩ := h.at_ h0
  exact ⟨b, off, hA, Nat.lt_of_lt_of_le hb t.size, fun i p hp => cell_touch t (hc i p hp) (by simp)⟩
/-- The tree holds what was put: each prefix with its last number. -/
def PutsIs (t : T) (M : List Px) (c : Int) : Prop := ∀ q u, (q, u) ∈ ents t ↔ ∃ j : Nat, M[j]? = some q ∧ u = c + (j : Int) ∧ ∀ i, j < i → M[i]? ≠ some q
theorem puts_start (c : Int) : PutsIs .nil [] c := by intro q u; simp [ents]
theorem puts_step {t t' : T} {M : List Px} {c : Int} {p : Px} {f : Bool} (h : PutsIs t M c) (hg : Hung t p (c + (M.length : Int)) t' f) : PutsIs t' (M ++ [p]) c := by
  intro q u
  rw [hg.mem, h q u]
  constructor
  · rintro (⟨rfl, rfl⟩ | ⟨hn, j, h1, h2, h3⟩)
    · refine ⟨M.length, by simp, rfl, fun i hi => ?_⟩
      rw [List.getElem?_eq_none (by simp; omega)]; simp
    · have hj := (List.getElem?_eq_some_iff.1 h1).1
      refine ⟨j, by rw [List.getElem?_append_left hj]; exact h1, h2, fun i hi hx => ?_⟩
      rcases Nat.lt_or_ge i M.length with h4 | h4
      · rw [List.getElem?_append_left h4] at hx; exact h3 i hi hx
      · rw [List.getElem?_append_right h4] at hx
        rcases Nat.eq_zero_or_pos (i - M.length) with h5 | h5
        · rw [h5] at hx; simp at hx; exact hn hx.symm
        · rw [List.getElem?_eq_none (by simp; omega)] at hx; cases hx
  · rintro ⟨j, h1, h2, h3⟩
    rcases Nat.lt_or_ge j M.length with h4 | h4
    · right
      rw [List.getElem?_append_left h4] at h1
      refine ⟨fun e => ?_, j, h1, h2, fun i hi hx => ?_⟩
      · subst e
        exact h3 M.length h4 (by simp)
      · have hi2 := (List.getElem?_eq_some_iff.1 hx).1
        exact h3 i hi (by rw [List.getElem?_append_left hi2]; exact hx)
    · left
      have hj := (List.getElem?_eq_some_iff.1 h1).1
      simp at hj
      have : j = M.length := by omega
      subst this
      simp at h1
      exact ⟨h1.symm, h2⟩
theorem contains_top {p : Px} {a : Nat} (hp : p.ok) : maskOf a p.n = p.a ↔ top a p.n = top p.a p.n := by
  constructor
  · intro h; rw [← h, top_mask]
  · intro h; rw [← hp.2.2, maskOf_eq]; exact h
/-- The best so far. -/
def BestIs (L : List Px) (a j : Nat) (r : Int) : Prop :=
  (r = -1 ∧ ∀ i p, i < j → L[i]? = some p → maskOf a p.n ≠ p.a) ∨ ∃ (bi : Nat) (q : Px), r = (bi : Int) ∧ L[bi]? = some q ∧ maskOf a q.n = q.a ∧ ∀ i p, i < j → L[i]? = some p → maskOf a p.n = p.a → p.n ≤ q.n
theorem last_ex : ∀ (L : List Px) (q : Px), q ∈ L → ∃ j : Nat, L[j]? = some q ∧ ∀ i, j < i → L[i]? ≠ some q
  | [], q, h => by simp at h
  | x :: L, q, h => by
    by_cases hm : q ∈ L
    · obtain ⟨j, h1, h2⟩ := last_ex L q hm
      refine ⟨j + 1, by simpa using h1, fun i hi => ?_⟩
      cases i with
      | zero => omega
      | succ i => simpa using h2 i (by omega)
    · have e : q = x := by
        rcases List.mem_cons.1 h with h | h
        · exact h
        · exact absurd h hm
      refine ⟨0, by simp [e], fun i hi hx => ?_⟩
      cases i with
      | zero => omega
      | succ i => exact hm (List.mem_of_getElem? (by simpa using hx))
theorem best_found {t : T} {L : List Px} {a : Nat} {r : Int} (hO : Ok t) (hL : ∀ p ∈ L, p.ok) (hp : PutsIs t L 0) (hb : BestIs L a L.length r) :
    (r = -1 ∧ find t a none = none) ∨ ∃ (bi : Nat) (q : Px) (v : Int), r = (bi : Int) ∧ L[bi]? = some q ∧ find t a none = some (q, v) ∧ LastIs L q v := by
  have hf := find_longest (a := a) hO
  rcases hb with ⟨rfl, h1⟩ | ⟨bi, q, rfl, h1, h2, h3⟩
  · left
    refine ⟨rfl, ?_⟩
    cases hx : find t a none with
    | none => rfl
    | some e =>
      obtain ⟨q, u⟩ := e
      obtain ⟨g1, g2, _⟩ := hf.some_ _ hx
      obtain ⟨j, h4, _⟩ := (hp q u).1 g1
      exact absurd ((contains_top (ents_ok hO _ g1)).2 g2) (h1 j q (List.getElem?_eq_some_iff.1 h4).1 h4)
  · right
    have hq := hL q (List.mem_of_getElem? h1)
    -- q has an entry
    have hex : ∃ u, (q, u) ∈ ents t := by
      have := last_ex L q (List.mem_of_getElem? h1)
      obtain ⟨j, h5, h6⟩ := this
      exact ⟨0 + (j : Int), (hp q _).2 ⟨j, h5, rfl, h6⟩⟩
    obtain ⟨u0, hu0⟩ := hex
    cases hx : find t a none with
    | none => exact absurd ((contains_top hq).1 h2) (hf.none_ hx _ hu0)
    | some e =>
      obtain ⟨q', v⟩ := e
      obtain ⟨g1, g2, g3⟩ := hf.some_ _ hx
      have hq' := ents_ok hO _ g1
      obtain ⟨j, h4, h5, h6⟩ := (hp q' v).1 g1
      have hle1 := g3 _ hu0 ((contains_top hq).1 h2)
      have hle2 := h3 j q' (List.getElem?_eq_some_iff.1 h4).1 h4 ((contains_top hq').2 g2)
      have hn : q.n = q'.n := by simp only at hle1; omega
      have : q = q' := Px.ext' hq hq' hn (by
        have w1 := (contains_top hq).1 h2
        simp only at g2
        rw [← w1, hn]; exact g2)
      subst this
      exact ⟨bi, q, v, rfl, h1, rfl, .inr ⟨j, by omega, h4, h6⟩⟩
theorem contains_near {w0 : World} (u : Near w0) (p : Px) (a : Nat) (hp : p.ok) (ha : a < 4294967296) (r : Bool) (hr : r = decide (maskOf a p.n = p.a)) :
    Calls Try.prog 18 #[.agg #[.int .u32 p.a, .int .i64 p.n], .int .u32 a] u.w fun e w' => e = .returned (.bool r) ∧ ∃ x : Near w0, w' = x.w :=
  near_call u (contains_calls p a u.w hp ha r hr)
theorem px_neq (a n b m : Int) (r : Bool) (hr : (a == b && n == m) = r) (w : World) :
    (binOp .neq 32 (.agg #[.int .u32 a, .int .i64 n]) (.agg #[.int .u32 b, .int .i64 m])).run Try.prog w = .ok (.bool (!r)) w := by
  rw [run_neq_struct, show (10000 : Nat) = 9999 + 1 from rfl, run_equalIn_agg w 9999 32 _ _ (by kernel_rfl) stood32]
  have h3 := Try.underlying3
  have h30 := Try.underlying30
  simp [Program.fieldsOf, Try.underlying32, Op.eqFields, go_sem]
  subst hr
  by_cases e1 : a = b <;> by_cases e2 : n = m <;> simp [e1, e2]
theorem last_near {w0 : World} (u : Near w0) {A : Option Addr} {n cap : Nat} {l : List Px} (h : RdX w0 A n l) {p : Px} {r : Int} (hr : LastIs l p r) (hn : n ≤ 4611686018427387904 := by omega) :
    Calls Try.prog 20 #[.slice A n cap, .agg #[.int .u32 p.a, .int .i64 p.n]] u.w fun e w' => e = .returned (.int .i64 r) ∧ ∃ x : Near w0, w' = x.w :=
  near_call u ((last_calls (h.kept u.near) p hn).mono fun _ _ ⟨r', h1, h2, h3⟩ => ⟨by rw [h1, h2.unique hr], h3⟩)
set_option maxHeartbeats 16000000 in
set_option maxRecDepth 100000 in
theorem longest_calls {w : World} {A0 A1 : Option Addr} {n0 n1 cap0 cap1 : Nat} {l0 : List (Nat × Int)} {l1 : List Nat} (h0 : RdI w A0 n0 l0) (h1 : RdA w A1 n1 l1) (hn0 : n0 ≤ 140737488355328) (hn1 : n1 ≤ 140737488355328) :
    Calls Try.prog 3 #[.slice A0 n0 cap0, .slice A1 n1 cap1] w fun e w' => e = .returned (.bool true) ∧ Touch [] w w' := by
  have H0 := Lib.hid h0
  have H1 := Lib.hid h1
  have hg := guard32
  clear h0 h1
  go_enter Try.func3, Try.ntmps3
  go_wp2_with fail
  refine (valids_calls (cap := cap0) H0.out (by omega)).mono ?_
  rintro e W0 ⟨A, c, rfl, hv, ht0⟩
  obtain ⟨L, hL⟩ : ∃ L : List Px, L = (l0.take 200).map (fun x => pxOf x.1 x.2) := ⟨_, rfl⟩
  rw [← hL] at hv ⊢
  have hLok : ∀ p ∈ L, p.ok := fun p hp => by
    rw [hL] at hp
    obtain ⟨x, hx, rfl⟩ := List.mem_map.1 hp
    exact pxOf_ok (H0.out.wf x (List.mem_of_mem_take hx)).1
  have hLl : L.length ≤ 200 := by rw [hL]; simp; omega
  have LOK := Lib.hid hLok
  have RX := Lib.hid (hv.rdx rfl)
  have T0 := Lib.hid ht0
  clear hv ht0 hL hLok
  go_wp2_with fail
  refine (new_calls W0).mono ?_
  rintro e W1 ⟨rfl, hta, ht1⟩
  have TA := Lib.hid hta
  have T1 := Lib.hid ht1
  clear hta ht1
  obtain ⟨tb, htb⟩ : ∃ tb, tb = W0.heap.size := ⟨_, rfl⟩
  have HTB := Lib.hid htb
  rw [← htb] at TA ⊢
  clear htb
  go_wp2
  go_loopw [7] (fun v7 wr => ∃ (i : Nat) (t : T) (S : List Nat) (k : Nat), v7 = .int .i64 i ∧ i ≤ L.length ∧ k ≤ i ∧ Hid (TrieAt wr tb t S k) ∧ Hid (PutsIs t (L.take i) 0) ∧ Hid (∀ x ∈ S, W0.heap.size ≤ x) ∧ Hid (Touch [] W0 wr)) (fun v7 _ => L.length - (intOf v7).toNat)
  case atStart => exact ⟨0, .nil, [tb], 0, rfl, Nat.zero_le _, Nat.le_refl _, TA, Lib.hid (by simpa using puts_start 0), Lib.hid (by simp [HTB.out]), T1⟩
  case round =>
    clear TA T1
    obtain ⟨i, t, S, k, rfl, hi, hki, hT, hP, hS, hTo⟩ := hrel
    by_cases hlt : i < L.length
    · have b1 : (i : Int) < (L.length : Int) := by omega
      obtain ⟨b, off, hA, hb, hc⟩ := (RX.out.kept hTo.out).at_ (by omega)
      have HA := Lib.hid hA
      clear hA
      obtain ⟨p, hx⟩ : ∃ x, L[i]? = some x := ⟨_, List.getElem?_eq_getElem hlt⟩
      obtain ⟨m0, m1⟩ := hc i _ hx
      have HX := Lib.hid hx
      have HP := Lib.hid (LOK.out p (List.mem_of_getElem? hx))
      clear hc hx
      obtain rfl := HA.out
      go_wp2_with fail
      refine (put_calls hT.out p (i : Int) HP.out (by omega)).mono ?_
      rintro e w5 ⟨rfl, S', k', hT', ht', hS'⟩
      have hg' := hang_is t p (i : Int) hT.out.ok HP.out
      have hk' := len_hang (v := (i : Int)) hT.out.ok HP.out
      have hkk : k' ≤ i + 1 := by
        have e1 := hT'.len
        have e2 := hT.out.len
        rw [hk'] at e1
        split at e1 <;> omega
      have HT' := Lib.hid hT'
      have HG := Lib.hid hg'
      have HTT := Lib.hid ht'
      have HSS := Lib.hid hS'
      clear hT' hg' ht' hS' hk'
      go_wp2
      go_roundw
      case rel =>
        refine ⟨i + 1, _, S', k', by go_num, by omega, by omega, HT', Lib.hid ?_, Lib.hid (fun x hx => ?_), Lib.hid (hTo.out.trans HTT.out (fun x hx => .inr (hS.out x hx)))⟩
        · have hlen : (L.take i).length = i := by simp; omega
          have := puts_step (p := p) hP.out (by rw [hlen]; simpa using HG.out)
          rw [List.take_add_one, HX.out]
          exact this
        · rcases HSS.out x hx with h | h
          · exact hS.out x h
          · exact Nat.le_trans hTo.out.size h
      case measure => simp [intOf]; omega
    · have b1 : ¬ (i : Int) < (L.length : Int) := by omega
      obtain rfl : i = L.length := by omega
      have PI : Hid (PutsIs t L 0) := Lib.hid (by have := hP.out; rwa [List.take_length] at this)
      have TT := hT
      obtain ⟨W2, hW2⟩ : ∃ W2 : World, W2 = wr := ⟨_, rfl⟩
      rw [← hW2] at hTo TT ⊢
      clear hlt hi hP hW2 hT
      go_wp2
      go_loopw [8] (fun v8 wr => ∃ i : Nat, v8 = .int .i64 i ∧ i ≤ n1 + L.length ∧ Hid (Touch [] W2 wr)) (fun v8 _ => n1 + L.length - (intOf v8).toNat)
      case atStart => exact ⟨0, rfl, Nat.zero_le _, Lib.hid (Touch.refl _ _)⟩
      case round =>
        obtain ⟨i, rfl, hi, hti⟩ := hrel
        obtain ⟨W3, hW3⟩ : ∃ W3 : World, W3 = wr := ⟨_, rfl⟩
        rw [← hW3] at hti ⊢
        clear hW3
        have TW3 := Lib.hid (hTo.out.trans hti.out (by simp))
        by_cases hlt : i < n1 + L.length
        · have b1 : (i : Int) < (n1 : Int) + (L.length : Int) := by omega
          go_upto_if 46 with (fail)
          go_cut [9] (fun v9 wc => W3 = wc ∧ ∃ a : Nat, v9 = .int .u32 a ∧ a < 4294967296)
          case first =>
            by_cases h1 : i < n1
            · have b2 : (i : Int) < (n1 : Int) := by omega
              obtain ⟨b, off, hA, hb, hc⟩ := (H1.out.kept (T0.out.trans TW3.out (by simp))).at_ (by omega)
              have HA := Lib.hid hA
              obtain ⟨x, hx⟩ : ∃ x, l1[i]? = some x := ⟨_, List.getElem?_eq_getElem (by rw [H1.out.len]; omega)⟩
              have m0 := hc i _ hx
              have hwf := H1.out.wf _ (List.mem_of_getElem? hx)
              clear hc hx hA
              obtain rfl := HA.out
              go_wp2
              go_meet
              case rel => exact ⟨rfl, x, rfl, hwf⟩
            · obtain ⟨d, hd⟩ : ∃ d, i = n1 + d := ⟨i - n1, by omega⟩
              subst hd
              have b2 : ¬ ((n1 : Int) + (d : Int) < (n1 : Int)) := by omega
              have b3 : (d : Int) < (L.length : Int) := by omega
              have e1 : (n1 : Int) + (d : Int) - (n1 : Int) = (d : Int) := by omega
              obtain ⟨b, off, hA, hb, hc⟩ := (RX.out.kept TW3.out).at_ (by omega)
              have HA := Lib.hid hA
              obtain ⟨p, hx⟩ : ∃ x, L[d]? = some x := ⟨_, List.getElem?_eq_getElem (by omega)⟩
              obtain ⟨m0, m1⟩ := hc d _ hx
              have hwf := (LOK.out p (List.mem_of_getElem? hx)).2.1
              clear hc hx hA
              obtain rfl := HA.out
              go_wp2
              go_meet
              case rel => exact ⟨rfl, p.a, rfl, hwf⟩
          case rest =>
          obtain ⟨rfl, a, rfl, ha⟩ := hcut
          go_wp2
          go_loopw [10, 11] (fun v10 v11 wr => ∃ (j : Nat) (r : Int), v10 = .int .i64 r ∧ v11 = .int .i64 j ∧ j ≤ L.length ∧ Hid (BestIs L a j r) ∧ Hid (Touch [] W3 wr)) (fun _ v11 _ => L.length - (intOf v11).toNat)
          case atStart => exact ⟨0, -1, rfl, rfl, Nat.zero_le _, Lib.hid (.inl ⟨rfl, fun i p hi => by omega⟩), Lib.hid (Touch.refl _ _)⟩
          case round =>
            obtain ⟨j, r, rfl, rfl, hj, hB, htj⟩ := hrel
            obtain ⟨W4, hW4⟩ : ∃ W4 : World, W4 = wr := ⟨_, rfl⟩
            rw [← hW4] at htj ⊢
            clear hW4
            by_cases hjl : j < L.length
            · have b2 : (j : Int) < (L.length : Int) := by omega
              obtain ⟨b, off, hA, hb, hc⟩ := (RX.out.kept (TW3.out.trans htj.out (by simp))).at_ (by omega)
              have HA := Lib.hid hA
              obtain ⟨q, hx⟩ : ∃ x, L[j]? = some x := ⟨_, List.getElem?_eq_getElem hjl⟩
              obtain ⟨m0, m1⟩ := hc j _ hx
              have HX := Lib.hid hx
              have HQ := Lib.hid (LOK.out q (List.mem_of_getElem? hx))
              have k0 := fun u : Near W4 => u.cell m0
              have k1 := fun u : Near W4 => u.cell m1
              clear hx hA m0 m1
              obtain rfl := HA.out
              by_cases hm : maskOf a q.n = q.a
              · have HM := Lib.hid hm
                have HC := Lib.hid (fun u : Near W4 => contains_near u q a HQ.out ha true (by simp [HM.out]))
                clear hm
                rcases hB.out with ⟨rfl, hno⟩ | ⟨bi, q', rfl, hbi, hbm, hbest⟩
                · have HNO := Lib.hid hno
                  clear hno hB hc
                  go_wp2
                  refine wp_region_near (by kernel_rfl) (by kernel_rfl) ?_
                  repeat (go_big_quiet_step ((go_at_call 18; exact HC.out _)))
                  refine wpQuiet_nil ?_
                  rintro _ ⟨u2, rfl⟩
                  have TU := Lib.hid (htj.out.trans u2.near (by simp))
                  clear k0 k1 HC
                  go_wp2
                  go_roundw
                  case rel => exact ⟨j + 1, (j : Int), rfl, by go_num, by omega, Lib.hid (.inr ⟨j, q, rfl, HX.out, HM.out, fun i p hi hp hcon => by
                    rcases Nat.eq_or_lt_of_le (Nat.le_of_lt_succ hi) with h | h
                    · subst h; rw [HX.out] at hp; injection hp with hp; subst hp; exact Nat.le_refl _
                    · exact absurd hcon (HNO.out i p h hp)⟩), TU⟩
                  case measure => simp [intOf]; omega
                · have hbl := (List.getElem?_eq_some_iff.1 hbi).1
                  obtain ⟨m2, m3⟩ := hc bi _ hbi
                  have k2 := fun u : Near W4 => u.cell m2
                  have k3 := fun u : Near W4 => u.cell m3
                  have b3 : decide ((bi : Int) < 0) = false := by rw [decide_eq_false_iff_not]; omega
                  have b4 : (bi : Int) < (L.length : Int) := by omega
                  have HBI := Lib.hid hbi
                  have HBM := Lib.hid hbm
                  have HBE := Lib.hid hbest
                  clear m2 m3 hbi hbm hbest hB hc
                  by_cases hlen : q'.n < q.n
                  · have b5 : decide (q'.n < q.n) = true := by rw [decide_eq_true_eq]; exact hlen
                    have HLEN := Lib.hid hlen
                    clear hlen
                    go_wp2
                    refine wp_region_near (by kernel_rfl) (by kernel_rfl) ?_
                    repeat (go_big_quiet_step ((go_at_call 18; exact HC.out _)))
                    refine wpQuiet_nil ?_
                    rintro _ ⟨u2, rfl⟩
                    have TU := Lib.hid (htj.out.trans u2.near (by simp))
                    clear k0 k1 k2 k3 HC b3 b5
                    go_wp2
                    go_roundw
                    case rel => exact ⟨j + 1, (j : Int), rfl, by go_num, by omega, Lib.hid (.inr ⟨j, q, rfl, HX.out, HM.out, fun i p hi hp hcon => by
                      rcases Nat.eq_or_lt_of_le (Nat.le_of_lt_succ hi) with h | h
                      · subst h; rw [HX.out] at hp; injection hp with hp; subst hp; exact Nat.le_refl _
                      · have := HBE.out i p h hp hcon; have := HLEN.out; omega⟩), TU⟩
                    case measure => simp [intOf]; omega
                  · have b5 : decide (q'.n < q.n) = false := by rw [decide_eq_false_iff_not]; exact hlen
                    have HLEN := Lib.hid hlen
                    clear hlen
                    go_wp2
                    refine wp_region_near (by kernel_rfl) (by kernel_rfl) ?_
                    repeat (go_big_quiet_step ((go_at_call 18; exact HC.out _)))
                    refine wpQuiet_nil ?_
                    rintro _ ⟨u2, rfl⟩
                    have TU := Lib.hid (htj.out.trans u2.near (by simp))
                    clear k0 k1 k2 k3 HC b3 b5
                    go_wp2
                    go_roundw
                    case rel => exact ⟨j + 1, (bi : Int), rfl, by go_num, by omega, Lib.hid (.inr ⟨bi, q', rfl, HBI.out, HBM.out, fun i p hi hp hcon => by
                      rcases Nat.eq_or_lt_of_le (Nat.le_of_lt_succ hi) with h | h
                      · subst h; rw [HX.out] at hp; injection hp with hp; subst hp; have := HLEN.out; omega
                      · exact HBE.out i p h hp hcon⟩), TU⟩
                    case measure => simp [intOf]; omega
              · have HM := Lib.hid hm
                have HC := Lib.hid (fun u : Near W4 => contains_near u q a HQ.out ha false (by simp [HM.out]))
                clear hm hc
                go_wp2
                refine wp_region_near (by kernel_rfl) (by kernel_rfl) ?_
                repeat (go_big_quiet_step ((go_at_call 18; exact HC.out _)))
                refine wpQuiet_nil ?_
                rintro _ ⟨u2, rfl⟩
                have TU := Lib.hid (htj.out.trans u2.near (by simp))
                clear k0 k1 HC
                go_wp2
                go_roundw
                case rel =>
                  refine ⟨j + 1, r, rfl, by go_num, by omega, Lib.hid ?_, TU⟩
                  rcases hB.out with ⟨h1, h2⟩ | ⟨bi, q', h1, h2, h3, h4⟩
                  · exact .inl ⟨h1, fun i p hi hp => by
                      rcases Nat.eq_or_lt_of_le (Nat.le_of_lt_succ hi) with h | h
                      · subst h; rw [HX.out] at hp; injection hp with hp; subst hp; exact HM.out
                      · exact h2 i p h hp⟩
                  · exact .inr ⟨bi, q', h1, h2, h3, fun i p hi hp hcon => by
                      rcases Nat.eq_or_lt_of_le (Nat.le_of_lt_succ hi) with h | h
                      · subst h; rw [HX.out] at hp; injection hp with hp; subst hp; exact absurd hcon HM.out
                      · exact h4 i p h hp hcon⟩
                case measure => simp [intOf]; omega
            · have b2 : ¬ (j : Int) < (L.length : Int) := by omega
              have hjj : j = L.length := by omega
              have HBF := Lib.hid (best_found TT.out.ok LOK.out PI.out (hjj ▸ hB.out))
              have TT4 := Lib.hid ((TT.out.kept hti.out (by simp)).kept htj.out (by simp))
              clear hB hjj hjl hj
              go_wp2_with fail
              refine (find_calls TT4.out a ha).mono ?_
              rintro e' w6 ⟨t6, hf⟩
              have T6 := Lib.hid ((hti.out.trans htj.out (by simp)).trans t6 (by simp))
              clear t6
              rcases HBF.out with ⟨rfl, hnone⟩ | ⟨bi, q, v, rfl, hbi, hsome, hlast⟩
              · rcases hf with ⟨_, rfl⟩ | ⟨q, v, h1, _⟩
                · go_wp2
                  obtain ⟨W5, hW5⟩ : ∃ W5 : World, W5 = w6.alloc (.cells #[.int .u32 0, .int .i64 0] 32) := ⟨_, rfl⟩
                  rw [← hW5]
                  have T5 := Lib.hid (show Touch [] W2 W5 by rw [hW5]; exact T6.out.alloc _)
                  clear hW5
                  refine wp_region_near (by kernel_rfl) (by kernel_rfl) ?_
                  repeat (go_big_quiet_step (fail))
                  refine wpQuiet_nil ?_
                  rintro _ ⟨u2, rfl⟩
                  go_wp2
                  go_roundw
                  case rel => exact ⟨i + 1, by go_num, by omega, Lib.hid (T5.out.trans u2.near (by simp))⟩
                  case measure => simp [intOf]; omega
                · rw [hnone] at h1; cases h1
              · rcases hf with ⟨h1, _⟩ | ⟨q', v', h1, rfl⟩
                · rw [hsome] at h1; cases h1
                · rw [hsome] at h1
                  simp only [Option.some.injEq, Prod.mk.injEq] at h1
                  obtain ⟨rfl, rfl⟩ := h1
                  have hbl := (List.getElem?_eq_some_iff.1 hbi).1
                  have b4 : (bi : Int) < (L.length : Int) := by omega
                  go_wp2
                  obtain ⟨W5, hW5⟩ : ∃ W5 : World, W5 = w6.alloc (.cells #[.int .u32 q.a, .int .i64 q.n] 32) := ⟨_, rfl⟩
                  rw [← hW5]
                  have T5 := Lib.hid (show Touch [] W2 W5 by rw [hW5]; exact T6.out.alloc _)
                  obtain ⟨d0, d1, _⟩ := two_cells (show W5.heap[w6.heap.size]? = some (.cells #[.int .u32 q.a, .int .i64 q.n] 32 (0, 0)) by rw [hW5]; exact box_at w6 _)
                  clear hW5
                  have RX5 := Lib.hid (RX.out.kept (hTo.out.trans T5.out (by simp)))
                  obtain ⟨b, off, hA, hb, hc⟩ := RX5.out.at_ (by omega)
                  have HA := Lib.hid hA
                  obtain ⟨m0, m1⟩ := hc bi _ hbi
                  have k0 := fun u : Near W5 => u.cell m0
                  have k1 := fun u : Near W5 => u.cell m1
                  have k2 := fun u : Near W5 => u.cell d0
                  have k3 := fun u : Near W5 => u.cell d1
                  have hneq := fun w => px_neq q.a q.n q.a q.n true (px_beq rfl) w
                  have HLA := Lib.hid (fun u : Near W5 => last_near u (cap := c) RX5.out hlast)
                  clear hA hc m0 m1 d0 d1 hbi hlast hsome HBF
                  obtain rfl := HA.out
                  refine wp_region_near (by kernel_rfl) (by kernel_rfl) ?_
                  repeat (go_big_quiet_step ((go_at_call 20; exact HLA.out _)))
                  refine wpQuiet_nil ?_
                  rintro _ ⟨u2, rfl⟩
                  clear k0 k1 k2 k3 hneq
                  go_wp2
                  go_roundw
                  case rel => exact ⟨i + 1, by go_num, by omega, Lib.hid (T5.out.trans u2.near (by simp))⟩
                  case measure => simp [intOf]; omega
        · have b1 : ¬ (i : Int) < (n1 : Int) + (L.length : Int) := by omega
          go_wp2
          go_ret
          exact ⟨rfl, T0.out.trans TW3.out (by simp)⟩
end Go.Proofs.Ytmklkdhpbehfeaa.Tri
