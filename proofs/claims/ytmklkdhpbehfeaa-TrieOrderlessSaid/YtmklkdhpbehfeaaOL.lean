/- The walk of TrieOrderless; no condition. -/
import Derived.Test.YtmklkdhpbehfeaaOV
namespace Go.Proofs.Ytmklkdhpbehfeaa.Tri
open Go.RowKit Go.Maps
set_option linter.unusedVariables false

theorem blk_frozen {w : World} {b : Nat} {c : Array Value} {e : TypeId} (h : w.heap[b]? = some (.cells c e (0, 0))) (o : Nat) : w.frozen? ⟨b, o, none⟩ = false := by simp [World.frozen?, h]
/-- A list of bytes that came in. -/
structure RdB (w : World) (A : Option Addr) (n : Nat) (l : List Nat) : Prop where
  len : l.length = n
  wf : ∀ x ∈ l, x < 256
  at_ : 0 < n → ∃ b off, A = some ⟨b, off, none⟩ ∧ b < w.heap.size ∧ ∀ (i : Nat) (x : Nat), l[i]? = some x → w.cell? ⟨b, off + i, none⟩ = some (.int .u8 x)
theorem RdB.kept {w w' : World} {A : Option Addr} {n : Nat} {l : List Nat} (h : RdB w A n l) (t : Touch [] w w') : RdB w' A n l := by
  refine ⟨h.len, h.wf, fun h0 => ?_⟩
  obtain ⟨b, off, hA, hb, hc⟩ := h.at_ h0
  exact ⟨b, off, hA, Nat.lt_of_lt_of_le hb t.size, fun i p hp => cell_touch t (hc i p hp) (by simp)⟩
theorem val_wrap {p : Px} (hp : p.ok) : IntKind.i64.wrap ((p.a : Int) + (p.n : Int)) = (p.a : Int) + (p.n : Int) := by
  have h1 := hp.1
  have h2 := hp.2.1
  exact IntWalk.i64_in _ (by omega)
theorem val_wrapa {p : Px} (hp : p.ok) : IntKind.i64.wrap (p.a : Int) = (p.a : Int) := by
  have h2 := hp.2.1
  exact IntWalk.i64_in _ (by omega)
theorem vals_at {w : World} {A : Option Addr} {n c i : Nat} {E : List Ent} {e : Ent} (h : VRow w 3 1 (.slice A n c) n (flatV E)) (hn : E.length = n) (he : E[i]? = some e) : ∃ g, A = some ⟨g, 0, none⟩ ∧ w.cell? ⟨g, i, none⟩ = some (.int .i64 e.2) := by
  obtain ⟨g, c', hV, _, hc⟩ := h.at_ (by have := (List.getElem?_eq_some_iff.1 he).1; omega)
  simp only [Value.slice.injEq] at hV
  exact ⟨g, hV.1, hc i _ (by simp [flatV, he])⟩
structure SevenAt (W : World) (ts tb : Nat) (s t : T) (S S2 : List Nat) (k k2 n : Nat) (A : Option Addr) (Lc : List Px) (E : List Ent) (A4 A5 A6 A7 : Option Addr) (c5 c7 : Nat) : Prop where
  s : TrieAt W ts s S k
  t : TrieAt W tb t S2 k2
  l : RdX W A n Lc
  p1 : RdX W A4 E.length (E.map (·.1))
  v1 : VRow W 3 1 (.slice A5 E.length c5) E.length (flatV E)
  p2 : RdX W A6 E.length (E.map (·.1))
  v2 : VRow W 3 1 (.slice A7 E.length c7) E.length (flatV E)
theorem SevenAt.kept {W W' : World} {ts tb : Nat} {s t : T} {S S2 : List Nat} {k k2 n : Nat} {A : Option Addr} {Lc : List Px} {E : List Ent} {A4 A5 A6 A7 : Option Addr} {c5 c7 : Nat} (h : SevenAt W ts tb s t S S2 k k2 n A Lc E A4 A5 A6 A7 c5 c7) (tt : Touch [] W W') : SevenAt W' ts tb s t S S2 k k2 n A Lc E A4 A5 A6 A7 c5 c7 :=
  ⟨h.s.kept tt (by simp), h.t.kept tt (by simp), h.l.kept tt, h.p1.kept tt, h.v1.kept tt (by simp), h.p2.kept tt, h.v2.kept tt (by simp)⟩
theorem last_of_mem {l : List Px} {p : Px} (h : p ∈ l) : ∃ j : Nat, LastIs l p (j : Int) := by
  obtain ⟨j, h1, h2⟩ := last_ex l p h
  exact ⟨j, .inr ⟨j, rfl, h1, h2⟩⟩
set_option maxHeartbeats 16000000 in
set_option maxRecDepth 100000 in
theorem orderless_calls {w : World} {A0 A1 A2 : Option Addr} {n0 n1 n2 cap0 cap1 cap2 : Nat} {l0 l1 : List (Nat × Int)} {l2 : List Nat} (h0 : RdI w A0 n0 l0) (h1 : RdI w A1 n1 l1) (h2 : RdB w A2 n2 l2) (hn0 : n0 ≤ 140737488355328) (hn1 : n1 ≤ 140737488355328) (hn2 : n2 ≤ 140737488355328) :
    Calls Try.prog 7 #[.slice A0 n0 cap0, .slice A1 n1 cap1, .slice A2 n2 cap2] w fun e w' => e = .returned (.bool true) ∧ Touch [] w w' := by
  have H0 := Lib.hid h0
  have H1 := Lib.hid h1
  have H2 := Lib.hid h2
  have hg := guard32
  clear h0 h1 h2
  go_enter Try.func7, Try.ntmps7
  go_wp2_with fail
  refine (valids_fresh (cap := cap0) H0.out (by omega)).mono ?_
  rintro e W0 ⟨A, c, rfl, hv, ht0, hf0⟩
  obtain ⟨L, hL⟩ : ∃ L : List Px, L = (l0.take 200).map (fun x => pxOf x.1 x.2) := ⟨_, rfl⟩
  rw [← hL] at hv hf0 ⊢
  have LOK : Hid (∀ p ∈ L, p.ok) := Lib.hid (fun p hp => by
    rw [hL] at hp
    obtain ⟨x, hx, rfl⟩ := List.mem_map.1 hp
    exact pxOf_ok (H0.out.wf x (List.mem_of_mem_take hx)).1)
  have hLl : L.length ≤ 200 := by rw [hL]; simp; omega
  have HV0 := Lib.hid hv
  have T0 := Lib.hid ht0
  have F0 := Lib.hid hf0
  have H10 := Lib.hid (H1.out.kept ht0)
  clear hv ht0 hL hf0 H0 H1 hn0
  go_wp2_with fail
  refine (valids_fresh (cap := cap1) H10.out (by omega)).mono ?_
  rintro e W1 ⟨AO, cO, rfl, hv, ht1, hf1⟩
  obtain ⟨O, hO⟩ : ∃ O : List Px, O = (l1.take 200).map (fun x => pxOf x.1 x.2) := ⟨_, rfl⟩
  rw [← hO] at hv hf1 ⊢
  have OOK : Hid (∀ p ∈ O, p.ok) := Lib.hid (fun p hp => by
    rw [hO] at hp
    obtain ⟨x, hx, rfl⟩ := List.mem_map.1 hp
    exact pxOf_ok (H10.out.wf x (List.mem_of_mem_take hx)).1)
  have hOl : O.length ≤ 200 := by rw [hO]; simp; omega
  have RO := Lib.hid (hv.rdx rfl)
  have OB : Hid (∀ b, (Value.slice AO O.length cO).ownBlock = some b → W0.heap.size ≤ b ∧ b < W1.heap.size) := Lib.hid (fun b hb => ⟨hf1 b hb, hv.lt b hb⟩)
  have HV1 := Lib.hid (HV0.out.kept ht1 (by simp))
  have LB : Hid (∀ b, (Value.slice A L.length c).ownBlock = some b → w.heap.size ≤ b ∧ b < W0.heap.size) := Lib.hid (fun b hb => ⟨F0.out b hb, HV0.out.lt b hb⟩)
  have T1 := Lib.hid (T0.out.trans ht1 (by simp))
  have h01 := ht1.size
  clear hv ht1 hO hf1 H10 hn1 HV0 F0 T0
  go_wp2_with fail
  refine (new_calls W1).mono ?_
  rintro e W2 ⟨rfl, hta, ht2⟩
  have TS := Lib.hid hta
  have T2 := Lib.hid ht2
  clear hta ht2
  go_wp2_with fail
  refine (new_calls W2).mono ?_
  rintro e W3 ⟨rfl, hta, ht3⟩
  have TT := Lib.hid hta
  have hlt12 := TS.out.lt W1.heap.size (by simp)
  have hlt23 := hta.lt W2.heap.size (by simp)
  obtain ⟨ts, hts⟩ : ∃ ts, ts = W1.heap.size := ⟨_, rfl⟩
  obtain ⟨tb, htb⟩ : ∃ tb, tb = W2.heap.size := ⟨_, rfl⟩
  have TS := Lib.hid (TS.out.kept ht3 (by simp))
  have T3 := Lib.hid (T2.out.trans ht3 (by simp))
  have HTS := Lib.hid hts
  have HTB := Lib.hid htb
  rw [← hts] at TS hlt12 ⊢
  rw [← htb] at TT hlt12 hlt23 ⊢
  clear hta ht3 hts htb T2
  have RO3 := Lib.hid (RO.out.kept T3.out)
  have HV3 := Lib.hid (HV1.out.kept T3.out (by simp))
  clear RO HV1
  go_wp2
  go_loopw [11] (fun v11 wr => ∃ (i : Nat) (s : T) (S : List Nat) (k : Nat), v11 = .int .i64 i ∧ i ≤ L.length ∧ k ≤ i ∧ Hid (TrieAt wr ts s S k) ∧ Hid (Mixed s (L.take i) (fun _ => False)) ∧ Hid (∀ x ∈ S, x = ts ∨ W3.heap.size ≤ x) ∧ Hid (Touch [ts] W3 wr)) (fun v11 _ => L.length - (intOf v11).toNat)
  case atStart => exact ⟨0, .nil, [ts], 0, rfl, Nat.zero_le _, Nat.le_refl _, TS, Lib.hid (by simpa using mixed_nil), Lib.hid (by simp), Lib.hid (Touch.refl _ _)⟩
  case round =>
    clear TS
    obtain ⟨i, s, S, k, rfl, hi, hki, hT, hP, hS, hTo⟩ := hrel
    by_cases hlt : i < L.length
    · have b1 : (i : Int) < (L.length : Int) := by omega
      have HVr := Lib.hid (HV3.out.kept hTo.out (fun b hb => by have := LB.out b hb; have := HTS.out; simp; omega))
      obtain ⟨b, off, hA, hb, hc⟩ := (HVr.out.rdx rfl).at_ (by omega)
      have HA := Lib.hid hA
      clear hA
      obtain ⟨p, hx⟩ : ∃ x, L[i]? = some x := ⟨_, List.getElem?_eq_getElem hlt⟩
      obtain ⟨m0, m1⟩ := hc i _ hx
      have HX := Lib.hid hx
      have HP := Lib.hid (LOK.out p (List.mem_of_getElem? hx))
      have hpa := HP.out.2.1
      have hpn := HP.out.1
      have vw := val_wrap HP.out
      clear hc hx hb
      obtain rfl := HA.out
      go_wp2
      go_upto_region 10 with (fail)
      have va := val_wrapa HP.out
      have hbS : b ∉ S := fun h => by
        have := LB.out b rfl
        have := HTS.out
        have h3 := T3.out.size
        rcases hS.out _ h with h | h <;> omega
      have HBS := Lib.hid hbS
      clear hbS
      have tz := (Touch.refl [] wr).drew
      have HC := Lib.hid (put_calls (hT.out.kept tz (by simp)) p ((p.a : Int) + (p.n : Int)) HP.out (by omega))
      have hg' := hang_is s p (val p) hT.out.ok HP.out
      have HG := Lib.hid hg'
      have hk' := len_hang (v := val p) hT.out.ok HP.out
      have HK := Lib.hid hk'
      clear hg' hk'
      go_region_held3 (fun w' => w'.cell? ⟨b, off + i * 2, none⟩ = some (.int .u32 p.a) ∧ w'.cell? ⟨b, off + i * 2 + 1, none⟩ = some (.int .i64 p.n))
        (first | trivial | exact ⟨cell_touch ht' (cell_touch tz m0 (by simp)) HBS.out, cell_touch ht' (cell_touch tz m1 (by simp)) HBS.out⟩)
        ((go_at_call 17; refine HC.out.mono ?_; rintro e w5 ⟨rfl, S', k', hT', ht', hS'⟩))
      all_goals
        have hkk : k' ≤ i + 1 := by
          have e1 := hT'.len
          have e2 := hT.out.len
          have e3 := HK.out
          unfold val at e3
          rw [e3] at e1
          split at e1 <;> omega
        have HT' := Lib.hid hT'
        have HTT := Lib.hid ht'
        have HSS := Lib.hid hS'
        clear hT' ht' hS' va vw
        go_wp2
        go_roundw
        case rel =>
          refine ⟨i + 1, _, S', k', by go_num, by omega, by omega, HT', Lib.hid ?_, Lib.hid (fun x hx => ?_), Lib.hid ((hTo.out.trans tz (by simp)).trans HTT.out (fun x hx => by rcases hS.out x hx with h | h; exact .inl (by simp [h]); exact .inr h))⟩
          · refine mixed_cong (mixed_put hP.out HG.out) (fun q => ?_) (fun q => Iff.rfl)
            rw [List.take_add_one, HX.out]
            simp
            exact or_comm
          · rcases HSS.out x hx with h | h
            · exact hS.out x h
            · exact .inr (Nat.le_trans hTo.out.size (Nat.le_trans tz.size h))
        case measure => simp [intOf]; omega
    · have b1 : ¬ (i : Int) < (L.length : Int) := by omega
      obtain rfl : i = L.length := by omega
      have MS : Hid (Mixed s L (fun _ => False)) := Lib.hid (by have := hP.out; rwa [List.take_length] at this)
      obtain ⟨W4, hW4⟩ : ∃ W4 : World, W4 = wr := ⟨_, rfl⟩
      rw [← hW4] at hT hTo ⊢
      have hk200 : k ≤ 200 := by omega
      have TS := hT
      have SS := hS
      have T4 := hTo
      clear hlt hi hP hW4 hki hT hS hTo
      have TT4 := Lib.hid (TT.out.kept T4.out (by simp; omega))
      have RO4 := Lib.hid (RO3.out.kept_ T4.out (fun b hb => by have := OB.out b (own_any hb); have := HTS.out; simp; omega))
      have HV4 := Lib.hid (HV3.out.kept T4.out (fun b hb => by have := LB.out b hb; have := HTS.out; simp; omega))
      have h34 := T4.out.size
      have SLT := Lib.hid TS.out.lt
      have TSn : Hid (tb ∉ S) := Lib.hid (fun h => by rcases SS.out _ h with h | h <;> omega)
      clear TT RO3 HV3
      go_wp2
      go_loopw [12] (fun v12 wr => ∃ (i : Nat) (t : T) (S2 : List Nat) (k2 : Nat), v12 = .int .i64 i ∧ i ≤ O.length ∧ k2 ≤ i ∧ Hid (TrieAt wr tb t S2 k2) ∧ Hid (Mixed t [] (fun q => q ∈ O.take i)) ∧ Hid (∀ x ∈ S2, x = tb ∨ W4.heap.size ≤ x) ∧ Hid (Touch [tb] W4 wr)) (fun v12 _ => O.length - (intOf v12).toNat)
      case atStart => exact ⟨0, .nil, [tb], 0, rfl, Nat.zero_le _, Nat.le_refl _, TT4, Lib.hid (mixed_cong mixed_nil (fun q => Iff.rfl) (by simp)), Lib.hid (by simp), Lib.hid (Touch.refl _ _)⟩
      case round =>
        clear TT4
        obtain ⟨i, t, S2, k2, rfl, hi, hki, hT, hP, hS, hTo⟩ := hrel
        by_cases hlt : i < O.length
        · have b2 : (i : Int) < (O.length : Int) := by omega
          obtain ⟨b, off, hA, hb, hc⟩ := (RO4.out.kept_ hTo.out (fun b hb => by have := OB.out b (own_any hb); have := HTS.out; simp; omega)).at_ (by omega)
          have HA := Lib.hid hA
          clear hA
          obtain ⟨p, hx⟩ : ∃ x, O[i]? = some x := ⟨_, List.getElem?_eq_getElem hlt⟩
          obtain ⟨m0, m1⟩ := hc i _ hx
          have HX := Lib.hid hx
          have HP := Lib.hid (OOK.out p (List.mem_of_getElem? hx))
          clear hc hx hb
          obtain rfl := HA.out
          go_wp2_with fail
          refine (put_calls hT.out p (-5) HP.out (by omega)).mono ?_
          rintro e w5 ⟨rfl, S', k', hT', ht', hS'⟩
          have hg' := hang_is t p (-5) hT.out.ok HP.out
          have hk' := len_hang (v := (-5)) hT.out.ok HP.out
          have hkk : k' ≤ i + 1 := by
            have e1 := hT'.len
            have e2 := hT.out.len
            rw [hk'] at e1
            split at e1 <;> omega
          have HT' := Lib.hid hT'
          have HG := Lib.hid hg'
          have HTT := Lib.hid ht'
          have HSS := Lib.hid hS'
          clear hT' hg' ht' hS' hk'
          go_wp2
          go_roundw
          case rel =>
            refine ⟨i + 1, _, S', k', by go_num, by omega, by omega, HT', Lib.hid ?_, Lib.hid (fun x hx => ?_), Lib.hid (hTo.out.trans HTT.out (fun x hx => by rcases hS.out x hx with h | h; exact .inl (by simp [h]); exact .inr h))⟩
            · refine mixed_cong (mixed_rest hP.out HG.out) (fun q => Iff.rfl) (fun q => ?_)
              rw [List.take_add_one, HX.out]
              simp
            · rcases HSS.out x hx with h | h
              · exact hS.out x h
              · exact .inr (Nat.le_trans hTo.out.size h)
          case measure => simp [intOf]; omega
        · have b2 : ¬ (i : Int) < (O.length : Int) := by omega
          obtain rfl : i = O.length := by omega
          have MT : Hid (Mixed t [] (fun q => q ∈ O)) := Lib.hid (by have := hP.out; rwa [List.take_length] at this)
          obtain ⟨W5, hW5⟩ : ∃ W5 : World, W5 = wr := ⟨_, rfl⟩
          rw [← hW5] at hT hTo ⊢
          have TT5 := hT
          have SS2 := hS
          have T5 := hTo
          clear hlt hi hP hW5 hT hS hTo
          have TS5 := Lib.hid (TS.out.kept T5.out (fun x hx h => by simp at h; rw [h] at hx; exact TSn.out hx))
          have RO5 := Lib.hid (RO4.out.kept_ T5.out (fun b hb => by have := OB.out b (own_any hb); have := HTS.out; simp; omega))
          have HV5 := Lib.hid (HV4.out.kept T5.out (fun b hb => by have := LB.out b hb; have := HTS.out; simp; omega))
          have h45 := T5.out.size
          have S2S : Hid (∀ x ∈ S2, x ∉ S) := Lib.hid (fun x hx h => by
            have := SLT.out x h
            rcases SS2.out x hx with e | e
            · rw [e] at h; exact TSn.out h
            · omega)
          have h1W3 := T3.out.size
          have TW4 := Lib.hid ((T1.out.trans T3.out (by simp)).trans T4.out (fun x hx => .inr (by simp at hx; have := HTS.out; have := T1.out.size; omega)))
          clear HV4
          go_wp2
          obtain ⟨G, hG⟩ : ∃ G, G = (Value.slice A L.length c).ownBlock.toList := ⟨_, rfl⟩
          have GB : Hid (∀ b ∈ G, w.heap.size ≤ b ∧ b < W0.heap.size) := Lib.hid (fun b hb => LB.out b (by rw [hG] at hb; simpa using hb))
          have HG := Lib.hid hG
          clear hG
          go_loopw [13] (fun v13 wr => ∃ (n : Nat) (t : T) (S2 : List Nat) (k2 : Nat) (Lc : List Px), v13 = .int .i64 n ∧ n ≤ L.length ∧ k2 ≤ O.length + (L.length - n) ∧ Lc.length = L.length ∧ Hid (∀ q, q ∈ Lc ↔ q ∈ L) ∧ Hid (VRow wr 32 2 (.slice A L.length c) L.length (flatP Lc)) ∧ Hid (TrieAt wr tb t S2 k2) ∧ Hid (Mixed t (Lc.drop n) (fun q => q ∈ O)) ∧ Hid (∀ x ∈ S2, x = tb ∨ W4.heap.size ≤ x) ∧ Hid (∀ x ∈ S2, x ∉ S) ∧ Hid (Touch (tb :: G) W4 wr)) (fun v13 _ => (intOf v13).toNat)
          case atStart => exact ⟨L.length, t, S2, k2, L, rfl, Nat.le_refl _, by omega, rfl, Lib.hid (fun q => Iff.rfl), HV5, TT5, Lib.hid (by rw [List.drop_length]; exact MT.out), SS2, S2S, Lib.hid (T5.out.mono (by simp))⟩
          case round =>
            clear TT5 SS2 S2S HV5 MT hki
            obtain ⟨n, t, S2, k2, Lc, rfl, hn, hk2, hLc, hPm, hV, hT, hM, hS, hSS, hTo⟩ := hrel
            by_cases hn0 : 0 < n
            · obtain ⟨m, rfl⟩ : ∃ m, n = m + 1 := ⟨n - 1, by omega⟩
              have b3 : (0 : Int) < ((m + 1 : Nat) : Int) := by omega
              obtain ⟨g, c', hVf, hg', hc⟩ := hV.out.at_ (by omega)
              simp only [Value.slice.injEq] at hVf
              obtain ⟨hVf, -, rfl⟩ := hVf
              subst hVf
              have TWr := Lib.hid (TW4.out.trans hTo.out (fun x hx => .inr (by have h1 := T1.out.size; have h2 := HTS.out; rcases List.mem_cons.1 hx with e | e; omega; exact (GB.out x e).1)))
              go_upto_if 83 with (fail)
              go_cut [14] from 80 to 91 (fun v14 wc => wr = wc ∧ ∃ kk : Nat, v14 = .int .i64 kk ∧ kk ≤ m)
              case first =>
                clear hc
                by_cases hno : m + 1 ≤ n2
                · have b4 : ((m + 1 : Nat) : Int) ≤ (n2 : Int) := by omega
                  have b5 : m < n2 := by omega
                  obtain ⟨b, off, hA, hb, hc⟩ := (H2.out.kept TWr.out).at_ (by omega)
                  have HA := Lib.hid hA
                  clear hA
                  obtain ⟨y, hy⟩ : ∃ y, l2[m]? = some y := ⟨_, List.getElem?_eq_getElem (by have := H2.out.len; omega)⟩
                  have m0 := hc m _ hy
                  have hy256 := H2.out.wf y (List.mem_of_getElem? hy)
                  clear hc hy hb
                  obtain rfl := HA.out
                  go_wp2
                  go_meet
                  case rel => exact ⟨rfl, y % (m + 1), by simp, Nat.le_of_lt_succ (Nat.mod_lt _ (by omega))⟩
                · have b4 : ¬ ((m + 1 : Nat) : Int) ≤ (n2 : Int) := by omega
                  have b5 : ¬ (m + 1) ≤ n2 := by omega
                  go_wp2
                  go_meet
                  case rel => exact ⟨rfl, m, by simp, by omega⟩
              case rest =>
              obtain ⟨rfl, kk, rfl, hkm⟩ := hcut
              obtain ⟨p, hx⟩ : ∃ x, Lc[kk]? = some x := ⟨_, List.getElem?_eq_getElem (by omega)⟩
              obtain ⟨r, hy⟩ : ∃ x, Lc[m]? = some x := ⟨_, List.getElem?_eq_getElem (by omega)⟩
              have hx2 := (flatP_get Lc kk p hx)
              have hy2 := (flatP_get Lc m r hy)
              have m0 := hc _ _ hx2.1
              have m1 := hc _ _ hx2.2
              have m2 := hc _ _ hy2.1
              have m3 := hc _ _ hy2.2
              have HX := Lib.hid hx
              have HY := Lib.hid hy
              have HP := Lib.hid (LOK.out p ((hPm.out p).1 (List.mem_of_getElem? hx)))
              have HPy := Lib.hid (LOK.out r ((hPm.out r).1 (List.mem_of_getElem? hy)))
              have hpa := HP.out.2.1
              have hpn := HP.out.1
              have vw := val_wrap HP.out
              have va := val_wrapa HP.out
              have hgB := LB.out g rfl
              have HBS : Hid (g ∉ S2) := Lib.hid (fun h => by
                have := HTS.out
                rcases hS.out _ h with h | h <;> omega)
              have M2 := Lib.hid m2
              have M3 := Lib.hid m3
              have tz := (Touch.refl [] wr).drew
              have HC := Lib.hid (put_calls (hT.out.kept tz (by simp)) p ((p.a : Int) + (p.n : Int)) HP.out (by omega))
              have HGG := Lib.hid (hang_is t p (val p) hT.out.ok HP.out)
              have HK := Lib.hid (len_hang (v := val p) hT.out.ok HP.out)
              have hkL : (kk : Int) < (L.length : Int) := by omega
              have hkL2 : kk < L.length := by omega
              clear hc hx hy hx2 hy2 m2 m3
              go_upto_region 21 with (fail)
              go_region_held3 (fun w' => w'.cell? ⟨g, kk * 2, none⟩ = some (.int .u32 p.a) ∧ w'.cell? ⟨g, kk * 2 + 1, none⟩ = some (.int .i64 p.n))
                (first | trivial | exact ⟨cell_touch ht' (cell_touch tz m0 (by simp)) HBS.out, cell_touch ht' (cell_touch tz m1 (by simp)) HBS.out⟩)
                ((go_at_call 17; refine HC.out.mono ?_; rintro e w5 ⟨rfl, S', k', hT', ht', hS'⟩))
              all_goals
                have hkk : k' ≤ k2 + 1 := by
                  have e1 := hT'.len
                  have e2 := hT.out.len
                  have e3 := HK.out
                  unfold val at e3
                  rw [e3] at e1
                  split at e1 <;> omega
                have k0 := cell_touch ht' (cell_touch tz m0 (by simp)) HBS.out
                have k1 := cell_touch ht' (cell_touch tz m1 (by simp)) HBS.out
                have k2' := cell_touch ht' (cell_touch tz M2.out (by simp)) HBS.out
                have k3' := cell_touch ht' (cell_touch tz M3.out (by simp)) HBS.out
                have HV5 := Lib.hid ((hV.out.kept tz (by simp)).kept ht' (fun b hb => by simp [Value.ownBlock] at hb; subst hb; exact HBS.out))
                obtain ⟨cg, hcg⟩ := HV5.out.blk g rfl
                have hlt5 := (Array.getElem?_eq_some_iff.1 hcg).1
                have hne5 : w5.heap.size ≠ g := by omega
                have hne6 : g ≠ w5.heap.size := by omega
                have HT' := Lib.hid hT'
                have HTT := Lib.hid ht'
                have HSS := Lib.hid hS'
                clear hT' ht' hS' va vw m0 m1
                have fz := fun o => blk_frozen hcg o
                go_upto_region 24 with (fail)
                obtain ⟨W6, hW6⟩ : ∃ W6 : World, W6 = (((w5.setCell ⟨g, kk * 2, none⟩ (.int .u32 r.a)).setCell ⟨g, kk * 2 + 1, none⟩ (.int .i64 r.n)).alloc (.cells #[.int .u32 p.a, .int .i64 p.n] 32)) := ⟨_, rfl⟩
                rw [← hW6]
                have t6 : Touch [g] w5 W6 := by rw [hW6]; exact (((Touch.refl [g] w5).setCell _ _ (.inl (by simp))).setCell _ _ (.inl (by simp))).alloc _
                have HV6 := Lib.hid (show VRow W6 32 2 (.slice (some ⟨g, 0, none⟩) L.length c) L.length (flatP (Lc.set kk r)) by rw [hW6]; exact (HV5.out.setP kk r).kept ((Touch.refl [] _).alloc _) (by simp))
                have hbx : W6.heap[w5.heap.size]? = some (.cells #[.int .u32 p.a, .int .i64 p.n] 32 (0, 0)) := by rw [hW6]; exact box_at' _ _ _ (by simp)
                obtain ⟨x0, x1, _⟩ := two_cells hbx
                obtain ⟨_, c6, hVf6, _, hc6⟩ := HV6.out.at_ (by omega)
                simp only [Value.slice.injEq, Option.some.injEq, Addr.mk.injEq] at hVf6
                obtain ⟨⟨rfl, -⟩, -, -⟩ := hVf6
                have hrm : (Lc.set kk r)[m]? = some r := by
                  by_cases e : kk = m
                  · subst e; rw [List.getElem?_set_self (by omega)]
                  · rw [List.getElem?_set_ne e]; exact HY.out
                have hy6 := flatP_get (Lc.set kk r) m r hrm
                have y0 := hc6 _ _ hy6.1
                have y1 := hc6 _ _ hy6.2
                obtain ⟨cg6, hcg6⟩ := HV6.out.blk g rfl
                have fz6 := fun o => blk_frozen hcg6 o
                have T6 := Lib.hid t6
                clear hc6 hy6 hrm k0 k1 k2' k3' hcg fz hbx hW6 t6
                have hml : (m : Int) < (L.length : Int) := by omega
                have hml2 : m < L.length := by omega
                go_wp2
                have hgS' : g ∉ S' := fun h => by
                  have hw := hTo.out.size
                  have hz := tz.size
                  rcases HSS.out g h with h | h
                  · exact HBS.out h
                  · omega
                have tf : Touch [g] w5 ((W6.setCell ⟨g, m * 2, none⟩ (.int .u32 p.a)).setCell ⟨g, m * 2 + 1, none⟩ (.int .i64 p.n)) := (T6.out.setCell _ _ (.inl (by simp))).setCell _ _ (.inl (by simp))
                refine ⟨⟨m, _, S', k', (Lc.set kk r).set m p, rfl, by omega, by omega, by simp [hLc], Lib.hid (fun q => ?_), Lib.hid (HV6.out.setP m p), Lib.hid (HT'.out.kept tf (fun x hx => by simp; rintro rfl; exact hgS' hx)), Lib.hid ?_, Lib.hid (fun x hx => ?_), Lib.hid (fun x hx => ?_), Lib.hid ?_⟩, by simp [intOf]⟩
                · rw [swap_mem HX.out HY.out]; exact hPm.out q
                · rw [swap_drop (by omega) hkm]
                  exact mixed_put hM.out HGG.out
                · rcases HSS.out x hx with h | h
                  · exact hS.out x h
                  · exact .inr (Nat.le_trans hTo.out.size (Nat.le_trans tz.size h))
                · rcases HSS.out x hx with h | h
                  · exact hSS.out x h
                  · intro hxS
                    have := SLT.out x hxS
                    have hw := hTo.out.size
                    have hz := tz.size
                    omega
                · have hgG : g ∈ G := by rw [HG.out]; simp [Value.ownBlock]
                  exact ((hTo.out.trans tz (by simp)).trans HTT.out (fun x hx => by rcases hS.out x hx with h | h; exact .inl (by simp [h]); exact .inr h)).trans tf (fun x hx => by simp at hx; subst hx; exact .inl (by simp [hgG]))
            · obtain rfl : n = 0 := by omega
              have MD : Hid (Mixed t Lc (fun q => q ∈ O)) := Lib.hid (by have := hM.out; rwa [List.drop_zero] at this)
              have hk2b : k2 ≤ 400 := by omega
              obtain ⟨W7, hW7⟩ : ∃ W7 : World, W7 = wr := ⟨_, rfl⟩
              rw [← hW7] at hT hTo hV ⊢
              have RL7 := Lib.hid (hV.out.rdx (by rw [hLc]))
              have TS7 := Lib.hid (TS.out.kept hTo.out (fun x hx h => by
                have hh := HTS.out
                have hh3 := T3.out.size
                rcases List.mem_cons.1 h with e | e
                · rw [e] at hx; exact TSn.out hx
                · have := GB.out x e
                  rcases SS.out x hx with e | e <;> omega))
              have RO7 := Lib.hid (RO4.out.kept_ hTo.out (fun b hb h => by
                have hh := HTS.out
                have h2 := OB.out b (own_any hb)
                rcases List.mem_cons.1 h with e | e
                · omega
                · have := GB.out b e; omega))
              have MD2 : Hid (Mixed t Lc (fun q => q ∈ O ∧ q ∉ O.take 0)) := Lib.hid (mixed_cong MD.out (fun q => Iff.rfl) (by simp))
              clear hW7 hM hn hn0 hk2 TS5 RO5 MD T5
              have b3 : ¬ (0 : Int) < ((0 : Nat) : Int) := by simp
              go_wp2
              go_loopw [16] (fun v16 wr => ∃ (i : Nat) (t : T) (S2 : List Nat) (k2 : Nat), v16 = .int .i64 i ∧ i ≤ O.length ∧ k2 ≤ 400 ∧ Hid (TrieAt wr tb t S2 k2) ∧ Hid (Mixed t Lc (fun q => q ∈ O ∧ q ∉ O.take i)) ∧ Hid (∀ x ∈ S2, x = tb ∨ W4.heap.size ≤ x) ∧ Hid (∀ x ∈ S2, x ∉ S) ∧ Hid (TrieAt wr ts s S k) ∧ Hid (RdX wr A L.length Lc) ∧ Hid (RdX wr AO O.length O) ∧ Hid (Touch (tb :: G) W4 wr)) (fun v16 _ => O.length - (intOf v16).toNat)
              case atStart => exact ⟨0, t, S2, k2, rfl, Nat.zero_le _, hk2b, hT, MD2, hS, hSS, TS7, RL7, RO7, hTo⟩
              case round =>
                clear hT MD2 hS hSS hTo hk2b TS7 RL7 RO7
                obtain ⟨i, t, S2, k2, rfl, hi, hk2b, hT, hM, hS, hSS, hTS, hRL, hRO, hTo⟩ := hrel
                by_cases hlt : i < O.length
                · have b4 : (i : Int) < (O.length : Int) := by omega
                  obtain ⟨b, off, hA, hb, hc⟩ := hRO.out.at_ (by omega)
                  have HA := Lib.hid hA
                  clear hA
                  obtain ⟨p, hx⟩ : ∃ x, O[i]? = some x := ⟨_, List.getElem?_eq_getElem hlt⟩
                  obtain ⟨m0, m1⟩ := hc i _ hx
                  have HX := Lib.hid hx
                  have HP := Lib.hid (OOK.out p (List.mem_of_getElem? hx))
                  have HR : Hid (∀ q, (q ∈ O ∧ q ∉ O.take (i + 1)) ↔ ((q ∈ O ∧ q ∉ O.take i) ∧ q ≠ p)) := Lib.hid (fun q => by
                    rw [List.take_add_one, hx]
                    simp
                    constructor
                    · rintro ⟨h1, h2, h3⟩; exact ⟨⟨h1, h2⟩, h3⟩
                    · rintro ⟨⟨h1, h2⟩, h3⟩; exact ⟨h1, h2, h3⟩)
                  have M0 := Lib.hid m0
                  have M1 := Lib.hid m1
                  clear hc hx hb
                  obtain rfl := HA.out
                  obtain ⟨r, hr⟩ := last_some Lc p
                  have LR := Lib.hid hr
                  clear hr
                  go_wp2_with fail
                  refine (last_is hRL.out LR.out (by omega)).mono ?_
                  rintro e w8 ⟨rfl, t8⟩
                  have T8 := Lib.hid t8
                  have m0 := cell_touch t8 M0.out (by simp)
                  have m1 := cell_touch t8 M1.out (by simp)
                  clear t8
                  rcases LR.out with ⟨rfl, hno⟩ | ⟨j, rfl, hj, _⟩
                  · have HNO := Lib.hid hno
                    clear hno
                    go_wp2_with fail
                    refine (del_calls (hT.out.kept T8.out (by simp)) p HP.out (by omega)).mono ?_
                    rintro e w9 hd
                    have hseek := fun v => seek_is t p v hT.out.ok HP.out
                    rcases hd with ⟨hn, rfl, t9⟩ | ⟨v, hv, rfl, S', k', hT', t9, hS'⟩
                    · have hnr : ¬ (p ∈ O ∧ p ∉ O.take i) := fun h => by
                        have := (hseek (-5)).2 ((hM.out p (-5)).2 (.inr ⟨HNO.out, h, rfl⟩))
                        rw [hn] at this; cases this
                      have tt := Lib.hid (T8.out.trans t9 (by simp))
                      have HM2 := Lib.hid (mixed_cong (mixed_gone hM.out HNO.out hnr) (fun q => Iff.rfl) HR.out)
                      clear hseek hn t9 hnr m0 m1
                      go_wp2
                      go_roundw
                      case rel => exact ⟨i + 1, t, S2, k2, by go_num, by omega, hk2b, Lib.hid (hT.out.kept tt.out (by simp)), HM2, hS, hSS, Lib.hid (hTS.out.kept tt.out (by simp)), Lib.hid (hRL.out.kept tt.out), Lib.hid (hRO.out.kept tt.out), Lib.hid (hTo.out.trans tt.out (by simp))⟩
                      case measure => simp [intOf]; omega
                    · have hm := (hseek v).1 hv
                      have hg' := take_is t p _ hT.out.ok hm
                      have hk' := len_take hT.out.ok hm
                      have hkk : k' ≤ 400 := by
                        have e1 := hT'.len
                        have e2 := hT.out.len
                        omega
                      have tt : Touch S2 wr w9 := (T8.out.mono (by simp)).trans t9 (fun x hx => .inl hx)
                      have TTT := Lib.hid tt
                      have HM2 := Lib.hid (mixed_cong (mixed_del hM.out hg' HNO.out) (fun q => Iff.rfl) HR.out)
                      have HT' := Lib.hid hT'
                      have HSS := Lib.hid hS'
                      have HGL : Hid (∀ b, (Value.slice A L.length 0).ownBlock = some b → b ∉ S2) := Lib.hid (fun b hb h => by
                        have h2 := LB.out b (own_any hb)
                        have hh := HTS.out
                        have h3 := T3.out.size
                        rcases hS.out b h with e | e <;> omega)
                      have HGO : Hid (∀ b', (Value.slice (some ⟨b, off, none⟩) O.length 0).ownBlock = some b' → b' ∉ S2) := Lib.hid (fun b' hb h => by
                        have h2 := OB.out b' (own_any hb)
                        have hh := HTS.out
                        have h3 := T3.out.size
                        rcases hS.out b' h with e | e <;> omega)
                      clear hseek hv t9 hm hg' hk' hT' hS' tt m0 m1
                      go_wp2
                      go_roundw
                      case rel => exact ⟨i + 1, _, S', k', by go_num, by omega, hkk, HT', HM2, Lib.hid (fun x hx => hS.out x (HSS.out x hx)), Lib.hid (fun x hx => hSS.out x (HSS.out x hx)), Lib.hid (hTS.out.kept TTT.out (fun x hx h => hSS.out x h hx)), Lib.hid (hRL.out.kept_ TTT.out HGL.out), Lib.hid (hRO.out.kept_ TTT.out HGO.out), Lib.hid (hTo.out.trans TTT.out (fun x hx => by rcases hS.out x hx with h | h; exact .inl (by simp [h]); exact .inr h))⟩
                      case measure => simp [intOf]; omega
                  · have HM2 := Lib.hid (mixed_cong (mixed_skip hM.out (List.mem_of_getElem? hj)) (fun q => Iff.rfl) HR.out)
                    have b5 : ¬ (j : Int) < 0 := by omega
                    have b6 : decide ((j : Int) < 0) = false := by rw [decide_eq_false_iff_not]; omega
                    clear hj m0 m1
                    go_wp2
                    go_roundw
                    case rel => exact ⟨i + 1, t, S2, k2, by go_num, by omega, hk2b, Lib.hid (hT.out.kept T8.out (by simp)), HM2, hS, hSS, Lib.hid (hTS.out.kept T8.out (by simp)), Lib.hid (hRL.out.kept T8.out), Lib.hid (hRO.out.kept T8.out), Lib.hid (hTo.out.trans T8.out (by simp))⟩
                    case measure => simp [intOf]; omega
                · have b4 : ¬ (i : Int) < (O.length : Int) := by omega
                  obtain rfl : i = O.length := by omega
                  have ME := Lib.hid (show Mixed t Lc (fun _ => False) from mixed_cong hM.out (fun q => Iff.rfl) (fun q => by rw [List.take_length]; simp))
                  have MSc : Hid (Mixed s Lc (fun _ => False)) := Lib.hid (mixed_cong MS.out hPm.out (fun q => Iff.rfl))
                  have HEQ := Lib.hid (ents_same hTS.out.ok hT.out.ok MSc.out ME.out)
                  have HSZ := Lib.hid (tsize_same hTS.out.ok hT.out.ok HEQ.out)
                  obtain ⟨W8, hW8⟩ : ∃ W8 : World, W8 = wr := ⟨_, rfl⟩
                  rw [← hW8] at hT hTo hTS hRL ⊢
                  clear hW8 hM hRO ME MS hi hlt
                  have hk1 := hTS.out.len
                  have hk2 := hT.out.len
                  obtain ⟨E, hE⟩ : ∃ E, E = ents s := ⟨_, rfl⟩
                  have htold1 := Lib.hid (told_calls hTS.out (by omega))
                  have htold2 := Lib.hid (fun (W : World) (tt : Touch [] W8 W) => told_calls (hT.out.kept tt (by simp)) (by omega))
                  have HM : Hid (∀ e ∈ E, e.1 ∈ Lc ∧ e.2 = val e.1) := Lib.hid (fun e he => by
                    obtain ⟨q, u⟩ := e
                    rw [hE, MSc.out q u] at he
                    simpa using he)
                  have HN : Hid (∀ q ∈ Lc, q ∈ E.map (·.1)) := Lib.hid (fun q hq => List.mem_map.2 ⟨(q, val q), by rw [hE, MSc.out]; exact .inl ⟨hq, rfl⟩, rfl⟩)
                  have HSO : Hid (Sorted E) := Lib.hid (by rw [hE]; exact ents_sorted s hTS.out.ok)
                  have HGE : Hid (E.length ≤ tsize s) := Lib.hid (by rw [hE]; exact tsize_ge)
                  have HLT : Hid (E ≠ [] → tsize s + 1 ≤ 2 * E.length) := Lib.hid (fun h => by rw [hE]; exact tsize_lt hTS.out.ok (fun e => h (by rw [hE, e]; rfl)))
                  have HZ : Hid (E = [] → tsize s = 0) := Lib.hid (fun h => by
                    have := tsize_two hTS.out.ok
                    rw [← hE, h] at this
                    simpa using this)
                  have hEO : Hid (∀ e ∈ E, e.1.ok) := Lib.hid (fun e he => ents_ok hTS.out.ok e (hE ▸ he))
                  rw [← HEQ.out, ← hE] at hk2
                  rw [← hE] at hk1 htold1
                  simp only [← HEQ.out, ← hE] at htold2
                  have hs2 : tsize s ≤ 2 * E.length := by rw [hE]; exact tsize_two hTS.out.ok
                  clear hE MSc HEQ
                  subst hk1 hk2
                  go_wp2_with fail
                  refine htold1.out.mono ?_
                  rintro e W9 ⟨A4, c4, A5, c5, rfl, hr4, hr5, t9⟩
                  have R4 := Lib.hid (hr4.rdx (by simp))
                  have R5 := Lib.hid hr5
                  have T9 := Lib.hid t9
                  clear hr4 hr5 t9 htold1
                  go_wp2_with fail
                  refine (htold2.out W9 T9.out).mono ?_
                  rintro e W10 ⟨A6, c6, A7, c7, rfl, hr6, hr7, t10⟩
                  have T10 := Lib.hid (T9.out.trans t10 (by simp))
                  have SV := Lib.hid (show SevenAt W10 ts tb s t S S2 E.length E.length L.length A Lc E A4 A5 A6 A7 c5 c7 from
                    ⟨hTS.out.kept T10.out (by simp), hT.out.kept T10.out (by simp), hRL.out.kept T10.out, R4.out.kept t10, R5.out.kept t10 (by simp), hr6.rdx (by simp), hr7⟩)
                  clear hr6 hr7 t10 htold2 hTS hT hRL R4 R5 T9
                  go_wp2_with fail
                  refine (len_calls SV.out.s).mono ?_
                  rintro e W11 ⟨rfl, hw⟩
                  obtain rfl := hw.symm
                  go_wp2_with fail
                  refine (len_calls SV.out.t).mono ?_
                  rintro e W11 ⟨rfl, hw⟩
                  obtain rfl := hw.symm
                  go_wp2_with fail
                  refine (nodes_calls SV.out.s (by omega)).mono ?_
                  rintro e W11 ⟨rfl, t11⟩
                  have SV := Lib.hid (SV.out.kept t11)
                  have T11 := Lib.hid (T10.out.trans t11 (by simp))
                  clear t11 T10
                  go_wp2_with fail
                  refine (nodes_calls SV.out.t (by have := HSZ.out; omega)).mono ?_
                  rintro e W12 ⟨rfl, t12⟩
                  have SV := Lib.hid (SV.out.kept t12)
                  have T12 := Lib.hid (T11.out.trans t12 (by simp))
                  clear t12 T11
                  rw [← HSZ.out]
                  go_wp2
                  go_loopw [21] (fun v21 wr => ∃ i : Nat, v21 = .int .i64 i ∧ i ≤ E.length ∧ Hid (Touch [] W12 wr)) (fun v21 _ => E.length - (intOf v21).toNat)
                  case atStart => exact ⟨0, rfl, Nat.zero_le _, Lib.hid (Touch.refl _ _)⟩
                  case round =>
                    obtain ⟨i, rfl, hi, hTi⟩ := hrel
                    obtain ⟨W13, hW13⟩ : ∃ W13 : World, W13 = wr := ⟨_, rfl⟩
                    rw [← hW13] at hTi ⊢
                    clear hW13
                    by_cases hlt : i < E.length
                    · have b5 : (i : Int) < (E.length : Int) := by omega
                      have SV := Lib.hid (SV.out.kept hTi.out)
                      obtain ⟨⟨q, u⟩, he⟩ : ∃ e, E[i]? = some e := ⟨_, List.getElem?_eq_getElem hlt⟩
                      have hep : (E.map (·.1))[i]? = some q := by simp [he]
                      obtain ⟨b4, o4, hA4, m0, m1⟩ := SV.out.p1.cell_ hep
                      obtain ⟨b6, o6, hA6, m2, m3⟩ := SV.out.p2.cell_ hep
                      obtain ⟨g5, hA5, m5⟩ := vals_at SV.out.v1 rfl he
                      obtain ⟨g7, hA7, m7⟩ := vals_at SV.out.v2 rfl he
                      dsimp only at m5 m7
                      obtain ⟨hq1, hq2⟩ := HM.out _ (List.mem_of_getElem? he)
                      dsimp only at hq1 hq2
                      have hqo := hEO.out _ (List.mem_of_getElem? he)
                      dsimp only at hqo
                      obtain ⟨j, hj⟩ := last_of_mem hq1
                      have vw := val_wrap hqo
                      have va := val_wrapa hqo
                      have n0 := fun u : Near W13 => u.cell m0
                      have n1 := fun u : Near W13 => u.cell m1
                      have n2' := fun u : Near W13 => u.cell m2
                      have n3 := fun u : Near W13 => u.cell m3
                      rw [show u = (q.a : Int) + (q.n : Int) from hq2] at m5 m7 he
                      have n5 := fun u : Near W13 => u.cell m5
                      have n7 := fun u : Near W13 => u.cell m7
                      have HC := Lib.hid (fun u : Near W13 => last_near (cap := c) u SV.out.l hj (by omega))
                      have hneq := fun w => px_neq q.a q.n q.a q.n true (px_beq rfl) w
                      have b6' : decide ((j : Int) < 0) = false := by rw [decide_eq_false_iff_not]; omega
                      have M0 := Lib.hid m0
                      have M1 := Lib.hid m1
                      have HE := Lib.hid he
                      clear he hep m0 m1 m2 m3 m5 m7 hq1 hq2 hqo hj
                      subst hA4 hA6 hA5 hA7
                      go_upto_region 37 with (fail)
                      refine wp_region_near (by kernel_rfl) (by kernel_rfl) ?_
                      repeat (go_big_quiet_step ((go_at_call 20; exact HC.out _)))
                      refine wpQuiet_nil ?_
                      rintro _ ⟨u14, rfl⟩
                      have TU := Lib.hid (hTi.out.trans u14.near (by simp))
                      have k0 := fun v : Near u14.w => v.cell (u14.cell M0.out)
                      have k1 := fun v : Near u14.w => v.cell (u14.cell M1.out)
                      clear n0 n1 n2' n3 n5 n7 HC hneq vw va
                      by_cases h0 : i = 0
                      · have c0 : decide ((0 : Int) < (i : Int)) = false := by rw [decide_eq_false_iff_not]; omega
                        have c0' : decide (0 < i) = false := by rw [decide_eq_false_iff_not]; omega
                        clear h0
                        go_upto_region 39 with (fail)
                        refine wp_region_near (by kernel_rfl) (by kernel_rfl) ?_
                        repeat (go_big_quiet_step (fail))
                        refine wpQuiet_nil ?_
                        rintro _ ⟨u15, rfl⟩
                        clear k0 k1 c0 c0'
                        go_wp2
                        go_roundw
                        case rel => exact ⟨i + 1, by go_num, by omega, Lib.hid (TU.out.trans u15.near (by simp))⟩
                        case measure => simp [intOf]; omega
                      · obtain ⟨i', rfl⟩ : ∃ i', i = i' + 1 := ⟨i - 1, by omega⟩
                        obtain ⟨⟨q', u'⟩, he'⟩ : ∃ e, E[i']? = some e := ⟨_, List.getElem?_eq_getElem (by omega)⟩
                        have hplt : plt q' q := by
                          have hs := List.pairwise_iff_getElem.1 HSO.out i' (i' + 1) (by omega) hlt (by omega)
                          have h1 := HE.out
                          obtain ⟨_, h1⟩ := List.getElem?_eq_some_iff.1 h1
                          obtain ⟨_, h2⟩ := List.getElem?_eq_some_iff.1 he'
                          rw [h1, h2] at hs
                          exact hs
                        have hep' : (E.map (·.1))[i']? = some q' := by simp [he']
                        obtain ⟨b4', o4', hA4', m0, m1⟩ := (SV.out.kept u14.near).p1.cell_ hep'
                        simp only [Option.some.injEq, Addr.mk.injEq, and_true] at hA4'
                        obtain ⟨rfl, rfl⟩ := hA4'
                        have l0 := fun v : Near u14.w => v.cell m0
                        have l1 := fun v : Near u14.w => v.cell m1
                        have c0 : decide ((0 : Int) < ((i' + 1 : Nat) : Int)) = true := by rw [decide_eq_true_eq]; omega
                        have c1 : IntKind.i64.wrap ((i' : Int) + 1 - 1) = (i' : Int) := by rw [IntWalk.i64_in _ (by omega)]; omega
                        have c2 : IntKind.i64.wrap (i' : Int) = (i' : Int) := IntWalk.i64_in _ (by omega)
                        have c3 : (i' : Int) < (E.length : Int) := by omega
                        have c3' : i' < E.length := by omega
                        have d0 : decide ((q.a : Int) < (q'.a : Int)) = false := by rw [decide_eq_false_iff_not]; unfold plt at hplt; omega
                        have d0' : decide (q.a < q'.a) = false := by rw [decide_eq_false_iff_not]; unfold plt at hplt; omega
                        obtain ⟨r1, d1, d2⟩ : ∃ r1 : Bool, ((q.a : Int) == (q'.a : Int)) = r1 ∧ (r1 = true → q'.n < q.n) := ⟨_, rfl, fun h => by rw [beq_iff_eq] at h; unfold plt at hplt; omega⟩
                        have D2 := Lib.hid d2
                        clear he' hplt hep' m0 m1 h0 d2
                        cases r1
                        · go_upto_region 39 with (fail)
                          refine wp_region_near (by kernel_rfl) (by kernel_rfl) ?_
                          repeat (go_big_quiet_step (fail))
                          refine wpQuiet_nil ?_
                          rintro _ ⟨u15, rfl⟩
                          clear k0 k1 l0 l1 c0 c1 c2 d0 d0' d1
                          go_wp2
                          go_roundw
                          case rel => exact ⟨i' + 1 + 1, by go_num, by omega, Lib.hid (TU.out.trans u15.near (by simp))⟩
                          case measure => simp [intOf]; omega
                        · have d3 : decide ((q.n : Int) ≤ (q'.n : Int)) = false := by rw [decide_eq_false_iff_not]; have := D2.out rfl; omega
                          have d3' : decide (q.n ≤ q'.n) = false := by rw [decide_eq_false_iff_not]; have := D2.out rfl; omega
                          go_upto_region 39 with (fail)
                          refine wp_region_near (by kernel_rfl) (by kernel_rfl) ?_
                          repeat (go_big_quiet_step (fail))
                          refine wpQuiet_nil ?_
                          rintro _ ⟨u15, rfl⟩
                          clear k0 k1 l0 l1 c0 c1 c2 d0 d0' d1 d3 d3'
                          go_wp2
                          go_roundw
                          case rel => exact ⟨i' + 1 + 1, by go_num, by omega, Lib.hid (TU.out.trans u15.near (by simp))⟩
                          case measure => simp [intOf]; omega
                    · have b5 : ¬ (i : Int) < (E.length : Int) := by omega
                      have SV := Lib.hid (SV.out.kept hTi.out)
                      have T13 := Lib.hid (T12.out.trans hTi.out (by simp))
                      clear hlt hi hTi
                      go_wp2
                      go_loopw [22] (fun v22 wr => ∃ i : Nat, v22 = .int .i64 i ∧ i ≤ L.length ∧ Hid (Touch [] W13 wr)) (fun v22 _ => L.length - (intOf v22).toNat)
                      case atStart => exact ⟨0, rfl, Nat.zero_le _, Lib.hid (Touch.refl _ _)⟩
                      case round =>
                        obtain ⟨i, rfl, hi, hTi⟩ := hrel
                        obtain ⟨W14, hW14⟩ : ∃ W14 : World, W14 = wr := ⟨_, rfl⟩
                        rw [← hW14] at hTi ⊢
                        clear hW14
                        have SV := Lib.hid (SV.out.kept hTi.out)
                        by_cases hlt : i < L.length
                        · have b6 : (i : Int) < (L.length : Int) := by omega
                          obtain ⟨q, hq⟩ : ∃ q, Lc[i]? = some q := ⟨_, List.getElem?_eq_getElem (by omega)⟩
                          obtain ⟨bl, ol, hAl, m0, m1⟩ := SV.out.l.cell_ hq
                          obtain ⟨j, hj⟩ := last_of_mem (HN.out q (List.mem_of_getElem? hq))
                          have HJ := Lib.hid hj
                          have b7 : ¬ (j : Int) < 0 := by omega
                          have b8 : decide ((j : Int) < 0) = false := by rw [decide_eq_false_iff_not]; omega
                          clear hq hj
                          subst hAl
                          go_wp2_with fail
                          refine (last_is SV.out.p1 HJ.out (by omega)).mono ?_
                          rintro e W15 ⟨rfl, t15⟩
                          have T15 := Lib.hid (hTi.out.trans t15 (by simp))
                          clear t15 m0 m1
                          go_wp2
                          go_roundw
                          case rel => exact ⟨i + 1, by go_num, by omega, T15⟩
                          case measure => simp [intOf]; omega
                        · have b6 : ¬ (i : Int) < (L.length : Int) := by omega
                          clear hlt hi
                          have TF := Lib.hid ((TW4.out.trans ((hTo.out.trans T13.out (by simp)).trans hTi.out (by simp)) (fun x hx => by
                            have hh := HTS.out
                            have h1 := T1.out.size
                            rcases List.mem_cons.1 hx with e | e
                            · right; omega
                            · exact .inr (GB.out x e).1)))
                          clear hTi
                          go_wp2_with fail
                          refine (nodes_calls SV.out.s (by omega)).mono ?_
                          rintro e W15 ⟨rfl, t15⟩
                          have SV := Lib.hid (SV.out.kept t15)
                          have TF := Lib.hid (TF.out.trans t15 (by simp))
                          clear t15
                          by_cases hL0 : L.length = 0
                          · have hE0 : E = [] := by
                              rcases Classical.em (E = []) with h | h
                              · exact h
                              · obtain ⟨e, he⟩ := List.exists_mem_of_ne_nil _ h
                                have := (HM.out e he).1
                                have hn : Lc = [] := List.eq_nil_of_length_eq_zero (by omega)
                                rw [hn] at this; simp at this
                            have hz := HZ.out hE0
                            have he0 : E.length = 0 := by rw [hE0]; rfl
                            have e1 : ((L.length : Int) == 0) = true := by rw [beq_iff_eq]; omega
                            have e2 : ((tsize s : Int) == 0) = true := by rw [beq_iff_eq]; omega
                            have e3 : ((E.length : Int) == 0) = true := by rw [beq_iff_eq]; omega
                            clear hE0 hz he0 hL0
                            go_wp2_with fail
                            refine (len_calls SV.out.s).mono ?_
                            rintro e W16 ⟨rfl, hw⟩
                            obtain rfl := hw.symm
                            go_wp2
                            go_ret
                            exact ⟨rfl, TF.out⟩
                          · have hEn : E ≠ [] := fun h => by
                              obtain ⟨q, hq⟩ := List.exists_mem_of_ne_nil Lc (fun h => hL0 (by rw [← hLc, h]; rfl))
                              have := HN.out q hq
                              rw [h] at this; simp at this
                            have hlt2 := HLT.out hEn
                            have hge := HGE.out
                            have e1 : ((L.length : Int) == 0) = false := by rw [beq_eq_false_iff_ne]; omega
                            have e2 : decide ((E.length : Int) ≤ (tsize s : Int)) = true := by rw [decide_eq_true_eq]; omega
                            have e2' : (E.length : Int) ≤ (tsize s : Int) := by omega
                            have e3 : (tsize s : Int) ≤ 2 * (E.length : Int) - 1 := by omega
                            have e3' : decide ((tsize s : Int) ≤ 2 * (E.length : Int) - 1) = true := by rw [decide_eq_true_eq]; omega
                            clear hL0
                            go_wp2_with fail
                            refine (len_calls SV.out.s).mono ?_
                            rintro e W16 ⟨rfl, hw⟩
                            obtain rfl := hw.symm
                            go_wp2_with fail
                            refine (len_calls SV.out.s).mono ?_
                            rintro e W16 ⟨rfl, hw⟩
                            obtain rfl := hw.symm
                            go_wp2
                            go_ret
                            exact ⟨rfl, TF.out⟩
end Go.Proofs.Ytmklkdhpbehfeaa.Tri
