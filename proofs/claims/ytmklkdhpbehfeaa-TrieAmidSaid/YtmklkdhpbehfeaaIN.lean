/- The walk of TrieInside; no condition. -/
import Derived.Test.YtmklkdhpbehfeaaZH
import Derived.Test.YtmklkdhpbehfeaaGO
import Derived.Sort.LoopGhostIn
namespace Go.Proofs.Ytmklkdhpbehfeaa.Tri
open Go.RowKit Go.Maps Go.Shelf
set_option linter.unusedVariables false
attribute [local go_sem] Oper.semAt_some

theorem len_near {w0 : World} (u : Near w0) {tb : Nat} {t : T} {S : List Nat} {k : Nat} (h : TrieAt w0 tb t S k) :
    Calls Try.prog 27 #[.pointer (some ⟨tb, 0, none⟩)] u.w fun e w' => e = .returned (.int .i64 k) ∧ ∃ x : Near w0, w' = x.w :=
  near_call u ((len_calls (h.kept u.near (by simp))).mono fun _ _ ⟨h1, h2⟩ => ⟨h1, by rw [h2]; exact Touch.refl _ _⟩)
theorem insideL_filter {t : T} (hO : Ok t) {q : Px} (hq : q.ok) : insideL t q.a q.n = (ents t).filter (fun e => decide (ins e.1 q)) := by
  have ho : okP q.a q.n := ⟨by omega, by simpa using hq⟩
  rw [insideL_R hO, insideR, if_pos ho]
  simp
/-- What TrieInside reads while it ranges: all lies below block N. -/
structure SeesAt (N : Nat) (W : World) (B6 B9 B10 : Nat) (q : Px) (A A4 A5 : Option Addr) (c4 c5 : Nat) (L0 : List Px) (L : List Ent) : Prop where
  q : W.heap[B6]? = some (.cells #[.int .u32 q.a, .int .i64 q.n] 32 (0, 0))
  b9 : W.heap[B9]? = some (.cells #[.slice A4 L.length c4] 22 (0, 0))
  b10 : W.heap[B10]? = some (.cells #[.slice A5 L.length c5] 38 (0, 0))
  r4 : VRow W 32 2 (.slice A4 L.length c4) L.length (flatP (L.map (·.1)))
  r5 : VRow W 3 1 (.slice A5 L.length c5) L.length (flatV L)
  rx : RdX W A L0.length L0
  lt : B6 < N ∧ B9 < N ∧ B10 < N ∧ (∀ b, (Value.slice A4 L.length c4).ownBlock = some b → b < N) ∧ (∀ b, (Value.slice A5 L.length c5).ownBlock = some b → b < N) ∧ (∀ b, (Value.slice A L0.length 0).ownBlock = some b → b < N)
theorem RdX.kept_ {w w' : World} {A : Option Addr} {n : Nat} {l : List Px} (h : RdX w A n l) {S : List Nat} (t : Touch S w w') (hs : ∀ b, (Value.slice A n 0).ownBlock = some b → b ∉ S) : RdX w' A n l := by
  refine ⟨h.len, fun h0 => ?_⟩
  obtain ⟨b, off, hA, hb, hc⟩ := h.at_ h0
  have hb' : b ∉ S := hs b (by rw [hA]; rfl)
  exact ⟨b, off, hA, Nat.lt_of_lt_of_le hb t.size, fun i p hp => ⟨cell_touch t (hc i p hp).1 hb', cell_touch t (hc i p hp).2 hb'⟩⟩
theorem SeesAt.kept {N : Nat} {W W' : World} {B6 B9 B10 : Nat} {q : Px} {A A4 A5 : Option Addr} {c4 c5 : Nat} {L0 : List Px} {L : List Ent} (h : SeesAt N W B6 B9 B10 q A A4 A5 c4 c5 L0 L) {S : List Nat} (t : Touch S W W') (hs : ∀ x ∈ S, N ≤ x) : SeesAt N W' B6 B9 B10 q A A4 A5 c4 c5 L0 L := by
  obtain ⟨h1, h2, h3, h4, h5, h6⟩ := h.lt
  have no : ∀ b, b < N → b ∉ S := fun b hb hx => by have := hs b hx; omega
  exact ⟨touch_box t h.q (no _ h1), touch_box t h.b9 (no _ h2), touch_box t h.b10 (no _ h3), h.r4.kept t (fun k hk => no _ (h4 k hk)), h.r5.kept t (fun k hk => no _ (h5 k hk)), h.rx.kept_ t (fun b hb => no _ (h6 b hb)), h.lt⟩
structure InI (W0 : World) (B12 : Nat) (f : Ent → Bool) (L pre : List Ent) (W : World) : Prop where
  k : ∃ kk : Nat, W.heap[B12]? = some (.cells #[.int .i64 kk] 3 (0, 0)) ∧ kk ≤ L.length ∧ pre = (L.take kk).filter f
  touch : Touch [B12] W0 W
theorem InI.own {W0 : World} {B12 : Nat} {f : Ent → Bool} {L : List Ent} : OwnFrom W0.heap.size (InI W0 B12 f L) := by
  rintro s W W' row ⟨⟨kk, h1, h2, h3⟩, h4⟩ hg hr
  have hr' : RowNo W W0.heap.size row := hr
  exact ⟨⟨kk, touch_box (touch_grown hg) h1 (hr'.cells h1), h2, h3⟩, h4.trans (touch_grown hg) (fun x hx => .inr (hr x (by simpa using hx)).1)⟩
theorem filter_take_pre (f : Ent → Bool) (L : List Ent) (k : Nat) : (L.take k).filter f <+: L.filter f := by
  conv => rhs; rw [← List.take_append_drop k L, List.filter_append]
  exact List.prefix_append _ _
theorem get_of_pre {pre L : List Ent} {e : Ent} (h : pre ++ [e] <+: L) : L[pre.length]? = some e := by
  obtain ⟨r, rfl⟩ := h
  rw [List.append_assoc, List.getElem?_append_right (Nat.le_refl _), Nat.sub_self]
  rfl
theorem SeesAt.cells {N : Nat} {W : World} {B6 B9 B10 : Nat} {q : Px} {A A4 A5 : Option Addr} {c4 c5 : Nat} {L0 : List Px} {L : List Ent} (h : SeesAt N W B6 B9 B10 q A A4 A5 c4 c5 L0 L) {kk : Nat} {e : Ent} (he : L[kk]? = some e) :
    ∃ g4 g5, A4 = some ⟨g4, 0, none⟩ ∧ A5 = some ⟨g5, 0, none⟩ ∧ W.cell? ⟨g4, kk * 2, none⟩ = some (.int .u32 e.1.a) ∧ W.cell? ⟨g4, kk * 2 + 1, none⟩ = some (.int .i64 e.1.n) ∧ W.cell? ⟨g5, kk, none⟩ = some (.int .i64 e.2) := by
  have hk := (List.getElem?_eq_some_iff.1 he).1
  obtain ⟨g4, c, h1, _, hc⟩ := h.r4.at_ (by omega)
  obtain ⟨g5, c', h2, _, hc'⟩ := h.r5.at_ (by omega)
  simp only [Value.slice.injEq] at h1 h2
  have he1 : (L.map (·.1))[kk]? = some e.1 := by rw [List.getElem?_map, he]; rfl
  obtain ⟨k0, k1⟩ := flatP_get _ _ _ he1
  have k2 : (flatV L)[kk]? = some (.int .i64 e.2) := by unfold flatV; rw [List.getElem?_map, he]; rfl
  exact ⟨g4, g5, h1.1, h2.1, hc _ _ k0, hc _ _ k1, hc' _ _ k2⟩
set_option maxHeartbeats 8000000 in
set_option maxRecDepth 100000 in
theorem inside_row {w : World} {A0 : Option Addr} {n0 cap0 : Nat} {l0 : List (Nat × Int)} (h0 : RdI w A0 n0 l0) (za : Nat) (zm : Int) (hza : za < 4294967296) (hm1 : -9223372036854775808 ≤ zm) (hm2 : zm ≤ 9223372036854775807) (hn0 : n0 ≤ 140737488355328) :
    Calls Try.prog 5 #[.slice A0 n0 cap0, .agg #[.int .u32 za, .int .i64 zm]] w fun e w' => e = .returned (.bool true) ∧ Touch [] w w' := by
  have H0 := Lib.hid h0
  have hg := guard32
  clear h0
  refine calls_marks Try.func5 rfl ?_
  simp only [Try.ntmps5, List.size_toArray, List.length_cons, List.length_nil, Nat.reduceAdd, Nat.reduceSub, Array.replicate_succ, Array.replicate_zero, List.push_toArray, List.append_toArray, List.nil_append, List.cons_append]
  go_wp2_with fail
  obtain ⟨V0, hV0⟩ : ∃ V0 : World, V0 = (w.alloc (.cells #[.int .u32 za, .int .i64 zm] 32)).alloc (.cells #[.bool false] 4) := ⟨_, rfl⟩
  have Z3 := Lib.hid (show V0.heap[w.heap.size]? = some (.cells #[.int .u32 za, .int .i64 zm] 32 (0, 0)) by rw [hV0]; exact box_keep _ (box_at w _))
  have Z4 := Lib.hid (show V0.heap[w.heap.size + 1]? = some (.cells #[.bool false] 4 (0, 0)) by rw [hV0]; exact box_at' _ _ _ (by simp))
  have TV := Lib.hid (show Touch [] w V0 by rw [hV0]; exact ((Touch.refl [] w).alloc _).alloc _)
  rw [← hV0]
  clear hV0
  refine (valids_calls (cap := cap0) (H0.out.kept TV.out) (by omega)).mono ?_
  rintro e W0 ⟨A, c, rfl, hv, ht0⟩
  obtain ⟨L0, hL⟩ : ∃ L : List Px, L = (l0.take 200).map (fun x => pxOf x.1 x.2) := ⟨_, rfl⟩
  rw [← hL] at hv ⊢
  have hLok : ∀ p ∈ L0, p.ok := fun p hp => by
    rw [hL] at hp
    obtain ⟨x, hx, rfl⟩ := List.mem_map.1 hp
    exact pxOf_ok (H0.out.wf x (List.mem_of_mem_take hx)).1
  have hLl : L0.length ≤ 200 := by rw [hL]; simp; omega
  have LOK := Lib.hid hLok
  have RX := Lib.hid (hv.rdx rfl)
  have hvb : Hid (∀ b, (Value.slice A L0.length 0).ownBlock = some b → b < W0.heap.size) := Lib.hid (fun b hb => hv.lt b (by cases A with
    | none => cases hb
    | some a => exact hb))
  have T0 := Lib.hid (TV.out.trans ht0 (by simp))
  have Z31 := Lib.hid (touch_box ht0 Z3.out (by simp))
  have Z41 := Lib.hid (touch_box ht0 Z4.out (by simp))
  clear hv ht0 hL hLok Z3 Z4 TV
  obtain ⟨z0, z1, _⟩ := two_cells Z31.out
  go_wp2_with fail
  refine (prefix_calls za zm _ hza hm1 hm2).mono ?_
  rintro e V1 ⟨rfl, tp⟩
  obtain ⟨q, hq⟩ : ∃ q : Px, q = pxOf za zm := ⟨_, rfl⟩
  have HQ : Hid q.ok := Lib.hid (by rw [hq]; exact pxOf_ok hza)
  rw [← hq]
  clear hq z0 z1
  have hqa := HQ.out.2.1
  go_upto_region 3 with (fail)
  obtain ⟨V2, hV2⟩ : ∃ V2 : World, V2 = V1.alloc (.cells #[.int .u32 q.a, .int .i64 q.n] 32) := ⟨_, rfl⟩
  have tp2 : Touch [] W0 V2 := by rw [hV2]; exact tp.alloc _
  have Q6 := Lib.hid (show V2.heap[V1.heap.size]? = some (.cells #[.int .u32 q.a, .int .i64 q.n] 32 (0, 0)) by rw [hV2]; exact box_at V1 _)
  have hB6 : V1.heap.size < V2.heap.size := (Array.getElem?_eq_some_iff.1 Q6.out).1
  have hB60 : W0.heap.size ≤ V1.heap.size := tp.size
  rw [← hV2]
  have RX2 := Lib.hid (RX.out.kept tp2)
  have T2 := Lib.hid (T0.out.trans tp2 (by simp))
  have Z42 := Lib.hid (touch_box tp2 Z41.out (by simp))
  have hvb2 : Hid (∀ b, (Value.slice A L0.length 0).ownBlock = some b → b < V2.heap.size) := Lib.hid (fun b hb => Nat.lt_of_lt_of_le (hvb.out b hb) tp2.size)
  clear hV2 tp tp2 T0 RX Z31 Z41 hvb
  generalize V1.heap.size = B6 at *
  go_wp2_with fail
  refine (new_calls V2).mono ?_
  rintro e W1 ⟨rfl, hta, ht1⟩
  have TA := Lib.hid hta
  have T1 := Lib.hid ht1
  clear hta ht1
  obtain ⟨tb, htb⟩ : ∃ tb, tb = V2.heap.size := ⟨_, rfl⟩
  have HTB := Lib.hid htb
  rw [← htb] at TA ⊢
  clear htb
  go_wp2
  go_loopw [8] (fun v8 wr => ∃ (i : Nat) (t : T) (S : List Nat) (k : Nat), v8 = .int .i64 i ∧ i ≤ L0.length ∧ k ≤ i ∧ Hid (TrieAt wr tb t S k) ∧ Hid (PutsIs t (L0.take i) 0) ∧ Hid (∀ x ∈ S, V2.heap.size ≤ x) ∧ Hid (Touch [] V2 wr)) (fun v8 _ => L0.length - (intOf v8).toNat)
  case atStart => exact ⟨0, .nil, [tb], 0, rfl, Nat.zero_le _, Nat.le_refl _, TA, Lib.hid (by simpa using puts_start 0), Lib.hid (by simp [HTB.out]), T1⟩
  case round =>
    clear TA T1
    obtain ⟨i, t, S, k, rfl, hi, hki, hT, hP, hS, hTo⟩ := hrel
    by_cases hlt : i < L0.length
    · have b1 : (i : Int) < (L0.length : Int) := by omega
      obtain ⟨b, off, hA, hb, hc⟩ := (RX2.out.kept hTo.out).at_ (by omega)
      have HA := Lib.hid hA
      clear hA
      obtain ⟨p, hx⟩ : ∃ x, L0[i]? = some x := ⟨_, List.getElem?_eq_getElem hlt⟩
      obtain ⟨m0, m1⟩ := hc i _ hx
      have HX := Lib.hid hx
      have HP := Lib.hid (LOK.out p (List.mem_of_getElem? hx))
      clear hc hx
      obtain rfl := HA.out
      go_wp2_with fail
      refine (put_calls hT.out p (i : Int) HP.out (by omega)).mono ?_
      rintro e w5 ⟨rfl, S', k', hT', ht', hS'⟩
      have hg' := hang_is t p (i : Int) hT.out.ok HP.out
      have hk' := len_hang (v := (i : Int)) hT.out.ok HP.out
      have hkk : k' ≤ i + 1 := by
        have e1 := hT'.len
        have e2 := hT.out.len
        rw [hk'] at e1
        split at e1 <;> omega
      have HT' := Lib.hid hT'
      have HG := Lib.hid hg'
      have HTT := Lib.hid ht'
      have HSS := Lib.hid hS'
      clear hT' hg' ht' hS' hk'
      go_wp2
      go_roundw
      case rel =>
        refine ⟨i + 1, _, S', k', by go_num, by omega, by omega, HT', Lib.hid ?_, Lib.hid (fun x hx => ?_), Lib.hid (hTo.out.trans HTT.out (fun x hx => .inr (hS.out x hx)))⟩
        · have hlen : (L0.take i).length = i := by simp; omega
          have := puts_step (p := p) hP.out (by rw [hlen]; simpa using HG.out)
          rw [List.take_add_one, HX.out]
          exact this
        · rcases HSS.out x hx with h | h
          · exact hS.out x h
          · exact Nat.le_trans hTo.out.size h
      case measure => simp [intOf]; omega
    · have b1 : ¬ (i : Int) < (L0.length : Int) := by omega
      obtain rfl : i = L0.length := by omega
      have PI : Hid (PutsIs t L0 0) := Lib.hid (by have := hP.out; rwa [List.take_length] at this)
      obtain ⟨W2, hW2⟩ : ∃ W2 : World, W2 = wr := ⟨_, rfl⟩
      rw [← hW2] at hTo hT ⊢
      have hk200 : k ≤ 200 := by omega
      clear hlt hi hP hW2 hki
      have hlen := hT.out.len
      obtain ⟨L, hLe⟩ : ∃ L, L = ents t := ⟨_, rfl⟩
      have HLE := Lib.hid hLe
      have htold := Lib.hid (told_calls hT.out (by omega))
      rw [← hLe] at hlen htold
      clear hLe
      go_wp2_with fail
      refine htold.out.mono ?_
      rintro e W3 ⟨A4, c4, A5, c5, rfl, hr4, hr5, t3⟩
      have R4 := Lib.hid hr4
      have R5 := Lib.hid hr5
      have T3 := Lib.hid (hTo.out.trans t3 (by simp))
      have HT3 := Lib.hid (hT.out.kept t3 (by simp))
      clear hr4 hr5 t3 htold
      go_upto_region 11 with (fail)
      obtain ⟨W4, hW4⟩ : ∃ W4 : World, W4 = (W3.alloc (.cells #[.slice A4 L.length c4] 22)).alloc (.cells #[.slice A5 L.length c5] 38) := ⟨_, rfl⟩
      have t4 : Touch [] W3 W4 := by rw [hW4]; exact ((Touch.refl [] W3).alloc _).alloc _
      have Y9 := Lib.hid (show W4.heap[W3.heap.size]? = some (.cells #[.slice A4 L.length c4] 22 (0, 0)) by rw [hW4]; exact box_keep _ (box_at W3 _))
      have Y10 := Lib.hid (show W4.heap[W3.heap.size + 1]? = some (.cells #[.slice A5 L.length c5] 38 (0, 0)) by rw [hW4]; exact box_at' _ _ _ (by simp))
      have hs4 : W4.heap.size = W3.heap.size + 1 + 1 := by rw [hW4]; simp
      have T4 := Lib.hid (T3.out.trans t4 (by simp))
      have hV23 := T3.out.size
      have SE := Lib.hid (show SeesAt W4.heap.size W4 B6 W3.heap.size (W3.heap.size + 1) q A A4 A5 c4 c5 L0 L from
        ⟨touch_box T4.out Q6.out (by simp), Y9.out, Y10.out, R4.out.kept t4 (by simp), R5.out.kept t4 (by simp), RX2.out.kept T4.out, by omega, by omega, by omega, fun b hb => by have := R4.out.lt b hb; omega, fun b hb => by have := R5.out.lt b hb; omega, fun b hb => by have := hvb2.out b hb; omega⟩)
      have HT4 := Lib.hid (HT3.out.kept t4 (by simp))
      rw [← hW4]
      clear hW4 t4 Y9 Y10 R4 R5 HT3 T3
      generalize W3.heap.size = B9 at *
      obtain ⟨z0, z1, _⟩ := two_cells SE.out.q
      go_wp2_with fail
      refine (within_calls tb q.a q.n W4).mono ?_
      rintro e W5 ⟨rfl, hsq, t5⟩
      have SQ := Lib.hid hsq
      have T5 := Lib.hid (T4.out.trans t5 (by simp))
      have SE5 := Lib.hid (SE.out.kept t5 (by simp))
      have HT5 := Lib.hid (HT4.out.kept t5 (by simp))
      have h45 := t5.size
      clear hsq t5 z0 z1 SE HT4
      obtain ⟨B, hB⟩ : ∃ B, B = B9 + 1 + 1 := ⟨_, rfl⟩
      rw [hs4] at SQ SE5 h45 ⊢
      rw [← hB] at SQ SE5 h45 ⊢
      have HS4 := Lib.hid hs4
      have HBB := Lib.hid hB
      clear hs4 hB
      unfold seqV
      have hnil := fun w' => seq_some w' (.func 46) #[] #[.pointer (some ⟨B + 1, 0, none⟩), .pointer (some ⟨B, 0, none⟩)]
      obtain ⟨q9, _⟩ := one_cells SE5.out.b9
      have n9 := fun u : Near W5 => u.cell q9
      have HC := Lib.hid (fun u : Near W5 => len_near u HT5.out)
      have hkl : k = L.length := hlen
      subst hkl
      go_wp2
      refine wp_region_near (by kernel_rfl) (by kernel_rfl) ?_
      repeat (go_big_quiet_step ((go_at_call 27; exact HC.out _)))
      refine wpQuiet_nil ?_
      rintro _ ⟨u6, rfl⟩
      have T6 := Lib.hid (T5.out.trans u6.near (by simp))
      have SE6 := Lib.hid (SE5.out.kept u6.near (by simp))
      have HT6 := Lib.hid (HT5.out.kept u6.near (by simp))
      have SQ6 := Lib.hid (SQ.out.kept u6.near (by simp) (by simp))
      have h56 := u6.near.size
      clear n9 HC hnil q9
      go_upto_region 15 with (fail)
      obtain ⟨WR, hWR⟩ : ∃ WR : World, WR = u6.w.alloc (.cells #[.int .i64 0] 3) := ⟨_, rfl⟩
      have t6R : Touch [] u6.w WR := by rw [hWR]; exact (Touch.refl [] u6.w).alloc _
      have X12 := Lib.hid (show WR.heap[u6.w.heap.size]? = some (.cells #[.int .i64 ((0 : Nat) : Int)] 3 (0, 0)) by rw [hWR]; exact box_at u6.w _)
      have SER := Lib.hid (SE6.out.kept t6R (by simp))
      have HTR := Lib.hid (HT6.out.kept t6R (by simp))
      have SQR := Lib.hid (SQ6.out.kept t6R (by simp) (by simp))
      have TR := Lib.hid (T6.out.trans t6R (by simp))
      have B12lt : B ≤ u6.w.heap.size := Nat.le_trans h45 h56
      have hR12 : u6.w.heap.size < WR.heap.size := (Array.getElem?_eq_some_iff.1 X12.out).1
      rw [← hWR]
      clear hWR t6R SE6 HT6 SQ6 h45 h56 SE5 HT5 SQ T5
      generalize u6.w.heap.size = B12 at *
      have Z4R := Lib.hid (touch_box TR.out Z42.out (by simp))
      have hresne : w.heap.size + 1 ≠ B12 := by
        intro e; have := Z4R.out; rw [e, X12.out] at this; cases this
      obtain ⟨f, hf⟩ : ∃ f : Ent → Bool, f = fun e => decide (ins e.1 q) := ⟨_, rfl⟩
      have HF := Lib.hid hf
      have hLf : insideL t q.a q.n = L.filter f := by rw [insideL_filter hT.out.ok HQ.out, HLE.out, hf]
      have HLF := Lib.hid hLf
      have hk48 : 48 * L.length ≤ 140737488355328 := by omega
      clear hf hLf
      have hL200 : L.length ≤ 200 := by omega
      go_wp2_with fail
      refine wp_range2 57 58 13 14 (by rfl) HTR.out hk48 hqa SQR.out HLF.out (InI WR B12 f L) (fun c pre _ => c = .ret ∧ ¬ pre <+: L.filter f) InI.own (fun c _ _ _ _ h _ _ => h)
        ⟨⟨0, X12.out, Nat.zero_le _, by simp⟩, Touch.refl _ _⟩ ?assign ?body (fun pre W o h => ⟨by obtain ⟨kk, h1, h2⟩ := h.k; exact ⟨kk, box_keep _ h1, h2⟩, h.touch.alloc _⟩) (fun pre W h => h.touch.size) ?done ?stop
      case assign =>
        intro l pre x W K hI hK
        simp only [encE]
        gi_wp2
        exact hK
      case body =>
        intro l pre x Bx W' hl hr hI hBx hx hlen
        simp only [frameB, List.setIfInBounds_toArray, List.set_cons_succ, List.set_cons_zero]
        have NN : Hid (∀ s ∈ [B12], B ≤ s) := Lib.hid (by simp; exact B12lt)
        obtain ⟨⟨kk, hkc, hkl, hpre⟩, tI⟩ := hI
        have TI := Lib.hid tI
        have PRE := Lib.hid hpre
        have KC := Lib.hid hkc
        have HX := Lib.hid hx
        have HBX := Lib.hid hBx
        clear hkc tI hpre hx hBx hl hr
        have R4W := Lib.hid (touch_box TI.out Z4R.out (by simpa using hresne))
        have hBx12 : Bx ≠ B12 := by have := HBX.out; omega
        gi_wp2
        gi_loopg [] (L.length) (fun kq wr => ∃ kk : Nat, kk ≤ L.length ∧ L.length - kk ≤ kq ∧ Hid (wr.heap[B12]? = some (.cells #[.int .i64 kk] 3 (0, 0))) ∧ Hid (pre = (L.take kk).filter f) ∧ Hid (Touch [B12] W' wr))
        case atStart => exact ⟨kk, hkl, by omega, KC, PRE, Lib.hid (Touch.refl _ _)⟩
        case round =>
          obtain ⟨kk, hkl, hkq, hKC, hPre, hTw⟩ := hrel
          have SW := Lib.hid ((SER.out.kept TI.out NN.out).kept hTw.out NN.out)
          obtain ⟨p12, g12⟩ := one_cells hKC.out
          obtain ⟨q9, _⟩ := one_cells SW.out.b9
          obtain ⟨qq0, qq1, _⟩ := two_cells SW.out.q
          by_cases hk : kk < L.length
          · have b1 : (kk : Int) < (L.length : Int) := by omega
            obtain ⟨⟨ep, ev⟩, he⟩ : ∃ e, L[kk]? = some e := ⟨_, List.getElem?_eq_getElem hk⟩
            obtain ⟨g4, g5, hA4, hA5, m0, m1, m2⟩ := SW.out.cells he
            dsimp only at m0 m1 m2
            have hepa : ep.a < 4294967296 := by have := ents_ok hT.out.ok (ep, ev) (by rw [← HLE.out]; exact List.mem_of_getElem? he); exact this.2.1
            have HE := Lib.hid he
            have P12 := Lib.hid p12
            have G12 := Lib.hid g12
            have M0 := Lib.hid m0
            have M1 := Lib.hid m1
            have M2 := Lib.hid m2
            have n12 := fun u : Near wr => u.cell p12
            have nm0 := fun u : Near wr => u.cell m0
            have nm1 := fun u : Near wr => u.cell m1
            have nq0 := fun u : Near wr => u.cell qq0
            have nq1 := fun u : Near wr => u.cell qq1
            have n9 := fun u : Near wr => u.cell q9
            clear he m0 m1 m2 qq0 qq1
            subst hA4
            subst hA5
            by_cases hn : ep.n < q.n
            · have b2 : (ep.n : Int) < (q.n : Int) := by omega
              have b3 : decide ((ep.n : Int) < (q.n : Int)) = true := by rw [decide_eq_true_eq]; omega
              have FE : Hid (f (ep, ev) = false) := Lib.hid (by rw [HF.out]; simp only [decide_eq_false_iff_not]; exact fun h => by have := h.1; omega)
              clear hn
              gi_wp2
              refine wpIn_round_near (by kernel_rfl) (by kernel_rfl) (by kernel_rfl) ?_
              repeat (go_big_quiet_step (fail))
              refine wpQuiet_nil ?_
              rintro _ ⟨u2, rfl⟩
              clear n12 n9 nm0 nm1 nq0 nq1
              have p12b := u2.cell P12.out
              have g12b := frozen_touch u2.near P12.out G12.out (by simp)
              gi_wp2
              gi_roundg (gk - 1)
              case rel => exact ⟨kk + 1, by omega, by omega, Lib.hid (by have := box_set (o := 0) (touch_box u2.near hKC.out (by simp)) (.int .i64 ((kk : Int) + 1)); simpa using this), Lib.hid (by rw [filter_next _ HE.out, ← hPre.out, if_neg (by rw [FE.out]; simp), List.append_nil]), Lib.hid ((hTw.out.trans u2.near (by simp)).setCell _ _ (.inl (by simp)))⟩
              case measure => omega
            · have b2 : decide ((ep.n : Int) < (q.n : Int)) = false := by rw [decide_eq_false_iff_not]; omega
              have b3 : decide (ep.n < q.n) = false := by rw [decide_eq_false_iff_not]; exact hn
              by_cases hm : maskOf ep.a q.n = q.a
              · have HC := Lib.hid (fun u : Near wr => contains_near u q ep.a HQ.out hepa true (by simp [hm]))
                have FE : Hid (f (ep, ev) = true) := Lib.hid (by rw [HF.out]; simp only [decide_eq_true_eq]; exact ⟨by omega, (mask_ins HQ.out).1 hm⟩)
                have hpn : Hid (pre ++ [(ep, ev)] = (L.take (kk + 1)).filter f) := Lib.hid (by rw [filter_next _ HE.out, ← hPre.out, if_pos FE.out])
                have hget : Hid ((L.filter f)[pre.length]? = some (ep, ev)) := Lib.hid (get_of_pre (by rw [hpn.out]; exact filter_take_pre f L _))
                have hpf : Hid (pre <+: L.filter f) := Lib.hid (by rw [hPre.out]; exact filter_take_pre f L _)
                clear hm hn
                gi_wp2
                refine wpIn_round_near (by kernel_rfl) (by kernel_rfl) (by kernel_rfl) ?_
                repeat (go_big_quiet_step ((go_at_call 18; exact HC.out _)))
                refine wpQuiet_nil ?_
                rintro _ ⟨u2, rfl⟩
                clear n12 n9 nm0 nm1 nq0 nq1 HC
                have TU := Lib.hid (hTw.out.trans u2.near (by simp))
                have SU := Lib.hid (SW.out.kept u2.near (by simp))
                have R4c := Lib.hid (cell_touch (hTw.out.trans u2.near (by simp)) (one_cells R4W.out).1 (by simpa using hresne))
                have E4c := Lib.hid (frozen_touch (hTw.out.trans u2.near (by simp)) (one_cells R4W.out).1 (one_cells R4W.out).2 (by simpa using hresne))
                have KU := Lib.hid (touch_box u2.near hKC.out (by simp))
                obtain ⟨p12, g12⟩ := one_cells KU.out
                obtain ⟨q9, _⟩ := one_cells SU.out.b9
                obtain ⟨q10, _⟩ := one_cells SU.out.b10
                obtain ⟨z0, z1, _⟩ := two_cells (touch_box TU.out HX.out (by simpa using hBx12))
                have P12 := Lib.hid p12
                have G12 := Lib.hid g12
                have n12 := fun u : Near u2.w => u.cell p12
                have nm0 := fun u : Near u2.w => u.cell (u2.cell M0.out)
                have nm1 := fun u : Near u2.w => u.cell (u2.cell M1.out)
                have nv := fun u : Near u2.w => u.cell (u2.cell M2.out)
                have nz0 := fun u : Near u2.w => u.cell z0
                have nz1 := fun u : Near u2.w => u.cell z1
                have n9 := fun u : Near u2.w => u.cell q9
                have n10 := fun u : Near u2.w => u.cell q10
                have hge : decide ((L.length : Int) ≤ (kk : Int)) = false := by rw [decide_eq_false_iff_not]; omega
                have hge2 : decide (L.length ≤ kk) = false := by rw [decide_eq_false_iff_not]; omega
                clear z0 z1
                by_cases hp : ep = x.1
                · have hneq := fun w => px_neq ep.a ep.n x.1.a x.1.n true (px_beq hp) w
                  by_cases hv : ev = x.2
                  · have hv1 : (ev == x.2) = true := by rw [beq_iff_eq]; exact hv
                    have hv2 : (ev != x.2) = false := by rw [bne, hv1]; rfl
                    have hxe : Hid (x = (ep, ev)) := Lib.hid (by rw [hp, hv])
                    clear hp hv
                    gi_wp2
                    refine wpIn_round_near (by kernel_rfl) (by kernel_rfl) (by kernel_rfl) ?_
                    repeat (go_big_quiet_step (fail))
                    refine wpQuiet_nil ?_
                    rintro _ ⟨u3, rfl⟩
                    have p12b := u3.cell P12.out
                    have g12b := frozen_touch u3.near P12.out G12.out (by simp)
                    clear n12 n9 nm0 nm1 nz0 nz1 n10 nv hneq
                    gi_wp2
                    have tX : Touch [B12] W' (u3.w.setCell ⟨B12, 0, none⟩ (.int .i64 ((kk : Int) + 1))) := (TU.out.trans u3.near (by simp)).setCell _ _ (.inl (by simp))
                    refine ⟨keepsFrom_touch tX (fun y hy => ?_), KeepT.touch tX (fun y hy c f hc => ?_), ⟨⟨kk + 1, ?_, by omega, ?_⟩, TI.out.trans tX (fun y hy => .inl hy)⟩⟩
                    · simp at hy; subst hy; exact ⟨_, _, _, KC.out⟩
                    · simp at hy; subst hy; rw [KC.out] at hc; cases hc
                    · have := box_set (o := 0) (touch_box u3.near KU.out (by simp)) (.int .i64 ((kk : Int) + 1))
                      simpa using this
                    · rw [hxe.out]; exact hpn.out
                  · have hv1 : (ev == x.2) = false := by rw [beq_eq_false_iff_ne]; exact hv
                    have hv2 : (ev != x.2) = true := by rw [bne, hv1]; rfl
                    have HN : Hid (¬ pre ++ [x] <+: L.filter f) := Lib.hid (fun h => hv (by rw [(pre_next (x := x) hpf.out hget.out).1 h]))
                    clear hp hv
                    gi_wp2
                    refine wpIn_round_near (by kernel_rfl) (by kernel_rfl) (by kernel_rfl) ?_
                    repeat (go_big_quiet_step (fail))
                    refine wpQuiet_nil ?_
                    rintro _ ⟨u3, rfl⟩
                    have r4b := u3.cell R4c.out
                    have e4b := frozen_touch u3.near R4c.out E4c.out (by simp)
                    clear n12 n9 nm0 nm1 nz0 nz1 n10 nv hneq
                    gi_wp2
                    have tX : Touch [B12, w.heap.size + 1] W' (u3.w.setCell ⟨w.heap.size + 1, 0, none⟩ (.bool false)) := ((TU.out.trans u3.near (by simp)).mono (fun y hy => .inl (by simp at hy; simp [hy]))).setCell _ _ (.inl (by simp))
                    exact ⟨keepsFrom_touch tX (fun y hy => by simp at hy; rcases hy with rfl | rfl; exact ⟨_, _, _, KC.out⟩; exact ⟨_, _, _, R4W.out⟩), rfl, HN.out⟩
                · have hneq := fun w => px_neq ep.a ep.n x.1.a x.1.n false (px_bne hp) w
                  have HN : Hid (¬ pre ++ [x] <+: L.filter f) := Lib.hid (fun h => hp (by rw [(pre_next (x := x) hpf.out hget.out).1 h]))
                  clear hp
                  gi_wp2
                  refine wpIn_round_near (by kernel_rfl) (by kernel_rfl) (by kernel_rfl) ?_
                  repeat (go_big_quiet_step (fail))
                  refine wpQuiet_nil ?_
                  rintro _ ⟨u3, rfl⟩
                  have r4b := u3.cell R4c.out
                  have e4b := frozen_touch u3.near R4c.out E4c.out (by simp)
                  clear n12 n9 nm0 nm1 nz0 nz1 n10 nv hneq
                  gi_wp2
                  have tX : Touch [B12, w.heap.size + 1] W' (u3.w.setCell ⟨w.heap.size + 1, 0, none⟩ (.bool false)) := ((TU.out.trans u3.near (by simp)).mono (fun y hy => .inl (by simp at hy; simp [hy]))).setCell _ _ (.inl (by simp))
                  exact ⟨keepsFrom_touch tX (fun y hy => by simp at hy; rcases hy with rfl | rfl; exact ⟨_, _, _, KC.out⟩; exact ⟨_, _, _, R4W.out⟩), rfl, HN.out⟩
              · have HC := Lib.hid (fun u : Near wr => contains_near u q ep.a HQ.out hepa false (by simp [hm]))
                have FE : Hid (f (ep, ev) = false) := Lib.hid (by rw [HF.out]; simp only [decide_eq_false_iff_not]; exact fun h => hm ((mask_ins HQ.out).2 h.2))
                clear hm hn
                gi_wp2
                refine wpIn_round_near (by kernel_rfl) (by kernel_rfl) (by kernel_rfl) ?_
                repeat (go_big_quiet_step ((go_at_call 18; exact HC.out _)))
                refine wpQuiet_nil ?_
                rintro _ ⟨u2, rfl⟩
                clear HC
                clear n12 n9 nm0 nm1 nq0 nq1
                have p12b := u2.cell P12.out
                have g12b := frozen_touch u2.near P12.out G12.out (by simp)
                gi_wp2
                gi_roundg (gk - 1)
                case rel => exact ⟨kk + 1, by omega, by omega, Lib.hid (by have := box_set (o := 0) (touch_box u2.near hKC.out (by simp)) (.int .i64 ((kk : Int) + 1)); simpa using this), Lib.hid (by rw [filter_next _ HE.out, ← hPre.out, if_neg (by rw [FE.out]; simp), List.append_nil]), Lib.hid ((hTw.out.trans u2.near (by simp)).setCell _ _ (.inl (by simp)))⟩
                case measure => omega
          · exfalso
            have hkL : kk = L.length := by omega
            have h1 := hPre.out
            rw [hkL, List.take_length] at h1
            rw [h1] at hlen
            omega
      case done =>
        intro D W hD hI hK
        obtain ⟨⟨kk, hkc, hkl, hpre⟩, tI⟩ := hI
        have hrest : Hid (∀ (j : Nat) (e : Ent), kk ≤ j → L[j]? = some e → f e = false) := Lib.hid (fun j e hj he => by
          have h1 : (L.drop kk).filter f = [] := by
            have h2 := hpre
            conv at h2 => lhs; rw [← List.take_append_drop kk L, List.filter_append]
            simpa using h2
          rw [List.filter_eq_nil_iff] at h1
          have := h1 e (List.mem_of_getElem? (i := j - kk) (by rw [List.getElem?_drop, show kk + (j - kk) = j by omega]; exact he))
          simpa using this)
        have TI := Lib.hid tI
        have KC := Lib.hid hkc
        have NN : Hid (∀ s ∈ [B12], B ≤ s) := Lib.hid (by simp; exact B12lt)
        have hDne : D ≠ B12 := by omega
        have HK := Lib.hid hK
        clear hkc tI hpre hK
        unfold mark
        go_wp2
        go_loopg [] (L.length) (fun kq wr => ∃ kk : Nat, kk ≤ L.length ∧ L.length - kk ≤ kq ∧ Hid (wr.heap[B12]? = some (.cells #[.int .i64 kk] 3 (0, 0))) ∧ Hid (∀ (j : Nat) (e : Ent), kk ≤ j → L[j]? = some e → f e = false) ∧ Hid (Touch [B12] W wr))
        case atStart => exact ⟨kk, hkl, by omega, KC, hrest, Lib.hid (Touch.refl _ _)⟩
        case round =>
          clear hrest KC
          obtain ⟨kk, hkl, hkq, hKC, hRest, hTw⟩ := hrel
          have SW := Lib.hid ((SER.out.kept TI.out NN.out).kept hTw.out NN.out)
          obtain ⟨p12, g12⟩ := one_cells hKC.out
          obtain ⟨q9, _⟩ := one_cells SW.out.b9
          obtain ⟨qq0, qq1, _⟩ := two_cells SW.out.q
          by_cases hk : kk < L.length
          · have b1 : (kk : Int) < (L.length : Int) := by omega
            obtain ⟨⟨ep, ev⟩, he⟩ : ∃ e, L[kk]? = some e := ⟨_, List.getElem?_eq_getElem hk⟩
            obtain ⟨g4, g5, hA4, hA5, m0, m1, m2⟩ := SW.out.cells he
            dsimp only at m0 m1 m2
            have hepa : ep.a < 4294967296 := by have := ents_ok hT.out.ok (ep, ev) (by rw [← HLE.out]; exact List.mem_of_getElem? he); exact this.2.1
            have hfe := hRest.out kk _ (Nat.le_refl _) he
            rw [HF.out] at hfe
            simp only [decide_eq_false_iff_not] at hfe
            have P12 := Lib.hid p12
            have G12 := Lib.hid g12
            have n12 := fun u : Near wr => u.cell p12
            have nm0 := fun u : Near wr => u.cell m0
            have nm1 := fun u : Near wr => u.cell m1
            have nq0 := fun u : Near wr => u.cell qq0
            have nq1 := fun u : Near wr => u.cell qq1
            have n9 := fun u : Near wr => u.cell q9
            clear he m0 m1 m2 qq0 qq1
            subst hA4
            subst hA5
            by_cases hn : ep.n < q.n
            · have b2 : decide ((q.n : Int) ≤ (ep.n : Int)) = false := by rw [decide_eq_false_iff_not]; omega
              have b3 : decide (q.n ≤ ep.n) = false := by rw [decide_eq_false_iff_not]; omega
              clear hn hfe
              go_wp2
              refine wp_region_near (by kernel_rfl) (by kernel_rfl) ?_
              repeat (go_big_quiet_step (fail))
              refine wpQuiet_nil ?_
              rintro _ ⟨u2, rfl⟩
              clear n12 n9 nm0 nm1 nq0 nq1
              have p12b := u2.cell P12.out
              have g12b := frozen_touch u2.near P12.out G12.out (by simp)
              go_wp2
              go_roundg (gk - 1)
              case rel => exact ⟨kk + 1, by omega, by omega, Lib.hid (by have := box_set (o := 0) (touch_box u2.near hKC.out (by simp)) (.int .i64 ((kk : Int) + 1)); simpa using this), Lib.hid (fun j e hj he => hRest.out j e (by omega) he), Lib.hid ((hTw.out.trans u2.near (by simp)).setCell _ _ (.inl (by simp)))⟩
              case measure => omega
            · have b2 : (q.n : Int) ≤ (ep.n : Int) := by omega
              have HC := Lib.hid (fun u : Near wr => contains_near u q ep.a HQ.out hepa false (by rw [eq_comm, decide_eq_false_iff_not]; exact fun hm => hfe ⟨by omega, (mask_ins HQ.out).1 hm⟩))
              clear hn hfe
              go_wp2
              refine wp_region_near (by kernel_rfl) (by kernel_rfl) ?_
              repeat (go_big_quiet_step ((go_at_call 18; exact HC.out _)))
              refine wpQuiet_nil ?_
              rintro _ ⟨u2, rfl⟩
              clear HC
              clear n12 n9 nm0 nm1 nq0 nq1
              have p12b := u2.cell P12.out
              have g12b := frozen_touch u2.near P12.out G12.out (by simp)
              go_wp2
              go_roundg (gk - 1)
              case rel => exact ⟨kk + 1, by omega, by omega, Lib.hid (by have := box_set (o := 0) (touch_box u2.near hKC.out (by simp)) (.int .i64 ((kk : Int) + 1)); simpa using this), Lib.hid (fun j e hj he => hRest.out j e (by omega) he), Lib.hid ((hTw.out.trans u2.near (by simp)).setCell _ _ (.inl (by simp)))⟩
              case measure => omega
          · have b1 : ¬ (kk : Int) < (L.length : Int) := by omega
            have TW := Lib.hid (TI.out.trans hTw.out (fun x hx => .inl hx))
            have HK2 := Lib.hid (touch_box hTw.out HK.out (by simp; exact hDne))
            obtain ⟨W7, hW7⟩ : ∃ W7 : World, W7 = wr := ⟨_, rfl⟩
            rw [← hW7] at SW TW HK2 p12 q9 ⊢
            clear hW7 hRest hKC hTw qq0 qq1 hkq
            go_wp2
            clear p12 g12 q9
            go_loopw [15] (fun v15 wr => ∃ i : Nat, v15 = .int .i64 i ∧ i ≤ L0.length ∧ Hid (Touch [] W7 wr)) (fun v15 _ => L0.length - (intOf v15).toNat)
            case atStart => exact ⟨0, rfl, Nat.zero_le _, Lib.hid (Touch.refl _ _)⟩
            case round =>
              obtain ⟨i, rfl, hi, hTi⟩ := hrel
              have S8 := Lib.hid (SW.out.kept hTi.out (by simp))
              obtain ⟨q9, _⟩ := one_cells S8.out.b9
              by_cases hil : i < L0.length
              · have b2 : (i : Int) < (L0.length : Int) := by omega
                obtain ⟨b, off, hA, hb, hc⟩ := S8.out.rx.at_ (by omega)
                obtain ⟨p, hx⟩ : ∃ x, L0[i]? = some x := ⟨_, List.getElem?_eq_getElem hil⟩
                obtain ⟨m0, m1⟩ := hc i _ hx
                obtain ⟨j, hj, hjl⟩ := last_ex L0 p (List.mem_of_getElem? hx)
                have hpm : p ∈ L.map (·.1) := by
                  have := (PI.out p (0 + (j : Int))).2 ⟨j, hj, rfl, hjl⟩
                  rw [← HLE.out] at this
                  exact List.mem_map.2 ⟨_, this, rfl⟩
                obtain ⟨r, hr⟩ := last_some (L.map (·.1)) p
                have hr0 : 0 ≤ r := by
                  rcases hr with ⟨_, h⟩ | ⟨j2, h, _⟩
                  · exact absurd hpm h
                  · omega
                have LR := Lib.hid hr
                have RA := Lib.hid (S8.out.r4.rdx (by simp))
                have HC := Lib.hid (fun u : Near wr => last_near (cap := c4) u RA.out LR.out (by omega))
                have hr1 : decide (r < 0) = false := by rw [decide_eq_false_iff_not]; omega
                have n9 := fun u : Near wr => u.cell q9
                have nm0 := fun u : Near wr => u.cell m0
                have nm1 := fun u : Near wr => u.cell m1
                have HA := Lib.hid hA
                clear hx hj hjl hpm hr hc m0 m1 hA
                obtain rfl := HA.out
                go_wp2
                refine wp_region_near (by kernel_rfl) (by kernel_rfl) ?_
                repeat (go_big_quiet_step ((go_at_call 20; exact HC.out _)))
                refine wpQuiet_nil ?_
                rintro _ ⟨u2, rfl⟩
                clear n9 nm0 nm1 HC
                go_wp2
                go_roundw
                case rel => exact ⟨i + 1, by go_num, by omega, Lib.hid (hTi.out.trans u2.near (by simp))⟩
                case measure => simp [intOf]; omega
              · have b2 : ¬ (i : Int) < (L0.length : Int) := by omega
                have r4 := touch_box hTi.out (touch_box TW.out Z4R.out (by simpa using hresne)) (by simp)
                obtain ⟨p4, g4⟩ := one_cells r4
                have HK3 := Lib.hid (touch_box hTi.out HK2.out (by simp))
                have t9 : Touch [w.heap.size + 1] wr (wr.setCell ⟨w.heap.size + 1, 0, none⟩ (.bool true)) := (Touch.refl _ wr).setCell _ _ (.inl (by simp))
                have hDres : D ≠ w.heap.size + 1 := by intro e; have := HK3.out; rw [e, r4] at this; cases this
                clear q9
                go_wp2
                refine leaves_marks [D] _ (by simp) (fun E hE => ?_) (fun W' t' => ?_)
                · simp at hE; subst hE; exact touch_box t9 HK3.out (by simp; exact hDres)
                have b4 : (wr.setCell ⟨w.heap.size + 1, 0, none⟩ (.bool true)).heap[w.heap.size + 1]? = some (.cells #[.bool true] 4 (0, 0)) := by simpa using box_set (o := 0) r4 (.bool true)
                obtain ⟨r6, _⟩ := one_cells (touch_box t' b4 (by simp; exact fun e => hDres e.symm))
                have hVR := TR.out.size
                have h2R := T2.out.size
                have hbb := HBB.out
                refine ⟨.bool true, ?_, rfl, ((((T2.out.trans TR.out (by simp)).trans TW.out (fun x hx => .inr (by simp at hx; omega))).trans hTi.out (by simp)).trans t9 (fun x hx => .inr (by simp at hx; omega))).trans t' (fun x hx => .inr (by simp at hx; omega))⟩
                simp [results, Try.f5, go_sem, r6]
      case stop =>
        rintro D c pre W hD hpre ⟨rfl, hn⟩ hK
        exact absurd hpre hn
end Go.Proofs.Ytmklkdhpbehfeaa.Tri
