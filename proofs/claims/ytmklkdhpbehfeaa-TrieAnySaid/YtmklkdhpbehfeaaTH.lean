/- The walk of TrieAny; no condition. -/
import Derived.Test.YtmklkdhpbehfeaaTAnyC
import Derived.WalkLawsBesides
namespace Go.Proofs.Ytmklkdhpbehfeaa.Tri
open Go.RowKit Go.Maps
set_option linter.unusedVariables false

/-- A list of texts that came in. -/
structure RdS (w : World) (A : Option Addr) (n : Nat) (l : List ByteArray) : Prop where
  len : l.length = n
  at_ : 0 < n → ∃ b off, A = some ⟨b, off, none⟩ ∧ b < w.heap.size ∧ ∀ (i : Nat) (x : ByteArray), l[i]? = some x → w.cell? ⟨b, off + i, none⟩ = some (.string x)
theorem RdS.kept {w w' : World} {A : Option Addr} {n : Nat} {l : List ByteArray} (h : RdS w A n l) (t : Touch [] w w') : RdS w' A n l := by
  refine ⟨h.len, fun h0 => ?_⟩
  obtain ⟨b, off, hA, hb, hc⟩ := h.at_ h0
  exact ⟨b, off, hA, Nat.lt_of_lt_of_le hb t.size, fun i p hp => cell_touch t (hc i p hp) (by simp)⟩
/-- The blocks X hold cells of these types alone. -/
def Of (w : World) (lo : Nat) (X : List Nat) (Ts : List TypeId) : Prop := ∀ k ∈ X, lo ≤ k ∧ ∃ c T f, w.heap[k]? = some (.cells c T f) ∧ T ∈ Ts
theorem Of.not {w : World} {lo : Nat} {X : List Nat} {Ts : List TypeId} (h : Of w lo X Ts) {a : Nat} {c : Array Value} {T : TypeId} {f : Nat × Nat} (ha : w.heap[a]? = some (.cells c T f)) (hT : T ∉ Ts) : a ∉ X := by
  intro hx
  obtain ⟨_, c', T', f', h1, h2⟩ := h a hx
  rw [h1] at ha
  simp only [Option.some.injEq, Obj.cells.injEq] at ha
  exact hT (ha.2.1 ▸ h2)
theorem Of.low {w : World} {lo : Nat} {X : List Nat} {Ts : List TypeId} (h : Of w lo X Ts) {w0 w' : World} (h0 : Touch [] w0 w) (hlo : w0.heap.size ≤ lo) (t : Touch X w w') : Touch [] w0 w' :=
  h0.trans t (fun k hk => .inr (Nat.le_trans hlo (h k hk).1))
def StS (w : World) (lo ts : Nat) (q : Px) : Prop := lo ≤ ts ∧ (Emps w ts ∨ ∃ v b, Sgls w ts q v b ∧ lo ≤ b)
def StP (w : World) (lo tp : Nat) (q : Px) : Prop := lo ≤ tp ∧ (Empp w tp ∨ ∃ x A n c b, Sglp w tp q x A n c b ∧ lo ≤ b)
theorem Sgls.typed {w w' : World} {ts b lo : Nat} {q : Px} {v : ByteArray} (h : Sgls w ts q v b) {X : List Nat} {Ts : List TypeId} (t : Touch X w w') (ho : Of w lo X Ts) (h1 : 99 ∉ Ts) (h2 : 106 ∉ Ts) : Sgls w' ts q v b :=
  h.kept t (ho.not h.root h1) (ho.not h.node h2)
theorem Sglp.typed {w w' : World} {tp b lo : Nat} {q : Px} {x : Int} {A : Option Addr} {n c : Nat} (h : Sglp w tp q x A n c b) {X : List Nat} {Ts : List TypeId} (t : Touch X w w') (ho : Of w lo X Ts) (h1 : 102 ∉ Ts) (h2 : 114 ∉ Ts) : Sglp w' tp q x A n c b :=
  h.kept t (ho.not h.root h1) (ho.not h.node h2)
theorem StS.typed {w w' : World} {lo lo' ts : Nat} {q : Px} (h : StS w lo ts q) {X : List Nat} {Ts : List TypeId} (t : Touch X w w') (ho : Of w lo' X Ts) (h1 : 99 ∉ Ts) (h2 : 106 ∉ Ts) : StS w' lo ts q := by
  refine ⟨h.1, ?_⟩
  rcases h.2 with h3 | ⟨v, b, h3, h4⟩
  · exact .inl (touch_box t h3 (ho.not h3 h1))
  · exact .inr ⟨v, b, h3.typed t ho h1 h2, h4⟩
theorem StP.typed {w w' : World} {lo lo' tp : Nat} {q : Px} (h : StP w lo tp q) {X : List Nat} {Ts : List TypeId} (t : Touch X w w') (ho : Of w lo' X Ts) (h1 : 102 ∉ Ts) (h2 : 114 ∉ Ts) : StP w' lo tp q := by
  refine ⟨h.1, ?_⟩
  rcases h.2 with h3 | ⟨x, A, n, c, b, h3, h4⟩
  · exact .inl (touch_box t h3 (ho.not h3 h1))
  · exact .inr ⟨x, A, n, c, b, h3.typed t ho h1 h2, h4⟩
theorem Of.nil (w : World) (lo : Nat) : Of w lo [] [] := by intro k hk; simp at hk
def PutS (w : World) (lo ts : Nat) (q : Px) (v : ByteArray) (e : Ending) (w' : World) : Prop :=
  e = .returned (.int .i64 0) ∧ ∃ X b, Touch X w w' ∧ Of w lo X [99, 106] ∧ Sgls w' ts q v b ∧ lo ≤ b
theorem puts_any {w : World} {lo ts : Nat} {q : Px} (h : StS w lo ts q) (hlo : lo ≤ w.heap.size) (v : ByteArray) (hq : q.ok) :
    Calls Try.prog 32 #[.pointer (some ⟨ts, 0, none⟩), .agg #[.int .u32 q.a, .int .i64 q.n], .string v] w (PutS w lo ts q v) := by
  rcases h.2 with h1 | ⟨u, b, h1, h2⟩
  · refine (puts_empty h1 q v hq).mono fun e w' ⟨he, ht, b, hb, hs⟩ => ⟨he, [ts], b, ht, ?_, hs, by omega⟩
    intro k hk
    simp at hk; subst hk
    exact ⟨h.1, _, _, _, h1, by simp⟩
  · refine (puts_sgl h1 v hq).mono fun e w' ⟨he, ht, hs⟩ => ⟨he, [ts, b], b, ht, ?_, hs, h2⟩
    intro k hk
    simp at hk
    rcases hk with rfl | rfl
    · exact ⟨h.1, _, _, _, h1.root, by simp⟩
    · exact ⟨h2, _, _, _, h1.node, by simp⟩
def PutP (w : World) (lo tp : Nat) (q : Px) (x : Int) (A : Option Addr) (n c : Nat) (e : Ending) (w' : World) : Prop :=
  e = .returned (.int .i64 0) ∧ ∃ X b, Touch X w w' ∧ Of w lo X [102, 114] ∧ Sglp w' tp q x A n c b ∧ lo ≤ b
theorem putp_any {w : World} {lo tp : Nat} {q : Px} (h : StP w lo tp q) (hlo : lo ≤ w.heap.size) (x : Int) (A : Option Addr) (n c : Nat) (hq : q.ok) :
    Calls Try.prog 33 #[.pointer (some ⟨tp, 0, none⟩), .agg #[.int .u32 q.a, .int .i64 q.n], .agg #[.int .i64 x, .slice A n c]] w (PutP w lo tp q x A n c) := by
  rcases h.2 with h1 | ⟨y, B, m, d, b, h1, h2⟩
  · refine (putp_empty h1 q x A n c hq).mono fun e w' ⟨he, ht, b, hb, hs⟩ => ⟨he, [tp], b, ht, ?_, hs, by omega⟩
    intro k hk
    simp at hk; subst hk
    exact ⟨h.1, _, _, _, h1, by simp⟩
  · refine (putp_sgl h1 x A n c hq).mono fun e w' ⟨he, ht, hs⟩ => ⟨he, [tp, b], b, ht, ?_, hs, h2⟩
    intro k hk
    simp at hk
    rcases hk with rfl | rfl
    · exact ⟨h.1, _, _, _, h1.root, by simp⟩
    · exact ⟨h2, _, _, _, h1.node, by simp⟩
set_option maxHeartbeats 8000000 in
set_option maxRecDepth 100000 in
theorem any_calls {w : World} (a : Nat) (m : Int) {A : Option Addr} {n cap : Nat} {l : List ByteArray} (ha : a < 4294967296) (hm1 : -9223372036854775808 ≤ m) (hm2 : m ≤ 9223372036854775807) (h : RdS w A n l) (hn : n ≤ 140737488355328) :
    Calls Try.prog 6 #[.agg #[.int .u32 a, .int .i64 m], .slice A n cap] w fun e w' => e = .returned (.bool true) ∧ Touch [] w w' := by
  have H := Lib.hid h
  clear h
  obtain ⟨q, hq⟩ : ∃ q, q = pxOf a m := ⟨_, rfl⟩
  have HQ : Hid q.ok := Lib.hid (by rw [hq]; exact pxOf_ok ha)
  have HE := Lib.hid hq
  have hqa := HQ.out.2.1
  clear hq
  go_enter Try.func6, Try.ntmps6
  go_wp2_with fail
  refine (prefix_calls a m _ ha hm1 hm2).mono ?_
  rw [← HE.out]
  rintro e w1 ⟨rfl, t1⟩
  have T1 := Lib.hid (((Touch.refl [] w).alloc (.cells #[.int .u32 a, .int .i64 m] 32)).trans t1 (by simp))
  clear t1
  go_wp2_with fail
  obtain ⟨W2, hW2⟩ : ∃ W2 : World, W2 = w1.alloc (.cells #[.int .u32 q.a, .int .i64 q.n] 32) := ⟨_, rfl⟩
  rw [← hW2]
  have T2 := Lib.hid (show Touch [] w W2 by rw [hW2]; exact T1.out.alloc _)
  have Q2 := Lib.hid (show W2.heap[w1.heap.size]? = some (.cells #[.int .u32 q.a, .int .i64 q.n] 32 (0, 0)) by rw [hW2]; exact box_at w1 _)
  obtain ⟨bq, hbq⟩ : ∃ bq, bq = w1.heap.size := ⟨_, rfl⟩
  rw [← hbq] at Q2 ⊢
  clear hW2 hbq T1
  refine (news_calls W2).mono ?_
  rintro e w3 ⟨rfl, hs3, t3⟩
  have S3 := Lib.hid hs3
  have T3 := Lib.hid t3
  clear hs3 t3
  go_wp2_with fail
  refine (newp_calls w3).mono ?_
  rintro e w4 ⟨rfl, hp4, t4⟩
  have S4 := Lib.hid (show Emps w4 W2.heap.size from touch_box t4 S3.out (by simp))
  have P4 := Lib.hid hp4
  have T4 := Lib.hid (T3.out.trans t4 (by simp))
  have HLO := Lib.hid T3.out.size
  clear hp4 t4 S3 T3
  obtain ⟨ts, hts⟩ : ∃ ts, ts = W2.heap.size := ⟨_, rfl⟩
  obtain ⟨tp, htp⟩ : ∃ tp, tp = w3.heap.size := ⟨_, rfl⟩
  rw [← hts] at S4 ⊢
  rw [← htp] at P4 ⊢
  have HTS : Hid (W2.heap.size ≤ ts ∧ W2.heap.size ≤ tp) := Lib.hid ⟨by omega, by have := HLO.out; omega⟩
  clear hts htp HLO
  have Q4 := Lib.hid (touch_box T4.out Q2.out (by simp))
  obtain ⟨d0, d1, _⟩ := two_cells Q4.out
  go_wp2_with fail
  refine (gets_empty S4.out q HQ.out).mono ?_
  rintro e w5 ⟨rfl, t5⟩
  have S5 := Lib.hid (show Emps w5 ts from touch_box t5 S4.out (by simp))
  have P5 := Lib.hid (show Empp w5 tp from touch_box t5 P4.out (by simp))
  have T5 := Lib.hid (T4.out.trans t5 (by simp))
  have Q5 := Lib.hid (touch_box t5 Q4.out (by simp))
  clear d0 d1 S4 P4 T4 Q4 t5
  obtain ⟨d0, d1, _⟩ := two_cells Q5.out
  go_wp2_with fail
  refine (delp_empty P5.out q HQ.out).mono ?_
  rintro e w6 ⟨rfl, t6⟩
  have S6 := Lib.hid (show Emps w6 ts from touch_box t6 S5.out (by simp))
  have P6 := Lib.hid (show Empp w6 tp from touch_box t6 P5.out (by simp))
  have T6 := Lib.hid (T5.out.trans t6 (by simp))
  clear d0 d1 S5 P5 T5 Q5 t6
  go_wp2
  obtain ⟨lo, hlo⟩ : ∃ lo, lo = W2.heap.size := ⟨_, rfl⟩
  have HLO : Hid (w.heap.size ≤ lo) := Lib.hid (by rw [hlo]; exact T2.out.size)
  have hz := touch_box T6.out Q2.out (by simp)
  have hs6 : StS w6 lo ts q := ⟨by rw [hlo]; exact HTS.out.1, .inl S6.out⟩
  have hp6 : StP w6 lo tp q := ⟨by rw [hlo]; exact HTS.out.2, .inl P6.out⟩
  have hl6 : lo ≤ w6.heap.size := by rw [hlo]; exact T6.out.size
  obtain ⟨W7, hW7⟩ : ∃ W7 : World, W7 = w6.alloc (.cells #[.int .i64 0, .slice none 0 0] 57) := ⟨_, rfl⟩
  rw [← hW7]
  have t7 : Touch [] w6 W7 := by rw [hW7]; exact (Touch.refl [] w6).alloc _
  have S7 := Lib.hid (hs6.typed t7 (Of.nil w6 0) (by simp) (by simp))
  have P7 := Lib.hid (hp6.typed t7 (Of.nil w6 0) (by simp) (by simp))
  have Q7 := Lib.hid (touch_box t7 hz (by simp))
  have T7 := Lib.hid ((T2.out.trans T6.out (by simp)).trans t7 (by simp))
  have L7 := Lib.hid (Nat.le_trans hl6 t7.size)
  clear hlo hz hs6 hp6 hl6 hW7 t7 S6 P6 T6 Q2 T2 HTS
  go_loopw [12] (fun v12 wr => ∃ i : Nat, v12 = .int .i64 i ∧ i ≤ n ∧ i ≤ 50 ∧ Hid (StS wr lo ts q) ∧ Hid (StP wr lo tp q) ∧ Hid (wr.heap[bq]? = some (.cells #[.int .u32 q.a, .int .i64 q.n] 32 (0, 0))) ∧ Hid (Touch [] w wr) ∧ Hid (lo ≤ wr.heap.size)) (fun v12 _ => n - (intOf v12).toNat)
  case atStart => exact ⟨0, rfl, Nat.zero_le _, Nat.zero_le _, S7, P7, Q7, T7, L7⟩
  case round =>
    clear S7 P7 Q7 T7 L7
    obtain ⟨i, rfl, hi, hi2, hS, hP, hQ, hT, hL⟩ := hrel
    obtain ⟨W8, hW8⟩ : ∃ W8 : World, W8 = wr := ⟨_, rfl⟩
    rw [← hW8] at hS hP hQ hT hL ⊢
    clear hW8
    by_cases hin : i < n ∧ i < 50
    · have b1 : (i : Int) < (n : Int) := by omega
      have b2 : (i : Int) < 50 := by omega
      have hin' := Lib.hid hin
      obtain ⟨b, off, hA, hb, hc⟩ := H.out.at_ (by omega)
      have HA := Lib.hid hA
      obtain ⟨v, hx⟩ : ∃ x, l[i]? = some x := ⟨_, List.getElem?_eq_getElem (by rw [H.out.len]; omega)⟩
      have m0 := hc i _ hx
      have M0 := Lib.hid m0
      clear hA hc hx m0 hin
      obtain rfl := HA.out
      go_wp2
      obtain ⟨W9, hW9⟩ : ∃ W9 : World, W9 = W8.alloc (.cells #[.int .i64 i] 3) := ⟨_, rfl⟩
      rw [← hW9]
      have t9 : Touch [] W8 W9 := by rw [hW9]; exact (Touch.refl [] W8).alloc _
      obtain ⟨lb, hlb⟩ : ∃ lb, lb = W8.heap.size := ⟨_, rfl⟩
      rw [← hlb]
      have X9 := Lib.hid (show W9.heap[lb]? = some (.cells #[.int .i64 i] 3 (0, 0)) by rw [hW9]; exact box_at' W8 _ lb hlb.symm)
      have HLB : Hid (w.heap.size ≤ lb) := Lib.hid (by rw [hlb]; exact hT.out.size)
      have S9 := Lib.hid (hS.out.typed t9 (Of.nil W8 0) (by simp) (by simp))
      have P9 := Lib.hid (hP.out.typed t9 (Of.nil W8 0) (by simp) (by simp))
      have Q9 := Lib.hid (touch_box t9 hQ.out (by simp))
      have T9 := Lib.hid (hT.out.trans t9 (by simp))
      have L9 := Lib.hid (Nat.le_trans hL.out t9.size)
      clear t9 hlb hW9 hS hP hQ hT hL
      obtain ⟨d0, d1, _⟩ := two_cells Q9.out
      have m9 := cell_touch T9.out M0.out (by simp)
      go_still_tail 6, (by kernel_rfl)
      change wpList _ _ _ _ _ (World.drew W9)
      go_wp2_with fail
      have td : Touch [] W9 W9.drew := (Touch.refl [] W9).drew
      refine (puts_any (S9.out.typed td (Of.nil W9 0) (by simp) (by simp)) L9.out v HQ.out).mono ?_
      rintro e w10 ⟨rfl, X, bs, t10, o10, s10, hb10⟩
      have P10 := Lib.hid ((P9.out.typed td (Of.nil W9 0) (by simp) (by simp)).typed t10 o10 (by decide) (by decide))
      have Q10 := Lib.hid (touch_box t10 (touch_box td Q9.out (by simp)) (o10.not (touch_box td Q9.out (by simp)) (by decide)))
      have X10 := Lib.hid (touch_box t10 (touch_box td X9.out (by simp)) (o10.not (touch_box td X9.out (by simp)) (by decide)))
      have T10 := Lib.hid (o10.low (T9.out.trans td (by simp)) HLO.out t10)
      have S10 := Lib.hid s10
      have B10 := Lib.hid hb10
      have L10 : Hid (lo ≤ w10.heap.size) := Lib.hid (Nat.le_trans L9.out t10.size)
      have TS := Lib.hid S9.out.1
      clear td t10 o10 s10 hb10 d0 d1 m9 S9 P9 Q9 X9 T9 L9
      obtain ⟨d0, d1, _⟩ := two_cells Q10.out
      go_wp2_with fail
      refine (putp_any P10.out L10.out (i : Int) (some ⟨lb, 0, none⟩) 1 1 HQ.out).mono ?_
      rintro e w11 ⟨rfl, X, bp, t11, o11, p11, hb11⟩
      have S11 := Lib.hid (S10.out.typed t11 o11 (by decide) (by decide))
      have Q11 := Lib.hid (touch_box t11 Q10.out (o11.not Q10.out (by decide)))
      have X11 := Lib.hid (touch_box t11 X10.out (o11.not X10.out (by decide)))
      have T11 := Lib.hid (o11.low T10.out HLO.out t11)
      have P11 := Lib.hid p11
      have B11 := Lib.hid hb11
      have L11 : Hid (lo ≤ w11.heap.size) := Lib.hid (Nat.le_trans L10.out t11.size)
      have TP := Lib.hid P10.out.1
      clear t11 o11 p11 hb11 d0 d1 S10 P10 Q10 X10 T10 L10
      have x0 : w11.cell? ⟨lb, 0, none⟩ = some (.int .i64 i) := by have := X11.out; simp [World.cell?, this]
      have x1 : w11.frozen? ⟨lb, 0, none⟩ = false := by have := X11.out; simp [World.frozen?, this]
      have t12 : Touch [lb] w11 (w11.setCell ⟨lb, 0, none⟩ (.int .i64 ((i : Int) + 100))) := (Touch.refl _ _).setCell _ _ (.inl (by simp))
      have o12 : Of w11 0 [lb] [3] := by intro k hk; simp at hk; subst hk; exact ⟨Nat.zero_le _, _, _, _, X11.out, by simp⟩
      have S12 := Lib.hid (S11.out.typed t12 o12 (by decide) (by decide))
      have P12 := Lib.hid (P11.out.typed t12 o12 (by decide) (by decide))
      have q12 := touch_box t12 Q11.out (o12.not Q11.out (by decide))
      have Q12 := Lib.hid q12
      have T12 := Lib.hid (T11.out.trans t12 (fun x hx => .inr (by simp at hx; rw [hx]; exact HLB.out)))
      have X12 : Hid ((w11.setCell ⟨lb, 0, none⟩ (.int .i64 ((i : Int) + 100))).heap[lb]? = some (.cells #[.int .i64 ((i : Int) + 100)] 3 (0, 0))) := Lib.hid (by
        have := box_set (o := 0) X11.out (.int .i64 ((i : Int) + 100))
        simpa using this)
      have L12 : Hid (lo ≤ (w11.setCell ⟨lb, 0, none⟩ (.int .i64 ((i : Int) + 100))).heap.size) := Lib.hid (Nat.le_trans L11.out t12.size)
      obtain ⟨d0, d1, _⟩ := two_cells q12
      clear t12 o12 q12 S11 P11 Q11 T11 L11 X11
      go_wp2_with fail
      refine (finds_sgl S12.out HQ.out).mono ?_
      rintro e w13 ⟨rfl, t13⟩
      have S13 := Lib.hid (S12.out.typed t13 (Of.nil _ 0) (by simp) (by simp))
      have P13 := Lib.hid (P12.out.typed t13 (Of.nil _ 0) (by simp) (by simp))
      have Q13 := Lib.hid (touch_box t13 Q12.out (by simp))
      have X13 := Lib.hid (touch_box t13 X12.out (by simp))
      have T13 := Lib.hid (T12.out.trans t13 (by simp))
      have L13 := Lib.hid (Nat.le_trans L12.out t13.size)
      clear t13 d0 d1 x0 x1 S12 P12 Q12 X12 T12 L12
      have d0 := fun o => (two_cells (box_keep (w := w13) o Q13.out)).1
      go_wp2_with fail
      refine (findp_sgl (by exact P13.out.typed ((Touch.refl [] _).alloc _) (Of.nil _ 0) (by simp) (by simp)) HQ.out).mono ?_
      rintro e w15 ⟨rfl, t15⟩
      have ta : Touch [] w13 w15 := ((Touch.refl [] w13).alloc _).trans t15 (by simp)
      have S15 := Lib.hid (S13.out.typed ta (Of.nil _ 0) (by simp) (by simp))
      have P15 := Lib.hid (P13.out.typed ta (Of.nil _ 0) (by simp) (by simp))
      have Q15 := Lib.hid (touch_box ta Q13.out (by simp))
      have X15 := Lib.hid (touch_box ta X13.out (by simp))
      have T15 := Lib.hid (T13.out.trans ta (by simp))
      have L15 := Lib.hid (Nat.le_trans L13.out ta.size)
      clear t15 ta d0 S13 P13 Q13 X13 T13 L13
      have kx := fun o1 o2 => cell_touch (((Touch.refl [] w15).alloc o1).alloc o2) (cell_touch T15.out M0.out (by simp)) (by simp)
      have kl := fun o1 o2 => cell_touch (((Touch.refl [] w15).alloc o1).alloc o2) (a := ⟨lb, 0, none⟩) (v := .int .i64 ((i : Int) + 100)) (by have := X15.out; simp [World.cell?, this]) (by simp)
      go_wp2
      go_roundw
      case rel =>
        have tf := fun o1 o2 => ((Touch.refl [] w15).alloc o1).alloc o2
        exact ⟨i + 1, by go_num, by omega, by omega, Lib.hid ⟨TS.out, .inr ⟨v, bs, S15.out.typed (tf _ _) (Of.nil _ 0) (by simp) (by simp), B10.out⟩⟩, Lib.hid ⟨TP.out, .inr ⟨_, _, _, _, bp, P15.out.typed (tf _ _) (Of.nil _ 0) (by simp) (by simp), B11.out⟩⟩, Lib.hid (touch_box (tf _ _) Q15.out (by simp)), Lib.hid (T15.out.trans (tf _ _) (by simp)), Lib.hid (Nat.le_trans L15.out (tf _ _).size)⟩
      case measure => simp [intOf]; omega
    · have HS := hT
      clear hS hP hQ hL
      by_cases h1 : i < n
      · have b1 : (i : Int) < (n : Int) := by omega
        have b2 : ¬ (i : Int) < 50 := by omega
        clear hin h1
        go_wp2
        go_ret
        exact ⟨rfl, HS.out⟩
      · have b1 : ¬ (i : Int) < (n : Int) := by omega
        clear hin h1
        go_wp2
        go_ret
        exact ⟨rfl, HS.out⟩
end Go.Proofs.Ytmklkdhpbehfeaa.Tri
