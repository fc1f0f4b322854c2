/- walks; no condition. -/
import Derived.Test.YtmklkdhpbehfeaaWA
import Derived.Test.YtmklkdhpbehfeaaZG
namespace Go.Proofs.Ytmklkdhpbehfeaa.Tri
open Go.RowKit Go.Maps Go.Shelf
set_option linter.unusedVariables false
attribute [local go_sem] Oper.semAt_some

theorem insideL_R {t : T} (h : Ok t) (a : Nat) (m : Int) : insideL t a m = insideR (ents t) a m := by
  unfold insideL insideR
  by_cases ho : okP a m
  · rw [if_pos ho, if_pos ho, (below_is t _ h ho.2).1]
  · rw [if_neg ho, if_neg ho]
/-- What the iterator v7 tells stands in the row of box B8. -/
structure WantAt (w : World) (tb : Nat) (t : T) (B B8 a : Nat) (m : Int) (V : Value) (L : List Ent) : Prop where
  seq : SeqAt w B tb a m
  box : w.heap[B8]? = some (.cells #[V] 131 (0, 0))
  row : VRow w 135 3 V L.length (flatE L)
  is_ : insideL t a m = L
theorem WantAt.kept {w w' : World} {tb : Nat} {t : T} {B B8 a : Nat} {m : Int} {V : Value} {L : List Ent} (h : WantAt w tb t B B8 a m V L) (tt : Touch [] w w') : WantAt w' tb t B B8 a m V L :=
  ⟨h.seq.kept tt (by simp) (by simp), touch_box tt h.box (by simp), h.row.kept tt (by simp), h.is_⟩
structure RdAt (w W : World) (P : Duo) (c5 : Array Value) (B B8 a : Nat) (m : Int) (V : Value) (L : List Ent) : Prop where
  want : WantAt W P.tb P.t B B8 a m V L
  duo : DuoAt W P
  x5 : W.heap[w.heap.size]? = some (.cells c5 127 (0, 0))
  x6 : W.heap[w.heap.size + 1]? = some (.cells #[.bool false] 4 (0, 0))
  touch : Touch [] w W
theorem RdAt.kept {w W W' : World} {P : Duo} {c5 : Array Value} {B B8 a : Nat} {m : Int} {V : Value} {L : List Ent} (h : RdAt w W P c5 B B8 a m V L) (tt : Touch [] W W') : RdAt w W' P c5 B B8 a m V L :=
  ⟨h.want.kept tt, h.duo.kept tt (by simp), touch_box tt h.x5 (by simp), touch_box tt h.x6 (by simp), h.touch.trans tt (by simp)⟩
/-! ### marks of ranges, left behind -/
def mark (D : Nat) : Deferred := { target := .collected D, args := #[] }
theorem leaves_marks {F : Fence} {n : Nat} {P : Program} {fn : Func} {tmps : Array Value} {R : Ending → World → Prop} : ∀ (Ds : List Nat) (W : World), Ds.Nodup → (∀ D ∈ Ds, W.heap[D]? = some (.deferred (some []))) →
    (∀ W', Touch Ds W W' → LeavesInM F n P fn tmps R [] .returning W') → LeavesInM F n P fn tmps R (Ds.map mark) .returning W
  | [], W, _, _, h => h W (Touch.refl _ _)
  | D :: Ds, W, hn, hd, h => by
    obtain ⟨h1, h2⟩ := List.nodup_cons.1 hn
    have tD : Touch [D] W (W.putObj D (.deferred none)) := touch_grown (grownBy_putObj' W D (.deferred none))
    refine ⟨by simp, .inl ⟨D, _, rfl, run_takeDeferred (hd D (by simp)), leaves_marks Ds _ h2 (fun E hE => ?_) (fun W' t => h W' ?_)⟩⟩
    · exact touch_box tD (hd E (by simp [hE])) (by simp; rintro rfl; exact h1 hE)
    · exact (tD.mono (fun x hx => .inl (by simp at hx; simp [hx]))).trans t (fun x hx => .inl (by simp [hx]))
theorem pre_next {pre L : List Ent} {x e : Ent} (h : pre <+: L) (he : L[pre.length]? = some e) : pre ++ [x] <+: L ↔ x = e := by
  obtain ⟨r, rfl⟩ := h
  rw [List.getElem?_append_right (Nat.le_refl _), Nat.sub_self] at he
  cases r with
  | nil => simp at he
  | cons y r =>
    simp at he
    subst he
    constructor
    · intro h
      have := (List.prefix_append_right_inj pre).1 h
      simpa using this
    · rintro rfl
      exact ⟨r, by simp⟩
structure WalkI (W0 : World) (B10 : Nat) (L pre : List Ent) (W : World) : Prop where
  n : W.heap[B10]? = some (.cells #[.int .i64 pre.length] 3 (0, 0))
  pf : pre <+: L
  touch : Touch [B10] W0 W
theorem WalkI.own {W0 : World} {B10 : Nat} {L : List Ent} : OwnFrom W0.heap.size (WalkI W0 B10 L) := by
  rintro s W W' row ⟨h1, h2, h3⟩ hg hr
  have hr' : RowNo W W0.heap.size row := hr
  exact ⟨touch_box (touch_grown hg) h1 (hr'.cells h1), h2, h3.trans (touch_grown hg) (fun x hx => .inr (hr x (by simpa using hx)).1)⟩
def WalkX (W0 : World) (B10 B11 rd : Nat) (L : List Ent) (c : Code) (pre : List Ent) (W : World) : Prop :=
  (c = .ret ∧ ¬ pre <+: L) ∨ (c = .exit 2 ∧ rd = 0 ∧ W.heap[B11]? = some (.cells #[.bool true] 4 (0, 0)) ∧ Touch [B10, B11] W0 W)
theorem WalkX.own {W0 : World} {B10 B11 rd : Nat} {L : List Ent} (c : Code) : OwnFrom W0.heap.size (WalkX W0 B10 B11 rd L c) := by
  rintro s W W' row h hg hr
  have hr' : RowNo W W0.heap.size row := hr
  rcases h with h | ⟨h1, h2, h3, h4⟩
  · exact .inl h
  · exact .inr ⟨h1, h2, touch_box (touch_grown hg) h3 (hr'.cells h3), h4.trans (touch_grown hg) (fun x hx => .inr (hr x (by simpa using hx)).1)⟩
def FrameW (tb rb : Nat) (kd wh : Int) (a : Nat) (m : Int) (A : Nat) (v : Int) (b5 B B8 B9 : Nat) (Ds : List Nat) (u : Nat → Value) : Act :=
  { tmps := #[.pointer (some ⟨tb, 0, none⟩), .pointer (some ⟨rb, 0, none⟩), .agg #[.int .i64 kd, .int .i64 wh, .int .u32 a, .int .i64 m, .int .u32 A, .int .i64 v], undef, undef, .pointer (some ⟨b5, 0, none⟩), .pointer (some ⟨b5 + 1, 0, none⟩), .func (.func 46) #[] #[.pointer (some ⟨B + 1, 0, none⟩), .pointer (some ⟨B, 0, none⟩)], .pointer (some ⟨B8, 0, none⟩), .pointer (some ⟨B9, 0, none⟩), (u 10), (u 11), (u 12), (u 13), (u 14), (u 15), (u 16), (u 17), (u 18), (u 19), (u 20), (u 21), (u 22), (u 23), (u 24), (u 25), (u 26), (u 27), (u 28), (u 29), (u 30), (u 31), (u 32), (u 33), (u 34), (u 35), (u 36), (u 37), (u 38), (u 39), (u 40), (u 41), (u 42), (u 43), (u 44), (u 45), (u 46), (u 47), (u 48), (u 49), (u 50), (u 51), (u 52), (u 53), (u 54), (u 55), (u 56), (u 57), (u 58), (u 59), (u 60), (u 61), (u 62), (u 63), (u 64), (u 65), (u 66), (u 67), (u 68), (u 69), (u 70), (u 71), (u 72), (u 73), (u 74), (u 75), (u 76), (u 77), (u 78)], defers := Ds.map mark }
theorem frame_w {tb rb : Nat} {kd wh : Int} {a : Nat} {m : Int} {A : Nat} {v : Int} {b5 B B8 B9 : Nat} {Ds : List Nat} {x : Act} (h : x = FrameW tb rb kd wh a m A v b5 B B8 B9 Ds (fun k => x.tmps.getD k undef)) : ∃ u, x = FrameW tb rb kd wh a m A v b5 B B8 B9 Ds u := ⟨_, h⟩
set_option maxRecDepth 100000 in
set_option maxHeartbeats 8000000 in
theorem walks_calls {w : World} {P : Duo} (h : DuoAt w P) (kd wh : Int) (a : Nat) (m : Int) (A : Nat) (v : Int) (hk : 48 * P.k ≤ 140737488355328) (ha : a < 4294967296) (hkd : kd = 5 ∨ kd = 6) :
    Calls Try.prog 77 #[.pointer (some ⟨P.tb, 0, none⟩), .pointer (some ⟨P.rb, 0, none⟩), opV kd wh a m A v] w fun e w' => e = .returned (.bool true) ∧ Touch [] w w' := by
  have H := Lib.hid h
  have HLEN := Lib.hid h.a.len
  have HOK := Lib.hid h.a.ok
  clear h
  unfold opV
  refine calls_marks Try.func77 rfl ?_
  simp only [Try.ntmps77, List.size_toArray, List.length_cons, List.length_nil, Nat.reduceAdd, Nat.reduceSub, Array.replicate_succ, Array.replicate_zero, List.push_toArray, List.append_toArray, List.nil_append, List.cons_append]
  go_wp2_with fail
  obtain ⟨W1, hW1⟩ : ∃ W1 : World, W1 = (w.alloc (.cells (opC kd wh a m A v) 127)).alloc (.cells #[.bool false] 4) := ⟨_, rfl⟩
  have X5 := Lib.hid (show W1.heap[w.heap.size]? = some (.cells (opC kd wh a m A v) 127 (0, 0)) by rw [hW1]; exact box_keep _ (box_at w _))
  have X6 := Lib.hid (show W1.heap[w.heap.size + 1]? = some (.cells #[.bool false] 4 (0, 0)) by rw [hW1]; exact box_at' _ _ _ (by simp))
  have T1 := Lib.hid (show Touch [] w W1 by rw [hW1]; exact ((Touch.refl [] w).alloc _).alloc _)
  have hs1 : W1.heap.size = w.heap.size + 1 + 1 := by rw [hW1]; simp
  change Calls _ _ _ ((w.alloc (.cells (opC kd wh a m A v) 127)).alloc (.cells #[.bool false] 4)) _
  rw [← hW1]
  clear hW1
  refine (all_calls P.tb W1).mono ?_
  rintro e W2 ⟨rfl, hsq, t1⟩
  rw [hs1] at hsq
  have SQ2 := Lib.hid hsq
  have T2 := Lib.hid (T1.out.trans t1 (by simp))
  have X52 := Lib.hid (touch_box t1 X5.out (by simp))
  have X62 := Lib.hid (touch_box t1 X6.out (by simp))
  clear hsq t1 X5 X6 T1
  unfold seqV
  go_wp2_with fail
  refine (rall_calls (H.out.kept T2.out (by simp)).b (by rw [← HLEN.out]; omega)).mono ?_
  rintro e W3 ⟨A8, c8, rfl, hV, t3, hown⟩
  obtain ⟨W4, hW4⟩ : ∃ W4 : World, W4 = W3.alloc (.cells #[.slice A8 (ents P.t).length c8] 131) := ⟨_, rfl⟩
  have t34 : Touch [] W3 W4 := by rw [hW4]; exact (Touch.refl [] W3).alloc _
  have X8 := Lib.hid (show W4.heap[W3.heap.size]? = some (.cells #[.slice A8 (ents P.t).length c8] 131 (0, 0)) by rw [hW4]; exact box_at W3 _)
  have R0 := Lib.hid (show RdAt w W4 P (opC kd wh a m A v) (w.heap.size + 1 + 1) W3.heap.size 0 0 (.slice A8 (ents P.t).length c8) (ents P.t) from
    ⟨⟨(SQ2.out.kept t3 (by simp) (by simp)).kept t34 (by simp) (by simp), X8.out, hV.kept t34 (by simp), insideL_all HOK.out⟩, ((H.out.kept T2.out (by simp)).kept t3 (by simp)).kept t34 (by simp), touch_box t34 (touch_box t3 X52.out (by simp)) (by simp), touch_box t34 (touch_box t3 X62.out (by simp)) (by simp), (T2.out.trans t3 (by simp)).trans t34 (by simp)⟩)
  have hbd : (ents P.t).length < 4000000000000 := by rw [← HLEN.out]; omega
  have hB8w : w.heap.size + 1 + 1 ≤ W3.heap.size := by have := t3.size; have := SQ2.out.lt; omega
  have hB8 : W3.heap.size < W4.heap.size := (Array.getElem?_eq_some_iff.1 X8.out).1
  have hown8 : Hid (∀ b, (Value.slice A8 (ents P.t).length c8).ownBlock = some b → b ≠ W3.heap.size) := Lib.hid (fun b hb => by have := hV.lt b hb; omega)
  clear hV t3 hown SQ2 T2 X52 X62
  go_upto_region 3 with (fail)
  rw [← hW4]
  clear hW4 t34 X8
  generalize W3.heap.size = B8 at *
  obtain ⟨x0, x1, x2, x3, x4, x5⟩ := op_cells R0.out.x5
  go_upto_if 20 with (fail)
  go_cut [7] from 21 to 28 (fun v7 wc => ∃ (B a' : Nat) (m' : Int) (A' : Option Addr) (c' : Nat) (L : List Ent), v7 = seqV B ∧ a' < 4294967296 ∧ L.length < 4000000000000 ∧ Hid (RdAt w wc P (opC kd wh a m A v) B B8 a' m' (.slice A' L.length c') L))
  case first =>
    rcases hkd with rfl | rfl
    · go_wp2
      go_meet
      case rel => exact ⟨_, 0, 0, A8, c8, ents P.t, rfl, by decide, hbd, R0⟩
    · go_wp2_with fail
      refine (within_calls P.tb a m W4).mono ?_
      rintro e W5 ⟨rfl, hsq, t5⟩
      have SQ5 := Lib.hid hsq
      have R5 := Lib.hid (R0.out.kept t5)
      have T5 := Lib.hid t5
      clear hsq t5 x0 x1 x2 x3 x4 x5
      obtain ⟨x0, x1, x2, x3, x4, x5⟩ := op_cells R5.out.x5
      go_wp2_with fail
      refine (rwithin_calls R5.out.duo.b a m ha hbd).mono ?_
      rintro e W6 ⟨A', c', rfl, hV, t6, hown⟩
      have R6 := Lib.hid (R5.out.kept t6)
      have SQ6 := Lib.hid (SQ5.out.kept t6 (by simp) (by simp))
      obtain ⟨b8, f8⟩ := one_cells R6.out.want.box
      have HV := Lib.hid hV
      have HW := Lib.hid hown
      have T6 := Lib.hid (T5.out.trans t6 (by simp))
      clear hV t6 hown x0 x1 x2 x3 x4 x5
      go_wp2
      go_meet
      case rel =>
        refine ⟨_, a, m, A', c', insideR (ents P.t) a m, rfl, ha, ?_, Lib.hid ?_⟩
        · refine Nat.lt_of_le_of_lt ?_ hbd
          unfold insideR
          split
          · exact List.length_filter_le _ _
          · exact Nat.zero_le _
        · have tS : Touch [B8] W6 (W6.setCell ⟨B8, 0, none⟩ (.slice A' (insideR (ents P.t) a m).length c')) := (Touch.refl _ W6).setCell _ _ (.inl (by simp))
          have hw := R6.out.duo.lt
          have h5 := T5.out.size
          refine ⟨⟨SQ6.out.kept tS (by simp; omega) (by simp; omega), by simpa using box_set (o := 0) R6.out.want.box (.slice A' (insideR (ents P.t) a m).length c'), HV.out.kept tS (fun k hk => by have := HW.out k hk; simp; omega), insideL_R HOK.out a m⟩,
            R6.out.duo.kept tS (fun x hx => by have := H.out.lt x hx; simp; omega), touch_box tS R6.out.x5 (by simp; omega), touch_box tS R6.out.x6 (by simp; omega), R6.out.touch.trans tS (fun x hx => .inr (by simp at hx; omega))⟩
  case rest =>
  obtain ⟨B, a0, m0, A', c', L, rfl, ha', hLl, hR⟩ := hcut
  unfold seqV
  have hnil := seq_some wc (.func 46) #[] #[.pointer (some ⟨B + 1, 0, none⟩), .pointer (some ⟨B, 0, none⟩)]
  clear x0 x1 x2 x3 x4 x5 R0 hkd hbd hown8
  go_wp2_with fail
  obtain ⟨WL, hWL⟩ : ∃ WL : World, WL = wc.alloc (.cells #[.int .i64 0] 3) := ⟨_, rfl⟩
  have tL : Touch [] wc WL := by rw [hWL]; exact (Touch.refl [] wc).alloc _
  have X9 := Lib.hid (show WL.heap[wc.heap.size]? = some (.cells #[.int .i64 ((0 : Nat) : Int)] 3 (0, 0)) by rw [hWL]; exact box_at wc _)
  have RL := Lib.hid (hR.out.kept tL)
  rw [← hWL]
  clear hWL tL hR hnil
  refine wp_loop_ghost (fun n a' W => ∃ (B9 rd : Nat) (Ds : List Nat), (∃ u, a' = FrameW P.tb P.rb kd wh a m A v w.heap.size B B8 B9 Ds u) ∧ rd + n = 2 ∧ Hid (W.heap[B9]? = some (.cells #[.int .i64 rd] 3 (0, 0))) ∧ Hid (RdAt w W P (opC kd wh a m A v) B B8 a0 m0 (.slice A' L.length c') L) ∧ Hid (Ds.Nodup) ∧ Hid (∀ D ∈ Ds, W.heap[D]? = some (.deferred (some []))) ∧ Hid (∀ D ∈ Ds, w.heap.size ≤ D)) 2
    ⟨wc.heap.size, 0, [], frame_w rfl, rfl, X9, RL, Lib.hid (by simp), Lib.hid (by simp), Lib.hid (by simp)⟩ ?_
  rintro n ar W ⟨B9, rd, Ds, ⟨u, rfl⟩, hn, hX9, hRd, hDn, hDd, hDg⟩
  unfold FrameW
  obtain ⟨p9, g9⟩ := one_cells hX9.out
  by_cases hrd : rd < 2
  · have hrd2 : (rd : Int) < 2 := by omega
    have B9lt : B9 < W.heap.size := (Array.getElem?_eq_some_iff.1 hX9.out).1
    have hbnd := hRd.out.want.row.lt
    have B8lt : B8 < W.heap.size := (Array.getElem?_eq_some_iff.1 hRd.out.want.box).1
    have B6lt : w.heap.size + 1 < W.heap.size := (Array.getElem?_eq_some_iff.1 hRd.out.x6).1
    have B5lt : w.heap.size < W.heap.size := by omega
    go_wp2_with fail
    obtain ⟨W0, hW0⟩ : ∃ W0 : World, W0 = (W.alloc (.cells #[.int .i64 0] 3)).alloc (.cells #[.bool false] 4) := ⟨_, rfl⟩
    have t0 : Touch [] W W0 := by rw [hW0]; exact ((Touch.refl [] W).alloc _).alloc _
    have X10 := Lib.hid (show W0.heap[W.heap.size]? = some (.cells #[.int .i64 (([] : List Ent).length : Int)] 3 (0, 0)) by rw [hW0]; exact box_keep _ (box_at W _))
    have X11 := Lib.hid (show W0.heap[W.heap.size + 1]? = some (.cells #[.bool false] 4 (0, 0)) by rw [hW0]; exact box_at' _ _ _ (by simp))
    have hs0 : W0.heap.size = W.heap.size + 1 + 1 := by rw [hW0]; simp
    have T0 := Lib.hid t0
    have R0 := Lib.hid (hRd.out.kept t0)
    have Y9 := Lib.hid (touch_box t0 hX9.out (by simp))
    have DD0 : Hid (∀ D ∈ Ds, W0.heap[D]? = some (.deferred (some []))) := Lib.hid (fun D hD => touch_box t0 (hDd.out D hD) (by simp))
    rw [← hW0]
    clear hW0 t0 p9 g9
    have hst := within_stops (n := 8) R0.out.duo.a (by rw [← HLEN.out] at *; exact hk) a0 m0 ha' B (B + 1) R0.out.want.seq.t R0.out.want.seq.p
    rw [R0.out.want.is_] at hst
    have HST := Lib.hid hst
    clear hst
    refine wp_range (gf := 46) (lb := #[.pointer (some ⟨B + 1, 0, none⟩), .pointer (some ⟨B, 0, none⟩)]) (by rfl) (enters_of Try.func46 (by kernel_rfl) rfl)
      HST.out (fun h k => h.trans k) (fun W l o o' _ h1 h2 _ => KeepT.put W l o o' h1 h2) (fun _ => rfl)
      (WalkI W0 W.heap.size L) (WalkX W0 W.heap.size (W.heap.size + 1) rd L) WalkI.own (fun c => WalkX.own c)
      ⟨X10.out, List.nil_prefix, Touch.refl _ _⟩
      (fun x => BoxX W0 x (fun Bx => { tmps := #[.pointer (some ⟨P.tb, 0, none⟩), .pointer (some ⟨P.rb, 0, none⟩), .agg #[.int .i64 kd, .int .i64 wh, .int .u32 a, .int .i64 m, .int .u32 A, .int .i64 v], undef, undef, .pointer (some ⟨w.heap.size, 0, none⟩), .pointer (some ⟨w.heap.size + 1, 0, none⟩), .func (.func 46) #[] #[.pointer (some ⟨B + 1, 0, none⟩), .pointer (some ⟨B, 0, none⟩)], .pointer (some ⟨B8, 0, none⟩), .pointer (some ⟨B9, 0, none⟩), .pointer (some ⟨W.heap.size, 0, none⟩), .pointer (some ⟨W.heap.size + 1, 0, none⟩), .pointer (some ⟨Bx, 0, none⟩), .int .i64 x.2, u 14, u 15, u 16, u 17, u 18, u 19, u 20, u 21, u 22, u 23, u 24, u 25, u 26, u 27, u 28, u 29, u 30, .int .i64 rd, .bool true, u 33, u 34, .func (.func 46) #[] #[.pointer (some ⟨B + 1, 0, none⟩), .pointer (some ⟨B, 0, none⟩)], .agg #[.int .u32 x.1.a, .int .i64 x.1.n], .int .i64 x.2, u 38, u 39, u 40, u 41, u 42, u 43, u 44, u 45, u 46, u 47, u 48, u 49, u 50, u 51, u 52, u 53, u 54, u 55, u 56, u 57, u 58, u 59, u 60, u 61, u 62, u 63, u 64, u 65, u 66, u 67, u 68, u 69, u 70, u 71, u 72, u 73, u 74, u 75, u 76, u 77, u 78], defers := [] })) (fun x a' => BoxX.own x _ a') ?assign ?body ?done ?stop
    case assign =>
      intro l pre x W' K hI hK
      simp only [encE]
      gi_wp2
      exact hK _ _ (keepsFrom_touch (S := []) ((Touch.refl [] W').alloc _) (by simp)) (KeepT.touch (S := []) ((Touch.refl [] W').alloc _) (by simp)) ⟨box_keep _ hI.n, hI.pf, hI.touch.alloc _⟩ ⟨W'.heap.size, hI.touch.size, box_at W' _, rfl⟩
    case body =>
      rintro l pre x a' W' hl ⟨r, hr⟩ hI ⟨Bx, hBx, hx, rfl⟩ hlen
      try dsimp only
      have HI := Lib.hid hI
      have h10 : W.heap.size ≠ W.heap.size + 1 := by omega
      have hne : ∀ b, b < W.heap.size → b ∉ [W.heap.size] := fun b hb => by simp; omega
      have R1 := Lib.hid (hI.touch)
      obtain ⟨p10, g10⟩ := one_cells hI.n
      obtain ⟨q9, e9⟩ := one_cells (touch_box hI.touch Y9.out (hne _ B9lt))
      obtain ⟨q8, e8⟩ := one_cells (touch_box hI.touch R0.out.want.box (hne _ B8lt))
      obtain ⟨q6, e6⟩ := one_cells (touch_box hI.touch R0.out.x6 (hne _ B6lt))
      obtain ⟨q11, e11⟩ := one_cells (touch_box hI.touch X11.out (by simp))
      obtain ⟨_, _, _, _, _, y5⟩ := op_cells (touch_box hI.touch R0.out.x5 (hne _ B5lt))
      obtain ⟨z0, z1, _⟩ := two_cells hx
      obtain ⟨⟨eq, ev⟩, hL⟩ : ∃ e, L[pre.length]? = some e := ⟨_, List.getElem?_eq_getElem hlen⟩
      have hV := R0.out.want.row.kept hI.touch (fun k hk => hne _ (hbnd k hk))
      obtain ⟨gg, cc, hsl, hgl, hc⟩ := hV.at_ (by omega)
      simp only [Value.slice.injEq, true_and] at hsl
      obtain ⟨hA, hcc⟩ := hsl
      obtain ⟨k0, k1, k2⟩ := flatE_get L _ _ hL
      have m0 := hc _ _ k0
      have m1 := hc _ _ k1
      have m2 := hc _ _ k2
      dsimp only at m0 m1 m2
      have hlI : (pre.length : Int) < (L.length : Int) := by omega
      have hLl2 : L.length < 4611686018427387904 := by omega
      have HL := Lib.hid hL
      have hnx := pre_next (x := x) hI.pf hL
      subst hA hcc
      clear hI hV hc k0 k1 k2 hL
      by_cases hbr : rd = 0 ∧ (pre.length : Int) = v
      · obtain ⟨hrd0, hpv⟩ := hbr
        subst hrd0
        have e1 : (((pre.length : Int)) == v) = true := by rw [beq_iff_eq]; exact hpv
        gi_wp2
        have tX : Touch [W.heap.size + 1] W' (W'.setCell ⟨W.heap.size + 1, 0, none⟩ (.bool true)) := (Touch.refl _ W').setCell _ _ (.inl (by simp))
        have b11 := touch_box HI.out.touch X11.out (by simp)
        refine ⟨keepsFrom_touch tX (fun y hy => by simp at hy; subst hy; exact ⟨_, _, _, b11⟩), .inr ⟨rfl, rfl, by simpa using box_set (o := 0) b11 (.bool true), ?_⟩⟩
        exact (HI.out.touch.mono (fun y hy => .inl (by simp at hy; simp [hy]))).trans tX (fun y hy => .inl (by simp at hy; simp [hy]))
      have n10 := fun u : Near W' => u.cell p10
      have n8 := fun u : Near W' => u.cell q8
      have nz0 := fun u : Near W' => u.cell z0
      have nz1 := fun u : Near W' => u.cell z1
      have nm0 := fun u : Near W' => u.cell m0
      have nm1 := fun u : Near W' => u.cell m1
      have nm2 := fun u : Near W' => u.cell m2
      have P10 := Lib.hid p10
      have G10 := Lib.hid g10
      have Q6 := Lib.hid q6
      have E6 := Lib.hid e6
      have B6 := Lib.hid (touch_box HI.out.touch R0.out.x6 (hne _ B6lt))
      have hge : decide ((L.length : Int) ≤ (pre.length : Int)) = false := by rw [decide_eq_false_iff_not]; omega
      have hge2 : decide (L.length ≤ pre.length) = false := by rw [decide_eq_false_iff_not]; omega
      by_cases hr0 : rd = 0
      · have e1 : (((pre.length : Int)) == v) = false := by rw [beq_eq_false_iff_ne]; exact fun h => hbr ⟨hr0, h⟩
        have e0 : ((rd : Int) == 0) = true := by rw [beq_iff_eq]; omega
        subst hr0
        clear hbr
        by_cases hp : x.1 = eq
        · have hneq := fun w => px_neq x.1.a x.1.n eq.a eq.n true (px_beq hp) w
          by_cases hv : x.2 = ev
          · have hv1 : (x.2 == ev) = true := by rw [beq_iff_eq]; exact hv
            have hv2 : (x.2 != ev) = false := by rw [bne, hv1]; rfl
            have hxe : x = (eq, ev) := by rw [← hp, ← hv]
            have HX := Lib.hid (hnx.2 hxe)
            clear hxe hnx hp hv
            gi_wp2
            refine wpIn_round_near (by kernel_rfl) (by kernel_rfl) (by kernel_rfl) ?_
            repeat (go_big_quiet_step (fail))
            refine wpQuiet_nil ?_
            rintro _ ⟨u2, rfl⟩
            have p10b := u2.cell P10.out
            have g10b := frozen_touch u2.near P10.out G10.out (by simp)
            clear n10 n8 nz0 nz1 nm0 nm1 nm2 hneq
            gi_wp2
            have tX : Touch [W.heap.size] W' (u2.w.setCell ⟨W.heap.size, 0, none⟩ (.int .i64 ((pre.length : Int) + 1))) := (u2.near.mono (by simp)).setCell _ _ (.inl (by simp))
            refine ⟨keepsFrom_touch tX (fun y hy => ?_), KeepT.touch tX (fun y hy c f hc => ?_), ⟨?_, HX.out, R1.out.trans tX (fun y hy => .inl hy)⟩⟩
            · simp at hy; subst hy; exact ⟨_, _, _, HI.out.n⟩
            · simp at hy; subst hy; rw [HI.out.n] at hc; cases hc
            · have := box_set (o := 0) (touch_box u2.near HI.out.n (by simp)) (.int .i64 ((pre.length : Int) + 1))
              simpa using this
          · have hv1 : (x.2 == ev) = false := by rw [beq_eq_false_iff_ne]; exact hv
            have hv2 : (x.2 != ev) = true := by rw [bne, hv1]; rfl
            have HX : Hid (¬ pre ++ [x] <+: L) := Lib.hid (fun h => hv (by rw [hnx.1 h]))
            clear hnx hp hv
            gi_wp2
            refine wpIn_round_near (by kernel_rfl) (by kernel_rfl) (by kernel_rfl) ?_
            repeat (go_big_quiet_step (fail))
            refine wpQuiet_nil ?_
            rintro _ ⟨u2, rfl⟩
            have q6b := u2.cell Q6.out
            have e6b := frozen_touch u2.near Q6.out E6.out (by simp)
            clear n10 n8 nz0 nz1 nm0 nm1 nm2 hneq
            gi_wp2
            have tX : Touch [w.heap.size + 1] W' (u2.w.setCell ⟨w.heap.size + 1, 0, none⟩ (.bool false)) := (u2.near.mono (by simp)).setCell _ _ (.inl (by simp))
            exact ⟨keepsFrom_touch tX (fun y hy => by simp at hy; subst hy; exact ⟨_, _, _, B6.out⟩), .inl ⟨rfl, HX.out⟩⟩
        · have hneq := fun w => px_neq x.1.a x.1.n eq.a eq.n false (px_bne hp) w
          have HX : Hid (¬ pre ++ [x] <+: L) := Lib.hid (fun h => hp (by rw [hnx.1 h]))
          clear hnx hp
          gi_wp2
          refine wpIn_round_near (by kernel_rfl) (by kernel_rfl) (by kernel_rfl) ?_
          repeat (go_big_quiet_step (fail))
          refine wpQuiet_nil ?_
          rintro _ ⟨u2, rfl⟩
          have q6b := u2.cell Q6.out
          have e6b := frozen_touch u2.near Q6.out E6.out (by simp)
          clear n10 n8 nz0 nz1 nm0 nm1 nm2 hneq
          gi_wp2
          have tX : Touch [w.heap.size + 1] W' (u2.w.setCell ⟨w.heap.size + 1, 0, none⟩ (.bool false)) := (u2.near.mono (by simp)).setCell _ _ (.inl (by simp))
          exact ⟨keepsFrom_touch tX (fun y hy => by simp at hy; subst hy; exact ⟨_, _, _, B6.out⟩), .inl ⟨rfl, HX.out⟩⟩
      · have e0 : ((rd : Int) == 0) = false := by rw [beq_eq_false_iff_ne]; omega
        clear hbr
        by_cases hp : x.1 = eq
        · have hneq := fun w => px_neq x.1.a x.1.n eq.a eq.n true (px_beq hp) w
          by_cases hv : x.2 = ev
          · have hv1 : (x.2 == ev) = true := by rw [beq_iff_eq]; exact hv
            have hv2 : (x.2 != ev) = false := by rw [bne, hv1]; rfl
            have hxe : x = (eq, ev) := by rw [← hp, ← hv]
            have HX := Lib.hid (hnx.2 hxe)
            clear hxe hnx hp hv
            gi_wp2
            refine wpIn_round_near (by kernel_rfl) (by kernel_rfl) (by kernel_rfl) ?_
            repeat (go_big_quiet_step (fail))
            refine wpQuiet_nil ?_
            rintro _ ⟨u2, rfl⟩
            have p10b := u2.cell P10.out
            have g10b := frozen_touch u2.near P10.out G10.out (by simp)
            clear n10 n8 nz0 nz1 nm0 nm1 nm2 hneq
            gi_wp2
            have tX : Touch [W.heap.size] W' (u2.w.setCell ⟨W.heap.size, 0, none⟩ (.int .i64 ((pre.length : Int) + 1))) := (u2.near.mono (by simp)).setCell _ _ (.inl (by simp))
            refine ⟨keepsFrom_touch tX (fun y hy => ?_), KeepT.touch tX (fun y hy c f hc => ?_), ⟨?_, HX.out, R1.out.trans tX (fun y hy => .inl hy)⟩⟩
            · simp at hy; subst hy; exact ⟨_, _, _, HI.out.n⟩
            · simp at hy; subst hy; rw [HI.out.n] at hc; cases hc
            · have := box_set (o := 0) (touch_box u2.near HI.out.n (by simp)) (.int .i64 ((pre.length : Int) + 1))
              simpa using this
          · have hv1 : (x.2 == ev) = false := by rw [beq_eq_false_iff_ne]; exact hv
            have hv2 : (x.2 != ev) = true := by rw [bne, hv1]; rfl
            have HX : Hid (¬ pre ++ [x] <+: L) := Lib.hid (fun h => hv (by rw [hnx.1 h]))
            clear hnx hp hv
            gi_wp2
            refine wpIn_round_near (by kernel_rfl) (by kernel_rfl) (by kernel_rfl) ?_
            repeat (go_big_quiet_step (fail))
            refine wpQuiet_nil ?_
            rintro _ ⟨u2, rfl⟩
            have q6b := u2.cell Q6.out
            have e6b := frozen_touch u2.near Q6.out E6.out (by simp)
            clear n10 n8 nz0 nz1 nm0 nm1 nm2 hneq
            gi_wp2
            have tX : Touch [w.heap.size + 1] W' (u2.w.setCell ⟨w.heap.size + 1, 0, none⟩ (.bool false)) := (u2.near.mono (by simp)).setCell _ _ (.inl (by simp))
            exact ⟨keepsFrom_touch tX (fun y hy => by simp at hy; subst hy; exact ⟨_, _, _, B6.out⟩), .inl ⟨rfl, HX.out⟩⟩
        · have hneq := fun w => px_neq x.1.a x.1.n eq.a eq.n false (px_bne hp) w
          have HX : Hid (¬ pre ++ [x] <+: L) := Lib.hid (fun h => hp (by rw [hnx.1 h]))
          clear hnx hp
          gi_wp2
          refine wpIn_round_near (by kernel_rfl) (by kernel_rfl) (by kernel_rfl) ?_
          repeat (go_big_quiet_step (fail))
          refine wpQuiet_nil ?_
          rintro _ ⟨u2, rfl⟩
          have q6b := u2.cell Q6.out
          have e6b := frozen_touch u2.near Q6.out E6.out (by simp)
          clear n10 n8 nz0 nz1 nm0 nm1 nm2 hneq
          gi_wp2
          have tX : Touch [w.heap.size + 1] W' (u2.w.setCell ⟨w.heap.size + 1, 0, none⟩ (.bool false)) := (u2.near.mono (by simp)).setCell _ _ (.inl (by simp))
          exact ⟨keepsFrom_touch tX (fun y hy => by simp at hy; subst hy; exact ⟨_, _, _, B6.out⟩), .inl ⟨rfl, HX.out⟩⟩
    case done =>
      rintro D xs W' hD rfl hI hK
      have hne : ∀ b, b < W.heap.size → b ∉ [W.heap.size] := fun b hb => by simp; omega
      have TW := Lib.hid (T0.out.trans hI.touch (fun x hx => .inr (by simp at hx; omega)))
      obtain ⟨p10, g10⟩ := one_cells hI.n
      obtain ⟨q9, e9⟩ := one_cells (touch_box hI.touch Y9.out (hne _ B9lt))
      obtain ⟨q8, e8⟩ := one_cells (touch_box hI.touch R0.out.want.box (hne _ B8lt))
      obtain ⟨q11, e11⟩ := one_cells (touch_box hI.touch X11.out (by simp))
      have HDD : Hid (∀ E ∈ D :: Ds, W'.heap[E]? = some (.deferred (some []))) := Lib.hid (fun E hE => by
        rcases List.mem_cons.1 hE with rfl | hE
        · exact hK
        · exact touch_box hI.touch (DD0.out E hE) (by simp; rintro rfl; have := DD0.out _ hE; rw [X10.out] at this; cases this))
      have hrn : rd + 1 ≤ 2 := by omega
      clear hI hK
      go_wp2
      have tn : Touch [] W' (W'.alloc (.cells #[.int .i64 ((rd : Int) + 1)] 3)) := (Touch.refl [] W').alloc _
      have ez : ((rd : Int) + 1 : Int) = ((rd + 1 : Nat) : Int) := by push_cast; rfl
      refine ⟨n - 1, by omega, W'.heap.size, rd + 1, D :: Ds, frame_w rfl, by omega, Lib.hid (by rw [← ez]; exact box_at W' _), Lib.hid ((hRd.out.kept TW.out).kept tn), Lib.hid (List.nodup_cons.2 ⟨fun hx => ?_, hDn.out⟩), Lib.hid (fun E hE => touch_box tn (HDD.out E hE) (by simp)), Lib.hid (fun E hE => ?_)⟩
      · have := (Array.getElem?_eq_some_iff.1 (DD0.out D hx)).1; omega
      · rcases List.mem_cons.1 hE with rfl | hE
        · exact Nat.le_trans (Nat.le_trans hRd.out.touch.size T0.out.size) hD
        · exact hDg.out E hE
    case stop =>
      rintro D c pre W' hD hpre hX hK
      rcases hX with ⟨_, hX⟩ | ⟨rfl, hrd0, hb11, tX⟩
      · exact absurd hpre hX
      have hne : ∀ b, b < W.heap.size → b ∉ [W.heap.size, W.heap.size + 1] := fun b hb => by simp; omega
      have TW := Lib.hid (T0.out.trans tX (fun x hx => .inr (by simp at hx; omega)))
      obtain ⟨q9, e9⟩ := one_cells (touch_box tX Y9.out (hne _ B9lt))
      obtain ⟨q11, e11⟩ := one_cells hb11
      have HDD : Hid (∀ E ∈ D :: Ds, W'.heap[E]? = some (.deferred (some []))) := Lib.hid (fun E hE => by
        rcases List.mem_cons.1 hE with rfl | hE
        · exact hK
        · refine touch_box tX (DD0.out E hE) ?_
          simp
          constructor
          · rintro rfl; have := DD0.out _ hE; rw [X10.out] at this; cases this
          · rintro rfl; have := DD0.out _ hE; rw [X11.out] at this; cases this)
      clear tX hb11 hK
      go_wp2
      have tn : Touch [] W' (W'.alloc (.cells #[.int .i64 (1)] 3)) := (Touch.refl [] W').alloc _
      have ez : (1 : Int) = ((rd + 1 : Nat) : Int) := by rw [hrd0]; rfl
      refine ⟨n - 1, by omega, W'.heap.size, rd + 1, D :: Ds, frame_w rfl, by omega, Lib.hid (by rw [← ez]; exact box_at W' _), Lib.hid ((hRd.out.kept TW.out).kept tn), Lib.hid (List.nodup_cons.2 ⟨fun hx => ?_, hDn.out⟩), Lib.hid (fun E hE => touch_box tn (HDD.out E hE) (by simp)), Lib.hid (fun E hE => ?_)⟩
      · have := (Array.getElem?_eq_some_iff.1 (DD0.out D hx)).1; omega
      · rcases List.mem_cons.1 hE with rfl | hE
        · exact Nat.le_trans (Nat.le_trans hRd.out.touch.size T0.out.size) hD
        · exact hDg.out E hE
  · have hrd2 : ¬ (rd : Int) < 2 := by omega
    have hrd3 : decide ((rd : Int) < 2) = false := by rw [decide_eq_false_iff_not]; omega
    obtain ⟨p6, g6⟩ := one_cells hRd.out.x6
    go_wp2
    have t6 : Touch [w.heap.size + 1] W (W.setCell ⟨w.heap.size + 1, 0, none⟩ (.bool true)) := (Touch.refl _ W).setCell _ _ (.inl (by simp))
    have b6 : (W.setCell ⟨w.heap.size + 1, 0, none⟩ (.bool true)).heap[w.heap.size + 1]? = some (.cells #[.bool true] 4 (0, 0)) := by simpa using box_set (o := 0) hRd.out.x6 (.bool true)
    have hno : ∀ D ∈ Ds, D ≠ w.heap.size + 1 := fun D hD e => by have := hDd.out D hD; rw [e, hRd.out.x6] at this; cases this
    refine leaves_marks Ds _ hDn.out (fun D hD => touch_box t6 (hDd.out D hD) (by simp; exact hno D hD)) (fun W' t' => ?_)
    have b6' := touch_box t' b6 (fun hx => hno _ hx rfl)
    obtain ⟨r6, _⟩ := one_cells b6'
    refine ⟨.bool true, ?_, rfl, (hRd.out.touch.trans t6 (fun x hx => .inr (by simp at hx; omega))).trans t' (fun x hx => .inr (hDg.out x hx))⟩
    simp [results, Try.f77, go_sem, r6]
end Go.Proofs.Ytmklkdhpbehfeaa.Tri
