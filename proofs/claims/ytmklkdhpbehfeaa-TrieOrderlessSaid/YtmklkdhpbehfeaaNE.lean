/- nested; no condition. -/
import Derived.Test.YtmklkdhpbehfeaaIN
namespace Go.Proofs.Ytmklkdhpbehfeaa.Tri
open Go.RowKit Go.Maps Go.Shelf
set_option linter.unusedVariables false
attribute [local go_sem] Oper.semAt_some

theorem wpIn_range2 (s0 s1 b v : Nat) {g : Operand} {assign body : Code} {Q : Exit → Act → World → Prop} {a : Act} {w : World} {B tb a0 : Nat} {m0 : Int} {L : List Ent} {t : T} {S : List Nat} {k l₀ : Nat} {r₀ : Loop}
    (hl₀ : w.heap[l₀]? = some (.loop r₀)) (hg : a.eval g = .func (.func 46) #[] #[.pointer (some ⟨B + 1, 0, none⟩), .pointer (some ⟨B, 0, none⟩)])
    (hT : TrieAt w tb t S k) (hk : 48 * k ≤ 140737488355328) (ha0 : a0 < 4294967296) (hsq : SeqAt w B tb a0 m0) (hL : insideL t a0 m0 = L)
    (I : List Ent → World → Prop) (Ix : Code → List Ent → World → Prop) (hI : OwnFrom w.heap.size I) (hIx : ∀ c, OwnFrom w.heap.size (Ix c)) (h0 : I [] w)
    (hassign : ∀ (l : Nat) (pre : List Ent) (x : Ent) (W : World) (K : Act → World → Prop), I pre W → K (frameB a s0 s1 b v x W.heap.size) (W.alloc (.cells #[.int .u32 x.1.a, .int .i64 x.1.n] 32)) →
      assign.wpIn (Fence.wide.inRound l) 5 Try.prog (Exit.then K (fun _ _ _ => False)) { tmps := (#[s0, s1].zip (encE x)).foldl (fun t (p, v) => t.setIfInBounds p v) a.tmps, defers := [] } W)
    (hbody : ∀ (l : Nat) (pre : List Ent) (x : Ent) (Bx : Nat) (W : World), w.heap.size ≤ l → (∃ r, W.heap[l]? = some (.loop r)) → I pre W → w.heap.size ≤ Bx → W.heap[Bx]? = some (.cells #[.int .u32 x.1.a, .int .i64 x.1.n] 32 (0, 0)) → pre.length < L.length → body.wpIn (Fence.wide.inRound l) 5 Try.prog (ownPostG w.heap.size (KeepT 96) I Ix (pre ++ [x]) W) (frameB a s0 s1 b v x Bx) W)
    (hIa : ∀ pre W o, I pre W → I pre (W.alloc o)) (hIs : ∀ pre W, I pre W → w.heap.size ≤ W.heap.size)
    (hdone : ∀ (W : World), I L W → Q .normal a W)
    (hstop : ∀ (c : Code) (pre : List Ent) (W : World), pre <+: L → Ix c pre W → c.wpIn (Fence.wide.inRound l₀) 7 Try.prog Q a W) :
    (Code.rangeFunc g #[s0, s1] assign body).wpIn (Fence.wide.inRound l₀) 7 Try.prog Q a w := by
  have hst := within_stops (n := 6) hT hk a0 m0 ha0 B (B + 1) hsq.t hsq.p
  rw [hL] at hst
  refine wpIn_rangeFunc_ownN (F := Fence.wide.inRound l₀) (n := 7) (l₀ := l₀) rfl hl₀ (by decide) (gf := 46) hg trivial (enters_of Try.func46 (by kernel_rfl) rfl)
    (hst.inRound l₀) (fun h k => h.trans k) (fun W l o o' _ h1 h2 _ => KeepT.put W l o o' h1 h2) (Below.refl _ _) (fun _ => rfl) I Ix hI hIx h0
    (fun x => BoxX w x (frameB a s0 s1 b v x)) (fun x a' => BoxX.own x _ a') ?_ ?_ ?_ hstop
  · intro l pre x W K hi hK
    exact hassign l pre x W K hi (hK _ _ (keepsFrom_touch (S := []) ((Touch.refl [] W).alloc _) (by simp)) (KeepT.touch (S := []) ((Touch.refl [] W).alloc _) (by simp)) (hIa _ _ _ hi) ⟨W.heap.size, hIs _ _ hi, box_at W _, rfl⟩)
  · rintro l pre x a' W hl hr hi ⟨Bx, hBx, hx, rfl⟩ hlen
    exact hbody l pre x Bx W hl hr hi hBx hx hlen
  · rintro xs W rfl hi
    exact hdone W hi
theorem seq_some2 (w : World) (f : Fn) (x y : Array Value) : (binOp .eql 42 (.func f x y) .nilFunc).run Try.prog w = .ok (.bool false) w := run_eql_func_nil w _ f x y Try.underlying42
theorem OwnFrom.pure_ {β : Type} {B : Nat} (p : β → Prop) : OwnFrom B (fun s (_ : World) => p s) := fun _ _ _ _ hs _ _ => hs
/-- The cells of entry i of a list of prefixes. -/
theorem RdX.cell_ {w : World} {A : Option Addr} {n : Nat} {l : List Px} (h : RdX w A n l) {i : Nat} {p : Px} (hp : l[i]? = some p) :
    ∃ b off, A = some ⟨b, off, none⟩ ∧ w.cell? ⟨b, off + i * 2, none⟩ = some (.int .u32 p.a) ∧ w.cell? ⟨b, off + i * 2 + 1, none⟩ = some (.int .i64 p.n) := by
  obtain ⟨b, off, hA, _, hc⟩ := h.at_ (by have := (List.getElem?_eq_some_iff.1 hp).1; have := h.len; omega)
  exact ⟨b, off, hA, (hc i p hp).1, (hc i p hp).2⟩
theorem pre_nextA {α : Type} {pre L : List α} {x e : α} (h : pre <+: L) (he : L[pre.length]? = some e) : pre ++ [x] <+: L ↔ x = e := by
  obtain ⟨r, rfl⟩ := h
  rw [List.getElem?_append_right (Nat.le_refl _), Nat.sub_self] at he
  cases r with
  | nil => simp at he
  | cons y r =>
    simp at he
    subst he
    constructor
    · intro h
      have := (List.prefix_append_right_inj pre).1 h
      simpa using this
    · rintro rfl
      exact ⟨r, by simp⟩
theorem pre_map {α β : Type} (f : α → β) {pre L : List α} (h : pre <+: L) : pre.map f <+: L.map f := by
  obtain ⟨r, rfl⟩ := h
  exact ⟨r.map f, by simp⟩
structure NestI (W0 : World) (B : Nat) (LP : List Px) (pre : List Ent) (W : World) : Prop where
  n : W.heap[B]? = some (.cells #[.int .i64 pre.length] 3 (0, 0))
  pf : pre.map (·.1) <+: LP
  touch : Touch [B] W0 W
theorem NestI.own {W0 : World} {B : Nat} {LP : List Px} : OwnFrom W0.heap.size (NestI W0 B LP) := by
  rintro s W W' row ⟨h1, h2, h3⟩ hg hr
  have hr' : RowNo W W0.heap.size row := hr
  exact ⟨touch_box (touch_grown hg) h1 (hr'.cells h1), h2, h3.trans (touch_grown hg) (fun x hx => .inr (hr x (by simpa using hx)).1)⟩
structure NestAt (N : Nat) (W : World) (tb : Nat) (t : T) (S : List Nat) (k BO aO : Nat) (mO : Int) (BI aI : Nat) (mI : Int) (LO LI : List Ent) (AO AI : Option Addr) (cO cI b5 : Nat) : Prop where
  tr : TrieAt W tb t S k
  so : SeqAt W BO tb aO mO
  si : SeqAt W BI tb aI mI
  ro : RdX W AO LO.length (LO.map (·.1))
  ri : RdX W AI LI.length (LI.map (·.1))
  x5 : W.heap[b5]? = some (.cells #[.func (.func 46) #[] #[.pointer (some ⟨BI + 1, 0, none⟩), .pointer (some ⟨BI, 0, none⟩)]] 42 (0, 0))
  x6 : W.heap[b5 + 1]? = some (.cells #[.slice AO LO.length cO] 22 (0, 0))
  x7 : W.heap[b5 + 1 + 1]? = some (.cells #[.slice AI LI.length cI] 22 (0, 0))
  x8 : W.heap[b5 + 1 + 1 + 1]? = some (.cells #[.bool false] 4 (0, 0))
  lt : (∀ x ∈ S, x < N) ∧ BO + 1 < N ∧ BI + 1 < N ∧ (∀ b, (Value.slice AO LO.length 0).ownBlock = some b → b < N) ∧ (∀ b, (Value.slice AI LI.length 0).ownBlock = some b → b < N) ∧ b5 + 1 + 1 + 1 < N
theorem NestAt.kept {N : Nat} {W W' : World} {tb : Nat} {t : T} {S : List Nat} {k BO aO : Nat} {mO : Int} {BI aI : Nat} {mI : Int} {LO LI : List Ent} {AO AI : Option Addr} {cO cI b5 : Nat} (h : NestAt N W tb t S k BO aO mO BI aI mI LO LI AO AI cO cI b5) {X : List Nat} (tt : Touch X W W') (hx : ∀ x ∈ X, N ≤ x) : NestAt N W' tb t S k BO aO mO BI aI mI LO LI AO AI cO cI b5 := by
  obtain ⟨h1, h2, h3, h4, h5, h6⟩ := h.lt
  have no : ∀ b, b < N → b ∉ X := fun b hb hm => by have := hx b hm; omega
  exact ⟨h.tr.kept tt (fun x hx => no _ (h1 x hx)), h.so.kept tt (no _ (by omega)) (no _ h2), h.si.kept tt (no _ (by omega)) (no _ h3), h.ro.kept_ tt (fun b hb => no _ (h4 b hb)), h.ri.kept_ tt (fun b hb => no _ (h5 b hb)),
    touch_box tt h.x5 (no _ (by omega)), touch_box tt h.x6 (no _ (by omega)), touch_box tt h.x7 (no _ (by omega)), touch_box tt h.x8 (no _ h6), h.lt⟩
set_option maxHeartbeats 8000000 in
set_option maxRecDepth 100000 in
theorem nested_calls {w : World} {tb : Nat} {t : T} {S : List Nat} {k : Nat} (h : TrieAt w tb t S k) (hk : 48 * k ≤ 140737488355328) {BO aO BI aI : Nat} {mO mI : Int} (hO : SeqAt w BO tb aO mO) (hI : SeqAt w BI tb aI mI) (haO : aO < 4294967296) (haI : aI < 4294967296)
    {LO LI : List Ent} (hLO : insideL t aO mO = LO) (hLI : insideL t aI mI = LI) {AO AI : Option Addr} {cO cI : Nat} (hAO : RdX w AO LO.length (LO.map (·.1))) (hAI : RdX w AI LI.length (LI.map (·.1))) (hlo : LO.length ≤ 400) (hli : LI.length ≤ 400)
    (hbO : ∀ b, (Value.slice AO LO.length 0).ownBlock = some b → b < w.heap.size) (hbI : ∀ b, (Value.slice AI LI.length 0).ownBlock = some b → b < w.heap.size) :
    Calls Try.prog 22 #[seqV BO, seqV BI, .slice AO LO.length cO, .slice AI LI.length cI] w fun e w' => e = .returned (.bool true) ∧ Touch [] w w' := by
  have H := Lib.hid h
  have SO := Lib.hid hO
  have SI := Lib.hid hI
  have RO := Lib.hid hAO
  have RI := Lib.hid hAI
  have HLO := Lib.hid hLO
  have HLI := Lib.hid hLI
  have BBO := Lib.hid hbO
  have BBI := Lib.hid hbI
  have hg := guard32
  clear h hO hI hAO hAI hLO hLI hbO hbI
  refine calls_marks Try.func22 rfl ?_
  simp only [Try.ntmps22, List.size_toArray, List.length_cons, List.length_nil, Nat.reduceAdd, Nat.reduceSub, Array.replicate_succ, Array.replicate_zero, List.push_toArray, List.append_toArray, List.nil_append, List.cons_append]
  unfold seqV
  have hn1 := fun w' => seq_some2 w' (.func 46) #[] #[.pointer (some ⟨BO + 1, 0, none⟩), .pointer (some ⟨BO, 0, none⟩)]
  have hn2 := fun w' => seq_some2 w' (.func 46) #[] #[.pointer (some ⟨BI + 1, 0, none⟩), .pointer (some ⟨BI, 0, none⟩)]
  go_wp2_with fail
  obtain ⟨W0, hW0⟩ : ∃ W0 : World, W0 = ((((w.alloc (.cells #[.func (.func 46) #[] #[.pointer (some ⟨BI + 1, 0, none⟩), .pointer (some ⟨BI, 0, none⟩)]] 42)).alloc (.cells #[.slice AO LO.length cO] 22)).alloc (.cells #[.slice AI LI.length cI] 22)).alloc (.cells #[.bool false] 4)).alloc (.cells #[.int .i64 0] 3) := ⟨_, rfl⟩
  have t0 : Touch [] w W0 := by rw [hW0]; exact (((((Touch.refl [] w).alloc _).alloc _).alloc _).alloc _).alloc _
  obtain ⟨b5, hb5⟩ : ∃ b5, b5 = w.heap.size := ⟨_, rfl⟩
  have Y5 : W0.heap[b5]? = some (.cells #[.func (.func 46) #[] #[.pointer (some ⟨BI + 1, 0, none⟩), .pointer (some ⟨BI, 0, none⟩)]] 42 (0, 0)) := by rw [hW0, hb5]; exact box_keep _ (box_keep _ (box_keep _ (box_keep _ (box_at w _))))
  have Y6 : W0.heap[b5 + 1]? = some (.cells #[.slice AO LO.length cO] 22 (0, 0)) := by rw [hW0, hb5]; exact box_keep _ (box_keep _ (box_keep _ (box_at' _ _ _ (by simp))))
  have Y7 : W0.heap[b5 + 1 + 1]? = some (.cells #[.slice AI LI.length cI] 22 (0, 0)) := by rw [hW0, hb5]; exact box_keep _ (box_keep _ (box_at' _ _ _ (by simp)))
  have Y8 : W0.heap[b5 + 1 + 1 + 1]? = some (.cells #[.bool false] 4 (0, 0)) := by rw [hW0, hb5]; exact box_keep _ (box_at' _ _ _ (by simp))
  have Y9 := Lib.hid (show W0.heap[b5 + 1 + 1 + 1 + 1]? = some (.cells #[.int .i64 (([] : List Ent).length : Int)] 3 (0, 0)) by rw [hW0, hb5]; exact box_at' _ _ _ (by simp))
  have NA := Lib.hid (show NestAt (b5 + 1 + 1 + 1 + 1) W0 tb t S k BO aO mO BI aI mI LO LI AO AI cO cI b5 from
    ⟨H.out.kept t0 (by simp), SO.out.kept t0 (by simp) (by simp), SI.out.kept t0 (by simp) (by simp), RO.out.kept t0, RI.out.kept t0, Y5, Y6, Y7, Y8, fun x hx => by have := H.out.lt x hx; omega, by have := SO.out.lt; omega, by have := SI.out.lt; omega, fun b hb => by have := BBO.out b hb; omega, fun b hb => by have := BBI.out b hb; omega, by omega⟩)
  have T0 := Lib.hid t0
  have hlt9 : b5 + 1 + 1 + 1 + 1 < W0.heap.size := (Array.getElem?_eq_some_iff.1 Y9.out).1
  rw [← hW0]
  have HB5 := Lib.hid hb5
  rw [← hb5]
  clear hW0 t0 Y5 Y6 Y7 Y8 hb5 hn1 hn2
  refine wp_range2 20 21 10 21 (by rfl) NA.out.tr hk haO NA.out.so HLO.out (NestI W0 (b5 + 1 + 1 + 1 + 1) (LO.map (·.1))) (fun c pre _ => c = .ret ∧ ¬ pre.map (·.1) <+: LO.map (·.1)) NestI.own (fun c => OwnFrom.pure_ _)
    ⟨Y9.out, by simp, Touch.refl _ _⟩ ?assign ?body (fun pre W o h => ⟨box_keep _ h.n, h.pf, h.touch.alloc _⟩) (fun pre W h => h.touch.size) ?done ?stop
  case assign =>
    intro l pre x W K hI hK
    simp only [encE]
    gi_wp2
    exact hK
  case body =>
    intro l pre x Bx W' hl hr hI hBx hx hlen
    simp only [frameB, List.setIfInBounds_toArray, List.set_cons_succ, List.set_cons_zero]
    obtain ⟨r, hr⟩ := hr
    have HI := Lib.hid hI
    have HX := Lib.hid hx
    have HBX := Lib.hid hBx
    have HRR := Lib.hid hr
    have NW := Lib.hid (NA.out.kept hI.touch (by simp))
    have hW0W := hI.touch.size
    clear hI hx hBx hr hl
    obtain ⟨p5, _⟩ := one_cells NW.out.x5
    have p5a := fun o => cell_touch ((Touch.refl [] W').alloc o) p5 (by simp)
    gi_wp2
    obtain ⟨WI, hWI⟩ : ∃ WI : World, WI = W'.alloc (.cells #[.int .i64 0] 3) := ⟨_, rfl⟩
    have tI : Touch [] W' WI := by rw [hWI]; exact (Touch.refl [] W').alloc _
    have Y11 := Lib.hid (show WI.heap[W'.heap.size]? = some (.cells #[.int .i64 (([] : List Ent).length : Int)] 3 (0, 0)) by rw [hWI]; exact box_at W' _)
    have NI := Lib.hid (NW.out.kept tI (by simp))
    have TI := Lib.hid tI
    have HL := Lib.hid (touch_box tI HRR.out (by simp))
    have h11 : W'.heap.size < WI.heap.size := (Array.getElem?_eq_some_iff.1 Y11.out).1
    rw [← hWI]
    clear hWI tI p5 p5a
    generalize hB11 : W'.heap.size = B11 at *
    have HB11 := Lib.hid hB11
    clear hB11
    refine wpIn_range2 23 24 12 24 HL.out (by rfl) NI.out.tr hk haI NI.out.si HLI.out (NestI WI B11 (LI.map (·.1))) (fun c pre _ => c = .ret ∧ ¬ pre.map (·.1) <+: LI.map (·.1)) NestI.own (fun c => OwnFrom.pure_ _)
      ⟨Y11.out, by simp, Touch.refl _ _⟩ ?assign2 ?body2 (fun pre W o h => ⟨box_keep _ h.n, h.pf, h.touch.alloc _⟩) (fun pre W h => h.touch.size) ?done2 ?stop2
    case assign2 =>
      intro l pre x W K hI hK
      simp only [encE]
      gi_wp2
      exact hK
    case body2 =>
      intro l2 pre2 x2 Bx2 V hl2 hr2 hI2 hBx2 hx2 hlen2
      simp only [frameB, List.setIfInBounds_toArray, List.set_cons_succ, List.set_cons_zero]
      have HI2 := Lib.hid hI2
      have NV := Lib.hid (NI.out.kept hI2.touch (by simp; omega))
      obtain ⟨p11, g11⟩ := one_cells hI2.n
      obtain ⟨p7, _⟩ := one_cells NV.out.x7
      obtain ⟨p8, g8⟩ := one_cells NV.out.x8
      obtain ⟨z0, z1, _⟩ := two_cells hx2
      obtain ⟨e, he⟩ : ∃ e, (LI.map (·.1))[pre2.length]? = some e := ⟨_, List.getElem?_eq_getElem (by simpa using hlen2)⟩
      obtain ⟨gb, go, hAI, m0, m1⟩ := NV.out.ri.cell_ he
      have hnx := pre_nextA (x := x2.1) hI2.pf (by simpa using he)
      have b1 : decide ((LI.length : Int) ≤ (pre2.length : Int)) = false := by rw [decide_eq_false_iff_not]; omega
      have b2 : decide (LI.length ≤ pre2.length) = false := by rw [decide_eq_false_iff_not]; omega
      have b3 : (pre2.length : Int) < (LI.length : Int) := by omega
      have b4 : (pre2.length : Int) < 400 := by omega
      have n11 := fun u : Near V => u.cell p11
      have n7 := fun u : Near V => u.cell p7
      have nz0 := fun u : Near V => u.cell z0
      have nz1 := fun u : Near V => u.cell z1
      have nm0 := fun u : Near V => u.cell m0
      have nm1 := fun u : Near V => u.cell m1
      have P11 := Lib.hid p11
      have G11 := Lib.hid g11
      have P8 := Lib.hid p8
      have G8 := Lib.hid g8
      have X8 := Lib.hid NV.out.x8
      clear hI2 hx2 hBx2 hr2 hl2 he m0 m1 z0 z1
      subst hAI
      by_cases hp : x2.1 = e
      · have hneq := fun w => px_neq x2.1.a x2.1.n e.a e.n true (px_beq hp) w
        have HP := Lib.hid (hnx.2 hp)
        clear hp hnx
        gi_wp2
        refine wpIn_round_near (by kernel_rfl) (by kernel_rfl) (by kernel_rfl) ?_
        repeat (go_big_quiet_step (fail))
        refine wpQuiet_nil ?_
        rintro _ ⟨u2, rfl⟩
        have p11b := u2.cell P11.out
        have g11b := frozen_touch u2.near P11.out G11.out (by simp)
        clear n11 n7 nz0 nz1 nm0 nm1 hneq
        gi_wp2
        have tX : Touch [B11] V (u2.w.setCell ⟨B11, 0, none⟩ (.int .i64 ((pre2.length : Int) + 1))) := (u2.near.mono (by simp)).setCell _ _ (.inl (by simp))
        refine ⟨keepsFrom_touch tX (fun y hy => ?_), KeepT.touch tX (fun y hy c f hc => ?_), ⟨?_, ?_, HI2.out.touch.trans tX (fun y hy => .inl hy)⟩⟩
        · simp at hy; subst hy; exact ⟨_, _, _, HI2.out.n⟩
        · simp at hy; subst hy; rw [HI2.out.n] at hc; cases hc
        · have := box_set (o := 0) (touch_box u2.near HI2.out.n (by simp)) (.int .i64 ((pre2.length : Int) + 1))
          simpa using this
        · rw [List.map_append]; exact HP.out
      · have hneq := fun w => px_neq x2.1.a x2.1.n e.a e.n false (px_bne hp) w
        have HN : Hid (¬ (pre2 ++ [x2]).map (·.1) <+: LI.map (·.1)) := Lib.hid (by rw [List.map_append]; exact fun h => hp (hnx.1 h))
        clear hp hnx
        gi_wp2
        refine wpIn_round_near (by kernel_rfl) (by kernel_rfl) (by kernel_rfl) ?_
        repeat (go_big_quiet_step (fail))
        refine wpQuiet_nil ?_
        rintro _ ⟨u2, rfl⟩
        have p8b := u2.cell P8.out
        have g8b := frozen_touch u2.near P8.out G8.out (by simp)
        clear n11 n7 nz0 nz1 nm0 nm1 hneq
        gi_wp2
        have tX : Touch [b5 + 1 + 1 + 1] V (u2.w.setCell ⟨b5 + 1 + 1 + 1, 0, none⟩ (.bool false)) := (u2.near.mono (by simp)).setCell _ _ (.inl (by simp))
        exact ⟨keepsFrom_touch tX (fun y hy => by simp at hy; subst hy; exact ⟨_, _, _, X8.out⟩), rfl, HN.out⟩
    case done2 =>
      intro V hI2
      have T3 := Lib.hid (TI.out.trans hI2.touch (fun x hx => .inr (by simp at hx; have := HB11.out; omega)))
      have NV := Lib.hid (NI.out.kept hI2.touch (by simp; omega))
      obtain ⟨p11, _⟩ := one_cells hI2.n
      obtain ⟨p7, _⟩ := one_cells NV.out.x7
      obtain ⟨p6, _⟩ := one_cells NV.out.x6
      obtain ⟨p8, g8⟩ := one_cells NV.out.x8
      have X9 := Lib.hid (touch_box T3.out HI.out.n (by simp))
      obtain ⟨p9, g9⟩ := one_cells X9.out
      obtain ⟨z0, z1, _⟩ := two_cells (touch_box T3.out HX.out (by simp))
      obtain ⟨e, he⟩ : ∃ e, (LO.map (·.1))[pre.length]? = some e := ⟨_, List.getElem?_eq_getElem (by simpa using hlen)⟩
      obtain ⟨gb, go, hAO, m0, m1⟩ := NV.out.ro.cell_ he
      have hnx := pre_nextA (x := x.1) HI.out.pf (by simpa using he)
      have b1 : decide ((LO.length : Int) ≤ (pre.length : Int)) = false := by rw [decide_eq_false_iff_not]; omega
      have b2 : decide (LO.length ≤ pre.length) = false := by rw [decide_eq_false_iff_not]; omega
      have b3 : (pre.length : Int) < (LO.length : Int) := by omega
      have b4 : (pre.length : Int) < 400 := by omega
      have n11 := fun u : Near V => u.cell p11
      have n7 := fun u : Near V => u.cell p7
      have n6 := fun u : Near V => u.cell p6
      have n9 := fun u : Near V => u.cell p9
      have nz0 := fun u : Near V => u.cell z0
      have nz1 := fun u : Near V => u.cell z1
      have nm0 := fun u : Near V => u.cell m0
      have nm1 := fun u : Near V => u.cell m1
      have P9 := Lib.hid p9
      have G9 := Lib.hid g9
      have P8 := Lib.hid p8
      have G8 := Lib.hid g8
      have X8 := Lib.hid NW.out.x8
      clear hI2 he m0 m1 z0 z1
      subst hAO
      by_cases hp : x.1 = e
      · have hneq := fun w => px_neq x.1.a x.1.n e.a e.n true (px_beq hp) w
        have HP := Lib.hid (hnx.2 hp)
        clear hp hnx
        gi_wp2
        refine wpIn_round_near (by kernel_rfl) (by kernel_rfl) (by kernel_rfl) ?_
        repeat (go_big_quiet_step (fail))
        refine wpQuiet_nil ?_
        rintro _ ⟨u2, rfl⟩
        have p9b := u2.cell P9.out
        have g9b := frozen_touch u2.near P9.out G9.out (by simp)
        clear n11 n7 n6 n9 nz0 nz1 nm0 nm1 hneq
        gi_wp2
        have tX : Touch [b5 + 1 + 1 + 1 + 1] W' (u2.w.setCell ⟨b5 + 1 + 1 + 1 + 1, 0, none⟩ (.int .i64 ((pre.length : Int) + 1))) := ((T3.out.trans u2.near (by simp)).mono (by simp)).setCell _ _ (.inl (by simp))
        refine ⟨keepsFrom_touch tX (fun y hy => ?_), KeepT.touch tX (fun y hy c f hc => ?_), ⟨?_, ?_, HI.out.touch.trans tX (fun y hy => .inl hy)⟩⟩
        · simp at hy; subst hy; exact ⟨_, _, _, HI.out.n⟩
        · simp at hy; subst hy; rw [HI.out.n] at hc; cases hc
        · have := box_set (o := 0) (touch_box u2.near X9.out (by simp)) (.int .i64 ((pre.length : Int) + 1))
          simpa using this
        · rw [List.map_append]; exact HP.out
      · have hneq := fun w => px_neq x.1.a x.1.n e.a e.n false (px_bne hp) w
        have HN : Hid (¬ (pre ++ [x]).map (·.1) <+: LO.map (·.1)) := Lib.hid (by rw [List.map_append]; exact fun h => hp (hnx.1 h))
        clear hp hnx
        gi_wp2
        refine wpIn_round_near (by kernel_rfl) (by kernel_rfl) (by kernel_rfl) ?_
        repeat (go_big_quiet_step (fail))
        refine wpQuiet_nil ?_
        rintro _ ⟨u2, rfl⟩
        have p8b := u2.cell P8.out
        have g8b := frozen_touch u2.near P8.out G8.out (by simp)
        clear n11 n7 n6 n9 nz0 nz1 nm0 nm1 hneq
        gi_wp2
        have tX : Touch [b5 + 1 + 1 + 1] W' (u2.w.setCell ⟨b5 + 1 + 1 + 1, 0, none⟩ (.bool false)) := ((T3.out.trans u2.near (by simp)).mono (by simp)).setCell _ _ (.inl (by simp))
        exact ⟨keepsFrom_touch tX (fun y hy => by simp at hy; subst hy; exact ⟨_, _, _, X8.out⟩), rfl, HN.out⟩
    case stop2 =>
      rintro c pre2 V hpre ⟨rfl, hn⟩
      exact absurd (pre_map _ hpre) hn
  case done =>
    intro D V hD hI hK
    have NV := Lib.hid (NA.out.kept hI.touch (by simp))
    obtain ⟨p9, _⟩ := one_cells hI.n
    obtain ⟨p6, _⟩ := one_cells NV.out.x6
    obtain ⟨p8, g8⟩ := one_cells NV.out.x8
    have TI := Lib.hid hI.touch
    have HK := Lib.hid hK
    clear hI hK
    unfold mark
    go_wp2
    have X8 := Lib.hid NV.out.x8
    have hb := HB5.out
    have hDW := hlt9
    have t8 : Touch [b5 + 1 + 1 + 1] V (V.setCell ⟨b5 + 1 + 1 + 1, 0, none⟩ (.bool true)) := (Touch.refl _ V).setCell _ _ (.inl (by simp))
    have b8 : (V.setCell ⟨b5 + 1 + 1 + 1, 0, none⟩ (.bool true)).heap[b5 + 1 + 1 + 1]? = some (.cells #[.bool true] 4 (0, 0)) := by simpa using box_set (o := 0) X8.out (.bool true)
    refine leaves_marks [D] _ (by simp) (fun E hE => ?_) (fun W' t' => ?_)
    · simp at hE; subst hE; exact touch_box t8 HK.out (by simp; omega)
    · obtain ⟨r6, _⟩ := one_cells (touch_box t' b8 (by simp; omega))
      refine ⟨.bool true, ?_, rfl, ((T0.out.trans TI.out (fun x hx => .inr (by simp at hx; omega))).trans t8 (fun x hx => .inr (by simp at hx; omega))).trans t' (fun x hx => .inr (by simp at hx; omega))⟩
      simp [results, Try.f22, go_sem, r6]
  case stop =>
    rintro D c pre V hD hpre ⟨rfl, hn⟩ hK
    exact absurd (pre_map _ hpre) hn
end Go.Proofs.Ytmklkdhpbehfeaa.Tri
