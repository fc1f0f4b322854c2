/- The reference: inside, first, forks; no condition. -/
import Derived.Test.YtmklkdhpbehfeaaRB
import Derived.Test.YtmklkdhpbehfeaaForks
namespace Go.Proofs.Ytmklkdhpbehfeaa.Tri
open Go.RowKit Go.Maps
set_option linter.unusedVariables false

theorem mask_iff {p : Px} (hp : p.ok) {a : Nat} : maskOf a p.n = p.a ↔ top a p.n = top p.a p.n := by
  constructor
  · intro h
    rw [← h, top_mask]
  · intro h
    rw [← hp.2.2, maskOf_eq]; exact h
theorem half_eq {n : Nat} (h : n < 32) : 2 ^ (32 - n) = 2 * 2 ^ (31 - n) := by
  rw [show 32 - n = (31 - n) + 1 by omega, Nat.pow_succ, Nat.mul_comm]
theorem even_mask {q : Px} (hq : q.ok) (h : q.n < 32) : q.a = 2 * top q.a q.n * 2 ^ (31 - q.n) := by
  have h1 := hq.2.2
  rw [maskOf_top, half_eq h] at h1
  conv => lhs; rw [← h1]
  rw [Nat.mul_comm 2 (2 ^ (31 - q.n)), ← Nat.mul_assoc, Nat.mul_comm _ 2, Nat.mul_assoc]
theorem left_ok {q : Px} (hq : q.ok) (h : q.n < 32) : Px.ok ⟨q.a, q.n + 1⟩ := by
  refine ⟨by show q.n + 1 ≤ 32; omega, hq.2.1, ?_⟩
  have e := even_mask hq h
  show maskOf q.a (q.n + 1) = q.a
  unfold maskOf
  rw [show 32 - (q.n + 1) = 31 - q.n by omega]
  have hs : 0 < 2 ^ (31 - q.n) := Nat.two_pow_pos _
  conv => lhs; rw [e]
  rw [Nat.mul_div_cancel _ hs]
  exact e.symm
theorem left_top {q : Px} (hq : q.ok) (h : q.n < 32) : top q.a (q.n + 1) = 2 * top q.a q.n := by
  have e := even_mask hq h
  have hs : 0 < 2 ^ (31 - q.n) := Nat.two_pow_pos _
  show q.a / 2 ^ (32 - (q.n + 1)) = _
  rw [show 32 - (q.n + 1) = 31 - q.n by omega]
  conv => lhs; rw [e]
  rw [Nat.mul_div_cancel _ hs]
theorem right_ok {q : Px} (hq : q.ok) (h : q.n < 32) : Px.ok ⟨q.a + 2 ^ (32 - (q.n + 1)), q.n + 1⟩ ∧ top (q.a + 2 ^ (32 - (q.n + 1))) (q.n + 1) = 2 * top q.a q.n + 1 := by
  have e := even_mask hq h
  have hs : 0 < 2 ^ (31 - q.n) := Nat.two_pow_pos _
  have hh := half_eq h
  have hlt := hq.2.1
  have e2 : q.a + 2 ^ (31 - q.n) = (2 * top q.a q.n + 1) * 2 ^ (31 - q.n) := by rw [Nat.add_mul, Nat.one_mul, ← e]
  have hd : (q.a + 2 ^ (31 - q.n)) / 2 ^ (31 - q.n) = 2 * top q.a q.n + 1 := by rw [e2, Nat.mul_div_cancel _ hs]
  rw [show 32 - (q.n + 1) = 31 - q.n by omega]
  have hp32 : 2 ^ (31 - q.n) * 2 ^ (q.n + 1) = 4294967296 := by rw [← Nat.pow_add, show 31 - q.n + (q.n + 1) = 32 by omega]
  have hpe : 2 ^ (q.n + 1) = 2 * 2 ^ q.n := by rw [Nat.pow_succ, Nat.mul_comm]
  refine ⟨⟨by show q.n + 1 ≤ 32; omega, ?_, ?_⟩, ?_⟩
  · show q.a + 2 ^ (31 - q.n) < 4294967296
    rw [e2, ← hp32]
    rw [e, ← hp32, Nat.mul_comm (2 ^ (31 - q.n))] at hlt
    have hm := Nat.lt_of_mul_lt_mul_right hlt
    rw [Nat.mul_comm (2 ^ (31 - q.n))]
    exact Nat.mul_lt_mul_of_pos_right (by omega) hs
  · show maskOf (q.a + 2 ^ (31 - q.n)) (q.n + 1) = _
    unfold maskOf
    rw [show 32 - (q.n + 1) = 31 - q.n by omega, hd, e2]
  · unfold top
    rw [show 32 - (q.n + 1) = 31 - q.n by omega]
    exact hd
theorem ins_left {e q : Px} (he : e.n ≤ 32) (hq : q.ok) (h : q.n < 32) : ins e ⟨q.a, q.n + 1⟩ ↔ onSide e q 0 := by
  have h1 := left_top hq h
  have h3 := bitOf_lt e.a q.n
  unfold ins onSide
  dsimp only
  rw [h1]
  constructor
  · rintro ⟨a, b⟩
    rw [top_succ (a := e.a) (by omega)] at b
    exact ⟨by omega, ⟨by omega, by omega⟩, by omega⟩
  · rintro ⟨a, ⟨b, c⟩, d⟩
    rw [top_succ (a := e.a) (by omega)]
    exact ⟨by omega, by rw [c, d]; rfl⟩
theorem ins_right {e q : Px} (he : e.n ≤ 32) (hq : q.ok) (h : q.n < 32) : ins e ⟨q.a + 2 ^ (32 - (q.n + 1)), q.n + 1⟩ ↔ onSide e q 1 := by
  have h1 := (right_ok hq h).2
  have h3 := bitOf_lt e.a q.n
  unfold ins onSide
  dsimp only
  rw [h1]
  constructor
  · rintro ⟨a, b⟩
    rw [top_succ (a := e.a) (by omega)] at b
    exact ⟨by omega, ⟨by omega, by omega⟩, by omega⟩
  · rintro ⟨a, ⟨b, c⟩, d⟩
    rw [top_succ (a := e.a) (by omega)]
    exact ⟨by omega, by rw [c, d]⟩

set_option maxHeartbeats 1000000 in
theorem rinside_calls (q p : Px) (w : World) (hp : p.ok) (hqa : q.a < 4294967296) (r : Bool) (hr : r = decide (ins q p)) :
    Calls Try.prog 81 #[.agg #[.int .u32 q.a, .int .i64 q.n], .agg #[.int .u32 p.a, .int .i64 p.n]] w fun e w' => e = .returned (.bool r) ∧ Touch [] w w' := by
  by_cases h : p.n ≤ q.n
  · have e1 : decide ((p.n : Int) ≤ (q.n : Int)) = true := by rw [decide_eq_true_eq]; omega
    have e1' : (p.n : Int) ≤ (q.n : Int) := by omega
    have hr2 : Hid (r = decide (maskOf q.a p.n = p.a)) := Lib.hid (by rw [hr]; simp only [mask_iff hp, ins, h, true_and])
    have HP := Lib.hid hp
    clear hr hp
    go_enter Try.func81, Try.ntmps81
    go_wp2_with fail
    refine (rholds_calls p q.a _ HP.out hqa r hr2.out).mono ?_
    rintro e w1 ⟨rfl, t1⟩
    have T1 := Lib.hid ((((Touch.refl [] w).alloc _).alloc _).trans t1 (by simp))
    clear t1
    go_wp2
    go_ret
    exact ⟨rfl, T1.out⟩
  · have e1 : decide ((p.n : Int) ≤ (q.n : Int)) = false := by rw [decide_eq_false_iff_not]; omega
    have e1' : decide (p.n ≤ q.n) = false := by rw [decide_eq_false_iff_not]; exact h
    have hr2 : r = false := by rw [hr, decide_eq_false_iff_not]; exact fun hi => h hi.1
    subst hr2
    clear hr h hp
    go_enter Try.func81, Try.ntmps81
    go_wp2
    go_ret
    exact ⟨rfl, ((Touch.refl [] w).alloc _).alloc _⟩
theorem rinside_near {w0 : World} (u : Near w0) (q p : Px) (hp : p.ok) (hqa : q.a < 4294967296) (r : Bool) (hr : r = decide (ins q p)) :
    Calls Try.prog 81 #[.agg #[.int .u32 q.a, .int .i64 q.n], .agg #[.int .u32 p.a, .int .i64 p.n]] u.w fun e w' => e = .returned (.bool r) ∧ ∃ x : Near w0, w' = x.w :=
  near_call u (rinside_calls q p u.w hp hqa r hr)
def FirstR (l : List Ent) (p : Px) (r : Int) : Prop := (r = -1 ∧ ∀ e, e ∈ l → ¬ ins e.1 p) ∨ ∃ k : Nat, r = (k : Int) ∧ FirstAt l p k
def RFirstPost (w : World) (l : List Ent) (p : Px) (e : Ending) (w' : World) : Prop := ∃ r, e = .returned (.int .i64 r) ∧ FirstR l p r ∧ Touch [] w w'
set_option maxHeartbeats 4000000 in
set_option maxRecDepth 100000 in
theorem rfirst_calls {w : World} {rb : Nat} {V : Value} {l : List Ent} (h : RefT w rb V l) (p : Px) (hp : p.ok) (hlen : l.length < 4611686018427387904) :
    Calls Try.prog 85 #[.pointer (some ⟨rb, 0, none⟩), .agg #[.int .u32 p.a, .int .i64 p.n]] w (RFirstPost w l p) := by
  have H := Lib.hid h
  obtain ⟨A, cap, rfl⟩ := h.row.form
  have HP := Lib.hid hp
  have hg := guard32
  clear h hp
  go_enter Try.func85, Try.ntmps85
  go_wp2
  obtain ⟨W1, hW1⟩ : ∃ W1 : World, W1 = w.alloc (.cells #[.int .u32 p.a, .int .i64 p.n] 32) := ⟨_, rfl⟩
  rw [← hW1]
  have X1 := Lib.hid (show W1.heap[w.heap.size]? = some (.cells #[.int .u32 p.a, .int .i64 p.n] 32 (0, 0)) by rw [hW1]; exact box_at w _)
  have T1 := Lib.hid (show Touch [] w W1 by rw [hW1]; exact (Touch.refl [] w).alloc _)
  clear hW1
  go_loopw [5] (fun v5 wr => ∃ k : Nat, v5 = .int .i64 k ∧ k ≤ l.length ∧ Hid (∀ i e, i < k → l[i]? = some e → ¬ ins e.1 p) ∧ Hid (Touch [] W1 wr)) (fun v5 _ => l.length - (intOf v5).toNat)
  case atStart => exact ⟨0, rfl, Nat.zero_le _, Lib.hid (fun i v hi => absurd hi (Nat.not_lt_zero _)), Lib.hid (Touch.refl _ _)⟩
  case round =>
    obtain ⟨k, rfl, hk, hno, hT⟩ := hrel
    have HR := Lib.hid (H.out.kept (T1.out.trans hT.out (by simp)) (by simp))
    obtain ⟨cb, fb⟩ := one_cells HR.out.blk
    by_cases hlt : k < l.length
    · have b1 : (k : Int) < (l.length : Int) := by omega
      obtain ⟨⟨q, u⟩, hx⟩ : ∃ x, l[k]? = some x := ⟨_, List.getElem?_eq_getElem hlt⟩
      obtain ⟨g, c, hV, hgl, m0, m1, m2, _⟩ := HR.out.cell k _ hx
      injection hV with hV1 hV2 hV3
      subst hV1 hV3
      have hqa := (H.out.oks _ (List.mem_of_getElem? hx)).2.1
      dsimp only at m0 m1 m2 hqa
      obtain ⟨d0, d1, _⟩ := two_cells (touch_box hT.out X1.out (by simp))
      have n0 := fun u : Near wr => u.cell m0
      have n1 := fun u : Near wr => u.cell m1
      have n2 := fun u : Near wr => u.cell d0
      have n3 := fun u : Near wr => u.cell d1
      have n4 := fun u : Near wr => u.cell cb
      have HX := Lib.hid hx
      clear hx m0 m1 m2 d0 d1 hV2
      by_cases e : ins q p
      · have HD : Hid (true = decide (ins q p)) := Lib.hid (by rw [eq_comm, decide_eq_true_eq]; exact e)
        have HE := Lib.hid e
        clear e
        go_wp2
        refine wp_region_near (by kernel_rfl) (by kernel_rfl) ?_
        repeat (go_big_quiet_step ((go_at_call 81; exact rinside_near _ q p HP.out hqa _ HD.out)))
        refine wpQuiet_nil ?_
        rintro _ ⟨u2, rfl⟩
        clear n0 n1 n2 n3 n4
        go_wp2
        go_ret
        exact ⟨(k : Int), rfl, .inr ⟨k, rfl, ⟨_, HX.out, HE.out⟩, fun j e hj he => hno.out j e hj he⟩, (T1.out.trans hT.out (by simp)).trans u2.near (by simp)⟩
      · have HD : Hid (false = decide (ins q p)) := Lib.hid (by rw [eq_comm, decide_eq_false_iff_not]; exact e)
        have HE := Lib.hid e
        clear e
        go_wp2
        refine wp_region_near (by kernel_rfl) (by kernel_rfl) ?_
        repeat (go_big_quiet_step ((go_at_call 81; exact rinside_near _ q p HP.out hqa _ HD.out)))
        refine wpQuiet_nil ?_
        rintro _ ⟨u2, rfl⟩
        clear n0 n1 n2 n3 n4
        go_wp2
        go_roundw
        case rel => exact ⟨k + 1, by go_num, by omega, Lib.hid (fun i v hi hx => by
          rcases Nat.eq_or_lt_of_le (Nat.le_of_lt_succ hi) with h | h
          · subst h; rw [HX.out] at hx; injection hx with hx; subst hx; exact HE.out
          · exact hno.out i v h hx), Lib.hid (hT.out.trans u2.near (by simp))⟩
        case measure => simp [intOf]; omega
    · have b1 : ¬ (k : Int) < (l.length : Int) := by omega
      have HK := Lib.hid hlt
      clear hlt
      go_wp2
      go_ret
      refine ⟨_, rfl, .inl ⟨rfl, fun e hm => ?_⟩, T1.out.trans hT.out (by simp)⟩
      obtain ⟨i, hi⟩ := List.mem_iff_getElem?.1 hm
      have hil := (List.getElem?_eq_some_iff.1 hi).1
      exact hno.out i e (by have := HK.out; omega) hi
theorem FirstR.some_ {l : List Ent} {p : Px} {r : Int} (h : FirstR l p r) (hr : 0 ≤ r) : ∃ e, e ∈ l ∧ ins e.1 p := by
  rcases h with ⟨h1, _⟩ | ⟨k, _, ⟨e, he, hi⟩, _⟩
  · omega
  · exact ⟨e, List.mem_of_getElem? he, hi⟩
end Go.Proofs.Ytmklkdhpbehfeaa.Tri
