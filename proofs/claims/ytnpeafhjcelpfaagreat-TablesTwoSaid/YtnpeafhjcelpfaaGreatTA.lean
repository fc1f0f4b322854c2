/- Worlds that grow; small functions of the trie; no condition. -/
import Derived.Test.YtnpeafhjcelpfaaGreatProg
import Derived.Test.YtnpeafhjcelpfaaGreatTree2
import Derived.WalkKit
import Derived.KernelRfl
import Derived.Below
import Derived.Outline
import Derived.Lib.Hide
import Derived.RegionTactic
import Derived.BigRegion
import Derived.ChangeAlike
import Derived.BigQuiet
import Derived.Deep.QuietTactic
import Derived.Deep.Draws
import Derived.Deep.RegionHeld3
import Derived.StillTailTactics
import Derived.StillTactics
import Derived.Maps.OwnSet
import Derived.Maps.AppendAt
import Derived.Laws.BitsLemmas
import Derived.Laws.BitsAllLaws
namespace Go.Proofs.YtnpeafhjcelpfaaGreat.Tri
open Go.RowKit Go.Maps
set_option linter.unusedVariables false

/-- w' is w but for the blocks of S and new ones. -/
structure Touch (S : List Nat) (w w' : World) : Prop where
  os : w'.os = w.os
  tape : w'.tape = w.tape
  output : w'.output = w.output
  size : w.heap.size ≤ w'.heap.size
  block : ∀ k, k < w.heap.size → k ∉ S → w'.heap[k]? = w.heap[k]?

theorem Touch.refl (S : List Nat) (w : World) : Touch S w w := ⟨rfl, rfl, rfl, Nat.le_refl _, fun _ _ _ => rfl⟩
/-- Two steps: the second may also touch what is new behind the first. -/
theorem Touch.trans {S S' : List Nat} {a b c : World} (h : Touch S a b) (k : Touch S' b c) (hs : ∀ x, x ∈ S' → x ∈ S ∨ a.heap.size ≤ x) : Touch S a c :=
  ⟨k.os.trans h.os, k.tape.trans h.tape, k.output.trans h.output, Nat.le_trans h.size k.size, fun i hi hn =>
    (k.block i (Nat.lt_of_lt_of_le hi h.size) (fun hx => by rcases hs i hx with h1 | h1; exact hn h1; omega)).trans (h.block i hi hn)⟩
theorem Touch.mono {S S' : List Nat} {a b : World} (h : Touch S a b) (hs : ∀ x, x ∈ S → x ∈ S' ∨ a.heap.size ≤ x) : Touch S' a b :=
  (Touch.refl S' a).trans h hs
theorem Touch.drewN {S : List Nat} {a b : World} (h : Touch S a b) (n : Nat) : Touch S a (b.drewN n) := ⟨h.os, h.tape, h.output, h.size, h.block⟩
theorem Touch.drew {S : List Nat} {a b : World} (h : Touch S a b) : Touch S a b.drew := ⟨h.os, h.tape, h.output, h.size, h.block⟩
theorem Touch.alloc {S : List Nat} {a b : World} (h : Touch S a b) (o : Obj) : Touch S a (b.alloc o) :=
  ⟨h.os, h.tape, h.output, by simp; have := h.size; omega, fun k hk hn => (Below.heap_alloc b o k (Nat.lt_of_lt_of_le hk h.size)).trans (h.block k hk hn)⟩
theorem Touch.setCell {S : List Nat} {a b : World} (h : Touch S a b) (p : Addr) (v : Value) (hp : p.block ∈ S ∨ a.heap.size ≤ p.block) : Touch S a (b.setCell p v) :=
  ⟨h.os, h.tape, h.output, by simp [h.size], fun k hk hn => (Below.heap_setCell b p v k (fun e => by subst e; rcases hp with h1 | h1; exact hn h1; omega)).trans (h.block k hk hn)⟩
theorem Touch.grown {S : List Nat} {a b c : World} {row : Option Nat} (h : Touch S a b) (g : b.grownBy c row) (hr : ∀ k, row = some k → k ∈ S ∨ a.heap.size ≤ k) : Touch S a c :=
  h.trans (S' := row.toList) ⟨g.os, g.tape, g.output, g.size, fun k hk hn => g.block k hk (fun e => hn (by rw [← e]; simp))⟩ (fun x hx => hr x (by simpa using hx))
theorem Touch.below {a b : World} (h : Touch [] a b) : Below a.heap.size a b := ⟨h.os, h.tape, h.output, h.size, fun k hk => h.block k hk (by simp)⟩
theorem Touch.of_below {a b : World} (h : Below a.heap.size a b) : Touch [] a b := ⟨h.os, h.tape, h.output, h.size, fun k hk _ => h.block k hk⟩
theorem Touch.grownBy {S : List Nat} {a b : World} (h : Touch S a b) {row : Option Nat} (hr : ∀ k, k ∈ S → some k = row) : a.grownBy b row :=
  ⟨h.os, h.tape, h.output, h.size, fun k hk hn => h.block k hk (fun hx => hn (hr k hx))⟩

/-- A world that is w but for new blocks: for regions that read, and call what makes memory of its own. -/
structure Near (w0 : World) where
  w : World
  near : Touch [] w0 w
instance near_any (w0 : World) : Nonempty (Near w0) := ⟨⟨w0, Touch.refl _ _⟩⟩
theorem Near.cell {w0 : World} (u : Near w0) {a : Addr} {v : Value} (h : w0.cell? a = some v) : u.w.cell? a = some v :=
  (World.cell?_of_block (w := w0) (u.near.block a.block (World.block_lt_of_cell? w0 a h) (by simp))).trans h
theorem wp_region_near {P : Program} {id : Nat} {Q : Exit → Act → World → Prop} {a : Act} {w : World} {l : List Oper} (hm : P.follows .mixedOrders = true) (hB : Region.lexB .any l.toArray = true)
    (h : wpQuiet P l.toArray (fun w' => ∃ u : Near w, w' = u.w) (fun a' => ∀ w', (∃ u : Near w, w' = u.w) → Q .normal a' w') l a) : (Code.region id l.toArray true).wp P Q a w :=
  wp_region_quiet (C := fun w' => ∃ u : Near w, w' = u.w) hm hB ⟨⟨w.drew, (Touch.refl [] w).drew⟩, rfl⟩ (by simpa using h)
theorem near_call {P : Program} {f : FuncId} {args : Array Value} {w0 : World} (u : Near w0) {v : Value}
    (h : Calls P f args u.w fun e w' => e = .returned v ∧ Touch [] u.w w') : Calls P f args u.w fun e w' => e = .returned v ∧ ∃ x : Near w0, w' = x.w :=
  h.mono fun _ w' ⟨he, ht⟩ => ⟨he, ⟨w', u.near.trans ht (by simp)⟩, rfl⟩

theorem cell_touch {w w' : World} {S : List Nat} (t : Touch S w w') {a : Addr} {v : Value} (h : w.cell? a = some v) (hn : a.block ∉ S) : w'.cell? a = some v :=
  (World.cell?_of_block (w := w) (t.block a.block (World.block_lt_of_cell? w a h) hn)).trans h
theorem box_at (w : World) (o : Obj) : (w.alloc o).heap[w.heap.size]? = some o := heap_alloc_new w o
theorem box_keep {w : World} {k : Nat} {x : Obj} (o : Obj) (h : w.heap[k]? = some x) : (w.alloc o).heap[k]? = some x :=
  (Below.heap_alloc w o k (Array.getElem?_eq_some_iff.1 h).1).trans h
theorem box_at' (w : World) (o : Obj) (n : Nat) (h : w.heap.size = n) : (w.alloc o).heap[n]? = some o := by subst h; exact box_at w o
theorem touch_box {w w' : World} {S : List Nat} (t : Touch S w w') {k : Nat} {x : Obj} (h : w.heap[k]? = some x) (hn : k ∉ S) : w'.heap[k]? = some x :=
  (t.block k (Array.getElem?_eq_some_iff.1 h).1 hn).trans h
theorem two_cells {w : World} {k : Nat} {x y : Value} {T : TypeId} (h : w.heap[k]? = some (.cells #[x, y] T (0, 0))) :
    w.cell? ⟨k, 0, none⟩ = some x ∧ w.cell? ⟨k, 1, none⟩ = some y ∧ w.frozen? ⟨k, 0, none⟩ = false ∧ w.frozen? ⟨k, 1, none⟩ = false := by
  simp [World.cell?, World.frozen?, h]
theorem box_set {w : World} {k o : Nat} {c : Array Value} {T : TypeId} {f : Nat × Nat} (h : w.heap[k]? = some (.cells c T f)) (v : Value) :
    (w.setCell ⟨k, o, none⟩ v).heap[k]? = some (.cells (c.setIfInBounds o v) T f) := by
  simp [World.setCell, Array.getElem?_modify, h]
theorem box_other {w : World} {k : Nat} {x : Obj} (p : Addr) (v : Value) (h : w.heap[k]? = some x) (hn : k ≠ p.block) : (w.setCell p v).heap[k]? = some x :=
  (Below.heap_setCell w p v k hn).trans h
theorem two_set {w : World} {k : Nat} {x y : Value} {T : TypeId} (h : w.heap[k]? = some (.cells #[x, y] T (0, 0))) (u v : Value) :
    (w.setCell ⟨k, 0, none⟩ u).cell? ⟨k, 0, none⟩ = some u ∧ ((w.setCell ⟨k, 0, none⟩ u).setCell ⟨k, 1, none⟩ v).cell? ⟨k, 1, none⟩ = some v := by
  have h1 := box_set (o := 0) h u
  have h2 := box_set (o := 1) h1 v
  exact ⟨by simp [World.cell?, h1], by simp [World.cell?, h2]⟩
theorem ret_int {k : IntKind} {a b : Int} (h : a = b) : Ending.returned (.int k a) = .returned (.int k b) := by rw [h]
theorem bits_one {x : Int} (h0 : 0 ≤ x) (h1 : x < 4294967296) : bits .and .u32 x 1 = x % 2 := by
  have := bits_mask .u32 32 (by decide) (fun n h0 h1 => by rw [IntKind.wrap_u32]; omega) 1 (by decide) x h0 (by omega)
  simpa using this
theorem div_cast (a n : Nat) : (a : Int) / 2 ^ n = ((a / 2 ^ n : Nat) : Int) := by push_cast; rfl
theorem bit_val {a n : Nat} (ha : a < 4294967296) : RowKit.wrap64 (bits .and .u32 ((a : Int) / 2 ^ (31 - n)) 1) = ((bitOf a n : Nat) : Int) := by
  rw [div_cast]
  have h2 : a / 2 ^ (31 - n) ≤ a := Nat.div_le_self _ _
  unfold bitOf
  generalize a / 2 ^ (31 - n) = q at h2
  rw [bits_one (by omega) (by omega)]
  unfold RowKit.wrap64
  omega
theorem mask_val {a n : Nat} (ha : a < 4294967296) : (a : Int) / 2 ^ (32 - n) * 2 ^ (32 - n) % 4294967296 = ((maskOf a n : Nat) : Int) := by
  rw [div_cast]
  have h2 := maskOf_le a n
  have e : ((a / 2 ^ (32 - n) : Nat) : Int) * 2 ^ (32 - n) = ((maskOf a n : Nat) : Int) := by unfold maskOf; push_cast; rfl
  rw [e]; omega
theorem mask_zero {a : Nat} (ha : a < 4294967296) : maskOf a 0 = 0 := by
  unfold maskOf; rw [Nat.div_eq_of_lt (by simpa using ha), Nat.zero_mul]

set_option maxHeartbeats 400000 in
theorem bit_calls (a n : Nat) (w : World) (ha : a < 4294967296) (hn : n ≤ 31) :
    Calls Tryz.prog 86 #[.int .u32 a, .int .i64 n] w fun e w' => e = .returned (.int .i64 (bitOf a n : Nat)) ∧ w' = w := by
  go_enter Tryz.func86, Tryz.ntmps86
  go_wp2
  go_ret
  exact ⟨ret_int (bit_val ha), rfl⟩
set_option maxHeartbeats 400000 in
theorem mask_calls (a n : Nat) (w : World) (ha : a < 4294967296) (hn : n ≤ 32) :
    Calls Tryz.prog 85 #[.int .u32 a, .int .i64 n] w fun e w' => e = .returned (.int .u32 (maskOf a n : Nat)) ∧ w' = w := by
  by_cases h : n = 0
  · subst h
    have e0 := mask_zero ha
    go_enter Tryz.func85, Tryz.ntmps85
    go_wp2
    go_ret
    exact ⟨ret_int (by rw [e0]; rfl), rfl⟩
  · have h0 : ¬ (n : Int) ≤ 0 := by omega
    clear h
    go_enter Tryz.func85, Tryz.ntmps85
    go_wp2
    go_ret
    exact ⟨ret_int (mask_val ha), rfl⟩
theorem mask_near {w0 : World} (u : Near w0) (a n : Nat) (ha : a < 4294967296) (hn : n ≤ 32) :
    Calls Tryz.prog 85 #[.int .u32 a, .int .i64 n] u.w fun e w' => e = .returned (.int .u32 (maskOf a n : Nat)) ∧ ∃ x : Near w0, w' = x.w :=
  near_call u ((mask_calls a n u.w ha hn).mono fun _ _ ⟨h1, h2⟩ => ⟨h1, by rw [h2]; exact Touch.refl _ _⟩)
theorem bit_near {w0 : World} (u : Near w0) (a n : Nat) (ha : a < 4294967296) (hn : n ≤ 31) :
    Calls Tryz.prog 86 #[.int .u32 a, .int .i64 n] u.w fun e w' => e = .returned (.int .i64 (bitOf a n : Nat)) ∧ ∃ x : Near w0, w' = x.w :=
  near_call u ((bit_calls a n u.w ha hn).mono fun _ _ ⟨h1, h2⟩ => ⟨h1, by rw [h2]; exact Touch.refl _ _⟩)
set_option maxHeartbeats 400000 in
theorem inside_yes (a n b m : Nat) (w : World) (ha : a < 4294967296) (hm : m ≤ 32) (hmn : m ≤ n) (hn : n ≤ 32) (h : maskOf a m = b) :
    Calls Tryz.prog 122 #[.agg #[.int .u32 a, .int .i64 n], .agg #[.int .u32 b, .int .i64 m]] w fun e w' => e = .returned (.bool true) ∧ Touch [] w w' := by
  have e1 : (m : Int) ≤ (n : Int) := by omega
  have e2 : (((maskOf a m : Nat) : Int) == (b : Int)) = true := by rw [h]; simp
  have hc := mask_calls a m
  have HC := Lib.hid hc
  clear h hc
  go_enter Tryz.func122, Tryz.ntmps122
  go_wp2
  go_quiet ((go_at_call 85; exact Calls.quiet_of_same (HC.out _ ha hm)))
  go_wp2
  go_ret
  exact ⟨rfl, ((((Touch.refl [] w).alloc _).alloc _).drewN _)⟩
set_option maxHeartbeats 400000 in
theorem inside_no (a n b m : Nat) (w : World) (ha : a < 4294967296) (hm : m ≤ 32) (hn : n ≤ 32) (h : m ≤ n → maskOf a m ≠ b) :
    Calls Tryz.prog 122 #[.agg #[.int .u32 a, .int .i64 n], .agg #[.int .u32 b, .int .i64 m]] w fun e w' => e = .returned (.bool false) ∧ Touch [] w w' := by
  have hc := mask_calls a m
  have HC := Lib.hid hc
  by_cases hmn : m ≤ n
  · have e1 : (m : Int) ≤ (n : Int) := by omega
    have e2 : (((maskOf a m : Nat) : Int) == (b : Int)) = false := by rw [beq_eq_false_iff_ne]; intro e; exact h hmn (by omega)
    clear h hc
    go_enter Tryz.func122, Tryz.ntmps122
    go_wp2
    go_quiet ((go_at_call 85; exact Calls.quiet_of_same (HC.out _ ha hm)))
    go_wp2
    go_ret
    exact ⟨rfl, ((((Touch.refl [] w).alloc _).alloc _).drewN _)⟩
  · have e1 : decide (m ≤ n) = false := by rw [decide_eq_false_iff_not]; omega
    clear h hc hmn
    go_enter Tryz.func122, Tryz.ntmps122
    go_wp2
    go_quiet (fail)
    go_wp2
    go_ret
    exact ⟨rfl, ((((Touch.refl [] w).alloc _).alloc _).drewN _)⟩
theorem pow_bd {n : Nat} (hn : n ≤ 32) : 1 ≤ 2 ^ (32 - n) ∧ 2 ^ (32 - n) ≤ 4294967296 := by
  refine ⟨Nat.two_pow_pos _, ?_⟩
  have : (2 : Nat) ^ (32 - n) ≤ 2 ^ 32 := Nat.pow_le_pow_right (by decide) (by omega)
  simpa using this
theorem stray {a n : Nat} (ha : a < 4294967296) (hn : n ≤ 32) : bits .andNot .u32 (a : Int) ((4294967296 - 2 ^ (32 - n) : Nat) : Int) = ((a % 2 ^ (32 - n) : Nat) : Int) := by
  have h := pow_bd hn
  rw [u32_andNot_nat a _ ha (by omega)]
  have e : 4294967295 - (4294967296 - 2 ^ (32 - n)) = 2 ^ (32 - n) - 1 := by omega
  rw [e, Nat.and_two_pow_sub_one_eq_mod]
theorem mask_mod {a n : Nat} : maskOf a n = a ↔ a % 2 ^ (32 - n) = 0 := by
  unfold maskOf
  have := Nat.div_add_mod a (2 ^ (32 - n))
  rw [Nat.mul_comm] at this
  omega
theorem amask_val {n : Nat} (hn : n ≤ 32) (h : n ≠ 0) : (4294967295 : Int) * 2 ^ (32 - n) % 4294967296 = ((4294967296 - 2 ^ (32 - n) : Nat) : Int) := by
  have h1 := pow_bd hn
  have h2 : (2 : Nat) ^ (32 - n) ≤ 2 ^ 31 := Nat.pow_le_pow_right (by decide) (by omega)
  have e : (2 : Int) ^ (32 - n) = ((2 ^ (32 - n) : Nat) : Int) := by push_cast; rfl
  rw [e]
  generalize 2 ^ (32 - n) = x at *
  omega
set_option maxHeartbeats 400000 in
theorem amask_calls (n : Nat) (w : World) (hn : n ≤ 32) :
    Calls Tryz.prog 100 #[.int .i64 n] w fun e w' => e = .returned (.int .u32 ((4294967296 - 2 ^ (32 - n) : Nat) : Int)) ∧ w' = w := by
  by_cases h : n = 0
  · subst h
    go_enter Tryz.func100, Tryz.ntmps100
    go_wp2
    go_ret
    exact ⟨rfl, rfl⟩
  · have h0 : ((n : Int) == 0) = false := by rw [beq_eq_false_iff_ne]; omega
    go_enter Tryz.func100, Tryz.ntmps100
    go_wp2
    go_ret
    exact ⟨ret_int (amask_val hn h), rfl⟩
/-- A prefix as it comes: is it one? -/
def okP (a : Nat) (m : Int) : Prop := 0 ≤ m ∧ Px.ok ⟨a, m.toNat⟩
set_option maxHeartbeats 400000 in
theorem fault_ok (a n : Nat) (w : World) (ha : a < 4294967296) (hn : n ≤ 32) (h : maskOf a n = a) :
    Calls Tryz.prog 91 #[.agg #[.int .u32 a, .int .i64 n]] w fun e w' => e = .returned (.int .i64 0) ∧ Touch [] w w' := by
  have e1 : ¬ (n : Int) < 0 := by omega
  have e2 : ¬ (32 : Int) < (n : Int) := by omega
  have e3 : (bits .andNot .u32 (a : Int) ((4294967296 - 2 ^ (32 - n) : Nat) : Int) != 0) = false := by rw [stray ha hn, mask_mod.1 h]; rfl
  have HC := Lib.hid (amask_calls n)
  clear h
  go_enter Tryz.func91, Tryz.ntmps91
  go_wp2
  go_quiet ((go_at_call 100; exact Calls.quiet_of_same (HC.out _ hn)))
  go_wp2
  go_ret
  exact ⟨rfl, ((Touch.refl [] w).alloc _).drewN _⟩
set_option maxHeartbeats 400000 in
theorem fault_stray (a n : Nat) (w : World) (ha : a < 4294967296) (hn : n ≤ 32) (h : maskOf a n ≠ a) :
    Calls Tryz.prog 91 #[.agg #[.int .u32 a, .int .i64 n]] w fun e w' => e = .returned (.int .i64 12) ∧ Touch [] w w' := by
  have e1 : ¬ (n : Int) < 0 := by omega
  have e2 : ¬ (32 : Int) < (n : Int) := by omega
  have e3 : (bits .andNot .u32 (a : Int) ((4294967296 - 2 ^ (32 - n) : Nat) : Int) != 0) = true := by
    rw [stray ha hn]
    have := mt mask_mod.2 h
    rw [bne_iff_ne]; omega
  have HC := Lib.hid (amask_calls n)
  clear h
  go_enter Tryz.func91, Tryz.ntmps91
  go_wp2
  go_quiet ((go_at_call 100; exact Calls.quiet_of_same (HC.out _ hn)))
  go_wp2
  go_ret
  exact ⟨rfl, ((Touch.refl [] w).alloc _).drewN _⟩
set_option maxHeartbeats 400000 in
theorem fault_out (a : Nat) (m : Int) (w : World) (hn : m < 0 ∨ 32 < m) :
    Calls Tryz.prog 91 #[.agg #[.int .u32 a, .int .i64 m]] w fun e w' => e = .returned (.int .i64 11) ∧ Touch [] w w' := by
  by_cases e1 : m < 0
  · clear hn
    go_enter Tryz.func91, Tryz.ntmps91
    go_wp2
    go_ret
    exact ⟨rfl, (Touch.refl [] w).alloc _⟩
  · have e2 : 32 < m := by omega
    clear hn
    go_enter Tryz.func91, Tryz.ntmps91
    go_wp2
    go_ret
    exact ⟨rfl, (Touch.refl [] w).alloc _⟩
theorem fault_any (a : Nat) (m : Int) (w : World) (ha : a < 4294967296) :
    Calls Tryz.prog 91 #[.agg #[.int .u32 a, .int .i64 m]] w fun e w' => ∃ n : Int, e = .returned (.int .i64 n) ∧ (n = 0 ↔ okP a m) ∧ Touch [] w w' := by
  unfold okP Px.ok
  by_cases h : m < 0 ∨ 32 < m
  · exact (fault_out a m w h).mono fun e w' ⟨h1, h2⟩ => ⟨11, h1, by simp only; omega, h2⟩
  · obtain ⟨n, rfl⟩ := Int.eq_ofNat_of_zero_le (by omega : 0 ≤ m)
    by_cases h2 : maskOf a n = a
    · exact (fault_ok a n w ha (by omega) h2).mono fun e w' ⟨h3, h4⟩ => ⟨0, h3, by simp [h2, ha]; omega, h4⟩
    · exact (fault_stray a n w ha (by omega) h2).mono fun e w' ⟨h3, h4⟩ => ⟨12, h3, by simp [h2], h4⟩
theorem valid_yes (a : Nat) (m : Int) (w : World) (ha : a < 4294967296) (h : okP a m) :
    Calls Tryz.prog 79 #[.agg #[.int .u32 a, .int .i64 m]] w fun e w' => e = .returned (.bool true) ∧ Touch [] w w' := by
  have HC := Lib.hid (fault_any a m)
  have H := Lib.hid h
  clear h
  go_enter Tryz.func79, Tryz.ntmps79
  go_wp2_with fail
  refine (HC.out _ ha).mono ?_
  rintro e w' ⟨n, rfl, hn, ht⟩
  have e1 : (n == 0) = true := by rw [beq_iff_eq]; exact hn.2 H.out
  clear hn
  go_wp2
  go_ret
  exact ⟨rfl, ((Touch.refl [] w).alloc _).trans ht (by simp)⟩
theorem valid_no (a : Nat) (m : Int) (w : World) (ha : a < 4294967296) (h : ¬ okP a m) :
    Calls Tryz.prog 79 #[.agg #[.int .u32 a, .int .i64 m]] w fun e w' => e = .returned (.bool false) ∧ Touch [] w w' := by
  have HC := Lib.hid (fault_any a m)
  have H := Lib.hid h
  clear h
  go_enter Tryz.func79, Tryz.ntmps79
  go_wp2_with fail
  refine (HC.out _ ha).mono ?_
  rintro e w' ⟨n, rfl, hn, ht⟩
  have e1 : (n == 0) = false := by rw [beq_eq_false_iff_ne]; exact fun e => H.out (hn.1 e)
  clear hn
  go_wp2
  go_ret
  exact ⟨rfl, ((Touch.refl [] w).alloc _).trans ht (by simp)⟩
theorem refusal_yes (a : Nat) (m : Int) (w : World) (ha : a < 4294967296) (h : okP a m) :
    Calls Tryz.prog 93 #[.agg #[.int .u32 a, .int .i64 m]] w fun e w' => e = .returned (.int .i64 0) ∧ Touch [] w w' := by
  have H := Lib.hid h
  clear h
  go_enter Tryz.func93, Tryz.ntmps93
  go_wp2_with fail
  refine (valid_yes a m _ ha H.out).mono ?_
  rintro e w' ⟨rfl, ht⟩
  go_wp2
  go_ret
  exact ⟨rfl, ((Touch.refl [] w).alloc _).trans ht (by simp)⟩
theorem refusal_no (a : Nat) (m : Int) (w : World) (ha : a < 4294967296) (h : ¬ okP a m) :
    Calls Tryz.prog 93 #[.agg #[.int .u32 a, .int .i64 m]] w fun e w' => e = .returned (.int .i64 11) ∧ Touch [] w w' := by
  have H := Lib.hid h
  clear h
  go_enter Tryz.func93, Tryz.ntmps93
  go_wp2_with fail
  refine (valid_no a m _ ha H.out).mono ?_
  rintro e w' ⟨rfl, ht⟩
  go_wp2
  go_ret
  exact ⟨rfl, ((Touch.refl [] w).alloc _).trans ht (by simp)⟩
theorem commonN_stop {a b k : Nat} (h : maskOf a k = maskOf b k) : commonN a b k = k := by
  cases k with
  | zero => rfl
  | succ k => unfold commonN; rw [if_pos h]
theorem commonN_down {a b k : Nat} (h : maskOf a (k + 1) ≠ maskOf b (k + 1)) : commonN a b (k + 1) = commonN a b k := by
  rw [commonN, if_neg h]
set_option maxHeartbeats 1600000 in
theorem common_calls (p q : Px) (w : World) (hp : p.ok) (hq : q.ok) :
    Calls Tryz.prog 160 #[.agg #[.int .u32 p.a, .int .i64 p.n], .agg #[.int .u32 q.a, .int .i64 q.n]] w fun e w' => e = .returned (.agg #[.int .u32 (common p q).a, .int .i64 (common p q).n]) ∧ Touch [] w w' := by
  obtain ⟨a, n⟩ := p
  obtain ⟨b, m⟩ := q
  have ha := hp.2.1
  have hb := hq.2.1
  have hn := hp.1
  have hm := hq.1
  simp only at ha hb hn hm
  have HF : Hid (∀ k, k = commonN a b (min n m) → common ⟨a, n⟩ ⟨b, m⟩ = ⟨maskOf a k, k⟩) := Lib.hid (fun k hk => by unfold common; simp only [← hk])
  clear hp hq
  by_cases hle : n ≤ m
  all_goals
    have hle' : (if n ≤ m then (n : Int) ≤ m else ¬ (n : Int) ≤ m) := by split <;> omega
    first | rw [if_pos hle] at hle' | rw [if_neg hle] at hle'
    go_enter Tryz.func160, Tryz.ntmps160
    go_wp2
    obtain ⟨W0, hW0⟩ : ∃ W0 : World, W0 = (((w.alloc (.cells #[.int .u32 a, .int .i64 n] 47)).alloc (.cells #[.int .u32 b, .int .i64 m] 47)).alloc (.cells #[.int .u32 0, .int .i64 0] 47)) := ⟨_, rfl⟩
    rw [← hW0]
    have ht0 : Touch [] w W0 := by rw [hW0]; exact (((Touch.refl [] w).alloc _).alloc _).alloc _
    have x0 : W0.heap[w.heap.size]? = some (.cells #[.int .u32 a, .int .i64 n] 47 (0, 0)) := by rw [hW0]; exact box_keep _ (box_keep _ (box_at w _))
    have x1 : W0.heap[w.heap.size + 1]? = some (.cells #[.int .u32 b, .int .i64 m] 47 (0, 0)) := by rw [hW0]; exact box_keep _ (box_at' _ _ _ (by simp))
    have x2 : W0.heap[w.heap.size + 1 + 1]? = some (.cells #[.int .u32 0, .int .i64 0] 47 (0, 0)) := by rw [hW0]; exact box_at' _ _ _ (by simp)
    have X0 := Lib.hid x0
    have X1 := Lib.hid x1
    have X2 := Lib.hid x2
    have T0 := Lib.hid ht0
    clear x0 x1 x2 ht0 hW0
    go_loopw [5] (fun v5 wr => ∃ k : Nat, v5 = .int .i64 k ∧ k ≤ n ∧ k ≤ m ∧ Hid (commonN a b k = commonN a b (min n m)) ∧ Hid (Touch [] W0 wr)) (fun v5 _ => (intOf v5).toNat)
    case atStart => exact ⟨_, rfl, by omega, by omega, Lib.hid (by congr 1; omega), Lib.hid (Touch.refl _ _)⟩
    case round =>
      obtain ⟨k, rfl, hkn, hkm, hk, htr⟩ := hrel
      obtain ⟨c0, _⟩ := two_cells (touch_box htr.out X0.out (by simp))
      obtain ⟨c1, _⟩ := two_cells (touch_box htr.out X1.out (by simp))
      have n0 := fun u : Near wr => u.cell c0
      have n1 := fun u : Near wr => u.cell c1
      clear c0 c1
      by_cases he : maskOf a k = maskOf b k
      · have e1 : (((maskOf a k : Nat) : Int) != ((maskOf b k : Nat) : Int)) = false := by rw [he]; simp
        have hst := commonN_stop he
        have HK := Lib.hid (HF.out k (hst.symm.trans hk.out))
        clear he hst
        go_wp2
        refine wp_region_near (by kernel_rfl) (by kernel_rfl) ?_
        repeat (go_big_quiet_step ((go_at_call 85; exact mask_near _ _ _ (by assumption) (by omega))))
        refine wpQuiet_nil ?_
        rintro _ ⟨u, rfl⟩
        have TU := Lib.hid (htr.out.trans u.near (by simp))
        obtain ⟨c0, _⟩ := two_cells (touch_box TU.out X0.out (by simp))
        obtain ⟨c2, c3, f2, f3⟩ := two_cells (touch_box TU.out X2.out (by simp))
        clear n0 n1
        go_wp2_with fail
        refine (mask_calls a k _ ha (by omega)).mono ?_
        rintro e w' ⟨rfl, hw⟩
        obtain rfl := hw.symm
        have y2 := two_set (touch_box TU.out X2.out (by simp)) (.int .u32 (maskOf a k : Nat)) (.int .i64 k)
        obtain ⟨q2, q3⟩ := y2
        go_wp2
        refine bodyPost_ret (v := .agg #[.int .u32 (maskOf a k : Nat), .int .i64 k]) (by simp [results, Tryz.results160, go_sem, q2, q3]) rfl ?_
        rw [HK.out]
        exact ⟨rfl, ((T0.out.trans TU.out (by simp)).setCell _ _ (.inr (by simp; omega))).setCell _ _ (.inr (by simp; omega))⟩
      · have e1 : (((maskOf a k : Nat) : Int) != ((maskOf b k : Nat) : Int)) = true := by rw [bne_iff_ne]; omega
        have hk0 : k ≠ 0 := by rintro rfl; exact he (by rw [mask_zero ha, mask_zero hb])
        have hk1 : 1 ≤ k := by omega
        have hd : Hid (commonN a b k = commonN a b (k - 1)) := Lib.hid (by
          obtain ⟨j, rfl⟩ : ∃ j, k = j + 1 := ⟨k - 1, by omega⟩
          exact commonN_down he)
        clear he hk0
        go_wp2
        refine wp_region_near (by kernel_rfl) (by kernel_rfl) ?_
        repeat (go_big_quiet_step ((go_at_call 85; exact mask_near _ _ _ (by assumption) (by omega))))
        refine wpQuiet_nil ?_
        rintro _ ⟨u, rfl⟩
        have TU := Lib.hid (htr.out.trans u.near (by simp))
        clear n0 n1
        go_wp2
        go_roundw
        case rel => exact ⟨k - 1, by rw [show ((k - 1 : Nat) : Int) = (k : Int) - 1 by omega], by omega, by omega, Lib.hid (hd.out.symm.trans hk.out), TU⟩
        case measure => simp [intOf]; omega
end Go.Proofs.YtnpeafhjcelpfaaGreat.Tri
