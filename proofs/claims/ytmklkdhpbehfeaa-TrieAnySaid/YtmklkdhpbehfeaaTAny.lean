/- Tries of texts and of structs that hold at most one prefix; no condition. -/
import Derived.Test.YtmklkdhpbehfeaaTG
namespace Go.Proofs.Ytmklkdhpbehfeaa.Tri
open Go.RowKit Go.Maps
set_option linter.unusedVariables false

/-! ### string -/
def nodeCs (q : Px) (v : ByteArray) : Array Value := #[.int .u32 q.a, .int .i64 q.n, .bool true, .string v, .pointer none, .pointer none]
structure Sgls (w : World) (tb : Nat) (q : Px) (v : ByteArray) (b : Nat) : Prop where
  root : w.heap[tb]? = some (.cells #[.pointer (some ⟨b, 0, none⟩), .int .i64 1] 99 (0, 0))
  node : w.heap[b]? = some (.cells (nodeCs q v) 106 (0, 0))
  ne : b ≠ tb
def Emps (w : World) (tb : Nat) : Prop := w.heap[tb]? = some (.cells #[.pointer none, .int .i64 0] 99 (0, 0))
theorem Sgls.kept {w w' : World} {tb b : Nat} {q : Px} {v : ByteArray} (h : Sgls w tb q v b) {X : List Nat} (t : Touch X w w') (h1 : tb ∉ X) (h2 : b ∉ X) : Sgls w' tb q v b :=
  ⟨touch_box t h.root h1, touch_box t h.node h2, h.ne⟩
theorem news_calls (w : World) : Calls Try.prog 28 #[] w fun e w' => e = .returned (.pointer (some ⟨w.heap.size, 0, none⟩)) ∧ Emps w' w.heap.size ∧ Touch [] w w' := by
  go_enter Try.func28, Try.ntmps28
  go_wp2
  go_ret
  exact ⟨rfl, box_at w _, (Touch.refl [] w).alloc _⟩
set_option maxHeartbeats 1000000 in
theorem soughts_nil (w : World) (q : Px) : Calls Try.prog 48 #[.pointer none, .agg #[.int .u32 q.a, .int .i64 q.n]] w fun e w' => e = .returned (.pointer none) ∧ Touch [] w w' := by
  go_enter Try.func48, Try.ntmps48
  go_wp2
  go_loopw [0] (fun v0 wr => v0 = .pointer none ∧ Hid (Touch [] w wr)) (fun _ _ => 0)
  case atStart => exact ⟨rfl, Lib.hid ((Touch.refl [] w).alloc _)⟩
  case round =>
    obtain ⟨rfl, ht⟩ := hrel
    go_wp2
    refine wp_region_near (by kernel_rfl) (by kernel_rfl) ?_
    repeat (go_big_quiet_step (fail))
    refine wpQuiet_nil ?_
    rintro _ ⟨u2, rfl⟩
    have TT := Lib.hid (ht.out.trans u2.near (by simp))
    go_wp2
    go_ret
    exact ⟨rfl, TT.out⟩
set_option maxHeartbeats 2000000 in
theorem gets_empty {w : World} {tb : Nat} (h : Emps w tb) (q : Px) (hq : q.ok) : Calls Try.prog 30 #[.pointer (some ⟨tb, 0, none⟩), .agg #[.int .u32 q.a, .int .i64 q.n]] w fun e w' => e = .returned (.tuple #[(.string ⟨#[]⟩), .int .i64 3]) ∧ Touch [] w w' := by
  have H := Lib.hid h
  have HQ := Lib.hid hq
  have hqa := hq.2.1
  clear h hq
  go_enter Try.func30, Try.ntmps30
  go_wp2_with fail
  refine (refusal_yes q.a q.n _ hqa ⟨by omega, by simpa using HQ.out⟩).mono ?_
  rintro e w1 ⟨rfl, ht⟩
  have T1 := Lib.hid (((Touch.refl [] w).alloc (.cells #[.int .u32 q.a, .int .i64 q.n] 32)).trans ht (by simp))
  have X := Lib.hid (touch_box ht (box_at w (.cells #[.int .u32 q.a, .int .i64 q.n] 32)) (by simp))
  have B := Lib.hid (touch_box T1.out H.out (by simp))
  clear ht
  go_wp2
  obtain ⟨c0, _⟩ := two_cells B.out
  obtain ⟨d0, d1, _⟩ := two_cells X.out
  have n0 := fun u : Near w1 => u.cell c0
  have n1 := fun u : Near w1 => u.cell d0
  have n2 := fun u : Near w1 => u.cell d1
  clear c0 d0 d1
  refine wp_region_near (by kernel_rfl) (by kernel_rfl) ?_
  repeat (go_big_quiet_step ((go_at_call 48; exact near_call _ (soughts_nil _ q))))
  refine wpQuiet_nil ?_
  rintro _ ⟨u2, rfl⟩
  have T2 := Lib.hid (T1.out.trans u2.near (by simp))
  clear n0 n1 n2
  go_wp2
  go_ret2
  exact ⟨rfl, T2.out⟩
set_option maxHeartbeats 1000000 in
theorem hangs_nil (w : World) (q : Px) (v : ByteArray) : Calls Try.prog 51 #[.pointer none, .agg #[.int .u32 q.a, .int .i64 q.n], (.string v)] w fun e w' => e = .returned (.tuple #[.pointer (some ⟨w.heap.size + 1, 0, none⟩), .bool true]) ∧ w'.heap[w.heap.size + 1]? = some (.cells (nodeCs q v) 106 (0, 0)) ∧ Touch [] w w' := by
  go_enter Try.func51, Try.ntmps51
  go_wp2
  go_ret2
  exact ⟨rfl, box_at' _ _ _ (by simp), ((Touch.refl [] w).alloc _).alloc _⟩
theorem nodes_set {w : World} {b : Nat} {q : Px} {u : ByteArray} (h : w.heap[b]? = some (.cells (nodeCs q u) 106 (0, 0))) (v : ByteArray) :
    (((w.setCell ⟨b, 2, none⟩ (.bool true)).setCell ⟨b, 3, none⟩ (.string v))).heap[b]? = some (.cells (nodeCs q v) 106 (0, 0)) := by
  have h1 := box_set (o := 2) h (.bool true)
  have h2 := box_set (o := 3) h1 (.string v)
  simpa [nodeCs] using h2
theorem nodes_cells {w : World} {b : Nat} {q : Px} {v : ByteArray} (h : w.heap[b]? = some (.cells (nodeCs q v) 106 (0, 0))) :
    w.cell? ⟨b, 0, none⟩ = some (.int .u32 q.a) ∧ w.cell? ⟨b, 1, none⟩ = some (.int .i64 q.n) ∧ w.cell? ⟨b, 2, none⟩ = some (.bool true) ∧ w.cell? ⟨b, 3, none⟩ = some (.string v) ∧ w.cell? ⟨b, 4, none⟩ = some (.pointer none) ∧ w.cell? ⟨b, 5, none⟩ = some (.pointer none) ∧ ∀ o, w.frozen? ⟨b, o, none⟩ = false := by
  refine ⟨?_, ?_, ?_, ?_, ?_, ?_, fun o => ?_⟩ <;> simp [World.cell?, World.frozen?, h, nodeCs]
set_option maxHeartbeats 2000000 in
set_option maxRecDepth 100000 in
theorem hangs_eq {w : World} {b : Nat} {q : Px} {u : ByteArray} (hb : w.heap[b]? = some (.cells (nodeCs q u) 106 (0, 0))) (v : ByteArray) :
    Calls Try.prog 51 #[.pointer (some ⟨b, 0, none⟩), .agg #[.int .u32 q.a, .int .i64 q.n], (.string v)] w fun e w' => e = .returned (.tuple #[.pointer (some ⟨b, 0, none⟩), .bool false]) ∧ w'.heap[b]? = some (.cells (nodeCs q v) 106 (0, 0)) ∧ Touch [b] w w' := by
  have hg := guard32
  have hne := fun w => px_eql q.a q.n q.a q.n true (px_beq rfl) w
  have HB := Lib.hid hb
  have HLT := Lib.hid (Array.getElem?_eq_some_iff.1 hb).1
  clear hb
  go_enter Try.func51, Try.ntmps51
  go_wp2
  obtain ⟨W1, hW1⟩ : ∃ W1 : World, W1 = w.alloc (.cells #[.int .u32 q.a, .int .i64 q.n] 32) := ⟨_, rfl⟩
  rw [← hW1]
  have X1 := Lib.hid (show W1.heap[w.heap.size]? = some (.cells #[.int .u32 q.a, .int .i64 q.n] 32 (0, 0)) by rw [hW1]; exact box_at w _)
  have T1 := Lib.hid (show Touch [] w W1 by rw [hW1]; exact (Touch.refl [] w).alloc _)
  have B1 := Lib.hid (touch_box T1.out HB.out (by simp))
  clear hW1
  obtain ⟨c0, c1, _⟩ := nodes_cells B1.out
  obtain ⟨d0, d1, _⟩ := two_cells X1.out
  have n0 := fun u : Near W1 => u.cell c0
  have n1 := fun u : Near W1 => u.cell c1
  have m0 := fun u : Near W1 => u.cell d0
  have m1 := fun u : Near W1 => u.cell d1
  clear c0 c1 d0 d1
  refine wp_region_near (by kernel_rfl) (by kernel_rfl) ?_
  repeat (go_big_quiet_step (fail))
  refine wpQuiet_nil ?_
  rintro _ ⟨u2, rfl⟩
  have B2 := Lib.hid (touch_box u2.near B1.out (by simp))
  have T2 := Lib.hid (T1.out.trans u2.near (by simp))
  clear n0 n1 m0 m1 hne hg
  obtain ⟨W2, hW⟩ : ∃ W2 : World, W2 = u2.w := ⟨_, rfl⟩
  rw [← hW] at B2 T2 ⊢
  clear hW u2 X1 B1 T1 
  obtain ⟨_, _, c2, c3, _, _, cf⟩ := nodes_cells B2.out
  have f2 := cf 2
  have f3 := cf 3
  clear cf
  go_wp2
  go_ret2
  exact ⟨rfl, nodes_set B2.out v, ((T2.out.mono (S' := [b]) (by simp)).setCell _ _ (.inl (by simp))).setCell _ _ (.inl (by simp))⟩

/-! ### weft/weftlaw8.Pair -/
def nodeCp (q : Px) (x : Int) (A : Option Addr) (n c : Nat) : Array Value := #[.int .u32 q.a, .int .i64 q.n, .bool true, .int .i64 x, .slice A n c, .pointer none, .pointer none]
structure Sglp (w : World) (tb : Nat) (q : Px) (x : Int) (A : Option Addr) (n c : Nat) (b : Nat) : Prop where
  root : w.heap[tb]? = some (.cells #[.pointer (some ⟨b, 0, none⟩), .int .i64 1] 102 (0, 0))
  node : w.heap[b]? = some (.cells (nodeCp q x A n c) 114 (0, 0))
  ne : b ≠ tb
def Empp (w : World) (tb : Nat) : Prop := w.heap[tb]? = some (.cells #[.pointer none, .int .i64 0] 102 (0, 0))
theorem Sglp.kept {w w' : World} {tb b : Nat} {q : Px} {x : Int} {A : Option Addr} {n c : Nat} (h : Sglp w tb q x A n c b) {X : List Nat} (t : Touch X w w') (h1 : tb ∉ X) (h2 : b ∉ X) : Sglp w' tb q x A n c b :=
  ⟨touch_box t h.root h1, touch_box t h.node h2, h.ne⟩
theorem newp_calls (w : World) : Calls Try.prog 29 #[] w fun e w' => e = .returned (.pointer (some ⟨w.heap.size, 0, none⟩)) ∧ Empp w' w.heap.size ∧ Touch [] w w' := by
  go_enter Try.func29, Try.ntmps29
  go_wp2
  go_ret
  exact ⟨rfl, box_at w _, (Touch.refl [] w).alloc _⟩
set_option maxHeartbeats 1000000 in
theorem soughtp_nil (w : World) (q : Px) : Calls Try.prog 69 #[.pointer none, .agg #[.int .u32 q.a, .int .i64 q.n]] w fun e w' => e = .returned (.pointer none) ∧ Touch [] w w' := by
  go_enter Try.func69, Try.ntmps69
  go_wp2
  go_loopw [0] (fun v0 wr => v0 = .pointer none ∧ Hid (Touch [] w wr)) (fun _ _ => 0)
  case atStart => exact ⟨rfl, Lib.hid ((Touch.refl [] w).alloc _)⟩
  case round =>
    obtain ⟨rfl, ht⟩ := hrel
    go_wp2
    refine wp_region_near (by kernel_rfl) (by kernel_rfl) ?_
    repeat (go_big_quiet_step (fail))
    refine wpQuiet_nil ?_
    rintro _ ⟨u2, rfl⟩
    have TT := Lib.hid (ht.out.trans u2.near (by simp))
    go_wp2
    go_ret
    exact ⟨rfl, TT.out⟩
set_option maxHeartbeats 2000000 in
theorem getp_empty {w : World} {tb : Nat} (h : Empp w tb) (q : Px) (hq : q.ok) : Calls Try.prog 49 #[.pointer (some ⟨tb, 0, none⟩), .agg #[.int .u32 q.a, .int .i64 q.n]] w fun e w' => e = .returned (.tuple #[(.agg #[.int .i64 0, .slice none 0 0]), .int .i64 3]) ∧ Touch [] w w' := by
  have H := Lib.hid h
  have HQ := Lib.hid hq
  have hqa := hq.2.1
  clear h hq
  go_enter Try.func49, Try.ntmps49
  go_wp2_with fail
  refine (refusal_yes q.a q.n _ hqa ⟨by omega, by simpa using HQ.out⟩).mono ?_
  rintro e w1 ⟨rfl, ht⟩
  have T1 := Lib.hid (((((Touch.refl [] w).alloc (.cells #[.int .u32 q.a, .int .i64 q.n] 32)).alloc (.cells #[.int .i64 0, .slice none 0 0] 57)).alloc (.cells #[.int .i64 0, .slice none 0 0] 57)).trans ht (by simp))
  have X := Lib.hid (touch_box ht (box_keep (.cells #[.int .i64 0, .slice none 0 0] 57) (box_keep (.cells #[.int .i64 0, .slice none 0 0] 57) (box_at w (.cells #[.int .u32 q.a, .int .i64 q.n] 32)))) (by simp))
  have Y := Lib.hid (touch_box ht (box_keep (.cells #[.int .i64 0, .slice none 0 0] 57) (box_at' (w.alloc (.cells #[.int .u32 q.a, .int .i64 q.n] 32)) (.cells #[.int .i64 0, .slice none 0 0] 57) (w.heap.size + 1) (by simp))) (by simp))
  have Z := Lib.hid (touch_box ht (box_at' ((w.alloc (.cells #[.int .u32 q.a, .int .i64 q.n] 32)).alloc (.cells #[.int .i64 0, .slice none 0 0] 57)) (.cells #[.int .i64 0, .slice none 0 0] 57) (w.heap.size + 1 + 1) (by simp)) (by simp))
  have B := Lib.hid (touch_box T1.out H.out (by simp))
  clear ht
  go_wp2
  obtain ⟨c0, _⟩ := two_cells B.out
  obtain ⟨d0, d1, _⟩ := two_cells X.out
  have n0 := fun u : Near w1 => u.cell c0
  have n1 := fun u : Near w1 => u.cell d0
  have n2 := fun u : Near w1 => u.cell d1
  clear c0 d0 d1
  refine wp_region_near (by kernel_rfl) (by kernel_rfl) ?_
  repeat (go_big_quiet_step ((go_at_call 69; exact near_call _ (soughtp_nil _ q))))
  refine wpQuiet_nil ?_
  rintro _ ⟨u2, rfl⟩
  have T2 := Lib.hid (T1.out.trans u2.near (by simp))
  clear n0 n1 n2
  have Y2 := Lib.hid (touch_box u2.near Y.out (by simp))
  have Z2 := Lib.hid (touch_box u2.near Z.out (by simp))
  obtain ⟨y0, y1, y2, y3⟩ := two_cells Y2.out
  obtain ⟨z0, z1, z2, z3⟩ := two_cells Z2.out
  obtain ⟨s0, s1⟩ := two_set Y2.out (.int .i64 0) (.slice none 0 0)
  go_wp2
  refine bodyPost_ret (v := .tuple #[(.agg #[.int .i64 0, .slice none 0 0]), .int .i64 3]) (by simp [results, Try.results49, go_sem, s0, s1]) rfl ?_
  exact ⟨rfl, (T2.out.setCell _ _ (.inr (by simp))).setCell _ _ (.inr (by simp))⟩
set_option maxHeartbeats 2000000 in
theorem delp_empty {w : World} {tb : Nat} (h : Empp w tb) (q : Px) (hq : q.ok) : Calls Try.prog 31 #[.pointer (some ⟨tb, 0, none⟩), .agg #[.int .u32 q.a, .int .i64 q.n]] w fun e w' => e = .returned (.tuple #[(.agg #[.int .i64 0, .slice none 0 0]), .int .i64 3]) ∧ Touch [] w w' := by
  have T0 := Lib.hid (((Touch.refl [] w).alloc (.cells #[.int .u32 q.a, .int .i64 q.n] 32)).alloc (.cells #[.int .i64 0, .slice none 0 0] 57))
  have H := Lib.hid (touch_box T0.out h (by simp))
  have Y0 := Lib.hid (box_at' (w.alloc (.cells #[.int .u32 q.a, .int .i64 q.n] 32)) (.cells #[.int .i64 0, .slice none 0 0] 57) (w.heap.size + 1) (by simp))
  have HQ := Lib.hid hq
  clear h hq
  go_enter Try.func31, Try.ntmps31
  go_wp2_with fail
  refine (getp_empty H.out q HQ.out).mono ?_
  rintro e w1 ⟨rfl, ht⟩
  have T1 := Lib.hid ((T0.out.trans ht (by simp)).alloc (.cells #[.int .i64 0, .slice none 0 0] 57))
  have Y := Lib.hid (box_keep (.cells #[.int .i64 0, .slice none 0 0] 57) (touch_box ht Y0.out (by simp)))
  have Z := Lib.hid (box_at w1 (.cells #[.int .i64 0, .slice none 0 0] 57))
  clear ht
  obtain ⟨y0, y1, y2, y3⟩ := two_cells Y.out
  obtain ⟨z0, z1, _⟩ := two_cells Z.out
  obtain ⟨s0, s1⟩ := two_set Y.out (.int .i64 0) (.slice none 0 0)
  go_wp2
  refine bodyPost_ret (v := .tuple #[(.agg #[.int .i64 0, .slice none 0 0]), .int .i64 3]) (by simp [results, Try.results31, go_sem, s0, s1]) rfl ?_
  exact ⟨rfl, (T1.out.setCell _ _ (.inr (by simp))).setCell _ _ (.inr (by simp))⟩
set_option maxHeartbeats 1000000 in
theorem hangp_nil (w : World) (q : Px) (x : Int) (A : Option Addr) (n c : Nat) : Calls Try.prog 52 #[.pointer none, .agg #[.int .u32 q.a, .int .i64 q.n], (.agg #[.int .i64 x, .slice A n c])] w fun e w' => e = .returned (.tuple #[.pointer (some ⟨w.heap.size + 1 + 1, 0, none⟩), .bool true]) ∧ w'.heap[w.heap.size + 1 + 1]? = some (.cells (nodeCp q x A n c) 114 (0, 0)) ∧ Touch [] w w' := by
  go_enter Try.func52, Try.ntmps52
  go_wp2
  go_ret2
  exact ⟨rfl, box_at' _ _ _ (by simp), (((Touch.refl [] w).alloc _).alloc _).alloc _⟩
theorem nodep_set {w : World} {b : Nat} {q : Px} {y : Int} {B : Option Addr} {m d : Nat} (h : w.heap[b]? = some (.cells (nodeCp q y B m d) 114 (0, 0))) (x : Int) (A : Option Addr) (n c : Nat) :
    ((((w.setCell ⟨b, 2, none⟩ (.bool true)).setCell ⟨b, 3, none⟩ (.int .i64 x)).setCell ⟨b, 4, none⟩ (.slice A n c))).heap[b]? = some (.cells (nodeCp q x A n c) 114 (0, 0)) := by
  have h1 := box_set (o := 2) h (.bool true)
  have h2 := box_set (o := 3) h1 (.int .i64 x)
  have h3 := box_set (o := 4) h2 (.slice A n c)
  simpa [nodeCp] using h3
theorem nodep_cells {w : World} {b : Nat} {q : Px} {x : Int} {A : Option Addr} {n c : Nat} (h : w.heap[b]? = some (.cells (nodeCp q x A n c) 114 (0, 0))) :
    w.cell? ⟨b, 0, none⟩ = some (.int .u32 q.a) ∧ w.cell? ⟨b, 1, none⟩ = some (.int .i64 q.n) ∧ w.cell? ⟨b, 2, none⟩ = some (.bool true) ∧ w.cell? ⟨b, 3, none⟩ = some (.int .i64 x) ∧ w.cell? ⟨b, 4, none⟩ = some (.slice A n c) ∧ w.cell? ⟨b, 5, none⟩ = some (.pointer none) ∧ w.cell? ⟨b, 6, none⟩ = some (.pointer none) ∧ ∀ o, w.frozen? ⟨b, o, none⟩ = false := by
  refine ⟨?_, ?_, ?_, ?_, ?_, ?_, ?_, fun o => ?_⟩ <;> simp [World.cell?, World.frozen?, h, nodeCp]
set_option maxHeartbeats 2000000 in
set_option maxRecDepth 100000 in
theorem hangp_eq {w : World} {b : Nat} {q : Px} {y : Int} {B : Option Addr} {m d : Nat} (hb : w.heap[b]? = some (.cells (nodeCp q y B m d) 114 (0, 0))) (x : Int) (A : Option Addr) (n c : Nat) :
    Calls Try.prog 52 #[.pointer (some ⟨b, 0, none⟩), .agg #[.int .u32 q.a, .int .i64 q.n], (.agg #[.int .i64 x, .slice A n c])] w fun e w' => e = .returned (.tuple #[.pointer (some ⟨b, 0, none⟩), .bool false]) ∧ w'.heap[b]? = some (.cells (nodeCp q x A n c) 114 (0, 0)) ∧ Touch [b] w w' := by
  have hg := guard32
  have hne := fun w => px_eql q.a q.n q.a q.n true (px_beq rfl) w
  have HB := Lib.hid hb
  have HLT := Lib.hid (Array.getElem?_eq_some_iff.1 hb).1
  clear hb
  go_enter Try.func52, Try.ntmps52
  go_wp2
  obtain ⟨W1, hW1⟩ : ∃ W1 : World, W1 = (w.alloc (.cells #[.int .u32 q.a, .int .i64 q.n] 32)).alloc (.cells #[.int .i64 x, .slice A n c] 57) := ⟨_, rfl⟩
  rw [← hW1]
  have X1 := Lib.hid (show W1.heap[w.heap.size]? = some (.cells #[.int .u32 q.a, .int .i64 q.n] 32 (0, 0)) by rw [hW1]; exact box_keep _ (box_at w _))
  have T1 := Lib.hid (show Touch [] w W1 by rw [hW1]; exact ((Touch.refl [] w).alloc _).alloc _)
  have B1 := Lib.hid (touch_box T1.out HB.out (by simp))
  have Y1 := Lib.hid (show W1.heap[w.heap.size + 1]? = some (.cells #[.int .i64 x, .slice A n c] 57 (0, 0)) by rw [hW1]; exact box_at' _ _ _ (by simp))
  clear hW1
  obtain ⟨c0, c1, _⟩ := nodep_cells B1.out
  obtain ⟨d0, d1, _⟩ := two_cells X1.out
  have n0 := fun u : Near W1 => u.cell c0
  have n1 := fun u : Near W1 => u.cell c1
  have m0 := fun u : Near W1 => u.cell d0
  have m1 := fun u : Near W1 => u.cell d1
  clear c0 c1 d0 d1
  refine wp_region_near (by kernel_rfl) (by kernel_rfl) ?_
  repeat (go_big_quiet_step (fail))
  refine wpQuiet_nil ?_
  rintro _ ⟨u2, rfl⟩
  have B2 := Lib.hid (touch_box u2.near B1.out (by simp))
  have T2 := Lib.hid (T1.out.trans u2.near (by simp))
  have Y2 := Lib.hid (touch_box u2.near Y1.out (by simp))
  clear n0 n1 m0 m1 hne hg
  obtain ⟨W2, hW⟩ : ∃ W2 : World, W2 = u2.w := ⟨_, rfl⟩
  rw [← hW] at B2 T2 Y2 ⊢
  clear hW u2 X1 B1 T1 Y1
  obtain ⟨_, _, c2, c3, c4, _, _, cf⟩ := nodep_cells B2.out
  have f2 := cf 2
  have f3 := cf 3
  have f4 := cf 4
  obtain ⟨y0, y1, _⟩ := two_cells Y2.out
  have hlw : b ≠ w.heap.size + 1 := by have := HLT.out; omega
  have hlw2 := hlw.symm
  clear cf
  go_wp2
  go_region_law (fail)
  all_goals
    go_wp2
    go_ret2
    exact ⟨rfl, nodep_set B2.out x A n c, ((((T2.out.mono (S' := [b]) (by simp)).setCell _ _ (.inl (by simp))).setCell _ _ (.inl (by simp))).setCell _ _ (.inl (by simp))).drew⟩
end Go.Proofs.Ytmklkdhpbehfeaa.Tri
