/- Nodes of the tree of routes in memory; hang; no condition. -/
import Derived.Test.YtnpeafhjcelpfaaGreatTA
import Derived.Laws.StructEq
import Derived.Deep.AppendLies
import Derived.Deep.RegionLaw
namespace Go.Proofs.YtnpeafhjcelpfaaGreat.Tri
open Go.RowKit Go.Maps
set_option linter.unusedVariables false

/-- A route in the tree is told by a number: its Via, and whether it is local; its Dst is its place. -/
def rV (v : Int) : Int := v / 2
def rL (v : Int) : Bool := v % 2 == 1
def oA (q : Px) : Option Int → Int
  | some _ => q.a
  | none => 0
def oN (q : Px) : Option Int → Int
  | some _ => q.n
  | none => 0
def oV : Option Int → Int
  | some v => rV v
  | none => 0
def oL : Option Int → Bool
  | some v => rL v
  | none => false
/-- The cells of a node. -/
def nodeC (q : Px) (v : Option Int) (pl pr : Value) : Array Value := #[.int .u32 q.a, .int .i64 q.n, .bool v.isSome, .int .u32 (oA q v), .int .i64 (oN q v), .int .u32 (oV v), .bool (oL v), pl, pr]
def Tr (w : World) : T → Value → List Nat → Prop
  | .nil, p, S => p = .pointer none ∧ S = []
  | .node q v l r, p, S => ∃ b pl pr Sl Sr, p = .pointer (some ⟨b, 0, none⟩) ∧ w.heap[b]? = some (.cells (nodeC q v pl pr) 155 (0, 0)) ∧ Tr w l pl Sl ∧ Tr w r pr Sr ∧ S = b :: (Sl ++ Sr) ∧ b ∉ Sl ∧ b ∉ Sr ∧ ∀ k ∈ Sl, k ∉ Sr
theorem frozen_touch {w w' : World} {S : List Nat} (t : Touch S w w') {b o : Nat} {v : Value} (h : w.cell? ⟨b, o, none⟩ = some v) (hf : w.frozen? ⟨b, o, none⟩ = false) (hn : b ∉ S) : w'.frozen? ⟨b, o, none⟩ = false := by
  have hb := t.block b (World.block_lt_of_cell? w ⟨b, o, none⟩ h) hn
  simp only [World.frozen?] at hf ⊢
  rw [hb]; exact hf
theorem Tr.ptr {w : World} {t : T} {p : Value} {S : List Nat} (h : Tr w t p S) : ∃ a, p = .pointer a := by
  cases t with
  | nil => exact ⟨none, h.1⟩
  | node => obtain ⟨b, pl, pr, Sl, Sr, rfl, _⟩ := h; exact ⟨_, rfl⟩
theorem Tr.lt {w : World} : ∀ {t : T} {p : Value} {S : List Nat}, Tr w t p S → ∀ k ∈ S, k < w.heap.size
  | .nil, p, S, h => by obtain ⟨_, rfl⟩ := h; simp
  | .node q v l r, p, S, h => by
    obtain ⟨b, pl, pr, Sl, Sr, rfl, hb, hl, hr, rfl, _⟩ := h
    intro k hk
    simp at hk
    rcases hk with rfl | hk | hk
    · exact (Array.getElem?_eq_some_iff.1 hb).1
    · exact hl.lt k hk
    · exact hr.lt k hk
theorem Tr.kept {w w' : World} {X : List Nat} (t : Touch X w w') : ∀ {x : T} {p : Value} {S : List Nat}, Tr w x p S → (∀ k ∈ S, k ∉ X) → Tr w' x p S
  | .nil, p, S, h, _ => h
  | .node q v l r, p, S, h, hn => by
    obtain ⟨b, pl, pr, Sl, Sr, rfl, hb, hl, hr, rfl, h1, h2, h3⟩ := h
    exact ⟨b, pl, pr, Sl, Sr, rfl, touch_box t hb (hn b (by simp)), hl.kept t (fun k hk => hn k (by simp [hk])), hr.kept t (fun k hk => hn k (by simp [hk])), rfl, h1, h2, h3⟩
theorem node_cells {w : World} {b : Nat} {q : Px} {v : Option Int} {pl pr : Value} {T : TypeId} (h : w.heap[b]? = some (.cells (nodeC q v pl pr) T (0, 0))) :
    w.cell? ⟨b, 0, none⟩ = some (.int .u32 q.a) ∧ w.cell? ⟨b, 1, none⟩ = some (.int .i64 q.n) ∧ w.cell? ⟨b, 2, none⟩ = some (.bool v.isSome) ∧ (w.cell? ⟨b, 3, none⟩ = some (.int .u32 (oA q v)) ∧ w.cell? ⟨b, 4, none⟩ = some (.int .i64 (oN q v)) ∧ w.cell? ⟨b, 5, none⟩ = some (.int .u32 (oV v)) ∧ w.cell? ⟨b, 6, none⟩ = some (.bool (oL v))) ∧ w.cell? ⟨b, 7, none⟩ = some pl ∧ w.cell? ⟨b, 8, none⟩ = some pr ∧ ∀ o, w.frozen? ⟨b, o, none⟩ = false := by
  refine ⟨?_, ?_, ?_, ⟨?_, ?_, ?_, ?_⟩, ?_, ?_, fun o => ?_⟩ <;> simp [World.cell?, World.frozen?, h, nodeC]
theorem rt_cells {w : World} {b : Nat} {x y z u : Value} {T : TypeId} (h : w.heap[b]? = some (.cells #[x, y, z, u] T (0, 0))) :
    w.cell? ⟨b, 0, none⟩ = some x ∧ w.cell? ⟨b, 1, none⟩ = some y ∧ w.cell? ⟨b, 2, none⟩ = some z ∧ w.cell? ⟨b, 3, none⟩ = some u := by
  refine ⟨?_, ?_, ?_, ?_⟩ <;> simp [World.cell?, h]
def HangPost (w : World) (t : T) (S : List Nat) (p : Px) (v : Int) (e : Ending) (w' : World) : Prop :=
  ∃ (pv' : Option Addr) (S' : List Nat), e = .returned (.tuple #[.pointer pv', .bool (hang t p v).2]) ∧ Tr w' (hang t p v).1 (.pointer pv') S' ∧ Touch S w w' ∧ ∀ k ∈ S', k ∈ S ∨ w.heap.size ≤ k

theorem stood32 : Tryz.prog.stoodInHeld 47 = false := by kernel_rfl
theorem px_eql (a n b m : Int) (r : Bool) (hr : (a == b && n == m) = r) (w : World) :
    (binOp .eql 47 (.agg #[.int .u32 a, .int .i64 n]) (.agg #[.int .u32 b, .int .i64 m])).run Tryz.prog w = .ok (.bool r) w := by
  rw [run_eql_struct, show (10000 : Nat) = 9999 + 1 from rfl, run_equalIn_agg w 9999 47 _ _ (by kernel_rfl) stood32]
  have h3 := Tryz.underlying3
  have h30 := Tryz.underlying38
  simp [Program.fieldsOf, Tryz.underlying47, Op.eqFields, go_sem]
  subst hr
  by_cases e1 : a = b <;> by_cases e2 : n = m <;> simp [e1, e2]
theorem guard32 : Tryz.prog.eqGuardType Tryz.prog.depth 47 = false := by kernel_rfl
theorem px_beq {p q : Px} (h : q = p) : (((q.a : Int) == (p.a : Int)) && ((q.n : Int) == (p.n : Int))) = true := by subst h; simp
theorem px_bne {p q : Px} (h : q ≠ p) : (((q.a : Int) == (p.a : Int)) && ((q.n : Int) == (p.n : Int))) = false := by
  rw [Bool.and_eq_false_iff]
  by_cases e : q.a = p.a
  · right
    rw [beq_eq_false_iff_ne]
    intro e2
    obtain ⟨a, n⟩ := p
    obtain ⟨b, m⟩ := q
    simp only at e e2
    exact h (by rw [e, show m = n by omega])
  · left
    rw [beq_eq_false_iff_ne]
    intro e2; exact e (by omega)
theorem node_set7 {w : World} {b : Nat} {q : Px} {u : Option Int} {pl pr : Value} {T : TypeId} (h : w.heap[b]? = some (.cells (nodeC q u pl pr) T (0, 0))) (x : Value) :
    (w.setCell ⟨b, 7, none⟩ x).heap[b]? = some (.cells (nodeC q u x pr) T (0, 0)) := by
  have := box_set (o := 7) h x
  simpa [nodeC] using this
theorem node_set8 {w : World} {b : Nat} {q : Px} {u : Option Int} {pl pr : Value} {T : TypeId} (h : w.heap[b]? = some (.cells (nodeC q u pl pr) T (0, 0))) (x : Value) :
    (w.setCell ⟨b, 8, none⟩ x).heap[b]? = some (.cells (nodeC q u pl x) T (0, 0)) := by
  have := box_set (o := 8) h x
  simpa [nodeC] using this
/-- A node whose left child was turned. -/
theorem close_left {w W4 Wd w5 : World} {q : Px} {u : Option Int} {l l' r : T} {b : Nat} {pl pr : Value} {Sl Sr S' : List Nat} {x : Option Addr}
    (hl : Tr w l pl Sl) (hr : Tr w r pr Sr) (h1 : b ∉ Sl) (h2 : b ∉ Sr) (h3 : ∀ k ∈ Sl, k ∉ Sr) (hb : b < w.heap.size)
    (T4 : Touch [] w W4) (B4 : W4.heap[b]? = some (.cells (nodeC q u pl pr) 155 (0, 0))) (tWd : Touch [] W4 Wd) (hTo : Touch Sl Wd w5) (hT : Tr w5 l' (.pointer x) S') (hS : ∀ k ∈ S', k ∈ Sl ∨ Wd.heap.size ≤ k) :
    Tr (w5.setCell ⟨b, 7, none⟩ (.pointer x)) (.node q u l' r) (.pointer (some ⟨b, 0, none⟩)) (b :: (S' ++ Sr)) ∧ Touch (b :: (Sl ++ Sr)) w (w5.setCell ⟨b, 7, none⟩ (.pointer x)) ∧ ∀ k ∈ b :: (S' ++ Sr), k ∈ b :: (Sl ++ Sr) ∨ w.heap.size ≤ k := by
  have hsz : w.heap.size ≤ Wd.heap.size := Nat.le_trans T4.size tWd.size
  have t0 : Touch Sl w w5 := ((T4.trans tWd (by simp)).mono (S' := Sl) (by simp)).trans hTo (fun k hk => .inl hk)
  have hbS : b ∉ S' := fun h => by
    rcases hS b h with h | h
    · exact h1 h
    · omega
  have ts : ∀ X : List Nat, b ∈ X → Touch X w5 (w5.setCell ⟨b, 7, none⟩ (.pointer x)) := fun X hX => (Touch.refl X w5).setCell _ _ (.inl hX)
  refine ⟨⟨b, _, pr, S', Sr, rfl, node_set7 (touch_box hTo (touch_box tWd B4 (by simp)) h1) _, hT.kept (ts [b] (by simp)) (fun k hk => by simp; rintro rfl; exact hbS hk), (hr.kept t0 (fun k hk h => h3 k h hk)).kept (ts [b] (by simp)) (fun k hk => by simp; rintro rfl; exact h2 hk), rfl, hbS, h2, fun k hk hk2 => ?_⟩, ?_, fun k hk => ?_⟩
  · rcases hS k hk with h | h
    · exact h3 k h hk2
    · have := hr.lt k hk2; omega
  · exact (t0.mono (fun k hk => .inl (by simp [hk]))).trans (ts (b :: (Sl ++ Sr)) (by simp)) (fun k hk => .inl hk)
  · simp at hk ⊢
    rcases hk with h | h | h
    · exact .inl (.inl h)
    · rcases hS k h with h4 | h4
      · exact .inl (.inr (.inl h4))
      · exact .inr (by omega)
    · exact .inl (.inr (.inr h))
/-- A node whose right child was turned. -/
theorem close_right {w W4 Wd w5 : World} {q : Px} {u : Option Int} {l r' r : T} {b : Nat} {pl pr : Value} {Sl Sr S' : List Nat} {x : Option Addr}
    (hl : Tr w l pl Sl) (hr : Tr w r pr Sr) (h1 : b ∉ Sl) (h2 : b ∉ Sr) (h3 : ∀ k ∈ Sl, k ∉ Sr) (hb : b < w.heap.size)
    (T4 : Touch [] w W4) (B4 : W4.heap[b]? = some (.cells (nodeC q u pl pr) 155 (0, 0))) (tWd : Touch [] W4 Wd) (hTo : Touch Sr Wd w5) (hT : Tr w5 r' (.pointer x) S') (hS : ∀ k ∈ S', k ∈ Sr ∨ Wd.heap.size ≤ k) :
    Tr (w5.setCell ⟨b, 8, none⟩ (.pointer x)) (.node q u l r') (.pointer (some ⟨b, 0, none⟩)) (b :: (Sl ++ S')) ∧ Touch (b :: (Sl ++ Sr)) w (w5.setCell ⟨b, 8, none⟩ (.pointer x)) ∧ ∀ k ∈ b :: (Sl ++ S'), k ∈ b :: (Sl ++ Sr) ∨ w.heap.size ≤ k := by
  have hsz : w.heap.size ≤ Wd.heap.size := Nat.le_trans T4.size tWd.size
  have t0 : Touch Sr w w5 := ((T4.trans tWd (by simp)).mono (S' := Sr) (by simp)).trans hTo (fun k hk => .inl hk)
  have hbS : b ∉ S' := fun h => by
    rcases hS b h with h | h
    · exact h2 h
    · omega
  have ts : ∀ X : List Nat, b ∈ X → Touch X w5 (w5.setCell ⟨b, 8, none⟩ (.pointer x)) := fun X hX => (Touch.refl X w5).setCell _ _ (.inl hX)
  refine ⟨⟨b, pl, _, Sl, S', rfl, node_set8 (touch_box hTo (touch_box tWd B4 (by simp)) h2) _, (hl.kept t0 (fun k hk h => h3 k hk h)).kept (ts [b] (by simp)) (fun k hk => by simp; rintro rfl; exact h1 hk), hT.kept (ts [b] (by simp)) (fun k hk => by simp; rintro rfl; exact hbS hk), rfl, h1, hbS, fun k hk hk2 => ?_⟩, ?_, fun k hk => ?_⟩
  · rcases hS k hk2 with h | h
    · exact h3 k hk h
    · have := hl.lt k hk; omega
  · exact (t0.mono (fun k hk => .inl (by simp [hk]))).trans (ts (b :: (Sl ++ Sr)) (by simp)) (fun k hk => .inl hk)
  · simp at hk ⊢
    rcases hk with h | h | h
    · exact .inl (.inl h)
    · exact .inl (.inr (.inl h))
    · rcases hS k h with h4 | h4
      · exact .inl (.inr (.inr h4))
      · exact .inr (by omega)
set_option maxHeartbeats 4000000 in
set_option maxRecDepth 100000 in
theorem hang_left (q : Px) (u : Option Int) (l r : T) (b : Nat) (pl pr : Value) (Sl Sr : List Nat) (w : World) (p : Px) (v : Int) (hb : w.heap[b]? = some (.cells (nodeC q u pl pr) 155 (0, 0))) (hl : Tr w l pl Sl) (hr : Tr w r pr Sr)
    (h1 : b ∉ Sl) (h2 : b ∉ Sr) (h3 : ∀ k ∈ Sl, k ∉ Sr) (hp : p.ok) (e : q ≠ p) (hi : ins p q) (hq : q.ok) (hbit : bitOf p.a q.n = 0) (hn31 : q.n ≤ 31)
    (ih : ∀ w', Tr w' l pl Sl → Calls Tryz.prog 158 #[pl, .agg #[.int .u32 p.a, .int .i64 p.n], .agg #[.int .u32 p.a, .int .i64 p.n, .int .u32 (rV v), .bool (rL v)]] w' (HangPost w' l Sl p v)) :
    Calls Tryz.prog 158 #[.pointer (some ⟨b, 0, none⟩), .agg #[.int .u32 p.a, .int .i64 p.n], .agg #[.int .u32 p.a, .int .i64 p.n, .int .u32 (rV v), .bool (rL v)]] w (HangPost w (.node q u l r) (b :: (Sl ++ Sr)) p v) := by
  have hg := guard32
  have hne := fun w => px_eql q.a q.n p.a p.n false (px_bne e) w
  have IH := Lib.hid ih
  have hpa := hp.2.1
  have hp32 := hp.1
  have hqn := hq.1
  have hmask : Hid (maskOf p.a q.n = q.a) := Lib.hid (by rw [← hq.2.2, maskOf_eq]; exact hi.2)
  have hle := hi.1
  have HH : Hid (hang (.node q u l r) p v = (.node q u (hang l p v).1 r, (hang l p v).2)) := Lib.hid (by
    rw [hang, if_neg e, if_pos hi, if_pos hbit])
  have HB := Lib.hid hb
  have HL := Lib.hid hl
  have HR := Lib.hid hr
  have H1 := Lib.hid h1
  have HLT := Lib.hid (Array.getElem?_eq_some_iff.1 hb).1
  have HX : Hid (w.heap.size ∉ Sl ∧ w.heap.size ∉ Sr) := Lib.hid ⟨fun h => Nat.lt_irrefl _ (hl.lt _ h), fun h => Nat.lt_irrefl _ (hr.lt _ h)⟩
  have H2 := Lib.hid h2
  have H3 := Lib.hid h3
  have HBIT := Lib.hid hbit
  have HP := Lib.hid hp
  have HQ := Lib.hid hq
  clear hb e hi ih hl hr h1 h2 h3 hp hq hbit
  go_enter Tryz.func158, Tryz.ntmps158
  go_wp2
  obtain ⟨W1, hW1⟩ : ∃ W1 : World, W1 = (w.alloc (.cells #[.int .u32 p.a, .int .i64 p.n] 47)).alloc (.cells #[.int .u32 p.a, .int .i64 p.n, .int .u32 (rV v), .bool (rL v)] 49) := ⟨_, rfl⟩
  rw [← hW1]
  have X := Lib.hid (show W1.heap[w.heap.size]? = some (.cells #[.int .u32 p.a, .int .i64 p.n] 47 (0, 0)) by rw [hW1]; exact box_keep _ (box_at w _))
  have Z := Lib.hid (show W1.heap[w.heap.size + 1]? = some (.cells #[.int .u32 p.a, .int .i64 p.n, .int .u32 (rV v), .bool (rL v)] 49 (0, 0)) by rw [hW1]; exact box_at' _ _ _ (by simp))
  have T1 := Lib.hid (show Touch [] w W1 by rw [hW1]; exact ((Touch.refl [] w).alloc _).alloc _)
  have B := Lib.hid (touch_box T1.out HB.out (by simp))
  clear hW1
  obtain ⟨c0, c1, _⟩ := node_cells B.out
  obtain ⟨d0, d1, _⟩ := two_cells X.out
  have n0 := fun u : Near W1 => u.cell c0
  have n1 := fun u : Near W1 => u.cell c1
  have m0 := fun u : Near W1 => u.cell d0
  have m1 := fun u : Near W1 => u.cell d1
  clear c0 c1 d0 d1
  refine wp_region_near (by kernel_rfl) (by kernel_rfl) ?_
  repeat (go_big_quiet_step (fail))
  refine wpQuiet_nil ?_
  rintro _ ⟨u2, rfl⟩
  have X2 := Lib.hid (touch_box u2.near X.out (by simp))
  have Z2 := Lib.hid (touch_box u2.near Z.out (by simp))
  have B2 := Lib.hid (touch_box u2.near B.out (by simp))
  have T2 := Lib.hid (T1.out.trans u2.near (by simp))
  clear n0 n1 m0 m1 hne hg
  obtain ⟨W2, hW2⟩ : ∃ W2 : World, W2 = u2.w := ⟨_, rfl⟩
  rw [← hW2] at X2 Z2 B2 T2 ⊢
  clear hW2 u2 X Z B T1
  obtain ⟨c0, c1, _⟩ := node_cells B2.out
  obtain ⟨d0, d1, _⟩ := two_cells X2.out
  have n0 := fun u : Near W2 => u.cell c0
  have n1 := fun u : Near W2 => u.cell c1
  have m0 := fun u : Near W2 => u.cell d0
  have m1 := fun u : Near W2 => u.cell d1
  clear c0 c1 d0 d1
  go_wp2
  refine wp_region_near (by kernel_rfl) (by kernel_rfl) ?_
  repeat (go_big_quiet_step ((go_at_call 122; exact near_call _ (inside_yes _ _ _ _ _ hpa hqn hle hp32 hmask.out))))
  refine wpQuiet_nil ?_
  rintro _ ⟨u2, rfl⟩
  have X3 := Lib.hid (touch_box u2.near X2.out (by simp))
  have Z3 := Lib.hid (touch_box u2.near Z2.out (by simp))
  have B3 := Lib.hid (touch_box u2.near B2.out (by simp))
  have T3 := Lib.hid (T2.out.trans u2.near (by simp))
  clear n0 n1 m0 m1
  obtain ⟨W3, hW3⟩ : ∃ W3 : World, W3 = u2.w := ⟨_, rfl⟩
  rw [← hW3] at X3 Z3 B3 T3 ⊢
  clear hW3 u2 X2 Z2 B2 T2
  obtain ⟨c0, c1, _⟩ := node_cells B3.out
  obtain ⟨d0, d1, _⟩ := two_cells X3.out
  have n0 := fun u : Near W3 => u.cell c0
  have n1 := fun u : Near W3 => u.cell c1
  have m0 := fun u : Near W3 => u.cell d0
  have m1 := fun u : Near W3 => u.cell d1
  clear c0 c1 d0 d1
  go_wp2
  refine wp_region_near (by kernel_rfl) (by kernel_rfl) ?_
  repeat (go_big_quiet_step ((go_at_call 86; exact bit_near _ _ _ hpa hn31)))
  refine wpQuiet_nil ?_
  rintro _ ⟨u2, rfl⟩
  have X4 := Lib.hid (touch_box u2.near X3.out (by simp))
  have Z4 := Lib.hid (touch_box u2.near Z3.out (by simp))
  have B4 := Lib.hid (touch_box u2.near B3.out (by simp))
  have T4 := Lib.hid (T3.out.trans u2.near (by simp))
  clear n0 n1 m0 m1
  obtain ⟨W4, hW4⟩ : ∃ W4 : World, W4 = u2.w := ⟨_, rfl⟩
  rw [← hW4] at X4 Z4 B4 T4 ⊢
  clear hW4 u2 X3 Z3 B3 T3
  obtain ⟨c0, c1, c2, -, c4, c5, cf'⟩ := node_cells B4.out
  have cf := cf' 7
  clear cf'
  obtain ⟨d0, d1, _⟩ := two_cells X4.out
  obtain ⟨z0, z1, z2, z3⟩ := rt_cells Z4.out
  have L4 := Lib.hid (HL.out.kept T4.out (by simp))
  have R4 := Lib.hid (HR.out.kept T4.out (by simp))
  rw [HBIT.out]
  go_wp2_with fail
  go_region_law (first | (go_simp; go_at_call 158; refine (IH.out _ (by exact L4.out.kept (by first | exact (Touch.refl [] _).drew | exact (Touch.refl [] _).drewN _ | exact Touch.refl [] _) (by simp))).mono ?_; rintro e w5 ⟨pv', S', rfl, hT, hTo, hS⟩; have k4 := cell_touch hTo (a := ⟨b, 7, none⟩) (v := pl) (by simp [c4]) H1.out; have kf := frozen_touch hTo (b := b) (o := 7) (v := pl) (by simp [c4]) (by simp [cf]) H1.out))
  all_goals
    clear c0 c1 c2 c4 c5 cf d0 d1 z0 z1 z2 z3 k4 kf
    go_wp2
    go_ret2
    obtain ⟨g1, g2, g3⟩ := close_left HL.out HR.out H1.out H2.out H3.out HLT.out T4.out B4.out (by first | exact (Touch.refl [] _).drew | exact (Touch.refl [] _).drewN _ | exact Touch.refl [] _) hTo hT hS
    unfold HangPost
    rw [HH.out]
    exact ⟨_, _, rfl, g1, g2, g3⟩
set_option maxHeartbeats 4000000 in
set_option maxRecDepth 100000 in
theorem hang_right (q : Px) (u : Option Int) (l r : T) (b : Nat) (pl pr : Value) (Sl Sr : List Nat) (w : World) (p : Px) (v : Int) (hb : w.heap[b]? = some (.cells (nodeC q u pl pr) 155 (0, 0))) (hl : Tr w l pl Sl) (hr : Tr w r pr Sr)
    (h1 : b ∉ Sl) (h2 : b ∉ Sr) (h3 : ∀ k ∈ Sl, k ∉ Sr) (hp : p.ok) (e : q ≠ p) (hi : ins p q) (hq : q.ok) (hbit : bitOf p.a q.n = 1) (hn31 : q.n ≤ 31)
    (ih : ∀ w', Tr w' r pr Sr → Calls Tryz.prog 158 #[pr, .agg #[.int .u32 p.a, .int .i64 p.n], .agg #[.int .u32 p.a, .int .i64 p.n, .int .u32 (rV v), .bool (rL v)]] w' (HangPost w' r Sr p v)) :
    Calls Tryz.prog 158 #[.pointer (some ⟨b, 0, none⟩), .agg #[.int .u32 p.a, .int .i64 p.n], .agg #[.int .u32 p.a, .int .i64 p.n, .int .u32 (rV v), .bool (rL v)]] w (HangPost w (.node q u l r) (b :: (Sl ++ Sr)) p v) := by
  have hg := guard32
  have hne := fun w => px_eql q.a q.n p.a p.n false (px_bne e) w
  have IH := Lib.hid ih
  have hpa := hp.2.1
  have hp32 := hp.1
  have hqn := hq.1
  have hmask : Hid (maskOf p.a q.n = q.a) := Lib.hid (by rw [← hq.2.2, maskOf_eq]; exact hi.2)
  have hle := hi.1
  have HH : Hid (hang (.node q u l r) p v = (.node q u l (hang r p v).1, (hang r p v).2)) := Lib.hid (by
    rw [hang, if_neg e, if_pos hi, if_neg (by omega)])
  have HB := Lib.hid hb
  have HL := Lib.hid hl
  have HR := Lib.hid hr
  have H1 := Lib.hid h1
  have HLT := Lib.hid (Array.getElem?_eq_some_iff.1 hb).1
  have HX : Hid (w.heap.size ∉ Sl ∧ w.heap.size ∉ Sr) := Lib.hid ⟨fun h => Nat.lt_irrefl _ (hl.lt _ h), fun h => Nat.lt_irrefl _ (hr.lt _ h)⟩
  have H2 := Lib.hid h2
  have H3 := Lib.hid h3
  have HBIT := Lib.hid hbit
  have HP := Lib.hid hp
  have HQ := Lib.hid hq
  clear hb e hi ih hl hr h1 h2 h3 hp hq hbit
  go_enter Tryz.func158, Tryz.ntmps158
  go_wp2
  obtain ⟨W1, hW1⟩ : ∃ W1 : World, W1 = (w.alloc (.cells #[.int .u32 p.a, .int .i64 p.n] 47)).alloc (.cells #[.int .u32 p.a, .int .i64 p.n, .int .u32 (rV v), .bool (rL v)] 49) := ⟨_, rfl⟩
  rw [← hW1]
  have X := Lib.hid (show W1.heap[w.heap.size]? = some (.cells #[.int .u32 p.a, .int .i64 p.n] 47 (0, 0)) by rw [hW1]; exact box_keep _ (box_at w _))
  have Z := Lib.hid (show W1.heap[w.heap.size + 1]? = some (.cells #[.int .u32 p.a, .int .i64 p.n, .int .u32 (rV v), .bool (rL v)] 49 (0, 0)) by rw [hW1]; exact box_at' _ _ _ (by simp))
  have T1 := Lib.hid (show Touch [] w W1 by rw [hW1]; exact ((Touch.refl [] w).alloc _).alloc _)
  have B := Lib.hid (touch_box T1.out HB.out (by simp))
  clear hW1
  obtain ⟨c0, c1, _⟩ := node_cells B.out
  obtain ⟨d0, d1, _⟩ := two_cells X.out
  have n0 := fun u : Near W1 => u.cell c0
  have n1 := fun u : Near W1 => u.cell c1
  have m0 := fun u : Near W1 => u.cell d0
  have m1 := fun u : Near W1 => u.cell d1
  clear c0 c1 d0 d1
  refine wp_region_near (by kernel_rfl) (by kernel_rfl) ?_
  repeat (go_big_quiet_step (fail))
  refine wpQuiet_nil ?_
  rintro _ ⟨u2, rfl⟩
  have X2 := Lib.hid (touch_box u2.near X.out (by simp))
  have Z2 := Lib.hid (touch_box u2.near Z.out (by simp))
  have B2 := Lib.hid (touch_box u2.near B.out (by simp))
  have T2 := Lib.hid (T1.out.trans u2.near (by simp))
  clear n0 n1 m0 m1 hne hg
  obtain ⟨W2, hW2⟩ : ∃ W2 : World, W2 = u2.w := ⟨_, rfl⟩
  rw [← hW2] at X2 Z2 B2 T2 ⊢
  clear hW2 u2 X Z B T1
  obtain ⟨c0, c1, _⟩ := node_cells B2.out
  obtain ⟨d0, d1, _⟩ := two_cells X2.out
  have n0 := fun u : Near W2 => u.cell c0
  have n1 := fun u : Near W2 => u.cell c1
  have m0 := fun u : Near W2 => u.cell d0
  have m1 := fun u : Near W2 => u.cell d1
  clear c0 c1 d0 d1
  go_wp2
  refine wp_region_near (by kernel_rfl) (by kernel_rfl) ?_
  repeat (go_big_quiet_step ((go_at_call 122; exact near_call _ (inside_yes _ _ _ _ _ hpa hqn hle hp32 hmask.out))))
  refine wpQuiet_nil ?_
  rintro _ ⟨u2, rfl⟩
  have X3 := Lib.hid (touch_box u2.near X2.out (by simp))
  have Z3 := Lib.hid (touch_box u2.near Z2.out (by simp))
  have B3 := Lib.hid (touch_box u2.near B2.out (by simp))
  have T3 := Lib.hid (T2.out.trans u2.near (by simp))
  clear n0 n1 m0 m1
  obtain ⟨W3, hW3⟩ : ∃ W3 : World, W3 = u2.w := ⟨_, rfl⟩
  rw [← hW3] at X3 Z3 B3 T3 ⊢
  clear hW3 u2 X2 Z2 B2 T2
  obtain ⟨c0, c1, _⟩ := node_cells B3.out
  obtain ⟨d0, d1, _⟩ := two_cells X3.out
  have n0 := fun u : Near W3 => u.cell c0
  have n1 := fun u : Near W3 => u.cell c1
  have m0 := fun u : Near W3 => u.cell d0
  have m1 := fun u : Near W3 => u.cell d1
  clear c0 c1 d0 d1
  go_wp2
  refine wp_region_near (by kernel_rfl) (by kernel_rfl) ?_
  repeat (go_big_quiet_step ((go_at_call 86; exact bit_near _ _ _ hpa hn31)))
  refine wpQuiet_nil ?_
  rintro _ ⟨u2, rfl⟩
  have X4 := Lib.hid (touch_box u2.near X3.out (by simp))
  have Z4 := Lib.hid (touch_box u2.near Z3.out (by simp))
  have B4 := Lib.hid (touch_box u2.near B3.out (by simp))
  have T4 := Lib.hid (T3.out.trans u2.near (by simp))
  clear n0 n1 m0 m1
  obtain ⟨W4, hW4⟩ : ∃ W4 : World, W4 = u2.w := ⟨_, rfl⟩
  rw [← hW4] at X4 Z4 B4 T4 ⊢
  clear hW4 u2 X3 Z3 B3 T3
  obtain ⟨c0, c1, c2, -, c4, c5, cf'⟩ := node_cells B4.out
  have cf := cf' 8
  clear cf'
  obtain ⟨d0, d1, _⟩ := two_cells X4.out
  obtain ⟨z0, z1, z2, z3⟩ := rt_cells Z4.out
  have L4 := Lib.hid (HL.out.kept T4.out (by simp))
  have R4 := Lib.hid (HR.out.kept T4.out (by simp))
  rw [HBIT.out]
  go_wp2_with fail
  go_region_law (first | (go_simp; go_at_call 158; refine (IH.out _ (by exact R4.out.kept (by first | exact (Touch.refl [] _).drew | exact (Touch.refl [] _).drewN _ | exact Touch.refl [] _) (by simp))).mono ?_; rintro e w5 ⟨pv', S', rfl, hT, hTo, hS⟩; have k4 := cell_touch hTo (a := ⟨b, 8, none⟩) (v := pr) (by simp [c5]) H2.out; have kf := frozen_touch hTo (b := b) (o := 8) (v := pr) (by simp [c5]) (by simp [cf]) H2.out))
  all_goals
    clear c0 c1 c2 c4 c5 cf d0 d1 z0 z1 z2 z3 k4 kf
    go_wp2
    go_ret2
    obtain ⟨g1, g2, g3⟩ := close_right HL.out HR.out H1.out H2.out H3.out HLT.out T4.out B4.out (by first | exact (Touch.refl [] _).drew | exact (Touch.refl [] _).drewN _ | exact Touch.refl [] _) hTo hT hS
    unfold HangPost
    rw [HH.out]
    exact ⟨_, _, rfl, g1, g2, g3⟩
end Go.Proofs.YtnpeafhjcelpfaaGreat.Tri
