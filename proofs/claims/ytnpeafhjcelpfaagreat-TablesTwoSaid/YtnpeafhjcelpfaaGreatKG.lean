/- sought, Get; no condition. -/
import Derived.Test.YtnpeafhjcelpfaaGreatKF
namespace Go.Proofs.YtnpeafhjcelpfaaGreat.Tri
open Go.RowKit Go.Maps
set_option linter.unusedVariables false

def tsize : T → Nat
  | .nil => 0
  | .node _ _ l r => tsize l + tsize r + 1
/-- What is the best so far. -/
theorem px_neq (a n b m : Int) (r : Bool) (hr : (a == b && n == m) = r) (w : World) :
    (binOp .neq 47 (.agg #[.int .u32 a, .int .i64 n]) (.agg #[.int .u32 b, .int .i64 m])).run Tryz.prog w = .ok (.bool (!r)) w := by
  rw [run_neq_struct, show (10000 : Nat) = 9999 + 1 from rfl, run_equalIn_agg w 9999 47 _ _ (by kernel_rfl) stood32]
  have h3 := Tryz.underlying3
  have h30 := Tryz.underlying38
  simp [Program.fieldsOf, Tryz.underlying47, Op.eqFields, go_sem]
  subst hr
  by_cases e1 : a = b <;> by_cases e2 : n = m <;> simp [e1, e2]
def SoughtPost (w : World) (t : T) (p : Px) (e : Ending) (w' : World) : Prop :=
  Touch [] w w' ∧ ((seek t p = none ∧ e = .returned (.pointer none)) ∨ ∃ (v : Int) (b : Nat) (pl pr : Value), seek t p = some v ∧ e = .returned (.pointer (some ⟨b, 0, none⟩)) ∧ w.heap[b]? = some (.cells (nodeC p (some v) pl pr) 155 (0, 0)))
theorem inside_yes_near {w0 : World} (u : Near w0) (a n b m : Nat) (ha : a < 4294967296) (hm : m ≤ 32) (hmn : m ≤ n) (hn : n ≤ 32) (h : maskOf a m = b) :
    Calls Tryz.prog 122 #[.agg #[.int .u32 a, .int .i64 n], .agg #[.int .u32 b, .int .i64 m]] u.w fun e w' => e = .returned (.bool true) ∧ ∃ x : Near w0, w' = x.w :=
  near_call u (inside_yes a n b m u.w ha hm hmn hn h)
theorem inside_no_near {w0 : World} (u : Near w0) (a n b m : Nat) (ha : a < 4294967296) (hm : m ≤ 32) (hn : n ≤ 32) (h : m ≤ n → maskOf a m ≠ b) :
    Calls Tryz.prog 122 #[.agg #[.int .u32 a, .int .i64 n], .agg #[.int .u32 b, .int .i64 m]] u.w fun e w' => e = .returned (.bool false) ∧ ∃ x : Near w0, w' = x.w :=
  near_call u (inside_no a n b m u.w ha hm hn h)
set_option maxHeartbeats 4000000 in
set_option maxRecDepth 100000 in
theorem sought_calls {w : World} {t : T} {pv : Option Addr} {S : List Nat} (hT : Tr w t (.pointer pv) S) (hO : Ok t) (p : Px) (hp : p.ok) :
    Calls Tryz.prog 157 #[.pointer pv, .agg #[.int .u32 p.a, .int .i64 p.n]] w (SoughtPost w t p) := by
  have HT := Lib.hid hT
  have HO := Lib.hid hO
  have HP := Lib.hid hp
  have hpa := hp.2.1
  have hp32 := hp.1
  have hg := guard32
  clear hT hO hp
  go_enter Tryz.func157, Tryz.ntmps157
  go_wp2
  obtain ⟨W1, hW1⟩ : ∃ W1 : World, W1 = w.alloc (.cells #[.int .u32 p.a, .int .i64 p.n] 47) := ⟨_, rfl⟩
  rw [← hW1]
  have X1 := Lib.hid (show W1.heap[w.heap.size]? = some (.cells #[.int .u32 p.a, .int .i64 p.n] 47 (0, 0)) by rw [hW1]; exact box_at w _)
  have T1 := Lib.hid (show Touch [] w W1 by rw [hW1]; exact (Touch.refl [] w).alloc _)
  clear hW1
  go_loopg [0] (tsize t) (fun kq v0 wr => ∃ (x : T) (px : Option Addr) (Sx : List Nat), v0 = .pointer px ∧ Hid (Tr w x (.pointer px) Sx) ∧ Hid (Ok x) ∧ Hid (seek t p = seek x p) ∧ Hid (Touch [] W1 wr) ∧ tsize x ≤ kq)
  case atStart => exact ⟨t, pv, S, rfl, HT, HO, Lib.hid rfl, Lib.hid (Touch.refl _ _), Nat.le_refl _⟩
  case round =>
    obtain ⟨x, px, Sx, rfl, hTx, hOx, hF, hTr, hk⟩ := hrel
    cases x with
    | nil =>
      have e0 : px = none := by have := hTx.out.1; simpa using this
      subst e0
      have HR : Hid (seek t p = none) := Lib.hid (by rw [hF.out]; rfl)
      clear hF hk
      go_wp2
      refine wp_region_near (by kernel_rfl) (by kernel_rfl) ?_
      repeat (go_big_quiet_step (fail))
      refine wpQuiet_nil ?_
      rintro _ ⟨u2, rfl⟩
      have TX := Lib.hid ((T1.out.trans hTr.out (by simp)).trans u2.near (by simp))
      go_wp2
      go_ret
      exact ⟨TX.out, .inl ⟨HR.out, rfl⟩⟩
    | node q u l r =>
      obtain ⟨b, pl, pr, Sl, Sr, hpp, hb, hl, hr, hS, h1, h2, h3⟩ := hTx.out
      obtain ⟨o1, o2, o3, o4, o5, o6⟩ := hOx.out
      have e0 : px = some ⟨b, 0, none⟩ := by simpa using hpp
      subst e0
      have hqn := o1.1
      have B := Lib.hid (touch_box hTr.out (touch_box T1.out hb (by simp)) (by simp))
      have X := Lib.hid (touch_box hTr.out X1.out (by simp))
      obtain ⟨q0, q1, q2, q3, q4, q5, _⟩ := node_cells B.out
      obtain ⟨d0, d1, _⟩ := two_cells X.out
      have n0 := fun u : Near wr => u.cell q0
      have n1 := fun u : Near wr => u.cell q1
      have k0 := fun u : Near wr => u.cell d0
      have k1 := fun u : Near wr => u.cell d1
      have HLt := Lib.hid hl
      have HRt := Lib.hid hr
      have HB2 := Lib.hid hb
      have O1 := Lib.hid o1
      have O5 := Lib.hid o5
      have O6 := Lib.hid o6
      clear hpp hb hl hr hS h1 h2 h3 o1 o2 o3 o4 o5 o6 q0 q1 q2 q3 q4 q5 d0 d1
      by_cases e : q = p
      · have hneq := fun w => px_neq q.a q.n p.a p.n true (px_beq e) w
        have HR : Hid (seek t p = u) := Lib.hid (by rw [hF.out, seek, if_pos e])
        have HE := Lib.hid e
        clear e hF hk
        go_wp2
        refine wp_region_near (by kernel_rfl) (by kernel_rfl) ?_
        repeat (go_big_quiet_step (fail))
        refine wpQuiet_nil ?_
        rintro _ ⟨u2, rfl⟩
        have TX := Lib.hid ((T1.out.trans hTr.out (by simp)).trans u2.near (by simp))
        have B2 := Lib.hid (touch_box u2.near B.out (by simp))
        clear n0 n1 k0 k1 hneq
        obtain ⟨_, _, q2, _⟩ := node_cells B2.out
        cases u with
        | none =>
          go_wp2
          go_ret
          exact ⟨TX.out, .inl ⟨HR.out, rfl⟩⟩
        | some v =>
          go_wp2
          go_ret
          exact ⟨TX.out, .inr ⟨v, b, pl, pr, HR.out, rfl, by have := HB2.out; rw [HE.out] at this; exact this⟩⟩
      · have hneq := fun w => px_neq q.a q.n p.a p.n false (px_bne e) w
        have HE := Lib.hid e
        clear e
        go_wp2
        refine wp_region_near (by kernel_rfl) (by kernel_rfl) ?_
        repeat (go_big_quiet_step (fail))
        refine wpQuiet_nil ?_
        rintro _ ⟨u2, rfl⟩
        have T2 := Lib.hid (hTr.out.trans u2.near (by simp))
        have B2 := Lib.hid (touch_box u2.near B.out (by simp))
        have X2 := Lib.hid (touch_box u2.near X.out (by simp))
        clear n0 n1 k0 k1 hneq B X hTr
        obtain ⟨q0, q1, _⟩ := node_cells B2.out
        obtain ⟨d0, d1, _⟩ := two_cells X2.out
        have n0 := fun u : Near u2.w => u.cell q0
        have n1 := fun u : Near u2.w => u.cell q1
        have k0 := fun u : Near u2.w => u.cell d0
        have k1 := fun u : Near u2.w => u.cell d1
        clear q0 q1 d0 d1
        by_cases hi : ins p q
        · have hF1 : Hid (seek t p = if bitOf p.a q.n = 0 then seek l p else seek r p) := Lib.hid (by rw [hF.out, seek, if_neg HE.out, if_pos hi])
          have hmask : Hid (maskOf p.a q.n = q.a) := Lib.hid (by rw [← O1.out.2.2, maskOf_eq]; exact hi.2)
          have hle := hi.1
          have hs := side_of hi (fun e' => HE.out e'.symm) HP.out O1.out
          have h31 : q.n ≤ 31 := by have := hs.1; omega
          clear hi hs hF
          have HI := Lib.hid (fun u : Near u2.w => inside_yes_near u p.a p.n q.a q.n hpa hqn hle hp32 hmask.out)
          go_wp2
          refine wp_region_near (by kernel_rfl) (by kernel_rfl) ?_
          repeat (go_big_quiet_step ((go_at_call 122; exact HI.out _)))
          refine wpQuiet_nil ?_
          rintro _ ⟨u3, rfl⟩
          have T3 := Lib.hid (T2.out.trans u3.near (by simp))
          have B3 := Lib.hid (touch_box u3.near B2.out (by simp))
          have X3 := Lib.hid (touch_box u3.near X2.out (by simp))
          clear n0 n1 k0 k1 HI B2 X2 T2
          obtain ⟨_, q1, _, _, q4, q5, _⟩ := node_cells B3.out
          obtain ⟨d0, _⟩ := two_cells X3.out
          have n1 := fun u : Near u3.w => u.cell q1
          have n4 := fun u : Near u3.w => u.cell q4
          have n5 := fun u : Near u3.w => u.cell q5
          have k0 := fun u : Near u3.w => u.cell d0
          clear q1 q4 q5 d0
          have HC := Lib.hid (fun u : Near u3.w => bit_near u p.a q.n hpa h31)
          rcases bit_two p.a q.n with hb0 | hb0
          · have hF3 : Hid (seek t p = seek l p) := Lib.hid (by rw [hF1.out, if_pos hb0])
            have hlk : tsize l < gk := by have := hk; simp only [tsize] at this; omega
            rw [hb0] at HC
            clear hF1 hb0 hk
            go_wp2
            refine wp_region_near (by kernel_rfl) (by kernel_rfl) ?_
            repeat (go_big_quiet_step ((go_at_call 86; exact HC.out _)))
            refine wpQuiet_nil ?_
            rintro _ ⟨u4, rfl⟩
            have TY := Lib.hid (T3.out.trans u4.near (by simp))
            clear n1 n4 n5 k0 HC
            obtain ⟨ax, hax⟩ := HLt.out.ptr
            subst hax
            go_wp2
            go_roundg (gk - 1)
            case rel => exact ⟨l, ax, Sl, rfl, HLt, O5, hF3, TY, by omega⟩
            case measure => omega
          · have hF3 : Hid (seek t p = seek r p) := Lib.hid (by rw [hF1.out, if_neg (by omega)])
            have hlk : tsize r < gk := by have := hk; simp only [tsize] at this; omega
            rw [hb0] at HC
            clear hF1 hb0 hk
            go_wp2
            refine wp_region_near (by kernel_rfl) (by kernel_rfl) ?_
            repeat (go_big_quiet_step ((go_at_call 86; exact HC.out _)))
            refine wpQuiet_nil ?_
            rintro _ ⟨u4, rfl⟩
            have TY := Lib.hid (T3.out.trans u4.near (by simp))
            clear n1 n4 n5 k0 HC
            obtain ⟨ax, hax⟩ := HRt.out.ptr
            subst hax
            go_wp2
            go_roundg (gk - 1)
            case rel => exact ⟨r, ax, Sr, rfl, HRt, O6, hF3, TY, by omega⟩
            case measure => omega
        · have HR : Hid (seek t p = none) := Lib.hid (by rw [hF.out, seek, if_neg HE.out, if_neg hi])
          have hmask : Hid (q.n ≤ p.n → maskOf p.a q.n ≠ q.a) := Lib.hid (fun hle h => hi ⟨hle, by rw [← h, top_mask]⟩)
          have HI := Lib.hid (fun u : Near u2.w => inside_no_near u p.a p.n q.a q.n hpa hqn hp32 hmask.out)
          clear hi hF
          go_wp2
          refine wp_region_near (by kernel_rfl) (by kernel_rfl) ?_
          repeat (go_big_quiet_step ((go_at_call 122; exact HI.out _)))
          refine wpQuiet_nil ?_
          rintro _ ⟨u3, rfl⟩
          have TX := Lib.hid ((T1.out.trans T2.out (by simp)).trans u3.near (by simp))
          clear n0 n1 k0 k1 HI
          go_wp2
          go_ret
          exact ⟨TX.out, .inl ⟨HR.out, rfl⟩⟩
theorem rt_set {w : World} {b : Nat} {c0 c1 c2 c3 : Value} {T : TypeId} (h : w.heap[b]? = some (.cells #[c0, c1, c2, c3] T (0, 0))) (x y z u : Value) :
    ∃ W : World, W = (((w.setCell ⟨b, 0, none⟩ x).setCell ⟨b, 1, none⟩ y).setCell ⟨b, 2, none⟩ z).setCell ⟨b, 3, none⟩ u ∧ W.heap[b]? = some (.cells #[x, y, z, u] T (0, 0)) ∧ Touch [b] w W :=
  ⟨_, rfl, box_set (o := 3) (box_set (o := 2) (box_set (o := 1) (box_set (o := 0) h x) y) z) u, ((((Touch.refl [b] w).setCell _ _ (.inl (by simp))).setCell _ _ (.inl (by simp))).setCell _ _ (.inl (by simp))).setCell _ _ (.inl (by simp))⟩
theorem rt_frozen {w : World} {b : Nat} {c : Array Value} {T : TypeId} (h : w.heap[b]? = some (.cells c T (0, 0))) (o : Nat) : w.frozen? ⟨b, o, none⟩ = false := by
  simp [World.frozen?, h]
/-- A route as a value: at the prefix p, what v tells. -/
def rtV (p : Px) (v : Int) : Value := .agg #[.int .u32 p.a, .int .i64 p.n, .int .u32 (rV v), .bool (rL v)]
def zeroRt : Value := .agg #[.int .u32 0, .int .i64 0, .int .u32 0, .bool false]
def GetPost (w : World) (t : T) (p : Px) (e : Ending) (w' : World) : Prop :=
  Touch [] w w' ∧ ((seek t p = none ∧ e = .returned (.tuple #[zeroRt, .int .i64 3])) ∨ ∃ v : Int, seek t p = some v ∧ e = .returned (.tuple #[rtV p v, .int .i64 0]))
set_option maxHeartbeats 4000000 in
set_option maxRecDepth 100000 in
theorem get_calls {w : World} {tb : Nat} {t : T} {S : List Nat} {k : Nat} (h : TrieAt w tb t S k) (p : Px) (hp : p.ok) :
    Calls Tryz.prog 154 #[.pointer (some ⟨tb, 0, none⟩), .agg #[.int .u32 p.a, .int .i64 p.n]] w (GetPost w t p) := by
  obtain ⟨pv, S0, hb, hT, h1, rfl⟩ := h.at_
  have HB := Lib.hid hb
  have HT := Lib.hid hT
  have HP := Lib.hid hp
  have HO := Lib.hid h.ok
  have hpa := hp.2.1
  clear hb hT h1 h hp
  go_enter Tryz.func154, Tryz.ntmps154
  go_upto_region 2 with (fail)
  obtain ⟨W0, hW0⟩ : ∃ W0 : World, W0 = ((w.alloc (.cells #[.int .u32 p.a, .int .i64 p.n] 47)).alloc (.cells #[.int .u32 0, .int .i64 0, .int .u32 0, .bool false] 49)).alloc (.cells #[.int .u32 0, .int .i64 0, .int .u32 0, .bool false] 49) := ⟨_, rfl⟩
  rw [← hW0]
  obtain ⟨b0, hb0⟩ : ∃ b0, b0 = w.heap.size := ⟨_, rfl⟩
  obtain ⟨b1, hb1⟩ : ∃ b1, b1 = w.heap.size + 1 := ⟨_, rfl⟩
  obtain ⟨b2, hb2⟩ : ∃ b2, b2 = w.heap.size + 1 + 1 := ⟨_, rfl⟩
  have X0 := Lib.hid (show W0.heap[b0]? = some (.cells #[.int .u32 p.a, .int .i64 p.n] 47 (0, 0)) by rw [hW0, hb0]; exact box_keep _ (box_keep _ (box_at w _)))
  have R0 := Lib.hid (show W0.heap[b1]? = some (.cells #[.int .u32 0, .int .i64 0, .int .u32 0, .bool false] 49 (0, 0)) by rw [hW0, hb1]; exact box_keep _ (box_at' _ _ _ (by simp)))
  have Z0 := Lib.hid (show W0.heap[b2]? = some (.cells #[.int .u32 0, .int .i64 0, .int .u32 0, .bool false] 49 (0, 0)) by rw [hW0, hb2]; exact box_at' _ _ _ (by simp))
  have T0 := Lib.hid (show Touch [] w W0 by rw [hW0]; exact (((Touch.refl [] w).alloc _).alloc _).alloc _)
  have HB1 : Hid (w.heap.size ≤ b1) := Lib.hid (by omega)
  rw [← hb2, ← hb1, ← hb0]
  clear hb0 hb1 hb2 hW0
  obtain ⟨d0, d1, _⟩ := two_cells X0.out
  go_wp2_with fail
  refine (refusal_yes p.a p.n _ hpa ⟨by omega, by simpa using HP.out⟩).mono ?_
  rintro e w1 ⟨rfl, ht⟩
  have T1 := Lib.hid (T0.out.trans ht (by simp))
  have X := Lib.hid (touch_box ht X0.out (by simp))
  have R1 := Lib.hid (touch_box ht R0.out (by simp))
  have Z1 := Lib.hid (touch_box ht Z0.out (by simp))
  have B := Lib.hid (touch_box T1.out HB.out (by simp))
  clear ht X0 R0 Z0 T0 d0 d1
  obtain ⟨c0, c1, f0, f1⟩ := two_cells B.out
  obtain ⟨d0, d1, _⟩ := two_cells X.out
  go_wp2
  go_still_tail 5, (by kernel_rfl)
  change wpList _ _ _ _ _ (World.drew w1)
  go_wp2_with fail
  refine (sought_calls (t := t) (pv := pv) (S := S0) (by exact (HT.out.kept T1.out (by simp)).kept (Touch.refl [] _).drew (by simp)) HO.out p HP.out).mono ?_
  rintro e w2 ⟨t2, hh⟩
  have TX := Lib.hid ((T1.out.trans (Touch.refl [] w1).drew (by simp)).trans t2 (by simp))
  have R2 := Lib.hid (touch_box t2 (show w1.drew.heap[b1]? = _ from R1.out) (by simp))
  have Z2 := Lib.hid (touch_box t2 (show w1.drew.heap[b2]? = _ from Z1.out) (by simp))
  clear c0 c1 f0 f1 d0 d1 R1 Z1 X B
  obtain ⟨r0, r1, r2, r3⟩ := rt_cells R2.out
  obtain ⟨z0, z1, z2, z3⟩ := rt_cells Z2.out
  have rf := fun o => rt_frozen R2.out o
  rcases hh with ⟨hn, rfl⟩ | ⟨v, b, pl, pr, hv, rfl, hnode⟩
  · have HN := Lib.hid hn
    obtain ⟨W3, hW3, k3, t3⟩ := rt_set R2.out (.int .u32 0) (.int .i64 0) (.int .u32 0) (.bool false)
    have HW3 := Lib.hid hW3
    have K3 := Lib.hid k3
    have T3 := Lib.hid t3
    clear hn hW3 k3 t3 t2
    go_wp2
    rw [← HW3.out]
    clear r0 r1 r2 r3 z0 z1 z2 z3 rf HW3
    obtain ⟨r0, r1, r2, r3⟩ := rt_cells K3.out
    refine bodyPost_ret (v := .tuple #[zeroRt, .int .i64 3]) (by simp [results, Tryz.results154, go_sem, r0, r1, r2, r3, zeroRt]) rfl ?_
    exact ⟨TX.out.trans T3.out (fun x hx => .inr (by simp at hx; rw [hx]; exact HB1.out)), .inl ⟨HN.out, rfl⟩⟩
  · have HV := Lib.hid hv
    have ND := Lib.hid (touch_box t2 (show w1.drew.heap[b]? = _ from hnode) (by simp))
    obtain ⟨_, _, _, ⟨n3, n4, n5, n6⟩, _⟩ := node_cells ND.out
    dsimp only [oA, oN, oV, oL] at n3 n4 n5 n6
    obtain ⟨W3, hW3, k3, t3⟩ := rt_set R2.out (.int .u32 p.a) (.int .i64 p.n) (.int .u32 (rV v)) (.bool (rL v))
    have HW3 := Lib.hid hW3
    have K3 := Lib.hid k3
    have T3 := Lib.hid t3
    clear hv hnode hW3 k3 t3 t2
    go_wp2
    rw [← HW3.out]
    clear r0 r1 r2 r3 z0 z1 z2 z3 rf HW3 n3 n4 n5 n6
    obtain ⟨r0, r1, r2, r3⟩ := rt_cells K3.out
    refine bodyPost_ret (v := .tuple #[rtV p v, .int .i64 0]) (by simp [results, Tryz.results154, go_sem, r0, r1, r2, r3, rtV]) rfl ?_
    exact ⟨TX.out.trans T3.out (fun x hx => .inr (by simp at hx; rw [hx]; exact HB1.out)), .inr ⟨v, HV.out, rfl⟩⟩
end Go.Proofs.YtnpeafhjcelpfaaGreat.Tri
