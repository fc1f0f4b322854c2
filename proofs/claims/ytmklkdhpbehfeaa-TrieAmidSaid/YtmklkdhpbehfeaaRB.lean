/- The reference's object; holds, find, Get; no condition. -/
import Derived.Test.YtmklkdhpbehfeaaRA
namespace Go.Proofs.Ytmklkdhpbehfeaa.Tri
open Go.RowKit Go.Maps
set_option linter.unusedVariables false

theorem holds_iff {p : Px} (hp : p.ok) (a : Nat) : (p.a ≤ a ∧ a < p.a + 2 ^ (32 - p.n)) ↔ maskOf a p.n = p.a := by
  have h := hp.2.2
  have hs : 0 < 2 ^ (32 - p.n) := Nat.two_pow_pos _
  unfold maskOf at h ⊢
  generalize 2 ^ (32 - p.n) = s at *
  have e1 := Nat.div_add_mod a s
  have e2 := Nat.mod_lt a hs
  rw [Nat.mul_comm] at e1
  constructor
  · rintro ⟨h1, h2⟩
    have : a / s = p.a / s := by
      rw [← h] at h1 h2
      have g1 : p.a / s ≤ a / s := (Nat.le_div_iff_mul_le hs).2 h1
      have g2 : a / s < p.a / s + 1 := (Nat.div_lt_iff_lt_mul hs).2 (by rw [Nat.add_mul, Nat.one_mul]; exact h2)
      omega
    rw [this, h]
  · intro h1
    omega
set_option maxHeartbeats 1000000 in
set_option maxRecDepth 100000 in
theorem rholds_calls (p : Px) (a : Nat) (w : World) (hp : p.ok) (ha : a < 4294967296) (r : Bool) (hr : r = decide (maskOf a p.n = p.a)) :
    Calls Try.prog 83 #[.agg #[.int .u32 p.a, .int .i64 p.n], .int .u32 a] w fun e w' => e = .returned (.bool r) ∧ Touch [] w w' := by
  have hn := hp.1
  have hpa := hp.2.1
  have hpw := pow_bd hn
  have hiff := holds_iff hp a
  obtain ⟨x, hx⟩ : ∃ x : Nat, x = 2 ^ (32 - p.n) := ⟨_, rfl⟩
  rw [← hx] at hpw hiff
  obtain ⟨hp1, hp2⟩ := hpw
  have HX := Lib.hid hx
  by_cases h1 : p.a ≤ a
  · have e1 : decide ((p.a : Int) ≤ (a : Int)) = true := by rw [decide_eq_true_eq]; omega
    have e1' : (p.a : Int) ≤ (a : Int) := by omega
    have e2 : decide ((a : Int) < (p.a : Int) + (x : Int)) = r := by
      rw [Bool.eq_iff_iff, hr, decide_eq_true_eq, decide_eq_true_eq, ← hiff]
      omega
    clear hr hx hp hiff
    go_enter Try.func83, Try.ntmps83
    go_wp2
    obtain ⟨W1, hW1⟩ : ∃ W1 : World, W1 = w.alloc (.cells #[.int .u32 p.a, .int .i64 p.n] 32) := ⟨_, rfl⟩
    rw [← hW1]
    have X1 := Lib.hid (show W1.heap[w.heap.size]? = some (.cells #[.int .u32 p.a, .int .i64 p.n] 32 (0, 0)) by rw [hW1]; exact box_at w _)
    have T1 := Lib.hid (show Touch [] w W1 by rw [hW1]; exact (Touch.refl [] w).alloc _)
    clear hW1
    obtain ⟨c0, c1, _⟩ := two_cells X1.out
    have n0 := fun u : Near W1 => u.cell c0
    have n1 := fun u : Near W1 => u.cell c1
    clear c0 c1
    refine wp_region_near (by kernel_rfl) (by kernel_rfl) ?_
    repeat (go_big_quiet_step ((go_at_call 84; exact size_near _ p.n x hn HX.out)))
    refine wpQuiet_nil ?_
    rintro _ ⟨u2, rfl⟩
    have TX := Lib.hid (T1.out.trans u2.near (by simp))
    clear n0 n1
    go_wp2
    go_ret
    exact ⟨rfl, TX.out⟩
  · have hr' : r = false := by rw [hr, decide_eq_false_iff_not, ← hiff]; omega
    subst hr'
    have e1 : decide ((p.a : Int) ≤ (a : Int)) = false := by rw [decide_eq_false_iff_not]; omega
    have e1' : decide (p.a ≤ a) = false := by rw [decide_eq_false_iff_not]; omega
    clear hr hx hp hiff h1
    go_enter Try.func83, Try.ntmps83
    go_wp2
    go_quiet (fail)
    go_wp2
    go_ret
    exact ⟨rfl, ((Touch.refl [] w).alloc _).drewN _⟩
theorem rholds_near {w0 : World} (u : Near w0) (p : Px) (a : Nat) (hp : p.ok) (ha : a < 4294967296) (r : Bool) (hr : r = decide (maskOf a p.n = p.a)) :
    Calls Try.prog 83 #[.agg #[.int .u32 p.a, .int .i64 p.n], .int .u32 a] u.w fun e w' => e = .returned (.bool r) ∧ ∃ x : Near w0, w' = x.w :=
  near_call u (rholds_calls p a u.w hp ha r hr)

/-! ### the object -/
theorem infoE : (Try.prog.info? 135).map (fun i => (i.zero, i.size, i.bytes)) = some (some (.agg #[.int .u32 0, .int .i64 0, .int .i64 0]), 3, 24) := by kernel_rfl
def flatE (l : List Ent) : List Value := l.flatMap fun e => [.int .u32 e.1.a, .int .i64 e.1.n, .int .i64 e.2]
theorem flatE_snoc (l : List Ent) (e : Ent) : flatE (l ++ [e]) = flatE l ++ [.int .u32 e.1.a, .int .i64 e.1.n, .int .i64 e.2] := by simp [flatE]
theorem flatE_length (l : List Ent) : (flatE l).length = l.length * 3 := by
  induction l with
  | nil => rfl
  | cons p l ih => simp only [flatE, List.flatMap_cons, List.length_append, List.length_cons, List.length_nil] at ih ⊢; omega
theorem flatE_cons (q : Ent) (l : List Ent) : flatE (q :: l) = .int .u32 q.1.a :: .int .i64 q.1.n :: .int .i64 q.2 :: flatE l := by simp [flatE]
theorem flatE_get (l : List Ent) : ∀ (i : Nat) (e : Ent), l[i]? = some e → (flatE l)[i * 3]? = some (.int .u32 e.1.a) ∧ (flatE l)[i * 3 + 1]? = some (.int .i64 e.1.n) ∧ (flatE l)[i * 3 + 1 + 1]? = some (.int .i64 e.2) := by
  induction l with
  | nil => intro i p h; simp at h
  | cons q l ih =>
    intro i p h
    rw [flatE_cons]
    cases i with
    | zero => simp at h; subst h; simp
    | succ i =>
      simp at h
      obtain ⟨h1, h2, h3⟩ := ih i p h
      rw [show (i + 1) * 3 = i * 3 + 1 + 1 + 1 by omega]
      exact ⟨by simpa using h1, by simpa using h2, by simpa using h3⟩
theorem flatE_set (l : List Ent) : ∀ (i : Nat) (p : Px) (u v : Int), l[i]? = some (p, u) → flatE (l.set i (p, v)) = (flatE l).set (i * 3 + 1 + 1) (.int .i64 v) := by
  induction l with
  | nil => intro i p u v h; simp at h
  | cons q l ih =>
    intro i p u v h
    cases i with
    | zero => simp at h; subst h; simp [flatE_cons]
    | succ i =>
      simp at h
      rw [List.set_cons_succ, flatE_cons, flatE_cons, ih i p u v h, show (i + 1) * 3 + 1 + 1 = i * 3 + 1 + 1 + 1 + 1 + 1 by omega]
      simp
structure RefT (w : World) (rb : Nat) (V : Value) (l : List Ent) : Prop where
  blk : w.heap[rb]? = some (.cells #[V] 143 (0, 0))
  row : VRow w 135 3 V l.length (flatE l)
  oks : ∀ e ∈ l, e.1.ok
def rfoot (rb : Nat) (V : Value) : List Nat := rb :: V.ownBlock.toList
theorem RefT.rb_lt {w : World} {rb : Nat} {V : Value} {l : List Ent} (h : RefT w rb V l) : rb < w.heap.size := (Array.getElem?_eq_some_iff.1 h.blk).1
theorem RefT.lt {w : World} {rb : Nat} {V : Value} {l : List Ent} (h : RefT w rb V l) : ∀ k ∈ rfoot rb V, k < w.heap.size := by
  intro k hk
  simp [rfoot] at hk
  rcases hk with rfl | hk
  · exact h.rb_lt
  · exact h.row.lt k hk
theorem RefT.kept {w w' : World} {rb : Nat} {V : Value} {l : List Ent} (h : RefT w rb V l) {S : List Nat} (t : Touch S w w') (hn : ∀ k ∈ rfoot rb V, k ∉ S) : RefT w' rb V l :=
  ⟨(t.block rb h.rb_lt (hn rb (by simp [rfoot]))).trans h.blk, h.row.kept t (fun k hk => hn k (by simp [rfoot, hk])), h.oks⟩
theorem RefT.ne {w : World} {rb : Nat} {V : Value} {l : List Ent} (h : RefT w rb V l) : ∀ k, V.ownBlock = some k → k ≠ rb := by
  intro k hk e
  obtain ⟨c, hc⟩ := h.row.blk k hk
  subst e
  rw [h.blk] at hc
  simp at hc
/-- The cells of entry i. -/
theorem RefT.cell {w : World} {rb : Nat} {V : Value} {l : List Ent} (h : RefT w rb V l) (i : Nat) (e : Ent) (he : l[i]? = some e) :
    ∃ g c, V = .slice (some ⟨g, 0, none⟩) l.length c ∧ g < w.heap.size ∧ w.cell? ⟨g, i * 3, none⟩ = some (.int .u32 e.1.a) ∧ w.cell? ⟨g, i * 3 + 1, none⟩ = some (.int .i64 e.1.n) ∧ w.cell? ⟨g, i * 3 + 1 + 1, none⟩ = some (.int .i64 e.2) ∧ w.frozen? ⟨g, i * 3 + 1 + 1, none⟩ = false := by
  have hi := (List.getElem?_eq_some_iff.1 he).1
  obtain ⟨g, c, hV, hg, hc⟩ := h.row.at_ (by omega)
  obtain ⟨h1, h2, h3⟩ := flatE_get l i e he
  refine ⟨g, c, hV, hg, hc _ _ h1, hc _ _ h2, hc _ _ h3, ?_⟩
  have := h.row.own
  rw [hV] at this
  exact World.ownsRow.frozenAt this _
def FindR (l : List Ent) (p : Px) (r : Int) : Prop := (r = -1 ∧ ∀ v, (p, v) ∉ l) ∨ ∃ (k : Nat) (v : Int), r = (k : Int) ∧ l[k]? = some (p, v)
def RFindPost (w : World) (l : List Ent) (p : Px) (e : Ending) (w' : World) : Prop := ∃ r, e = .returned (.int .i64 r) ∧ FindR l p r ∧ Touch [] w w'
set_option maxHeartbeats 4000000 in
set_option maxRecDepth 100000 in
theorem rfind_calls {w : World} {rb : Nat} {V : Value} {l : List Ent} (h : RefT w rb V l) (p : Px) (hlen : l.length < 4611686018427387904) :
    Calls Try.prog 82 #[.pointer (some ⟨rb, 0, none⟩), .agg #[.int .u32 p.a, .int .i64 p.n]] w (RFindPost w l p) := by
  have H := Lib.hid h
  obtain ⟨A, cap, rfl⟩ := h.row.form
  have hg := guard32
  clear h
  go_enter Try.func82, Try.ntmps82
  go_wp2
  obtain ⟨W1, hW1⟩ : ∃ W1 : World, W1 = w.alloc (.cells #[.int .u32 p.a, .int .i64 p.n] 32) := ⟨_, rfl⟩
  rw [← hW1]
  have X1 := Lib.hid (show W1.heap[w.heap.size]? = some (.cells #[.int .u32 p.a, .int .i64 p.n] 32 (0, 0)) by rw [hW1]; exact box_at w _)
  have T1 := Lib.hid (show Touch [] w W1 by rw [hW1]; exact (Touch.refl [] w).alloc _)
  clear hW1
  go_loopw [5] (fun v5 wr => ∃ k : Nat, v5 = .int .i64 k ∧ k ≤ l.length ∧ Hid (∀ i v, i < k → l[i]? ≠ some (p, v)) ∧ Hid (Touch [] W1 wr)) (fun v5 _ => l.length - (intOf v5).toNat)
  case atStart => exact ⟨0, rfl, Nat.zero_le _, Lib.hid (fun i v hi => absurd hi (Nat.not_lt_zero _)), Lib.hid (Touch.refl _ _)⟩
  case round =>
    obtain ⟨k, rfl, hk, hno, hT⟩ := hrel
    have HR := Lib.hid (H.out.kept (T1.out.trans hT.out (by simp)) (by simp))
    obtain ⟨cb, fb⟩ := one_cells HR.out.blk
    by_cases hlt : k < l.length
    · have b1 : (k : Int) < (l.length : Int) := by omega
      obtain ⟨⟨q, u⟩, hx⟩ : ∃ x, l[k]? = some x := ⟨_, List.getElem?_eq_getElem hlt⟩
      obtain ⟨g, c, hV, hgl, m0, m1, m2, _⟩ := HR.out.cell k _ hx
      injection hV with hV1 hV2 hV3
      subst hV1 hV3
      dsimp only at m0 m1 m2
      obtain ⟨d0, d1, _⟩ := two_cells (touch_box hT.out X1.out (by simp))
      have n0 := fun u : Near wr => u.cell m0
      have n1 := fun u : Near wr => u.cell m1
      have n2 := fun u : Near wr => u.cell d0
      have n3 := fun u : Near wr => u.cell d1
      have n4 := fun u : Near wr => u.cell cb
      have HX := Lib.hid hx
      clear hx m0 m1 m2 d0 d1 hV2
      by_cases e : q = p
      · have heq := fun w => px_eql q.a q.n p.a p.n true (px_beq e) w
        have HE := Lib.hid e
        clear e
        go_wp2
        refine wp_region_near (by kernel_rfl) (by kernel_rfl) ?_
        repeat (go_big_quiet_step (fail))
        refine wpQuiet_nil ?_
        rintro _ ⟨u2, rfl⟩
        clear n0 n1 n2 n3 n4 heq
        go_wp2
        go_ret
        exact ⟨(k : Int), rfl, .inr ⟨k, u, rfl, by rw [HX.out, HE.out]⟩, (T1.out.trans hT.out (by simp)).trans u2.near (by simp)⟩
      · have heq := fun w => px_eql q.a q.n p.a p.n false (px_bne e) w
        have HE := Lib.hid e
        clear e
        go_wp2
        refine wp_region_near (by kernel_rfl) (by kernel_rfl) ?_
        repeat (go_big_quiet_step (fail))
        refine wpQuiet_nil ?_
        rintro _ ⟨u2, rfl⟩
        clear n0 n1 n2 n3 n4 heq
        go_wp2
        go_roundw
        case rel => exact ⟨k + 1, by go_num, by omega, Lib.hid (fun i v hi hx => by
          rcases Nat.eq_or_lt_of_le (Nat.le_of_lt_succ hi) with h | h
          · subst h; rw [HX.out] at hx; injection hx with hx; injection hx with hx; exact HE.out hx
          · exact hno.out i v h hx), Lib.hid (hT.out.trans u2.near (by simp))⟩
        case measure => simp [intOf]; omega
    · have b1 : ¬ (k : Int) < (l.length : Int) := by omega
      have HK := Lib.hid hlt
      clear hlt
      go_wp2
      go_ret
      refine ⟨_, rfl, .inl ⟨rfl, fun v hm => ?_⟩, T1.out.trans hT.out (by simp)⟩
      obtain ⟨i, hi⟩ := List.mem_iff_getElem?.1 hm
      have hil := (List.getElem?_eq_some_iff.1 hi).1
      exact hno.out i v (by have := HK.out; omega) hi
end Go.Proofs.Ytmklkdhpbehfeaa.Tri
