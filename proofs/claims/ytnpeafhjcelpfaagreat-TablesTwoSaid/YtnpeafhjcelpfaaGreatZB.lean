/- walk with a loop's yield; now's inner iterator; no condition. -/
import Derived.Test.YtnpeafhjcelpfaaGreatZA
namespace Go.Proofs.YtnpeafhjcelpfaaGreat.Tri
open Go.RowKit Go.Maps Go.Shelf
set_option linter.unusedVariables false
attribute [local go_sem] Oper.semAt_some

theorem room_none {F : Fence} (hd : F.depth = none) (k : Nat) : F.room k := fun d h => by rw [hd] at h; cases h
theorem RoundIn.any {F : Fence} (hd : F.depth = none) {m m' : Nat} {P : Program} {l : Nat} {f : FuncId} {tmps : Array Value} {assign body : Code} {w : World} {R : Ending → World → Prop}
    (h : RoundIn F m P l f tmps assign body w R) : RoundIn F m' P l f tmps assign body w R := ⟨h.1, fun c cs _ => h.2 c cs (room_none hd _)⟩
theorem YieldAt.any {F : Fence} (hd : F.depth = none) {m : Nat} (m' : Nat) {P : Program} {l : Nat} {args : Array Value} {W : World} {R : Ending → World → Prop} (h : YieldAt F m P l args W R) : YieldAt F m' P l args W R := by
  obtain ⟨fn, tmps, assign, body, hy, hR⟩ := h
  exact ⟨fn, tmps, assign, body, hy, RoundIn.any hd hR⟩
theorem dd (k : Nat) : (Fence.wide.depth.isSome = true → 1 ≤ k) := fun h => by cases h

/-- A node that lies in w0. -/
structure NodeAt (w0 : World) where
  b : Nat
  q : Px
  u : Option Int
  h : ∃ pl pr, w0.heap[b]? = some (.cells (nodeC q u pl pr) 155 (0, 0))
def NodeAt.enc {w0 : World} (x : NodeAt w0) : Array Value := #[.pointer (some ⟨x.b, 0, none⟩)]
def NodeAt.own {w0 : World} (x : NodeAt w0) : List Ent := Tri.own x.q x.u
/-- The nodes of a tree, a node ahead of what lies below it. -/
def Lists (w0 : World) : T → Value → List (NodeAt w0) → Prop
  | .nil, p, xs => p = .pointer none ∧ xs = []
  | .node q v l r, p, xs => ∃ (x : NodeAt w0) (pl pr : Value) (xl xr : List (NodeAt w0)), p = .pointer (some ⟨x.b, 0, none⟩) ∧ x.q = q ∧ x.u = v ∧ w0.heap[x.b]? = some (.cells (nodeC q v pl pr) 155 (0, 0)) ∧ Lists w0 l pl xl ∧ Lists w0 r pr xr ∧ xs = x :: (xl ++ xr)
theorem Lists.ptr {w0 : World} {t : T} {p : Value} {xs : List (NodeAt w0)} (h : Lists w0 t p xs) : ∃ a, p = .pointer a := by
  cases t with
  | nil => exact ⟨none, h.1⟩
  | node => obtain ⟨x, _, _, _, _, rfl, _⟩ := h; exact ⟨_, rfl⟩
theorem lists_of {w0 : World} : ∀ {t : T} {p : Value} {S : List Nat}, Tr w0 t p S → ∃ xs, Lists w0 t p xs ∧ xs.flatMap NodeAt.own = ents t ∧ ∀ x ∈ xs, x.b ∈ S
  | .nil, p, S, h => ⟨[], ⟨h.1, rfl⟩, rfl, by simp⟩
  | .node q v l r, p, S, h => by
    obtain ⟨b, pl, pr, Sl, Sr, rfl, hb, hl, hr, rfl, _⟩ := h
    obtain ⟨xl, a1, a2, a3⟩ := lists_of hl
    obtain ⟨xr, b1, b2, b3⟩ := lists_of hr
    refine ⟨⟨b, q, v, pl, pr, hb⟩ :: (xl ++ xr), ⟨_, pl, pr, xl, xr, rfl, rfl, rfl, hb, a1, b1, rfl⟩, ?_, ?_⟩
    · simp only [List.flatMap_cons, List.flatMap_append, a2, b2, ents]; rfl
    · intro x hx
      simp only [List.mem_cons, List.mem_append] at hx ⊢
      rcases hx with rfl | hx | hx
      · exact .inl rfl
      · exact .inr (.inl (a3 x hx))
      · exact .inr (.inr (b3 x hx))
def YieldsN {w0 : World} (n₀ N l : Nat) (J Jx : List (NodeAt w0) → World → Prop) : Prop := ∀ m pre (x : NodeAt w0) W, J pre W → pre.length < N → YieldAt Fence.wide m Tryz.prog l x.enc W fun e W' =>
  (e = .returned (.bool true) ∧ J (pre ++ [x]) W' ∧ Below n₀ W W') ∨ (e = .returned (.bool false) ∧ Jx (pre ++ [x]) W')
def WalkPost {w0 : World} (n₀ : Nat) (J Jx : List (NodeAt w0) → World → Prop) (pre xs : List (NodeAt w0)) (W : World) (e : Ending) (W' : World) : Prop :=
  (e = .returned (.bool true) ∧ J (pre ++ xs) W' ∧ Below n₀ W W') ∨ (e = .returned (.bool false) ∧ ∃ q, q <+: xs ∧ Jx (pre ++ q) W')
set_option maxRecDepth 100000 in
set_option maxHeartbeats 4000000 in
theorem walkY {w0 : World} (n₀ N l : Nat) (J Jx : List (NodeAt w0) → World → Prop) (hY : YieldsN n₀ N l J Jx) (t : T) :
    ∀ (n : Nat) (p : Value) (xs pre : List (NodeAt w0)) (W : World), Lists w0 t p xs → (∀ x ∈ xs, x.b < n₀) → Below n₀ w0 W → J pre W → pre.length + xs.length ≤ N →
      CallsIn Fence.wide n Tryz.prog 102 #[p, .func (.yield l) #[] #[]] W (WalkPost n₀ J Jx pre xs W) := by
  induction t with
  | nil =>
    intro n p xs pre W ht _ _ hJ _
    obtain ⟨rfl, rfl⟩ := ht
    refine callsIn_of_wp Tryz.func102 rfl trivial ?_ rfl
    simp only [Tryz.ntmps102, List.size_toArray, List.length_cons, List.length_nil, Nat.reduceAdd, Nat.reduceSub, Array.replicate_succ, Array.replicate_zero, List.push_toArray, List.append_toArray, List.nil_append, List.cons_append]
    gi_wp2
    go_ret
    exact .inl ⟨rfl, by simpa using hJ, Below.refl _ _⟩
  | node q v tl tr ihl ihr =>
    intro n p xs pre W ht hlt hB hJ hN
    obtain ⟨x, pl, pr, xl, xr, rfl, hq, hv, hb, hl, hr, rfl⟩ := ht
    obtain ⟨al, rfl⟩ := hl.ptr
    obtain ⟨ar, rfl⟩ := hr.ptr
    have hxb : x.b < n₀ := hlt x (by simp)
    simp only [List.length_cons, List.length_append] at hN
    have cells : ∀ W1, Below n₀ w0 W1 → W1.cell? ⟨x.b, 7, none⟩ = some (.pointer al) ∧ W1.cell? ⟨x.b, 8, none⟩ = some (.pointer ar) := fun W1 h1 => by
      obtain ⟨_, _, _, _, c4, c5, _⟩ := node_cells ((h1.block x.b hxb).trans hb)
      exact ⟨c4, c5⟩
    have y1 : YieldAt Fence.wide (n - 1) Tryz.prog l #[.pointer (some ⟨x.b, 0, none⟩)] W fun e W1 =>
        (e = .returned (.bool true) ∧ J (pre ++ [x]) W1 ∧ Below n₀ w0 W1 ∧ Below n₀ W W1 ∧ W1.cell? ⟨x.b, 7, none⟩ = some (.pointer al)) ∨ (e = .returned (.bool false) ∧ Jx (pre ++ [x]) W1) :=
      YieldAt.mono (hY (n - 1) pre x W hJ (by omega)) fun e W1 h => h.elim (fun ⟨he, hj, hb1⟩ => .inl ⟨he, hj, hB.trans hb1, hb1, (cells W1 (hB.trans hb1)).1⟩) .inr
    have ih1 : Hid (∀ W1, Below n₀ w0 W1 → Below n₀ W W1 → J (pre ++ [x]) W1 → CallsIn Fence.wide (n - 1) Tryz.prog 102 #[.pointer al, .func (.yield l) #[] #[]] W1 fun e W2 =>
        (e = .returned (.bool true) ∧ J (pre ++ [x] ++ xl) W2 ∧ Below n₀ w0 W2 ∧ Below n₀ W W2 ∧ W2.cell? ⟨x.b, 8, none⟩ = some (.pointer ar)) ∨ (e = .returned (.bool false) ∧ ∃ q, q <+: xl ∧ Jx (pre ++ [x] ++ q) W2)) :=
      Lib.hid fun W1 h1 h2 hj => (ihl (n - 1) (.pointer al) xl (pre ++ [x]) W1 hl (fun y hy => hlt y (by simp [hy])) h1 hj (by simp; omega)).mono fun e W2 h => h.elim
        (fun ⟨he, hj2, hb2⟩ => .inl ⟨he, hj2, h1.trans hb2, h2.trans hb2, (cells W2 (h1.trans hb2)).2⟩) .inr
    have ih2 : Hid (∀ W1, Below n₀ w0 W1 → Below n₀ W W1 → J (pre ++ [x] ++ xl) W1 → CallsIn Fence.wide (n - 1) Tryz.prog 102 #[.pointer ar, .func (.yield l) #[] #[]] W1 fun e W2 =>
        (e = .returned (.bool true) ∧ J (pre ++ [x] ++ xl ++ xr) W2 ∧ Below n₀ W W2) ∨ (e = .returned (.bool false) ∧ ∃ q, q <+: xr ∧ Jx (pre ++ [x] ++ xl ++ q) W2)) :=
      Lib.hid fun W1 h1 h2 hj => (ihr (n - 1) (.pointer ar) xr (pre ++ [x] ++ xl) W1 hr (fun y hy => hlt y (by simp [hy])) h1 hj (by simp; omega)).mono fun e W2 h => h.elim
        (fun ⟨he, hj2, hb2⟩ => .inl ⟨he, hj2, h2.trans hb2⟩) .inr
    obtain ⟨fn, tmps, assign, body, hy, hR⟩ := y1
    have hf55 : Fence.wide.fn 102 := trivial
    clear cells ihl ihr hl hr hb hlt hB
    refine callsIn_of_wp Tryz.func102 rfl trivial ?_ rfl
    simp only [Tryz.ntmps102, List.size_toArray, List.length_cons, List.length_nil, Nat.reduceAdd, Nat.reduceSub, Array.replicate_succ, Array.replicate_zero, List.push_toArray, List.append_toArray, List.nil_append, List.cons_append]
    gi_wp2_with (first
      | ((try refine ⟨dd _, ?_⟩); refine hR.mono ?_; clear hR; rintro e W1 (⟨rfl, hJ1, hA1, hB1, c4⟩ | ⟨rfl, hx1⟩))
      | ((try refine ⟨dd _, ?_⟩); gi_at_call 102; refine (ih1.out _ hA1 hB1 hJ1).mono ?_; clear ih1; rintro e W2 (⟨rfl, hJ2, hA2, hB2, c5⟩ | ⟨rfl, q, hq, hx2⟩))
      | ((try refine ⟨dd _, ?_⟩); gi_at_call 102; refine (ih2.out _ hA2 hB2 hJ2).mono ?_; clear ih2; rintro e W3 (⟨rfl, hJ3, hB3⟩ | ⟨rfl, q, hq, hx3⟩)))
    · go_ret
      exact .inl ⟨rfl, by simpa [List.append_assoc] using hJ3, hB3⟩
    · go_ret
      obtain ⟨r, hr'⟩ := hq
      exact .inr ⟨rfl, x :: (xl ++ q), ⟨r, by simp [← hr']⟩, by simpa [List.append_assoc] using hx3⟩
    · go_ret
      obtain ⟨r, hr'⟩ := hq
      exact .inr ⟨rfl, x :: q, ⟨r ++ xr, by simp [← hr']⟩, by simpa [List.append_assoc] using hx2⟩
    · go_ret
      exact .inr ⟨rfl, [x], ⟨xl ++ xr, by simp⟩, hx1⟩
end Go.Proofs.YtnpeafhjcelpfaaGreat.Tri
