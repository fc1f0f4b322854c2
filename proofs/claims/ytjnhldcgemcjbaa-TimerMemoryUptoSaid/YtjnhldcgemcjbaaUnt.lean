/- untouched of the Timer laws, the first part: the lists are gathered; no condition. -/
import Derived.Test.YtjnhldcgemcjbaaVw
import Derived.Test.YtjnhldcgemcjbaaWalkForgets
namespace Go.Proofs.Ytjnhldcgemcjbaa.Tm
open Go.RowKit Go.Maps
set_option linter.unusedVariables false

theorem VRow.no_tim {w : World} {e : TypeId} {sz n : Nat} {V : Value} {xs : List Value} (h : VRow w e sz V n xs) (h1 : e ≠ 63) (h2 : e ≠ 67) {tb : Nat} {S : List Nat} {lim : Int} {s : St} (hT : Tim w tb S lim s) : ∀ k, V.ownBlock = some k → k ∉ S := by
  intro k hk hS
  obtain ⟨c, hc⟩ := h.blk k hk
  obtain ⟨⟨V1, mb, hA, rfl⟩, _⟩ := hT
  simp [foot] at hS
  rcases hS with rfl | rfl | hS
  · rw [hA.blk] at hc
    simp only [Option.some.injEq, Obj.cells.injEq] at hc
    exact h1 hc.2.1.symm
  · obtain ⟨es, clock, hm⟩ := hA.map.isMap
    rw [hm] at hc; cases hc
  · exact hA.row.ne_of (fun h => h2 h.symm) hc k hS rfl

/-- What is held are ids of the first 300. -/
def Sub (l : List Pr) (s : St) : Prop := ∀ y, (val s y).isSome = true → y ∈ ids (l.take 300)
theorem Sub.len {l : List Pr} {s : St} (h : Sub l s) (hI : TInv s) : s.hp.length ≤ 300 := by
  have := nodup_sub (s.hp.map (fun p : Pr => p.1)) (ids (l.take 300)) hI.nd (fun y hy => h y ((ids_of_val hI).1 hy))
  simp [ids] at this
  omega
theorem Sub.set {l : List Pr} {s s' : St} (h : Sub l s) {i : Nat} {x : Pr} (hx : l[i]? = some x) (hi : i < 300) {v : Int} (hv : ∀ y, val s' y = if y = x.1 then some v else val s y) : Sub l s' := by
  intro y hy
  rw [hv] at hy
  by_cases e : y = x.1
  · subst e
    refine mem_ids.2 ⟨x, ?_, rfl⟩
    rw [List.mem_iff_getElem?]
    exact ⟨i, by rw [List.getElem?_take, if_pos hi]; exact hx⟩
  · rw [if_neg e] at hy; exact h y hy
theorem Sub.due {l : List Pr} {s s' : St} (h : Sub l s) {now : Int} {lp : List Pr} (hD : Dued s now lp s') : Sub l s' := by
  intro y hy
  rw [hD.vals] at hy
  split at hy
  · cases hy
  · exact h y hy

abbrev En := Value × List Int
/-- Rows of ints, each of its own. -/
structure Fam (w : World) (E : List En) : Prop where
  row : ∀ p ∈ E, IRow w 0 p.1 p.2
  apart : (E.map (·.1)).Pairwise (fun p q => ∀ b, p.ownBlock = some b → q.ownBlock ≠ some b)
theorem Fam.kept {w w' : World} {E : List En} (h : Fam w E) {S : List Nat} (t : Touch S w w') (hn : ∀ p ∈ E, ∀ k, p.1.ownBlock = some k → k ∉ S) : Fam w' E :=
  ⟨fun p hp => (h.row p hp).kept t (hn p hp), h.apart⟩
theorem Fam.snoc {w : World} {E : List En} (h : Fam w E) {V : Value} {l : List Int} (r : IRow w 0 V l) (hb : ∀ p ∈ E, ∀ b, p.1.ownBlock = some b → V.ownBlock ≠ some b) : Fam w (E ++ [(V, l)]) := by
  refine ⟨fun p hp => ?_, ?_⟩
  · rcases List.mem_append.1 hp with h1 | h1
    · exact h.row p h1
    · simp at h1; subst h1; exact r
  · rw [List.map_append, List.pairwise_append]
    refine ⟨h.apart, by simp, fun p hp q hq => ?_⟩
    simp at hq; subst hq
    obtain ⟨p', hp', rfl⟩ := List.mem_map.1 hp
    exact hb p' hp'
theorem Fam.ne {w : World} {E : List En} (h : Fam w E) {i j : Nat} {p q : En} (hp : E[i]? = some p) (hq : E[j]? = some q) {b : Nat} (h1 : p.1.ownBlock = some b) (h2 : q.1.ownBlock = some b) : i = j := by
  have hi := (List.getElem?_eq_some_iff.1 hp).1
  have hj := (List.getElem?_eq_some_iff.1 hq).1
  have ep : (E.map (·.1))[i]'(by simpa using hi) = p.1 := by simp [(List.getElem?_eq_some_iff.1 hp).2]
  have eq : (E.map (·.1))[j]'(by simpa using hj) = q.1 := by simp [(List.getElem?_eq_some_iff.1 hq).2]
  have := List.pairwise_iff_getElem.1 h.apart
  rcases Nat.lt_trichotomy i j with h3 | h3 | h3
  · have h4 := this i j (by simpa using hi) (by simpa using hj) h3 b (by rw [ep]; exact h1)
    rw [eq] at h4; exact absurd h2 h4
  · exact h3
  · have h4 := this j i (by simpa using hj) (by simpa using hi) h3 b (by rw [eq]; exact h2)
    rw [ep] at h4; exact absurd h1 h4
/-- One row's ints are changed. -/
theorem Fam.set {w w' : World} {E : List En} (h : Fam w E) {i : Nat} {V : Value} {l l' : List Int} (hi : E[i]? = some (V, l)) (t : Touch V.ownBlock.toList w w') (r : IRow w' 0 V l') : Fam w' (E.set i (V, l')) ∧ (E.set i (V, l')).map (·.1) = E.map (·.1) := by
  have hil := (List.getElem?_eq_some_iff.1 hi).1
  have em : (E.set i (V, l')).map (·.1) = E.map (·.1) := by
    apply List.ext_getElem?
    intro j
    rw [List.getElem?_map, List.getElem?_map, List.getElem?_set]
    by_cases e : i = j
    · subst e; rw [if_pos rfl, if_pos hil, hi]; rfl
    · rw [if_neg e]
  refine ⟨⟨fun p hp => ?_, by rw [em]; exact h.apart⟩, em⟩
  obtain ⟨j, hj⟩ := List.mem_iff_getElem?.1 hp
  rw [List.getElem?_set] at hj
  by_cases e : i = j
  · subst e; rw [if_pos rfl, if_pos hil] at hj; injection hj with hj; subst hj; exact r
  · rw [if_neg e] at hj
    refine (h.row p (List.mem_of_getElem? hj)).kept t (fun k hk hx => ?_)
    simp at hx
    exact e (h.ne hi hj hx hk)
theorem ints_set (l : List Int) (i : Nat) (x : Int) : ints (l.set i x) = (ints l).set i (.int .i64 x) := by simp [ints, List.map_set]
theorem IRow.stored {w : World} {base : Nat} {g n cap : Nat} {l : List Int} (h : IRow w base (.slice (some ⟨g, 0, none⟩) n cap) l) (hn : n = l.length) (i : Nat) (x : Int) :
    IRow (w.setCell ⟨g, i, none⟩ (.int .i64 x)) base (.slice (some ⟨g, 0, none⟩) n cap) (l.set i x) := by
  subst hn
  have h1 := (World.ownsRow.stored h i (.int .i64 x)).1
  unfold IRow
  rw [ints_set, List.length_set]
  exact h1

/-- The lists and their copies. -/
def Gath (w0 wr : World) (v7 v8 : Value) (E F : List En) : Prop :=
  VRow wr 37 1 v7 E.length (E.map (·.1)) ∧ VRow wr 37 1 v8 F.length (F.map (·.1)) ∧ Fam wr E ∧ (∀ p ∈ F, IRow wr 0 p.1 p.2) ∧ E.map (·.2) = F.map (·.2) ∧
  (∀ b, v7.ownBlock = some b → v8.ownBlock ≠ some b) ∧ (∀ b, v7.ownBlock = some b → w0.heap.size ≤ b) ∧ (∀ b, v8.ownBlock = some b → w0.heap.size ≤ b) ∧ (∀ p ∈ E, ∀ b, p.1.ownBlock = some b → w0.heap.size ≤ b)
theorem Gath.start (w0 wr : World) : Gath w0 wr (.slice none 0 0) (.slice none 0 0) [] [] :=
  ⟨VRow.nil _ _ _, VRow.nil _ _ _, ⟨by simp, List.Pairwise.nil⟩, by simp, rfl, by simp [Value.ownBlock], by simp [Value.ownBlock], by simp [Value.ownBlock], by simp⟩
theorem Gath.tim {w0 wr w' : World} {v7 v8 : Value} {E F : List En} (h : Gath w0 wr v7 v8 E F) {tb : Nat} {S : List Nat} {lim : Int} {s : St} (hT : Tim wr tb S lim s) (t : Touch S wr w') : Gath w0 w' v7 v8 E F := by
  obtain ⟨h1, h2, h3, h4, h5, h6, h7, h8, h9⟩ := h
  exact ⟨h1.kept t (h1.no_tim (by decide) (by decide) hT), h2.kept t (h2.no_tim (by decide) (by decide) hT), h3.kept t (fun p hp => (h3.row p hp).no_tim hT), fun p hp => (h4 p hp).kept t ((h4 p hp).no_tim hT), h5, h6, h7, h8, h9⟩
theorem Gath.near {w0 wr w' : World} {v7 v8 : Value} {E F : List En} (h : Gath w0 wr v7 v8 E F) (t : Touch [] wr w') : Gath w0 w' v7 v8 E F := by
  obtain ⟨h1, h2, h3, h4, h5, h6, h7, h8, h9⟩ := h
  exact ⟨h1.kept t (by simp), h2.kept t (by simp), h3.kept t (by simp), fun p hp => (h4 p hp).kept t (by simp), h5, h6, h7, h8, h9⟩
/-- Two lists more. -/
theorem Gath.more {w0 wr wa wb wc : World} {v7 v8 v7' v8' : Value} {E F : List En} (h : Gath w0 wr v7 v8 E F) (hw0 : w0.heap.size ≤ wr.heap.size) {Va Vb Wa Wb : Value} {la lb : List Int} {ba bb bc bd : Nat}
    (ra : IRow wr ba Va la) (rb : IRow wr bb Vb lb) (hEa : ∀ p ∈ E, ∀ b, p.1.ownBlock = some b → Va.ownBlock ≠ some b) (hEb : ∀ p ∈ E, ∀ b, p.1.ownBlock = some b → Vb.ownBlock ≠ some b) (hab : ∀ b, Va.ownBlock = some b → Vb.ownBlock ≠ some b)
    (ha : ∀ b, Va.ownBlock = some b → w0.heap.size ≤ b) (hb : ∀ b, Vb.ownBlock = some b → w0.heap.size ≤ b)
    (q7 : VRow wa 37 1 v7' (E.length + 2) (E.map (·.1) ++ [Va, Vb])) (t7 : Touch v7.ownBlock.toList wr wa) (o7 : v7'.ownBlock = v7.ownBlock ∨ ∃ b, v7'.ownBlock = some b ∧ wr.heap.size ≤ b)
    (tw : Touch [] wa wb) (rc : IRow wb bc Wa la) (rd : IRow wb bd Wb lb)
    (q8 : VRow wc 37 1 v8' (F.length + 2) (F.map (·.1) ++ [Wa, Wb])) (t8 : Touch v8.ownBlock.toList wb wc) (o8 : v8'.ownBlock = v8.ownBlock ∨ ∃ b, v8'.ownBlock = some b ∧ wb.heap.size ≤ b) :
    Gath w0 wc v7' v8' (E ++ [(Va, la), (Vb, lb)]) (F ++ [(Wa, la), (Wb, lb)]) := by
  obtain ⟨h1, h2, h3, h4, h5, h6, h7, h8, h9⟩ := h
  have g3 : Fam wr (E ++ [(Va, la), (Vb, lb)]) := by
    have := (h3.snoc ra.zero hEa).snoc rb.zero (fun p hp => by
      rcases List.mem_append.1 hp with h | h
      · exact hEb p h
      · simp at h; subst h; exact hab)
    simpa using this
  have g3a : Fam wa (E ++ [(Va, la), (Vb, lb)]) := g3.kept t7 (fun p hp k hk => (g3.row p hp).off h1 (by decide) k hk)
  have g3b := g3a.kept tw (by simp)
  have h2a : VRow wa 37 1 v8 F.length (F.map (·.1)) := h2.kept t7 (fun k hk hx => by simp at hx; exact h6 k hx hk)
  have h2b := h2a.kept tw (by simp)
  have g3c : Fam wc (E ++ [(Va, la), (Vb, lb)]) := g3b.kept t8 (fun p hp k hk => (g3b.row p hp).off h2b (by decide) k hk)
  have h4a : ∀ p ∈ F, IRow wa 0 p.1 p.2 := fun p hp => (h4 p hp).kept t7 (fun k hk => (h4 p hp).off h1 (by decide) k hk)
  have h4b : ∀ p ∈ F ++ [(Wa, la), (Wb, lb)], IRow wb 0 p.1 p.2 := fun p hp => by
    rcases List.mem_append.1 hp with h | h
    · exact (h4a p h).kept tw (by simp)
    · simp at h
      rcases h with rfl | rfl
      · exact rc.zero
      · exact rd.zero
  have q7b := q7.kept tw (by simp)
  have d7 : ∀ b, v7'.ownBlock = some b → v8.ownBlock ≠ some b := fun b hb1 hb2 => by
    rcases o7 with o | ⟨b', o, hb'⟩
    · rw [o] at hb1; exact h6 b hb1 hb2
    · rw [o] at hb1; cases hb1; have := h2.lt b hb2; omega
  refine ⟨?_, ?_, g3c, fun p hp => (h4b p hp).kept t8 (fun k hk => (h4b p hp).off h2b (by decide) k hk), by simp [h5], ?_, ?_, ?_, ?_⟩
  · have := q7b.kept t8 (fun k hk hx => by simp at hx; exact d7 k hk hx)
    simpa using this
  · simpa using q8
  · intro b hb1 hb2
    rcases o8 with o | ⟨b', o, hb'⟩
    · rw [o] at hb2; exact d7 b hb1 hb2
    · rw [o] at hb2; cases hb2; have := q7b.lt _ hb1; omega
  · intro b hb1
    rcases o7 with o | ⟨b', o, hb'⟩
    · rw [o] at hb1; exact h7 b hb1
    · rw [o] at hb1; cases hb1; omega
  · intro b hb1
    rcases o8 with o | ⟨b', o, hb'⟩
    · rw [o] at hb1; exact h8 b hb1
    · rw [o] at hb1; cases hb1; have := t7.size; have := tw.size; omega
  · intro p hp b hb1
    rcases List.mem_append.1 hp with h | h
    · exact h9 p h b hb1
    · simp at h
      rcases h with rfl | rfl
      · exact ha b hb1
      · exact hb b hb1

/-! ### the marking -/
def markOf (j : Nat) : Int := -1 - (j : Int)
/-- The first i lists are full of their marks. -/
structure Marked (w0 wr : World) (v7 : Value) (E M : List En) (i : Nat) : Prop where
  row : VRow wr 37 1 v7 E.length (E.map (·.1))
  same : M.map (·.1) = E.map (·.1)
  fam : Fam wr M
  mark : ∀ j, j < i → ∀ p : En, M[j]? = some p → p.2 = List.replicate p.2.length (markOf j)
  new : (∀ b, v7.ownBlock = some b → w0.heap.size ≤ b) ∧ ∀ p ∈ E, ∀ b, p.1.ownBlock = some b → w0.heap.size ≤ b
theorem Marked.len {w0 wr : World} {v7 : Value} {E M : List En} {i : Nat} (h : Marked w0 wr v7 E M i) : M.length = E.length := by
  have := congrArg List.length h.same; simpa using this
theorem Gath.marked {w0 wr : World} {v7 v8 : Value} {E F : List En} (h : Gath w0 wr v7 v8 E F) : Marked w0 wr v7 E E 0 := by
  obtain ⟨h1, h2, h3, h4, h5, h6, h7, h8, h9⟩ := h
  exact ⟨h1, rfl, h3, fun j hj => by omega, h7, h9⟩
/-- In the midst of list i: k of it are marked. -/
def Mid (M : List En) (i k : Nat) (A : Option Addr) (n c : Nat) (l : List Int) : Prop := M[i]? = some (.slice A n c, l) ∧ n = l.length ∧ k ≤ n ∧ l.take k = List.replicate k (markOf i)
theorem Marked.at_ {w0 wr : World} {v7 : Value} {E M : List En} {i : Nat} (h : Marked w0 wr v7 E M i) {j : Nat} (hj : j < E.length) : ∃ A n c l, M[j]? = some (.slice A n c, l) ∧ n = l.length ∧ IRow wr 0 (.slice A n c) l ∧ ∃ g c7, v7 = .slice (some ⟨g, 0, none⟩) E.length c7 ∧ wr.cell? ⟨g, j, none⟩ = some (.slice A n c) := by
  obtain ⟨⟨V, l⟩, hx⟩ : ∃ x, M[j]? = some x := ⟨_, List.getElem?_eq_getElem (by rw [h.len]; exact hj)⟩
  have r := h.fam.row _ (List.mem_of_getElem? hx)
  dsimp only at r
  obtain ⟨A, c, hv⟩ := r.form
  subst hv
  obtain ⟨g, c7, hV, hg, hm⟩ := h.row.at_ (by omega)
  refine ⟨A, _, c, l, hx, rfl, r, g, c7, hV, hm j _ ?_⟩
  have := congrArg (fun z : List Value => z[j]?) h.same
  simp [hx] at this
  rw [List.getElem?_map]
  simpa using this.symm
theorem Marked.store {w0 wr : World} {v7 : Value} {E M : List En} {i k g n c : Nat} {l : List Int} (h : Marked w0 wr v7 E M i) (hm : Mid M i k (some ⟨g, 0, none⟩) n c l) (hk : k < n) :
    Marked w0 (wr.setCell ⟨g, k, none⟩ (.int .i64 (markOf i))) v7 E (M.set i (.slice (some ⟨g, 0, none⟩) n c, l.set k (markOf i))) i ∧ Mid (M.set i (.slice (some ⟨g, 0, none⟩) n c, l.set k (markOf i))) i (k + 1) (some ⟨g, 0, none⟩) n c (l.set k (markOf i)) ∧ w0.heap.size ≤ g := by
  obtain ⟨h1, h2, h3, h4⟩ := hm
  have r := h.fam.row _ (List.mem_of_getElem? h1)
  have hil := (List.getElem?_eq_some_iff.1 h1).1
  have t : Touch (Value.slice (some ⟨g, 0, none⟩) n c).ownBlock.toList wr (wr.setCell ⟨g, k, none⟩ (.int .i64 (markOf i))) := (Touch.refl _ wr).setCell _ _ (.inl (by simp [Value.ownBlock]))
  obtain ⟨f1, f2⟩ := h.fam.set h1 t (r.stored h2 k (markOf i))
  have hg : w0.heap.size ≤ g := by
    have : Value.slice (some ⟨g, 0, none⟩) n c ∈ E.map (·.1) := by
      rw [← h.same, List.mem_map]; exact ⟨_, List.mem_of_getElem? h1, rfl⟩
    obtain ⟨p, hp, e⟩ := List.mem_map.1 this
    exact h.new.2 p hp g (by rw [e]; rfl)
  refine ⟨⟨h.row.kept t (fun b hb hx => ?_), f2.trans h.same, f1, fun j hj p hp => ?_, h.new⟩, ⟨?_, by simpa using h2, by omega, ?_⟩, hg⟩
  · simp [Value.ownBlock] at hx; subst hx
    obtain ⟨cc, hc⟩ := h.row.blk _ hb
    exact r.not hc (by decide) rfl
  · rw [List.getElem?_set, if_neg (by omega)] at hp
    exact h.mark j hj p hp
  · rw [List.getElem?_set, if_pos rfl, if_pos hil]
  · rw [List.replicate_succ', List.take_add_one, List.take_set_of_le (by omega), h4, List.getElem?_set, if_pos rfl, if_pos (by omega)]
    rfl
theorem Marked.next {w0 wr : World} {v7 : Value} {E M : List En} {i n c : Nat} {A : Option Addr} {l : List Int} (h : Marked w0 wr v7 E M i) (hm : Mid M i n A n c l) : Marked w0 wr v7 E M (i + 1) := by
  refine ⟨h.row, h.same, h.fam, fun j hj p hp => ?_, h.new⟩
  rcases Nat.lt_or_ge j i with h1 | h1
  · exact h.mark j h1 p hp
  · have : j = i := by omega
    subst this
    rw [hm.1] at hp
    injection hp with hp
    subst hp
    have h4 := hm.2.2.2
    have h5 := hm.2.1
    subst h5
    rw [List.take_length] at h4
    exact h4
theorem Marked.begin_ {w0 wr : World} {v7 : Value} {E M : List En} {i j : Nat} (h : Marked w0 wr v7 E M j) (hi : i < E.length) : ∃ A n c l, Mid M i 0 A n c l := by
  obtain ⟨A, n, c, l, h1, h2, _⟩ := h.at_ hi
  exact ⟨A, n, c, l, h1, h2, Nat.zero_le _, by simp⟩
theorem Marked.mid_at {w0 wr : World} {A7 : Option Addr} {c7 : Nat} {E M : List En} {i j k n c : Nat} {A : Option Addr} {l : List Int} (h : Marked w0 wr (.slice A7 E.length c7) E M j) (hm : Mid M i k A n c l) (hi : i < E.length) (h3 : ∀ p ∈ M, p.2.length ≤ 300) :
    ∃ g, A7 = some ⟨g, 0, none⟩ ∧ wr.cell? ⟨g, i, none⟩ = some (.slice A n c) ∧ n ≤ 300 ∧ (k < n → ∃ g', A = some ⟨g', 0, none⟩ ∧ (∃ v, wr.cell? ⟨g', k, none⟩ = some v) ∧ wr.frozen? ⟨g', k, none⟩ = false) := by
  obtain ⟨A', n', c', l', h1, h2, r, g, c7', hv, hc⟩ := h.at_ hi
  have e := hm.1.symm.trans h1
  simp only [Option.some.injEq, Prod.mk.injEq, Value.slice.injEq] at e
  obtain ⟨⟨rfl, rfl, rfl⟩, rfl⟩ := e
  simp only [Value.slice.injEq] at hv
  refine ⟨g, hv.1, hc, by have := h3 _ (List.mem_of_getElem? h1); dsimp only at this; omega, fun hk => ?_⟩
  subst h2
  rcases r.2 with ⟨e1, _⟩ | ⟨g', cap, cur, e1, _⟩
  · simp at e1; omega
  · simp only [Value.slice.injEq] at e1
    obtain ⟨rfl, _, rfl⟩ := e1
    obtain ⟨x, hx⟩ : ∃ x, l[k]? = some x := ⟨_, List.getElem?_eq_getElem hk⟩
    have := r.cell k x hx
    exact ⟨g', rfl, ⟨_, this.1⟩, this.2⟩
theorem Marked.len_set {M : List En} {i k n c : Nat} {A : Option Addr} {l : List Int} (hm : Mid M i k A n c l) (h3 : ∀ p ∈ M, p.2.length ≤ 300) {V : Value} {x : Int} {j : Nat} : ∀ p ∈ M.set i (V, l.set j x), p.2.length ≤ 300 := by
  intro p hp
  have h4 := h3 _ (List.mem_of_getElem? hm.1)
  rcases List.mem_or_eq_of_mem_set hp with h | h
  · exact h3 p h
  · subst h; simpa using h4
theorem Marked.load {w0 wr : World} {g c7 : Nat} {E M : List En} {i j k n c : Nat} {A : Option Addr} {l : List Int} (h : Marked w0 wr (.slice (some ⟨g, 0, none⟩) E.length c7) E M j) (hm : Mid M i k A n c l) (hi : i < E.length) (h3 : ∀ p ∈ M, p.2.length ≤ 300) : wr.cell? ⟨g, i, none⟩ = some (.slice A n c) := by
  obtain ⟨g2, h1, h2, _⟩ := h.mid_at hm hi h3
  simp only [Option.some.injEq, Addr.mk.injEq, and_true] at h1
  subst h1; exact h2
theorem Marked.near {w0 wr w' : World} {v7 : Value} {E M : List En} {i : Nat} (h : Marked w0 wr v7 E M i) (t : Touch [] wr w') : Marked w0 w' v7 E M i :=
  ⟨h.row.kept t (by simp), h.same, h.fam.kept t (by simp), h.mark, h.new⟩

/-! ### the growing -/
/-- The grown lists; wp is the world where the growing began. -/
structure Grew (w0 wp wr : World) (v7 v16 : Value) (E M G : List En) : Prop where
  marked : Marked w0 wr v7 E M E.length
  row : VRow wr 37 1 v16 G.length (G.map (·.1))
  rows : ∀ p ∈ G, IRow wr 0 p.1 p.2
  mark : ∀ (j : Nat) (p : En), G[j]? = some p → p.2 = List.replicate p.2.length (markOf j)
  blk : ∀ (j : Nat) (p : En), G[j]? = some p → ∀ b, p.1.ownBlock = some b → (∃ q : En, M[j]? = some q ∧ q.1.ownBlock = some b) ∨ wp.heap.size ≤ b
  off : ∀ b, v7.ownBlock = some b → v16.ownBlock ≠ some b
  old : ∀ p ∈ M, ∀ b, p.1.ownBlock = some b → b < wp.heap.size
  new : ∀ b, v16.ownBlock = some b → w0.heap.size ≤ b
  size : w0.heap.size ≤ wp.heap.size ∧ wp.heap.size ≤ wr.heap.size
theorem Grew.start {w0 wp : World} {v7 : Value} {E M : List En} (h : Marked w0 wp v7 E M E.length) (hs : w0.heap.size ≤ wp.heap.size) : Grew w0 wp wp v7 (.slice none 0 0) E M [] :=
  ⟨h, VRow.nil _ _ _, by simp, by simp, by simp, by simp [Value.ownBlock], fun p hp => (h.fam.row p hp).lt, by simp [Value.ownBlock], hs, Nat.le_refl _⟩
/-- The row that grows: it began as list i in a world of size z. -/
structure Growing (wr : World) (M : List En) (i z : Nat) (V : Value) (l : List Int) : Prop where
  row : IRow wr 0 V l
  mark : l = List.replicate l.length (markOf i)
  from_ : ∃ q : En, M[i]? = some q ∧ q.2.length ≤ l.length ∧ ∀ b, V.ownBlock = some b → q.1.ownBlock = some b ∨ z ≤ b
/-- The row begins to grow. -/
theorem Grew.growing {w0 wp wr : World} {v7 v16 : Value} {E M G : List En} (h : Grew w0 wp wr v7 v16 E M G) {i n c : Nat} {A : Option Addr} {l : List Int} (hm : Mid M i 0 A n c l) (z : Nat := wr.heap.size) : Growing wr M i z (.slice A n c) l := by
  have r := h.marked.fam.row _ (List.mem_of_getElem? hm.1)
  have hi := (List.getElem?_eq_some_iff.1 hm.1).1
  rw [h.marked.len] at hi
  exact ⟨r, h.marked.mark i hi _ hm.1, _, hm.1, Nat.le_refl _, fun b hb => .inl hb⟩
theorem Grew.near {w0 wp wr w' : World} {v7 v16 : Value} {E M G : List En} (h : Grew w0 wp wr v7 v16 E M G) (t : Touch [] wr w') : Grew w0 wp w' v7 v16 E M G :=
  ⟨h.marked.near t, h.row.kept t (by simp), fun p hp => (h.rows p hp).kept t (by simp), h.mark, h.blk, h.off, h.old, h.new, h.size.1, Nat.le_trans h.size.2 t.size⟩
theorem Growing.near {wr w' : World} {M : List En} {i z : Nat} {V : Value} {l : List Int} (h : Growing wr M i z V l) (t : Touch [] wr w') : Growing w' M i z V l :=
  ⟨h.row.kept t (by simp), h.mark, h.from_⟩
theorem Growing.old {w0 wp wz wr : World} {v7 v16 : Value} {E M G : List En} (h0 : Grew w0 wp wz v7 v16 E M G) {i : Nat} {V : Value} {l : List Int} (g : Growing wr M i wz.heap.size V l) : ∀ b, V.ownBlock = some b → w0.heap.size ≤ b := by
  intro b hb
  obtain ⟨q, hq, _, hqb⟩ := g.from_
  rcases hqb b hb with h | h
  · have : q.1 ∈ E.map (·.1) := by rw [← h0.marked.same, List.mem_map]; exact ⟨q, List.mem_of_getElem? hq, rfl⟩
    obtain ⟨p, hp, e⟩ := List.mem_map.1 this
    exact h0.marked.new.2 p hp b (by rw [e]; exact h)
  · have := h0.size; omega
theorem Grew.grow {w0 wp wz wr w' : World} {v7 v16 : Value} {E M G : List En} (h0 : Grew w0 wp wz v7 v16 E M G) (h : Grew w0 wp wr v7 v16 E M G) {V V' : Value} {l : List Int} (g : Growing wr M G.length wz.heap.size V l) (k : Kept V l.length wr w')
    (r : IRow w' 0 V' (l ++ [markOf G.length])) (o : V'.ownBlock = V.ownBlock ∨ ∃ b, V'.ownBlock = some b ∧ wr.heap.size ≤ b) (hz : wz.heap.size ≤ wr.heap.size) : Grew w0 wp w' v7 v16 E M G ∧ Growing w' M G.length wz.heap.size V' (l ++ [markOf G.length]) := by
  obtain ⟨q, hq, hql, hqb⟩ := g.from_
  have hM : ∀ p ∈ M, IRow w' 0 p.1 p.2 := fun p hp => by
    refine (h.marked.fam.row p hp).grown k (fun e => ?_)
    cases hb : p.1.ownBlock with
    | none =>
      have r0 := h.marked.fam.row p hp
      rcases r0.2 with ⟨_, hn⟩ | ⟨gg, cap, cur, hv, _⟩
      · omega
      · rw [hv] at hb; cases hb
    | some b =>
      rw [hb] at e
      rcases hqb b e.symm with h1 | h1
      · obtain ⟨j, hj⟩ := List.mem_iff_getElem?.1 hp
        have hji := h.marked.fam.ne hj hq hb h1
        rw [hji, hq] at hj
        injection hj with hj
        subst hj; exact hql
      · have := (h0.marked.fam.row p hp).lt b hb
        omega
  have hG : ∀ p ∈ G, IRow w' 0 p.1 p.2 := fun p hp => by
    refine (h.rows p hp).grown k (fun e => ?_)
    cases hb : p.1.ownBlock with
    | none =>
      have r0 := h.rows p hp
      rcases r0.2 with ⟨_, hn⟩ | ⟨gg, cap, cur, hv, _⟩
      · omega
      · rw [hv] at hb; cases hb
    | some b =>
      rw [hb] at e
      obtain ⟨j, hj⟩ := List.mem_iff_getElem?.1 hp
      have hjl := (List.getElem?_eq_some_iff.1 hj).1
      rcases hqb b e.symm with h1 | h1
      · rcases h.blk j p hj b hb with ⟨q', hq', hb'⟩ | h2
        · have := h.marked.fam.ne hq' hq hb' h1; omega
        · have := h.old q (List.mem_of_getElem? hq) b h1; omega
      · have := (h0.rows p hp).lt b hb
        omega
  have no37 : ∀ (U : Value) (n : Nat) (xs : List Value), VRow wr 37 1 U n xs → VRow w' 37 1 U n xs := fun U n xs hU => by
    refine hU.kept k.1 (fun b hb hx => ?_)
    simp at hx
    obtain ⟨c, hc⟩ := hU.blk b hb
    exact g.row.not hc (by decide) hx
  refine ⟨⟨⟨no37 _ _ _ h.marked.row, h.marked.same, ⟨hM, h.marked.fam.apart⟩, h.marked.mark, h.marked.new⟩, no37 _ _ _ h.row, hG, h.mark, h.blk, h.off, h.old, h.new, h.size.1, Nat.le_trans h.size.2 k.1.size⟩, ⟨r, ?_, q, hq, by simp; omega, fun b hb => ?_⟩⟩
  · have := g.mark
    rw [List.length_append, List.length_singleton, List.replicate_succ', ← this]
  · rcases o with o | ⟨b', o, hb'⟩
    · rw [o] at hb; exact hqb b hb
    · rw [o] at hb; cases hb; exact .inr (by omega)
/-- The grown row is put behind the others. -/
theorem Grew.more {w0 wp wz wr w' : World} {v7 v16 v16' : Value} {E M G : List En} (h : Grew w0 wp wr v7 v16 E M G) {V : Value} {l : List Int} (g : Growing wr M G.length wz.heap.size V l) (hz : wp.heap.size ≤ wz.heap.size)
    (q : VRow w' 37 1 v16' (G.length + 1) (G.map (·.1) ++ [V])) (t : Touch v16.ownBlock.toList wr w') (o : v16'.ownBlock = v16.ownBlock ∨ ∃ b, v16'.ownBlock = some b ∧ wr.heap.size ≤ b) : Grew w0 wp w' v7 v16' E M (G ++ [(V, l)]) := by
  have hoff : ∀ {U : Value} {lu : List Int} {bs : Nat}, IRow wr bs U lu → IRow w' bs U lu := fun hU => hU.kept t (hU.off h.row (by decide))
  obtain ⟨q', hq', hql, hqb⟩ := g.from_
  refine ⟨⟨h.marked.row.kept t (fun b hb hx => by simp at hx; exact h.off b hb hx), h.marked.same, ⟨fun p hp => hoff (h.marked.fam.row p hp), h.marked.fam.apart⟩, h.marked.mark, h.marked.new⟩, by simpa using q, fun p hp => ?_, fun j p hp => ?_, fun j p hp b hb => ?_, fun b hb hb2 => ?_, h.old, fun b hb => ?_, h.size.1, Nat.le_trans h.size.2 t.size⟩
  · rcases List.mem_append.1 hp with h1 | h1
    · exact hoff (h.rows p h1)
    · simp at h1; subst h1; exact hoff g.row
  · rcases Nat.lt_or_ge j G.length with h1 | h1
    · rw [List.getElem?_append_left h1] at hp; exact h.mark j p hp
    · rw [List.getElem?_append_right h1] at hp
      have : j = G.length := by
        rcases Nat.eq_zero_or_pos (j - G.length) with h2 | h2
        · omega
        · rw [List.getElem?_eq_none (by simp; omega)] at hp; cases hp
      subst this
      simp at hp; subst hp; exact g.mark
  · rcases Nat.lt_or_ge j G.length with h1 | h1
    · rw [List.getElem?_append_left h1] at hp; exact h.blk j p hp b hb
    · rw [List.getElem?_append_right h1] at hp
      have : j = G.length := by
        rcases Nat.eq_zero_or_pos (j - G.length) with h2 | h2
        · omega
        · rw [List.getElem?_eq_none (by simp; omega)] at hp; cases hp
      subst this
      simp at hp; subst hp
      rcases hqb b hb with h2 | h2
      · exact .inl ⟨q', hq', h2⟩
      · exact .inr (by omega)
  · rcases o with o | ⟨b', o, hb'⟩
    · rw [o] at hb2; exact h.off b hb hb2
    · rw [o] at hb2; cases hb2; have := h.marked.row.lt _ hb; omega
  · rcases o with o | ⟨b', o, hb'⟩
    · rw [o] at hb; exact h.new b hb
    · rw [o] at hb; cases hb; have := h.size; omega
theorem IRow.marks {w : World} {A : Option Addr} {n c : Nat} {l : List Int} {x : Int} (h : IRow w 0 (.slice A n c) l) (hl : l = List.replicate l.length x) {k : Nat} (hk : k < n) : ∃ g, A = some ⟨g, 0, none⟩ ∧ w.cell? ⟨g, k, none⟩ = some (.int .i64 x) := by
  rcases h.2 with ⟨e1, _⟩ | ⟨g', cap, cur, e1, _⟩
  · simp at e1; omega
  · simp only [Value.slice.injEq] at e1
    obtain ⟨rfl, rfl, rfl⟩ := e1
    exact ⟨g', rfl, (h.cell k x (by rw [hl, List.getElem?_replicate, if_pos hk])).1⟩
/-- What is looked at in the end. -/
theorem Grew.fin {w0 wp wr : World} {c7 c16 : Nat} {A7 A16 : Option Addr} {E M G : List En} (h : Grew w0 wp wr (.slice A7 E.length c7) (.slice A16 G.length c16) E M G) {i : Nat} (hi : i < G.length) (hl : G.length = E.length) (h3 : ∀ p ∈ M, p.2.length ≤ 300) (h7 : ∀ p ∈ G, p.2.length ≤ 71000) :
    ∃ g7 g16 A n c A2 n2 c2, A7 = some ⟨g7, 0, none⟩ ∧ A16 = some ⟨g16, 0, none⟩ ∧ wr.cell? ⟨g16, i, none⟩ = some (.slice A n c) ∧ wr.cell? ⟨g7, i, none⟩ = some (.slice A2 n2 c2) ∧ n ≤ 71000 ∧ n2 ≤ 300 ∧
      (∀ k, k < n → ∃ g, A = some ⟨g, 0, none⟩ ∧ wr.cell? ⟨g, k, none⟩ = some (.int .i64 (-1 - (i : Int)))) ∧ (∀ k, k < n2 → ∃ g, A2 = some ⟨g, 0, none⟩ ∧ wr.cell? ⟨g, k, none⟩ = some (.int .i64 (-1 - (i : Int)))) := by
  obtain ⟨A2, n2, c2, l2, hq⟩ := h.marked.begin_ (i := i) (by omega)
  obtain ⟨g7, hA7, hc7, _⟩ := h.marked.mid_at hq (by omega) h3
  have r2 := h.marked.fam.row _ (List.mem_of_getElem? hq.1)
  have m2 := h.marked.mark i (by omega) _ hq.1
  obtain ⟨⟨V, l⟩, hx⟩ : ∃ x, G[i]? = some x := ⟨_, List.getElem?_eq_getElem hi⟩
  have r := h.rows _ (List.mem_of_getElem? hx)
  have m := h.mark i _ hx
  have h71 := h7 _ (List.mem_of_getElem? hx)
  have h30 := h3 _ (List.mem_of_getElem? hq.1)
  dsimp only at r r2 m m2 h71 h30
  obtain ⟨A, c, hv⟩ := r.form
  subst hv
  obtain ⟨g16, c16', hV, _, hm⟩ := h.row.at_ (by omega)
  simp only [Value.slice.injEq] at hV
  refine ⟨g7, g16, A, _, c, A2, n2, c2, hA7, hV.1, hm i _ (by simp [hx]), hc7, h71, by have := hq.2.1; omega, fun k hk => r.marks m hk, fun k hk => r2.marks m2 hk⟩
end Go.Proofs.Ytjnhldcgemcjbaa.Tm
