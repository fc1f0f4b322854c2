/- The reference: Put; no condition. -/
import Derived.Test.YtmklkdhpbehfeaaRC
namespace Go.Proofs.Ytmklkdhpbehfeaa.Tri
open Go.RowKit Go.Maps
set_option linter.unusedVariables false

theorem wpList_append_en {W : World} {ops : Array Oper} {rest : List Oper} {o : Oper} {a : Act} {Q : Exit → Act → World → Prop} (hgd : o.guard = none) (s x : Operand)
    (ho : o.op = .call { callee := .builtin .append, args := #[s, x], argTypes := #[131, 131] })
    (V : Value) (L : List Ent) (e : Ent) (hs : a.eval s = V) (hr : VRow W 135 3 V L.length (flatE L)) (hx : a.eval x = .slice (some ⟨W.heap.size, 0, none⟩) 1 1) (hn : L.length < 4000000000009)
    (h : ∀ A' c' w', VRow w' 135 3 (.slice A' (L.length + 1) c') (L ++ [e]).length (flatE (L ++ [e])) → Touch V.ownBlock.toList W w' → ((Value.slice A' (L.length + 1) c').ownBlock = V.ownBlock ∨ ∃ b, (Value.slice A' (L.length + 1) c').ownBlock = some b ∧ W.heap.size ≤ b) → wpList Try.prog ops Q rest (a.put o.dst (.slice A' (L.length + 1) c')) w') :
    wpList Try.prog ops Q (o :: rest) a (W.alloc (.cells #[.int .u32 e.1.a, .int .i64 e.1.n, .int .i64 e.2] 135)) := by
  obtain ⟨i0, hi, hz⟩ := Option.map_eq_some_iff.1 infoE
  simp only [Prod.mk.injEq] at hz
  obtain ⟨hz0, hz1, hz2⟩ := hz
  refine wpList_append_own_at (P := Try.prog) _ hgd s x 131 ho 0 135 i0 _ 3 24 Try.underlying131 hi hz0 hz1 hz2 rfl (by decide) V L.length (flatE L) hs (World.ownsRow.alloc hr.own _) ⟨W.heap.size, 0, none⟩ 1 1 [.int .u32 e.1.a, .int .i64 e.1.n, .int .i64 e.2] hx (by rfl)
    (World.news_of_block (cs := #[.int .u32 e.1.a, .int .i64 e.1.n, .int .i64 e.2]) (t := 135) (fr := (0, 0)) (heap_alloc_new W _)) (by simp [Value.oneCell']) (by unfold maxLen; omega) (by omega) (Nat.zero_le _) ?_
  intro V' w' hown hg _ hat
  have hr' : VRow w' 135 3 V' (L ++ [e]).length (flatE (L ++ [e])) := by
    rw [flatE_snoc, List.length_append]; exact ⟨hown⟩
  obtain ⟨A', c', hV⟩ := hr'.form
  rw [List.length_append] at hV
  subst hV
  refine h A' c' w' hr' ?_ ?_
  · have g2 := (World.grownBy_alloc W (.cells #[.int .u32 e.1.a, .int .i64 e.1.n, .int .i64 e.2] 135) V.ownBlock).trans hg
    exact ((Touch.refl V.ownBlock.toList W).grown g2 (fun k hk => .inl (by simp [hk])))
  · rcases hat with h1 | h1
    · exact .inl h1
    · exact .inr ⟨_, h1, by simp⟩

/-! ### what Put makes -/
theorem plt_total {p q : Px} (h : ¬ plt p q) : q = p ∨ plt q p := by
  obtain ⟨a, n⟩ := p
  obtain ⟨b, m⟩ := q
  unfold plt at *
  simp only at *
  by_cases e1 : b = a <;> by_cases e2 : m = n
  · left; rw [e1, e2]
  · right; omega
  · right; omega
  · right; omega
def InsAt (l : List Ent) (p : Px) (v : Int) (j : Nat) (d : Bool) (L : List Ent) : Prop :=
  (d = false ∧ L = l.take j ∧ ∀ e ∈ l.take j, ¬ plt p e.1) ∨ (d = true ∧ ∃ l1 e2 l2, l.take j = l1 ++ e2 :: l2 ∧ L = l1 ++ (p, v) :: e2 :: l2 ∧ (∀ e ∈ l1, ¬ plt p e.1) ∧ plt p e2.1)
theorem InsAt.len {l : List Ent} {p : Px} {v : Int} {j : Nat} {d : Bool} {L : List Ent} (h : InsAt l p v j d L) : L.length ≤ l.length + 1 := by
  rcases h with ⟨_, rfl, _⟩ | ⟨_, l1, e2, l2, h1, rfl, _⟩
  · rw [List.length_take]; omega
  · have := congrArg List.length h1
    simp only [List.length_take, List.length_append, List.length_cons] at this ⊢
    omega
theorem InsAt.start (l : List Ent) (p : Px) (v : Int) : InsAt l p v 0 false [] := .inl ⟨rfl, by simp, by simp⟩
theorem InsAt.skip {l : List Ent} {p : Px} {v : Int} {j : Nat} {L : List Ent} (h : InsAt l p v j true L) {e : Ent} (he : l[j]? = some e) : InsAt l p v (j + 1) true (L ++ [e]) := by
  rcases h with ⟨h, _⟩ | ⟨_, l1, e2, l2, h1, rfl, h3, h4⟩
  · cases h
  · exact .inr ⟨rfl, l1, e2, l2 ++ [e], by rw [List.take_add_one, he, h1]; simp, by simp, h3, h4⟩
theorem InsAt.past {l : List Ent} {p : Px} {v : Int} {j : Nat} {L : List Ent} (h : InsAt l p v j false L) {e : Ent} (he : l[j]? = some e) (hn : ¬ plt p e.1) : InsAt l p v (j + 1) false (L ++ [e]) := by
  rcases h with ⟨_, rfl, h2⟩ | ⟨h, _⟩
  · refine .inl ⟨rfl, by rw [List.take_add_one, he]; simp, ?_⟩
    intro x hx
    rw [List.take_add_one, he] at hx
    simp only [Option.toList_some, List.mem_append, List.mem_singleton] at hx
    rcases hx with hx | rfl
    · exact h2 x hx
    · exact hn
  · cases h
theorem InsAt.here {l : List Ent} {p : Px} {v : Int} {j : Nat} {L : List Ent} (h : InsAt l p v j false L) {e : Ent} (he : l[j]? = some e) (hn : plt p e.1) : InsAt l p v (j + 1) true ((L ++ [(p, v)]) ++ [e]) := by
  rcases h with ⟨_, rfl, h2⟩ | ⟨h, _⟩
  · exact .inr ⟨rfl, l.take j, e, [], by rw [List.take_add_one, he]; simp, by simp, h2, hn⟩
  · cases h
/-- What stands there behind Put. -/
def PutL (l : List Ent) (p : Px) (v : Int) (L : List Ent) : Prop := Sorted L ∧ ∀ q u, (q, u) ∈ L ↔ (q = p ∧ u = v) ∨ (q ≠ p ∧ (q, u) ∈ l)
theorem put_mid {l1 l2 : List Ent} {p : Px} {v : Int} (hs : Sorted (l1 ++ l2)) (hno : ∀ u, (p, u) ∉ l1 ++ l2) (h1 : ∀ e ∈ l1, ¬ plt p e.1) (h2 : ∀ e ∈ l2, plt p e.1) : PutL (l1 ++ l2) p v (l1 ++ (p, v) :: l2) := by
  have hlt : ∀ e ∈ l1, plt e.1 p := by
    intro e he
    rcases plt_total (h1 e he) with h | h
    · exfalso; exact hno e.2 (by rw [← h]; exact List.mem_append_left _ he)
    · exact h
  unfold Sorted at hs
  rw [List.pairwise_append] at hs
  obtain ⟨s1, s2, s3⟩ := hs
  refine ⟨?_, fun q u => ?_⟩
  · unfold Sorted
    rw [List.pairwise_append, List.pairwise_cons]
    refine ⟨s1, ⟨fun y hy => h2 y hy, s2⟩, fun x hx y hy => ?_⟩
    rcases List.mem_cons.1 hy with rfl | hy
    · exact hlt x hx
    · exact s3 x hx y hy
  · simp only [List.mem_append, List.mem_cons, Prod.mk.injEq]
    constructor
    · rintro (h | h | h)
      · exact .inr ⟨fun e => hno u (by rw [← e]; simp [h]), .inl h⟩
      · exact .inl h
      · exact .inr ⟨fun e => hno u (by rw [← e]; simp [h]), .inr h⟩
    · rintro (h | ⟨_, h | h⟩)
      · exact .inr (.inl h)
      · exact .inl h
      · exact .inr (.inr h)
theorem InsAt.done {l : List Ent} {p : Px} {v : Int} {L : List Ent} (h : InsAt l p v l.length true L) (hs : Sorted l) (hno : ∀ u, (p, u) ∉ l) : PutL l p v L := by
  rcases h with ⟨h, _⟩ | ⟨_, l1, e2, l2, h1, rfl, h3, h4⟩
  · cases h
  · rw [List.take_length] at h1
    rw [h1] at hs hno ⊢
    refine put_mid hs hno h3 ?_
    intro e he
    rcases List.mem_cons.1 he with rfl | he
    · exact h4
    · unfold Sorted at hs
      rw [List.pairwise_append, List.pairwise_cons] at hs
      exact plt_trans h4 (hs.2.1.1 e he)
theorem InsAt.last {l : List Ent} {p : Px} {v : Int} {L : List Ent} (h : InsAt l p v l.length false L) (hs : Sorted l) (hno : ∀ u, (p, u) ∉ l) : PutL l p v (L ++ [(p, v)]) := by
  rcases h with ⟨_, rfl, h3⟩ | ⟨h, _⟩
  · rw [List.take_length] at h3 ⊢
    have := put_mid (l1 := l) (l2 := []) (p := p) (v := v) (by simpa using hs) (by simpa using hno) h3 (by simp)
    simpa using this
  · cases h
theorem put_set {l : List Ent} {p : Px} {u v : Int} {k : Nat} (hs : Sorted l) (hk : l[k]? = some (p, u)) : PutL l p v (l.set k (p, v)) := by
  have hkl := (List.getElem?_eq_some_iff.1 hk).1
  have e : l = l.take k ++ (p, u) :: l.drop (k + 1) := by
    have h1 := (List.take_append_drop k l).symm
    rw [List.drop_eq_getElem_cons hkl, (List.getElem?_eq_some_iff.1 hk).2] at h1
    exact h1
  have e2 : l.set k (p, v) = l.take k ++ (p, v) :: l.drop (k + 1) := by
    rw [List.set_eq_take_append_cons_drop, if_pos hkl]
  rw [e2]
  generalize l.take k = l1 at *
  generalize l.drop (k + 1) = l2 at *
  subst e
  unfold Sorted at hs
  rw [List.pairwise_append, List.pairwise_cons] at hs
  obtain ⟨s1, ⟨s2, s3⟩, s4⟩ := hs
  have hl1 : ∀ x ∈ l1, plt x.1 p := fun x hx => s4 x hx (p, u) (by simp)
  refine ⟨?_, fun q y => ?_⟩
  · unfold Sorted
    rw [List.pairwise_append, List.pairwise_cons]
    refine ⟨s1, ⟨fun y hy => s2 y hy, s3⟩, fun x hx y hy => ?_⟩
    rcases List.mem_cons.1 hy with rfl | hy
    · exact hl1 x hx
    · exact s4 x hx y (by simp [hy])
  · simp only [List.mem_append, List.mem_cons, Prod.mk.injEq]
    constructor
    · rintro (h | h | h)
      · exact .inr ⟨fun e => plt_ne (hl1 _ h) e, .inl h⟩
      · exact .inl h
      · exact .inr ⟨fun e => plt_ne (s2 _ h) e.symm, .inr (.inr h)⟩
    · rintro (h | ⟨hn, h | h | h⟩)
      · exact .inr (.inl h)
      · exact .inl h
      · exact absurd h.1 hn
      · exact .inr (.inr h)
theorem RefT.stored {w : World} {rb g c : Nat} {l : List Ent} (h : RefT w rb (.slice (some ⟨g, 0, none⟩) l.length c) l) {k : Nat} {p : Px} {u : Int} (hk : l[k]? = some (p, u)) (v : Int) :
    RefT (w.setCell ⟨g, k * 3 + 1 + 1, none⟩ (.int .i64 v)) rb (.slice (some ⟨g, 0, none⟩) l.length c) (l.set k (p, v)) := by
  have hne := h.ne g rfl
  refine ⟨box_other _ _ h.blk (fun e => hne e.symm), ⟨?_⟩, ?_⟩
  · rw [flatE_set l k p u v hk, List.length_set]
    exact (World.ownsRow.stored h.row.own (k * 3 + 1 + 1) (.int .i64 v)).1
  · intro e he
    rcases List.mem_or_eq_of_mem_set he with he | rfl
    · exact h.oks e he
    · exact h.oks (p, u) (List.mem_of_getElem? hk)
end Go.Proofs.Ytmklkdhpbehfeaa.Tri
