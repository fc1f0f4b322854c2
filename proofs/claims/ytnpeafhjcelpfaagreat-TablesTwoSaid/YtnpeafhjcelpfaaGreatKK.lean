/- Rows of structs that a call owns; no condition. -/
import Derived.Test.YtnpeafhjcelpfaaGreatKJ
import Derived.Laws.CopyOwn
import Derived.Laws.OwnMore
import Derived.WalkLawsBesides
import Derived.Deep.AppendLies
namespace Go.Proofs.YtnpeafhjcelpfaaGreat.Tri
open Go.RowKit Go.Maps
set_option linter.unusedVariables false

theorem one_cells {w : World} {b : Nat} {x : Value} {T : TypeId} (h : w.heap[b]? = some (.cells #[x] T (0, 0))) : w.cell? ⟨b, 0, none⟩ = some x ∧ w.frozen? ⟨b, 0, none⟩ = false := by
  constructor <;> simp [World.cell?, World.frozen?, h]
/-! ### rows of other things -/
structure VRow (w : World) (e : TypeId) (sz : Nat) (V : Value) (n : Nat) (xs : List Value) : Prop where
  own : w.ownsRow 0 e sz V n xs
theorem VRow.nil (w : World) (e : TypeId) (sz : Nat) : VRow w e sz (.slice none 0 0) 0 [] := ⟨World.ownsRow_nil w 0 e sz⟩
theorem VRow.form {w : World} {e : TypeId} {sz : Nat} {V : Value} {n : Nat} {xs : List Value} (h : VRow w e sz V n xs) : ∃ A cap, V = .slice A n cap := by
  rcases h.own.2 with ⟨rfl, hn⟩ | ⟨g, cap, cur, rfl, _⟩
  · exact ⟨none, 0, by rw [hn]⟩
  · exact ⟨_, cap, rfl⟩
theorem VRow.kept {w w' : World} {e : TypeId} {sz : Nat} {V : Value} {n : Nat} {xs : List Value} (h : VRow w e sz V n xs) {S : List Nat} (t : Touch S w w') (hn : ∀ k, V.ownBlock = some k → k ∉ S) : VRow w' e sz V n xs := by
  refine ⟨h.own.1, ?_⟩
  rcases h.own.2 with h2 | ⟨g, cap, cur, hv, hg, hh, r⟩
  · exact .inl h2
  · refine .inr ⟨g, cap, cur, hv, hg, ?_, r⟩
    rw [t.block g (Array.getElem?_eq_some_iff.1 hh).1 (hn g (by subst hv; rfl))]
    exact hh
theorem VRow.lt {w : World} {e : TypeId} {sz : Nat} {V : Value} {n : Nat} {xs : List Value} (h : VRow w e sz V n xs) : ∀ k, V.ownBlock = some k → k < w.heap.size := fun k hk => (World.ownsRow.lt h.own k hk).2
theorem VRow.blk {w : World} {e : TypeId} {sz : Nat} {V : Value} {n : Nat} {xs : List Value} (h : VRow w e sz V n xs) : ∀ k, V.ownBlock = some k → ∃ c, w.heap[k]? = some (.cells c e (0, 0)) := by
  intro k hk
  rcases h.own.2 with ⟨rfl, _⟩ | ⟨g, cap, cur, rfl, _, hg, _⟩
  · cases hk
  · simp [Value.ownBlock] at hk; subst hk; exact ⟨cur, hg⟩
theorem VRow.at_ {w : World} {e : TypeId} {sz : Nat} {V : Value} {n : Nat} {xs : List Value} (h : VRow w e sz V n xs) (h0 : 0 < n) : ∃ g c, V = .slice (some ⟨g, 0, none⟩) n c ∧ g < w.heap.size ∧ ∀ (i : Nat) (x : Value), xs[i]? = some x → w.cell? ⟨g, i, none⟩ = some x := by
  rcases h.own.2 with ⟨rfl, hn⟩ | ⟨g, cap, cur, rfl, _, hg, _⟩
  · omega
  · refine ⟨g, cap, rfl, (Array.getElem?_eq_some_iff.1 hg).1, fun i x hx => ?_⟩
    have hi : i < xs.length := (List.getElem?_eq_some_iff.1 hx).1
    exact (World.ownsRow.cellAt h.own i (by rw [h.own.1] at hi; exact hi)).trans hx
theorem wpList_append_vr {W : World} {ops : Array Oper} {rest : List Oper} {o : Oper} {a : Act} {Q : Exit → Act → World → Prop} (hgd : o.guard = none) (s x : Operand) (t e : TypeId) (sz bytes : Nat) (z : Value) (hu : Tryz.prog.underlying t = some (.slice e))
    (ho : o.op = .call { callee := .builtin .append, args := #[s, x], argTypes := #[t, t] })
    (hinfo : (Tryz.prog.info? e).map (fun i => (i.zero, i.size, i.bytes)) = some (some z, sz, bytes)) (hzs : z.cells.size = sz) (hsz : 0 < sz) (hby : bytes ≤ 128)
    (V : Value) (n : Nat) (xs : List Value) (m : Nat) (cs : Array Value) (hs : a.eval s = V) (hr : VRow W e sz V n xs) (hx : a.eval x = .slice (some ⟨W.heap.size, 0, none⟩) m m) (hl : cs.toList.length = m * sz) (h1 : ∀ u ∈ cs.toList, u.oneCell' = true) (hn : n + m < 1099511627776)
    (h : ∀ A' c' w', VRow w' e sz (.slice A' (n + m) c') (n + m) (xs ++ cs.toList) → Touch V.ownBlock.toList W w' → ((Value.slice A' (n + m) c').ownBlock = V.ownBlock ∨ ∃ b, (Value.slice A' (n + m) c').ownBlock = some b ∧ W.heap.size ≤ b) → wpList Tryz.prog ops Q rest (a.put o.dst (.slice A' (n + m) c')) w') :
    wpList Tryz.prog ops Q (o :: rest) a (W.alloc (.cells cs e)) := by
  obtain ⟨i0, hi, hz⟩ := Option.map_eq_some_iff.1 hinfo
  simp only [Prod.mk.injEq] at hz
  obtain ⟨hz0, hz1, hz2⟩ := hz
  have hb : (n + m) * bytes ≤ 140737488355328 := by
    have : (n + m) * bytes ≤ 1099511627776 * 128 := Nat.mul_le_mul (by omega) hby
    omega
  refine wpList_append_own_at (P := Tryz.prog) _ hgd s x t ho 0 e i0 _ sz bytes hu hi hz0 hz1 hz2 hzs hsz V n xs hs (World.ownsRow.alloc hr.own _) ⟨W.heap.size, 0, none⟩ m m cs.toList hx hl
    (World.news_of_block (cs := cs) (t := e) (fr := (0, 0)) (heap_alloc_new W _)) h1 (by unfold maxLen; omega) hb (Nat.zero_le _) ?_
  intro V' w' hown hg _ hat
  have hr' : VRow w' e sz V' (n + m) (xs ++ cs.toList) := ⟨hown⟩
  obtain ⟨A', c', hV⟩ := hr'.form
  subst hV
  refine h A' c' w' hr' ?_ ?_
  · have g2 := (World.grownBy_alloc W (.cells cs e) V.ownBlock).trans hg
    exact ((Touch.refl V.ownBlock.toList W).grown g2 (fun k hk => .inl (by simp [hk])))
  · rcases hat with h1 | h1
    · exact .inl h1
    · exact .inr ⟨_, h1, by simp⟩


end Go.Proofs.YtnpeafhjcelpfaaGreat.Tri
