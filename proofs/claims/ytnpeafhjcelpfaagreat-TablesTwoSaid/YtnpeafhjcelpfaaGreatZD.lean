/- An append in a round; no condition. -/
import Derived.Test.YtnpeafhjcelpfaaGreatZC
import Derived.Maps.OwnIn
namespace Go.Proofs.YtnpeafhjcelpfaaGreat.Tri
open Go.RowKit Go.Maps
set_option linter.unusedVariables false

section
variable {F : Fence} {nF : Nat} {W : World} {o : Oper} {a : Act} {Q : Exit → Act → World → Prop}
theorem opIn_append_vr (s x : Operand) (t e : TypeId) (sz bytes : Nat) (z : Value) (hu : Tryz.prog.underlying t = some (.slice e))
    (ho : o.op = .call { callee := .builtin .append, args := #[s, x], argTypes := #[t, t] })
    (hinfo : (Tryz.prog.info? e).map (fun i => (i.zero, i.size, i.bytes)) = some (some z, sz, bytes)) (hzs : z.cells.size = sz) (hsz : 0 < sz) (hby : 1 ≤ bytes)
    (V : Value) (n : Nat) (xs : List Value) (m : Nat) (cs : Array Value) (hs : a.eval s = V) (hr : VRow W e sz V n xs) (hx : a.eval x = .slice (some ⟨W.heap.size, 0, none⟩) m m) (hl : cs.toList.length = m * sz) (h1 : ∀ u ∈ cs.toList, u.oneCell' = true) (hn : (n + m) * bytes ≤ 140737488355328)
    {K : Act → World → Prop}
    (h : ∀ A' c' w', VRow w' e sz (.slice A' (n + m) c') (n + m) (xs ++ cs.toList) → Touch V.ownBlock.toList W w' → ((Value.slice A' (n + m) c').ownBlock = V.ownBlock ∨ ∃ b, (Value.slice A' (n + m) c').ownBlock = some b ∧ W.heap.size ≤ b) → K (a.put o.dst (.slice A' (n + m) c')) w') :
    o.wpIn F nF Tryz.prog a (W.alloc (.cells cs e)) K Q := by
  obtain ⟨i0, hi, hz⟩ := Option.map_eq_some_iff.1 hinfo
  simp only [Prod.mk.injEq] at hz
  obtain ⟨hz0, hz1, hz2⟩ := hz
  have hn5 : n + m ≤ 140737488355328 := by
    have : (n + m) * 1 ≤ (n + m) * bytes := Nat.mul_le_mul (Nat.le_refl _) hby
    omega
  obtain ⟨V', w', hrun, hown, hg, _, hat⟩ := run_append_own_at (P := Tryz.prog) (W.alloc (.cells cs e)) 0 t o.type e i0 _ sz bytes hu hi hz0 hz1 hz2 hzs hsz V n xs (World.ownsRow.alloc hr.own _) ⟨W.heap.size, 0, none⟩ m m cs.toList hl
    (World.news_of_block (cs := cs) (t := e) (fr := (0, 0)) (heap_alloc_new W _)) h1 (by unfold maxLen; omega) hn (Nat.zero_le _)
  have hr' : VRow w' e sz V' (n + m) (xs ++ cs.toList) := ⟨hown⟩
  obtain ⟨A', c', hV⟩ := hr'.form
  subst hV
  unfold Oper.wpIn
  refine ⟨by simp [Oper.about, ho, resolve, Target.leads, Sem.run_pure], ?_⟩
  rw [Oper.semAt_plain F _ _ (by rw [ho]; intro c hc'; cases hc')]
  simp only [execOp, ho, resolve, invoke, builtin, Sem.run_bind, Sem.run_pure, Result.andThen_ok, List.map_toArray, List.map_cons, List.map_nil, hs, hx, hrun, Oper.uponIn]
  refine h A' c' w' hr' ?_ ?_
  · have g2 := (World.grownBy_alloc W (.cells cs e) V.ownBlock).trans hg
    exact ((Touch.refl V.ownBlock.toList W).grown g2 (fun k hk => .inl (by simp [hk])))
  · rcases hat with h1 | h1
    · exact .inl h1
    · exact .inr ⟨_, h1, by simp⟩
theorem listIn_append_vr {ops : Array Oper} {rest : List Oper} (hgd : o.guard = none) (s x : Operand) (t e : TypeId) (sz bytes : Nat) (z : Value) (hu : Tryz.prog.underlying t = some (.slice e))
    (ho : o.op = .call { callee := .builtin .append, args := #[s, x], argTypes := #[t, t] })
    (hinfo : (Tryz.prog.info? e).map (fun i => (i.zero, i.size, i.bytes)) = some (some z, sz, bytes)) (hzs : z.cells.size = sz) (hsz : 0 < sz) (hby : 1 ≤ bytes)
    (V : Value) (n : Nat) (xs : List Value) (m : Nat) (cs : Array Value) (hs : a.eval s = V) (hr : VRow W e sz V n xs) (hx : a.eval x = .slice (some ⟨W.heap.size, 0, none⟩) m m) (hl : cs.toList.length = m * sz) (h1 : ∀ u ∈ cs.toList, u.oneCell' = true) (hn : (n + m) * bytes ≤ 140737488355328)
    (h : ∀ A' c' w', VRow w' e sz (.slice A' (n + m) c') (n + m) (xs ++ cs.toList) → Touch V.ownBlock.toList W w' → ((Value.slice A' (n + m) c').ownBlock = V.ownBlock ∨ ∃ b, (Value.slice A' (n + m) c').ownBlock = some b ∧ W.heap.size ≤ b) → wpListIn F nF Tryz.prog ops Q rest (a.put o.dst (.slice A' (n + m) c')) w') :
    wpListIn F nF Tryz.prog ops Q (o :: rest) a (W.alloc (.cells cs e)) :=
  wpListIn_plain hgd fun K hK => opIn_append_vr s x t e sz bytes z hu ho hinfo hzs hsz hby V n xs m cs hs hr hx hl h1 hn fun A' c' w' r1 r2 r3 => hK _ _ (h A' c' w' r1 r2 r3)
theorem stepIn_append_vr {ops : Array Oper} {E : Prop} (hgd : o.guard = none) (s x : Operand) (t e : TypeId) (sz bytes : Nat) (z : Value) (hu : Tryz.prog.underlying t = some (.slice e))
    (ho : o.op = .call { callee := .builtin .append, args := #[s, x], argTypes := #[t, t] })
    (hinfo : (Tryz.prog.info? e).map (fun i => (i.zero, i.size, i.bytes)) = some (some z, sz, bytes)) (hzs : z.cells.size = sz) (hsz : 0 < sz) (hby : 1 ≤ bytes)
    (V : Value) (n : Nat) (xs : List Value) (m : Nat) (cs : Array Value) (hs : a.eval s = V) (hr : VRow W e sz V n xs) (hx : a.eval x = .slice (some ⟨W.heap.size, 0, none⟩) m m) (hl : cs.toList.length = m * sz) (h1 : ∀ u ∈ cs.toList, u.oneCell' = true) (hn : (n + m) * bytes ≤ 140737488355328)
    {K : Act → World → Prop}
    (h : ∀ A' c' w', VRow w' e sz (.slice A' (n + m) c') (n + m) (xs ++ cs.toList) → Touch V.ownBlock.toList W w' → ((Value.slice A' (n + m) c').ownBlock = V.ownBlock ∨ ∃ b, (Value.slice A' (n + m) c').ownBlock = some b ∧ W.heap.size ≤ b) → K (a.put o.dst (.slice A' (n + m) c')) w') :
    if Region.wanted o (yielded ops a.tmps) = true then Oper.wpIn F nF Tryz.prog o a (W.alloc (.cells cs e)) K Q else E := by
  have hw : Region.wanted o (yielded ops a.tmps) = true := by simp [Region.wanted, hgd]
  rw [if_pos hw]
  exact opIn_append_vr s x t e sz bytes z hu ho hinfo hzs hsz hby V n xs m cs hs hr hx hl h1 hn h
end
end Go.Proofs.YtnpeafhjcelpfaaGreat.Tri
