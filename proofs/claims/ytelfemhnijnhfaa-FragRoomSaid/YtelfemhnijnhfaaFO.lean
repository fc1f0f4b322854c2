/- Rows of packets; no condition. -/
import Derived.Test.YtelfemhnijnhfaaFN
namespace Go.Proofs.Ytelfemhnijnhfaa.Fr
open Go.RowKit Go.Maps
set_option linter.unusedVariables false
set_option linter.unusedSimpArgs false
set_option maxRecDepth 100000

abbrev PE := Pk × Value × Value
theorem infoK : (Try.prog.info? 30).map (fun i => (i.zero, i.size, i.bytes)) = some (some (.agg #[.int .u8 0, .int .u16 0, .bool false, .bool false, .int .i64 0, .int .u8 0, .int .u8 0, .int .u32 0, .int .u32 0, .slice none 0 0, .slice none 0 0]), 11, 80) := by kernel_rfl
def flatK (l : List PE) : List Value := l.flatMap fun e => (pkC e.1.h e.2.1 e.2.2).toList
theorem flatK_snoc (l : List PE) (e : PE) : flatK (l ++ [e]) = flatK l ++ (pkC e.1.h e.2.1 e.2.2).toList := by simp [flatK]
theorem flatK_length (l : List PE) : (flatK l).length = l.length * 11 := by
  induction l with
  | nil => rfl
  | cons p l ih => simp only [flatK, List.flatMap_cons, List.length_append, List.length_cons] at ih ⊢; simp only [pkC, List.length_cons, List.length_nil]; omega
theorem flatK_get (l : List PE) : ∀ (i : Nat) (e : PE), l[i]? = some e → ∀ (j : Nat) (v : Value), (pkC e.1.h e.2.1 e.2.2).toList[j]? = some v → (flatK l)[i * 11 + j]? = some v := by
  induction l with
  | nil => intro i p h; simp at h
  | cons q l ih =>
    intro i e h j v hv
    have hj : j < 11 := by have := (List.getElem?_eq_some_iff.1 hv).1; simpa [pkC] using this
    have e0 : flatK (q :: l) = (pkC q.1.h q.2.1 q.2.2).toList ++ flatK l := by simp [flatK]
    have hl : (pkC q.1.h q.2.1 q.2.2).toList.length = 11 := rfl
    rw [e0]
    cases i with
    | zero => simp at h; subst h; rw [Nat.zero_mul, Nat.zero_add, List.getElem?_append_left (by omega)]; exact hv
    | succ i =>
      simp at h
      rw [List.getElem?_append_right (by omega), hl, show (i + 1) * 11 + j - 11 = i * 11 + j by omega]
      exact ih i e h j v hv
def kB (e : PE) : List Nat := e.2.1.ownBlock.toList ++ e.2.2.ownBlock.toList
/-- A row of packets with lists of their own. -/
structure PRow (w : World) (V : Value) (l : List PE) : Prop where
  row : VRow w 30 11 V l.length (flatK l)
  el : ∀ e ∈ l, OwB w e.2.1 e.1.opts ∧ OwB w e.2.2 e.1.body
  nd : (l.flatMap kB).Nodup
theorem PRow.nil (w : World) : PRow w (.slice none 0 0) [] := ⟨VRow.nil _ _ _, by simp, by simp⟩
theorem PRow.kept {w w' : World} {V : Value} {l : List PE} (h : PRow w V l) {S : List Nat} (t : Touch S w w') (hV : ∀ k, V.ownBlock = some k → k ∉ S) (hl : ∀ k ∈ l.flatMap kB, k ∉ S) : PRow w' V l := by
  refine ⟨h.row.kept t hV, fun e he => ?_, h.nd⟩
  obtain ⟨h1, h2⟩ := h.el e he
  exact ⟨h1.kept t (fun k hk => hl k (List.mem_flatMap.2 ⟨e, he, by simp [kB, hk]⟩)), h2.kept t (fun k hk => hl k (List.mem_flatMap.2 ⟨e, he, by simp [kB, hk]⟩))⟩
theorem PRow.near {w w' : World} {V : Value} {l : List PE} (h : PRow w V l) (t : Touch [] w w') : PRow w' V l := h.kept t (by simp) (by simp)
theorem PRow.lt {w : World} {V : Value} {l : List PE} (h : PRow w V l) : ∀ k ∈ l.flatMap kB, k < w.heap.size ∧ ∃ c, w.heap[k]? = some (.cells c 5 (0, 0)) := by
  intro k hk
  obtain ⟨e, he, hk⟩ := List.mem_flatMap.1 hk
  obtain ⟨h1, h2⟩ := h.el e he
  simp only [kB, List.mem_append, Option.mem_toList] at hk
  rcases hk with hk | hk
  · exact ⟨h1.row.lt k hk, h1.row.blk k hk⟩
  · exact ⟨h2.row.lt k hk, h2.row.blk k hk⟩
theorem PRow.ne {w : World} {V : Value} {l : List PE} (h : PRow w V l) {k : Nat} (hk : k ∈ l.flatMap kB) : V.ownBlock ≠ some k := by
  intro e
  obtain ⟨c, hc⟩ := (h.lt k hk).2
  obtain ⟨c', hc'⟩ := h.row.blk k e
  rw [hc] at hc'
  cases hc'
theorem run_append_k {w : World} {V : Value} {l : List PE} {e : PE} (ty : TypeId) (hr : PRow w V l) (he : OwB w e.2.1 e.1.opts ∧ OwB w e.2.2 e.1.body) (hnd : (kB e).Nodup) (hne : ∀ k ∈ kB e, k ∉ l.flatMap kB) (hn : l.length < 1000000) :
    ∃ A' c' w', (Builtin.append_ #[34, 34] ty #[V, .slice (some ⟨w.heap.size, 0, none⟩) 1 1]).run Try.prog (w.alloc (.cells (pkC e.1.h e.2.1 e.2.2) 30)) = .ok (.slice A' (l.length + 1) c') w' ∧ PRow w' (.slice A' (l.length + 1) c') (l ++ [e]) ∧ Touch V.ownBlock.toList w w' ∧
      ((Value.slice A' (l.length + 1) c').ownBlock = V.ownBlock ∨ ∃ b, (Value.slice A' (l.length + 1) c').ownBlock = some b ∧ w.heap.size ≤ b) := by
  obtain ⟨i0, hi, hz⟩ := Option.map_eq_some_iff.1 infoK
  simp only [Prod.mk.injEq] at hz
  obtain ⟨hz0, hz1, hz2⟩ := hz
  have hone : ∀ u ∈ (pkC e.1.h e.2.1 e.2.2).toList, u.oneCell' = true := by
    obtain ⟨A1, c1, h1⟩ := he.1.row.form
    obtain ⟨A2, c2, h2⟩ := he.2.row.form
    intro u hu
    simp only [pkC, List.mem_cons, List.not_mem_nil, or_false] at hu
    rcases hu with rfl | rfl | rfl | rfl | rfl | rfl | rfl | rfl | rfl | rfl | rfl
    all_goals first | rfl | (rw [h1]; rfl) | (rw [h2]; rfl)
  obtain ⟨v', w', hrun, h2, h3, _, h5⟩ := run_append_own_at (P := Try.prog) (w.alloc (.cells (pkC e.1.h e.2.1 e.2.2) 30)) 0 34 ty 30 i0 _ 11 80 Try.underlying34 hi hz0 hz1 hz2 rfl (by decide) V l.length (flatK l) (World.ownsRow.alloc hr.row.own _) ⟨w.heap.size, 0, none⟩ 1 1 (pkC e.1.h e.2.1 e.2.2).toList rfl
    (World.news_of_block (cs := pkC e.1.h e.2.1 e.2.2) (t := 30) (fr := (0, 0)) (heap_alloc_new w _)) hone (by unfold maxLen; omega) (by omega) (Nat.zero_le _)
  have hr' : VRow w' 30 11 v' (l.length + 1) (flatK l ++ (pkC e.1.h e.2.1 e.2.2).toList) := ⟨h2⟩
  obtain ⟨A', c', rfl⟩ := hr'.form
  have g2 := (World.grownBy_alloc w (.cells (pkC e.1.h e.2.1 e.2.2) 30) V.ownBlock).trans h3
  have t2 : Touch V.ownBlock.toList w w' := (Touch.refl V.ownBlock.toList w).grown g2 (fun k hk => .inl (by simp [hk]))
  refine ⟨A', c', w', hrun, ⟨by rw [flatK_snoc, List.length_append]; exact hr', fun x hx => ?_, ?_⟩, t2, ?_⟩
  · rcases List.mem_append.1 hx with hx | hx
    · obtain ⟨a1, a2⟩ := hr.el x hx
      exact ⟨a1.kept t2 (fun k hk h => by
        simp at h
        exact hr.ne (List.mem_flatMap.2 ⟨x, hx, by simp [kB, hk]⟩) h), a2.kept t2 (fun k hk h => by
        simp at h
        exact hr.ne (List.mem_flatMap.2 ⟨x, hx, by simp [kB, hk]⟩) h)⟩
    · simp only [List.mem_singleton] at hx
      subst hx
      have nb : ∀ {VX : Value} {m : List Int}, OwB w VX m → ∀ k, VX.ownBlock = some k → k ∉ V.ownBlock.toList := by
        intro VX m ho k hk h
        simp at h
        obtain ⟨c, hc⟩ := ho.row.blk k hk
        obtain ⟨c', hc'⟩ := hr.row.blk k h
        rw [hc] at hc'
        cases hc'
      exact ⟨he.1.kept t2 (nb he.1), he.2.kept t2 (nb he.2)⟩
  · rw [List.flatMap_append, List.nodup_append]
    refine ⟨hr.nd, by simpa using hnd, fun a ha b hb e' => ?_⟩
    subst e'
    exact hne a (by simpa using hb) ha
  · rcases h5 with h | h
    · exact .inl h
    · exact .inr ⟨_, h, by simp⟩
theorem wp_append_k {w : World} {o : Oper} {a : Act} {K : Act → World → Prop} {Q : Exit → Act → World → Prop} (s x : Operand)
    (ho : o.op = .call { callee := .builtin .append, args := #[s, x], argTypes := #[34, 34] })
    (V : Value) (l : List PE) (e : PE) (hs : a.eval s = V) (hr : PRow w V l) (hx : a.eval x = .slice (some ⟨w.heap.size, 0, none⟩) 1 1) (he : OwB w e.2.1 e.1.opts ∧ OwB w e.2.2 e.1.body) (hnd : (kB e).Nodup) (hne : ∀ k ∈ kB e, k ∉ l.flatMap kB) (hn : l.length < 1000000)
    (h : ∀ A' c' w', PRow w' (.slice A' (l.length + 1) c') (l ++ [e]) → Touch V.ownBlock.toList w w' →
      ((Value.slice A' (l.length + 1) c').ownBlock = V.ownBlock ∨ ∃ b, (Value.slice A' (l.length + 1) c').ownBlock = some b ∧ w.heap.size ≤ b) → K (a.put o.dst (.slice A' (l.length + 1) c')) w') : o.wp Try.prog a (w.alloc (.cells (pkC e.1.h e.2.1 e.2.2) 30)) K Q := by
  obtain ⟨A', c', w', hrun, h2, h3, h4⟩ := run_append_k (w := w) o.type hr he hnd hne hn
  unfold Oper.wp execOp
  simp only [ho, resolve, invoke, builtin, Sem.run_bind, Sem.run_pure, Result.andThen_ok, List.map_toArray, List.map_cons, List.map_nil, hs, hx, hrun]
  exact h A' c' w' h2 h3 h4
theorem wpList_append_k {w : World} {ops : Array Oper} {rest : List Oper} {o : Oper} {a : Act} {Q : Exit → Act → World → Prop} (hgd : o.guard = none) (s x : Operand)
    (ho : o.op = .call { callee := .builtin .append, args := #[s, x], argTypes := #[34, 34] })
    (V : Value) (l : List PE) (e : PE) (hs : a.eval s = V) (hr : PRow w V l) (hx : a.eval x = .slice (some ⟨w.heap.size, 0, none⟩) 1 1) (he : OwB w e.2.1 e.1.opts ∧ OwB w e.2.2 e.1.body) (hnd : (kB e).Nodup) (hne : ∀ k ∈ kB e, k ∉ l.flatMap kB) (hn : l.length < 1000000)
    (h : ∀ A' c' w', PRow w' (.slice A' (l.length + 1) c') (l ++ [e]) → Touch V.ownBlock.toList w w' →
      ((Value.slice A' (l.length + 1) c').ownBlock = V.ownBlock ∨ ∃ b, (Value.slice A' (l.length + 1) c').ownBlock = some b ∧ w.heap.size ≤ b) → wpList Try.prog ops Q rest (a.put o.dst (.slice A' (l.length + 1) c')) w') : wpList Try.prog ops Q (o :: rest) a (w.alloc (.cells (pkC e.1.h e.2.1 e.2.2) 30)) :=
  wpList_plain hgd fun _ hK => wp_append_k s x ho V l e hs hr hx he hnd hne hn fun A' c' w' h2 h3 h4 => hK _ _ (h A' c' w' h2 h3 h4)
theorem step_append_k {w : World} {ops : Array Oper} {o : Oper} {a : Act} {K : Act → World → Prop} {Q : Exit → Act → World → Prop} {E : Prop} (hgd : o.guard = none) (s x : Operand)
    (ho : o.op = .call { callee := .builtin .append, args := #[s, x], argTypes := #[34, 34] })
    (V : Value) (l : List PE) (e : PE) (hs : a.eval s = V) (hr : PRow w V l) (hx : a.eval x = .slice (some ⟨w.heap.size, 0, none⟩) 1 1) (he : OwB w e.2.1 e.1.opts ∧ OwB w e.2.2 e.1.body) (hnd : (kB e).Nodup) (hne : ∀ k ∈ kB e, k ∉ l.flatMap kB) (hn : l.length < 1000000)
    (h : ∀ A' c' w', PRow w' (.slice A' (l.length + 1) c') (l ++ [e]) → Touch V.ownBlock.toList w w' →
      ((Value.slice A' (l.length + 1) c').ownBlock = V.ownBlock ∨ ∃ b, (Value.slice A' (l.length + 1) c').ownBlock = some b ∧ w.heap.size ≤ b) → K (a.put o.dst (.slice A' (l.length + 1) c')) w') :
    if Region.wanted o (yielded ops a.tmps) = true then Oper.wp Try.prog o a (w.alloc (.cells (pkC e.1.h e.2.1 e.2.2) 30)) K Q else E := by
  have hw : Region.wanted o (yielded ops a.tmps) = true := by simp [Region.wanted, hgd]
  rw [if_pos hw]
  exact wp_append_k s x ho V l e hs hr hx he hnd hne hn h
/-- What Split answers. -/
def splitL (p : Pk) (later : List Int) (mtu : Int) : Nat → Nat → List Int → List Pk
  | 0, _, _ => []
  | k + 1, pos, opts =>
    if (p.body.length : Int) - pos ≤ mtu - 20 - opts.length then [⟨{ p.h with off := p.h.off + pos }, opts, p.body.drop pos⟩]
    else ⟨{ p.h with off := p.h.off + pos, mf := true }, opts, (p.body.drop pos).take ((mtu - 20 - opts.length) / 8 * 8).toNat⟩ :: splitL p later mtu k (pos + ((mtu - 20 - opts.length) / 8 * 8).toNat) later
def splitE (p : Pk) (mtu : Int) : Int := if mtu < 68 then 50 else if bErr p ≠ 0 then bErr p else if (20 + p.opts.length + p.body.length : Int) ≤ mtu then 0 else if p.h.df then 51 else 0
def splitP (p : Pk) (mtu : Int) : List Pk := if splitE p mtu ≠ 0 then [] else splitL p (copiedO p.opts) mtu (p.body.length + 1) 0 p.opts
theorem splitL_last {p : Pk} {later opts : List Int} {mtu : Int} {k pos : Nat} (h : (p.body.length : Int) - pos ≤ mtu - 20 - opts.length) : splitL p later mtu (k + 1) pos opts = [⟨{ p.h with off := p.h.off + pos }, opts, p.body.drop pos⟩] := by
  rw [splitL, if_pos h]
theorem splitL_more {p : Pk} {later opts : List Int} {mtu : Int} {k pos n : Nat} (h : ¬ (p.body.length : Int) - pos ≤ mtu - 20 - opts.length) (hn : (n : Int) = (mtu - 20 - opts.length) / 8 * 8) : splitL p later mtu (k + 1) pos opts = ⟨{ p.h with off := p.h.off + pos, mf := true }, opts, (p.body.drop pos).take n⟩ :: splitL p later mtu k (pos + n) later := by
  rw [splitL, if_neg h, ← hn]
  rfl
def SplitPost (w : World) (p : Pk) (mtu : Int) (e : Ending) (w' : World) : Prop :=
  Touch [] w w' ∧ ∃ (V : Value) (l : List PE), e = .returned (.tuple #[V, .int .i64 (splitE p mtu)]) ∧ PRow w' V l ∧ l.map (·.1) = splitP p mtu ∧ Fresh w.heap.size V ∧ ∀ k ∈ l.flatMap kB, w.heap.size ≤ k
end Go.Proofs.Ytelfemhnijnhfaa.Fr
