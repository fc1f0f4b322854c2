/- Views of ints, and rows that grow beneath them; rows of slices; no condition. -/
import Derived.Test.YtjnhldcgemcjbaaTwo
namespace Go.Proofs.Ytjnhldcgemcjbaa.Tm
open Go.RowKit Go.Maps
set_option linter.unusedVariables false

/-- V reads as the ints l. -/
def Vw (w : World) (V : Value) (l : List Int) : Prop := ∃ A c, V = .slice A l.length c ∧ (0 < l.length → ∃ g cur, A = some ⟨g, 0, none⟩ ∧ w.heap[g]? = some (.cells cur 3 (0, 0)) ∧ cur.toList.take l.length = ints l)
theorem ints_length (l : List Int) : (ints l).length = l.length := by simp [ints]
theorem IRow.vw {w : World} {base : Nat} {V : Value} {l : List Int} (h : IRow w base V l) : Vw w V l := by
  rcases h.2 with ⟨rfl, hn⟩ | ⟨g, cap, cur, rfl, hb, hg, h1, h2, h3, h4⟩
  · exact ⟨none, 0, by rw [hn], fun h0 => by omega⟩
  · exact ⟨_, cap, rfl, fun h0 => ⟨g, cur, rfl, hg, by simpa using h4⟩⟩
theorem Vw.form {w : World} {V : Value} {l : List Int} (h : Vw w V l) : ∃ A c, V = .slice A l.length c := by
  obtain ⟨A, c, h, _⟩ := h; exact ⟨A, c, h⟩
theorem Vw.kept {w w' : World} {V : Value} {l : List Int} (h : Vw w V l) {S : List Nat} (t : Touch S w w') (hn : 0 < l.length → ∀ k, V.ownBlock = some k → k ∉ S) : Vw w' V l := by
  obtain ⟨A, c, rfl, h1⟩ := h
  refine ⟨A, c, rfl, fun h0 => ?_⟩
  obtain ⟨g, cur, rfl, hg, ht⟩ := h1 h0
  exact ⟨g, cur, rfl, (t.block g (Array.getElem?_eq_some_iff.1 hg).1 (hn h0 g rfl)).trans hg, ht⟩
theorem Vw.lt {w : World} {V : Value} {l : List Int} (h : Vw w V l) (h0 : 0 < l.length) : ∀ k, V.ownBlock = some k → k < w.heap.size := by
  obtain ⟨A, c, rfl, h1⟩ := h
  obtain ⟨g, cur, rfl, hg, _⟩ := h1 h0
  intro k hk
  simp [Value.ownBlock] at hk; subst hk
  exact (Array.getElem?_eq_some_iff.1 hg).1
theorem Vw.at_ {w : World} {V : Value} {l : List Int} (h : Vw w V l) (h0 : 0 < l.length) : ∃ g c, V = .slice (some ⟨g, 0, none⟩) l.length c ∧ (∃ cur, w.heap[g]? = some (.cells cur 3 (0, 0))) ∧ ∀ (i : Nat) (x : Int), l[i]? = some x → w.cell? ⟨g, i, none⟩ = some (.int .i64 x) ∧ w.frozen? ⟨g, i, none⟩ = false := by
  obtain ⟨A, c, rfl, h1⟩ := h
  obtain ⟨g, cur, rfl, hg, ht⟩ := h1 h0
  refine ⟨g, c, rfl, ⟨cur, hg⟩, fun i x hx => ⟨?_, by simp [World.frozen?, hg]⟩⟩
  have hi : i < l.length := (List.getElem?_eq_some_iff.1 hx).1
  have : (cur.toList.take l.length)[i]? = some (.int .i64 x) := by rw [ht]; simp [ints, hx]
  rw [List.getElem?_take, if_pos hi] at this
  simp [World.cell?, hg]
  simpa using this

/-- w' is w, but that the row V may have grown behind its n cells. -/
def Kept (V : Value) (n : Nat) (w w' : World) : Prop := Touch V.ownBlock.toList w w' ∧ ∀ b cur, V.ownBlock = some b → w.heap[b]? = some (.cells cur 3 (0, 0)) → ∃ cur', w'.heap[b]? = some (.cells cur' 3 (0, 0)) ∧ cur'.toList.take n = cur.toList.take n ∧ cur'.size = cur.size
theorem Vw.grown {w w' : World} {V V0 : Value} {n : Nat} {l : List Int} (h : Vw w V0 l) (k : Kept V n w w') (hn : V0.ownBlock = V.ownBlock → l.length ≤ n) : Vw w' V0 l := by
  obtain ⟨A, c, rfl, h1⟩ := h
  refine ⟨A, c, rfl, fun h0 => ?_⟩
  obtain ⟨g, cur, rfl, hg, ht⟩ := h1 h0
  by_cases e : V.ownBlock = some g
  · obtain ⟨cur', h2, h3, _⟩ := k.2 g cur e hg
    refine ⟨g, cur', rfl, h2, ?_⟩
    have hle := hn (by rw [e]; rfl)
    have := congrArg (List.take l.length) h3
    rw [List.take_take, List.take_take, Nat.min_eq_left hle] at this
    rw [this]; exact ht
  · exact ⟨g, cur, rfl, (k.1.block g (Array.getElem?_eq_some_iff.1 hg).1 (fun hx => e (by simpa using hx))).trans hg, ht⟩

theorem IRow.grown {w w' : World} {V V0 : Value} {n base : Nat} {l : List Int} (h : IRow w base V0 l) (k : Kept V n w w') (hn : V0.ownBlock = V.ownBlock → l.length ≤ n) : IRow w' base V0 l := by
  refine ⟨h.1, ?_⟩
  rcases h.2 with h2 | ⟨g, cap, cur, hv, hb, hg, h1, h2, h3, h4⟩
  · exact .inl h2
  · by_cases e : V.ownBlock = some g
    · obtain ⟨cur', h5, h6, h7⟩ := k.2 g cur e hg
      have hle := hn (by rw [e, hv]; rfl)
      refine .inr ⟨g, cap, cur', hv, hb, h5, h1, h2, by rw [h7]; exact h3, ?_⟩
      have := congrArg (List.take (l.length * 1)) h6
      rw [List.take_take, List.take_take, Nat.min_eq_left (by omega)] at this
      rw [this]; exact h4
    · exact .inr ⟨g, cap, cur, hv, hb, (k.1.block g (Array.getElem?_eq_some_iff.1 hg).1 (fun hx => e (by simpa using hx))).trans hg, h1, h2, h3, h4⟩
theorem IRow.zero {w : World} {base : Nat} {V : Value} {l : List Int} (h : IRow w base V l) : IRow w 0 V l := by
  refine ⟨h.1, ?_⟩
  rcases h.2 with h2 | ⟨g, cap, cur, hv, hb, r⟩
  · exact .inl h2
  · exact .inr ⟨g, cap, cur, hv, Nat.zero_le _, r⟩
theorem IRow.lt {w : World} {base : Nat} {V : Value} {l : List Int} (h : IRow w base V l) : ∀ k, V.ownBlock = some k → k < w.heap.size := fun k hk => (h.block k hk).2
/-- A block of another type is no row of ints. -/
theorem IRow.not {w : World} {base : Nat} {V : Value} {l : List Int} (h : IRow w base V l) {k : Nat} {c : Array Value} {e : TypeId} {f : Nat × Nat} (hk : w.heap[k]? = some (.cells c e f)) (he : e ≠ 3) : V.ownBlock ≠ some k := by
  intro hv
  rcases h.2 with ⟨rfl, _⟩ | ⟨g, cap, cur, rfl, hb, hg, _⟩
  · cases hv
  · simp [Value.ownBlock] at hv; subst hv
    rw [hg] at hk
    simp only [Option.some.injEq, Obj.cells.injEq] at hk
    exact he hk.2.1.symm
theorem IRow.no_map {w : World} {base : Nat} {V : Value} {l : List Int} (h : IRow w base V l) {k : Nat} (hk : ∃ es clock, w.heap[k]? = some (.map es clock)) : V.ownBlock ≠ some k := by
  intro hv
  obtain ⟨es, clock, hk⟩ := hk
  rcases h.2 with ⟨rfl, _⟩ | ⟨g, cap, cur, rfl, hb, hg, _⟩
  · cases hv
  · simp [Value.ownBlock] at hv; subst hv
    rw [hg] at hk
    cases hk
theorem IRow.no_tim {w : World} {base : Nat} {V : Value} {l : List Int} (h : IRow w base V l) {tb : Nat} {S : List Nat} {lim : Int} {s : St} (hT : Tim w tb S lim s) : ∀ k, V.ownBlock = some k → k ∉ S := by
  intro k hk hS
  obtain ⟨⟨V1, mb, h1, rfl⟩, _⟩ := hT
  simp [foot] at hS
  rcases hS with rfl | rfl | hS
  · exact h.not h1.blk (by decide) hk
  · exact h.no_map h1.map.isMap hk
  · exact h.apart h1.row (by decide) k hk hS

/-! ### rows of other things -/
structure VRow (w : World) (e : TypeId) (sz : Nat) (V : Value) (n : Nat) (xs : List Value) : Prop where
  own : w.ownsRow 0 e sz V n xs
theorem VRow.nil (w : World) (e : TypeId) (sz : Nat) : VRow w e sz (.slice none 0 0) 0 [] := ⟨World.ownsRow_nil w 0 e sz⟩
theorem VRow.form {w : World} {e : TypeId} {sz : Nat} {V : Value} {n : Nat} {xs : List Value} (h : VRow w e sz V n xs) : ∃ A cap, V = .slice A n cap := by
  rcases h.own.2 with ⟨rfl, hn⟩ | ⟨g, cap, cur, rfl, _⟩
  · exact ⟨none, 0, by rw [hn]⟩
  · exact ⟨_, cap, rfl⟩
theorem VRow.kept {w w' : World} {e : TypeId} {sz : Nat} {V : Value} {n : Nat} {xs : List Value} (h : VRow w e sz V n xs) {S : List Nat} (t : Touch S w w') (hn : ∀ k, V.ownBlock = some k → k ∉ S) : VRow w' e sz V n xs := by
  refine ⟨h.own.1, ?_⟩
  rcases h.own.2 with h2 | ⟨g, cap, cur, hv, hg, hh, r⟩
  · exact .inl h2
  · refine .inr ⟨g, cap, cur, hv, hg, ?_, r⟩
    rw [t.block g (Array.getElem?_eq_some_iff.1 hh).1 (hn g (by subst hv; rfl))]
    exact hh
theorem VRow.lt {w : World} {e : TypeId} {sz : Nat} {V : Value} {n : Nat} {xs : List Value} (h : VRow w e sz V n xs) : ∀ k, V.ownBlock = some k → k < w.heap.size := fun k hk => (World.ownsRow.lt h.own k hk).2
theorem VRow.blk {w : World} {e : TypeId} {sz : Nat} {V : Value} {n : Nat} {xs : List Value} (h : VRow w e sz V n xs) : ∀ k, V.ownBlock = some k → ∃ c, w.heap[k]? = some (.cells c e (0, 0)) := by
  intro k hk
  rcases h.own.2 with ⟨rfl, _⟩ | ⟨g, cap, cur, rfl, _, hg, _⟩
  · cases hk
  · simp [Value.ownBlock] at hk; subst hk; exact ⟨cur, hg⟩
theorem VRow.at_ {w : World} {e : TypeId} {sz : Nat} {V : Value} {n : Nat} {xs : List Value} (h : VRow w e sz V n xs) (h0 : 0 < n) : ∃ g c, V = .slice (some ⟨g, 0, none⟩) n c ∧ g < w.heap.size ∧ ∀ (i : Nat) (x : Value), xs[i]? = some x → w.cell? ⟨g, i, none⟩ = some x := by
  rcases h.own.2 with ⟨rfl, hn⟩ | ⟨g, cap, cur, rfl, _, hg, _⟩
  · omega
  · refine ⟨g, cap, rfl, (Array.getElem?_eq_some_iff.1 hg).1, fun i x hx => ?_⟩
    have hi : i < xs.length := (List.getElem?_eq_some_iff.1 hx).1
    exact (World.ownsRow.cellAt h.own i (by rw [h.own.1] at hi; exact hi)).trans hx
theorem wpList_append_vr {W : World} {ops : Array Oper} {rest : List Oper} {o : Oper} {a : Act} {Q : Exit → Act → World → Prop} (hgd : o.guard = none) (s x : Operand) (t e : TypeId) (sz bytes : Nat) (z : Value) (hu : Try.prog.underlying t = some (.slice e))
    (ho : o.op = .call { callee := .builtin .append, args := #[s, x], argTypes := #[t, t] })
    (hinfo : (Try.prog.info? e).map (fun i => (i.zero, i.size, i.bytes)) = some (some z, sz, bytes)) (hzs : z.cells.size = sz) (hsz : 0 < sz) (hby : bytes ≤ 48)
    (V : Value) (n : Nat) (xs : List Value) (m : Nat) (cs : Array Value) (hs : a.eval s = V) (hr : VRow W e sz V n xs) (hx : a.eval x = .slice (some ⟨W.heap.size, 0, none⟩) m m) (hl : cs.toList.length = m * sz) (h1 : ∀ u ∈ cs.toList, u.oneCell' = true) (hn : n + m < 1099511627776)
    (h : ∀ A' c' w', VRow w' e sz (.slice A' (n + m) c') (n + m) (xs ++ cs.toList) → Touch V.ownBlock.toList W w' → ((Value.slice A' (n + m) c').ownBlock = V.ownBlock ∨ ∃ b, (Value.slice A' (n + m) c').ownBlock = some b ∧ W.heap.size ≤ b) → wpList Try.prog ops Q rest (a.put o.dst (.slice A' (n + m) c')) w') :
    wpList Try.prog ops Q (o :: rest) a (W.alloc (.cells cs e)) := by
  obtain ⟨i0, hi, hz⟩ := Option.map_eq_some_iff.1 hinfo
  simp only [Prod.mk.injEq] at hz
  obtain ⟨hz0, hz1, hz2⟩ := hz
  have hb : (n + m) * bytes ≤ 140737488355328 := by
    have : (n + m) * bytes ≤ 1099511627776 * 48 := Nat.mul_le_mul (by omega) hby
    omega
  refine wpList_append_own_at (P := Try.prog) _ hgd s x t ho 0 e i0 _ sz bytes hu hi hz0 hz1 hz2 hzs hsz V n xs hs (World.ownsRow.alloc hr.own _) ⟨W.heap.size, 0, none⟩ m m cs.toList hx hl
    (World.news_of_block (cs := cs) (t := e) (fr := (0, 0)) (heap_alloc_new W _)) h1 (by unfold maxLen; omega) hb (Nat.zero_le _) ?_
  intro V' w' hown hg _ hat
  have hr' : VRow w' e sz V' (n + m) (xs ++ cs.toList) := ⟨hown⟩
  obtain ⟨A', c', hV⟩ := hr'.form
  subst hV
  refine h A' c' w' hr' ?_ ?_
  · have g2 := (World.grownBy_alloc W (.cells cs e) V.ownBlock).trans hg
    exact ((Touch.refl V.ownBlock.toList W).grown g2 (fun k hk => .inl (by simp [hk])))
  · rcases hat with h1 | h1
    · exact .inl h1
    · exact .inr ⟨_, h1, by simp⟩
theorem info37 : (Try.prog.info? 37).map (fun i => (i.zero, i.size, i.bytes)) = some (some (.slice none 0 0), 1, 24) := by kernel_rfl
theorem info42 : (Try.prog.info? 42).map (fun i => (i.zero, i.size, i.bytes)) = some (some (.agg #[.slice none 0 0, .slice none 0 0]), 2, 48) := by kernel_rfl
/-- A row of ints and a row of other things. -/
theorem IRow.off {w : World} {base : Nat} {V : Value} {l : List Int} (h : IRow w base V l) {e : TypeId} {sz n : Nat} {U : Value} {xs : List Value} (hr : VRow w e sz U n xs) (he : e ≠ 3) : ∀ k, V.ownBlock = some k → k ∉ U.ownBlock.toList := by
  intro k hk hu
  simp at hu
  obtain ⟨c, hc⟩ := hr.blk k hu
  exact h.not hc he hk
/-- A list of int64 that came in. -/
structure RdI (w : World) (A : Option Addr) (n : Nat) (l : List Int) : Prop where
  len : l.length = n
  wf : ∀ x ∈ l, wfi x
  at_ : 0 < n → ∃ b off, A = some ⟨b, off, none⟩ ∧ b < w.heap.size ∧ ∀ i x, l[i]? = some x → w.cell? ⟨b, off + i, none⟩ = some (.int .i64 x)
theorem RdI.kept {w w' : World} {A : Option Addr} {n : Nat} {l : List Int} (h : RdI w A n l) (t : Touch [] w w') : RdI w' A n l := by
  refine ⟨h.len, h.wf, fun h0 => ?_⟩
  obtain ⟨b, off, hA, hb, hc⟩ := h.at_ h0
  exact ⟨b, off, hA, Nat.lt_of_lt_of_le hb t.size, fun i p hp => cell_touch t (hc i p hp) (by simp)⟩

theorem run_append_kept (w : World) (base : Nat) (ty : TypeId) (V : Value) (l : List Int) (hown : IRow w base V l)
    (a : Addr) (m c : Nat) (news : List Int) (hl : news.length = m) (hnews : ∀ j u, (ints news)[j]? = some u → w.cell? (a.add j) = some u)
    (h63 : l.length + m < 8796093022208) (hbase : base ≤ w.heap.size) :
    ∃ V' w', (Builtin.append_ #[37, 37] ty #[V, .slice (some a) m c]).run Try.prog w = .ok V' w' ∧ IRow w' base V' (l ++ news) ∧ Kept V l.length w w' ∧ (V'.ownBlock = V.ownBlock ∨ V'.ownBlock = some w.heap.size) ∧ (V' = .slice none 0 0 ↔ V = .slice none 0 0 ∧ m = 0) := by
  obtain ⟨i0, hi, hz⟩ := Option.map_eq_some_iff.1 info3
  simp only [Prod.mk.injEq] at hz
  obtain ⟨hz0, hz1, hz2⟩ := hz
  have h1 : ∀ u ∈ ints news, u.oneCell' = true := by
    intro u hu; simp [ints] at hu; obtain ⟨x, _, rfl⟩ := hu; rfl
  have hln : (ints news).length = m * i0.size := by rw [ints_length, hl, hz1]; omega
  obtain ⟨V', w', hr, h2, h3, h4, h5⟩ := run_append_own_at (P := Try.prog) w base 37 ty 3 i0 _ 1 8 Try.underlying37 hi hz0 hz1 hz2 rfl (by omega) V l.length (ints l) hown a m c (ints news) (by rw [hln, hz1]) hnews h1 (by unfold maxLen; omega) (by omega) hbase
  have ht : Touch V.ownBlock.toList w w' := (Touch.refl V.ownBlock.toList w).grown h3 (fun k hk => .inl (by simp [hk]))
  refine ⟨V', w', hr, ?_, ⟨ht, ?_⟩, h5, h4⟩
  · unfold IRow
    rw [List.length_append, hl]
    simpa [ints] using h2
  · intro b cur hb hcur
    rcases hown.2 with ⟨rfl, hn⟩ | ⟨g, cap, cur0, rfl, hbg, hg, hnc, hcm, hcs, htake⟩
    · simp [Value.ownBlock] at hb
    · simp [Value.ownBlock] at hb
      subst hb
      rw [hg] at hcur
      simp only [Option.some.injEq, Obj.cells.injEq, and_true] at hcur
      subst hcur
      by_cases hroom : l.length + m ≤ cap
      · have hr2 := run_append_room (P := Try.prog) w 37 ty 3 i0 Try.underlying37 hi g l.length cap cur0 hg a m c (ints news) hln hnews h1 hroom (by rw [hln, hz1, hcs]; omega)
        rw [hr] at hr2
        injection hr2 with _ hw
        subst hw
        refine ⟨_, setRow_heap w g cur0 _ 3 _ hg, ?_, by simp [ints_length, hl, hz1, hcs]; omega⟩
        have e1 : l.length * i0.size = l.length := by rw [hz1]; omega
        rw [e1]
        have e2 : (cur0.toList.take l.length).length = l.length := by simp [hcs]; omega
        simp only [List.append_assoc]
        rw [List.take_append_of_le_length (by rw [e2]; omega), List.take_take, Nat.min_self]
      · have holds : ∀ j u, (ints l)[j]? = some u → w.cell? ((⟨g, 0, none⟩ : Addr).add j) = some u := hown.cells (g := g) rfl
        have hr2 := run_append_grow (P := Try.prog) w 37 ty 3 i0 _ Try.underlying37 hi hz0 ⟨g, 0, none⟩ l.length cap (ints l) (by rw [ints_length, hz1]; omega) holds a m c (ints news) hln hnews (by omega) (by omega) (by rw [hz2]; exact growslice_fits (by omega) (by omega))
        rw [hr] at hr2
        injection hr2 with _ hw
        subst hw
        exact ⟨cur0, (Below.heap_alloc w.drew _ g (Array.getElem?_eq_some_iff.1 hg).1).trans hg, rfl, rfl⟩

/-- append(row, ps..), ps in a new block: for the walk. -/
theorem wpList_append_vs {W : World} {ops : Array Oper} {rest : List Oper} {o : Oper} {a : Act} {Q : Exit → Act → World → Prop} (hgd : o.guard = none) (s x : Operand)
    (ho : o.op = .call { callee := .builtin .append, args := #[s, x], argTypes := #[37, 37] })
    (base : Nat) (V : Value) (l : List Int) (ps : List Int) (hs : a.eval s = V) (hr : IRow W base V l) (hbase : base ≤ W.heap.size) (hx : a.eval x = .slice (some ⟨W.heap.size, 0, none⟩) ps.length ps.length) (hl : l.length + ps.length < 8796093022208)
    (h : ∀ A' c' w', IRow w' base (.slice A' (l.length + ps.length) c') (l ++ ps) → Kept V l.length W w' → ((Value.slice A' (l.length + ps.length) c').ownBlock = V.ownBlock ∨ ∃ b, (Value.slice A' (l.length + ps.length) c').ownBlock = some b ∧ W.heap.size ≤ b) → wpList Try.prog ops Q rest (a.put o.dst (.slice A' (l.length + ps.length) c')) w') :
    wpList Try.prog ops Q (o :: rest) a (W.alloc (.cells (ints ps).toArray 3)) := by
  refine wpList_plain hgd fun K hK => ?_
  have hr0 : IRow (W.alloc (.cells (ints ps).toArray 3)) base V l := hr.kept ((Touch.refl [] W).alloc _) (by simp)
  obtain ⟨V', w', hrun, h2, h3, h4, _⟩ := run_append_kept (W.alloc (.cells (ints ps).toArray 3)) base o.type V l hr0 ⟨W.heap.size, 0, none⟩ ps.length ps.length ps rfl
    (World.news_of_block (cs := (ints ps).toArray) (t := 3) (fr := (0, 0)) (heap_alloc_new W _)) hl (by simp; omega)
  unfold Oper.wp execOp
  simp only [ho, resolve, invoke, builtin, Sem.run_bind, Sem.run_pure, Result.andThen_ok, List.map_toArray, List.map_cons, List.map_nil, hs, hx, hrun]
  refine hK _ _ ?_
  obtain ⟨A', c', hV⟩ := h2.form
  rw [List.length_append] at hV
  subst hV
  refine h A' c' w' h2 ⟨((Touch.refl V.ownBlock.toList W).alloc _).trans h3.1 (fun x hx => .inl hx), fun b cur hb hg => h3.2 b cur hb ?_⟩ ?_
  · rw [← hg]; exact Below.heap_alloc W _ b (Array.getElem?_eq_some_iff.1 hg).1
  · rcases h4 with h5 | h5
    · exact .inl h5
    · exact .inr ⟨_, h5, by simp⟩

/-- append([]int(nil), row...): a copy. -/
theorem wpList_append_copy {W : World} {ops : Array Oper} {rest : List Oper} {o : Oper} {a : Act} {Q : Exit → Act → World → Prop} (hgd : o.guard = none) (s x : Operand)
    (ho : o.op = .call { callee := .builtin .append, args := #[s, x], argTypes := #[37, 37] })
    (V : Value) (l : List Int) (hs : a.eval s = .slice none 0 0) (hv : Vw W V l) (hx : a.eval x = V) (hl : l.length < 8796093022208)
    (h : ∀ A' c' w', IRow w' W.heap.size (.slice A' l.length c') l → Touch [] W w' → wpList Try.prog ops Q rest (a.put o.dst (.slice A' l.length c')) w') :
    wpList Try.prog ops Q (o :: rest) a W := by
  refine wpList_plain hgd fun K hK => ?_
  obtain ⟨A, c, rfl, h1⟩ := hv
  have hrun : ∃ V' w', (Builtin.append_ #[37, 37] o.type #[.slice none 0 0, .slice A l.length c]).run Try.prog W = .ok V' w' ∧ IRow w' W.heap.size V' l ∧ Touch [] W w' := by
    cases A with
    | none =>
      have h0 : l.length = 0 := by
        rcases Nat.eq_zero_or_pos l.length with h0 | h0
        · exact h0
        · obtain ⟨g, cur, hA, _⟩ := h1 h0; cases hA
      obtain rfl : l = [] := List.eq_nil_of_length_eq_zero h0
      obtain ⟨i0, hi, hz⟩ := Option.map_eq_some_iff.1 info3
      refine ⟨.slice none 0 0, W, ?_, IRow.nil W W.heap.size, Touch.refl _ _⟩
      simp [Builtin.append_, run_underlying Try.underlying37, sizeOf, typeInfo, hi, Builtin.lenOf, Builtin.firstCells]
    | some ad =>
      have hn : ∀ j u, (ints l)[j]? = some u → W.cell? (ad.add j) = some u := by
        intro j u hj
        have hjl : j < l.length := by have := (List.getElem?_eq_some_iff.1 hj).1; rw [ints_length] at this; exact this
        obtain ⟨g, cur, hA, hg, ht⟩ := h1 (by omega)
        cases hA
        rw [← ht, List.getElem?_take, if_pos hjl] at hj
        have e : (⟨g, 0, none⟩ : Addr).add j = ⟨g, j, none⟩ := by unfold Addr.add; by_cases hj0 : j = 0 <;> simp [hj0]
        rw [e]
        simp [World.cell?, hg]
        simpa using hj
      obtain ⟨V', w', hr, h2, h3, _⟩ := run_append_kept W W.heap.size o.type (.slice none 0 0) [] (IRow.nil W _) ad l.length c l rfl hn (by simp; omega) (Nat.le_refl _)
      exact ⟨V', w', hr, by simpa using h2, h3.1⟩
  obtain ⟨V', w', hr, h2, h3⟩ := hrun
  unfold Oper.wp execOp
  simp only [ho, resolve, invoke, builtin, Sem.run_bind, Sem.run_pure, Result.andThen_ok, List.map_toArray, List.map_cons, List.map_nil, hs, hx, hr]
  refine hK _ _ ?_
  obtain ⟨A', c', hV⟩ := h2.form
  subst hV
  exact h A' c' w' h2 h3
end Go.Proofs.Ytjnhldcgemcjbaa.Tm
