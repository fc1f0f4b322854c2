/- Rows of ints of the call's own; Due of Timers; no condition. -/
import Derived.Test.YtelfemhnijnhfaaTmI
namespace Go.Proofs.Ytelfemhnijnhfaa.Fr.Tm
open Go.RowKit Go.Maps
set_option linter.unusedVariables false
set_option maxRecDepth 100000

theorem infoInt : (Try.prog.info? 3).map (fun i => (i.zero, i.size, i.bytes)) = some (some (.int .i64 0), 1, 8) := by kernel_rfl
def ints (l : List Int) : List Value := l.map fun x => .int .i64 x
/-- A row of ints that lies in a block from base on. -/
def IRow (w : World) (base : Nat) (V : Value) (l : List Int) : Prop := w.ownsRow base 3 1 V l.length (ints l)
theorem IRow.nil (w : World) (base : Nat) : IRow w base (.slice none 0 0) [] := World.ownsRow_nil w base 3 1
theorem IRow.form {w : World} {base : Nat} {V : Value} {l : List Int} (h : IRow w base V l) : ∃ A cap, V = .slice A l.length cap := by
  rcases h.2 with ⟨rfl, hn⟩ | ⟨g, cap, cur, rfl, _⟩
  · exact ⟨none, 0, by rw [hn]⟩
  · exact ⟨_, cap, rfl⟩
theorem IRow.block {w : World} {base : Nat} {V : Value} {l : List Int} (h : IRow w base V l) : ∀ k, V.ownBlock = some k → base ≤ k ∧ k < w.heap.size := World.ownsRow.lt h
theorem IRow.kept {w w' : World} {base : Nat} {V : Value} {l : List Int} (h : IRow w base V l) {S : List Nat} (t : Touch S w w') (hn : ∀ k, V.ownBlock = some k → k ∉ S) : IRow w' base V l := by
  refine ⟨h.1, ?_⟩
  rcases h.2 with h2 | ⟨g, cap, cur, hv, hg, hh, r⟩
  · exact .inl h2
  · refine .inr ⟨g, cap, cur, hv, hg, ?_, r⟩
    rw [t.block g (Array.getElem?_eq_some_iff.1 hh).1 (hn g (by subst hv; rfl))]
    exact hh
theorem IRow.len_le {w : World} {base : Nat} {V : Value} {l : List Int} (h : IRow w base V l) : l.length ≤ 9223372036854775807 := by
  rcases h.2 with ⟨_, hn⟩ | ⟨g, cap, cur, _, _, _, h1, h2, _⟩
  · omega
  · simp only [maxLen] at h2; omega
theorem IRow.cell {w : World} {base g n cap : Nat} {l : List Int} (h : IRow w base (.slice (some ⟨g, 0, none⟩) n cap) l) (i : Nat) (x : Int) (hx : l[i]? = some x) :
    w.cell? ⟨g, i, none⟩ = some (.int .i64 x) ∧ w.frozen? ⟨g, i, none⟩ = false := by
  have hn : n = l.length := by
    rcases h.2 with ⟨h1, _⟩ | ⟨g', cap', cur, h1, _⟩
    · simp at h1
    · simp at h1; omega
  subst hn
  have hi : i < l.length := (List.getElem?_eq_some_iff.1 hx).1
  exact ⟨(h.cellAt i (by omega)).trans (by simp [ints, hx]), h.frozenAt _⟩

/-- append(row, x), x in a new block. -/
theorem wpList_append_i {W : World} {ops : Array Oper} {rest : List Oper} {o : Oper} {a : Act} {Q : Exit → Act → World → Prop} (hgd : o.guard = none) (s x : Operand)
    (ho : o.op = .call { callee := .builtin .append, args := #[s, x], argTypes := #[132, 132] })
    (base : Nat) (V : Value) (l : List Int) (p : Int) (hs : a.eval s = V) (hr : IRow W base V l) (hbase : base ≤ W.heap.size) (hx : a.eval x = .slice (some ⟨W.heap.size, 0, none⟩) 1 1) (hl : l.length < 8796093022208)
    (h : ∀ A' c' w', IRow w' base (.slice A' (l.length + 1) c') (l ++ [p]) → Touch V.ownBlock.toList W w' → ((Value.slice A' (l.length + 1) c').ownBlock = V.ownBlock ∨ ∃ b, (Value.slice A' (l.length + 1) c').ownBlock = some b ∧ W.heap.size ≤ b) → wpList Try.prog ops Q rest (a.put o.dst (.slice A' (l.length + 1) c')) w') :
    wpList Try.prog ops Q (o :: rest) a (W.alloc (.cells #[.int .i64 p] 3)) := by
  obtain ⟨i0, hi, hz⟩ := Option.map_eq_some_iff.1 infoInt
  simp only [Prod.mk.injEq] at hz
  obtain ⟨hz0, hz1, hz2⟩ := hz
  refine wpList_append_own_at (P := Try.prog) _ hgd s x 132 ho base 3 i0 _ 1 8 Try.underlying132 hi hz0 hz1 hz2 rfl (by omega) V l.length (ints l) hs (World.ownsRow.alloc hr _) ⟨W.heap.size, 0, none⟩ 1 1 [.int .i64 p] hx rfl
    (World.news_of_block (cs := #[.int .i64 p]) (t := 3) (fr := (0, 0)) (heap_alloc_new W _)) (by intro u hu; simp at hu; rw [hu]; rfl) (by unfold maxLen; omega) (by omega) (by simp; omega) ?_
  intro V' w' hown hg _ hat
  have hr' : IRow w' base V' (l ++ [p]) := by
    unfold IRow
    simpa [ints] using hown
  obtain ⟨A', c', hV⟩ := hr'.form
  rw [List.length_append, List.length_singleton] at hV
  subst hV
  refine h A' c' w' hr' ?_ ?_
  · have g2 := (World.grownBy_alloc W (.cells #[.int .i64 p] 3) V.ownBlock).trans hg
    exact ((Touch.refl V.ownBlock.toList W).grown g2 (fun k hk => .inl (by simp [hk])))
  · rcases hat with h1 | h1
    · exact .inl h1
    · exact .inr ⟨_, h1, by simp⟩

/-! ### Due -/
/-- lp is what is taken out at now of s, s' what is left. -/
structure Dued (s : St) (now : Int) (lp : List Pr) (s' : St) : Prop where
  sorted : lp.Pairwise (fun p q => le p q ∧ p.1 ≠ q.1)
  mem : ∀ p ∈ lp, val s p.1 = some p.2 ∧ p.2 ≤ now
  left : ∀ y v, val s' y = some v → now < v
  vals : ∀ y, val s' y = if y ∈ lp.map (·.1) then none else val s y
  len : s'.hp.length + lp.length = s.hp.length

/-- In the midst of Due: lp has been taken out of s, t is held now. -/
structure Duing (s : St) (now : Int) (lp : List Pr) (t : St) : Prop where
  sorted : lp.Pairwise (fun p q => le p q ∧ p.1 ≠ q.1)
  mem : ∀ p ∈ lp, val s p.1 = some p.2 ∧ p.2 ≤ now
  later : ∀ p ∈ lp, ∀ q ∈ t.hp, le p q
  vals : ∀ y, val t y = if y ∈ lp.map (·.1) then none else val s y
  len : t.hp.length + lp.length = s.hp.length

theorem Duing.start (s : St) (now : Int) : Duing s now [] s := ⟨List.Pairwise.nil, by simp, by simp, by simp, by simp⟩
theorem Duing.step {s t t' : St} {now : Int} {lp : List Pr} {a b : Int} (h : Duing s now lp t) (hI : TInv t) (hH : HeapOk t.hp) (hI' : TInv t') (h0 : t.hp[0]? = some (a, b)) (hb : b ≤ now) (hl : t'.hp.length = t.hp.length - 1) (hv : ∀ y, val t' y = if y = a then none else val t y) : Duing s now (lp ++ [(a, b)]) t' := by
  have hva : val t a = some b := hI.val_mem (List.mem_of_getElem? h0)
  have hna : a ∉ lp.map (·.1) := fun hx => by have := h.vals a; rw [if_pos hx, hva] at this; cases this
  have hmem : ∀ q ∈ t'.hp, q ∈ t.hp := fun q hq => by
    have h1 := hI'.val_mem hq
    rw [hv] at h1
    by_cases e : q.1 = a
    · rw [if_pos e] at h1; cases h1
    · rw [if_neg e] at h1; exact hI.val_some h1
  have hfirst : ∀ q ∈ t.hp, le (a, b) q := fun q hq => by
    obtain ⟨i, hi⟩ := List.mem_iff_getElem?.1 hq
    have := hH.least i (List.getElem?_eq_some_iff.1 hi).1
    rw [at0_some h0, at0_some hi] at this
    exact this
  have h0l : 0 < t.hp.length := (List.getElem?_eq_some_iff.1 h0).1
  refine ⟨?_, ?_, ?_, ?_, ?_⟩
  · rw [List.pairwise_append]
    refine ⟨h.sorted, by simp, fun p hp q hq => ?_⟩
    simp at hq
    subst hq
    refine ⟨h.later p hp _ (List.mem_of_getElem? h0), fun e => hna ?_⟩
    rw [← show p.1 = a from e]; exact List.mem_map_of_mem hp
  · intro p hp
    rcases List.mem_append.1 hp with h1 | h1
    · exact h.mem p h1
    · simp at h1; subst h1
      have := h.vals a
      rw [if_neg hna, hva] at this
      exact ⟨this.symm, hb⟩
  · intro p hp q hq
    rcases List.mem_append.1 hp with h1 | h1
    · exact h.later p h1 q (hmem q hq)
    · simp at h1; subst h1
      exact hfirst q (hmem q hq)
  · intro y
    rw [hv y]
    by_cases e : y = a
    · rw [if_pos e, if_pos (by rw [e]; simp)]
    · rw [if_neg e, h.vals y]
      by_cases e2 : y ∈ lp.map (·.1)
      · rw [if_pos e2, if_pos (by simp at e2 ⊢; exact .inl e2)]
      · rw [if_neg e2, if_neg (by simp at e2 ⊢; exact ⟨e2, e⟩)]
  · simp; have := h.len; omega
theorem Duing.stop {s t : St} {now : Int} {lp : List Pr} (h : Duing s now lp t) (hI : TInv t) (hH : HeapOk t.hp) (hs : ∀ p, t.hp[0]? = some p → now < p.2) : Dued s now lp t := by
  refine ⟨h.sorted, h.mem, fun y v hv => ?_, h.vals, h.len⟩
  have hm := hI.val_some hv
  obtain ⟨i, hi⟩ := List.mem_iff_getElem?.1 hm
  have hil := (List.getElem?_eq_some_iff.1 hi).1
  have h1 := hH.least i hil
  have h2 := hs _ (some_at0 (show 0 < t.hp.length by omega))
  rw [at0_some hi] at h1
  unfold le at h1
  dsimp only at h1
  omega

theorem fld67 (x y : Int) (w : World) : (Instr.field 149 (.agg #[.int .i64 x, .int .i64 y]) 0).run Try.prog w = .ok (.int .i64 x) w := by kernel_rfl
def DuePost (w : World) (tb : Nat) (S : List Nat) (lim : Int) (s : St) (now : Int) (e : Ending) (w' : World) : Prop :=
  ∃ V lp s', e = .returned V ∧ Tim w' tb S lim s' ∧ Touch S w w' ∧ IRow w' w.heap.size V (lp.map (·.1)) ∧ Dued s now lp s'

theorem Tim.lt {w : World} {tb : Nat} {S : List Nat} {lim : Int} {s : St} (h : Tim w tb S lim s) : ∀ k ∈ S, k < w.heap.size := by
  obtain ⟨V, mb, h1, rfl⟩ := h.at_
  exact h1.foot_lt
theorem Tim.kept {w w' : World} {tb : Nat} {S : List Nat} {lim : Int} {s : St} (h : Tim w tb S lim s) {X : List Nat} (t : Touch X w w') (hn : ∀ k ∈ S, k ∉ X) : Tim w' tb S lim s := by
  obtain ⟨V, mb, h1, rfl⟩ := h.at_
  exact ⟨⟨V, mb, h1.kept t hn, rfl⟩, h.ok, h.room, h.most⟩

set_option maxHeartbeats 1000000 in
theorem due_calls {w : World} {tb : Nat} {S : List Nat} {lim : Int} {s : St} (hT : Tim w tb S lim s) (now : Int) :
    Calls Try.prog 62 #[.pointer (some ⟨tb, 0, none⟩), .int .i64 now] w (DuePost w tb S lim s now) := by
  have hSlt := hT.lt
  have hfld := fld67
  go_enter Try.func62, Try.ntmps62
  go_wp2
  go_loopg [5] s.hp.length (fun kq v5 wr => ∃ (lp : List Pr) (t : St), Hid (Tim wr tb S lim t) ∧ Hid (Touch S w wr) ∧ Hid (IRow wr w.heap.size v5 (lp.map (·.1))) ∧ Hid (Duing s now lp t) ∧ t.hp.length ≤ kq)
  case atStart => exact ⟨[], s, hT, Touch.refl _ _, IRow.nil _ _, Duing.start s now, Nat.le_refl _⟩
  case round =>
    obtain ⟨lp, t, hTr, hTo, hIr, hD, hk⟩ := hrel
    obtain ⟨A, cp, hv5⟩ := hIr.out.form
    rw [List.length_map] at hv5
    subst hv5
    obtain ⟨V, mb, h, hS⟩ := hTr.out.at_
    have hok := hTr.out.ok
    have hft : ∀ k ∈ foot tb V mb, k < w.heap.size := by rw [← hS]; exact hSlt
    obtain ⟨A2, cap2, hV⟩ := h.row.form
    subst hV
    obtain ⟨c0, c1, c2, f1⟩ := h.cells
    have HT := Lib.hid h
    have HSX := Lib.hid hS
    by_cases h0 : 0 < t.hp.length
    · obtain ⟨a, b, hab, hab'⟩ := getD_pair t.hp 0 h0
      obtain ⟨g, cap, hV, hg, hcap, hlen, cur, hcur⟩ := h.row.formP h0
      injection hV with hV1 hV2 hV3
      subst hV1 hV3
      obtain ⟨k0, k1, z0, z1⟩ := h.row.cell 0 (a, b) hab'
      simp only [Nat.zero_mul, Nat.zero_add] at k0 k1
      have hd0 : decide (0 < t.hp.length) = true := by rw [decide_eq_true_eq]; exact h0
      have b1 : (0 : Int) < (t.hp.length : Int) := by omega
      have HAB := Lib.hid hab'
      clear hab hab' hV2 hcur h hS
      by_cases hb : b ≤ now
      · have hd1 : decide (b ≤ now) = true := by rw [decide_eq_true_eq]; exact hb
        have HB := Lib.hid hb
        have hlp : lp.length < 8796093022208 := by have := hD.out.len; have := hT.ok.len; omega
        have hws : w.heap.size ≤ wr.heap.size := hTo.out.size
        clear hb
        go_wp2_with fail
        refine (remove_calls hTr.out 0 a b HAB.out).mono ?_
        rintro e w1 ⟨rfl, t', h4, h5, h6, h7⟩
        have hI1 : IRow w1 w.heap.size (.slice A lp.length cp) (lp.map (·.1)) := hIr.out.kept h5 (fun k hk hx => by have := (hIr.out.block k hk).1; have := hSlt k hx; omega)
        have HI1 := Lib.hid hI1
        have H4 := Lib.hid h4
        have H5 := Lib.hid h5
        have hD2 := hD.out.step hok.inv hok.heap h4.ok.inv HAB.out HB.out h6 h7
        have HD2 := Lib.hid hD2
        have hw1 : w.heap.size ≤ w1.heap.size := Nat.le_trans hws h5.size
        have hlk : t'.hp.length < gk := by omega
        clear h4 h5 h6 h7 hI1 hD2 c0 c1 c2 f1 k0 k1 z0 z1
        go_wp2_with (at_builtin; go_must (refine wpList_append_i rfl (.tmp 23) (.tmp 27) rfl w.heap.size (.slice A lp.length cp) (lp.map (·.1)) a rfl HI1.out hw1 rfl (by rw [List.length_map]; exact hlp) ?_); go_must (intro A1 c1 w2 hr1 ht1 hV1; have HR1 := Lib.hid hr1; have HT1 := Lib.hid ht1; have HV1 := Lib.hid hV1; clear hr1 ht1 hV1))
        go_roundg (gk - 1)
        case rel =>
          have hob : ∀ k, k ∈ (Value.slice A lp.length cp).ownBlock.toList → w.heap.size ≤ k := fun k hk => (hIr.out.block k (by simpa using hk)).1
          exact ⟨lp ++ [(a, b)], t', Lib.hid (H4.out.kept HT1.out (fun k hk hx => by have := hob k hx; have := hSlt k hk; omega)), Lib.hid ((hTo.out.trans H5.out (fun _ h => .inl h)).trans HT1.out (fun x hx => .inr (hob x hx))), Lib.hid (by simpa using HR1.out), HD2, by omega⟩
        case measure => omega
      · have hd1 : decide (b ≤ now) = false := by rw [decide_eq_false_iff_not]; exact hb
        have HB := Lib.hid hb
        clear hb
        go_wp2
        go_ret
        exact ⟨_, lp, t, rfl, hTr.out, hTo.out, hIr.out, hD.out.stop hok.inv hok.heap (fun p hp => by rw [HAB.out] at hp; cases hp; have := HB.out; omega)⟩
    · have hd0 : decide (0 < t.hp.length) = false := by rw [decide_eq_false_iff_not]; exact h0
      have HZ := Lib.hid h0
      clear h0 h hS
      go_wp2
      go_ret
      exact ⟨_, lp, t, rfl, hTr.out, hTo.out, hIr.out, hD.out.stop hok.inv hok.heap (fun p hp => absurd (List.getElem?_eq_some_iff.1 hp).1 HZ.out)⟩
end Go.Proofs.Ytelfemhnijnhfaa.Fr.Tm
