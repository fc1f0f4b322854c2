/- Words and small lemmas on worlds, rows of pairs and maps from int to int, for the walks of the Timer statements; no condition. -/
import Derived.Test.YtelfemhnijnhfaaFA
import Derived.WalkKit
import Derived.KernelRfl
import Derived.Below
import Derived.Maps.OwnSet
import Derived.Maps.AppendAt
import Derived.Deep.Draws
import Derived.Deep.QuietTactic
import Derived.BigQuiet
namespace Go.Proofs.Ytelfemhnijnhfaa.Fr.Tm
open Go.RowKit Go.Maps
set_option linter.unusedVariables false
set_option maxRecDepth 100000

/-! ### rows of pairs of ints -/
abbrev Pr := Int × Int
def cellsOf2 (p : Pr) : List Value := [.int .i64 p.1, .int .i64 p.2]
def flat (l : List Pr) : List Value := l.flatMap cellsOf2
theorem flat_nil : flat [] = [] := rfl
theorem flat_cons (p : Pr) (l : List Pr) : flat (p :: l) = .int .i64 p.1 :: .int .i64 p.2 :: flat l := by simp [flat, cellsOf2]
theorem flat_append (l m : List Pr) : flat (l ++ m) = flat l ++ flat m := by simp [flat]
theorem flat_length (l : List Pr) : (flat l).length = l.length * 2 := by
  induction l with
  | nil => rfl
  | cons p l ih => rw [flat_cons]; simp [ih]; omega
theorem flat_get (l : List Pr) : ∀ (i : Nat) (p : Pr), l[i]? = some p → (flat l)[i * 2]? = some (.int .i64 p.1) ∧ (flat l)[i * 2 + 1]? = some (.int .i64 p.2) := by
  induction l with
  | nil => intro i p h; simp at h
  | cons q l ih =>
    intro i p h
    rw [flat_cons]
    cases i with
    | zero => simp at h; subst h; simp
    | succ i =>
      simp at h
      obtain ⟨h1, h2⟩ := ih i p h
      rw [show (i + 1) * 2 = i * 2 + 1 + 1 by omega]
      exact ⟨by simpa using h1, by simpa using h2⟩
theorem flat_set (l : List Pr) : ∀ (i : Nat) (p : Pr), flat (l.set i p) = ((flat l).set (i * 2) (.int .i64 p.1)).set (i * 2 + 1) (.int .i64 p.2) := by
  induction l with
  | nil => intro i p; simp [flat]
  | cons q l ih =>
    intro i p
    cases i with
    | zero => simp [flat_cons]
    | succ i =>
      rw [List.set_cons_succ, flat_cons, flat_cons, ih i p, show (i + 1) * 2 = i * 2 + 1 + 1 by omega]
      simp
theorem flat_take (l : List Pr) (k : Nat) : flat (l.take k) = (flat l).take (k * 2) := by
  induction l generalizing k with
  | nil => simp [flat]
  | cons q l ih =>
    cases k with
    | zero => simp [flat]
    | succ k =>
      rw [List.take_succ_cons, flat_cons, flat_cons, ih k, show (k + 1) * 2 = k * 2 + 1 + 1 by omega]
      simp

/-- A row of pairs that the object owns: e is the element's type. -/
def PRow (w : World) (e : TypeId) (V : Value) (l : List Pr) : Prop := w.ownsRow 0 e 2 V l.length (flat l)

theorem PRow.nil (w : World) (e : TypeId) : PRow w e (.slice none 0 0) [] := World.ownsRow_nil w 0 e 2
theorem PRow.form {w : World} {e : TypeId} {V : Value} {l : List Pr} (h : PRow w e V l) : ∃ A cap, V = .slice A l.length cap := by
  rcases h.2 with ⟨rfl, hn⟩ | ⟨g, cap, cur, rfl, _⟩
  · exact ⟨none, 0, by rw [hn]⟩
  · exact ⟨_, cap, rfl⟩
theorem PRow.formP {w : World} {e : TypeId} {V : Value} {l : List Pr} (h : PRow w e V l) (hl : 0 < l.length) :
    ∃ g cap, V = .slice (some ⟨g, 0, none⟩) l.length cap ∧ g < w.heap.size ∧ l.length ≤ cap ∧ l.length ≤ 9223372036854775807 ∧ ∃ cur, w.heap[g]? = some (.cells cur e (0, 0)) := by
  rcases h.2 with ⟨rfl, hn⟩ | ⟨g, cap, cur, rfl, _, hg, h1, h2, _⟩
  · omega
  · exact ⟨g, cap, rfl, (Array.getElem?_eq_some_iff.1 hg).1, h1, by simp only [maxLen] at h2; omega, cur, hg⟩
theorem PRow.len_le {w : World} {e : TypeId} {V : Value} {l : List Pr} (h : PRow w e V l) : l.length ≤ 9223372036854775807 := by
  rcases Nat.eq_zero_or_pos l.length with h0 | h0
  · omega
  · obtain ⟨_, _, _, _, _, h1, _⟩ := h.formP h0; exact h1
/-- The two cells of element i. -/
theorem PRow.cell {w : World} {e : TypeId} {g n cap : Nat} {l : List Pr} (h : PRow w e (.slice (some ⟨g, 0, none⟩) n cap) l) (i : Nat) (p : Pr) (hp : l[i]? = some p) :
    w.cell? ⟨g, i * 2, none⟩ = some (.int .i64 p.1) ∧ w.cell? ⟨g, i * 2 + 1, none⟩ = some (.int .i64 p.2) ∧ w.frozen? ⟨g, i * 2, none⟩ = false ∧ w.frozen? ⟨g, i * 2 + 1, none⟩ = false := by
  have hn : n = l.length := by
    rcases h.2 with ⟨h1, _⟩ | ⟨g', cap', cur, h1, _⟩
    · simp at h1
    · simp at h1; omega
  subst hn
  have hi : i < l.length := (List.getElem?_eq_some_iff.1 hp).1
  obtain ⟨h1, h2⟩ := flat_get l i p hp
  exact ⟨(h.cellAt (i * 2) (by omega)).trans h1, (h.cellAt (i * 2 + 1) (by omega)).trans h2, h.frozenAt _, h.frozenAt _⟩
theorem PRow.kept {w w' : World} {e : TypeId} {V : Value} {l : List Pr} (h : PRow w e V l) {S : List Nat} (t : Touch S w w') (hn : ∀ k, V.ownBlock = some k → k ∉ S) : PRow w' e V l := by
  refine ⟨h.1, ?_⟩
  rcases h.2 with h2 | ⟨g, cap, cur, hv, hg, hh, r⟩
  · exact .inl h2
  · refine .inr ⟨g, cap, cur, hv, hg, ?_, r⟩
    rw [t.block g (Array.getElem?_eq_some_iff.1 hh).1 (hn g (by subst hv; rfl))]
    exact hh
theorem PRow.lt {w : World} {e : TypeId} {V : Value} {l : List Pr} (h : PRow w e V l) : ∀ k, V.ownBlock = some k → k < w.heap.size := fun k hk => (World.ownsRow.lt h k hk).2
/-- One element is written: both cells. -/
theorem PRow.stored {w : World} {e : TypeId} {g n cap : Nat} {l : List Pr} (h : PRow w e (.slice (some ⟨g, 0, none⟩) n cap) l) (hn : n = l.length) (i : Nat) (p : Pr) :
    PRow ((w.setCell ⟨g, i * 2, none⟩ (.int .i64 p.1)).setCell ⟨g, i * 2 + 1, none⟩ (.int .i64 p.2)) e (.slice (some ⟨g, 0, none⟩) n cap) (l.set i p) := by
  subst hn
  have h1 := (World.ownsRow.stored h (i * 2) (.int .i64 p.1)).1
  have h2 := (World.ownsRow.stored h1 (i * 2 + 1) (.int .i64 p.2)).1
  unfold PRow
  rw [flat_set, List.length_set]
  exact h2
theorem PRow.take {w : World} {e : TypeId} {g cap : Nat} {l : List Pr} (h : PRow w e (.slice (some ⟨g, 0, none⟩) l.length cap) l) (k : Nat) (hk : k ≤ l.length) :
    PRow w e (.slice (some ⟨g, 0, none⟩) k cap) (l.take k) := by
  rcases h.2 with ⟨h1, _⟩ | ⟨g', cap', cur, h1, hb, hg, hnc, hcm, hcs, htake⟩
  · simp at h1
  · simp only [Value.slice.injEq, Option.some.injEq, Addr.mk.injEq, and_true, true_and] at h1
    obtain ⟨rfl, rfl⟩ := h1
    have e1 : (l.take k).length = k := by simp; omega
    unfold PRow
    rw [e1]
    refine ⟨by rw [flat_length, e1], .inr ⟨g, cap, cur, rfl, hb, hg, by omega, hcm, hcs, ?_⟩⟩
    rw [flat_take, ← htake, List.take_take]
    congr 1
    omega

/-! ### maps from int to int -/
theorem law : Keyed Try.prog 3 := int_keyed Try.underlying3
theorem zeroE (w : World) : (zeroValue 3).run Try.prog w = .ok (.int .i64 0) w := by kernel_rfl
def wfi (x : Int) : Prop := (Lit.int .i64 x).wf = true
theorem wfi_bd {x : Int} (h : wfi x) : -9223372036854775808 ≤ x ∧ x ≤ 9223372036854775807 := by
  unfold wfi at h; simp [Lit.wf, IntKind.min, IntKind.max, IntKind.signed, IntKind.bits] at h; omega
theorem wfi_mk {x : Int} (h0 : -9223372036854775808 ≤ x) (h1 : x ≤ 9223372036854775807) : wfi x := by
  unfold wfi; simp [Lit.wf, IntKind.min, IntKind.max, IntKind.signed, IntKind.bits]; omega

/-- Block b is a map that holds just f, n keys. -/
def IMap (w : World) (b : Nat) (f : Int → Option Int) (n : Nat) : Prop :=
  ∃ D : DataW Unit, w.ownsMap Try.prog 3 (plainElem Try.prog 3) b n D ∧ Maps.size D = n ∧
    ∀ x, (f x = none ∧ Maps.has D (.int .i64 x) = false) ∨ ∃ v, f x = some v ∧ Maps.has D (.int .i64 x) = true ∧ (∀ z, D.atKey (.int .i64 x) z = .lit (.int .i64 v)) ∧ wfi v

def upd (f : Int → Option Int) (x : Int) (v : Option Int) : Int → Option Int := fun y => if y = x then v else f y

theorem IMap.lt {w : World} {b : Nat} {f : Int → Option Int} {n : Nat} (h : IMap w b f n) : b < w.heap.size := by
  obtain ⟨D, h, _⟩ := h; exact h.lt
theorem IMap.kept {w w' : World} {b : Nat} {f : Int → Option Int} {n : Nat} (h : IMap w b f n) {S : List Nat} (t : Touch S w w') (hn : b ∉ S) : IMap w' b f n := by
  obtain ⟨D, h1, h2⟩ := h
  refine ⟨D, ?_, h2⟩
  obtain ⟨es, clock, hb, F, hs, hD⟩ := h1
  exact ⟨es, clock, (t.block b (Array.getElem?_eq_some_iff.1 hb).1 hn).trans hb, F, hs, hD⟩
theorem IMap.isMap {w : World} {b : Nat} {f : Int → Option Int} {n : Nat} (h : IMap w b f n) : ∃ es clock, w.heap[b]? = some (.map es clock) := by
  obtain ⟨D, ⟨es, clock, hb, _⟩, _⟩ := h
  exact ⟨es, clock, hb⟩
theorem IMap.made (w : World) : IMap (w.alloc (.map #[] 0)) w.heap.size (fun _ => none) 0 :=
  ⟨.map [], World.ownsMap_made _ _ _ _, rfl, fun x => .inl ⟨rfl, rfl⟩⟩
theorem IMap.look {w : World} {b : Nat} {f : Int → Option Int} {n : Nat} (h : IMap w b f n) (x : Int) (hx : wfi x) :
    (Instr.lookup 141 (.map (some b)) (.int .i64 x) true).run Try.prog w = .ok (.tuple #[.int .i64 ((f x).getD 0), .bool (f x).isSome]) w ∧
    (Instr.lookup 141 (.map (some b)) (.int .i64 x) false).run Try.prog w = .ok (.int .i64 ((f x).getD 0)) w := by
  obtain ⟨D, h1, hs, hf⟩ := h
  have hk := keyOf_int_mk (P := Try.prog) Try.underlying3 hx
  obtain ⟨v, ps, hrun, hv⟩ := h1.look_ok law Try.underlying141 (zeroE w) (plainElem_int Try.underlying3 (by decide)) hk
  obtain ⟨c, rfl, hc, hwc⟩ := plainElem_int_inv Try.underlying3 hv
  obtain ⟨c', hrun', hat', _⟩ := h1.lookup_int law Try.underlying141 Try.underlying3 (zeroE w) hk
  simp only [Prod.mk.injEq] at hc
  rcases hf x with ⟨e1, e2⟩ | ⟨u, e1, e2, e3, _⟩
  · rw [atKey_of_not_has e2] at hc hat'
    simp at hc hat'
    rw [e1]
    rw [hrun, hrun', e2, ← hc.1, ← hat']
    exact ⟨rfl, rfl⟩
  · rw [e3] at hc hat'
    simp at hc hat'
    rw [e1, hrun, hrun', e2, ← hc.1, ← hat']
    exact ⟨rfl, rfl⟩
theorem Touch.turned {w w' : World} {b : Nat} (h : w.mapTurned w' b) : Touch [b] w w' := by
  have g := h.grown
  exact ⟨g.os, g.tape, g.output, g.size, fun k hk hn => g.block k hk (fun e => hn (by simpa using e))⟩
theorem owns_tight {w : World} {b N : Nat} {D : DataW Unit} (h : w.ownsMap Try.prog 3 (plainElem Try.prog 3) b N D) : w.ownsMap Try.prog 3 (plainElem Try.prog 3) b (Maps.size D) D := by
  obtain ⟨es, clock, hb, F, _, rfl⟩ := h
  exact ⟨es, clock, hb, F, by simp [Maps.size, length_sorted], rfl⟩
theorem IMap.store {w : World} {b : Nat} {f : Int → Option Int} {n : Nat} (h : IMap w b f n) (x v : Int) (hx : wfi x) (hv : wfi v) (hn : n < 9223372036854775807) :
    ∃ w', (Instr.mapUpdate 141 (.map (some b)) (.int .i64 x) (.int .i64 v)).run Try.prog w = .ok () w' ∧ IMap w' b (upd f x (some v)) (if (f x).isSome then n else n + 1) ∧ Touch [b] w w' := by
  obtain ⟨D, h1, hs, hf⟩ := h
  have hk := keyOf_int_mk (P := Try.prog) Try.underlying3 hx
  have ht := h1.tidy law
  have hl : WideAt.IsKeyLit (.int .i64 x) := trivial
  obtain ⟨w', hrun, h2, h3⟩ := h1.store law Try.underlying141 (by unfold maxLen; omega) hk (plainElem_int Try.underlying3 hv)
  refine ⟨w', hrun, ⟨D.put (.int .i64 x) (.lit (.int .i64 v)), ?_, ?_, ?_⟩, Touch.turned h3⟩
  · have h4 := owns_tight h2
    have e : Maps.size (D.put (.int .i64 x) (.lit (.int .i64 v))) = if (f x).isSome then n else n + 1 := by
      rw [size_put ht, hs]
      rcases hf x with ⟨e1, e2⟩ | ⟨u, e1, e2, _⟩ <;> simp [e1, e2]
    rw [e] at h4
    exact h4
  · rw [size_put ht, hs]
    rcases hf x with ⟨e1, e2⟩ | ⟨u, e1, e2, _⟩ <;> simp [e1, e2]
  · intro y
    unfold upd
    by_cases e : y = x
    · subst e
      rw [if_pos rfl]
      exact .inr ⟨v, rfl, has_put_same ht.isMap hl _, fun z => atKey_put_same ht.isMap hl _ z, hv⟩
    · rw [if_neg e]
      have hne : Lit.int .i64 y ≠ Lit.int .i64 x := fun h => e (by injection h)
      rcases hf y with ⟨e1, e2⟩ | ⟨u, e1, e2, e3, e4⟩
      · exact .inl ⟨e1, by rw [has_put_other hne]; exact e2⟩
      · exact .inr ⟨u, e1, by rw [has_put_other hne]; exact e2, fun z => by rw [atKey_put_other hne]; exact e3 z, e4⟩
theorem IMap.drop {w : World} {b : Nat} {f : Int → Option Int} {n : Nat} (h : IMap w b f n) (x : Int) (hx : wfi x) (ty : TypeId) :
    ∃ w', (Builtin.delete_ #[141, 3] ty #[.map (some b), .int .i64 x]).run Try.prog w = .ok (.tuple #[]) w' ∧ IMap w' b (upd f x none) (if (f x).isSome then n - 1 else n) ∧ Touch [b] w w' := by
  obtain ⟨D, h1, hs, hf⟩ := h
  have hk := keyOf_int_mk (P := Try.prog) Try.underlying3 hx
  have ht := h1.tidy law
  obtain ⟨w', hrun, h2, h3⟩ := h1.drop law Try.underlying141 hk ty
  have e : Maps.size (D.del (.int .i64 x)) = if (f x).isSome then n - 1 else n := by
    have := size_del (k := .int .i64 x) ht
    rw [hs] at this
    rcases hf x with ⟨e1, e2⟩ | ⟨u, e1, e2, _⟩
    · simp [e2] at this; simp [e1, this]
    · simp [e2] at this; simp [e1]; omega
  refine ⟨w', hrun, ⟨D.del (.int .i64 x), ?_, e, ?_⟩, Touch.turned h3⟩
  · have h4 := owns_tight h2
    rw [e] at h4
    exact h4
  · intro y
    unfold upd
    by_cases e : y = x
    · subst e
      rw [if_pos rfl]
      exact .inl ⟨rfl, has_del_same⟩
    · rw [if_neg e]
      have hne : Lit.int .i64 y ≠ Lit.int .i64 x := fun h => e (by injection h)
      rcases hf y with ⟨e1, e2⟩ | ⟨u, e1, e2, e3, e4⟩
      · exact .inl ⟨e1, by rw [has_del_other hne]; exact e2⟩
      · exact .inr ⟨u, e1, by rw [has_del_other hne]; exact e2, fun z => by rw [atKey_del_other hne]; exact e3 z, e4⟩
end Go.Proofs.Ytelfemhnijnhfaa.Fr.Tm
