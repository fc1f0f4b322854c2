/- Two Timers apart from one another; rows of pairs to be read; no condition. -/
import Derived.Test.YtjnhldcgemcjbaaSp
import Derived.StillTailTactics
namespace Go.Proofs.Ytjnhldcgemcjbaa.Tm
open Go.RowKit Go.Maps
set_option linter.unusedVariables false

theorem PRow.rd {w : World} {A : Option Addr} {c : Nat} {l : List Pr} (h : PRow w 35 (.slice A l.length c) l) (hw : ∀ p ∈ l, wfi p.1 ∧ wfi p.2) : RdPr w A l.length l := by
  refine ⟨rfl, hw, fun h0 => ?_⟩
  obtain ⟨g, cap, hV, hg, _⟩ := h.formP h0
  injection hV with hV1 hV2 hV3
  subst hV1
  refine ⟨g, 0, rfl, hg, fun i p hp => ?_⟩
  obtain ⟨h1, h2, _⟩ := h.cell i p hp
  simp only [Nat.zero_add]
  exact ⟨h1, h2⟩
theorem tlen_calls {w : World} {tb : Nat} {S : List Nat} {lim : Int} {s : St} (h : Tim w tb S lim s) :
    Calls Try.prog 14 #[.pointer (some ⟨tb, 0, none⟩)] w fun e w' => e = .returned (.int .i64 s.hp.length) ∧ w' = w := by
  obtain ⟨⟨V, mb, h1, rfl⟩, hok, hlim, hmax⟩ := h
  exact len_calls h1

/-- Two Timers that stand apart, both newer than w0. -/
def Two (w0 wr : World) (t1 : Nat) (l1 : Int) (s1 : St) (t2 : Nat) (l2 : Int) (s2 : St) : Prop :=
  ∃ S1 S2, Tim wr t1 S1 l1 s1 ∧ Tim wr t2 S2 l2 s2 ∧ (∀ k ∈ S1, w0.heap.size ≤ k) ∧ (∀ k ∈ S2, w0.heap.size ≤ k) ∧ (∀ k ∈ S1, k ∉ S2) ∧ Touch [] w0 wr
theorem Two.touch {w0 wr : World} {t1 t2 : Nat} {l1 l2 : Int} {s1 s2 : St} (h : Two w0 wr t1 l1 s1 t2 l2 s2) : Touch [] w0 wr := by obtain ⟨_, _, _, _, _, _, _, h⟩ := h; exact h
theorem Two.swap {w0 wr : World} {t1 t2 : Nat} {l1 l2 : Int} {s1 s2 : St} (h : Two w0 wr t1 l1 s1 t2 l2 s2) : Two w0 wr t2 l2 s2 t1 l1 s1 := by
  obtain ⟨S1, S2, a, b, c, d, e, f⟩ := h
  exact ⟨S2, S1, b, a, d, c, fun k h1 h2 => e k h2 h1, f⟩
theorem Two.near {w0 wr w' : World} {t1 t2 : Nat} {l1 l2 : Int} {s1 s2 : St} (h : Two w0 wr t1 l1 s1 t2 l2 s2) (t : Touch [] wr w') : Two w0 w' t1 l1 s1 t2 l2 s2 := by
  obtain ⟨S1, S2, a, b, c, d, e, f⟩ := h
  exact ⟨S1, S2, a.kept t (by simp), b.kept t (by simp), c, d, e, f.trans t (by simp)⟩
theorem Two.go {w0 wr w' : World} {t1 t2 : Nat} {l1 l2 : Int} {s1 s2 s1' : St} {S1 S2 S1' : List Nat} (a : Tim wr t1 S1 l1 s1) (b : Tim wr t2 S2 l2 s2) (c : ∀ k ∈ S1, w0.heap.size ≤ k) (d : ∀ k ∈ S2, w0.heap.size ≤ k) (e : ∀ k ∈ S1, k ∉ S2) (f : Touch [] w0 wr)
    (a' : Tim w' t1 S1' l1 s1') (t : Touch S1 wr w') (hs : ∀ k ∈ S1', k ∈ S1 ∨ wr.heap.size ≤ k) : Two w0 w' t1 l1 s1' t2 l2 s2 := by
  refine ⟨S1', S2, a', b.kept t (fun k h1 h2 => e k h2 h1), fun k hk => ?_, d, fun k hk h2 => ?_, f.trans t (fun x hx => .inr (c x hx))⟩
  · rcases hs k hk with h | h
    · exact c k h
    · exact Nat.le_trans f.size h
  · rcases hs k hk with h | h
    · exact e k h h2
    · have := b.lt k h2; omega
def NewE (w : World) (lim : Int) (t : Nat) (s : St) (w' : World) : Prop := ∃ S, Tim w' t S lim s ∧ Touch [] w w' ∧ (∀ k ∈ S, w.heap.size ≤ k) ∧ s.hp.length = 0 ∧ ∀ y, val s y = none
theorem newE_calls (w : World) (lim : Int) (h1 : 1 ≤ lim) (h2 : lim ≤ 65536) : Calls Try.prog 11 #[.int .i64 lim] w fun e w' => ∃ t s, e = .returned (.tuple #[.pointer (some ⟨t, 0, none⟩), .int .i64 0]) ∧ NewE w lim t s w' :=
  (newT_calls w lim h1 h2).mono fun e w' ⟨t, S, s, he, h⟩ => ⟨t, s, he, S, h⟩
theorem Two.new {w0 w1 w2 : World} {l1 l2 : Int} {t1 t2 : Nat} {s1 s2 : St} (h1 : NewE w0 l1 t1 s1 w1) (h2 : NewE w1 l2 t2 s2 w2) :
    Two w0 w2 t1 l1 s1 t2 l2 s2 ∧ (s1.hp.length = 0 ∧ ∀ y, val s1 y = none) ∧ (s2.hp.length = 0 ∧ ∀ y, val s2 y = none) := by
  obtain ⟨S1, T1, u1, n1, z1, v1⟩ := h1
  obtain ⟨S2, T2, u2, n2, z2, v2⟩ := h2
  refine ⟨⟨S1, S2, T1.kept u2 (by simp), T2, n1, fun k hk => Nat.le_trans u1.size (n2 k hk), fun k hk hk2 => ?_, u1.trans u2 (by simp)⟩, ⟨z1, v1⟩, z2, v2⟩
  have := T1.lt k hk
  have := n2 k hk2
  omega
/-- A Set that has room. -/
def SetOk (s s' : St) (id at_ : Int) (e : Ending) : Prop := e = .returned (.int .i64 0) ∧ s'.hp.length = (if (val s id).isSome then s.hp.length else s.hp.length + 1) ∧ ∀ y, val s' y = if y = id then some at_ else val s y
theorem Two.set {w0 wr : World} {t1 t2 : Nat} {l1 l2 : Int} {s1 s2 : St} (h : Two w0 wr t1 l1 s1 t2 l2 s2) (id at_ : Int) (hid : wfi id) (hat : wfi at_) (hr : val s1 id = none → (s1.hp.length : Int) < l1) :
    Calls Try.prog 13 #[.pointer (some ⟨t1, 0, none⟩), .int .i64 id, .int .i64 at_] wr fun e w' => ∃ s1', Two w0 w' t1 l1 s1' t2 l2 s2 ∧ SetOk s1 s1' id at_ e := by
  obtain ⟨S1, S2, a, b, c, d, e, f⟩ := h
  refine (set_calls a id at_ hid hat).mono ?_
  rintro e' w' ⟨s', S', g, hh⟩
  refine ⟨s', Two.go a b c d e f g.tim g.touch g.sub, ?_⟩
  rcases hh with ⟨h1, h2, _⟩ | ⟨_, h2, h3, h4⟩
  · have : val s1 id = none := by cases hv : val s1 id with | none => rfl | some v => rw [hv] at h1; cases h1
    have := hr this
    omega
  · exact ⟨h2, h3, h4⟩
/-- A Set that has none. -/
theorem Two.set_full {w0 wr : World} {t1 t2 : Nat} {l1 l2 : Int} {s1 s2 : St} (h : Two w0 wr t1 l1 s1 t2 l2 s2) (id at_ : Int) (hid : wfi id) (hat : wfi at_) (hn : val s1 id = none) (hr : (s1.hp.length : Int) = l1) :
    Calls Try.prog 13 #[.pointer (some ⟨t1, 0, none⟩), .int .i64 id, .int .i64 at_] wr fun e w' => Two w0 w' t1 l1 s1 t2 l2 s2 ∧ e = .returned (.int .i64 4) := by
  obtain ⟨S1, S2, a, b, c, d, e, f⟩ := h
  refine (set_calls a id at_ hid hat).mono ?_
  rintro e' w' ⟨s', S', g, hh⟩
  rcases hh with ⟨_, _, rfl, h1⟩ | ⟨h1, _⟩
  · exact ⟨Two.go a b c d e f g.tim g.touch g.sub, h1⟩
  · rw [hn] at h1
    rcases h1 with h1 | h1
    · cases h1
    · omega
theorem Two.len {w0 wr : World} {t1 t2 : Nat} {l1 l2 : Int} {s1 s2 : St} (h : Two w0 wr t1 l1 s1 t2 l2 s2) :
    Calls Try.prog 14 #[.pointer (some ⟨t1, 0, none⟩)] wr fun e w' => e = .returned (.int .i64 s1.hp.length) ∧ w' = wr := by
  obtain ⟨S1, S2, a, b, c, d, e, f⟩ := h
  exact tlen_calls a
theorem Two.inv {w0 wr : World} {t1 t2 : Nat} {l1 l2 : Int} {s1 s2 : St} (h : Two w0 wr t1 l1 s1 t2 l2 s2) : TInv s1 ∧ TInv s2 := by
  obtain ⟨S1, S2, a, b, _⟩ := h
  exact ⟨a.ok.inv, b.ok.inv⟩
theorem Two.wf {w0 wr : World} {t1 t2 : Nat} {l1 l2 : Int} {s1 s2 : St} (h : Two w0 wr t1 l1 s1 t2 l2 s2) {y v : Int} (hv : val s1 y = some v) : wfi y ∧ wfi v := by
  obtain ⟨S1, S2, a, b, _⟩ := h
  exact a.wf hv
end Go.Proofs.Ytjnhldcgemcjbaa.Tm
