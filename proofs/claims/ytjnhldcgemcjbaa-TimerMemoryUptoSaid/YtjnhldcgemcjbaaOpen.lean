/- Lists of steps and of pairs that came in, opened; no condition. -/
import Derived.Test.YtjnhldcgemcjbaaWalkPlays
import Derived.Deep.Slices
import Derived.Lib.SmallJoins
namespace Go.Proofs.Ytjnhldcgemcjbaa.Tm
open Go.RowKit Go.Maps Go.ChangeShapes Go.WideShapes Go.Deep Go.Joins
set_option linter.unusedVariables false
section
variable {H : Type} {enc : TypeId × Value → H} {W : World} {base : Nat} {spare : Nat → Bool} {held : Bool}

theorem add_plain (b off i j : Nat) : ((⟨b, off, none⟩ : Addr).add i).add j = ⟨b, off + i + j, none⟩ := by
  unfold Addr.add
  by_cases hi : i = 0 <;> by_cases hj : j = 0 <;> simp [hi, hj, Nat.add_assoc]
theorem spot_of {w : World} {a : Addr} {v : Value} (h : w.cell? (a.add 0) = some v) : a = ⟨a.block, a.off, none⟩ := by
  have e : a.add 0 = a := by simp [Addr.add]
  rw [e] at h
  unfold World.cell? at h
  obtain ⟨b, o, s⟩ := a
  cases s with
  | none => rfl
  | some k =>
    exfalso
    revert h
    dsimp only
    split <;> simp

theorem open_ops {fuel : Nat} {A : Option Addr} {len cap : Nat} {x : DataW H × List MemPlace} (h : DataW.trod enc Try.prog W base spare held fuel 49 [.slice A len cap] = some x) :
    ∃ f, RdOps W A len f := by
  rcases open_slice Try.underlying49 h with ⟨hcs, _⟩ | ⟨a, l, c, m, n, D, Pl, hcs, hb, hl, hm, hmm, _, hel⟩
  · simp at hcs
    obtain ⟨rfl, rfl, rfl⟩ := hcs
    exact ⟨fun _ => (0, 0, 0, 0), by omega, fun i => ⟨wfi_mk (by simp) (by simp), wfi_mk (by simp) (by simp)⟩, fun h0 => by omega⟩
  · simp at hcs
    obtain ⟨rfl, rfl, rfl⟩ := hcs
    have hlm : len ≤ m := by rw [hmm]; split <;> omega
    have hc : Try.prog.cellsOf 54 = 4 := by kernel_rfl
    have hc3 : Try.prog.cellsOf 3 = 1 := by kernel_rfl
    have hc2 : Try.prog.cellsOf 2 = 1 := by kernel_rfl
    have key : ∀ i, i < len → ∃ q : Int × Int × Int × Int, (W.cell? ((a.add (i * 4)).add 0) = some (.int .i64 q.1) ∧ W.cell? ((a.add (i * 4)).add 1) = some (.int .i64 q.2.1) ∧ W.cell? ((a.add (i * 4)).add 2) = some (.int .i64 q.2.2.1) ∧ W.cell? ((a.add (i * 4)).add 3) = some (.int .i64 q.2.2.2)) ∧ wfi q.2.2.1 ∧ wfi q.2.2.2 := by
      intro i hi
      obtain ⟨cs', h1, h2⟩ := hel i (by omega)
      rw [hc] at h1
      obtain ⟨_, hlen, hcell⟩ := World.cells?_some h1
      obtain ⟨y0, y1, y2, y3, n', _, _, t0, t1, t2, t3⟩ := trod_struct4 Try.underlying54 h2
      match cs', hlen with
      | [c0, c1, c2, c3], _ =>
        dsimp only at t0 t1 t2 t3
        rw [hc3] at t0 t1 t2
        rw [hc2] at t3
        obtain ⟨n0, e0, _, _⟩ := DataW.trod_int Try.underlying3 t0
        obtain ⟨n1, e1, _, _⟩ := DataW.trod_int Try.underlying3 t1
        obtain ⟨n2, e2, _, w2⟩ := DataW.trod_int Try.underlying3 t2
        obtain ⟨n3, e3, _, w3⟩ := DataW.trod_int Try.underlying2 t3
        simp at e0 e1 e2 e3
        subst e0 e1 e2 e3
        exact ⟨(n0, n1, n2, n3), ⟨(hcell 0 (by omega)).trans rfl, (hcell 1 (by omega)).trans rfl, (hcell 2 (by omega)).trans rfl, (hcell 3 (by omega)).trans rfl⟩, w2, w3⟩
    obtain ⟨f, hf⟩ := choose_lt key
    refine ⟨fun i => if i < len then f i else (0, 0, 0, 0), by unfold maxLen at hm; omega, fun i => ?_, fun h0 => ?_⟩
    · dsimp only
      split
      · rename_i hi; exact (hf i hi).2
      · exact ⟨wfi_mk (by simp) (by simp), wfi_mk (by simp) (by simp)⟩
    · obtain ⟨⟨q0, _, _, _⟩, _⟩ := hf 0 h0
      rw [Nat.zero_mul] at q0
      have hs : a = ⟨a.block, a.off, none⟩ := by
        refine spot_of (w := W) (v := .int .i64 (f 0).1) ?_
        have e : (a.add 0).add 0 = a.add 0 := by simp [Addr.add]
        rw [e] at q0; exact q0
      refine ⟨a.block, a.off, by rw [← hs], ?_, fun i hi => ?_⟩
      · have := World.block_lt_of_cell? W _ q0
        simpa [Addr.add] using this
      · dsimp only
        rw [if_pos hi]
        obtain ⟨⟨q0, q1, q2, q3⟩, _⟩ := hf i hi
        rw [hs, add_plain] at q0 q1 q2 q3
        exact ⟨q0, q1, q2, q3⟩
end
end Go.Proofs.Ytjnhldcgemcjbaa.Tm
