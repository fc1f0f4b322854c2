/- Lists of pairs and of int64 that came in, opened, with their bulk; no condition. -/
import Derived.Test.YtjnhldcgemcjbaaOpen
import Derived.Test.YtjnhldcgemcjbaaTwo
import Derived.Test.YtjnhldcgemcjbaaRows
namespace Go.Proofs.Ytjnhldcgemcjbaa.Tm
open Go.RowKit Go.Maps Go.ChangeShapes Go.WideShapes Go.Deep Go.Joins
set_option linter.unusedVariables false
section
variable {H : Type} {enc : TypeId × Value → H} {W : World} {base : Nat} {spare : Nat → Bool} {held : Bool}

theorem bulk_one (d : DataW H) : 1 ≤ Rows.uptoBulk d := by
  cases d with
  | lit l => cases l <;> simp [Rows.uptoBulk]
  | nil => simp [Rows.uptoBulk]
  | ptr d => simp [Rows.uptoBulk]
  | slice elems spare => simp [Rows.uptoBulk]
  | agg parts => simp [Rows.uptoBulk]
  | iface t d => simp [Rows.uptoBulk]
  | map entries => simp [Rows.uptoBulk]
  | held h => simp [Rows.uptoBulk]
theorem bulk_len (l : List (DataW H)) : l.length ≤ Rows.uptoBulkAll l := by
  induction l with
  | nil => simp [Rows.uptoBulkAll]
  | cons x r ih => have := bulk_one x; simp only [Rows.uptoBulkAll, List.length_cons]; omega

theorem open_pairs {fuel : Nat} {A : Option Addr} {len cap : Nat} {x : DataW H × List MemPlace} (h : DataW.trod enc Try.prog W base spare held fuel 25 [.slice A len cap] = some x) :
    ∃ l, RdPr W A len l ∧ len ≤ Rows.uptoBulk x.1 := by
  rcases open_slice Try.underlying25 h with ⟨hcs, rfl⟩ | ⟨a, l, c, m, n, D, Pl, hcs, hb, hl, hm, hmm, hx, hel⟩
  · simp at hcs
    obtain ⟨rfl, rfl, rfl⟩ := hcs
    exact ⟨[], ⟨rfl, by simp, fun h0 => by omega⟩, Nat.zero_le _⟩
  · simp at hcs
    obtain ⟨rfl, rfl, rfl⟩ := hcs
    have hlm : len ≤ m := by rw [hmm]; split <;> omega
    have hc : Try.prog.cellsOf 35 = 2 := by kernel_rfl
    have hc3 : Try.prog.cellsOf 3 = 1 := by kernel_rfl
    have hc2 : Try.prog.cellsOf 2 = 1 := by kernel_rfl
    have key : ∀ i, i < len → ∃ q : Int × Int, (W.cell? ((a.add (i * 2)).add 0) = some (.int .i64 q.1) ∧ W.cell? ((a.add (i * 2)).add 1) = some (.int .i64 q.2)) ∧ wfi q.1 ∧ wfi q.2 := by
      intro i hi
      obtain ⟨cs', h1, h2⟩ := hel i (by omega)
      rw [hc] at h1
      obtain ⟨_, hlen, hcell⟩ := World.cells?_some h1
      obtain ⟨y0, y1, n', _, _, t0, t1⟩ := trod_struct2 Try.underlying35 h2
      match cs', hlen with
      | [c0, c1], _ =>
        dsimp only at t0 t1
        rw [hc3] at t0
        rw [hc2] at t1
        obtain ⟨n0, e0, _, w0⟩ := DataW.trod_int Try.underlying3 t0
        obtain ⟨n1, e1, _, w1⟩ := DataW.trod_int Try.underlying2 t1
        simp at e0 e1
        subst e0 e1
        exact ⟨(n0, n1), ⟨(hcell 0 (by omega)).trans rfl, (hcell 1 (by omega)).trans rfl⟩, w0, w1⟩
    obtain ⟨f, hf⟩ := choose_lt key
    refine ⟨(List.range len).map f, ⟨by simp, fun p hp => ?_, fun h0 => ?_⟩, ?_⟩
    · obtain ⟨i, hi, rfl⟩ := List.mem_map.1 hp
      exact (hf i (List.mem_range.1 hi)).2
    · obtain ⟨⟨q0, _⟩, _⟩ := hf 0 h0
      rw [Nat.zero_mul] at q0
      have hs : a = ⟨a.block, a.off, none⟩ := by
        refine spot_of (w := W) (v := .int .i64 (f 0).1) ?_
        have e : (a.add 0).add 0 = a.add 0 := by simp [Addr.add]
        rw [e] at q0; exact q0
      refine ⟨a.block, a.off, by rw [← hs], ?_, fun i p hp => ?_⟩
      · have := World.block_lt_of_cell? W _ q0
        simpa [Addr.add] using this
      · have hi : i < len := by have := (List.getElem?_eq_some_iff.1 hp).1; simpa using this
        have hp' : f i = p := by simpa [hi] using hp
        obtain ⟨⟨q0, q1⟩, _⟩ := hf i hi
        rw [hs, add_plain] at q0 q1
        rw [← hp']
        exact ⟨q0, q1⟩
    · rw [hx]
      simp only [Rows.uptoBulk]
      have := bulk_len (H := H) ((List.range len).map D)
      simp at this
      omega
theorem bulk2 {d0 d1 : DataW H} (hk : Rows.uptoSmall H [d0, d1] = true) : Rows.uptoBulk d0 + Rows.uptoBulk d1 ≤ 1048576 := by
  have h : Rows.uptoBulkAll [d0, d1] ≤ 1048576 := of_decide_eq_true hk
  simp only [Rows.uptoBulkAll] at h
  omega
theorem bulk3 {d0 d1 d2 : DataW H} (hk : Rows.uptoSmall H [d0, d1, d2] = true) : Rows.uptoBulk d0 + Rows.uptoBulk d1 + Rows.uptoBulk d2 ≤ 1048576 := by
  have h : Rows.uptoBulkAll [d0, d1, d2] ≤ 1048576 := of_decide_eq_true hk
  simp only [Rows.uptoBulkAll] at h
  omega
end
end Go.Proofs.Ytjnhldcgemcjbaa.Tm
