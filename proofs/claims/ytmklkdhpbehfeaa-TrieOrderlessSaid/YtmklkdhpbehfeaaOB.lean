/- Lists of bytes that came in, opened; no condition. -/
import Derived.Test.YtmklkdhpbehfeaaOL
namespace Go.Proofs.Ytmklkdhpbehfeaa.Tri
open Go.RowKit Go.Maps Go.ChangeShapes Go.WideShapes Go.Deep Go.Joins
set_option linter.unusedVariables false
section
variable {H : Type} {enc : TypeId × Value → H} {W : World} {base : Nat} {spare : Nat → Bool} {held : Bool}
theorem wf_u8 {x : Int} (h : (Lit.int .u8 x).wf = true) : ∃ n : Nat, x = (n : Int) ∧ n < 256 := by
  simp [Lit.wf, IntKind.min, IntKind.max, IntKind.signed, IntKind.bits] at h
  exact ⟨x.toNat, by omega, by omega⟩
set_option maxRecDepth 100000 in
theorem open_bytes {fuel : Nat} {A : Option Addr} {len cap : Nat} {x : DataW H × List MemPlace} (h : DataW.trod enc Try.prog W base spare held fuel 69 [.slice A len cap] = some x) :
    ∃ l, RdB W A len l ∧ len = elemsOf x.1 := by
  rcases open_slice Try.underlying69 h with ⟨hcs, rfl⟩ | ⟨a, l, c, m, n, D, Pl, hcs, hb, hl, hm, hmm, hx, hel⟩
  · simp at hcs
    obtain ⟨rfl, rfl, rfl⟩ := hcs
    exact ⟨[], ⟨rfl, by simp, fun h0 => by omega⟩, rfl⟩
  · simp at hcs
    obtain ⟨rfl, rfl, rfl⟩ := hcs
    have hlm : len ≤ m := by rw [hmm]; split <;> omega
    have hc : Try.prog.cellsOf 5 = 1 := by kernel_rfl
    have key : ∀ i, i < len → ∃ q : Nat, W.cell? (a.add i) = some (.int .u8 q) ∧ q < 256 := by
      intro i hi
      obtain ⟨cs', h1, h2⟩ := hel i (by omega)
      rw [hc] at h1
      obtain ⟨_, hlen, hcell⟩ := World.cells?_some h1
      match cs', hlen with
      | [c0], _ =>
        obtain ⟨n0, e0, _, w0⟩ := DataW.trod_int Try.underlying5 h2
        simp at e0
        subst e0
        obtain ⟨z, rfl, hz⟩ := wf_u8 w0
        have := hcell 0 (by omega)
        refine ⟨z, ?_, hz⟩
        have e : (a.add (i * 1)).add 0 = a.add i := by simp [Addr.add]
        rw [e] at this
        exact this.trans rfl
    obtain ⟨f, hf⟩ := choose_lt key
    refine ⟨(List.range len).map f, ⟨by simp, fun p hp => ?_, fun h0 => ?_⟩, ?_⟩
    · obtain ⟨i, hi, rfl⟩ := List.mem_map.1 hp
      exact (hf i (List.mem_range.1 hi)).2
    · obtain ⟨q0, _⟩ := hf 0 h0
      have hs : a = ⟨a.block, a.off, none⟩ := spot_of (w := W) (v := .int .u8 (f 0)) (by simpa [Addr.add] using q0)
      refine ⟨a.block, a.off, by rw [← hs], ?_, fun i p hp => ?_⟩
      · have := World.block_lt_of_cell? W _ q0
        simpa [Addr.add] using this
      · have hi : i < len := by have := (List.getElem?_eq_some_iff.1 hp).1; simpa using this
        have hp' : f i = p := by simpa [hi] using hp
        obtain ⟨q0, _⟩ := hf i hi
        rw [hs, Go.WideShapes.add_plain] at q0
        rw [← hp']
        exact q0
    · rw [hx]
      simp [elemsOf]
end
end Go.Proofs.Ytmklkdhpbehfeaa.Tri
