/- Bools and addresses that came in, opened; no condition. -/
import Derived.Test.YtnpeafhjcelpfaaGreatPI
namespace Go.Proofs.YtnpeafhjcelpfaaGreat.Tri
open Go.RowKit Go.Maps Go.ChangeShapes Go.WideShapes Go.Deep Go.Joins
set_option linter.unusedVariables false
set_option linter.unusedSimpArgs false
set_option maxRecDepth 100000

/-- A row of addresses that is read. -/
structure RdX (w : World) (A : Option Addr) (l : List Nat) : Prop where
  at_ : ∀ (i : Nat) (x : Nat), l[i]? = some x → x < 4294967296 ∧ ∃ g p, A = some ⟨g, p, none⟩ ∧ w.cell? ⟨g, p + i, none⟩ = some (.int .u32 x)
theorem RdX.kept {w w' : World} {A : Option Addr} {l : List Nat} (h : RdX w A l) (t : Touch [] w w') : RdX w' A l :=
  ⟨fun i x hx => by
    obtain ⟨h0, g, p, e, c⟩ := h.at_ i x hx
    exact ⟨h0, g, p, e, cell_touch t c (by simp)⟩⟩
section
variable {H : Type} {enc : TypeId × Value → H} {W : World} {base : Nat} {spare : Nat → Bool} {held : Bool}
theorem open_bools {fuel : Nat} {A : Option Addr} {len cap : Nat} {x : DataW H × List MemPlace} (h : DataW.trod enc Tryz.prog W base spare held fuel 33 [.slice A len cap] = some x) (hs : Small x.1 33) :
    ∃ l, len = l.length ∧ RdL W A l ∧ l.length < 4611686018427387904 := by
  rcases open_slice Tryz.underlying33 h with ⟨hcs, rfl⟩ | ⟨a, l, c, m, n, D, Pl, hcs, hb, hl, hm, hmm, hx, hel⟩
  · simp at hcs
    obtain ⟨rfl, rfl, rfl⟩ := hcs
    exact ⟨[], rfl, ⟨fun i o ho => by simp at ho⟩, by simp⟩
  · simp at hcs
    obtain ⟨rfl, rfl, rfl⟩ := hcs
    have hlm : len ≤ m := by rw [hmm]; split <;> omega
    have hc : Tryz.prog.cellsOf 4 = 1 := by kernel_rfl
    rw [hx] at hs
    have hsz : len ≤ 140737488355328 := by
      have := small_len Tryz.underlying33 hs (of_decide_eq_true (by kernel_rfl))
      simpa using this
    have key : ∀ i, i < len → ∃ s : Bool, W.cell? ((a.add (i * 1)).add 0) = some (.bool s) := by
      intro i hi
      obtain ⟨cs', h1, h2⟩ := hel i (by omega)
      rw [hc] at h1
      obtain ⟨_, hlen, hcell⟩ := World.cells?_some h1
      obtain ⟨b, rfl, _⟩ := DataW.trod_bool Tryz.underlying4 h2
      exact ⟨b, (hcell 0 (by omega)).trans rfl⟩
    obtain ⟨L, hL, hok⟩ := choose_list key
    refine ⟨L, hL.symm, ⟨fun i s hsi => ?_⟩, by omega⟩
    have q0 := hok i s hsi
    have hsp : a = ⟨a.block, a.off, none⟩ := by
      have hi : 0 < L.length := by have := (List.getElem?_eq_some_iff.1 hsi).1; omega
      have q := hok 0 _ (List.getElem?_eq_getElem hi)
      exact spot_of (w := W) (by simpa [Addr.add] using q)
    rw [hsp, plain_add, plain_add] at q0
    exact ⟨a.block, a.off, by rw [← hsp], by simpa using q0⟩
theorem open_addrs {fuel : Nat} {A : Option Addr} {len cap : Nat} {x : DataW H × List MemPlace} (h : DataW.trod enc Tryz.prog W base spare held fuel 69 [.slice A len cap] = some x) (hs : Small x.1 69) :
    ∃ l, len = l.length ∧ RdX W A l ∧ l.length < 4611686018427387904 := by
  rcases open_slice Tryz.underlying69 h with ⟨hcs, rfl⟩ | ⟨a, l, c, m, n, D, Pl, hcs, hb, hl, hm, hmm, hx, hel⟩
  · simp at hcs
    obtain ⟨rfl, rfl, rfl⟩ := hcs
    exact ⟨[], rfl, ⟨fun i o ho => by simp at ho⟩, by simp⟩
  · simp at hcs
    obtain ⟨rfl, rfl, rfl⟩ := hcs
    have hlm : len ≤ m := by rw [hmm]; split <;> omega
    have hc : Tryz.prog.cellsOf 38 = 1 := by kernel_rfl
    rw [hx] at hs
    have hsz : len ≤ 140737488355328 := by
      have := small_len Tryz.underlying69 hs (of_decide_eq_true (by kernel_rfl))
      simpa using this
    have key : ∀ i, i < len → ∃ s : Nat, s < 4294967296 ∧ W.cell? ((a.add (i * 1)).add 0) = some (.int .u32 s) := by
      intro i hi
      obtain ⟨cs', h1, h2⟩ := hel i (by omega)
      rw [hc] at h1
      obtain ⟨_, hlen, hcell⟩ := World.cells?_some h1
      obtain ⟨b, hb, rfl⟩ := open_addr h2
      exact ⟨b, hb, (hcell 0 (by omega)).trans rfl⟩
    obtain ⟨L, hL, hok⟩ := choose_list key
    refine ⟨L, hL.symm, ⟨fun i s hsi => ?_⟩, by omega⟩
    obtain ⟨q00, q0⟩ := hok i s hsi
    have hsp : a = ⟨a.block, a.off, none⟩ := by
      have hi : 0 < L.length := by have := (List.getElem?_eq_some_iff.1 hsi).1; omega
      have q := (hok 0 _ (List.getElem?_eq_getElem hi)).2
      exact spot_of (w := W) (by simpa [Addr.add] using q)
    rw [hsp, plain_add, plain_add] at q0
    exact ⟨q00, a.block, a.off, by rw [← hsp], by simpa using q0⟩
end
end Go.Proofs.YtnpeafhjcelpfaaGreat.Tri
