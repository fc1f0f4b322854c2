/- Lists of prefixes and of addresses that came in, opened; no condition. -/
import Derived.Test.YtmklkdhpbehfeaaTG
import Derived.Deep.Slices
import Derived.Lib.SmallJoins
import Derived.OpenShut
import Derived.SizedLaws
namespace Go.Proofs.Ytmklkdhpbehfeaa.Tri
open Go.RowKit Go.Maps Go.ChangeShapes Go.WideShapes Go.Deep Go.Joins
set_option linter.unusedVariables false
section
variable {H : Type} {enc : TypeId × Value → H} {W : World} {base : Nat} {spare : Nat → Bool} {held : Bool}

theorem add_plain (b off i j : Nat) : ((⟨b, off, none⟩ : Addr).add i).add j = ⟨b, off + i + j, none⟩ := by
  unfold Addr.add
  by_cases hi : i = 0 <;> by_cases hj : j = 0 <;> simp [hi, hj, Nat.add_assoc]
theorem spot_of {w : World} {a : Addr} {v : Value} (h : w.cell? (a.add 0) = some v) : a = ⟨a.block, a.off, none⟩ := by
  have e : a.add 0 = a := by simp [Addr.add]
  rw [e] at h
  unfold World.cell? at h
  obtain ⟨b, o, s⟩ := a
  cases s with
  | none => rfl
  | some k =>
    exfalso
    revert h
    dsimp only
    split <;> simp


theorem wf_u32 {x : Int} (h : (Lit.int .u32 x).wf = true) : ∃ n : Nat, x = (n : Int) ∧ n < 4294967296 := by
  simp [Lit.wf, IntKind.min, IntKind.max, IntKind.signed, IntKind.bits] at h
  exact ⟨x.toNat, by omega, by omega⟩
theorem wf_i64 {x : Int} (h : (Lit.int .i64 x).wf = true) : -9223372036854775808 ≤ x ∧ x ≤ 9223372036854775807 := by
  simp [Lit.wf, IntKind.min, IntKind.max, IntKind.signed, IntKind.bits] at h; omega
/-- How many elements. -/
def elemsOf : DataW H → Nat
  | .slice elems _ => elems.length
  | _ => 0
theorem elems_sized {ts : List TypeId} {ds : List (DataW H)} (h : (DataW.weightsEach Try.prog ts ds).all (· ≤ reachBytes) = true) {j : Nat} {t e : TypeId} {d : DataW H} (ht : ts[j]? = some t) (hd : ds[j]? = some d) (hu : Try.prog.underlying t = some (.slice e)) (hb : 1 ≤ Try.prog.bytesOf e) : elemsOf d ≤ 140737488355328 := by
  cases d with
  | slice elems spare =>
    have h1 := sized_slice h ht hd hu
    have h2 := reachBytes_lt
    show elems.length ≤ _
    have : elems.length * 1 ≤ (elems.length + spare.length) * Try.prog.bytesOf e := Nat.mul_le_mul (by omega) hb
    omega
  | _ => exact Nat.zero_le _
set_option maxRecDepth 100000 in
theorem open_px {fuel : Nat} {A : Option Addr} {len cap : Nat} {x : DataW H × List MemPlace} (h : DataW.trod enc Try.prog W base spare held fuel 22 [.slice A len cap] = some x) :
    ∃ l, RdI W A len l ∧ len = elemsOf x.1 := by
  rcases open_slice Try.underlying22 h with ⟨hcs, rfl⟩ | ⟨a, l, c, m, n, D, Pl, hcs, hb, hl, hm, hmm, hx, hel⟩
  · simp at hcs
    obtain ⟨rfl, rfl, rfl⟩ := hcs
    exact ⟨[], ⟨rfl, by simp, fun h0 => by omega⟩, rfl⟩
  · simp at hcs
    obtain ⟨rfl, rfl, rfl⟩ := hcs
    have hlm : len ≤ m := by rw [hmm]; split <;> omega
    have hc : Try.prog.cellsOf 32 = 2 := by kernel_rfl
    have hc3 : Try.prog.cellsOf 3 = 1 := by kernel_rfl
    have hc2 : Try.prog.cellsOf 30 = 1 := by kernel_rfl
    have key : ∀ i, i < len → ∃ q : Nat × Int, (W.cell? ((a.add (i * 2)).add 0) = some (.int .u32 q.1) ∧ W.cell? ((a.add (i * 2)).add 1) = some (.int .i64 q.2)) ∧ q.1 < 4294967296 ∧ -9223372036854775808 ≤ q.2 ∧ q.2 ≤ 9223372036854775807 := by
      intro i hi
      obtain ⟨cs', h1, h2⟩ := hel i (by omega)
      rw [hc] at h1
      obtain ⟨_, hlen, hcell⟩ := World.cells?_some h1
      obtain ⟨y0, y1, n', _, _, t0, t1⟩ := trod_struct2 Try.underlying32 h2
      match cs', hlen with
      | [c0, c1], _ =>
        dsimp only at t0 t1
        rw [hc2] at t0
        rw [hc3] at t1
        obtain ⟨n0, e0, _, w0⟩ := DataW.trod_int Try.underlying30 t0
        obtain ⟨n1, e1, _, w1⟩ := DataW.trod_int Try.underlying3 t1
        simp at e0 e1
        subst e0 e1
        obtain ⟨z, rfl, hz⟩ := wf_u32 w0
        exact ⟨(z, n1), ⟨(hcell 0 (by omega)).trans rfl, (hcell 1 (by omega)).trans rfl⟩, hz, wf_i64 w1⟩
    obtain ⟨f, hf⟩ := choose_lt key
    refine ⟨(List.range len).map f, ⟨by simp, fun p hp => ?_, fun h0 => ?_⟩, ?_⟩
    · obtain ⟨i, hi, rfl⟩ := List.mem_map.1 hp
      exact (hf i (List.mem_range.1 hi)).2
    · obtain ⟨⟨q0, _⟩, _⟩ := hf 0 h0
      rw [Nat.zero_mul] at q0
      have hs : a = ⟨a.block, a.off, none⟩ := by
        refine spot_of (w := W) (v := .int .u32 (f 0).1) ?_
        have e : (a.add 0).add 0 = a.add 0 := by simp [Addr.add]
        rw [e] at q0; exact q0
      refine ⟨a.block, a.off, by rw [← hs], ?_, fun i p hp => ?_⟩
      · have := World.block_lt_of_cell? W _ q0
        simpa [Addr.add] using this
      · have hi : i < len := by have := (List.getElem?_eq_some_iff.1 hp).1; simpa using this
        have hp' : f i = p := by simpa [hi] using hp
        obtain ⟨⟨q0, q1⟩, _⟩ := hf i hi
        rw [hs, add_plain] at q0 q1
        rw [← hp']
        exact ⟨q0, q1⟩
    · rw [hx]
      simp [elemsOf]
set_option maxRecDepth 100000 in
theorem open_as {fuel : Nat} {A : Option Addr} {len cap : Nat} {x : DataW H × List MemPlace} (h : DataW.trod enc Try.prog W base spare held fuel 23 [.slice A len cap] = some x) :
    ∃ l, RdA W A len l ∧ len = elemsOf x.1 := by
  rcases open_slice Try.underlying23 h with ⟨hcs, rfl⟩ | ⟨a, l, c, m, n, D, Pl, hcs, hb, hl, hm, hmm, hx, hel⟩
  · simp at hcs
    obtain ⟨rfl, rfl, rfl⟩ := hcs
    exact ⟨[], ⟨rfl, by simp, fun h0 => by omega⟩, rfl⟩
  · simp at hcs
    obtain ⟨rfl, rfl, rfl⟩ := hcs
    have hlm : len ≤ m := by rw [hmm]; split <;> omega
    have hc : Try.prog.cellsOf 30 = 1 := by kernel_rfl
    have key : ∀ i, i < len → ∃ q : Nat, W.cell? (a.add i) = some (.int .u32 q) ∧ q < 4294967296 := by
      intro i hi
      obtain ⟨cs', h1, h2⟩ := hel i (by omega)
      rw [hc] at h1
      obtain ⟨_, hlen, hcell⟩ := World.cells?_some h1
      match cs', hlen with
      | [c0], _ =>
        obtain ⟨n0, e0, _, w0⟩ := DataW.trod_int Try.underlying30 h2
        simp at e0
        subst e0
        obtain ⟨z, rfl, hz⟩ := wf_u32 w0
        have := hcell 0 (by omega)
        refine ⟨z, ?_, hz⟩
        have e : (a.add (i * 1)).add 0 = a.add i := by simp [Addr.add]
        rw [e] at this
        exact this.trans rfl
    obtain ⟨f, hf⟩ := choose_lt key
    refine ⟨(List.range len).map f, ⟨by simp, fun p hp => ?_, fun h0 => ?_⟩, ?_⟩
    · obtain ⟨i, hi, rfl⟩ := List.mem_map.1 hp
      exact (hf i (List.mem_range.1 hi)).2
    · obtain ⟨q0, _⟩ := hf 0 h0
      have hs : a = ⟨a.block, a.off, none⟩ := spot_of (w := W) (v := .int .u32 (f 0)) (by simpa [Addr.add] using q0)
      refine ⟨a.block, a.off, by rw [← hs], ?_, fun i p hp => ?_⟩
      · have := World.block_lt_of_cell? W _ q0
        simpa [Addr.add] using this
      · have hi : i < len := by have := (List.getElem?_eq_some_iff.1 hp).1; simpa using this
        have hp' : f i = p := by simpa [hi] using hp
        obtain ⟨q0, _⟩ := hf i hi
        rw [hs, Go.WideShapes.add_plain] at q0
        rw [← hp']
        exact q0
    · rw [hx]
      simp [elemsOf]
end
end Go.Proofs.Ytmklkdhpbehfeaa.Tri
