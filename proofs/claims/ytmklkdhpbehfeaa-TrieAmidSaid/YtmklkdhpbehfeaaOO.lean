/- A list of steps that came in, opened; TriePuts called; no condition. -/
import Derived.Test.YtmklkdhpbehfeaaTOpen
import Derived.Test.YtmklkdhpbehfeaaPY
namespace Go.Proofs.Ytmklkdhpbehfeaa.Tri
open Go.RowKit Go.Maps Go.ChangeShapes Go.WideShapes Go.Deep Go.Joins
set_option linter.unusedVariables false
instance : Inhabited OpX := ⟨⟨0, 0, 0, 0, 0, 0⟩⟩
theorem puts_calls {w : World} {A : Option Addr} {n cap : Nat} {l : List OpX} (h : RdO w A n l) (hn : n < 3000000000000) :
    Calls Try.prog 8 #[.slice A n cap] w fun e w' => e = .returned (.bool true) ∧ Touch [] w w' := by
  have H := Lib.hid h
  clear h
  go_enter Try.func8, Try.ntmps8
  go_wp2_with fail
  refine (play13_calls H.out hn).mono ?_
  rintro e w1 ⟨rfl, t1⟩
  go_wp2
  go_ret
  exact ⟨rfl, t1⟩
section
variable {H : Type} {enc : TypeId × Value → H} {W : World} {base : Nat} {spare : Nat → Bool} {held : Bool}
theorem trod_struct5 {t : TypeId} {f0 f1 f2 f3 f4 : Field} {fuel : Nat} {cs : List Value} {x : DataW H × List MemPlace} (ht : Try.prog.underlying t = some (.struct #[f0, f1, f2, f3, f4])) (h : DataW.trod enc Try.prog W base spare held fuel t cs = some x) :
    ∃ y0 y1 y2 y3 y4 n, cs.length = Try.prog.cellsOf t ∧ DataW.trod enc Try.prog W base spare held n f0.type ((cs.drop f0.offset).take (Try.prog.cellsOf f0.type)) = some y0 ∧
      DataW.trod enc Try.prog W base spare held n f1.type ((cs.drop f1.offset).take (Try.prog.cellsOf f1.type)) = some y1 ∧ DataW.trod enc Try.prog W base spare held n f2.type ((cs.drop f2.offset).take (Try.prog.cellsOf f2.type)) = some y2 ∧
      DataW.trod enc Try.prog W base spare held n f3.type ((cs.drop f3.offset).take (Try.prog.cellsOf f3.type)) = some y3 ∧ DataW.trod enc Try.prog W base spare held n f4.type ((cs.drop f4.offset).take (Try.prog.cellsOf f4.type)) = some y4 := by
  obtain ⟨xs, n, _, rfl, hl, hlen, hf⟩ := DataW.trod_struct ht h
  match xs, hlen with
  | [y0, y1, y2, y3, y4], _ => exact ⟨y0, y1, y2, y3, y4, n, hl, by simpa using hf 0 f0 rfl, by simpa using hf 1 f1 rfl, by simpa using hf 2 f2 rfl, by simpa using hf 3 f3 rfl, by simpa using hf 4 f4 rfl⟩
set_option maxRecDepth 100000 in
theorem open_ops {fuel : Nat} {A : Option Addr} {len cap : Nat} {x : DataW H × List MemPlace} (h : DataW.trod enc Try.prog W base spare held fuel 73 [.slice A len cap] = some x) :
    ∃ l, RdO W A len l ∧ len = elemsOf x.1 := by
  rcases open_slice Try.underlying73 h with ⟨hcs, rfl⟩ | ⟨a, l, c, m, n, D, Pl, hcs, hb, hl, hm, hmm, hx, hel⟩
  · simp at hcs
    obtain ⟨rfl, rfl, rfl⟩ := hcs
    exact ⟨[], ⟨rfl, by simp, fun h0 => by omega⟩, rfl⟩
  · simp at hcs
    obtain ⟨rfl, rfl, rfl⟩ := hcs
    have hlm : len ≤ m := by rw [hmm]; split <;> omega
    have hc : Try.prog.cellsOf 127 = 6 := by kernel_rfl
    have hcp : Try.prog.cellsOf 32 = 2 := by kernel_rfl
    have hc3 : Try.prog.cellsOf 3 = 1 := by kernel_rfl
    have hc2 : Try.prog.cellsOf 30 = 1 := by kernel_rfl
    have key : ∀ i, i < len → ∃ q : OpX, (W.cell? ((a.add (i * 6)).add 0) = some (.int .i64 q.kd) ∧ W.cell? ((a.add (i * 6)).add 1) = some (.int .i64 q.wh) ∧ W.cell? ((a.add (i * 6)).add 2) = some (.int .u32 q.a) ∧ W.cell? ((a.add (i * 6)).add 3) = some (.int .i64 q.m) ∧ W.cell? ((a.add (i * 6)).add 4) = some (.int .u32 q.A) ∧ W.cell? ((a.add (i * 6)).add 5) = some (.int .i64 q.v)) ∧ q.wf := by
      intro i hi
      obtain ⟨cs', h1, h2⟩ := hel i (by omega)
      rw [hc] at h1
      obtain ⟨_, hlen, hcell⟩ := World.cells?_some h1
      obtain ⟨y0, y1, y2, y3, y4, n', _, t0, t1, t2, t3, t4⟩ := trod_struct5 Try.underlying127 h2
      match cs', hlen with
      | [c0, c1, c2, c3, c4, c5], _ =>
        dsimp only at t0 t1 t2 t3 t4
        rw [hc3] at t0 t1 t4
        rw [hcp] at t2
        rw [hc2] at t3
        obtain ⟨z0, z1, n2, _, _, s0, s1⟩ := trod_struct2 Try.underlying32 t2
        dsimp only at s0 s1
        rw [hc2] at s0
        rw [hc3] at s1
        obtain ⟨n0, e0, _, w0⟩ := DataW.trod_int Try.underlying3 t0
        obtain ⟨n1, e1, _, w1⟩ := DataW.trod_int Try.underlying3 t1
        obtain ⟨n2, e2, _, w2⟩ := DataW.trod_int Try.underlying30 s0
        obtain ⟨n3, e3, _, w3⟩ := DataW.trod_int Try.underlying3 s1
        obtain ⟨n4, e4, _, w4⟩ := DataW.trod_int Try.underlying30 t3
        obtain ⟨n5, e5, _, w5⟩ := DataW.trod_int Try.underlying3 t4
        simp at e0 e1 e2 e3 e4 e5
        subst e0 e1 e2 e3 e4 e5
        obtain ⟨za, rfl, hza⟩ := wf_u32 w2
        obtain ⟨zA, rfl, hzA⟩ := wf_u32 w4
        exact ⟨⟨n0, n1, za, n3, zA, n5⟩, ⟨(hcell 0 (by omega)).trans rfl, (hcell 1 (by omega)).trans rfl, (hcell 2 (by omega)).trans rfl, (hcell 3 (by omega)).trans rfl, (hcell 4 (by omega)).trans rfl, (hcell 5 (by omega)).trans rfl⟩, ⟨(wf_i64 w1).1, (wf_i64 w1).2, hza, hzA⟩⟩
    obtain ⟨f, hf⟩ := choose_lt key
    refine ⟨(List.range len).map f, ⟨by simp, fun p hp => ?_, fun h0 => ?_⟩, ?_⟩
    · obtain ⟨i, hi, rfl⟩ := List.mem_map.1 hp
      exact (hf i (List.mem_range.1 hi)).2
    · obtain ⟨⟨q0, _⟩, _⟩ := hf 0 h0
      rw [Nat.zero_mul] at q0
      have hs : a = ⟨a.block, a.off, none⟩ := by
        refine spot_of (w := W) (v := .int .i64 (f 0).kd) ?_
        have e : (a.add 0).add 0 = a.add 0 := by simp [Addr.add]
        rw [e] at q0; exact q0
      refine ⟨a.block, a.off, by rw [← hs], ?_, fun i p hp => ?_⟩
      · have := World.block_lt_of_cell? W _ q0
        simpa [Addr.add] using this
      · have hi : i < len := by have := (List.getElem?_eq_some_iff.1 hp).1; simpa using this
        have hp' : f i = p := by simpa [hi] using hp
        obtain ⟨⟨q0, q1, q2, q3, q4, q5⟩, _⟩ := hf i hi
        rw [hs, add_plain] at q0 q1 q2 q3 q4 q5
        rw [← hp']
        exact ⟨q0, q1, q2, q3, q4, q5⟩
    · rw [hx]
      simp [elemsOf]
theorem ops_sized {ts : List TypeId} {ds : List (DataW H)} (h : (DataW.weightsEach Try.prog ts ds).all (· ≤ reachBytes) = true) {j : Nat} {t e : TypeId} {d : DataW H} (ht : ts[j]? = some t) (hd : ds[j]? = some d) (hu : Try.prog.underlying t = some (.slice e)) (hb : 48 ≤ Try.prog.bytesOf e) : elemsOf d < 3000000000000 := by
  cases d with
  | slice elems spare =>
    have h1 := sized_slice h ht hd hu
    have h2 := reachBytes_lt
    show elems.length < _
    have : elems.length * 48 ≤ (elems.length + spare.length) * Try.prog.bytesOf e := Nat.mul_le_mul (by omega) hb
    omega
  | _ => exact (by decide : (0:Nat) < 3000000000000)
end
end Go.Proofs.Ytmklkdhpbehfeaa.Tri
