/- The law: begins; a step on one of two; no condition. -/
import Derived.Test.YtnpeafhjcelpfaaGreatY9
namespace Go.Proofs.YtnpeafhjcelpfaaGreat.Tri
open Go.RowKit Go.Maps
set_option linter.unusedVariables false
set_option linter.unusedSimpArgs false
set_option maxRecDepth 100000

/-- A row of bools that is read. -/
structure RdL (w : World) (A : Option Addr) (l : List Bool) : Prop where
  at_ : ∀ i x, l[i]? = some x → ∃ g p, A = some ⟨g, p, none⟩ ∧ w.cell? ⟨g, p + i, none⟩ = some (.bool x)
theorem RdL.kept {w w' : World} {A : Option Addr} {l : List Bool} (h : RdL w A l) (t : Touch [] w w') : RdL w' A l :=
  ⟨fun i x hx => by
    obtain ⟨g, p, e, c⟩ := h.at_ i x hx
    exact ⟨g, p, e, cell_touch t c (by simp)⟩⟩
set_option maxHeartbeats 4000000 in
theorem begins_calls {w : World} (A : Option Addr) (c : Nat) (l : List Bool) (hA : RdL w A l) (hn : l.length < 4611686018427387904) :
    Calls Tryz.prog 19 #[.slice A l.length c] w (fun e w' => ∃ k : Nat, e = .returned (.int .i64 k) ∧ k ≤ l.length ∧ w' = w) := by
  obtain ⟨N, hN⟩ : ∃ N, N = l.length := ⟨_, rfl⟩
  have HN := Lib.hid hN
  have HA := Lib.hid hA
  rw [← hN]
  rw [← hN] at hn
  clear hA hN
  go_enter Tryz.func19, Tryz.ntmps19
  go_wp2_with fail
  go_loopg [3] (N + 1) (fun kq v3 wr => ∃ i : Nat, v3 = .int .i64 i ∧ i ≤ N ∧ N + 1 - i ≤ kq ∧ wr = w)
  case atStart => exact ⟨0, rfl, Nat.zero_le _, by omega, rfl⟩
  case round =>
    obtain ⟨i, rfl, hi, hkq, rfl⟩ := hrel
    by_cases hlt : i < N
    · have b1 : (i : Int) < (N : Int) := by omega
      obtain ⟨x, hx⟩ : ∃ x, l[i]? = some x := ⟨l[i]'(by rw [← HN.out]; exact hlt), List.getElem?_eq_getElem _⟩
      obtain ⟨g, p, hAe, m0⟩ := HA.out.at_ i x hx
      subst hAe
      clear hx
      cases x with
      | true =>
        go_wp2
        go_ret
        exact ⟨i, rfl, hi, rfl⟩
      | false =>
        go_wp2
        go_roundg (N - i)
        case rel => exact ⟨i + 1, by simp, by omega, by omega, rfl⟩
        case measure => omega
    · have b1 : ¬ (i : Int) < (N : Int) := by omega
      go_wp2
      go_ret
      exact ⟨N, rfl, Nat.le_refl _, rfl⟩
/-- A pair that has come since. -/
structure One (w0 w : World) (k1 r1 : Nat) (a0 a1 a2 : Int) : Prop where
  is : ∃ s1 t1 F1, Duo w k1 r1 a0 a1 a2 s1 t1 F1 ∧ ∀ x ∈ F1, w0.heap.size ≤ x
theorem One.kept {w0 w w' : World} {k1 r1 : Nat} {a0 a1 a2 : Int} (h : One w0 w k1 r1 a0 a1 a2) (t : Touch [] w w') : One w0 w' k1 r1 a0 a1 a2 := by
  obtain ⟨s1, t1, F1, d1, h⟩ := h.is
  exact ⟨s1, t1, F1, d1.kept t (by simp), h⟩
/-- Two pairs, apart. -/
structure Four (w0 w : World) (k1 r1 k2 r2 : Nat) (a0 a1 a2 b0 b1 b2 : Int) : Prop where
  is : ∃ s1 t1 F1 s2 t2 F2, Duo w k1 r1 a0 a1 a2 s1 t1 F1 ∧ Duo w k2 r2 b0 b1 b2 s2 t2 F2 ∧ (∀ x ∈ F1, x ∉ F2) ∧ (∀ x ∈ F1, w0.heap.size ≤ x) ∧ (∀ x ∈ F2, w0.heap.size ≤ x)
theorem Four.kept {w0 w w' : World} {k1 r1 k2 r2 : Nat} {a0 a1 a2 b0 b1 b2 : Int} (h : Four w0 w k1 r1 k2 r2 a0 a1 a2 b0 b1 b2) (t : Touch [] w w') : Four w0 w' k1 r1 k2 r2 a0 a1 a2 b0 b1 b2 := by
  obtain ⟨s1, t1, F1, s2, t2, F2, d1, d2, h⟩ := h.is
  exact ⟨s1, t1, F1, s2, t2, F2, d1.kept t (by simp), d2.kept t (by simp), h⟩
theorem Four.swap {w0 w : World} {k1 r1 k2 r2 : Nat} {a0 a1 a2 b0 b1 b2 : Int} (h : Four w0 w k1 r1 k2 r2 a0 a1 a2 b0 b1 b2) : Four w0 w k2 r2 k1 r1 b0 b1 b2 a0 a1 a2 := by
  obtain ⟨s1, t1, F1, s2, t2, F2, d1, d2, h1, h2, h3⟩ := h.is
  exact ⟨s2, t2, F2, s1, t1, F1, d2, d1, fun x hx hx2 => h1 x hx2 hx, h3, h2⟩
theorem One.four {w0 w w' : World} {k1 r1 k2 r2 : Nat} {a0 a1 a2 b0 b1 b2 : Int} (h : One w0 w k1 r1 a0 a1 a2) (h2 : One w w' k2 r2 b0 b1 b2) (t : Touch [] w w') (t0 : Touch [] w0 w) : Four w0 w' k1 r1 k2 r2 a0 a1 a2 b0 b1 b2 := by
  obtain ⟨s1, t1, F1, d1, h⟩ := h.is
  obtain ⟨s2, t2, F2, d2, h2⟩ := h2.is
  exact ⟨s1, t1, F1, s2, t2, F2, d1.kept t (by simp), d2, fun x hx hx2 => by have := d1.lt x hx; have := h2 x hx2; omega, h, fun x hx => Nat.le_trans t0.size (h2 x hx)⟩
def OnePostT (w0 : World) (k1 r1 : Nat) (a0 a1 a2 : Int) (e : Ending) (w' : World) : Prop := e = .returned (.bool true) ∧ One w0 w' k1 r1 a0 a1 a2 ∧ Touch [] w0 w'
theorem one_play {w0 w : World} {k1 r1 : Nat} {a0 a1 a2 : Int} (h : One w0 w k1 r1 a0 a1 a2) (t0 : Touch [] w0 w) (x : SOp) (hx : StepOk w0 x) :
    Calls Tryz.prog 20 #[.pointer (some ⟨k1, 0, none⟩), .pointer (some ⟨r1, 0, none⟩), .agg #[.int .i64 x.kd, .slice x.A x.os.length x.c, .int .u32 x.dst]] w (OnePostT w0 k1 r1 a0 a1 a2) := by
  obtain ⟨s1, t1, F1, d1, h2⟩ := h.is
  refine (plays_calls d1 x.kd x.A x.c x.os x.dst (hx.rd.kept t0 (by simp)) hx.ok (fun b hb => ⟨fun hF => by have := hx.lt b hb; have := h2 b hF; omega, Nat.lt_of_lt_of_le (hx.lt b hb) t0.size⟩) hx.len hx.dst).mono ?_
  rintro e w' ⟨rfl, s', u', F', p1, p2, p3⟩
  refine ⟨rfl, ⟨s', u', F', p1, fun y hy => ?_⟩, t0.trans p2 (fun y hy => .inr (h2 y hy))⟩
  rcases p3 y hy with g | g
  · exact h2 y g
  · exact Nat.le_trans t0.size g
def FourPost (w0 : World) (k1 r1 k2 r2 : Nat) (a0 a1 a2 b0 b1 b2 : Int) (e : Ending) (w' : World) : Prop := e = .returned (.bool true) ∧ Four w0 w' k1 r1 k2 r2 a0 a1 a2 b0 b1 b2 ∧ Touch [] w0 w'
theorem four_play {w0 w : World} {k1 r1 k2 r2 : Nat} {a0 a1 a2 b0 b1 b2 : Int} (h : Four w0 w k1 r1 k2 r2 a0 a1 a2 b0 b1 b2) (t0 : Touch [] w0 w) (x : SOp) (hx : StepOk w0 x) :
    Calls Tryz.prog 20 #[.pointer (some ⟨k1, 0, none⟩), .pointer (some ⟨r1, 0, none⟩), .agg #[.int .i64 x.kd, .slice x.A x.os.length x.c, .int .u32 x.dst]] w (FourPost w0 k1 r1 k2 r2 a0 a1 a2 b0 b1 b2) := by
  obtain ⟨s1, t1, F1, s2, t2, F2, d1, d2, h1, h2, h3⟩ := h.is
  refine (plays_calls d1 x.kd x.A x.c x.os x.dst (hx.rd.kept t0 (by simp)) hx.ok (fun b hb => ⟨fun hF => by have := hx.lt b hb; have := h2 b hF; omega, Nat.lt_of_lt_of_le (hx.lt b hb) t0.size⟩) hx.len hx.dst).mono ?_
  rintro e w' ⟨rfl, s', u', F', p1, p2, p3⟩
  refine ⟨rfl, ⟨s', u', F', s2, t2, F2, p1, d2.kept p2 (fun y hy hy2 => h1 y hy2 hy), fun y hy hy2 => ?_, fun y hy => ?_, h3⟩, t0.trans p2 (fun y hy => .inr (h2 y hy))⟩
  · rcases p3 y hy with g | g
    · exact h1 y g hy2
    · have := d2.lt y hy2; omega
  · rcases p3 y hy with g | g
    · exact h2 y g
    · exact Nat.le_trans t0.size g
theorem four_play2 {w0 w : World} {k1 r1 k2 r2 : Nat} {a0 a1 a2 b0 b1 b2 : Int} (h : Four w0 w k1 r1 k2 r2 a0 a1 a2 b0 b1 b2) (t0 : Touch [] w0 w) (x : SOp) (hx : StepOk w0 x) :
    Calls Tryz.prog 20 #[.pointer (some ⟨k2, 0, none⟩), .pointer (some ⟨r2, 0, none⟩), .agg #[.int .i64 x.kd, .slice x.A x.os.length x.c, .int .u32 x.dst]] w (FourPost w0 k1 r1 k2 r2 a0 a1 a2 b0 b1 b2) :=
  (four_play h.swap t0 x hx).mono fun e w' h => ⟨h.1, h.2.1.swap, h.2.2⟩
def dumpOp : SOp := ⟨3, none, 0, [], 0⟩
theorem dumpOp_ok (w : World) : StepOk w dumpOp := ⟨⟨fun i o h => by simp [dumpOp] at h⟩, by simp [dumpOp], by simp [dumpOp], by simp [dumpOp], by simp [dumpOp, rdBlk]⟩
theorem StepOk.kept {w w' : World} {x : SOp} (h : StepOk w x) (t : Touch [] w w') : StepOk w' x :=
  ⟨h.rd.kept t (by simp), h.ok, h.dst, h.len, fun b hb => Nat.lt_of_lt_of_le (h.lt b hb) t.size⟩
theorem both_one {w : World} (a0 a1 a2 : Int) : Calls Tryz.prog 16 #[.agg #[.int .i64 a0, .int .i64 a1, .int .i64 a2]] w (fun e w' => Touch [] w w' ∧ ((¬ (capOk a0 ∧ capOk a1 ∧ capOk a2) ∧ e = .returned (.tuple #[.pointer none, .pointer none, .bool true])) ∨
  ((capOk a0 ∧ capOk a1 ∧ capOk a2) ∧ ∃ kb rb, e = .returned (.tuple #[.pointer (some ⟨kb, 0, none⟩), .pointer (some ⟨rb, 0, none⟩), .bool true]) ∧ One w w' kb rb a0 a1 a2))) := by
  refine (both_calls a0 a1 a2).mono ?_
  rintro e w' ⟨t, h | ⟨hc, kb, rb, F, h1, h2, h3⟩⟩
  · exact ⟨t, .inl h⟩
  · exact ⟨t, .inr ⟨hc, kb, rb, h1, _, _, F, h2, h3⟩⟩
end Go.Proofs.YtnpeafhjcelpfaaGreat.Tri
