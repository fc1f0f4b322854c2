/- both and alike of the Timer laws; no condition. -/
import Derived.Test.YtjnhldcgemcjbaaTwo
namespace Go.Proofs.Ytjnhldcgemcjbaa.Tm
open Go.RowKit Go.Maps
set_option linter.unusedVariables false

theorem box2 {w : World} {n : Nat} {a b : Value} {t : TypeId} (h : w.heap[n]? = some (.cells #[a, b] t (0, 0))) : w.cell? ⟨n, 0, none⟩ = some a ∧ w.cell? ⟨n, 1, none⟩ = some b ∧ n < w.heap.size := by
  refine ⟨?_, ?_, (Array.getElem?_eq_some_iff.1 h).1⟩ <;> simp [World.cell?, h]

/-- What one set with room does to what is held. -/
def SetTo (s s' : St) (id at_ : Int) : Prop := s'.hp.length ≤ s.hp.length + 1 ∧ ∀ y, val s' y = if y = id then some at_ else val s y

set_option maxHeartbeats 1000000 in
theorem both_calls {w0 w : World} {t1 t2 : Nat} {l1 l2 : Int} {s1 s2 : St} (h : Two w0 w t1 l1 s1 t2 l2 s2) (id at_ : Int) (hid : wfi id) (hat : wfi at_) (hr1 : (s1.hp.length : Int) < l1) (hr2 : (s2.hp.length : Int) < l2) :
    Calls Try.prog 24 #[.pointer (some ⟨t1, 0, none⟩), .pointer (some ⟨t2, 0, none⟩), .agg #[.int .i64 id, .int .i64 at_]] w fun e w' => e = .returned (.bool true) ∧ ∃ s1' s2', Two w0 w' t1 l1 s1' t2 l2 s2' ∧ SetTo s1 s1' id at_ ∧ SetTo s2 s2' id at_ := by
  obtain ⟨S1, S2, a, b, c, d, e, f⟩ := h
  have u0 : Touch [] w (w.alloc (.cells #[.int .i64 id, .int .i64 at_] 35)) := (Touch.refl _ _).alloc _
  have hbx := heap_alloc_new w (.cells #[.int .i64 id, .int .i64 at_] 35)
  have hA := Lib.hid (a.kept u0 (by simp))
  have hB := Lib.hid (b.kept u0 (by simp))
  have hnS : w.heap.size ∉ S1 := fun hx => by have := a.lt _ hx; omega
  have hnR : w.heap.size ∉ S2 := fun hx => by have := b.lt _ hx; omega
  have HF := Lib.hid (f.trans u0 (by simp))
  have HBX := Lib.hid hbx
  clear u0 hbx a b f
  go_enter Try.func24, Try.ntmps24
  go_wp2_with fail
  refine (set_calls hA.out id at_ hid hat).mono ?_
  rintro e1 w1 ⟨q1, Q1, g1, hs⟩
  have hb1 := (g1.touch.block w.heap.size (by simp) hnS).trans HBX.out
  obtain ⟨k0, k1, k2⟩ := box2 hb1
  have hgo : Two w0 w1 t1 l1 q1 t2 l2 s2 := Two.go hA.out hB.out c d e HF.out g1.tim g1.touch g1.sub
  have hB1 := Lib.hid (hB.out.kept g1.touch (fun k h1 h2 => e k h2 h1))
  have hdis : ∀ k ∈ Q1, k ∉ S2 := fun k hk h2 => by
    rcases g1.sub k hk with h | h
    · exact e k h h2
    · have := hB.out.lt k h2; omega
  have hge : ∀ k ∈ Q1, w0.heap.size ≤ k := fun k hk => by
    rcases g1.sub k hk with h | h
    · exact c k h
    · exact Nat.le_trans HF.out.size h
  have G1 := Lib.hid g1
  have HT1 := Lib.hid (HF.out.trans g1.touch (fun x hx => .inr (c x hx)))
  clear hgo hb1 g1
  rcases hs with ⟨_, hx, _⟩ | ⟨_, rfl, hl1, hv1⟩
  · omega
  have HS1 : Hid (SetTo s1 q1 id at_) := Lib.hid ⟨by rw [hl1]; split <;> omega, hv1⟩
  clear hl1 hv1
  go_wp2_with fail
  refine (set_calls hB1.out id at_ hid hat).mono ?_
  rintro e2 w2 ⟨q2, Q2, g2, hs⟩
  have hfin : Two w0 w2 t2 l2 q2 t1 l1 q1 := Two.go hB1.out G1.out.tim d hge (fun k h1 h2 => hdis k h2 h1) HT1.out g2.tim g2.touch g2.sub
  have HFIN := Lib.hid hfin.swap
  clear hfin g2
  rcases hs with ⟨_, hx, _⟩ | ⟨_, rfl, hl2, hv2⟩
  · omega
  have HS2 : Hid (SetTo s2 q2 id at_) := Lib.hid ⟨by rw [hl2]; split <;> omega, hv2⟩
  clear hl2 hv2
  go_wp2
  go_ret
  exact ⟨rfl, q1, q2, HFIN.out, HS1.out, HS2.out⟩
end Go.Proofs.Ytjnhldcgemcjbaa.Tm
