/- The kernel in memory; empty, Flush; no condition. -/
import Derived.Test.YtnpeafhjcelpfaaGreatLE
namespace Go.Proofs.YtnpeafhjcelpfaaGreat.Tri
open Go.RowKit Go.Maps
set_option linter.unusedVariables false
set_option linter.unusedSimpArgs false
set_option maxRecDepth 100000

/-- What a kernel's tables hold. -/
structure KSt where
  t : T
  k : Nat
  f1 : Value → Option Value
  n1 : Nat
  f2 : Value → Option Value
  n2 : Nat
structure KerAt (w : World) (kb tb b1 m1 b2 m2 : Nat) (S : List Nat) (l0 l1 l2 : Int) (s : KSt) : Prop where
  blk : w.heap[kb]? = some (.cells #[.int .i64 l0, .int .i64 l1, .int .i64 l2, .pointer (some ⟨tb, 0, none⟩), .pointer (some ⟨b1, 0, none⟩), .pointer (some ⟨b2, 0, none⟩)] 94 (0, 0))
  tri : TrieAt w tb s.t S s.k
  fl1 : Flat1 w b1 m1 s.f1 s.n1
  fl2 : Flat2 w b2 m2 s.f2 s.n2
  nod : [kb, b1, m1, b2, m2].Nodup
  dis : ∀ x ∈ S, x ∉ [kb, b1, m1, b2, m2]
theorem KerAt.kept {w w' : World} {kb tb b1 m1 b2 m2 : Nat} {S : List Nat} {l0 l1 l2 : Int} {s : KSt} (h : KerAt w kb tb b1 m1 b2 m2 S l0 l1 l2 s) {X : List Nat} (t : Touch X w w') (hn : ∀ x ∈ kb :: b1 :: m1 :: b2 :: m2 :: S, x ∉ X) : KerAt w' kb tb b1 m1 b2 m2 S l0 l1 l2 s :=
  ⟨touch_box t h.blk (hn kb (by simp)), h.tri.kept t (fun x hx => hn x (by simp [hx])), h.fl1.kept t (hn b1 (by simp)) (hn m1 (by simp)), h.fl2.kept t (hn b2 (by simp)) (hn m2 (by simp)), h.nod, h.dis⟩
def KSt.none : KSt := ⟨.nil, 0, fun _ => Option.none, 0, fun _ => Option.none, 0⟩
theorem six_more {w : World} {b : Nat} {c0 c1 c2 c3 c4 c5 : Value} {T : TypeId} (h : w.heap[b]? = some (.cells #[c0, c1, c2, c3, c4, c5] T (0, 0))) (o : Nat) : w.frozen? ⟨b, o, none⟩ = false := rt_frozen h o
set_option maxHeartbeats 4000000 in
theorem empty_calls {w : World} {kb : Nat} {l0 l1 l2 : Int} {c3 c4 c5 : Value} (h : w.heap[kb]? = some (.cells #[.int .i64 l0, .int .i64 l1, .int .i64 l2, c3, c4, c5] 94 (0, 0))) :
    Calls Tryz.prog 46 #[.pointer (some ⟨kb, 0, none⟩)] w (fun e w' => e = .returned (.tuple #[]) ∧ ∃ tb b1 m1 b2 m2 S, KerAt w' kb tb b1 m1 b2 m2 S l0 l1 l2 KSt.none ∧ Touch [kb] w w' ∧ ∀ x ∈ b1 :: m1 :: b2 :: m2 :: S, w.heap.size ≤ x) := by
  have hlt := (Array.getElem?_eq_some_iff.1 h).1
  have H := Lib.hid h
  have HL := Lib.hid hlt
  clear h hlt
  go_enter Tryz.func46, Tryz.ntmps46
  go_wp2_with fail
  refine (new_calls _).mono ?_
  rintro e w1 ⟨rfl, hT, ht⟩
  obtain ⟨tb, htb⟩ : ∃ tb, tb = w.heap.size := ⟨_, rfl⟩
  rw [← htb] at hT ⊢
  have HTB := Lib.hid htb
  have HT := Lib.hid hT
  have B1 := Lib.hid (touch_box ht H.out (by simp))
  have T1 := Lib.hid ht
  clear hT ht htb
  obtain ⟨q0, q1, q2, q3, q4, q5⟩ := six_cells B1.out
  have qf := fun o => rt_frozen B1.out o
  go_wp2_with fail
  obtain ⟨W2, hW2⟩ : ∃ W2 : World, W2 = w1.setCell ⟨kb, 3, none⟩ (.pointer (some ⟨tb, 0, none⟩)) := ⟨_, rfl⟩
  rw [← hW2]
  have bb := box_set (o := 3) B1.out (.pointer (some ⟨tb, 0, none⟩))
  rw [← hW2] at bb
  simp only [List.setIfInBounds_toArray, List.set_cons_succ, List.set_cons_zero] at bb
  have B2 := Lib.hid bb
  clear bb
  have T2 := Lib.hid (show Touch [kb] w W2 by rw [hW2]; exact (T1.out.mono (by simp)).setCell _ _ (.inl (by simp)))
  have HT2 := Lib.hid (HT.out.kept (show Touch [kb] w1 W2 by rw [hW2]; exact (Touch.refl [kb] w1).setCell _ _ (.inl (by simp))) (by
    intro x hx; simp at hx; subst hx; have a1 := HTB.out; have a2 := HL.out; simp; omega))
  clear hW2 q0 q1 q2 q3 q4 q5 qf B1 T1 HT
  refine (newflat1_calls).mono ?_
  rintro e w3 ⟨b1, m1, rfl, hF, ht, hb1, hm1, hne1⟩
  have F1 := Lib.hid hF
  have B3 := Lib.hid (touch_box ht B2.out (by simp))
  have T3 := Lib.hid (T2.out.trans ht (by simp))
  have HT3 := Lib.hid (HT2.out.kept ht (by simp))
  have N1 := Lib.hid (And.intro hb1 (And.intro hm1 hne1))
  have Z2 := Lib.hid T2.out.size
  have S2 := Lib.hid (HT2.out.lt tb (by simp))
  clear hF ht hb1 hm1 hne1 B2 T2 HT2
  obtain ⟨q0, q1, q2, q3, q4, q5⟩ := six_cells B3.out
  have qf := fun o => rt_frozen B3.out o
  go_wp2_with fail
  obtain ⟨W4, hW4⟩ : ∃ W4 : World, W4 = w3.setCell ⟨kb, 4, none⟩ (.pointer (some ⟨b1, 0, none⟩)) := ⟨_, rfl⟩
  rw [← hW4]
  have bb := box_set (o := 4) B3.out (.pointer (some ⟨b1, 0, none⟩))
  rw [← hW4] at bb
  simp only [List.setIfInBounds_toArray, List.set_cons_succ, List.set_cons_zero] at bb
  have B4 := Lib.hid bb
  clear bb
  have T34 := Lib.hid (show Touch [kb] w3 W4 by rw [hW4]; exact (Touch.refl [kb] w3).setCell _ _ (.inl (by simp)))
  have T4 := Lib.hid (T3.out.trans T34.out (by simp))
  have HT4 := Lib.hid (HT3.out.kept T34.out (by
    intro x hx; simp at hx; subst hx; have a1 := HTB.out; have a2 := HL.out; simp; omega))
  have F4 := Lib.hid (F1.out.kept T34.out (by have a1 := HL.out; have a2 := N1.out.1; have a3 := Z2.out; simp; omega) (by have a1 := HL.out; have a2 := N1.out.2.1; have a3 := Z2.out; simp; omega))
  clear hW4 q0 q1 q2 q3 q4 q5 qf B3 T3 HT3 F1 T34
  refine (newflat2_calls).mono ?_
  rintro e w5 ⟨b2, m2, rfl, hF, ht, hb2, hm2, hne2⟩
  have F5 := Lib.hid hF
  have F15 := Lib.hid (F4.out.kept ht (by simp) (by simp))
  have B5 := Lib.hid (touch_box ht B4.out (by simp))
  have T5 := Lib.hid (T4.out.trans ht (by simp))
  have HT5 := Lib.hid (HT4.out.kept ht (by simp))
  have N2 := Lib.hid (And.intro hb2 (And.intro hm2 hne2))
  have Z4 := Lib.hid T4.out.size
  have L4 := Lib.hid F4.out.lt
  have S4 := Lib.hid (HT4.out.lt)
  clear hF ht hb2 hm2 hne2 B4 T4 HT4 F4
  obtain ⟨q0, q1, q2, q3, q4, q5⟩ := six_cells B5.out
  have qf := fun o => rt_frozen B5.out o
  go_wp2
  go_end0
  have e1 := HL.out
  have e2 := HTB.out
  have e3 := N1.out
  have e4 := N2.out
  have e5 := Z2.out
  have e6 := Z4.out
  have e7 := L4.out
  have e8 := S2.out
  have T56 : Touch [kb] w5 (w5.setCell ⟨kb, 5, none⟩ (.pointer (some ⟨b2, 0, none⟩))) := (Touch.refl [kb] w5).setCell _ _ (.inl (by simp))
  have B6 := box_set (o := 5) B5.out (.pointer (some ⟨b2, 0, none⟩))
  simp only [List.setIfInBounds_toArray, List.set_cons_succ, List.set_cons_zero] at B6
  refine ⟨rfl, tb, b1, m1, b2, m2, [tb], ⟨B6, HT5.out.kept T56 (by simp; omega), F15.out.kept T56 (by simp; omega) (by simp; omega), F5.out.kept T56 (by simp; omega) (by simp; omega), ?_, ?_⟩, T5.out.trans T56 (by simp), ?_⟩
  · simp
    refine ⟨⟨?_, ?_, ?_, ?_⟩, ⟨?_, ?_, ?_⟩, ⟨?_, ?_⟩, ?_⟩ <;> omega
  · simp
    refine ⟨?_, ?_, ?_, ?_, ?_⟩ <;> omega
  · simp
    refine ⟨?_, ?_, ?_, ?_, ?_⟩ <;> omega
end Go.Proofs.YtnpeafhjcelpfaaGreat.Tri
