/- begun; no condition. -/
import Derived.Test.YtmklkdhpbehfeaaBG
namespace Go.Proofs.Ytmklkdhpbehfeaa.Tri
open Go.RowKit Go.Maps
set_option linter.unusedVariables false

def p0 : Px := ⟨167772160, 8⟩
theorem p0_ok : p0.ok := by unfold p0 Px.ok maskOf; decide
theorem put0 {w : World} {tb : Nat} {S : List Nat} (h : TrieAt w tb .nil S 0) :
    Calls Try.prog 17 #[.pointer (some ⟨tb, 0, none⟩), .agg #[.int .u32 167772160, .int .i64 8], .int .i64 7] w (PutPost w tb .nil S p0 7) :=
  put_calls h p0 7 p0_ok (by decide)
theorem find0 {w : World} {tb : Nat} {S : List Nat} {t : T} {k : Nat} (h : TrieAt w tb t S k) :
    Calls Try.prog 19 #[.pointer (some ⟨tb, 0, none⟩), .int .u32 167772169] w (FindPost w (find t 167772169 none)) :=
  find_calls h 167772169 (by decide)
theorem get0 {w : World} {tb : Nat} {S : List Nat} {t : T} {k : Nat} (h : TrieAt w tb t S k) :
    Calls Try.prog 53 #[.pointer (some ⟨tb, 0, none⟩), .agg #[.int .u32 167772160, .int .i64 8]] w (GetPost w t p0) :=
  get_calls h p0 p0_ok
theorem hang0 : (hang .nil p0 7).1 = .node p0 (some 7) .nil .nil := rfl
theorem f0_is : find (.node p0 (some 7) .nil .nil) 167772169 none = some (p0, 7) := by decide
theorem s0_is : seek (.node p0 (some 7) .nil .nil) p0 = some 7 := by decide
theorem px0_eq (w : World) : (binOp .eql 32 (.agg #[.int .u32 p0.a, .int .i64 p0.n]) (.agg #[.int .u32 167772160, .int .i64 8])).run Try.prog w = .ok (.bool true) w := px_eql _ _ _ _ true (by decide) w
set_option maxHeartbeats 800000 in
set_option maxRecDepth 100000 in
theorem begun_calls (w : World) : Calls Try.prog 58 #[] w fun e w' => e = .returned (.bool true) ∧ Touch [] w w' := by
  have hg := guard32
  have heq := px0_eq
  go_enter Try.func58, Try.ntmps58
  go_wp2_with fail
  refine (new_calls _).mono ?_
  rintro e w1 ⟨rfl, h1, t1⟩
  have H1 := Lib.hid h1
  have T1 := Lib.hid t1
  clear h1 t1
  have hne : w.heap.size ≠ w1.heap.size := by have := H1.out.lt w.heap.size (by simp); omega
  go_wp2_with fail
  have t2 : Touch [] w1 (w1.alloc (.cells #[.int .u32 167772160, .int .i64 8] 32)) := (Touch.refl [] w1).alloc _
  have X2 := Lib.hid (box_at w1 (.cells #[.int .u32 167772160, .int .i64 8] 32))
  refine (put0 (H1.out.kept t2 (by simp))).mono ?_
  rintro e w3 ⟨rfl, S', k', h3, t3, hs3⟩
  rw [hang0] at h3
  have hk : k' = 1 := h3.len
  subst hk
  have H3 := Lib.hid h3
  have T3 : Hid (Touch [] w w3) := Lib.hid ((T1.out.trans t2 (by simp)).trans t3 (fun x hx => .inr (by simp at hx; omega)))
  have X3 := Lib.hid (touch_box t3 X2.out (by simp; exact fun e => hne e.symm))
  clear h3 t3 hs3 t2
  go_wp2_with fail
  refine (find0 H3.out).mono ?_
  rintro e w4 ⟨t4, hh⟩
  have T4 := Lib.hid (T3.out.trans t4 (by simp))
  have H4 := Lib.hid (H3.out.kept t4 (by simp))
  have X4 := Lib.hid (touch_box t4 X3.out (by simp))
  clear t4
  rw [f0_is] at hh
  rcases hh with ⟨hn, _⟩ | ⟨q, v, hq, rfl⟩
  · cases hn
  have hq1 : q = p0 ∧ v = 7 := by injection hq with hq; injection hq with hq1 hq2; exact ⟨hq1.symm, hq2.symm⟩
  obtain ⟨rfl, rfl⟩ := hq1
  clear hq
  obtain ⟨d0, d1, _⟩ := two_cells X4.out
  have t5 : ∀ o, Touch [] w4 (w4.alloc o) := fun o => (Touch.refl [] w4).alloc o
  have dd0 := fun o => cell_touch (t5 o) d0 (by simp)
  have dd1 := fun o => cell_touch (t5 o) d1 (by simp)
  go_wp2_with fail
  refine (get0 (H4.out.kept ((Touch.refl [] w4).alloc _) (by simp))).mono ?_
  rintro e w5 ⟨t6, hh⟩
  obtain ⟨z0, z1, _⟩ := two_cells (touch_box t6 (box_at w4 (.cells #[.int .u32 p0.a, .int .i64 p0.n] 32)) (by simp))
  have e0 := cell_touch t6 (dd0 (.cells #[.int .u32 p0.a, .int .i64 p0.n] 32 (0, 0))) (by simp)
  have e1 := cell_touch t6 (dd1 (.cells #[.int .u32 p0.a, .int .i64 p0.n] 32 (0, 0))) (by simp)
  have T5 := Lib.hid ((T4.out.trans (t5 (.cells #[.int .u32 p0.a, .int .i64 p0.n] 32 (0, 0))) (by simp)).trans t6 (by simp))
  have H5 := Lib.hid ((H4.out.kept (t5 (.cells #[.int .u32 p0.a, .int .i64 p0.n] 32 (0, 0))) (by simp)).kept t6 (by simp))
  clear t6 dd0 dd1 d0 d1 t5
  rw [s0_is] at hh
  rcases hh with ⟨hn, _⟩ | ⟨u, hu, rfl⟩
  · cases hn
  obtain rfl : (7 : Int) = u := by injection hu
  clear hu
  go_wp2_with fail
  refine (len_calls H5.out).mono ?_
  rintro e w6 ⟨rfl, hw⟩
  obtain rfl := hw.symm
  go_wp2_with fail
  refine (nodes_calls H5.out (by decide)).mono ?_
  rintro e w7 ⟨rfl, t7⟩
  have T7 := Lib.hid (T5.out.trans t7 (by simp))
  have ts : ((tsize (T.node p0 (some 7) T.nil T.nil) : Nat) : Int) = 1 := rfl
  rw [ts]
  clear t7
  go_wp2
  go_ret
  exact ⟨rfl, T7.out⟩
end Go.Proofs.Ytmklkdhpbehfeaa.Tri
