/- plays: Find, Len; TrieFinds called; no condition. -/
import Derived.Test.YtmklkdhpbehfeaaPZ
import Derived.Test.YtmklkdhpbehfeaaOO
namespace Go.Proofs.Ytmklkdhpbehfeaa.Tri
open Go.RowKit Go.Maps
set_option linter.unusedVariables false

set_option maxHeartbeats 4000000 in
set_option maxRecDepth 100000 in
theorem plays_find {w : World} {P : Duo} (h : DuoAt w P) (wh : Int) (a : Nat) (m : Int) (A : Nat) (v : Int) (hA : A < 4294967296) (hk : P.k < 4000000000000) :
    Calls Try.prog 60 #[.pointer (some ⟨P.tb, 0, none⟩), .pointer (some ⟨P.rb, 0, none⟩), opV 4 wh a m A v] w (PlaysPost w P) := by
  have H := Lib.hid h
  have HE := Lib.hid h.a.len
  have t0 : Touch [] w (w.alloc (.cells (opC 4 wh a m A v) 127)) := (Touch.refl [] w).alloc _
  have T0 := Lib.hid t0
  have X0 := Lib.hid (box_at w (.cells (opC 4 wh a m A v) 127 (0, 0)))
  have hg := guard32
  clear h t0
  unfold opV
  go_enter Try.func60, Try.ntmps60
  go_wp2_with fail
  refine (find_calls (H.out.kept T0.out (by simp)).a A hA).mono ?_
  rintro e w1 ⟨t1, hh⟩
  have T1 := Lib.hid (T0.out.trans t1 (by simp))
  have X1 := Lib.hid (touch_box t1 X0.out (by simp))
  clear t1
  rcases hh with ⟨hn, rfl⟩ | ⟨q, u, hq, rfl⟩
  · have HN := Lib.hid hn
    clear hn
    obtain ⟨x0, x1, x2, x3, x4, x5⟩ := op_cells X1.out
    have ta : ∀ o, Touch [] w1 (w1.alloc o) := fun o => (Touch.refl [] w1).alloc o
    have xx4 := fun o => cell_touch (ta o) x4 (by simp)
    have heq := fun w => px_eql 0 0 0 0 true (by rfl) w
    go_wp2_with fail
    refine (rfind2_calls (l := ents P.t) ((H.out.kept T1.out (by simp)).b.kept (ta _) (by simp)) A hA (by rw [← HE.out]; omega)).mono ?_
    rintro e w2 ⟨t2, r, hb, hh⟩
    have HB := bestE_find H.out.a.ok hb
    rcases hh with ⟨rfl, rfl⟩ | ⟨k, q, u, rfl, hx, rfl⟩
    · obtain ⟨y0, y1, _⟩ := two_cells (touch_box t2 (box_at w1 (.cells #[.int .u32 0, .int .i64 0] 32)) (by simp))
      have T2 := Lib.hid ((T1.out.trans (ta (.cells #[.int .u32 0, .int .i64 0] 32 (0, 0))) (by simp)).trans t2 (by simp))
      have ta2 : ∀ o, Touch [] w2 (w2.alloc o) := fun o => (Touch.refl [] w2).alloc o
      have yy0 := fun o => cell_touch (ta2 o) y0 (by simp)
      have yy1 := fun o => cell_touch (ta2 o) y1 (by simp)
      have TX := Lib.hid (T2.out.trans (ta2 (.cells #[.int .u32 0, .int .i64 0] 32 (0, 0))) (by simp))
      clear t2 ta ta2 hb HB
      go_wp2
      go_ret
      exact ⟨rfl, _, DuoStep.same H.out TX.out⟩
    · exfalso
      rcases HB with ⟨h1, _⟩ | ⟨k', q', u', _, _, h3⟩
      · omega
      · rw [HN.out] at h3; cases h3
  · have HQ := Lib.hid hq
    clear hq
    obtain ⟨x0, x1, x2, x3, x4, x5⟩ := op_cells X1.out
    have ta : ∀ o, Touch [] w1 (w1.alloc o) := fun o => (Touch.refl [] w1).alloc o
    have xx4 := fun o => cell_touch (ta o) x4 (by simp)
    have heq := fun w => px_eql q.a q.n q.a q.n true (by simp) w
    go_wp2_with fail
    refine (rfind2_calls (l := ents P.t) ((H.out.kept T1.out (by simp)).b.kept (ta _) (by simp)) A hA (by rw [← HE.out]; omega)).mono ?_
    rintro e w2 ⟨t2, r, hb, hh⟩
    have HB := bestE_find H.out.a.ok hb
    rcases hh with ⟨rfl, rfl⟩ | ⟨k, q', u', rfl, hx, rfl⟩
    · exfalso
      rcases HB with ⟨_, h1⟩ | ⟨k', q', u', h3, _⟩
      · rw [HQ.out] at h1; cases h1
      · omega
    · have hs : q = q' ∧ u = u' := by
        rcases HB with ⟨h1, _⟩ | ⟨k', q2, u2, h3, h4, h5⟩
        · omega
        · obtain rfl : k = k' := by omega
          rw [hx] at h4
          cases h4
          rw [HQ.out] at h5
          cases h5
          exact ⟨rfl, rfl⟩
      obtain ⟨rfl, rfl⟩ := hs
      obtain ⟨y0, y1, _⟩ := two_cells (touch_box t2 (box_at w1 (.cells #[.int .u32 q.a, .int .i64 q.n] 32)) (by simp))
      have T2 := Lib.hid ((T1.out.trans (ta (.cells #[.int .u32 q.a, .int .i64 q.n] 32 (0, 0))) (by simp)).trans t2 (by simp))
      have ta2 : ∀ o, Touch [] w2 (w2.alloc o) := fun o => (Touch.refl [] w2).alloc o
      have yy0 := fun o => cell_touch (ta2 o) y0 (by simp)
      have yy1 := fun o => cell_touch (ta2 o) y1 (by simp)
      have TX := Lib.hid (T2.out.trans (ta2 (.cells #[.int .u32 q.a, .int .i64 q.n] 32 (0, 0))) (by simp))
      clear t2 ta ta2 hb HB hx
      go_wp2
      go_ret
      exact ⟨rfl, _, DuoStep.same H.out TX.out⟩
theorem all_low {kd wh : Int} {a : Nat} {m : Int} {A : Nat} {v : Int} (ha : a < 4294967296) (h3 : kd ≤ 3) {w : World} {P : Duo} (h : DuoAt w P) (hk : P.k < 4000000000000) :
    Calls Try.prog 60 #[.pointer (some ⟨P.tb, 0, none⟩), .pointer (some ⟨P.rb, 0, none⟩), opV kd wh a m A v] w (PlaysPost w P) := by
  by_cases h1 : kd < 1
  · exact plays_none h kd wh a m A v (.inl h1)
  · have : kd = 1 ∨ kd = 2 ∨ kd = 3 := by omega
    rcases this with rfl | rfl | rfl
    · exact plays_put h wh a m A v ha hk
    · exact plays_del h wh a m A v ha hk
    · exact plays_get h wh a m A v ha hk
theorem all_finds : PlaysAll 4 4 := by
  intro kd wh a m A v ha hA hin w P h hk
  rcases hin with h3 | h4
  · exact all_low ha h3 h hk
  · obtain rfl : kd = 4 := by omega
    exact plays_find h wh a m A v hA hk
theorem finds_calls {w : World} {A : Option Addr} {n cap : Nat} {l : List OpX} (h : RdO w A n l) (hn : n < 3000000000000) :
    Calls Try.prog 9 #[.slice A n cap] w fun e w' => e = .returned (.bool true) ∧ Touch [] w w' := by
  have H := Lib.hid h
  clear h
  go_enter Try.func9, Try.ntmps9
  go_wp2_with fail
  refine (play_calls 4 4 all_finds H.out hn).mono ?_
  rintro e w1 ⟨rfl, t1⟩
  go_wp2
  go_ret
  exact ⟨rfl, t1⟩
end Go.Proofs.Ytmklkdhpbehfeaa.Tri
