/- The tree of routes: Del, Len; no condition. -/
import Derived.Test.YtnpeafhjcelpfaaGreatKH
namespace Go.Proofs.YtnpeafhjcelpfaaGreat.Tri
open Go.RowKit Go.Maps
set_option linter.unusedVariables false
set_option linter.unusedSimpArgs false

def DelPost (w : World) (tb : Nat) (t : T) (S : List Nat) (p : Px) (e : Ending) (w' : World) : Prop :=
  (seek t p = none ∧ e = .returned (.tuple #[zeroRt, .int .i64 3]) ∧ Touch [] w w') ∨ ∃ v : Int, seek t p = some v ∧ e = .returned (.tuple #[rtV p v, .int .i64 0]) ∧ ∃ S' k', TrieAt w' tb (take t p) S' k' ∧ Touch S w w' ∧ ∀ x ∈ S', x ∈ S
set_option maxHeartbeats 4000000 in
set_option maxRecDepth 100000 in
theorem del_calls {w : World} {tb : Nat} {t : T} {S : List Nat} {k : Nat} (h : TrieAt w tb t S k) (p : Px) (hp : p.ok) (hk : k < 4611686018427387904) :
    Calls Tryz.prog 153 #[.pointer (some ⟨tb, 0, none⟩), .agg #[.int .u32 p.a, .int .i64 p.n]] w (DelPost w tb t S p) := by
  have HA := Lib.hid h
  have HO := Lib.hid h.ok
  have HK := Lib.hid h.len
  have HP := Lib.hid hp
  have HSL := Lib.hid h.lt
  clear h hp
  go_enter Tryz.func153, Tryz.ntmps153
  go_upto_region 1 with (fail)
  obtain ⟨W0, hW0⟩ : ∃ W0 : World, W0 = (w.alloc (.cells #[.int .u32 p.a, .int .i64 p.n] 47)).alloc (.cells #[.int .u32 0, .int .i64 0, .int .u32 0, .bool false] 49) := ⟨_, rfl⟩
  rw [← hW0]
  obtain ⟨b0, hb0⟩ : ∃ b0, b0 = w.heap.size := ⟨_, rfl⟩
  obtain ⟨b1, hb1⟩ : ∃ b1, b1 = w.heap.size + 1 := ⟨_, rfl⟩
  have X0 := Lib.hid (show W0.heap[b0]? = some (.cells #[.int .u32 p.a, .int .i64 p.n] 47 (0, 0)) by rw [hW0, hb0]; exact box_keep _ (box_at w _))
  have R0 := Lib.hid (show W0.heap[b1]? = some (.cells #[.int .u32 0, .int .i64 0, .int .u32 0, .bool false] 49 (0, 0)) by rw [hW0, hb1]; exact box_at' _ _ _ (by simp))
  have T0 := Lib.hid (show Touch [] w W0 by rw [hW0]; exact ((Touch.refl [] w).alloc _).alloc _)
  have HB1 : Hid (w.heap.size ≤ b1) := Lib.hid (by omega)
  rw [← hb1, ← hb0]
  clear hb0 hb1 hW0
  obtain ⟨d0, d1, _⟩ := two_cells X0.out
  go_wp2_with fail
  refine (get_calls (HA.out.kept T0.out (by simp)) p HP.out).mono ?_
  rintro e w1 ⟨ht, hh⟩
  have T1 := Lib.hid (T0.out.trans ht (by simp))
  have X := Lib.hid (touch_box ht X0.out (by simp))
  have R1 := Lib.hid (touch_box ht R0.out (by simp))
  clear ht X0 R0 T0 d0 d1
  rcases hh with ⟨hn, rfl⟩ | ⟨v, hv, rfl⟩
  · have HN := Lib.hid hn
    obtain ⟨W2, hW2⟩ : ∃ W2 : World, W2 = w1.alloc (.cells #[.int .u32 0, .int .i64 0, .int .u32 0, .bool false] 49) := ⟨_, rfl⟩
    have R2 := Lib.hid (show W2.heap[b1]? = some (.cells #[.int .u32 0, .int .i64 0, .int .u32 0, .bool false] 49 (0, 0)) by rw [hW2]; exact box_keep _ R1.out)
    have V2 := Lib.hid (show W2.heap[w1.heap.size]? = some (.cells #[.int .u32 0, .int .i64 0, .int .u32 0, .bool false] 49 (0, 0)) by rw [hW2]; exact box_at _ _)
    have T2 := Lib.hid (show Touch [] w W2 by rw [hW2]; exact T1.out.alloc _)
    obtain ⟨W3, hW3, k3, t3⟩ := rt_set R2.out (.int .u32 0) (.int .i64 0) (.int .u32 0) (.bool false)
    have HW2 := Lib.hid hW2
    have HW3 := Lib.hid hW3
    have K3 := Lib.hid k3
    have T3 := Lib.hid t3
    clear hn hW2 hW3 k3 t3
    unfold zeroRt
    go_upto_region 5 with (fail)
    rw [← HW2.out]
    clear HW2
    obtain ⟨r0, r1, r2, r3⟩ := rt_cells R2.out
    obtain ⟨z0, z1, z2, z3⟩ := rt_cells V2.out
    have rf := fun o => rt_frozen R2.out o
    go_wp2
    rw [← HW3.out]
    clear r0 r1 r2 r3 z0 z1 z2 z3 rf HW3
    obtain ⟨r0, r1, r2, r3⟩ := rt_cells K3.out
    refine bodyPost_ret (v := .tuple #[zeroRt, .int .i64 3]) (by simp [results, Tryz.results153, go_sem, r0, r1, r2, r3, zeroRt]) rfl ?_
    exact .inl ⟨HN.out, rfl, T2.out.trans T3.out (fun x hx => .inr (by simp at hx; rw [hx]; exact HB1.out))⟩
  · have HV := Lib.hid hv
    have HM := Lib.hid ((seek_is t p v HO.out HP.out).1 hv)
    clear hv
    obtain ⟨pv, S0, hb, hT, h1, hS⟩ := HA.out.at_
    subst hS
    have HB := Lib.hid hb
    have HT := Lib.hid hT
    have H1 := Lib.hid h1
    have HLT := Lib.hid (Array.getElem?_eq_some_iff.1 hb).1
    clear hb hT h1
    obtain ⟨W2, hW2⟩ : ∃ W2 : World, W2 = w1.alloc (.cells #[.int .u32 p.a, .int .i64 p.n, .int .u32 (rV v), .bool (rL v)] 49) := ⟨_, rfl⟩
    obtain ⟨b3, hb3⟩ : ∃ b3, b3 = w1.heap.size := ⟨_, rfl⟩
    have R2 := Lib.hid (show W2.heap[b1]? = some (.cells #[.int .u32 0, .int .i64 0, .int .u32 0, .bool false] 49 (0, 0)) by rw [hW2]; exact box_keep _ R1.out)
    have X2 := Lib.hid (show W2.heap[b0]? = some (.cells #[.int .u32 p.a, .int .i64 p.n] 47 (0, 0)) by rw [hW2]; exact box_keep _ X.out)
    have V2 := Lib.hid (show W2.heap[b3]? = some (.cells #[.int .u32 p.a, .int .i64 p.n, .int .u32 (rV v), .bool (rL v)] 49 (0, 0)) by rw [hW2, hb3]; exact box_at _ _)
    have T2 := Lib.hid (show Touch [] w W2 by rw [hW2]; exact T1.out.alloc _)
    have HB3 : Hid (w.heap.size ≤ b3 ∧ b3 ≠ b1) := Lib.hid (by
      have h1 := T1.out.size
      have h2 := (Array.getElem?_eq_some_iff.1 R1.out).1
      omega)
    have HW2 := Lib.hid hW2
    clear hW2 X R1 T1
    unfold rtV
    go_upto_region 3 with (fail)
    rw [← HW2.out, ← hb3]
    clear HW2 hb3
    have B := Lib.hid (touch_box T2.out HB.out (by simp))
    obtain ⟨c0, c1, f0, f1⟩ := two_cells B.out
    obtain ⟨d0, d1, _⟩ := two_cells X2.out
    go_cut [] from 16 to 24 (fun wc => ∃ (x : Option Addr) (S' : List Nat), Hid (wc.heap[tb]? = some (.cells #[.pointer x, .int .i64 k] 151 (0, 0))) ∧ Hid (Tr wc (take t p) (.pointer x) S') ∧ Hid (Touch (tb :: S0) W2 wc) ∧ Hid (∀ y ∈ S', y ∈ S0) ∧ Hid (tb ∉ S'))
    case first =>
      go_region_law (first | (go_simp; go_at_call 156; refine (taken_calls t (.pointer pv) S0 _ p v (by exact (HT.out.kept T2.out (by simp)).kept (by first | exact (Touch.refl [] _).drew | exact (Touch.refl [] _).drewN _ | exact Touch.refl [] _) (by simp)) HO.out HP.out HM.out).mono ?_; rintro e w5 ⟨pv', S', rfl, hT, hTo, hS⟩; have k4 := cell_touch hTo (a := ⟨tb, 0, none⟩) (v := .pointer pv) (by simp [c0]) H1.out; have kf := frozen_touch hTo (b := tb) (o := 0) (v := .pointer pv) (by simp [c0]) (by simp [f0]) H1.out))
      all_goals
        go_wp2
        go_meet
        case rel =>
          obtain ⟨g1, g2, g3, g4, g5⟩ := close_put (Nat.lt_of_lt_of_le HLT.out T2.out.size) H1.out (Touch.refl [] W2) B.out (by first | exact (Touch.refl [] _).drew | exact (Touch.refl [] _).drewN _ | exact Touch.refl [] _) hTo hT (fun k hk => .inl (hS k hk))
          exact ⟨pv', S', Lib.hid g1, Lib.hid g2, Lib.hid g3, Lib.hid hS, Lib.hid g5⟩
    case rest =>
    obtain ⟨x, S', hB, hT, hTo, hS, hn⟩ := hcut
    have HI := Lib.hid (take_is t p v HO.out HM.out)
    have HL := Lib.hid (len_take HO.out HM.out)
    have hk1 : 1 ≤ k := by rw [HK.out, HL.out]; omega
    clear c0 c1 f0 f1 d0 d1 X2 B
    obtain ⟨W5, hW5⟩ : ∃ W5, W5 = wc := ⟨_, rfl⟩
    rw [← hW5] at hB hT hTo ⊢
    have R5 := Lib.hid (touch_box hTo.out R2.out (fun hm => by have := HSL.out b1 hm; have := HB1.out; omega))
    have V5 := Lib.hid (touch_box hTo.out V2.out (fun hm => by have := HSL.out b3 hm; have := HB3.out; omega))
    obtain ⟨W6, hW6⟩ : ∃ W6 : World, W6 = W5.setCell ⟨tb, 1, none⟩ (.int .i64 ((k : Int) - 1)) := ⟨_, rfl⟩
    have t6 : Touch [tb] W5 W6 := by rw [hW6]; exact (Touch.refl _ _).setCell _ _ (.inl (by simp))
    have hlt0 := HLT.out
    have R6 := Lib.hid (touch_box t6 R5.out (by have := HB1.out; simp; omega))
    have V6 := Lib.hid (touch_box t6 V5.out (by have := HB3.out; simp; omega))
    have FIN : Hid (TrieAt W6 tb (take t p) (tb :: S') (k - 1)) := Lib.hid ⟨⟨x, S', by
      have := box_set (o := 1) hB.out (.int .i64 ((k : Int) - 1))
      rw [hW6, show ((k - 1 : Nat) : Int) = (k : Int) - 1 by omega]
      simpa using this, hT.out.kept t6 (fun y hy => by simp; rintro rfl; exact hn.out hy), hn.out, rfl⟩, HI.out.ok, by rw [HK.out, HL.out]; rfl⟩
    have T6 := Lib.hid ((T2.out.mono (S' := tb :: S0) (by simp)).trans (hTo.out.trans t6 (fun y hy => .inl (by simp at hy; simp [hy]))) (fun x hx => .inl hx))
    have HW6 := Lib.hid hW6
    obtain ⟨c0, c1, f0, f1⟩ := two_cells hB.out
    clear hW5 hW6 t6 R5 V5 hlt0
    go_upto_region 5 with (fail)
    rw [← HW6.out]
    clear c0 c1 f0 f1 HW6 hB hT hTo
    obtain ⟨W7, hW7, k7, t7⟩ := rt_set R6.out (.int .u32 p.a) (.int .i64 p.n) (.int .u32 (rV v)) (.bool (rL v))
    have HW7 := Lib.hid hW7
    have K7 := Lib.hid k7
    have T7 := Lib.hid t7
    obtain ⟨r0, r1, r2, r3⟩ := rt_cells R6.out
    obtain ⟨z0, z1, z2, z3⟩ := rt_cells V6.out
    have rf := fun o => rt_frozen R6.out o
    clear hW7 k7 t7
    go_wp2
    rw [← HW7.out]
    clear r0 r1 r2 r3 z0 z1 z2 z3 rf HW7
    obtain ⟨r0, r1, r2, r3⟩ := rt_cells K7.out
    refine bodyPost_ret (v := .tuple #[rtV p v, .int .i64 0]) (by simp [results, Tryz.results153, go_sem, r0, r1, r2, r3, rtV]) rfl ?_
    refine .inr ⟨v, HV.out, rfl, tb :: S', k - 1, FIN.out.kept T7.out (fun y hy => ?_), T6.out.trans T7.out (fun x hx => .inr (by simp at hx; rw [hx]; exact HB1.out)), fun y hy => ?_⟩
    · have hb1 := HB1.out
      have hlt := HLT.out
      simp only [List.mem_singleton]
      rintro rfl
      rcases List.mem_cons.1 hy with h | h
      · omega
      · have := HSL.out y (by simp [hS.out y h]); omega
    · rcases List.mem_cons.1 hy with rfl | hy
      · simp
      · simp [hS.out y hy]
set_option maxHeartbeats 400000 in
theorem len_calls {w : World} {tb : Nat} {t : T} {S : List Nat} {k : Nat} (h : TrieAt w tb t S k) :
    Calls Tryz.prog 148 #[.pointer (some ⟨tb, 0, none⟩)] w fun e w' => e = .returned (.int .i64 k) ∧ w' = w := by
  obtain ⟨pv, S0, hb, hT, h1, rfl⟩ := h.at_
  obtain ⟨c0, c1, f0, f1⟩ := two_cells hb
  clear hb hT h1 h
  go_enter Tryz.func148, Tryz.ntmps148
  go_wp2
  go_ret
  exact ⟨rfl, rfl⟩
end Go.Proofs.YtnpeafhjcelpfaaGreat.Tri
