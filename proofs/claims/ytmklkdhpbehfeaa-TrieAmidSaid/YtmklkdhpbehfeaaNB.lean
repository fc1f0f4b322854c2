/- The reference: forks; no condition. -/
import Derived.Test.YtmklkdhpbehfeaaNA
import Derived.Test.YtmklkdhpbehfeaaRD
namespace Go.Proofs.Ytmklkdhpbehfeaa.Tri
open Go.RowKit Go.Maps
set_option linter.unusedVariables false

theorem FirstR.side {l : List Ent} {q p : Px} {b : Nat} {r : Int} (hok : ∀ e ∈ l, e.1.ok) (hi : ∀ e : Px, e.n ≤ 32 → (ins e p ↔ onSide e q b)) (h : FirstR l p r) :
    (r < 0 ∧ ¬ ∃ e, e ∈ l ∧ onSide e.1 q b) ∨ (0 ≤ r ∧ ∃ e, e ∈ l ∧ onSide e.1 q b) := by
  rcases h with ⟨h1, h2⟩ | ⟨k, h1, ⟨e, he, hx⟩, _⟩
  · refine .inl ⟨by omega, fun ⟨e, he, hs⟩ => h2 e he ((hi e.1 (hok e he).1).2 hs)⟩
  · exact .inr ⟨by omega, e, List.mem_of_getElem? he, (hi e.1 (hok e (List.mem_of_getElem? he)).1).1 hx⟩
set_option maxHeartbeats 4000000 in
set_option maxRecDepth 100000 in
theorem forks_calls {w : World} {rb : Nat} {V : Value} {l : List Ent} (h : RefT w rb V l) (q : Px) (hq : q.ok) (hn : q.n < 32) (hlen : l.length < 4611686018427387904) (r : Bool) (hr : r = true ↔ Forks l q) :
    Calls Try.prog 86 #[.pointer (some ⟨rb, 0, none⟩), .agg #[.int .u32 q.a, .int .i64 q.n]] w fun e w' => e = .returned (.bool r) ∧ Touch [] w w' := by
  have H := Lib.hid h
  have HOK := Lib.hid h.oks
  have HL := Lib.hid (left_ok hq hn)
  have HRR := Lib.hid (right_ok hq hn).1
  have hil := fun e he => ins_left (e := e) he hq hn
  have hir := fun e he => ins_right (e := e) he hq hn
  have hpw := pow_bd (n := q.n + 1) (by omega)
  obtain ⟨x, hx⟩ : ∃ x : Nat, x = 2 ^ (32 - (q.n + 1)) := ⟨_, rfl⟩
  rw [← hx] at HRR hir hpw
  have HX := Lib.hid hx
  have HIL := Lib.hid hil
  have HIR := Lib.hid hir
  have HR := Lib.hid hr
  have hsum : q.a + x < 4294967296 := HRR.out.2.1
  have hqa := hq.2.1
  obtain ⟨hp1, hp2⟩ := hpw
  have F0 : Hid (∀ w', Touch [] w w' → Calls Try.prog 82 #[.pointer (some ⟨rb, 0, none⟩), .agg #[.int .u32 q.a, .int .i64 q.n]] w' (RFindPost w' l q)) := Lib.hid (fun w' t => rfind_calls (H.out.kept t (by simp)) q hlen)
  have F1 : Hid (∀ w', Touch [] w w' → Calls Try.prog 85 #[.pointer (some ⟨rb, 0, none⟩), .agg #[.int .u32 q.a, .int .i64 ((q.n : Int) + 1)]] w' (RFirstPost w' l ⟨q.a, q.n + 1⟩)) := Lib.hid (fun w' t => rfirst_calls (H.out.kept t (by simp)) ⟨q.a, q.n + 1⟩ HL.out hlen)
  have F2 : Hid (∀ w', Touch [] w w' → Calls Try.prog 85 #[.pointer (some ⟨rb, 0, none⟩), .agg #[.int .u32 ((q.a : Int) + (x : Int)), .int .i64 ((q.n : Int) + 1)]] w' (RFirstPost w' l ⟨q.a + x, q.n + 1⟩)) := Lib.hid (fun w' t => rfirst_calls (H.out.kept t (by simp)) ⟨q.a + x, q.n + 1⟩ HRR.out hlen)
  have FS : Hid (∀ w', Calls Try.prog 84 #[.int .i64 ((q.n : Int) + 1)] w' fun e w'' => e = .returned (.int .i64 (x : Int)) ∧ w'' = w') := Lib.hid (fun w' => by rw [HX.out]; exact size_calls (q.n + 1) w' (by omega))
  have hwr : IntKind.i64.wrap ((q.n : Int) + 1) = (q.n : Int) + 1 := by rw [IntKind.wrap_i64]; omega
  have hwx : IntKind.u32.wrap (x : Int) = (x : Int) := by rw [IntKind.wrap_u32]; have := hq.2.1; omega
  have hwa : IntKind.u32.wrap ((q.a : Int) + (x : Int)) = (q.a : Int) + (x : Int) := by rw [IntKind.wrap_u32]; omega
  clear h hx hil hir hr hq
  go_enter Try.func86, Try.ntmps86
  go_wp2_with fail
  obtain ⟨W1, hW1⟩ : ∃ W1 : World, W1 = (w.alloc (.cells #[.int .u32 q.a, .int .i64 q.n] 32)).alloc (.cells #[.int .u32 q.a, .int .i64 ((q.n : Int) + 1)] 32) := ⟨_, rfl⟩
  have X1 := Lib.hid (show W1.heap[w.heap.size]? = some (.cells #[.int .u32 q.a, .int .i64 q.n] 32 (0, 0)) by rw [hW1]; exact box_keep _ (box_at w _))
  have Y1 := Lib.hid (show W1.heap[w.heap.size + 1]? = some (.cells #[.int .u32 q.a, .int .i64 ((q.n : Int) + 1)] 32 (0, 0)) by rw [hW1]; exact box_at' _ _ _ (by simp))
  have T1 := Lib.hid (show Touch [] w W1 by rw [hW1]; exact ((Touch.refl [] w).alloc _).alloc _)
  have hs1 : W1.heap.size = w.heap.size + 1 + 1 := by rw [hW1]; simp
  rw [← hW1]
  clear hW1
  obtain ⟨d0, d1, _⟩ := two_cells X1.out
  go_upto_region 3 with (fail)
  go_cut [6] (fun v6 wc => ∃ b : Nat, v6 = .pointer (some ⟨b, 0, none⟩) ∧ Hid (wc.heap[b]? = some (.cells #[.int .u32 ((q.a : Int) + (x : Int)), .int .i64 ((q.n : Int) + 1)] 32 (0, 0))) ∧ Hid (Touch [] W1 wc))
  case first =>
    go_region_held3 (fun w' => w'.cell? ⟨w.heap.size, 0, none⟩ = some (.int .u32 q.a) ∧ w'.cell? ⟨w.heap.size, 1, none⟩ = some (.int .i64 q.n))
      (go_keep)
      (first | (go_at_call 84; refine (FS.out _).mono ?_; rintro e w7 ⟨rfl, hw7⟩; obtain rfl := hw7.symm))
    all_goals
      go_wp2
      go_meet
      case rel => exact ⟨_, rfl, Lib.hid (box_at' W1 _ _ hs1), Lib.hid (((Touch.refl [] W1).alloc _).drew)⟩
  case rest =>
  obtain ⟨b, rfl, hB, hT⟩ := hcut
  have T2 := Lib.hid (T1.out.trans hT.out (by simp))
  have X2 := Lib.hid (touch_box hT.out X1.out (by simp))
  have Y2 := Lib.hid (touch_box hT.out Y1.out (by simp))
  clear d0 d1 hT T1 X1 Y1 hs1
  obtain ⟨d0, d1, _⟩ := two_cells X2.out
  go_wp2_with fail
  refine (F0.out _ T2.out).mono ?_
  rintro e w3 ⟨r1, rfl, hf, t3⟩
  have T3 := Lib.hid (T2.out.trans t3 (by simp))
  have Y3 := Lib.hid (touch_box t3 Y2.out (by simp))
  have B3 := Lib.hid (touch_box t3 hB.out (by simp))
  clear t3 d0 d1 T2 X2 Y2 hB
  rcases hf with ⟨rfl, hno⟩ | ⟨k, v, rfl, hk⟩
  · have HN := Lib.hid hno
    clear hno
    obtain ⟨e0, e1, _⟩ := two_cells Y3.out
    go_wp2_with fail
    refine (F1.out _ T3.out).mono ?_
    rintro e w4 ⟨r2, rfl, hf2, t4⟩
    have T4 := Lib.hid (T3.out.trans t4 (by simp))
    have B4 := Lib.hid (touch_box t4 B3.out (by simp))
    have HF2 := Lib.hid (hf2.side HOK.out HIL.out)
    clear t4 e0 e1 T3 Y3 B3 hf2
    rcases HF2.out with ⟨h1, h2⟩ | ⟨h1, h2⟩
    · have hrf : r = false := by rw [Bool.eq_false_iff]; intro hx; exact h2 (HR.out.1 hx).2.1
      subst hrf
      have b2 : decide (0 ≤ r2) = false := by rw [decide_eq_false_iff_not]; omega
      clear HF2 h2 HR
      go_wp2
      go_ret
      exact ⟨rfl, T4.out⟩
    · have HL1 := Lib.hid h2
      have b2 : decide (0 ≤ r2) = true := by rw [decide_eq_true_eq]; exact h1
      clear HF2 h2
      obtain ⟨e0, e1, _⟩ := two_cells B4.out
      go_wp2_with fail
      refine (F2.out _ T4.out).mono ?_
      rintro e w5 ⟨r3, rfl, hf3, t5⟩
      have T5 := Lib.hid (T4.out.trans t5 (by simp))
      have HF3 := Lib.hid (hf3.side HOK.out HIR.out)
      clear t5 e0 e1 T4 B4 hf3
      rcases HF3.out with ⟨h1, h2⟩ | ⟨h1, h2⟩
      · have hrf : r = false := by rw [Bool.eq_false_iff]; intro hx; exact h2 (HR.out.1 hx).2.2
        subst hrf
        have b3 : decide (0 ≤ r3) = false := by rw [decide_eq_false_iff_not]; omega
        clear HF3 h2 HR
        go_wp2
        go_ret
        exact ⟨rfl, T5.out⟩
      · have hrt : r = true := HR.out.2 ⟨HN.out, HL1.out, h2⟩
        subst hrt
        have b3 : decide (0 ≤ r3) = true := by rw [decide_eq_true_eq]; exact h1
        clear HF3 h2 HR
        go_wp2
        go_ret
        exact ⟨rfl, T5.out⟩
  · have hrf : r = false := by rw [Bool.eq_false_iff]; intro hx; exact (HR.out.1 hx).1 v (List.mem_of_getElem? hk)
    subst hrf
    have b1 : decide ((k : Int) < 0) = false := by rw [decide_eq_false_iff_not]; omega
    clear hk HR
    go_wp2
    go_ret
    exact ⟨rfl, T3.out⟩
end Go.Proofs.Ytmklkdhpbehfeaa.Tri
