/- The reference: Nodes; no condition. -/
import Derived.Test.YtmklkdhpbehfeaaNB
namespace Go.Proofs.Ytmklkdhpbehfeaa.Tri
open Go.RowKit Go.Maps
set_option linter.unusedVariables false

theorem rowL_yes {l : List Ent} {i : Nat} {e : Ent} {k : Nat} (h : FirstAt l (qOf e k) i ∧ Forks l (qOf e k)) : (rowL l i e (k + 1)).length = (rowL l i e k).length + 1 := by
  simp only [rowL]; rw [if_pos h]; simp
theorem rowL_no {l : List Ent} {i : Nat} {e : Ent} {k : Nat} (h : ¬ (FirstAt l (qOf e k) i ∧ Forks l (qOf e k))) : (rowL l i e (k + 1)).length = (rowL l i e k).length := by
  simp only [rowL]; rw [if_neg h]; simp
theorem allL_next {l : List Ent} {i : Nat} {e : Ent} (h : l[i]? = some e) : (allL l (i + 1)).length = (allL l i).length + (rowL l i e e.1.n).length := by
  simp only [allL]; rw [h]; simp
theorem tdiv_nat (a b : Nat) : (a : Int).tdiv (b : Int) = ((a / b : Nat) : Int) := by
  rw [Int.tdiv_eq_ediv_of_nonneg (by omega)]; push_cast; rfl
set_option maxHeartbeats 8000000 in
set_option maxRecDepth 100000 in
theorem rnodes_calls {w : World} {rb : Nat} {V : Value} {l : List Ent} (h : RefT w rb V l) (hlen : l.length < 4000000000000) :
    Calls Try.prog 79 #[.pointer (some ⟨rb, 0, none⟩)] w fun e w' => e = .returned (.int .i64 ((l.length + (allL l l.length).length : Nat) : Int)) ∧ Touch [] w w' := by
  have H := Lib.hid h
  have HOK := Lib.hid h.oks
  obtain ⟨A, cap, rfl⟩ := h.row.form
  obtain ⟨cb, _⟩ := one_cells h.blk
  have hg := guard32
  have HALL := Lib.hid (allL_le h.oks)
  clear h
  go_enter Try.func79, Try.ntmps79
  go_wp2
  clear cb
  go_loopw [3, 4] (fun v3 v4 wr => ∃ i m : Nat, v3 = .int .i64 m ∧ v4 = .int .i64 i ∧ i ≤ l.length ∧ Hid (m = l.length + (allL l i).length) ∧ Hid (Touch [] w wr)) (fun _ v4 _ => l.length - (intOf v4).toNat)
  case atStart => exact ⟨0, l.length, rfl, rfl, Nat.zero_le _, Lib.hid (by simp [allL]), Lib.hid (Touch.refl _ _)⟩
  case round =>
    obtain ⟨i, m, rfl, rfl, hi, hM, hT⟩ := hrel
    have HR := Lib.hid (H.out.kept hT.out (by simp))
    obtain ⟨cb, _⟩ := one_cells HR.out.blk
    by_cases hlt : i < l.length
    · have b1 : (i : Int) < (l.length : Int) := by omega
      obtain ⟨⟨q, u⟩, hx⟩ : ∃ x, l[i]? = some x := ⟨_, List.getElem?_eq_getElem hlt⟩
      obtain ⟨g, c, hV, hgl, m0, m1, m2, _⟩ := HR.out.cell i _ hx
      injection hV with hV1 hV2 hV3
      subst hV1 hV3
      have hqo := HOK.out _ (List.mem_of_getElem? hx)
      dsimp only at m0 m1 m2 hqo
      have hqn := hqo.1
      have hqa := hqo.2.1
      have HX := Lib.hid hx
      have hmle : m ≤ 200000000000000 := by have := hM.out; have := HALL.out i; omega
      clear hx m2 hV2 hqo
      go_wp2
      obtain ⟨W1, hW1⟩ : ∃ W1 : World, W1 = wr.alloc (.cells #[.int .u32 q.a, .int .i64 q.n] 32) := ⟨_, rfl⟩
      rw [← hW1]
      have X1 := Lib.hid (show W1.heap[wr.heap.size]? = some (.cells #[.int .u32 q.a, .int .i64 q.n] 32 (0, 0)) by rw [hW1]; exact box_at wr _)
      have T1 := Lib.hid (show Touch [] w W1 by rw [hW1]; exact hT.out.alloc _)
      clear hW1 m0 m1 cb HR hT hgl
      generalize wr.heap.size = B at *
      go_loopw [3, 6] (fun v3 v6 wr => ∃ k n : Nat, v3 = .int .i64 n ∧ v6 = .int .i64 k ∧ k ≤ q.n ∧ Hid (n = m + (rowL l i (q, u) k).length) ∧ Hid (Touch [] W1 wr)) (fun _ v6 _ => q.n - (intOf v6).toNat)
      case atStart => exact ⟨0, m, rfl, rfl, Nat.zero_le _, Lib.hid (by simp [rowL]), Lib.hid (Touch.refl _ _)⟩
      case round =>
        obtain ⟨k, n, rfl, rfl, hk, hN, hTk⟩ := hrel
        have T2 := Lib.hid (T1.out.trans hTk.out (by simp))
        have X2 := Lib.hid (touch_box hTk.out X1.out (by simp))
        obtain ⟨d0, d1, _⟩ := two_cells X2.out
        by_cases hkn : k < q.n
        · have b2 : (k : Int) < (q.n : Int) := by omega
          have hnle : n ≤ 300000000000000 := by have := hN.out; have := rowL_le l i (q, u) k; omega
          have hqq : Px.ok ⟨maskOf q.a k, k⟩ := mask_ok hqa (by omega)
          have HQ := Lib.hid hqq
          obtain ⟨x, hx⟩ : ∃ x : Nat, x = 2 ^ (32 - k) := ⟨_, rfl⟩
          obtain ⟨z, hz⟩ : ∃ z : Nat, z = maskOf q.a k := ⟨_, rfl⟩
          have FS : Hid (∀ w', Calls Try.prog 84 #[.int .i64 (k : Int)] w' fun e w'' => e = .returned (.int .i64 (x : Int)) ∧ w'' = w') := Lib.hid (fun w' => by rw [hx]; exact size_calls k w' (by omega))
          have hpw := pow_bd (n := k) (by omega)
          rw [← hx] at hpw
          have hx0 : ¬ (x : Int) = 0 := by omega
          have hx1 : x ≠ 0 := by omega
          have hx2 : (x : Int) ≠ 0 := by omega
          have hzl := maskOf_le q.a k
          rw [← hz] at hzl
          have hmul : ((q.a / x : Nat) : Int) * (x : Int) = (z : Int) := by rw [hz, hx]; unfold maskOf; push_cast; rfl
          have hz32 : z < 4294967296 := by omega
          have hy : q.a / x ≤ q.a := Nat.div_le_self _ _
          obtain ⟨y, hyy⟩ : ∃ y : Nat, y = q.a / x := ⟨_, rfl⟩
          rw [← hyy] at hmul hy
          have htd : (q.a : Int).tdiv (x : Int) = (y : Int) := by rw [tdiv_nat, hyy]
          have hwy : IntKind.i64.wrap (y : Int) = (y : Int) := by rw [IntKind.wrap_i64]; omega
          have hwz : IntKind.i64.wrap (z : Int) = (z : Int) := by rw [IntKind.wrap_i64]; omega
          have hwz2 : IntKind.u32.wrap (z : Int) = (z : Int) := by rw [IntKind.wrap_u32]; omega
          have hwa : IntKind.i64.wrap (q.a : Int) = (q.a : Int) := by rw [IntKind.wrap_i64]; omega
          rw [← hz] at HQ
          have F1 : Hid (∀ w', Touch [] w w' → Calls Try.prog 85 #[.pointer (some ⟨rb, 0, none⟩), .agg #[.int .u32 (z : Int), .int .i64 (k : Int)]] w' (RFirstPost w' l ⟨z, k⟩)) := Lib.hid (fun w' t => rfirst_calls (H.out.kept t (by simp)) ⟨z, k⟩ HQ.out (by omega))
          have F2 : Hid (∀ (r : Bool), (r = true ↔ Forks l ⟨z, k⟩) → ∀ w', Touch [] w w' → Calls Try.prog 86 #[.pointer (some ⟨rb, 0, none⟩), .agg #[.int .u32 (z : Int), .int .i64 (k : Int)]] w' (fun e w'' => e = .returned (.bool r) ∧ Touch [] w' w'')) := Lib.hid (fun r hr w' t => forks_calls (H.out.kept t (by simp)) ⟨z, k⟩ HQ.out (by show k < 32; omega) (by omega) r hr)
          have HZ : Hid (qOf (q, u) k = ⟨z, k⟩) := Lib.hid (by rw [hz]; rfl)
          obtain ⟨hp1, hp2⟩ := hpw
          clear hx hz hqq hyy hzl hy
          go_wp2_with fail
          go_upto_region 10 with (fail)
          go_cut [7] (fun v7 wc => ∃ b : Nat, v7 = .pointer (some ⟨b, 0, none⟩) ∧ Hid (wc.heap[b]? = some (.cells #[.int .u32 (z : Int), .int .i64 (k : Int)] 32 (0, 0))) ∧ Hid (Touch [] wr wc))
          case first =>
            go_region_held3 (fun w' => w'.cell? ⟨B, 0, none⟩ = some (.int .u32 q.a) ∧ w'.cell? ⟨B, 1, none⟩ = some (.int .i64 q.n))
              (go_keep)
              (first | (go_at_call 84; refine (FS.out _).mono ?_; rintro e w7 ⟨rfl, hw7⟩; obtain rfl := hw7.symm))
            all_goals
              go_wp2
              go_meet
              case rel => exact ⟨_, rfl, Lib.hid (box_at wr _), Lib.hid (((Touch.refl [] wr).alloc _).drew)⟩
          case rest =>
          obtain ⟨b, rfl, hB, hTc⟩ := hcut
          have T3 := Lib.hid (T2.out.trans hTc.out (by simp))
          have TK3 := Lib.hid (hTk.out.trans hTc.out (by simp))
          clear d0 d1 hTc T2 X2 hTk hmul htd hwy hwz hwz2 hwa FS hx0 hx1 hx2
          obtain ⟨e0, e1, _⟩ := two_cells hB.out
          go_wp2_with fail
          refine (F1.out _ T3.out).mono ?_
          rintro e w4 ⟨r, rfl, hf, t4⟩
          have T4 := Lib.hid (T3.out.trans t4 (by simp))
          have TK4 := Lib.hid (TK3.out.trans t4 (by simp))
          have B4 := Lib.hid (touch_box t4 hB.out (by simp))
          clear t4 e0 e1 T3 TK3 hB
          by_cases hfi : FirstAt l ⟨z, k⟩ i
          · have hri : r = (i : Int) := by
              rcases hf with ⟨_, h2⟩ | ⟨k', h1, h2⟩
              · obtain ⟨⟨e, he, hi⟩, _⟩ := hfi
                exact absurd hi (h2 e (List.mem_of_getElem? he))
              · rw [h1, h2.one hfi]
            subst hri
            clear hf
            obtain ⟨e0, e1, _⟩ := two_cells B4.out
            by_cases hfk : Forks l ⟨z, k⟩
            · have HL := Lib.hid (rowL_yes (l := l) (i := i) (e := (q, u)) (k := k) (by rw [HZ.out]; exact ⟨hfi, hfk⟩))
              have F3 := Lib.hid (F2.out true (by simp only [true_iff]; exact hfk))
              clear hfi hfk F2
              go_wp2_with fail
              refine (F3.out _ T4.out).mono ?_
              rintro e w5 ⟨rfl, t5⟩
              have TK5 := Lib.hid (TK4.out.trans t5 (by simp))
              clear t5 e0 e1
              go_wp2
              go_roundw
              case rel => exact ⟨k + 1, n + 1, by go_num, by go_num, by omega, Lib.hid (by rw [HL.out, hN.out]; omega), TK5⟩
              case measure => simp [intOf]; omega
            · have HL := Lib.hid (rowL_no (l := l) (i := i) (e := (q, u)) (k := k) (by rw [HZ.out]; exact fun h => hfk h.2))
              have F3 := Lib.hid (F2.out false (by simp only [Bool.false_eq_true, false_iff]; exact hfk))
              clear hfi hfk F2
              go_wp2_with fail
              refine (F3.out _ T4.out).mono ?_
              rintro e w5 ⟨rfl, t5⟩
              have TK5 := Lib.hid (TK4.out.trans t5 (by simp))
              clear t5 e0 e1
              go_wp2
              go_roundw
              case rel => exact ⟨k + 1, n, rfl, by go_num, by omega, Lib.hid (by rw [HL.out]; exact hN.out), TK5⟩
              case measure => simp [intOf]; omega
          · have hri : (r == (i : Int)) = false := by
              rw [beq_eq_false_iff_ne]
              rcases hf with ⟨h1, _⟩ | ⟨k', h1, h2⟩
              · omega
              · intro e
                have : k' = i := by omega
                subst this
                exact hfi h2
            have hri2 : ¬ r = (i : Int) := by simpa using hri
            have HL := Lib.hid (rowL_no (l := l) (i := i) (e := (q, u)) (k := k) (by rw [HZ.out]; exact fun h => hfi h.1))
            clear hf hfi F2
            go_wp2
            go_roundw
            case rel => exact ⟨k + 1, n, rfl, by go_num, by omega, Lib.hid (by rw [HL.out]; exact hN.out), TK4⟩
            case measure => simp [intOf]; omega
        · have b2 : ¬ (k : Int) < (q.n : Int) := by omega
          obtain rfl : k = q.n := by omega
          have HN : Hid (n = l.length + (allL l (i + 1)).length) := Lib.hid (by rw [allL_next HX.out, hN.out, hM.out]; dsimp only; omega)
          clear hN hM
          go_wp2
          go_roundw
          case rel => exact ⟨i + 1, n, rfl, by go_num, by omega, HN, T2⟩
          case measure => simp [intOf]; omega
    · have b1 : ¬ (i : Int) < (l.length : Int) := by omega
      obtain rfl : i = l.length := by omega
      go_wp2
      go_ret
      refine ⟨?_, hT.out⟩
      show Ending.returned (.int .i64 ((m : Nat) : Int)) = _
      rw [hM.out]
      push_cast
      rfl
end Go.Proofs.Ytmklkdhpbehfeaa.Tri
