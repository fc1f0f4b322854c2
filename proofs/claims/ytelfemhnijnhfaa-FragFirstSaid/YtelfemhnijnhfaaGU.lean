/- The walk of FragFirst; no condition. -/
import Derived.Test.YtelfemhnijnhfaaGT
import Derived.Deep.CutBlock
namespace Go.Proofs.Ytelfemhnijnhfaa.Fr
open Go.RowKit Go.Maps
set_option linter.unusedVariables false
set_option linter.unusedSimpArgs false
set_option maxRecDepth 100000
attribute [local go_sem] nilB

set_option maxHeartbeats 8000000 in
theorem first_calls {w : World} {V : Value} {l : List Int} (h : RdB w V l) (hlen : l.length ≤ 140737488355328) (lf : Bool) :
    Calls Try.prog 5 #[V, .bool lf] w fun e w' => e = .returned (.bool true) ∧ Touch [] w w' := by
  obtain ⟨A, cap, rfl⟩ := h.len_lt
  have H := Lib.hid h
  obtain ⟨ol, hol⟩ : ∃ ol, ol = l.take 40 := ⟨_, rfl⟩
  have HOL := Lib.hid hol
  have LOL : Hid (ol.length ≤ 40) := Lib.hid (by rw [hol, List.length_take]; omega)
  obtain ⟨A1, cap1, hA1⟩ : ∃ A1 cap1, (40 < l.length → ∃ b off, A = some ⟨b, off, none⟩ ∧ A1 = A ∧ cap1 = cap ∧ 40 ≤ cap) ∧ Hid (RdB w (.slice A1 ol.length cap1) ol) ∧ (¬ 40 < l.length → A1 = A ∧ cap1 = cap ∧ ol.length = l.length) ∧ (40 < l.length → ol.length = 40) := by
    by_cases hl : 40 < l.length
    · have H' := h
      obtain ⟨⟨A', cap', hV, hcap, _, hr⟩, _⟩ := H'
      simp only [Value.slice.injEq] at hV
      obtain ⟨rfl, _, rfl⟩ := hV
      obtain ⟨b, off, rfl, _⟩ := hr (by omega)
      have h3 : (l.take 40).length = 40 := by rw [List.length_take]; omega
      have h2 := RdB.sub h (lo := 0) (hi := 40) (Nat.zero_le _) (by omega)
      simp only [Nat.add_zero, Nat.sub_zero, List.drop_zero] at h2
      refine ⟨_, _, fun _ => ⟨b, off, rfl, rfl, rfl, by omega⟩, Lib.hid ?_, fun k => absurd hl k, fun _ => by rw [hol, h3]⟩
      rw [hol, h3]
      exact h2
    · have h3 : l.take 40 = l := List.take_of_length_le (by omega)
      refine ⟨A, cap, fun k => absurd k hl, Lib.hid ?_, fun _ => ⟨rfl, rfl, by rw [hol, h3]⟩, fun k => absurd k hl⟩
      rw [hol, h3]
      exact h
  obtain ⟨hA2, HR, hA3, hA4⟩ := hA1
  clear h hol
  go_enter Try.func5, Try.ntmps5
  go_upto_if 25 with (fail)
  go_cut [0] from 23 to 27 (fun v wr => v = .slice A1 ol.length cap1 ∧ Hid (wr = w))
  case first =>
    by_cases hl : 40 < l.length
    · obtain ⟨b, off, rfl, rfl, rfl, h3⟩ := hA2 hl
      have h4 := Lib.hid (hA4 hl)
      have lt1 : (40 : Int) < (l.length : Int) := by omega
      have lt2 : (40 : Int) ≤ (cap1 : Int) := by omega
      clear hA2 hA3 hA4 HR
      go_wp2
      go_meet
      case rel => exact ⟨by rw [h4.out], Lib.hid rfl⟩
    · obtain ⟨rfl, rfl, h3⟩ := hA3 hl
      have lt1 : ¬ (40 : Int) < (l.length : Int) := by omega
      have h4 := Lib.hid h3
      clear hA2 hA3 hA4 HR h3
      go_wp2
      go_meet
      case rel => exact ⟨by rw [h4.out], Lib.hid rfl⟩
  case rest =>
  obtain ⟨rfl, hwr⟩ := hcut
  rw [hwr.out]
  clear hwr hA2 hA3 hA4 H
  obtain ⟨N, hN⟩ : ∃ N, N = ol.length := ⟨_, rfl⟩
  have HN := Lib.hid hN
  have hN40 : N ≤ 40 := by rw [hN]; exact LOL.out
  rw [← hN] at HR ⊢
  clear hN
  go_wp2_with fail
  refine (fnew_calls _ 3 50 (by omega) (by omega) (by omega) (by omega)).mono ?_
  rintro e w1 ⟨a, S, rfl, hA, t1, hS⟩
  have A1' := Lib.hid (show AsmAt w1 a S st3 from hA)
  have T1 := Lib.hid t1
  have NS := Lib.hid hS
  clear hA t1 hS
  obtain ⟨zl, hzl⟩ : ∃ zl : List Int, zl = List.replicate 168 0 := ⟨_, rfl⟩
  have hz : ∀ w, (zeroValue 48).run Try.prog w = .ok (.agg (encB zl).toArray) w := by rw [hzl]; exact zero168
  have HZL := Lib.hid hzl
  clear hzl
  go_upto_region 7 with (fail)
  obtain ⟨W2, hW2⟩ : ∃ W : World, W = w1.alloc (.cells (encB zl).toArray 48) := ⟨_, rfl⟩
  rw [← hW2]
  have t2 : Touch [] w1 W2 := by rw [hW2]; exact (Touch.refl [] w1).alloc _
  obtain ⟨b7, hb7⟩ : ∃ b7, b7 = w1.heap.size := ⟨_, rfl⟩
  have Z2 := Lib.hid (show W2.heap[b7]? = some (.cells (encB zl).toArray 48 (0, 0)) by rw [hW2, hb7]; exact box_at _ _)
  have N7 : Hid (b7 ∉ S) := Lib.hid (fun hm => by have := A1'.out.lt b7 hm; omega)
  have L7 : Hid (w.heap.size ≤ b7) := Lib.hid (by rw [hb7]; exact T1.out.size)
  have A2 := Lib.hid (A1'.out.near t2)
  have T2 := Lib.hid (T1.out.trans t2 (by simp))
  rw [← hb7]
  clear hb7 hW2 t2 A1' T1 hz
  go_wp2_with fail
  refine (mk_calls _ 5 20 1 250 false 9 (by omega) (by omega) (by omega) (by omega)).mono ?_
  rintro e w3 ⟨V9, rfl, o3, f3, t3⟩
  have O3 : Hid (OwB w3 V9 (List.replicate 8 250)) := Lib.hid o3
  obtain ⟨A9, c9, rfl⟩ := O3.out.row.form
  rw [List.length_replicate] at O3 o3 f3 ⊢
  have Z3 := Lib.hid (touch_box t3 Z2.out (by simp))
  have A3 := Lib.hid (A2.out.near t3)
  have T3 := Lib.hid (T2.out.trans t3 (by simp))
  clear o3 f3 t3 Z2 A2 T2
  have eP : Hid ((pieceP 5 20 1 250 false 9).h = ⟨0, 5, false, false, 160, 9, 17, 1, 2⟩) := Lib.hid rfl
  rw [eP.out]
  clear eP
  go_upto_if 39 with (fail)
  obtain ⟨W4, hW4⟩ : ∃ W : World, W = w3.alloc (.cells (pkC ⟨0, 5, false, false, 160, 9, 17, 1, 2⟩ (.slice none 0 0) (.slice A9 8 c9)) 30) := ⟨_, rfl⟩
  rw [← hW4]
  have t4 : Touch [] w3 W4 := by rw [hW4]; exact (Touch.refl [] w3).alloc _
  obtain ⟨b9, hb9⟩ : ∃ b9, b9 = w3.heap.size := ⟨_, rfl⟩
  have F4 : Hid (FSt w W4 a b7 b9 (.slice A9 8 c9) S st3 zl) := Lib.hid ⟨A3.out.near t4, NS.out, T3.out.trans t4 (by simp), touch_box t4 Z3.out (by simp), by rw [hW4, hb9]; exact box_at _ _, O3.out.near t4, N7.out, fun hm => by have := A3.out.lt b9 hm; omega, L7.out⟩
  rw [← hb9]
  clear hb9 hW4 t4 A3 T3 Z3 O3 N7 NS L7
  go_cut [] from 41 to 47 (fun wc => ∃ S' st', Hid (FSt w wc a b7 b9 (.slice A9 8 c9) S' st' zl) ∧ Hid (FInv lf 0 zl 0 st'))
  case first =>
    cases lf
    · go_wp2
      go_meet
      case rel => exact ⟨S, st3, F4, Lib.hid (by rw [HZL.out]; exact first_begin0)⟩
    · obtain ⟨r0, r1, r2, r3, r4, r5, r6, r7, r8, r9, r10⟩ := pk_cells F4.out.box
      dsimp only at r0 r1 r2 r3 r4 r5 r6 r7 r8 r9 r10
      go_wp2_with fail
      refine (add_calls (p := lastP) F4.out.asm st3_ok (fun w' t => ⟨(OwB.nil w').rdb, (F4.out.body.kind t F4.out.asm.kinds).rdb⟩) (by simp [lastP, pieceP]) (by simp [lastP, pieceP]) last_facts.2.1 (.inr (by simp [st3])) (by simp [st3])).mono ?_
      rintro e w5 ⟨q, r, st', S', ⟨VQ, VQ', rfl, oq, oq', _, _⟩, hA5, t5, hs5, hR5⟩
      obtain ⟨rfl, FI⟩ := first_begin1 hR5
      obtain ⟨AQ, cQ, rfl⟩ := oq.row.form
      obtain ⟨AQ', cQ', rfl⟩ := oq'.row.form
      have F5 := Lib.hid (F4.out.add hA5 t5 hs5)
      have FI5 := Lib.hid FI
      clear oq oq' hA5 t5 hs5 hR5 FI r0 r1 r2 r3 r4 r5 r6 r7 r8 r9 r10
      obtain ⟨⟨qt, qi, qd, qm, qf, ql, qp, qs, qe⟩, qo, qb⟩ := q
      go_wp2
      go_meet
      case rel => exact ⟨S', st', Lib.hid (F5.out.near ((Touch.refl [] w5).alloc _)), Lib.hid (by rw [HZL.out]; exact FI5.out)⟩
  case rest =>
  obtain ⟨S1, st1, F5, I5⟩ := hcut
  obtain ⟨W5, hw5⟩ : ∃ w5, w5 = wc := ⟨_, rfl⟩
  rw [← hw5] at F5 ⊢
  clear hw5 F4
  have HRT := Lib.hid (fun wr (t : Touch [] w wr) => HR.out.near t)
  go_wp2_with fail
  go_loopg [8, 12] (N + 1) (fun kq v8 v12 wr => ∃ (i : Nat) (wl : List Int) (ttl : Int) (S : List Nat) (st : ASt), v12 = .int .i64 i ∧ v8 = .int .u8 ttl ∧ i ≤ N + 1 ∧ N + 1 - i ≤ kq ∧ Hid (FSt w wr a b7 b9 (.slice A9 8 c9) S st wl) ∧ Hid (FInv lf i wl ttl st) ∧ Hid (i = N + 1 → lf = false ∧ ∀ j < 160, 0 < wl.getD j 0))
  case atStart => exact ⟨0, zl, 0, S1, st1, rfl, rfl, by omega, by omega, F5, I5, Lib.hid (fun h => by omega)⟩
  case round =>
    obtain ⟨i, wl, ttl, S, st, rfl, rfl, hi, hik, hF, hI, hE⟩ := hrel
    by_cases hin : i ≤ N
    · have li : (i : Int) ≤ (N : Int) := by omega
      go_upto_if 57 with (fail)
      go_cut [13, 14] from 48 to 143 (fun v13 v14 wq => ∃ off n : Nat, v13 = .int .i64 off ∧ v14 = .int .i64 n ∧ off ≤ 18 ∧ 1 ≤ n ∧ n ≤ 20 ∧ (i = N → off = 0 ∧ n = 20) ∧ Hid (wq = wr))
      case first =>
        by_cases hiN : i < N
        · have l2 : (i : Int) < (N : Int) := by omega
          obtain ⟨⟨A', cap', hV, hcap, hnil, hr⟩, wfb⟩ := HRT.out wr hF.out.touch
          simp only [Value.slice.injEq] at hV
          obtain ⟨rfl, -, rfl⟩ := hV
          obtain ⟨bb, ob, rfl, hbb, hbx⟩ := hr (by rw [← HN.out]; omega)
          obtain ⟨x, hx⟩ : ∃ x, ol[i]? = some x := ⟨_, List.getElem?_eq_getElem (by rw [← HN.out]; exact hiN)⟩
          obtain ⟨x0, x1⟩ := wfb x (List.mem_of_getElem? hx)
          have kb := hbx i x hx
          have m0 : 0 ≤ x % 19 ∧ x % 19 ≤ 18 := by omega
          have m1 : 0 ≤ x / 19 := by omega
          have m2 : 0 ≤ x / 19 % 4 ∧ x / 19 % 4 ≤ 3 := by omega
          have M0 := Lib.hid m0
          have M2 := Lib.hid m2
          clear hr hbx hx wfb hcap hnil m0 m2
          go_wp2
          go_meet
          case rel => exact ⟨(x % 19).toNat, (1 + x / 19 % 4).toNat, by have := M0.out; go_num, by have := M2.out; go_num, by have := M0.out; omega, by have := M2.out; omega, by have := M2.out; omega, fun h => by omega, Lib.hid rfl⟩
        · have l2 : ¬ (i : Int) < (N : Int) := by omega
          go_wp2
          go_meet
          case rel => exact ⟨0, 20, rfl, rfl, by omega, by omega, by omega, fun h => ⟨rfl, rfl⟩, Lib.hid rfl⟩
      case rest =>
      obtain ⟨off, n0, rfl, rfl, ho18, hn1, hn20, hiN, hwq⟩ := hcut
      rw [hwq.out]
      clear hwq
      go_upto_if 75 with (fail)
      go_cut [14] from 48 to 143 (fun v14 wq => ∃ n : Nat, v14 = .int .i64 n ∧ 1 ≤ n ∧ off + n ≤ 20 ∧ (i = N → off = 0 ∧ n = 20) ∧ Hid (wq = wr))
      case first =>
        by_cases hov : off + n0 ≤ 20
        · have l3 : ¬ (20 : Int) < (off : Int) + (n0 : Int) := by omega
          go_wp2
          go_meet
          case rel => exact ⟨n0, rfl, hn1, hov, hiN, Lib.hid rfl⟩
        · have l3 : (20 : Int) < (off : Int) + (n0 : Int) := by omega
          go_wp2
          go_meet
          case rel => exact ⟨20 - off, by go_num, by omega, by omega, fun h => by have := hiN h; omega, Lib.hid rfl⟩
      case rest =>
      obtain ⟨n, rfl, hn1', hon, hiN', hwq⟩ := hcut
      rw [hwq.out]
      clear hwq hiN hn1 hn20
      have hi41 : i ≤ 40 := by omega
      have w1' : IntKind.u8.wrap (1 + (i : Int)) = 1 + (i : Int) := by rw [IntKind.wrap_u8]; omega
      have w2' : IntKind.u8.wrap (100 + (i : Int)) = 100 + (i : Int) := by rw [IntKind.wrap_u8]; omega
      go_wp2_with fail
      refine (mk_calls wr 5 off n (1 + (i : Int)) true (100 + (i : Int)) (by omega) (by omega) (by omega) (by omega)).mono ?_
      rintro e w6 ⟨V6, rfl, o6, f6, t6⟩
      have O6 : Hid (OwB w6 V6 (List.replicate (8 * n) (1 + (i : Int)))) := Lib.hid o6
      obtain ⟨A6, c6, rfl⟩ := O6.out.row.form
      rw [List.length_replicate] at O6 o6 f6 ⊢
      have F6 := Lib.hid (hF.out.near t6)
      clear o6 f6 t6
      have eP : Hid ((pieceP 5 off n (1 + (i : Int)) true (100 + (i : Int))).h = ⟨0, 5, false, true, 8 * (off : Int), 100 + (i : Int), 17, 1, 2⟩) := Lib.hid rfl
      rw [eP.out]
      clear eP
      go_upto_region 23 with (fail)
      obtain ⟨W7, hW7⟩ : ∃ W : World, W = w6.alloc (.cells (pkC ⟨0, 5, false, true, 8 * (off : Int), 100 + (i : Int), 17, 1, 2⟩ (.slice none 0 0) (.slice A6 (8 * n) c6)) 30) := ⟨_, rfl⟩
      rw [← hW7]
      have t7 : Touch [] w6 W7 := by rw [hW7]; exact (Touch.refl [] w6).alloc _
      obtain ⟨b15, hb15⟩ : ∃ b15, b15 = w6.heap.size := ⟨_, rfl⟩
      have X7 := Lib.hid (show W7.heap[b15]? = some (.cells (pkC ⟨0, 5, false, true, 8 * (off : Int), 100 + (i : Int), 17, 1, 2⟩ (.slice none 0 0) (.slice A6 (8 * n) c6)) 30 (0, 0)) by rw [hW7, hb15]; exact box_at _ _)
      have F7 := Lib.hid (F6.out.near t7)
      have O7 := Lib.hid (O6.out.near t7)
      have NE7 : Hid (b15 ≠ b7) := Lib.hid (fun h => by have := (Array.getElem?_eq_some_iff.1 F6.out.want).1; omega)
      rw [← hb15]
      clear hb15 t7 hW7 F6 O6 hF
      go_upto_block 2 with (fail)
      go_cut [16] from 48 to 143 (fun v16 wq => ∃ (x16 : Value) (wl2 : List Int), v16 = x16 ∧ wl2.length = 168 ∧ Hid (∀ k, wl2.getD k 0 = if 8 * off ≤ k ∧ k < 8 * (off + n) ∧ wl.getD k 0 = 0 then 1 + (i : Int) else wl.getD k 0) ∧ Hid (FSt w wq a b7 b9 (.slice A9 8 c9) S st wl2) ∧ Hid (wq.heap[b15]? = some (.cells (pkC ⟨0, 5, false, true, 8 * (off : Int), 100 + (i : Int), 17, 1, 2⟩ (.slice none 0 0) (.slice A6 (8 * n) c6)) 30 (0, 0))) ∧ Hid (OwB wq (.slice A6 (8 * n) c6) (List.replicate (8 * n) (1 + (i : Int)))))
      case first =>
        revert gk
        intro g0
        intros
        rename N + 1 - i ≤ g0 => hk
        have LW : Hid (wl.length = 168) := Lib.hid hI.out.len
        go_wp2_with fail
        go_loopg [16] (8 * (off + n)) (fun kq v16 wq => ∃ (jj : Nat) (wl2 : List Int), v16 = .int .i64 jj ∧ 8 * off ≤ jj ∧ jj ≤ 8 * (off + n) ∧ 8 * (off + n) - jj ≤ kq ∧ wl2.length = 168 ∧ Hid (∀ k, wl2.getD k 0 = if 8 * off ≤ k ∧ k < jj ∧ wl.getD k 0 = 0 then 1 + (i : Int) else wl.getD k 0) ∧ Hid (FSt w wq a b7 b9 (.slice A9 8 c9) S st wl2) ∧ Hid (wq.heap[b15]? = some (.cells (pkC ⟨0, 5, false, true, 8 * (off : Int), 100 + (i : Int), 17, 1, 2⟩ (.slice none 0 0) (.slice A6 (8 * n) c6)) 30 (0, 0))) ∧ Hid (OwB wq (.slice A6 (8 * n) c6) (List.replicate (8 * n) (1 + (i : Int)))))
        case atStart => exact ⟨8 * off, wl, by go_num, by omega, by omega, by omega, LW.out, Lib.hid (fun k => by rw [if_neg (by omega)]), F7, X7, O7⟩
        case round =>
          obtain ⟨jj, wl2, rfl, hj0, hj1, hjk, hl2, hc2, hF2, hX2, hO2⟩ := hrel
          by_cases hjl : jj < 8 * (off + n)
          · have lj : (jj : Int) < 8 * ((off : Int) + (n : Int)) := by omega
            have lj2 : (jj : Int) < 168 := by omega
            obtain ⟨kx, fx⟩ := hF2.out.cell (j := jj) (by omega)
            have hv := hc2.out jj
            rw [if_neg (by omega)] at hv
            obtain ⟨x, hx⟩ : ∃ x, x = wl2.getD jj 0 := ⟨_, rfl⟩
            rw [← hx] at kx hv
            have HX := Lib.hid hx
            have HV := Lib.hid hv
            clear hx hv
            by_cases hx0 : x = 0
            · subst hx0
              obtain ⟨W8, hW8⟩ : ∃ W : World, W = wr.setCell ⟨b7, jj, none⟩ (.int .u8 (1 + (i : Int))) := ⟨_, rfl⟩
              have HW8 := Lib.hid hW8
              clear hW8
              go_wp2
              rw [← HW8.out]
              have F8 : Hid (FSt w W8 a b7 b9 (.slice A9 8 c9) S st (wl2.set jj (1 + (i : Int)))) := Lib.hid (by rw [HW8.out]; exact hF2.out.store jj _)
              have t8 : Touch [b7] wr W8 := by rw [HW8.out]; exact (Touch.refl _ wr).setCell _ _ (.inl (by simp))
              have X8 := Lib.hid (touch_box t8 hX2.out (by have := NE7.out; simp; exact this))
              have O8 := Lib.hid (hO2.out.kind t8 (fun k hk => by simp at hk; subst hk; exact .inr ⟨_, _, hF2.out.want, by decide, by decide⟩))
              clear t8
              go_roundg (gk - 1)
              case rel => exact ⟨jj + 1, wl2.set jj (1 + (i : Int)), by go_num, by omega, by omega, by omega, by simp [hl2], Lib.hid (fun k => by
                by_cases hk : k = jj
                · subst hk
                  rw [if_pos ⟨hj0, by omega, HV.out.symm⟩]
                  rw [List.getD_eq_getElem?_getD, List.getElem?_set_self (by omega)]
                  rfl
                · have e1 : (wl2.set jj (1 + (i : Int))).getD k 0 = wl2.getD k 0 := by simp [List.getD_eq_getElem?_getD, List.getElem?_set_ne (Ne.symm hk)]
                  rw [e1, hc2.out k]
                  by_cases hP : 8 * off ≤ k ∧ k < jj ∧ wl.getD k 0 = 0
                  · rw [if_pos hP, if_pos ⟨hP.1, by omega, hP.2.2⟩]
                  · rw [if_neg hP, if_neg (fun h => hP ⟨h.1, by omega, h.2.2⟩)]), F8, X8, O8⟩
              case measure => omega
            · have hxb : (x == 0) = false := by rw [beq_eq_false_iff_ne]; exact hx0
              have HX0 := Lib.hid hx0
              clear hx0
              go_wp2
              go_roundg (gk - 1)
              case rel => exact ⟨jj + 1, wl2, by go_num, by omega, by omega, by omega, hl2, Lib.hid (fun k => by
                rw [hc2.out k]
                by_cases hP : 8 * off ≤ k ∧ k < jj ∧ wl.getD k 0 = 0
                · rw [if_pos hP, if_pos ⟨hP.1, by omega, hP.2.2⟩]
                · rw [if_neg hP, if_neg (fun h => by
                    by_cases hk : k = jj
                    · subst hk; exact HX0.out (by rw [HV.out]; exact h.2.2)
                    · exact hP ⟨h.1, by omega, h.2.2⟩)]), hF2, hX2, hO2⟩
              case measure => omega
          · have hje : jj = 8 * (off + n) := by omega
            have lj : ¬ (jj : Int) < 8 * ((off : Int) + (n : Int)) := by omega
            subst hje
            go_wp2
            go_meet
            case rel => exact ⟨_, wl2, rfl, hl2, hc2, hF2, hX2, hO2⟩
      case rest =>
      obtain ⟨x16, wl2, rfl, hl2, hc2, F8, X8, O8⟩ := hcut
      obtain ⟨W8, hw8⟩ : ∃ w8, w8 = wc := ⟨_, rfl⟩
      rw [← hw8] at F8 X8 O8 ⊢
      clear hw8 F7 X7 O7
      have HL2 := Lib.hid hl2
      obtain ⟨tt, htt⟩ : ∃ tt, tt = if off = 0 ∧ ttl = 0 then 100 + (i : Int) else ttl := ⟨_, rfl⟩
      have HTT := Lib.hid htt
      clear hl2 htt
      obtain ⟨bt, hbt⟩ : ∃ bt : Bool, bt = (decide (off = 0) && decide (ttl = 0)) := ⟨_, rfl⟩
      have HBT := Lib.hid hbt
      clear hbt
      go_upto_region 28 with (fail)
      go_cut [111] from 48 to 143 (fun v wq => v = .bool bt ∧ Hid (wq = W8))
      case first =>
        by_cases ho0 : off = 0
        · by_cases ht0 : ttl = 0
          · have e0 : Hid (bt = true) := Lib.hid (by rw [HBT.out, decide_eq_true ho0, decide_eq_true ht0]; rfl)
            subst ho0 ht0
            go_wp2
            go_meet
            case rel => exact ⟨by rw [e0.out], Lib.hid rfl⟩
          · have e0 : Hid (bt = false) := Lib.hid (by rw [HBT.out, decide_eq_true ho0, decide_eq_false ht0]; rfl)
            have htb : (ttl == 0) = false := by rw [beq_eq_false_iff_ne]; exact ht0
            subst ho0
            clear ht0
            go_wp2
            go_meet
            case rel => exact ⟨by rw [e0.out], Lib.hid rfl⟩
        · have e0 : Hid (bt = false) := Lib.hid (by rw [HBT.out, decide_eq_false ho0]; rfl)
          have hob : ((off : Int) == 0) = false := by rw [beq_eq_false_iff_ne]; omega
          clear ho0
          go_wp2
          go_meet
          case rel => exact ⟨by rw [e0.out], Lib.hid rfl⟩
      case rest =>
      obtain ⟨rfl, hwq⟩ := hcut
      rw [hwq.out]
      clear hwq
      go_upto_if 111 with (fail)
      go_cut [8] from 48 to 143 (fun v8 wq => v8 = .int .u8 tt ∧ Hid (wq = W8))
      case first =>
        cases hb : bt
        · have e0 : Hid (tt = ttl) := Lib.hid (by
            rw [HTT.out]
            have h1 := HBT.out
            rw [hb] at h1
            rw [if_neg]
            intro h
            rw [decide_eq_true h.1, decide_eq_true h.2] at h1
            cases h1)
          clear hb
          go_wp2
          go_meet
          case rel => exact ⟨by rw [e0.out], Lib.hid rfl⟩
        · have e0 : Hid (tt = 100 + (i : Int)) := Lib.hid (by
            rw [HTT.out]
            have h1 := HBT.out
            rw [hb] at h1
            simp at h1
            rw [if_pos h1])
          clear hb
          go_wp2
          go_meet
          case rel => exact ⟨by rw [e0.out], Lib.hid rfl⟩
      case rest =>
      obtain ⟨rfl, hwq⟩ := hcut
      rw [hwq.out]
      clear hwq
      obtain ⟨fl, hfl⟩ : ∃ fl : Bool, fl = true ↔ (lf = true ∧ ∀ j < 160, 0 < wl2.getD j 0) := by
        by_cases hh : lf = true ∧ ∀ j < 160, 0 < wl2.getD j 0
        · exact ⟨true, iff_of_true rfl hh⟩
        · exact ⟨false, iff_of_false (by simp) hh⟩
      have HFL := Lib.hid hfl
      clear hfl
      go_upto_block 4 with (fail)
      go_cut [17, 18] from 48 to 143 (fun v17 v18 wq => ∃ x18 : Value, v18 = x18 ∧ v17 = .bool fl ∧ Hid (wq = W8))
      case first =>
        revert gk
        intro g0
        intros
        rename N + 1 - i ≤ g0 => hk
        go_wp2_with fail
        go_loopg [17, 18] 160 (fun kq v17 v18 wq => ∃ (jj : Nat) (f : Bool), v17 = .bool f ∧ v18 = .int .i64 jj ∧ jj ≤ 160 ∧ 160 - jj ≤ kq ∧ Hid (f = true ↔ lf = true ∧ ∀ j < jj, 0 < wl2.getD j 0) ∧ Hid (wq = W8))
        case atStart => exact ⟨0, lf, rfl, rfl, by omega, by omega, Lib.hid ⟨fun h => ⟨h, fun j hj => by omega⟩, fun h => h.1⟩, Lib.hid rfl⟩
        case round =>
          obtain ⟨jj, f, rfl, rfl, hj1, hjk, hf, hwq⟩ := hrel
          rw [hwq.out]
          clear hwq
          by_cases hjl : jj < 160
          · have lj : (jj : Int) < 160 := by omega
            have lj2 : (jj : Int) < 168 := by omega
            cases f
            · have HF : Hid (lf = true → (∀ j < jj, 0 < wl2.getD j 0) → False) := Lib.hid (fun h1 h2 => by have := hf.out.2 ⟨h1, h2⟩; cases this)
              clear hf
              go_wp2
              go_roundg (gk - 1)
              case rel => exact ⟨jj + 1, false, rfl, by go_num, by omega, by omega, Lib.hid (iff_of_false (by simp) (fun h => HF.out h.1 (fun j hj => h.2 j (by omega)))), Lib.hid rfl⟩
              case measure => omega
            · have HF : Hid (lf = true) := Lib.hid (hf.out.1 rfl).1
              have HF2 : Hid (∀ j < jj, 0 < wl2.getD j 0) := Lib.hid (hf.out.1 rfl).2
              clear hf
              obtain ⟨kx, _⟩ := F8.out.cell (j := jj) (by rw [HL2.out]; omega)
              obtain ⟨x, hx⟩ : ∃ x, x = wl2.getD jj 0 := ⟨_, rfl⟩
              rw [← hx] at kx
              have HX := Lib.hid hx
              clear hx
              go_wp2
              go_roundg (gk - 1)
              case rel => exact ⟨jj + 1, decide (0 < x), by first | rfl | (congr 1), by go_num, by omega, by omega, Lib.hid (Iff.intro (fun h => ⟨HF.out, fun j hj => by
                  by_cases e : j = jj
                  · subst e; rw [← HX.out]; simpa using h
                  · exact HF2.out j (by omega)⟩) (fun h => by rw [decide_eq_true_eq, HX.out]; exact h.2 jj (by omega))), Lib.hid rfl⟩
              case measure => omega
          · have hje : jj = 160 := by omega
            subst hje
            have hff : f = fl := Bool.eq_iff_iff.2 (hf.out.trans HFL.out.symm)
            subst hff
            clear hf
            go_wp2
            go_meet
            case rel => exact ⟨_, rfl, rfl, Lib.hid rfl⟩
      case rest =>
      obtain ⟨x18, rfl, rfl, hwq⟩ := hcut
      rw [hwq.out]
      clear hwq
      have k1 : 1 ≤ 1 + (i : Int) ∧ 1 + (i : Int) ≤ 41 := ⟨by omega, by omega⟩
      have k2 : 1 ≤ 100 + (i : Int) ∧ 100 + (i : Int) < 256 := ⟨by omega, by omega⟩
      have k3 : i ≤ 100 := by omega
      have HI1 := Lib.hid (fun (q : Pk) (r : Int) (st' : ASt) (hA : AddRel st (pieceP 5 off n (1 + (i : Int)) true (100 + (i : Int))) q r st') => first_step1 hI.out hn1' hon k1 k2 k3 HL2.out hc2.out hA HTT.out HFL.out)
      clear k1 k2 k3
      have hfull : Hid (i = N → ∀ j < 160, 0 < wl2.getD j 0) := Lib.hid (fun e j hj => by
        obtain ⟨e1, e2⟩ := hiN' e
        have h1 := hc2.out j
        have h2 := hI.out.vals j
        by_cases h0 : wl.getD j 0 = 0
        · rw [if_pos ⟨by omega, by omega, h0⟩] at h1; omega
        · rw [if_neg (fun h => h0 h.2.2)] at h1; omega)
      have HST : Hid (st.ok ∧ ((st.g K0).isSome = true ∨ (st.n : Int) < st.room) ∧ st.began < 4611686018427387904) := Lib.hid (by
        refine ⟨hI.out.ok, ?_, by have := hI.out.began; omega⟩
        rw [hI.out.room]
        rcases hI.out.n with h | h
        · exact .inl h.1
        · exact .inr (by omega))
      clear hI hc2
      obtain ⟨r0, r1, r2, r3, r4, r5, r6, r7, r8, r9, r10⟩ := pk_cells X8.out
      dsimp only at r0 r1 r2 r3 r4 r5 r6 r7 r8 r9 r10
      go_wp2_with fail
      refine (add_calls (p := pieceP 5 off n (1 + (i : Int)) true (100 + (i : Int))) F8.out.asm HST.out.1 (fun w' t => ⟨(OwB.nil w').rdb, (O8.out.kind t F8.out.asm.kinds).rdb⟩) (by simp [pieceP]) (by simp [pieceP]; omega) (piece_wf (by omega) (by omega) (by omega)) HST.out.2.1 HST.out.2.2).mono ?_
      rintro e w9 ⟨q, r, st', S', ⟨VQ, VQ', rfl, oq, oq', _, _⟩, hA9, t9, hs9, hR9⟩
      obtain ⟨AQ, cQ, rfl⟩ := oq.row.form
      obtain ⟨AQ', cQ', rfl⟩ := oq'.row.form
      have F9 := Lib.hid (F8.out.add hA9 t9 hs9)
      have R9p := Lib.hid (HI1.out _ _ _ hR9).1
      have R9n := Lib.hid (HI1.out _ _ _ hR9).2
      have OQ := Lib.hid oq
      have OQ' := Lib.hid oq'
      clear oq oq' hA9 t9 hs9 hR9 r0 r1 r2 r3 r4 r5 r6 r7 r8 r9 r10 HI1 HST F8 X8 O8
      cases hfb : fl
      · have RN : Hid (r = 52 ∧ FInv lf (i + 1) wl2 tt st') := Lib.hid (R9n.out hfb)
        have hlf : Hid (i = N → lf = false) := Lib.hid (fun e => by
          cases hl : lf
          · rfl
          · have := HFL.out.2 ⟨hl, hfull.out e⟩
            rw [hfb] at this
            cases this)
        obtain ⟨hr52, _⟩ := RN.out
        subst hr52
        clear R9p R9n hfb
        obtain ⟨⟨qt, qi, qd, qm, qf, ql, qp, qs, qe⟩, qo, qb⟩ := q
        go_wp2
        go_roundg (gk - 1)
        case rel => exact ⟨i + 1, wl2, tt, S', st', by go_num, rfl, by omega, by omega, Lib.hid (F9.out.near ((Touch.refl [] w9).alloc _)), Lib.hid RN.out.2, Lib.hid (fun e => ⟨hlf.out (by omega), hfull.out (by omega)⟩)⟩
        case measure => omega
      · have RY : Hid (r = 0 ∧ Good1 q wl2 tt) := Lib.hid (R9p.out hfb)
        obtain ⟨hr0, hg⟩ := RY.out
        subst hr0
        clear R9p R9n hfb RY hfull
        obtain ⟨⟨qt, qi, qd, qm, qf, ql, qp, qs, qe⟩, qo, qb⟩ := q
        obtain ⟨g1, g2, g3, g4, g5, g6, g7⟩ := hg
        dsimp only at g1 g2 g3 g4 g5 g6 g7
        subst g2 g3 g4 g5
        have G1 := Lib.hid g1
        have G6 := Lib.hid g6
        have G7 := Lib.hid g7
        clear g1 g6 g7
        have HSZ : Hid ((Try.prog.info? 48).map (·.size) = some (encB wl2).toArray.size) := Lib.hid (by rw [size168]; simp [encB_length, HL2.out])
        go_upto_region 37 with (fail)
        obtain ⟨WA, hWA⟩ : ∃ W : World, W = w9.alloc (.cells (pkC ⟨qt, 5, qd, false, 0, ql, qp, qs, qe⟩ (.slice AQ qo.length cQ) (.slice AQ' qb.length cQ')) 30) := ⟨_, rfl⟩
        rw [← hWA]
        have tA : Touch [] w9 WA := by rw [hWA]; exact (Touch.refl [] w9).alloc _
        have XA := Lib.hid (show WA.heap[w9.heap.size]? = some (.cells (pkC ⟨qt, 5, qd, false, 0, ql, qp, qs, qe⟩ (.slice AQ qo.length cQ) (.slice AQ' qb.length cQ')) 30 (0, 0)) by rw [hWA]; exact box_at _ _)
        have FA := Lib.hid (F9.out.near tA)
        have OA' := Lib.hid (OQ'.out.near tA)
        obtain ⟨b19, hb19⟩ : ∃ b19, b19 = w9.heap.size := ⟨_, rfl⟩
        rw [← hb19] at XA ⊢
        clear hb19 hWA tA F9 OQ OQ'
        obtain ⟨r0, r1, r2, r3, r4, r5, r6, r7, r8, r9, r10⟩ := pk_cells XA.out
        dsimp only at r0 r1 r2 r3 r4 r5 r6 r7 r8 r9 r10
        go_wp2_with (refine wpList_load_w 48 (.tmp 7) (by rfl) b7 (by rfl) (encB wl2).toArray 48 FA.out.want _ Try.underlying48 rfl HSZ.out (by rfl) ?_)
        refine (matches_calls OA'.out.rdb G1.out HL2.out G6.out G7.out).mono ?_
        rintro e wB ⟨rfl, tB⟩
        have TB := Lib.hid (FA.out.touch.trans tB (by simp))
        clear tB r0 r1 r2 r3 r4 r5 r6 r7 r8 r9 r10
        go_wp2
        go_ret
        exact ⟨rfl, TB.out⟩
    · have hie : i = N + 1 := by omega
      obtain ⟨hlf, hall⟩ := hE.out hie
      have HALL := Lib.hid hall
      have li : ¬ (i : Int) ≤ (N : Int) := by omega
      have HST : Hid (st.ok ∧ ((st.g K0).isSome = true ∨ (st.n : Int) < st.room) ∧ st.began < 4611686018427387904) := Lib.hid (by
        refine ⟨hI.out.ok, ?_, by have := hI.out.began; omega⟩
        rw [hI.out.room]
        rcases hI.out.n with h | h
        · exact .inl h.1
        · exact .inr (by omega))
      subst hlf
      clear hall hE
      obtain ⟨r0, r1, r2, r3, r4, r5, r6, r7, r8, r9, r10⟩ := pk_cells hF.out.box
      dsimp only at r0 r1 r2 r3 r4 r5 r6 r7 r8 r9 r10
      go_wp2_with fail
      refine (add_calls (p := lastP) hF.out.asm HST.out.1 (fun w' t => ⟨(OwB.nil w').rdb, (hF.out.body.kind t hF.out.asm.kinds).rdb⟩) (by simp [lastP, pieceP]) (by simp [lastP, pieceP]) last_facts.2.1 HST.out.2.1 HST.out.2.2).mono ?_
      rintro e w9 ⟨q, r, st', S', ⟨VQ, VQ', rfl, oq, oq', _, _⟩, hA9, t9, hs9, hR9⟩
      obtain ⟨AQ, cQ, rfl⟩ := oq.row.form
      obtain ⟨AQ', cQ', rfl⟩ := oq'.row.form
      have F9 := Lib.hid (hF.out.add hA9 t9 hs9)
      have LW : Hid (wl.length = 168) := Lib.hid hI.out.len
      obtain ⟨hr0, hg⟩ := first_end hI.out HALL.out hR9
      have OQ' := Lib.hid oq'
      subst hr0
      clear oq oq' hA9 t9 hs9 hR9 r0 r1 r2 r3 r4 r5 r6 r7 r8 r9 r10 HST hF hI HALL
      obtain ⟨⟨qt, qi, qd, qm, qf, ql, qp, qs, qe⟩, qo, qb⟩ := q
      obtain ⟨g1, g2, g3, g4, g5, g6, g7⟩ := hg
      dsimp only at g1 g2 g3 g4 g5 g6 g7
      subst g2 g3 g4 g5
      have G1 := Lib.hid g1
      have G6 := Lib.hid g6
      have G7 := Lib.hid g7
      clear g1 g6 g7
      have HSZ : Hid ((Try.prog.info? 48).map (·.size) = some (encB wl).toArray.size) := Lib.hid (by rw [size168]; simp [encB_length, LW.out])
      go_upto_region 41 with (fail)
      obtain ⟨WA, hWA⟩ : ∃ W : World, W = w9.alloc (.cells (pkC ⟨qt, 5, qd, false, 0, ql, qp, qs, qe⟩ (.slice AQ qo.length cQ) (.slice AQ' qb.length cQ')) 30) := ⟨_, rfl⟩
      rw [← hWA]
      have tA : Touch [] w9 WA := by rw [hWA]; exact (Touch.refl [] w9).alloc _
      have XA := Lib.hid (show WA.heap[w9.heap.size]? = some (.cells (pkC ⟨qt, 5, qd, false, 0, ql, qp, qs, qe⟩ (.slice AQ qo.length cQ) (.slice AQ' qb.length cQ')) 30 (0, 0)) by rw [hWA]; exact box_at _ _)
      have FA := Lib.hid (F9.out.near tA)
      have OA' := Lib.hid (OQ'.out.near tA)
      obtain ⟨b19, hb19⟩ : ∃ b19, b19 = w9.heap.size := ⟨_, rfl⟩
      rw [← hb19] at XA ⊢
      clear hb19 hWA tA F9 OQ'
      obtain ⟨r0, r1, r2, r3, r4, r5, r6, r7, r8, r9, r10⟩ := pk_cells XA.out
      dsimp only at r0 r1 r2 r3 r4 r5 r6 r7 r8 r9 r10
      go_wp2_with (refine wpList_load_w 48 (.tmp 7) (by rfl) b7 (by rfl) (encB wl).toArray 48 FA.out.want _ Try.underlying48 rfl HSZ.out (by rfl) ?_)
      refine (matches_calls OA'.out.rdb G1.out LW.out G6.out G7.out).mono ?_
      rintro e wB ⟨rfl, tB⟩
      have TB := Lib.hid (FA.out.touch.trans tB (by simp))
      clear tB r0 r1 r2 r3 r4 r5 r6 r7 r8 r9 r10
      go_wp2
      go_ret
      exact ⟨rfl, TB.out⟩
end Go.Proofs.Ytelfemhnijnhfaa.Fr
