/- The walk of FragCovers; no condition. -/
import Derived.Test.YtelfemhnijnhfaaFX
namespace Go.Proofs.Ytelfemhnijnhfaa.Fr
open Go.RowKit Go.Maps
set_option linter.unusedVariables false
set_option linter.unusedSimpArgs false
set_option maxRecDepth 100000
attribute [local go_sem] nilB

theorem eqb_near {w0 : World} (u : Near w0) {V V' : Value} {l : List Int} (h : RdB w0 V l) (h' : RdB w0 V' l) (hlen : l.length ≤ 140737488355328) :
    Calls Try.prog 16 #[V, V'] u.w fun e w' => e = .returned (.bool true) ∧ ∃ x : Near w0, w' = x.w :=
  near_call u (eqb_calls (h.near u.near) (h'.near u.near) hlen)
set_option maxHeartbeats 8000000 in
theorem covers_calls {w : World} {V : Value} {l : List Int} (h : RdB w V l) (hlen : l.length < 4611686018427387904) (opt : Nat) (hopt : opt < 256) (id : Int) (hid0 : 0 ≤ id) (hid1 : id < 65536) (mtu : Int) (hm1 : -9223372036854775808 ≤ mtu) (hm2 : mtu ≤ 9223372036854775807) :
    Calls Try.prog 4 #[V, .int .u8 opt, .int .u16 id, .int .i64 mtu] w fun e w' => e = .returned (.bool true) ∧ Touch [] w w' := by
  obtain ⟨A, cap, rfl⟩ := h.len_lt
  have H := Lib.hid h
  obtain ⟨O, hO⟩ : ∃ O, O = optsL opt := ⟨_, rfl⟩
  obtain ⟨B, hB⟩ : ∃ B, B = l.take 3000 := ⟨_, rfl⟩
  have hP : wholeP l opt id = ⟨⟨opt, id, false, false, 0, 200, 17, 167772161, 167772162⟩, O, B⟩ := by unfold wholeP wholeH; rw [hO, hB]
  have hmay := wholeP_may l opt id
  have hwl := wholeP_len l opt id
  have hwf := wholeP_wf l hopt ⟨hid0, hid1⟩
  rw [hP] at hmay hwl hwf
  have hao : areaB O = true := by rw [hO]; exact (optsL_ok opt).1
  have HP := Lib.hid hP
  have HMAY := Lib.hid hmay
  have HWF := Lib.hid hwf
  have HAO := Lib.hid hao
  have HBL : Hid (B.length ≤ 3000) := Lib.hid hwl.1
  have HOL : Hid (O.length ≤ 40) := Lib.hid hwl.2
  have HLEN := Lib.hid hlen
  clear hO hB hP hmay hwl hwf hao h hlen
  go_enter Try.func4, Try.ntmps4
  go_wp2_with fail
  refine (whole_calls H.out HLEN.out opt hopt id).mono ?_
  rw [HP.out]
  rintro e w1 ⟨VO, VB, rfl, o, o', t⟩
  dsimp only at o o'
  obtain ⟨A1, c1, rfl⟩ := o.row.form
  obtain ⟨A2, c2, rfl⟩ := o'.row.form
  have O1 := Lib.hid o
  have B1 := Lib.hid o'
  have T1 := Lib.hid t
  clear o o' t H HP HLEN
  go_upto_if 26 with (fail)
  obtain ⟨W2, hW2⟩ : ∃ W2 : World, W2 = w1.alloc (.cells (pkC ⟨opt, id, false, false, 0, 200, 17, 167772161, 167772162⟩ (.slice A1 O.length c1) (.slice A2 B.length c2)) 30) := ⟨_, rfl⟩
  rw [← hW2]
  have t2 : Touch [] w1 W2 := by rw [hW2]; exact (Touch.refl [] w1).alloc _
  have Z2 := Lib.hid (show W2.heap[w1.heap.size]? = some (.cells (pkC ⟨opt, id, false, false, 0, 200, 17, 167772161, 167772162⟩ (.slice A1 O.length c1) (.slice A2 B.length c2)) 30 (0, 0)) by rw [hW2]; exact box_at _ _)
  have T2 := Lib.hid (T1.out.trans t2 (by simp))
  have O2 := Lib.hid (O1.out.near t2)
  have B2 := Lib.hid (B1.out.near t2)
  obtain ⟨b9, hb9⟩ : ∃ b9, b9 = w1.heap.size := ⟨_, rfl⟩
  have HB9 : Hid (w.heap.size ≤ b9) := Lib.hid (by rw [hb9]; exact T1.out.size)
  rw [← hb9] at Z2 ⊢
  clear hb9 hW2 t2 T1 O1 B1
  obtain ⟨m1, hm⟩ : ∃ m1 : Int, m1 = if mtu < 0 then -1 - mtu else mtu := ⟨_, rfl⟩
  have hm0 : 0 ≤ m1 := by rw [hm]; split <;> omega
  have hm9 : m1 ≤ 9223372036854775807 := by rw [hm]; split <;> omega
  have HM := Lib.hid hm
  clear hm
  go_cut [3] from 26 to 28 (fun v wr => v = .int .i64 m1 ∧ Hid (wr = W2))
  case first =>
    by_cases hneg : mtu < 0
    · have e : Hid (m1 = -1 - mtu) := Lib.hid (by rw [HM.out, if_pos hneg])
      go_wp2
      go_meet
      case rel => exact ⟨by rw [e.out], Lib.hid rfl⟩
    · have e : Hid (m1 = mtu) := Lib.hid (by rw [HM.out, if_neg hneg])
      go_wp2
      go_meet
      case rel => exact ⟨by rw [e.out], Lib.hid rfl⟩
  case rest =>
  obtain ⟨rfl, hwr⟩ := hcut
  obtain rfl := hwr.out
  clear hwr HM hm1 hm2
  obtain ⟨d0, d1, d2, d3, d4, d5, d6, d7, d8, d9, d10⟩ := pk_cells Z2.out
  dsimp only at d0 d1 d2 d3 d4 d5 d6 d7 d8 d9 d10
  have hmr : 0 ≤ m1 % 1500 ∧ m1 % 1500 < 1500 := by omega
  obtain ⟨hmr1, hmr2⟩ := hmr
  go_wp2_with fail
  obtain ⟨mt, hmt⟩ : ∃ mt, mt = 68 + m1 % 1500 := ⟨_, rfl⟩
  rw [← hmt]
  have hmt1 : 68 ≤ mt := by omega
  have hmt2 : mt ≤ 1600 := by omega
  clear hmt
  refine (split_calls (p := ⟨⟨opt, id, false, false, 0, 200, 17, 167772161, 167772162⟩, O, B⟩) O2.out.rdb B2.out.rdb (by have := HOL.out; dsimp only; omega) (by have := HBL.out; dsimp only; omega) HWF.out mt (by omega) (by omega)).mono ?_
  rintro e w3 ⟨t3, V3, l3, rfl, p3, hl3, _, _⟩
  obtain ⟨A3, c3, rfl⟩ := p3.row.form
  have HE : Hid (splitE ⟨⟨opt, id, false, false, 0, 200, 17, 167772161, 167772162⟩, O, B⟩ mt = 0) := Lib.hid (splitE_zero hmt1 HMAY.out rfl)
  rw [HE.out]
  have ST := CoverAt.start hl3 HE.out HAO.out
  have hpos := ST.2
  have HCS := Lib.hid ST.1
  have HONE := Lib.hid (cover_one hl3 HE.out hmt1 HAO.out)
  have P3 := Lib.hid p3
  have Z3 := Lib.hid (touch_box t3 Z2.out (by simp))
  have T3 := Lib.hid (T2.out.trans t3 (by simp))
  have O3 := Lib.hid (O2.out.near t3)
  have B3 := Lib.hid (B2.out.near t3)
  obtain ⟨N, hN⟩ : ∃ N, N = l3.length := ⟨_, rfl⟩
  rw [← hN] at hpos ⊢
  have HN := Lib.hid hN
  have hn0 : ((N : Int) == 0) = false := by rw [beq_eq_false_iff_ne]; omega
  have hN9 : N < 4611686018427387904 := by
    have h1 := splitP_count ⟨⟨opt, id, false, false, 0, 200, 17, 167772161, 167772162⟩, O, B⟩ mt
    rw [← hl3, List.length_map, ← hN] at h1
    have := HBL.out
    dsimp only at h1
    omega
  clear p3 hl3 t3 ST d0 d1 d2 d3 d4 d5 d6 d7 d8 d9 d10 Z2 T2 O2 B2 hN
  go_wp2_with fail
  go_loopg [12, 13] N (fun kq v12 v13 wr => ∃ (i pos : Nat), v13 = .int .i64 i ∧ v12 = .int .i64 pos ∧ i ≤ N ∧ N - i ≤ kq ∧ Hid (CoverAt ⟨⟨opt, id, false, false, 0, 200, 17, 167772161, 167772162⟩, O, B⟩ mt l3 i pos) ∧ Hid (Touch [] w3 wr))
  case atStart => exact ⟨0, 0, rfl, rfl, by omega, by omega, HCS, Lib.hid (Touch.refl _ _)⟩
  case round =>
    obtain ⟨i, pos, rfl, rfl, hi, hik, hC, hT⟩ := hrel
    by_cases hil : i < N
    · have li : (i : Int) < (N : Int) := by omega
      obtain ⟨⟨⟨qh, qo, qb⟩, QO, QB⟩, he⟩ : ∃ e, l3[i]? = some e := ⟨_, List.getElem?_eq_getElem (by have := HN.out; omega)⟩
      have hst := hC.out.step (by have := HN.out; omega) he hmt1 (by omega) HAO.out rfl rfl HBL.out
      dsimp only at hst
      obtain ⟨q1, q2, q3, q4, q5, q6, q7, q8, q9, q10⟩ := hst
      obtain ⟨bm, hbm⟩ : ∃ bm, bm = qh.mf := ⟨_, rfl⟩
      rw [← hbm] at q1 q9
      clear hbm
      subst q1
      obtain ⟨n, hn⟩ : ∃ n, n = qb.length := ⟨_, rfl⟩
      rw [← hn] at q2 q3 q4 q8 q9 q10
      have Q2 := Lib.hid q2
      have Q6 := Lib.hid q6
      have Q7 := Lib.hid q7
      have Q8 := Lib.hid q8
      have Q10 := Lib.hid q10
      rw [← HN.out] at q9
      have Q9 := Lib.hid q9
      have E3 := Lib.hid (P3.out.el _ (List.mem_of_getElem? he))
      obtain ⟨QA, qc, hQ⟩ := E3.out.1.row.form
      obtain ⟨QA', qc', hQ'⟩ := E3.out.2.row.form
      dsimp only at hQ hQ' E3
      rw [← hn] at hQ'
      subst hQ hQ'
      have EN := Lib.hid hn
      have n3000 : n ≤ 3000 := by have := HBL.out; omega
      have pn3000 : pos + n ≤ 3000 := by have := HBL.out; omega
      have qo40 : qo.length ≤ 40 := q5
      obtain ⟨g3, hA3, h3⟩ := P3.out.cells (by have := HN.out; omega)
      subst hA3
      have n3 : ∀ (jj : Nat) (v : Value), (pkC ⟨opt, id, false, bm, pos, 200, 17, 167772161, 167772162⟩ (.slice QA qo.length qc) (.slice QA' n qc')).toList[jj]? = some v → wr.cell? ⟨g3, i * 11 + jj, none⟩ = some v := fun jj v hv => cell_touch hT.out (h3 i _ he jj v hv) (by simp)
      have x0 := n3 0 _ rfl
      have x1 := n3 1 _ rfl
      have x2 := n3 2 _ rfl
      have x3 := n3 3 _ rfl
      have x4 := n3 4 _ rfl
      have x5 := n3 5 _ rfl
      have x6 := n3 6 _ rfl
      have x7 := n3 7 _ rfl
      have x8 := n3 8 _ rfl
      have x9 := n3 9 _ rfl
      have x10 := n3 10 _ rfl
      dsimp only [Nat.add_zero] at x0
      clear n3 h3 he q2 q5 q6 q7 q8 q9 q10 hn
      go_upto_region 13 with (fail)
      obtain ⟨W4, hW4⟩ : ∃ W4 : World, W4 = wr.alloc (.cells (pkC ⟨opt, id, false, bm, pos, 200, 17, 167772161, 167772162⟩ (.slice QA qo.length qc) (.slice QA' n qc')) 30) := ⟨_, rfl⟩
      rw [← hW4]
      have t4 : Touch [] wr W4 := by rw [hW4]; exact (Touch.refl [] wr).alloc _
      have T34 := Lib.hid (hT.out.trans t4 (by simp))
      have Y4 := Lib.hid (show W4.heap[wr.heap.size]? = some (.cells (pkC ⟨opt, id, false, bm, pos, 200, 17, 167772161, 167772162⟩ (.slice QA qo.length qc) (.slice QA' n qc')) 30 (0, 0)) by rw [hW4]; exact box_at _ _)
      have Z4 := Lib.hid (touch_box T34.out Z3.out (by simp))
      have O4 := Lib.hid (O3.out.near T34.out)
      have B4 := Lib.hid (B3.out.near T34.out)
      have E4 := Lib.hid (And.intro (E3.out.1.near T34.out) (E3.out.2.near T34.out))
      obtain ⟨b14, hb14⟩ : ∃ b14, b14 = wr.heap.size := ⟨_, rfl⟩
      rw [← hb14] at Y4 ⊢
      clear hb14 hW4 t4 x0 x1 x2 x3 x4 x5 x6 x7 x8 x9 x10 hT
      obtain ⟨c0, c1', c2', c3', c4, c5, c6, c7, c8, c9, c10⟩ := pk_cells Y4.out
      obtain ⟨d0, d1, d2, d3, d4, d5, d6, d7, d8, d9, d10⟩ := pk_cells Z4.out
      dsimp only at c0 c1' c2' c3' c4 c5 c6 c7 c8 c9 c10 d0 d1 d2 d3 d4 d5 d6 d7 d8 d9 d10
      obtain ⟨bl, hbl⟩ : ∃ bl : Bool, ((i : Int) == (N : Int) - 1) = bl := ⟨_, rfl⟩
      have HBLL := Lib.hid hbl
      have hpp : ((pos : Int) != (pos : Int)) = false := by simp
      have hsz : ¬ mt < 20 + (qo.length : Int) + (n : Int) := by omega
      go_upto_region 15 with (fail)
      go_cut [106] from 45 to 203 (fun v wq => v = .bool false ∧ Hid (wq = W4))
      case first =>
        rcases Q9.out with ⟨h1, h2⟩ | ⟨h1, h2, h3, h4⟩
        · have hbt : bl = true := by rw [← hbl, beq_iff_eq]; omega
          clear hbl Q9 HBLL
          subst hbt h2
          go_wp2
          go_meet
          case rel => exact ⟨rfl, Lib.hid rfl⟩
        · have hbt : bl = false := by rw [← hbl, beq_eq_false_iff_ne]; omega
          have h8 : (((n : Int) % 8) != 0) = false := by simp; omega
          have h8' : (((n : Int) % 8) == 0) = true := by rw [beq_iff_eq]; omega
          have hs8 : ¬ 20 + (qo.length : Int) + (n : Int) + 8 ≤ mt := by omega
          clear hbl Q9 HBLL h3 h4
          subst hbt h2
          go_wp2
          go_meet
          case rel => exact ⟨rfl, Lib.hid rfl⟩
      case rest =>
      obtain ⟨rfl, hwq⟩ := hcut
      obtain rfl := hwq.out
      clear hwq hbl HBLL Q9
      have hpn : ¬ (B.length : Int) < (pos : Int) + (n : Int) := by omega
      go_upto_region 17 with (fail)
      go_cut [130] from 45 to 203 (fun v wq => v = .bool false ∧ Hid (Touch [] wc wq))
      case first =>
        have x10 := fun u : Near wc => u.cell c10
        have y10 := fun u : Near wc => u.cell d10
        clear c0 c1' c2' c3' c4 c5 c6 c7 c8 c9 c10 d0 d1 d2 d3 d4 d5 d6 d7 d8 d9 d10
        obtain ⟨⟨A', cap', hV, hcap, hnil, _⟩, _⟩ := B4.out.rdb
        simp only [Value.slice.injEq] at hV
        obtain ⟨hV1, _, hV2⟩ := hV
        subst hV1 hV2
        rcases Q8.out with ⟨h1, h2⟩ | ⟨h1, h2, h3⟩
        · obtain ⟨g2, c2', hV3, _⟩ := B4.out.row.at_ (by omega)
          simp only [Value.slice.injEq] at hV3
          obtain ⟨hV4, -, hV5⟩ := hV3
          subst hV4 hV5
          have RS := B4.out.sub (lo := pos) (hi := pos + n) (by omega) (by omega)
          rw [Nat.add_sub_cancel_left, ← Q2.out] at RS
          have HEB := Lib.hid (fun u : Near wc => eqb_near u E4.out.2.rdb RS (by rw [← EN.out]; omega))
          have cn : ¬ c2 = pos := by omega
          have l1 : (pos : Int) + (n : Int) ≤ (c2 : Int) := by omega
          have l2 : (pos : Int) ≤ (pos : Int) + (n : Int) := by omega
          clear RS hnil h1 h2 hcap
          refine wp_region_near (by kernel_rfl) (by kernel_rfl) ?_
          repeat (go_big_quiet_step ((go_at_call 16; go_loud (exact HEB.out _))))
          refine wpQuiet_nil ?_
          rintro _ ⟨u2, rfl⟩
          have TX := Lib.hid u2.near
          clear x10 y10 HEB
          go_wp2
          go_meet
          case rel => exact ⟨rfl, TX⟩
        · have hqb : qb = [] := List.eq_nil_of_length_eq_zero (by rw [← EN.out]; omega)
          have hRn : ∀ (A' : Option Addr) (m k : Nat), m = 0 → (A' = none → k = 0) → RdB wc (.slice A' m k) qb := by
            intro A' m k hm hk
            subst hm
            rw [hqb]
            exact ⟨⟨A', k, rfl, Nat.zero_le _, hk, fun h => absurd h (by simp)⟩, by simp [okB]⟩
          have HEB := Lib.hid (fun (u : Near wc) (A' : Option Addr) (m k : Nat) (hm : m = 0) (hk : A' = none → k = 0) => eqb_near u E4.out.2.rdb (hRn A' m k hm hk) (by rw [← EN.out]; omega))
          have hn0 : Hid (n = 0) := Lib.hid (by omega)
          have l1 : (pos : Int) + (n : Int) ≤ (c2 : Int) := by omega
          have l2 : (pos : Int) ≤ (pos : Int) + (n : Int) := by omega
          have hp0 : Hid (pos = 0) := Lib.hid h2
          have HNIL := Lib.hid hnil
          clear hqb hRn h1 h2 h3 hnil hcap
          rcases A2 with _ | ad
          · have HC0 : Hid (c2 = 0) := Lib.hid (HNIL.out rfl)
            have cn : (c2 = pos) = True := eq_true (by rw [HC0.out, hp0.out])
            clear HNIL
            refine wp_region_near (by kernel_rfl) (by kernel_rfl) ?_
            repeat (go_big_quiet_step ((go_at_call 16; go_loud (exact HEB.out _ _ _ _ (by have := hn0.out; omega) (fun _ => by have := HC0.out; omega)))))
            refine wpQuiet_nil ?_
            rintro _ ⟨u2, rfl⟩
            have TX := Lib.hid u2.near
            clear x10 y10 HEB
            go_wp2
            go_meet
            case rel => exact ⟨rfl, TX⟩
          · clear HNIL
            by_cases cc : c2 = pos
            · have cn : (c2 = pos) = True := eq_true cc
              clear cc
              refine wp_region_near (by kernel_rfl) (by kernel_rfl) ?_
              repeat (go_big_quiet_step ((go_at_call 16; go_loud (exact HEB.out _ _ _ _ (by have := hn0.out; omega) (fun h => by cases h)))))
              refine wpQuiet_nil ?_
              rintro _ ⟨u2, rfl⟩
              have TX := Lib.hid u2.near
              clear x10 y10 HEB
              go_wp2
              go_meet
              case rel => exact ⟨rfl, TX⟩
            · refine wp_region_near (by kernel_rfl) (by kernel_rfl) ?_
              repeat (go_big_quiet_step ((go_at_call 16; go_loud (exact HEB.out _ _ _ _ (by have := hn0.out; omega) (fun h => by cases h)))))
              refine wpQuiet_nil ?_
              rintro _ ⟨u2, rfl⟩
              have TX := Lib.hid u2.near
              clear x10 y10 HEB
              go_wp2
              go_meet
              case rel => exact ⟨rfl, TX⟩
      case rest =>
      obtain ⟨rfl, hT45⟩ := hcut
      rename_i wq
      have T35 := Lib.hid (T34.out.trans hT45.out (by simp))
      have Y5 := Lib.hid (touch_box hT45.out Y4.out (by simp))
      have Z5 := Lib.hid (touch_box hT45.out Z4.out (by simp))
      have O5 := Lib.hid (O4.out.near hT45.out)
      have E5 := Lib.hid (And.intro (E4.out.1.near hT45.out) (E4.out.2.near hT45.out))
      have HWQ : Hid ((⟨opt, id, false, bm, pos, 200, 17, 167772161, 167772162⟩ : Hd).wf) := Lib.hid ⟨HWF.out.tos, HWF.out.id, by dsimp only; omega, HWF.out.ttl, HWF.out.proto, HWF.out.src, HWF.out.dst⟩
      clear c0 c1' c2' c3' c4 c5 c6 c7 c8 c9 c10 d0 d1 d2 d3 d4 d5 d6 d7 d8 d9 d10 Y4 Z4 O4 E4 T34 hT45 hpp hsz hpn
      obtain ⟨c0, c1', c2', c3', c4, c5, c6, c7, c8, c9, c10⟩ := pk_cells Y5.out
      dsimp only at c0 c1' c2' c3' c4 c5 c6 c7 c8 c9 c10
      go_wp2_with fail
      refine (build_calls (p := ⟨⟨opt, id, false, bm, pos, 200, 17, 167772161, 167772162⟩, qo, qb⟩) E5.out.1.rdb E5.out.2.rdb (by dsimp only; omega) (by dsimp only; rw [← EN.out]; omega) HWQ.out).mono ?_
      rintro e w6 ⟨t6, hp⟩
      rcases hp with ⟨hp, _⟩ | ⟨_, V6, rfl, o6, _⟩
      · exact absurd Q6.out hp
      have T36 := Lib.hid (T35.out.trans t6 (by simp))
      have Y6 := Lib.hid (touch_box t6 Y5.out (by simp))
      have Z6 := Lib.hid (touch_box t6 Z5.out (by simp))
      have O6 := Lib.hid (O5.out.near t6)
      have E6 := Lib.hid (E5.out.1.near t6)
      clear c0 c1' c2' c3' c4 c5 c6 c7 c8 c9 c10 Y5 Z5 O5 E5 T35 t6 o6
      obtain ⟨c0, c1', c2', c3', c4, c5, c6, c7, c8, c9, c10⟩ := pk_cells Y6.out
      obtain ⟨d0, d1, d2, d3, d4, d5, d6, d7, d8, d9, d10⟩ := pk_cells Z6.out
      dsimp only at c0 c1' c2' c3' c4 c5 c6 c7 c8 c9 c10 d0 d1 d2 d3 d4 d5 d6 d7 d8 d9 d10
      have hii : (id != id) = false := by simp
      have hoo : ((opt : Int) != (opt : Int)) = false := by simp
      go_upto_region 22 with (fail)
      go_cut [198] from 45 to 203 (fun v wq => v = .bool false ∧ Hid (Touch [] w6 wq))
      case first =>
        by_cases hi0 : i = 0
        · have e0 : ((i : Int) == 0) = true := by rw [beq_iff_eq]; omega
          have HQO : Hid (qo = O) := Lib.hid (Q7.out hi0)
          have HE6 : Hid (OwB w6 (.slice QA qo.length qc) O) := Lib.hid (by rw [← HQO.out]; exact E6.out)
          clear hi0
          go_wp2_with fail
          refine (eqb_calls HE6.out.rdb O6.out.rdb (by have := HOL.out; omega)).mono ?_
          rintro e w7 ⟨rfl, t7⟩
          have TX := Lib.hid t7
          clear t7 c0 c1' c2' c3' c4 c5 c6 c7 c8 c9 c10 d0 d1 d2 d3 d4 d5 d6 d7 d8 d9 d10
          go_wp2
          go_meet
          case rel => exact ⟨rfl, TX⟩
        · have e0 : ((i : Int) == 0) = false := by rw [beq_eq_false_iff_ne]; omega
          clear hi0
          go_wp2
          go_meet
          case rel => exact ⟨rfl, Lib.hid (Touch.refl _ _)⟩
      case rest =>
      obtain ⟨rfl, hT67⟩ := hcut
      have T37 := Lib.hid (T36.out.trans hT67.out (by simp))
      have Y7 := Lib.hid (touch_box hT67.out Y6.out (by simp))
      clear c0 c1' c2' c3' c4 c5 c6 c7 c8 c9 c10 d0 d1 d2 d3 d4 d5 d6 d7 d8 d9 d10
      obtain ⟨_, _, _, _, _, _, _, _, _, _, c10⟩ := pk_cells Y7.out
      go_wp2
      go_roundg (gk - 1)
      case rel => exact ⟨i + 1, pos + n, by go_num, by go_num, by omega, by omega, Q10, T37⟩
      case measure => omega
    · have li : ¬ (i : Int) < (N : Int) := by omega
      have hpB : Hid (pos = B.length) := Lib.hid (by
        rcases hC.out with ⟨_, h⟩ | ⟨_, _, _, _, _, _, _, h, _⟩
        · exact h
        · have := HN.out; omega)
      have Z4 := Lib.hid (touch_box hT.out Z3.out (by simp))
      have T4 := Lib.hid (T3.out.trans hT.out (by simp))
      have O4 := Lib.hid (O3.out.near hT.out)
      have B4 := Lib.hid (B3.out.near hT.out)
      rw [hpB.out]
      clear hpB hC hT
      obtain ⟨d0, d1, d2, d3, d4, d5, d6, d7, d8, d9, d10⟩ := pk_cells Z4.out
      have z2 := box_frozen Z4.out 2
      dsimp only at d0 d1 d2 d3 d4 d5 d6 d7 d8 d9 d10
      have hb0 : ((B.length : Int) != (B.length : Int)) = false := by simp
      go_upto_region 28 with (fail)
      obtain ⟨W5, hW5⟩ : ∃ W5 : World, W5 = wr.setCell ⟨b9, 2, none⟩ (.bool true) := ⟨_, rfl⟩
      rw [← hW5]
      have t5 : Touch [b9] wr W5 := by rw [hW5]; exact (Touch.refl _ wr).setCell _ _ (.inl (by simp))
      have Z5 := Lib.hid (show W5.heap[b9]? = some (.cells (pkC ⟨opt, id, true, false, 0, 200, 17, 167772161, 167772162⟩ (.slice A1 O.length c1) (.slice A2 B.length c2)) 30 (0, 0)) by rw [hW5]; simpa using box_set (o := 2) Z4.out (.bool true))
      have ne : ∀ {VX : Value} {m : List Int}, OwB wr VX m → ∀ k, VX.ownBlock = some k → k ∉ [b9] := by
        intro VX m ho k hk hm
        simp at hm
        subst hm
        obtain ⟨c, hc⟩ := ho.row.blk _ hk
        rw [Z4.out] at hc
        cases hc
      have O5 := Lib.hid (O4.out.kept t5 (ne O4.out))
      have B5 := Lib.hid (B4.out.kept t5 (ne B4.out))
      have T5 := Lib.hid (T4.out.trans t5 (fun x hx => .inr (by simp at hx; have := HB9.out; omega)))
      have HMAY' : Hid (bErr ⟨⟨opt, id, true, false, 0, 200, 17, 167772161, 167772162⟩, O, B⟩ = 0) := Lib.hid HMAY.out
      have HWF' : Hid ((⟨opt, id, true, false, 0, 200, 17, 167772161, 167772162⟩ : Hd).wf) := Lib.hid ⟨HWF.out.tos, HWF.out.id, HWF.out.off, HWF.out.ttl, HWF.out.proto, HWF.out.src, HWF.out.dst⟩
      have HED := Lib.hid (splitE_df (p := ⟨⟨opt, id, true, false, 0, 200, 17, 167772161, 167772162⟩, O, B⟩) hmt1 HMAY'.out rfl)
      clear ne t5 hW5 d0 d1 d2 d3 d4 d5 d6 d7 d8 d9 d10 z2 hb0 Z4 O4 B4 T4
      obtain ⟨d0, d1, d2, d3, d4, d5, d6, d7, d8, d9, d10⟩ := pk_cells Z5.out
      dsimp only at d0 d1 d2 d3 d4 d5 d6 d7 d8 d9 d10
      go_wp2_with fail
      refine (split_calls (p := ⟨⟨opt, id, true, false, 0, 200, 17, 167772161, 167772162⟩, O, B⟩) O5.out.rdb B5.out.rdb (by have := HOL.out; dsimp only; omega) (by have := HBL.out; dsimp only; omega) HWF'.out mt (by omega) (by omega)).mono ?_
      rintro e w6 ⟨t6, V6, l6, rfl, p6, hl6, _, _⟩
      obtain ⟨A6, c6, rfl⟩ := p6.row.form
      have Z6 := Lib.hid (touch_box t6 Z5.out (by simp))
      have T6 := Lib.hid (T5.out.trans t6 (by simp))
      have O6 := Lib.hid (O5.out.near t6)
      have B6 := Lib.hid (B5.out.near t6)
      have P6 := Lib.hid p6
      have HL6 := Lib.hid hl6
      clear p6 hl6 t6 d0 d1 d2 d3 d4 d5 d6 d7 d8 d9 d10 Z5 T5 O5 B5
      by_cases h1 : N = 1
      · have hs := HONE.out.1 (by rw [← HN.out]; exact h1)
        have hE0 : Hid (splitE ⟨⟨opt, id, true, false, 0, 200, 17, 167772161, 167772162⟩, O, B⟩ mt = 0) := Lib.hid (by rw [HED.out]; rw [if_pos hs])
        have hSP := splitP_whole (p := ⟨⟨opt, id, true, false, 0, 200, 17, 167772161, 167772162⟩, O, B⟩) hs hmt1 HMAY'.out
        have hM1 : l6.length = 1 := by have := congrArg List.length HL6.out; rw [hSP] at this; simpa using this
        obtain ⟨⟨q, QO, QB⟩, he⟩ : ∃ e, l6[0]? = some e := ⟨_, List.getElem?_eq_getElem (by omega)⟩
        have hq : q = ⟨⟨opt, id, true, false, 0, 200, 17, 167772161, 167772162⟩, O, B⟩ := by
          have h2 := congrArg (fun z => z[0]?) HL6.out
          rw [hSP] at h2
          simp only [List.getElem?_map, he, Option.map_some, List.getElem?_cons_zero, Option.some.injEq] at h2
          exact h2
        subst hq
        rw [hE0.out]
        obtain ⟨g6, hA6, h6⟩ := P6.out.cells (by omega)
        subst hA6
        have E6 := Lib.hid (P6.out.el _ (List.mem_of_getElem? he))
        obtain ⟨QA, qc, hQ⟩ := E6.out.1.row.form
        obtain ⟨QA', qc', hQ'⟩ := E6.out.2.row.form
        dsimp only at hQ hQ' E6
        subst hQ hQ'
        have n6 : ∀ (u : Near w6) (jj : Nat) (v : Value), (pkC ⟨opt, id, true, false, 0, 200, 17, 167772161, 167772162⟩ (.slice QA O.length qc) (.slice QA' B.length qc')).toList[jj]? = some v → u.w.cell? ⟨g6, jj, none⟩ = some v := fun u jj v hv => u.cell (by simpa using h6 0 _ he jj v hv)
        have x0 := fun u : Near w6 => n6 u 0 _ rfl
        have x1 := fun u : Near w6 => n6 u 1 _ rfl
        have x2 := fun u : Near w6 => n6 u 2 _ rfl
        have x3 := fun u : Near w6 => n6 u 3 _ rfl
        have x4 := fun u : Near w6 => n6 u 4 _ rfl
        have x5 := fun u : Near w6 => n6 u 5 _ rfl
        have x6 := fun u : Near w6 => n6 u 6 _ rfl
        have x7 := fun u : Near w6 => n6 u 7 _ rfl
        have x8 := fun u : Near w6 => n6 u 8 _ rfl
        have x9 := fun u : Near w6 => n6 u 9 _ rfl
        have x10 := fun u : Near w6 => n6 u 10 _ rfl
        obtain ⟨c0', c1', c2', c3', c4', c5', c6', c7', c8', c9', c10'⟩ := pk_cells Z6.out
        dsimp only at c0' c1' c2' c3' c4' c5' c6' c7' c8' c9' c10'
        have y0 := fun u : Near w6 => u.cell c0'
        have y1 := fun u : Near w6 => u.cell c1'
        have y2 := fun u : Near w6 => u.cell c2'
        have y3 := fun u : Near w6 => u.cell c3'
        have y4 := fun u : Near w6 => u.cell c4'
        have y5 := fun u : Near w6 => u.cell c5'
        have y6 := fun u : Near w6 => u.cell c6'
        have y7 := fun u : Near w6 => u.cell c7'
        have y8 := fun u : Near w6 => u.cell c8'
        have y9 := fun u : Near w6 => u.cell c9'
        have y10 := fun u : Near w6 => u.cell c10'
        have HQ := Lib.hid (fun u : Near w6 => eqp_near u (p := ⟨⟨opt, id, true, false, 0, 200, 17, 167772161, 167772162⟩, O, B⟩) E6.out.1.rdb O6.out.rdb E6.out.2.rdb B6.out.rdb (by have := HOL.out; dsimp only; omega) (by have := HBL.out; dsimp only; omega))
        dsimp only at HQ
        have hM1' := Lib.hid hM1
        rw [hM1]
        rw [h1]
        clear n6 h6 he hs hSP hM1 h1 hi hik hil li hpos hn0 hN9 c0' c1' c2' c3' c4' c5' c6' c7' c8' c9' c10'
        go_wp2
        refine wp_region_near (by kernel_rfl) (by kernel_rfl) ?_
        repeat (go_big_quiet_step ((go_at_call 14; exact HQ.out _)))
        refine wpQuiet_nil ?_
        rintro _ ⟨u2, rfl⟩
        have TX := Lib.hid (T6.out.trans u2.near (by simp))
        clear x0 y0 x1 y1 x2 y2 x3 y3 x4 y4 x5 y5 x6 y6 x7 y7 x8 y8 x9 y9 x10 y10 HQ
        go_wp2
        go_ret
        exact ⟨rfl, TX.out⟩
      · have hs : ¬ (20 + O.length + B.length : Int) ≤ mt := fun hs => h1 (by rw [HN.out]; exact HONE.out.2 hs)
        have hE0 : Hid (splitE ⟨⟨opt, id, true, false, 0, 200, 17, 167772161, 167772162⟩, O, B⟩ mt = 51) := Lib.hid (by rw [HED.out]; rw [if_neg hs])
        have hl60 : l6 = [] := by
          have h2 := HL6.out
          unfold splitP at h2
          rw [hE0.out] at h2
          simpa using h2
        subst hl60
        rw [hE0.out]
        have hN1 : ((N : Int) == 1) = false := by rw [beq_eq_false_iff_ne]; omega
        clear hs h1 P6 HL6
        go_wp2
        go_ret
        exact ⟨rfl, T6.out⟩
end Go.Proofs.Ytelfemhnijnhfaa.Fr
