/- down; no condition. -/
import Derived.Test.YtelfemhnijnhfaaTmC
import Derived.Deep.DeepCutAuto
namespace Go.Proofs.Ytelfemhnijnhfaa.Fr.Tm
open Go.RowKit Go.Maps
set_option linter.unusedVariables false
set_option maxRecDepth 100000

def pickB (hp : List Pr) (i : Nat) : Bool := decide (2 * i + 2 < hp.length ∧ aheadB (hp.getD (2 * i + 2) (0, 0)) (hp.getD (2 * i + 1) (0, 0)) = true)
def pickM (hp : List Pr) (i : Nat) : Nat := if pickB hp i = true then 2 * i + 2 else 2 * i + 1
def downM (x : Pr) : Nat → St → Nat → St
  | 0, s, i => putM s i x
  | k + 1, s, i => if 2 * i + 1 < s.hp.length ∧ aheadB (s.hp.getD (pickM s.hp i) (0, 0)) x = true then downM x k (putM s i (s.hp.getD (pickM s.hp i) (0, 0))) (pickM s.hp i) else putM s i x
theorem downM_stop {x : Pr} (k : Nat) (s : St) (i : Nat) (h : ¬ (2 * i + 1 < s.hp.length ∧ aheadB (s.hp.getD (pickM s.hp i) (0, 0)) x = true)) : downM x k s i = putM s i x := by
  cases k with
  | zero => rfl
  | succ k => rw [downM, if_neg h]
theorem pickM_lt {hp : List Pr} {i : Nat} (h : 2 * i + 1 < hp.length) : pickM hp i < hp.length ∧ i < pickM hp i := by
  unfold pickM pickB; simp only [decide_eq_true_eq]; split <;> omega
theorem getD_pair (l : List Pr) (i : Nat) (h : i < l.length) : ∃ a b, l.getD i (0, 0) = (a, b) ∧ l[i]? = some (a, b) := by
  refine ⟨l[i].1, l[i].2, ?_, ?_⟩
  · simp [List.getD_eq_getElem?_getD, h]
  · simp [h]

set_option maxHeartbeats 800000 in
theorem down_calls {w : World} {tb : Nat} {V : Value} {mb : Nat} {lim : Int} {s : St} (h : TimersAt w tb V mb lim s) (hG : Good s) (i : Int) (h0 : 0 ≤ i) (hi : i < s.hp.length) (hsm : s.hp.length ≤ 70000) :
    Calls Try.prog 74 #[.pointer (some ⟨tb, 0, none⟩), .int .i64 i] w fun e w' => e = .returned (.tuple #[]) ∧ TimersAt w' tb V mb lim (downM (s.hp.getD i.toNat (0, 0)) s.hp.length s i.toNat) ∧ Touch (foot tb V mb) w w' := by
  obtain ⟨i, rfl⟩ := Int.eq_ofNat_of_zero_le h0
  obtain ⟨g, cap, rfl, hg, hcap, hlen, cur, hcur⟩ := h.row.formP (by omega)
  obtain ⟨c0, c1, c2, f1⟩ := h.cells
  have htb := h.tb_lt
  have hgne := (h.g_ne g rfl)
  have hi1 : i < s.hp.length := by omega
  obtain ⟨x0, x1, hx, hp⟩ := getD_pair s.hp i hi1
  obtain ⟨k0, k1, z0, z1⟩ := h.row.cell i _ hp
  dsimp only at k0 k1
  have hi' : (i : Int) < (s.hp.length : Int) := hi
  have hgt : g ≠ tb := hgne.1
  have hx0 : wfi x0 ∧ wfi x1 := by have := hG.get i hi1; rw [hx] at this; exact ⟨this.1, this.2.1⟩
  have HX := Lib.hid hx
  clear hx hp hcur
  go_enter Try.func74, Try.ntmps74
  go_wp2
  go_loopg [1] s.hp.length (fun kq v1 wr => ∃ (j : Nat) (t : St), v1 = .int .i64 j ∧ Hid (downM (x0, x1) kq t j = downM (x0, x1) s.hp.length s i) ∧ TimersAt wr tb (.slice (some ⟨g, 0, none⟩) s.hp.length cap) mb lim t ∧ Good t ∧ Hid (t.hp.length = s.hp.length) ∧ j < s.hp.length ∧ s.hp.length ≤ j + kq ∧
      wr.heap[w.heap.size]? = some (.cells #[.int .i64 x0, .int .i64 x1] 149 (0, 0)) ∧ Touch (foot tb (.slice (some ⟨g, 0, none⟩) s.hp.length cap) mb) w wr)
  case atStart => exact ⟨i, s, rfl, Lib.hid rfl, h.kept (S := []) (((Touch.refl [] w).alloc _)) (by simp), hG, Lib.hid rfl, hi1, by omega, heap_alloc_new w _, (Touch.refl _ w).alloc _⟩
  case round =>
    obtain ⟨j, t, rfl, hU, hT, hGt, hlt, hj, hjk, hXB, hTch⟩ := hrel
    have hjl : j < t.hp.length := by rw [hlt.out]; exact hj
    obtain ⟨d0, d1, d2, e1⟩ := hT.cells
    have hXc0 : wr.cell? ⟨w.heap.size, 0, none⟩ = some (.int .i64 x0) := by simp [World.cell?, hXB]
    have hXc1 : wr.cell? ⟨w.heap.size, 1, none⟩ = some (.int .i64 x1) := by simp [World.cell?, hXB]
    have hXlt : w.heap.size < wr.heap.size := (Array.getElem?_eq_some_iff.1 hXB).1
    have HXB := Lib.hid hXB
    have HT := Lib.hid hT
    have hn : t.n ≤ 65537 := hGt.n
    clear hT c0 c1 c2 f1 k0 k1 z0 z1 hXB
    by_cases hjc : 2 * j + 1 < s.hp.length
    · have hd0 : decide (2 * (j : Int) + 1 < (s.hp.length : Int)) = true := by simp; omega
      have hl1 : 2 * j + 1 < t.hp.length := by rw [hlt.out]; exact hjc
      obtain ⟨a0, a1, ha, ha'⟩ := getD_pair t.hp (2 * j + 1) hl1
      obtain ⟨k0, k1, z0, z1⟩ := HT.out.row.cell _ _ ha'
      dsimp only at k0 k1
      have HA := Lib.hid ha
      clear ha ha'
      have b0 : (2 * (j : Int) + 1) < (s.hp.length : Int) := by omega
      go_upto_region 3 with (fail)
      go_cut [50] (fun v50 wc => ∃ b : Bool, v50 = .bool b ∧ Hid (b = pickB t.hp j) ∧ Touch [] wr wc)
      case first =>
        by_cases h2 : 2 * j + 2 < s.hp.length
        · have hd1 : decide (2 * (j : Int) + 1 + 1 < (s.hp.length : Int)) = true := by simp; omega
          have hl2 : 2 * j + 2 < t.hp.length := by rw [hlt.out]; exact h2
          obtain ⟨q0, q1, hq, hq'⟩ := getD_pair t.hp (2 * j + 2) hl2
          obtain ⟨k0', k1', z0', z1'⟩ := HT.out.row.cell _ _ hq'
          dsimp only at k0' k1'
          have HQ := Lib.hid hq
          have e2 : 2 * j + 2 = 2 * j + 1 + 1 := rfl
          rw [e2] at k0' k1'
          have b1 : (2 * (j : Int) + 1 + 1) < (s.hp.length : Int) := by omega
          clear hq hq' e2
          have n2 := fun u : Near wr => u.cell d1
          have n3 := fun u : Near wr => u.cell k0
          have n4 := fun u : Near wr => u.cell k1
          have n5 := fun u : Near wr => u.cell k0'
          have n6 := fun u : Near wr => u.cell k1'
          go_wp2
          refine wp_region_near (by kernel_rfl) (by kernel_rfl) ?_
          repeat (go_big_quiet_step ((go_at_call 88; refine near_call _ (ahead_any _ _ _ _ _))))
          refine wpQuiet_nil ?_
          rintro _ ⟨u, rfl⟩
          cases hb : aheadB (q0, q1) (a0, a1) with
          | true =>
            have HB := Lib.hid hb
            clear hb
            go_wp2
            go_meet
            case rel => exact ⟨true, rfl, Lib.hid (by symm; rw [pickB, decide_eq_true_eq]; exact ⟨hl2, by rw [HA.out, HQ.out]; exact HB.out⟩), u.near⟩
          | false =>
            have HB := Lib.hid hb
            clear hb
            go_wp2
            go_meet
            case rel => exact ⟨false, rfl, Lib.hid (by symm; rw [pickB, decide_eq_false_iff_not]; intro hh; have := hh.2; rw [HA.out, HQ.out, HB.out] at this; cases this), u.near⟩
        · have hd1 : decide (2 * (j : Int) + 1 + 1 < (s.hp.length : Int)) = false := by simp; omega
          have HP := Lib.hid h2
          clear h2
          have n2 := fun u : Near wr => u.cell d1
          go_wp2
          refine wp_region_near (by kernel_rfl) (by kernel_rfl) ?_
          repeat (go_big_quiet_step (fail))
          refine wpQuiet_nil ?_
          rintro _ ⟨u, rfl⟩
          go_wp2
          go_meet
          case rel => exact ⟨false, rfl, Lib.hid (by symm; rw [pickB, decide_eq_false_iff_not]; exact fun hh => HP.out (hlt.out ▸ hh.1)), u.near⟩
      case rest =>
        obtain ⟨b, rfl, hpb, hTc⟩ := hcut
        go_upto_if 50 with (fail)
        go_cut [5] (fun v5 wc2 => ∃ k : Nat, v5 = .int .i64 k ∧ Hid (k = pickM t.hp j) ∧ wc2 = wc)
        case first =>
          cases b with
          | true =>
            go_wp2
            go_meet
            case rel => exact ⟨2 * j + 1 + 1, by go_num, Lib.hid (by rw [pickM, ← hpb.out]; rfl), rfl⟩
          | false =>
            go_wp2
            go_meet
            case rel => exact ⟨2 * j + 1, by go_num, Lib.hid (by rw [pickM, ← hpb.out]; rfl), rfl⟩
        case rest =>
        obtain ⟨k, rfl, hk, rfl⟩ := hcut
        have hkl : k < t.hp.length := by rw [hk.out]; exact (pickM_lt hl1).1
        have hjk2 : j < k := by rw [hk.out]; exact (pickM_lt hl1).2
        have hks : k < s.hp.length := by have := hlt.out; omega
        have hTu := HT.out.kept hTc (by simp)
        obtain ⟨d0, d1, d2, e1⟩ := hTu.cells
        obtain ⟨q0, q1, hq, hq'⟩ := getD_pair t.hp k hkl
        clear k0 k1 z0 z1
        obtain ⟨k0, k1, z0, z1⟩ := hTu.row.cell _ _ hq'
        dsimp only at k0 k1
        have hTn : Touch (foot tb (.slice (some ⟨g, 0, none⟩) s.hp.length cap) mb) w wc := hTch.trans hTc (by simp)
        have hXu : wc.heap[w.heap.size]? = some (.cells #[.int .i64 x0, .int .i64 x1] 149 (0, 0)) := (hTc.block _ hXlt (by simp)).trans HXB.out
        have hgp := hGt.get k hkl
        rw [hq] at hgp
        have hXc0 : wc.cell? ⟨w.heap.size, 0, none⟩ = some (.int .i64 x0) := by simp [World.cell?, hXu]
        have hXc1 : wc.cell? ⟨w.heap.size, 1, none⟩ = some (.int .i64 x1) := by simp [World.cell?, hXu]
        have n0 := fun u : Near wc => u.cell hXc0
        have n1 := fun u : Near wc => u.cell hXc1
        have n2 := fun u : Near wc => u.cell d1
        have n3 := fun u : Near wc => u.cell k0
        have n4 := fun u : Near wc => u.cell k1
        have hult : w.heap.size < wc.heap.size := (Array.getElem?_eq_some_iff.1 hXu).1
        have HXU := Lib.hid hXu
        have HTU := Lib.hid hTu
        have HQ := Lib.hid hq
        clear hq hq' hXu hTu
        go_wp2
        refine wp_region_near (by kernel_rfl) (by kernel_rfl) ?_
        repeat (go_big_quiet_step ((go_at_call 88; refine near_call _ (ahead_any _ _ _ _ _))))
        refine wpQuiet_nil ?_
        rintro _ ⟨u, rfl⟩
        have hTv := HTU.out.kept u.near (by simp)
        have hTw : Touch (foot tb (.slice (some ⟨g, 0, none⟩) s.hp.length cap) mb) w u.w := hTn.trans u.near (by simp)
        have hXv : u.w.heap[w.heap.size]? = some (.cells #[.int .i64 x0, .int .i64 x1] 149 (0, 0)) := (u.near.block _ hult (by simp)).trans HXU.out
        have hult2 : w.heap.size < u.w.heap.size := (Array.getElem?_eq_some_iff.1 hXv).1
        have HXV := Lib.hid hXv
        have HTV := Lib.hid hTv
        have v0 := n0 u
        have v1 := n1 u
        have v2 := n2 u
        have v3 := n3 u
        have v4 := n4 u
        clear hXv hTv n0 n1 n2 n3 n4 d0 d1 d2 e1 hXc0 hXc1 k0 k1 z0 z1
        cases hb : aheadB (q0, q1) (x0, x1) with
        | true =>
          have HB := Lib.hid hb
          clear hb
          go_wp2_with fail
          refine (put_calls HTV.out (j : Int) q0 q1 (by omega) (by omega) hgp.1 (by omega)).mono ?_
          rintro e w1 ⟨rfl, hT1, ht1⟩
          have hX1 : w1.heap[w.heap.size]? = some (.cells #[.int .i64 x0, .int .i64 x1] 149 (0, 0)) := (ht1.block _ hult2 (fun hx => by have := h.foot_lt _ hx; omega)).trans HXV.out
          have hstep : downM (x0, x1) (gk - 1) (putM t j (q0, q1)) k = downM (x0, x1) gk t j := by
            obtain ⟨m, rfl⟩ : ∃ m, gk = m + 1 := ⟨gk - 1, by omega⟩
            rw [downM, ← hk.out, HQ.out, if_pos ⟨hl1, HB.out⟩]
            rfl
          have HS := Lib.hid (hstep.trans hU.out)
          clear hstep
          go_wp2
          go_roundg (gk - 1)
          case rel =>
            exact ⟨k, putM t j (q0, q1), rfl, HS, hT1, hGt.put j (q0, q1) ⟨hgp.1, hgp.2.1⟩ hgp.2.2, Lib.hid ((putM_len t j (q0, q1)).trans hlt.out), hks, by omega, hX1, hTw.trans ht1 (fun x hx => .inl hx)⟩
          case measure => omega
        | false =>
          have HB := Lib.hid hb
          clear hb
          go_wp2_with fail
          refine (put_calls HTV.out (j : Int) x0 x1 (by omega) (by omega) hx0.1 (by omega)).mono ?_
          rintro e w1 ⟨rfl, hT1, ht1⟩
          go_wp2
          go_end0
          refine ⟨rfl, ?_, hTw.trans ht1 (fun x hx => .inl hx)⟩
          rw [show ((i : Int)).toNat = i from rfl, HX.out, ← hU.out, downM_stop (x := (x0, x1)) _ _ _ (fun hh => by have := hh.2; rw [← hk.out, HQ.out, HB.out] at this; cases this)]
          exact hT1
    · have hd0 : decide (2 * (j : Int) + 1 < (s.hp.length : Int)) = false := by simp; omega
      have HJ := Lib.hid hjc
      clear hjc
      go_wp2_with fail
      refine (put_calls HT.out (j : Int) x0 x1 (by omega) (by omega) hx0.1 (by omega)).mono ?_
      rintro e w1 ⟨rfl, hT1, ht1⟩
      go_wp2
      go_end0
      refine ⟨rfl, ?_, hTch.trans ht1 (fun x hx => .inl hx)⟩
      rw [show ((i : Int)).toNat = i from rfl, HX.out, ← hU.out, downM_stop (x := (x0, x1)) _ _ _ (fun hh => HJ.out (hlt.out ▸ hh.1))]
      exact hT1
end Go.Proofs.Ytelfemhnijnhfaa.Fr.Tm
