/- optionsOK, orderly; no condition. -/
import Derived.Test.YtelfemhnijnhfaaFA
import Derived.Test.YtelfemhnijnhfaaOpts
namespace Go.Proofs.Ytelfemhnijnhfaa.Fr
open Go.RowKit Go.Maps
set_option linter.unusedVariables false

def ordB (off body : Int) (mf : Bool) : Bool := decide (0 ≤ off ∧ off ≤ 65528 ∧ off % 8 = 0 ∧ off + body ≤ 65535) && (!mf || decide (0 < body ∧ body % 8 = 0))
set_option maxHeartbeats 1000000 in
theorem opts_calls {w : World} {V : Value} {l : List Int} (h : RdB w V l) (hlen : l.length < 4611686018427387904) :
    Calls Try.prog 37 #[V] w fun e w' => e = .returned (.bool (areaB l)) ∧ w' = w := by
  obtain ⟨⟨A, cap, rfl, hcap, _, hr⟩, wf⟩ := h
  by_cases h40 : 40 < l.length
  · have e : Hid (areaB l = false) := Lib.hid (by unfold areaB; simp; intro h; omega)
    have e1 : (40 : Int) < (l.length : Int) := by omega
    have e1d : decide ((40 : Int) < (l.length : Int)) = true := by rw [decide_eq_true_eq]; omega
    clear hr wf
    go_enter Try.func37, Try.ntmps37
    go_wp2
    go_ret
    exact ⟨by rw [e.out]; rfl, rfl⟩
  by_cases h4 : l.length % 4 = 0
  rotate_left
  · have e : Hid (areaB l = false) := Lib.hid (by unfold areaB; simp; intro h1 h2; exact absurd h2 h4)
    have e1 : ¬ (40 : Int) < (l.length : Int) := by omega
    have e1d : decide ((40 : Int) < (l.length : Int)) = false := by rw [decide_eq_false_iff_not]; omega
    have e2 : ((((l.length : Int) % 4)) != 0) = true := by simp; omega
    have e2' : ((((l.length : Int) % 4)) == 0) = false := by rw [beq_eq_false_iff_ne]; omega
    clear hr wf h4
    go_enter Try.func37, Try.ntmps37
    go_wp2
    go_ret
    exact ⟨by rw [e.out]; rfl, rfl⟩
  have HA : Hid (areaB l = optsOK l) := Lib.hid (by unfold areaB; rw [decide_eq_true (show l.length ≤ 40 ∧ l.length % 4 = 0 from ⟨by omega, h4⟩)]; rfl)
  have e1 : ¬ (40 : Int) < (l.length : Int) := by omega
  have e1d : decide ((40 : Int) < (l.length : Int)) = false := by rw [decide_eq_false_iff_not]; omega
  have e2 : ((((l.length : Int) % 4)) != 0) = false := by simp; omega
  have e2' : ((((l.length : Int) % 4)) == 0) = true := by rw [beq_iff_eq]; omega
  have HR := Lib.hid hr
  have WF := Lib.hid wf
  clear hr wf h4
  go_enter Try.func37, Try.ntmps37
  go_wp2
  clear e1d e2 e2' e1
  go_loopg [3] l.length (fun kq v3 wr => ∃ i : Nat, v3 = .int .i64 i ∧ i ≤ l.length ∧ l.length - i ≤ kq ∧ Hid (optsOK l = optsOK (l.drop i)) ∧ Hid (wr = w))
  case atStart => exact ⟨0, rfl, by omega, by omega, Lib.hid (by simp), Lib.hid rfl⟩
  case round =>
    obtain ⟨i, rfl, hi, hk, hok, hw⟩ := hrel
    obtain rfl := hw.out
    by_cases hlt : i < l.length
    · obtain ⟨b, off, hA, hb, hc⟩ := HR.out (by omega)
      subst hA
      obtain ⟨x, hx⟩ : ∃ x, l[i]? = some x := ⟨_, List.getElem?_eq_getElem hlt⟩
      have hxw := WF.out x (List.mem_of_getElem? hx)
      have m0 := hc i x hx
      have lt1 : (i : Int) < (l.length : Int) := by omega
      by_cases h0 : x = 0
      · subst h0
        have hz := ok_zero hx
        obtain ⟨r, hr⟩ : ∃ r : Bool, r = (l.drop i).all (fun y => y == 0) := ⟨_, rfl⟩
        have HRes : Hid (areaB l = r) := Lib.hid (by rw [HA.out, hok.out, hz, hr])
        have HRr := Lib.hid hr
        have cn : ¬ cap = i := by omega
        have cd : (cap == i) = false := by rw [beq_eq_false_iff_ne]; exact cn
        have HC := Lib.hid hc
        have hi2 : (i : Int) ≤ (l.length : Int) := by omega
        clear hz hr hc hx hxw hok hw hk
        go_wp2
        obtain ⟨m, hm⟩ : ∃ m : Nat, m = l.length - i := ⟨_, rfl⟩
        rw [← hm]
        have HM := Lib.hid hm
        have hml : m < 4611686018427387904 := by omega
        clear hm
        go_loopg [63] m (fun kq v63 wq => ∃ j : Nat, v63 = .int .i64 j ∧ j ≤ m ∧ m - j ≤ kq ∧ Hid (∀ k, k < j → l[i + k]? = some 0) ∧ Hid (wq = wr))
        case atStart => exact ⟨0, rfl, by omega, by omega, Lib.hid (fun k hk => by omega), Lib.hid rfl⟩
        case round =>
          obtain ⟨j, rfl, hj, hk, hz, hw⟩ := hrel
          obtain rfl := hw.out
          by_cases hjl : j < m
          · have hjl1 : (j : Int) < (m : Int) := by omega
            have hil := HM.out
            obtain ⟨y, hy⟩ : ∃ y, l[i + j]? = some y := ⟨_, List.getElem?_eq_getElem (by omega)⟩
            have my := HC.out (i + j) y hy
            rw [← Nat.add_assoc] at my
            clear hil
            by_cases hy0 : y = 0
            · subst hy0
              have HY := Lib.hid hy
              clear hy
              go_wp2
              go_roundg (gk - 1)
              case rel => exact ⟨j + 1, by go_num, by omega, by omega, Lib.hid (fun k hk => by rcases Nat.lt_succ_iff_lt_or_eq.1 hk with h | rfl; exact hz.out k h; exact HY.out), Lib.hid rfl⟩
              case measure => omega
            · have hy1 : (y != 0) = true := by simpa using hy0
              have hy2 : (y == 0) = false := by simpa using hy0
              have HF : Hid (r = false) := Lib.hid (by
                rw [HRr.out, Bool.eq_false_iff]
                intro h
                exact hy0 (all_zero h y (List.mem_of_getElem? (i := j) (by rw [List.getElem?_drop]; exact hy))))
              clear hy hy0
              go_wp2
              try rw [Exit.noGoto_ret]
              go_ret
              exact ⟨by rw [HRes.out, HF.out]; rfl, rfl⟩
          · have hjl1 : ¬ (j : Int) < (m : Int) := by omega
            have HF : Hid (r = true) := Lib.hid (by
              rw [HRr.out, List.all_eq_true]
              intro y hy
              obtain ⟨k, hk⟩ := List.getElem?_of_mem hy
              rw [List.getElem?_drop] at hk
              have hkl := (List.getElem?_eq_some_iff.1 hk).1
              have := HM.out
              rw [hz.out k (by omega)] at hk
              simpa using hk.symm)
            go_wp2
            try rw [Exit.noGoto_ret]
            go_ret
            exact ⟨by rw [HRes.out, HF.out]; rfl, rfl⟩
      · by_cases h1 : x = 1
        · subst h1
          have HN := Lib.hid (ok_nop hx)
          have hxx := Lib.hid hx
          clear hx hxw h0 hc
          go_wp2
          go_roundg (gk - 1)
          case rel => exact ⟨i + 1, by go_num, by omega, by omega, Lib.hid (by rw [hok.out, HN.out]), Lib.hid rfl⟩
          case measure => omega
        · have hx0 : (x == 0) = false := by rw [beq_eq_false_iff_ne]; exact h0
          have hx1 : (x == 1) = false := by rw [beq_eq_false_iff_ne]; exact h1
          have hcl : (i : Int) + 1 ≤ 4611686018427387904 := by omega
          by_cases hs : l.length ≤ i + 1
          · have HB := Lib.hid (ok_short hx h0 h1 hs)
            have HRes : Hid (areaB l = false) := Lib.hid (by rw [HA.out, hok.out, HB.out])
            have b1 : (l.length : Int) ≤ (i : Int) + 1 := by omega
            have b1d : decide ((l.length : Int) ≤ (i : Int) + 1) = true := by rw [decide_eq_true_eq]; omega
            clear hx h0 h1 hc hok
            go_wp2
            try rw [Exit.noGoto_ret]
            go_ret
            exact ⟨by rw [HRes.out]; rfl, rfl⟩
          · obtain ⟨n, hn⟩ : ∃ n, l[i + 1]? = some n := ⟨_, List.getElem?_eq_getElem (by omega)⟩
            have hnw := WF.out n (List.mem_of_getElem? hn)
            have m1 := hc (i + 1) n hn
            have b1 : ¬ (l.length : Int) ≤ (i : Int) + 1 := by omega
            have b1d : decide ((l.length : Int) ≤ (i : Int) + 1) = false := by rw [decide_eq_false_iff_not]; omega
            have b1e : (i : Int) + 1 < (l.length : Int) := by omega
            obtain ⟨hn0, hn1⟩ := hnw
            by_cases hb : n < 2 ∨ (l.length : Int) < i + n
            · have HB := Lib.hid (ok_bad hx h0 h1 hn hb)
              have HRes : Hid (areaB l = false) := Lib.hid (by rw [HA.out, hok.out, HB.out])
              by_cases h2 : n < 2
              · have h2d : decide (n < 2) = true := by rw [decide_eq_true_eq]; exact h2
                clear hx h0 h1 hc hok hn hb
                go_wp2
                try rw [Exit.noGoto_ret]
                go_ret
                exact ⟨by rw [HRes.out]; rfl, rfl⟩
              · have h2d : decide (n < 2) = false := by rw [decide_eq_false_iff_not]; exact h2
                have h3 : (l.length : Int) < (i : Int) + n := by omega
                have h3d : decide ((l.length : Int) < (i : Int) + n) = true := by rw [decide_eq_true_eq]; exact h3
                clear hx h0 h1 hc hok hn hb
                go_wp2
                try rw [Exit.noGoto_ret]
                go_ret
                exact ⟨by rw [HRes.out]; rfl, rfl⟩
            · have h2 : ¬ n < 2 := by omega
              have h2d : decide (n < 2) = false := by rw [decide_eq_false_iff_not]; exact h2
              have h3 : ¬ (l.length : Int) < (i : Int) + n := by omega
              have h3d : decide ((l.length : Int) < (i : Int) + n) = false := by rw [decide_eq_false_iff_not]; exact h3
              have HN := Lib.hid (ok_next hx h0 h1 hn (by omega) (by omega))
              have hnn : Hid ((i : Int) + n = ((i + n.toNat : Nat) : Int)) := Lib.hid (by omega)
              clear hx h0 h1 hc hn hb
              go_wp2
              go_roundg (gk - 1)
              case rel => exact ⟨i + n.toNat, by rw [hnn.out], by omega, by omega, Lib.hid (by rw [hok.out, HN.out]), Lib.hid rfl⟩
              case measure => omega
    · have lt1 : ¬ (i : Int) < (l.length : Int) := by omega
      have HRes : Hid (areaB l = true) := Lib.hid (by rw [HA.out, hok.out, ok_end (by omega)])
      clear hok hk
      go_wp2
      go_ret
      exact ⟨by rw [HRes.out]; rfl, rfl⟩
set_option maxHeartbeats 1000000 in
theorem ord_calls (w : World) (off body : Int) (mf : Bool) (h0 : -9223372036854775808 ≤ off) (h1 : off ≤ 9223372036854775807) (hb : 0 ≤ body) (hb2 : body ≤ 4611686018427387904) :
    Calls Try.prog 38 #[.int .i64 off, .int .i64 body, .bool mf] w fun e w' => e = .returned (.bool (ordB off body mf)) ∧ w' = w := by
  by_cases c0 : 0 ≤ off ∧ off ≤ 65528 ∧ off % 8 = 0 ∧ off + body ≤ 65535
  · have e : Hid (ordB off body mf = (!mf || decide (0 < body ∧ body % 8 = 0))) := Lib.hid (by unfold ordB; rw [decide_eq_true c0]; rfl)
    obtain ⟨g0, g1, g2, g3⟩ := c0
    have f0 : ¬ off < 0 := by omega
    have f1 : ¬ 65528 < off := by omega
    have f2 : (off % 8 != 0) = false := by simp; omega
    have f2' : (off % 8 == 0) = true := by rw [beq_iff_eq]; omega
    have f3 : ¬ 65535 < off + body := by omega
    cases mf
    · go_enter Try.func38, Try.ntmps38
      go_wp2
      go_ret
      exact ⟨by rw [e.out]; rfl, rfl⟩
    · by_cases k0 : 0 < body
      · have k0d : decide (0 < body) = true := by rw [decide_eq_true_eq]; exact k0
        by_cases k1 : body % 8 = 0
        · have k2 : (body % 8 == 0) = true := by rw [beq_iff_eq]; exact k1
          have e2 : Hid (decide (0 < body ∧ body % 8 = 0) = true) := Lib.hid (by rw [decide_eq_true_eq]; exact ⟨k0, k1⟩)
          clear k1
          go_enter Try.func38, Try.ntmps38
          go_wp2
          go_ret
          exact ⟨by rw [e.out, e2.out]; rfl, rfl⟩
        · have k2 : (body % 8 == 0) = false := by rw [beq_eq_false_iff_ne]; exact k1
          have e2 : Hid (decide (0 < body ∧ body % 8 = 0) = false) := Lib.hid (by rw [decide_eq_false_iff_not]; exact fun h => k1 h.2)
          clear k1
          go_enter Try.func38, Try.ntmps38
          go_wp2
          go_ret
          exact ⟨by rw [e.out, e2.out]; rfl, rfl⟩
      · have k0d : decide (0 < body) = false := by rw [decide_eq_false_iff_not]; exact k0
        have e2 : Hid (decide (0 < body ∧ body % 8 = 0) = false) := Lib.hid (by rw [decide_eq_false_iff_not]; exact fun h => k0 h.1)
        go_enter Try.func38, Try.ntmps38
        go_wp2
        go_ret
        exact ⟨by rw [e.out, e2.out]; rfl, rfl⟩
  · have e : Hid (ordB off body mf = false) := Lib.hid (by unfold ordB; rw [decide_eq_false c0]; rfl)
    by_cases f0 : off < 0
    · have f0d : decide (off < 0) = true := by rw [decide_eq_true_eq]; exact f0
      clear c0
      go_enter Try.func38, Try.ntmps38
      go_wp2
      go_ret
      exact ⟨by rw [e.out]; rfl, rfl⟩
    by_cases f1 : 65528 < off
    · have f1d : decide (65528 < off) = true := by rw [decide_eq_true_eq]; exact f1
      clear c0
      go_enter Try.func38, Try.ntmps38
      go_wp2
      go_ret
      exact ⟨by rw [e.out]; rfl, rfl⟩
    by_cases f2 : off % 8 = 0
    · have f2a : (off % 8 != 0) = false := by simp; omega
      have f2b : (off % 8 == 0) = true := by rw [beq_iff_eq]; omega
      have f3 : 65535 < off + body := by omega
      have f3d : decide (65535 < off + body) = true := by rw [decide_eq_true_eq]; exact f3
      have g0 : 0 ≤ off := by omega
      clear c0
      go_enter Try.func38, Try.ntmps38
      go_wp2
      go_ret
      exact ⟨by rw [e.out]; rfl, rfl⟩
    · have f2a : (off % 8 != 0) = true := by simp; omega
      have f2b : (off % 8 == 0) = false := by rw [beq_eq_false_iff_ne]; omega
      have g0 : 0 ≤ off := by omega
      clear c0
      go_enter Try.func38, Try.ntmps38
      go_wp2
      go_ret
      exact ⟨by rw [e.out]; rfl, rfl⟩
end Go.Proofs.Ytelfemhnijnhfaa.Fr
