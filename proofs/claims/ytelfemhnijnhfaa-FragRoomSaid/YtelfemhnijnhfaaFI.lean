/- weftref3: behind, Area, Piece; no condition. -/
import Derived.Test.YtelfemhnijnhfaaFH
namespace Go.Proofs.Ytelfemhnijnhfaa.Fr
open Go.RowKit Go.Maps
set_option linter.unusedVariables false
set_option maxRecDepth 100000
attribute [local go_sem] nilB

set_option maxHeartbeats 1000000 in
theorem piece_calls (w : World) (off body : Int) (mf : Bool) (h0 : -9223372036854775808 ≤ off) (h1 : off ≤ 9223372036854775807) (hb : 0 ≤ body) (hb2 : body ≤ 4611686018427387904) :
    Calls Try.prog 84 #[.int .i64 off, .int .i64 body, .bool mf] w fun e w' => e = .returned (.bool (ordB off body mf)) ∧ w' = w := by
  by_cases c0 : 0 ≤ off ∧ off ≤ 65528 ∧ off % 8 = 0 ∧ off + body ≤ 65535
  · have e : Hid (ordB off body mf = (!mf || decide (0 < body ∧ body % 8 = 0))) := Lib.hid (by unfold ordB; rw [decide_eq_true c0]; rfl)
    obtain ⟨g0, g1, g2, g3⟩ := c0
    have f0 : ¬ off < 0 := by omega
    have f1 : ¬ 65528 < off := by omega
    have f2 : (off % 8 != 0) = false := by simp; omega
    have f2' : (off % 8 == 0) = true := by rw [beq_iff_eq]; omega
    have f3 : ¬ 65535 < off + body := by omega
    cases mf
    · go_enter Try.func84, Try.ntmps84
      go_wp2
      go_ret
      exact ⟨by rw [e.out]; rfl, rfl⟩
    · by_cases k0 : 0 < body
      · have k0d : decide (0 < body) = true := by rw [decide_eq_true_eq]; exact k0
        by_cases k1 : body % 8 = 0
        · have k2 : (body % 8 == 0) = true := by rw [beq_iff_eq]; exact k1
          have e2 : Hid (decide (0 < body ∧ body % 8 = 0) = true) := Lib.hid (by rw [decide_eq_true_eq]; exact ⟨k0, k1⟩)
          clear k1
          go_enter Try.func84, Try.ntmps84
          go_wp2
          go_ret
          exact ⟨by rw [e.out, e2.out]; rfl, rfl⟩
        · have k2 : (body % 8 == 0) = false := by rw [beq_eq_false_iff_ne]; exact k1
          have e2 : Hid (decide (0 < body ∧ body % 8 = 0) = false) := Lib.hid (by rw [decide_eq_false_iff_not]; exact fun h => k1 h.2)
          clear k1
          go_enter Try.func84, Try.ntmps84
          go_wp2
          go_ret
          exact ⟨by rw [e.out, e2.out]; rfl, rfl⟩
      · have k0d : decide (0 < body) = false := by rw [decide_eq_false_iff_not]; exact k0
        have e2 : Hid (decide (0 < body ∧ body % 8 = 0) = false) := Lib.hid (by rw [decide_eq_false_iff_not]; exact fun h => k0 h.1)
        go_enter Try.func84, Try.ntmps84
        go_wp2
        go_ret
        exact ⟨by rw [e.out, e2.out]; rfl, rfl⟩
  · have e : Hid (ordB off body mf = false) := Lib.hid (by unfold ordB; rw [decide_eq_false c0]; rfl)
    by_cases f0 : off < 0
    · have f0d : decide (off < 0) = true := by rw [decide_eq_true_eq]; exact f0
      clear c0
      go_enter Try.func84, Try.ntmps84
      go_wp2
      go_ret
      exact ⟨by rw [e.out]; rfl, rfl⟩
    by_cases f1 : 65528 < off
    · have f1d : decide (65528 < off) = true := by rw [decide_eq_true_eq]; exact f1
      clear c0
      go_enter Try.func84, Try.ntmps84
      go_wp2
      go_ret
      exact ⟨by rw [e.out]; rfl, rfl⟩
    by_cases f2 : off % 8 = 0
    · have f2a : (off % 8 != 0) = false := by simp; omega
      have f2b : (off % 8 == 0) = true := by rw [beq_iff_eq]; omega
      have f3 : 65535 < off + body := by omega
      have f3d : decide (65535 < off + body) = true := by rw [decide_eq_true_eq]; exact f3
      have g0 : 0 ≤ off := by omega
      clear c0
      go_enter Try.func84, Try.ntmps84
      go_wp2
      go_ret
      exact ⟨by rw [e.out]; rfl, rfl⟩
    · have f2a : (off % 8 != 0) = true := by simp; omega
      have f2b : (off % 8 == 0) = false := by rw [beq_eq_false_iff_ne]; omega
      have g0 : 0 ≤ off := by omega
      clear c0
      go_enter Try.func84, Try.ntmps84
      go_wp2
      go_ret
      exact ⟨by rw [e.out]; rfl, rfl⟩
/-- What behind answers. -/
def Behind (l : List Int) (i : Nat) (r : Int) : Prop :=
  (r = -1 ∧ optsOK (l.drop i) = false) ∨ ∃ j : Nat, r = j ∧ i < j ∧ j ≤ l.length ∧ optsOK (l.drop i) = optsOK (l.drop j) ∧
    (optsOK (l.drop i) = true → ∀ x, l[i]? = some x → copyO (l.drop i) = (if 128 ≤ x then (l.drop i).take (j - i) else []) ++ copyO (l.drop j))
def BehindPost (w : World) (l : List Int) (i : Nat) (e : Ending) (w' : World) : Prop := w' = w ∧ ∃ r : Int, e = .returned (.int .i64 r) ∧ Behind l i r
theorem rep_zero {l : List Int} {i : Nat} (h : ∀ k, i ≤ k → k < l.length → l[k]? = some 0) : (l.drop i).all (fun y => y == 0) = true := by
  rw [List.all_eq_true]
  intro y hy
  obtain ⟨k, hk⟩ := List.getElem?_of_mem hy
  rw [List.getElem?_drop] at hk
  have hkl := (List.getElem?_eq_some_iff.1 hk).1
  rw [h _ (by omega) hkl] at hk
  simpa using hk.symm
set_option maxHeartbeats 2000000 in
theorem behind_calls {w : World} {V : Value} {l : List Int} (h : RdB w V l) (hlen : l.length ≤ 1000) (i : Nat) (hi : i < l.length) :
    Calls Try.prog 69 #[V, .int .i64 i] w (BehindPost w l i) := by
  obtain ⟨⟨A, cap, rfl, hcap, _, hr⟩, wf⟩ := h
  obtain ⟨b, off, hA, hb, hc⟩ := hr (by omega)
  subst hA
  obtain ⟨x, hx⟩ : ∃ x, l[i]? = some x := ⟨_, List.getElem?_eq_getElem hi⟩
  have hxw := wf x (List.mem_of_getElem? hx)
  have m0 := hc i x hx
  have lt1 : (i : Int) < (l.length : Int) := by omega
  have HC := Lib.hid hc
  have WF := Lib.hid wf
  have HX := Lib.hid hx
  clear hr hc wf
  by_cases h1 : x = 1
  · subst h1
    have HB : Hid (Behind l i ((i : Int) + 1)) := Lib.hid (.inr ⟨i + 1, by push_cast; rfl, by omega, by omega, ok_nop hx, fun _ y hy => by
      rw [hx] at hy; cases hy
      rw [if_neg (by omega), copy_nop hx]; rfl⟩)
    clear hx hxw HX
    go_enter Try.func69, Try.ntmps69
    go_wp2
    go_ret
    exact ⟨rfl, _, rfl, HB.out⟩
  by_cases h0 : x = 0
  · subst h0
    have hz := Lib.hid (ok_zero hx)
    have hcz := Lib.hid (copy_zero hx)
    clear hx hxw h1
    go_enter Try.func69, Try.ntmps69
    go_wp2
    go_loopg [5] l.length (fun kq v wr => ∃ j : Nat, v = .int .i64 j ∧ i ≤ j ∧ j ≤ l.length ∧ l.length - j ≤ kq ∧ Hid (∀ k, i ≤ k → k < j → l[k]? = some 0) ∧ Hid (wr = w))
    case atStart => exact ⟨i, rfl, Nat.le_refl _, by omega, by omega, Lib.hid (fun k h1 h2 => by omega), Lib.hid rfl⟩
    case round =>
      obtain ⟨j, rfl, hij, hj, hk, hzz, hw⟩ := hrel
      obtain rfl := hw.out
      by_cases hjl : j < l.length
      · have hjl1 : (j : Int) < (l.length : Int) := by omega
        obtain ⟨y, hy⟩ : ∃ y, l[j]? = some y := ⟨_, List.getElem?_eq_getElem hjl⟩
        have my := HC.out j y hy
        by_cases hy0 : y = 0
        · subst hy0
          have HY := Lib.hid hy
          clear hy
          go_wp2
          go_roundg (gk - 1)
          case rel => exact ⟨j + 1, by go_num, by omega, by omega, by omega, Lib.hid (fun k h1 h2 => by rcases Nat.lt_succ_iff_lt_or_eq.1 h2 with h | rfl; exact hzz.out k h1 h; exact HY.out), Lib.hid rfl⟩
          case measure => omega
        · have hy1 : (y != 0) = true := by simpa using hy0
          have hy2 : (y == 0) = false := by simpa using hy0
          have HB : Hid (Behind l i (-1)) := Lib.hid (.inl ⟨rfl, by
            rw [hz.out, Bool.eq_false_iff]
            intro h
            exact hy0 (all_zero h y (List.mem_of_getElem? (i := j - i) (by rw [List.getElem?_drop, show i + (j - i) = j by omega]; exact hy)))⟩)
          clear hy hy0
          go_wp2
          try rw [Exit.noGoto_ret]
          go_ret
          exact ⟨rfl, _, rfl, HB.out⟩
      · have hjl1 : ¬ (j : Int) < (l.length : Int) := by omega
        have HB : Hid (Behind l i (l.length : Int)) := Lib.hid (.inr ⟨l.length, rfl, hi, Nat.le_refl _, by
          rw [hz.out, ok_end (Nat.le_refl _)]
          exact rep_zero (fun k h1 h2 => hzz.out k h1 (by omega)), fun _ y hy => by
          have := HX.out
          rw [this] at hy; cases hy
          rw [if_neg (by omega), hcz.out, copy_end (Nat.le_refl _)]; rfl⟩)
        go_wp2
        go_ret
        exact ⟨rfl, _, rfl, HB.out⟩
  · have hx0 : (x == 0) = false := by rw [beq_eq_false_iff_ne]; exact h0
    have hx1 : (x == 1) = false := by rw [beq_eq_false_iff_ne]; exact h1
    by_cases hs : l.length ≤ i + 1
    · have HB : Hid (Behind l i (-1)) := Lib.hid (.inl ⟨rfl, ok_short hx h0 h1 hs⟩)
      have b1 : (l.length : Int) ≤ (i : Int) + 1 := by omega
      have b1d : decide ((l.length : Int) ≤ (i : Int) + 1) = true := by rw [decide_eq_true_eq]; omega
      clear hx h0 h1 hxw
      go_enter Try.func69, Try.ntmps69
      go_wp2
      go_ret
      exact ⟨rfl, _, rfl, HB.out⟩
    · obtain ⟨n, hn⟩ : ∃ n, l[i + 1]? = some n := ⟨_, List.getElem?_eq_getElem (by omega)⟩
      have m1 := HC.out (i + 1) n hn
      obtain ⟨hn0, hn1⟩ := WF.out n (List.mem_of_getElem? hn)
      have b1 : ¬ (l.length : Int) ≤ (i : Int) + 1 := by omega
      have b1d : decide ((l.length : Int) ≤ (i : Int) + 1) = false := by rw [decide_eq_false_iff_not]; omega
      have b1e : (i : Int) + 1 < (l.length : Int) := by omega
      by_cases hb : n < 2 ∨ (l.length : Int) < i + n
      · have HB : Hid (Behind l i (-1)) := Lib.hid (.inl ⟨rfl, ok_bad hx h0 h1 hn hb⟩)
        by_cases h2 : n < 2
        · have h2d : decide (n < 2) = true := by rw [decide_eq_true_eq]; exact h2
          clear hx h0 h1 hn hb hxw
          go_enter Try.func69, Try.ntmps69
          go_wp2
          go_ret
          exact ⟨rfl, _, rfl, HB.out⟩
        · have h2d : decide (n < 2) = false := by rw [decide_eq_false_iff_not]; exact h2
          have h3 : (l.length : Int) < (i : Int) + n := by omega
          have h3d : decide ((l.length : Int) < (i : Int) + n) = true := by rw [decide_eq_true_eq]; exact h3
          clear hx h0 h1 hn hb hxw
          go_enter Try.func69, Try.ntmps69
          go_wp2
          go_ret
          exact ⟨rfl, _, rfl, HB.out⟩
      · have h2 : ¬ n < 2 := by omega
        have h2d : decide (n < 2) = false := by rw [decide_eq_false_iff_not]; exact h2
        have h3 : ¬ (l.length : Int) < (i : Int) + n := by omega
        have h3d : decide ((l.length : Int) < (i : Int) + n) = false := by rw [decide_eq_false_iff_not]; exact h3
        have HB : Hid (Behind l i ((i : Int) + n)) := Lib.hid (.inr ⟨i + n.toNat, by omega, by omega, by omega, ok_next hx h0 h1 hn (by omega) (by omega), fun _ y hy => by
          rw [hx] at hy; cases hy
          rw [copy_next hx h0 h1 hn (by omega), show i + n.toNat - i = n.toNat by omega]⟩)
        clear hx h0 h1 hn hb hxw
        go_enter Try.func69, Try.ntmps69
        go_wp2
        go_ret
        exact ⟨rfl, _, rfl, HB.out⟩
set_option maxHeartbeats 1000000 in
theorem area_calls {w : World} {V : Value} {l : List Int} (h : RdB w V l) (hlen : l.length < 4611686018427387904) :
    Calls Try.prog 68 #[V] w fun e w' => e = .returned (.bool (areaB l)) ∧ w' = w := by
  have HV := Lib.hid h
  obtain ⟨A, cap, rfl⟩ := h.len_lt
  clear h
  by_cases h40 : 40 < l.length
  · have e : Hid (areaB l = false) := Lib.hid (by unfold areaB; simp; intro h; omega)
    have e1 : (40 : Int) < (l.length : Int) := by omega
    have e1d : decide ((40 : Int) < (l.length : Int)) = true := by rw [decide_eq_true_eq]; omega
    go_enter Try.func68, Try.ntmps68
    go_wp2
    go_ret
    exact ⟨by rw [e.out]; rfl, rfl⟩
  by_cases h4 : l.length % 4 = 0
  rotate_left
  · have e : Hid (areaB l = false) := Lib.hid (by unfold areaB; simp; intro h1 h2; exact absurd h2 h4)
    have e1 : ¬ (40 : Int) < (l.length : Int) := by omega
    have e1d : decide ((40 : Int) < (l.length : Int)) = false := by rw [decide_eq_false_iff_not]; omega
    have e2 : ((((l.length : Int) % 4)) != 0) = true := by simp; omega
    have e2' : ((((l.length : Int) % 4)) == 0) = false := by rw [beq_eq_false_iff_ne]; omega
    clear h4
    go_enter Try.func68, Try.ntmps68
    go_wp2
    go_ret
    exact ⟨by rw [e.out]; rfl, rfl⟩
  have HA : Hid (areaB l = optsOK l) := Lib.hid (by unfold areaB; rw [decide_eq_true (show l.length ≤ 40 ∧ l.length % 4 = 0 from ⟨by omega, h4⟩)]; rfl)
  have e1 : ¬ (40 : Int) < (l.length : Int) := by omega
  have e1d : decide ((40 : Int) < (l.length : Int)) = false := by rw [decide_eq_false_iff_not]; omega
  have e2 : ((((l.length : Int) % 4)) != 0) = false := by simp; omega
  have e2' : ((((l.length : Int) % 4)) == 0) = true := by rw [beq_iff_eq]; omega
  clear h4
  go_enter Try.func68, Try.ntmps68
  go_wp2
  clear e1d e2 e2' e1
  go_loopg [3] (l.length + 1) (fun kq v wr => ∃ r : Int, v = .int .i64 r ∧ -1 ≤ r ∧ r ≤ l.length ∧ (0 ≤ r → l.length - r + 1 ≤ (kq : Int)) ∧ Hid ((r = -1 ∧ optsOK l = false) ∨ (0 ≤ r ∧ optsOK l = optsOK (l.drop r.toNat))) ∧ Hid (wr = w))
  case atStart => exact ⟨0, rfl, by omega, by omega, by omega, Lib.hid (.inr ⟨by omega, by simp⟩), Lib.hid rfl⟩
  case round =>
    obtain ⟨r, rfl, r1, r2, hk, hor, hw⟩ := hrel
    obtain rfl := hw.out
    by_cases hr0 : 0 ≤ r
    · obtain ⟨i, rfl⟩ := Int.eq_ofNat_of_zero_le hr0
      by_cases hlt : i < l.length
      · have lt1 : (i : Int) < (l.length : Int) := by omega
        have lt0 : (0 : Int) ≤ (i : Int) := by omega
        go_wp2_with fail
        refine (behind_calls HV.out (by omega) i hlt).mono ?_
        rintro e w1 ⟨rfl, q, rfl, hq⟩
        have HQ := Lib.hid hq
        have hq1 : ((i : Int) < q ∧ q ≤ l.length) ∨ q = -1 := by
          rcases hq with ⟨rfl, _⟩ | ⟨j, rfl, h1, h2, _⟩
          · right; rfl
          · left; omega
        clear hq
        have HQ1 := Lib.hid hq1
        clear hq1
        go_wp2
        go_roundg (if q < 0 then 0 else (l.length - q).toNat + 1)
        case rel =>
          refine ⟨q, rfl, by have := HQ1.out; omega, by have := HQ1.out; omega, fun h => (by rw [if_neg (by omega)]; have := HQ1.out; omega), Lib.hid ?_, Lib.hid rfl⟩
          rcases hor.out with ⟨h, _⟩ | ⟨_, h⟩
          · omega
          · rcases HQ.out with ⟨rfl, hf⟩ | ⟨j, rfl, h1, h2, h3, _⟩
            · exact .inl ⟨rfl, by rw [h]; simpa using hf⟩
            · exact .inr ⟨by omega, by rw [h]; simpa using h3⟩
        case measure =>
          have := HQ1.out
          have := hk lt0
          split <;> omega
      · have lt1 : ¬ (i : Int) < (l.length : Int) := by omega
        have lt0 : (0 : Int) ≤ (i : Int) := by omega
        have HRes : Hid (areaB l = true) := Lib.hid (by
          rw [HA.out]
          rcases hor.out with ⟨h, _⟩ | ⟨_, h⟩
          · omega
          · rw [h]; simpa using ok_end (l := l) (i := i) (by omega))
        go_wp2
        go_ret
        exact ⟨by rw [HRes.out]; rfl, rfl⟩
    · have lt0 : ¬ (0 : Int) ≤ r := by omega
      have lt0d : decide ((0 : Int) ≤ r) = false := by rw [decide_eq_false_iff_not]; omega
      have HRes : Hid (areaB l = false) := Lib.hid (by
        rw [HA.out]
        rcases hor.out with ⟨_, h⟩ | ⟨h, _⟩
        · exact h
        · omega)
      go_wp2
      go_ret
      exact ⟨by rw [HRes.out]; rfl, rfl⟩
end Go.Proofs.Ytelfemhnijnhfaa.Fr
