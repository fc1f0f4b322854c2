/- ahead, up; no condition. -/
import Derived.Test.YtelfemhnijnhfaaTmB
import Derived.LoopTactic
import Derived.Deep.LoopGhost
namespace Go.Proofs.Ytelfemhnijnhfaa.Fr.Tm
open Go.RowKit Go.Maps
set_option linter.unusedVariables false
set_option maxRecDepth 100000

def aheadB (a b : Pr) : Bool := if a.2 < b.2 then true else if a.2 = b.2 then decide (a.1 < b.1) else false

theorem ahead_any (a0 a1 b0 b1 : Int) (w : World) :
    Calls Try.prog 88 #[.agg #[.int .i64 a0, .int .i64 a1], .agg #[.int .i64 b0, .int .i64 b1]] w fun e w' => e = .returned (.bool (aheadB (a0, a1) (b0, b1))) ∧ Touch [] w w' := by
  by_cases h1 : a1 < b1
  · have e : aheadB (a0, a1) (b0, b1) = true := by simp [aheadB, h1]
    rw [e]; clear e
    go_enter Try.func88, Try.ntmps88
    go_wp2
    go_ret
    exact ⟨rfl, ((Touch.refl _ _).alloc _).alloc _⟩
  · by_cases h2 : a1 = b1
    · subst h2
      have e : aheadB (a0, a1) (b0, a1) = decide (a0 < b0) := by simp [aheadB]
      rw [e]; clear e
      go_enter Try.func88, Try.ntmps88
      go_wp2
      go_ret
      exact ⟨rfl, ((Touch.refl _ _).alloc _).alloc _⟩
    · have e : aheadB (a0, a1) (b0, b1) = false := by simp [aheadB, h1, h2]
      rw [e]; clear e
      go_enter Try.func88, Try.ntmps88
      go_wp2
      go_ret
      exact ⟨rfl, ((Touch.refl _ _).alloc _).alloc _⟩
def upM (x : Pr) : Nat → St → Nat → St
  | 0, s, i => putM s i x
  | k + 1, s, i => if 0 < i ∧ aheadB x (s.hp.getD ((i - 1) / 2) (0, 0)) = true then upM x k (putM s i (s.hp.getD ((i - 1) / 2) (0, 0))) ((i - 1) / 2) else putM s i x

theorem upM_stop {x : Pr} (k : Nat) (s : St) (i : Nat) (hk : i ≤ k) (h : ¬ (0 < i ∧ aheadB x (s.hp.getD ((i - 1) / 2) (0, 0)) = true)) : upM x k s i = putM s i x := by
  cases k with
  | zero => rfl
  | succ k => rw [upM, if_neg h]

structure Good (s : St) : Prop where
  wf : ∀ p ∈ s.hp, wfi p.1 ∧ wfi p.2
  key : ∀ p ∈ s.hp, (s.f p.1).isSome = true
  n : s.n ≤ 65537

theorem Good.get {s : St} (h : Good s) (i : Nat) (hi : i < s.hp.length) : wfi (s.hp.getD i (0, 0)).1 ∧ wfi (s.hp.getD i (0, 0)).2 ∧ (s.f (s.hp.getD i (0, 0)).1).isSome = true := by
  have e : s.hp.getD i (0, 0) = s.hp[i] := by simp [List.getD_eq_getElem?_getD, hi]
  rw [e]
  exact ⟨(h.wf _ (List.getElem_mem hi)).1, (h.wf _ (List.getElem_mem hi)).2, h.key _ (List.getElem_mem hi)⟩
theorem Good.put {s : St} (h : Good s) (i : Nat) (x : Pr) (hx : wfi x.1 ∧ wfi x.2) (hk : (s.f x.1).isSome = true) : Good (putM s i x) := by
  refine ⟨fun p hp => ?_, fun p hp => ?_, by simp [putM, hk, h.n]⟩
  · rcases List.mem_or_eq_of_mem_set hp with h1 | h1
    · exact h.wf p h1
    · subst h1; exact hx
  · simp only [putM, upd]
    split
    · rfl
    · rcases List.mem_or_eq_of_mem_set hp with h1 | h1
      · exact h.key p h1
      · subst h1; exact hk
theorem putM_len (s : St) (i : Nat) (x : Pr) : (putM s i x).hp.length = s.hp.length := by simp [putM]

set_option maxHeartbeats 400000 in
theorem up_calls {w : World} {tb : Nat} {V : Value} {mb : Nat} {lim : Int} {s : St} (h : TimersAt w tb V mb lim s) (hG : Good s) (i : Int) (h0 : 0 ≤ i) (hi : i < s.hp.length) :
    Calls Try.prog 73 #[.pointer (some ⟨tb, 0, none⟩), .int .i64 i] w fun e w' => e = .returned (.tuple #[]) ∧ TimersAt w' tb V mb lim (upM (s.hp.getD i.toNat (0, 0)) i.toNat s i.toNat) ∧ Touch (foot tb V mb) w w' := by
  obtain ⟨i, rfl⟩ := Int.eq_ofNat_of_zero_le h0
  obtain ⟨g, cap, rfl, hg, hcap, hlen, cur, hcur⟩ := h.row.formP (by omega)
  obtain ⟨c0, c1, c2, f1⟩ := h.cells
  have htb := h.tb_lt
  have hgne := (h.g_ne g rfl)
  have hi1 : i < s.hp.length := by omega
  obtain ⟨x, hx⟩ : ∃ x, x = s.hp.getD i (0, 0) := ⟨_, rfl⟩
  have hp : s.hp[i]? = some x := by rw [hx, List.getElem?_eq_getElem hi1]; simp [List.getD_eq_getElem?_getD, hi1]
  obtain ⟨x0, x1⟩ := x
  obtain ⟨k0, k1, z0, z1⟩ := h.row.cell i _ hp
  dsimp only at k0 k1
  have hi' : (i : Int) < (s.hp.length : Int) := hi
  have hgt : g ≠ tb := hgne.1
  have hx0 : wfi x0 ∧ wfi x1 := by have := hG.get i hi1; rw [← hx] at this; exact ⟨this.1, this.2.1⟩
  have HX := Lib.hid hx
  clear hx hp hcur
  go_enter Try.func73, Try.ntmps73
  go_wp2
  go_loopg [1] i (fun kq v1 wr => ∃ (j : Nat) (t : St), v1 = .int .i64 j ∧ Hid (upM (x0, x1) kq t j = upM (x0, x1) i s i) ∧ TimersAt wr tb (.slice (some ⟨g, 0, none⟩) s.hp.length cap) mb lim t ∧ Good t ∧ Hid (t.hp.length = s.hp.length) ∧ j < s.hp.length ∧ j ≤ kq ∧ kq ≤ i ∧
      wr.heap[w.heap.size]? = some (.cells #[.int .i64 x0, .int .i64 x1] 149 (0, 0)) ∧ Touch (foot tb (.slice (some ⟨g, 0, none⟩) s.hp.length cap) mb) w wr)
  case atStart => exact ⟨i, s, rfl, Lib.hid rfl, h.kept (S := []) (((Touch.refl [] w).alloc _)) (by simp), hG, Lib.hid rfl, hi1, Nat.le_refl _, Nat.le_refl _, heap_alloc_new w _, (Touch.refl _ w).alloc _⟩
  case round =>
    obtain ⟨j, t, rfl, hU, hT, hGt, hlt, hj, hjk, hki, hXB, hTch⟩ := hrel
    have hjl : j < t.hp.length := by rw [hlt.out]; exact hj
    obtain ⟨d0, d1, d2, e1⟩ := hT.cells
    have hXc0 : wr.cell? ⟨w.heap.size, 0, none⟩ = some (.int .i64 x0) := by simp [World.cell?, hXB]
    have hXc1 : wr.cell? ⟨w.heap.size, 1, none⟩ = some (.int .i64 x1) := by simp [World.cell?, hXB]
    have hXlt : w.heap.size < wr.heap.size := (Array.getElem?_eq_some_iff.1 hXB).1
    have hT2 := Lib.hid hT
    clear hT c0 c1 c2 f1 k0 k1 z0 z1
    by_cases hj0 : 0 < j
    · have hd0 : decide (0 < j) = true := by simp; omega
      obtain ⟨p, hp⟩ : ∃ p, p = t.hp.getD ((j - 1) / 2) (0, 0) := ⟨_, rfl⟩
      have hql : (j - 1) / 2 < t.hp.length := by omega
      have hp' : t.hp[(j - 1) / 2]? = some p := by rw [hp, List.getElem?_eq_getElem hql]; simp [List.getD_eq_getElem?_getD, hql]
      obtain ⟨p0, p1⟩ := p
      obtain ⟨k0, k1, z0, z1⟩ := hT2.out.row.cell _ _ hp'
      dsimp only at k0 k1
      have HP := Lib.hid hp
      have HXB := Lib.hid hXB
      clear hXB hp hp'
      have b0 : (0 : Int) ≤ (j : Int) - 1 := by omega
      have b1 : ((j : Int) - 1) / 2 < (s.hp.length : Int) := by omega
      have b2 : (0 : Int) ≤ ((j : Int) - 1) / 2 := by omega
      have n0 := fun u : Near wr => u.cell hXc0
      have n1 := fun u : Near wr => u.cell hXc1
      have n2 := fun u : Near wr => u.cell d1
      have n3 := fun u : Near wr => u.cell k0
      have n4 := fun u : Near wr => u.cell k1
      go_wp2
      refine wp_region_near (by kernel_rfl) (by kernel_rfl) ?_
      repeat (go_big_quiet_step ((go_at_call 88; refine near_call _ (ahead_any _ _ _ _ _))))
      refine wpQuiet_nil ?_
      rintro _ ⟨u, rfl⟩
      have hTu := hT2.out.kept u.near (by simp)
      have hTn : Touch (foot tb (.slice (some ⟨g, 0, none⟩) s.hp.length cap) mb) w u.w := hTch.trans u.near (by simp)
      have hXu : u.w.heap[w.heap.size]? = some (.cells #[.int .i64 x0, .int .i64 x1] 149 (0, 0)) := (u.near.block _ hXlt (by simp)).trans HXB.out
      have hult : w.heap.size < u.w.heap.size := (Array.getElem?_eq_some_iff.1 hXu).1
      have v0 := n0 u
      have v1 := n1 u
      have v2 := n2 u
      have v3 := n3 u
      have v4 := n4 u
      have HXU := Lib.hid hXu
      have HTU := Lib.hid hTu
      have hn : t.n ≤ 65537 := hGt.n
      clear hXu hTu n0 n1 n2 n3 n4 d0 d1 d2 e1 hXc0 hXc1 k0 k1 z0 z1
      cases hb : aheadB (x0, x1) (p0, p1) with
      | false =>
        have HB := Lib.hid hb
        clear hb
        go_wp2_with fail
        refine (put_calls HTU.out (j : Int) x0 x1 (by omega) (by omega) hx0.1 (by omega)).mono ?_
        rintro e w1 ⟨rfl, hT1, ht1⟩
        go_wp2
        go_end0
        refine ⟨rfl, ?_, hTn.trans ht1 (fun x hx => .inl hx)⟩
        rw [show ((i : Int)).toNat = i from rfl, ← HX.out, ← hU.out, upM_stop (x := (x0, x1)) _ _ _ hjk (by rw [← HP.out, HB.out]; simp)]
        exact hT1
      | true =>
        have HB := Lib.hid hb
        have hgp := hGt.get ((j - 1) / 2) hql
        rw [← HP.out] at hgp
        clear hb
        go_wp2_with fail
        refine (put_calls HTU.out (j : Int) p0 p1 (by omega) (by omega) hgp.1 (by omega)).mono ?_
        rintro e w1 ⟨rfl, hT1, ht1⟩
        have hX1 : w1.heap[w.heap.size]? = some (.cells #[.int .i64 x0, .int .i64 x1] 149 (0, 0)) := (ht1.block _ hult (fun hx => by have := h.foot_lt _ hx; omega)).trans HXU.out
        have hstep : upM (x0, x1) (gk - 1) (putM t j (p0, p1)) ((j - 1) / 2) = upM (x0, x1) gk t j := by
          obtain ⟨m, rfl⟩ : ∃ m, gk = m + 1 := ⟨gk - 1, by omega⟩
          rw [upM, if_pos ⟨hj0, by rw [← HP.out]; exact HB.out⟩, ← HP.out]
          rfl
        have HS := Lib.hid (hstep.trans hU.out)
        clear hstep
        go_wp2
        go_roundg (gk - 1)
        case rel =>
          exact ⟨(j - 1) / 2, putM t j (p0, p1), by go_num, HS, hT1, hGt.put j (p0, p1) ⟨hgp.1, hgp.2.1⟩ hgp.2.2, Lib.hid ((putM_len t j (p0, p1)).trans hlt.out), by omega, by omega, by omega, hX1, hTn.trans ht1 (fun x hx => .inl hx)⟩
        case measure => omega
    · have hd0 : decide (0 < j) = false := by simp; omega
      have HXB := Lib.hid hXB
      have HJ := Lib.hid hj0
      clear hXB hi hi1 hi' hj0
      go_wp2
      refine wp_region_near (by kernel_rfl) (by kernel_rfl) ?_
      repeat (go_big_quiet_step (fail))
      refine wpQuiet_nil ?_
      rintro _ ⟨u, rfl⟩
      have v0 := u.cell hXc0
      have v1 := u.cell hXc1
      have hTu := hT2.out.kept u.near (by simp)
      have hTn : Touch (foot tb (.slice (some ⟨g, 0, none⟩) s.hp.length cap) mb) w u.w := hTch.trans u.near (by simp)
      go_wp2_with fail
      refine (put_calls hTu (j : Int) x0 x1 (by omega) (by rw [hlt.out]; exact_mod_cast hj) hx0.1 (by have := hGt.n; omega)).mono ?_
      rintro e w1 ⟨rfl, hT1, ht1⟩
      go_wp2
      go_end0
      refine ⟨rfl, ?_, hTn.trans ht1 (fun x hx => .inl hx)⟩
      rw [show ((i : Int)).toNat = i from rfl, ← HX.out, ← hU.out, upM_stop (x := (x0, x1)) _ _ _ hjk (fun hh => HJ.out hh.1)]
      exact hT1
end Go.Proofs.Ytelfemhnijnhfaa.Fr.Tm
