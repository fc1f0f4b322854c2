/- begun of the Timer laws; a slice of pairs or of steps that came in; no condition. -/
import Derived.Test.YtjnhldcgemcjbaaT
namespace Go.Proofs.Ytjnhldcgemcjbaa.Tm
open Go.RowKit Go.Maps
set_option linter.unusedVariables false

/-- New, as an object. -/
def NewT (w : World) (lim : Int) (e : Ending) (w' : World) : Prop :=
  ∃ tb S s, e = .returned (.tuple #[.pointer (some ⟨tb, 0, none⟩), .int .i64 0]) ∧ Tim w' tb S lim s ∧ Touch [] w w' ∧ (∀ k ∈ S, w.heap.size ≤ k) ∧ s.hp.length = 0 ∧ ∀ y, val s y = none
theorem newT {w w' : World} {lim : Int} {e : Ending} (h1 : 1 ≤ lim) (h2 : lim ≤ 65536) (h : NewPost w lim e w') : NewT w lim e w' := by
  obtain ⟨tb, mb, he, hT, ht, htb, hmb⟩ := h
  refine ⟨tb, _, _, he, ⟨⟨_, mb, hT, rfl⟩, ⟨⟨fun i p hp => by simp at hp, fun y v hv => by simp at hv⟩, fun i i0 il => by simp at il, rfl, by simp, by simp⟩, by simp; omega, h2⟩, ht, ?_, rfl, fun y => rfl⟩
  intro k hk
  simp [foot, Value.ownBlock] at hk
  rcases hk with rfl | rfl <;> assumption
theorem newT_calls (w : World) (lim : Int) (h1 : 1 ≤ lim) (h2 : lim ≤ 65536) : Calls Try.prog 11 #[.int .i64 lim] w (NewT w lim) := (new_good w lim h1 h2).mono fun _ _ h => newT h1 h2 h

theorem Tim.wf {w : World} {tb : Nat} {S : List Nat} {lim : Int} {s : St} (h : Tim w tb S lim s) {y v : Int} (hv : val s y = some v) : wfi y ∧ wfi v := h.ok.wf _ (h.ok.inv.val_some hv)

set_option maxHeartbeats 1000000 in
theorem begun_calls (w : World) : Calls Try.prog 10 #[] w fun e w' => e = .returned (.bool true) ∧ Touch [] w w' := by
  have w7 : wfi 7 := wfi_mk (by omega) (by omega)
  have w20 : wfi 20 := wfi_mk (by omega) (by omega)
  have w5 : wfi 5 := wfi_mk (by omega) (by omega)
  have w6 : wfi 6 := wfi_mk (by omega) (by omega)
  have w1 : wfi 1 := wfi_mk (by omega) (by omega)
  go_enter Try.func10, Try.ntmps10
  go_wp2_with fail
  refine (newT_calls w 2 (by omega) (by omega)).mono ?_
  rintro e u0 ⟨tb, S, s, rfl, hT, ht, hS, hl, hv⟩
  go_wp2_with fail
  refine (set_calls hT 7 20 w7 w20).mono ?_
  rintro e u1 ⟨s1, S1, g1, h1⟩
  rcases h1 with ⟨_, hx, _⟩ | ⟨_, rfl, hl1, hv1⟩
  · rw [hl] at hx; omega
  rw [hv 7] at hl1
  go_wp2_with fail
  refine (set_calls g1.tim 5 20 w5 w20).mono ?_
  rintro e u2 ⟨s2, S2, g2, h2⟩
  have e5 : val s1 5 = none := by rw [hv1, if_neg (by decide), hv]
  have hl1' : s1.hp.length = 1 := by rw [hl1, hl]; rfl
  rcases h2 with ⟨_, hx, _⟩ | ⟨_, rfl, hl2, hv2⟩
  · omega
  rw [e5] at hl2
  have hl2' : s2.hp.length = 2 := by rw [hl2, hl1']; rfl
  go_wp2_with fail
  refine (set_calls g2.tim 6 1 w6 w1).mono ?_
  rintro e u3 ⟨s3, S3, g3, h3⟩
  have e6 : val s2 6 = none := by rw [hv2, if_neg (by decide), hv1, if_neg (by decide), hv]
  have h3' : s3 = s2 ∧ e = .returned (.int .i64 4) := by
    rcases h3 with ⟨_, _, h4, h5⟩ | ⟨hx, _⟩
    · exact ⟨h4, h5⟩
    · rw [e6] at hx; simp at hx; omega
  obtain ⟨rfl, rfl⟩ := h3'
  clear h3
  go_wp2_with fail
  refine (next_calls g3.tim).mono ?_
  rintro e u4 ⟨hn, tt⟩
  have v7 : val s3 7 = some 20 := by rw [hv2, if_neg (by decide), hv1, if_pos rfl]
  have v5 : val s3 5 = some 20 := by rw [hv2, if_pos rfl]
  have hab : e = .returned (.tuple #[.int .i64 5, .int .i64 20, .int .i64 0]) := by
    rcases hn with ⟨hn, _⟩ | ⟨a, b, _, ha, hm, he⟩
    · omega
    · have m7 := hm 7 20 v7
      have m5 := hm 5 20 v5
      have h57 : (a = 5 ∧ b = 20) ∨ (a = 7 ∧ b = 20) := by
        rw [hv2] at ha
        by_cases q : a = 5
        · rw [if_pos q] at ha; cases ha; exact .inl ⟨q, rfl⟩
        · rw [if_neg q, hv1] at ha
          by_cases q2 : a = 7
          · rw [if_pos q2] at ha; cases ha; exact .inr ⟨q2, rfl⟩
          · rw [if_neg q2, hv] at ha; cases ha
      unfold le at m7 m5
      dsimp only at m7 m5
      have : a = 5 ∧ b = 20 := by omega
      rw [he, this.1, this.2]
  subst hab
  have tall : Touch [] w u4 := by
    have sub1 : ∀ k ∈ S1, w.heap.size ≤ k := fun k hk => (g1.sub k hk).elim (hS k) (fun h => Nat.le_trans ht.size h)
    have t1 := ht.trans g1.touch (fun x hx => .inr (hS x hx))
    have sub2 : ∀ k ∈ S2, w.heap.size ≤ k := fun k hk => (g2.sub k hk).elim (sub1 k) (fun h => Nat.le_trans t1.size h)
    have t2 := t1.trans g2.touch (fun x hx => .inr (sub1 x hx))
    have t3 := t2.trans g3.touch (fun x hx => .inr (sub2 x hx))
    exact t3.trans tt (by simp)
  have TALL := Lib.hid tall
  clear hT ht hS hl hv g1 g2 g3 hv1 hv2 hl1 hl2 hl1' hl2' e5 e6 v7 v5 hn tt tall
  go_wp2
  go_ret
  exact ⟨rfl, TALL.out⟩
end Go.Proofs.Ytjnhldcgemcjbaa.Tm
