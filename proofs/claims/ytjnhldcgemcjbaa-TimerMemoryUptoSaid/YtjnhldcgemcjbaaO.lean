/- The reference's Timers: Set, Drop, Due by what is held; no condition. -/
import Derived.Test.YtjnhldcgemcjbaaN
namespace Go.Proofs.Ytjnhldcgemcjbaa.Tm
open Go.RowKit Go.Maps
set_option linter.unusedVariables false

theorem PRow.stored2 {w : World} {e : TypeId} {g n cap : Nat} {l : List Pr} (h : PRow w e (.slice (some ⟨g, 0, none⟩) n cap) l) (hn : n = l.length) (i : Nat) (a b v : Int) (hi : l[i]? = some (a, b)) :
    PRow (w.setCell ⟨g, i * 2 + 1, none⟩ (.int .i64 v)) e (.slice (some ⟨g, 0, none⟩) n cap) (l.set i (a, v)) := by
  subst hn
  have h2 := (World.ownsRow.stored h (i * 2 + 1) (.int .i64 v)).1
  unfold PRow
  have e1 : (flat l).set (i * 2) (.int .i64 a) = flat l := by
    apply List.ext_getElem?
    intro j
    rw [List.getElem?_set]
    by_cases hj : i * 2 = j
    · subst hj
      have := (flat_get l i _ hi).1
      have hil := (List.getElem?_eq_some_iff.1 hi).1
      rw [if_pos rfl, if_pos (by rw [flat_length]; omega), this]
    · rw [if_neg hj]
  rw [flat_set, List.length_set, e1]
  exact h2

def RSetPost (w : World) (rb : Nat) (R : List Nat) (lim : Int) (l : List Pr) (id at_ : Int) (e : Ending) (w' : World) : Prop :=
  ∃ l' R', RGoes w w' rb R lim l' R' ∧
    ((lval l id = none ∧ (l.length : Int) = lim ∧ l' = l ∧ e = .returned (.int .i64 4)) ∨
     (((lval l id).isSome = true ∨ (l.length : Int) < lim) ∧ e = .returned (.int .i64 0) ∧ l'.length = (if (lval l id).isSome then l.length else l.length + 1) ∧ ∀ y, lval l' y = if y = id then some at_ else lval l y))

set_option maxHeartbeats 1000000 in
theorem rset_calls {w : World} {rb : Nat} {R : List Nat} {lim : Int} {l : List Pr} (h : RefO w rb R lim l) (id at_ : Int) (hid : wfi id) (hat : wfi at_) :
    Calls Try.prog 31 #[.pointer (some ⟨rb, 0, none⟩), .int .i64 id, .int .i64 at_] w (RSetPost w rb R lim l id at_) := by
  obtain ⟨⟨V, hR, rfl⟩, hnd, hwf, hroom, hmost⟩ := h
  obtain ⟨A, cap, rfl⟩ := hR.row.form
  obtain ⟨c0, c1, f1, hrb⟩ := blk2_cells hR.blk
  have H := Lib.hid hR
  clear hR
  go_enter Try.func31, Try.ntmps31
  go_wp2_with fail
  refine (place_calls H.out id).mono ?_
  rintro e w1 ⟨r, rfl, hw1, hP⟩
  subst hw1
  rcases hP with ⟨rfl, hno⟩ | ⟨k, p, rfl, hk, hpid⟩
  · have HNO := Lib.hid hno
    clear hno
    have hlv : lval l id = none := (lval_none id).2 HNO.out
    have HLV := Lib.hid hlv
    clear hlv
    have n1 := fun u : Near w1 => u.cell c0
    have n2 := fun u : Near w1 => u.cell c1
    by_cases hL : (l.length : Int) < lim
    · have hd2 : decide (lim ≤ (l.length : Int)) = false := by rw [decide_eq_false_iff_not]; omega
      go_wp2
      refine wp_region_near (by kernel_rfl) (by kernel_rfl) ?_
      repeat (go_big_quiet_step (fail))
      refine wpQuiet_nil ?_
      rintro _ ⟨u, rfl⟩
      have hu := H.out.kept u.near (by simp)
      obtain ⟨v0, v1, v2, hrbu⟩ := blk2_cells hu.blk
      have hun := u.near
      have hgn : rb ∉ (Value.slice A l.length cap).ownBlock.toList := fun hx => hu.ne rb (by simpa using hx) rfl
      have HU := Lib.hid hu
      clear n1 n2 hu
      go_wp2_with (at_builtin; go_must (refine wpList_append_pr rfl (.tmp 35) (.tmp 39) 72 77 Try.underlying72 rfl info77 (.slice A l.length cap) l id at_ rfl HU.out.row rfl (by omega) ?_); go_must (intro A1 c1' w2 hr1 ht1 hV1; have q0 := (ht1.block rb hrbu hgn).trans HU.out.blk; obtain ⟨_, q1, q2, q3⟩ := blk2_cells q0; have HR1 := Lib.hid hr1; have HT1 := Lib.hid ht1; have HV1 := Lib.hid hV1; have HQ0 := Lib.hid q0; clear hr1 ht1 hV1 q0))
      go_ret
      have hnb : ∀ q, (Value.slice A1 (l.length + 1) c1').ownBlock = some q → q ≠ rb := HR1.out.ne_of (by decide) HQ0.out
      have t1 : Touch [rb] w2 (w2.setCell ⟨rb, 1, none⟩ (.slice A1 (l.length + 1) c1')) := (Touch.refl _ _).setCell _ _ (.inl (by simp))
      have tall : Touch (rfoot rb (.slice A l.length cap)) w1 (w2.setCell ⟨rb, 1, none⟩ (.slice A1 (l.length + 1) c1')) := by
        refine ((hun.mono (S' := rfoot rb (.slice A l.length cap)) (by simp)).trans HT1.out (fun x hx => .inl ?_)).trans t1 (fun x hx => .inl ?_)
        · simp only [rfoot, List.mem_cons]; exact .inr hx
        · simp only [List.mem_singleton] at hx; simp [rfoot, hx]
      refine ⟨l ++ [(id, at_)], _, ⟨⟨⟨_, ⟨set_blk2 HQ0.out _, HR1.out.kept t1 (fun q hq => by simp; exact hnb q hq)⟩, rfl⟩, nd_snoc hnd HNO.out, ?_, by simp; omega, hmost⟩, tall, fun q hq => ?_⟩, .inr ⟨.inr hL, rfl, ?_, lval_snoc hnd HNO.out⟩⟩
      · intro p hp
        rcases List.mem_append.1 hp with h1 | h1
        · exact hwf p h1
        · simp at h1; subst h1; exact ⟨hid, hat⟩
      · simp only [rfoot, List.mem_cons, Option.mem_toList] at hq ⊢
        rcases hq with rfl | hq
        · exact .inl (.inl rfl)
        · rcases HV1.out with e | ⟨b, e, hb⟩
          · exact .inl (.inr (by rw [← e]; exact hq))
          · rw [e] at hq; cases hq; exact .inr (Nat.le_trans hun.size hb)
      · rw [HLV.out]; simp
    · have hd2 : decide (lim ≤ (l.length : Int)) = true := by rw [decide_eq_true_eq]; omega
      go_wp2
      refine wp_region_near (by kernel_rfl) (by kernel_rfl) ?_
      repeat (go_big_quiet_step (fail))
      refine wpQuiet_nil ?_
      rintro _ ⟨u, rfl⟩
      go_wp2
      go_ret
      exact ⟨l, _, ⟨⟨⟨_, H.out.kept u.near (by simp), rfl⟩, hnd, hwf, hroom, hmost⟩, u.near.mono (by simp), fun q hq => .inl hq⟩, .inl ⟨HLV.out, by omega, rfl, rfl⟩⟩
  · obtain ⟨a, b⟩ := p
    dsimp only at hpid
    subst hpid
    have hkl := (List.getElem?_eq_some_iff.1 hk).1
    obtain ⟨g, cap2, hV, hg, hcap, _, cur, hcur⟩ := H.out.row.formP (by omega)
    injection hV with hV1 hV2 hV3
    subst hV1 hV3
    obtain ⟨k0, k1, z0, z1⟩ := H.out.row.cell k (a, b) hk
    dsimp only at k0 k1
    have b1 : (k : Int) < (l.length : Int) := by omega
    have hd0 : decide (0 ≤ (k : Int)) = true := by rw [decide_eq_true_eq]; omega
    have hgr : g ≠ rb := H.out.ne g rfl
    have HK := Lib.hid hk
    clear hk hV2 hcur
    go_wp2
    go_ret
    have t1 : Touch [g] w1 (w1.setCell ⟨g, k * 2 + 1, none⟩ (.int .i64 at_)) := (Touch.refl _ _).setCell _ _ (.inl (by simp))
    have hlv : lval l a = some b := (lval_iff hnd a b).2 (List.mem_of_getElem? HK.out)
    refine ⟨l.set k (a, at_), _, ⟨⟨⟨_, ⟨(t1.block rb hrb (by simp; exact fun e => hgr e.symm)).trans H.out.blk, ?_⟩, rfl⟩, nd_set hnd HK.out rfl, ?_, by simpa using hroom, hmost⟩, t1.mono (fun x hx => .inl (by simp at hx; simp [rfoot, Value.ownBlock, hx])), fun q hq => .inl hq⟩, .inr ⟨.inl (by rw [hlv]; rfl), rfl, by rw [hlv]; simp, lval_set hnd HK.out rfl⟩⟩
    · rw [show l.length = (l.set k (a, at_)).length by simp]
      have := H.out.row.stored2 rfl k a b at_ HK.out
      simpa using this
    · intro p hp
      rcases List.mem_or_eq_of_mem_set hp with h1 | h1
      · exact hwf p h1
      · subst h1; exact ⟨hid, hat⟩
end Go.Proofs.Ytjnhldcgemcjbaa.Tm
