/- The plain law of FragFirst: what covers what, and when it is whole; no program in sight; no condition. -/
import Derived.Test.YtelfemhnijnhfaaGH
import Derived.Test.YtelfemhnijnhfaaGN
import Derived.Test.YtelfemhnijnhfaaFV
import Derived.Test.YtelfemhnijnhfaaGO
import Derived.Maps.RangeWalk
import Derived.Deep.RegionHeld3
import Derived.Laws.StructEq
import Derived.Test.YtelfemhnijnhfaaGK
import Derived.StillTailTactics

namespace Go.Proofs.Ytelfemhnijnhfaa.Fr
open Go.RowKit
set_option linter.unusedVariables false
set_option linter.unusedSimpArgs false

theorem area_nil : areaB [] = true := by
  exact (optsL_ok 0).1
theorem nz_all : ∀ (l : List Int), nz l = l.length ↔ ∀ j < l.length, l.getD j 0 ≠ 0
  | [] => by simp [nz]
  | x :: r => by
    have ih := nz_all r
    have hle := nz_le r
    unfold nz at ih hle ⊢
    rw [List.filter_cons]
    constructor
    · intro h j hj
      split at h
      · rename_i hx
        simp only [List.length_cons, Nat.add_right_cancel_iff] at h
        cases j with
        | zero => simpa using hx
        | succ j => have := ih.1 h j (by simpa using hj); simpa using this
      · simp at h; omega
    · intro h
      have hx := h 0 (by simp)
      simp at hx
      have h2 : (r.filter (fun x => x != 0)).length = r.length := ih.2 (fun j hj => by have := h (j + 1) (by simpa using hj); simpa using this)
      rw [if_pos (by simpa using hx)]
      simp [h2]
theorem cov_none {D : Dg} {j : Nat} : cov D j = none ↔ D.have_.getD j 0 = 0 := by
  unfold cov covS
  split <;> simp_all
theorem cov_some {D : Dg} {j : Nat} {v : Int} (h : cov D j = some v) : D.bytes.getD j 0 = v ∧ j < D.have_.length := by
  unfold cov covS at h
  split at h
  · cases h
  · rename_i hn
    simp at h
    refine ⟨h, ?_⟩
    by_cases hj : j < D.have_.length
    · exact hj
    · exfalso
      apply hn
      simp [List.getD_eq_getElem?_getD, List.getElem?_eq_none (Nat.le_of_not_lt hj)]
theorem cov_fresh (j : Nat) : cov freshD j = none := by
  rw [cov_none]
  simp [freshD]
def K0 : K4 := ⟨1, 2, 17, 5⟩
theorem keyP_piece (off : Int) (n : Nat) (c : Int) (mf : Bool) (t : Int) : keyP (pieceP 5 off n c mf t) = K0 := rfl
theorem piece_wf {off : Int} {n : Nat} {c : Int} {mf : Bool} {t : Int} (h0 : 0 ≤ off) (h9 : off ≤ 20) (ht : 0 ≤ t ∧ t < 256) : (pieceP 5 off n c mf t).h.wf :=
  ⟨by simp [pieceP], by simp [pieceP], by simp [pieceP]; omega, by simpa [pieceP] using ht, by simp [pieceP], by simp [pieceP], by simp [pieceP]⟩
theorem piece_may {off : Int} {n : Nat} {c : Int} {mf : Bool} {t : Int} (h0 : 0 ≤ off) (h9 : off + n ≤ 30) (hn : 1 ≤ n) : bErr (pieceP 5 off n c mf t) = 0 := by
  refine bErr_may area_nil ?_ ?_ ?_ ?_ ?_ ?_
  · simp [pieceP]; try omega
  · simp [pieceP]; try omega
  · simp [pieceP]; try omega
  · simp [pieceP]; try omega
  · simp [pieceP]; try omega
  · intro _; simp [pieceP]; try omega
/-- What comes back at last. -/
structure Good1 (q : Pk) (wl : List Int) (ttl : Int) : Prop where
  len : q.body.length = 168
  ttl : q.h.ttl = ttl
  mf : q.h.mf = false
  off : q.h.off = 0
  id : q.h.id = 5
  lo : ∀ j < 160, q.body[j]? = some (wl.getD j 0)
  hi : ∀ j, 160 ≤ j → j < 168 → q.body[j]? = some 250
structure FInv (lf : Bool) (i : Nat) (wl : List Int) (ttl : Int) (st : ASt) : Prop where
  len : wl.length = 168
  vals : ∀ j, 0 ≤ wl.getD j 0 ∧ wl.getD j 0 ≤ 41
  hi : ∀ j, 160 ≤ j → wl.getD j 0 = 0
  ok : st.ok
  room : st.room = 3
  n : (st.g K0).isSome = true ∧ st.n = 1 ∨ st.g K0 = none ∧ st.n = 0
  began : st.began ≤ i + 1
  cov : ∀ j, cov (oldD st K0) j = if j < 160 then (if wl.getD j 0 = 0 then none else some (wl.getD j 0)) else if lf = true ∧ j < 168 then some 250 else none
  sz : if lf = true then (oldD st K0).bytes.length = 168 ∧ (oldD st K0).length = 168 else (oldD st K0).bytes.length ≤ 160 ∧ (oldD st K0).length = -1 ∧ (oldD st K0).far ≤ 160
  t : 0 ≤ ttl ∧ ttl < 256
  hd : (ttl = 0 ∧ (oldD st K0).first = false) ∨ (ttl ≠ 0 ∧ (oldD st K0).first = true ∧ (oldD st K0).h = ⟨0, 5, false, true, 0, ttl, 17, 1, 2⟩ ∧ (oldD st K0).opts = [])
  z : wl.getD 0 0 ≠ 0 → ttl ≠ 0
theorem K0_wf : K0.wf := ⟨by simp [K0], by simp [K0], by simp [K0], by simp [K0]⟩
theorem old_ok {st : ASt} (h : st.ok) : (oldD st K0).ok := by
  unfold oldD
  split
  · rename_i x hx
    exact h.dg _ x K0_wf hx
  · exact freshD_ok
/-- Behind an Add that left it open. -/
theorem old_kept (st : ASt) (p : Pk) (d : Nat) (i : Int) (hk : keyP p = K0) : oldD (kept st p d i) K0 = newD st p i := by
  unfold oldD kept
  rw [hk]
  simp [updK_same]
theorem good_whole {D : Dg} {wl : List Int} {ttl : Int} (hok : D.ok) (hsz : D.bytes.length = 168) (hl : D.length = 168) (hc : ∀ j, cov D j = if j < 160 then some (wl.getD j 0) else if j < 168 then some 250 else none)
    (hh : D.h = ⟨0, 5, false, true, 0, ttl, 17, 1, 2⟩) (ho : D.opts = []) : wholeB D = true ∧ bErr (packD D) = 0 ∧ Good1 (packD D) wl ttl := by
  have hlen := hok.len
  have hb : (packD D).body = D.bytes := by
    unfold packD
    dsimp only
    rw [hl, List.take_of_length_le (by omega)]
  have hall : ∀ j < D.have_.length, D.have_.getD j 0 ≠ 0 := by
    intro j hj h0
    rw [← cov_none, hc j] at h0
    rw [hlen, hsz] at hj
    split at h0
    · cases h0
    · simp [hj] at h0
  have hn := (nz_all D.have_).2 hall
  have hcnt : D.count = 168 := by rw [hok.count, hn, hlen, hsz]; rfl
  have hget : ∀ (j : Nat) (v : Int), cov D j = some v → (packD D).body[j]? = some v := by
    intro j v hv
    obtain ⟨h1, h2⟩ := cov_some hv
    rw [hb, ← h1, List.getD_eq_getElem?_getD, List.getElem?_eq_getElem (by omega)]
    rfl
  refine ⟨?_, ?_, ⟨by rw [hb, hsz], by simp [packD, hh], by simp [packD], by simp [packD, hh], by simp [packD, hh], fun j hj => hget j _ (by rw [hc j, if_pos hj]), fun j h1 h2 => hget j _ (by rw [hc j, if_neg (by omega), if_pos h2])⟩⟩
  · unfold wholeB
    rw [hl, hcnt]
    rfl
  · refine bErr_may ?_ ?_ ?_ ?_ ?_ ?_ ?_
    · show areaB D.opts = true
      rw [ho]; exact area_nil
    · simp [packD, hh]
    · simp [packD, hh]
    · simp [packD, hh]
    · rw [hb]; simp [packD, hh]; omega
    · rw [hb]; simp [packD, ho]; omega
    · intro hm; simp [packD] at hm
theorem first_step {lf : Bool} {i : Nat} {wl : List Int} {ttl : Int} {st : ASt} (F : FInv lf i wl ttl st) {off n : Nat} {c t : Int} (hn : 1 ≤ n) (ho : off + n ≤ 20) (hc : 1 ≤ c ∧ c ≤ 41) (ht : 1 ≤ t ∧ t < 256) (hi : i ≤ 100)
    {wl' : List Int} (hl' : wl'.length = 168) (hw' : ∀ j, wl'.getD j 0 = if 8 * off ≤ j ∧ j < 8 * (off + n) ∧ wl.getD j 0 = 0 then c else wl.getD j 0)
    {q : Pk} {r : Int} {st' : ASt} (hA : AddRel st (pieceP 5 off n c true t) q r st') :
    if lf = true ∧ ∀ j < 160, 0 < wl'.getD j 0 then r = 0 ∧ Good1 q wl' (if off = 0 ∧ ttl = 0 then t else ttl) else r = 52 ∧ FInv lf (i + 1) wl' (if off = 0 ∧ ttl = 0 then t else ttl) st' := by
  obtain ⟨p, hp⟩ : ∃ p, p = pieceP 5 off n c true t := ⟨_, rfl⟩
  have hk : keyP p = K0 := by rw [hp]; rfl
  have hpo : p.h.off = 8 * (off : Int) := by rw [hp]; rfl
  have hpm : p.h.mf = true := by rw [hp]; rfl
  have hpb : p.body = List.replicate (8 * n) c := by rw [hp]; rfl
  have hph : p.h = ⟨0, 5, false, true, 8 * (off : Int), t, 17, 1, 2⟩ := by rw [hp]; rfl
  have hpp : p.opts = [] := by rw [hp]; rfl
  have hpw : p.h.wf := by rw [hp]; exact piece_wf (by omega) (by omega) ⟨by omega, by omega⟩
  have hpe : bErr p = 0 := by rw [hp]; exact piece_may (by omega) (by omega) hn
  rw [← hp] at hA
  clear hp
  obtain ⟨D0, hD0⟩ : ∃ D0, D0 = oldD st K0 := ⟨_, rfl⟩
  have hok0 : D0.ok := by rw [hD0]; exact old_ok F.ok
  have hnz : ¬ (p.h.off = 0 ∧ p.h.mf = false) := by rw [hpm]; simp
  obtain ⟨tok, tcov, tsz⟩ := takes hok0 hpe hpw hnz
  have hend : endI p = 8 * ((off : Int) + n) := by unfold endI; rw [hpo, hpb]; simp; omega
  have hcl : clashB D0 p = false := by
    have := F.sz
    rw [← hD0] at this
    unfold clashB
    rw [hpm, hend]
    cases lf
    · simp at this
      rw [if_neg (by omega)]; rfl
    · simp at this
      rw [if_pos (by omega), decide_eq_false (by omega)]; rfl
  obtain ⟨D1, hD1⟩ : ∃ D1, D1 = takenD D0 p := ⟨_, rfl⟩
  rw [← hD1] at tok tcov tsz
  have hsz1 : if lf = true then D1.bytes.length = 168 ∧ D1.length = 168 else D1.bytes.length ≤ 160 ∧ D1.length = -1 ∧ D1.far ≤ 160 := by
    have h1 := F.sz
    rw [← hD0] at h1
    have e1 : D1.length = D0.length := by rw [hD1]; simp [takenD, hpm]
    have e2 : D1.far = if D0.far < endI p then endI p else D0.far := by rw [hD1]; rfl
    rw [tsz, e1, e2]
    unfold takenN
    rw [hend]
    cases lf
    · simp at h1 ⊢
      obtain ⟨a1, a2, a3⟩ := h1
      refine ⟨?_, a2, ?_⟩
      · split <;> omega
      · split <;> omega
    · simp at h1 ⊢
      obtain ⟨a1, a2⟩ := h1
      exact ⟨by split <;> omega, a2⟩
  have hcov1 : ∀ j, cov D1 j = if j < 160 then (if wl'.getD j 0 = 0 then none else some (wl'.getD j 0)) else if lf = true ∧ j < 168 then some 250 else none := by
    intro j
    rw [tcov j, hpo, hpb]
    have h1 := F.cov j
    rw [← hD0] at h1
    rw [h1]
    have e1 : (8 * (off : Int)).toNat = 8 * off := by omega
    rw [e1]
    by_cases hj : j < 160
    · rw [if_pos hj, if_pos hj]
      by_cases hP : 8 * off ≤ j ∧ j < 8 * (off + n) ∧ wl.getD j 0 = 0
      · have hv : wl'.getD j 0 = c := by rw [hw' j, if_pos hP]
        rw [hv, if_pos hP.2.2, if_pos hP.1, if_neg (by omega)]
        simp [List.getElem?_replicate]
        omega
      · have hv : wl'.getD j 0 = wl.getD j 0 := by rw [hw' j, if_neg hP]
        rw [hv]
        by_cases h0 : wl.getD j 0 = 0
        · rw [if_pos h0]
          by_cases h3 : 8 * off ≤ j
          · rw [if_pos h3, List.getElem?_eq_none (by simp; omega)]; rfl
          · rw [if_neg h3]; rfl
        · rw [if_neg h0]
          rfl
    · rw [if_neg hj, if_neg hj]
      have h3 : (if 8 * off ≤ j then (List.replicate (8 * n) c)[j - 8 * off]? else none) = none := by
        split
        · rw [List.getElem?_eq_none (by simp; omega)]
        · rfl
      rw [h3]
      split <;> rfl
  have hhd1 : (if off = 0 ∧ ttl = 0 then t else ttl) = 0 ∧ D1.first = false ∨ (if off = 0 ∧ ttl = 0 then t else ttl) ≠ 0 ∧ D1.first = true ∧ D1.h = ⟨0, 5, false, true, 0, (if off = 0 ∧ ttl = 0 then t else ttl), 17, 1, 2⟩ ∧ D1.opts = [] := by
    have h1 := F.hd
    rw [← hD0] at h1
    have e1 : D1.first = if p.h.off = 0 then true else D0.first := by rw [hD1]; rfl
    have e2 : D1.h = if p.h.off = 0 ∧ D0.first = false then p.h else D0.h := by rw [hD1]; rfl
    have e3 : D1.opts = if p.h.off = 0 ∧ D0.first = false then p.opts else D0.opts := by rw [hD1]; rfl
    rw [e1, e2, e3, hpo]
    rcases h1 with ⟨a1, a2⟩ | ⟨a1, a2, a3, a4⟩
    · by_cases h0 : off = 0
      · right
        have h0' : (8 * (off : Int)) = 0 := by omega
        rw [if_pos ⟨h0, a1⟩, if_pos h0', if_pos ⟨h0', a2⟩, if_pos ⟨h0', a2⟩, hph, hpp, h0']
        exact ⟨by omega, rfl, rfl, rfl⟩
      · left
        rw [if_neg (fun h => h0 h.1), if_neg (by omega)]
        exact ⟨a1, a2⟩
    · right
      have q : ¬ (8 * (off : Int) = 0 ∧ D0.first = false) := fun h => by rw [a2] at h; cases h.2
      rw [if_neg (fun h => a1 h.2), if_neg q, if_neg q, a2]
      exact ⟨a1, by split <;> rfl, a3, a4⟩
  have hz1 : wl'.getD 0 0 ≠ 0 → (if off = 0 ∧ ttl = 0 then t else ttl) ≠ 0 := by
    intro h
    rw [hw' 0] at h
    split
    · omega
    · rename_i h2
      intro ht0
      apply h
      by_cases h0 : wl.getD 0 0 = 0
      · rw [if_neg (fun h3 => h2 ⟨by omega, ht0⟩)]; exact h0
      · exact absurd ht0 (F.z h0)
  have hwh : wholeB D1 = true ↔ (lf = true ∧ ∀ j < 160, 0 < wl'.getD j 0) := by
    have hlen := tok.len
    unfold wholeB
    simp only [Bool.and_eq_true, decide_eq_true_eq, beq_iff_eq]
    rw [tok.count]
    cases lf
    · simp at hsz1
      simp
      omega
    · simp at hsz1
      obtain ⟨s1, s2⟩ := hsz1
      rw [s2]
      constructor
      · intro h
        refine ⟨rfl, fun j hj => ?_⟩
        have h1 := (nz_all D1.have_).1 (by omega) j (by omega)
        have h2 := hcov1 j
        rw [if_pos hj] at h2
        by_cases h0 : wl'.getD j 0 = 0
        · rw [if_pos h0] at h2; exact absurd (cov_none.1 h2) h1
        · have h3 := F.vals j
          have h4 := hw' j
          split at h4 <;> omega
      · intro h
        refine ⟨by omega, ?_⟩
        have : nz D1.have_ = D1.have_.length := (nz_all D1.have_).2 (fun j hj h0 => by
          have h2 := cov_none.2 h0
          rw [hcov1 j] at h2
          by_cases hj2 : j < 160
          · rw [if_pos hj2, if_neg (by have := h.2 j hj2; omega)] at h2; cases h2
          · rw [if_neg hj2, if_pos ⟨rfl, by omega⟩] at h2; cases h2)
        rw [this, hlen, s1]; rfl
  rcases hA with ⟨h, _⟩ | ⟨_, h, _⟩ | ⟨_, _, hA⟩
  · exact absurd hpe h
  · exact absurd h hnz
  rw [hk, ← hD0, ← hD1] at hA
  by_cases hf : lf = true ∧ ∀ j < 160, 0 < wl'.getD j 0
  · rw [if_pos hf]
    have hw := hwh.2 hf
    have hsz2 := hsz1
    rw [if_pos hf.1] at hsz2
    have ht1 := hz1 (by have := hf.2 0 (by omega); omega)
    have hh1 : D1.first = true ∧ D1.h = ⟨0, 5, false, true, 0, (if off = 0 ∧ ttl = 0 then t else ttl), 17, 1, 2⟩ ∧ D1.opts = [] := by
      rcases hhd1 with ⟨a, _⟩ | ⟨_, a⟩
      · exact absurd a ht1
      · exact a
    obtain ⟨g1, g2, g3⟩ := good_whole (wl := wl') tok hsz2.1 hsz2.2 (fun j => by
      rw [hcov1 j]
      by_cases hj : j < 160
      · rw [if_pos hj, if_pos hj, if_neg (by have := hf.2 j hj; omega)]
      · rw [if_neg hj, if_neg hj]; simp [hf.1]) hh1.2.1 hh1.2.2
    rcases hA with ⟨h, _⟩ | ⟨_, _, h, _⟩ | ⟨_, _, _, h1, h2, _⟩ | ⟨_, h, _⟩
    · rw [hcl] at h; cases h
    · exact absurd g2 h
    · rw [h2]; exact ⟨h1, g3⟩
    · rw [hw] at h; cases h
  · rw [if_neg hf]
    have hw : wholeB D1 = false := by
      cases h : wholeB D1
      · rfl
      · exact absurd (hwh.1 h) hf
    rcases hA with ⟨h, _⟩ | ⟨_, h, _⟩ | ⟨_, h, _⟩ | ⟨_, _, h1, h2, d, i', rfl⟩
    · rw [hcl] at h; cases h
    · rw [hw] at h; cases h
    · rw [hw] at h; cases h
    · refine ⟨h1, ?_⟩
      have hrm : (st.g (keyP p)).isSome = true ∨ (st.n : Int) < st.room := by
        rw [hk, F.room]
        rcases F.n with h | h
        · exact .inl h.1
        · exact .inr (by omega)
      have hok' : (kept st p d i').ok := kept_ok F.ok hpe hpw hnz hrm d i'
      have hold : oldD (kept st p d i') K0 = newD st p i' := old_kept st p d i' hk
      have e1 : ∀ j, cov (newD st p i') j = cov D1 j := by
        intro j
        unfold newD cov
        rw [hk, ← hD0, hD1]
      have e2 : (newD st p i').bytes = D1.bytes ∧ (newD st p i').length = D1.length ∧ (newD st p i').far = D1.far ∧ (newD st p i').first = D1.first ∧ (newD st p i').h = D1.h ∧ (newD st p i').opts = D1.opts := by
        unfold newD
        rw [hk, ← hD0, hD1]
        exact ⟨rfl, rfl, rfl, rfl, rfl, rfl⟩
      obtain ⟨b1, b2, b3, b4, b5, b6⟩ := e2
      refine ⟨hl', fun j => ?_, fun j hj => ?_, hok', F.room, ?_, ?_, fun j => by rw [hold, e1, hcov1], by rw [hold, b1, b2, b3]; exact hsz1, ?_, by rw [hold, b4, b5, b6]; exact hhd1, hz1⟩
      · rw [hw' j]
        have := F.vals j
        split <;> omega
      · rw [hw' j, if_neg (by omega)]
        exact F.hi j hj
      · left
        refine ⟨by simp [kept, hk, updK_same], ?_⟩
        show (if (st.g (keyP p)).isSome then st.n else st.n + 1) = 1
        rw [hk]
        rcases F.n with ⟨h, h'⟩ | ⟨h, h'⟩
        · rw [if_pos h, h']
        · rw [h, h']; rfl
      · show (if (st.g (keyP p)).isSome then st.began else st.began + 1) ≤ ((i + 1 : Nat) : Int) + 1
        have := F.began
        split <;> omega
      · have := F.t
        split <;> omega
end Go.Proofs.Ytelfemhnijnhfaa.Fr

/- The plain law of FragFirst: how it begins and ends; no program in sight; no condition. -/
namespace Go.Proofs.Ytelfemhnijnhfaa.Fr
open Go.RowKit
set_option linter.unusedVariables false
set_option linter.unusedSimpArgs false

def st3 : ASt := ⟨3, 50, 0, 0, fun _ => none, 0⟩
def lastP : Pk := pieceP 5 20 1 250 false 9
theorem st3_ok : st3.ok := ⟨by simp [st3], by simp [st3], by simp [st3], by simp [st3], by simp [st3], by simp [st3], by simp [st3], by simp [st3], fun K x hK hx => by cases hx⟩
theorem getD_zeros (n j : Nat) : (List.replicate n (0 : Int)).getD j 0 = 0 := by
  rw [List.getD_eq_getElem?_getD]
  by_cases h : j < n
  · simp [h]
  · rw [List.getElem?_eq_none (by simp; omega)]; rfl
theorem first_begin0 : FInv false 0 (List.replicate 168 0) 0 st3 := by
  have e : oldD st3 K0 = freshD := rfl
  refine ⟨List.length_replicate .., fun j => by rw [getD_zeros]; omega, fun j _ => getD_zeros _ _, st3_ok, rfl, .inr ⟨rfl, rfl⟩, by simp [st3], fun j => ?_, ?_, by omega, .inl ⟨rfl, by rw [e]; rfl⟩, fun h => absurd (getD_zeros _ _) h⟩
  · rw [e, cov_fresh, getD_zeros]
    simp
  · rw [e]
    simp [freshD]
theorem last_facts : keyP lastP = K0 ∧ lastP.h.wf ∧ bErr lastP = 0 ∧ ¬ (lastP.h.off = 0 ∧ lastP.h.mf = false) ∧ endI lastP = 168 ∧ lastP.h.mf = false ∧ lastP.h.off = 160 ∧ lastP.body = List.replicate 8 250 :=
  ⟨rfl, piece_wf (by omega) (by omega) (by omega), piece_may (by omega) (by omega) (by omega), by simp [lastP, pieceP], by simp [lastP, pieceP, endI], rfl, rfl, rfl⟩
/-- The last piece, laid onto what has come. -/
theorem last_taken {D : Dg} (hok : D.ok) (hs : D.bytes.length ≤ 168) (hf : D.far ≤ 168) (hl : D.length = -1) (hc : ∀ j, 160 ≤ j → cov D j = none) :
    clashB D lastP = false ∧ Takes D lastP ∧ (takenD D lastP).length = 168 ∧ (takenD D lastP).bytes.length = 168 ∧ (∀ j, cov (takenD D lastP) j = if j < 160 then cov D j else if j < 168 then some 250 else none) ∧ (takenD D lastP).first = D.first ∧ (takenD D lastP).h = D.h ∧ (takenD D lastP).opts = D.opts := by
  obtain ⟨_, f1, f2, f3, f4, f5, f6, f7⟩ := last_facts
  have T := takes hok f2 f1 f3
  refine ⟨?_, T, ?_, ?_, fun j => ?_, ?_, ?_, ?_⟩
  · unfold clashB
    rw [if_neg (by omega), f5, f4, decide_eq_false (by omega)]; rfl
  · show (if lastP.h.mf then D.length else endI lastP) = 168
    rw [f5, f4]; rfl
  · rw [T.size]
    unfold takenN
    rw [f4]
    split
    · rfl
    · omega
  · rw [T.cov j, f6, f7]
    show (cov D j).or (if 160 ≤ j then (List.replicate 8 (250 : Int))[j - 160]? else none) = _
    by_cases hj : j < 160
    · rw [if_pos hj, if_neg (by omega)]; simp
    · rw [if_neg hj, if_pos (by omega), hc j (by omega)]
      by_cases h2 : j < 168
      · rw [if_pos h2, List.getElem?_replicate, if_pos (by omega)]; rfl
      · rw [if_neg h2, List.getElem?_replicate, if_neg (by omega)]; rfl
  · show (if lastP.h.off = 0 then true else D.first) = D.first
    rw [f6]; rfl
  · show (if lastP.h.off = 0 ∧ D.first = false then lastP.h else D.h) = D.h
    rw [if_neg (by rw [f6]; omega)]
  · show (if lastP.h.off = 0 ∧ D.first = false then lastP.opts else D.opts) = D.opts
    rw [if_neg (by rw [f6]; omega)]
theorem first_begin1 {q : Pk} {r : Int} {st' : ASt} (hA : AddRel st3 lastP q r st') : r = 52 ∧ FInv true 0 (List.replicate 168 0) 0 st' := by
  obtain ⟨f0, f1, f2, f3, f4, f5, f6, f7⟩ := last_facts
  have e : oldD st3 K0 = freshD := rfl
  obtain ⟨c1, T, c2, c3, c4, c5, c6, c7⟩ := last_taken freshD_ok (by simp [freshD]) (by simp [freshD]) rfl (fun j _ => cov_fresh j)
  have hw : wholeB (takenD freshD lastP) = false := by
    unfold wholeB
    have h1 : (takenD freshD lastP).count ≠ (takenD freshD lastP).length := by
      rw [c2, T.ok.count]
      intro h
      have hlen := T.ok.len
      have := (nz_all (takenD freshD lastP).have_).1 (by omega) 0 (by omega)
      apply this
      rw [← cov_none, c4 0, if_pos (by omega), cov_fresh]
    simp [h1]
  rcases hA with ⟨h, _⟩ | ⟨_, h, _⟩ | ⟨_, _, hA⟩
  · exact absurd f2 h
  · exact absurd h f3
  rw [f0, e] at hA
  rcases hA with ⟨h, _⟩ | ⟨_, h, _⟩ | ⟨_, h, _⟩ | ⟨_, _, h1, h2, d, i', rfl⟩
  · rw [c1] at h; cases h
  · rw [hw] at h; cases h
  · rw [hw] at h; cases h
  · refine ⟨h1, ?_⟩
    have hold : oldD (kept st3 lastP d i') K0 = newD st3 lastP i' := old_kept _ _ _ _ f0
    have e1 : ∀ j, cov (newD st3 lastP i') j = cov (takenD freshD lastP) j := fun j => rfl
    refine ⟨List.length_replicate .., fun j => by rw [getD_zeros]; omega, fun j _ => getD_zeros _ _, kept_ok st3_ok f2 f1 f3 (.inr (by simp [st3])) d i', rfl, .inl ⟨?_, rfl⟩, ?_, fun j => ?_, ?_, by omega, .inl ⟨rfl, ?_⟩, fun h => absurd (getD_zeros _ _) h⟩
    · simp [kept, f0, updK_same]
    · simp [kept, st3]
    · rw [hold, e1, c4 j, getD_zeros, cov_fresh]
      simp
    · rw [hold, if_pos rfl]
      exact ⟨c3, c2⟩
    · rw [hold]
      exact c5
theorem first_end {i : Nat} {wl : List Int} {ttl : Int} {st : ASt} (F : FInv false i wl ttl st) (hall : ∀ j < 160, 0 < wl.getD j 0) {q : Pk} {r : Int} {st' : ASt} (hA : AddRel st lastP q r st') : r = 0 ∧ Good1 q wl ttl := by
  obtain ⟨f0, f1, f2, f3, f4, f5, f6, f7⟩ := last_facts
  obtain ⟨D0, hD0⟩ : ∃ D0, D0 = oldD st K0 := ⟨_, rfl⟩
  have hok0 : D0.ok := by rw [hD0]; exact old_ok F.ok
  have hs := F.sz
  rw [if_neg (by simp), ← hD0] at hs
  obtain ⟨c1, T, c2, c3, c4, c5, c6, c7⟩ := last_taken hok0 (by omega) (by omega) hs.2.1 (fun j hj => by
    have := F.cov j
    rw [← hD0, if_neg (by omega), if_neg (by simp)] at this
    exact this)
  have ht := F.z (by have := hall 0 (by omega); omega)
  have hh := F.hd
  rw [← hD0] at hh
  rcases hh with ⟨h, _⟩ | ⟨_, h1, h2, h3⟩
  · exact absurd h ht
  obtain ⟨g1, g2, g3⟩ := good_whole (wl := wl) T.ok c3 c2 (fun j => by
    rw [c4 j]
    by_cases hj : j < 160
    · rw [if_pos hj, if_pos hj]
      have := F.cov j
      rw [← hD0, if_pos hj, if_neg (by have := hall j hj; omega)] at this
      exact this
    · rw [if_neg hj, if_neg hj]) (by rw [c6, h2]) (by rw [c7, h3])
  rcases hA with ⟨h, _⟩ | ⟨_, h, _⟩ | ⟨_, _, hA⟩
  · exact absurd f2 h
  · exact absurd h f3
  rw [f0, ← hD0] at hA
  rcases hA with ⟨h, _⟩ | ⟨_, _, h, _⟩ | ⟨_, _, _, h1, h2, _⟩ | ⟨_, h, _⟩
  · rw [c1] at h; cases h
  · exact absurd g2 h
  · rw [h2]; exact ⟨h1, g3⟩
  · rw [g1] at h; cases h
theorem first_step1 {lf : Bool} {i : Nat} {wl : List Int} {ttl : Int} {st : ASt} (F : FInv lf i wl ttl st) {off n : Nat} {c t : Int} (hn : 1 ≤ n) (ho : off + n ≤ 20) (hc : 1 ≤ c ∧ c ≤ 41) (ht : 1 ≤ t ∧ t < 256) (hi : i ≤ 100)
    {wl' : List Int} (hl' : wl'.length = 168) (hw' : ∀ j, wl'.getD j 0 = if 8 * off ≤ j ∧ j < 8 * (off + n) ∧ wl.getD j 0 = 0 then c else wl.getD j 0)
    {q : Pk} {r : Int} {st' : ASt} (hA : AddRel st (pieceP 5 off n c true t) q r st') {tt : Int} (htt : tt = if off = 0 ∧ ttl = 0 then t else ttl) {fl : Bool} (hfl : fl = true ↔ (lf = true ∧ ∀ j < 160, 0 < wl'.getD j 0)) :
    (fl = true → r = 0 ∧ Good1 q wl' tt) ∧ (fl = false → r = 52 ∧ FInv lf (i + 1) wl' tt st') := by
  have h := first_step F hn ho hc ht hi hl' hw' hA
  rw [← htt] at h
  refine ⟨fun hc => ?_, fun hc => ?_⟩
  · rw [if_pos (hfl.1 hc)] at h
    exact h
  · rw [if_neg (fun h2 => by have h3 := hfl.2 h2; rw [hc] at h3; cases h3)] at h
    exact h
end Go.Proofs.Ytelfemhnijnhfaa.Fr

/- matches of weftlaw5, where it is true; no condition. -/
namespace Go.Proofs.Ytelfemhnijnhfaa.Fr
open Go.RowKit Go.Maps
set_option linter.unusedVariables false
set_option linter.unusedSimpArgs false
set_option maxRecDepth 100000
attribute [local go_sem] nilB

theorem enc_cell {w : World} {b : Nat} {l : List Int} {T : TypeId} (h : w.heap[b]? = some (.cells (encB l).toArray T (0, 0))) {j : Nat} (hj : j < l.length) : w.cell? ⟨b, j, none⟩ = some (.int .u8 (l.getD j 0)) := by
  simp [World.cell?, h, encB, hj, List.getD_eq_getElem?_getD]
set_option maxHeartbeats 4000000 in
theorem matches_calls {w : World} {VO VB : Value} {tos ttl proto src dst : Int} {df : Bool} {body wl : List Int} (hb : RdB w VB body) (hlen : body.length = 168) (hwl : wl.length = 168) (hlo : ∀ j < 160, body[j]? = some (wl.getD j 0)) (hhi : ∀ j, 160 ≤ j → j < 168 → body[j]? = some 250) :
    Calls Try.prog 21 #[.agg (pkC ⟨tos, 5, df, false, 0, ttl, proto, src, dst⟩ VO VB), .agg (encB wl).toArray, .int .u8 ttl] w fun e w' => e = .returned (.bool true) ∧ Touch [] w w' := by
  have HB := Lib.hid hb
  obtain ⟨⟨A, cap, rfl, hcap, _, hr⟩, wf⟩ := hb
  obtain ⟨bb, ob, rfl, hbb, hx⟩ := hr (by omega)
  rw [hlen]
  have HX := Lib.hid hx
  have HW := Lib.hid hwl
  have HLO := Lib.hid hlo
  have HHI := Lib.hid hhi
  obtain ⟨C, hC⟩ : ∃ C, C = (encB wl).toArray := ⟨_, rfl⟩
  rw [← hC]
  have HC := Lib.hid hC
  rw [hlen] at hcap
  clear hx hwl hlo hhi hC wf hr hlen
  go_enter Try.func21, Try.ntmps21
  go_upto_region 1 with (fail)
  obtain ⟨W0, hW0⟩ : ∃ W0 : World, W0 = (w.alloc (.cells (pkC ⟨tos, 5, df, false, 0, ttl, proto, src, dst⟩ VO (.slice (some ⟨bb, ob, none⟩) 168 cap)) 30)).alloc (.cells C 48) := ⟨_, rfl⟩
  rw [← hW0]
  have t0 : Touch [] w W0 := by rw [hW0]; exact ((Touch.refl [] w).alloc _).alloc _
  have Y0 := Lib.hid (show W0.heap[w.heap.size]? = some (.cells (pkC ⟨tos, 5, df, false, 0, ttl, proto, src, dst⟩ VO (.slice (some ⟨bb, ob, none⟩) 168 cap)) 30 (0, 0)) by rw [hW0]; exact box_keep _ (box_at w _))
  have C0 := Lib.hid (show W0.heap[w.heap.size + 1]? = some (.cells (encB wl).toArray 48 (0, 0)) by rw [hW0, HC.out]; exact box_at' _ _ _ (by simp))
  have T0 := Lib.hid t0
  obtain ⟨b0, hb0⟩ : ∃ b0, b0 = w.heap.size := ⟨_, rfl⟩
  obtain ⟨b1, hb1⟩ : ∃ b1, b1 = w.heap.size + 1 := ⟨_, rfl⟩
  rw [← hb1] at C0
  rw [← hb0] at Y0
  rw [← hb1, ← hb0]
  clear hb0 hb1 t0 hW0
  obtain ⟨c0, c1, c2, c3, c4, c5, c6, c7, c8, c9, c10⟩ := pk_cells Y0.out
  dsimp only at c0 c1 c2 c3 c4 c5 c6 c7 c8 c9 c10
  have htt : (ttl != ttl) = false := by simp
  go_wp2_with fail
  clear c0 c1 c2 c3 c4 c5 c6 c7 c8 c9 c10
  go_loopg [7] 168 (fun kq v7 wr => ∃ j : Nat, v7 = .int .i64 j ∧ j ≤ 168 ∧ 168 - j ≤ kq ∧ Hid (Touch [] W0 wr))
  case atStart => exact ⟨0, rfl, by omega, by omega, Lib.hid (Touch.refl _ _)⟩
  case round =>
    obtain ⟨j, rfl, hj, hjk, hT⟩ := hrel
    by_cases hj8 : j < 168
    · have li : (j : Int) < 168 := by omega
      have Y1 := Lib.hid (touch_box hT.out Y0.out (by simp))
      have C1 := Lib.hid (touch_box hT.out C0.out (by simp))
      obtain ⟨_, _, _, _, _, _, _, _, _, _, c10⟩ := pk_cells Y1.out
      have n10 := fun u : Near wr => u.cell c10
      have kw := enc_cell C1.out (j := j) (by rw [HW.out]; exact hj8)
      have TW : Touch [] w wr := T0.out.trans hT.out (by simp)
      by_cases hj6 : j < 160
      · have l6 : (j : Int) < 160 := by omega
        have ld : decide ((j : Int) < 160) = true := by rw [decide_eq_true_eq]; exact l6
        have lg : decide (160 ≤ (j : Int)) = false := by rw [decide_eq_false_iff_not]; omega
        have kb := cell_touch TW (HX.out j _ (HLO.out j hj6)) (by simp)
        obtain ⟨x, hx⟩ : ∃ x, x = wl.getD j 0 := ⟨_, rfl⟩
        rw [← hx] at kw kb
        have nb := fun u : Near wr => u.cell kb
        have nw := fun u : Near wr => u.cell kw
        have hxx : (x != x) = false := by simp
        clear hx kw kb c10 TW
        go_wp2
        refine wp_region_near (by kernel_rfl) (by kernel_rfl) ?_
        repeat (go_big_quiet_step (fail))
        refine wpQuiet_nil ?_
        rintro _ ⟨u, rfl⟩
        have TX := Lib.hid (hT.out.trans u.near (by simp))
        clear nb nw n10
        go_wp2
        go_roundg (gk - 1)
        case rel => exact ⟨j + 1, by go_num, by omega, by omega, TX⟩
        case measure => omega
      · have l6 : ¬ (j : Int) < 160 := by omega
        have ld : decide ((j : Int) < 160) = false := by rw [decide_eq_false_iff_not]; exact l6
        have lg : decide (160 ≤ (j : Int)) = true := by rw [decide_eq_true_eq]; omega
        have kb := cell_touch TW (HX.out j _ (HHI.out j (by omega) hj8)) (by simp)
        have nb := fun u : Near wr => u.cell kb
        clear kw kb c10 TW l6
        go_wp2
        refine wp_region_near (by kernel_rfl) (by kernel_rfl) ?_
        repeat (go_big_quiet_step (fail))
        refine wpQuiet_nil ?_
        rintro _ ⟨u, rfl⟩
        have TX := Lib.hid (hT.out.trans u.near (by simp))
        clear nb n10
        go_wp2
        go_roundg (gk - 1)
        case rel => exact ⟨j + 1, by go_num, by omega, by omega, TX⟩
        case measure => omega
    · have li : ¬ (j : Int) < 168 := by omega
      go_wp2
      go_ret
      exact ⟨rfl, T0.out.trans hT.out (by simp)⟩
end Go.Proofs.Ytelfemhnijnhfaa.Fr

/- The walk of FragFirst, its state; no condition. -/
namespace Go.Proofs.Ytelfemhnijnhfaa.Fr
open Go.RowKit Go.Maps
set_option linter.unusedVariables false
set_option linter.unusedSimpArgs false
set_option maxRecDepth 100000

structure FSt (w wr : World) (a b7 b9 : Nat) (V9 : Value) (S : List Nat) (st : ASt) (wl : List Int) : Prop where
  asm : AsmAt wr a S st
  new : ∀ k ∈ S, w.heap.size ≤ k
  touch : Touch [] w wr
  want : wr.heap[b7]? = some (.cells (encB wl).toArray 48 (0, 0))
  box : wr.heap[b9]? = some (.cells (pkC ⟨0, 5, false, false, 160, 9, 17, 1, 2⟩ (.slice none 0 0) V9) 30 (0, 0))
  body : OwB wr V9 (List.replicate 8 250)
  n7 : b7 ∉ S
  n9 : b9 ∉ S
  l7 : w.heap.size ≤ b7
theorem FSt.near {w wr wr' : World} {a b7 b9 : Nat} {V9 : Value} {S : List Nat} {st : ASt} {wl : List Int} (F : FSt w wr a b7 b9 V9 S st wl) (t : Touch [] wr wr') : FSt w wr' a b7 b9 V9 S st wl :=
  ⟨F.asm.near t, F.new, F.touch.trans t (by simp), touch_box t F.want (by simp), touch_box t F.box (by simp), F.body.near t, F.n7, F.n9, F.l7⟩
theorem FSt.store {w wr : World} {a b7 b9 : Nat} {V9 : Value} {S : List Nat} {st : ASt} {wl : List Int} (F : FSt w wr a b7 b9 V9 S st wl) (j : Nat) (v : Int) : FSt w (wr.setCell ⟨b7, j, none⟩ (.int .u8 v)) a b7 b9 V9 S st (wl.set j v) := by
  have t : Touch [b7] wr (wr.setCell ⟨b7, j, none⟩ (.int .u8 v)) := (Touch.refl _ wr).setCell _ _ (.inl (by simp))
  have hk : ∀ k ∈ [b7], Kind wr k := fun k hk => by simp at hk; subst hk; exact .inr ⟨_, _, F.want, by decide, by decide⟩
  have h97 : b9 ∉ [b7] := by
    intro h
    simp at h
    subst h
    have h1 := F.want
    rw [F.box] at h1
    simp only [Option.some.injEq, Obj.cells.injEq] at h1
    exact absurd h1.2.1 (by decide)
  refine ⟨F.asm.keptK t (fun k hk hs => by simp at hk; subst hk; exact F.n7 hs) hk, F.new, F.touch.trans t (fun x hx => .inr (by simp at hx; subst hx; exact F.l7)), ?_, touch_box t F.box h97, F.body.kind t hk, F.n7, F.n9, F.l7⟩
  have := box_set (o := j) F.want (.int .u8 v)
  rw [encB_set]
  simpa using this
theorem FSt.add {w wr w' : World} {a b7 b9 : Nat} {V9 : Value} {S S' : List Nat} {st st' : ASt} {wl : List Int} (F : FSt w wr a b7 b9 V9 S st wl) (hA : AsmAt w' a S' st') (t : Touch S wr w') (hs : ∀ k ∈ S', k ∈ S ∨ wr.heap.size ≤ k) : FSt w w' a b7 b9 V9 S' st' wl := by
  have h7 : b7 < wr.heap.size := (Array.getElem?_eq_some_iff.1 F.want).1
  have h9 : b9 < wr.heap.size := (Array.getElem?_eq_some_iff.1 F.box).1
  refine ⟨hA, fun k hk => ?_, F.touch.trans t (fun x hx => .inr (F.new x hx)), touch_box t F.want F.n7, touch_box t F.box F.n9, F.body.kind t F.asm.kinds, fun h => ?_, fun h => ?_, F.l7⟩
  · rcases hs k hk with h | h
    · exact F.new k h
    · exact Nat.le_trans F.touch.size h
  · rcases hs _ h with h | h
    · exact F.n7 h
    · omega
  · rcases hs _ h with h | h
    · exact F.n9 h
    · omega
theorem FSt.cell {w wr : World} {a b7 b9 : Nat} {V9 : Value} {S : List Nat} {st : ASt} {wl : List Int} (F : FSt w wr a b7 b9 V9 S st wl) {j : Nat} (hj : j < wl.length) : wr.cell? ⟨b7, j, none⟩ = some (.int .u8 (wl.getD j 0)) ∧ wr.frozen? ⟨b7, j, none⟩ = false :=
  ⟨enc_cell F.want hj, box_frozen F.want j⟩
theorem info168 : (Try.prog.info? 48).map (fun i => (i.zero, i.size)) = some (some (.agg (encB (List.replicate 168 0)).toArray), 168) := by kernel_rfl
theorem zero168 (w : World) : (zeroValue 48).run Try.prog w = .ok (.agg (encB (List.replicate 168 0)).toArray) w := (zero_of_info info168).1 w
theorem size168 : (Try.prog.info? 48).map (·.size) = some 168 := (zero_of_info info168).2
theorem wpList_load_w {w : World} {ops : Array Oper} {rest : List Oper} {op : Oper} {a : Act} {Q : Exit → Act → World → Prop} (ty : TypeId) (x : Operand) (ho : op.op = .load ty x)
    (b : Nat) (hx : a.eval x = .pointer (some ⟨b, 0, none⟩)) (c : Array Value) (T : TypeId) (hb : w.heap[b]? = some (.cells c T (0, 0))) (d : TypeDesc) (hu : Try.prog.underlying ty = some d) (hd : d.isRow = true) (hi : (Try.prog.info? ty).map (·.size) = some c.size) (hw : Region.wanted op (yielded ops a.tmps) = true)
    (h : wpList Try.prog ops Q rest (a.put op.dst (.agg c)) w) : wpList Try.prog ops Q (op :: rest) a w :=
  wpList_step fun K hK => by
    rw [if_pos hw]
    exact wp_load_mid ty x ho b 0 hx c.toList d (range_all hb) hu hd (by simpa using hi) (hK _ _ h)
end Go.Proofs.Ytelfemhnijnhfaa.Fr

/- Sorting of at most one hold; no condition. -/
namespace Go.Proofs.Ytelfemhnijnhfaa.Fr
open Go.RowKit Go.Maps
set_option linter.unusedVariables false
set_option linter.unusedSimpArgs false
set_option maxRecDepth 100000
attribute [local go_sem] nilB

set_option maxHeartbeats 1000000 in
theorem ins_calls (w : World) (A : Option Addr) (n c : Nat) (cmp : Value) (hn : n ≤ 1) :
    Calls Try.prog 89 #[.slice A n c, .int .i64 0, .int .i64 n, cmp] w fun e w' => e = .returned (.tuple #[]) ∧ w' = w := by
  have h1 : ¬ (1 : Int) < (n : Int) := by omega
  go_enter Try.func89, Try.ntmps89
  go_wp2_with fail
  go_loopg [8] 1 (fun kq v8 wr => v8 = .int .i64 1 ∧ wr = w)
  case atStart => exact ⟨rfl, rfl⟩
  case round =>
    obtain ⟨rfl, rfl⟩ := hrel
    go_wp2
    go_end0
    exact ⟨rfl, rfl⟩
set_option maxHeartbeats 1000000 in
theorem pdq_calls (w : World) (A : Option Addr) (n c : Nat) (cmp : Value) (lim : Int) (hn : n ≤ 1) :
    Calls Try.prog 75 #[.slice A n c, .int .i64 0, .int .i64 n, .int .i64 lim, cmp] w fun e w' => e = .returned (.tuple #[]) ∧ w' = w := by
  have h1 : (n : Int) ≤ 12 := by omega
  go_enter Try.func75, Try.ntmps75
  go_wp2_with fail
  go_loopg [1, 2, 3, 10, 11] 1 (fun kq v1 v2 v3 v10 v11 wr => v1 = .int .i64 0 ∧ v2 = .int .i64 n ∧ wr = w)
  case atStart => exact ⟨rfl, rfl, rfl⟩
  case round =>
    obtain ⟨rfl, rfl, rfl⟩ := hrel
    go_wp2_with fail
    refine (ins_calls _ A n c cmp hn).mono ?_
    rintro e w1 ⟨rfl, rfl⟩
    go_wp2
    refine bodyPost_ret (v := .tuple #[]) (by simp [results, Try.results75, go_sem]) rfl ?_
    exact ⟨rfl, rfl⟩
theorem len64_calls (w : World) (n : Nat) (hn : n ≤ 1) :
    Calls Try.prog 98 #[.int .u64 n] w fun e w' => e = .returned (.int .i64 n) ∧ w' = w := by
  have hc : n = 0 ∨ n = 1 := by omega
  rcases hc with rfl | rfl
  · go_enter Try.func98, Try.ntmps98
    go_wp2
    go_ret
    exact ⟨by kernel_rfl, rfl⟩
  · go_enter Try.func98, Try.ntmps98
    go_wp2
    go_ret
    exact ⟨by kernel_rfl, rfl⟩
theorem len_calls (w : World) (n : Nat) (hn : n ≤ 1) :
    Calls Try.prog 76 #[.int .u64 n] w fun e w' => e = .returned (.int .i64 n) ∧ w' = w := by
  go_enter Try.func76, Try.ntmps76
  go_wp2_with fail
  refine (len64_calls w n hn).mono ?_
  rintro e w1 ⟨rfl, rfl⟩
  go_wp2
  go_ret
  exact ⟨rfl, rfl⟩
theorem sort_calls (w : World) (A : Option Addr) (n c : Nat) (cmp : Value) (hn : n ≤ 1) :
    Calls Try.prog 53 #[.slice A n c, cmp] w fun e w' => e = .returned (.tuple #[]) ∧ w' = w := by
  go_enter Try.func53, Try.ntmps53
  go_wp2_with fail
  refine (len_calls w n hn).mono ?_
  rintro e w1 ⟨rfl, rfl⟩
  go_wp2_with fail
  refine (pdq_calls _ A n c cmp n hn).mono ?_
  rintro e w2 ⟨rfl, rfl⟩
  go_wp2
  go_end0
  exact ⟨rfl, rfl⟩
theorem key_inv {v : Value} {l : Lit} (h : keyOf Try.prog 109 v = some l) : ∃ K : K4, K.wf ∧ v = kv K := by
  obtain ⟨⟨xs⟩, L, rfl, hL, _⟩ := keyOf_top wideKey h
  obtain ⟨d, hdd⟩ : ∃ d, Try.prog.types.size + 1 = d + 2 := ⟨Try.prog.types.size - 1, by have h0 : 0 < Try.prog.types.size := Nat.lt_of_le_of_lt (Nat.zero_le _) rowKey; omega⟩
  rw [hdd] at hL
  have c0 : Try.prog.cellsOf 109 = 4 := by kernel_rfl
  have c1 : Try.prog.cellsOf 25 = 1 := by kernel_rfl
  have c2 : Try.prog.cellsOf 5 = 1 := by kernel_rfl
  have c3 : Try.prog.cellsOf 23 = 1 := by kernel_rfl
  have hlen : xs.length = 4 := by
    by_cases hx : xs.length = 4
    · exact hx
    · simp [Program.keyLits, Try.underlying109, c0, hx] at hL
  match xs, hlen with
  | [a, b, c, e], _ =>
    have f : ∀ (k : Nat) (t : TypeId) (q : IntKind) (v : Value) (x : List Lit), Try.prog.underlying t = some (.int q) → Try.prog.keyLits (k + 1) t [v] = some x → ∃ n, v = .int q n ∧ (Lit.int q n).wf = true := by
      intro k t q v x ht hx
      unfold Program.keyLits at hx
      rw [ht] at hx
      cases v <;> simp at hx
      rename_i q' n
      obtain ⟨⟨rfl, hw⟩, _⟩ := hx
      exact ⟨n, rfl, hw⟩
    unfold Program.keyLits at hL
    simp only [Try.underlying109, c0] at hL
    simp [c1, c2, c3] at hL
    cases ha : Try.prog.keyLits (d + 1) 25 [a] <;> simp [ha] at hL
    cases hb : Try.prog.keyLits (d + 1) 25 [b] <;> simp [hb] at hL
    cases hc : Try.prog.keyLits (d + 1) 5 [c] <;> simp [hc] at hL
    cases he : Try.prog.keyLits (d + 1) 23 [e] <;> simp [he] at hL
    obtain ⟨n1, rfl, w1⟩ := f d _ _ a _ Try.underlying25 ha
    obtain ⟨n2, rfl, w2⟩ := f d _ _ b _ Try.underlying25 hb
    obtain ⟨n3, rfl, w3⟩ := f d _ _ c _ Try.underlying5 hc
    obtain ⟨n4, rfl, w4⟩ := f d _ _ e _ Try.underlying23 he
    exact ⟨⟨n1, n2, n3, n4⟩, ⟨wf_u32 w1, wf_u32 w2, wf_u8 w3, wf_u16 w4⟩, rfl⟩
end Go.Proofs.Ytelfemhnijnhfaa.Fr

/- Held, of at most one datagram; no condition. -/
namespace Go.Proofs.Ytelfemhnijnhfaa.Fr
open Go.RowKit Go.Maps
set_option linter.unusedVariables false
set_option linter.unusedSimpArgs false
set_option maxRecDepth 100000
attribute [local go_sem] nilB

theorem infoH : (Try.prog.info? 69).map (fun i => (i.zero, i.size, i.bytes)) = some (some (.agg #[.int .u32 0, .int .u32 0, .int .u8 0, .int .u16 0, .int .i64 0, .int .i64 0]), 6, 32) := by kernel_rfl
abbrev hoC (K : K4) (n u : Int) : Array Value := #[.int .u32 K.src, .int .u32 K.dst, .int .u8 K.proto, .int .u16 K.id, .int .i64 n, .int .i64 u]
theorem run_append_h {w : World} {V : Value} {n : Nat} {xs : List Value} (ty : TypeId) (hr : VRow w 69 6 V n xs) (K : K4) (c u : Int) (hn : n < 1000000) :
    ∃ A' c' w', (Builtin.append_ #[66, 66] ty #[V, .slice (some ⟨w.heap.size, 0, none⟩) 1 1]).run Try.prog (w.alloc (.cells (hoC K c u) 69)) = .ok (.slice A' (n + 1) c') w' ∧ VRow w' 69 6 (.slice A' (n + 1) c') (n + 1) (xs ++ (hoC K c u).toList) ∧ Touch V.ownBlock.toList w w' ∧
      ((Value.slice A' (n + 1) c').ownBlock = V.ownBlock ∨ ∃ b, (Value.slice A' (n + 1) c').ownBlock = some b ∧ w.heap.size ≤ b) := by
  obtain ⟨i0, hi, hz⟩ := Option.map_eq_some_iff.1 infoH
  simp only [Prod.mk.injEq] at hz
  obtain ⟨hz0, hz1, hz2⟩ := hz
  have hone : ∀ v ∈ (hoC K c u).toList, v.oneCell' = true := by
    intro v hv
    simp only [hoC, List.mem_cons, List.not_mem_nil, or_false] at hv
    rcases hv with rfl | rfl | rfl | rfl | rfl | rfl <;> rfl
  obtain ⟨v', w', hrun, h2, h3, _, h5⟩ := run_append_own_at (P := Try.prog) (w.alloc (.cells (hoC K c u) 69)) 0 66 ty 69 i0 _ 6 32 Try.underlying66 hi hz0 hz1 hz2 rfl (by decide) V n xs (World.ownsRow.alloc hr.own _) ⟨w.heap.size, 0, none⟩ 1 1 (hoC K c u).toList rfl
    (World.news_of_block (cs := hoC K c u) (t := 69) (fr := (0, 0)) (heap_alloc_new w _)) hone (by unfold maxLen; omega) (by omega) (Nat.zero_le _)
  have hr' : VRow w' 69 6 v' (n + 1) (xs ++ (hoC K c u).toList) := ⟨h2⟩
  obtain ⟨A', c', rfl⟩ := hr'.form
  have g2 := (World.grownBy_alloc w (.cells (hoC K c u) 69) V.ownBlock).trans h3
  have t2 : Touch V.ownBlock.toList w w' := (Touch.refl V.ownBlock.toList w).grown g2 (fun k hk => .inl (by simp [hk]))
  refine ⟨A', c', w', hrun, hr', t2, ?_⟩
  rcases h5 with h | h
  · exact .inl h
  · exact .inr ⟨_, h, by simp⟩
theorem step_append_h {w : World} {ops : Array Oper} {o : Oper} {a : Act} {K0 : Act → World → Prop} {Q : Exit → Act → World → Prop} {E : Prop} (hgd : o.guard = none) (s x : Operand)
    (ho : o.op = .call { callee := .builtin .append, args := #[s, x], argTypes := #[66, 66] })
    (V : Value) (n : Nat) (xs : List Value) (hs0 : a.eval s = V) (hr : VRow w 69 6 V n xs) (K : K4) (c u : Int) (hx0 : a.eval x = .slice (some ⟨w.heap.size, 0, none⟩) 1 1) (hn : n < 1000000)
    (hK : ∀ A' c' w', VRow w' 69 6 (.slice A' (n + 1) c') (n + 1) (xs ++ (hoC K c u).toList) → Touch V.ownBlock.toList w w' → ((Value.slice A' (n + 1) c').ownBlock = V.ownBlock ∨ ∃ b, (Value.slice A' (n + 1) c').ownBlock = some b ∧ w.heap.size ≤ b) → K0 (a.put o.dst (.slice A' (n + 1) c')) w') :
    if Region.wanted o (yielded ops a.tmps) = true then Oper.wp Try.prog o a (w.alloc (.cells (hoC K c u) 69)) K0 Q else E := by
  have hw : Region.wanted o (yielded ops a.tmps) = true := by simp [Region.wanted, hgd]
  rw [if_pos hw]
  obtain ⟨A', c', w', hrun, h1, h2, h3⟩ := run_append_h o.type hr K c u hn
  unfold Oper.wp execOp
  simp only [ho, resolve, invoke, builtin, Sem.run_bind, Sem.run_pure, Result.andThen_ok, List.map_toArray, List.map_cons, List.map_nil, hs0, hx0, hrun]
  exact hK A' c' w' h1 h2 h3
end Go.Proofs.Ytelfemhnijnhfaa.Fr

/- Held, of at most one datagram: the walk; no condition. -/
namespace Go.Proofs.Ytelfemhnijnhfaa.Fr
open Go.RowKit Go.Maps
set_option linter.unusedVariables false
set_option linter.unusedSimpArgs false
set_option maxRecDepth 100000
attribute [local go_sem] nilB

theorem ranges_kept {w w' : World} {b r n cnt : Nat} {D : DataW Value} {left : Lit → Bool} (h : w.ranges Try.prog 109 heldR b r n D left cnt) {S : List Nat} (t : Touch S w w') (hb : b ∉ S) (hr : r ∉ S) : w'.ranges Try.prog 109 heldR b r n D left cnt := by
  obtain ⟨es, clock, since, seen, c0, h1, h2, h3, h4, h5, h6⟩ := h
  exact ⟨es, clock, since, seen, c0, (t.block b (Array.getElem?_eq_some_iff.1 h1).1 hb).trans h1, h2, h3, h4, (t.block r (Array.getElem?_eq_some_iff.1 h5).1 hr).trans h5, h6⟩
def HeldPost (w : World) (st : ASt) (e : Ending) (w' : World) : Prop :=
  Touch [] w w' ∧ ((st.n = 0 ∧ e = .returned (.slice none 0 0)) ∨ (st.n = 1 ∧ ∃ (K : K4) (x : Nat × Dg) (A : Option Addr) (c : Nat), K.wf ∧ st.g K = some x ∧ e = .returned (.slice A 1 c) ∧ VRow w' 69 6 (.slice A 1 c) 1 (hoC K x.2.count x.2.until_).toList))
set_option maxHeartbeats 4000000 in
theorem held_calls {w : World} {a : Nat} {S : List Nat} {st : ASt} (h : AsmAt w a S st) (hn : st.n ≤ 1) :
    Calls Try.prog 24 #[.pointer (some ⟨a, 0, none⟩)] w (HeldPost w st) := by
  obtain ⟨hb, kb, tb, TS, s, fh, fk, rfl, h⟩ := h
  have H := Lib.hid h
  obtain ⟨D, hown, hsz, hf⟩ := h.held
  have OWN := Lib.hid hown
  have HSZ := Lib.hid hsz
  have HF := Lib.hid hf
  have hbl : Hid (hb < w.heap.size) := Lib.hid h.held.lt
  obtain ⟨N, hN⟩ : ∃ N, N = st.n := ⟨_, rfl⟩
  have HN := Lib.hid hN
  rw [← hN] at hn OWN HSZ
  obtain ⟨c0, c1, c2, c3, c4, c5, c6⟩ := asm_cells h.blk
  clear hown hsz hf hN h
  go_enter Try.func24, Try.ntmps24
  go_wp2_with (first
    | (at_range; refine wpList_range_own _ (by rfl) _ 104 (by rfl) 109 111 lawKey Try.underlying104 heldR hb N D (by rfl) OWN.out ?_; intro w0 hrg0 hg0 hs0)
    | go_in)
  go_frame
  obtain ⟨r, hr⟩ : ∃ r, r = w.heap.size := ⟨_, rfl⟩
  have HR := Lib.hid hr
  rw [← hr] at hrg0 ⊢
  have T0 : Hid (Touch [] w w0) := Lib.hid ((Touch.refl [] w).grown hg0 (by simp))
  rw [HSZ.out] at hrg0
  have RG0 := Lib.hid hrg0
  clear hrg0 hg0 hs0 hr c0 c1 c2 c3 c4 c5 c6
  go_loopg [3] 1 (fun kq v3 wr => ∃ (left : Lit → Bool) (cnt : Nat), cnt ≤ kq ∧ Hid (wr.ranges Try.prog 109 heldR hb r N D left cnt) ∧ Hid (Touch [] w wr) ∧ ((v3 = .slice none 0 0 ∧ cnt = N ∧ Hid (left = Maps.has D)) ∨ (cnt = 0 ∧ N = 1 ∧ ∃ (K : K4) (x : Nat × Dg) (A : Option Addr) (c : Nat), v3 = .slice A 1 c ∧ Hid (K.wf ∧ st.g K = some x) ∧ Hid (VRow wr 69 6 (.slice A 1 c) 1 (hoC K x.2.count x.2.until_).toList))))
  case atStart => exact ⟨_, N, hn, RG0, T0, .inl ⟨rfl, rfl, Lib.hid rfl⟩⟩
  case round =>
    obtain ⟨left, cnt, hcq, hRG, hT, hcase⟩ := hrel
    rcases hcase with ⟨rfl, hcN, hleft⟩ | ⟨hc0, hN1, K, x, A, c, rfl, hKx, hV⟩
    · go_wp2_with (first
        | (at_next; refine wpList_next_ranges (α := K4) (β := Value) _ (by rfl) (.tmp 10) (by rfl) 109 lawKey heldR kv id (fun key kl hkey => by obtain ⟨K, _, e⟩ := key_inv hkey; exact ⟨K, e⟩) (fun v y hv => ⟨v, rfl⟩) hb r N D left cnt (by rfl) hRG.out ?_ ?_)
        | go_in)
      · intro hc0 hl0
        have HN0 : Hid (N = 0) := Lib.hid (by omega)
        go_wp2_with fail
        refine (sort_calls _ none 0 0 _ (by omega)).mono ?_
        rintro e w5 ⟨rfl, rfl⟩
        go_wp2
        go_ret
        exact ⟨hT.out, .inl ⟨by rw [← HN.out]; exact HN0.out, rfl⟩⟩
      · intro K c kl y y2 w1 cnt1 hkey hlk hy hat hrg1 hlt hg1 hs1 hen
        have hK : ∃ K', K4.wf K' ∧ kv K = kv K' := key_inv hkey
        obtain ⟨K', hKw, hKe⟩ := hK
        obtain rfl := kv_inj hKe
        have hc : ∃ x : Nat × Dg, st.g K = some x ∧ c = .pointer (some ⟨x.1, 0, none⟩) := by
          have hy' : y = .held c := by
            have h9 : heldR c = some (y, y2) := hy
            unfold heldR at h9
            simp at h9
            exact h9.1.symm
          rcases HF.out (kv K) kl hkey with ⟨_, e2⟩ | ⟨v, e1, _, e3⟩
          · rw [hleft.out] at hlk; rw [e2] at hlk; cases hlk
          · have e4 := (e3 .nil).symm.trans (hat .nil)
            rw [hy'] at e4
            injection e4 with e4
            rw [H.out.look K hKw] at e1
            cases hg : st.g K with
            | none => rw [hg] at e1; cases e1
            | some x => rw [hg] at e1; exact ⟨x, rfl, by rw [← e4]; simpa using e1.symm⟩
        obtain ⟨x, hgx, rfl⟩ := hc
        have HKX : Hid (K.wf ∧ st.g K = some x) := Lib.hid ⟨hKw, hgx⟩
        have hc10 : Hid (cnt1 = 0 ∧ N = 1) := Lib.hid (by omega)
        have HGK : Hid (0 < gk) := Lib.hid (by omega)
        have T1 : Hid (Touch [] w w1) := Lib.hid (hT.out.trans ((Touch.refl [r] _).grown hg1 (fun k hk => .inl (by cases hk; simp))) (fun z hz => .inr (by have := HR.out; simp at hz; omega)))
        have RG1 := Lib.hid hrg1
        obtain ⟨d, Dx⟩ := x
        obtain ⟨l0, l1, l2, l3⟩ := K
        dsimp only [kv, id] at hen
        clear hkey hlk hy hat hrg1 hlt hg1 hs1 hKw hgx hKe hcN hleft hRG hT
        go_upto_region 5 with (fail)
        obtain ⟨W2, hW2⟩ : ∃ W : World, W = w1.alloc (.cells #[.int .u32 l0, .int .u32 l1, .int .u8 l2, .int .u16 l3] 109) := ⟨_, rfl⟩
        rw [← hW2]
        have t2 : Touch [] w1 W2 := by rw [hW2]; exact (Touch.refl [] w1).alloc _
        obtain ⟨b4, hb4⟩ : ∃ b4, b4 = w1.heap.size := ⟨_, rfl⟩
        have X2 : Hid (W2.heap[b4]? = some (.cells #[.int .u32 l0, .int .u32 l1, .int .u8 l2, .int .u16 l3] 109 (0, 0))) := Lib.hid (by rw [hW2, hb4]; exact box_at _ _)
        have T2 := Lib.hid (T1.out.trans t2 (by simp))
        have RG2 := Lib.hid (ranges_kept RG1.out t2 (by simp) (by simp))
        have DG2 : Hid (DgAt W2 d Dx) := Lib.hid ((H.out.each _ _ HKX.out.1 HKX.out.2).1.near T2.out)
        rw [← hb4]
        clear hb4 hW2 t2 T1 RG1 hen
        have x0 := (show W2.cell? ⟨b4, 0, none⟩ = some (.int .u32 l0) by simp [World.cell?, X2.out])
        have x1 := (show W2.cell? ⟨b4, 1, none⟩ = some (.int .u32 l1) by simp [World.cell?, X2.out])
        have x2 := (show W2.cell? ⟨b4, 2, none⟩ = some (.int .u8 l2) by simp [World.cell?, X2.out])
        have x3 := (show W2.cell? ⟨b4, 3, none⟩ = some (.int .u16 l3) by simp [World.cell?, X2.out])
        obtain ⟨VB, VH, VO, hd, _⟩ := DG2.out
        obtain ⟨d0, d1, d2, d3, d4, d5, d6, d7, d8, _⟩ := dg_cells hd
        clear hd
        go_region_held3 (fun w' => w'.cell? ⟨b4, 0, none⟩ = some (.int .u32 l0) ∧ w'.cell? ⟨b4, 1, none⟩ = some (.int .u32 l1) ∧ w'.cell? ⟨b4, 2, none⟩ = some (.int .u8 l2) ∧ w'.cell? ⟨b4, 3, none⟩ = some (.int .u16 l3) ∧ w'.cell? ⟨d, 5, none⟩ = some (.int .i64 Dx.count) ∧ w'.cell? ⟨d, 2, none⟩ = some (.int .i64 Dx.until_))
          (first | go_keep | exact ⟨cell_touch t5' x0 (by simp), cell_touch t5' x1 (by simp), cell_touch t5' x2 (by simp), cell_touch t5' x3 (by simp), cell_touch t5' d5 (by simp), cell_touch t5' d2 (by simp)⟩)
          ((refine step_append_h (w := W2.drew) (by rfl) (.tmp 16) (.tmp 34) (by rfl) (.slice none 0 0) 0 [] (by rfl) (VRow.nil _ _ _) ⟨l0, l1, l2, l3⟩ Dx.count Dx.until_ (by rfl) (by omega) ?_; intro A5 c5 w5 v5 t5 _; have t5' : Touch [] W2 w5 := (Touch.refl [] W2).drew.trans t5 (by simp [Value.ownBlock]); have V5 := Lib.hid v5; have T5 := Lib.hid t5; clear v5 t5))
        all_goals
          have T25 : Hid (Touch [] W2 w5) := Lib.hid ((Touch.refl [] W2).drew.trans T5.out (by simp [Value.ownBlock]))
          have TT := Lib.hid (T2.out.trans T25.out (by simp))
          have RG5 := Lib.hid (ranges_kept RG2.out T25.out (by simp) (by simp))
          have V6 : Hid (VRow w5 69 6 (.slice A5 1 c5) 1 (hoC ⟨l0, l1, l2, l3⟩ Dx.count Dx.until_).toList) := Lib.hid (by simpa using V5.out)
          clear x0 x1 x2 x3 d0 d1 d2 d3 d4 d5 d6 d7 d8 T25 T5 V5
          go_wp2
          go_roundg 0
          case rel => exact ⟨_, 0, Nat.zero_le _, Lib.hid (by have := RG5.out; rw [hc10.out.1] at this; exact this), TT, .inr ⟨rfl, hc10.out.2, ⟨l0, l1, l2, l3⟩, (d, Dx), A5, c5, by first | rfl | simp, HKX, V6⟩⟩
          case measure => have := HGK.out; omega
    · go_wp2_with (first
        | (at_next; refine wpList_next_ranges (α := K4) (β := Value) _ (by rfl) (.tmp 10) (by rfl) 109 lawKey heldR kv id (fun key kl hkey => by obtain ⟨K, _, e⟩ := key_inv hkey; exact ⟨K, e⟩) (fun v y hv => ⟨v, rfl⟩) hb r N D left cnt (by rfl) hRG.out ?_ ?_)
        | go_in)
      intro _
      go_wp2_with fail
      refine (sort_calls _ A 1 c _ (by omega)).mono ?_
      rintro e w5 ⟨rfl, rfl⟩
      go_wp2
      go_ret
      exact ⟨hT.out, .inr ⟨by rw [← HN.out]; exact hN1, K, x, A, c, hKx.out.1, hKx.out.2, rfl, hV.out⟩⟩
end Go.Proofs.Ytelfemhnijnhfaa.Fr

/- Two lists of one hold are alike; no condition. -/
namespace Go.Proofs.Ytelfemhnijnhfaa.Fr
open Go.RowKit Go.Maps
set_option linter.unusedVariables false
set_option linter.unusedSimpArgs false
set_option maxRecDepth 100000
attribute [local go_sem] nilB

theorem stoodHo : Try.prog.stoodInHeld 69 = false := by kernel_rfl
theorem guardHo : Try.prog.eqGuardType Try.prog.depth 69 = false := by kernel_rfl
theorem ho_eql (a b c d e f : Int) (w : World) :
    (binOp .eql 69 (.agg #[.int .u32 a, .int .u32 b, .int .u8 c, .int .u16 d, .int .i64 e, .int .i64 f]) (.agg #[.int .u32 a, .int .u32 b, .int .u8 c, .int .u16 d, .int .i64 e, .int .i64 f])).run Try.prog w = .ok (.bool true) w := by
  rw [run_eql_struct, show (10000 : Nat) = 9999 + 1 from rfl, run_equalIn_agg w 9999 69 _ _ (by kernel_rfl) stoodHo]
  have h3 := Try.underlying3
  have h2 := Try.underlying2
  have h5 := Try.underlying5
  have h23 := Try.underlying23
  have h30 := Try.underlying25
  simp [Program.fieldsOf, Try.underlying69, Op.eqFields, go_sem]
theorem ho_neq (a b c d e f : Int) (w : World) :
    (binOp .neq 69 (.agg #[.int .u32 a, .int .u32 b, .int .u8 c, .int .u16 d, .int .i64 e, .int .i64 f]) (.agg #[.int .u32 a, .int .u32 b, .int .u8 c, .int .u16 d, .int .i64 e, .int .i64 f])).run Try.prog w = .ok (.bool false) w := by
  rw [run_neq_struct, show (10000 : Nat) = 9999 + 1 from rfl, run_equalIn_agg w 9999 69 _ _ (by kernel_rfl) stoodHo]
  have h3 := Try.underlying3
  have h2 := Try.underlying2
  have h5 := Try.underlying5
  have h23 := Try.underlying23
  have h30 := Try.underlying25
  simp [Program.fieldsOf, Try.underlying69, Op.eqFields, go_sem]
set_option maxHeartbeats 2000000 in
theorem eqh1_calls {w : World} {A A' : Option Addr} {c c' : Nat} {a b p i n u : Int} (h : VRow w 69 6 (.slice A 1 c) 1 (hoC ⟨a, b, p, i⟩ n u).toList) (h' : VRow w 69 6 (.slice A' 1 c') 1 (hoC ⟨a, b, p, i⟩ n u).toList) :
    Calls Try.prog 25 #[.slice A 1 c, .slice A' 1 c'] w fun e w' => e = .returned (.bool true) ∧ Touch [] w w' := by
  obtain ⟨g, c1, e1, _, hx⟩ := h.at_ (by omega)
  obtain ⟨g', c1', e1', _, hx'⟩ := h'.at_ (by omega)
  simp only [Value.slice.injEq] at e1 e1'
  obtain ⟨rfl, -, rfl⟩ := e1
  obtain ⟨rfl, -, rfl⟩ := e1'
  have x0 := hx 0 _ rfl
  have x1 := hx 1 _ rfl
  have x2 := hx 2 _ rfl
  have x3 := hx 3 _ rfl
  have x4 := hx 4 _ rfl
  have x5 := hx 5 _ rfl
  have y0 := hx' 0 _ rfl
  have y1 := hx' 1 _ rfl
  have y2 := hx' 2 _ rfl
  have y3 := hx' 3 _ rfl
  have y4 := hx' 4 _ rfl
  have y5 := hx' 5 _ rfl
  clear hx hx' h h'
  go_enter Try.func25, Try.ntmps25
  go_wp2_with fail
  go_loopg [5] 1 (fun kq v5 wr => (v5 = .int .i64 0 ∧ kq = 1 ∧ wr = w) ∨ (v5 = .int .i64 1 ∧ Hid (Touch [] w wr)))
  case atStart => exact .inl ⟨rfl, rfl, rfl⟩
  case round =>
    rcases hrel with ⟨rfl, rfl, rfl⟩ | ⟨rfl, hT⟩
    · have n0 := fun u : Near wr => u.cell x0
      have n1 := fun u : Near wr => u.cell x1
      have n2 := fun u : Near wr => u.cell x2
      have n3 := fun u : Near wr => u.cell x3
      have n4 := fun u : Near wr => u.cell x4
      have n5 := fun u : Near wr => u.cell x5
      have m0 := fun u : Near wr => u.cell y0
      have m1 := fun u : Near wr => u.cell y1
      have m2 := fun u : Near wr => u.cell y2
      have m3 := fun u : Near wr => u.cell y3
      have m4 := fun u : Near wr => u.cell y4
      have m5 := fun u : Near wr => u.cell y5
      have heq := fun w => ho_neq a b p i n u w
      have hgt := guardHo
      clear x0 x1 x2 x3 x4 x5 y0 y1 y2 y3 y4 y5
      go_wp2
      refine wp_region_near (by kernel_rfl) (by kernel_rfl) ?_
      repeat (go_big_quiet_step (fail))
      refine wpQuiet_nil ?_
      rintro _ ⟨u, rfl⟩
      have TX := Lib.hid u.near
      clear n0 n1 n2 n3 n4 n5 m0 m1 m2 m3 m4 m5 heq hgt
      go_wp2
      go_roundg 0
      case rel => exact .inr ⟨rfl, TX⟩
      case measure => omega
    · clear x0 x1 x2 x3 x4 x5 y0 y1 y2 y3 y4 y5
      go_wp2
      go_ret
      exact ⟨rfl, hT.out⟩
end Go.Proofs.Ytelfemhnijnhfaa.Fr

/- The plain law of FragRefuses; no program in sight; no condition. -/
namespace Go.Proofs.Ytelfemhnijnhfaa.Fr
open Go.RowKit
set_option linter.unusedVariables false
set_option linter.unusedSimpArgs false

theorem lay_fresh : ∀ (cs : List Int) (a : Nat) (s : List Int × List Int × Int), (∀ j, a ≤ j → s.2.1.getD j 0 = 0) → (lay a cs s).2.2 = s.2.2 + cs.length
  | [], a, s, h => by simp [lay]
  | c :: cs, a, s, h => by
    unfold lay
    rw [if_pos (h a (Nat.le_refl a)), lay_fresh cs (a + 1) _ (fun j hj => by
      show (s.2.1.set a 1).getD j 0 = 0
      have := h j (by omega)
      simpa [List.getD_eq_getElem?_getD, List.getElem?_set_ne (show a ≠ j by omega)] using this)]
    simp
    omega
theorem mk_wf {id off : Int} {n : Nat} {c : Int} {mf : Bool} {t : Int} (hi : 0 ≤ id ∧ id < 65536) (h0 : 0 ≤ off) (h9 : off ≤ 8000) (ht : 0 ≤ t ∧ t < 256) : (pieceP id off n c mf t).h.wf :=
  ⟨by simp [pieceP], by simpa [pieceP] using hi, by simp [pieceP]; omega, by simpa [pieceP] using ht, by simp [pieceP], by simp [pieceP], by simp [pieceP]⟩
theorem mk_may {id off : Int} {n : Nat} {c : Int} {mf : Bool} {t : Int} (h0 : 0 ≤ off) (h9 : off + n ≤ 8000) (hn : 1 ≤ n) : bErr (pieceP id off n c mf t) = 0 := by
  refine bErr_may area_nil ?_ ?_ ?_ ?_ ?_ ?_
  · simp [pieceP]; try omega
  · simp [pieceP]; try omega
  · simp [pieceP]; try omega
  · simp [pieceP]; try omega
  · simp [pieceP]; try omega
  · intro _; simp [pieceP]; try omega
def st1 : ASt := ⟨1, 10, 0, 0, fun _ => none, 0⟩
theorem st1_ok : st1.ok := ⟨by simp [st1], by simp [st1], by simp [st1], by simp [st1], by simp [st1], by simp [st1], by simp [st1], by simp [st1], fun K x hK hx => by cases hx⟩
def Kid (i : Int) : K4 := ⟨1, 2, 17, i⟩
theorem Kid_wf {i : Int} (h : 0 ≤ i ∧ i < 65536) : (Kid i).wf := ⟨by simp [Kid], by simp [Kid], by simp [Kid], h⟩
/-- A piece that comes where nothing is held: its datagram stays open. -/
theorem only_open {st : ASt} (hst : st.ok) (hroom : (st.n : Int) < st.room) {id off : Int} {n : Nat} {c : Int} {mf : Bool} {t : Int} (hi : 0 ≤ id ∧ id < 65536) (h0 : 1 ≤ off) (h9 : off + n ≤ 8000) (hn : 1 ≤ n) (ht : 0 ≤ t ∧ t < 256) (hg : st.g (Kid id) = none)
    {q : Pk} {r : Int} {st' : ASt} (hA : AddRel st (pieceP id off n c mf t) q r st') :
    r = 52 ∧ ∃ d i, st' = kept st (pieceP id off n c mf t) d i ∧ st'.ok ∧ st'.n = st.n + 1 ∧ oldD st' (Kid id) = newD st (pieceP id off n c mf t) i ∧
      (takenD freshD (pieceP id off n c mf t)).ok ∧ (takenD freshD (pieceP id off n c mf t)).count = 8 * n ∧ (takenD freshD (pieceP id off n c mf t)).length = (if mf then -1 else 8 * (off + n)) ∧ (takenD freshD (pieceP id off n c mf t)).far = 8 * (off + n) ∧
      ((takenD freshD (pieceP id off n c mf t)).bytes.length : Int) = 8 * (off + n) ∧ (takenD freshD (pieceP id off n c mf t)).first = false ∧ (takenD freshD (pieceP id off n c mf t)).opts = [] ∧
      (∀ j : Nat, cov (takenD freshD (pieceP id off n c mf t)) j = if 8 * off ≤ j ∧ (j : Int) < 8 * (off + n) then some c else none) := by
  obtain ⟨p, hp⟩ : ∃ p, p = pieceP id off n c mf t := ⟨_, rfl⟩
  have hk : keyP p = Kid id := by rw [hp]; rfl
  have hpo : p.h.off = 8 * off := by rw [hp]; rfl
  have hpm : p.h.mf = mf := by rw [hp]; rfl
  have hpb : p.body = List.replicate (8 * n) c := by rw [hp]; rfl
  have hpp : p.opts = [] := by rw [hp]; rfl
  have hpw : p.h.wf := by rw [hp]; exact mk_wf hi (by omega) (by omega) ht
  have hpe : bErr p = 0 := by rw [hp]; exact mk_may (by omega) h9 hn
  rw [← hp] at hA ⊢
  clear hp
  have hnz : ¬ (p.h.off = 0 ∧ p.h.mf = false) := by rw [hpo]; omega
  have hend : endI p = 8 * (off + n) := by unfold endI; rw [hpo, hpb]; simp; omega
  obtain ⟨tok, tcov, tsz⟩ := takes freshD_ok hpe hpw hnz
  have hold : oldD st (keyP p) = freshD := by unfold oldD; rw [hk, hg]
  have e1 : (takenD freshD p).count = 8 * n := by
    show (layD freshD p).2.2 = _
    unfold layD
    rw [lay_fresh _ _ _ (fun j _ => by
      show (splice (List.replicate (takenN freshD p) 0) 0 freshD.have_).getD j 0 = 0
      rw [pad_eq]
      simp only [freshD, List.nil_append]
      exact getD_zeros _ _)]
    rw [hpb]
    simp [freshD]
  have e2 : (takenD freshD p).length = if mf then -1 else 8 * (off + n) := by
    show (if p.h.mf then freshD.length else endI p) = _
    rw [hpm, hend]; rfl
  have e3 : (takenD freshD p).far = 8 * (off + n) := by
    show (if freshD.far < endI p then endI p else freshD.far) = _
    rw [hend, if_pos (by simp [freshD]; omega)]
  have e4 : ((takenD freshD p).bytes.length : Int) = 8 * (off + n) := by
    rw [tsz]
    unfold takenN
    rw [hend, if_pos (by simp [freshD]; omega)]
    omega
  have e5 : (takenD freshD p).first = false := by
    show (if p.h.off = 0 then true else freshD.first) = false
    rw [hpo, if_neg (by omega)]; rfl
  have e6 : (takenD freshD p).opts = [] := by
    show (if p.h.off = 0 ∧ freshD.first = false then p.opts else freshD.opts) = []
    rw [hpp]; split <;> rfl
  have e7 : ∀ j : Nat, cov (takenD freshD p) j = if 8 * off ≤ j ∧ (j : Int) < 8 * (off + n) then some c else none := by
    intro j
    rw [tcov j, cov_fresh, hpo, hpb]
    by_cases h1 : 8 * off ≤ (j : Int)
    · rw [if_pos (by omega)]
      by_cases h2 : (j : Int) < 8 * (off + n)
      · rw [if_pos ⟨h1, h2⟩, List.getElem?_replicate, if_pos (by omega)]; rfl
      · rw [if_neg (fun h => h2 h.2), List.getElem?_replicate, if_neg (by omega)]; rfl
    · rw [if_neg (by omega), if_neg (fun h => h1 h.1)]; rfl
  have hcl : clashB freshD p = false := by
    unfold clashB
    rw [if_neg (by simp [freshD]), hend]
    have : decide (8 * (off + (n : Int)) < freshD.far) = false := decide_eq_false (by simp [freshD]; omega)
    rw [this]; simp
  have hwh : wholeB (takenD freshD p) = false := by
    unfold wholeB
    rw [e1, e2]
    cases mf
    · have : ((8 * (n : Int)) == (if false = true then -1 else 8 * (off + (n : Int)))) = false := by rw [beq_eq_false_iff_ne]; simp; omega
      rw [this]; simp
    · simp
  rcases hA with ⟨h, _⟩ | ⟨_, h, _⟩ | ⟨_, _, hA⟩
  · exact absurd hpe h
  · exact absurd h hnz
  rw [hold] at hA
  rcases hA with ⟨h, _⟩ | ⟨_, h, _⟩ | ⟨_, h, _⟩ | ⟨_, _, h1, h2, d, i, h3⟩
  · rw [hcl] at h; cases h
  · rw [hwh] at h; cases h
  · rw [hwh] at h; cases h
  · refine ⟨h1, d, i, h3, ?_, ?_, ?_, tok, e1, e2, e3, e4, e5, e6, e7⟩
    · rw [h3]; exact kept_ok hst hpe hpw hnz (.inr hroom) d i
    · rw [h3]
      show (if (st.g (keyP p)).isSome then st.n else st.n + 1) = st.n + 1
      rw [hk, hg]; rfl
    · rw [h3]
      unfold oldD kept
      rw [hk]
      simp [updK_same]
theorem only_clash {st : ASt} {p q : Pk} {r : Int} {st' : ASt} (hpe : bErr p = 0) (hnz : ¬ (p.h.off = 0 ∧ p.h.mf = false)) (hc : clashB (oldD st (keyP p)) p = true) (hA : AddRel st p q r st') : r = 53 ∧ st' = st := by
  rcases hA with ⟨h, _⟩ | ⟨_, h, _⟩ | ⟨_, _, hA⟩
  · exact absurd hpe h
  · exact absurd h hnz
  rcases hA with ⟨_, h1, _, h2⟩ | ⟨h, _⟩ | ⟨h, _⟩ | ⟨h, _⟩
  · exact ⟨h1, h2⟩
  · rw [hc] at h; cases h
  · rw [hc] at h; cases h
  · rw [hc] at h; cases h
theorem refuse_whole {st : ASt} (hst : st.ok) {n : Nat} (hn : 1 ≤ n) (hn9 : n ≤ 1000) {D0 : Dg} (hD : oldD st (Kid 1) = D0) (hl : D0.length = 8 * (n + 1)) (hb : (D0.bytes.length : Int) = 8 * (n + 1)) (hf : D0.first = false)
    (hc : ∀ j : Nat, cov D0 j = if 8 * (n : Int) ≤ j ∧ (j : Int) < 8 * (n + 1) then some 8 else none) {q : Pk} {r : Int} {st' : ASt} (hA : AddRel st (pieceP 1 0 n 6 true 4) q r st') :
    r = 0 ∧ st' = gone st (Kid 1) ∧ q.body.length = 8 * (n + 1) ∧ q.body[0]? = some 6 ∧ q.body[8 * n]? = some 8 := by
  obtain ⟨p, hp⟩ : ∃ p, p = pieceP 1 0 n 6 true 4 := ⟨_, rfl⟩
  have hk : keyP p = Kid 1 := by rw [hp]; rfl
  have hpo : p.h.off = 0 := by rw [hp]; rfl
  have hpm : p.h.mf = true := by rw [hp]; rfl
  have hpb : p.body = List.replicate (8 * n) 6 := by rw [hp]; rfl
  have hpp : p.opts = [] := by rw [hp]; rfl
  have hpw : p.h.wf := by rw [hp]; exact mk_wf (by omega) (by omega) (by omega) (by omega)
  have hpe : bErr p = 0 := by rw [hp]; exact mk_may (by omega) (by omega) hn
  rw [← hp] at hA
  clear hp
  have hok0 : D0.ok := by
    rw [← hD, ← hk]
    exact oldD_ok hst hpw
  have hnz : ¬ (p.h.off = 0 ∧ p.h.mf = false) := by rw [hpm]; simp
  have hend : endI p = 8 * n := by unfold endI; rw [hpo, hpb]; simp
  obtain ⟨tok, tcov, tsz⟩ := takes hok0 hpe hpw hnz
  obtain ⟨D1, hD1⟩ : ∃ D1, D1 = takenD D0 p := ⟨_, rfl⟩
  have hcl : clashB D0 p = false := by
    unfold clashB
    rw [if_pos (by omega), hend, hpm, decide_eq_false (by omega)]; rfl
  have s1 : D1.bytes.length = 8 * (n + 1) := by
    rw [hD1, tsz]
    unfold takenN
    rw [hend, if_neg (by omega)]
    omega
  have l1 : D1.length = 8 * (n + 1) := by
    rw [hD1]
    show (if p.h.mf then D0.length else endI p) = _
    rw [hpm, hl]; rfl
  have h1 : D1.h = p.h := by
    rw [hD1]
    show (if p.h.off = 0 ∧ D0.first = false then p.h else D0.h) = _
    rw [if_pos ⟨hpo, hf⟩]
  have o1 : D1.opts = [] := by
    rw [hD1]
    show (if p.h.off = 0 ∧ D0.first = false then p.opts else D0.opts) = _
    rw [if_pos ⟨hpo, hf⟩, hpp]
  have c1 : ∀ j : Nat, cov D1 j = if j < 8 * n then some 6 else if j < 8 * (n + 1) then some 8 else none := by
    intro j
    rw [hD1, tcov j, hc j, hpo, hpb]
    by_cases h1 : j < 8 * n
    · rw [if_neg (by omega), if_pos (by omega), if_pos h1, List.getElem?_replicate, if_pos (by omega)]; rfl
    · rw [if_neg h1]
      by_cases h2 : j < 8 * (n + 1)
      · rw [if_pos (by omega), if_pos h2]; rfl
      · rw [if_neg (by omega), if_neg h2, if_pos (by omega), List.getElem?_replicate, if_neg (by omega)]; rfl
  rw [← hD1] at tok
  have hlen := tok.len
  have hn1 : nz D1.have_ = D1.have_.length := (nz_all D1.have_).2 (fun j hj h0 => by
    have h2 := cov_none.2 h0
    rw [c1 j] at h2
    by_cases h3 : j < 8 * n
    · rw [if_pos h3] at h2; cases h2
    · rw [if_neg h3, if_pos (by omega)] at h2; cases h2)
  have hwh : wholeB D1 = true := by
    unfold wholeB
    rw [tok.count, hn1, hlen, s1, l1]
    simp
    omega
  have hbody : (packD D1).body = D1.bytes := by
    unfold packD
    dsimp only
    rw [l1, List.take_of_length_le (by omega)]
  have hq : bErr (packD D1) = 0 := by
    refine bErr_may ?_ ?_ ?_ ?_ ?_ ?_ ?_
    · show areaB D1.opts = true
      rw [o1]; exact area_nil
    · show 0 ≤ D1.h.off
      rw [h1, hpo]; omega
    · show D1.h.off ≤ 65528
      rw [h1, hpo]; omega
    · show D1.h.off % 8 = 0
      rw [h1, hpo]; rfl
    · show D1.h.off + ((packD D1).body.length : Int) ≤ 65535
      rw [h1, hpo, hbody, s1]; omega
    · show (20 + (D1.opts.length : Int) + ((packD D1).body.length : Int)) ≤ 65535
      rw [o1, hbody, s1]; simp; omega
    · intro hm; simp [packD] at hm
  rcases hA with ⟨h, _⟩ | ⟨_, h, _⟩ | ⟨_, _, hA⟩
  · exact absurd hpe h
  · exact absurd h hnz
  rw [hk, hD, ← hD1] at hA
  have hget : ∀ (j : Nat) (v : Int), cov D1 j = some v → (packD D1).body[j]? = some v := by
    intro j v hv
    obtain ⟨h1, h2⟩ := cov_some hv
    rw [hbody, ← h1, List.getD_eq_getElem?_getD, List.getElem?_eq_getElem (by omega)]
    rfl
  rcases hA with ⟨h, _⟩ | ⟨_, _, h, _⟩ | ⟨_, _, _, h1, h2, h3⟩ | ⟨_, h, _⟩
  · rw [hcl] at h; cases h
  · exact absurd hq h
  · rw [h2]
    exact ⟨h1, h3, by rw [hbody, s1], hget 0 6 (by rw [c1, if_pos (by omega)]), hget (8 * n) 8 (by rw [c1, if_neg (by omega), if_pos (by omega)])⟩
  · rw [hwh] at h; cases h
end Go.Proofs.Ytelfemhnijnhfaa.Fr

/- The walk of FragRefuses; no condition. -/
namespace Go.Proofs.Ytelfemhnijnhfaa.Fr
open Go.RowKit Go.Maps
set_option linter.unusedVariables false
set_option linter.unusedSimpArgs false
set_option maxRecDepth 100000
attribute [local go_sem] nilB

structure RSt (w wr : World) (a : Nat) (S : List Nat) (st : ASt) : Prop where
  asm : AsmAt wr a S st
  new : ∀ k ∈ S, w.heap.size ≤ k
  touch : Touch [] w wr
theorem RSt.near {w wr wr' : World} {a : Nat} {S : List Nat} {st : ASt} (F : RSt w wr a S st) (t : Touch [] wr wr') : RSt w wr' a S st := ⟨F.asm.near t, F.new, F.touch.trans t (by simp)⟩
theorem RSt.add {w wr w' : World} {a : Nat} {S S' : List Nat} {st st' : ASt} (F : RSt w wr a S st) (hA : AsmAt w' a S' st') (t : Touch S wr w') (hs : ∀ k ∈ S', k ∈ S ∨ wr.heap.size ≤ k) : RSt w w' a S' st' :=
  ⟨hA, fun k hk => by
    rcases hs k hk with h | h
    · exact F.new k h
    · exact Nat.le_trans F.touch.size h, F.touch.trans t (fun x hx => .inr (F.new x hx))⟩
theorem stays_out {wr : World} {S S' : List Nat} {b : Nat} (h : b ∉ S) (hb : b < wr.heap.size) (hs : ∀ k ∈ S', k ∈ S ∨ wr.heap.size ≤ k) : b ∉ S' := fun hm => by
  rcases hs b hm with h1 | h1
  · exact h h1
  · omega
theorem AsmAt.noTy {w : World} {a : Nat} {S : List Nat} {st : ASt} (h : AsmAt w a S st) {T : TypeId} (h1 : T ≠ 107) (h2 : T ≠ 144) (h3 : T ≠ 149) {b : Nat} {c : Array Value} (hb : w.heap[b]? = some (.cells c T (0, 0))) : b ∉ S := by
  obtain ⟨hb', kb, tb, TS, s, fh, fk, rfl, h⟩ := h
  intro hm
  simp only [List.mem_cons] at hm
  rcases hm with rfl | rfl | rfl | hm
  · rw [h.blk] at hb
    simp only [Option.some.injEq, Obj.cells.injEq] at hb
    exact h1 hb.2.1.symm
  · obtain ⟨es, cl, hm⟩ := h.held.isMap
    rw [hb] at hm; cases hm
  · obtain ⟨es, cl, hm⟩ := h.keys.isMap
    rw [hb] at hm; cases hm
  · obtain ⟨⟨V, mb, ht, rfl⟩, _⟩ := h.tim
    simp only [Tm.foot, List.mem_cons, Option.mem_toList] at hm
    rcases hm with rfl | rfl | hm
    · rw [ht.blk] at hb
      simp only [Option.some.injEq, Obj.cells.injEq] at hb
      exact h2 hb.2.1.symm
    · obtain ⟨es, cl, hm⟩ := ht.map.isMap
      rw [hb] at hm; cases hm
    · rcases ht.row.2 with ⟨rfl, _⟩ | ⟨g', cap, cur, rfl, _, hh, _⟩
      · cases hm
      · simp only [Value.ownBlock, Option.some.injEq] at hm
        subst hm
        rw [hh] at hb
        simp only [Option.some.injEq, Obj.cells.injEq] at hb
        exact h3 hb.2.1.symm
abbrev HoV (w : World) (A : Option Addr) (c : Nat) : Prop := VRow w 69 6 (.slice A 1 c) 1 (hoC ⟨1, 2, 17, 1⟩ 8 4).toList
theorem HoV.asm {w w' : World} {A : Option Addr} {c a : Nat} {S : List Nat} {st : ASt} (h : HoV w A c) (hA : AsmAt w a S st) (t : Touch S w w') : HoV w' A c :=
  VRow.kept h t (fun k hk => by
    obtain ⟨cc, hc⟩ := VRow.blk h k hk
    exact hA.noTy (by decide) (by decide) (by decide) hc)
theorem info44 : (Try.prog.info? 71).map (·.size) = some 44 := by kernel_rfl
def pkL (h : Hd) (V : Value) : List Value := (pkC h (.slice none 0 0) V).toList
theorem one_pk (h : Hd) (A : Option Addr) (n c : Nat) : ∀ v ∈ pkL h (.slice A n c), v.oneCell' = true := by
  intro v hv
  simp only [pkL, pkC, List.mem_cons, List.not_mem_nil, or_false] at hv
  rcases hv with rfl | rfl | rfl | rfl | rfl | rfl | rfl | rfl | rfl | rfl | rfl <;> rfl
theorem one44 (h0 h1 h2 h3 : Hd) (A0 A1 A2 A3 : Option Addr) (n0 n1 n2 n3 c0 c1 c2 c3 : Nat) :
    ((⟨pkL h0 (.slice A0 n0 c0) ++ pkL h1 (.slice A1 n1 c1) ++ pkL h2 (.slice A2 n2 c2) ++ pkL h3 (.slice A3 n3 c3)⟩ : Array Value)).all (·.oneCell') = true := by
  refine Array.all_eq_true_iff_forall_mem.2 (fun v hv => ?_)
  simp only [Array.mem_def, List.mem_append] at hv
  rcases hv with ((hv | hv) | hv) | hv
  · exact one_pk _ _ _ _ v hv
  · exact one_pk _ _ _ _ v hv
  · exact one_pk _ _ _ _ v hv
  · exact one_pk _ _ _ _ v hv
theorem cat4 {L0 L1 L2 L3 : List Value} (h0 : L0.length = 11) (h1 : L1.length = 11) (h2 : L2.length = 11) (j : Nat) (hj : j < 11) :
    (L0 ++ L1 ++ L2 ++ L3)[0 * 11 + j]? = L0[j]? ∧ (L0 ++ L1 ++ L2 ++ L3)[1 * 11 + j]? = L1[j]? ∧ (L0 ++ L1 ++ L2 ++ L3)[2 * 11 + j]? = L2[j]? ∧ (L0 ++ L1 ++ L2 ++ L3)[3 * 11 + j]? = L3[j]? := by
  refine ⟨?_, ?_, ?_, ?_⟩
  · rw [List.getElem?_append_left (by simp; omega), List.getElem?_append_left (by simp; omega), List.getElem?_append_left (by omega)]
    simp
  · rw [List.getElem?_append_left (by simp; omega), List.getElem?_append_left (by simp; omega), List.getElem?_append_right (by omega)]
    congr 1; omega
  · rw [List.getElem?_append_left (by simp; omega), List.getElem?_append_right (by simp; omega)]
    congr 1; simp; omega
  · rw [List.getElem?_append_right (by simp; omega)]
    congr 1; simp; omega
structure Bad1 (wr : World) (b12 n i : Nat) (ttl off : Int) (nn : Nat) (mf : Bool) (X : Option Addr) (k : Nat) : Prop where
  o0 : 0 ≤ off
  o9 : off ≤ 3000
  n1 : 1 ≤ nn
  n9 : nn ≤ 1001
  cl : (n : Int) + 1 < off + nn ∨ (mf = false ∧ off + nn ≠ (n : Int) + 1)
  off1 : 1 ≤ off ∨ (i = 3 ∧ n = 1)
  own : OwB wr (.slice X (8 * nn) k) (List.replicate (8 * nn) 1)
  cell : ∀ j v, (pkL ⟨0, 1, false, mf, 8 * off, ttl, 17, 1, 2⟩ (.slice X (8 * nn) k))[j]? = some v → wr.cell? ⟨b12, i * 11 + j, none⟩ = some v
def BadAt (wr : World) (b12 n : Nat) (ttl : Int) : Prop := ∀ i, i < 4 → ∃ off nn mf X k, Bad1 wr b12 n i ttl off nn mf X k
theorem BadAt.kept {wr wr' : World} {b12 n : Nat} {ttl : Int} (h : BadAt wr b12 n ttl) {S : List Nat} (t : Touch S wr wr') (hb : b12 ∉ S) (hk : ∀ k ∈ S, Kind wr k) : BadAt wr' b12 n ttl := fun i hi => by
  obtain ⟨off, nn, mf, X, k, B⟩ := h i hi
  exact ⟨off, nn, mf, X, k, B.o0, B.o9, B.n1, B.n9, B.cl, B.off1, B.own.kind t hk, fun j v hv => cell_touch t (B.cell j v hv) hb⟩
theorem clash_bad {D : Dg} {n nn : Nat} {id off c t : Int} {mf : Bool} (h : D.length = 8 * ((n : Int) + 1)) (cl : (n : Int) + 1 < off + nn ∨ (mf = false ∧ off + nn ≠ (n : Int) + 1)) : clashB D (pieceP id off nn c mf t) = true := by
  have e : endI (pieceP id off nn c mf t) = 8 * (off + nn) := by unfold endI; simp [pieceP]; omega
  unfold clashB
  rw [h, e, if_pos (by omega)]
  rcases cl with h1 | ⟨rfl, h2⟩
  · rw [decide_eq_true (by omega)]; rfl
  · have e2 : (8 * (off + (nn : Int)) != 8 * ((n : Int) + 1)) = true := by rw [bne_iff_ne]; omega
    rw [e2]; simp [pieceP]
theorem newD_len {st : ASt} {p : Pk} {i : Int} (hg : st.g (keyP p) = none) : (newD st p i).length = (takenD freshD p).length ∧ (newD st p i).far = (takenD freshD p).far := by
  have h : oldD st (keyP p) = freshD := by unfold oldD; rw [hg]
  unfold newD
  rw [h]
  exact ⟨rfl, rfl⟩
theorem clash_open {D : Dg} {m nn : Nat} {id off c t : Int} (h : D.length = -1) (hf : D.far = 8 * (off + m)) (hm : nn < m) : clashB D (pieceP id off nn c false t) = true := by
  have e : endI (pieceP id off nn c false t) = 8 * (off + nn) := by unfold endI; simp [pieceP]; omega
  unfold clashB
  rw [h, e, hf, if_neg (by omega)]
  rw [decide_eq_true (by omega)]; rfl
set_option maxHeartbeats 8000000 in
theorem refuses_calls (w : World) (n0 ov0 : Int) (hb1 : -9223372036854775808 ≤ n0) (hb2 : n0 ≤ 9223372036854775807) (hb3 : -9223372036854775808 ≤ ov0) (hb4 : ov0 ≤ 9223372036854775807) (ttl : Int) (ht : 0 ≤ ttl ∧ ttl < 256) :
    Calls Try.prog 8 #[.int .i64 n0, .int .i64 ov0, .int .u8 ttl] w fun e w' => e = .returned (.bool true) ∧ Touch [] w w' := by
  obtain ⟨t0, t1⟩ := ht
  go_enter Try.func8, Try.ntmps8
  obtain ⟨bn, hbn⟩ : ∃ bn : Bool, bn = (decide (n0 < 1) || decide (1000 < n0)) := ⟨_, rfl⟩
  have HBN := Lib.hid hbn
  clear hbn
  go_upto_region 1 with (fail)
  go_cut [23] from 18 to 23 (fun v wq => v = .bool bn ∧ Hid (wq = w))
  case first =>
    by_cases c1 : n0 < 1
    · have e0 : Hid (bn = true) := Lib.hid (by rw [HBN.out, decide_eq_true c1]; rfl)
      go_wp2
      go_meet
      case rel => exact ⟨by rw [e0.out], Lib.hid rfl⟩
    · by_cases c2 : 1000 < n0
      · have e0 : Hid (bn = true) := Lib.hid (by rw [HBN.out, decide_eq_true c2]; simp)
        go_wp2
        go_meet
        case rel => exact ⟨by rw [e0.out], Lib.hid rfl⟩
      · have e0 : Hid (bn = false) := Lib.hid (by rw [HBN.out, decide_eq_false c1, decide_eq_false c2]; rfl)
        go_wp2
        go_meet
        case rel => exact ⟨by rw [e0.out], Lib.hid rfl⟩
  case rest =>
  obtain ⟨rfl, hwq⟩ := hcut
  rw [hwq.out]
  clear hwq
  go_upto_if 23 with (fail)
  go_cut [0] from 18 to 23 (fun v wq => ∃ n : Nat, v = .int .i64 n ∧ 1 ≤ n ∧ n ≤ 1000 ∧ Hid (wq = w))
  case first =>
    cases hc : bn
    · have e1 : 1 ≤ n0 ∧ n0 ≤ 1000 := by
        have h1 := HBN.out
        rw [hc] at h1
        have h2 := h1.symm
        rw [Bool.or_eq_false_iff, decide_eq_false_iff_not, decide_eq_false_iff_not] at h2
        omega
      have E1 := Lib.hid e1
      clear e1 hc
      go_wp2
      go_meet
      case rel => exact ⟨n0.toNat, by have := E1.out; go_num, by have := E1.out; omega, by have := E1.out; omega, Lib.hid rfl⟩
    · clear hc
      go_wp2
      go_meet
      case rel => exact ⟨5, rfl, by omega, by omega, Lib.hid rfl⟩
  case rest =>
  obtain ⟨n, rfl, hn1, hn9, hwq⟩ := hcut
  rw [hwq.out]
  clear hwq HBN hb1 hb2
  obtain ⟨bo, hbo⟩ : ∃ bo : Bool, bo = (decide (ov0 < 1) || decide (1000 < ov0)) := ⟨_, rfl⟩
  have HBO := Lib.hid hbo
  clear hbo
  go_upto_region 3 with (fail)
  go_cut [29] from 24 to 29 (fun v wq => v = .bool bo ∧ Hid (wq = w))
  case first =>
    by_cases c1 : ov0 < 1
    · have e0 : Hid (bo = true) := Lib.hid (by rw [HBO.out, decide_eq_true c1]; rfl)
      go_wp2
      go_meet
      case rel => exact ⟨by rw [e0.out], Lib.hid rfl⟩
    · by_cases c2 : 1000 < ov0
      · have e0 : Hid (bo = true) := Lib.hid (by rw [HBO.out, decide_eq_true c2]; simp)
        go_wp2
        go_meet
        case rel => exact ⟨by rw [e0.out], Lib.hid rfl⟩
      · have e0 : Hid (bo = false) := Lib.hid (by rw [HBO.out, decide_eq_false c1, decide_eq_false c2]; rfl)
        go_wp2
        go_meet
        case rel => exact ⟨by rw [e0.out], Lib.hid rfl⟩
  case rest =>
  obtain ⟨rfl, hwq⟩ := hcut
  rw [hwq.out]
  clear hwq
  go_upto_if 29 with (fail)
  go_cut [1] from 24 to 29 (fun v wq => ∃ ov : Nat, v = .int .i64 ov ∧ 1 ≤ ov ∧ ov ≤ 1000 ∧ Hid (wq = w))
  case first =>
    cases hc : bo
    · have e1 : 1 ≤ ov0 ∧ ov0 ≤ 1000 := by
        have h1 := HBO.out
        rw [hc] at h1
        have h2 := h1.symm
        rw [Bool.or_eq_false_iff, decide_eq_false_iff_not, decide_eq_false_iff_not] at h2
        omega
      have E1 := Lib.hid e1
      clear e1 hc
      go_wp2
      go_meet
      case rel => exact ⟨ov0.toNat, by have := E1.out; go_num, by have := E1.out; omega, by have := E1.out; omega, Lib.hid rfl⟩
    · clear hc
      go_wp2
      go_meet
      case rel => exact ⟨3, rfl, by omega, by omega, Lib.hid rfl⟩
  case rest =>
  obtain ⟨ov, rfl, ho1, ho9, hwq⟩ := hcut
  rw [hwq.out]
  clear hwq HBO hb3 hb4
  go_wp2_with fail
  refine (fnew_calls _ 1 10 (by omega) (by omega) (by omega) (by omega)).mono ?_
  rintro e w1 ⟨a, S, rfl, hA, t1', hS⟩
  have F1 : Hid (RSt w w1 a S st1) := Lib.hid ⟨hA, hS, t1'⟩
  clear hA t1' hS
  go_wp2_with fail
  refine (mk_calls _ 1 n 1 8 false 4 (by omega) (by omega) (by omega) (by omega)).mono ?_
  rintro e w2 ⟨V2, rfl, o2, f2, t2⟩
  have F2 := Lib.hid (F1.out.near t2)
  have O2 := Lib.hid o2
  clear o2 f2 t2 F1
  go_wp2_with fail
  refine (add_calls (p := pieceP 1 n 1 8 false 4) F2.out.asm st1_ok (fun w' t => ⟨(OwB.nil w').rdb, (O2.out.kind t F2.out.asm.kinds).rdb⟩) (by simp [pieceP]) (by simp [pieceP]) (mk_wf (by omega) (by omega) (by omega) (by omega)) (.inr (by simp [st1])) (by simp [st1])).mono ?_
  rintro e w3 ⟨q, r, st2, S2, ⟨VQ, VQ', rfl, oq, oq', _, _⟩, hA3, t3, hs3, hR3⟩
  obtain ⟨rfl, d2, i2, hst2, K2ok, K2n, K2old, K2tok, K2cnt, K2len, K2far, K2bl, K2first, K2opts, K2cov⟩ := only_open st1_ok (by simp [st1]) (by omega) (by omega) (by omega) (by omega) (by omega) rfl hR3
  obtain ⟨AQ, cQ, rfl⟩ := oq.row.form
  obtain ⟨AQ', cQ', rfl⟩ := oq'.row.form
  have F3 := Lib.hid (F2.out.add hA3 t3 hs3)
  have HG2 : Hid (∀ (K : K4) (x : Nat × Dg), st2.g K = some x → K = Kid 1 ∧ x.2.count = 8 ∧ x.2.until_ = 4) := Lib.hid (fun K x hx => by
    rw [hst2] at hx
    by_cases e : K = Kid 1
    · subst e
      have hx' : updK st1.g (keyP (pieceP 1 n 1 8 false 4)) (some (d2, newD st1 (pieceP 1 n 1 8 false 4) i2)) (Kid 1) = some x := hx
      rw [show keyP (pieceP 1 n 1 8 false 4) = Kid 1 from rfl, updK_same] at hx'
      cases hx'
      refine ⟨rfl, ?_, ?_⟩
      · show (takenD freshD (pieceP 1 n 1 8 false 4)).count = 8
        rw [K2cnt]; rfl
      · rfl
    · have hx' : updK st1.g (keyP (pieceP 1 n 1 8 false 4)) (some (d2, newD st1 (pieceP 1 n 1 8 false 4) i2)) K = some x := hx
      rw [show keyP (pieceP 1 n 1 8 false 4) = Kid 1 from rfl, updK_other _ e] at hx'
      cases hx')
  have N2 : Hid (st2.n = 1) := Lib.hid (by rw [K2n]; rfl)
  have OK2 := Lib.hid K2ok
  have OLD2 : Hid ((oldD st2 (Kid 1)).length = 8 * ((n : Int) + 1) ∧ ((oldD st2 (Kid 1)).bytes.length : Int) = 8 * ((n : Int) + 1) ∧ (oldD st2 (Kid 1)).first = false ∧ ∀ j : Nat, cov (oldD st2 (Kid 1)) j = if 8 * (n : Int) ≤ j ∧ (j : Int) < 8 * ((n : Int) + 1) then some 8 else none) := Lib.hid (by
    rw [K2old]
    refine ⟨?_, ?_, K2first, fun j => ?_⟩
    · exact K2len
    · exact K2bl
    · exact K2cov j)
  have HS2 : Hid ((st2.g (Kid 1)).isSome = true) := Lib.hid (by rw [hst2]; show (updK st1.g (Kid 1) _ (Kid 1)).isSome = true; rw [updK_same]; rfl)
  have HR2 : Hid (st2.room = 1) := Lib.hid (by rw [hst2]; rfl)
  have BG2 : Hid (st2.began ≤ 1) := Lib.hid (by rw [hst2]; simp [kept, st1])
  clear oq oq' hA3 t3 hs3 hR3 hst2 K2ok K2n K2old K2tok K2cnt K2len K2far K2bl K2first K2opts K2cov F2 O2
  obtain ⟨⟨qt, qi, qd, qm, qf, ql, qp, qs, qe⟩, qo, qb⟩ := q
  go_upto_region 9 with (fail)
  obtain ⟨W4, hW4⟩ : ∃ W : World, W = w3.alloc (.cells (pkC ⟨qt, qi, qd, qm, qf, ql, qp, qs, qe⟩ (.slice AQ qo.length cQ) (.slice AQ' qb.length cQ')) 30) := ⟨_, rfl⟩
  rw [← hW4]
  have F4 : Hid (RSt w W4 a S2 st2) := Lib.hid (F3.out.near (by rw [hW4]; exact (Touch.refl [] w3).alloc _))
  obtain ⟨b8, hb8⟩ : ∃ b8, b8 = w3.heap.size := ⟨_, rfl⟩
  rw [← hb8]
  clear hb8 hW4 F3
  go_wp2_with fail
  refine (held_calls F4.out.asm (by have := N2.out; omega)).mono ?_
  rintro e w5 ⟨t5, hp⟩
  rcases hp with ⟨h0, _⟩ | ⟨_, K, x, A5, c5, hKw, hgx, rfl, hv⟩
  · exact absurd h0 (by rw [N2.out]; decide)
  obtain ⟨rfl, hc8, hu4⟩ := HG2.out K x hgx
  rw [hc8, hu4] at hv
  have V5 : Hid (HoV w5 A5 c5) := Lib.hid hv
  have F5 := Lib.hid (F4.out.near t5)
  clear t5 hKw hgx hc8 hu4 hv F4
  have E1 : Hid ((1 : Int) + (ov : Int) = ((1 + ov : Nat) : Int)) := Lib.hid (by omega)
  go_wp2_with fail
  refine (mk_calls _ 1 ((n : Int) + (ov : Int)) 1 1 false ttl (by omega) (by omega) (by omega) (by omega)).mono ?_
  rintro e w6 ⟨B0, rfl, o0, _, t6⟩
  have O0 := Lib.hid o0
  obtain ⟨X0, k0, rfl⟩ := O0.out.row.form
  have V6 := Lib.hid (VRow.kept V5.out t6 (by simp))
  have F6 := Lib.hid (F5.out.near t6)
  clear o0 t6 V5 F5
  go_wp2_with fail
  rw [E1.out]
  refine (mk_calls _ 1 (n : Int) (1 + ov) 1 true ttl (by omega) (by omega) (by omega) (by omega)).mono ?_
  rintro e w7 ⟨B1, rfl, o1, _, t7⟩
  have O1 := Lib.hid o1
  obtain ⟨X1, k1, rfl⟩ := O1.out.row.form
  have O0' := Lib.hid (O0.out.near t7)
  have V7 := Lib.hid (VRow.kept V6.out t7 (by simp))
  have F7 := Lib.hid (F6.out.near t7)
  clear o1 t7 V6 F6 O0
  go_wp2_with fail
  refine (mk_calls _ 1 ((n : Int) + 1 + (ov : Int)) 1 1 true ttl (by omega) (by omega) (by omega) (by omega)).mono ?_
  rintro e w8 ⟨B2, rfl, o2, _, t8⟩
  have O2 := Lib.hid o2
  obtain ⟨X2, k2, rfl⟩ := O2.out.row.form
  have O0 := Lib.hid (O0'.out.near t8)
  have O1' := Lib.hid (O1.out.near t8)
  have V8 := Lib.hid (VRow.kept V7.out t8 (by simp))
  have F8 := Lib.hid (F7.out.near t8)
  clear o2 t8 V7 F7 O0' O1
  go_wp2_with fail
  refine (mk_calls _ 1 ((n : Int) - 1) 1 1 false ttl (by omega) (by omega) (by omega) (by omega)).mono ?_
  rintro e w9 ⟨B3, rfl, o3, _, t9⟩
  have O3 := Lib.hid o3
  obtain ⟨X3, k3, rfl⟩ := O3.out.row.form
  have O0' := Lib.hid (O0.out.near t9)
  have O1 := Lib.hid (O1'.out.near t9)
  have O2' := Lib.hid (O2.out.near t9)
  have V9 := Lib.hid (VRow.kept V8.out t9 (by simp))
  have F9 := Lib.hid (F8.out.near t9)
  clear o3 t9 V8 F8 O0 O1' O2
  obtain ⟨Q0, hQ0⟩ : ∃ Q0, Q0 = (pieceP 1 ((n : Int) + (ov : Int)) 1 1 false ttl) := ⟨_, rfl⟩
  obtain ⟨Q1, hQ1⟩ : ∃ Q1, Q1 = (pieceP 1 (n : Int) (1 + ov) 1 true ttl) := ⟨_, rfl⟩
  obtain ⟨Q2, hQ2⟩ : ∃ Q2, Q2 = (pieceP 1 ((n : Int) + 1 + (ov : Int)) 1 1 true ttl) := ⟨_, rfl⟩
  obtain ⟨Q3, hQ3⟩ : ∃ Q3, Q3 = (pieceP 1 ((n : Int) - 1) 1 1 false ttl) := ⟨_, rfl⟩
  rw [← hQ0] at O0' ⊢
  rw [← hQ1] at O1 ⊢
  rw [← hQ2] at O2' ⊢
  rw [← hQ3] at O3 ⊢
  have HQ0 := Lib.hid hQ0
  have HQ1 := Lib.hid hQ1
  have HQ2 := Lib.hid hQ2
  have HQ3 := Lib.hid hQ3
  clear hQ0 hQ1 hQ2 hQ3
  go_upto_region 11 with (refine wpList_store_row (by rfl) 71 (.tmp 12) (.tmp 69) (by rfl) w9.heap.size ⟨pkL Q0.h (.slice X0 Q0.body.length k0) ++ pkL Q1.h (.slice X1 Q1.body.length k1) ++ pkL Q2.h (.slice X2 Q2.body.length k2) ++ pkL Q3.h (.slice X3 Q3.body.length k3)⟩ (by rfl) (by rfl) 71 _ (box_at _ _) info44 (by rfl) (one44 _ _ _ _ _ _ _ _ _ _ _ _ _ _ _ _) ?_; rw [World.setRow_alloc_new])
  obtain ⟨W10, hW10⟩ : ∃ W : World, W = w9.alloc (.cells ⟨pkL Q0.h (.slice X0 Q0.body.length k0) ++ pkL Q1.h (.slice X1 Q1.body.length k1) ++ pkL Q2.h (.slice X2 Q2.body.length k2) ++ pkL Q3.h (.slice X3 Q3.body.length k3)⟩ 71) := ⟨_, rfl⟩
  rw [← hW10]
  have t10 : Touch [] w9 W10 := by rw [hW10]; exact (Touch.refl [] w9).alloc _
  obtain ⟨b12, hb12⟩ : ∃ b12, b12 = w9.heap.size := ⟨_, rfl⟩
  have Z10 : Hid (W10.heap[b12]? = some (.cells ⟨pkL Q0.h (.slice X0 Q0.body.length k0) ++ pkL Q1.h (.slice X1 Q1.body.length k1) ++ pkL Q2.h (.slice X2 Q2.body.length k2) ++ pkL Q3.h (.slice X3 Q3.body.length k3)⟩ 71 (0, 0))) := Lib.hid (by rw [hW10, hb12]; exact box_at _ _)
  have F10 := Lib.hid (F9.out.near t10)
  have V10 := Lib.hid (VRow.kept V9.out t10 (by simp))
  have BAD : Hid (BadAt W10 b12 n ttl) := Lib.hid (fun i hi => by
    have hcell : ∀ (j : Nat) (v : Value) (i : Nat), (pkL Q0.h (.slice X0 Q0.body.length k0) ++ pkL Q1.h (.slice X1 Q1.body.length k1) ++ pkL Q2.h (.slice X2 Q2.body.length k2) ++ pkL Q3.h (.slice X3 Q3.body.length k3))[i * 11 + j]? = some v → W10.cell? ⟨b12, i * 11 + j, none⟩ = some v := by
      intro j v i hv
      simp only [World.cell?, Z10.out]
      simpa using hv
    have hj : ∀ (h : Hd) (V : Value) (j : Nat) (v : Value), (pkL h V)[j]? = some v → j < 11 := fun h V j v hv => (List.getElem?_eq_some_iff.1 hv).1
    have q0 := HQ0.out
    have q1 := HQ1.out
    have q2 := HQ2.out
    have q3 := HQ3.out
    have hc := fun j hj => cat4 (L0 := pkL Q0.h (.slice X0 Q0.body.length k0)) (L1 := pkL Q1.h (.slice X1 Q1.body.length k1)) (L2 := pkL Q2.h (.slice X2 Q2.body.length k2)) (L3 := pkL Q3.h (.slice X3 Q3.body.length k3)) rfl rfl rfl j hj
    have hi4 : i = 0 ∨ i = 1 ∨ i = 2 ∨ i = 3 := by omega
    have l0 : Q0.body.length = 8 * 1 := by rw [q0]; exact List.length_replicate ..
    have l1 : Q1.body.length = 8 * (1 + ov) := by rw [q1]; exact List.length_replicate ..
    have l2 : Q2.body.length = 8 * 1 := by rw [q2]; exact List.length_replicate ..
    have l3 : Q3.body.length = 8 * 1 := by rw [q3]; exact List.length_replicate ..
    rcases hi4 with rfl | rfl | rfl | rfl
    · refine ⟨(n : Int) + ov, 1, false, X0, k0, by omega, by omega, by omega, by omega, .inl (by omega), .inl (by omega), ?_, fun j v hv => hcell j v 0 ?_⟩
      · have := O0'.out.near t10; rw [l0, q0] at this; exact this
      · rw [(hc j (hj _ _ j v hv)).1, l0, q0]; exact hv
    · refine ⟨(n : Int), 1 + ov, true, X1, k1, by omega, by omega, by omega, by omega, .inl (by omega), .inl (by omega), ?_, fun j v hv => hcell j v 1 ?_⟩
      · have := O1.out.near t10; rw [l1, q1] at this; exact this
      · rw [(hc j (hj _ _ j v hv)).2.1, l1, q1]; exact hv
    · refine ⟨(n : Int) + 1 + ov, 1, true, X2, k2, by omega, by omega, by omega, by omega, .inl (by omega), .inl (by omega), ?_, fun j v hv => hcell j v 2 ?_⟩
      · have := O2'.out.near t10; rw [l2, q2] at this; exact this
      · rw [(hc j (hj _ _ j v hv)).2.2.1, l2, q2]; exact hv
    · refine ⟨(n : Int) - 1, 1, false, X3, k3, by omega, by omega, by omega, by omega, .inr ⟨rfl, by omega⟩, ?_, ?_, fun j v hv => hcell j v 3 ?_⟩
      · by_cases h1 : n = 1
        · exact .inr ⟨rfl, h1⟩
        · exact .inl (by omega)
      · have := O3.out.near t10; rw [l3, q3] at this; exact this
      · rw [(hc j (hj _ _ j v hv)).2.2.2, l3, q3]; exact hv)
  have NB : Hid (∃ cc, W10.heap[b12]? = some (.cells cc 71 (0, 0))) := Lib.hid ⟨_, Z10.out⟩
  rw [← hb12]
  clear hb12 hW10 t10 Z10 F9 V9 O0' O1 O2' O3 HQ0 HQ1 HQ2 HQ3
  go_wp2_with fail
  go_loopg [13] 4 (fun kq v13 wr => ∃ (i : Nat) (S : List Nat), v13 = .int .i64 i ∧ i ≤ 4 ∧ 4 - i ≤ kq ∧ Hid (RSt w wr a S st2) ∧ Hid (HoV wr A5 c5) ∧ Hid (BadAt wr b12 n ttl) ∧ Hid (∃ cc, wr.heap[b12]? = some (.cells cc 71 (0, 0))))
  case atStart => exact ⟨0, S2, rfl, by omega, by omega, F10, V10, BAD, NB⟩
  case round =>
    obtain ⟨i, S, rfl, hi, hik, hF, hV, hB, hN⟩ := hrel
    by_cases hil : i < 4
    · have li : (i : Int) < 4 := by omega
      obtain ⟨sk, hsk⟩ : ∃ sk : Bool, sk = (decide (i = 3) && decide (n = 1)) := ⟨_, rfl⟩
      have HSK := Lib.hid hsk
      clear hsk
      go_upto_region 14 with (fail)
      go_cut [79] from 70 to 96 (fun v wq => v = .bool sk ∧ Hid (wq = wr))
      case first =>
        by_cases c1 : i = 3
        · by_cases c2 : n = 1
          · have e0 : Hid (sk = true) := Lib.hid (by rw [HSK.out, decide_eq_true c1, decide_eq_true c2]; rfl)
            subst c1 c2
            go_wp2
            go_meet
            case rel => exact ⟨by rw [e0.out], Lib.hid rfl⟩
          · have e0 : Hid (sk = false) := Lib.hid (by rw [HSK.out, decide_eq_false c2]; simp)
            have g2 : ((n : Int) == 1) = false := by rw [beq_eq_false_iff_ne]; omega
            subst c1
            clear c2
            go_wp2
            go_meet
            case rel => exact ⟨by rw [e0.out], Lib.hid rfl⟩
        · have e0 : Hid (sk = false) := Lib.hid (by rw [HSK.out, decide_eq_false c1]; rfl)
          have g1 : ((i : Int) == 3) = false := by rw [beq_eq_false_iff_ne]; omega
          clear c1
          go_wp2
          go_meet
          case rel => exact ⟨by rw [e0.out], Lib.hid rfl⟩
      case rest =>
      obtain ⟨rfl, hwq⟩ := hcut
      rw [hwq.out]
      clear hwq
      cases hs : sk
      · obtain ⟨off, nn, mf, X, k, B⟩ := hB.out i hil
        have HO1 : Hid (1 ≤ off) := Lib.hid (by
          rcases B.off1 with h | ⟨h1, h2⟩
          · exact h
          · have h3 := HSK.out
            rw [hs, decide_eq_true h1, decide_eq_true h2] at h3
            cases h3)
        have HBB := Lib.hid B
        have k0 := B.cell 0 _ rfl
        have k1 := B.cell 1 _ rfl
        have k2 := B.cell 2 _ rfl
        have k3 := B.cell 3 _ rfl
        have k4 := B.cell 4 _ rfl
        have k5 := B.cell 5 _ rfl
        have k6 := B.cell 6 _ rfl
        have k7 := B.cell 7 _ rfl
        have k8 := B.cell 8 _ rfl
        have k9 := B.cell 9 _ rfl
        have k10 := B.cell 10 _ rfl
        dsimp only [Nat.add_zero] at k0
        clear B hs
        have MW : Hid ((pieceP 1 off nn 1 mf ttl).h.wf) := Lib.hid (mk_wf (by omega) (by have := HBB.out.o0; omega) (by have := HBB.out.o9; omega) ⟨t0, t1⟩)
        have MM : Hid (bErr (pieceP 1 off nn 1 mf ttl) = 0) := Lib.hid (mk_may (by have := HBB.out.o0; omega) (by have := HBB.out.o9; have := HBB.out.n9; omega) HBB.out.n1)
        have CL : Hid (clashB (oldD st2 (keyP (pieceP 1 off nn 1 mf ttl))) (pieceP 1 off nn 1 mf ttl) = true) := Lib.hid (clash_bad OLD2.out.1 HBB.out.cl)
        have NZ : Hid (¬ ((pieceP 1 off nn 1 mf ttl).h.off = 0 ∧ (pieceP 1 off nn 1 mf ttl).h.mf = false)) := Lib.hid (fun h => by have h1 : 8 * off = 0 := h.1; have := HO1.out; omega)
        have LB : Hid ((pieceP 1 off nn 1 mf ttl).body.length ≤ 140737488355328) := Lib.hid (by have := HBB.out.n9; simp [pieceP]; omega)
        have BG : Hid (st2.began < 4611686018427387904) := Lib.hid (by have := BG2.out; omega)
        go_wp2_with fail
        refine (add_calls (p := pieceP 1 off nn 1 mf ttl) (VO := .slice none 0 0) (VB := .slice X (8 * nn) k) hF.out.asm OK2.out (fun w' t => ⟨(OwB.nil w').rdb, (HBB.out.own.kind t hF.out.asm.kinds).rdb⟩) (by simp [pieceP]) LB.out MW.out (.inl HS2.out) BG.out).mono ?_
        rintro e w11 ⟨q', r', st', S', ⟨VR, VR', rfl, oR, oR', _, _⟩, hA', t', hs', hR'⟩
        obtain ⟨rfl, hst'⟩ := only_clash MM.out NZ.out CL.out hR'
        rw [hst'] at hA'
        obtain ⟨cc0, hcc0⟩ := hN.out
        have hout := hF.out.asm.noTy (by decide) (by decide) (by decide) hcc0
        obtain ⟨AR, cR, rfl⟩ := oR.row.form
        obtain ⟨AR', cR', rfl⟩ := oR'.row.form
        have F11 := Lib.hid (hF.out.add hA' t' hs')
        have V11 := Lib.hid (hV.out.asm hF.out.asm t')
        have B11 := Lib.hid (hB.out.kept t' hout hF.out.asm.kinds)
        have N11 : Hid (∃ cc, w11.heap[b12]? = some (.cells cc 71 (0, 0))) := Lib.hid ⟨cc0, touch_box t' hcc0 hout⟩
        clear oR oR' hA' t' hs' hR' hst' hcc0 hout k0 k1 k2 k3 k4 k5 k6 k7 k8 k9 k10 MW MM CL NZ LB BG hF hV hB hN HBB HO1
        obtain ⟨⟨qt', qi', qd', qm', qf', ql', qp', qs', qe'⟩, qo', qb'⟩ := q'
        go_upto_region 16 with (fail)
        obtain ⟨W12, hW12⟩ : ∃ W : World, W = w11.alloc (.cells (pkC ⟨qt', qi', qd', qm', qf', ql', qp', qs', qe'⟩ (.slice AR qo'.length cR) (.slice AR' qb'.length cR')) 30) := ⟨_, rfl⟩
        rw [← hW12]
        have t12 : Touch [] w11 W12 := by rw [hW12]; exact (Touch.refl [] w11).alloc _
        have F12 := Lib.hid (F11.out.near t12)
        have V12 := Lib.hid (VRow.kept V11.out t12 (by simp))
        have B12 := Lib.hid (B11.out.kept t12 (by simp) (by simp))
        have N12 : Hid (∃ cc, W12.heap[b12]? = some (.cells cc 71 (0, 0))) := Lib.hid (by obtain ⟨cc, h⟩ := N11.out; exact ⟨cc, touch_box t12 h (by simp)⟩)
        obtain ⟨b14, hb14⟩ : ∃ b14, b14 = w11.heap.size := ⟨_, rfl⟩
        rw [← hb14]
        clear hb14 hW12 t12 F11 V11 B11 N11
        go_wp2_with fail
        refine (held_calls F12.out.asm (by have := N2.out; omega)).mono ?_
        rintro e w13 ⟨t13, hp⟩
        rcases hp with ⟨h0, _⟩ | ⟨_, K, x, A13, c13, hKw, hgx, rfl, hv⟩
        · exact absurd h0 (by rw [N2.out]; decide)
        obtain ⟨rfl, hc8, hu4⟩ := HG2.out K x hgx
        rw [hc8, hu4] at hv
        have E13 : Hid (HoV w13 A13 c13) := Lib.hid hv
        have F13 := Lib.hid (F12.out.near t13)
        have V13 := Lib.hid (VRow.kept V12.out t13 (by simp))
        have B13 := Lib.hid (B12.out.kept t13 (by simp) (by simp))
        have N13 : Hid (∃ cc, w13.heap[b12]? = some (.cells cc 71 (0, 0))) := Lib.hid (by obtain ⟨cc, h⟩ := N12.out; exact ⟨cc, touch_box t13 h (by simp)⟩)
        clear t13 hKw hgx hc8 hu4 hv F12 V12 B12 N12
        go_wp2_with fail
        refine (eqh1_calls E13.out V13.out).mono ?_
        rintro e w14 ⟨rfl, t14⟩
        have F14 := Lib.hid (F13.out.near t14)
        have V14 := Lib.hid (VRow.kept V13.out t14 (by simp))
        have B14 := Lib.hid (B13.out.kept t14 (by simp) (by simp))
        have N14 : Hid (∃ cc, w14.heap[b12]? = some (.cells cc 71 (0, 0))) := Lib.hid (by obtain ⟨cc, h⟩ := N13.out; exact ⟨cc, touch_box t14 h (by simp)⟩)
        clear t14 E13 F13 V13 B13 N13
        go_wp2
        go_roundg (gk - 1)
        case rel => exact ⟨i + 1, S', by go_num, by omega, by omega, F14, V14, B14, N14⟩
        case measure => omega
      · clear hs
        go_wp2
        go_roundg (gk - 1)
        case rel => exact ⟨i + 1, S, by go_num, by omega, by omega, hF, hV, hB, hN⟩
        case measure => omega
    · have hi4 : i = 4 := by omega
      subst hi4
      have V20 := hV
      have F20 := hF
      clear hik hB hN hV hF hil hi
      obtain ⟨gH, cH, eV, _, hx⟩ := V20.out.at_ (by omega)
      simp only [Value.slice.injEq] at eV
      obtain ⟨rfl, -, rfl⟩ := eV
      have x4 := hx 4 _ rfl
      have x5 := hx 5 _ rfl
      clear hx V20
      go_wp2_with fail
      clear x4 x5
      refine (mk_calls _ 1 0 n 6 true 4 (by omega) (by omega) (by omega) (by omega)).mono ?_
      rintro e w21 ⟨V21, rfl, o21, f21, t21⟩
      have O21 := Lib.hid o21
      have F21 := Lib.hid (F20.out.near t21)
      obtain ⟨A21, c21, rfl⟩ := O21.out.row.form
      clear o21 f21 t21 F20
      have LB : Hid ((pieceP 1 0 n 6 true 4).body.length ≤ 140737488355328) := Lib.hid (by simp [pieceP]; omega)
      have BG : Hid (st2.began < 4611686018427387904) := Lib.hid (by have := BG2.out; omega)
      have MW : Hid ((pieceP 1 0 n 6 true 4).h.wf) := Lib.hid (mk_wf (by omega) (by omega) (by omega) (by omega))
      go_wp2_with fail
      refine (add_calls (p := pieceP 1 0 n 6 true 4) F21.out.asm OK2.out (fun w' t => ⟨(OwB.nil w').rdb, (O21.out.kind t F21.out.asm.kinds).rdb⟩) (by simp [pieceP]) LB.out MW.out (.inl HS2.out) BG.out).mono ?_
      rintro e w22 ⟨q', r', st3, S', ⟨VR, VR', rfl, oR, oR', _, _⟩, hA', t', hs', hR'⟩
      obtain ⟨rfl, hst3, qlen, q0, q8⟩ := refuse_whole OK2.out hn1 hn9 rfl OLD2.out.1 OLD2.out.2.1 OLD2.out.2.2.1 OLD2.out.2.2.2 hR'
      have F22 := Lib.hid (F21.out.add hA' t' hs')
      have K3 : Hid (st3.ok ∧ st3.n = 0 ∧ st3.room = 1 ∧ st3.began ≤ 1 ∧ st3.g (Kid 2) = none) := Lib.hid (by
        rw [hst3]
        refine ⟨gone_ok OK2.out _, ?_, HR2.out, BG2.out, ?_⟩
        · show (if (st2.g (Kid 1)).isSome then st2.n - 1 else st2.n) = 0
          rw [HS2.out, N2.out]; rfl
        · show updK st2.g (Kid 1) none (Kid 2) = none
          rw [updK_other _ (by simp [Kid])]
          cases hx : st2.g (Kid 2) with
          | none => rfl
          | some x => exact absurd (HG2.out _ x hx).1 (by simp [Kid]))
      obtain ⟨AR, cR, rfl⟩ := oR.row.form
      obtain ⟨gB, cB, rfl, _, hx⟩ := oR'.row.at_ (by rw [qlen]; omega)
      have y0 : Hid (w22.cell? ⟨gB, 0, none⟩ = some (.int .u8 6)) := Lib.hid (hx 0 _ (by simp [encB, q0]))
      have y8 : Hid (w22.cell? ⟨gB, 8 * n, none⟩ = some (.int .u8 8)) := Lib.hid (hx (8 * n) _ (by simp [encB, q8]))
      rw [qlen]
      obtain ⟨⟨qt', qi', qd', qm', qf', ql', qp', qs', qe'⟩, qo', qb'⟩ := q'
      clear oR oR' hA' t' hs' hR' hst3 qlen q0 q8 hx LB BG MW OK2 OLD2 HS2 HG2 N2 HR2 BG2 O21 F21
      go_upto_region 21 with (fail)
      obtain ⟨W23, hW23⟩ : ∃ W : World, W = w22.alloc (.cells (pkC ⟨qt', qi', qd', qm', qf', ql', qp', qs', qe'⟩ (.slice AR qo'.length cR) (.slice (some ⟨gB, 0, none⟩) (8 * (n + 1)) cB)) 30) := ⟨_, rfl⟩
      rw [← hW23]
      have t23 : Touch [] w22 W23 := by rw [hW23]; exact (Touch.refl [] w22).alloc _
      obtain ⟨b16, hb16⟩ : ∃ b16, b16 = w22.heap.size := ⟨_, rfl⟩
      have X23 := Lib.hid (show W23.heap[b16]? = some (.cells (pkC ⟨qt', qi', qd', qm', qf', ql', qp', qs', qe'⟩ (.slice AR qo'.length cR) (.slice (some ⟨gB, 0, none⟩) (8 * (n + 1)) cB)) 30 (0, 0)) by rw [hW23, hb16]; exact box_at _ _)
      have F23 := Lib.hid (F22.out.near t23)
      obtain ⟨p0, p1, p2, p3, p4, p5, p6, p7, p8, p9, p10⟩ := pk_cells X23.out
      have z0 := cell_touch t23 y0.out (by simp)
      have z8 := cell_touch t23 y8.out (by simp)
      have en : (8 * ((n : Int) + 1)) = ((8 * (n + 1) : Nat) : Int) := by omega
      have EN := Lib.hid en
      rw [← hb16]
      clear hb16 hW23 t23 F22 y0 y8 en
      dsimp only at p0 p1 p2 p3 p4 p5 p6 p7 p8 p9 p10
      have l8 : (8 * (n : Int)) < 8 * ((n : Int) + 1) := by omega
      go_wp2_with fail
      clear p0 p1 p2 p3 p4 p5 p6 p7 p8 p9 p10 z0 z8 l8 X23 EN
      rw [E1.out]
      refine (mk_calls _ 2 1 (1 + ov) 1 true 4 (by omega) (by omega) (by omega) (by omega)).mono ?_
      rintro e w31 ⟨V31, rfl, o31, f31, t31⟩
      have O31 := Lib.hid o31
      have F31 := Lib.hid (F23.out.near t31)
      clear o31 f31 t31 F23
      have LB1 : Hid ((pieceP 2 1 (1 + ov) 1 true 4).body.length ≤ 140737488355328) := Lib.hid (by simp [pieceP]; omega)
      have MW1 : Hid ((pieceP 2 1 (1 + ov) 1 true 4).h.wf) := Lib.hid (mk_wf (by omega) (by omega) (by omega) (by omega))
      have RM1 : Hid ((st3.n : Int) < st3.room) := Lib.hid (by rw [K3.out.2.1, K3.out.2.2.1]; omega)
      have BG1 : Hid (st3.began < 4611686018427387904) := Lib.hid (by have := K3.out.2.2.2.1; omega)
      go_wp2_with fail
      refine (add_calls (p := pieceP 2 1 (1 + ov) 1 true 4) F31.out.asm K3.out.1 (fun w' t => ⟨(OwB.nil w').rdb, (O31.out.kind t F31.out.asm.kinds).rdb⟩) (by simp [pieceP]) LB1.out MW1.out (.inr RM1.out) BG1.out).mono ?_
      rintro e w32 ⟨q2, r2, st4, S4, ⟨VR2, VR2', rfl, _, _, _, _⟩, hA2, t2', hs2, hR2⟩
      obtain ⟨rfl, d4, i4, hst4, K4ok, K4n, K4old, _, _, K4len, K4far, _, _, _, _⟩ := only_open K3.out.1 RM1.out (by omega) (by omega) (by omega) (by omega) (by omega) K3.out.2.2.2.2 hR2
      have F32 := Lib.hid (F31.out.add hA2 t2' hs2)
      have CL4 : Hid (clashB (oldD st4 (Kid 2)) (pieceP 2 1 ov 1 false 4) = true) := Lib.hid (by
        rw [K4old]
        obtain ⟨h1, h2⟩ := newD_len (st := st3) (p := pieceP 2 1 (1 + ov) 1 true 4) (i := i4) K3.out.2.2.2.2
        exact clash_open (m := 1 + ov) (by rw [h1, K4len]; rfl) (by rw [h2, K4far]) (by omega))
      have N4 : Hid (st4.n = 1) := Lib.hid (by rw [K4n, K3.out.2.1])
      have OK4 : Hid st4.ok := Lib.hid K4ok
      have HS4 : Hid ((st4.g (Kid 2)).isSome = true) := Lib.hid (by rw [hst4]; show (updK st3.g (Kid 2) _ (Kid 2)).isSome = true; rw [updK_same]; rfl)
      have BG4 : Hid (st4.began < 4611686018427387904) := Lib.hid (by
        rw [hst4]
        have h1 := K3.out.2.2.2.1
        have h : ∀ b : Bool, (if b = true then st3.began else st3.began + 1) < (4611686018427387904 : Int) := fun b => by cases b <;> simp <;> omega
        exact h _)
      clear hA2 t2' hs2 hR2 hst4 K4ok K4n K4old K4len K4far O31 F31 LB1 MW1 RM1 BG1 K3
      go_wp2_with fail
      refine (mk_calls _ 2 1 ov 1 false 4 (by omega) (by omega) (by omega) (by omega)).mono ?_
      rintro e w41 ⟨V41, rfl, o41, f41, t41⟩
      have O41 := Lib.hid o41
      have F41 := Lib.hid (F32.out.near t41)
      clear o41 f41 t41 F32
      have LB1 : Hid ((pieceP 2 1 ov 1 false 4).body.length ≤ 140737488355328) := Lib.hid (by simp [pieceP]; omega)
      have MW1 : Hid ((pieceP 2 1 ov 1 false 4).h.wf) := Lib.hid (mk_wf (by omega) (by omega) (by omega) (by omega))
      go_wp2_with fail
      refine (add_calls (p := pieceP 2 1 ov 1 false 4) F41.out.asm OK4.out (fun w' t => ⟨(OwB.nil w').rdb, (O41.out.kind t F41.out.asm.kinds).rdb⟩) (by simp [pieceP]) LB1.out MW1.out (.inl HS4.out) BG4.out).mono ?_
      rintro e w42 ⟨q4, r4, st5, S5, ⟨VR4, VR4', rfl, _, _, _, _⟩, hA4, t4', hs4, hR4⟩
      obtain ⟨rfl, hst5⟩ := only_clash (mk_may (by omega) (by omega) (by omega)) (fun h => by have h1 : 8 * (1 : Int) = 0 := h.1; omega) CL4.out hR4
      rw [hst5] at hA4
      have F42 := Lib.hid (F41.out.add hA4 t4' hs4)
      clear hA4 t4' hs4 hR4 hst5 O41 F41 LB1 MW1 CL4 HS4 BG4 OK4
      go_wp2_with fail
      refine (held_calls F42.out.asm (by have := N4.out; omega)).mono ?_
      rintro e w43 ⟨t43, hp⟩
      rcases hp with ⟨h0, _⟩ | ⟨_, K, x, A43, c43, hKw, hgx, rfl, hv⟩
      · exact absurd h0 (by rw [N4.out]; decide)
      have F43 := Lib.hid (F42.out.near t43)
      clear t43 hKw hgx hv F42
      go_wp2_with fail
      go_ret
      exact ⟨rfl, F43.out.touch⟩
end Go.Proofs.Ytelfemhnijnhfaa.Fr

/- Tick; no condition. -/
namespace Go.Proofs.Ytelfemhnijnhfaa.Fr
open Go.RowKit Go.Maps
set_option linter.unusedVariables false
set_option linter.unusedSimpArgs false
set_option maxRecDepth 100000
attribute [local go_sem] nilB

/-- The two maps of an assembler, the timers left aside. -/
structure AsmM (w : World) (hb kb : Nat) (fh fk : Value → Option Value) (n : Nat) (g : K4 → Option (Nat × Dg)) : Prop where
  held : GMap 109 w hb fh n
  keys : GMap 3 w kb fk n
  hk : hb ≠ kb
  look : ∀ K : K4, K.wf → fh (kv K) = (g K).map fun x => .pointer (some ⟨x.1, 0, none⟩)
  each : ∀ (K : K4) (x : Nat × Dg), K.wf → g K = some x → DgAt w x.1 x.2 ∧ fk (.int .i64 x.2.id) = some (kv K) ∧ 0 ≤ x.2.id ∧ x.2.id ≤ 256
  back : ∀ (i : Int) (v : Value), Tm.wfi i → fk (.int .i64 i) = some v → ∃ K x, K4.wf K ∧ v = kv K ∧ g K = some x ∧ x.2.id = i
theorem AsmM.kinds {w : World} {hb kb : Nat} {fh fk : Value → Option Value} {n : Nat} {g : K4 → Option (Nat × Dg)} (h : AsmM w hb kb fh fk n g) : ∀ k ∈ [hb, kb], Kind w k := by
  intro k hk
  simp at hk
  rcases hk with rfl | rfl
  · exact .inl h.held.isMap
  · exact .inl h.keys.isMap
theorem AsmM.kept {w w' : World} {hb kb : Nat} {fh fk : Value → Option Value} {n : Nat} {g : K4 → Option (Nat × Dg)} (h : AsmM w hb kb fh fk n g) {S : List Nat} (t : Touch S w w') (h1 : hb ∉ S) (h2 : kb ∉ S) (hk : ∀ k ∈ S, Kind w k) : AsmM w' hb kb fh fk n g :=
  ⟨h.held.kept t h1, h.keys.kept t h2, h.hk, h.look, fun K x hK hx => by
    obtain ⟨e1, e2⟩ := h.each K x hK hx
    exact ⟨e1.kind t hk, e2⟩, h.back⟩
theorem AsmM.drop {w w2 w3 : World} {hb kb : Nat} {fh fk : Value → Option Value} {n : Nat} {g : K4 → Option (Nat × Dg)} (h : AsmM w hb kb fh fk n g) {K : K4} (hK : K.wf) {x : Nat × Dg} (hx : g K = some x)
    (h2 : GMap 3 w2 kb (updV fk (.int .i64 x.2.id) none) (n - 1)) (t2 : Touch [kb] w w2) (h3 : GMap 109 w3 hb (updV fh (kv K) none) (n - 1)) (t3 : Touch [hb] w2 w3) :
    AsmM w3 hb kb (updV fh (kv K) none) (updV fk (.int .i64 x.2.id) none) (n - 1) (updK g K none) := by
  have ta : Touch [hb, kb] w w3 := (t2.mono (S' := [hb, kb]) (fun k hk => .inl (by simp at hk; simp [hk]))).trans t3 (fun k hk => .inl (by simp at hk; simp [hk]))
  have e1 := h.each K x hK hx
  refine ⟨h3, h2.kept t3 (by simp; exact fun e => h.hk e.symm), h.hk, ?_, ?_, ?_⟩
  · intro L hL
    by_cases e : L = K
    · subst e
      rw [updV_same, updK_same]; rfl
    · rw [updV_other _ (fun e' => e (kv_inj e')), h.look L hL, updK_other _ e]
  · intro L y hL hy
    have e : L ≠ K := by rintro rfl; rw [updK_same] at hy; cases hy
    have hy' : g L = some y := by rw [updK_other _ e] at hy; exact hy
    obtain ⟨q1, q2, q4⟩ := h.each L y hL hy'
    have hid : y.2.id ≠ x.2.id := by
      intro he
      rw [he, e1.2.1] at q2
      exact e (kv_inj (Option.some.inj q2)).symm
    refine ⟨q1.kind ta h.kinds, ?_, q4⟩
    rw [updV_other _ (by intro he; simp at he; exact hid he)]
    exact q2
  · intro i v hi hv'
    have hne : (.int .i64 i : Value) ≠ .int .i64 x.2.id := by intro he; rw [he, updV_same] at hv'; cases hv'
    rw [updV_other _ hne] at hv'
    obtain ⟨L, y, hL, rfl, hy, hyi⟩ := h.back i v hi hv'
    have e : L ≠ K := by
      rintro rfl
      rw [hx] at hy
      cases hy
      exact hne (by rw [hyi])
    exact ⟨L, y, hL, rfl, by rw [updK_other _ e]; exact hy, hyi⟩
theorem Asm0.maps {w : World} {a hb kb tb : Nat} {TS : List Nat} {s : Tm.St} {fh fk : Value → Option Value} {st : ASt} (h : Asm0 w a hb kb tb TS s fh fk st) : AsmM w hb kb fh fk st.n st.g :=
  ⟨h.held, h.keys, h.hk, h.look, fun K x hK hx => by
    obtain ⟨e1, e2, _, e3⟩ := h.each K x hK hx
    exact ⟨e1, e2, e3⟩, h.back⟩
/-- Time has gone by: r are given up. -/
def tickS (st : ASt) (n : Int) (r : Nat) : ASt := { st with now := afterI st.now n, g := fun K => (st.g K).filter fun x => decide (afterI st.now n < x.2.until_), n := st.n - r }
/-- ids: whose time has run out. -/
def DueIds (st : ASt) (now : Int) (ids : List Int) : Prop := ids.Nodup ∧ ∀ i, i ∈ ids ↔ ∃ K x, K4.wf K ∧ st.g K = some x ∧ x.2.id = i ∧ x.2.until_ ≤ now
/-- In the midst of it: the datagrams of ids are gone from the two maps. -/
structure Ticked (w : World) (hb kb : Nat) (st : ASt) (fk0 : Value → Option Value) (ids : List Int) : Prop where
  at_ : ∃ fh fk g, AsmM w hb kb fh fk (st.n - ids.length) g ∧ (∀ y : Int, fk (.int .i64 y) = if y ∈ ids then none else fk0 (.int .i64 y)) ∧ ∀ K : K4, K.wf → g K = (st.g K).filter fun x => decide (x.2.id ∉ ids)
theorem Ticked.start {w : World} {a hb kb tb : Nat} {TS : List Nat} {s : Tm.St} {fh fk : Value → Option Value} {st : ASt} (h : AsmM w hb kb fh fk st.n st.g) : Ticked w hb kb st fk [] :=
  ⟨fh, fk, st.g, by simpa using h, fun y => by simp, fun K hK => by cases h : st.g K <;> simp [Option.filter]⟩
theorem Ticked.step {w w2 w3 : World} {hb kb : Nat} {fh fk fk0 : Value → Option Value} {st : ASt} {g : K4 → Option (Nat × Dg)} {ids : List Int} (hM : AsmM w hb kb fh fk (st.n - ids.length) g) (hk : ∀ y : Int, fk (.int .i64 y) = if y ∈ ids then none else fk0 (.int .i64 y)) (hg : ∀ K : K4, K.wf → g K = (st.g K).filter fun x => decide (x.2.id ∉ ids))
    {K : K4} (hK : K.wf) {x : Nat × Dg} (hx : g K = some x)
    (h2 : GMap 3 w2 kb (updV fk (.int .i64 x.2.id) none) (st.n - ids.length - 1)) (t2 : Touch [kb] w w2) (h3 : GMap 109 w3 hb (updV fh (kv K) none) (st.n - ids.length - 1)) (t3 : Touch [hb] w2 w3) : Ticked w3 hb kb st fk0 (ids ++ [x.2.id]) := by
  have hD := hM.drop hK hx h2 t2 h3 t3
  refine ⟨_, _, _, by rw [List.length_append, List.length_singleton, ← Nat.sub_sub]; exact hD, fun y => ?_, fun L hL => ?_⟩
  · by_cases e : y = x.2.id
    · subst e
      rw [updV_same, if_pos (by simp)]
    · rw [updV_other _ (by intro he; simp at he; exact e he), hk y]
      by_cases e2 : y ∈ ids
      · rw [if_pos e2, if_pos (by simp [e2])]
      · rw [if_neg e2, if_neg (by simp [e2, e])]
  · by_cases e : L = K
    · subst e
      rw [updK_same]
      rw [hg L hL] at hx
      obtain ⟨hx1, _⟩ := Option.filter_eq_some_iff.1 hx
      rw [hx1]
      simp [Option.filter]
    · rw [updK_other _ e, hg L hL]
      cases hy : st.g L with
      | none => rfl
      | some y =>
        simp only [Option.filter]
        by_cases hm : y.2.id ∈ ids
        · simp [hm]
        · have hgL : g L = some y := by rw [hg L hL, hy]; simp [Option.filter, hm]
          have e1 := (hM.each L y hL hgL).2.1
          have e2 := (hM.each K x hK hx).2.1
          have hne : y.2.id ≠ x.2.id := fun he => by rw [he, e2] at e1; exact e (kv_inj (Option.some.inj e1)).symm
          simp [hm, hne]
theorem Ticked.stop {w w' : World} {a hb kb tb : Nat} {TS : List Nat} {s s' : Tm.St} {fh fk : Value → Option Value} {st : ASt} (h : Asm0 w a hb kb tb TS s fh fk st) {n : Int} {lp : List Tm.Pr} (hd : Tm.Dued s (afterI st.now n) lp s') (hl : lp.length ≤ st.n)
    (hblk : w'.heap[a]? = some (.cells (asmC { st with now := afterI st.now n } hb kb tb) 107 (0, 0))) (ht : Tm.Tim w' tb TS 256 s') (hT : Ticked w' hb kb st fk (lp.map (·.1))) :
    AsmAt w' a (a :: hb :: kb :: TS) (tickS st n lp.length) ∧ DueIds st (afterI st.now n) (lp.map (·.1)) := by
  have hnd : (lp.map (·.1)).Nodup := by
    rw [List.Nodup, List.pairwise_map]
    exact hd.sorted.imp (fun h => h.2)
  have hids : DueIds st (afterI st.now n) (lp.map (·.1)) := by
    refine ⟨hnd, fun i => ⟨fun hi => ?_, ?_⟩⟩
    · obtain ⟨p, hp, rfl⟩ := List.mem_map.1 hi
      obtain ⟨h1, h2⟩ := hd.mem p hp
      have h3 := h.due p.1 (by rw [h1]; rfl)
      obtain ⟨v, hv⟩ := Option.isSome_iff_exists.1 h3
      have hwi : Tm.wfi p.1 := by
        exact (h.tim.ok.good.wf _ (h.tim.ok.inv.val_some h1)).1
      obtain ⟨K, x, hK, hv', hx, hxi⟩ := h.back p.1 v hwi hv
      refine ⟨K, x, hK, hx, hxi, ?_⟩
      have h5 := (h.each K x hK hx).2.2.1
      rw [hxi, h1] at h5
      have := Option.some.inj h5
      omega
    · rintro ⟨K, x, hK, hx, rfl, hu⟩
      have h5 := (h.each K x hK hx).2.2.1
      have h6 := hd.vals x.2.id
      by_cases hm : x.2.id ∈ lp.map (·.1)
      · exact hm
      · rw [if_neg hm, h5] at h6
        have := hd.left _ _ h6
        omega
  refine ⟨?_, hids⟩
  obtain ⟨fh', fk', g', hM, hk', hg'⟩ := hT.at_
  have hfil : ∀ K : K4, K.wf → g' K = (tickS st n lp.length).g K := by
    intro K hK
    rw [hg' K hK]
    show _ = (st.g K).filter _
    cases hx : st.g K with
    | none => rfl
    | some x =>
      simp only [Option.filter]
      have e : (decide (x.2.id ∉ lp.map (·.1))) = decide (afterI st.now n < x.2.until_) := by
        rw [decide_eq_decide]
        constructor
        · intro hm
          have h1 : ¬ x.2.until_ ≤ afterI st.now n := fun hu => hm ((hids.2 _).2 ⟨K, x, hK, hx, rfl, hu⟩)
          omega
        · intro hu hm
          obtain ⟨L, y, hL, hy, hyi, hyu⟩ := (hids.2 _).1 hm
          have e1 := (h.each K x hK hx).2.1
          have e2 := (h.each L y hL hy).2.1
          rw [hyi, e1] at e2
          have e3 := kv_inj (Option.some.inj e2)
          subst e3
          rw [hx] at hy
          cases hy
          omega
      simp only [e]
  rw [List.length_map] at hM
  refine ⟨hb, kb, tb, TS, s', fh', fk', rfl, hblk, hM.held, hM.keys, ht, ?_, h.hk, h.ht, h.kt, h.at_, ?_, ?_, ?_, ?_⟩
  · show s'.hp.length = st.n - lp.length
    have := hd.len
    have := h.len
    omega
  · intro K hK
    rw [hM.look K hK, hfil K hK]
  · intro K x hK hx
    have hx' : g' K = some x := by rw [hfil K hK]; exact hx
    obtain ⟨e1, e2, e3, e4⟩ := hM.each K x hK hx'
    refine ⟨e1, e2, ?_, e3, e4⟩
    have h1 : x.2.id ∉ lp.map (·.1) := fun hm => by rw [hk', if_pos hm] at e2; cases e2
    rw [hd.vals, if_neg h1]
    rw [hg' K hK] at hx'
    obtain ⟨hx1, _⟩ := Option.filter_eq_some_iff.1 hx'
    exact (h.each K x hK hx1).2.2.1
  · intro i v hi hv
    obtain ⟨K, x, hK, e, hx, hxi⟩ := hM.back i v hi hv
    exact ⟨K, x, hK, e, by rw [← hfil K hK]; exact hx, hxi⟩
  · intro i hi
    rw [hd.vals] at hi
    by_cases hm : i ∈ lp.map (·.1)
    · rw [if_pos hm] at hi; cases hi
    · rw [if_neg hm] at hi
      rw [hk', if_neg hm]
      exact h.due i hi
end Go.Proofs.Ytelfemhnijnhfaa.Fr

/- Tick: the walk; no condition. -/
namespace Go.Proofs.Ytelfemhnijnhfaa.Fr
open Go.RowKit Go.Maps
set_option linter.unusedVariables false
set_option linter.unusedSimpArgs false
set_option maxRecDepth 100000
attribute [local go_sem] nilB

def TickPost (w : World) (a : Nat) (S : List Nat) (st : ASt) (n : Int) (e : Ending) (w' : World) : Prop :=
  ∃ r : Nat, e = .returned (.int .i64 r) ∧ r ≤ st.n ∧ AsmAt w' a S (tickS st n r) ∧ Touch S w w' ∧ ∃ ids, DueIds st (afterI st.now n) ids ∧ ids.length = r
set_option maxHeartbeats 4000000 in
theorem tick_calls {w : World} {a : Nat} {S : List Nat} {st : ASt} (h : AsmAt w a S st) (hst : st.ok) (n : Int) (h0 : 0 ≤ n) (h9 : n ≤ 9223372036854775807) :
    Calls Try.prog 28 #[.pointer (some ⟨a, 0, none⟩), .int .i64 n] w (TickPost w a S st n) := by
  have hal := h.lt a (by obtain ⟨_, _, _, _, _, _, _, rfl, _⟩ := h; simp)
  have hkinds := h.kinds
  obtain ⟨hb, kb, tb, TS, s, fh, fk, rfl, h⟩ := h
  have H := Lib.hid h
  have HKD := Lib.hid hkinds
  obtain ⟨t, ht⟩ : ∃ t, t = afterI st.now n := ⟨_, rfl⟩
  have HT := Lib.hid ht
  have b1 := hst.t0
  have b2 := hst.t9
  have hn0 : ¬ n < 0 := by omega
  obtain ⟨c0, c1, c2, c3, c4, c5, c6⟩ := asm_cells h.blk
  have fz := fun o => box_frozen h.blk o
  clear h hkinds ht
  go_enter Try.func28, Try.ntmps28
  go_wp2_with fail
  refine (after_calls _ st.now n b1 b2 h0 h9).mono ?_
  rintro e w1 ⟨rfl, rfl⟩
  rw [← HT.out]
  go_upto_region 4 with (fail)
  obtain ⟨W2, hW2⟩ : ∃ W : World, W = w1.setCell ⟨a, 2, none⟩ (.int .i64 t) := ⟨_, rfl⟩
  rw [← hW2]
  have t2 : Touch [a] w1 W2 := by rw [hW2]; exact (Touch.refl _ w1).setCell _ _ (.inl (by simp))
  have ka : ∀ k ∈ [a], Kind w1 k := fun k hk => HKD.out k (by simp at hk; simp [hk])
  have BLK2 : Hid (W2.heap[a]? = some (.cells (asmC { st with now := t } hb kb tb) 107 (0, 0))) := Lib.hid (by rw [hW2]; simpa using box_set (o := 2) H.out.blk (.int .i64 t))
  have M2 := Lib.hid (H.out.maps.kept t2 (by simp; exact Ne.symm H.out.ab.1) (by simp; exact Ne.symm H.out.ab.2) ka)
  have TM2 := Lib.hid (tim_kept H.out.tim t2 (fun k hk hm => by simp at hm; subst hm; exact H.out.at_ hk))
  have T2 := Lib.hid t2
  clear t2 ka hW2 c0 c1 c2 c3 c4 c5 c6 fz
  go_cut [5] from 20 to 28 (fun v5 wc => ∃ (lp : List Tm.Pr) (s' : Tm.St) (A : Option Addr) (c : Nat), v5 = .slice A lp.length c ∧ Hid (Tm.Tim wc tb TS 256 s') ∧ Hid (Touch TS W2 wc) ∧ Hid (Tm.IRow wc W2.heap.size (.slice A lp.length c) (lp.map (·.1))) ∧ Hid (Tm.Dued s t lp s'))
  case first =>
    obtain ⟨c0, c1, c2, c3, c4, c5, c6⟩ := asm_cells BLK2.out
    dsimp only at c2
    have TD := Lib.hid (tim_kept TM2.out (Touch.refl [] W2).drew (by simp))
    go_region_law (go_simp; go_at_call 62; refine (Tm.due_calls TD.out t).mono ?_; rintro e w2 ⟨V, lp, s', rfl, k1, k2, k3, k4⟩; obtain ⟨A, c, hV⟩ := k3.form; rw [List.length_map] at hV; subst hV; have K1 := Lib.hid k1; have K2 := Lib.hid k2; have K3 := Lib.hid k3; have K4 := Lib.hid k4; clear k1 k2 k3 k4)
    all_goals (try go_wp2)
    all_goals go_meet
    all_goals exact ⟨lp, s', A, c, rfl, K1, Lib.hid ((((Touch.refl [] W2).drew).mono (by simp)).trans K2.out (fun x hx => .inl hx)), K3, K4⟩
  case rest =>
  obtain ⟨lp, s', A, c, rfl, K1, K2, K3, K4⟩ := hcut
  obtain ⟨W3, hw3⟩ : ∃ w2, w2 = wc := ⟨_, rfl⟩
  rw [← hw3] at K1 K2 K3 ⊢
  clear hw3
  have hd := H.out.due
  have hR : Hid (lp.length ≤ st.n) := Lib.hid (by have := K4.out.len; have := H.out.len; omega)
  have h256 : lp.length ≤ 256 := by have := hR.out; have := hst.n; have := hst.r9; omega
  have BLK3 := Lib.hid (touch_box K2.out BLK2.out H.out.at_)
  have M3 := Lib.hid (M2.out.kept K2.out H.out.ht H.out.kt (kind_tim TM2.out))
  have T3 := Lib.hid (T2.out.mono (S' := a :: hb :: kb :: TS) (fun k hk => .inl (by simp at hk; simp [hk])) |>.trans K2.out (fun x hx => .inl (by simp [hx])))
  have HBL : Hid (hb < W2.heap.size ∧ kb < W2.heap.size) := Lib.hid ⟨M2.out.held.lt, M2.out.keys.lt⟩
  clear hd BLK2 M2 T2
  go_wp2_with fail
  go_loopg [31] lp.length (fun kq v31 wr => ∃ i : Nat, v31 = .int .i64 i ∧ i ≤ lp.length ∧ lp.length - i ≤ kq ∧ Hid (Ticked wr hb kb st fk ((lp.map (·.1)).take i)) ∧ Hid (Touch [hb, kb] W3 wr))
  case atStart => exact ⟨0, rfl, by omega, by omega, Lib.hid (Ticked.start (a := a) (tb := tb) (TS := TS) (s := s) M3.out), Lib.hid (Touch.refl _ _)⟩
  case round =>
    obtain ⟨i, rfl, hi, hik, hT, hW⟩ := hrel
    have BLK := Lib.hid (touch_box hW.out BLK3.out (by simp; exact H.out.ab))
    by_cases hir : i < lp.length
    · have li : (i : Int) < (lp.length : Int) := by omega
      obtain ⟨p, hp⟩ : ∃ p, lp[i]? = some p := ⟨_, List.getElem?_eq_getElem hir⟩
      obtain ⟨id, hid⟩ : ∃ id, id = p.1 := ⟨_, rfl⟩
      have hpid : (lp.map (·.1))[i]? = some id := by rw [List.getElem?_map, hp, hid]; rfl
      have HPI := Lib.hid hpid
      obtain ⟨fh', fk', g', hM, hk', hg'⟩ := hT.out.at_
      rw [List.length_take, List.length_map, Nat.min_eq_left (by omega)] at hM
      have hni : id ∉ (lp.map (·.1)).take i := by
        have hnd : (lp.map (·.1)).Nodup := by
          rw [List.Nodup, List.pairwise_map]
          exact K4.out.sorted.imp (fun h => h.2)
        intro hm
        obtain ⟨j, hj⟩ := List.mem_iff_getElem?.1 hm
        have hji : j < i := by have := (List.getElem?_eq_some_iff.1 hj).1; simp at this; omega
        rw [List.getElem?_take_of_lt hji] at hj
        have := (List.getElem?_inj (by simp; omega) hnd).1 (hj.trans hpid.symm)
        omega
      obtain ⟨h1, h2⟩ := K4.out.mem p (List.mem_of_getElem? hp)
      rw [← hid] at h1
      have hwi : Tm.wfi id := (H.out.tim.ok.good.wf _ (H.out.tim.ok.inv.val_some h1)).1
      obtain ⟨v, hv⟩ := Option.isSome_iff_exists.1 (H.out.due id (by rw [h1]; rfl))
      have hv' : fk' (.int .i64 id) = some v := by rw [hk', if_neg hni]; exact hv
      obtain ⟨K, x, hK, rfl, hx, hxi⟩ := hM.back id v hwi hv'
      obtain ⟨kl, hkl⟩ := key_some hK
      have hrow : Hid (Tm.IRow wr W2.heap.size (.slice A lp.length c) (lp.map (·.1))) := Lib.hid (K3.out.kept hW.out (fun k hk => by have := (K3.out.block k hk).1; have := HBL.out; simp; omega))
      have hA : ∃ gA, A = some ⟨gA, 0, none⟩ := by
        rcases hrow.out.2 with ⟨h, _⟩ | ⟨gA, cap, cur, h, _⟩
        · simp at h; rw [h.2.1] at hir; simp at hir
        · simp at h; exact ⟨gA, h.1⟩
      obtain ⟨gA, rfl⟩ := hA
      have y0 := (hrow.out.cell i id hpid).1
      have hl := (hM.keys.look lawInt Try.underlying105 (zeroKey wr) (keyInt (x := id) (Tm.wfi_bd hwi).1 (Tm.wfi_bd hwi).2)).2
      rw [hv'] at hl
      simp only [Option.getD_some] at hl
      obtain ⟨KK, hKK⟩ : ∃ KK, KK = K := ⟨_, rfl⟩
      have HKK := Lib.hid hKK
      obtain ⟨ks, kd, kp, ki⟩ := K
      have HKV : Hid (kv KK = .agg #[.int .u32 ks, .int .u32 kd, .int .u8 kp, .int .u16 ki]) := Lib.hid (by rw [HKK.out]; rfl)
      rw [← hKK] at hK hx hkl hl hv'
      rw [HKV.out] at hl
      have HK := Lib.hid hK
      have HX := Lib.hid hx
      have HXI := Lib.hid hxi
      have HKL := Lib.hid hkl
      have HM := Lib.hid hM
      have HK' := Lib.hid hk'
      have HG' := Lib.hid hg'
      have HV' := Lib.hid hv'
      have HWI := Lib.hid hwi
      obtain ⟨c0, c1, c2, c3, c4, c5, c6⟩ := asm_cells BLK.out
      clear hK hx hxi hkl hM hk' hg' hv' hv hwi hp hid hpid hni h1 h2 hKK
      go_upto_region 9 with (fail)
      obtain ⟨W4, hW4⟩ : ∃ W : World, W = wr.alloc (.cells #[.int .u32 ks, .int .u32 kd, .int .u8 kp, .int .u16 ki] 109) := ⟨_, rfl⟩
      rw [← hW4]
      have t4 : Touch [] wr W4 := by rw [hW4]; exact (Touch.refl [] wr).alloc _
      obtain ⟨b8, hb8⟩ : ∃ b, b = wr.heap.size := ⟨_, rfl⟩
      have HB8 := Lib.hid hb8
      have Y4 := Lib.hid (show W4.heap[b8]? = some (.cells #[.int .u32 ks, .int .u32 kd, .int .u8 kp, .int .u16 ki] 109 (0, 0)) by rw [hW4, hb8]; exact box_at _ _)
      have M4 := Lib.hid (HM.out.kept t4 (by simp) (by simp) (by simp))
      have BLK4 := Lib.hid (touch_box t4 BLK.out (by simp))
      have T4 := Lib.hid (hW.out.trans t4 (by simp))
      rw [← hb8]
      clear hb8 t4 hW4 c0 c1 c2 c3 c4 c5 c6 y0 hl HM BLK hrow
      obtain ⟨w5, hrun, k5, t5⟩ := M4.out.keys.drop lawInt Try.underlying105 (keyInt (x := id) (Tm.wfi_bd HWI.out).1 (Tm.wfi_bd HWI.out).2) 0
      rw [HV'.out, Option.isSome_some, if_pos rfl] at k5
      have K5 := Lib.hid k5
      have T5 := Lib.hid t5
      obtain ⟨c0, c1, c2, c3, c4, c5, c6⟩ := asm_cells BLK4.out
      clear k5 t5
      go_upto_region 10 with (fail)
      clear hrun c0 c1 c2 c3 c4 c5 c6
      have hN3 := HBL.out
      have BLK5 := Lib.hid (touch_box T5.out BLK4.out (by simp; exact H.out.ab.2))
      have Y5 := Lib.hid (touch_box T5.out Y4.out (by have := M4.out.keys.lt; have := hW.out.size; have := HB8.out; have := K2.out.size; simp; omega))
      have HELD5 := Lib.hid (M4.out.held.kept T5.out (by simp; exact M4.out.hk))
      have HFI : Hid ((fh' (.agg #[.int .u32 ks, .int .u32 kd, .int .u8 kp, .int .u16 ki])).isSome = true) := Lib.hid (by rw [← HKV.out, M4.out.look KK HK.out, HX.out]; rfl)
      clear BLK4 Y4 hN3
      obtain ⟨c0, c1, c2, c3, c4, c5, c6⟩ := asm_cells BLK5.out
      have y0 := (show w5.cell? ⟨b8, 0, none⟩ = some (.int .u32 ks) by simp [World.cell?, Y5.out])
      have y1 := (show w5.cell? ⟨b8, 1, none⟩ = some (.int .u32 kd) by simp [World.cell?, Y5.out])
      have y2 := (show w5.cell? ⟨b8, 2, none⟩ = some (.int .u8 kp) by simp [World.cell?, Y5.out])
      have y3 := (show w5.cell? ⟨b8, 3, none⟩ = some (.int .u16 ki) by simp [World.cell?, Y5.out])
      have KD := Lib.hid (HELD5.out.kept (Touch.refl [] w5).drew (by simp))
      go_region_law (refine step_delete_g (by rfl) (.tmp 49) (.tmp 50) 104 109 (by rfl) 111 lawKey Try.underlying104 hb (st.n - i) fh' (by rfl) KD.out (.agg #[.int .u32 ks, .int .u32 kd, .int .u8 kp, .int .u16 ki]) kl (by rfl) (by rw [← HKV.out]; exact HKL.out) ?_; rw [if_pos HFI.out]; intro w6 k6 t6; have K6' := Lib.hid k6; have T6' := Lib.hid t6; clear k6 t6)
      all_goals
        have hT6 : Hid (Touch [hb] w5 w6) := Lib.hid ((((Touch.refl [] w5).drew).mono (by simp)).trans T6'.out (fun x hx => .inl hx))
        have HELD6 : Hid (GMap 109 w6 hb (updV fh' (kv KK) none) (st.n - i - 1)) := Lib.hid (by rw [HKV.out]; exact K6'.out)
        have hstep : Hid (Ticked w6 hb kb st fk ((lp.map (·.1)).take (i + 1))) := Lib.hid (by
          have e : (lp.map (·.1)).take (i + 1) = (lp.map (·.1)).take i ++ [x.2.id] := by
            rw [List.take_add_one, HPI.out, HXI.out]; rfl
          have el : ((lp.map (·.1)).take i).length = i := by rw [List.length_take, List.length_map]; omega
          rw [e]
          refine Ticked.step (g := g') (fh := fh') (fk := fk') (w := W4) (by rw [el]; exact M4.out) HK'.out HG'.out HK.out HX.out (by rw [el, HXI.out]; exact K5.out) T5.out (by rw [el]; exact HELD6.out) hT6.out)
        have TT := Lib.hid ((T4.out.trans T5.out (fun x hx => .inl (by simp at hx; simp [hx]))).trans hT6.out (fun x hx => .inl (by simp at hx; simp [hx])))
        clear y0 y1 y2 y3 c0 c1 c2 c3 c4 c5 c6
        go_wp2
        go_roundg (gk - 1)
        case rel => exact ⟨i + 1, by go_num, by omega, by omega, hstep, TT⟩
        case measure => omega
    · have hil : i = lp.length := by omega
      have HIL := Lib.hid hil
      clear hil
      have li : ¬ (i : Int) < (lp.length : Int) := by have := HIL.out; omega
      go_wp2
      go_ret
      have e : (lp.map (·.1)).take i = lp.map (·.1) := List.take_of_length_le (by rw [List.length_map, HIL.out]; omega)
      have hT' := hT.out
      rw [e] at hT'
      have tt := T3.out.trans hW.out (fun x hx => .inl (by simp at hx; simp; rcases hx with rfl | rfl <;> simp))
      have hTim := tim_kept K1.out hW.out (fun k hk hm => by
        simp at hm
        rcases hm with rfl | rfl
        · exact H.out.ht hk
        · exact H.out.kt hk)
      have hfin := Ticked.stop H.out (n := n) (by rw [← HT.out]; exact K4.out) hR.out (by rw [← HT.out]; exact BLK.out) hTim hT'
      exact ⟨lp.length, rfl, hR.out, hfin.1, tt, _, hfin.2, by rw [List.length_map]⟩
end Go.Proofs.Ytelfemhnijnhfaa.Fr

/- The plain law of FragEnds; no program in sight; no condition. -/
namespace Go.Proofs.Ytelfemhnijnhfaa.Fr
open Go.RowKit
set_option linter.unusedVariables false
set_option linter.unusedSimpArgs false

structure EndSt (st : ASt) (life : Int) (i : Nat) (now u : Int) : Prop where
  ok : st.ok
  room : st.room = 2
  life : st.life = life
  now : st.now = now
  began : st.began ≤ i
  n : st.n = if i = 0 then 0 else 1
  only : ∀ (K : K4) (x : Nat × Dg), st.g K = some x → K = Kid 3 ∧ x.2.count = 8 * i ∧ x.2.until_ = u
  some : (st.g (Kid 3)).isSome = decide (i ≠ 0)
  old : (oldD st (Kid 3)).count = 8 * i ∧ (oldD st (Kid 3)).until_ = u ∧ (oldD st (Kid 3)).length = -1 ∧ (oldD st (Kid 3)).bytes.length ≤ 16 * i
def spanE (life ttl : Int) : Int := if life < (if ttl < 1 then 1 else ttl) then life else (if ttl < 1 then 1 else ttl)
theorem end_start {life : Int} (h1 : 1 ≤ life) (h9 : life ≤ 1099511627776) : EndSt ⟨2, life, 0, 0, fun _ => none, 0⟩ life 0 0 0 :=
  ⟨⟨by simp, by simp, h1, h9, by simp, by simp, by simp, by simp, fun K x hK hx => by cases hx⟩, rfl, rfl, rfl, by simp, rfl, fun K x hx => (by cases hx), rfl, rfl, rfl, rfl, by simp [oldD, freshD]⟩
theorem end_add {st : ASt} {life : Int} {i : Nat} {now u : Int} (h : EndSt st life i now u) (hi : i < 30) (hn : 0 ≤ now) (hn9 : now ≤ 10000) (hu9 : u ≤ 10000) (hu0 : 0 ≤ u) {ttl : Int} (ht : 0 ≤ ttl ∧ ttl < 256) (hl : 1 ≤ life)
    {q : Pk} {r : Int} {st' : ASt} (hA : AddRel st (pieceP 3 (1 + 2 * (i : Int)) 1 7 true ttl) q r st') : r = 52 ∧ EndSt st' life (i + 1) now (if u < now + spanE life ttl then now + spanE life ttl else u) := by
  obtain ⟨p, hp⟩ : ∃ p, p = pieceP 3 (1 + 2 * (i : Int)) 1 7 true ttl := ⟨_, rfl⟩
  have hk : keyP p = Kid 3 := by rw [hp]; rfl
  have hpo : p.h.off = 8 * (1 + 2 * (i : Int)) := by rw [hp]; rfl
  have hpm : p.h.mf = true := by rw [hp]; rfl
  have hpt : p.h.ttl = ttl := by rw [hp]; rfl
  have hpb : p.body = List.replicate 8 7 := by rw [hp]; rfl
  have hpw : p.h.wf := by rw [hp]; exact mk_wf (by omega) (by omega) (by omega) ht
  have hpe : bErr p = 0 := by rw [hp]; exact mk_may (by omega) (by omega) (by omega)
  rw [← hp] at hA
  clear hp
  have hnz : ¬ (p.h.off = 0 ∧ p.h.mf = false) := by rw [hpm]; simp
  have hend : endI p = 16 * ((i : Int) + 1) := by unfold endI; rw [hpo, hpb]; simp; omega
  obtain ⟨D0, hD0⟩ : ∃ D0, D0 = oldD st (keyP p) := ⟨_, rfl⟩
  have hold := h.old
  rw [← hk, ← hD0] at hold
  obtain ⟨o1, o2, o3, o4⟩ := hold
  have hok0 : D0.ok := by rw [hD0]; exact oldD_ok h.ok hpw
  obtain ⟨tok, tcov, tsz⟩ := takes hok0 hpe hpw hnz
  have hlen := hok0.len
  have hcl : clashB D0 p = false := by
    unfold clashB
    rw [if_neg (by omega), hpm]; rfl
  have e2 : (takenD D0 p).length = -1 := by
    show (if p.h.mf then D0.length else endI p) = _
    rw [hpm, o3]; rfl
  have hwh : wholeB (takenD D0 p) = false := by
    unfold wholeB
    rw [e2]; simp
  have e1 : (takenD D0 p).count = 8 * ((i : Int) + 1) := by
    show (layD D0 p).2.2 = _
    unfold layD
    rw [lay_fresh _ _ _ (fun j hj => by
      show (splice (List.replicate (takenN D0 p) 0) 0 D0.have_).getD j 0 = 0
      rw [pad_eq, List.getD_eq_getElem?_getD, List.getElem?_append_right (by rw [hpo] at hj; omega), List.getElem?_replicate]
      split <;> rfl)]
    rw [hpb]
    simp
    omega
  have e4 : (takenD D0 p).bytes.length = 16 * (i + 1) := by
    rw [tsz]
    unfold takenN
    rw [hend, if_pos (by omega)]
    omega
  have hsp : spanI st p = spanE life ttl := by
    unfold spanI spanE
    dsimp only
    rw [h.life, hpt]
  have hspb : 1 ≤ spanE life ttl ∧ spanE life ttl ≤ 255 := by
    unfold spanE
    split <;> split <;> omega
  have haf : afterI st.now (spanI st p) = now + spanE life ttl := by
    unfold afterI
    rw [h.now, hsp, if_neg (by omega)]
  have e5 : untilI st p D0 = if u < now + spanE life ttl then now + spanE life ttl else u := by
    unfold untilI
    rw [haf, o2]
  have hrm : (st.g (keyP p)).isSome = true ∨ (st.n : Int) < st.room := by
    rw [hk, h.some, h.n, h.room]
    by_cases e : i = 0
    · subst e; simp
    · simp [e]
  rcases hA with ⟨h, _⟩ | ⟨_, h, _⟩ | ⟨_, _, hA⟩
  · exact absurd hpe h
  · exact absurd h hnz
  rw [← hD0] at hA
  rcases hA with ⟨h, _⟩ | ⟨_, h, _⟩ | ⟨_, h, _⟩ | ⟨_, _, h1, h2, d, j, h3⟩
  · rw [hcl] at h; cases h
  · rw [hwh] at h; cases h
  · rw [hwh] at h; cases h
  · refine ⟨h1, ?_⟩
    have hkok := kept_ok h.ok hpe hpw hnz hrm d j
    rw [← h3] at hkok
    have hg : st'.g = updK st.g (keyP p) (.some (d, newD st p j)) := by rw [h3]; rfl
    have hN : (newD st p j).count = 8 * ((i : Int) + 1) ∧ (newD st p j).until_ = (if u < now + spanE life ttl then now + spanE life ttl else u) ∧ (newD st p j).length = -1 ∧ (newD st p j).bytes.length ≤ 16 * (i + 1) := by
      unfold newD
      rw [← hD0]
      exact ⟨e1, e5, e2, by rw [show ({ takenD D0 p with id := if (st.g (keyP p)).isSome then D0.id else j, order := if (st.g (keyP p)).isSome then D0.order else st.began, until_ := untilI st p D0 } : Dg).bytes = (takenD D0 p).bytes from rfl, e4]; omega⟩
    obtain ⟨n1, n2, n3, n4⟩ := hN
    refine ⟨hkok, by rw [h3]; exact h.room, by rw [h3]; exact h.life, by rw [h3]; exact h.now, ?_, ?_, ?_, ?_, ?_⟩
    · rw [h3]
      have := h.began
      have hb : ∀ b : Bool, (if b = true then st.began else st.began + 1) ≤ ((i + 1 : Nat) : Int) := fun b => by cases b <;> simp <;> omega
      exact hb _
    · rw [h3]
      show (if (st.g (keyP p)).isSome then st.n else st.n + 1) = _
      rw [hk, h.some, h.n]
      by_cases e : i = 0
      · subst e; simp
      · simp [e]
    · intro K x hx
      rw [hg] at hx
      by_cases e : K = keyP p
      · subst e
        rw [updK_same] at hx
        cases hx
        exact ⟨hk, by simpa using n1, n2⟩
      · rw [updK_other _ e] at hx
        exact absurd ((h.only K x hx).1.trans hk.symm) e
    · rw [hg, ← hk, updK_same]; simp
    · have : oldD st' (Kid 3) = newD st p j := by
        unfold oldD
        rw [hg, ← hk, updK_same]
      rw [this]
      exact ⟨by simpa using n1, n2, n3, n4⟩
/-- Time goes by, not to the end. -/
theorem end_wait {st : ASt} {life : Int} {i : Nat} {now u : Int} (h : EndSt st life (i + 1) now u) (hn : 0 ≤ now) (hu : u ≤ 10000) {g : Int} (h0 : 0 ≤ g) (hg : now + g < u) {ids : List Int} (hd : DueIds st (afterI st.now g) ids) :
    ids.length = 0 ∧ EndSt (tickS st g 0) life (i + 1) (now + g) u := by
  have ha : afterI st.now g = now + g := by unfold afterI; rw [h.now, if_neg (by omega)]
  rw [ha] at hd
  have hnone : ids = [] := by
    cases ids with
    | nil => rfl
    | cons a l =>
      obtain ⟨K, x, hK, hx, _, hu'⟩ := (hd.2 a).1 (by simp)
      have := (h.only K x hx).2.2
      omega
  have hgg : (tickS st g 0).g = st.g := by
    funext K
    show (st.g K).filter _ = _
    cases hx : st.g K with
    | none => rfl
    | some x =>
      have := (h.only K x hx).2.2
      simp only [Option.filter]
      rw [ha, if_pos (by simp; omega)]
  refine ⟨by rw [hnone]; rfl, ?_⟩
  have hold : oldD (tickS st g 0) (Kid 3) = oldD st (Kid 3) := by unfold oldD; rw [hgg]
  refine ⟨⟨h.ok.r0, h.ok.r9, h.ok.l0, h.ok.l9, ?_, ?_, h.ok.b0, h.ok.n, fun K x hK hx => h.ok.dg K x hK (by rw [← hgg]; exact hx)⟩, h.room, h.life, ha, h.began, h.n, fun K x hx => h.only K x (by rw [← hgg]; exact hx), by rw [hgg]; exact h.some, by rw [hold]; exact h.old⟩
  · show 0 ≤ afterI st.now g
    rw [ha]; omega
  · show afterI st.now g ≤ _
    rw [ha]; omega
theorem end_gone {st : ASt} {life : Int} {i : Nat} {now u : Int} (h : EndSt st life (i + 1) now u) (hn : 0 ≤ now) (hu : u ≤ 10000) {g : Int} (h0 : 0 ≤ g) (hg : now + g = u) {ids : List Int} (hd : DueIds st (afterI st.now g) ids) : ids.length = 1 := by
  have ha : afterI st.now g = now + g := by unfold afterI; rw [h.now, if_neg (by omega)]
  rw [ha] at hd
  obtain ⟨x, hx⟩ := Option.isSome_iff_exists.1 (show (st.g (Kid 3)).isSome = true by rw [h.some]; simp)
  have hall : ∀ a, a ∈ ids ↔ a = x.2.id := fun a => by
    rw [hd.2 a]
    constructor
    · rintro ⟨K, y, hK, hy, rfl, _⟩
      obtain ⟨rfl, _⟩ := h.only K y hy
      rw [hx] at hy
      cases hy
      rfl
    · rintro rfl
      exact ⟨Kid 3, x, Kid_wf (by omega), hx, rfl, by have := (h.only _ x hx).2.2; omega⟩
  have h2 := hd.1
  match ids, hall, h2 with
  | [], hall, _ => exact absurd ((hall x.2.id).2 rfl) (by simp)
  | [a], _, _ => rfl
  | a :: b :: l, hall, h2 =>
    have e1 := (hall a).1 (by simp)
    have e2 := (hall b).1 (by simp)
    rw [e1, e2] at h2
    simp at h2
end Go.Proofs.Ytelfemhnijnhfaa.Fr

/- The walk of FragEnds; no condition. -/
namespace Go.Proofs.Ytelfemhnijnhfaa.Fr
open Go.RowKit Go.Maps
set_option linter.unusedVariables false
set_option linter.unusedSimpArgs false
set_option maxRecDepth 100000
attribute [local go_sem] nilB

structure ESt (w wr : World) (a : Nat) (S : List Nat) (st : ASt) : Prop where
  asm : AsmAt wr a S st
  new : ∀ k ∈ S, w.heap.size ≤ k
  touch : Touch [] w wr
theorem ESt.near {w wr wr' : World} {a : Nat} {S : List Nat} {st : ASt} (F : ESt w wr a S st) (t : Touch [] wr wr') : ESt w wr' a S st := ⟨F.asm.near t, F.new, F.touch.trans t (by simp)⟩
theorem ESt.add {w wr w' : World} {a : Nat} {S S' : List Nat} {st st' : ASt} (F : ESt w wr a S st) (hA : AsmAt w' a S' st') (t : Touch S wr w') (hs : ∀ k ∈ S', k ∈ S ∨ wr.heap.size ≤ k) : ESt w w' a S' st' :=
  ⟨hA, fun k hk => by
    rcases hs k hk with h | h
    · exact F.new k h
    · exact Nat.le_trans F.touch.size h, F.touch.trans t (fun x hx => .inr (F.new x hx))⟩
theorem RdB.at_ {w : World} {A : Option Addr} {n cap : Nat} {l : List Int} (h : RdB w (.slice A n cap) l) (h0 : 0 < l.length) : n = l.length ∧ (∀ x ∈ l, 0 ≤ x ∧ x < 256) ∧ ∃ b off, A = some ⟨b, off, none⟩ ∧ ∀ (i : Nat) (x : Int), l[i]? = some x → w.cell? ⟨b, off + i, none⟩ = some (.int .u8 x) := by
  obtain ⟨⟨A', cap', hV, hcap, hnil, hr⟩, wfb⟩ := h
  simp only [Value.slice.injEq] at hV
  obtain ⟨rfl, rfl, rfl⟩ := hV
  obtain ⟨bb, ob, rfl, hbb, hbx⟩ := hr h0
  exact ⟨rfl, wfb, bb, ob, rfl, hbx⟩
set_option maxHeartbeats 8000000 in
theorem ends_calls {w : World} {V1 V2 : Value} {l1 l2 : List Int} (h1 : RdB w V1 l1) (h2 : RdB w V2 l2) (hlen : l1.length ≤ 140737488355328) (hlen2 : l2.length ≤ 140737488355328) (life0 : Int) (hb1 : -9223372036854775808 ≤ life0) (hb2 : life0 ≤ 9223372036854775807) :
    Calls Try.prog 10 #[.int .i64 life0, V1, V2] w fun e w' => e = .returned (.bool true) ∧ Touch [] w w' := by
  obtain ⟨A, cap, rfl⟩ := h1.len_lt
  obtain ⟨B, capB, rfl⟩ := h2.len_lt
  have H2 := Lib.hid h2
  obtain ⟨ol, hol⟩ : ∃ ol, ol = l1.take 30 := ⟨_, rfl⟩
  have LOL : Hid (ol.length ≤ 30) := Lib.hid (by rw [hol, List.length_take]; omega)
  obtain ⟨A1, cap1, hA1⟩ : ∃ A1 cap1, (30 < l1.length → ∃ b off, A = some ⟨b, off, none⟩ ∧ A1 = A ∧ cap1 = cap ∧ 30 ≤ cap) ∧ Hid (RdB w (.slice A1 ol.length cap1) ol) ∧ (¬ 30 < l1.length → A1 = A ∧ cap1 = cap ∧ ol.length = l1.length) ∧ (30 < l1.length → ol.length = 30) := by
    by_cases hl : 30 < l1.length
    · have H' := h1
      obtain ⟨⟨A', cap', hV, hcap, _, hr⟩, _⟩ := H'
      simp only [Value.slice.injEq] at hV
      obtain ⟨rfl, _, rfl⟩ := hV
      obtain ⟨b, off, rfl, _⟩ := hr (by omega)
      have h3 : (l1.take 30).length = 30 := by rw [List.length_take]; omega
      have h2 := RdB.sub h1 (lo := 0) (hi := 30) (Nat.zero_le _) (by omega)
      simp only [Nat.add_zero, Nat.sub_zero, List.drop_zero] at h2
      refine ⟨_, _, fun _ => ⟨b, off, rfl, rfl, rfl, by omega⟩, Lib.hid ?_, fun k => absurd hl k, fun _ => by rw [hol, h3]⟩
      rw [hol, h3]
      exact h2
    · have h3 : l1.take 30 = l1 := List.take_of_length_le (by omega)
      refine ⟨A, cap, fun k => absurd k hl, Lib.hid ?_, fun _ => ⟨rfl, rfl, by rw [hol, h3]⟩, fun k => absurd k hl⟩
      rw [hol, h3]
      exact h1
  obtain ⟨hA2, HR, hA3, hA4⟩ := hA1
  have HA2 := Lib.hid hA2
  have HA3 := Lib.hid hA3
  have HA4 := Lib.hid hA4
  clear h1 h2 hol hA2 hA3 hA4
  go_enter Try.func10, Try.ntmps10
  obtain ⟨bn, hbn⟩ : ∃ bn : Bool, bn = (decide (life0 < 1) || decide (1099511627776 < life0)) := ⟨_, rfl⟩
  have HBN := Lib.hid hbn
  clear hbn
  go_upto_region 1 with (fail)
  go_cut [25] from 20 to 25 (fun v wq => v = .bool bn ∧ Hid (wq = w))
  case first =>
    by_cases c1 : life0 < 1
    · have e0 : Hid (bn = true) := Lib.hid (by rw [HBN.out, decide_eq_true c1]; rfl)
      go_wp2
      go_meet
      case rel => exact ⟨by rw [e0.out], Lib.hid rfl⟩
    · by_cases c2 : 1099511627776 < life0
      · have e0 : Hid (bn = true) := Lib.hid (by rw [HBN.out, decide_eq_true c2]; simp)
        go_wp2
        go_meet
        case rel => exact ⟨by rw [e0.out], Lib.hid rfl⟩
      · have e0 : Hid (bn = false) := Lib.hid (by rw [HBN.out, decide_eq_false c1, decide_eq_false c2]; rfl)
        go_wp2
        go_meet
        case rel => exact ⟨by rw [e0.out], Lib.hid rfl⟩
  case rest =>
  obtain ⟨rfl, hwq⟩ := hcut
  rw [hwq.out]
  clear hwq
  go_upto_if 25 with (fail)
  go_cut [0] from 20 to 25 (fun v wq => ∃ life : Int, v = .int .i64 life ∧ 1 ≤ life ∧ life ≤ 1099511627776 ∧ Hid (wq = w))
  case first =>
    cases hc : bn
    · have e1 : 1 ≤ life0 ∧ life0 ≤ 1099511627776 := by
        have h1 := HBN.out
        rw [hc] at h1
        have h2 := h1.symm
        rw [Bool.or_eq_false_iff, decide_eq_false_iff_not, decide_eq_false_iff_not] at h2
        omega
      have E1 := Lib.hid e1
      clear e1 hc
      go_wp2
      go_meet
      case rel => exact ⟨life0, rfl, E1.out.1, E1.out.2, Lib.hid rfl⟩
    · clear hc
      go_wp2
      go_meet
      case rel => exact ⟨40, rfl, by omega, by omega, Lib.hid rfl⟩
  case rest =>
  obtain ⟨life, rfl, hn1, hn9, hwq⟩ := hcut
  rw [hwq.out]
  clear hwq HBN hb1 hb2
  go_upto_if 28 with (fail)
  go_cut [1] from 26 to 30 (fun v wr => v = .slice A1 ol.length cap1 ∧ Hid (wr = w))
  case first =>
    by_cases hl : 30 < l1.length
    · obtain ⟨b, off, rfl, rfl, rfl, h3⟩ := HA2.out hl
      have h4 := Lib.hid (HA4.out hl)
      have lt1 : (30 : Int) < (l1.length : Int) := by omega
      have lt2 : (30 : Int) ≤ (cap1 : Int) := by omega
      go_wp2
      go_meet
      case rel => exact ⟨by rw [h4.out], Lib.hid rfl⟩
    · obtain ⟨rfl, rfl, h3⟩ := HA3.out hl
      have lt1 : ¬ (30 : Int) < (l1.length : Int) := by omega
      have h4 := Lib.hid h3
      clear h3
      go_wp2
      go_meet
      case rel => exact ⟨by rw [h4.out], Lib.hid rfl⟩
  case rest =>
  obtain ⟨rfl, hwr⟩ := hcut
  rw [hwr.out]
  clear hwr HA2 HA3 HA4
  obtain ⟨N, hN⟩ : ∃ N, N = ol.length := ⟨_, rfl⟩
  have HN := Lib.hid hN
  have hN30 : N ≤ 30 := by rw [hN]; exact LOL.out
  rw [← hN] at HR ⊢
  clear hN
  go_wp2_with fail
  refine (fnew_calls _ 2 life (by omega) (by omega) hn1 hn9).mono ?_
  rintro e w1 ⟨a, S, rfl, hA, t1, hS⟩
  have F1 : Hid (ESt w w1 a S ⟨2, life, 0, 0, fun _ => none, 0⟩) := Lib.hid ⟨hA, hS, t1⟩
  clear hA t1 hS
  go_wp2_with fail
  go_loopg [9, 10, 11] N (fun kq v9 v10 v11 wr => ∃ (i : Nat) (now u : Int) (S : List Nat) (st : ASt), v9 = .int .i64 now ∧ v10 = .int .i64 u ∧ v11 = .int .i64 i ∧ i ≤ N ∧ N - i ≤ kq ∧ 0 ≤ now ∧ now ≤ 255 * i ∧ 0 ≤ u ∧ u ≤ now + 255 ∧ (i ≠ 0 → now < u) ∧ Hid (ESt w wr a S st) ∧ Hid (EndSt st life i now u))
  case atStart => exact ⟨0, 0, 0, S, _, rfl, rfl, rfl, by omega, by omega, by omega, by omega, by omega, by omega, by omega, F1, Lib.hid (end_start hn1 hn9)⟩
  case round =>
    obtain ⟨i, now, u, S, st, rfl, rfl, rfl, hi, hik, hw0, hw9, hu0, hu9, hnu, hF, hE⟩ := hrel
    by_cases hin : i < N
    · have li : (i : Int) < (N : Int) := by omega
      have hiN := Lib.hid hin
      obtain ⟨x, hx⟩ : ∃ x, ol[i]? = some x := ⟨_, List.getElem?_eq_getElem (by rw [← HN.out]; exact hin)⟩
      obtain ⟨hne, hbt, b1, o1, rfl, hcell⟩ := HR.out.at_ (by rw [← HN.out]; omega)
      obtain ⟨x0, x1⟩ := hbt x (List.mem_of_getElem? hx)
      have KX := Lib.hid (hcell i x hx)
      have kx := cell_touch hF.out.touch KX.out (by simp)
      have B0 := Lib.hid (show (0 : Int) ≤ x ∧ x < 256 from ⟨x0, x1⟩)
      have BN := Lib.hid (show (0 : Int) ≤ now ∧ now ≤ 255 * i ∧ 0 ≤ u ∧ u ≤ now + 255 ∧ (i ≠ 0 → now < u) from ⟨hw0, hw9, hu0, hu9, hnu⟩)
      clear hcell hbt hx hne
      go_wp2_with fail
      refine (mk_calls _ 3 (1 + 2 * (i : Int)) 1 7 true x (by omega) (by omega) (by omega) (by omega)).mono ?_
      rintro e w2 ⟨V2, rfl, o2, _, t2⟩
      have O2 := Lib.hid o2
      have F2 := Lib.hid (hF.out.near t2)
      clear o2 t2 kx hF
      have MW : Hid ((pieceP 3 (1 + 2 * (i : Int)) 1 7 true x).h.wf) := Lib.hid (mk_wf (by omega) (by omega) (by omega) (by omega))
      have RM : Hid ((st.g (keyP (pieceP 3 (1 + 2 * (i : Int)) 1 7 true x))).isSome = true ∨ (st.n : Int) < st.room) := Lib.hid (by
        show (st.g (Kid 3)).isSome = true ∨ _
        rw [hE.out.some, hE.out.n, hE.out.room]
        by_cases e : i = 0
        · subst e; simp
        · simp [e])
      have BG : Hid (st.began < 4611686018427387904) := Lib.hid (by have := hE.out.began; omega)
      go_wp2_with fail
      refine (add_calls (p := pieceP 3 (1 + 2 * (i : Int)) 1 7 true x) F2.out.asm hE.out.ok (fun w' t => ⟨(OwB.nil w').rdb, (O2.out.kind t F2.out.asm.kinds).rdb⟩) (by simp [pieceP]) (by simp [pieceP]) MW.out RM.out BG.out).mono ?_
      rintro e w3 ⟨q, r, st3, S3, ⟨VR, VR', rfl, oR, oR', _, _⟩, hA3, t3, hs3, hR3⟩
      obtain ⟨rfl, hE3⟩ := end_add hE.out (by omega) (by omega) (by omega) (by omega) (by omega) ⟨x0, x1⟩ hn1 hR3
      have E3 := Lib.hid hE3
      have F3 := Lib.hid (F2.out.add hA3 t3 hs3)
      obtain ⟨AR, cR, rfl⟩ := oR.row.form
      obtain ⟨AR', cR', rfl⟩ := oR'.row.form
      obtain ⟨⟨qt, qi, qd, qm, qf, ql, qp, qs, qe⟩, qo, qb⟩ := q
      clear oR oR' hA3 t3 hs3 hR3 hE3 hE F2 O2 MW RM BG
      go_upto_region 16 with (fail)
      obtain ⟨W4, hW4⟩ : ∃ W : World, W = w3.alloc (.cells (pkC ⟨qt, qi, qd, qm, qf, ql, qp, qs, qe⟩ (.slice AR qo.length cR) (.slice AR' qb.length cR')) 30) := ⟨_, rfl⟩
      rw [← hW4]
      have F4 : Hid (ESt w W4 a S3 st3) := Lib.hid (F3.out.near (by rw [hW4]; exact (Touch.refl [] w3).alloc _))
      obtain ⟨b8, hb8⟩ : ∃ b8, b8 = w3.heap.size := ⟨_, rfl⟩
      rw [← hb8]
      clear hb8 hW4 F3
      have kx := cell_touch F4.out.touch KX.out (by simp)
      obtain ⟨sp, hsp⟩ : ∃ sp, sp = spanE life x := ⟨_, rfl⟩
      rw [← hsp] at E3
      have HSP := Lib.hid hsp
      have hspb : 1 ≤ sp ∧ sp ≤ 255 := by
        rw [hsp]
        unfold spanE
        split <;> split <;> omega
      have SPB := Lib.hid hspb
      clear hsp hspb
      go_upto_region 17 with (fail)
      go_upto_if 69 with (fail)
      obtain ⟨y, hy⟩ : ∃ y : Int, y = if x < 1 then 1 else x := ⟨_, rfl⟩
      have HY := Lib.hid hy
      clear hy
      go_cut [14] from 63 to 69 (fun v wq => v = .int .i64 y ∧ Hid (wq = W4))
      case first =>
        by_cases c1 : x < 1
        · have e0 : Hid (y = 1) := Lib.hid (by rw [HY.out, if_pos c1])
          go_wp2
          go_meet
          case rel => exact ⟨by rw [e0.out], Lib.hid rfl⟩
        · have e0 : Hid (y = x) := Lib.hid (by rw [HY.out, if_neg c1])
          go_wp2
          go_meet
          case rel => exact ⟨by rw [e0.out], Lib.hid rfl⟩
      case rest =>
      obtain ⟨rfl, hwq⟩ := hcut
      rw [hwq.out]
      clear hwq kx
      have HSP2 : Hid (sp = if life < y then life else y) := Lib.hid (by rw [HSP.out, HY.out]; rfl)
      go_upto_if 72 with (fail)
      go_cut [14] from 70 to 73 (fun v wq => v = .int .i64 sp ∧ Hid (wq = W4))
      case first =>
        by_cases c1 : life < y
        · have e0 : Hid (sp = life) := Lib.hid (by rw [HSP2.out, if_pos c1])
          go_wp2
          go_meet
          case rel => exact ⟨by rw [e0.out], Lib.hid rfl⟩
        · have e0 : Hid (sp = y) := Lib.hid (by rw [HSP2.out, if_neg c1])
          go_wp2
          go_meet
          case rel => exact ⟨by rw [e0.out], Lib.hid rfl⟩
      case rest =>
      obtain ⟨rfl, hwq⟩ := hcut
      rw [hwq.out]
      clear hwq HSP HSP2 HY
      obtain ⟨u2, hu2⟩ : ∃ u2 : Int, u2 = if u < now + sp then now + sp else u := ⟨_, rfl⟩
      have HU2 := Lib.hid hu2
      have hu2b : now < u2 ∧ u2 ≤ now + 255 ∧ u ≤ u2 := by
        have := SPB.out
        have := BN.out
        rw [hu2]
        split <;> omega
      have HUB := Lib.hid hu2b
      rw [← hu2] at E3
      clear hu2 hu2b hnu
      go_upto_if 78 with (fail)
      go_cut [10] from 74 to 81 (fun v wq => v = .int .i64 u2 ∧ Hid (wq = W4))
      case first =>
        have sp1 := SPB.out.1
        have sp2 := SPB.out.2
        have wr1 : RowKit.wrap64 (now + sp) = now + sp := by unfold RowKit.wrap64; omega
        by_cases c1 : u < now + sp
        · have e0 : Hid (u2 = now + sp) := Lib.hid (by rw [HU2.out, if_pos c1])
          go_wp2
          go_meet
          case rel => exact ⟨by rw [e0.out], Lib.hid rfl⟩
        · have e0 : Hid (u2 = u) := Lib.hid (by rw [HU2.out, if_neg c1])
          go_wp2
          go_meet
          case rel => exact ⟨by rw [e0.out], Lib.hid rfl⟩
      case rest =>
      obtain ⟨rfl, hwq⟩ := hcut
      rw [hwq.out]
      clear hwq HU2
      go_upto_if 85 with (fail)
      go_cut [15] from 82 to 94 (fun v wq => ∃ g : Int, v = .int .i64 g ∧ 0 ≤ g ∧ now + g < u2 ∧ Hid (wq = W4))
      case first =>
        by_cases c1 : i < l2.length
        · have c2 : (i : Int) < (l2.length : Int) := by omega
          obtain ⟨z, hz⟩ : ∃ z, l2[i]? = some z := ⟨_, List.getElem?_eq_getElem c1⟩
          obtain ⟨hne, hbt, b2, o2, hB, hcell⟩ := H2.out.at_ (by omega)
          subst hB
          obtain ⟨z0, z1⟩ := hbt z (List.mem_of_getElem? hz)
          have kz := cell_touch F4.out.touch (hcell i z hz) (by simp)
          clear hcell hbt hz hne
          have nz0 : ¬ (u2 - now = 0) := by have := HUB.out; omega
          have p0 : 0 < u2 - now := by have := HUB.out; omega
          have wr1 : RowKit.wrap64 (u2 - now) = u2 - now := by have := HUB.out; unfold RowKit.wrap64; omega
          have q0 := Int.emod_nonneg z nz0
          have q1 := Int.emod_lt_of_pos z p0
          go_wp2
          go_meet
          case rel => exact ⟨z % (u2 - now), rfl, q0, by omega, Lib.hid rfl⟩
        · have c2 : ¬ (i : Int) < (l2.length : Int) := by omega
          go_wp2
          go_meet
          case rel => exact ⟨0, rfl, by omega, by have := HUB.out; omega, Lib.hid rfl⟩
      case rest =>
      obtain ⟨g, rfl, g0, g1, hwq⟩ := hcut
      rw [hwq.out]
      clear hwq
      have TB := E3.out.ok
      go_wp2_with fail
      refine (tick_calls F4.out.asm TB g g0 (by have := HUB.out; omega)).mono ?_
      rintro e w5 ⟨r, rfl, _, hA5, t5, ids, hids, hlr⟩
      obtain ⟨hl0, hE5⟩ := end_wait E3.out (by omega) (by have := HUB.out; omega) g0 g1 hids
      rw [hl0] at hlr
      subst hlr
      have E5 := Lib.hid hE5
      have F5 := Lib.hid (F4.out.add hA5 t5 (fun k hk => .inl hk))
      have wr1 : RowKit.wrap64 (now + g) = now + g := by have := HUB.out; unfold RowKit.wrap64; omega
      clear hl0 hE5 hA5 t5 hids TB E3 F4
      obtain ⟨st5, hst5⟩ : ∃ st5, st5 = tickS st3 g 0 := ⟨_, rfl⟩
      rw [← hst5] at E5 F5
      clear hst5
      go_wp2_with fail
      have N5 : Hid (st5.n = 1) := Lib.hid (by rw [E5.out.n]; simp)
      refine (held_calls F5.out.asm (by rw [N5.out]; omega)).mono ?_
      rintro e w6 ⟨t6, hp⟩
      rcases hp with ⟨h0, _⟩ | ⟨_, K, y, A6, c6, hKw, hgx, rfl, hv⟩
      · exact absurd h0 (by rw [N5.out]; decide)
      obtain ⟨rfl, hc8, hu4⟩ := E5.out.only K y hgx
      rw [hc8, hu4] at hv
      obtain ⟨gH, cH, eV, _, hx⟩ := hv.at_ (by omega)
      simp only [Value.slice.injEq] at eV
      obtain ⟨rfl, -, rfl⟩ := eV
      have x4 := hx 4 _ rfl
      have x5 := hx 5 _ rfl
      have e8 : (8 * ((i + 1 : Nat) : Int)) = 8 * ((i : Int) + 1) := by omega
      rw [e8] at x4
      have F6 := Lib.hid (F5.out.near t6)
      clear hx hv hgx hc8 hu4 hKw t6 e8 F5
      go_wp2_with fail
      go_roundg (gk - 1)
      case rel =>
        have := HUB.out
        exact ⟨i + 1, now + g, u2, S3, st5, rfl, rfl, by go_num, by omega, by omega, by omega, by omega, by omega, by omega, by omega, F6, E5⟩
      case measure => omega
    · have hiN : i = N := by omega
      have HIN := Lib.hid hiN
      clear hiN
      have li : ¬ (i : Int) < (N : Int) := by have := HIN.out; omega
      by_cases hN0 : N = 0
      · subst hN0
        have TB := hE.out.ok
        have hi0 : i = 0 := HIN.out
        go_wp2_with fail
        refine (tick_calls hF.out.asm TB 4611686018427387904 (by omega) (by omega)).mono ?_
        rintro e w5 ⟨r, rfl, hr, hA5, t5, _⟩
        have hr0 : r = 0 := by
          rw [hE.out.n, if_pos hi0] at hr
          omega
        subst hr0
        have T5 := Lib.hid (hF.out.add hA5 t5 (fun k hk => .inl hk)).touch
        clear hr hA5 t5
        go_wp2
        go_ret
        exact ⟨rfl, T5.out⟩
      · have lN : ¬ (N : Int) = 0 := by omega
        obtain ⟨M, hM⟩ : ∃ M, i = M + 1 := ⟨i - 1, by have := HIN.out; omega⟩
        have E0 : Hid (EndSt st life (M + 1) now u) := Lib.hid (by have := hE.out; rw [hM] at this; exact this)
        have TB := E0.out.ok
        have hnu' : now < u := hnu (by omega)
        have HNU := Lib.hid (show now < u ∧ u ≤ 10000 ∧ 0 ≤ now from ⟨hnu', by have := HIN.out; omega, hw0⟩)
        have wr1 : RowKit.wrap64 (u - now) = u - now := by have := HNU.out; unfold RowKit.wrap64; omega
        have wr2 : RowKit.wrap64 (u - now - 1) = u - now - 1 := by have := HNU.out; unfold RowKit.wrap64; omega
        clear hnu hnu' hM hE hw9 hu9
        go_wp2_with fail
        refine (tick_calls hF.out.asm TB (u - now - 1) (by have := HNU.out; omega) (by have := HNU.out; omega)).mono ?_
        rintro e w5 ⟨r, rfl, _, hA5, t5, ids, hids, hlr⟩
        obtain ⟨hl0, hE5⟩ := end_wait E0.out (by have := HNU.out; omega) (by have := HNU.out; omega) (by have := HNU.out; omega) (by omega) hids
        rw [hl0] at hlr
        subst hlr
        rw [show now + (u - now - 1) = u - 1 by omega] at hE5
        have E5 := Lib.hid hE5
        have F5 := Lib.hid (hF.out.add hA5 t5 (fun k hk => .inl hk))
        clear hl0 hE5 hA5 t5 hids TB E0 hF wr1 wr2
        obtain ⟨st5, hst5⟩ : ∃ st5, st5 = tickS st (u - now - 1) 0 := ⟨_, rfl⟩
        rw [← hst5] at E5 F5
        clear hst5
        have N5 : Hid (st5.n = 1) := Lib.hid (by rw [E5.out.n]; simp)
        go_wp2_with fail
        refine (held_calls F5.out.asm (by rw [N5.out]; omega)).mono ?_
        rintro e w6 ⟨t6, hp⟩
        rcases hp with ⟨h0, _⟩ | ⟨_, K, y, A6, c6, hKw, hgx, rfl, hv⟩
        · exact absurd h0 (by rw [N5.out]; decide)
        have F6 := Lib.hid (F5.out.near t6)
        have TB := E5.out.ok
        clear hv hgx hKw t6 F5
        go_wp2_with fail
        refine (tick_calls F6.out.asm TB 1 (by omega) (by omega)).mono ?_
        rintro e w7 ⟨r, rfl, _, hA7, t7, ids, hids, hlr⟩
        have hl1 := end_gone E5.out (by have := HNU.out; omega) (by have := HNU.out; omega) (by omega) (by omega) hids
        rw [hl1] at hlr
        subst hlr
        have F7 := Lib.hid (F6.out.add hA7 t7 (fun k hk => .inl hk))
        have N7 : Hid ((tickS st5 1 1).n = 0) := Lib.hid (by show st5.n - 1 = 0; rw [N5.out])
        clear hl1 hA7 t7 hids TB F6
        obtain ⟨st7, hst7⟩ : ∃ st7, st7 = tickS st5 1 1 := ⟨_, rfl⟩
        rw [← hst7] at N7 F7
        clear hst7
        go_wp2_with fail
        refine (held_calls F7.out.asm (by rw [N7.out]; omega)).mono ?_
        rintro e w8 ⟨t8, hp⟩
        rcases hp with ⟨_, rfl⟩ | ⟨h0, _⟩
        · have F8 := Lib.hid (F7.out.near t8)
          clear t8 F7
          go_wp2
          go_ret
          exact ⟨rfl, F8.out.touch⟩
        · exact absurd h0 (by rw [N7.out]; decide)
end Go.Proofs.Ytelfemhnijnhfaa.Fr

