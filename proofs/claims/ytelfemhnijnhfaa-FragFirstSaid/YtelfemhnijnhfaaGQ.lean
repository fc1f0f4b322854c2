/- The plain law of FragFirst: what covers what, and when it is whole; no program in sight; no condition. -/
import Derived.Test.YtelfemhnijnhfaaGH
import Derived.Test.YtelfemhnijnhfaaGN
import Derived.Test.YtelfemhnijnhfaaFV
namespace Go.Proofs.Ytelfemhnijnhfaa.Fr
open Go.RowKit
set_option linter.unusedVariables false
set_option linter.unusedSimpArgs false

theorem area_nil : areaB [] = true := by
  exact (optsL_ok 0).1
theorem nz_all : ∀ (l : List Int), nz l = l.length ↔ ∀ j < l.length, l.getD j 0 ≠ 0
  | [] => by simp [nz]
  | x :: r => by
    have ih := nz_all r
    have hle := nz_le r
    unfold nz at ih hle ⊢
    rw [List.filter_cons]
    constructor
    · intro h j hj
      split at h
      · rename_i hx
        simp only [List.length_cons, Nat.add_right_cancel_iff] at h
        cases j with
        | zero => simpa using hx
        | succ j => have := ih.1 h j (by simpa using hj); simpa using this
      · simp at h; omega
    · intro h
      have hx := h 0 (by simp)
      simp at hx
      have h2 : (r.filter (fun x => x != 0)).length = r.length := ih.2 (fun j hj => by have := h (j + 1) (by simpa using hj); simpa using this)
      rw [if_pos (by simpa using hx)]
      simp [h2]
theorem cov_none {D : Dg} {j : Nat} : cov D j = none ↔ D.have_.getD j 0 = 0 := by
  unfold cov covS
  split <;> simp_all
theorem cov_some {D : Dg} {j : Nat} {v : Int} (h : cov D j = some v) : D.bytes.getD j 0 = v ∧ j < D.have_.length := by
  unfold cov covS at h
  split at h
  · cases h
  · rename_i hn
    simp at h
    refine ⟨h, ?_⟩
    by_cases hj : j < D.have_.length
    · exact hj
    · exfalso
      apply hn
      simp [List.getD_eq_getElem?_getD, List.getElem?_eq_none (Nat.le_of_not_lt hj)]
theorem cov_fresh (j : Nat) : cov freshD j = none := by
  rw [cov_none]
  simp [freshD]
def K0 : K4 := ⟨1, 2, 17, 5⟩
theorem keyP_piece (off : Int) (n : Nat) (c : Int) (mf : Bool) (t : Int) : keyP (pieceP 5 off n c mf t) = K0 := rfl
theorem piece_wf {off : Int} {n : Nat} {c : Int} {mf : Bool} {t : Int} (h0 : 0 ≤ off) (h9 : off ≤ 20) (ht : 0 ≤ t ∧ t < 256) : (pieceP 5 off n c mf t).h.wf :=
  ⟨by simp [pieceP], by simp [pieceP], by simp [pieceP]; omega, by simpa [pieceP] using ht, by simp [pieceP], by simp [pieceP], by simp [pieceP]⟩
theorem piece_may {off : Int} {n : Nat} {c : Int} {mf : Bool} {t : Int} (h0 : 0 ≤ off) (h9 : off + n ≤ 30) (hn : 1 ≤ n) : bErr (pieceP 5 off n c mf t) = 0 := by
  refine bErr_may area_nil ?_ ?_ ?_ ?_ ?_ ?_
  · simp [pieceP]; try omega
  · simp [pieceP]; try omega
  · simp [pieceP]; try omega
  · simp [pieceP]; try omega
  · simp [pieceP]; try omega
  · intro _; simp [pieceP]; try omega
/-- What comes back at last. -/
structure Good1 (q : Pk) (wl : List Int) (ttl : Int) : Prop where
  len : q.body.length = 168
  ttl : q.h.ttl = ttl
  mf : q.h.mf = false
  off : q.h.off = 0
  id : q.h.id = 5
  lo : ∀ j < 160, q.body[j]? = some (wl.getD j 0)
  hi : ∀ j, 160 ≤ j → j < 168 → q.body[j]? = some 250
structure FInv (lf : Bool) (i : Nat) (wl : List Int) (ttl : Int) (st : ASt) : Prop where
  len : wl.length = 168
  vals : ∀ j, 0 ≤ wl.getD j 0 ∧ wl.getD j 0 ≤ 41
  hi : ∀ j, 160 ≤ j → wl.getD j 0 = 0
  ok : st.ok
  room : st.room = 3
  n : (st.g K0).isSome = true ∧ st.n = 1 ∨ st.g K0 = none ∧ st.n = 0
  began : st.began ≤ i + 1
  cov : ∀ j, cov (oldD st K0) j = if j < 160 then (if wl.getD j 0 = 0 then none else some (wl.getD j 0)) else if lf = true ∧ j < 168 then some 250 else none
  sz : if lf = true then (oldD st K0).bytes.length = 168 ∧ (oldD st K0).length = 168 else (oldD st K0).bytes.length ≤ 160 ∧ (oldD st K0).length = -1 ∧ (oldD st K0).far ≤ 160
  t : 0 ≤ ttl ∧ ttl < 256
  hd : (ttl = 0 ∧ (oldD st K0).first = false) ∨ (ttl ≠ 0 ∧ (oldD st K0).first = true ∧ (oldD st K0).h = ⟨0, 5, false, true, 0, ttl, 17, 1, 2⟩ ∧ (oldD st K0).opts = [])
  z : wl.getD 0 0 ≠ 0 → ttl ≠ 0
theorem K0_wf : K0.wf := ⟨by simp [K0], by simp [K0], by simp [K0], by simp [K0]⟩
theorem old_ok {st : ASt} (h : st.ok) : (oldD st K0).ok := by
  unfold oldD
  split
  · rename_i x hx
    exact h.dg _ x K0_wf hx
  · exact freshD_ok
/-- Behind an Add that left it open. -/
theorem old_kept (st : ASt) (p : Pk) (d : Nat) (i : Int) (hk : keyP p = K0) : oldD (kept st p d i) K0 = newD st p i := by
  unfold oldD kept
  rw [hk]
  simp [updK_same]
theorem good_whole {D : Dg} {wl : List Int} {ttl : Int} (hok : D.ok) (hsz : D.bytes.length = 168) (hl : D.length = 168) (hc : ∀ j, cov D j = if j < 160 then some (wl.getD j 0) else if j < 168 then some 250 else none)
    (hh : D.h = ⟨0, 5, false, true, 0, ttl, 17, 1, 2⟩) (ho : D.opts = []) : wholeB D = true ∧ bErr (packD D) = 0 ∧ Good1 (packD D) wl ttl := by
  have hlen := hok.len
  have hb : (packD D).body = D.bytes := by
    unfold packD
    dsimp only
    rw [hl, List.take_of_length_le (by omega)]
  have hall : ∀ j < D.have_.length, D.have_.getD j 0 ≠ 0 := by
    intro j hj h0
    rw [← cov_none, hc j] at h0
    rw [hlen, hsz] at hj
    split at h0
    · cases h0
    · simp [hj] at h0
  have hn := (nz_all D.have_).2 hall
  have hcnt : D.count = 168 := by rw [hok.count, hn, hlen, hsz]; rfl
  have hget : ∀ (j : Nat) (v : Int), cov D j = some v → (packD D).body[j]? = some v := by
    intro j v hv
    obtain ⟨h1, h2⟩ := cov_some hv
    rw [hb, ← h1, List.getD_eq_getElem?_getD, List.getElem?_eq_getElem (by omega)]
    rfl
  refine ⟨?_, ?_, ⟨by rw [hb, hsz], by simp [packD, hh], by simp [packD], by simp [packD, hh], by simp [packD, hh], fun j hj => hget j _ (by rw [hc j, if_pos hj]), fun j h1 h2 => hget j _ (by rw [hc j, if_neg (by omega), if_pos h2])⟩⟩
  · unfold wholeB
    rw [hl, hcnt]
    rfl
  · refine bErr_may ?_ ?_ ?_ ?_ ?_ ?_ ?_
    · show areaB D.opts = true
      rw [ho]; exact area_nil
    · simp [packD, hh]
    · simp [packD, hh]
    · simp [packD, hh]
    · rw [hb]; simp [packD, hh]; omega
    · rw [hb]; simp [packD, ho]; omega
    · intro hm; simp [packD] at hm
theorem first_step {lf : Bool} {i : Nat} {wl : List Int} {ttl : Int} {st : ASt} (F : FInv lf i wl ttl st) {off n : Nat} {c t : Int} (hn : 1 ≤ n) (ho : off + n ≤ 20) (hc : 1 ≤ c ∧ c ≤ 41) (ht : 1 ≤ t ∧ t < 256) (hi : i ≤ 100)
    {wl' : List Int} (hl' : wl'.length = 168) (hw' : ∀ j, wl'.getD j 0 = if 8 * off ≤ j ∧ j < 8 * (off + n) ∧ wl.getD j 0 = 0 then c else wl.getD j 0)
    {q : Pk} {r : Int} {st' : ASt} (hA : AddRel st (pieceP 5 off n c true t) q r st') :
    if lf = true ∧ ∀ j < 160, 0 < wl'.getD j 0 then r = 0 ∧ Good1 q wl' (if off = 0 ∧ ttl = 0 then t else ttl) else r = 52 ∧ FInv lf (i + 1) wl' (if off = 0 ∧ ttl = 0 then t else ttl) st' := by
  obtain ⟨p, hp⟩ : ∃ p, p = pieceP 5 off n c true t := ⟨_, rfl⟩
  have hk : keyP p = K0 := by rw [hp]; rfl
  have hpo : p.h.off = 8 * (off : Int) := by rw [hp]; rfl
  have hpm : p.h.mf = true := by rw [hp]; rfl
  have hpb : p.body = List.replicate (8 * n) c := by rw [hp]; rfl
  have hph : p.h = ⟨0, 5, false, true, 8 * (off : Int), t, 17, 1, 2⟩ := by rw [hp]; rfl
  have hpp : p.opts = [] := by rw [hp]; rfl
  have hpw : p.h.wf := by rw [hp]; exact piece_wf (by omega) (by omega) ⟨by omega, by omega⟩
  have hpe : bErr p = 0 := by rw [hp]; exact piece_may (by omega) (by omega) hn
  rw [← hp] at hA
  clear hp
  obtain ⟨D0, hD0⟩ : ∃ D0, D0 = oldD st K0 := ⟨_, rfl⟩
  have hok0 : D0.ok := by rw [hD0]; exact old_ok F.ok
  have hnz : ¬ (p.h.off = 0 ∧ p.h.mf = false) := by rw [hpm]; simp
  obtain ⟨tok, tcov, tsz⟩ := takes hok0 hpe hpw hnz
  have hend : endI p = 8 * ((off : Int) + n) := by unfold endI; rw [hpo, hpb]; simp; omega
  have hcl : clashB D0 p = false := by
    have := F.sz
    rw [← hD0] at this
    unfold clashB
    rw [hpm, hend]
    cases lf
    · simp at this
      rw [if_neg (by omega)]; rfl
    · simp at this
      rw [if_pos (by omega), decide_eq_false (by omega)]; rfl
  obtain ⟨D1, hD1⟩ : ∃ D1, D1 = takenD D0 p := ⟨_, rfl⟩
  rw [← hD1] at tok tcov tsz
  have hsz1 : if lf = true then D1.bytes.length = 168 ∧ D1.length = 168 else D1.bytes.length ≤ 160 ∧ D1.length = -1 ∧ D1.far ≤ 160 := by
    have h1 := F.sz
    rw [← hD0] at h1
    have e1 : D1.length = D0.length := by rw [hD1]; simp [takenD, hpm]
    have e2 : D1.far = if D0.far < endI p then endI p else D0.far := by rw [hD1]; rfl
    rw [tsz, e1, e2]
    unfold takenN
    rw [hend]
    cases lf
    · simp at h1 ⊢
      obtain ⟨a1, a2, a3⟩ := h1
      refine ⟨?_, a2, ?_⟩
      · split <;> omega
      · split <;> omega
    · simp at h1 ⊢
      obtain ⟨a1, a2⟩ := h1
      exact ⟨by split <;> omega, a2⟩
  have hcov1 : ∀ j, cov D1 j = if j < 160 then (if wl'.getD j 0 = 0 then none else some (wl'.getD j 0)) else if lf = true ∧ j < 168 then some 250 else none := by
    intro j
    rw [tcov j, hpo, hpb]
    have h1 := F.cov j
    rw [← hD0] at h1
    rw [h1]
    have e1 : (8 * (off : Int)).toNat = 8 * off := by omega
    rw [e1]
    by_cases hj : j < 160
    · rw [if_pos hj, if_pos hj]
      by_cases hP : 8 * off ≤ j ∧ j < 8 * (off + n) ∧ wl.getD j 0 = 0
      · have hv : wl'.getD j 0 = c := by rw [hw' j, if_pos hP]
        rw [hv, if_pos hP.2.2, if_pos hP.1, if_neg (by omega)]
        simp [List.getElem?_replicate]
        omega
      · have hv : wl'.getD j 0 = wl.getD j 0 := by rw [hw' j, if_neg hP]
        rw [hv]
        by_cases h0 : wl.getD j 0 = 0
        · rw [if_pos h0]
          by_cases h3 : 8 * off ≤ j
          · rw [if_pos h3, List.getElem?_eq_none (by simp; omega)]; rfl
          · rw [if_neg h3]; rfl
        · rw [if_neg h0]
          rfl
    · rw [if_neg hj, if_neg hj]
      have h3 : (if 8 * off ≤ j then (List.replicate (8 * n) c)[j - 8 * off]? else none) = none := by
        split
        · rw [List.getElem?_eq_none (by simp; omega)]
        · rfl
      rw [h3]
      split <;> rfl
  have hhd1 : (if off = 0 ∧ ttl = 0 then t else ttl) = 0 ∧ D1.first = false ∨ (if off = 0 ∧ ttl = 0 then t else ttl) ≠ 0 ∧ D1.first = true ∧ D1.h = ⟨0, 5, false, true, 0, (if off = 0 ∧ ttl = 0 then t else ttl), 17, 1, 2⟩ ∧ D1.opts = [] := by
    have h1 := F.hd
    rw [← hD0] at h1
    have e1 : D1.first = if p.h.off = 0 then true else D0.first := by rw [hD1]; rfl
    have e2 : D1.h = if p.h.off = 0 ∧ D0.first = false then p.h else D0.h := by rw [hD1]; rfl
    have e3 : D1.opts = if p.h.off = 0 ∧ D0.first = false then p.opts else D0.opts := by rw [hD1]; rfl
    rw [e1, e2, e3, hpo]
    rcases h1 with ⟨a1, a2⟩ | ⟨a1, a2, a3, a4⟩
    · by_cases h0 : off = 0
      · right
        have h0' : (8 * (off : Int)) = 0 := by omega
        rw [if_pos ⟨h0, a1⟩, if_pos h0', if_pos ⟨h0', a2⟩, if_pos ⟨h0', a2⟩, hph, hpp, h0']
        exact ⟨by omega, rfl, rfl, rfl⟩
      · left
        rw [if_neg (fun h => h0 h.1), if_neg (by omega)]
        exact ⟨a1, a2⟩
    · right
      have q : ¬ (8 * (off : Int) = 0 ∧ D0.first = false) := fun h => by rw [a2] at h; cases h.2
      rw [if_neg (fun h => a1 h.2), if_neg q, if_neg q, a2]
      exact ⟨a1, by split <;> rfl, a3, a4⟩
  have hz1 : wl'.getD 0 0 ≠ 0 → (if off = 0 ∧ ttl = 0 then t else ttl) ≠ 0 := by
    intro h
    rw [hw' 0] at h
    split
    · omega
    · rename_i h2
      intro ht0
      apply h
      by_cases h0 : wl.getD 0 0 = 0
      · rw [if_neg (fun h3 => h2 ⟨by omega, ht0⟩)]; exact h0
      · exact absurd ht0 (F.z h0)
  have hwh : wholeB D1 = true ↔ (lf = true ∧ ∀ j < 160, 0 < wl'.getD j 0) := by
    have hlen := tok.len
    unfold wholeB
    simp only [Bool.and_eq_true, decide_eq_true_eq, beq_iff_eq]
    rw [tok.count]
    cases lf
    · simp at hsz1
      simp
      omega
    · simp at hsz1
      obtain ⟨s1, s2⟩ := hsz1
      rw [s2]
      constructor
      · intro h
        refine ⟨rfl, fun j hj => ?_⟩
        have h1 := (nz_all D1.have_).1 (by omega) j (by omega)
        have h2 := hcov1 j
        rw [if_pos hj] at h2
        by_cases h0 : wl'.getD j 0 = 0
        · rw [if_pos h0] at h2; exact absurd (cov_none.1 h2) h1
        · have h3 := F.vals j
          have h4 := hw' j
          split at h4 <;> omega
      · intro h
        refine ⟨by omega, ?_⟩
        have : nz D1.have_ = D1.have_.length := (nz_all D1.have_).2 (fun j hj h0 => by
          have h2 := cov_none.2 h0
          rw [hcov1 j] at h2
          by_cases hj2 : j < 160
          · rw [if_pos hj2, if_neg (by have := h.2 j hj2; omega)] at h2; cases h2
          · rw [if_neg hj2, if_pos ⟨rfl, by omega⟩] at h2; cases h2)
        rw [this, hlen, s1]; rfl
  rcases hA with ⟨h, _⟩ | ⟨_, h, _⟩ | ⟨_, _, hA⟩
  · exact absurd hpe h
  · exact absurd h hnz
  rw [hk, ← hD0, ← hD1] at hA
  by_cases hf : lf = true ∧ ∀ j < 160, 0 < wl'.getD j 0
  · rw [if_pos hf]
    have hw := hwh.2 hf
    have hsz2 := hsz1
    rw [if_pos hf.1] at hsz2
    have ht1 := hz1 (by have := hf.2 0 (by omega); omega)
    have hh1 : D1.first = true ∧ D1.h = ⟨0, 5, false, true, 0, (if off = 0 ∧ ttl = 0 then t else ttl), 17, 1, 2⟩ ∧ D1.opts = [] := by
      rcases hhd1 with ⟨a, _⟩ | ⟨_, a⟩
      · exact absurd a ht1
      · exact a
    obtain ⟨g1, g2, g3⟩ := good_whole (wl := wl') tok hsz2.1 hsz2.2 (fun j => by
      rw [hcov1 j]
      by_cases hj : j < 160
      · rw [if_pos hj, if_pos hj, if_neg (by have := hf.2 j hj; omega)]
      · rw [if_neg hj, if_neg hj]; simp [hf.1]) hh1.2.1 hh1.2.2
    rcases hA with ⟨h, _⟩ | ⟨_, _, h, _⟩ | ⟨_, _, _, h1, h2, _⟩ | ⟨_, h, _⟩
    · rw [hcl] at h; cases h
    · exact absurd g2 h
    · rw [h2]; exact ⟨h1, g3⟩
    · rw [hw] at h; cases h
  · rw [if_neg hf]
    have hw : wholeB D1 = false := by
      cases h : wholeB D1
      · rfl
      · exact absurd (hwh.1 h) hf
    rcases hA with ⟨h, _⟩ | ⟨_, h, _⟩ | ⟨_, h, _⟩ | ⟨_, _, h1, h2, d, i', rfl⟩
    · rw [hcl] at h; cases h
    · rw [hw] at h; cases h
    · rw [hw] at h; cases h
    · refine ⟨h1, ?_⟩
      have hrm : (st.g (keyP p)).isSome = true ∨ (st.n : Int) < st.room := by
        rw [hk, F.room]
        rcases F.n with h | h
        · exact .inl h.1
        · exact .inr (by omega)
      have hok' : (kept st p d i').ok := kept_ok F.ok hpe hpw hnz hrm d i'
      have hold : oldD (kept st p d i') K0 = newD st p i' := old_kept st p d i' hk
      have e1 : ∀ j, cov (newD st p i') j = cov D1 j := by
        intro j
        unfold newD cov
        rw [hk, ← hD0, hD1]
      have e2 : (newD st p i').bytes = D1.bytes ∧ (newD st p i').length = D1.length ∧ (newD st p i').far = D1.far ∧ (newD st p i').first = D1.first ∧ (newD st p i').h = D1.h ∧ (newD st p i').opts = D1.opts := by
        unfold newD
        rw [hk, ← hD0, hD1]
        exact ⟨rfl, rfl, rfl, rfl, rfl, rfl⟩
      obtain ⟨b1, b2, b3, b4, b5, b6⟩ := e2
      refine ⟨hl', fun j => ?_, fun j hj => ?_, hok', F.room, ?_, ?_, fun j => by rw [hold, e1, hcov1], by rw [hold, b1, b2, b3]; exact hsz1, ?_, by rw [hold, b4, b5, b6]; exact hhd1, hz1⟩
      · rw [hw' j]
        have := F.vals j
        split <;> omega
      · rw [hw' j, if_neg (by omega)]
        exact F.hi j hj
      · left
        refine ⟨by simp [kept, hk, updK_same], ?_⟩
        show (if (st.g (keyP p)).isSome then st.n else st.n + 1) = 1
        rw [hk]
        rcases F.n with ⟨h, h'⟩ | ⟨h, h'⟩
        · rw [if_pos h, h']
        · rw [h, h']; rfl
      · show (if (st.g (keyP p)).isSome then st.began else st.began + 1) ≤ ((i + 1 : Nat) : Int) + 1
        have := F.began
        split <;> omega
      · have := F.t
        split <;> omega
end Go.Proofs.Ytelfemhnijnhfaa.Fr
