/- The plain law of FragFirst: how it begins and ends; no program in sight; no condition. -/
import Derived.Test.YtelfemhnijnhfaaGQ
namespace Go.Proofs.Ytelfemhnijnhfaa.Fr
open Go.RowKit
set_option linter.unusedVariables false
set_option linter.unusedSimpArgs false

def st3 : ASt := ⟨3, 50, 0, 0, fun _ => none, 0⟩
def lastP : Pk := pieceP 5 20 1 250 false 9
theorem st3_ok : st3.ok := ⟨by simp [st3], by simp [st3], by simp [st3], by simp [st3], by simp [st3], by simp [st3], by simp [st3], by simp [st3], fun K x hK hx => by cases hx⟩
theorem getD_zeros (n j : Nat) : (List.replicate n (0 : Int)).getD j 0 = 0 := by
  rw [List.getD_eq_getElem?_getD]
  by_cases h : j < n
  · simp [h]
  · rw [List.getElem?_eq_none (by simp; omega)]; rfl
theorem first_begin0 : FInv false 0 (List.replicate 168 0) 0 st3 := by
  have e : oldD st3 K0 = freshD := rfl
  refine ⟨List.length_replicate .., fun j => by rw [getD_zeros]; omega, fun j _ => getD_zeros _ _, st3_ok, rfl, .inr ⟨rfl, rfl⟩, by simp [st3], fun j => ?_, ?_, by omega, .inl ⟨rfl, by rw [e]; rfl⟩, fun h => absurd (getD_zeros _ _) h⟩
  · rw [e, cov_fresh, getD_zeros]
    simp
  · rw [e]
    simp [freshD]
theorem last_facts : keyP lastP = K0 ∧ lastP.h.wf ∧ bErr lastP = 0 ∧ ¬ (lastP.h.off = 0 ∧ lastP.h.mf = false) ∧ endI lastP = 168 ∧ lastP.h.mf = false ∧ lastP.h.off = 160 ∧ lastP.body = List.replicate 8 250 :=
  ⟨rfl, piece_wf (by omega) (by omega) (by omega), piece_may (by omega) (by omega) (by omega), by simp [lastP, pieceP], by simp [lastP, pieceP, endI], rfl, rfl, rfl⟩
/-- The last piece, laid onto what has come. -/
theorem last_taken {D : Dg} (hok : D.ok) (hs : D.bytes.length ≤ 168) (hf : D.far ≤ 168) (hl : D.length = -1) (hc : ∀ j, 160 ≤ j → cov D j = none) :
    clashB D lastP = false ∧ Takes D lastP ∧ (takenD D lastP).length = 168 ∧ (takenD D lastP).bytes.length = 168 ∧ (∀ j, cov (takenD D lastP) j = if j < 160 then cov D j else if j < 168 then some 250 else none) ∧ (takenD D lastP).first = D.first ∧ (takenD D lastP).h = D.h ∧ (takenD D lastP).opts = D.opts := by
  obtain ⟨_, f1, f2, f3, f4, f5, f6, f7⟩ := last_facts
  have T := takes hok f2 f1 f3
  refine ⟨?_, T, ?_, ?_, fun j => ?_, ?_, ?_, ?_⟩
  · unfold clashB
    rw [if_neg (by omega), f5, f4, decide_eq_false (by omega)]; rfl
  · show (if lastP.h.mf then D.length else endI lastP) = 168
    rw [f5, f4]; rfl
  · rw [T.size]
    unfold takenN
    rw [f4]
    split
    · rfl
    · omega
  · rw [T.cov j, f6, f7]
    show (cov D j).or (if 160 ≤ j then (List.replicate 8 (250 : Int))[j - 160]? else none) = _
    by_cases hj : j < 160
    · rw [if_pos hj, if_neg (by omega)]; simp
    · rw [if_neg hj, if_pos (by omega), hc j (by omega)]
      by_cases h2 : j < 168
      · rw [if_pos h2, List.getElem?_replicate, if_pos (by omega)]; rfl
      · rw [if_neg h2, List.getElem?_replicate, if_neg (by omega)]; rfl
  · show (if lastP.h.off = 0 then true else D.first) = D.first
    rw [f6]; rfl
  · show (if lastP.h.off = 0 ∧ D.first = false then lastP.h else D.h) = D.h
    rw [if_neg (by rw [f6]; omega)]
  · show (if lastP.h.off = 0 ∧ D.first = false then lastP.opts else D.opts) = D.opts
    rw [if_neg (by rw [f6]; omega)]
theorem first_begin1 {q : Pk} {r : Int} {st' : ASt} (hA : AddRel st3 lastP q r st') : r = 52 ∧ FInv true 0 (List.replicate 168 0) 0 st' := by
  obtain ⟨f0, f1, f2, f3, f4, f5, f6, f7⟩ := last_facts
  have e : oldD st3 K0 = freshD := rfl
  obtain ⟨c1, T, c2, c3, c4, c5, c6, c7⟩ := last_taken freshD_ok (by simp [freshD]) (by simp [freshD]) rfl (fun j _ => cov_fresh j)
  have hw : wholeB (takenD freshD lastP) = false := by
    unfold wholeB
    have h1 : (takenD freshD lastP).count ≠ (takenD freshD lastP).length := by
      rw [c2, T.ok.count]
      intro h
      have hlen := T.ok.len
      have := (nz_all (takenD freshD lastP).have_).1 (by omega) 0 (by omega)
      apply this
      rw [← cov_none, c4 0, if_pos (by omega), cov_fresh]
    simp [h1]
  rcases hA with ⟨h, _⟩ | ⟨_, h, _⟩ | ⟨_, _, hA⟩
  · exact absurd f2 h
  · exact absurd h f3
  rw [f0, e] at hA
  rcases hA with ⟨h, _⟩ | ⟨_, h, _⟩ | ⟨_, h, _⟩ | ⟨_, _, h1, h2, d, i', rfl⟩
  · rw [c1] at h; cases h
  · rw [hw] at h; cases h
  · rw [hw] at h; cases h
  · refine ⟨h1, ?_⟩
    have hold : oldD (kept st3 lastP d i') K0 = newD st3 lastP i' := old_kept _ _ _ _ f0
    have e1 : ∀ j, cov (newD st3 lastP i') j = cov (takenD freshD lastP) j := fun j => rfl
    refine ⟨List.length_replicate .., fun j => by rw [getD_zeros]; omega, fun j _ => getD_zeros _ _, kept_ok st3_ok f2 f1 f3 (.inr (by simp [st3])) d i', rfl, .inl ⟨?_, rfl⟩, ?_, fun j => ?_, ?_, by omega, .inl ⟨rfl, ?_⟩, fun h => absurd (getD_zeros _ _) h⟩
    · simp [kept, f0, updK_same]
    · simp [kept, st3]
    · rw [hold, e1, c4 j, getD_zeros, cov_fresh]
      simp
    · rw [hold, if_pos rfl]
      exact ⟨c3, c2⟩
    · rw [hold]
      exact c5
theorem first_end {i : Nat} {wl : List Int} {ttl : Int} {st : ASt} (F : FInv false i wl ttl st) (hall : ∀ j < 160, 0 < wl.getD j 0) {q : Pk} {r : Int} {st' : ASt} (hA : AddRel st lastP q r st') : r = 0 ∧ Good1 q wl ttl := by
  obtain ⟨f0, f1, f2, f3, f4, f5, f6, f7⟩ := last_facts
  obtain ⟨D0, hD0⟩ : ∃ D0, D0 = oldD st K0 := ⟨_, rfl⟩
  have hok0 : D0.ok := by rw [hD0]; exact old_ok F.ok
  have hs := F.sz
  rw [if_neg (by simp), ← hD0] at hs
  obtain ⟨c1, T, c2, c3, c4, c5, c6, c7⟩ := last_taken hok0 (by omega) (by omega) hs.2.1 (fun j hj => by
    have := F.cov j
    rw [← hD0, if_neg (by omega), if_neg (by simp)] at this
    exact this)
  have ht := F.z (by have := hall 0 (by omega); omega)
  have hh := F.hd
  rw [← hD0] at hh
  rcases hh with ⟨h, _⟩ | ⟨_, h1, h2, h3⟩
  · exact absurd h ht
  obtain ⟨g1, g2, g3⟩ := good_whole (wl := wl) T.ok c3 c2 (fun j => by
    rw [c4 j]
    by_cases hj : j < 160
    · rw [if_pos hj, if_pos hj]
      have := F.cov j
      rw [← hD0, if_pos hj, if_neg (by have := hall j hj; omega)] at this
      exact this
    · rw [if_neg hj, if_neg hj]) (by rw [c6, h2]) (by rw [c7, h3])
  rcases hA with ⟨h, _⟩ | ⟨_, h, _⟩ | ⟨_, _, hA⟩
  · exact absurd f2 h
  · exact absurd h f3
  rw [f0, ← hD0] at hA
  rcases hA with ⟨h, _⟩ | ⟨_, _, h, _⟩ | ⟨_, _, _, h1, h2, _⟩ | ⟨_, h, _⟩
  · rw [c1] at h; cases h
  · exact absurd g2 h
  · rw [h2]; exact ⟨h1, g3⟩
  · rw [g1] at h; cases h
theorem first_step1 {lf : Bool} {i : Nat} {wl : List Int} {ttl : Int} {st : ASt} (F : FInv lf i wl ttl st) {off n : Nat} {c t : Int} (hn : 1 ≤ n) (ho : off + n ≤ 20) (hc : 1 ≤ c ∧ c ≤ 41) (ht : 1 ≤ t ∧ t < 256) (hi : i ≤ 100)
    {wl' : List Int} (hl' : wl'.length = 168) (hw' : ∀ j, wl'.getD j 0 = if 8 * off ≤ j ∧ j < 8 * (off + n) ∧ wl.getD j 0 = 0 then c else wl.getD j 0)
    {q : Pk} {r : Int} {st' : ASt} (hA : AddRel st (pieceP 5 off n c true t) q r st') {tt : Int} (htt : tt = if off = 0 ∧ ttl = 0 then t else ttl) {fl : Bool} (hfl : fl = true ↔ (lf = true ∧ ∀ j < 160, 0 < wl'.getD j 0)) :
    (fl = true → r = 0 ∧ Good1 q wl' tt) ∧ (fl = false → r = 52 ∧ FInv lf (i + 1) wl' tt st') := by
  have h := first_step F hn ho hc ht hi hl' hw' hA
  rw [← htt] at h
  refine ⟨fun hc => ?_, fun hc => ?_⟩
  · rw [if_pos (hfl.1 hc)] at h
    exact h
  · rw [if_neg (fun h2 => by have h3 := hfl.2 h2; rw [hc] at h3; cases h3)] at h
    exact h
end Go.Proofs.Ytelfemhnijnhfaa.Fr
