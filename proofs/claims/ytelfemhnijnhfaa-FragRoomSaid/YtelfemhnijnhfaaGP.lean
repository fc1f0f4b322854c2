/- The plain law of taking pieces: lengths, counts, what covers what; no program in sight; no condition. -/
import Derived.Test.YtelfemhnijnhfaaGF
namespace Go.Proofs.Ytelfemhnijnhfaa.Fr
open Go.RowKit
set_option linter.unusedVariables false
set_option linter.unusedSimpArgs false

theorem pad_eq (N : Nat) (l : List Int) : splice (List.replicate N 0) 0 l = l ++ List.replicate (N - l.length) 0 := by
  unfold splice
  simp
def nz (l : List Int) : Nat := (l.filter (fun x => x != 0)).length
theorem nz_le (l : List Int) : nz l ≤ l.length := List.length_filter_le _ _
theorem nz_pad (l : List Int) (k : Nat) : nz (l ++ List.replicate k 0) = nz l := by
  unfold nz
  rw [List.filter_append, List.length_append]
  have : (List.replicate k (0 : Int)).filter (fun x => x != 0) = [] := by
    rw [List.filter_eq_nil_iff]
    intro x hx
    rw [List.eq_of_mem_replicate hx]
    simp
  rw [this]
  simp
theorem nz_set : ∀ (l : List Int) (a : Nat), l[a]? = some 0 → nz (l.set a 1) = nz l + 1
  | [], a, h => by simp at h
  | x :: r, 0, h => by
    simp at h
    subst h
    simp [nz]
  | x :: r, a + 1, h => by
    have := nz_set r a (by simpa using h)
    unfold nz at this ⊢
    rw [List.set_cons_succ, List.filter_cons, List.filter_cons]
    split <;> simp [this]
def covS (s : List Int × List Int × Int) (j : Nat) : Option Int := if s.2.1.getD j 0 = 0 then none else some (s.1.getD j 0)
theorem lay_law : ∀ (cs : List Int) (a : Nat) (s : List Int × List Int × Int), a + cs.length ≤ s.2.1.length → s.1.length = s.2.1.length → s.2.2 = nz s.2.1 →
    (lay a cs s).2.2 = nz (lay a cs s).2.1 ∧ ∀ j, covS (lay a cs s) j = (covS s j).or (if a ≤ j then cs[j - a]? else none)
  | [], a, s, h1, h2, h3 => by
    refine ⟨h3, fun j => ?_⟩
    simp [lay]
  | c :: cs, a, s, h1, h2, h3 => by
    simp only [List.length_cons] at h1
    unfold lay
    have ha : a < s.2.1.length := by omega
    have hg : s.2.1[a]? = some (s.2.1.getD a 0) := by rw [List.getD_eq_getElem?_getD, List.getElem?_eq_getElem ha]; rfl
    by_cases h0 : s.2.1.getD a 0 = 0
    · rw [if_pos h0]
      rw [h0] at hg
      obtain ⟨q1, q2⟩ := lay_law cs (a + 1) (s.1.set a c, s.2.1.set a 1, s.2.2 + 1) (by simp; omega) (by simp; exact h2) (by
        show s.2.2 + 1 = ((nz (s.2.1.set a 1) : Nat) : Int)
        rw [nz_set _ _ hg, h3]; omega)
      refine ⟨q1, fun j => ?_⟩
      rw [q2 j]
      by_cases e : j = a
      · subst e
        have e1 : covS (s.1.set j c, s.2.1.set j 1, s.2.2 + 1) j = some c := by
          unfold covS
          simp [List.getD_eq_getElem?_getD, ha, show j < s.1.length by omega]
        have e2 : covS s j = none := by unfold covS; rw [if_pos h0]
        rw [e1, e2]
        simp
      · have e1 : covS (s.1.set a c, s.2.1.set a 1, s.2.2 + 1) j = covS s j := by
          unfold covS
          simp [List.getD_eq_getElem?_getD, List.getElem?_set_ne (Ne.symm e)]
        rw [e1]
        by_cases hj : a ≤ j
        · rw [if_pos hj, if_pos (by omega), show j - a = (j - (a + 1)) + 1 by omega, List.getElem?_cons_succ]
        · rw [if_neg hj, if_neg (by omega)]
    · rw [if_neg h0]
      obtain ⟨q1, q2⟩ := lay_law cs (a + 1) s (by omega) h2 h3
      refine ⟨q1, fun j => ?_⟩
      rw [q2 j]
      by_cases e : j = a
      · subst e
        have e2 : covS s j = some (s.1.getD j 0) := by unfold covS; rw [if_neg h0]
        rw [e2]
        simp
      · by_cases hj : a ≤ j
        · rw [if_pos hj, if_pos (by omega), show j - a = (j - (a + 1)) + 1 by omega, List.getElem?_cons_succ]
        · rw [if_neg hj, if_neg (by omega)]
/-- Which bytes a datagram has. -/
def cov (D : Dg) (j : Nat) : Option Int := covS (D.bytes, D.have_, D.count) j
theorem covS_pad (l m : List Int) (c : Int) (k k' j : Nat) (h : l.length = m.length) : covS (l ++ List.replicate k 0, m ++ List.replicate k' 0, c) j = covS (l, m, c) j := by
  unfold covS
  simp only [List.getD_eq_getElem?_getD]
  by_cases hj : j < m.length
  · rw [List.getElem?_append_left hj, List.getElem?_append_left (by omega)]
  · have e1 : (m ++ List.replicate k' (0 : Int))[j]?.getD 0 = 0 := by
      rw [List.getElem?_append_right (by omega)]
      by_cases h2 : j - m.length < k'
      · simp [h2]
      · rw [List.getElem?_eq_none (by simp; omega)]; rfl
    have e2 : m[j]?.getD 0 = 0 := by rw [List.getElem?_eq_none (by omega)]; rfl
    rw [if_pos e1, if_pos e2]
structure Dg.ok (D : Dg) : Prop where
  len : D.have_.length = D.bytes.length
  le : D.bytes.length ≤ 65535
  count : D.count = nz D.have_
  far0 : 0 ≤ D.far
  far9 : D.far ≤ 65535
  length : D.length = -1 ∨ (0 < D.length ∧ D.length ≤ D.bytes.length)
  opts : D.opts.length ≤ 40
  wf : D.h.wf
  u0 : 0 ≤ D.until_
  u9 : D.until_ ≤ 9223372036854775807
theorem Dg.ok.c0 {D : Dg} (h : D.ok) : 0 ≤ D.count ∧ D.count ≤ 65535 := by
  have h1 := nz_le D.have_
  have h2 := h.len
  have h3 := h.le
  rw [h.count]
  omega
def freshD : Dg := ⟨0, 0, 0, [], [], 0, -1, 0, false, ⟨0, 0, false, false, 0, 0, 0, 0, 0⟩, []⟩
theorem freshD_ok : freshD.ok := ⟨rfl, by simp [freshD], rfl, by simp [freshD], by simp [freshD], .inl rfl, by simp [freshD], ⟨by simp [freshD], by simp [freshD], by simp [freshD], by simp [freshD], by simp [freshD], by simp [freshD], by simp [freshD]⟩, by simp [freshD], by simp [freshD]⟩
theorem takenN_le (D : Dg) (p : Pk) (h0 : 0 ≤ p.h.off) : p.h.off.toNat + p.body.length ≤ takenN D p ∧ D.bytes.length ≤ takenN D p := by
  unfold takenN endI
  split <;> omega
structure Takes (D : Dg) (p : Pk) : Prop where
  ok : (takenD D p).ok
  cov : ∀ j, cov (takenD D p) j = (cov D j).or (if p.h.off.toNat ≤ j then p.body[j - p.h.off.toNat]? else none)
  size : (takenD D p).bytes.length = takenN D p
theorem takes {D : Dg} (h : D.ok) {p : Pk} (hb : bErr p = 0) (hw : p.h.wf) (hn : ¬ (p.h.off = 0 ∧ p.h.mf = false)) : Takes D p := by
  obtain ⟨_, _, b1, _, b2, b3, b4, b5, b6, b7⟩ := bErr_zero hb
  obtain ⟨n1, n2⟩ := takenN_le D p b2
  have hpos : 0 < endI p := by
    unfold endI
    cases hm : p.h.mf
    · have : p.h.off ≠ 0 := fun e => hn ⟨e, hm⟩
      omega
    · have := (b7 hm).1
      omega
  have hend : endI p ≤ takenN D p := by unfold endI; omega
  have hN : takenN D p ≤ 65535 := by
    have := h.le
    unfold takenN endI
    split <;> omega
  have hl := h.len
  have key : (layD D p).2.2 = nz (layD D p).2.1 ∧ ∀ j, covS (layD D p) j = (covS (splice (List.replicate (takenN D p) 0) 0 D.bytes, splice (List.replicate (takenN D p) 0) 0 D.have_, D.count) j).or (if p.h.off.toNat ≤ j then p.body[j - p.h.off.toNat]? else none) := by
    unfold layD
    refine lay_law p.body p.h.off.toNat _ ?_ ?_ ?_
    · rw [pad_eq, pad_eq]; simp; omega
    · rw [pad_eq, pad_eq]; simp; omega
    · show D.count = ((nz (splice (List.replicate (takenN D p) 0) 0 D.have_) : Nat) : Int)
      rw [pad_eq, nz_pad, h.count]
  have hlen := lay_len p.body p.h.off.toNat (splice (List.replicate (takenN D p) 0) 0 D.bytes, splice (List.replicate (takenN D p) 0) 0 D.have_, D.count)
  have e1 : (layD D p).1.length = takenN D p := by
    unfold layD
    rw [hlen.1]
    simp only [pad_eq]
    simp; omega
  have e2 : (layD D p).2.1.length = takenN D p := by
    unfold layD
    rw [hlen.2]
    simp only [pad_eq]
    simp; omega
  refine ⟨⟨?_, ?_, key.1, ?_, ?_, ?_, ?_, ?_, h.u0, h.u9⟩, fun j => ?_, e1⟩
  · show (layD D p).2.1.length = (layD D p).1.length
    rw [e1, e2]
  · show (layD D p).1.length ≤ 65535
    rw [e1]; exact hN
  · show 0 ≤ (if D.far < endI p then endI p else D.far)
    have := h.far0
    split <;> omega
  · show (if D.far < endI p then endI p else D.far) ≤ 65535
    have := h.far9
    split <;> omega
  · show (if p.h.mf then D.length else endI p) = -1 ∨ (0 < (if p.h.mf then D.length else endI p) ∧ (if p.h.mf then D.length else endI p) ≤ ((layD D p).1.length : Int))
    rw [e1]
    split
    · rcases h.length with h1 | h1
      · exact .inl h1
      · exact .inr ⟨h1.1, by omega⟩
    · exact .inr ⟨hpos, hend⟩
  · show (if p.h.off = 0 ∧ D.first = false then p.opts else D.opts).length ≤ 40
    split
    · exact b1
    · exact h.opts
  · show (if p.h.off = 0 ∧ D.first = false then p.h else D.h).wf
    split
    · exact hw
    · exact h.wf
  · have := key.2 j
    rw [pad_eq, pad_eq, covS_pad _ _ _ _ _ _ hl.symm] at this
    exact this
end Go.Proofs.Ytelfemhnijnhfaa.Fr
