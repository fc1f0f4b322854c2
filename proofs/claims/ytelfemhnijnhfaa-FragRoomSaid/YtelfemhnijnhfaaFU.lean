/- The plain law of cutting: the pieces; no condition. -/
import Derived.Test.YtelfemhnijnhfaaFO
namespace Go.Proofs.Ytelfemhnijnhfaa.Fr
open Go.RowKit Go.Maps
set_option linter.unusedVariables false
set_option linter.unusedSimpArgs false

/-- A piece may be. -/
theorem bErr_may {q : Pk} (ha : areaB q.opts = true) (h0 : 0 ≤ q.h.off) (h1 : q.h.off ≤ 65528) (h8 : q.h.off % 8 = 0) (hb : q.h.off + q.body.length ≤ 65535) (hs : (20 + q.opts.length + q.body.length : Int) ≤ 65535) (hm : q.h.mf = true → 0 < q.body.length ∧ q.body.length % 8 = 0) : bErr q = 0 := by
  have h2 : ordB q.h.off q.body.length q.h.mf = true := by
    unfold ordB
    rw [Bool.and_eq_true, decide_eq_true_eq]
    refine ⟨⟨h0, h1, h8, hb⟩, ?_⟩
    cases hmf : q.h.mf with
    | false => rfl
    | true =>
      obtain ⟨m1, m2⟩ := hm hmf
      simp only [Bool.not_true, Bool.false_or, decide_eq_true_eq]
      omega
  unfold bErr
  rw [if_neg (by rw [ha]; decide), if_neg (by rw [h2]; decide), if_neg (by omega)]
/-- What the rest of a cutting says of its first piece. -/
theorem splitL_first {p : Pk} {L ol : List Int} {mtu : Int} {k pos : Nat} {q : Pk} {rest : List Pk} (h68 : 68 ≤ mtu) (hol : ol.length ≤ 40) (hL : L.length ≤ 40) (hp : pos ≤ p.body.length) (hk : p.body.length - pos < k) (h : splitL p L mtu k pos ol = q :: rest) :
    q.opts = ol ∧ q.h.off = p.h.off + pos ∧ (q.h.mf = p.h.mf ∨ q.h.mf = true) ∧ q.h = { p.h with off := p.h.off + pos, mf := q.h.mf } ∧ q.body = (p.body.drop pos).take q.body.length ∧ pos + q.body.length ≤ p.body.length ∧ (20 + ol.length + q.body.length : Int) ≤ mtu ∧
    ((rest = [] ∧ q.h.mf = p.h.mf ∧ pos + q.body.length = p.body.length ∧ (20 + ol.length + (p.body.length - pos) : Int) ≤ mtu) ∨
     (rest ≠ [] ∧ q.h.mf = true ∧ q.body.length % 8 = 0 ∧ 8 ≤ q.body.length ∧ mtu < 20 + ol.length + q.body.length + 8 ∧ (mtu : Int) < 20 + ol.length + (p.body.length - pos) ∧ ∃ k', rest = splitL p L mtu k' (pos + q.body.length) L ∧ p.body.length - (pos + q.body.length) < k')) := by
  obtain ⟨k, rfl⟩ : ∃ k', k = k' + 1 := ⟨k - 1, by omega⟩
  by_cases hf : (p.body.length : Int) - pos ≤ mtu - 20 - ol.length
  · rw [splitL_last hf] at h
    simp only [List.cons.injEq] at h
    obtain ⟨rfl, rfl⟩ := h
    dsimp only
    have hl : (p.body.drop pos).length = p.body.length - pos := List.length_drop
    refine ⟨rfl, rfl, .inl rfl, rfl, ?_, by rw [hl]; omega, by rw [hl]; omega, .inl ⟨rfl, rfl, by rw [hl]; omega, by omega⟩⟩
    rw [List.take_of_length_le (Nat.le_refl _)]
  · obtain ⟨n, hn⟩ : ∃ n : Nat, (n : Int) = (mtu - 20 - ol.length) / 8 * 8 := ⟨((mtu - 20 - ol.length) / 8 * 8).toNat, by omega⟩
    rw [splitL_more hf hn] at h
    simp only [List.cons.injEq] at h
    obtain ⟨rfl, rfl⟩ := h
    dsimp only
    have hl : ((p.body.drop pos).take n).length = n := by rw [List.length_take, List.length_drop]; omega
    rw [hl]
    refine ⟨rfl, rfl, .inr rfl, rfl, rfl, by omega, by omega, .inr ⟨?_, rfl, by omega, by omega, by omega, by omega, k, rfl, by omega⟩⟩
    obtain ⟨k, rfl⟩ : ∃ k', k = k' + 1 := ⟨k - 1, by omega⟩
    rw [splitL]
    split
    · simp
    · simp
theorem splitL_some {p : Pk} {L ol : List Int} {mtu : Int} {k pos : Nat} : splitL p L mtu (k + 1) pos ol ≠ [] := by
  rw [splitL]
  split
  · simp
  · simp
/-- One piece just where the packet fits. -/
theorem splitL_one {p : Pk} {L ol : List Int} {mtu : Int} {k : Nat} (h68 : 68 ≤ mtu) (hol : ol.length ≤ 40) (hL : L.length ≤ 40) (hk : p.body.length < k) : (splitL p L mtu k 0 ol).length = 1 ↔ (20 + ol.length + p.body.length : Int) ≤ mtu := by
  obtain ⟨k0, hk0⟩ : ∃ k', k = k' + 1 := ⟨k - 1, by omega⟩
  match h : splitL p L mtu k 0 ol with
  | [] => rw [hk0] at h; exact absurd h splitL_some
  | q :: rest =>
    obtain ⟨_, _, _, _, _, _, _, hr⟩ := splitL_first h68 hol hL (Nat.zero_le _) (by omega) h
    rcases hr with ⟨rfl, _, _, hs⟩ | ⟨hr, _, _, _, _, hs, _⟩
    · simp only [List.length_cons, List.length_nil, true_iff]; simpa using hs
    · constructor
      · intro h1
        simp only [List.length_cons] at h1
        exact absurd (List.eq_nil_of_length_eq_zero (by omega)) hr
      · intro h1
        simp at hs
        omega
end Go.Proofs.Ytelfemhnijnhfaa.Fr
