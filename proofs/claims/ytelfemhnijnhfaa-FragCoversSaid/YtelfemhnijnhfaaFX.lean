/- The plain law of FragCovers' round; no condition. -/
import Derived.Test.YtelfemhnijnhfaaFW
namespace Go.Proofs.Ytelfemhnijnhfaa.Fr
open Go.RowKit Go.Maps
set_option linter.unusedVariables false
set_option linter.unusedSimpArgs false

/-- Where the pieces stand ahead of the piece at i. -/
def CoverAt (p : Pk) (mt : Int) (l : List PE) (i pos : Nat) : Prop :=
  (i = l.length ∧ pos = p.body.length) ∨ ∃ k ol, (l.drop i).map (·.1) = splitL p (copiedO p.opts) mt k pos ol ∧ p.body.length - pos < k ∧ areaB ol = true ∧ ol.length ≤ 40 ∧ (i = 0 → ol = p.opts) ∧ i < l.length ∧ pos % 8 = 0 ∧ pos ≤ p.body.length ∧ (pos < p.body.length ∨ (i = 0 ∧ pos = 0))
theorem CoverAt.step {p : Pk} {mt : Int} {l : List PE} {i pos : Nat} (h : CoverAt p mt l i pos) (hi : i < l.length) {e : PE} (he : l[i]? = some e) (h68 : 68 ≤ mt) (hmt : mt ≤ 2000) (ha : areaB p.opts = true) (hmf : p.h.mf = false) (hof : p.h.off = 0) (hb : p.body.length ≤ 3000) :
    e.1.h = { p.h with off := pos, mf := e.1.h.mf } ∧ e.1.body = (p.body.drop pos).take e.1.body.length ∧ pos + e.1.body.length ≤ p.body.length ∧ (20 + e.1.opts.length + e.1.body.length : Int) ≤ mt ∧ e.1.opts.length ≤ 40 ∧ bErr e.1 = 0 ∧ (i = 0 → e.1.opts = p.opts) ∧ (pos < p.body.length ∧ 0 < e.1.body.length ∨ (i = 0 ∧ pos = 0 ∧ p.body.length = 0)) ∧
    ((i + 1 = l.length ∧ e.1.h.mf = false) ∨ (i + 1 < l.length ∧ e.1.h.mf = true ∧ e.1.body.length % 8 = 0 ∧ mt < 20 + e.1.opts.length + e.1.body.length + 8)) ∧ CoverAt p mt l (i + 1) (pos + e.1.body.length) := by
  rcases h with ⟨h1, _⟩ | ⟨k, ol, hs, hk, hao, hol, h0, _, h8, hp, hpp⟩
  · omega
  have hd : l.drop i = e :: l.drop (i + 1) := by
    obtain ⟨hi', rfl⟩ := List.getElem?_eq_some_iff.1 he
    exact List.drop_eq_getElem_cons hi'
  rw [hd, List.map_cons] at hs
  have hcl := copied_len ha
  have hL40 : p.opts.length ≤ 40 := by
    unfold areaB at ha
    simp only [Bool.and_eq_true, decide_eq_true_eq] at ha
    exact ha.1.1
  obtain ⟨f1, f2, f3, f4, f5, f6, f7, f8⟩ := splitL_first h68 hol (by omega) hp hk hs.symm
  have hh : e.1.h = { p.h with off := pos, mf := e.1.h.mf } := by rw [f4, hof]; simp
  have hoff : e.1.h.off = pos := by rw [hh]
  rw [f1]
  rcases f8 with ⟨r1, r2, r3, r4⟩ | ⟨r1, r2, r3, r4, r5, r6, k', r7, r8⟩
  · have hlen : i + 1 = l.length := by
      have := congrArg List.length r1
      rw [List.length_map, List.length_drop] at this
      simp at this
      omega
    refine ⟨hh, f5, f6, f7, hol, bErr_may (by rw [f1]; exact hao) (by omega) (by omega) (by omega) (by omega) (by rw [f1]; omega) (fun h => by rw [r2, hmf] at h; cases h), h0, by omega, .inl ⟨hlen, by rw [r2, hmf]⟩, .inl ⟨hlen, by omega⟩⟩
  · have hlen : i + 1 < l.length := by
      have : ((l.drop (i + 1)).map (fun x => x.1)).length ≠ 0 := fun h => r1 (List.eq_nil_of_length_eq_zero h)
      rw [List.length_map, List.length_drop] at this
      omega
    refine ⟨hh, f5, f6, f7, hol, bErr_may (by rw [f1]; exact hao) (by omega) (by omega) (by omega) (by omega) (by rw [f1]; omega) (fun _ => by omega), h0, by omega, .inr ⟨hlen, r2, r3, r5⟩, .inr ⟨k', copiedO p.opts, r7, r8, copied_area ha, by omega, fun h => by omega, hlen, by omega, f6, by omega⟩⟩
theorem splitE_zero {p : Pk} {mt : Int} (h68 : 68 ≤ mt) (hb : bErr p = 0) (hd : p.h.df = false) : splitE p mt = 0 := by
  unfold splitE
  rw [if_neg (by omega), if_neg (by rw [hb]; simp), hd]
  split <;> rfl
theorem splitE_df {p : Pk} {mt : Int} (h68 : 68 ≤ mt) (hb : bErr p = 0) (hd : p.h.df = true) : splitE p mt = if (20 + p.opts.length + p.body.length : Int) ≤ mt then 0 else 51 := by
  unfold splitE
  rw [if_neg (by omega), if_neg (by rw [hb]; simp), hd]
  rfl
theorem CoverAt.start {p : Pk} {mt : Int} {l : List PE} (h : l.map (·.1) = splitP p mt) (he : splitE p mt = 0) (ha : areaB p.opts = true) : CoverAt p mt l 0 0 ∧ 0 < l.length := by
  unfold splitP at h
  rw [if_neg (by rw [he]; simp)] at h
  have hL40 : p.opts.length ≤ 40 := by
    unfold areaB at ha
    simp only [Bool.and_eq_true, decide_eq_true_eq] at ha
    exact ha.1.1
  have hpos : 0 < l.length := by
    have h1 := congrArg List.length h
    rw [List.length_map] at h1
    have h2 : (splitL p (copiedO p.opts) mt (p.body.length + 1) 0 p.opts).length ≠ 0 := fun h => splitL_some (List.eq_nil_of_length_eq_zero h)
    omega
  refine ⟨.inr ⟨p.body.length + 1, p.opts, ?_, by omega, ha, hL40, fun _ => rfl, hpos, rfl, Nat.zero_le _, by omega⟩, hpos⟩
  rw [List.drop_zero]
  exact h
theorem cover_one {p : Pk} {mt : Int} {l : List PE} (h : l.map (·.1) = splitP p mt) (he : splitE p mt = 0) (h68 : 68 ≤ mt) (ha : areaB p.opts = true) : l.length = 1 ↔ (20 + p.opts.length + p.body.length : Int) ≤ mt := by
  have hL40 : p.opts.length ≤ 40 := by
    unfold areaB at ha
    simp only [Bool.and_eq_true, decide_eq_true_eq] at ha
    exact ha.1.1
  have hcl := copied_len ha
  unfold splitP at h
  rw [if_neg (by rw [he]; simp)] at h
  have h1 := congrArg List.length h
  rw [List.length_map] at h1
  rw [h1]
  exact splitL_one h68 hL40 (by omega) (by omega)
theorem splitP_whole {p : Pk} {mt : Int} (hs : (20 + p.opts.length + p.body.length : Int) ≤ mt) (h68 : 68 ≤ mt) (hb : bErr p = 0) : splitP p mt = [p] := by
  have he : splitE p mt = 0 := by
    unfold splitE
    rw [if_neg (by omega), if_neg (by rw [hb]; simp), if_pos hs]
  unfold splitP
  rw [if_neg (by rw [he]; simp), splitL_last (by simp; omega)]
  simp
end Go.Proofs.Ytelfemhnijnhfaa.Fr
