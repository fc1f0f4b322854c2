/- TrieAmid: puts and deletes within a range are not seen by it, the next range sees them; no condition. -/
import Derived.Test.YtmklkdhpbehfeaaRows
import Derived.Test.YtmklkdhpbehfeaaTOpen
import Derived.Test.YtmklkdhpbehfeaaOO
import Derived.Test.YtmklkdhpbehfeaaAMZ
import Derived.WalkKit
import Derived.ProofKit
import Derived.OpenShut
import Derived.ChangeOld
import Derived.Below
import Derived.SizedLaws
namespace Go.Proofs.Ytmklkdhpbehfeaa.trieAmid
open Go.ChangeShapes Go.WideShapes Go.ChangeAt Go.RowKit Go.Proofs.Ytmklkdhpbehfeaa.Tri
set_option linter.unusedVariables false
theorem own : ownKnob Try.prog.godebug = none := by kernel_rfl
theorem laidOut : laidOutB Try.prog = true := by kernel_rfl
set_option maxRecDepth 100000 in
theorem lifted (os : Os) (started : os.Started) (H : Type) (enc : TypeId × Value → H) :
    ReturnsInHanded {} Try.checked os 13 .any (Rows.trieAmidSpec.pre6 enc Try.prog Try.f13 Rows.trieAmidRow.domain false) (Rows.trieAmidSpec.post enc Try.prog Try.f13 false true false false) := by
  refine returnsInHanded_of_change_sized (C := Try.checked) own started (by kernel_rfl) Try.func13
    (ChangeSpec.witness6 (enc := enc) (C := Try.checked) false ⟨#[], #[.slice none 0 0, .agg #[.int .u32 0, .int .i64 0], .slice none 0 0], []⟩ 8 (by kernel_rfl) (by kernel_rfl) (by kernel_rfl) (by kernel_rfl)) ?_
  intro W base args ds gs before hval0 hW hcnd hsz0 _
  have hsz : (DataW.weightsEach Try.prog (Try.f13.params.toList ++ Rows.trieAmidSpec.plain.varTypes Try.prog) (ds ++ gs)).all (· ≤ reachBytes) = true := hsz0
  have hval : ∀ (j : Nat) t v, Try.f13.params[j]? = some t → args[j]? = some v → Value.okWide Try.prog W .any base t v := hval0
  have hW' := hW
  obtain ⟨p, q, hA0, hV, rfl, hfz, hnd⟩ := hW
  have hA : DataW.TrodAll enc Try.prog W 0 (fun _ => true) true Try.f13.params.toList args.toList ds p := hA0
  rw [Try.params13] at hA hval hsz
  obtain ⟨v0, vs0, d0, ds0, p0, q0, hargs, rfl, rfl, h0, r0⟩ := trodAll_cons hA
  obtain ⟨v1, vs1, d1, ds1, p1, q1, rfl, rfl, rfl, h1, r1⟩ := trodAll_cons r0
  obtain ⟨v2, vs2, d2, ds2, p2, q2, rfl, rfl, rfl, h2, r2⟩ := trodAll_cons r1
  obtain ⟨rfl, rfl, rfl⟩ := trodAll_nil r2
  obtain rfl : args = #[v0, v1, v2] := by cases args; simp_all
  obtain ⟨rfl, rfl⟩ := trodVars_none hV
  obtain ⟨a0, len0, cap0, rfl⟩ := okWide_slice Try.underlying73 (hval 0 73 v0 rfl rfl)
  obtain ⟨a2, len2, cap2, rfl⟩ := okWide_slice Try.underlying73 (hval 2 73 v2 rfl rfl)
  have k0 := h0
  have lt0 : ∀ x ∈ p0, x.block < W.heap.size := by obtain ⟨m, hm⟩ := k0; exact DataW.trod_lt m _ _ _ hm
  have k1 := h1
  have lt1 : ∀ x ∈ p1, x.block < W.heap.size := by obtain ⟨m, hm⟩ := k1; exact DataW.trod_lt m _ _ _ hm
  have k2 := h2
  have lt2 : ∀ x ∈ p2, x.block < W.heap.size := by obtain ⟨m, hm⟩ := k2; exact DataW.trod_lt m _ _ _ hm
  obtain ⟨c01, c11, y01, y11, mm1, rfl, rfl, rfl, hy01, hy11⟩ := Go.Joins.open_agg2 Try.underlying32 (by kernel_rfl) (by kernel_rfl) (hval 1 32 v1 rfl rfl) h1
  obtain ⟨xa1, e01, _, wa1⟩ := DataW.trod_int Try.underlying30 hy01
  obtain ⟨xb1, e11, _, wb1⟩ := DataW.trod_int Try.underlying3 hy11
  simp at e01 e11
  subst e01 e11
  obtain ⟨za1, rfl, hza1⟩ := wf_u32 wa1
  have hzb1 := wf_i64 wb1
  obtain ⟨fuel0, hf0⟩ := h0
  obtain ⟨fuel2, hf2⟩ := h2
  obtain ⟨l0, hro0, hbk0⟩ := open_ops (A := a0) (len := len0) (cap := cap0) (by simpa [Value.cells] using hf0)
  obtain ⟨l2, hro2, hbk2⟩ := open_ops (A := a2) (len := len2) (cap := cap2) (by simpa [Value.cells] using hf2)
  have z0 : 48 * elemsOf d0 ≤ 140737488355328 := ops_few hsz (j := 0) rfl rfl Try.underlying73 (of_decide_eq_true (by kernel_rfl))
  have z2 : 48 * elemsOf d2 ≤ 140737488355328 := ops_few hsz (j := 2) rfl rfl Try.underlying73 (of_decide_eq_true (by kernel_rfl))
  dsimp only at hbk0 hbk2
  clear hA0 hval0 hsz0 hsz
  refine (amid_row (cap0 := cap0) (cap2 := cap2) hro0 hro2 za1 xb1 hza1 hzb1.1 hzb1.2 (by omega) (by omega)).mono fun e W' ⟨he, tt⟩ => ?_
  have bel := tt.below
  subst he
  exact ⟨_, rfl, _, _, _, [], _, [], hW', trodAll_mk1 (shut_bool Try.underlying4 _), (trodAll_cons_mk (Below.trod laidOut (by kernel_rfl) (of_decide_eq_true (by kernel_rfl)) k0 bel lt0) (trodAll_cons_mk (Below.trod laidOut (by kernel_rfl) (of_decide_eq_true (by kernel_rfl)) k1 bel lt1) (trodAll_cons_mk (Below.trod laidOut (by kernel_rfl) (of_decide_eq_true (by kernel_rfl)) k2 bel lt2) trodAll_mk0))), rfl, bel.frame _, fun h => by cases h⟩
theorem over : Rows.trieAmidRow.holds Try.pinned (OpenSpec.ofChange Rows.trieAmidSpec) :=
  OpenClaim.holds_of_wide 13 Try.f13 rfl rfl rfl rfl rfl rfl rfl ⟨rfl, rfl, rfl, rfl, rfl⟩ rfl rfl rfl rfl rfl (by kernel_rfl) Try.func13 (by kernel_rfl)
    (of_decide_eq_true (by kernel_rfl)) (by unfold Func.isWrapper; first | (rw [if_pos (by decide +kernel)]; kernel_rfl) | (rw [if_neg (by decide +kernel)]; exact ⟨rfl, rfl⟩))
    (fun os started H enc _ => lifted os started H enc)
theorem proved : Rows.TrieAmidSaid := over
#print axioms proved
end Go.Proofs.Ytmklkdhpbehfeaa.trieAmid
namespace Go.Proofs.Ytmklkdhpbehfeaa
/-- The row, under a short name, for the claim. -/
theorem trieAmid_holds : Rows.TrieAmidSaid := trieAmid.proved
end Go.Proofs.Ytmklkdhpbehfeaa
