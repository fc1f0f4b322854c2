/- TrieOrderless: what came and went on the way leaves no trace, in Nodes neither; no condition. -/
import Derived.Test.YtmklkdhpbehfeaaRows
import Derived.Test.YtmklkdhpbehfeaaTOpen
import Derived.Test.YtmklkdhpbehfeaaOB
import Derived.WalkKit
import Derived.ProofKit
import Derived.OpenShut
import Derived.ChangeOld
import Derived.Below
import Derived.SizedLaws
namespace Go.Proofs.Ytmklkdhpbehfeaa.trieOrderless
open Go.ChangeShapes Go.WideShapes Go.ChangeAt Go.RowKit Go.Proofs.Ytmklkdhpbehfeaa.Tri
set_option linter.unusedVariables false
theorem own : ownKnob Try.prog.godebug = none := by kernel_rfl
theorem laidOut : laidOutB Try.prog = true := by kernel_rfl
set_option maxRecDepth 100000 in
theorem lifted (os : Os) (started : os.Started) (H : Type) (enc : TypeId × Value → H) :
    ReturnsInHanded {} Try.checked os 7 .any (Rows.trieOrderlessSpec.pre6 enc Try.prog Try.f7 Rows.trieOrderlessRow.domain false) (Rows.trieOrderlessSpec.post enc Try.prog Try.f7 false true false false) := by
  refine returnsInHanded_of_change_sized (C := Try.checked) own started (by kernel_rfl) Try.func7
    (ChangeSpec.witness6 (enc := enc) (C := Try.checked) false ⟨#[], #[.slice none 0 0, .slice none 0 0, .slice none 0 0], []⟩ 8 (by kernel_rfl) (by kernel_rfl) (by kernel_rfl) (by kernel_rfl)) ?_
  intro W base args ds gs before hval0 hW hcnd hsz0 _
  have hsz : (DataW.weightsEach Try.prog (Try.f7.params.toList ++ Rows.trieOrderlessSpec.plain.varTypes Try.prog) (ds ++ gs)).all (· ≤ reachBytes) = true := hsz0
  have hval : ∀ (j : Nat) t v, Try.f7.params[j]? = some t → args[j]? = some v → Value.okWide Try.prog W .any base t v := hval0
  have hW' := hW
  obtain ⟨p, q, hA0, hV, rfl, hfz, hnd⟩ := hW
  have hA : DataW.TrodAll enc Try.prog W 0 (fun _ => true) true Try.f7.params.toList args.toList ds p := hA0
  rw [Try.params7] at hA hval hsz
  obtain ⟨v0, vs0, d0, ds0, p0, q0, hargs, rfl, rfl, h0, r0⟩ := trodAll_cons hA
  obtain ⟨v1, vs1, d1, ds1, p1, q1, rfl, rfl, rfl, h1, r1⟩ := trodAll_cons r0
  obtain ⟨v2, vs2, d2, ds2, p2, q2, rfl, rfl, rfl, h2, r2⟩ := trodAll_cons r1
  obtain ⟨rfl, rfl, rfl⟩ := trodAll_nil r2
  obtain rfl : args = #[v0, v1, v2] := by cases args; simp_all
  obtain ⟨rfl, rfl⟩ := trodVars_none hV
  obtain ⟨a0, len0, cap0, rfl⟩ := okWide_slice Try.underlying22 (hval 0 22 v0 rfl rfl)
  obtain ⟨a1, len1, cap1, rfl⟩ := okWide_slice Try.underlying22 (hval 1 22 v1 rfl rfl)
  obtain ⟨a2, len2, cap2, rfl⟩ := okWide_slice Try.underlying69 (hval 2 69 v2 rfl rfl)
  have k0 := h0
  have lt0 : ∀ x ∈ p0, x.block < W.heap.size := by obtain ⟨m, hm⟩ := k0; exact DataW.trod_lt m _ _ _ hm
  have k1 := h1
  have lt1 : ∀ x ∈ p1, x.block < W.heap.size := by obtain ⟨m, hm⟩ := k1; exact DataW.trod_lt m _ _ _ hm
  have k2 := h2
  have lt2 : ∀ x ∈ p2, x.block < W.heap.size := by obtain ⟨m, hm⟩ := k2; exact DataW.trod_lt m _ _ _ hm
  obtain ⟨fuel0, hf0⟩ := h0
  obtain ⟨fuel1, hf1⟩ := h1
  obtain ⟨fuel2, hf2⟩ := h2
  obtain ⟨l0, hro0, hbk0⟩ := open_px (A := a0) (len := len0) (cap := cap0) (by simpa [Value.cells] using hf0)
  obtain ⟨l1, hro1, hbk1⟩ := open_px (A := a1) (len := len1) (cap := cap1) (by simpa [Value.cells] using hf1)
  obtain ⟨l2, hro2, hbk2⟩ := open_bytes (A := a2) (len := len2) (cap := cap2) (by simpa [Value.cells] using hf2)
  have z0 : elemsOf d0 ≤ 140737488355328 := elems_sized hsz (j := 0) rfl rfl Try.underlying22 (of_decide_eq_true (by kernel_rfl))
  have z1 : elemsOf d1 ≤ 140737488355328 := elems_sized hsz (j := 1) rfl rfl Try.underlying22 (of_decide_eq_true (by kernel_rfl))
  have z2 : elemsOf d2 ≤ 140737488355328 := elems_sized hsz (j := 2) rfl rfl Try.underlying69 (of_decide_eq_true (by kernel_rfl))
  dsimp only at hbk0 hbk1 hbk2
  clear hA0 hval0 hsz0 hsz
  refine (orderless_calls (cap0 := cap0) (cap1 := cap1) (cap2 := cap2) hro0 hro1 hro2 (by omega) (by omega) (by omega)).mono fun e W' ⟨he, tt⟩ => ?_
  have bel := tt.below
  subst he
  exact ⟨_, rfl, _, _, _, [], _, [], hW', trodAll_mk1 (shut_bool Try.underlying4 _), (trodAll_cons_mk (Below.trod laidOut (by kernel_rfl) (of_decide_eq_true (by kernel_rfl)) k0 bel lt0) (trodAll_cons_mk (Below.trod laidOut (by kernel_rfl) (of_decide_eq_true (by kernel_rfl)) k1 bel lt1) (trodAll_cons_mk (Below.trod laidOut (by kernel_rfl) (of_decide_eq_true (by kernel_rfl)) k2 bel lt2) trodAll_mk0))), rfl, bel.frame _, fun h => by cases h⟩
theorem over : Rows.trieOrderlessRow.holds Try.pinned (OpenSpec.ofChange Rows.trieOrderlessSpec) :=
  OpenClaim.holds_of_wide 7 Try.f7 rfl rfl rfl rfl rfl rfl rfl ⟨rfl, rfl, rfl, rfl, rfl⟩ rfl rfl rfl rfl rfl (by kernel_rfl) Try.func7 (by kernel_rfl)
    (of_decide_eq_true (by kernel_rfl)) (by unfold Func.isWrapper; first | (rw [if_pos (by decide +kernel)]; kernel_rfl) | (rw [if_neg (by decide +kernel)]; exact ⟨rfl, rfl⟩))
    (fun os started H enc _ => lifted os started H enc)
theorem proved : Rows.TrieOrderlessSaid := over
#print axioms proved
end Go.Proofs.Ytmklkdhpbehfeaa.trieOrderless
namespace Go.Proofs.Ytmklkdhpbehfeaa
/-- The row, under a short name, for the claim. -/
theorem trieOrderless_holds : Rows.TrieOrderlessSaid := trieOrderless.proved
end Go.Proofs.Ytmklkdhpbehfeaa
