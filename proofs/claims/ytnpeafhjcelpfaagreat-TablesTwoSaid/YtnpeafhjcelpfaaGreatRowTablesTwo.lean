/- TablesTwo: two kernels, their steps in turns; no condition. -/
import Derived.Test.YtnpeafhjcelpfaaGreatRows
import Derived.Test.YtnpeafhjcelpfaaGreatPJ
import Derived.Test.YtnpeafhjcelpfaaGreatOC
import Derived.WalkKit
import Derived.ProofKit
import Derived.OpenShut
import Derived.ChangeOld
import Derived.Below
import Derived.SizedLaws
namespace Go.Proofs.YtnpeafhjcelpfaaGreat.tablesTwo
open Go.ChangeShapes Go.WideShapes Go.ChangeAt Go.RowKit Go.Proofs.YtnpeafhjcelpfaaGreat.Tri
set_option linter.unusedVariables false
theorem own : ownKnob Tryz.prog.godebug = none := by kernel_rfl
theorem laidOut : laidOutB Tryz.prog = true := by kernel_rfl
set_option maxRecDepth 100000 in
theorem lifted (os : Os) (started : os.Started) (H : Type) (enc : TypeId × Value → H) :
    ReturnsInHanded {} Tryz.checked os 8 .any (Rows.tablesTwoSpec.pre6 enc Tryz.prog Tryz.f8 Rows.tablesTwoRow.domain false) (Rows.tablesTwoSpec.post enc Tryz.prog Tryz.f8 false true false false) := by
  refine returnsInHanded_of_change_sized (C := Tryz.checked) own started (by kernel_rfl) Tryz.func8
    (ChangeSpec.witness6 (enc := enc) (C := Tryz.checked) false ⟨#[], #[.agg #[.int .i64 0, .int .i64 0, .int .i64 0], .agg #[.int .i64 0, .int .i64 0, .int .i64 0], .slice none 0 0, .slice none 0 0], []⟩ 8 (by kernel_rfl) (by kernel_rfl) (by kernel_rfl) (by kernel_rfl)) ?_
  intro W base args ds gs before hval0 hW hcnd hsz0 _
  have hsz : (DataW.weightsEach Tryz.prog (Tryz.f8.params.toList ++ Rows.tablesTwoSpec.plain.varTypes Tryz.prog) (ds ++ gs)).all (· ≤ reachBytes) = true := hsz0
  have hval : ∀ (j : Nat) t v, Tryz.f8.params[j]? = some t → args[j]? = some v → Value.okWide Tryz.prog W .any base t v := hval0
  have hW' := hW
  obtain ⟨p, q, hA0, hV, rfl, hfz, hnd⟩ := hW
  have hA : DataW.TrodAll enc Tryz.prog W 0 (fun _ => true) true Tryz.f8.params.toList args.toList ds p := hA0
  rw [Tryz.params8] at hA hval hsz
  obtain ⟨v0, vs0, d0, ds0, p0, q0, hargs, rfl, rfl, h0, r0⟩ := trodAll_cons hA
  obtain ⟨v1, vs1, d1, ds1, p1, q1, rfl, rfl, rfl, h1, r1⟩ := trodAll_cons r0
  obtain ⟨v2, vs2, d2, ds2, p2, q2, rfl, rfl, rfl, h2, r2⟩ := trodAll_cons r1
  obtain ⟨v3, vs3, d3, ds3, p3, q3, rfl, rfl, rfl, h3, r3⟩ := trodAll_cons r2
  obtain ⟨rfl, rfl, rfl⟩ := trodAll_nil r3
  obtain rfl : args = #[v0, v1, v2, v3] := by cases args; simp_all
  obtain ⟨rfl, rfl⟩ := trodVars_none hV
  obtain ⟨a2, len2, cap2, rfl⟩ := okWide_slice Tryz.underlying30 (hval 2 30 v2 rfl rfl)
  obtain ⟨a3, len3, cap3, rfl⟩ := okWide_slice Tryz.underlying33 (hval 3 33 v3 rfl rfl)
  have k0 := h0
  have lt0 : ∀ x ∈ p0, x.block < W.heap.size := by obtain ⟨m, hm⟩ := k0; exact DataW.trod_lt m _ _ _ hm
  have k1 := h1
  have lt1 : ∀ x ∈ p1, x.block < W.heap.size := by obtain ⟨m, hm⟩ := k1; exact DataW.trod_lt m _ _ _ hm
  have k2 := h2
  have lt2 : ∀ x ∈ p2, x.block < W.heap.size := by obtain ⟨m, hm⟩ := k2; exact DataW.trod_lt m _ _ _ hm
  have sm2 : Small d2 30 := small_arg hsz (j := 2) rfl rfl
  have k3 := h3
  have lt3 : ∀ x ∈ p3, x.block < W.heap.size := by obtain ⟨m, hm⟩ := k3; exact DataW.trod_lt m _ _ _ hm
  have sm3 : Small d3 33 := small_arg hsz (j := 3) rfl rfl
  obtain ⟨ca0, cb0, cc0, y00, y10, y20, mm0, rfl, rfl, rfl, hy00, hy10, hy20⟩ := Go.Joins.open_agg3 Tryz.underlying23 (by kernel_rfl) (by kernel_rfl) (hval 0 23 v0 rfl rfl) h0
  obtain ⟨xa0, e00, _, _⟩ := DataW.trod_int Tryz.underlying3 hy00
  obtain ⟨xb0, e10, _, _⟩ := DataW.trod_int Tryz.underlying3 hy10
  obtain ⟨xc0, e20, _, _⟩ := DataW.trod_int Tryz.underlying3 hy20
  simp at e00 e10 e20
  subst e00 e10 e20
  obtain ⟨ca1, cb1, cc1, y01, y11, y21, mm1, rfl, rfl, rfl, hy01, hy11, hy21⟩ := Go.Joins.open_agg3 Tryz.underlying23 (by kernel_rfl) (by kernel_rfl) (hval 1 23 v1 rfl rfl) h1
  obtain ⟨xa1, e01, _, _⟩ := DataW.trod_int Tryz.underlying3 hy01
  obtain ⟨xb1, e11, _, _⟩ := DataW.trod_int Tryz.underlying3 hy11
  obtain ⟨xc1, e21, _, _⟩ := DataW.trod_int Tryz.underlying3 hy21
  simp at e01 e11 e21
  subst e01 e11 e21
  obtain ⟨fuel2, hf2⟩ := h2
  obtain ⟨l2, hle2, hro2, hn2⟩ := open_steps (A := a2) (len := len2) (cap := cap2) (by simpa [Value.cells] using hf2) sm2
  subst hle2
  obtain ⟨fuel3, hf3⟩ := h3
  obtain ⟨l3, hle3, hro3, hn3⟩ := open_bools (A := a3) (len := len3) (cap := cap3) (by simpa [Value.cells] using hf3) sm3
  subst hle3
  clear hA0 hval0 hsz0 hsz
  refine (two_calls xa0 xb0 xc0 xa1 xb1 xc1 a2 cap2 l2 a3 cap3 l3 hro2 hn2 hro3 hn3).mono fun e W' ⟨he, tt⟩ => ?_
  have bel := tt.below
  subst he
  exact ⟨_, rfl, _, _, _, [], _, [], hW', trodAll_mk1 (shut_bool Tryz.underlying4 _), (trodAll_cons_mk (Below.trod laidOut (by kernel_rfl) (of_decide_eq_true (by kernel_rfl)) k0 bel lt0) (trodAll_cons_mk (Below.trod laidOut (by kernel_rfl) (of_decide_eq_true (by kernel_rfl)) k1 bel lt1) (trodAll_cons_mk (Below.trod laidOut (by kernel_rfl) (of_decide_eq_true (by kernel_rfl)) k2 bel lt2) (trodAll_cons_mk (Below.trod laidOut (by kernel_rfl) (of_decide_eq_true (by kernel_rfl)) k3 bel lt3) trodAll_mk0)))), rfl, bel.frame _, fun h => by cases h⟩
theorem over : Rows.tablesTwoRow.holds Tryz.pinned (OpenSpec.ofChange Rows.tablesTwoSpec) :=
  OpenClaim.holds_of_wide 8 Tryz.f8 rfl rfl rfl rfl rfl rfl rfl ⟨rfl, rfl, rfl, rfl, rfl⟩ rfl rfl rfl rfl rfl (by kernel_rfl) Tryz.func8 (by kernel_rfl)
    (of_decide_eq_true (by kernel_rfl)) (by unfold Func.isWrapper; first | (rw [if_pos (by decide +kernel)]; kernel_rfl) | (rw [if_neg (by decide +kernel)]; exact ⟨rfl, rfl⟩))
    (fun os started H enc _ => lifted os started H enc)
theorem proved : Rows.TablesTwoSaid := over
#print axioms proved
end Go.Proofs.YtnpeafhjcelpfaaGreat.tablesTwo
namespace Go.Proofs.YtnpeafhjcelpfaaGreat
/-- The row, under a short name, for the claim. -/
theorem tablesTwo_holds : Rows.TablesTwoSaid := tablesTwo.proved
end Go.Proofs.YtnpeafhjcelpfaaGreat
