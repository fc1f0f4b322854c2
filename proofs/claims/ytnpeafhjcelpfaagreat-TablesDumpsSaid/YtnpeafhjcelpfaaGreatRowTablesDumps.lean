/- TablesDumps: for all capacities and every script, each Dump is answered as the document's kernel answers; no condition. -/
import Derived.Test.YtnpeafhjcelpfaaGreatRows
import Derived.Test.YtnpeafhjcelpfaaGreatY9
import Derived.WalkKit
import Derived.ProofKit
import Derived.OpenShut
import Derived.ChangeOld
import Derived.Below
import Derived.SizedLaws
namespace Go.Proofs.YtnpeafhjcelpfaaGreat.tablesDumps
open Go.ChangeShapes Go.WideShapes Go.ChangeAt Go.RowKit Go.Proofs.YtnpeafhjcelpfaaGreat.Tri
set_option linter.unusedVariables false
theorem own : ownKnob Tryz.prog.godebug = none := by kernel_rfl
theorem laidOut : laidOutB Tryz.prog = true := by kernel_rfl
set_option maxRecDepth 100000 in
theorem lifted (os : Os) (started : os.Started) (H : Type) (enc : TypeId × Value → H) :
    ReturnsInHanded {} Tryz.checked os 6 .any (Rows.tablesDumpsSpec.pre6 enc Tryz.prog Tryz.f6 Rows.tablesDumpsRow.domain false) (Rows.tablesDumpsSpec.post enc Tryz.prog Tryz.f6 false true false false) := by
  refine returnsInHanded_of_change_sized (C := Tryz.checked) own started (by kernel_rfl) Tryz.func6
    (ChangeSpec.witness6 (enc := enc) (C := Tryz.checked) false ⟨#[], #[.agg #[.int .i64 0, .int .i64 0, .int .i64 0], .slice none 0 0], []⟩ 8 (by kernel_rfl) (by kernel_rfl) (by kernel_rfl) (by kernel_rfl)) ?_
  intro W base args ds gs before hval0 hW hcnd hsz0 _
  have hsz : (DataW.weightsEach Tryz.prog (Tryz.f6.params.toList ++ Rows.tablesDumpsSpec.plain.varTypes Tryz.prog) (ds ++ gs)).all (· ≤ reachBytes) = true := hsz0
  have hval : ∀ (j : Nat) t v, Tryz.f6.params[j]? = some t → args[j]? = some v → Value.okWide Tryz.prog W .any base t v := hval0
  have hW' := hW
  obtain ⟨p, q, hA0, hV, rfl, hfz, hnd⟩ := hW
  have hA : DataW.TrodAll enc Tryz.prog W 0 (fun _ => true) true Tryz.f6.params.toList args.toList ds p := hA0
  rw [Tryz.params6] at hA hval hsz
  obtain ⟨v0, vs0, d0, ds0, p0, q0, hargs, rfl, rfl, h0, r0⟩ := trodAll_cons hA
  obtain ⟨v1, vs1, d1, ds1, p1, q1, rfl, rfl, rfl, h1, r1⟩ := trodAll_cons r0
  obtain ⟨rfl, rfl, rfl⟩ := trodAll_nil r1
  obtain rfl : args = #[v0, v1] := by cases args; simp_all
  obtain ⟨rfl, rfl⟩ := trodVars_none hV
  obtain ⟨a1, len1, cap1, rfl⟩ := okWide_slice Tryz.underlying30 (hval 1 30 v1 rfl rfl)
  have k0 := h0
  have lt0 : ∀ x ∈ p0, x.block < W.heap.size := by obtain ⟨m, hm⟩ := k0; exact DataW.trod_lt m _ _ _ hm
  have k1 := h1
  have lt1 : ∀ x ∈ p1, x.block < W.heap.size := by obtain ⟨m, hm⟩ := k1; exact DataW.trod_lt m _ _ _ hm
  have sm1 : Small d1 30 := small_arg hsz (j := 1) rfl rfl
  obtain ⟨ca0, cb0, cc0, y00, y10, y20, mm0, rfl, rfl, rfl, hy00, hy10, hy20⟩ := Go.Joins.open_agg3 Tryz.underlying23 (by kernel_rfl) (by kernel_rfl) (hval 0 23 v0 rfl rfl) h0
  obtain ⟨xa0, e00, _, _⟩ := DataW.trod_int Tryz.underlying3 hy00
  obtain ⟨xb0, e10, _, _⟩ := DataW.trod_int Tryz.underlying3 hy10
  obtain ⟨xc0, e20, _, _⟩ := DataW.trod_int Tryz.underlying3 hy20
  simp at e00 e10 e20
  subst e00 e10 e20
  obtain ⟨fuel1, hf1⟩ := h1
  obtain ⟨l1, hle1, hro1, hn1⟩ := open_steps (A := a1) (len := len1) (cap := cap1) (by simpa [Value.cells] using hf1) sm1
  subst hle1
  clear hA0 hval0 hsz0 hsz
  refine (dumpsS_calls xa0 xb0 xc0 a1 cap1 l1 hro1 hn1).mono fun e W' ⟨he, tt⟩ => ?_
  have bel := tt.below
  subst he
  exact ⟨_, rfl, _, _, _, [], _, [], hW', trodAll_mk1 (shut_bool Tryz.underlying4 _), (trodAll_cons_mk (Below.trod laidOut (by kernel_rfl) (of_decide_eq_true (by kernel_rfl)) k0 bel lt0) (trodAll_cons_mk (Below.trod laidOut (by kernel_rfl) (of_decide_eq_true (by kernel_rfl)) k1 bel lt1) trodAll_mk0)), rfl, bel.frame _, fun h => by cases h⟩
theorem over : Rows.tablesDumpsRow.holds Tryz.pinned (OpenSpec.ofChange Rows.tablesDumpsSpec) :=
  OpenClaim.holds_of_wide 6 Tryz.f6 rfl rfl rfl rfl rfl rfl rfl ⟨rfl, rfl, rfl, rfl, rfl⟩ rfl rfl rfl rfl rfl (by kernel_rfl) Tryz.func6 (by kernel_rfl)
    (of_decide_eq_true (by kernel_rfl)) (by unfold Func.isWrapper; first | (rw [if_pos (by decide +kernel)]; kernel_rfl) | (rw [if_neg (by decide +kernel)]; exact ⟨rfl, rfl⟩))
    (fun os started H enc _ => lifted os started H enc)
theorem proved : Rows.TablesDumpsSaid := over
#print axioms proved
end Go.Proofs.YtnpeafhjcelpfaaGreat.tablesDumps
namespace Go.Proofs.YtnpeafhjcelpfaaGreat
/-- The row, under a short name, for the claim. -/
theorem tablesDumps_holds : Rows.TablesDumpsSaid := tablesDumps.proved
end Go.Proofs.YtnpeafhjcelpfaaGreat
