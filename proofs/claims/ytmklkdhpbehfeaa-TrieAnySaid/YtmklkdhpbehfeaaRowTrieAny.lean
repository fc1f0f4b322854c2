/- TrieAny: for every prefix and list of texts, tries of texts and of structs with a list hand back what was put, the list not copied, and zero values with an error; no condition. -/
import Derived.Test.YtmklkdhpbehfeaaRows
import Derived.Test.YtmklkdhpbehfeaaTOpen
import Derived.Test.YtmklkdhpbehfeaaTH
import Derived.SliceStrings
import Derived.WalkKit
import Derived.ProofKit
import Derived.OpenShut
import Derived.ChangeOld
import Derived.Below
import Derived.SizedLaws
namespace Go.Proofs.Ytmklkdhpbehfeaa.Tri
open Go.RowKit Go.Maps Go.ChangeShapes Go.WideShapes Go.Deep Go.Joins
set_option linter.unusedVariables false
set_option maxRecDepth 100000 in
theorem open_strs {H : Type} {enc : TypeId × Value → H} {W : World} {base : Nat} {spare : Nat → Bool} {held : Bool} {fuel : Nat} {A : Option Addr} {len cap : Nat} {x : DataW H × List MemPlace} (h : DataW.trod enc Try.prog W base spare held fuel 51 [.slice A len cap] = some x) :
    ∃ l, RdS W A len l ∧ len = elemsOf x.1 := by
  rcases open_slice Try.underlying51 h with ⟨hcs, rfl⟩ | ⟨a, l, c, m, n, D, Pl, hcs, hb, hl, hm, hmm, hx, hel⟩
  · simp at hcs
    obtain ⟨rfl, rfl, rfl⟩ := hcs
    exact ⟨[], ⟨rfl, fun h0 => by omega⟩, rfl⟩
  · simp at hcs
    obtain ⟨rfl, rfl, rfl⟩ := hcs
    have hlm : len ≤ m := by rw [hmm]; split <;> omega
    have hc : Try.prog.cellsOf 9 = 1 := by kernel_rfl
    have key : ∀ i, i < len → ∃ q : ByteArray, W.cell? (a.add i) = some (.string q) := by
      intro i hi
      obtain ⟨cs', h1, h2⟩ := hel i (by omega)
      rw [hc] at h1
      obtain ⟨_, hlen, hcell⟩ := World.cells?_some h1
      match cs', hlen with
      | [c0], _ =>
        obtain ⟨z, e0, _⟩ := DataW.trod_string Try.underlying9 h2
        simp at e0
        subst e0
        have := hcell 0 (by omega)
        refine ⟨z, ?_⟩
        have e : (a.add (i * 1)).add 0 = a.add i := by simp [Addr.add]
        rw [e] at this
        exact this.trans rfl
    obtain ⟨f, hf⟩ := choose_lt key
    refine ⟨(List.range len).map f, ⟨by simp, fun h0 => ?_⟩, ?_⟩
    · have q0 := hf 0 h0
      have hs : a = ⟨a.block, a.off, none⟩ := spot_of (w := W) (v := .string (f 0)) (by simpa [Addr.add] using q0)
      refine ⟨a.block, a.off, by rw [← hs], ?_, fun i p hp => ?_⟩
      · have := World.block_lt_of_cell? W _ q0
        simpa [Addr.add] using this
      · have hi : i < len := by have := (List.getElem?_eq_some_iff.1 hp).1; simpa using this
        have hp' : f i = p := by simpa [hi] using hp
        have q0 := hf i hi
        rw [hs, Go.WideShapes.add_plain] at q0
        rw [← hp']
        exact q0
    · rw [hx]
      simp [elemsOf]
end Go.Proofs.Ytmklkdhpbehfeaa.Tri
namespace Go.Proofs.Ytmklkdhpbehfeaa.trieAny
open Go.ChangeShapes Go.WideShapes Go.ChangeAt Go.RowKit Go.Proofs.Ytmklkdhpbehfeaa.Tri
set_option linter.unusedVariables false
theorem own : ownKnob Try.prog.godebug = none := by kernel_rfl
theorem laidOut : laidOutB Try.prog = true := by kernel_rfl
set_option maxRecDepth 100000 in
theorem lifted (os : Os) (started : os.Started) (H : Type) (enc : TypeId × Value → H) :
    ReturnsInHanded {} Try.checked os 6 .any (Rows.trieAnySpec.pre6 enc Try.prog Try.f6 Rows.trieAnyRow.domain false) (Rows.trieAnySpec.post enc Try.prog Try.f6 false true false false) := by
  refine returnsInHanded_of_change_sized (C := Try.checked) own started (by kernel_rfl) Try.func6
    (ChangeSpec.witness6 (enc := enc) (C := Try.checked) false ⟨#[], #[.agg #[.int .u32 0, .int .i64 0], .slice none 0 0], []⟩ 8 (by kernel_rfl) (by kernel_rfl) (by kernel_rfl) (by kernel_rfl)) ?_
  intro W base args ds gs before hval0 hW hcnd hsz0 _
  have hsz : (DataW.weightsEach Try.prog (Try.f6.params.toList ++ Rows.trieAnySpec.plain.varTypes Try.prog) (ds ++ gs)).all (· ≤ reachBytes) = true := hsz0
  have hval : ∀ (j : Nat) t v, Try.f6.params[j]? = some t → args[j]? = some v → Value.okWide Try.prog W .any base t v := hval0
  have hW' := hW
  obtain ⟨p, q, hA0, hV, rfl, hfz, hnd⟩ := hW
  have hA : DataW.TrodAll enc Try.prog W 0 (fun _ => true) true Try.f6.params.toList args.toList ds p := hA0
  rw [Try.params6] at hA hval hsz
  obtain ⟨v0, vs0, d0, ds0, p0, q0, hargs, rfl, rfl, h0, r0⟩ := trodAll_cons hA
  obtain ⟨v1, vs1, d1, ds1, p1, q1, rfl, rfl, rfl, h1, r1⟩ := trodAll_cons r0
  obtain ⟨rfl, rfl, rfl⟩ := trodAll_nil r1
  obtain rfl : args = #[v0, v1] := by cases args; simp_all
  obtain ⟨rfl, rfl⟩ := trodVars_none hV
  obtain ⟨a1, len1, cap1, rfl⟩ := okWide_slice Try.underlying51 (hval 1 51 v1 rfl rfl)
  have k0 := h0
  have lt0 : ∀ x ∈ p0, x.block < W.heap.size := by obtain ⟨m, hm⟩ := k0; exact DataW.trod_lt m _ _ _ hm
  have k1 := h1
  have lt1 : ∀ x ∈ p1, x.block < W.heap.size := by obtain ⟨m, hm⟩ := k1; exact DataW.trod_lt m _ _ _ hm
  obtain ⟨c0, c1, y0, y1, mm, rfl, rfl, rfl, hy0, hy1⟩ := Go.Joins.open_agg2 Try.underlying32 (by kernel_rfl) (by kernel_rfl) (hval 0 32 v0 rfl rfl) h0
  obtain ⟨xa, e0, _, wa⟩ := DataW.trod_int Try.underlying30 hy0
  obtain ⟨xb, e1, _, wb⟩ := DataW.trod_int Try.underlying3 hy1
  simp at e0 e1
  subst e0 e1
  obtain ⟨za, rfl, hza⟩ := wf_u32 wa
  have hzb := wf_i64 wb
  obtain ⟨fuel1, hf1⟩ := h1
  obtain ⟨l1, hro1, hbk1⟩ := open_strs (A := a1) (len := len1) (cap := cap1) (by simpa [Value.cells] using hf1)
  have y1 : elemsOf d1 ≤ 140737488355328 := elems_sized hsz (j := 1) rfl rfl Try.underlying51 (of_decide_eq_true (by kernel_rfl))
  dsimp only at hbk1
  clear hA0 hval0 hsz0 hsz
  refine (any_calls (cap := cap1) za xb hza hzb.1 hzb.2 hro1 (by omega)).mono fun e W' ⟨he, tt⟩ => ?_
  have bel := tt.below
  subst he
  exact ⟨_, rfl, _, _, _, [], _, [], hW', trodAll_mk1 (shut_bool Try.underlying4 _), (trodAll_cons_mk (Below.trod laidOut (by kernel_rfl) (of_decide_eq_true (by kernel_rfl)) k0 bel lt0) (trodAll_cons_mk (Below.trod laidOut (by kernel_rfl) (of_decide_eq_true (by kernel_rfl)) k1 bel lt1) trodAll_mk0)), rfl, bel.frame _, fun h => by cases h⟩
theorem over : Rows.trieAnyRow.holds Try.pinned (OpenSpec.ofChange Rows.trieAnySpec) :=
  OpenClaim.holds_of_wide 6 Try.f6 rfl rfl rfl rfl rfl rfl rfl ⟨rfl, rfl, rfl, rfl, rfl⟩ rfl rfl rfl rfl rfl (by kernel_rfl) Try.func6 (by kernel_rfl)
    (of_decide_eq_true (by kernel_rfl)) (by unfold Func.isWrapper; first | (rw [if_pos (by decide +kernel)]; kernel_rfl) | (rw [if_neg (by decide +kernel)]; exact ⟨rfl, rfl⟩))
    (fun os started H enc _ => lifted os started H enc)
theorem proved : Rows.TrieAnySaid := over
#print axioms proved
end Go.Proofs.Ytmklkdhpbehfeaa.trieAny
namespace Go.Proofs.Ytmklkdhpbehfeaa
/-- The row, under a short name, for the claim. -/
theorem trieAny_holds : Rows.TrieAnySaid := trieAny.proved
end Go.Proofs.Ytmklkdhpbehfeaa
