/- weftlaw5.options and weftlaw5.whole; no condition. -/
import Derived.Test.YtelfemhnijnhfaaFS
import Derived.Test.YtelfemhnijnhfaaFU
namespace Go.Proofs.Ytelfemhnijnhfaa.Fr
open Go.RowKit Go.Maps
set_option linter.unusedVariables false
set_option linter.unusedSimpArgs false
set_option maxRecDepth 100000
attribute [local go_sem] nilB

def longL : List Int := [131, 40, 2, 3, 4, 5, 6, 7, 8, 9, 10, 11, 12, 13, 14, 15, 16, 17, 18, 19, 20, 21, 22, 23, 24, 25, 26, 27, 28, 29, 30, 31, 32, 33, 34, 35, 36, 37, 38, 39]
def optsN : Nat → List Int
  | 1 => [1, 0, 0, 0]
  | 2 => [131, 7, 4, 1, 2, 3, 4, 0]
  | 3 => [7, 7, 4, 9, 9, 9, 9, 1]
  | 4 => [1, 7, 3, 4, 136, 4, 5, 6, 130, 3, 9, 0]
  | 5 => longL
  | _ => []
def optsL (k : Nat) : List Int := optsN (k % 6)
theorem optsL_ok (k : Nat) : areaB (optsL k) = true ∧ (optsL k).length ≤ 40 ∧ okB (optsL k) := by
  have h : k % 6 < 6 := Nat.mod_lt _ (by decide)
  have key : ∀ j : Fin 6, areaB (optsN j.val) = true ∧ (optsN j.val).length ≤ 40 ∧ (∀ x ∈ optsN j.val, 0 ≤ x ∧ x < 256) := by decide +kernel
  exact key ⟨k % 6, h⟩
theorem owb_lit {w : World} (l : List Int) (hl : okB l) (hn : l.length ≤ 140737488355328) : OwB (w.alloc (.cells (encB l).toArray 5)) (.slice (some ⟨w.heap.size, 0, none⟩) l.length l.length) l := OwB.of_full (box_at _ _) hl hn
theorem long_take {j : Nat} (h2 : 2 ≤ j) (h : j < 40) : longL.take j ++ [(j : Int)] = longL.take (j + 1) := by
  have key : ∀ j : Fin 40, 2 ≤ j.val → longL.take j.val ++ [((j.val : Nat) : Int)] = longL.take (j.val + 1) := by decide +kernel
  exact key ⟨j, h⟩ h2
theorem long_len {j : Nat} (h : j ≤ 40) : (longL.take j).length = j := by rw [List.length_take]; have : longL.length = 40 := rfl; omega
theorem long_ok (j : Nat) : okB (longL.take j) := fun x hx => by
  have key : ∀ x ∈ longL, 0 ≤ x ∧ x < 256 := by decide +kernel
  exact key x (List.mem_of_mem_take hx)
def OptsPost (w : World) (k : Nat) (e : Ending) (w' : World) : Prop := ∃ V, e = .returned V ∧ OwB w' V (optsL k) ∧ Touch [] w w'
theorem OptsPost.lit {w : World} {k : Nat} {l : List Int} (h : optsL k = l) (n : Nat) (hn : n = l.length) (c : Array Value) (hc : c = (encB l).toArray) : OptsPost w k (.returned (.slice (some ⟨w.heap.size, 0, none⟩) n n)) (w.alloc (.cells c 5)) := by
  subst h hn hc
  have := optsL_ok k
  exact ⟨_, rfl, owb_lit _ this.2.2 (by omega), (Touch.refl [] w).alloc _⟩
set_option maxHeartbeats 2000000 in
theorem options_calls (w : World) (k : Nat) (I : Int) (hI : I = (k : Int)) : Calls Try.prog 36 #[.int .i64 I] w (OptsPost w k) := by
  subst hI
  by_cases h1 : k % 6 = 1
  · have e : (k : Int) % 6 = 1 := by omega
    have HO : Hid (optsL k = [1, 0, 0, 0]) := Lib.hid (by unfold optsL; rw [h1]; rfl)
    clear h1
    go_enter Try.func36, Try.ntmps36
    go_wp2
    go_ret
    exact OptsPost.lit HO.out _ rfl _ rfl
  by_cases h2 : k % 6 = 2
  · have e : (k : Int) % 6 = 2 := by omega
    have HO : Hid (optsL k = [131, 7, 4, 1, 2, 3, 4, 0]) := Lib.hid (by unfold optsL; rw [h2]; rfl)
    clear h1 h2
    go_enter Try.func36, Try.ntmps36
    go_wp2
    go_ret
    exact OptsPost.lit HO.out _ rfl _ rfl
  by_cases h3 : k % 6 = 3
  · have e : (k : Int) % 6 = 3 := by omega
    have HO : Hid (optsL k = [7, 7, 4, 9, 9, 9, 9, 1]) := Lib.hid (by unfold optsL; rw [h3]; rfl)
    clear h1 h2 h3
    go_enter Try.func36, Try.ntmps36
    go_wp2
    go_ret
    exact OptsPost.lit HO.out _ rfl _ rfl
  by_cases h4 : k % 6 = 4
  · have e : (k : Int) % 6 = 4 := by omega
    have HO : Hid (optsL k = [1, 7, 3, 4, 136, 4, 5, 6, 130, 3, 9, 0]) := Lib.hid (by unfold optsL; rw [h4]; rfl)
    clear h1 h2 h3 h4
    go_enter Try.func36, Try.ntmps36
    go_wp2
    go_ret
    exact OptsPost.lit HO.out _ rfl _ rfl
  by_cases h5 : k % 6 = 5
  · have e : (k : Int) % 6 = 5 := by omega
    have HO : Hid (optsL k = longL) := Lib.hid (by unfold optsL; rw [h5]; rfl)
    clear h1 h2 h3 h4 h5
    go_enter Try.func36, Try.ntmps36
    go_wp2_with fail
    rw [e]
    clear e
    go_loopg [3] 38 (fun kq v wq => ∃ (A : Option Addr) (j c : Nat), v = .slice A j c ∧ 2 ≤ j ∧ j ≤ 40 ∧ 40 - j ≤ kq ∧ Hid (OwB wq (.slice A j c) (longL.take j)) ∧ Hid (Fresh w.heap.size (.slice A j c)) ∧ Hid (Touch [] w wq))
    case atStart => exact ⟨_, 2, _, rfl, by omega, by omega, by omega, Lib.hid (owb_lit (longL.take 2) (long_ok 2) (by decide)), Lib.hid (fun b hb => by cases hb; exact Nat.le_refl _), Lib.hid ((Touch.refl [] w).alloc _)⟩
    case round =>
      obtain ⟨A, j, c, rfl, j2, j40, hjk, hO, hF, hT⟩ := hrel
      by_cases hj : j < 40
      · have lj : (j : Int) < 40 := by omega
        have HL := Lib.hid (long_len (j := j) (by omega))
        have HL1 := Lib.hid (long_len (j := j + 1) (by omega))
        have HTK := Lib.hid (long_take j2 hj)
        go_wp2_with (at_builtin
                     refine wpList_append_o (w0 := w) (by rfl) (.tmp 24) (.tmp 28) (by rfl) (.slice A j c) (.slice (some ⟨wr.heap.size, 0, none⟩) 1 1) (longL.take j) [(j : Int)] (longL.take (j + 1)) HTK.out.symm (by rfl) (hO.out.near ((Touch.refl [] wr).alloc _)) (by rfl) (rdb_one wr j (by omega)) (by rw [HL1.out]; omega) hF.out (hT.out.alloc _) ?_
                     rw [HL1.out]
                     intro A5 c5 w5 h1 h2 h3
                     have O5 := Lib.hid h1
                     have F5 := Lib.hid h2
                     have T5 := Lib.hid h3
                     clear h1 h2 h3)
        go_roundg (gk - 1)
        case rel => exact ⟨A5, j + 1, c5, by first | rfl | simp, by omega, by omega, by omega, O5, F5, T5⟩
        case measure => omega
      · have lj : ¬ (j : Int) < 40 := by omega
        have hj40 : j = 40 := by omega
        have HR : Hid (OwB wr (.slice A j c) (optsL k)) := Lib.hid (by
          have := hO.out
          rw [hj40] at this ⊢
          rw [HO.out]
          exact this)
        clear hj40
        go_wp2
        go_ret
        exact ⟨_, rfl, HR.out, hT.out⟩
  · have e : (k : Int) % 6 = 0 := by omega
    have HO : Hid (optsL k = []) := Lib.hid (by unfold optsL; rw [show k % 6 = 0 by omega]; rfl)
    clear h1 h2 h3 h4 h5
    go_enter Try.func36, Try.ntmps36
    go_wp2
    go_ret
    exact ⟨_, rfl, by rw [HO.out]; exact OwB.nil _, Touch.refl _ _⟩
end Go.Proofs.Ytelfemhnijnhfaa.Fr
