/- New, Flush; no condition. -/
import Derived.Test.YtnpeafhjcelpfaaGreatLF
namespace Go.Proofs.YtnpeafhjcelpfaaGreat.Tri
open Go.RowKit Go.Maps
set_option linter.unusedVariables false
set_option linter.unusedSimpArgs false
set_option maxRecDepth 100000

set_option maxHeartbeats 4000000 in
theorem flush_calls {w : World} {kb : Nat} {l0 l1 l2 : Int} {c3 c4 c5 : Value} (h : w.heap[kb]? = some (.cells #[.int .i64 l0, .int .i64 l1, .int .i64 l2, c3, c4, c5] 94 (0, 0))) :
    Calls Tryz.prog 30 #[.pointer (some ⟨kb, 0, none⟩)] w (fun e w' => e = .returned (.tuple #[]) ∧ ∃ tb b1 m1 b2 m2 S, KerAt w' kb tb b1 m1 b2 m2 S l0 l1 l2 KSt.none ∧ Touch [kb] w w' ∧ ∀ x ∈ b1 :: m1 :: b2 :: m2 :: S, w.heap.size ≤ x) := by
  have H := Lib.hid h
  clear h
  go_enter Tryz.func30, Tryz.ntmps30
  go_wp2_with fail
  refine (empty_calls H.out).mono ?_
  rintro e w1 ⟨rfl, h1⟩
  have H1 := Lib.hid h1
  clear h1
  go_wp2
  go_end0
  exact ⟨rfl, H1.out⟩
def capOk (l : Int) : Prop := 1 ≤ l ∧ l ≤ 256
instance (l : Int) : Decidable (capOk l) := inferInstanceAs (Decidable (1 ≤ l ∧ l ≤ 256))
def limsOk (l0 l1 l2 : Int) : Nat → Prop
  | 0 => True
  | 1 => capOk l0
  | 2 => capOk l0 ∧ capOk l1
  | _ => capOk l0 ∧ capOk l1 ∧ capOk l2
set_option maxHeartbeats 4000000 in
theorem new_calls3 {w : World} (l0 l1 l2 : Int) :
    Calls Tryz.prog 21 #[.int .i64 l0, .int .i64 l1, .int .i64 l2] w (fun e w' => Touch [] w w' ∧ ((¬ (capOk l0 ∧ capOk l1 ∧ capOk l2) ∧ e = .returned (.tuple #[.pointer none, .int .i64 1])) ∨
      ((capOk l0 ∧ capOk l1 ∧ capOk l2) ∧ ∃ kb tb b1 m1 b2 m2 S, e = .returned (.tuple #[.pointer (some ⟨kb, 0, none⟩), .int .i64 0]) ∧ KerAt w' kb tb b1 m1 b2 m2 S l0 l1 l2 KSt.none ∧ ∀ x ∈ kb :: b1 :: m1 :: b2 :: m2 :: S, w.heap.size ≤ x))) := by
  have i0 : ∀ W : World, (Instr.index 87 (.agg #[.int .i64 l0, .int .i64 l1, .int .i64 l2]) (.int .i64 0)).run Tryz.prog W = .ok (.int .i64 l0) W := fun W => by kernel_rfl
  have i1 : ∀ W : World, (Instr.index 87 (.agg #[.int .i64 l0, .int .i64 l1, .int .i64 l2]) (.int .i64 1)).run Tryz.prog W = .ok (.int .i64 l1) W := fun W => by kernel_rfl
  have i2 : ∀ W : World, (Instr.index 87 (.agg #[.int .i64 l0, .int .i64 l1, .int .i64 l2]) (.int .i64 2)).run Tryz.prog W = .ok (.int .i64 l2) W := fun W => by kernel_rfl
  go_enter Tryz.func21, Tryz.ntmps21
  go_wp2_with fail
  obtain ⟨W0, hW0⟩ : ∃ W0 : World, W0 = w.alloc (.cells #[.int .i64 l0, .int .i64 l1, .int .i64 l2, .pointer none, .pointer none, .pointer none] 94) := ⟨_, rfl⟩
  rw [← hW0]
  have B0 := Lib.hid (show W0.heap[w.heap.size]? = some (.cells #[.int .i64 l0, .int .i64 l1, .int .i64 l2, .pointer none, .pointer none, .pointer none] 94 (0, 0)) by rw [hW0]; exact box_at w _)
  have HT0 := Lib.hid (show Touch [] w W0 by rw [hW0]; exact (Touch.refl [] w).alloc _)
  obtain ⟨kb, hkb⟩ : ∃ kb, kb = w.heap.size := ⟨_, rfl⟩
  rw [← hkb] at B0 ⊢
  have HKB := Lib.hid hkb
  clear hW0 hkb
  go_loopg [21] 4 (fun kq v21 wr => ∃ i : Nat, v21 = .int .i64 i ∧ i ≤ 3 ∧ 4 - i ≤ kq ∧ wr = W0 ∧ Hid (limsOk l0 l1 l2 i))
  case atStart => exact ⟨0, rfl, by omega, by omega, rfl, Lib.hid trivial⟩
  case round =>
    obtain ⟨i, rfl, hi, hik, rfl, hU⟩ := hrel
    rcases (show i = 0 ∨ i = 1 ∨ i = 2 ∨ i = 3 by omega) with rfl | rfl | rfl | rfl
    · have G : capOk l0 ∨ l0 < 1 ∨ (¬ l0 < 1 ∧ 256 < l0) := by unfold capOk; omega
      rcases G with hc | hc | ⟨hc1, hc2⟩
      · have HC := Lib.hid hc
        have g0 : ¬ l0 < 1 := by unfold capOk at hc; omega
        have g1 : ¬ 256 < l0 := by unfold capOk at hc; omega
        clear hc
        go_wp2
        go_roundg (gk - 1)
        case rel => exact ⟨1, by go_num, by omega, by omega, rfl, Lib.hid (show limsOk l0 l1 l2 _ from HC.out)⟩
        case measure => omega
      · have HC := Lib.hid (show ¬ (capOk l0 ∧ capOk l1 ∧ capOk l2) by unfold capOk; omega)
        go_wp2
        go_ret2
        first | exact ⟨HT0.out, .inl ⟨HC.out, rfl⟩⟩ | exact ⟨HT0.out, .inl ⟨fun a b c => HC.out ⟨a, b, c⟩, rfl⟩⟩
      · have HC := Lib.hid (show ¬ (capOk l0 ∧ capOk l1 ∧ capOk l2) by unfold capOk; omega)
        go_wp2
        go_ret2
        first | exact ⟨HT0.out, .inl ⟨HC.out, rfl⟩⟩ | exact ⟨HT0.out, .inl ⟨fun a b c => HC.out ⟨a, b, c⟩, rfl⟩⟩
    · have G : capOk l1 ∨ l1 < 1 ∨ (¬ l1 < 1 ∧ 256 < l1) := by unfold capOk; omega
      rcases G with hc | hc | ⟨hc1, hc2⟩
      · have HC := Lib.hid hc
        have g0 : ¬ l1 < 1 := by unfold capOk at hc; omega
        have g1 : ¬ 256 < l1 := by unfold capOk at hc; omega
        clear hc
        go_wp2
        go_roundg (gk - 1)
        case rel => exact ⟨2, by go_num, by omega, by omega, rfl, Lib.hid (show limsOk l0 l1 l2 _ from ⟨hU.out, HC.out⟩)⟩
        case measure => omega
      · have HC := Lib.hid (show ¬ (capOk l0 ∧ capOk l1 ∧ capOk l2) by unfold capOk; omega)
        go_wp2
        go_ret2
        first | exact ⟨HT0.out, .inl ⟨HC.out, rfl⟩⟩ | exact ⟨HT0.out, .inl ⟨fun a b c => HC.out ⟨a, b, c⟩, rfl⟩⟩
      · have HC := Lib.hid (show ¬ (capOk l0 ∧ capOk l1 ∧ capOk l2) by unfold capOk; omega)
        go_wp2
        go_ret2
        first | exact ⟨HT0.out, .inl ⟨HC.out, rfl⟩⟩ | exact ⟨HT0.out, .inl ⟨fun a b c => HC.out ⟨a, b, c⟩, rfl⟩⟩
    · have G : capOk l2 ∨ l2 < 1 ∨ (¬ l2 < 1 ∧ 256 < l2) := by unfold capOk; omega
      rcases G with hc | hc | ⟨hc1, hc2⟩
      · have HC := Lib.hid hc
        have g0 : ¬ l2 < 1 := by unfold capOk at hc; omega
        have g1 : ¬ 256 < l2 := by unfold capOk at hc; omega
        clear hc
        go_wp2
        go_roundg (gk - 1)
        case rel => exact ⟨3, by go_num, by omega, by omega, rfl, Lib.hid (show limsOk l0 l1 l2 _ from ⟨hU.out.1, hU.out.2, HC.out⟩)⟩
        case measure => omega
      · have HC := Lib.hid (show ¬ (capOk l0 ∧ capOk l1 ∧ capOk l2) by unfold capOk; omega)
        go_wp2
        go_ret2
        first | exact ⟨HT0.out, .inl ⟨HC.out, rfl⟩⟩ | exact ⟨HT0.out, .inl ⟨fun a b c => HC.out ⟨a, b, c⟩, rfl⟩⟩
      · have HC := Lib.hid (show ¬ (capOk l0 ∧ capOk l1 ∧ capOk l2) by unfold capOk; omega)
        go_wp2
        go_ret2
        first | exact ⟨HT0.out, .inl ⟨HC.out, rfl⟩⟩ | exact ⟨HT0.out, .inl ⟨fun a b c => HC.out ⟨a, b, c⟩, rfl⟩⟩
    · go_wp2_with fail
      refine (empty_calls B0.out).mono ?_
      rintro e w1 ⟨rfl, tb, b1, m1, b2, m2, S, hK, ht, hN⟩
      have HK := Lib.hid hK
      have T1 := Lib.hid ht
      have HN := Lib.hid hN
      clear hK ht hN
      go_wp2
      go_ret2
      have e1 := HKB.out
      have e2 := HT0.out.size
      refine ⟨HT0.out.trans T1.out (by simp; omega), .inr ⟨hU.out, kb, tb, b1, m1, b2, m2, S, rfl, HK.out, fun x hx => ?_⟩⟩
      rcases List.mem_cons.1 hx with h | h
      · omega
      · have := HN.out x h; omega
end Go.Proofs.YtnpeafhjcelpfaaGreat.Tri
