/- The pieces that FragFirst and its like make; no condition. -/
import Derived.Test.YtelfemhnijnhfaaGE
namespace Go.Proofs.Ytelfemhnijnhfaa.Fr
open Go.RowKit Go.Maps
set_option linter.unusedVariables false
set_option linter.unusedSimpArgs false
set_option maxRecDepth 100000
attribute [local go_sem] nilB

def pieceP (id off : Int) (n : Nat) (c : Int) (mf : Bool) (ttl : Int) : Pk := ⟨⟨0, id, false, mf, 8 * off, ttl, 17, 1, 2⟩, [], List.replicate (8 * n) c⟩
def PiecePost (w : World) (p : Pk) (e : Ending) (w' : World) : Prop := ∃ VB, e = .returned (.agg (pkC p.h (.slice none 0 0) VB)) ∧ OwB w' VB p.body ∧ Fresh w.heap.size VB ∧ Touch [] w w'
theorem fill_step (i N : Nat) (c : Int) (h : i < N) : (List.replicate i c ++ List.replicate (N - i) 0).set i c = List.replicate (i + 1) c ++ List.replicate (N - (i + 1)) 0 := by
  apply List.ext_getElem?
  intro j
  rw [List.getElem?_set]
  by_cases e : i = j
  · subst e
    rw [if_pos rfl, if_pos (by simp; omega), List.getElem?_append_left (by simp)]
    simp
  · rw [if_neg e]
    by_cases h1 : j < i
    · rw [List.getElem?_append_left (by simp; omega), List.getElem?_append_left (by simp; omega)]
      simp [h1, show j < i + 1 by omega]
    · rw [List.getElem?_append_right (by simp; omega), List.getElem?_append_right (by simp; omega)]
      simp only [List.length_replicate, List.getElem?_replicate]
      by_cases h2 : j < N
      · rw [if_pos (by omega), if_pos (by omega)]
      · rw [if_neg (by omega), if_neg (by omega)]
set_option maxHeartbeats 2000000 in
theorem mk_calls (w : World) (id off : Int) (n : Nat) (c : Int) (mf : Bool) (ttl : Int) (ho0 : 0 ≤ off) (ho9 : off ≤ 100000) (hn : n ≤ 100000) (hc : 0 ≤ c ∧ c < 256) :
    Calls Try.prog 19 #[.int .u16 id, .int .i64 off, .int .i64 n, .int .u8 c, .bool mf, .int .u8 ttl] w (PiecePost w (pieceP id off n c mf ttl)) := by
  obtain ⟨N, hN⟩ : ∃ N, N = 8 * n := ⟨_, rfl⟩
  have HN := Lib.hid hN
  have hN9 : N ≤ 800000 := by omega
  have hNe : Hid (8 * (n : Int) = (N : Int)) := Lib.hid (by omega)
  clear hN
  go_enter Try.func19, Try.ntmps19
  go_upto_region 1 with (fail)
  obtain ⟨W0, hW0⟩ : ∃ W0 : World, W0 = w.alloc (.cells (pkC ⟨0, 0, false, false, 0, 0, 0, 0, 0⟩ (.slice none 0 0) (.slice none 0 0)) 30) := ⟨_, rfl⟩
  rw [← hW0]
  have t0 : Touch [] w W0 := by rw [hW0]; exact (Touch.refl [] w).alloc _
  have Y0 := Lib.hid (show W0.heap[w.heap.size]? = some (.cells (pkC ⟨0, 0, false, false, 0, 0, 0, 0, 0⟩ (.slice none 0 0) (.slice none 0 0)) 30 (0, 0)) by rw [hW0]; exact box_at _ _)
  have T0 := Lib.hid t0
  obtain ⟨b0, hb0⟩ : ∃ b0, b0 = w.heap.size := ⟨_, rfl⟩
  have HB0 := Lib.hid hb0
  rw [← hb0] at Y0 ⊢
  clear hb0 t0 hW0
  go_upto_region 2 with (refine wpList_make_b _ (by rfl) (.tmp 16) (.tmp 16) (by rfl) N (by rw [← hNe.out]; rfl) (by rw [← hNe.out]; rfl) (by omega) ?_; intro w1 o1 t1; have O1 := Lib.hid o1; have T1 := Lib.hid t1; clear o1 t1)
  obtain ⟨g, hg⟩ : ∃ g, g = W0.heap.size := ⟨_, rfl⟩
  have HG : Hid (b0 < g) := Lib.hid (by rw [hg]; exact (Array.getElem?_eq_some_iff.1 Y0.out).1)
  rw [← hg] at O1 ⊢
  have Y1 := Lib.hid (touch_box T1.out Y0.out (by simp))
  have TT1 := Lib.hid (T0.out.trans T1.out (by simp))
  clear hg Y0 T0 T1
  go_wp2_with fail
  go_loopg [14] N (fun kq v14 wr => ∃ i : Nat, v14 = .int .i64 i ∧ i ≤ N ∧ N - i ≤ kq ∧ Hid (OwB wr (.slice (some ⟨g, 0, none⟩) N N) (List.replicate i c ++ List.replicate (N - i) 0)) ∧ Hid (Touch [] w wr) ∧ Hid (wr.heap[b0]? = some (.cells (pkC ⟨0, 0, false, false, 0, 0, 0, 0, 0⟩ (.slice none 0 0) (.slice none 0 0)) 30 (0, 0))))
  case atStart => exact ⟨0, rfl, by omega, by omega, by simpa using O1, TT1, Y1⟩
  case round =>
    obtain ⟨i, rfl, hi, hik, hO, hT, hY⟩ := hrel
    by_cases hin : i < N
    · have li : (i : Int) < (N : Int) := by omega
      obtain ⟨⟨x, kx⟩, fx⟩ := hO.out.at_ hin
      obtain ⟨W2, hW2⟩ : ∃ W2 : World, W2 = wr.setCell ⟨g, i, none⟩ (.int .u8 c) := ⟨_, rfl⟩
      have HW2 := Lib.hid hW2
      clear hW2
      go_wp2
      rw [← HW2.out]
      have t2 : Touch [g] wr W2 := by rw [HW2.out]; exact (Touch.refl _ wr).setCell _ _ (.inl (by simp))
      have O2 := Lib.hid (show OwB W2 (.slice (some ⟨g, 0, none⟩) N N) (List.replicate (i + 1) c ++ List.replicate (N - (i + 1)) 0) by rw [HW2.out, ← fill_step i N c hin]; exact hO.out.setc i hc)
      have Y2 := Lib.hid (touch_box t2 hY.out (by have := HG.out; simp; omega))
      have T2 := Lib.hid (hT.out.trans t2 (fun x hx => .inr (by have := HG.out; have := HB0.out; simp at hx; omega)))
      clear t2 HW2 kx fx hO hY hT
      go_roundg (gk - 1)
      case rel => exact ⟨i + 1, by go_num, by omega, by omega, O2, T2, Y2⟩
      case measure => omega
    · have hin' : i = N := by omega
      subst hin'
      have li : ¬ (i : Int) < (i : Int) := by omega
      have OF : Hid (OwB wr (.slice (some ⟨g, 0, none⟩) i i) (List.replicate i c)) := Lib.hid (by have := hO.out; simpa using this)
      obtain ⟨r0, r1, r2, r3, r4, r5, r6, r7, r8, r9, r10⟩ := pk_cells hY.out
      dsimp only at r0 r1 r2 r3 r4 r5 r6 r7 r8 r9 r10
      have z := fun o => box_frozen hY.out o
      obtain ⟨WZ, hWZ, RZ, tZ⟩ := pk_set (h := ⟨0, id, false, mf, 8 * off, ttl, 17, 1, 2⟩) (VO := .slice none 0 0) (VB := .slice (some ⟨g, 0, none⟩) i i) hY.out
      dsimp only at hWZ
      have HWZ := Lib.hid hWZ
      have HRZ := Lib.hid RZ
      have TZ := Lib.hid tZ
      clear hWZ RZ tZ hO hik
      go_wp2
      rw [← HWZ.out]
      clear r0 r1 r2 r3 r4 r5 r6 r7 r8 r9 r10 z HWZ
      obtain ⟨r0, r1, r2, r3, r4, r5, r6, r7, r8, r9, r10⟩ := pk_cells HRZ.out
      dsimp only at r0 r1 r2 r3 r4 r5 r6 r7 r8 r9 r10
      refine bodyPost_ret (v := .agg (pkC ⟨0, id, false, mf, 8 * off, ttl, 17, 1, 2⟩ (.slice none 0 0) (.slice (some ⟨g, 0, none⟩) i i))) (by simp [results, Try.results19, go_sem, r0, r1, r2, r3, r4, r5, r6, r7, r8, r9, r10]) rfl ?_
      refine ⟨_, rfl, ?_, fun k hk => ?_, hT.out.trans TZ.out (fun x hx => .inr (by have := HB0.out; simp at hx; omega))⟩
      · have h1 := OwB.ext OF.out TZ.out (by have := HG.out; omega)
        unfold pieceP
        dsimp only
        rw [← HN.out]
        exact h1
      · simp [Value.ownBlock] at hk
        have := HG.out
        have := HB0.out
        omega
end Go.Proofs.Ytelfemhnijnhfaa.Fr
