/- The reference's Timers: without, New, When, Next, Set, Drop; no condition. -/
import Derived.Test.YtjnhldcgemcjbaaK
namespace Go.Proofs.Ytjnhldcgemcjbaa.Tm
open Go.RowKit Go.Maps
set_option linter.unusedVariables false

theorem info77 : (Try.prog.info? 77).map (fun i => (i.zero, i.size, i.bytes)) = some (some (.agg #[.int .i64 0, .int .i64 0]), 2, 16) := by kernel_rfl
theorem erase_same (l : List Pr) (k : Nat) : (l.take (k + 1)).eraseIdx k = (l.take k).eraseIdx k := by
  rw [List.eraseIdx_eq_take_drop_succ, List.eraseIdx_eq_take_drop_succ, List.take_take, List.take_take, List.drop_eq_nil_of_le (by simp; omega), List.drop_eq_nil_of_le (by simp; omega)]
  congr 2
  omega
theorem erase_other (l : List Pr) (k j : Nat) (x : Pr) (hk : l[k]? = some x) (hne : k ≠ j) : (l.take (k + 1)).eraseIdx j = (l.take k).eraseIdx j ++ [x] := by
  have hkl := (List.getElem?_eq_some_iff.1 hk).1
  have e : l.take (k + 1) = l.take k ++ [x] := by
    rw [List.take_add_one, hk]; rfl
  rw [e]
  rcases Nat.lt_or_ge j k with h | h
  · rw [List.eraseIdx_append_of_lt_length (by simp; omega)]
  · rw [List.eraseIdx_of_length_le (by simp; omega), List.eraseIdx_of_length_le (by simp; omega)]

theorem set_blk2 {w : World} {tb : Nat} {a V : Value} {t : TypeId} (h : w.heap[tb]? = some (.cells #[a, V] t (0, 0))) (V' : Value) :
    (w.setCell ⟨tb, 1, none⟩ V').heap[tb]? = some (.cells #[a, V'] t (0, 0)) := by
  simp [World.setCell, Array.getElem?_modify, h]

/-- Behind a call that makes the list anew: only block rb is written. -/
def Anew (w : World) (rb : Nat) (lim : Int) (l' : List Pr) (w' : World) : Prop :=
  ∃ V', RefAt w' rb V' lim l' ∧ Touch [rb] w w' ∧ ∀ k, V'.ownBlock = some k → w.heap.size ≤ k

set_option maxHeartbeats 1000000 in
theorem without_calls {w : World} {rb : Nat} {V : Value} {lim : Int} {l : List Pr} (h : RefAt w rb V lim l) (j : Nat) (hsm : l.length ≤ 70000) :
    Calls Try.prog 39 #[.pointer (some ⟨rb, 0, none⟩), .int .i64 j] w fun e w' => e = .returned (.tuple #[]) ∧ Anew w rb lim (l.eraseIdx j) w' := by
  obtain ⟨A, cap, rfl⟩ := h.row.form
  have hlen := h.row.len_le
  have hrb := h.rb_lt
  have H := Lib.hid h
  clear h
  go_enter Try.func39, Try.ntmps39
  go_wp2
  go_loopw [4, 5] (fun v4 v5 wr => ∃ (k : Nat), v5 = .int .i64 k ∧ k ≤ l.length ∧ Hid (PRow wr 77 v4 ((l.take k).eraseIdx j)) ∧ Hid (∀ q, v4.ownBlock = some q → w.heap.size ≤ q) ∧ Hid (Touch [] w wr)) (fun _ v5 _ => l.length - (intOf v5).toNat)
  case atStart => exact ⟨0, rfl, by omega, Lib.hid (by simpa using PRow.nil w 77), Lib.hid (by intro q hq; simp [Value.ownBlock] at hq), Lib.hid (Touch.refl _ _)⟩
  case round =>
    obtain ⟨k, rfl, hk, hP, hB, hT⟩ := hrel
    have hR := H.out.kept hT.out (by simp)
    obtain ⟨c0, c1, f1, hrbr⟩ := blk2_cells hR.blk
    have HR := Lib.hid hR
    clear hR
    obtain ⟨A4, c4, hv4⟩ := hP.out.form
    obtain ⟨n4, hn4⟩ : ∃ n, n = ((l.take k).eraseIdx j).length := ⟨_, rfl⟩
    have hn4l : n4 ≤ k := by rw [hn4]; exact Nat.le_trans (List.length_eraseIdx_le _ _) (by simp; omega)
    rw [← hn4] at hv4
    subst hv4
    have HN4 := Lib.hid hn4
    clear hn4
    by_cases hlt : k < l.length
    · obtain ⟨a, b, _, hab⟩ := getD_pair l k hlt
      obtain ⟨g, cap2, hV, hg, hcap, _, cur, hcur⟩ := HR.out.row.formP (by omega)
      injection hV with hV1 hV2 hV3
      subst hV1 hV3
      obtain ⟨k0, k1, z0, z1⟩ := HR.out.row.cell k (a, b) hab
      dsimp only at k0 k1
      have b1 : (k : Int) < (l.length : Int) := by omega
      have HAB := Lib.hid hab
      clear hab hcur hV2
      by_cases he : k = j
      · have e1 : ((k : Int) != (j : Int)) = false := by rw [bne_eq_false_iff_eq]; omega
        have HE := Lib.hid he
        clear he
        go_wp2
        go_roundw
        case rel => exact ⟨k + 1, by go_num, by omega, Lib.hid (by have := HE.out; subst this; rw [erase_same]; exact hP.out), hB, hT⟩
        case measure => simp [intOf]; omega
      · have e1 : ((k : Int) != (j : Int)) = true := by rw [bne_iff_ne]; omega
        have HE := Lib.hid he
        clear he
        go_wp2_with (at_builtin; go_must (refine wpList_append_pr rfl (.tmp 18) (.tmp 26) 72 77 Try.underlying72 rfl info77 (.slice A4 n4 c4) ((l.take k).eraseIdx j) a b rfl hP.out rfl (by have := HN4.out; omega) ?_); go_must (intro A1 c1' w2 hr1 ht1 hV1; have HR1 := Lib.hid hr1; have HT1 := Lib.hid ht1; have HV1 := Lib.hid hV1; clear hr1 ht1 hV1))
        go_roundw
        case rel =>
          refine ⟨k + 1, by go_num, by omega, Lib.hid ?_, Lib.hid ?_, Lib.hid ?_⟩
          · rw [erase_other l k j (a, b) HAB.out HE.out]; exact HR1.out
          · intro q hq
            rcases HV1.out with e | ⟨q', e, hq'⟩
            · exact hB.out q (by rw [← e]; exact hq)
            · rw [e] at hq; cases hq; exact Nat.le_trans hT.out.size hq'
          · exact hT.out.trans HT1.out (fun x hx => .inr (hB.out x (by simpa using hx)))
        case measure => simp [intOf]; omega
    · have b1 : ¬ (k : Int) < (l.length : Int) := by omega
      have hkl : k = l.length := by omega
      have HK := Lib.hid hkl
      clear hkl hlt
      go_wp2
      go_end0
      refine ⟨rfl, .slice A4 n4 c4, ⟨set_blk2 HR.out.blk _, ?_⟩, hT.out.mono (S' := [rb]) (by simp) |>.trans ((Touch.refl [rb] wr).setCell _ _ (.inl (by simp))) (fun x hx => .inl hx), hB.out⟩
      have hp := hP.out
      rw [HK.out, List.take_length] at hp
      exact hp.kept ((Touch.refl [rb] wr).setCell ⟨rb, 1, none⟩ (.slice A4 n4 c4) (.inl (by simp))) (fun q hq => by have := hB.out q hq; simp; omega)
end Go.Proofs.Ytjnhldcgemcjbaa.Tm
