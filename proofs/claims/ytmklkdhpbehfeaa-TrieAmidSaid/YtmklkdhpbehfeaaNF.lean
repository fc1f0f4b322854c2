/- plays: Len and Nodes; TrieCounts called; no condition. -/
import Derived.Test.YtmklkdhpbehfeaaPF
import Derived.Test.YtmklkdhpbehfeaaNC
namespace Go.Proofs.Ytmklkdhpbehfeaa.Tri
open Go.RowKit Go.Maps
set_option linter.unusedVariables false

theorem nodes_count : ∀ t : T, (ents t).length + (bare t).length = tsize t
  | .nil => rfl
  | .node p v l r => by
    have a := nodes_count l
    have b := nodes_count r
    cases v <;> simp [ents, bare, own, bareOwn, tsize] <;> omega
theorem tsize_all {t : T} (h : Ok t) : (ents t).length + (allL (ents t) (ents t).length).length = tsize t := by
  rw [all_bare h, nodes_count]
theorem tsize_le {t : T} (h : Ok t) : tsize t ≤ 33 * (ents t).length := by
  have := tsize_all h
  have := allL_le (ents_ok h) (ents t).length
  omega
set_option maxHeartbeats 4000000 in
set_option maxRecDepth 100000 in
theorem plays_len {w : World} {P : Duo} (h : DuoAt w P) (wh : Int) (a : Nat) (m : Int) (A : Nat) (v : Int) :
    Calls Try.prog 60 #[.pointer (some ⟨P.tb, 0, none⟩), .pointer (some ⟨P.rb, 0, none⟩), opV 7 wh a m A v] w (PlaysPost w P) := by
  have H := Lib.hid h
  have t0 : Touch [] w (w.alloc (.cells (opC 7 wh a m A v) 127)) := (Touch.refl [] w).alloc _
  have T0 := Lib.hid t0
  have HL := Lib.hid h.a.len
  clear h t0
  unfold opV
  go_enter Try.func60, Try.ntmps60
  go_wp2_with fail
  refine (len_calls (H.out.kept T0.out (by simp)).a).mono ?_
  rintro e w1 ⟨rfl, hw⟩
  obtain rfl := hw.symm
  go_wp2_with fail
  refine (rlen_calls (H.out.kept T0.out (by simp)).b).mono ?_
  rintro e w1 ⟨rfl, hw⟩
  obtain rfl := hw.symm
  rw [← HL.out]
  go_wp2
  go_ret
  exact ⟨by simp, _, DuoStep.same H.out T0.out⟩
set_option maxHeartbeats 4000000 in
set_option maxRecDepth 100000 in
theorem plays_nodes {w : World} {P : Duo} (h : DuoAt w P) (wh : Int) (a : Nat) (m : Int) (A : Nat) (v : Int) (hk : P.k < 4000000000000) :
    Calls Try.prog 60 #[.pointer (some ⟨P.tb, 0, none⟩), .pointer (some ⟨P.rb, 0, none⟩), opV 8 wh a m A v] w (PlaysPost w P) := by
  have H := Lib.hid h
  have t0 : Touch [] w (w.alloc (.cells (opC 8 wh a m A v) 127)) := (Touch.refl [] w).alloc _
  have T0 := Lib.hid t0
  have hl := h.a.len
  have hs := tsize_le h.a.ok
  have HA := Lib.hid (tsize_all h.a.ok)
  clear h t0
  unfold opV
  go_enter Try.func60, Try.ntmps60
  go_wp2_with fail
  refine (nodes_calls (H.out.kept T0.out (by simp)).a (by omega)).mono ?_
  rintro e w1 ⟨rfl, t1⟩
  have T1 := Lib.hid (T0.out.trans t1 (by simp))
  clear t1
  go_wp2_with fail
  refine (rnodes_calls (H.out.kept T1.out (by simp)).b (by omega)).mono ?_
  rintro e w2 ⟨rfl, t2⟩
  have T2 := Lib.hid (T1.out.trans t2 (by simp))
  rw [HA.out]
  clear t2
  go_wp2
  go_ret
  exact ⟨by simp, _, DuoStep.same H.out T2.out⟩
theorem all_counts : PlaysAll 7 8 := by
  intro kd wh a m A v ha hA hin w P h hk
  rcases hin with h3 | ⟨h7, h8⟩
  · exact all_low ha h3 h hk
  · have : kd = 7 ∨ kd = 8 := by omega
    rcases this with rfl | rfl
    · exact plays_len h wh a m A v
    · exact plays_nodes h wh a m A v hk
theorem counts_calls {w : World} {A : Option Addr} {n cap : Nat} {l : List OpX} (h : RdO w A n l) (hn : n < 3000000000000) :
    Calls Try.prog 11 #[.slice A n cap] w fun e w' => e = .returned (.bool true) ∧ Touch [] w w' := by
  have H := Lib.hid h
  clear h
  go_enter Try.func11, Try.ntmps11
  go_wp2_with fail
  refine (play_calls 7 8 all_counts H.out hn).mono ?_
  rintro e w1 ⟨rfl, t1⟩
  go_wp2
  go_ret
  exact ⟨rfl, t1⟩
end Go.Proofs.Ytmklkdhpbehfeaa.Tri
