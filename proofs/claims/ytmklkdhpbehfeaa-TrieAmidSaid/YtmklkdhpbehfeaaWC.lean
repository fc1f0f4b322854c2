/- plays: All and Within; TrieWalks and TriePlays called; no condition. -/
import Derived.Test.YtmklkdhpbehfeaaWB
import Derived.Test.YtmklkdhpbehfeaaPZK
namespace Go.Proofs.Ytmklkdhpbehfeaa.Tri
open Go.RowKit Go.Maps Go.ChangeShapes Go.WideShapes Go.Deep Go.Joins
set_option linter.unusedVariables false

set_option maxHeartbeats 4000000 in
set_option maxRecDepth 100000 in
theorem plays_walks {w : World} {P : Duo} (h : DuoAt w P) (kd wh : Int) (a : Nat) (m : Int) (A : Nat) (v : Int) (ha : a < 4294967296) (hk : 48 * P.k ≤ 140737488355328) (hkd : kd = 5 ∨ kd = 6) :
    Calls Try.prog 60 #[.pointer (some ⟨P.tb, 0, none⟩), .pointer (some ⟨P.rb, 0, none⟩), opV kd wh a m A v] w (PlaysPost w P) := by
  have H := Lib.hid h
  have t0 : Touch [] w (w.alloc (.cells (opC kd wh a m A v) 127)) := (Touch.refl [] w).alloc _
  have T0 := Lib.hid t0
  have HW := Lib.hid (fun w' (t : Touch [] w w') => walks_calls (h.kept t (by simp)) kd wh a m A v hk ha hkd)
  clear h t0
  unfold opV at HW ⊢
  rcases hkd with rfl | rfl
  · go_enter Try.func60, Try.ntmps60
    go_wp2_with fail
    refine (HW.out _ T0.out).mono ?_
    rintro e w1 ⟨rfl, t1⟩
    have T1 := Lib.hid (T0.out.trans t1 (by simp))
    clear t1
    go_wp2
    go_ret
    exact ⟨rfl, _, DuoStep.same H.out T1.out⟩
  · go_enter Try.func60, Try.ntmps60
    go_wp2_with fail
    refine (HW.out _ T0.out).mono ?_
    rintro e w1 ⟨rfl, t1⟩
    have T1 := Lib.hid (T0.out.trans t1 (by simp))
    clear t1
    go_wp2
    go_ret
    exact ⟨rfl, _, DuoStep.same H.out T1.out⟩
theorem few_walks : PlaysFew 5 6 := by
  intro kd wh a m A v ha hA hin w P h hk
  rcases hin with h3 | ⟨h5, h6⟩
  · exact all_low ha h3 h (by omega)
  · exact plays_walks h kd wh a m A v ha hk (by omega)
theorem few_plays : PlaysFew 1 8 := by
  intro kd wh a m A v ha hA hin w P h hk
  by_cases h3 : kd ≤ 3
  · exact all_low ha h3 h (by omega)
  · have : kd = 4 ∨ (kd = 5 ∨ kd = 6) ∨ kd = 7 ∨ kd = 8 := by omega
    rcases this with rfl | h56 | rfl | rfl
    · exact plays_find h wh a m A v hA (by omega)
    · exact plays_walks h kd wh a m A v ha hk h56
    · exact plays_len h wh a m A v
    · exact plays_nodes h wh a m A v (by omega)
theorem walks_row {w : World} {A : Option Addr} {n cap : Nat} {l : List OpX} (h : RdO w A n l) (hn : 48 * n ≤ 140737488355328) :
    Calls Try.prog 10 #[.slice A n cap] w fun e w' => e = .returned (.bool true) ∧ Touch [] w w' := by
  have H := Lib.hid h
  clear h
  go_enter Try.func10, Try.ntmps10
  go_wp2_with fail
  refine (play_few 5 6 few_walks H.out hn).mono ?_
  rintro e w1 ⟨rfl, t1⟩
  go_wp2
  go_ret
  exact ⟨rfl, t1⟩
theorem plays_row {w : World} {A : Option Addr} {n cap : Nat} {l : List OpX} (h : RdO w A n l) (hn : 48 * n ≤ 140737488355328) :
    Calls Try.prog 12 #[.slice A n cap] w fun e w' => e = .returned (.bool true) ∧ Touch [] w w' := by
  have H := Lib.hid h
  clear h
  go_enter Try.func12, Try.ntmps12
  go_wp2_with fail
  refine (play_few 1 8 few_plays H.out hn).mono ?_
  rintro e w1 ⟨rfl, t1⟩
  go_wp2
  go_ret
  exact ⟨rfl, t1⟩
theorem ops_few {H : Type} {ts : List TypeId} {ds : List (DataW H)} (h : (DataW.weightsEach Try.prog ts ds).all (· ≤ reachBytes) = true) {j : Nat} {t e : TypeId} {d : DataW H} (ht : ts[j]? = some t) (hd : ds[j]? = some d) (hu : Try.prog.underlying t = some (.slice e)) (hb : 48 ≤ Try.prog.bytesOf e) : 48 * elemsOf d ≤ 140737488355328 := by
  cases d with
  | slice elems spare =>
    have h1 := sized_slice h ht hd hu
    have h2 : reachBytes ≤ 140737488355328 := by decide
    show 48 * elems.length ≤ _
    have : elems.length * 48 ≤ (elems.length + spare.length) * Try.prog.bytesOf e := Nat.mul_le_mul (by omega) hb
    omega
  | _ => exact (by decide : 48 * 0 ≤ 140737488355328)
end Go.Proofs.Ytmklkdhpbehfeaa.Tri
