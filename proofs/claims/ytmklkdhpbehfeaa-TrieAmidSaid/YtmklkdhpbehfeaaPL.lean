/- plays: Put, Del, Get, what does nothing; no condition. -/
import Derived.Test.YtmklkdhpbehfeaaBB
namespace Go.Proofs.Ytmklkdhpbehfeaa.Tri
open Go.RowKit Go.Maps
set_option linter.unusedVariables false

def opV (kd wh : Int) (a : Nat) (m : Int) (A : Nat) (v : Int) : Value := .agg #[.int .i64 kd, .int .i64 wh, .int .u32 a, .int .i64 m, .int .u32 A, .int .i64 v]
def opC (kd wh : Int) (a : Nat) (m : Int) (A : Nat) (v : Int) : Array Value := #[.int .i64 kd, .int .i64 wh, .int .u32 a, .int .i64 m, .int .u32 A, .int .i64 v]
theorem op_cells {w : World} {b : Nat} {kd wh : Int} {a : Nat} {m : Int} {A : Nat} {v : Int} {T : TypeId} (h : w.heap[b]? = some (.cells (opC kd wh a m A v) T (0, 0))) :
    w.cell? ⟨b, 0, none⟩ = some (.int .i64 kd) ∧ w.cell? ⟨b, 1, none⟩ = some (.int .i64 wh) ∧ w.cell? ⟨b, 2, none⟩ = some (.int .u32 a) ∧ w.cell? ⟨b, 3, none⟩ = some (.int .i64 m) ∧ w.cell? ⟨b, 4, none⟩ = some (.int .u32 A) ∧ w.cell? ⟨b, 5, none⟩ = some (.int .i64 v) := by
  refine ⟨?_, ?_, ?_, ?_, ?_, ?_⟩ <;> simp [World.cell?, h, opC]
def PlaysPost (w : World) (P : Duo) (e : Ending) (w' : World) : Prop := e = .returned (.bool true) ∧ ∃ P', DuoStep w P w' P'
theorem okP_nat {a : Nat} {m : Int} (h : okP a m) : ∃ n : Nat, m = (n : Int) ∧ Px.ok ⟨a, n⟩ := ⟨m.toNat, by have := h.1; omega, h.2⟩
set_option maxHeartbeats 4000000 in
set_option maxRecDepth 100000 in
theorem plays_put {w : World} {P : Duo} (h : DuoAt w P) (wh : Int) (a : Nat) (m : Int) (A : Nat) (v : Int) (ha : a < 4294967296) (hk : P.k < 4000000000000) :
    Calls Try.prog 60 #[.pointer (some ⟨P.tb, 0, none⟩), .pointer (some ⟨P.rb, 0, none⟩), opV 1 wh a m A v] w (PlaysPost w P) := by
  have H := Lib.hid h
  have HE := Lib.hid h.a.len
  have t0 : Touch [] w (w.alloc (.cells (opC 1 wh a m A v) 127)) := (Touch.refl [] w).alloc _
  have T0 := Lib.hid t0
  have X0 := Lib.hid (box_at w (.cells (opC 1 wh a m A v) 127 (0, 0)))
  have hnw : w.heap.size ∉ P.S := fun hx => Nat.lt_irrefl _ (h.a.lt _ hx)
  clear h t0
  unfold opV
  by_cases hok : okP a m
  · obtain ⟨n, rfl, hp⟩ := okP_nat hok
    have HP := Lib.hid hp
    clear hok hp
    go_enter Try.func60, Try.ntmps60
    go_wp2_with fail
    refine (put_calls (H.out.kept T0.out (by simp)).a ⟨a, n⟩ v HP.out (by omega)).mono ?_
    rintro e w1 ⟨rfl, S', k', h1, t1, hs1⟩
    have H1 := Lib.hid h1
    have T1 := Lib.hid t1
    have HS1 := Lib.hid hs1
    obtain ⟨x0, _, x2, x3, _, x5⟩ := op_cells (touch_box t1 X0.out hnw)
    clear h1 t1 hs1
    go_wp2_with fail
    refine (rput_calls (w := w1) ((H.out.kept T0.out (by simp)).b.kept T1.out (fun x hx hx2 => H.out.dis x hx2 hx)) (ents_sorted _ H.out.a.ok) ⟨a, n⟩ v HP.out (by rw [← HE.out]; omega)).mono ?_
    rintro e w2 ⟨rfl, V', l', h2, hl, t2, hs2⟩
    have ST := Lib.hid (DuoStep.after T0.out ((H.out.kept T0.out (by simp)).put HP.out H1.out T1.out HS1.out h2 hl t2 hs2))
    clear h2 hl t2 hs2 x0 x2 x3 x5
    go_wp2
    go_ret
    exact ⟨rfl, _, ST.out⟩
  · have HN := Lib.hid hok
    clear hok
    go_enter Try.func60, Try.ntmps60
    go_wp2_with fail
    refine (put_bad _ a m v ha HN.out).mono ?_
    rintro e w1 ⟨rfl, t1⟩
    have T1 := Lib.hid t1
    obtain ⟨x0, _, x2, x3, _, x5⟩ := op_cells (touch_box t1 X0.out (by simp))
    clear t1
    go_wp2_with fail
    refine (rput_bad _ a m v ha HN.out).mono ?_
    rintro e w2 ⟨rfl, t2⟩
    have ST := Lib.hid (DuoStep.same H.out ((T0.out.trans T1.out (by simp)).trans t2 (by simp)))
    clear t2 x0 x2 x3 x5
    go_wp2
    go_ret
    exact ⟨rfl, _, ST.out⟩
set_option maxHeartbeats 4000000 in
set_option maxRecDepth 100000 in
theorem plays_del {w : World} {P : Duo} (h : DuoAt w P) (wh : Int) (a : Nat) (m : Int) (A : Nat) (v : Int) (ha : a < 4294967296) (hk : P.k < 4000000000000) :
    Calls Try.prog 60 #[.pointer (some ⟨P.tb, 0, none⟩), .pointer (some ⟨P.rb, 0, none⟩), opV 2 wh a m A v] w (PlaysPost w P) := by
  have H := Lib.hid h
  have HE := Lib.hid h.a.len
  have t0 : Touch [] w (w.alloc (.cells (opC 2 wh a m A v) 127)) := (Touch.refl [] w).alloc _
  have T0 := Lib.hid t0
  have X0 := Lib.hid (box_at w (.cells (opC 2 wh a m A v) 127 (0, 0)))
  have hnw : w.heap.size ∉ P.S := fun hx => Nat.lt_irrefl _ (h.a.lt _ hx)
  clear h t0
  unfold opV
  by_cases hok : okP a m
  · obtain ⟨n, rfl, hp⟩ := okP_nat hok
    have HP := Lib.hid hp
    clear hok hp
    go_enter Try.func60, Try.ntmps60
    go_wp2_with fail
    refine (del_calls (H.out.kept T0.out (by simp)).a ⟨a, n⟩ HP.out (by omega)).mono ?_
    rintro e w1 (⟨hn, rfl, t1⟩ | ⟨u, hu, rfl, S', k', h1, t1, hs1⟩)
    · have T1 := Lib.hid t1
      have HN := Lib.hid ((seek_none H.out.a.ok HP.out).1 hn)
      obtain ⟨x0, _, x2, x3, _, x5⟩ := op_cells (touch_box t1 X0.out (by simp))
      clear t1 hn
      go_wp2_with fail
      refine (rdel_calls (w := w1) ((H.out.kept T0.out (by simp)).b.kept T1.out (by simp)) ⟨a, n⟩ HP.out (by rw [← HE.out]; omega)).mono ?_
      rintro e w2 (⟨hn2, rfl, t2⟩ | ⟨u2, hu2, rfl, _⟩)
      · have ST := Lib.hid (DuoStep.same H.out ((T0.out.trans T1.out (by simp)).trans t2 (by simp)))
        clear t2 x0 x2 x3 x5 hn2
        go_wp2
        go_ret
        exact ⟨rfl, _, ST.out⟩
      · exact absurd hu2 (HN.out u2)
    · have H1 := Lib.hid h1
      have T1 := Lib.hid t1
      have HS1 := Lib.hid hs1
      have HU := Lib.hid ((seek_is _ _ _ H.out.a.ok HP.out).1 hu)
      obtain ⟨x0, _, x2, x3, _, x5⟩ := op_cells (touch_box t1 X0.out hnw)
      clear h1 t1 hs1 hu
      go_wp2_with fail
      refine (rdel_calls (w := w1) ((H.out.kept T0.out (by simp)).b.kept T1.out (fun x hx hx2 => H.out.dis x hx2 hx)) ⟨a, n⟩ HP.out (by rw [← HE.out]; omega)).mono ?_
      rintro e w2 (⟨hn2, rfl, t2⟩ | ⟨u2, hu2, rfl, V', h2, t2, hs2⟩)
      · exact absurd HU.out (hn2 u)
      · obtain rfl : u = u2 := sorted_one (ents_sorted _ H.out.a.ok) HU.out hu2
        have ST := Lib.hid (DuoStep.after T0.out ((H.out.kept T0.out (by simp)).del HU.out H1.out T1.out HS1.out h2 t2 hs2))
        clear h2 hu2 t2 hs2 x0 x2 x3 x5
        go_wp2
        go_ret
        exact ⟨rfl, _, ST.out⟩
  · have HN := Lib.hid hok
    clear hok
    go_enter Try.func60, Try.ntmps60
    go_wp2_with fail
    refine (del_bad _ a m ha HN.out).mono ?_
    rintro e w1 ⟨rfl, t1⟩
    have T1 := Lib.hid t1
    obtain ⟨x0, _, x2, x3, _, x5⟩ := op_cells (touch_box t1 X0.out (by simp))
    clear t1
    go_wp2_with fail
    refine (rdel_bad _ a m ha HN.out).mono ?_
    rintro e w2 ⟨rfl, t2⟩
    have ST := Lib.hid (DuoStep.same H.out ((T0.out.trans T1.out (by simp)).trans t2 (by simp)))
    clear t2 x0 x2 x3 x5
    go_wp2
    go_ret
    exact ⟨rfl, _, ST.out⟩
set_option maxHeartbeats 4000000 in
set_option maxRecDepth 100000 in
theorem plays_get {w : World} {P : Duo} (h : DuoAt w P) (wh : Int) (a : Nat) (m : Int) (A : Nat) (v : Int) (ha : a < 4294967296) (hk : P.k < 4000000000000) :
    Calls Try.prog 60 #[.pointer (some ⟨P.tb, 0, none⟩), .pointer (some ⟨P.rb, 0, none⟩), opV 3 wh a m A v] w (PlaysPost w P) := by
  have H := Lib.hid h
  have HE := Lib.hid h.a.len
  have t0 : Touch [] w (w.alloc (.cells (opC 3 wh a m A v) 127)) := (Touch.refl [] w).alloc _
  have T0 := Lib.hid t0
  have X0 := Lib.hid (box_at w (.cells (opC 3 wh a m A v) 127 (0, 0)))
  clear h t0
  unfold opV
  by_cases hok : okP a m
  · obtain ⟨n, rfl, hp⟩ := okP_nat hok
    have HP := Lib.hid hp
    clear hok hp
    go_enter Try.func60, Try.ntmps60
    go_wp2_with fail
    refine (get_calls (H.out.kept T0.out (by simp)).a ⟨a, n⟩ HP.out).mono ?_
    rintro e w1 ⟨t1, hh⟩
    have T1 := Lib.hid t1
    obtain ⟨x0, _, x2, x3, _, x5⟩ := op_cells (touch_box t1 X0.out (by simp))
    clear t1
    rcases hh with ⟨hn, rfl⟩ | ⟨u, hu, rfl⟩
    · have HN := Lib.hid ((seek_none H.out.a.ok HP.out).1 hn)
      clear hn
      go_wp2_with fail
      refine (rget_calls (w := w1) ((H.out.kept T0.out (by simp)).b.kept T1.out (by simp)) ⟨a, n⟩ HP.out (by rw [← HE.out]; omega)).mono ?_
      rintro e w2 ⟨t2, (⟨hn2, rfl⟩ | ⟨u2, hu2, rfl⟩)⟩
      · have ST := Lib.hid (DuoStep.same H.out ((T0.out.trans T1.out (by simp)).trans t2 (by simp)))
        clear t2 x0 x2 x3 x5 hn2
        go_wp2
        go_ret
        exact ⟨rfl, _, ST.out⟩
      · exact absurd hu2 (HN.out u2)
    · have HU := Lib.hid ((seek_is _ _ _ H.out.a.ok HP.out).1 hu)
      clear hu
      go_wp2_with fail
      refine (rget_calls (w := w1) ((H.out.kept T0.out (by simp)).b.kept T1.out (by simp)) ⟨a, n⟩ HP.out (by rw [← HE.out]; omega)).mono ?_
      rintro e w2 ⟨t2, (⟨hn2, rfl⟩ | ⟨u2, hu2, rfl⟩)⟩
      · exact absurd HU.out (hn2 u)
      · obtain rfl : u = u2 := sorted_one (ents_sorted _ H.out.a.ok) HU.out hu2
        have ST := Lib.hid (DuoStep.same H.out ((T0.out.trans T1.out (by simp)).trans t2 (by simp)))
        clear t2 x0 x2 x3 x5 hu2
        go_wp2
        go_ret
        exact ⟨rfl, _, ST.out⟩
  · have HN := Lib.hid hok
    clear hok
    go_enter Try.func60, Try.ntmps60
    go_wp2_with fail
    refine (get_bad _ a m ha HN.out).mono ?_
    rintro e w1 ⟨rfl, t1⟩
    have T1 := Lib.hid t1
    obtain ⟨x0, _, x2, x3, _, x5⟩ := op_cells (touch_box t1 X0.out (by simp))
    clear t1
    go_wp2_with fail
    refine (rget_bad _ a m ha HN.out).mono ?_
    rintro e w2 ⟨rfl, t2⟩
    have ST := Lib.hid (DuoStep.same H.out ((T0.out.trans T1.out (by simp)).trans t2 (by simp)))
    clear t2 x0 x2 x3 x5
    go_wp2
    go_ret
    exact ⟨rfl, _, ST.out⟩
set_option maxHeartbeats 1000000 in
set_option maxRecDepth 100000 in
theorem plays_none {w : World} {P : Duo} (h : DuoAt w P) (kd wh : Int) (a : Nat) (m : Int) (A : Nat) (v : Int) (hk : kd < 1 ∨ 8 < kd) :
    Calls Try.prog 60 #[.pointer (some ⟨P.tb, 0, none⟩), .pointer (some ⟨P.rb, 0, none⟩), opV kd wh a m A v] w (PlaysPost w P) := by
  have H := Lib.hid h
  have k1 : (kd == 1) = false := by rw [beq_eq_false_iff_ne]; omega
  have k2 : (kd == 2) = false := by rw [beq_eq_false_iff_ne]; omega
  have k3 : (kd == 3) = false := by rw [beq_eq_false_iff_ne]; omega
  have k4 : (kd == 4) = false := by rw [beq_eq_false_iff_ne]; omega
  have k5 : (kd == 5) = false := by rw [beq_eq_false_iff_ne]; omega
  have k6 : (kd == 6) = false := by rw [beq_eq_false_iff_ne]; omega
  have k7 : (kd == 7) = false := by rw [beq_eq_false_iff_ne]; omega
  have k8 : (kd == 8) = false := by rw [beq_eq_false_iff_ne]; omega
  clear h hk
  unfold opV
  go_enter Try.func60, Try.ntmps60
  go_wp2
  go_ret
  exact ⟨rfl, _, DuoStep.same H.out ((Touch.refl [] w).alloc _)⟩
end Go.Proofs.Ytmklkdhpbehfeaa.Tri
