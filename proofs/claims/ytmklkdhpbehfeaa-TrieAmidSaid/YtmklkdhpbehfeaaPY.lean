/- play of Put, Del, Get; no condition. -/
import Derived.Test.YtmklkdhpbehfeaaBN
namespace Go.Proofs.Ytmklkdhpbehfeaa.Tri
open Go.RowKit Go.Maps
set_option linter.unusedVariables false

structure OpX where
  kd : Int
  wh : Int
  a : Nat
  m : Int
  A : Nat
  v : Int
structure OpX.wf (x : OpX) : Prop where
  wh1 : -9223372036854775808 ≤ x.wh
  wh2 : x.wh ≤ 9223372036854775807
  a : x.a < 4294967296
  A : x.A < 4294967296
structure RdO (w : World) (A : Option Addr) (n : Nat) (l : List OpX) : Prop where
  len : l.length = n
  wf : ∀ x ∈ l, x.wf
  at_ : 0 < n → ∃ b off, A = some ⟨b, off, none⟩ ∧ b < w.heap.size ∧ ∀ (i : Nat) (x : OpX), l[i]? = some x → w.cell? ⟨b, off + i * 6, none⟩ = some (.int .i64 x.kd) ∧ w.cell? ⟨b, off + i * 6 + 1, none⟩ = some (.int .i64 x.wh) ∧ w.cell? ⟨b, off + i * 6 + 2, none⟩ = some (.int .u32 x.a) ∧ w.cell? ⟨b, off + i * 6 + 3, none⟩ = some (.int .i64 x.m) ∧ w.cell? ⟨b, off + i * 6 + 4, none⟩ = some (.int .u32 x.A) ∧ w.cell? ⟨b, off + i * 6 + 5, none⟩ = some (.int .i64 x.v)
theorem RdO.kept {w w' : World} {A : Option Addr} {n : Nat} {l : List OpX} (h : RdO w A n l) (t : Touch [] w w') : RdO w' A n l := by
  refine ⟨h.len, h.wf, fun h0 => ?_⟩
  obtain ⟨b, off, hA, hb, hc⟩ := h.at_ h0
  exact ⟨b, off, hA, Nat.lt_of_lt_of_le hb t.size, fun i p hp => by
    obtain ⟨h1, h2, h3, h4, h5, h6⟩ := hc i p hp
    exact ⟨cell_touch t h1 (by simp), cell_touch t h2 (by simp), cell_touch t h3 (by simp), cell_touch t h4 (by simp), cell_touch t h5 (by simp), cell_touch t h6 (by simp)⟩⟩
theorem row0 (w : World) : RowAt (w.alloc (.cells #[.pointer none, .pointer none, .pointer none, .pointer none, .pointer none, .pointer none, .pointer none, .pointer none, .pointer none, .pointer none, .pointer none, .pointer none, .pointer none, .pointer none, .pointer none, .pointer none] 123)) w.heap.size (fun _ => none) 0 := by
  refine ⟨⟨_, box_at w _, rfl, fun i hi => ?_⟩, by simp, by simp, by simp, by simp⟩
  have : i = 0 ∨ i = 1 ∨ i = 2 ∨ i = 3 ∨ i = 4 ∨ i = 5 ∨ i = 6 ∨ i = 7 := by omega
  rcases this with rfl | rfl | rfl | rfl | rfl | rfl | rfl | rfl <;> exact ⟨rfl, rfl⟩
def Feet (w : World) (f : Nat → Option Duo) : Prop := ∀ i P, f i = some P → ∀ x ∈ P.foot, w.heap.size ≤ x
theorem Feet.put {w : World} {f : Nat → Option Duo} (h : Feet w f) {k : Nat} {P : Duo} (hP : ∀ x ∈ P.foot, w.heap.size ≤ x) : Feet w (put1 f k P) := by
  intro i Q hQ
  unfold put1 at hQ
  split at hQ
  · injection hQ with hQ; subst hQ; exact hP
  · exact h i Q hQ
set_option maxHeartbeats 4000000 in
set_option maxRecDepth 100000 in
theorem play13_calls {w : World} {A : Option Addr} {n cap : Nat} {l : List OpX} (h : RdO w A n l) (hn : n < 3000000000000) :
    Calls Try.prog 38 #[.slice A n cap, .int .i64 1, .int .i64 3] w fun e w' => e = .returned (.bool true) ∧ Touch [] w w' := by
  have H := Lib.hid h
  clear h
  go_enter Try.func38, Try.ntmps38
  go_wp2_with fail
  refine (begin_calls (row0 w) 0 (by decide)).mono ?_
  rintro e w1 ⟨rfl, t1, P1, r1, f1⟩
  have T1 : Hid (Touch [] w w1) := Lib.hid (((Touch.refl [] w).alloc _).trans t1 (fun x hx => .inr (by simp at hx; omega)))
  have F1 : Hid (Feet w (put1 (fun _ => none) 0 P1)) := Lib.hid (Feet.put (by intro i P hP; cases hP) (fun x hx => Nat.le_trans (by simp) (f1 x hx)))
  have R1 := Lib.hid r1
  clear t1 r1 f1
  go_wp2_with fail
  refine (begin_calls R1.out 1 (by decide)).mono ?_
  rintro e w2 ⟨rfl, t2, P2, r2, f2⟩
  have T2 : Hid (Touch [] w w2) := Lib.hid (T1.out.trans t2 (fun x hx => .inr (by simp at hx; omega)))
  have F2 : Hid (Feet w (put1 (put1 (fun _ => none) 0 P1) 1 P2)) := Lib.hid (Feet.put F1.out (fun x hx => Nat.le_trans T1.out.size (f2 x hx)))
  have R2 := Lib.hid r2
  clear t2 r2 f2
  go_wp2_with fail
  refine (begun_calls _).mono ?_
  rintro e w3 ⟨rfl, t3⟩
  have T3 := Lib.hid (T2.out.trans t3 (by simp))
  have R3 := Lib.hid (R2.out.kept t3)
  clear t3
  go_wp2
  go_loopw [8] (fun v8 wr => ∃ (i : Nat) (f : Nat → Option Duo), v8 = .int .i64 i ∧ i ≤ n ∧ Hid (RowAt wr w.heap.size f i) ∧ Hid (Feet w f) ∧ Hid (Touch [] w wr)) (fun v8 _ => n - (intOf v8).toNat)
  case atStart => exact ⟨0, _, rfl, Nat.zero_le _, R3, F2, T3⟩
  case round =>
    obtain ⟨i, f, rfl, hi, hR, hF, hT⟩ := hrel
    by_cases hin : i < n
    · have b1 : (i : Int) < (n : Int) := by omega
      obtain ⟨b, off, hA, hb, hc⟩ := (H.out.kept hT.out).at_ (by omega)
      subst hA
      obtain ⟨x, hx⟩ : ∃ x, l[i]? = some x := ⟨_, List.getElem?_eq_getElem (by rw [H.out.len]; omega)⟩
      have hwf := H.out.wf _ (List.mem_of_getElem? hx)
      obtain ⟨m0, m1, m2, m3, m4, m5⟩ := hc i _ hx
      obtain ⟨kd, wh, a, m, aA, v⟩ := x
      obtain ⟨wf1, wf2, wf3, wf4⟩ := hwf
      dsimp only at m0 m1 m2 m3 m4 m5 wf1 wf2 wf3 wf4
      clear hc hx
      go_wp2_with fail
      refine (slot_calls wh _ wf1 wf2).mono ?_
      rintro e w5 ⟨rfl, hw⟩
      obtain ⟨k, hkk⟩ : ∃ k, k = slotN wh := ⟨_, rfl⟩
      have hk : k < 8 := by rw [hkk]; exact slotN_lt wh
      rw [← hkk]
      clear hkk
      have hk8 : (k : Int) < 8 := by omega
      obtain ⟨W, hW⟩ : ∃ W : World, W = wr.alloc (.cells (opC kd wh a m aA v) 127) := ⟨_, rfl⟩
      have hw5 : w5 = W := by rw [hw, hW]; rfl
      subst hw5
      have tW : Touch [] wr w5 := by rw [hW]; exact (Touch.refl [] wr).alloc _
      have XW := Lib.hid (show w5.heap[wr.heap.size]? = some (.cells (opC kd wh a m aA v) 127 (0, 0)) by rw [hW]; exact box_at wr _)
      have TW := Lib.hid (hT.out.trans tW (by simp))
      have RW := Lib.hid (hR.out.kept tW)
      have hBr : wr.heap.size ≠ w.heap.size := by have := hR.out.lt; omega
      clear hW hw tW m0 m1 m2 m3 m4 m5
      obtain ⟨x0, x1, x2, x3, x4, x5⟩ := op_cells XW.out
      obtain ⟨rA, rB, _⟩ := RW.out.cell k hk
      go_upto_region 9 with (fail)
      go_cut [56] (fun v56 wc => v56 = .bool false ∧ ∃ (f' : Nat → Option Duo) (P : Duo), f' k = some P ∧ Hid (RowAt wc w.heap.size f' i) ∧ Hid (Feet w f') ∧ Hid (Touch [] w wc) ∧ Hid (wc.heap[wr.heap.size]? = some (.cells (opC kd wh a m aA v) 127 (0, 0))))
      case first =>
        by_cases e9 : kd = 9
        · have e9b : (kd == 9) = true := by rw [beq_iff_eq]; exact e9
          subst e9
          go_wp2_with fail
          refine (begin_calls RW.out k hk).mono ?_
          rintro e w6 ⟨rfl, t6, P, r6, f6⟩
          have T6 := Lib.hid (TW.out.trans t6 (fun x hx => .inr (by simp at hx; omega)))
          have R6 := Lib.hid r6
          have F6 := Lib.hid (Feet.put (k := k) hF.out (fun x hx => Nat.le_trans TW.out.size (f6 x hx)))
          have X6 := Lib.hid (touch_box t6 XW.out (by simp [hBr]))
          clear t6 r6 f6
          go_wp2
          go_meet
          case rel => exact ⟨rfl, put1 f k P, P, by simp [put1], R6, F6, T6, X6⟩
        · have e9b : (kd == 9) = false := by rw [beq_eq_false_iff_ne]; exact e9
          cases hfk : f k with
          | none =>
            rw [hfk] at rA
            simp only [pa] at rA
            go_wp2_with fail
            refine (begin_calls RW.out k hk).mono ?_
            rintro e w6 ⟨rfl, t6, P, r6, f6⟩
            have T6 := Lib.hid (TW.out.trans t6 (fun x hx => .inr (by simp at hx; omega)))
            have R6 := Lib.hid r6
            have F6 := Lib.hid (Feet.put (k := k) hF.out (fun x hx => Nat.le_trans TW.out.size (f6 x hx)))
            have X6 := Lib.hid (touch_box t6 XW.out (by simp [hBr]))
            clear t6 r6 f6
            go_wp2
            go_meet
            case rel => exact ⟨rfl, put1 f k P, P, by simp [put1], R6, F6, T6, X6⟩
          | some P =>
            rw [hfk] at rA
            simp only [pa] at rA
            go_wp2
            go_meet
            case rel => exact ⟨rfl, f, P, hfk, RW, hF, TW, XW⟩
      case rest =>
      obtain ⟨rfl, f', P, hP, hR', hF', hT', hX'⟩ := hcut
      obtain ⟨x0, x1, x2, x3, x4, x5⟩ := op_cells hX'.out
      obtain ⟨rA, rB, _⟩ := hR'.out.cell k hk
      rw [hP] at rA rB
      simp only [pa, pb] at rA rB
      by_cases h3 : 3 < kd
      · have h1 : ¬ kd < 1 := by omega
        go_wp2
        go_roundw
        case rel => exact ⟨i + 1, f', by go_num, by omega, Lib.hid (hR'.out.mono (by omega)), hF', hT'⟩
        case measure => simp [intOf]; omega
      · have hlen := hR'.out.len k P hk hP
        have hpl : Hid (∀ w0 : World, Touch [] wc w0 → Calls Try.prog 60 #[.pointer (some ⟨P.tb, 0, none⟩), .pointer (some ⟨P.rb, 0, none⟩), opV kd wh a m aA v] w0 (PlaysPost w0 P)) := Lib.hid (fun w0 t0 => by
          have hD := (hR'.out.duo k P hk hP).kept t0 (by simp)
          by_cases h1 : kd < 1
          · exact plays_none hD kd wh a m aA v (.inl h1)
          · have : kd = 1 ∨ kd = 2 ∨ kd = 3 := by omega
            rcases this with rfl | rfl | rfl
            · exact plays_put hD wh a m aA v wf3 (by omega)
            · exact plays_del hD wh a m aA v wf3 (by omega)
            · exact plays_get hD wh a m aA v wf3 (by omega))
        go_wp2
        go_still_tail 13, (by kernel_rfl)
        change wpList _ _ _ _ _ (World.drew wc)
        go_wp2_with fail
        have t0 : Touch [] wc (World.drew wc) := (Touch.refl [] wc).drew
        refine (hpl.out _ t0).mono ?_
        rintro e w8 ⟨rfl, P', st⟩
        have st2 := DuoStep.after t0 st
        have R8 := Lib.hid (hR'.out.step hk hP st2)
        have F8 := Lib.hid (Feet.put (k := k) hF'.out (P := P') (fun x hx => by
          rcases st2.foot x hx with h | h
          · exact hF'.out k P hP x h
          · exact Nat.le_trans hT'.out.size h))
        have T8 := Lib.hid (hT'.out.trans st2.touch (fun x hx => .inr (hF'.out k P hP x hx)))
        have X8 : Hid (wr.heap.size = wr.heap.size) := Lib.hid rfl
        clear st st2 x0 x1 x2 x3 x4 x5 rA rB
        go_wp2
        go_roundw
        case rel => exact ⟨i + 1, _, by go_num, by omega, R8, F8, T8⟩
        case measure => simp [intOf]; omega
    · have b1 : ¬ (i : Int) < (n : Int) := by omega
      clear hin
      go_wp2
      go_ret
      exact ⟨rfl, hT.out⟩
end Go.Proofs.Ytmklkdhpbehfeaa.Tri
