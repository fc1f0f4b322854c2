/- sought, Get; no condition. -/
import Derived.Test.YtmklkdhpbehfeaaTG
namespace Go.Proofs.Ytmklkdhpbehfeaa.Tri
open Go.RowKit Go.Maps
set_option linter.unusedVariables false

def SoughtPost (w : World) (t : T) (p : Px) (e : Ending) (w' : World) : Prop :=
  Touch [] w w' ∧ ((seek t p = none ∧ e = .returned (.pointer none)) ∨ ∃ (v : Int) (b : Nat) (pl pr : Value), seek t p = some v ∧ e = .returned (.pointer (some ⟨b, 0, none⟩)) ∧ w.heap[b]? = some (.cells (nodeC p (some v) pl pr) 90 (0, 0)))
theorem inside_yes_near {w0 : World} (u : Near w0) (a n b m : Nat) (ha : a < 4294967296) (hm : m ≤ 32) (hmn : m ≤ n) (hn : n ≤ 32) (h : maskOf a m = b) :
    Calls Try.prog 64 #[.agg #[.int .u32 a, .int .i64 n], .agg #[.int .u32 b, .int .i64 m]] u.w fun e w' => e = .returned (.bool true) ∧ ∃ x : Near w0, w' = x.w :=
  near_call u (inside_yes a n b m u.w ha hm hmn hn h)
theorem inside_no_near {w0 : World} (u : Near w0) (a n b m : Nat) (ha : a < 4294967296) (hm : m ≤ 32) (hn : n ≤ 32) (h : m ≤ n → maskOf a m ≠ b) :
    Calls Try.prog 64 #[.agg #[.int .u32 a, .int .i64 n], .agg #[.int .u32 b, .int .i64 m]] u.w fun e w' => e = .returned (.bool false) ∧ ∃ x : Near w0, w' = x.w :=
  near_call u (inside_no a n b m u.w ha hm hn h)
set_option maxHeartbeats 4000000 in
set_option maxRecDepth 100000 in
theorem sought_calls {w : World} {t : T} {pv : Option Addr} {S : List Nat} (hT : Tr w t (.pointer pv) S) (hO : Ok t) (p : Px) (hp : p.ok) :
    Calls Try.prog 71 #[.pointer pv, .agg #[.int .u32 p.a, .int .i64 p.n]] w (SoughtPost w t p) := by
  have HT := Lib.hid hT
  have HO := Lib.hid hO
  have HP := Lib.hid hp
  have hpa := hp.2.1
  have hp32 := hp.1
  have hg := guard32
  clear hT hO hp
  go_enter Try.func71, Try.ntmps71
  go_wp2
  obtain ⟨W1, hW1⟩ : ∃ W1 : World, W1 = w.alloc (.cells #[.int .u32 p.a, .int .i64 p.n] 32) := ⟨_, rfl⟩
  rw [← hW1]
  have X1 := Lib.hid (show W1.heap[w.heap.size]? = some (.cells #[.int .u32 p.a, .int .i64 p.n] 32 (0, 0)) by rw [hW1]; exact box_at w _)
  have T1 := Lib.hid (show Touch [] w W1 by rw [hW1]; exact (Touch.refl [] w).alloc _)
  clear hW1
  go_loopg [0] (tsize t) (fun kq v0 wr => ∃ (x : T) (px : Option Addr) (Sx : List Nat), v0 = .pointer px ∧ Hid (Tr w x (.pointer px) Sx) ∧ Hid (Ok x) ∧ Hid (seek t p = seek x p) ∧ Hid (Touch [] W1 wr) ∧ tsize x ≤ kq)
  case atStart => exact ⟨t, pv, S, rfl, HT, HO, Lib.hid rfl, Lib.hid (Touch.refl _ _), Nat.le_refl _⟩
  case round =>
    obtain ⟨x, px, Sx, rfl, hTx, hOx, hF, hTr, hk⟩ := hrel
    cases x with
    | nil =>
      have e0 : px = none := by have := hTx.out.1; simpa using this
      subst e0
      have HR : Hid (seek t p = none) := Lib.hid (by rw [hF.out]; rfl)
      clear hF hk
      go_wp2
      refine wp_region_near (by kernel_rfl) (by kernel_rfl) ?_
      repeat (go_big_quiet_step (fail))
      refine wpQuiet_nil ?_
      rintro _ ⟨u2, rfl⟩
      have TX := Lib.hid ((T1.out.trans hTr.out (by simp)).trans u2.near (by simp))
      go_wp2
      go_ret
      exact ⟨TX.out, .inl ⟨HR.out, rfl⟩⟩
    | node q u l r =>
      obtain ⟨b, pl, pr, Sl, Sr, hpp, hb, hl, hr, hS, h1, h2, h3⟩ := hTx.out
      obtain ⟨o1, o2, o3, o4, o5, o6⟩ := hOx.out
      have e0 : px = some ⟨b, 0, none⟩ := by simpa using hpp
      subst e0
      have hqn := o1.1
      have B := Lib.hid (touch_box hTr.out (touch_box T1.out hb (by simp)) (by simp))
      have X := Lib.hid (touch_box hTr.out X1.out (by simp))
      obtain ⟨q0, q1, q2, q3, q4, q5, _⟩ := node_cells B.out
      obtain ⟨d0, d1, _⟩ := two_cells X.out
      have n0 := fun u : Near wr => u.cell q0
      have n1 := fun u : Near wr => u.cell q1
      have k0 := fun u : Near wr => u.cell d0
      have k1 := fun u : Near wr => u.cell d1
      have HLt := Lib.hid hl
      have HRt := Lib.hid hr
      have HB2 := Lib.hid hb
      have O1 := Lib.hid o1
      have O5 := Lib.hid o5
      have O6 := Lib.hid o6
      clear hpp hb hl hr hS h1 h2 h3 o1 o2 o3 o4 o5 o6 q0 q1 q2 q3 q4 q5 d0 d1
      by_cases e : q = p
      · have hneq := fun w => px_neq q.a q.n p.a p.n true (px_beq e) w
        have HR : Hid (seek t p = u) := Lib.hid (by rw [hF.out, seek, if_pos e])
        have HE := Lib.hid e
        clear e hF hk
        go_wp2
        refine wp_region_near (by kernel_rfl) (by kernel_rfl) ?_
        repeat (go_big_quiet_step (fail))
        refine wpQuiet_nil ?_
        rintro _ ⟨u2, rfl⟩
        have TX := Lib.hid ((T1.out.trans hTr.out (by simp)).trans u2.near (by simp))
        have B2 := Lib.hid (touch_box u2.near B.out (by simp))
        clear n0 n1 k0 k1 hneq
        obtain ⟨_, _, q2, _⟩ := node_cells B2.out
        cases u with
        | none =>
          go_wp2
          go_ret
          exact ⟨TX.out, .inl ⟨HR.out, rfl⟩⟩
        | some v =>
          go_wp2
          go_ret
          exact ⟨TX.out, .inr ⟨v, b, pl, pr, HR.out, rfl, by have := HB2.out; rw [HE.out] at this; exact this⟩⟩
      · have hneq := fun w => px_neq q.a q.n p.a p.n false (px_bne e) w
        have HE := Lib.hid e
        clear e
        go_wp2
        refine wp_region_near (by kernel_rfl) (by kernel_rfl) ?_
        repeat (go_big_quiet_step (fail))
        refine wpQuiet_nil ?_
        rintro _ ⟨u2, rfl⟩
        have T2 := Lib.hid (hTr.out.trans u2.near (by simp))
        have B2 := Lib.hid (touch_box u2.near B.out (by simp))
        have X2 := Lib.hid (touch_box u2.near X.out (by simp))
        clear n0 n1 k0 k1 hneq B X hTr
        obtain ⟨q0, q1, _⟩ := node_cells B2.out
        obtain ⟨d0, d1, _⟩ := two_cells X2.out
        have n0 := fun u : Near u2.w => u.cell q0
        have n1 := fun u : Near u2.w => u.cell q1
        have k0 := fun u : Near u2.w => u.cell d0
        have k1 := fun u : Near u2.w => u.cell d1
        clear q0 q1 d0 d1
        by_cases hi : ins p q
        · have hF1 : Hid (seek t p = if bitOf p.a q.n = 0 then seek l p else seek r p) := Lib.hid (by rw [hF.out, seek, if_neg HE.out, if_pos hi])
          have hmask : Hid (maskOf p.a q.n = q.a) := Lib.hid (by rw [← O1.out.2.2, maskOf_eq]; exact hi.2)
          have hle := hi.1
          have hs := side_of hi (fun e' => HE.out e'.symm) HP.out O1.out
          have h31 : q.n ≤ 31 := by have := hs.1; omega
          clear hi hs hF
          have HI := Lib.hid (fun u : Near u2.w => inside_yes_near u p.a p.n q.a q.n hpa hqn hle hp32 hmask.out)
          go_wp2
          refine wp_region_near (by kernel_rfl) (by kernel_rfl) ?_
          repeat (go_big_quiet_step ((go_at_call 64; exact HI.out _)))
          refine wpQuiet_nil ?_
          rintro _ ⟨u3, rfl⟩
          have T3 := Lib.hid (T2.out.trans u3.near (by simp))
          have B3 := Lib.hid (touch_box u3.near B2.out (by simp))
          have X3 := Lib.hid (touch_box u3.near X2.out (by simp))
          clear n0 n1 k0 k1 HI B2 X2 T2
          obtain ⟨_, q1, _, _, q4, q5, _⟩ := node_cells B3.out
          obtain ⟨d0, _⟩ := two_cells X3.out
          have n1 := fun u : Near u3.w => u.cell q1
          have n4 := fun u : Near u3.w => u.cell q4
          have n5 := fun u : Near u3.w => u.cell q5
          have k0 := fun u : Near u3.w => u.cell d0
          clear q1 q4 q5 d0
          have HC := Lib.hid (fun u : Near u3.w => bit_near u p.a q.n hpa h31)
          rcases bit_two p.a q.n with hb0 | hb0
          · have hF3 : Hid (seek t p = seek l p) := Lib.hid (by rw [hF1.out, if_pos hb0])
            have hlk : tsize l < gk := by have := hk; simp only [tsize] at this; omega
            rw [hb0] at HC
            clear hF1 hb0 hk
            go_wp2
            refine wp_region_near (by kernel_rfl) (by kernel_rfl) ?_
            repeat (go_big_quiet_step ((go_at_call 45; exact HC.out _)))
            refine wpQuiet_nil ?_
            rintro _ ⟨u4, rfl⟩
            have TY := Lib.hid (T3.out.trans u4.near (by simp))
            clear n1 n4 n5 k0 HC
            obtain ⟨ax, hax⟩ := HLt.out.ptr
            subst hax
            go_wp2
            go_roundg (gk - 1)
            case rel => exact ⟨l, ax, Sl, rfl, HLt, O5, hF3, TY, by omega⟩
            case measure => omega
          · have hF3 : Hid (seek t p = seek r p) := Lib.hid (by rw [hF1.out, if_neg (by omega)])
            have hlk : tsize r < gk := by have := hk; simp only [tsize] at this; omega
            rw [hb0] at HC
            clear hF1 hb0 hk
            go_wp2
            refine wp_region_near (by kernel_rfl) (by kernel_rfl) ?_
            repeat (go_big_quiet_step ((go_at_call 45; exact HC.out _)))
            refine wpQuiet_nil ?_
            rintro _ ⟨u4, rfl⟩
            have TY := Lib.hid (T3.out.trans u4.near (by simp))
            clear n1 n4 n5 k0 HC
            obtain ⟨ax, hax⟩ := HRt.out.ptr
            subst hax
            go_wp2
            go_roundg (gk - 1)
            case rel => exact ⟨r, ax, Sr, rfl, HRt, O6, hF3, TY, by omega⟩
            case measure => omega
        · have HR : Hid (seek t p = none) := Lib.hid (by rw [hF.out, seek, if_neg HE.out, if_neg hi])
          have hmask : Hid (q.n ≤ p.n → maskOf p.a q.n ≠ q.a) := Lib.hid (fun hle h => hi ⟨hle, by rw [← h, top_mask]⟩)
          have HI := Lib.hid (fun u : Near u2.w => inside_no_near u p.a p.n q.a q.n hpa hqn hp32 hmask.out)
          clear hi hF
          go_wp2
          refine wp_region_near (by kernel_rfl) (by kernel_rfl) ?_
          repeat (go_big_quiet_step ((go_at_call 64; exact HI.out _)))
          refine wpQuiet_nil ?_
          rintro _ ⟨u3, rfl⟩
          have TX := Lib.hid ((T1.out.trans T2.out (by simp)).trans u3.near (by simp))
          clear n0 n1 k0 k1 HI
          go_wp2
          go_ret
          exact ⟨TX.out, .inl ⟨HR.out, rfl⟩⟩
def GetPost (w : World) (t : T) (p : Px) (e : Ending) (w' : World) : Prop :=
  Touch [] w w' ∧ ((seek t p = none ∧ e = .returned (.tuple #[.int .i64 0, .int .i64 3])) ∨ ∃ v : Int, seek t p = some v ∧ e = .returned (.tuple #[.int .i64 v, .int .i64 0]))
set_option maxHeartbeats 1000000 in
theorem get_bad {w : World} (tv : Value) (a : Nat) (m : Int) (ha : a < 4294967296) (h : ¬ okP a m) :
    Calls Try.prog 53 #[tv, .agg #[.int .u32 a, .int .i64 m]] w fun e w' => e = .returned (.tuple #[.int .i64 0, .int .i64 11]) ∧ Touch [] w w' := by
  have H := Lib.hid h
  clear h
  go_enter Try.func53, Try.ntmps53
  go_wp2_with fail
  refine (refusal_no a m _ ha H.out).mono ?_
  rintro e w' ⟨rfl, ht⟩
  go_wp2
  go_ret2
  exact ⟨rfl, ((Touch.refl [] w).alloc _).trans ht (by simp)⟩
set_option maxHeartbeats 2000000 in
set_option maxRecDepth 100000 in
theorem get_calls {w : World} {tb : Nat} {t : T} {S : List Nat} {k : Nat} (h : TrieAt w tb t S k) (p : Px) (hp : p.ok) :
    Calls Try.prog 53 #[.pointer (some ⟨tb, 0, none⟩), .agg #[.int .u32 p.a, .int .i64 p.n]] w (GetPost w t p) := by
  obtain ⟨pv, S0, hb, hT, h1, rfl⟩ := h.at_
  have HB := Lib.hid hb
  have HT := Lib.hid hT
  have HP := Lib.hid hp
  have HO := Lib.hid h.ok
  have hpa := hp.2.1
  clear hb hT h1 h hp
  go_enter Try.func53, Try.ntmps53
  go_wp2_with fail
  refine (refusal_yes p.a p.n _ hpa ⟨by omega, by simpa using HP.out⟩).mono ?_
  rintro e w1 ⟨rfl, ht⟩
  have T1 := Lib.hid (((Touch.refl [] w).alloc (.cells #[.int .u32 p.a, .int .i64 p.n] 32)).trans ht (by simp))
  have X := Lib.hid (touch_box ht (box_at w (.cells #[.int .u32 p.a, .int .i64 p.n] 32)) (by simp))
  have B := Lib.hid (touch_box T1.out HB.out (by simp))
  clear ht
  obtain ⟨c0, c1, f0, f1⟩ := two_cells B.out
  obtain ⟨d0, d1, _⟩ := two_cells X.out
  go_wp2
  go_still_tail 5, (by kernel_rfl)
  change wpList _ _ _ _ _ (World.drew w1)
  go_wp2_with fail
  refine (sought_calls (t := t) (pv := pv) (S := S0) (by exact (HT.out.kept T1.out (by simp)).kept (Touch.refl [] _).drew (by simp)) HO.out p HP.out).mono ?_
  rintro e w2 ⟨t2, hh⟩
  have TX := Lib.hid ((T1.out.trans (Touch.refl [] w1).drew (by simp)).trans t2 (by simp))
  rcases hh with ⟨hn, rfl⟩ | ⟨v, b, pl, pr, hv, rfl, hnode⟩
  · have HN := Lib.hid hn
    clear hn
    go_wp2
    go_ret2
    exact ⟨TX.out, .inl ⟨HN.out, rfl⟩⟩
  · have HV := Lib.hid hv
    obtain ⟨_, _, _, z3, _⟩ := node_cells (touch_box t2 hnode (by simp))
    simp only [Option.getD_some] at z3
    clear hv hnode
    go_wp2
    go_ret2
    exact ⟨TX.out, .inr ⟨v, HV.out, rfl⟩⟩
end Go.Proofs.Ytmklkdhpbehfeaa.Tri
