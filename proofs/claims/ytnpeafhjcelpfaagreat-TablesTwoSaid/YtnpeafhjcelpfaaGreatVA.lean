/- below: the part of a trie that lies in a prefix; no condition. -/
import Derived.Test.YtnpeafhjcelpfaaGreatKJ
namespace Go.Proofs.YtnpeafhjcelpfaaGreat.Tri
open Go.RowKit Go.Maps
set_option linter.unusedVariables false

def BelowPost (w : World) (t : T) (S : List Nat) (p : Px) (e : Ending) (w' : World) : Prop :=
  Touch [] w w' ∧ ∃ (px : Option Addr) (Sx : List Nat), e = .returned (.pointer px) ∧ Tr w (below t p) (.pointer px) Sx ∧ ∀ k ∈ Sx, k ∈ S
theorem mask_ins {q p : Px} (hp : p.ok) : maskOf q.a p.n = p.a ↔ top q.a p.n = top p.a p.n := by
  constructor
  · intro h; rw [← h, top_mask]
  · intro h; rw [← hp.2.2, maskOf_eq]; exact h
set_option maxHeartbeats 8000000 in
set_option maxRecDepth 100000 in
theorem below_calls {w : World} {tb : Nat} {t : T} {S : List Nat} {k : Nat} (h : TrieAt w tb t S k) (p : Px) (hp : p.ok) :
    Calls Tryz.prog 103 #[.pointer (some ⟨tb, 0, none⟩), .agg #[.int .u32 p.a, .int .i64 p.n]] w (BelowPost w t S p) := by
  obtain ⟨pv, S0, hb, hT, h1, hS⟩ := h.at_
  have HB := Lib.hid hb
  have HT := Lib.hid hT
  have HO := Lib.hid h.ok
  have HS : Hid (∀ x ∈ S0, x ∈ S) := Lib.hid (by subst hS; intro x hx; simp [hx])
  have HP := Lib.hid hp
  have hpa := hp.2.1
  have hp32 := hp.1
  have hg := guard32
  clear hb hT h1 hS h hp
  go_enter Tryz.func103, Tryz.ntmps103
  obtain ⟨W1, hW1⟩ : ∃ W1 : World, W1 = w.alloc (.cells #[.int .u32 p.a, .int .i64 p.n] 47) := ⟨_, rfl⟩
  have B1 := Lib.hid (show W1.heap[tb]? = some (.cells #[.pointer pv, .int .i64 k] 151 (0, 0)) by rw [hW1]; exact box_keep _ HB.out)
  have X1 := Lib.hid (show W1.heap[w.heap.size]? = some (.cells #[.int .u32 p.a, .int .i64 p.n] 47 (0, 0)) by rw [hW1]; exact box_at w _)
  have T1 := Lib.hid (show Touch [] w W1 by rw [hW1]; exact (Touch.refl [] w).alloc _)
  obtain ⟨c0, _⟩ := two_cells B1.out
  rw [hW1] at c0
  go_wp2
  rw [← hW1]
  clear hW1 c0
  go_loopg [5] (tsize t) (fun kq v0 wr => ∃ (x : T) (px : Option Addr) (Sx : List Nat), v0 = .pointer px ∧ Hid (Tr w x (.pointer px) Sx) ∧ Hid (Ok x) ∧ Hid (∀ k ∈ Sx, k ∈ S) ∧ Hid (below t p = below x p) ∧ Hid (Touch [] W1 wr) ∧ tsize x ≤ kq)
  case atStart => exact ⟨t, pv, S0, rfl, HT, HO, HS, Lib.hid rfl, Lib.hid (Touch.refl _ _), Nat.le_refl _⟩
  case round =>
    obtain ⟨x, px, Sx, rfl, hTx, hOx, hSx, hF, hTr, hk⟩ := hrel
    cases x with
    | nil =>
      have e0 : px = none := by have := hTx.out.1; simpa using this
      subst e0
      have HR : Hid (below t p = .nil) := Lib.hid (by rw [hF.out]; rfl)
      clear hF hk
      go_wp2
      refine wp_region_near (by kernel_rfl) (by kernel_rfl) ?_
      repeat (go_big_quiet_step (fail))
      refine wpQuiet_nil ?_
      rintro _ ⟨u2, rfl⟩
      have TX := Lib.hid ((T1.out.trans hTr.out (by simp)).trans u2.near (by simp))
      go_wp2
      go_ret
      exact ⟨TX.out, none, [], rfl, by rw [HR.out]; exact ⟨rfl, rfl⟩, by simp⟩
    | node q u l r =>
      obtain ⟨b, pl, pr, Sl, Sr, hpp, hb, hl, hr, hS, h1, h2, h3⟩ := hTx.out
      obtain ⟨o1, o2, o3, o4, o5, o6⟩ := hOx.out
      have e0 : px = some ⟨b, 0, none⟩ := by simpa using hpp
      subst e0
      have hqn := o1.1
      have hqa := o1.2.1
      have B := Lib.hid (touch_box hTr.out (touch_box T1.out hb (by simp)) (by simp))
      have X := Lib.hid (touch_box hTr.out X1.out (by simp))
      obtain ⟨q0, q1, q2, q3, q4, q5, _⟩ := node_cells B.out
      obtain ⟨d0, d1, _⟩ := two_cells X.out
      have n0 := fun u : Near wr => u.cell q0
      have n1 := fun u : Near wr => u.cell q1
      have k0 := fun u : Near wr => u.cell d0
      have k1 := fun u : Near wr => u.cell d1
      have HLt := Lib.hid hl
      have HRt := Lib.hid hr
      have HSl : Hid (∀ k ∈ Sl, k ∈ S) := Lib.hid (fun k hk => hSx.out k (by rw [hS]; simp [hk]))
      have HSr : Hid (∀ k ∈ Sr, k ∈ S) := Lib.hid (fun k hk => hSx.out k (by rw [hS]; simp [hk]))
      have O1 := Lib.hid o1
      have O5 := Lib.hid o5
      have O6 := Lib.hid o6
      clear hpp hb hl hr hS h1 h2 h3 o1 o2 o3 o4 o5 o6 q0 q1 q2 q3 q4 q5 d0 d1
      by_cases e : ins q p
      · have HR : Hid (below t p = .node q u l r) := Lib.hid (by rw [hF.out, below, if_pos e])
        have hmask : Hid (maskOf q.a p.n = p.a) := Lib.hid ((mask_ins HP.out).2 e.2)
        have hle := e.1
        have HI := Lib.hid (fun u : Near wr => inside_yes_near u q.a q.n p.a p.n hqa hp32 hle hqn hmask.out)
        clear e hF hk
        go_wp2
        refine wp_region_near (by kernel_rfl) (by kernel_rfl) ?_
        repeat (go_big_quiet_step ((go_at_call 122; exact HI.out _)))
        refine wpQuiet_nil ?_
        rintro _ ⟨u2, rfl⟩
        have TX := Lib.hid ((T1.out.trans hTr.out (by simp)).trans u2.near (by simp))
        clear n0 n1 k0 k1 HI
        go_wp2
        go_ret
        exact ⟨TX.out, _, Sx, rfl, by rw [HR.out]; exact hTx.out, hSx.out⟩
      · have hno : Hid (p.n ≤ q.n → maskOf q.a p.n ≠ p.a) := Lib.hid (fun h1 h2 => e ⟨h1, (mask_ins HP.out).1 h2⟩)
        have HI := Lib.hid (fun u : Near wr => inside_no_near u q.a q.n p.a p.n hqa hp32 hqn hno.out)
        have HE := Lib.hid e
        clear e
        go_wp2
        refine wp_region_near (by kernel_rfl) (by kernel_rfl) ?_
        repeat (go_big_quiet_step ((go_at_call 122; exact HI.out _)))
        refine wpQuiet_nil ?_
        rintro _ ⟨u2, rfl⟩
        have T2 := Lib.hid (hTr.out.trans u2.near (by simp))
        have B2 := Lib.hid (touch_box u2.near B.out (by simp))
        have X2 := Lib.hid (touch_box u2.near X.out (by simp))
        clear n0 n1 k0 k1 HI B X hTr
        obtain ⟨q0, q1, _⟩ := node_cells B2.out
        obtain ⟨d0, d1, _⟩ := two_cells X2.out
        have n0 := fun u : Near u2.w => u.cell q0
        have n1 := fun u : Near u2.w => u.cell q1
        have k0 := fun u : Near u2.w => u.cell d0
        have k1 := fun u : Near u2.w => u.cell d1
        clear q0 q1 d0 d1
        by_cases hi : ins p q
        · have hF1 : Hid (below t p = if bitOf p.a q.n = 0 then below l p else below r p) := Lib.hid (by rw [hF.out, below, if_neg HE.out, if_pos hi])
          have hmask : Hid (maskOf p.a q.n = q.a) := Lib.hid (by rw [← O1.out.2.2, maskOf_eq]; exact hi.2)
          have hle := hi.1
          have hs := side_of hi (fun e' => HE.out (by rw [e']; exact ins_refl _)) HP.out O1.out
          have h31 : q.n ≤ 31 := by have := hs.1; omega
          clear hi hs hF
          have HI := Lib.hid (fun u : Near u2.w => inside_yes_near u p.a p.n q.a q.n hpa hqn hle hp32 hmask.out)
          go_wp2
          refine wp_region_near (by kernel_rfl) (by kernel_rfl) ?_
          repeat (go_big_quiet_step ((go_at_call 122; exact HI.out _)))
          refine wpQuiet_nil ?_
          rintro _ ⟨u3, rfl⟩
          have T3 := Lib.hid (T2.out.trans u3.near (by simp))
          have B3 := Lib.hid (touch_box u3.near B2.out (by simp))
          have X3 := Lib.hid (touch_box u3.near X2.out (by simp))
          clear n0 n1 k0 k1 HI B2 X2 T2
          obtain ⟨_, q1, _, _, q4, q5, _⟩ := node_cells B3.out
          obtain ⟨d0, _⟩ := two_cells X3.out
          have n1 := fun u : Near u3.w => u.cell q1
          have n4 := fun u : Near u3.w => u.cell q4
          have n5 := fun u : Near u3.w => u.cell q5
          have k0 := fun u : Near u3.w => u.cell d0
          clear q1 q4 q5 d0
          have HC := Lib.hid (fun u : Near u3.w => bit_near u p.a q.n hpa h31)
          rcases bit_two p.a q.n with hb0 | hb0
          · have hF3 : Hid (below t p = below l p) := Lib.hid (by rw [hF1.out, if_pos hb0])
            have hlk : tsize l < gk := by have := hk; simp only [tsize] at this; omega
            rw [hb0] at HC
            clear hF1 hb0 hk
            go_wp2
            refine wp_region_near (by kernel_rfl) (by kernel_rfl) ?_
            repeat (go_big_quiet_step ((go_at_call 86; exact HC.out _)))
            refine wpQuiet_nil ?_
            rintro _ ⟨u4, rfl⟩
            have TY := Lib.hid (T3.out.trans u4.near (by simp))
            clear n1 n4 n5 k0 HC
            obtain ⟨ax, hax⟩ := HLt.out.ptr
            subst hax
            go_wp2
            go_roundg (gk - 1)
            case rel => exact ⟨l, ax, Sl, rfl, HLt, O5, HSl, hF3, TY, by omega⟩
            case measure => omega
          · have hF3 : Hid (below t p = below r p) := Lib.hid (by rw [hF1.out, if_neg (by omega)])
            have hlk : tsize r < gk := by have := hk; simp only [tsize] at this; omega
            rw [hb0] at HC
            clear hF1 hb0 hk
            go_wp2
            refine wp_region_near (by kernel_rfl) (by kernel_rfl) ?_
            repeat (go_big_quiet_step ((go_at_call 86; exact HC.out _)))
            refine wpQuiet_nil ?_
            rintro _ ⟨u4, rfl⟩
            have TY := Lib.hid (T3.out.trans u4.near (by simp))
            clear n1 n4 n5 k0 HC
            obtain ⟨ax, hax⟩ := HRt.out.ptr
            subst hax
            go_wp2
            go_roundg (gk - 1)
            case rel => exact ⟨r, ax, Sr, rfl, HRt, O6, HSr, hF3, TY, by omega⟩
            case measure => omega
        · have HR : Hid (below t p = .nil) := Lib.hid (by rw [hF.out, below, if_neg HE.out, if_neg hi])
          have hno2 : Hid (q.n ≤ p.n → maskOf p.a q.n ≠ q.a) := Lib.hid (fun h1 h2 => hi ⟨h1, (mask_ins O1.out).1 h2⟩)
          have HI := Lib.hid (fun u : Near u2.w => inside_no_near u p.a p.n q.a q.n hpa hqn hp32 hno2.out)
          clear hi hF
          go_wp2
          refine wp_region_near (by kernel_rfl) (by kernel_rfl) ?_
          repeat (go_big_quiet_step ((go_at_call 122; exact HI.out _)))
          refine wpQuiet_nil ?_
          rintro _ ⟨u3, rfl⟩
          have TX := Lib.hid ((T1.out.trans T2.out (by simp)).trans u3.near (by simp))
          clear n0 n1 k0 k1 HI
          go_wp2
          go_ret
          exact ⟨TX.out, none, [], rfl, by rw [HR.out]; exact ⟨rfl, rfl⟩, by simp⟩
end Go.Proofs.YtnpeafhjcelpfaaGreat.Tri
