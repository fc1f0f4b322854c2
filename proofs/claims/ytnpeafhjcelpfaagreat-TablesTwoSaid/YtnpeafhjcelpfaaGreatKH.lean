/- settled, taken, Del, Len; no condition. -/
import Derived.Test.YtnpeafhjcelpfaaGreatKG
namespace Go.Proofs.YtnpeafhjcelpfaaGreat.Tri
open Go.RowKit Go.Maps
set_option linter.unusedVariables false

def SettledPost (w : World) (t : T) (S : List Nat) (e : Ending) (w' : World) : Prop :=
  ∃ (pv' : Option Addr) (S' : List Nat), e = .returned (.pointer pv') ∧ Tr w' t (.pointer pv') S' ∧ Touch [] w w' ∧ ∀ k ∈ S', k ∈ S
set_option maxHeartbeats 4000000 in
set_option maxRecDepth 100000 in
theorem settled_calls {w : World} {q : Px} {u : Option Int} {l r : T} {b : Nat} {S : List Nat} (hT : Tr w (.node q u l r) (.pointer (some ⟨b, 0, none⟩)) S) :
    Calls Tryz.prog 159 #[.pointer (some ⟨b, 0, none⟩)] w (SettledPost w (settle (.node q u l r)) S) := by
  have HT := Lib.hid hT
  obtain ⟨b', pl, pr, Sl, Sr, hpp, hb, hl, hr, hS, h1, h2, h3⟩ := hT
  have e0 : b = b' := by simpa using hpp
  subst e0
  clear hpp
  obtain ⟨al, rfl⟩ := hl.ptr
  obtain ⟨ar, rfl⟩ := hr.ptr
  have HL := Lib.hid hl
  have HR := Lib.hid hr
  have HS := Lib.hid hS
  obtain ⟨c0, c1, c2, c3, c4, c5, _⟩ := node_cells hb
  clear hb hl hr hS h1 h2 h3
  cases u with
  | some v =>
    go_enter Tryz.func159, Tryz.ntmps159
    go_wp2
    go_ret
    rw [settle_some]
    exact ⟨_, S, rfl, HT.out, Touch.refl _ _, fun k hk => hk⟩
  | none =>
    cases l with
    | nil =>
      have e1 : al = none := by have := HL.out.1; simpa using this
      subst e1
      go_enter Tryz.func159, Tryz.ntmps159
      go_wp2
      go_ret
      rw [settle_left]
      exact ⟨_, Sr, rfl, HR.out, Touch.refl _ _, fun k hk => by rw [HS.out]; simp [hk]⟩
    | node ql ul ll lr =>
      obtain ⟨bl, _, _, _, _, hpl, _⟩ := HL.out
      have e1 : al = some ⟨bl, 0, none⟩ := by simpa using hpl
      subst e1
      clear hpl
      cases r with
      | nil =>
        have e2 : ar = none := by have := HR.out.1; simpa using this
        subst e2
        go_enter Tryz.func159, Tryz.ntmps159
        go_wp2
        go_ret
        rw [settle_right]
        exact ⟨_, Sl, rfl, HL.out, Touch.refl _ _, fun k hk => by rw [HS.out]; simp [hk]⟩
      | node qr ur rl rr =>
        obtain ⟨br, _, _, _, _, hpr, _⟩ := HR.out
        have e2 : ar = some ⟨br, 0, none⟩ := by simpa using hpr
        subst e2
        clear hpr
        go_enter Tryz.func159, Tryz.ntmps159
        go_wp2
        go_ret
        rw [settle_both (by simp) (by simp)]
        exact ⟨_, S, rfl, HT.out, Touch.refl _ _, fun k hk => hk⟩
def TakenPost (w : World) (t : T) (S : List Nat) (e : Ending) (w' : World) : Prop :=
  ∃ (pv' : Option Addr) (S' : List Nat), e = .returned (.pointer pv') ∧ Tr w' t (.pointer pv') S' ∧ Touch S w w' ∧ ∀ k ∈ S', k ∈ S
theorem node_noneA {w : World} {b : Nat} {q : Px} {u : Option Int} {pl pr : Value} {T : TypeId} (h : w.heap[b]? = some (.cells (nodeC q u pl pr) T (0, 0))) :
    (((((w.setCell ⟨b, 2, none⟩ (.bool false)).setCell ⟨b, 3, none⟩ (.int .u32 0)).setCell ⟨b, 4, none⟩ (.int .i64 0)).setCell ⟨b, 5, none⟩ (.int .u32 0)).setCell ⟨b, 6, none⟩ (.bool false)).heap[b]? = some (.cells (nodeC q none pl pr) T (0, 0)) ∧ Touch [b] w (((((w.setCell ⟨b, 2, none⟩ (.bool false)).setCell ⟨b, 3, none⟩ (.int .u32 0)).setCell ⟨b, 4, none⟩ (.int .i64 0)).setCell ⟨b, 5, none⟩ (.int .u32 0)).setCell ⟨b, 6, none⟩ (.bool false)) := by
  constructor
  · unfold nodeC at h
    have h1 := box_set (o := 2) h (.bool false)
    have h2 := box_set (o := 3) h1 (.int .u32 0)
    have h3 := box_set (o := 4) h2 (.int .i64 0)
    have h4 := box_set (o := 5) h3 (.int .u32 0)
    have h5 := box_set (o := 6) h4 (.bool false)
    exact h5.trans (congrArg (fun c => some (Obj.cells c T (0, 0))) (by kernel_rfl))
  · exact (((((Touch.refl [b] w).setCell _ _ (.inl (by simp))).setCell _ _ (.inl (by simp))).setCell _ _ (.inl (by simp))).setCell _ _ (.inl (by simp))).setCell _ _ (.inl (by simp))
theorem node_noneB {w : World} {b : Nat} {q : Px} {u : Option Int} {pl pr : Value} {T : TypeId} (h : w.heap[b]? = some (.cells (nodeC q u pl pr) T (0, 0))) :
    (((((w.setCell ⟨b, 3, none⟩ (.int .u32 0)).setCell ⟨b, 4, none⟩ (.int .i64 0)).setCell ⟨b, 5, none⟩ (.int .u32 0)).setCell ⟨b, 6, none⟩ (.bool false)).setCell ⟨b, 2, none⟩ (.bool false)).heap[b]? = some (.cells (nodeC q none pl pr) T (0, 0)) ∧ Touch [b] w (((((w.setCell ⟨b, 3, none⟩ (.int .u32 0)).setCell ⟨b, 4, none⟩ (.int .i64 0)).setCell ⟨b, 5, none⟩ (.int .u32 0)).setCell ⟨b, 6, none⟩ (.bool false)).setCell ⟨b, 2, none⟩ (.bool false)) := by
  constructor
  · unfold nodeC at h
    have h1 := box_set (o := 3) h (.int .u32 0)
    have h2 := box_set (o := 4) h1 (.int .i64 0)
    have h3 := box_set (o := 5) h2 (.int .u32 0)
    have h4 := box_set (o := 6) h3 (.bool false)
    have h5 := box_set (o := 2) h4 (.bool false)
    exact h5.trans (congrArg (fun c => some (Obj.cells c T (0, 0))) (by kernel_rfl))
  · exact (((((Touch.refl [b] w).setCell _ _ (.inl (by simp))).setCell _ _ (.inl (by simp))).setCell _ _ (.inl (by simp))).setCell _ _ (.inl (by simp))).setCell _ _ (.inl (by simp))
set_option maxHeartbeats 4000000 in
set_option maxRecDepth 100000 in
theorem taken_eq (q : Px) (u : Option Int) (l r : T) (b : Nat) (pl pr : Value) (Sl Sr : List Nat) (w : World) (hb : w.heap[b]? = some (.cells (nodeC q u pl pr) 155 (0, 0))) (hl : Tr w l pl Sl) (hr : Tr w r pr Sr)
    (h1 : b ∉ Sl) (h2 : b ∉ Sr) (h3 : ∀ k ∈ Sl, k ∉ Sr) :
    Calls Tryz.prog 156 #[.pointer (some ⟨b, 0, none⟩), .agg #[.int .u32 q.a, .int .i64 q.n]] w (TakenPost w (take (.node q u l r) q) (b :: (Sl ++ Sr))) := by
  obtain ⟨p, hp⟩ : ∃ p : Px, p = q := ⟨_, rfl⟩
  rw [show (Value.agg #[.int .u32 q.a, .int .i64 q.n]) = .agg #[.int .u32 p.a, .int .i64 p.n] by rw [hp]]
  have hg := guard32
  have hne := fun w => px_eql q.a q.n p.a p.n true (px_beq hp.symm) w
  have HP := Lib.hid hp
  have HB := Lib.hid hb
  have HL := Lib.hid hl
  have HR := Lib.hid hr
  have H1 := Lib.hid h1
  have H2 := Lib.hid h2
  have H3 := Lib.hid h3
  clear hb hl hr h1 h2 h3 hp
  go_enter Tryz.func156, Tryz.ntmps156
  go_wp2
  obtain ⟨W1, hW1⟩ : ∃ W1 : World, W1 = w.alloc (.cells #[.int .u32 p.a, .int .i64 p.n] 47) := ⟨_, rfl⟩
  rw [← hW1]
  have X1 := Lib.hid (show W1.heap[w.heap.size]? = some (.cells #[.int .u32 p.a, .int .i64 p.n] 47 (0, 0)) by rw [hW1]; exact box_at w _)
  have T1 := Lib.hid (show Touch [] w W1 by rw [hW1]; exact (Touch.refl [] w).alloc _)
  have B1 := Lib.hid (touch_box T1.out HB.out (by simp))
  clear hW1
  obtain ⟨c0, c1, _⟩ := node_cells B1.out
  have n0 := fun u : Near W1 => u.cell c0
  have n1 := fun u : Near W1 => u.cell c1
  obtain ⟨d0, d1, _⟩ := two_cells X1.out
  have m0 := fun u : Near W1 => u.cell d0
  have m1 := fun u : Near W1 => u.cell d1
  clear c0 c1 d0 d1
  go_wp2
  refine wp_region_near (by kernel_rfl) (by kernel_rfl) ?_
  repeat (go_big_quiet_step (fail))
  refine wpQuiet_nil ?_
  rintro _ ⟨u2, rfl⟩
  have B2 := Lib.hid (touch_box u2.near B1.out (by simp))
  have T2 := Lib.hid (T1.out.trans u2.near (by simp))
  clear n0 n1 m0 m1
  obtain ⟨W2, hW⟩ : ∃ W2 : World, W2 = u2.w := ⟨_, rfl⟩
  rw [← hW] at B2 T2 ⊢
  clear hW u2 X1 B1 T1
  go_upto_region 3 with (fail)
  obtain ⟨W3, hW3⟩ : ∃ W3 : World, W3 = W2.alloc (.cells #[.int .u32 0, .int .i64 0, .int .u32 0, .bool false] 49) := ⟨_, rfl⟩
  rw [← hW3]
  have B3 := Lib.hid (show W3.heap[b]? = some (.cells (nodeC q u pl pr) 155 (0, 0)) by rw [hW3]; exact box_keep _ B2.out)
  have Z3 := Lib.hid (show W3.heap[W2.heap.size]? = some (.cells #[.int .u32 0, .int .i64 0, .int .u32 0, .bool false] 49 (0, 0)) by rw [hW3]; exact box_at _ _)
  have T3 := Lib.hid (show Touch [] w W3 by rw [hW3]; exact T2.out.alloc _)
  have hbz : b < W2.heap.size := (Array.getElem?_eq_some_iff.1 B2.out).1
  generalize W2.heap.size = zb at *
  clear hW3
  obtain ⟨c0, c1, c2, ⟨c3, c4, c5, c6⟩, -, -, cf⟩ := node_cells B3.out
  obtain ⟨z0, z1, z2, z3⟩ := rt_cells Z3.out
  go_cut [] from 13 to 20 (fun wc => Hid (Touch [b] W3 wc) ∧ Hid (wc.heap[b]? = some (.cells (nodeC q none pl pr) 155 (0, 0))))
  case first =>
    have g2 := cf 2
    have g3 := cf 3
    have g4 := cf 4
    have g5 := cf 5
    have g6 := cf 6
    have PA := Lib.hid (node_noneA B3.out)
    have PB := Lib.hid (node_noneB B3.out)
    have PC := Lib.hid (node_noneA (show (World.drew W3).heap[b]? = _ from B3.out))
    have PD := Lib.hid (node_noneB (show (World.drew W3).heap[b]? = _ from B3.out))
    have hz1 : ¬ (b = zb) := by omega
    have hz2 : ¬ (zb = b) := by omega
    clear cf
    go_region_law (fail)
    all_goals (try go_wp2)
    all_goals go_meet
    all_goals first
      | exact ⟨Lib.hid PA.out.2.drew, Lib.hid PA.out.1⟩
      | exact ⟨Lib.hid PB.out.2.drew, Lib.hid PB.out.1⟩
      | exact ⟨Lib.hid (((Touch.refl [] W3).drew.mono (by simp)).trans PC.out.2 (fun x hx => .inl hx)), Lib.hid PC.out.1⟩
      | exact ⟨Lib.hid (((Touch.refl [] W3).drew.mono (by simp)).trans PD.out.2 (fun x hx => .inl hx)), Lib.hid PD.out.1⟩
  case rest =>
  obtain ⟨hts, hbs⟩ := hcut
  obtain ⟨W4, hW4⟩ : ∃ W4, W4 = wc := ⟨_, rfl⟩
  rw [← hW4] at hts hbs ⊢
  clear hW4 c0 c1 c2 c3 c4 c5 c6 cf z0 z1 z2 z3
  have t3 : Touch [b] w W4 := (T3.out.mono (S' := [b]) (by simp)).trans hts.out (fun x hx => .inl hx)
  have HT2 : Hid (Tr W4 (.node q none l r) (.pointer (some ⟨b, 0, none⟩)) (b :: (Sl ++ Sr))) := Lib.hid ⟨b, pl, pr, Sl, Sr, rfl, hbs.out, HL.out.kept t3 (by intro k hk hx; simp at hx; subst hx; exact H1.out hk), HR.out.kept t3 (by intro k hk hx; simp at hx; subst hx; exact H2.out hk), rfl, H1.out, H2.out, H3.out⟩
  have T4 := Lib.hid t3
  clear t3
  go_wp2_with fail
  have t3 := T4.out
  refine (settled_calls HT2.out).mono ?_
  rintro e w5 ⟨pv', S', rfl, hT, hTo, hS⟩
  have TX := Lib.hid ((t3.mono (S' := b :: (Sl ++ Sr)) (by simp)).trans hTo (by simp))
  have HT := Lib.hid hT
  have HS := Lib.hid hS
  clear t3 hT hTo hS
  go_wp2
  go_ret
  unfold TakenPost
  rw [take, if_pos rfl]
  exact ⟨pv', S', rfl, HT.out, TX.out, HS.out⟩
set_option maxHeartbeats 4000000 in
set_option maxRecDepth 100000 in
theorem taken_left (q : Px) (u : Option Int) (l r : T) (b : Nat) (pl pr : Value) (Sl Sr : List Nat) (w : World) (p : Px) (hb : w.heap[b]? = some (.cells (nodeC q u pl pr) 155 (0, 0))) (hl : Tr w l pl Sl) (hr : Tr w r pr Sr)
    (h1 : b ∉ Sl) (h2 : b ∉ Sr) (h3 : ∀ k ∈ Sl, k ∉ Sr) (hp : p.ok) (e : q ≠ p) (hq : q.ok) (hbit : bitOf p.a q.n = 0) (hn31 : q.n ≤ 31)
    (ih : ∀ w', Tr w' l pl Sl → Calls Tryz.prog 156 #[pl, .agg #[.int .u32 p.a, .int .i64 p.n]] w' (TakenPost w' (take l p) Sl)) :
    Calls Tryz.prog 156 #[.pointer (some ⟨b, 0, none⟩), .agg #[.int .u32 p.a, .int .i64 p.n]] w (TakenPost w (take (.node q u l r) p) (b :: (Sl ++ Sr))) := by
  have hg := guard32
  have hne := fun w => px_eql q.a q.n p.a p.n false (px_bne e) w
  have IH := Lib.hid ih
  have hpa := hp.2.1
  have hp32 := hp.1
  have hqn := hq.1
  have HH : Hid (take (.node q u l r) p = settle (.node q u (take l p) r)) := Lib.hid (by
    rw [take, if_neg e, if_pos hbit])
  have HB := Lib.hid hb
  have HL := Lib.hid hl
  have HR := Lib.hid hr
  have H1 := Lib.hid h1
  have HLT := Lib.hid (Array.getElem?_eq_some_iff.1 hb).1
  have H2 := Lib.hid h2
  have H3 := Lib.hid h3
  have HBIT := Lib.hid hbit
  clear hb e ih hl hr h1 h2 h3 hp hq hbit
  go_enter Tryz.func156, Tryz.ntmps156
  go_wp2
  obtain ⟨W1, hW1⟩ : ∃ W1 : World, W1 = w.alloc (.cells #[.int .u32 p.a, .int .i64 p.n] 47) := ⟨_, rfl⟩
  rw [← hW1]
  have X := Lib.hid (show W1.heap[w.heap.size]? = some (.cells #[.int .u32 p.a, .int .i64 p.n] 47 (0, 0)) by rw [hW1]; exact box_at w _)
  have T1 := Lib.hid (show Touch [] w W1 by rw [hW1]; exact (Touch.refl [] w).alloc _)
  have B := Lib.hid (touch_box T1.out HB.out (by simp))
  clear hW1
  obtain ⟨c0, c1, _⟩ := node_cells B.out
  obtain ⟨d0, d1, _⟩ := two_cells X.out
  have n0 := fun u : Near W1 => u.cell c0
  have n1 := fun u : Near W1 => u.cell c1
  have m0 := fun u : Near W1 => u.cell d0
  have m1 := fun u : Near W1 => u.cell d1
  clear c0 c1 d0 d1
  go_wp2
  refine wp_region_near (by kernel_rfl) (by kernel_rfl) ?_
  repeat (go_big_quiet_step (fail))
  refine wpQuiet_nil ?_
  rintro _ ⟨u2, rfl⟩
  have X2 := Lib.hid (touch_box u2.near X.out (by simp))
  have B2 := Lib.hid (touch_box u2.near B.out (by simp))
  have T2 := Lib.hid (T1.out.trans u2.near (by simp))
  clear n0 n1 m0 m1 hne hg
  obtain ⟨W3, hW2⟩ : ∃ W2 : World, W2 = u2.w := ⟨_, rfl⟩
  rw [← hW2] at X2 B2 T2 ⊢
  clear hW2 u2 X B T1
  obtain ⟨c0, c1, _⟩ := node_cells B2.out
  obtain ⟨d0, d1, _⟩ := two_cells X2.out
  have n0 := fun u : Near W3 => u.cell c0
  have n1 := fun u : Near W3 => u.cell c1
  have m0 := fun u : Near W3 => u.cell d0
  have m1 := fun u : Near W3 => u.cell d1
  clear c0 c1 d0 d1
  go_wp2
  refine wp_region_near (by kernel_rfl) (by kernel_rfl) ?_
  repeat (go_big_quiet_step ((go_at_call 86; exact bit_near _ _ _ hpa hn31)))
  refine wpQuiet_nil ?_
  rintro _ ⟨u2, rfl⟩
  have X4 := Lib.hid (touch_box u2.near X2.out (by simp))
  have B4 := Lib.hid (touch_box u2.near B2.out (by simp))
  have T4 := Lib.hid (T2.out.trans u2.near (by simp))
  clear n0 n1 m0 m1
  obtain ⟨W4, hW4⟩ : ∃ W4 : World, W4 = u2.w := ⟨_, rfl⟩
  rw [← hW4] at X4 B4 T4 ⊢
  clear hW4 u2 X2 B2 T2
  obtain ⟨c0, c1, c2, -, c4, c5, cf'⟩ := node_cells B4.out
  have cf := cf' 7
  clear cf'
  obtain ⟨d0, d1, _⟩ := two_cells X4.out
  have L4 := Lib.hid (HL.out.kept T4.out (by simp))
  have R4 := Lib.hid (HR.out.kept T4.out (by simp))
  rw [HBIT.out]
  go_wp2_with fail
  go_region_law (first | (go_simp; go_at_call 156; refine (IH.out _ (by exact L4.out.kept (by first | exact (Touch.refl [] _).drew | exact (Touch.refl [] _).drewN _ | exact Touch.refl [] _) (by simp))).mono ?_; rintro e w5 ⟨pv', S', rfl, hT, hTo, hS⟩; have k4 := cell_touch hTo (a := ⟨b, 7, none⟩) (v := pl) (by simp [c4]) H1.out; have kf := frozen_touch hTo (b := b) (o := 7) (v := pl) (by simp [c4]) (by simp [cf]) H1.out))
  all_goals
    clear c0 c1 c2 c4 c5 cf d0 d1 k4 kf
    obtain ⟨g1, g2, g3⟩ := close_left HL.out HR.out H1.out H2.out H3.out HLT.out T4.out B4.out (by first | exact (Touch.refl [] _).drew | exact (Touch.refl [] _).drewN _ | exact Touch.refl [] _) hTo hT (fun k hk => .inl (hS k hk))
    have G1 := Lib.hid g1
    have G2 := Lib.hid g2
    have hSS : Hid (∀ k ∈ b :: (S' ++ Sr), k ∈ b :: (Sl ++ Sr)) := Lib.hid (by
      intro k hk
      simp at hk ⊢
      rcases hk with h | h | h
      · exact .inl h
      · exact .inr (.inl (hS k h))
      · exact .inr (.inr h))
    clear g1 g2 g3 hT hTo hS
    go_wp2_with fail
    refine (settled_calls G1.out).mono ?_
    rintro e w6 ⟨pv6, S6, rfl, hT6, hTo6, hS6⟩
    have TX := Lib.hid (G2.out.trans hTo6 (by simp))
    have HT6 := Lib.hid hT6
    have HS6 := Lib.hid hS6
    clear hT6 hTo6 hS6
    go_wp2
    go_ret
    unfold TakenPost
    rw [HH.out]
    exact ⟨pv6, S6, rfl, HT6.out, TX.out, fun k hk => hSS.out k (HS6.out k hk)⟩
set_option maxHeartbeats 4000000 in
set_option maxRecDepth 100000 in
theorem taken_right (q : Px) (u : Option Int) (l r : T) (b : Nat) (pl pr : Value) (Sl Sr : List Nat) (w : World) (p : Px) (hb : w.heap[b]? = some (.cells (nodeC q u pl pr) 155 (0, 0))) (hl : Tr w l pl Sl) (hr : Tr w r pr Sr)
    (h1 : b ∉ Sl) (h2 : b ∉ Sr) (h3 : ∀ k ∈ Sl, k ∉ Sr) (hp : p.ok) (e : q ≠ p) (hq : q.ok) (hbit : bitOf p.a q.n = 1) (hn31 : q.n ≤ 31)
    (ih : ∀ w', Tr w' r pr Sr → Calls Tryz.prog 156 #[pr, .agg #[.int .u32 p.a, .int .i64 p.n]] w' (TakenPost w' (take r p) Sr)) :
    Calls Tryz.prog 156 #[.pointer (some ⟨b, 0, none⟩), .agg #[.int .u32 p.a, .int .i64 p.n]] w (TakenPost w (take (.node q u l r) p) (b :: (Sl ++ Sr))) := by
  have hg := guard32
  have hne := fun w => px_eql q.a q.n p.a p.n false (px_bne e) w
  have IH := Lib.hid ih
  have hpa := hp.2.1
  have hp32 := hp.1
  have hqn := hq.1
  have HH : Hid (take (.node q u l r) p = settle (.node q u l (take r p))) := Lib.hid (by
    rw [take, if_neg e, if_neg (by omega)])
  have HB := Lib.hid hb
  have HL := Lib.hid hl
  have HR := Lib.hid hr
  have H1 := Lib.hid h1
  have HLT := Lib.hid (Array.getElem?_eq_some_iff.1 hb).1
  have H2 := Lib.hid h2
  have H3 := Lib.hid h3
  have HBIT := Lib.hid hbit
  clear hb e ih hl hr h1 h2 h3 hp hq hbit
  go_enter Tryz.func156, Tryz.ntmps156
  go_wp2
  obtain ⟨W1, hW1⟩ : ∃ W1 : World, W1 = w.alloc (.cells #[.int .u32 p.a, .int .i64 p.n] 47) := ⟨_, rfl⟩
  rw [← hW1]
  have X := Lib.hid (show W1.heap[w.heap.size]? = some (.cells #[.int .u32 p.a, .int .i64 p.n] 47 (0, 0)) by rw [hW1]; exact box_at w _)
  have T1 := Lib.hid (show Touch [] w W1 by rw [hW1]; exact (Touch.refl [] w).alloc _)
  have B := Lib.hid (touch_box T1.out HB.out (by simp))
  clear hW1
  obtain ⟨c0, c1, _⟩ := node_cells B.out
  obtain ⟨d0, d1, _⟩ := two_cells X.out
  have n0 := fun u : Near W1 => u.cell c0
  have n1 := fun u : Near W1 => u.cell c1
  have m0 := fun u : Near W1 => u.cell d0
  have m1 := fun u : Near W1 => u.cell d1
  clear c0 c1 d0 d1
  go_wp2
  refine wp_region_near (by kernel_rfl) (by kernel_rfl) ?_
  repeat (go_big_quiet_step (fail))
  refine wpQuiet_nil ?_
  rintro _ ⟨u2, rfl⟩
  have X2 := Lib.hid (touch_box u2.near X.out (by simp))
  have B2 := Lib.hid (touch_box u2.near B.out (by simp))
  have T2 := Lib.hid (T1.out.trans u2.near (by simp))
  clear n0 n1 m0 m1 hne hg
  obtain ⟨W3, hW2⟩ : ∃ W2 : World, W2 = u2.w := ⟨_, rfl⟩
  rw [← hW2] at X2 B2 T2 ⊢
  clear hW2 u2 X B T1
  obtain ⟨c0, c1, _⟩ := node_cells B2.out
  obtain ⟨d0, d1, _⟩ := two_cells X2.out
  have n0 := fun u : Near W3 => u.cell c0
  have n1 := fun u : Near W3 => u.cell c1
  have m0 := fun u : Near W3 => u.cell d0
  have m1 := fun u : Near W3 => u.cell d1
  clear c0 c1 d0 d1
  go_wp2
  refine wp_region_near (by kernel_rfl) (by kernel_rfl) ?_
  repeat (go_big_quiet_step ((go_at_call 86; exact bit_near _ _ _ hpa hn31)))
  refine wpQuiet_nil ?_
  rintro _ ⟨u2, rfl⟩
  have X4 := Lib.hid (touch_box u2.near X2.out (by simp))
  have B4 := Lib.hid (touch_box u2.near B2.out (by simp))
  have T4 := Lib.hid (T2.out.trans u2.near (by simp))
  clear n0 n1 m0 m1
  obtain ⟨W4, hW4⟩ : ∃ W4 : World, W4 = u2.w := ⟨_, rfl⟩
  rw [← hW4] at X4 B4 T4 ⊢
  clear hW4 u2 X2 B2 T2
  obtain ⟨c0, c1, c2, -, c4, c5, cf'⟩ := node_cells B4.out
  have cf := cf' 8
  clear cf'
  obtain ⟨d0, d1, _⟩ := two_cells X4.out
  have L4 := Lib.hid (HL.out.kept T4.out (by simp))
  have R4 := Lib.hid (HR.out.kept T4.out (by simp))
  rw [HBIT.out]
  go_wp2_with fail
  go_region_law (first | (go_simp; go_at_call 156; refine (IH.out _ (by exact R4.out.kept (by first | exact (Touch.refl [] _).drew | exact (Touch.refl [] _).drewN _ | exact Touch.refl [] _) (by simp))).mono ?_; rintro e w5 ⟨pv', S', rfl, hT, hTo, hS⟩; have k4 := cell_touch hTo (a := ⟨b, 8, none⟩) (v := pr) (by simp [c5]) H2.out; have kf := frozen_touch hTo (b := b) (o := 8) (v := pr) (by simp [c5]) (by simp [cf]) H2.out))
  all_goals
    clear c0 c1 c2 c4 c5 cf d0 d1 k4 kf
    obtain ⟨g1, g2, g3⟩ := close_right HL.out HR.out H1.out H2.out H3.out HLT.out T4.out B4.out (by first | exact (Touch.refl [] _).drew | exact (Touch.refl [] _).drewN _ | exact Touch.refl [] _) hTo hT (fun k hk => .inl (hS k hk))
    have G1 := Lib.hid g1
    have G2 := Lib.hid g2
    have hSS : Hid (∀ k ∈ b :: (Sl ++ S'), k ∈ b :: (Sl ++ Sr)) := Lib.hid (by
      intro k hk
      simp at hk ⊢
      rcases hk with h | h | h
      · exact .inl h
      · exact .inr (.inl h)
      · exact .inr (.inr (hS k h)))
    clear g1 g2 g3 hT hTo hS
    go_wp2_with fail
    refine (settled_calls G1.out).mono ?_
    rintro e w6 ⟨pv6, S6, rfl, hT6, hTo6, hS6⟩
    have TX := Lib.hid (G2.out.trans hTo6 (by simp))
    have HT6 := Lib.hid hT6
    have HS6 := Lib.hid hS6
    clear hT6 hTo6 hS6
    go_wp2
    go_ret
    unfold TakenPost
    rw [HH.out]
    exact ⟨pv6, S6, rfl, HT6.out, TX.out, fun k hk => hSS.out k (HS6.out k hk)⟩
theorem taken_calls : ∀ (t : T) (pv : Value) (S : List Nat) (w : World) (p : Px) (v : Int), Tr w t pv S → Ok t → p.ok → (p, v) ∈ ents t →
    Calls Tryz.prog 156 #[pv, .agg #[.int .u32 p.a, .int .i64 p.n]] w (TakenPost w (take t p) S)
  | .nil, pv, S, w, p, v, hT, hO, hp, hm => by simp [ents] at hm
  | .node q u l r, pv, S, w, p, v, hT, hO, hp, hm => by
    have hin := ents_in _ hO q u l r rfl _ hm
    obtain ⟨b, pl, pr, Sl, Sr, rfl, hb, hl, hr, rfl, h1, h2, h3⟩ := hT
    obtain ⟨o1, o2, o3, o4, o5, o6⟩ := hO
    by_cases e : q = p
    · subst e
      exact taken_eq q u l r b pl pr Sl Sr w hb hl hr h1 h2 h3
    · have hs := side_of hin.2 (fun e' => e e'.symm) hin.1 o1
      have hn31 : q.n ≤ 31 := by have h5 : q.n < p.n := hs.1; have := hp.1; omega
      simp only [ents, List.mem_append, mem_own] at hm
      have hm' : (p, v) ∈ ents l ∨ (p, v) ∈ ents r := by
        rcases hm with hm | hm
        · exact absurd hm.1.symm e
        · exact hm
      rcases bit_two p.a q.n with hbit | hbit
      · rw [hbit] at hs
        have hml : (p, v) ∈ ents l := by
          rcases hm' with h | h
          · exact h
          · exact absurd h (not_mem_side o6 o4 hs (by decide) _)
        exact taken_left q u l r b pl pr Sl Sr w p hb hl hr h1 h2 h3 hp e o1 hbit hn31 (fun w' hT' => taken_calls l pl Sl w' p v hT' o5 hp hml)
      · rw [hbit] at hs
        have hmr : (p, v) ∈ ents r := by
          rcases hm' with h | h
          · exact absurd h (not_mem_side o5 o3 hs (by decide) _)
          · exact h
        exact taken_right q u l r b pl pr Sl Sr w p hb hl hr h1 h2 h3 hp e o1 hbit hn31 (fun w' hT' => taken_calls r pr Sr w' p v hT' o6 hp hmr)
theorem len_take {t : T} {p : Px} {v : Int} (h : Ok t) (hm : (p, v) ∈ ents t) : (ents t).length = (ents (take t p)).length + 1 := by
  have hg := take_is t p v h hm
  have s1 := ents_sorted t h
  have s2 := ents_sorted _ hg.ok
  have : (ents t).Perm ((p, v) :: ents (take t p)) := by
    refine (List.perm_ext_iff_of_nodup (sorted_nodup s1) (List.nodup_cons.2 ⟨fun h' => ((hg.mem _ _).1 h').1 rfl, sorted_nodup s2⟩)).2 ?_
    rintro ⟨q, u⟩
    rw [List.mem_cons, hg.mem]
    constructor
    · intro h'
      by_cases e : q = p
      · subst e; left; exact Prod.ext rfl (sorted_one s1 h' hm)
      · exact .inr ⟨e, h'⟩
    · rintro (h' | h')
      · rw [h']; exact hm
      · exact h'.2
  rw [this.length_eq]; simp
end Go.Proofs.YtnpeafhjcelpfaaGreat.Tri
