/- The reference: Dump, the routes; no condition. -/
import Derived.Test.YtnpeafhjcelpfaaGreatY6

namespace Go.Proofs.YtnpeafhjcelpfaaGreat.Tri
open Go.RowKit Go.Maps
set_option linter.unusedVariables false
set_option linter.unusedSimpArgs false
set_option maxRecDepth 100000

set_option maxHeartbeats 4000000 in
theorem rahead_calls {w : World} (x y : Ent) (r : Bool) (hr : r = decide (ltR x y)) :
    Calls Tryz.prog 68 #[.agg #[.int .u32 x.1.a, .int .i64 x.1.n, .int .u32 (rV x.2), .bool (rL x.2)], .agg #[.int .u32 y.1.a, .int .i64 y.1.n, .int .u32 (rV y.2), .bool (rL y.2)]] w (fun e w' => e = .returned (.bool r) ∧ Touch [] w w') := by
  have T1 := Lib.hid (((Touch.refl [] w).alloc (.cells #[.int .u32 x.1.a, .int .i64 x.1.n, .int .u32 (rV x.2), .bool (rL x.2)] 49)).alloc (.cells #[.int .u32 y.1.a, .int .i64 y.1.n, .int .u32 (rV y.2), .bool (rL y.2)] 49))
  by_cases h : x.1.a = y.1.a
  · have e1 : ((x.1.a : Int) == (y.1.a : Int)) = true := by simp [h]
    have e2 : decide (x.1.n < y.1.n) = r := by
      rw [hr, Bool.eq_iff_iff, decide_eq_true_eq, decide_eq_true_eq]
      unfold ltR
      omega
    clear hr h
    go_enter Tryz.func68, Tryz.ntmps68
    go_wp2
    go_ret
    exact ⟨by rw [← e2]; rfl, T1.out⟩
  · have e1 : ((x.1.a : Int) == (y.1.a : Int)) = false := by simp; omega
    have e2 : decide (x.1.a < y.1.a) = r := by
      rw [hr, Bool.eq_iff_iff, decide_eq_true_eq, decide_eq_true_eq]
      unfold ltR
      omega
    clear hr h
    go_enter Tryz.func68, Tryz.ntmps68
    go_wp2
    go_ret
    exact ⟨by rw [← e2]; rfl, T1.out⟩
theorem rahead_near {w0 : World} (u : Near w0) (x y : Ent) (r : Bool) (hr : r = decide (ltR x y)) :
    Calls Tryz.prog 68 #[.agg #[.int .u32 x.1.a, .int .i64 x.1.n, .int .u32 (rV x.2), .bool (rL x.2)], .agg #[.int .u32 y.1.a, .int .i64 y.1.n, .int .u32 (rV y.2), .bool (rL y.2)]] u.w fun e w' => e = .returned (.bool r) ∧ ∃ x : Near w0, w' = x.w :=
  near_call u (rahead_calls x y r hr)
theorem ltR_irr (a b : Ent) (h : ltR a b) : ¬ ltR b a := by unfold ltR at *; omega
theorem ltR_nt (a b c : Ent) (h1 : ¬ ltR a b) (h2 : ¬ ltR b c) : ¬ ltR a c := by unfold ltR at *; omega
theorem VRow.setAtN {α : Type} {enc : α → List Value} {k : Nat} (hk : ∀ x, (enc x).length = k) {w : World} {e : TypeId} {g c n : Nat} {l : List α} (hn : l.length = n) (h : VRow w e k (.slice (some ⟨g, 0, none⟩) n c) l.length (SK.flatL enc l)) {i : Nat} (hi : i < l.length) (x : α) :
    VRow (w.setCells g (i * k) (enc x)) e k (.slice (some ⟨g, 0, none⟩) n c) (l.set i x).length (SK.flatL enc (l.set i x)) := by
  subst hn
  have := VRow.setAt hk h hi x
  rw [List.length_set] at this ⊢
  exact this
/-- What one part of Dump has built. -/
def SortP {α : Type} (lt : α → α → Prop) (L l : List α) : Prop := L.Perm l ∧ L.Pairwise (fun a b => ¬ lt b a)
theorem ltNe_irr (a b : NeE) (h : ltNe a b) : ¬ ltNe b a := by unfold ltNe at *; omega
theorem ltNe_nt (a b c : NeE) (h1 : ¬ ltNe a b) (h2 : ¬ ltNe b c) : ¬ ltNe a c := by unfold ltNe at *; omega
theorem ltFd_irr (a b : FdE) (h : ltFd a b) : ¬ ltFd b a := mlt_irr h
theorem ltFd_nt (a b c : FdE) (h1 : ¬ ltFd a b) (h2 : ¬ ltFd b c) : ¬ ltFd a c := mlt_nt h1 h2
theorem fun44 : Tryz.f44.results = #[.cell 2 66] := by kernel_rfl
theorem one_three {w : World} {tb : Nat} {V0 V1 V2 : Value} {R : List Ent} {N : List NeE} {E : List FdE} (h : TabAt w tb V0 V1 V2 R N E) : (#[V0, V1, V2] : Array Value).all (·.oneCell') = true := by
  obtain ⟨_, _, rfl⟩ := h.r.form
  obtain ⟨_, _, rfl⟩ := h.n.form
  obtain ⟨_, _, rfl⟩ := h.f.form
  simp [Value.oneCell']
/-- What the reference's Dump is. -/
structure RDumpIs (w w' : World) (s : LSt) (v : Value) : Prop where
  is : ∃ (U0 U1 U2 : Value) (L0 : List Ent) (L1 : List NeE) (L2 : List FdE), v = .agg #[U0, U1, U2] ∧ VRow w' 49 4 U0 L0.length (SK.flatL encR L0) ∧ VRow w' 53 7 U1 L1.length (SK.flatL encN L1) ∧ VRow w' 55 7 U2 L2.length (SK.flatL encF L2) ∧
    Fresh w.heap.size U0 ∧ Fresh w.heap.size U1 ∧ Fresh w.heap.size U2 ∧ SortP ltR L0 s.r ∧ SortP ltNe L1 s.n ∧ SortP ltFd L2 s.e
def RDumpPost (w : World) (s : LSt) (e : Ending) (w' : World) : Prop := ∃ v, e = .returned v ∧ RDumpIs w w' s v ∧ Touch [] w w'
set_option maxHeartbeats 64000000 in
theorem rdump_calls {w : World} {rb : Nat} {l0 l1 l2 : Int} {s : LSt} {F : List Nat} (h : RefL w rb l0 l1 l2 s F) (hG : GoodL l0 l1 l2 s) :
    Calls Tryz.prog 44 #[.pointer (some ⟨rb, 0, none⟩)] w (RDumpPost w s) := by
  obtain ⟨V0, V1, V2, rfl, h⟩ := h
  have H := Lib.hid h
  have HG := Lib.hid hG
  obtain ⟨A, cap, rfl⟩ := h.r.form
  obtain ⟨W1, hW1⟩ : ∃ W1 : World, W1 = (w.alloc (.cells tab0 66)).alloc (.cells tab0 66) := ⟨_, rfl⟩
  obtain ⟨b2, hb2⟩ : ∃ n, n = w.heap.size := ⟨_, rfl⟩
  obtain ⟨b3, hb3⟩ : ∃ n, n = b2 + 1 := ⟨_, rfl⟩
  have X2 := Lib.hid (show W1.heap[b2]? = some (.cells tab0 66 (0, 0)) by rw [hW1, hb2]; exact box_keep _ (box_at w _))
  have X3 := Lib.hid (show W1.heap[b3]? = some (.cells tab0 66 (0, 0)) by rw [hW1, hb3, hb2]; exact box_at' _ _ _ (by simp))
  have T1 := Lib.hid (show Touch [] w W1 by rw [hW1]; exact ((Touch.refl [] w).alloc _).alloc _)
  have TB := Lib.hid (show TabAt W1 b3 (.slice none 0 0) (.slice none 0 0) (.slice none 0 0) [] [] [] from ⟨X3.out, VRow.nil _ _ _, VRow.nil _ _ _, VRow.nil _ _ _⟩)
  have HW1 := Lib.hid hW1
  have HB2 := Lib.hid hb2
  have HB3 := Lib.hid hb3
  clear h hG hW1 hb2 hb3
  go_enter Tryz.func44, Tryz.ntmps44
  go_upto_region 2 with (fail)
  have hW1 := HW1.out
  unfold tab0 at hW1
  have hb2 := HB2.out
  have hb3 := HB3.out
  rw [← hW1, ← hb2, ← hb3]
  clear hW1 hb2 hb3
  have X3size : Hid (W1.heap.size = b3 + 1) := Lib.hid (by rw [HW1.out, HB3.out, HB2.out]; simp)
  go_wp2_with fail
  go_loopg [4] (s.r.length + 1) (fun kq v4 wr => ∃ (i : Nat) (U : Value) (L : List Ent), v4 = .int .i64 i ∧ i ≤ s.r.length ∧ s.r.length + 1 - i ≤ kq ∧ Hid (TabAt wr b3 U (.slice none 0 0) (.slice none 0 0) L [] []) ∧ Hid (SortP ltR L (s.r.take i)) ∧ Hid (∀ x ∈ tfoot b3 U (.slice none 0 0) (.slice none 0 0), b3 ≤ x) ∧ Hid (Touch [b3] W1 wr))
  case atStart => exact ⟨0, _, [], rfl, Nat.zero_le _, by omega, TB, Lib.hid ⟨by simp, List.Pairwise.nil⟩, Lib.hid (by simp [tfoot, Value.ownBlock]), Lib.hid (Touch.refl _ _)⟩
  case round =>
    obtain ⟨i, U, L, rfl, hi, hkq, hTB, hSP, hF, hT⟩ := hrel
    have TW := Lib.hid (T1.out.trans hT.out (fun x hx => .inr (by simp at hx; have := HB3.out; have := HB2.out; omega)))
    have HR := Lib.hid (H.out.kept TW.out (by simp))
    obtain ⟨AU, cU, hU⟩ := hTB.out.r.form
    subst hU
    obtain ⟨c0, c1, c2, c3, c4, c5⟩ := six_cells HR.out.blk
    obtain ⟨d0, d1, d2⟩ := th3 hTB.out.blk
    have hLl : L.length = i := by rw [hSP.out.1.length_eq, List.length_take]; omega
    subst hLl
    by_cases hlt : L.length < s.r.length
    · have b1 : (L.length : Int) < (s.r.length : Int) := by omega
      obtain ⟨⟨q, u⟩, hx⟩ : ∃ x, s.r[L.length]? = some x := ⟨_, List.getElem?_eq_getElem hlt⟩
      obtain ⟨g, c, hV, _, hgl, hc, _⟩ := HR.out.r.getAt encR_len hx
      simp only [Value.slice.injEq, true_and] at hV
      obtain ⟨rfl, rfl⟩ := hV
      have m0 := hc 0 _ rfl
      rw [Nat.add_zero] at m0
      have m1 := hc 1 _ rfl
      have m2 := hc 2 _ rfl
      have m3 := hc 3 _ rfl
      dsimp only at m0 m1 m2 m3
      have HX := Lib.hid hx
      clear hx hc c1 c2 c3 c4 c5 d1 d2
      have hL4 : L.length ≤ 256 := by have := HG.out.lr; omega
      go_upto_region 5 with (fail)
      go_cut [4] from 13 to 73 (fun v4 wc => v4 = .int .i64 L.length ∧ ∃ U', Hid (TabAt wc b3 U' (.slice none 0 0) (.slice none 0 0) (L ++ [(q, u)]) [] []) ∧ Hid (∀ x ∈ tfoot b3 U' (.slice none 0 0) (.slice none 0 0), b3 ≤ x) ∧ Hid (Touch [b3] W1 wc))
      case first =>
       have ca0 := fun ob => (th3 (box_keep ob hTB.out.blk)).1
       have hn1 : b3 ∉ (Value.slice AU L.length cU).ownBlock.toList := hTB.out.apart.1
       have ROW := Lib.hid (hTB.out.r.drew)
       go_region_law (refine step_append_vr (W := wr.drew) (by rfl) (.tmp 23) (.tmp 31) 62 49 4 24 _ Tryz.underlying62 (by rfl) infoR rfl (by decide) (by decide) (.slice AU L.length cU) L.length (SK.flatL encR L) 1 #[.int .u32 q.a, .int .i64 q.n, .int .u32 (rV u), .bool (rL u)] (by rfl) ROW.out (by rfl) (by rfl) (by simp [Value.oneCell']) (by omega) ?_
                      intro A5 c5' w5 v5 t5 o5
                      have k1 := cell_touch t5 (show wr.drew.cell? ⟨b3, 0, none⟩ = _ from d0) hn1
                      have e1 := frozen_touch t5 (show wr.drew.cell? ⟨b3, 0, none⟩ = _ from d0) (show wr.drew.frozen? ⟨b3, 0, none⟩ = false from th_frozen hTB.out.blk 0) hn1
                      have V5 := Lib.hid v5
                      have T5 := Lib.hid t5
                      have O5 := Lib.hid o5
                      clear v5 t5 o5)
       all_goals
         clear k1 e1 ca0
         go_wp2
         go_meet
         case rel =>
           obtain ⟨g1, g2, g3⟩ := hTB.out.newR (L := L ++ [(q, u)]) (((Touch.refl (Value.slice AU L.length cU).ownBlock.toList wr).drew).trans T5.out (fun x hx => .inl hx)) (by rw [List.length_append, flat_app, flat_one]; exact V5.out) (by rcases O5.out with h | ⟨b, h1, h2⟩; exact .inl h; exact .inr ⟨b, h1, h2⟩)
           have hge : b3 ≤ W1.heap.size := Nat.le_of_lt (Array.getElem?_eq_some_iff.1 X3.out).1
           refine ⟨rfl, _, Lib.hid g1, Lib.hid (fun x hx => ?_), Lib.hid (hT.out.trans g2 (fun x hx => ?_))⟩
           · rcases g3 x hx with h | h
             · exact hF.out x h
             · exact Nat.le_trans (Nat.le_trans hge hT.out.size) h
           · have h1 := hF.out x hx
             by_cases e : x = b3
             · exact .inl (by simp [e])
             · exact .inr (by have h2 := X3size.out; omega)
      case rest =>
        obtain ⟨rfl, U', hTB', hF', hT'⟩ := hcut
        obtain ⟨n, hn⟩ : ∃ n, n = (L ++ [(q, u)]).length := ⟨_, rfl⟩
        have HN := Lib.hid hn
        obtain ⟨A', c', hU'⟩ := hTB'.out.r.form
        rw [← hn] at hU'
        subst hU'
        have hnl : n = L.length + 1 := by rw [hn]; simp
        have HNL := Lib.hid hnl
        clear hn hnl c0 d0 m0 m1 m2 m3 hgl
        go_wp2_with fail
        go_loopg [5] (L.length + 1) (fun kj v5 wr2 => ∃ (j : Nat) (T : List Ent), v5 = .int .i64 j ∧ j ≤ L.length ∧ j + 1 ≤ kj ∧ Hid (TabAt wr2 b3 (.slice A' n c') (.slice none 0 0) (.slice none 0 0) T [] []) ∧ Hid (T.Perm (L ++ [(q, u)])) ∧ Hid (Going ltR T j (q, u)) ∧ Hid (Touch [b3] W1 wr2))
        case atStart => exact ⟨L.length, L ++ [(q, u)], rfl, Nat.le_refl _, Nat.le_refl _, hTB', Lib.hid (List.Perm.refl _), Lib.hid (Going.start hSP.out.2 _), hT'⟩
        case round =>
          obtain ⟨j, T, rfl, hj, hjk, hTT, hPM, hGO, hT2⟩ := hrel
          have HTL : Hid (T.length = n) := Lib.hid (by rw [hPM.out.length_eq, HN.out])
          obtain ⟨d0, d1, d2⟩ := th3 hTT.out.blk
          cases j with
          | zero =>
            have HST := Lib.hid (hGO.out.stop ltR_irr ltR_nt (.inl rfl))
            clear d0 d1 d2
            go_wp2
            go_quiet (fail)
            go_wp2
            go_roundg (s.r.length - L.length)
            case rel => exact ⟨L.length + 1, .slice A' n c', T, by simp, by omega, by omega, Lib.hid (hTT.out.kept ((Touch.refl [] wr).drewN nq) (by simp)), Lib.hid ⟨hPM.out.trans (by rw [take_next HX.out]; exact hSP.out.1.append_right _), HST.out⟩, hF', Lib.hid (hT2.out.drewN nq)⟩
            case measure => omega
          | succ k =>
            obtain ⟨gx, hkl⟩ := hGO.out.get
            have HGX := Lib.hid gx
            obtain ⟨⟨y, yv⟩, hy⟩ : ∃ y, T[k]? = some y := ⟨T[k]'(by omega), List.getElem?_eq_getElem _⟩
            obtain ⟨g2, c2, hV, _, _, hc, hfz⟩ := hTT.out.r.getAt encR_len gx
            have m0 := hc 0 _ rfl
            rw [Nat.add_zero] at m0
            have m1 := hc 1 _ rfl
            have m2 := hc 2 _ rfl
            have m3 := hc 3 _ rfl
            obtain ⟨g3, c3, hV3, _, _, hc, _⟩ := hTT.out.r.getAt encR_len hy
            have p0 := hc 0 _ rfl
            rw [Nat.add_zero] at p0
            have p1 := hc 1 _ rfl
            have p2 := hc 2 _ rfl
            have p3 := hc 3 _ rfl
            have hV4 := hV3
            rw [hV] at hV4
            simp only [Value.slice.injEq, Option.some.injEq, Addr.mk.injEq, true_and, and_true] at hV4
            obtain ⟨rfl, rfl⟩ := hV4
            simp only [Value.slice.injEq, true_and] at hV
            obtain ⟨rfl, hnT, rfl⟩ := hV
            dsimp only at m0 m1 m2 m3 p0 p1 p2 p3
            have hkn : (k : Int) + 1 < (n : Int) := by omega
            have hkn0 : (k : Int) < (n : Int) := by omega
            have hp0 : (0 : Int) ≤ (k : Int) + 1 := by omega
            have hp2 : ((k : Int) + 1).toNat = k + 1 := by omega
            have hp3 : (0 : Int) < (k : Int) + 1 := by omega
            have HY := Lib.hid hy
            have HKL := Lib.hid hkl
            have x0 := fun u : Near wr => u.cell m0
            have x1 := fun u : Near wr => u.cell m1
            have x2 := fun u : Near wr => u.cell m2
            have x3 := fun u : Near wr => u.cell m3
            have y0 := fun u : Near wr => u.cell p0
            have y1 := fun u : Near wr => u.cell p1
            have y2 := fun u : Near wr => u.cell p2
            have y3 := fun u : Near wr => u.cell p3
            have z0 := fun u : Near wr => u.cell d0
            clear hV3 hc hy gx hkl d1 d2
            by_cases hlt2 : ltR (q, u) (y, yv)
            · have HC := Lib.hid (fun w : Near wr => rahead_near w (q, u) (y, yv) true (by simpa using hlt2))
              have HLT := Lib.hid hlt2
              clear hlt2
              go_wp2
              refine wp_region_near (by kernel_rfl) (by kernel_rfl) ?_
              repeat (go_big_quiet_step ((go_at_call 68; exact HC.out _)))
              refine wpQuiet_nil ?_
              rintro _ ⟨u2, rfl⟩
              have TN := Lib.hid u2.near
              clear HC x0 x1 x2 x3 y0 y1 y2 y3 z0 m0 m1 m2 m3 p0 p1 p2 p3 hfz d0
              obtain ⟨W3, hW3⟩ : ∃ W3 : World, W3 = u2.w := ⟨_, rfl⟩
              rw [← hW3] at TN ⊢
              clear hW3 u2
              have HT3 := Lib.hid (hTT.out.kept TN.out (by simp))
              obtain ⟨_, _, hV, _, _, hc, hfz⟩ := HT3.out.r.getAt encR_len HGX.out
              simp only [Value.slice.injEq, Option.some.injEq, Addr.mk.injEq, true_and, and_true] at hV
              obtain ⟨rfl, _, rfl⟩ := hV
              have m0 := hc 0 _ rfl
              rw [Nat.add_zero] at m0
              have m1 := hc 1 _ rfl
              have m2 := hc 2 _ rfl
              have m3 := hc 3 _ rfl
              dsimp only at m0 m1 m2 m3
              obtain ⟨d0, _, _⟩ := th3 HT3.out.blk
              go_upto_region 10 with (fail)
              obtain ⟨W4, hW4⟩ : ∃ W4 : World, W4 = W3.alloc (.cells #[.int .u32 q.a, .int .i64 q.n, .int .u32 (rV u), .bool (rL u)] 49) := ⟨_, rfl⟩
              rw [← hW4]
              have t4 : Touch [] W3 W4 := by rw [hW4]; exact (Touch.refl [] W3).alloc _
              obtain ⟨r6, hr6⟩ : ∃ r6, r6 = W3.heap.size := ⟨_, rfl⟩
              have R6 := Lib.hid (show W4.heap[r6]? = some (.cells #[.int .u32 q.a, .int .i64 q.n, .int .u32 (rV u), .bool (rL u)] 49 (0, 0)) by rw [hW4, hr6]; exact box_at _ _)
              have T4 := Lib.hid (TN.out.trans t4 (by simp))
              have HT4 := Lib.hid (HT3.out.kept t4 (by simp))
              have HR6 := Lib.hid (show r6 ∉ [g2] from fun hx => by
                have h1 := HT3.out.lt g2 (by simp [tfoot, Value.ownBlock])
                simp at hx
                omega)
              rw [← hr6]
              clear hW4 t4 hr6 m0 m1 m2 m3 hc hfz d0 HT3 TN
              obtain ⟨_, _, hV, _, _, hc, hfz⟩ := HT4.out.r.getAt encR_len HGX.out
              simp only [Value.slice.injEq, Option.some.injEq, Addr.mk.injEq, true_and, and_true] at hV
              obtain ⟨rfl, _, rfl⟩ := hV
              have m0 := hc 0 _ rfl
              rw [Nat.add_zero] at m0
              have m1 := hc 1 _ rfl
              have m2 := hc 2 _ rfl
              have m3 := hc 3 _ rfl
              dsimp only at m0 m1 m2 m3
              obtain ⟨_, _, hV, _, _, hc, _⟩ := HT4.out.r.getAt encR_len HY.out
              simp only [Value.slice.injEq, Option.some.injEq, Addr.mk.injEq, true_and, and_true] at hV
              obtain ⟨rfl, _, rfl⟩ := hV
              have p0 := hc 0 _ rfl
              rw [Nat.add_zero] at p0
              have p1 := hc 1 _ rfl
              have p2 := hc 2 _ rfl
              have p3 := hc 3 _ rfl
              dsimp only at p0 p1 p2 p3
              obtain ⟨d0, _, _⟩ := th3 HT4.out.blk
              go_region
              rw [cells4]
              have hk1 : k + 1 < T.length := HKL.out
              have row := VRow.setAtN encR_len HTL.out HT4.out.r hk1 (y, yv)
              have ts := touch_setCells g2 (encR (y, yv)) ((k + 1) * 4) W4
              rw [show [Value.int .u32 y.a, Value.int .i64 y.n, Value.int .u32 (rV yv), Value.bool (rL yv)] = encR (y, yv) from rfl]
              obtain ⟨W5, hW5⟩ : ∃ W5 : World, W5 = W4.setCells g2 ((k + 1) * 4) (encR (y, yv)) := ⟨_, rfl⟩
              rw [← hW5] at row ts ⊢
              clear hW5 m0 m1 m2 m3 p0 p1 p2 p3 d0 hc hfz
              have HT5 := Lib.hid (HT4.out.sameR ts (L := T.set (k + 1) (y, yv)) row)
              have R7 := Lib.hid (touch_box ts R6.out HR6.out)
              have T5 := Lib.hid ((T4.out.mono (by simp)).trans ts (fun x hx => .inl hx))
              clear row ts HT4 R6 T4
              obtain ⟨s0, s1, s2, s3⟩ := rt_cells R7.out
              obtain ⟨d0, _, _⟩ := th3 HT5.out.blk
              have hgy : (T.set (k + 1) (y, yv))[k]? = some (y, yv) := by rw [List.getElem?_set_ne (by omega)]; exact HY.out
              obtain ⟨_, _, hV, _, _, hc, hfz⟩ := HT5.out.r.getAt encR_len hgy
              simp only [Value.slice.injEq, Option.some.injEq, Addr.mk.injEq, true_and, and_true] at hV
              obtain ⟨rfl, _, rfl⟩ := hV
              have p0 := hc 0 _ rfl
              rw [Nat.add_zero] at p0
              have p1 := hc 1 _ rfl
              have p2 := hc 2 _ rfl
              have p3 := hc 3 _ rfl
              dsimp only at p0 p1 p2 p3
              clear hc hgy
              go_wp2
              rw [cells4]
              rw [show [Value.int .u32 q.a, Value.int .i64 q.n, Value.int .u32 (rV u), Value.bool (rL u)] = encR (q, u) from rfl]
              have hk2 : k < (T.set (k + 1) (y, yv)).length := by rw [List.length_set]; omega
              have row := VRow.setAtN encR_len (by rw [List.length_set]; exact HTL.out) HT5.out.r hk2 (q, u)
              have ts := touch_setCells g2 (encR (q, u)) (k * 4) W5
              obtain ⟨W6, hW6⟩ : ∃ W6 : World, W6 = W5.setCells g2 (k * 4) (encR (q, u)) := ⟨_, rfl⟩
              rw [← hW6] at row ts ⊢
              clear hW6 p0 p1 p2 p3 d0 hfz s0 s1 s2 s3
              have HT6 := Lib.hid (TabAt.kept (HT5.out.sameR ts row) (Touch.refl [] W6).drew (by simp))
              obtain ⟨GD, GP⟩ := hGO.out.down HY.out HLT.out
              have T6 := Lib.hid (T5.out.trans ts.drew (fun x hx => .inl hx))
              have HGB := Lib.hid (hF'.out g2 (by simp [tfoot, Value.ownBlock]))
              go_roundg (k + 1)
              case rel => exact ⟨k, _, rfl, by omega, by omega, HT6, Lib.hid (GP.trans hPM.out), Lib.hid GD, Lib.hid (hT2.out.trans T6.out (fun x hx => by
                simp at hx
                by_cases e : x = b3
                · exact .inl (by simp [e])
                · exact .inr (by have h1 := HGB.out; have h2 := X3size.out; omega)))⟩
              case measure => omega
            · have HC := Lib.hid (fun w : Near wr => rahead_near w (q, u) (y, yv) false (by symm; simpa using hlt2))
              have HST := Lib.hid (hGO.out.stop ltR_irr ltR_nt (.inr ⟨k, (y, yv), rfl, HY.out, hlt2⟩))
              clear hlt2
              go_wp2
              refine wp_region_near (by kernel_rfl) (by kernel_rfl) ?_
              repeat (go_big_quiet_step ((go_at_call 68; exact HC.out _)))
              refine wpQuiet_nil ?_
              rintro _ ⟨u2, rfl⟩
              have TN := Lib.hid u2.near
              clear HC x0 x1 x2 x3 y0 y1 y2 y3 z0
              go_wp2
              go_roundg (s.r.length - L.length)
              case rel => exact ⟨L.length + 1, _, T, by simp, by omega, by omega, Lib.hid (hTT.out.kept TN.out (by simp)), Lib.hid ⟨hPM.out.trans (by rw [take_next HX.out]; exact hSP.out.1.append_right _), HST.out⟩, hF', Lib.hid (hT2.out.trans TN.out (by simp))⟩
              case measure => omega
    · have b1 : ¬ (L.length : Int) < (s.r.length : Int) := by omega
      have hll : L.length = s.r.length := by omega
      have SPR := Lib.hid (show SortP ltR L s.r by have h1 := hSP.out; rw [hll, List.take_length] at h1; exact h1)
      obtain ⟨U0, hU0⟩ : ∃ U0, U0 = Value.slice AU L.length cU := ⟨_, rfl⟩
      rw [← hU0] at hTB hF
      obtain ⟨L0, hL0⟩ : ∃ L0, L0 = L := ⟨_, rfl⟩
      rw [← hL0] at hTB SPR
      have TB := Lib.hid hTB.out
      have HFP := Lib.hid hF.out
      have HTP := Lib.hid hT.out
      obtain ⟨A, cap, rfl⟩ := HR.out.n.form
      clear hU0 hL0 hTB hF hT hSP hkq hlt hi d0 d1 d2
      go_wp2_with fail
      clear c0 c1 c2 c3 c4 c5 b1 hll
      go_loopg [7] (s.n.length + 1) (fun kq v7 wr => ∃ (i : Nat) (U : Value) (L : List NeE), v7 = .int .i64 i ∧ i ≤ s.n.length ∧ s.n.length + 1 - i ≤ kq ∧ Hid (TabAt wr b3 U0 U (.slice none 0 0) L0 L []) ∧ Hid (SortP ltNe L (s.n.take i)) ∧ Hid (∀ x ∈ tfoot b3 U0 U (.slice none 0 0), b3 ≤ x) ∧ Hid (Touch [b3] W1 wr))
      case atStart => exact ⟨0, _, [], rfl, Nat.zero_le _, by omega, TB, Lib.hid ⟨by simp, List.Pairwise.nil⟩, HFP, HTP⟩
      case round =>
        obtain ⟨i, U, L, rfl, hi, hkq, hTB, hSP, hF, hT⟩ := hrel
        have TW := Lib.hid (T1.out.trans hT.out (fun x hx => .inr (by simp at hx; have := HB3.out; have := HB2.out; omega)))
        have HR := Lib.hid (H.out.kept TW.out (by simp))
        obtain ⟨AU, cU, hU⟩ := hTB.out.n.form
        subst hU
        obtain ⟨c0, c1, c2, c3, c4, c5⟩ := six_cells HR.out.blk
        obtain ⟨d0, d1, d2⟩ := th3 hTB.out.blk
        have hLl : L.length = i := by rw [hSP.out.1.length_eq, List.length_take]; omega
        subst hLl
        by_cases hlt : L.length < s.n.length
        · have b1 : (L.length : Int) < (s.n.length : Int) := by omega
          obtain ⟨⟨q, u⟩, hx⟩ : ∃ x, s.n[L.length]? = some x := ⟨_, List.getElem?_eq_getElem hlt⟩
          obtain ⟨g, c, hV, _, hgl, hc, _⟩ := HR.out.n.getAt encN_len hx
          simp only [Value.slice.injEq, true_and] at hV
          obtain ⟨rfl, rfl⟩ := hV
          have m0 := hc 0 _ rfl
          rw [Nat.add_zero] at m0
          have m1 := hc 1 _ rfl
          have m2 := hc 2 _ rfl
          have m3 := hc 3 _ rfl
          have m4 := hc 4 _ rfl
          have m5 := hc 5 _ rfl
          have m6 := hc 6 _ rfl
          dsimp only at m0 m1 m2 m3 m4 m5 m6
          have HX := Lib.hid hx
          clear hx hc c0 c2 c3 c4 c5 d0 d2
          have hL4 : L.length ≤ 256 := by have := HG.out.ln; omega
          go_upto_region 15 with (fail)
          go_cut [7] from 74 to 136 (fun v7 wc => v7 = .int .i64 L.length ∧ ∃ U', Hid (TabAt wc b3 U0 U' (.slice none 0 0) L0 (L ++ [(⟨q, u⟩ : NeE)]) []) ∧ Hid (∀ x ∈ tfoot b3 U0 U' (.slice none 0 0), b3 ≤ x) ∧ Hid (Touch [b3] W1 wc))
          case first =>
           have ca0 := fun ob => (th3 (box_keep ob hTB.out.blk)).2.1
           have hn1 : b3 ∉ (Value.slice AU L.length cU).ownBlock.toList := hTB.out.apart.2.1
           have ROW := Lib.hid (hTB.out.n.drew)
           go_region_law (refine step_append_vr (W := wr.drew) (by rfl) (.tmp 84) (.tmp 92) 63 53 7 12 _ Tryz.underlying63 (by rfl) infoN rfl (by decide) (by decide) (.slice AU L.length cU) L.length (SK.flatL encN L) 1 #[.int .u32 q, .int .u8 u.m0, .int .u8 u.m1, .int .u8 u.m2, .int .u8 u.m3, .int .u8 u.m4, .int .u8 u.m5] (by rfl) ROW.out (by rfl) (by rfl) (by simp [Value.oneCell']) (by omega) ?_
                          intro A5 c5' w5 v5 t5 o5
                          have k1 := cell_touch t5 (show wr.drew.cell? ⟨b3, 1, none⟩ = _ from d1) hn1
                          have e1 := frozen_touch t5 (show wr.drew.cell? ⟨b3, 1, none⟩ = _ from d1) (show wr.drew.frozen? ⟨b3, 1, none⟩ = false from th_frozen hTB.out.blk 1) hn1
                          have V5 := Lib.hid v5
                          have T5 := Lib.hid t5
                          have O5 := Lib.hid o5
                          clear v5 t5 o5)
           all_goals
             clear k1 e1 ca0
             go_wp2
             go_meet
             case rel =>
               obtain ⟨g1, g2, g3⟩ := hTB.out.newN (L := L ++ [(⟨q, u⟩ : NeE)]) (((Touch.refl (Value.slice AU L.length cU).ownBlock.toList wr).drew).trans T5.out (fun x hx => .inl hx)) (by rw [List.length_append, flat_app, flat_one]; exact V5.out) (by rcases O5.out with h | ⟨b, h1, h2⟩; exact .inl h; exact .inr ⟨b, h1, h2⟩)
               have hge : b3 ≤ W1.heap.size := Nat.le_of_lt (Array.getElem?_eq_some_iff.1 X3.out).1
               refine ⟨rfl, _, Lib.hid g1, Lib.hid (fun x hx => ?_), Lib.hid (hT.out.trans g2 (fun x hx => ?_))⟩
               · rcases g3 x hx with h | h
                 · exact hF.out x h
                 · exact Nat.le_trans (Nat.le_trans hge hT.out.size) h
               · have h1 := hF.out x hx
                 by_cases e : x = b3
                 · exact .inl (by simp [e])
                 · exact .inr (by have h2 := X3size.out; omega)
          case rest =>
            obtain ⟨rfl, U', hTB', hF', hT'⟩ := hcut
            obtain ⟨n, hn⟩ : ∃ n, n = (L ++ [(⟨q, u⟩ : NeE)]).length := ⟨_, rfl⟩
            have HN := Lib.hid hn
            obtain ⟨A', c', hU'⟩ := hTB'.out.n.form
            rw [← hn] at hU'
            subst hU'
            have hnl : n = L.length + 1 := by rw [hn]; simp
            have HNL := Lib.hid hnl
            clear hn hnl c1 d1 m0 m1 m2 m3 m4 m5 m6 hgl
            go_wp2_with fail
            go_loopg [8] (L.length + 1) (fun kj v8 wr2 => ∃ (j : Nat) (T : List NeE), v8 = .int .i64 j ∧ j ≤ L.length ∧ j + 1 ≤ kj ∧ Hid (TabAt wr2 b3 U0 (.slice A' n c') (.slice none 0 0) L0 T []) ∧ Hid (T.Perm (L ++ [(⟨q, u⟩ : NeE)])) ∧ Hid (Going ltNe T j ⟨q, u⟩) ∧ Hid (Touch [b3] W1 wr2))
            case atStart => exact ⟨L.length, L ++ [(⟨q, u⟩ : NeE)], rfl, Nat.le_refl _, Nat.le_refl _, hTB', Lib.hid (List.Perm.refl _), Lib.hid (Going.start hSP.out.2 _), hT'⟩
            case round =>
              obtain ⟨j, T, rfl, hj, hjk, hTT, hPM, hGO, hT2⟩ := hrel
              have HTL : Hid (T.length = n) := Lib.hid (by rw [hPM.out.length_eq, HN.out])
              obtain ⟨d0, d1, d2⟩ := th3 hTT.out.blk
              cases j with
              | zero =>
                have HST := Lib.hid (hGO.out.stop ltNe_irr ltNe_nt (.inl rfl))
                clear d0 d1 d2
                go_wp2
                go_quiet (fail)
                go_wp2
                go_roundg (s.n.length - L.length)
                case rel => exact ⟨L.length + 1, .slice A' n c', T, by simp, by omega, by omega, Lib.hid (hTT.out.kept ((Touch.refl [] wr).drewN nq) (by simp)), Lib.hid ⟨hPM.out.trans (by rw [take_next HX.out]; exact hSP.out.1.append_right _), HST.out⟩, hF', Lib.hid (hT2.out.drewN nq)⟩
                case measure => omega
              | succ k =>
                obtain ⟨gx, hkl⟩ := hGO.out.get
                have HGX := Lib.hid gx
                obtain ⟨⟨y, yv⟩, hy⟩ : ∃ y, T[k]? = some y := ⟨T[k]'(by omega), List.getElem?_eq_getElem _⟩
                obtain ⟨g2, c2, hV, _, _, hc, hfz⟩ := hTT.out.n.getAt encN_len gx
                have m0 := hc 0 _ rfl
                rw [Nat.add_zero] at m0
                have m1 := hc 1 _ rfl
                have m2 := hc 2 _ rfl
                have m3 := hc 3 _ rfl
                have m4 := hc 4 _ rfl
                have m5 := hc 5 _ rfl
                have m6 := hc 6 _ rfl
                obtain ⟨g3, c3, hV3, _, _, hc, _⟩ := hTT.out.n.getAt encN_len hy
                have p0 := hc 0 _ rfl
                rw [Nat.add_zero] at p0
                have p1 := hc 1 _ rfl
                have p2 := hc 2 _ rfl
                have p3 := hc 3 _ rfl
                have p4 := hc 4 _ rfl
                have p5 := hc 5 _ rfl
                have p6 := hc 6 _ rfl
                have hV4 := hV3
                rw [hV] at hV4
                simp only [Value.slice.injEq, Option.some.injEq, Addr.mk.injEq, true_and, and_true] at hV4
                obtain ⟨rfl, rfl⟩ := hV4
                simp only [Value.slice.injEq, true_and] at hV
                obtain ⟨rfl, hnT, rfl⟩ := hV
                dsimp only at m0 m1 m2 m3 m4 m5 m6 p0 p1 p2 p3 p4 p5 p6
                have hkn : (k : Int) + 1 < (n : Int) := by omega
                have hkn0 : (k : Int) < (n : Int) := by omega
                have hp0 : (0 : Int) ≤ (k : Int) + 1 := by omega
                have hp2 : ((k : Int) + 1).toNat = k + 1 := by omega
                have hp3 : (0 : Int) < (k : Int) + 1 := by omega
                have HY := Lib.hid hy
                have HKL := Lib.hid hkl
                clear hV3 hc hy gx hkl d0 d2
                by_cases hlt2 : ltNe ⟨q, u⟩ ⟨y, yv⟩
                · have hdl : decide (q < y) = true := by simpa [ltNe] using hlt2
                  have HLT := Lib.hid hlt2
                  clear hlt2
                  go_wp2
                  go_quiet (fail)
                  have TN := Lib.hid ((Touch.refl [] wr).drewN nq)
                  clear hdl m0 m1 m2 m3 m4 m5 m6 p0 p1 p2 p3 p4 p5 p6 hfz d1
                  obtain ⟨W3, hW3⟩ : ∃ W3 : World, W3 = wr.drewN nq := ⟨_, rfl⟩
                  rw [← hW3] at TN ⊢
                  clear hW3
                  have HT3 := Lib.hid (hTT.out.kept TN.out (by simp))
                  obtain ⟨_, _, hV, _, _, hc, hfz⟩ := HT3.out.n.getAt encN_len HGX.out
                  simp only [Value.slice.injEq, Option.some.injEq, Addr.mk.injEq, true_and, and_true] at hV
                  obtain ⟨rfl, _, rfl⟩ := hV
                  have m0 := hc 0 _ rfl
                  rw [Nat.add_zero] at m0
                  have m1 := hc 1 _ rfl
                  have m2 := hc 2 _ rfl
                  have m3 := hc 3 _ rfl
                  have m4 := hc 4 _ rfl
                  have m5 := hc 5 _ rfl
                  have m6 := hc 6 _ rfl
                  dsimp only at m0 m1 m2 m3 m4 m5 m6
                  obtain ⟨_, d1, _⟩ := th3 HT3.out.blk
                  go_upto_region 20 with (fail)
                  obtain ⟨W4, hW4⟩ : ∃ W4 : World, W4 = W3.alloc (.cells #[.int .u32 q, .int .u8 u.m0, .int .u8 u.m1, .int .u8 u.m2, .int .u8 u.m3, .int .u8 u.m4, .int .u8 u.m5] 53) := ⟨_, rfl⟩
                  rw [← hW4]
                  have t4 : Touch [] W3 W4 := by rw [hW4]; exact (Touch.refl [] W3).alloc _
                  obtain ⟨r6, hr6⟩ : ∃ r6, r6 = W3.heap.size := ⟨_, rfl⟩
                  have R6 := Lib.hid (show W4.heap[r6]? = some (.cells #[.int .u32 q, .int .u8 u.m0, .int .u8 u.m1, .int .u8 u.m2, .int .u8 u.m3, .int .u8 u.m4, .int .u8 u.m5] 53 (0, 0)) by rw [hW4, hr6]; exact box_at _ _)
                  have T4 := Lib.hid (TN.out.trans t4 (by simp))
                  have HT4 := Lib.hid (HT3.out.kept t4 (by simp))
                  have HR6 := Lib.hid (show r6 ∉ [g2] from fun hx => by
                    have h1 := HT3.out.lt g2 (by simp [tfoot, Value.ownBlock])
                    simp at hx
                    omega)
                  rw [← hr6]
                  clear hW4 t4 hr6 m0 m1 m2 m3 m4 m5 m6 hc hfz d1 HT3 TN
                  obtain ⟨_, _, hV, _, _, hc, hfz⟩ := HT4.out.n.getAt encN_len HGX.out
                  simp only [Value.slice.injEq, Option.some.injEq, Addr.mk.injEq, true_and, and_true] at hV
                  obtain ⟨rfl, _, rfl⟩ := hV
                  have m0 := hc 0 _ rfl
                  rw [Nat.add_zero] at m0
                  have m1 := hc 1 _ rfl
                  have m2 := hc 2 _ rfl
                  have m3 := hc 3 _ rfl
                  have m4 := hc 4 _ rfl
                  have m5 := hc 5 _ rfl
                  have m6 := hc 6 _ rfl
                  dsimp only at m0 m1 m2 m3 m4 m5 m6
                  obtain ⟨_, _, hV, _, _, hc, _⟩ := HT4.out.n.getAt encN_len HY.out
                  simp only [Value.slice.injEq, Option.some.injEq, Addr.mk.injEq, true_and, and_true] at hV
                  obtain ⟨rfl, _, rfl⟩ := hV
                  have p0 := hc 0 _ rfl
                  rw [Nat.add_zero] at p0
                  have p1 := hc 1 _ rfl
                  have p2 := hc 2 _ rfl
                  have p3 := hc 3 _ rfl
                  have p4 := hc 4 _ rfl
                  have p5 := hc 5 _ rfl
                  have p6 := hc 6 _ rfl
                  dsimp only at p0 p1 p2 p3 p4 p5 p6
                  obtain ⟨_, d1, _⟩ := th3 HT4.out.blk
                  go_region
                  rw [cells7]
                  have hk1 : k + 1 < T.length := HKL.out
                  have row := VRow.setAtN encN_len HTL.out HT4.out.n hk1 ⟨y, yv⟩
                  have ts := touch_setCells g2 (encN ⟨y, yv⟩) ((k + 1) * 7) W4
                  rw [show [Value.int .u32 y, Value.int .u8 yv.m0, Value.int .u8 yv.m1, Value.int .u8 yv.m2, Value.int .u8 yv.m3, Value.int .u8 yv.m4, Value.int .u8 yv.m5] = encN ⟨y, yv⟩ from rfl]
                  obtain ⟨W5, hW5⟩ : ∃ W5 : World, W5 = W4.setCells g2 ((k + 1) * 7) (encN ⟨y, yv⟩) := ⟨_, rfl⟩
                  rw [← hW5] at row ts ⊢
                  clear hW5 m0 m1 m2 m3 m4 m5 m6 p0 p1 p2 p3 p4 p5 p6 d1 hc hfz
                  have HT5 := Lib.hid (HT4.out.sameN ts (L := T.set (k + 1) ⟨y, yv⟩) row)
                  have R7 := Lib.hid (touch_box ts R6.out HR6.out)
                  have T5 := Lib.hid ((T4.out.mono (by simp)).trans ts (fun x hx => .inl hx))
                  clear row ts HT4 R6 T4
                  obtain ⟨s0, s1, s2, s3, s4, s5, s6⟩ := seven_cells R7.out
                  obtain ⟨_, d1, _⟩ := th3 HT5.out.blk
                  have hgy : (T.set (k + 1) ⟨y, yv⟩)[k]? = some ⟨y, yv⟩ := by rw [List.getElem?_set_ne (by omega)]; exact HY.out
                  obtain ⟨_, _, hV, _, _, hc, hfz⟩ := HT5.out.n.getAt encN_len hgy
                  simp only [Value.slice.injEq, Option.some.injEq, Addr.mk.injEq, true_and, and_true] at hV
                  obtain ⟨rfl, _, rfl⟩ := hV
                  have p0 := hc 0 _ rfl
                  rw [Nat.add_zero] at p0
                  have p1 := hc 1 _ rfl
                  have p2 := hc 2 _ rfl
                  have p3 := hc 3 _ rfl
                  have p4 := hc 4 _ rfl
                  have p5 := hc 5 _ rfl
                  have p6 := hc 6 _ rfl
                  dsimp only at p0 p1 p2 p3 p4 p5 p6
                  clear hc hgy
                  go_wp2
                  rw [cells7]
                  rw [show [Value.int .u32 q, Value.int .u8 u.m0, Value.int .u8 u.m1, Value.int .u8 u.m2, Value.int .u8 u.m3, Value.int .u8 u.m4, Value.int .u8 u.m5] = encN ⟨q, u⟩ from rfl]
                  have hk2 : k < (T.set (k + 1) ⟨y, yv⟩).length := by rw [List.length_set]; omega
                  have row := VRow.setAtN encN_len (by rw [List.length_set]; exact HTL.out) HT5.out.n hk2 ⟨q, u⟩
                  have ts := touch_setCells g2 (encN ⟨q, u⟩) (k * 7) W5
                  obtain ⟨W6, hW6⟩ : ∃ W6 : World, W6 = W5.setCells g2 (k * 7) (encN ⟨q, u⟩) := ⟨_, rfl⟩
                  rw [← hW6] at row ts ⊢
                  clear hW6 p0 p1 p2 p3 p4 p5 p6 d1 hfz s0 s1 s2 s3 s4 s5 s6
                  have HT6 := Lib.hid (TabAt.kept (HT5.out.sameN ts row) (Touch.refl [] W6).drew (by simp))
                  obtain ⟨GD, GP⟩ := hGO.out.down HY.out HLT.out
                  have T6 := Lib.hid (T5.out.trans ts.drew (fun x hx => .inl hx))
                  have HGB := Lib.hid (hF'.out g2 (by simp [tfoot, Value.ownBlock]))
                  go_roundg (k + 1)
                  case rel => exact ⟨k, _, rfl, by omega, by omega, HT6, Lib.hid (GP.trans hPM.out), Lib.hid GD, Lib.hid (hT2.out.trans T6.out (fun x hx => by
                    simp at hx
                    by_cases e : x = b3
                    · exact .inl (by simp [e])
                    · exact .inr (by have h1 := HGB.out; have h2 := X3size.out; omega)))⟩
                  case measure => omega
                · have hdl : decide (q < y) = false := by simpa [ltNe] using hlt2
                  have HST := Lib.hid (hGO.out.stop ltNe_irr ltNe_nt (.inr ⟨k, ⟨y, yv⟩, rfl, HY.out, hlt2⟩))
                  clear hlt2
                  go_wp2
                  go_quiet (fail)
                  have TN := Lib.hid ((Touch.refl [] wr).drewN nq)
                  clear hdl
                  go_wp2
                  go_roundg (s.n.length - L.length)
                  case rel => exact ⟨L.length + 1, _, T, by simp, by omega, by omega, Lib.hid (hTT.out.kept TN.out (by simp)), Lib.hid ⟨hPM.out.trans (by rw [take_next HX.out]; exact hSP.out.1.append_right _), HST.out⟩, hF', Lib.hid (hT2.out.trans TN.out (by simp))⟩
                  case measure => omega
        · have b1 : ¬ (L.length : Int) < (s.n.length : Int) := by omega
          have hll : L.length = s.n.length := by omega
          have SPN := Lib.hid (show SortP ltNe L s.n by have h1 := hSP.out; rw [hll, List.take_length] at h1; exact h1)
          obtain ⟨U1, hU1⟩ : ∃ U1, U1 = Value.slice AU L.length cU := ⟨_, rfl⟩
          rw [← hU1] at hTB hF
          obtain ⟨L1, hL1⟩ : ∃ L1, L1 = L := ⟨_, rfl⟩
          rw [← hL1] at hTB SPN
          have TB := Lib.hid hTB.out
          have HFP := Lib.hid hF.out
          have HTP := Lib.hid hT.out
          obtain ⟨A, cap, rfl⟩ := HR.out.f.form
          clear hU1 hL1 hTB hF hT hSP hkq hlt hi d0 d1 d2
          go_wp2_with fail
          clear c0 c1 c2 c3 c4 c5 b1 hll
          go_loopg [10] (s.e.length + 1) (fun kq v10 wr => ∃ (i : Nat) (U : Value) (L : List FdE), v10 = .int .i64 i ∧ i ≤ s.e.length ∧ s.e.length + 1 - i ≤ kq ∧ Hid (TabAt wr b3 U0 U1 U L0 L1 L) ∧ Hid (SortP ltFd L (s.e.take i)) ∧ Hid (∀ x ∈ tfoot b3 U0 U1 U, b3 ≤ x) ∧ Hid (Touch [b3] W1 wr))
          case atStart => exact ⟨0, _, [], rfl, Nat.zero_le _, by omega, TB, Lib.hid ⟨by simp, List.Pairwise.nil⟩, HFP, HTP⟩
          case round =>
            obtain ⟨i, U, L, rfl, hi, hkq, hTB, hSP, hF, hT⟩ := hrel
            have TW := Lib.hid (T1.out.trans hT.out (fun x hx => .inr (by simp at hx; have := HB3.out; have := HB2.out; omega)))
            have HR := Lib.hid (H.out.kept TW.out (by simp))
            obtain ⟨AU, cU, hU⟩ := hTB.out.f.form
            subst hU
            obtain ⟨c0, c1, c2, c3, c4, c5⟩ := six_cells HR.out.blk
            obtain ⟨d0, d1, d2⟩ := th3 hTB.out.blk
            have hLl : L.length = i := by rw [hSP.out.1.length_eq, List.length_take]; omega
            subst hLl
            by_cases hlt : L.length < s.e.length
            · have b1 : (L.length : Int) < (s.e.length : Int) := by omega
              obtain ⟨⟨q, u⟩, hx⟩ : ∃ x, s.e[L.length]? = some x := ⟨_, List.getElem?_eq_getElem hlt⟩
              obtain ⟨g, c, hV, _, hgl, hc, _⟩ := HR.out.f.getAt encF_len hx
              simp only [Value.slice.injEq, true_and] at hV
              obtain ⟨rfl, rfl⟩ := hV
              have m0 := hc 0 _ rfl
              rw [Nat.add_zero] at m0
              have m1 := hc 1 _ rfl
              have m2 := hc 2 _ rfl
              have m3 := hc 3 _ rfl
              have m4 := hc 4 _ rfl
              have m5 := hc 5 _ rfl
              have m6 := hc 6 _ rfl
              dsimp only at m0 m1 m2 m3 m4 m5 m6
              have HX := Lib.hid hx
              clear hx hc c0 c1 c3 c4 c5 d0 d1
              have hL4 : L.length ≤ 256 := by have := HG.out.le; omega
              go_upto_region 25 with (fail)
              go_cut [10] from 137 to 200 (fun v10 wc => v10 = .int .i64 L.length ∧ ∃ U', Hid (TabAt wc b3 U0 U1 U' L0 L1 (L ++ [(⟨q, u⟩ : FdE)])) ∧ Hid (∀ x ∈ tfoot b3 U0 U1 U', b3 ≤ x) ∧ Hid (Touch [b3] W1 wc))
              case first =>
               have ca0 := fun ob => (th3 (box_keep ob hTB.out.blk)).2.2
               have hn1 : b3 ∉ (Value.slice AU L.length cU).ownBlock.toList := hTB.out.apart.2.2.1
               have ROW := Lib.hid (hTB.out.f.drew)
               go_region_law (refine step_append_vr (W := wr.drew) (by rfl) (.tmp 147) (.tmp 155) 64 55 7 12 _ Tryz.underlying64 (by rfl) infoF rfl (by decide) (by decide) (.slice AU L.length cU) L.length (SK.flatL encF L) 1 #[.int .u8 q.m0, .int .u8 q.m1, .int .u8 q.m2, .int .u8 q.m3, .int .u8 q.m4, .int .u8 q.m5, .int .u32 u] (by rfl) ROW.out (by rfl) (by rfl) (by simp [Value.oneCell']) (by omega) ?_
                              intro A5 c5' w5 v5 t5 o5
                              have k1 := cell_touch t5 (show wr.drew.cell? ⟨b3, 2, none⟩ = _ from d2) hn1
                              have e1 := frozen_touch t5 (show wr.drew.cell? ⟨b3, 2, none⟩ = _ from d2) (show wr.drew.frozen? ⟨b3, 2, none⟩ = false from th_frozen hTB.out.blk 2) hn1
                              have V5 := Lib.hid v5
                              have T5 := Lib.hid t5
                              have O5 := Lib.hid o5
                              clear v5 t5 o5)
               all_goals
                 clear k1 e1 ca0
                 go_wp2
                 go_meet
                 case rel =>
                   obtain ⟨g1, g2, g3⟩ := hTB.out.newF (L := L ++ [(⟨q, u⟩ : FdE)]) (((Touch.refl (Value.slice AU L.length cU).ownBlock.toList wr).drew).trans T5.out (fun x hx => .inl hx)) (by rw [List.length_append, flat_app, flat_one]; exact V5.out) (by rcases O5.out with h | ⟨b, h1, h2⟩; exact .inl h; exact .inr ⟨b, h1, h2⟩)
                   have hge : b3 ≤ W1.heap.size := Nat.le_of_lt (Array.getElem?_eq_some_iff.1 X3.out).1
                   refine ⟨rfl, _, Lib.hid g1, Lib.hid (fun x hx => ?_), Lib.hid (hT.out.trans g2 (fun x hx => ?_))⟩
                   · rcases g3 x hx with h | h
                     · exact hF.out x h
                     · exact Nat.le_trans (Nat.le_trans hge hT.out.size) h
                   · have h1 := hF.out x hx
                     by_cases e : x = b3
                     · exact .inl (by simp [e])
                     · exact .inr (by have h2 := X3size.out; omega)
              case rest =>
                obtain ⟨rfl, U', hTB', hF', hT'⟩ := hcut
                obtain ⟨n, hn⟩ : ∃ n, n = (L ++ [(⟨q, u⟩ : FdE)]).length := ⟨_, rfl⟩
                have HN := Lib.hid hn
                obtain ⟨A', c', hU'⟩ := hTB'.out.f.form
                rw [← hn] at hU'
                subst hU'
                have hnl : n = L.length + 1 := by rw [hn]; simp
                have HNL := Lib.hid hnl
                clear hn hnl c2 d2 m0 m1 m2 m3 m4 m5 m6 hgl
                go_wp2_with fail
                go_loopg [11] (L.length + 1) (fun kj v11 wr2 => ∃ (j : Nat) (T : List FdE), v11 = .int .i64 j ∧ j ≤ L.length ∧ j + 1 ≤ kj ∧ Hid (TabAt wr2 b3 U0 U1 (.slice A' n c') L0 L1 T) ∧ Hid (T.Perm (L ++ [(⟨q, u⟩ : FdE)])) ∧ Hid (Going ltFd T j ⟨q, u⟩) ∧ Hid (Touch [b3] W1 wr2))
                case atStart => exact ⟨L.length, L ++ [(⟨q, u⟩ : FdE)], rfl, Nat.le_refl _, Nat.le_refl _, hTB', Lib.hid (List.Perm.refl _), Lib.hid (Going.start hSP.out.2 _), hT'⟩
                case round =>
                  obtain ⟨j, T, rfl, hj, hjk, hTT, hPM, hGO, hT2⟩ := hrel
                  have HTL : Hid (T.length = n) := Lib.hid (by rw [hPM.out.length_eq, HN.out])
                  obtain ⟨d0, d1, d2⟩ := th3 hTT.out.blk
                  cases j with
                  | zero =>
                    have HST := Lib.hid (hGO.out.stop ltFd_irr ltFd_nt (.inl rfl))
                    clear d0 d1 d2
                    go_wp2
                    go_quiet (fail)
                    go_wp2
                    go_roundg (s.e.length - L.length)
                    case rel => exact ⟨L.length + 1, .slice A' n c', T, by simp, by omega, by omega, Lib.hid (hTT.out.kept ((Touch.refl [] wr).drewN nq) (by simp)), Lib.hid ⟨hPM.out.trans (by rw [take_next HX.out]; exact hSP.out.1.append_right _), HST.out⟩, hF', Lib.hid (hT2.out.drewN nq)⟩
                    case measure => omega
                  | succ k =>
                    obtain ⟨gx, hkl⟩ := hGO.out.get
                    have HGX := Lib.hid gx
                    obtain ⟨⟨y, yv⟩, hy⟩ : ∃ y, T[k]? = some y := ⟨T[k]'(by omega), List.getElem?_eq_getElem _⟩
                    obtain ⟨g2, c2, hV, _, _, hc, hfz⟩ := hTT.out.f.getAt encF_len gx
                    have m0 := hc 0 _ rfl
                    rw [Nat.add_zero] at m0
                    have m1 := hc 1 _ rfl
                    have m2 := hc 2 _ rfl
                    have m3 := hc 3 _ rfl
                    have m4 := hc 4 _ rfl
                    have m5 := hc 5 _ rfl
                    have m6 := hc 6 _ rfl
                    obtain ⟨g3, c3, hV3, _, _, hc, _⟩ := hTT.out.f.getAt encF_len hy
                    have p0 := hc 0 _ rfl
                    rw [Nat.add_zero] at p0
                    have p1 := hc 1 _ rfl
                    have p2 := hc 2 _ rfl
                    have p3 := hc 3 _ rfl
                    have p4 := hc 4 _ rfl
                    have p5 := hc 5 _ rfl
                    have p6 := hc 6 _ rfl
                    have hV4 := hV3
                    rw [hV] at hV4
                    simp only [Value.slice.injEq, Option.some.injEq, Addr.mk.injEq, true_and, and_true] at hV4
                    obtain ⟨rfl, rfl⟩ := hV4
                    simp only [Value.slice.injEq, true_and] at hV
                    obtain ⟨rfl, hnT, rfl⟩ := hV
                    dsimp only at m0 m1 m2 m3 m4 m5 m6 p0 p1 p2 p3 p4 p5 p6
                    have hkn : (k : Int) + 1 < (n : Int) := by omega
                    have hkn0 : (k : Int) < (n : Int) := by omega
                    have hp0 : (0 : Int) ≤ (k : Int) + 1 := by omega
                    have hp2 : ((k : Int) + 1).toNat = k + 1 := by omega
                    have hp3 : (0 : Int) < (k : Int) + 1 := by omega
                    have HY := Lib.hid hy
                    have HKL := Lib.hid hkl
                    have hqw : q.wf := (HG.out.e _ (List.mem_of_getElem? HX.out)).1
                    have hyw : y.wf := by
                      have h1 := hPM.out.mem_iff.1 (List.mem_of_getElem? hy)
                      rcases List.mem_append.1 h1 with h | h
                      · have h2 := hSP.out.1.mem_iff.1 h
                        exact (HG.out.e _ (List.mem_of_mem_take h2)).1
                      · simp at h
                        rw [h.1]
                        exact hqw
                    have x0 := fun u : Near wr => u.cell m0
                    have x1 := fun u : Near wr => u.cell m1
                    have x2 := fun u : Near wr => u.cell m2
                    have x3 := fun u : Near wr => u.cell m3
                    have x4 := fun u : Near wr => u.cell m4
                    have x5 := fun u : Near wr => u.cell m5
                    have y0 := fun u : Near wr => u.cell p0
                    have y1 := fun u : Near wr => u.cell p1
                    have y2 := fun u : Near wr => u.cell p2
                    have y3 := fun u : Near wr => u.cell p3
                    have y4 := fun u : Near wr => u.cell p4
                    have y5 := fun u : Near wr => u.cell p5
                    have z0 := fun u : Near wr => u.cell d2
                    clear hV3 hc hy gx hkl d0 d1
                    by_cases hlt2 : ltFd ⟨q, u⟩ ⟨y, yv⟩
                    · obtain ⟨cv, hcv⟩ : ∃ cv, cv = cmpV q y := ⟨_, rfl⟩
                      have HC := Lib.hid (fun w : Near wr => rcmp_near w q y hqw hyw)
                      have hdl : decide (cv < 0) = true := by rw [hcv, decide_eq_true_eq, cmpV_lt]; exact hlt2
                      rw [← hcv] at HC
                      clear hcv
                      have HLT := Lib.hid hlt2
                      clear hlt2
                      go_wp2
                      refine wp_region_near (by kernel_rfl) (by kernel_rfl) ?_
                      repeat (go_big_quiet_step ((go_at_call 69; exact HC.out _)))
                      refine wpQuiet_nil ?_
                      rintro _ ⟨u2, rfl⟩
                      have TN := Lib.hid u2.near
                      clear HC hdl hqw hyw x0 x1 x2 x3 x4 x5 y0 y1 y2 y3 y4 y5 z0 m0 m1 m2 m3 m4 m5 m6 p0 p1 p2 p3 p4 p5 p6 hfz d2
                      obtain ⟨W3, hW3⟩ : ∃ W3 : World, W3 = u2.w := ⟨_, rfl⟩
                      rw [← hW3] at TN ⊢
                      clear hW3 u2
                      have HT3 := Lib.hid (hTT.out.kept TN.out (by simp))
                      obtain ⟨_, _, hV, _, _, hc, hfz⟩ := HT3.out.f.getAt encF_len HGX.out
                      simp only [Value.slice.injEq, Option.some.injEq, Addr.mk.injEq, true_and, and_true] at hV
                      obtain ⟨rfl, _, rfl⟩ := hV
                      have m0 := hc 0 _ rfl
                      rw [Nat.add_zero] at m0
                      have m1 := hc 1 _ rfl
                      have m2 := hc 2 _ rfl
                      have m3 := hc 3 _ rfl
                      have m4 := hc 4 _ rfl
                      have m5 := hc 5 _ rfl
                      have m6 := hc 6 _ rfl
                      dsimp only at m0 m1 m2 m3 m4 m5 m6
                      obtain ⟨_, _, d2⟩ := th3 HT3.out.blk
                      go_upto_region 30 with (fail)
                      obtain ⟨W4, hW4⟩ : ∃ W4 : World, W4 = W3.alloc (.cells #[.int .u8 q.m0, .int .u8 q.m1, .int .u8 q.m2, .int .u8 q.m3, .int .u8 q.m4, .int .u8 q.m5, .int .u32 u] 55) := ⟨_, rfl⟩
                      rw [← hW4]
                      have t4 : Touch [] W3 W4 := by rw [hW4]; exact (Touch.refl [] W3).alloc _
                      obtain ⟨r6, hr6⟩ : ∃ r6, r6 = W3.heap.size := ⟨_, rfl⟩
                      have R6 := Lib.hid (show W4.heap[r6]? = some (.cells #[.int .u8 q.m0, .int .u8 q.m1, .int .u8 q.m2, .int .u8 q.m3, .int .u8 q.m4, .int .u8 q.m5, .int .u32 u] 55 (0, 0)) by rw [hW4, hr6]; exact box_at _ _)
                      have T4 := Lib.hid (TN.out.trans t4 (by simp))
                      have HT4 := Lib.hid (HT3.out.kept t4 (by simp))
                      have HR6 := Lib.hid (show r6 ∉ [g2] from fun hx => by
                        have h1 := HT3.out.lt g2 (by simp [tfoot, Value.ownBlock])
                        simp at hx
                        omega)
                      rw [← hr6]
                      clear hW4 t4 hr6 m0 m1 m2 m3 m4 m5 m6 hc hfz d2 HT3 TN
                      obtain ⟨_, _, hV, _, _, hc, hfz⟩ := HT4.out.f.getAt encF_len HGX.out
                      simp only [Value.slice.injEq, Option.some.injEq, Addr.mk.injEq, true_and, and_true] at hV
                      obtain ⟨rfl, _, rfl⟩ := hV
                      have m0 := hc 0 _ rfl
                      rw [Nat.add_zero] at m0
                      have m1 := hc 1 _ rfl
                      have m2 := hc 2 _ rfl
                      have m3 := hc 3 _ rfl
                      have m4 := hc 4 _ rfl
                      have m5 := hc 5 _ rfl
                      have m6 := hc 6 _ rfl
                      dsimp only at m0 m1 m2 m3 m4 m5 m6
                      obtain ⟨_, _, hV, _, _, hc, _⟩ := HT4.out.f.getAt encF_len HY.out
                      simp only [Value.slice.injEq, Option.some.injEq, Addr.mk.injEq, true_and, and_true] at hV
                      obtain ⟨rfl, _, rfl⟩ := hV
                      have p0 := hc 0 _ rfl
                      rw [Nat.add_zero] at p0
                      have p1 := hc 1 _ rfl
                      have p2 := hc 2 _ rfl
                      have p3 := hc 3 _ rfl
                      have p4 := hc 4 _ rfl
                      have p5 := hc 5 _ rfl
                      have p6 := hc 6 _ rfl
                      dsimp only at p0 p1 p2 p3 p4 p5 p6
                      obtain ⟨_, _, d2⟩ := th3 HT4.out.blk
                      go_region
                      rw [cells7]
                      have hk1 : k + 1 < T.length := HKL.out
                      have row := VRow.setAtN encF_len HTL.out HT4.out.f hk1 ⟨y, yv⟩
                      have ts := touch_setCells g2 (encF ⟨y, yv⟩) ((k + 1) * 7) W4
                      rw [show [Value.int .u8 y.m0, Value.int .u8 y.m1, Value.int .u8 y.m2, Value.int .u8 y.m3, Value.int .u8 y.m4, Value.int .u8 y.m5, Value.int .u32 yv] = encF ⟨y, yv⟩ from rfl]
                      obtain ⟨W5, hW5⟩ : ∃ W5 : World, W5 = W4.setCells g2 ((k + 1) * 7) (encF ⟨y, yv⟩) := ⟨_, rfl⟩
                      rw [← hW5] at row ts ⊢
                      clear hW5 m0 m1 m2 m3 m4 m5 m6 p0 p1 p2 p3 p4 p5 p6 d2 hc hfz
                      have HT5 := Lib.hid (HT4.out.sameF ts (L := T.set (k + 1) ⟨y, yv⟩) row)
                      have R7 := Lib.hid (touch_box ts R6.out HR6.out)
                      have T5 := Lib.hid ((T4.out.mono (by simp)).trans ts (fun x hx => .inl hx))
                      clear row ts HT4 R6 T4
                      obtain ⟨s0, s1, s2, s3, s4, s5, s6⟩ := seven_cells R7.out
                      obtain ⟨_, _, d2⟩ := th3 HT5.out.blk
                      have hgy : (T.set (k + 1) ⟨y, yv⟩)[k]? = some ⟨y, yv⟩ := by rw [List.getElem?_set_ne (by omega)]; exact HY.out
                      obtain ⟨_, _, hV, _, _, hc, hfz⟩ := HT5.out.f.getAt encF_len hgy
                      simp only [Value.slice.injEq, Option.some.injEq, Addr.mk.injEq, true_and, and_true] at hV
                      obtain ⟨rfl, _, rfl⟩ := hV
                      have p0 := hc 0 _ rfl
                      rw [Nat.add_zero] at p0
                      have p1 := hc 1 _ rfl
                      have p2 := hc 2 _ rfl
                      have p3 := hc 3 _ rfl
                      have p4 := hc 4 _ rfl
                      have p5 := hc 5 _ rfl
                      have p6 := hc 6 _ rfl
                      dsimp only at p0 p1 p2 p3 p4 p5 p6
                      clear hc hgy
                      go_wp2
                      rw [cells7]
                      rw [show [Value.int .u8 q.m0, Value.int .u8 q.m1, Value.int .u8 q.m2, Value.int .u8 q.m3, Value.int .u8 q.m4, Value.int .u8 q.m5, Value.int .u32 u] = encF ⟨q, u⟩ from rfl]
                      have hk2 : k < (T.set (k + 1) ⟨y, yv⟩).length := by rw [List.length_set]; omega
                      have row := VRow.setAtN encF_len (by rw [List.length_set]; exact HTL.out) HT5.out.f hk2 ⟨q, u⟩
                      have ts := touch_setCells g2 (encF ⟨q, u⟩) (k * 7) W5
                      obtain ⟨W6, hW6⟩ : ∃ W6 : World, W6 = W5.setCells g2 (k * 7) (encF ⟨q, u⟩) := ⟨_, rfl⟩
                      rw [← hW6] at row ts ⊢
                      clear hW6 p0 p1 p2 p3 p4 p5 p6 d2 hfz s0 s1 s2 s3 s4 s5 s6
                      have HT6 := Lib.hid (TabAt.kept (HT5.out.sameF ts row) (Touch.refl [] W6).drew (by simp))
                      obtain ⟨GD, GP⟩ := hGO.out.down HY.out HLT.out
                      have T6 := Lib.hid (T5.out.trans ts.drew (fun x hx => .inl hx))
                      have HGB := Lib.hid (hF'.out g2 (by simp [tfoot, Value.ownBlock]))
                      go_roundg (k + 1)
                      case rel => exact ⟨k, _, rfl, by omega, by omega, HT6, Lib.hid (GP.trans hPM.out), Lib.hid GD, Lib.hid (hT2.out.trans T6.out (fun x hx => by
                        simp at hx
                        by_cases e : x = b3
                        · exact .inl (by simp [e])
                        · exact .inr (by have h1 := HGB.out; have h2 := X3size.out; omega)))⟩
                      case measure => omega
                    · obtain ⟨cv, hcv⟩ : ∃ cv, cv = cmpV q y := ⟨_, rfl⟩
                      have HC := Lib.hid (fun w : Near wr => rcmp_near w q y hqw hyw)
                      have hdl : decide (cv < 0) = false := by rw [hcv, decide_eq_false_iff_not, cmpV_lt]; exact hlt2
                      rw [← hcv] at HC
                      clear hcv
                      have HST := Lib.hid (hGO.out.stop ltFd_irr ltFd_nt (.inr ⟨k, ⟨y, yv⟩, rfl, HY.out, hlt2⟩))
                      clear hlt2
                      go_wp2
                      refine wp_region_near (by kernel_rfl) (by kernel_rfl) ?_
                      repeat (go_big_quiet_step ((go_at_call 69; exact HC.out _)))
                      refine wpQuiet_nil ?_
                      rintro _ ⟨u2, rfl⟩
                      have TN := Lib.hid u2.near
                      clear HC hdl hqw hyw x0 x1 x2 x3 x4 x5 y0 y1 y2 y3 y4 y5 z0
                      go_wp2
                      go_roundg (s.e.length - L.length)
                      case rel => exact ⟨L.length + 1, _, T, by simp, by omega, by omega, Lib.hid (hTT.out.kept TN.out (by simp)), Lib.hid ⟨hPM.out.trans (by rw [take_next HX.out]; exact hSP.out.1.append_right _), HST.out⟩, hF', Lib.hid (hT2.out.trans TN.out (by simp))⟩
                      case measure => omega
            · have b1 : ¬ (L.length : Int) < (s.e.length : Int) := by omega
              have hll : L.length = s.e.length := by omega
              have SPF := Lib.hid (show SortP ltFd L s.e by have h1 := hSP.out; rw [hll, List.take_length] at h1; exact h1)
              clear hll
              have XB := Lib.hid (touch_box hT.out X2.out (by have := HB3.out; simp; omega))
              go_wp2_with (refine wpList_store_row (by rfl) 66 (.tmp 2) (.tmp 201) (by rfl) b2 #[U0, U1, .slice AU L.length cU] (by rfl) (by rfl) 66 _ XB.out infoT (by rfl) (one_three hTB.out) ?_)
              refine bodyPost_ret (results_c fun44 _ _ b2 66 #[U0, U1, .slice AU L.length cU] (0, 0) _ rfl (setRow_heap _ _ _ _ _ _ XB.out) rfl Tryz.underlying66 (by kernel_rfl)) rfl ?_
              have tR := touch_row wr b2 #[U0, U1, .slice AU L.length cU]
              have hn2 : ∀ x ∈ tfoot b3 U0 U1 (.slice AU L.length cU), x ∉ [b2] := fun x hx h => by have h1 := hF.out x hx; have h2 := HB3.out; simp at h; omega
              have hTK := hTB.out.kept tR hn2
              refine ⟨_, rfl, ⟨⟨U0, U1, .slice AU L.length cU, L0, L1, L, rfl, hTK.r, hTK.n, hTK.f, fun b hb => ?_, fun b hb => ?_, fun b hb => ?_, SPR.out, SPN.out, SPF.out⟩⟩, TW.out.trans tR (fun x hx => .inr (by simp at hx; have := HB2.out; omega))⟩
              · have h1 := hF.out b (by simp [tfoot, hb]); have h2 := HB3.out; have h3 := HB2.out; omega
              · have h1 := hF.out b (by simp [tfoot, hb]); have h2 := HB3.out; have h3 := HB2.out; omega
              · have h1 := hF.out b (by simp [tfoot] at hb ⊢; simp [hb]); have h2 := HB3.out; have h3 := HB2.out; omega
end Go.Proofs.YtnpeafhjcelpfaaGreat.Tri

