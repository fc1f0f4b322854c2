/- The reference: All and Within; no condition. -/
import Derived.Test.YtmklkdhpbehfeaaNB
import Derived.Test.YtmklkdhpbehfeaaRF
namespace Go.Proofs.Ytmklkdhpbehfeaa.Tri
open Go.RowKit Go.Maps
set_option linter.unusedVariables false

def RListPost (w : World) (L : List Ent) (e : Ending) (w' : World) : Prop :=
  ∃ A c, e = .returned (.slice A L.length c) ∧ VRow w' 135 3 (.slice A L.length c) L.length (flatE L) ∧ Touch [] w w' ∧ ∀ b, (Value.slice A L.length c).ownBlock = some b → w.heap.size ≤ b
set_option maxHeartbeats 4000000 in
set_option maxRecDepth 100000 in
theorem rall_calls {w : World} {rb : Nat} {V : Value} {l : List Ent} (h : RefT w rb V l) (hlen : l.length < 4000000000000) :
    Calls Try.prog 63 #[.pointer (some ⟨rb, 0, none⟩)] w (RListPost w l) := by
  obtain ⟨cb, _⟩ := one_cells h.blk
  rcases h.row.own.2 with ⟨rfl, hn⟩ | ⟨g, cap, cur, rfl, hg, hh, hr⟩
  · have h0 : l = [] := by cases l with
      | nil => rfl
      | cons => simp at hn
    subst h0
    clear h
    go_enter Try.func63, Try.ntmps63
    go_wp2
    go_ret
    exact ⟨none, 0, rfl, VRow.nil _ _ _, Touch.refl _ _, by simp [Value.ownBlock]⟩
  · obtain ⟨i0, hi, hz⟩ := Option.map_eq_some_iff.1 infoE
    simp only [Prod.mk.injEq] at hz
    obtain ⟨hz0, hz1, hz2⟩ := hz
    have H := Lib.hid h
    have hcell : ∀ (j : Nat) (u : Value), (flatE l)[j]? = some u → w.cell? ((⟨g, 0, none⟩ : Addr).add j) = some u := fun j u hu => by
      have hj : j < (flatE l).length := (List.getElem?_eq_some_iff.1 hu).1
      have := World.ownsRow.cellAt h.row.own j (by rw [flatE_length] at hj; exact hj)
      simp only [Addr.add, Nat.zero_add]
      split
      · rename_i h0
        subst h0
        exact this.trans hu
      · exact this.trans hu
    have hone : ∀ u ∈ flatE l, u.oneCell' = true := fun u hu => by
      simp only [flatE, List.mem_flatMap] at hu
      obtain ⟨e, _, hu⟩ := hu
      simp at hu
      rcases hu with rfl | rfl | rfl <;> rfl
    clear h hh hr
    go_enter Try.func63, Try.ntmps63
    go_wp2_with (at_builtin
                 refine wpList_append_own_at (P := Try.prog) _ (by rfl) (.const (.slice none 0 0)) (.tmp 6) 131 (by rfl) 0 135 i0 _ 3 24 Try.underlying131 hi hz0 hz1 hz2 rfl (by decide) (.slice none 0 0) 0 [] (by rfl) (World.ownsRow_nil w 0 135 3) ⟨g, 0, none⟩ l.length cap (flatE l) (by rfl) (flatE_length l) hcell hone (by unfold maxLen; omega) (by omega) (Nat.zero_le _) ?_
                 intro V' w' hown hgr _ hat)
    simp only [Nat.zero_add, List.nil_append] at hown
    have hr' : VRow w' 135 3 V' l.length (flatE l) := ⟨hown⟩
    obtain ⟨A', c', hV⟩ := hr'.form
    subst hV
    go_wp2
    go_ret
    refine ⟨A', c', rfl, hr', (Touch.refl [] w).grown hgr (by simp [Value.ownBlock]), fun b hb => ?_⟩
    rcases hat with h1 | h1
    · rw [h1] at hb; cases hb
    · rw [h1] at hb; cases hb; exact Nat.le_refl _
open Classical in
/-- What Within lists. -/
noncomputable def insideR (l : List Ent) (a : Nat) (m : Int) : List Ent := if okP a m then l.filter (fun e => decide (ins e.1 ⟨a, m.toNat⟩)) else []
theorem filter_next {l : List Ent} {i : Nat} {x : Ent} (f : Ent → Bool) (h : l[i]? = some x) : (l.take (i + 1)).filter f = (l.take i).filter f ++ (if f x then [x] else []) := by
  rw [List.take_add_one, h, List.filter_append]
  congr 1
  simp only [Option.toList_some, List.filter_cons, List.filter_nil]
set_option maxHeartbeats 8000000 in
set_option maxRecDepth 100000 in
theorem rwithin_calls {w : World} {rb : Nat} {V : Value} {l : List Ent} (h : RefT w rb V l) (a : Nat) (m : Int) (ha : a < 4294967296) (hlen : l.length < 4000000000000) :
    Calls Try.prog 62 #[.pointer (some ⟨rb, 0, none⟩), .agg #[.int .u32 a, .int .i64 m]] w (RListPost w (insideR l a m)) := by
  by_cases hok : okP a m
  · have hL : Hid (insideR l a m = l.filter (fun e => decide (ins e.1 ⟨a, m.toNat⟩))) := Lib.hid (by unfold insideR; rw [if_pos hok])
    have HOK := Lib.hid hok
    obtain ⟨p, hp⟩ : ∃ p : Px, p = ⟨a, m.toNat⟩ := ⟨_, rfl⟩
    have hpo : p.ok := by rw [hp]; exact hok.2
    have HP := Lib.hid hpo
    have e1 : a = p.a := by rw [hp]
    have e2 : m = (p.n : Int) := by have := hok.1; rw [hp]; simp; omega
    rw [← hp] at hL
    rw [hL.out]
    subst e1
    subst e2
    have H := Lib.hid h
    obtain ⟨A, cap, rfl⟩ := h.row.form
    have hg := guard32
    clear h hok hp hL hpo
    go_enter Try.func62, Try.ntmps62
    go_wp2_with fail
    refine (rvalid_calls p.a p.n _ ha true (by simp only [true_iff]; exact HOK.out)).mono ?_
    rintro e W1 ⟨rfl, t1⟩
    have T1 := Lib.hid (((Touch.refl [] w).alloc (.cells #[.int .u32 p.a, .int .i64 p.n] 32)).trans t1 (by simp))
    have X1 := Lib.hid (touch_box t1 (box_at w (.cells #[.int .u32 p.a, .int .i64 p.n] 32)) (by simp))
    clear t1
    go_wp2
    go_loopw [5, 6] (fun v5 v6 wr => ∃ (j : Nat) (L : List Ent), v6 = .int .i64 j ∧ j ≤ l.length ∧ Hid (L = (l.take j).filter (fun e => decide (ins e.1 p))) ∧ Hid (VRow wr 135 3 v5 L.length (flatE L)) ∧ Hid (∀ b, v5.ownBlock = some b → W1.heap.size ≤ b) ∧ Hid (Touch [] W1 wr)) (fun _ v6 _ => l.length - (intOf v6).toNat)
    case atStart => exact ⟨0, [], rfl, Nat.zero_le _, Lib.hid (by simp), Lib.hid (VRow.nil _ _ _), Lib.hid (by simp [Value.ownBlock]), Lib.hid (Touch.refl _ _)⟩
    case round =>
      obtain ⟨j, L, rfl, hj, hI, hV, hB, hT⟩ := hrel
      obtain ⟨A8, c8, hv8⟩ := hV.out.form
      subst hv8
      have HR := Lib.hid (H.out.kept (T1.out.trans hT.out (by simp)) (by simp))
      obtain ⟨cb, fb⟩ := one_cells HR.out.blk
      have HLL : Hid (L.length ≤ l.length) := Lib.hid (by rw [hI.out]; exact Nat.le_trans (List.length_filter_le _ _) (by rw [List.length_take]; omega))
      by_cases hlt : j < l.length
      · have b1 : (j : Int) < (l.length : Int) := by omega
        obtain ⟨⟨q, u⟩, hx⟩ : ∃ x, l[j]? = some x := ⟨_, List.getElem?_eq_getElem hlt⟩
        obtain ⟨g, c, hV', hgl, m0, m1, m2, _⟩ := HR.out.cell j _ hx
        injection hV' with hV1 hV2 hV3
        subst hV1 hV3
        have hqa := (H.out.oks _ (List.mem_of_getElem? hx)).2.1
        dsimp only at m0 m1 m2 hqa
        have X2 := Lib.hid (touch_box hT.out X1.out (by simp))
        obtain ⟨d0, d1, _⟩ := two_cells X2.out
        have n0 := fun u : Near wr => u.cell m0
        have n1 := fun u : Near wr => u.cell m1
        have n2 := fun u : Near wr => u.cell d0
        have n3 := fun u : Near wr => u.cell d1
        have n4 := fun u : Near wr => u.cell cb
        have HX := Lib.hid hx
        have C0 := Lib.hid m0
        have C1 := Lib.hid m1
        have C2 := Lib.hid m2
        have CB := Lib.hid cb
        clear hx m0 m1 m2 d0 d1 hV2
        by_cases e : ins q p
        · have HD : Hid (true = decide (ins q p)) := Lib.hid (by rw [eq_comm, decide_eq_true_eq]; exact e)
          have HE := Lib.hid e
          clear e
          go_wp2
          refine wp_region_near (by kernel_rfl) (by kernel_rfl) ?_
          repeat (go_big_quiet_step ((go_at_call 81; exact rinside_near _ q p HP.out hqa _ HD.out)))
          refine wpQuiet_nil ?_
          rintro _ ⟨u2, rfl⟩
          have cb2 := u2.cell CB.out
          have m02 := u2.cell C0.out
          have m12 := u2.cell C1.out
          have m22 := u2.cell C2.out
          have R3 := Lib.hid (hV.out.kept u2.near (by simp))
          have TX3 := Lib.hid (hT.out.trans u2.near (by simp))
          clear n0 n1 n2 n3 n4 cb
          obtain ⟨W3, hW⟩ : ∃ W3 : World, W3 = u2.w := ⟨_, rfl⟩
          rw [← hW] at cb2 m02 m12 m22 R3 TX3 ⊢
          clear hW u2
          go_wp2_with (at_builtin; refine wpList_append_en (by rfl) (.tmp 30) (.tmp 38) (by rfl) (.slice A8 L.length c8) L (q, u) (by rfl) R3.out (by first | rfl | (rw [World.size_alloc]; rfl) | (simp only [World.size_alloc]; rfl)) (by have := HLL.out; omega) ?_; intro A' c' w' r t o; have R := Lib.hid r; have K := Lib.hid t; have O := Lib.hid o; clear r t o)
          go_roundw
          case rel => exact ⟨j + 1, L ++ [(q, u)], by go_num, by omega, Lib.hid (by rw [filter_next _ HX.out, ← hI.out, if_pos (decide_eq_true HE.out)]), Lib.hid R.out, Lib.hid (fun b hb => by
            rcases O.out with o | ⟨b', o, hb'⟩ <;> rw [o] at hb
            · exact hB.out b hb
            · cases hb; exact Nat.le_trans TX3.out.size hb'), Lib.hid (TX3.out.trans K.out (fun x hx => .inr (hB.out x (by simpa using hx))))⟩
          case measure => simp [intOf]; omega
        · have HD : Hid (false = decide (ins q p)) := Lib.hid (by rw [eq_comm, decide_eq_false_iff_not]; exact e)
          have HE := Lib.hid e
          clear e
          go_wp2
          refine wp_region_near (by kernel_rfl) (by kernel_rfl) ?_
          repeat (go_big_quiet_step ((go_at_call 81; exact rinside_near _ q p HP.out hqa _ HD.out)))
          refine wpQuiet_nil ?_
          rintro _ ⟨u2, rfl⟩
          clear n0 n1 n2 n3 n4
          go_wp2
          go_roundw
          case rel => exact ⟨j + 1, L, by go_num, by omega, Lib.hid (by rw [filter_next _ HX.out, ← hI.out, if_neg (by simp [HE.out])]; simp), Lib.hid (hV.out.kept u2.near (by simp)), hB, Lib.hid (hT.out.trans u2.near (by simp))⟩
          case measure => simp [intOf]; omega
      · have b1 : ¬ (j : Int) < (l.length : Int) := by omega
        have hjl : j = l.length := by omega
        have HF : Hid (L = l.filter (fun e => decide (ins e.1 p))) := Lib.hid (by rw [hI.out, hjl, List.take_length])
        clear hlt
        go_wp2
        go_ret
        rw [← HF.out]
        exact ⟨A8, c8, rfl, hV.out, T1.out.trans hT.out (by simp), fun b hb => Nat.le_trans T1.out.size (hB.out b hb)⟩
  · have hL : insideR l a m = [] := by unfold insideR; rw [if_neg hok]
    rw [hL]
    have HOK := Lib.hid hok
    obtain ⟨A, cap, rfl⟩ := h.row.form
    clear h hok hL
    go_enter Try.func62, Try.ntmps62
    go_wp2_with fail
    refine (rvalid_calls a m _ ha false (by simp only [Bool.false_eq_true, false_iff]; exact HOK.out)).mono ?_
    rintro e W1 ⟨rfl, t1⟩
    have T1 := Lib.hid (((Touch.refl [] w).alloc (.cells #[.int .u32 a, .int .i64 m] 32)).trans t1 (by simp))
    clear t1
    go_wp2
    go_ret
    exact ⟨none, 0, rfl, VRow.nil _ _ _, T1.out, by simp [Value.ownBlock]⟩
end Go.Proofs.Ytmklkdhpbehfeaa.Tri
