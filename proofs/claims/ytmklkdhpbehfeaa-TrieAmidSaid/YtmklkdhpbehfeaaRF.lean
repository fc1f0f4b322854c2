/- The reference: Del; no condition. -/
import Derived.Test.YtmklkdhpbehfeaaRE
namespace Go.Proofs.Ytmklkdhpbehfeaa.Tri
open Go.RowKit Go.Maps
set_option linter.unusedVariables false

def dropP (l : List Ent) (p : Px) : List Ent := l.filter (fun e => decide (e.1 ≠ p))
theorem dropP_snoc_keep {l : List Ent} {p : Px} {e : Ent} (h : e.1 ≠ p) : dropP (l ++ [e]) p = dropP l p ++ [e] := by simp [dropP, h]
theorem dropP_snoc_drop {l : List Ent} {p : Px} {e : Ent} (h : e.1 = p) : dropP (l ++ [e]) p = dropP l p := by simp [dropP, h]
theorem dropP_len (l : List Ent) (p : Px) : (dropP l p).length ≤ l.length := List.length_filter_le _ _
theorem dropP_mem {l : List Ent} {p q : Px} {u : Int} : (q, u) ∈ dropP l p ↔ q ≠ p ∧ (q, u) ∈ l := by simp [dropP, and_comm]
theorem dropP_sorted {l : List Ent} {p : Px} (h : Sorted l) : Sorted (dropP l p) := List.Pairwise.filter _ h
def RDelPost (w : World) (rb : Nat) (V : Value) (l : List Ent) (p : Px) (e : Ending) (w' : World) : Prop :=
  ((∀ v, (p, v) ∉ l) ∧ e = .returned (.tuple #[.int .i64 0, .int .i64 3]) ∧ Touch [] w w') ∨ ∃ v : Int, (p, v) ∈ l ∧ e = .returned (.tuple #[.int .i64 v, .int .i64 0]) ∧ ∃ V', RefT w' rb V' (dropP l p) ∧ Touch (rfoot rb V) w w' ∧ ∀ k ∈ rfoot rb V', k ∈ rfoot rb V ∨ w.heap.size ≤ k
set_option maxHeartbeats 1000000 in
theorem rdel_bad {w : World} (tv : Value) (a : Nat) (m : Int) (ha : a < 4294967296) (h : ¬ okP a m) :
    Calls Try.prog 74 #[tv, .agg #[.int .u32 a, .int .i64 m]] w fun e w' => e = .returned (.tuple #[.int .i64 0, .int .i64 11]) ∧ Touch [] w w' := by
  have H := Lib.hid h
  clear h
  go_enter Try.func74, Try.ntmps74
  go_wp2_with fail
  refine (rget_bad _ a m ha H.out).mono ?_
  rintro e w' ⟨rfl, ht⟩
  go_wp2
  go_ret2
  exact ⟨rfl, ((Touch.refl [] w).alloc _).trans ht (by simp)⟩
theorem close_rdel {w wr : World} {rb : Nat} {V : Value} {l L : List Ent} {v8 : Value} (H : RefT w rb V l) (hT : Touch [] w wr) (hL : ∀ e ∈ L, e ∈ l) (hV : VRow wr 135 3 v8 L.length (flatE L)) (hB : ∀ b, v8.ownBlock = some b → w.heap.size ≤ b) :
    RefT (wr.setCell ⟨rb, 0, none⟩ v8) rb v8 L ∧ Touch (rfoot rb V) w (wr.setCell ⟨rb, 0, none⟩ v8) ∧ ∀ k ∈ rfoot rb v8, k ∈ rfoot rb V ∨ w.heap.size ≤ k := by
  have hb := touch_box hT H.blk (by simp)
  have hl := H.rb_lt
  refine ⟨⟨?_, hV.kept ((Touch.refl [rb] wr).setCell _ _ (.inl (by simp))) (fun k hk => by simp; rintro rfl; exact absurd (hB _ hk) (by omega)), fun e he => H.oks _ (hL e he)⟩, (hT.mono (by simp)).setCell _ _ (.inl (by simp [rfoot])), fun k hk => ?_⟩
  · have := box_set (o := 0) hb v8
    simpa using this
  · simp [rfoot] at hk ⊢
    rcases hk with h | h
    · exact .inl (.inl h)
    · exact .inr (hB k h)
set_option maxHeartbeats 4000000 in
set_option maxRecDepth 100000 in
theorem rdel_calls {w : World} {rb : Nat} {V : Value} {l : List Ent} (h : RefT w rb V l) (p : Px) (hp : p.ok) (hlen : l.length < 4000000000000) :
    Calls Try.prog 74 #[.pointer (some ⟨rb, 0, none⟩), .agg #[.int .u32 p.a, .int .i64 p.n]] w (RDelPost w rb V l p) := by
  have H := Lib.hid h
  have HP := Lib.hid hp
  have HRB := Lib.hid h.rb_lt
  have hg := guard32
  clear h hp
  go_enter Try.func74, Try.ntmps74
  go_wp2_with fail
  have t0 : Touch [] w (w.alloc (.cells #[.int .u32 p.a, .int .i64 p.n] 32)) := (Touch.refl [] w).alloc _
  refine (rget_calls (H.out.kept t0 (by simp)) p HP.out (by omega)).mono ?_
  rintro e w2 ⟨ht, hh⟩
  have T2 := Lib.hid (t0.trans ht (by simp))
  have X2 := Lib.hid (touch_box ht (box_at w (.cells #[.int .u32 p.a, .int .i64 p.n] 32)) (by simp))
  clear ht t0
  rcases hh with ⟨hn, rfl⟩ | ⟨v, hv, rfl⟩
  · have HN := Lib.hid hn
    clear hn
    go_wp2
    go_ret2
    exact .inl ⟨HN.out, rfl, T2.out⟩
  · have HV := Lib.hid hv
    clear hv
    go_wp2
    go_loopw [8, 9] (fun v8 v9 wr => ∃ (j : Nat) (L : List Ent), v9 = .int .i64 j ∧ j ≤ l.length ∧ Hid (L = dropP (l.take j) p) ∧ Hid (VRow wr 135 3 v8 L.length (flatE L)) ∧ Hid (∀ b, v8.ownBlock = some b → w2.heap.size ≤ b) ∧ Hid (Touch [] w2 wr)) (fun _ v9 _ => l.length - (intOf v9).toNat)
    case atStart => exact ⟨0, [], rfl, Nat.zero_le _, Lib.hid (by simp [dropP]), Lib.hid (VRow.nil _ _ _), Lib.hid (by simp [Value.ownBlock]), Lib.hid (Touch.refl _ _)⟩
    case round =>
      obtain ⟨j, L, rfl, hj, hI, hV, hB, hT⟩ := hrel
      obtain ⟨A8, c8, hv8⟩ := hV.out.form
      subst hv8
      have HR := Lib.hid (H.out.kept (T2.out.trans hT.out (by simp)) (by simp))
      have HLL : Hid (L.length ≤ l.length) := Lib.hid (by rw [hI.out]; exact Nat.le_trans (dropP_len _ _) (by rw [List.length_take]; omega))
      obtain ⟨AV, cV, hVe⟩ := HR.out.row.form
      subst hVe
      obtain ⟨cb, fb⟩ := one_cells HR.out.blk
      by_cases hlt : j < l.length
      · have b1 : (j : Int) < (l.length : Int) := by omega
        obtain ⟨⟨q, u⟩, hx⟩ : ∃ x, l[j]? = some x := ⟨_, List.getElem?_eq_getElem hlt⟩
        obtain ⟨g, c, hVV, hgl, m0, m1, m2, _⟩ := HR.out.cell j _ hx
        injection hVV with hV1 hV2 hV3
        subst hV1 hV3
        dsimp only at m0 m1 m2
        obtain ⟨d0, d1, _⟩ := two_cells (touch_box hT.out X2.out (by simp))
        have n0 := fun u : Near wr => u.cell m0
        have n1 := fun u : Near wr => u.cell m1
        have n2 := fun u : Near wr => u.cell d0
        have n3 := fun u : Near wr => u.cell d1
        have n4 := fun u : Near wr => u.cell cb
        have HX := Lib.hid hx
        have HM := Lib.hid (show wr.cell? ⟨g, j * 3, none⟩ = _ ∧ wr.cell? ⟨g, j * 3 + 1, none⟩ = _ ∧ wr.cell? ⟨g, j * 3 + 1 + 1, none⟩ = _ from ⟨m0, m1, m2⟩)
        clear hx hV2 hlt m0 m1 m2 d0 d1
        by_cases e : q = p
        · have heq := fun w => px_neq q.a q.n p.a p.n true (px_beq e) w
          have HE := Lib.hid e
          clear e
          go_wp2
          refine wp_region_near (by kernel_rfl) (by kernel_rfl) ?_
          repeat (go_big_quiet_step (fail))
          refine wpQuiet_nil ?_
          rintro _ ⟨u2, rfl⟩
          clear n0 n1 n2 n3 n4 heq
          go_wp2
          go_roundw
          case rel => exact ⟨j + 1, L, by go_num, by omega, Lib.hid (by rw [List.take_add_one, HX.out, hI.out]; exact (dropP_snoc_drop HE.out).symm), Lib.hid (hV.out.kept u2.near (by simp)), hB, Lib.hid (hT.out.trans u2.near (by simp))⟩
          case measure => simp [intOf]; omega
        · have heq := fun w => px_neq q.a q.n p.a p.n false (px_bne e) w
          have HE := Lib.hid e
          clear e
          go_wp2
          refine wp_region_near (by kernel_rfl) (by kernel_rfl) ?_
          repeat (go_big_quiet_step (fail))
          refine wpQuiet_nil ?_
          rintro _ ⟨u2, rfl⟩
          have cb2 := n4 u2
          have m02 := n0 u2
          have m12 := n1 u2
          have m22 := u2.cell HM.out.2.2
          have R3 := Lib.hid (hV.out.kept u2.near (by simp))
          have TX3 := Lib.hid (hT.out.trans u2.near (by simp))
          clear n0 n1 n2 n3 n4 heq
          obtain ⟨W3, hW⟩ : ∃ W3 : World, W3 = u2.w := ⟨_, rfl⟩
          rw [← hW] at cb2 m02 m12 m22 R3 TX3 ⊢
          clear hW u2
          go_wp2_with (at_builtin; refine wpList_append_en (by rfl) (.tmp 38) (.tmp 46) (by rfl) (.slice A8 L.length c8) L (q, u) (by rfl) R3.out (by first | rfl | (rw [World.size_alloc]; rfl) | (simp only [World.size_alloc]; rfl)) (by have := HLL.out; omega) ?_; intro A' c' w' r t o; have R := Lib.hid r; have K := Lib.hid t; have O := Lib.hid o; clear r t o)
          go_roundw
          case rel => exact ⟨j + 1, L ++ [(q, u)], by go_num, by omega, Lib.hid (by rw [List.take_add_one, HX.out, hI.out]; exact (dropP_snoc_keep (e := (q, u)) HE.out).symm), Lib.hid R.out, Lib.hid (fun b hb => by
            rcases O.out with o | ⟨b', o, hb'⟩ <;> rw [o] at hb
            · exact hB.out b hb
            · cases hb; exact Nat.le_trans TX3.out.size hb'), Lib.hid (TX3.out.trans K.out (fun x hx => .inr (hB.out x (by simpa using hx))))⟩
          case measure => simp [intOf]; omega
      · have b1 : ¬ (j : Int) < (l.length : Int) := by omega
        have hjl : j = l.length := by omega
        subst hjl
        clear hlt
        have HL : Hid (L = dropP l p) := Lib.hid (by rw [hI.out, List.take_length])
        clear hI
        go_wp2
        go_ret2
        obtain ⟨g1, g2, g3⟩ := close_rdel H.out (T2.out.trans hT.out (by simp)) (fun e he => by rw [HL.out] at he; exact (dropP_mem.1 he).2) hV.out (fun b hb => Nat.le_trans T2.out.size (hB.out b hb))
        rw [HL.out] at g1 g2 g3
        refine .inr ⟨v, HV.out, rfl, _, ?_, ?_, g3⟩
        · rw [HL.out]; exact g1
        · rw [HL.out]; exact g2
end Go.Proofs.Ytmklkdhpbehfeaa.Tri
