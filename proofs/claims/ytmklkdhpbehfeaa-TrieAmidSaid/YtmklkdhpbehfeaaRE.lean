/- The reference: Put's walk; no condition. -/
import Derived.Test.YtmklkdhpbehfeaaRD
import Derived.WalkLawsBesides
namespace Go.Proofs.Ytmklkdhpbehfeaa.Tri
open Go.RowKit Go.Maps
set_option linter.unusedVariables false

def RPutPost (w : World) (rb : Nat) (V : Value) (l : List Ent) (p : Px) (v : Int) (e : Ending) (w' : World) : Prop :=
  e = .returned (.int .i64 0) ∧ ∃ V' l', RefT w' rb V' l' ∧ PutL l p v l' ∧ Touch (rfoot rb V) w w' ∧ ∀ k ∈ rfoot rb V', k ∈ rfoot rb V ∨ w.heap.size ≤ k
set_option maxHeartbeats 1000000 in
theorem rput_bad {w : World} (tv : Value) (a : Nat) (m v : Int) (ha : a < 4294967296) (h : ¬ okP a m) :
    Calls Try.prog 73 #[tv, .agg #[.int .u32 a, .int .i64 m], .int .i64 v] w fun e w' => e = .returned (.int .i64 11) ∧ Touch [] w w' := by
  have H := Lib.hid h
  clear h
  go_enter Try.func73, Try.ntmps73
  go_wp2_with fail
  refine (rvalid_calls a m _ ha false (by simp [H.out])).mono ?_
  rintro e w' ⟨rfl, ht⟩
  go_wp2
  go_ret
  exact ⟨rfl, ((Touch.refl [] w).alloc _).trans ht (by simp)⟩
theorem close_rput {w wr : World} {rb : Nat} {V : Value} {l L : List Ent} {p : Px} {v : Int} {v8 : Value} (H : RefT w rb V l) (hp : p.ok) (hT : Touch [] w wr) (hL : PutL l p v L) (hV : VRow wr 135 3 v8 L.length (flatE L)) (hB : ∀ b, v8.ownBlock = some b → w.heap.size ≤ b) :
    RefT (wr.setCell ⟨rb, 0, none⟩ v8) rb v8 L ∧ Touch (rfoot rb V) w (wr.setCell ⟨rb, 0, none⟩ v8) ∧ ∀ k ∈ rfoot rb v8, k ∈ rfoot rb V ∨ w.heap.size ≤ k := by
  have hb := touch_box hT H.blk (by simp)
  have hl := H.rb_lt
  refine ⟨⟨?_, hV.kept ((Touch.refl [rb] wr).setCell _ _ (.inl (by simp))) (fun k hk => by simp; rintro rfl; exact absurd (hB _ hk) (by omega)), fun e he => ?_⟩, (hT.mono (by simp)).setCell _ _ (.inl (by simp [rfoot])), fun k hk => ?_⟩
  · have := box_set (o := 0) hb v8
    simpa using this
  · rcases (hL.2 e.1 e.2).1 he with ⟨h, _⟩ | ⟨_, h⟩
    · rw [h]; exact hp
    · exact H.oks _ h
  · simp [rfoot] at hk ⊢
    rcases hk with h | h
    · exact .inl (.inl h)
    · exact .inr (hB k h)
set_option maxHeartbeats 4000000 in
set_option maxRecDepth 100000 in
theorem rput_calls {w : World} {rb : Nat} {V : Value} {l : List Ent} (h : RefT w rb V l) (hs : Sorted l) (p : Px) (v : Int) (hp : p.ok) (hlen : l.length < 4000000000000) :
    Calls Try.prog 73 #[.pointer (some ⟨rb, 0, none⟩), .agg #[.int .u32 p.a, .int .i64 p.n], .int .i64 v] w (RPutPost w rb V l p v) := by
  have H := Lib.hid h
  have HP := Lib.hid hp
  have HS := Lib.hid hs
  have hpa := hp.2.1
  have hrb := h.rb_lt
  have HRB := Lib.hid hrb
  clear h hp hs hrb
  go_enter Try.func73, Try.ntmps73
  go_wp2_with fail
  refine (rvalid_calls p.a p.n _ hpa true (by simp only [true_iff]; exact ⟨by omega, by simpa using HP.out⟩)).mono ?_
  rintro e w1 ⟨rfl, ht⟩
  have T1 := Lib.hid (((Touch.refl [] w).alloc (.cells #[.int .u32 p.a, .int .i64 p.n] 32)).trans ht (by simp))
  have X1 := Lib.hid (touch_box ht (box_at w (.cells #[.int .u32 p.a, .int .i64 p.n] 32)) (by simp))
  clear ht
  obtain ⟨d0, d1, _⟩ := two_cells X1.out
  go_wp2_with fail
  refine (rfind_calls (H.out.kept T1.out (by simp)) p (by omega)).mono ?_
  rintro e w2 ⟨r, rfl, hr, t2⟩
  have T2 := Lib.hid (T1.out.trans t2 (by simp))
  have X2 := Lib.hid (touch_box t2 X1.out (by simp))
  clear t2 d0 d1 T1 X1
  rcases hr with ⟨rfl, hno⟩ | ⟨k, u, rfl, hk⟩
  · have HN := Lib.hid hno
    clear hno
    go_wp2
    go_loopw [8, 9, 10] (fun v8 v9 v10 wr => ∃ (j : Nat) (d : Bool) (L : List Ent), v9 = .bool d ∧ v10 = .int .i64 j ∧ j ≤ l.length ∧ Hid (InsAt l p v j d L) ∧ Hid (VRow wr 135 3 v8 L.length (flatE L)) ∧ Hid (∀ b, v8.ownBlock = some b → w2.heap.size ≤ b) ∧ Hid (Touch [] w2 wr)) (fun _ _ v10 _ => l.length - (intOf v10).toNat)
    case atStart => exact ⟨0, false, [], rfl, rfl, Nat.zero_le _, Lib.hid (InsAt.start l p v), Lib.hid (VRow.nil _ _ _), Lib.hid (by simp [Value.ownBlock]), Lib.hid (Touch.refl _ _)⟩
    case round =>
      obtain ⟨j, d, L, rfl, rfl, hj, hI, hV, hB, hT⟩ := hrel
      obtain ⟨A8, c8, hv8⟩ := hV.out.form
      subst hv8
      have HR := Lib.hid (H.out.kept (T2.out.trans hT.out (by simp)) (by simp))
      have HLL := Lib.hid hI.out.len
      obtain ⟨AV, cV, hVe⟩ := HR.out.row.form
      subst hVe
      obtain ⟨cb, _, fb⟩ : wr.cell? ⟨rb, 0, none⟩ = some (.slice AV l.length cV) ∧ True ∧ wr.frozen? ⟨rb, 0, none⟩ = false := ⟨(one_cells HR.out.blk).1, trivial, (one_cells HR.out.blk).2⟩
      by_cases hlt : j < l.length
      · have b1 : (j : Int) < (l.length : Int) := by omega
        obtain ⟨⟨q, u⟩, hx⟩ : ∃ x, l[j]? = some x := ⟨_, List.getElem?_eq_getElem hlt⟩
        obtain ⟨g, c, hVV, hgl, m0, m1, m2, _⟩ := HR.out.cell j _ hx
        injection hVV with hV1 hV2 hV3
        subst hV1 hV3
        dsimp only at m0 m1 m2
        obtain ⟨d0, d1, _⟩ := two_cells (touch_box hT.out X2.out (by simp))
        have HX := Lib.hid hx
        clear hx hV2 hlt
        obtain ⟨W3, hW3⟩ : ∃ W3 : World, W3 = wr.alloc (.cells #[.int .u32 q.a, .int .i64 q.n] 32) := ⟨_, rfl⟩
        have T3 := Lib.hid (show Touch [] wr W3 by rw [hW3]; exact (Touch.refl [] wr).alloc _)
        obtain ⟨y0, y1, _⟩ := two_cells (show W3.heap[wr.heap.size]? = some (.cells #[.int .u32 q.a, .int .i64 q.n] 32 (0, 0)) by rw [hW3]; exact box_at wr _)
        have cb3 := cell_touch T3.out cb (by simp)
        have m03 := cell_touch T3.out m0 (by simp)
        have m13 := cell_touch T3.out m1 (by simp)
        have m23 := cell_touch T3.out m2 (by simp)
        have d03 := cell_touch T3.out d0 (by simp)
        have d13 := cell_touch T3.out d1 (by simp)
        have R3 := Lib.hid (hV.out.kept T3.out (by simp))
        have TX3 := Lib.hid (hT.out.trans T3.out (by simp))

        cases d with
        | true =>
          have HI := Lib.hid (hI.out.skip HX.out)
          clear hI
          subst hW3
          go_wp2_with (at_builtin; refine wpList_append_en (by rfl) (.tmp 74) (.tmp 82) (by rfl) (.slice A8 L.length c8) L (q, u) (by rfl) R3.out (by first | rfl | (rw [World.size_alloc]; rfl) | (simp only [World.size_alloc]; rfl)) (by have := HLL.out; omega) ?_
                       intro A' c' w' r t o
                       have R := Lib.hid r
                       have K := Lib.hid t
                       have O := Lib.hid o
                       clear r t o)
          go_roundw
          case rel => exact ⟨j + 1, true, L ++ [(q, u)], rfl, by go_num, by omega, Lib.hid (HI.out), Lib.hid R.out, Lib.hid (fun b hb => by rcases O.out with o | ⟨b', o, hb'⟩ <;> rw [o] at hb; exact hB.out b hb; cases hb; exact Nat.le_trans TX3.out.size hb'), Lib.hid (TX3.out.trans K.out (fun x hx => .inr (hB.out x (by simpa using hx))))⟩
          case measure => simp [intOf]; omega
        | false =>
          have hNB : ∀ k, k < w2.heap.size → k ∉ (Value.slice A8 L.length c8).ownBlock.toList := fun k hk hx => by have := hB.out k (by simpa using hx); omega
          have hNW : wr.heap.size ∉ (Value.slice A8 L.length c8).ownBlock.toList := fun hx => Nat.lt_irrefl _ (hV.out.lt _ (by simpa using hx))
          have hrb2 : rb < w2.heap.size := Nat.lt_of_lt_of_le HRB.out T2.out.size
          have hg2 : g < w2.heap.size := Nat.lt_of_lt_of_le (H.out.row.lt g rfl) T2.out.size
          have hw2 : w.heap.size < w2.heap.size := (Array.getElem?_eq_some_iff.1 X2.out).1
          by_cases a1 : p.a < q.a
          · have a1i : (p.a : Int) < (q.a : Int) := by omega
            have a1d : decide ((p.a : Int) < (q.a : Int)) = true := by rw [decide_eq_true_eq]; omega
            have HPL : Hid (plt p (q, u).1) := Lib.hid (.inl a1)
            have HI := Lib.hid (hI.out.here HX.out HPL.out)
            clear hI
            subst hW3
            go_wp2_with (first | (at_builtin; refine wpList_append_en (by rfl) (.tmp 68) (.tmp 72) (by rfl) (.slice A8 L.length c8) L (p, v) (by rfl) R3.out (by first | rfl | (rw [World.size_alloc]; rfl) | (simp only [World.size_alloc]; rfl)) (by have := HLL.out; omega) ?_; intro A' c' w' r t o; have R := Lib.hid r; have K := Lib.hid t; have O := Lib.hid o; have cb4 := cell_touch t cb3 (hNB _ hrb2); have m04 := cell_touch t m03 (hNB _ hg2); have m14 := cell_touch t m13 (hNB _ hg2); have m24 := cell_touch t m23 (hNB _ hg2); clear r t o) | (at_builtin; refine wpList_append_en (by rfl) (.tmp 74) (.tmp 82) (by rfl) (.slice A' (L.length + 1) c') (L ++ [(p, v)]) (q, u) (by rfl) R.out (by first | rfl | (rw [World.size_alloc]; rfl) | (simp only [World.size_alloc]; rfl)) (by have := HLL.out; simp; omega) ?_; intro A2 c2 w5 r2 t2 o2; have R2 := Lib.hid r2; have K2 := Lib.hid t2; have O2 := Lib.hid o2; clear r2 t2 o2))
            have hB1 : ∀ b, (Value.slice A' (L.length + 1) c').ownBlock = some b → w2.heap.size ≤ b := fun b hb => by rcases O.out with o | ⟨b', o, hb'⟩ <;> rw [o] at hb; exact hB.out b hb; cases hb; exact Nat.le_trans TX3.out.size hb'
            have TK := TX3.out.trans K.out (fun x hx => .inr (hB.out x (by simpa using hx)))
            have TY := TK.trans K2.out (fun x hx => .inr (hB1 x (by simpa using hx)))
            have hB2 : ∀ b, (Value.slice A2 ((L ++ [(p, v)]).length + 1) c2).ownBlock = some b → w2.heap.size ≤ b := fun b hb => by rcases O2.out with o | ⟨b', o, hb'⟩ <;> rw [o] at hb; exact hB1 b hb; cases hb; exact Nat.le_trans TK.size hb'
            have HB2 := Lib.hid hB2
            have TYH := Lib.hid TY
            clear hB1 hB2 TK TY
            have eLL : (L ++ [(p, v)]).length = L.length + 1 := by simp
            rw [eLL] at R2 HB2
            go_roundw
            case rel => exact ⟨j + 1, true, (L ++ [(p, v)]) ++ [(q, u)], rfl, by go_num, by omega, Lib.hid HI.out, Lib.hid R2.out, HB2, TYH⟩
            case measure => simp [intOf]; omega
          · by_cases a2 : q.a = p.a
            · by_cases a3 : p.n < q.n
              · have a1d : decide (p.a < q.a) = false := by rw [decide_eq_false_iff_not]; exact a1
                have a2d : ((q.a : Int) == (p.a : Int)) = true := by rw [beq_iff_eq]; omega
                have a3i : (p.n : Int) < (q.n : Int) := by omega
                have HPL : Hid (plt p (q, u).1) := Lib.hid (.inr ⟨a2.symm, a3⟩)
                clear a2
                have HI := Lib.hid (hI.out.here HX.out HPL.out)
                clear hI
                subst hW3
                go_wp2_with (first | (at_builtin; refine wpList_append_en (by rfl) (.tmp 68) (.tmp 72) (by rfl) (.slice A8 L.length c8) L (p, v) (by rfl) R3.out (by first | rfl | (rw [World.size_alloc]; rfl) | (simp only [World.size_alloc]; rfl)) (by have := HLL.out; omega) ?_; intro A' c' w' r t o; have R := Lib.hid r; have K := Lib.hid t; have O := Lib.hid o; have cb4 := cell_touch t cb3 (hNB _ hrb2); have m04 := cell_touch t m03 (hNB _ hg2); have m14 := cell_touch t m13 (hNB _ hg2); have m24 := cell_touch t m23 (hNB _ hg2); clear r t o) | (at_builtin; refine wpList_append_en (by rfl) (.tmp 74) (.tmp 82) (by rfl) (.slice A' (L.length + 1) c') (L ++ [(p, v)]) (q, u) (by rfl) R.out (by first | rfl | (rw [World.size_alloc]; rfl) | (simp only [World.size_alloc]; rfl)) (by have := HLL.out; simp; omega) ?_; intro A2 c2 w5 r2 t2 o2; have R2 := Lib.hid r2; have K2 := Lib.hid t2; have O2 := Lib.hid o2; clear r2 t2 o2))
                have hB1 : ∀ b, (Value.slice A' (L.length + 1) c').ownBlock = some b → w2.heap.size ≤ b := fun b hb => by rcases O.out with o | ⟨b', o, hb'⟩ <;> rw [o] at hb; exact hB.out b hb; cases hb; exact Nat.le_trans TX3.out.size hb'
                have TK := TX3.out.trans K.out (fun x hx => .inr (hB.out x (by simpa using hx)))
                have TY := TK.trans K2.out (fun x hx => .inr (hB1 x (by simpa using hx)))
                have hB2 : ∀ b, (Value.slice A2 ((L ++ [(p, v)]).length + 1) c2).ownBlock = some b → w2.heap.size ≤ b := fun b hb => by rcases O2.out with o | ⟨b', o, hb'⟩ <;> rw [o] at hb; exact hB1 b hb; cases hb; exact Nat.le_trans TK.size hb'
                have HB2 := Lib.hid hB2
                have TYH := Lib.hid TY
                clear hB1 hB2 TK TY
                have eLL : (L ++ [(p, v)]).length = L.length + 1 := by simp
                rw [eLL] at R2 HB2
                go_roundw
                case rel => exact ⟨j + 1, true, (L ++ [(p, v)]) ++ [(q, u)], rfl, by go_num, by omega, Lib.hid HI.out, Lib.hid R2.out, HB2, TYH⟩
                case measure => simp [intOf]; omega
              · have a1d : decide (p.a < q.a) = false := by rw [decide_eq_false_iff_not]; exact a1
                have a2d : ((q.a : Int) == (p.a : Int)) = true := by rw [beq_iff_eq]; omega
                have a3d : decide (p.n < q.n) = false := by rw [decide_eq_false_iff_not]; exact a3
                have HI := Lib.hid (hI.out.past HX.out (show ¬ plt p q by unfold plt; omega))
                clear hI a2
                subst hW3
                go_wp2_with (at_builtin; refine wpList_append_en (by rfl) (.tmp 74) (.tmp 82) (by rfl) (.slice A8 L.length c8) L (q, u) (by rfl) R3.out (by first | rfl | (rw [World.size_alloc]; rfl) | (simp only [World.size_alloc]; rfl)) (by have := HLL.out; omega) ?_
                             intro A' c' w' r t o
                             have R := Lib.hid r
                             have K := Lib.hid t
                             have O := Lib.hid o
                             clear r t o)
                go_roundw
                case rel => exact ⟨j + 1, false, L ++ [(q, u)], rfl, by go_num, by omega, Lib.hid (HI.out), Lib.hid R.out, Lib.hid (fun b hb => by rcases O.out with o | ⟨b', o, hb'⟩ <;> rw [o] at hb; exact hB.out b hb; cases hb; exact Nat.le_trans TX3.out.size hb'), Lib.hid (TX3.out.trans K.out (fun x hx => .inr (hB.out x (by simpa using hx))))⟩
                case measure => simp [intOf]; omega
            · have a1d : decide (p.a < q.a) = false := by rw [decide_eq_false_iff_not]; exact a1
              have a2d : ((q.a : Int) == (p.a : Int)) = false := by rw [beq_eq_false_iff_ne]; omega
              have HI := Lib.hid (hI.out.past HX.out (show ¬ plt p q by unfold plt; omega))
              clear hI
              subst hW3
              go_wp2_with (at_builtin; refine wpList_append_en (by rfl) (.tmp 74) (.tmp 82) (by rfl) (.slice A8 L.length c8) L (q, u) (by rfl) R3.out (by first | rfl | (rw [World.size_alloc]; rfl) | (simp only [World.size_alloc]; rfl)) (by have := HLL.out; omega) ?_
                           intro A' c' w' r t o
                           have R := Lib.hid r
                           have K := Lib.hid t
                           have O := Lib.hid o
                           clear r t o)
              go_roundw
              case rel => exact ⟨j + 1, false, L ++ [(q, u)], rfl, by go_num, by omega, Lib.hid (HI.out), Lib.hid R.out, Lib.hid (fun b hb => by rcases O.out with o | ⟨b', o, hb'⟩ <;> rw [o] at hb; exact hB.out b hb; cases hb; exact Nat.le_trans TX3.out.size hb'), Lib.hid (TX3.out.trans K.out (fun x hx => .inr (hB.out x (by simpa using hx))))⟩
              case measure => simp [intOf]; omega
      · have b1 : ¬ (j : Int) < (l.length : Int) := by omega
        have hjl : j = l.length := by omega
        subst hjl
        clear hlt
        cases d with
        | true =>
          have HL := Lib.hid (hI.out.done HS.out HN.out)
          clear hI
          go_wp2
          go_ret
          obtain ⟨g1, g2, g3⟩ := close_rput H.out HP.out (T2.out.trans hT.out (by simp)) HL.out hV.out (fun b hb => Nat.le_trans T2.out.size (hB.out b hb))
          exact ⟨rfl, _, L, g1, HL.out, g2, g3⟩
        | false =>
          have HL := Lib.hid (hI.out.last HS.out HN.out)
          clear hI
          obtain ⟨d0, d1, _⟩ := two_cells (touch_box hT.out X2.out (by simp))
          have hNB : rb ∉ (Value.slice A8 L.length c8).ownBlock.toList := fun hx => by have := hB.out rb (by simpa using hx); have := HRB.out; have := T2.out.size; omega
          go_wp2_with (at_builtin; refine wpList_append_en (by rfl) (.tmp 86) (.tmp 90) (by rfl) (.slice A8 L.length c8) L (p, v) (by rfl) hV.out (by first | rfl | (rw [World.size_alloc]; rfl) | (simp only [World.size_alloc]; rfl)) (by have := HLL.out; omega) ?_; intro A' c' w' r t o; have R := Lib.hid r; have K := Lib.hid t; have O := Lib.hid o; have cb4 := cell_touch t cb hNB; have fb4 := frozen_touch t cb fb hNB; clear r t o)
          go_ret
          obtain ⟨g1, g2, g3⟩ := close_rput H.out HP.out ((T2.out.trans hT.out (by simp)).trans K.out (fun x hx => .inr (Nat.le_trans T2.out.size (hB.out x (by simpa using hx))))) HL.out R.out (fun b hb => by
            rcases O.out with o | ⟨b', o, hb'⟩ <;> rw [o] at hb
            · exact Nat.le_trans T2.out.size (hB.out b hb)
            · cases hb; exact Nat.le_trans (Nat.le_trans T2.out.size hT.out.size) hb')
          exact ⟨rfl, _, _, g1, HL.out, g2, g3⟩
  · have HR := Lib.hid (H.out.kept T2.out (by simp))
    obtain ⟨cb, _⟩ := one_cells HR.out.blk
    obtain ⟨g, c, hV, hgl, m0, m1, m2, f2⟩ := HR.out.cell k _ hk
    subst hV
    dsimp only at m2
    have hkl := (List.getElem?_eq_some_iff.1 hk).1
    have b1 : (k : Int) < (l.length : Int) := by omega
    have HK := Lib.hid hk
    clear hk m0 m1
    go_wp2
    go_ret
    exact ⟨rfl, _, _, HR.out.stored HK.out v, put_set HS.out HK.out, (T2.out.mono (by simp)).setCell _ _ (.inl (by simp [rfoot, Value.ownBlock])), fun x hx => .inl hx⟩
end Go.Proofs.Ytmklkdhpbehfeaa.Tri
