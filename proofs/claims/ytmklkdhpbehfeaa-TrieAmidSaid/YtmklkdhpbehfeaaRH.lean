/- The reference: Find; no condition. -/
import Derived.Test.YtmklkdhpbehfeaaPY
namespace Go.Proofs.Ytmklkdhpbehfeaa.Tri
open Go.RowKit Go.Maps
set_option linter.unusedVariables false

/-- The best of the first i entries. -/
def BestE (l : List Ent) (a i : Nat) (r : Int) : Prop :=
  (r = -1 ∧ ∀ j e, j < i → l[j]? = some e → maskOf a e.1.n ≠ e.1.a) ∨ ∃ (k : Nat) (e : Ent), r = (k : Int) ∧ k < i ∧ l[k]? = some e ∧ maskOf a e.1.n = e.1.a ∧ ∀ j e', j < i → l[j]? = some e' → maskOf a e'.1.n = e'.1.a → e'.1.n ≤ e.1.n
theorem BestE.miss {l : List Ent} {a i : Nat} {r : Int} (h : BestE l a i r) {e : Ent} (he : l[i]? = some e) (hn : maskOf a e.1.n ≠ e.1.a) : BestE l a (i + 1) r := by
  rcases h with ⟨h1, h2⟩ | ⟨k, e1, h1, h2, h3, h4, h5⟩
  · refine .inl ⟨h1, fun j x hj hx => ?_⟩
    rcases Nat.lt_or_ge j i with h | h
    · exact h2 j x h hx
    · obtain rfl : j = i := by omega
      rw [he] at hx; cases hx; exact hn
  · refine .inr ⟨k, e1, h1, by omega, h3, h4, fun j x hj hx hh => ?_⟩
    rcases Nat.lt_or_ge j i with h | h
    · exact h5 j x h hx hh
    · obtain rfl : j = i := by omega
      rw [he] at hx; cases hx; exact absurd hh hn
theorem BestE.first {l : List Ent} {a i : Nat} (h : BestE l a i (-1)) {e : Ent} (he : l[i]? = some e) (hh : maskOf a e.1.n = e.1.a) : BestE l a (i + 1) i := by
  rcases h with ⟨_, h2⟩ | ⟨k, e1, h1, _⟩
  · refine .inr ⟨i, e, rfl, by omega, he, hh, fun j x hj hx hx2 => ?_⟩
    rcases Nat.lt_or_ge j i with h | h
    · exact absurd hx2 (h2 j x h hx)
    · obtain rfl : j = i := by omega
      rw [he] at hx; cases hx; exact Nat.le_refl _
  · omega
theorem BestE.longer {l : List Ent} {a i k : Nat} (h : BestE l a i k) {e e1 : Ent} (he : l[i]? = some e) (h1 : l[k]? = some e1) (hh : maskOf a e.1.n = e.1.a) (hl : e1.1.n < e.1.n) : BestE l a (i + 1) i := by
  rcases h with ⟨h2, _⟩ | ⟨k', e2, h2, h3, h4, h5, h6⟩
  · omega
  · obtain rfl : k = k' := by omega
    rw [h1] at h4; cases h4
    refine .inr ⟨i, e, rfl, by omega, he, hh, fun j x hj hx hx2 => ?_⟩
    rcases Nat.lt_or_ge j i with h | h
    · exact Nat.le_trans (h6 j x h hx hx2) (Nat.le_of_lt hl)
    · obtain rfl : j = i := by omega
      rw [he] at hx; cases hx; exact Nat.le_refl _
theorem BestE.shorter {l : List Ent} {a i k : Nat} (h : BestE l a i k) {e e1 : Ent} (he : l[i]? = some e) (h1 : l[k]? = some e1) (hl : ¬ e1.1.n < e.1.n) : BestE l a (i + 1) k := by
  rcases h with ⟨h2, _⟩ | ⟨k', e2, h2, h3, h4, h5, h6⟩
  · omega
  · obtain rfl : k = k' := by omega
    rw [h1] at h4; cases h4
    refine .inr ⟨k, e1, rfl, by omega, h1, h5, fun j x hj hx hx2 => ?_⟩
    rcases Nat.lt_or_ge j i with h | h
    · exact h6 j x h hx hx2
    · obtain rfl : j = i := by omega
      rw [he] at hx; cases hx; omega
theorem mask_top {p : Px} (hp : p.ok) {a : Nat} : maskOf a p.n = p.a ↔ top a p.n = top p.a p.n := by
  constructor
  · intro h
    rw [← h, top_mask]
  · intro h
    rw [← hp.2.2, maskOf_eq]; exact h
/-- What Find of the reference answers is what the trie's answers. -/
theorem bestE_find {t : T} {a : Nat} {r : Int} (hO : Ok t) (hb : BestE (ents t) a (ents t).length r) :
    (r = -1 ∧ find t a none = none) ∨ ∃ (k : Nat) (q : Px) (v : Int), r = (k : Int) ∧ (ents t)[k]? = some (q, v) ∧ find t a none = some (q, v) := by
  have hf := find_longest (a := a) hO
  rcases hb with ⟨rfl, h1⟩ | ⟨k, ⟨q, v⟩, rfl, _, h2, h3, h4⟩
  · left
    refine ⟨rfl, ?_⟩
    cases hx : find t a none with
    | none => rfl
    | some e =>
      obtain ⟨g1, g2, _⟩ := hf.some_ _ hx
      obtain ⟨j, hj⟩ := List.mem_iff_getElem?.1 g1
      exact absurd ((mask_top (ents_ok hO _ g1)).2 g2) (h1 j e (List.getElem?_eq_some_iff.1 hj).1 hj)
  · right
    refine ⟨k, q, v, rfl, h2, ?_⟩
    have hm := List.mem_of_getElem? h2
    have hqo := ents_ok hO _ hm
    cases hx : find t a none with
    | none => exact absurd ((mask_top hqo).1 h3) (hf.none_ hx _ hm)
    | some e =>
      obtain ⟨q', v'⟩ := e
      obtain ⟨g1, g2, g3⟩ := hf.some_ _ hx
      have hqo' := ents_ok hO _ g1
      obtain ⟨j, hj⟩ := List.mem_iff_getElem?.1 g1
      have l1 := g3 _ hm ((mask_top hqo).1 h3)
      have l2 := h4 j _ (List.getElem?_eq_some_iff.1 hj).1 hj ((mask_top hqo').2 g2)
      dsimp only at l1 l2 h3 g2 hqo hqo'
      have en : q.n = q'.n := by omega
      have ea : q.a = q'.a := by rw [← h3, ← (mask_top hqo').2 g2, en]
      have eq : q = q' := by
        obtain ⟨x, y⟩ := q
        obtain ⟨x', y'⟩ := q'
        simp only at en ea
        rw [en, ea]
      subst eq
      rw [sorted_one (ents_sorted _ hO) g1 hm]

def RFd2Post (w : World) (l : List Ent) (a : Nat) (e : Ending) (w' : World) : Prop :=
  Touch [] w w' ∧ ∃ r, BestE l a l.length r ∧ ((r = -1 ∧ e = .returned (.tuple #[.agg #[.int .u32 0, .int .i64 0], .int .i64 0, .int .i64 3])) ∨ ∃ (k : Nat) (q : Px) (v : Int), r = (k : Int) ∧ l[k]? = some (q, v) ∧ e = .returned (.tuple #[.agg #[.int .u32 q.a, .int .i64 q.n], .int .i64 v, .int .i64 0]))
set_option maxHeartbeats 8000000 in
set_option maxRecDepth 100000 in
theorem rfind2_calls {w : World} {rb : Nat} {V : Value} {l : List Ent} (h : RefT w rb V l) (a : Nat) (ha : a < 4294967296) (hlen : l.length < 4611686018427387904) :
    Calls Try.prog 76 #[.pointer (some ⟨rb, 0, none⟩), .int .u32 a] w (RFd2Post w l a) := by
  have H := Lib.hid h
  obtain ⟨A, cap, rfl⟩ := h.row.form
  have HRB := Lib.hid h.rb_lt
  clear h
  go_enter Try.func76, Try.ntmps76
  go_wp2
  obtain ⟨W1, hW1⟩ : ∃ W1 : World, W1 = w.alloc (.cells #[.int .u32 0, .int .i64 0] 32) := ⟨_, rfl⟩
  rw [← hW1]
  have X1 := Lib.hid (show W1.heap[w.heap.size]? = some (.cells #[.int .u32 0, .int .i64 0] 32 (0, 0)) by rw [hW1]; exact box_at w _)
  have T1 := Lib.hid (show Touch [] w W1 by rw [hW1]; exact (Touch.refl [] w).alloc _)
  clear hW1
  go_loopw [7, 8] (fun v7 v8 wr => ∃ (i : Nat) (r : Int), v7 = .int .i64 r ∧ v8 = .int .i64 i ∧ i ≤ l.length ∧ Hid (BestE l a i r) ∧ Hid (Touch [] W1 wr)) (fun _ v8 _ => l.length - (intOf v8).toNat)
  case atStart => exact ⟨0, -1, rfl, rfl, Nat.zero_le _, Lib.hid (.inl ⟨rfl, fun j e hj => absurd hj (Nat.not_lt_zero _)⟩), Lib.hid (Touch.refl _ _)⟩
  case round =>
    obtain ⟨i, r, rfl, rfl, hi, hBE, hT⟩ := hrel
    have HR := Lib.hid (H.out.kept (T1.out.trans hT.out (by simp)) (by simp))
    obtain ⟨cb, _⟩ := one_cells HR.out.blk
    by_cases hlt : i < l.length
    · have b1 : (i : Int) < (l.length : Int) := by omega
      obtain ⟨⟨q, u⟩, hx⟩ : ∃ x, l[i]? = some x := ⟨_, List.getElem?_eq_getElem hlt⟩
      obtain ⟨g, c, hV, hgl, m0, m1, m2, _⟩ := HR.out.cell i _ hx
      injection hV with hV1 hV2 hV3
      subst hV1 hV3
      dsimp only at m0 m1 m2
      have hqo := H.out.oks _ (List.mem_of_getElem? hx)
      dsimp only at hqo
      have HQ := Lib.hid hqo
      have n0 := fun u : Near wr => u.cell m0
      have n1 := fun u : Near wr => u.cell m1
      have n4 := fun u : Near wr => u.cell cb
      have HX := Lib.hid hx
      clear hx hV2 hqo hlt
      by_cases hh : maskOf a q.n = q.a
      · have hd : Hid (true = decide (maskOf a q.n = q.a)) := Lib.hid (by rw [eq_comm, decide_eq_true_eq]; exact hh)
        have HH := Lib.hid hh
        clear hh
        by_cases hr : r < 0
        · have hr1 : r = -1 := by rcases hBE.out with ⟨h1, _⟩ | ⟨k, _, h1, _⟩ <;> omega
          subst hr1
          have HB2 := Lib.hid (hBE.out.first HX.out HH.out)
          clear hr m0 m1 m2 hBE
          go_wp2
          refine wp_region_near (by kernel_rfl) (by kernel_rfl) ?_
          repeat (go_big_quiet_step ((go_at_call 83; exact rholds_near _ q a HQ.out ha _ hd.out)))
          refine wpQuiet_nil ?_
          rintro _ ⟨u2, rfl⟩
          have TX := Lib.hid (hT.out.trans u2.near (by simp))
          go_wp2
          go_roundw
          case rel => exact ⟨i + 1, (i : Int), rfl, by go_num, by omega, HB2, TX⟩
          case measure => simp [intOf]; omega
        · obtain ⟨k, hk⟩ : ∃ k : Nat, r = (k : Int) := ⟨r.toNat, by omega⟩
          subst hk
          have hkx : ∃ e1, l[k]? = some e1 ∧ k < i := by
            rcases hBE.out with ⟨h1, _⟩ | ⟨k', e1, h1, h2, h3, _⟩
            · omega
            · obtain rfl : k = k' := by omega
              exact ⟨e1, h3, h2⟩
          obtain ⟨⟨q1, u1⟩, hx1, hki⟩ := hkx
          obtain ⟨g', c', hV', _, k0, k1, k2, _⟩ := HR.out.cell k _ hx1
          simp only [Value.slice.injEq, Option.some.injEq, Addr.mk.injEq, and_true, true_and] at hV'
          obtain ⟨hg1, hg2⟩ := hV'
          subst hg1 hg2
          dsimp only at k0 k1 k2
          have n2 := fun u : Near wr => u.cell k1
          have b2 : (k : Int) < (l.length : Int) := by omega
          have b3 : ¬ (k : Int) < 0 := by omega
          have b4 : decide ((k : Int) < 0) = false := by rw [decide_eq_false_iff_not]; omega
          have HX1 := Lib.hid hx1
          clear hx1 m0 m1 m2 k0 k1 k2
          by_cases hl : q1.n < q.n
          · have l1 : (q1.n : Int) < (q.n : Int) := by omega
            have l2 : decide ((q1.n : Int) < (q.n : Int)) = true := by rw [decide_eq_true_eq]; omega
            have HB2 := Lib.hid (hBE.out.longer HX.out HX1.out HH.out hl)
            clear hBE
            go_wp2
            refine wp_region_near (by kernel_rfl) (by kernel_rfl) ?_
            repeat (go_big_quiet_step ((go_at_call 83; exact rholds_near _ q a HQ.out ha _ hd.out)))
            refine wpQuiet_nil ?_
            rintro _ ⟨u2, rfl⟩
            have TX := Lib.hid (hT.out.trans u2.near (by simp))
            go_wp2
            go_roundw
            case rel => exact ⟨i + 1, (i : Int), rfl, by go_num, by omega, HB2, TX⟩
            case measure => simp [intOf]; omega
          · have l2 : decide (q1.n < q.n) = false := by rw [decide_eq_false_iff_not]; exact hl
            have HB2 := Lib.hid (hBE.out.shorter HX.out HX1.out hl)
            clear hBE
            go_wp2
            refine wp_region_near (by kernel_rfl) (by kernel_rfl) ?_
            repeat (go_big_quiet_step ((go_at_call 83; exact rholds_near _ q a HQ.out ha _ hd.out)))
            refine wpQuiet_nil ?_
            rintro _ ⟨u2, rfl⟩
            have TX := Lib.hid (hT.out.trans u2.near (by simp))
            go_wp2
            go_roundw
            case rel => exact ⟨i + 1, (k : Int), rfl, by go_num, by omega, HB2, TX⟩
            case measure => simp [intOf]; omega
      · have hd : Hid (false = decide (maskOf a q.n = q.a)) := Lib.hid (by rw [eq_comm, decide_eq_false_iff_not]; exact hh)
        have HB2 := Lib.hid (hBE.out.miss HX.out hh)
        clear hh m0 m1 m2 hBE
        go_wp2
        refine wp_region_near (by kernel_rfl) (by kernel_rfl) ?_
        repeat (go_big_quiet_step ((go_at_call 83; exact rholds_near _ q a HQ.out ha _ hd.out)))
        refine wpQuiet_nil ?_
        rintro _ ⟨u2, rfl⟩
        have TX := Lib.hid (hT.out.trans u2.near (by simp))
        go_wp2
        go_roundw
        case rel => exact ⟨i + 1, r, rfl, by go_num, by omega, HB2, TX⟩
        case measure => simp [intOf]; omega
    · have b1 : ¬ (i : Int) < (l.length : Int) := by omega
      have hil : i = l.length := by omega
      subst hil
      clear hlt
      have XX := Lib.hid (touch_box hT.out X1.out (by simp))
      have TW := Lib.hid (T1.out.trans hT.out (by simp))
      obtain ⟨r0, r1, r2, r3⟩ := two_cells XX.out
      by_cases hr : r < 0
      · have hr1 : r = -1 := by rcases hBE.out with ⟨h1, _⟩ | ⟨k, _, h1, _⟩ <;> omega
        subst hr1
        clear hr
        obtain ⟨y2, y3⟩ := two_set XX.out (.int .u32 0) (.int .i64 0)
        go_wp2
        refine bodyPost_ret (v := .tuple #[.agg #[.int .u32 0, .int .i64 0], .int .i64 0, .int .i64 3]) (by simp [results, Try.results76, go_sem, y2, y3]) rfl ?_
        exact ⟨(TW.out.setCell _ _ (.inr (by simp))).setCell _ _ (.inr (by simp)), -1, hBE.out, .inl ⟨rfl, rfl⟩⟩
      · obtain ⟨k, hk⟩ : ∃ k : Nat, r = (k : Int) := ⟨r.toNat, by omega⟩
        subst hk
        have hkx : ∃ e1, l[k]? = some e1 ∧ k < l.length := by
          rcases hBE.out with ⟨h1, _⟩ | ⟨k', e1, h1, h2, h3, _⟩
          · omega
          · obtain rfl : k = k' := by omega
            exact ⟨e1, h3, h2⟩
        obtain ⟨⟨q, v⟩, hx, hkl⟩ := hkx
        obtain ⟨g, c, hV, hgl, m0, m1, m2, _⟩ := HR.out.cell k _ hx
        injection hV with hV1 hV2 hV3
        subst hV1 hV3
        dsimp only at m0 m1 m2
        have b2 : (k : Int) < (l.length : Int) := by omega
        have b3 : ¬ (k : Int) < 0 := by omega
        have hgw : g < w.heap.size := H.out.row.lt g rfl
        have hne7 : g ≠ w.heap.size := by omega
        have hne8 := hne7.symm
        have hne9 : rb ≠ w.heap.size := by have := HRB.out; omega
        have hne0 := hne9.symm
        obtain ⟨y2, y3⟩ := two_set XX.out (.int .u32 q.a) (.int .i64 q.n)
        have HX := Lib.hid hx
        clear hx hV2
        go_wp2
        go_region_law (fail)
        all_goals
          go_wp2
          refine bodyPost_ret (v := .tuple #[.agg #[.int .u32 q.a, .int .i64 q.n], .int .i64 v, .int .i64 0]) (by simp [results, Try.results76, go_sem, y2, y3]) rfl ?_
          exact ⟨((TW.out.setCell _ _ (.inr (by simp))).setCell _ _ (.inr (by simp))).drew, (k : Int), hBE.out, .inr ⟨k, q, v, rfl, HX.out, rfl⟩⟩
end Go.Proofs.Ytmklkdhpbehfeaa.Tri
