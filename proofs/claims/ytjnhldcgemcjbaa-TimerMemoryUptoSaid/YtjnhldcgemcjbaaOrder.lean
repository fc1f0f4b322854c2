/- inOrder of the Timer laws; no condition. -/
import Derived.Test.YtjnhldcgemcjbaaLast
namespace Go.Proofs.Ytjnhldcgemcjbaa.Tm
open Go.RowKit Go.Maps
set_option linter.unusedVariables false

theorem ahead35_any (a0 a1 b0 b1 : Int) (w : World) :
    Calls Try.prog 30 #[.agg #[.int .i64 a0, .int .i64 a1], .agg #[.int .i64 b0, .int .i64 b1]] w fun e w' => e = .returned (.bool (aheadB (a0, a1) (b0, b1))) ∧ Touch [] w w' := by
  by_cases h1 : a1 < b1
  · have e : aheadB (a0, a1) (b0, b1) = true := by simp [aheadB, h1]
    rw [e]; clear e
    go_enter Try.func30, Try.ntmps30
    go_wp2
    go_ret
    exact ⟨rfl, ((Touch.refl _ _).alloc _).alloc _⟩
  · by_cases h2 : a1 = b1
    · subst h2
      have e : aheadB (a0, a1) (b0, a1) = decide (a0 < b0) := by simp [aheadB]
      rw [e]; clear e
      go_enter Try.func30, Try.ntmps30
      go_wp2
      go_ret
      exact ⟨rfl, ((Touch.refl _ _).alloc _).alloc _⟩
    · have e : aheadB (a0, a1) (b0, b1) = false := by simp [aheadB, h1, h2]
      rw [e]; clear e
      go_enter Try.func30, Try.ntmps30
      go_wp2
      go_ret
      exact ⟨rfl, ((Touch.refl _ _).alloc _).alloc _⟩

/-- x at place j of m. -/
def ins (m : List Pr) (j : Nat) (x : Pr) : List Pr := m.take j ++ x :: m.drop j
theorem ins_len {m : List Pr} {j : Nat} (x : Pr) (hj : j ≤ m.length) : (ins m j x).length = m.length + 1 := by simp [ins]; omega
theorem ins_at {m : List Pr} {j : Nat} (x : Pr) (hj : j ≤ m.length) : (ins m j x)[j]? = some x := by
  unfold ins; rw [List.getElem?_append_right (by simp; omega)]; simp; rw [Nat.min_eq_left hj]; simp
theorem ins_before {m : List Pr} {j : Nat} (x : Pr) (hj : j ≤ m.length) {i : Nat} (hi : i < j) : (ins m j x)[i]? = m[i]? := by
  unfold ins; rw [List.getElem?_append_left (by simp; omega), List.getElem?_take, if_pos hi]
theorem ins_move {m : List Pr} {j : Nat} (x p : Pr) (hj : j + 1 ≤ m.length) (hp : m[j]? = some p) : ((ins m (j + 1) x).set (j + 1) p).set j x = ins m j x := by
  apply List.ext_getElem?
  intro i
  have hl : (ins m (j + 1) x).length = m.length + 1 := ins_len x hj
  rw [List.getElem?_set, List.getElem?_set]
  by_cases e1 : j = i
  · subst e1
    rw [if_pos rfl, if_pos (by rw [List.length_set, hl]; omega), ins_at x (by omega)]
  · rw [if_neg e1]
    by_cases e2 : j + 1 = i
    · subst e2
      rw [if_pos rfl, if_pos (by rw [hl]; omega)]
      unfold ins
      rw [List.getElem?_append_right (by simp; omega)]
      have : j + 1 - (List.take j m).length = 1 := by simp; omega
      rw [this]
      simp [hp]
    · rw [if_neg e2]
      unfold ins
      rcases Nat.lt_or_ge i j with h | h
      · rw [List.getElem?_append_left (by simp; omega), List.getElem?_append_left (by simp; omega), List.getElem?_take, List.getElem?_take, if_pos (by omega), if_pos (by omega)]
      · rw [List.getElem?_append_right (by simp; omega), List.getElem?_append_right (by simp; omega)]
        obtain ⟨d, rfl⟩ : ∃ d, i = j + 2 + d := ⟨i - (j + 2), by omega⟩
        have a1 : j + 2 + d - (List.take (j + 1) m).length = d + 1 := by simp; omega
        have a2 : j + 2 + d - (List.take j m).length = d + 1 + 1 := by simp; omega
        rw [a1, a2]
        simp
        congr 1
        omega

/-- m in order, with the members of l. -/
structure OrdInv (l m : List Pr) : Prop where
  sorted : m.Pairwise le
  perm : m.Perm l
theorem OrdInv.len {l m : List Pr} (h : OrdInv l m) : m.length = l.length := h.perm.length_eq
theorem OrdInv.ins {l m : List Pr} {x : Pr} {j : Nat} (h : OrdInv l m) (hj : j ≤ m.length) (hr : ∀ q ∈ m.drop j, le x q) (hl : ∀ q ∈ m.take j, le q x) : OrdInv (l ++ [x]) (ins m j x) := by
  refine ⟨?_, ?_⟩
  · unfold Tm.ins
    rw [List.pairwise_append]
    refine ⟨h.sorted.sublist (List.take_sublist _ _), List.pairwise_cons.2 ⟨hr, h.sorted.sublist (List.drop_sublist _ _)⟩, fun a ha b hb => ?_⟩
    rcases List.mem_cons.1 hb with rfl | hb
    · exact hl a ha
    · exact le_tr (hl a ha) (hr b hb)
  · unfold Tm.ins
    refine List.perm_middle.trans ?_
    rw [List.take_append_drop]
    exact (h.perm.cons x).trans (List.perm_append_singleton x l).symm

def OrderPost (w : World) (l : List Pr) (e : Ending) (w' : World) : Prop := ∃ V m, e = .returned V ∧ PRow w' 35 V m ∧ Touch [] w w' ∧ (∀ k, V.ownBlock = some k → w.heap.size ≤ k) ∧ OrdInv l m

set_option maxHeartbeats 2000000 in
theorem order_calls {w : World} {A : Option Addr} {n cap : Nat} {l : List Pr} (h : RdPr w A n l) (hsm : n ≤ 1048576) :
    Calls Try.prog 18 #[.slice A n cap] w (OrderPost w l) := by
  have H := Lib.hid h
  have hlen := h.len
  have HL := Lib.hid hlen
  clear h hlen
  go_enter Try.func18, Try.ntmps18
  go_wp2
  go_loopw [3, 4] (fun v3 v4 wr => ∃ (k : Nat) (m : List Pr), v4 = .int .i64 k ∧ k ≤ n ∧ Hid (PRow wr 35 v3 m) ∧ Hid (∀ q, v3.ownBlock = some q → w.heap.size ≤ q) ∧ Hid (Touch [] w wr) ∧ Hid (OrdInv (l.take k) m)) (fun _ v4 _ => n - (intOf v4).toNat)
  case atStart => exact ⟨0, [], rfl, Nat.zero_le _, Lib.hid (PRow.nil _ _), Lib.hid (by intro q hq; simp [Value.ownBlock] at hq), Lib.hid (Touch.refl _ _), Lib.hid ⟨List.Pairwise.nil, by simp⟩⟩
  case round =>
    obtain ⟨k, m, rfl, hk, hP, hB, hT, hI⟩ := hrel
    obtain ⟨A3, c3, hv3⟩ := hP.out.form
    subst hv3
    by_cases hlt : k < n
    · have hR := H.out.kept hT.out
      obtain ⟨b, off, hA, hb, hc⟩ := hR.at_ (by omega)
      subst hA
      obtain ⟨⟨x0, x1⟩, hx⟩ : ∃ x, l[k]? = some x := ⟨_, List.getElem?_eq_getElem (by rw [HL.out]; exact hlt)⟩
      obtain ⟨m0, m1⟩ := hc k _ hx
      dsimp only at m0 m1
      have etk : l.take (k + 1) = l.take k ++ [(x0, x1)] := by rw [List.take_add_one, hx]; rfl
      have HTK := Lib.hid etk
      have hml : m.length ≤ k := by have := hI.out.len; simp at this; omega
      have b1 : (k : Int) < (n : Int) := by omega
      obtain ⟨wo, rfl⟩ : ∃ wo : World, wo = wr := ⟨_, rfl⟩
      clear hR hc hx etk
      go_upto_region 7 with (at_builtin; go_must (refine wpList_append_pr rfl (.tmp 13) (.tmp 18) 25 35 Try.underlying25 rfl info35 (.slice A3 m.length c3) m x0 x1 rfl hP.out rfl (by omega) ?_); go_must (intro A1 c1' w2 hr1 ht1 hV1; have HR1 := Lib.hid hr1; have HT1 := Lib.hid ht1; have HV1 := Lib.hid hV1; clear hr1 ht1 hV1))
      have hpos : 0 < (m ++ [(x0, x1)]).length := by simp
      obtain ⟨g, cap2, hV, hg, hcap, hlenm, cur, hcur⟩ := HR1.out.formP hpos
      rw [List.length_append, List.length_singleton] at hV hcap hlenm
      injection hV with hV1 hV2 hV3
      subst hV1 hV3
      have hgB : w.heap.size ≤ g := by
        rcases HV1.out with e | ⟨q', e, hq'⟩
        · exact hB.out g (by rw [← e]; rfl)
        · injection e with e; subst e; exact Nat.le_trans hT.out.size hq'
      have HGB := Lib.hid hgB
      have hT2 : Touch [] w w2 := hT.out.trans HT1.out (fun x hx => .inr (hB.out x (by simpa using hx)))
      have HT2 := Lib.hid hT2
      have hR0 : PRow w2 35 (.slice (some ⟨g, 0, none⟩) (m.length + 1) c1') (ins m m.length (x0, x1)) := by
        have := HR1.out; unfold ins; rw [List.take_length, List.drop_length]; exact this
      have HR0 := Lib.hid hR0
      clear hV2 hgB hT2 hR0 hcur hg hcap hpos HR1 HT1 HV1 m0 m1
      obtain ⟨wp, rfl⟩ : ∃ wp : World, wp = w2 := ⟨_, rfl⟩
      go_wp2
      go_loopw [5] (fun v5 wi => ∃ j : Nat, v5 = .int .i64 j ∧ j ≤ m.length ∧ Hid (PRow wi 35 (.slice (some ⟨g, 0, none⟩) (m.length + 1) c1') (ins m j (x0, x1))) ∧ Hid (∀ q ∈ m.drop j, le (x0, x1) q) ∧ Hid (Touch [g] wp wi)) (fun v5 _ => (intOf v5).toNat)
      case atStart => exact ⟨m.length, by go_num, Nat.le_refl _, HR0, Lib.hid (by simp), Lib.hid (Touch.refl _ _)⟩
      case round =>
        obtain ⟨j, rfl, hj, hPj, hD, hTj⟩ := hrel
        obtain ⟨wq, rfl⟩ : ∃ wq : World, wq = wr := ⟨_, rfl⟩
        by_cases hj0 : 0 < j
        · have hd0 : decide (0 < j) = true := by simp; omega
          have hjm : j - 1 < m.length := by omega
          obtain ⟨p0, p1, _, hp⟩ := getD_pair m (j - 1) hjm
          have hp' : (ins m j (x0, x1))[j - 1]? = some (p0, p1) := (ins_before (x0, x1) hj (by omega)).trans hp
          obtain ⟨k0, k1, z0, z1⟩ := hPj.out.cell (j - 1) (p0, p1) hp'
          obtain ⟨l0, l1, y0, y1⟩ := hPj.out.cell j (x0, x1) (ins_at _ hj)
          dsimp only at k0 k1 l0 l1
          have HP := Lib.hid hp
          clear hp hp'
          have b2 : (j : Int) < ((m.length + 1 : Nat) : Int) := by omega
          have b3 : (j : Int) - 1 < ((m.length + 1 : Nat) : Int) := by omega
          have b4 : (0 : Int) ≤ (j : Int) - 1 := by omega
          have n0 := fun u : Near wq => u.cell k0
          have n1 := fun u : Near wq => u.cell k1
          have n2 := fun u : Near wq => u.cell l0
          have n3 := fun u : Near wq => u.cell l1
          go_wp2
          refine wp_region_near (by kernel_rfl) (by kernel_rfl) ?_
          repeat (go_big_quiet_step ((go_at_call 30; refine near_call _ (ahead35_any _ _ _ _ _))))
          refine wpQuiet_nil ?_
          rintro _ ⟨u, rfl⟩
          have HN := Lib.hid u.near
          cases hb : aheadB (x0, x1) (p0, p1) with
          | false =>
            have HB := Lib.hid hb
            clear hb n0 n1 n2 n3
            go_wp2
            go_roundw
            case rel =>
              refine ⟨k + 1, ins m j (x0, x1), by go_num, by omega, ?_, Lib.hid (fun q hq => ?_), Lib.hid ?_, Lib.hid ?_⟩
              · exact Lib.hid (hPj.out.kept HN.out (by simp))
              · simp [Value.ownBlock] at hq; subst hq; exact HGB.out
              · exact (HT2.out.trans hTj.out (fun x hx => .inr (by simp at hx; rw [hx]; exact HGB.out))).trans HN.out (by simp)
              · rw [HTK.out]; refine hI.out.ins hj hD.out ?_
                intro q hq
                have h1 := ahead_false.1 HB.out
                obtain ⟨i, hi, he⟩ := List.mem_iff_getElem.1 hq
                rw [List.length_take] at hi
                rw [List.getElem_take] at he
                have hij : i < j := by omega
                refine le_tr ?_ h1
                have hpe : m[j - 1]'hjm = (p0, p1) := by
                  have := HP.out; rw [List.getElem?_eq_getElem hjm] at this; exact Option.some.inj this
                rcases Nat.lt_or_ge i (j - 1) with h2 | h2
                · have := List.pairwise_iff_getElem.1 hI.out.sorted i (j - 1) (by omega) hjm h2
                  rw [hpe, he] at this; exact this
                · have h3 : i = j - 1 := by omega
                  subst h3
                  rw [← he, hpe]; exact le_refl' _
            case measure => simp [intOf]; omega
          | true =>
            have HB := Lib.hid hb
            have v0 := n0 u
            have v1 := n1 u
            have v2 := n2 u
            have v3 := n3 u
            clear hb n0 n1 n2 n3
            have hPu := hPj.out.kept HN.out (by simp)
            obtain ⟨_, _, f0, f1⟩ := hPu.cell (j - 1) (p0, p1) ((ins_before (x0, x1) hj (by omega)).trans HP.out)
            obtain ⟨_, _, f2, f3⟩ := hPu.cell j (x0, x1) (ins_at _ hj)
            have HPU := Lib.hid hPu
            have hgu : g < u.w.heap.size := hPu.lt g rfl
            clear hPu k0 k1 l0 l1 z0 z1 y0 y1
            go_wp2
            go_roundw
            case rel =>
              have t1 : Touch [g] u.w (((((u.w.setCell ⟨g, j * 2, none⟩ (.int .i64 p0)).setCell ⟨g, j * 2 + 1, none⟩ (.int .i64 p1)).setCell ⟨g, (j - 1) * 2, none⟩ (.int .i64 x0)).setCell ⟨g, (j - 1) * 2 + 1, none⟩ (.int .i64 x1)).alloc (.cells #[.int .i64 x0, .int .i64 x1] 35)) :=
                (((((Touch.refl [g] u.w).setCell _ _ (by simp)).setCell _ _ (by simp)).setCell _ _ (by simp)).setCell _ _ (by simp)).alloc _
              have r1 := HPU.out.stored (ins_len (x0, x1) hj).symm j (p0, p1)
              have r2 := r1.stored (by rw [List.length_set]; exact (ins_len (x0, x1) hj).symm) (j - 1) (x0, x1)
              have em := ins_move (x0, x1) (p0, p1) (show j - 1 + 1 ≤ m.length by omega) HP.out
              have ej : j - 1 + 1 = j := by omega
              rw [ej] at em
              rw [em] at r2
              refine ⟨j - 1, by go_num, by omega, Lib.hid ?_, Lib.hid (fun q hq => ?_), Lib.hid ?_⟩
              · exact r2.kept ((Touch.refl [] _).alloc (.cells #[.int .i64 x0, .int .i64 x1] 35)) (by simp)
              · have hdr : m.drop (j - 1) = (p0, p1) :: m.drop j := by
                  have hpe : m[j - 1]'hjm = (p0, p1) := by
                    have := HP.out; rw [List.getElem?_eq_getElem hjm] at this; exact Option.some.inj this
                  rw [List.drop_eq_getElem_cons hjm, hpe, ej]
                rw [hdr] at hq
                rcases List.mem_cons.1 hq with h1 | h1
                · rw [h1]; exact le_of_ahead HB.out
                · exact hD.out q h1
              · exact (hTj.out.trans HN.out (by simp)).trans t1 (fun x hx => .inl hx)
            case measure => simp [intOf]; omega
        · have hd0 : decide (0 < j) = false := by simp; omega
          have HJ : Hid (j = 0) := Lib.hid (by omega)
          go_wp2
          refine wp_region_near (by kernel_rfl) (by kernel_rfl) ?_
          repeat (go_big_quiet_step (fail))
          refine wpQuiet_nil ?_
          rintro _ ⟨u, rfl⟩
          have HN := Lib.hid u.near
          go_wp2
          go_roundw
          case rel =>
            obtain rfl : j = 0 := HJ.out
            refine ⟨k + 1, ins m 0 (x0, x1), by go_num, by omega, ?_, Lib.hid (fun q hq => ?_), Lib.hid ?_, Lib.hid ?_⟩
            · exact Lib.hid (hPj.out.kept HN.out (by simp))
            · simp [Value.ownBlock] at hq; subst hq; exact HGB.out
            · exact (HT2.out.trans hTj.out (fun x hx => .inr (by simp at hx; rw [hx]; exact HGB.out))).trans HN.out (by simp)
            · rw [HTK.out]; exact hI.out.ins hj hD.out (by simp)
          case measure => simp [intOf]; omega
    · have b1 : ¬ (k : Int) < (n : Int) := by omega
      have hkl : k = n := by omega
      have HK := Lib.hid hkl
      clear hkl hlt
      go_wp2
      go_ret
      refine ⟨_, m, rfl, hP.out, hT.out, hB.out, ?_⟩
      have := hI.out
      rw [HK.out, ← HL.out, List.take_length] at this
      exact this
end Go.Proofs.Ytjnhldcgemcjbaa.Tm
