/- The walk of TimerForgets; no condition. -/
import Derived.Test.YtjnhldcgemcjbaaAlike
namespace Go.Proofs.Ytjnhldcgemcjbaa.Tm
open Go.RowKit Go.Maps
set_option linter.unusedVariables false

def ids (l : List Pr) : List Int := l.map (fun p => p.1)
theorem mem_ids {l : List Pr} {y : Int} : y ∈ ids l ↔ ∃ p ∈ l, p.1 = y := List.mem_map
theorem mset_from (l : List Pr) (y : Int) : ∀ o : Option Int, l.foldl (fun o p => if y = p.1 then some p.2 else o) o = (mset l y).or o := by
  induction l with
  | nil => intro o; simp [mset]
  | cons p l ih =>
    intro o
    have e1 : mset (p :: l) y = (mset l y).or (if y = p.1 then some p.2 else none) := by
      unfold mset; rw [List.foldl_cons]; exact ih _
    rw [e1, List.foldl_cons, ih]
    by_cases e : y = p.1
    · simp only [if_pos e]; cases mset l y <;> rfl
    · simp only [if_neg e]; cases mset l y <;> rfl
theorem mset_app (a b : List Pr) (y : Int) : mset (a ++ b) y = (mset b y).or (mset a y) := by
  have : mset (a ++ b) y = b.foldl (fun o p => if y = p.1 then some p.2 else o) (mset a y) := by unfold mset; rw [List.foldl_append]
  rw [this, mset_from]
theorem mset_not {l : List Pr} {y : Int} (h : y ∉ ids l) : mset l y = none := by
  cases hm : mset l y with
  | none => rfl
  | some v => exact absurd (mem_ids.2 ((mset_some l y).1 (by rw [hm]; rfl))) h
theorem mset_nd {l : List Pr} (h : Nd l) (y : Int) : mset l y = lval l y := by
  induction l with
  | nil => rfl
  | cons p l ih =>
    obtain ⟨hp, hl⟩ := List.nodup_cons.1 (show (p.1 :: l.map (·.1)).Nodup from h)
    have e1 : mset (p :: l) y = (mset l y).or (if y = p.1 then some p.2 else none) := by
      unfold mset; rw [List.foldl_cons]; exact mset_from l y _
    rw [e1]
    by_cases e : y = p.1
    · subst e
      rw [mset_not hp]
      simp [lval]
    · have e' : (p.1 == y) = false := by rw [beq_eq_false_iff_ne]; exact fun h => e h.symm
      rw [ih hl]
      simp [lval, e, e']

/-- What t holds when k of the gone have been looked at. -/
def held (ks gs : List Pr) (k : Nat) (y : Int) : Option Int := if y ∈ ids (gs.take k) ∧ y ∉ ids ks then none else mset (gs ++ ks) y
theorem ids_take {gs : List Pr} {k : Nat} {x : Pr} (hx : gs[k]? = some x) (y : Int) : y ∈ ids (gs.take (k + 1)) ↔ y ∈ ids (gs.take k) ∨ y = x.1 := by
  have e : gs.take (k + 1) = gs.take k ++ [x] := by rw [List.take_add_one, hx]; rfl
  rw [e]; unfold ids; simp
theorem held_stay {ks gs : List Pr} {k : Nat} {x : Pr} (hx : gs[k]? = some x) (hs : x.1 ∈ ids ks) (y : Int) : held ks gs (k + 1) y = held ks gs k y := by
  unfold held
  have := ids_take hx y
  by_cases h1 : y ∈ ids (gs.take k)
  · simp [this, h1]
  · by_cases h2 : y = x.1
    · subst h2; simp [hs]
    · simp [this, h1, h2]
theorem held_go {ks gs : List Pr} {k : Nat} {x : Pr} (hx : gs[k]? = some x) (hs : x.1 ∉ ids ks) (y : Int) : held ks gs (k + 1) y = if y = x.1 then none else held ks gs k y := by
  unfold held
  have := ids_take hx y
  by_cases h2 : y = x.1
  · subst h2; rw [if_pos rfl, if_pos ⟨this.2 (.inr rfl), hs⟩]
  · rw [if_neg h2]; simp [this, h2]
theorem held_some {ks gs : List Pr} (nd : Nd gs) {k : Nat} {x : Pr} (hx : gs[k]? = some x) (hs : x.1 ∉ ids ks) : (held ks gs k x.1).isSome = true := by
  unfold held
  rw [if_neg, mset_some]
  · exact ⟨x, List.mem_append_left _ (List.mem_of_getElem? hx), rfl⟩
  · rintro ⟨h1, _⟩
    obtain ⟨p, hp, e⟩ := mem_ids.1 h1
    obtain ⟨i, hi⟩ := List.mem_iff_getElem?.1 hp
    have hik : i < k := by have := (List.getElem?_eq_some_iff.1 hi).1; simp at this; omega
    rw [List.getElem?_take, if_pos hik] at hi
    have := nd_idx nd hi hx e
    omega
theorem held_start (ks gs : List Pr) (y : Int) : held ks gs 0 y = mset (gs ++ ks) y := by simp [held, ids]
theorem held_end {ks gs : List Pr} (nk : Nd ks) (y : Int) : held ks gs gs.length y = lval ks y := by
  unfold held
  rw [List.take_length, ← mset_nd nk, mset_app]
  by_cases h : y ∈ ids ks
  · have : (mset ks y).isSome = true := (mset_some ks y).2 (mem_ids.1 h)
    cases hm : mset ks y with
    | none => rw [hm] at this; cases this
    | some v => simp [h]
  · rw [mset_not h]
    by_cases hg : y ∈ ids gs
    · simp [h, hg]
    · rw [mset_not hg]; simp
theorem Two.drop {w0 wr : World} {t1 t2 : Nat} {l1 l2 : Int} {s1 s2 : St} (h : Two w0 wr t1 l1 s1 t2 l2 s2) (id : Int) (hid : wfi id) (hs : (val s1 id).isSome = true) :
    Calls Try.prog 21 #[.pointer (some ⟨t1, 0, none⟩), .int .i64 id] wr fun e w' => e = .returned (.int .i64 0) ∧ ∃ s1', Two w0 w' t1 l1 s1' t2 l2 s2 ∧ ∀ y, val s1' y = if y = id then none else val s1 y := by
  obtain ⟨S1, S2, a, b, c, d, e, f⟩ := h
  refine (drop_calls a id hid).mono ?_
  rintro e' w' ⟨s', hT, ht, hh⟩
  rcases hh with ⟨h1, _⟩ | ⟨_, h2, _, _, h4⟩
  · rw [h1] at hs; cases hs
  · exact ⟨h2, s', Two.go a b c d e f hT ht (fun k hk => .inl hk), h4⟩

def filled (i : Nat) (y : Int) : Option Int := if 0 ≤ y ∧ y < (i : Int) then some 1 else none
theorem filled_step (i : Nat) (y : Int) : filled (i + 1) y = if y = (i : Int) then some 1 else filled i y := by
  unfold filled
  by_cases h : y = (i : Int)
  · subst h; simp; omega
  · rw [if_neg h]
    by_cases h2 : 0 ≤ y ∧ y < (i : Int)
    · rw [if_pos h2, if_pos (by omega)]
    · rw [if_neg h2, if_neg (by omega)]
theorem filled_not (i : Nat) : filled i (i : Int) = none := by unfold filled; rw [if_neg (by omega)]

theorem zero_val {s : St} (h : TInv s) (h0 : s.hp.length = 0) (y : Int) : val s y = none := by
  cases hv : val s y with
  | none => rfl
  | some v => have := h.val_some hv; rw [List.eq_nil_of_length_eq_zero h0] at this; cases this

set_option maxHeartbeats 8000000 in
set_option maxRecDepth 100000 in
theorem walk_forgets {w : World} {A0 A1 : Option Addr} {n0 n1 cap0 cap1 : Nat} {l0 l1 : List Pr} (h0 : RdPr w A0 n0 l0) (h1 : RdPr w A1 n1 l1) (hs0 : n0 ≤ 1048576) (hs1 : n1 ≤ 1048576) (now : Int) :
    Calls Try.prog 7 #[.slice A0 n0 cap0, .slice A1 n1 cap1, .int .i64 now] w fun e w' => e = .returned (.bool true) ∧ Touch [] w w' := by
  have H0 := Lib.hid h0
  have H1 := Lib.hid h1
  clear h0 h1
  go_enter Try.func7, Try.ntmps7
  go_wp2_with fail
  refine (begun_calls _).mono ?_
  rintro e wa ⟨rfl, hta⟩
  have HTA := Lib.hid hta
  clear hta
  go_wp2_with fail
  refine (last_calls (cap := cap0) (H0.out.kept HTA.out) hs0).mono ?_
  rintro e wb ⟨V0, ks, rfl, hP1, ht1, hB1, hI1⟩
  obtain ⟨AK, ck, hv1⟩ := hP1.form
  subst hv1
  have hkl : ks.length ≤ n0 := by have := hI1.len; rw [H0.out.len] at this; exact this
  have HRK := Lib.hid (hP1.rd hI1.wf)
  have NDK := Lib.hid hI1.nd
  have HTB := Lib.hid (HTA.out.trans ht1 (by simp))
  clear hP1 hB1 hI1 ht1
  go_wp2_with fail
  refine (last_calls (cap := cap1) (H1.out.kept HTB.out) hs1).mono ?_
  rintro e wc ⟨V1, gs, rfl, hP1, ht1, hB1, hI1⟩
  obtain ⟨AG, cg, hv1⟩ := hP1.form
  subst hv1
  have hgl : gs.length ≤ n1 := by have := hI1.len; rw [H1.out.len] at this; exact this
  have HRG := Lib.hid (hP1.rd hI1.wf)
  have NDG := Lib.hid hI1.nd
  have HTC := Lib.hid (HTB.out.trans ht1 (by simp))
  have HRK2 := Lib.hid (HRK.out.kept ht1)
  clear hP1 hB1 hI1 ht1 HRK
  by_cases hbig : 2000 < ks.length + gs.length + 1
  · have b1 : (2000 : Int) < (ks.length : Int) + (gs.length : Int) + 1 := by omega
    go_wp2
    go_ret
    exact ⟨rfl, HTC.out⟩
  · have b1 : ¬ (2000 : Int) < (ks.length : Int) + (gs.length : Int) + 1 := by omega
    go_wp2_with fail
    refine (newE_calls wc ((ks.length : Int) + (gs.length : Int) + 1) (by omega) (by omega)).mono ?_
    rintro e wd ⟨t1, s1, rfl, hN1⟩
    have HN1 := Lib.hid hN1
    clear hN1
    go_wp2_with fail
    refine (newE_calls wd ((ks.length : Int) + (gs.length : Int) + 1) (by omega) (by omega)).mono ?_
    rintro e we ⟨t2, s2, rfl, hN2⟩
    obtain ⟨hTwo, hz1, hz2⟩ := Two.new HN1.out hN2
    have HTW := Lib.hid hTwo
    have HZ1 := Lib.hid hz1
    have HZ2 := Lib.hid hz2
    clear hTwo hz1 hz2 HN1 hN2
    go_wp2
    go_loopw [12, 15] (fun v12 v15 wr => ∃ (k : Nat) (s1 : St), v12 = .int .i64 0 ∧ v15 = .int .i64 k ∧ k ≤ gs.length ∧ Hid (Two wc wr t1 ((ks.length : Int) + (gs.length : Int) + 1) s1 t2 ((ks.length : Int) + (gs.length : Int) + 1) s2) ∧ s1.hp.length ≤ k ∧ Hid (∀ y, val s1 y = mset (gs.take k) y)) (fun _ v15 _ => gs.length - (intOf v15).toNat)
    case atStart => exact ⟨0, s1, rfl, rfl, Nat.zero_le _, HTW, by have := HZ1.out.1; omega, Lib.hid (fun y => HZ1.out.2 y)⟩
    case round =>
      clear HTW HZ1
      obtain ⟨k, q1, rfl, rfl, hk, hT, hlq, hv⟩ := hrel
      by_cases hlt : k < gs.length
      · have hR := HRG.out.kept hT.out.touch
        obtain ⟨b, off, hA, hb, hc⟩ := hR.at_ (by omega)
        subst hA
        obtain ⟨⟨x0, x1⟩, hx⟩ : ∃ x, gs[k]? = some x := ⟨_, List.getElem?_eq_getElem hlt⟩
        obtain ⟨m0, m1⟩ := hc k _ hx
        dsimp only at m0 m1
        have HX := Lib.hid hx
        have HWF := Lib.hid (HRG.out.wf _ (List.mem_of_getElem? hx))
        have b3 : (k : Int) < (gs.length : Int) := by omega
        obtain ⟨wo, rfl⟩ : ∃ wo : World, wo = wr := ⟨_, rfl⟩
        clear hR hc hx
        go_wp2_with fail
        go_still_tail 11, (by kernel_rfl)
        change wpList _ _ _ _ _ (World.drew wo)
        go_wp2_with fail
        refine (Two.set (hT.out.near (Touch.refl [] wo).drew) x0 x1 HWF.out.1 HWF.out.2 (fun _ => by omega)).mono ?_
        rintro e w5 ⟨q1', hT1, rfl, hl1, hv1'⟩
        have HT1 := Lib.hid hT1
        have HV1 := Lib.hid hv1'
        have hlq' : q1'.hp.length ≤ k + 1 := by rw [hl1]; split <;> omega
        clear hT1 hl1 hv1' m0 m1
        go_wp2
        go_roundw
        case rel =>
          have etk : gs.take (k + 1) = gs.take k ++ [(x0, x1)] := by rw [List.take_add_one, HX.out]; rfl
          exact ⟨k + 1, q1', by go_num, by go_num, by omega, HT1, hlq', Lib.hid (fun y => by rw [HV1.out, etk, mset_snoc, hv.out])⟩
        case measure => simp [intOf]; omega
      · have b3 : ¬ (k : Int) < (gs.length : Int) := by omega
        obtain rfl : k = gs.length := by omega
        have hv0 := hv.out
        rw [List.take_length] at hv0
        have HV0 := Lib.hid hv0
        obtain ⟨wo, rfl⟩ : ∃ wo : World, wo = wr := ⟨_, rfl⟩
        clear hv hv0 hlt
        go_wp2
        go_loopw [7, 16] (fun v7 v16 wr => ∃ (k : Nat) (p1 p2 : St), v7 = .bool true ∧ v16 = .int .i64 k ∧ k ≤ ks.length ∧ Hid (Two wc wr t1 ((ks.length : Int) + (gs.length : Int) + 1) p1 t2 ((ks.length : Int) + (gs.length : Int) + 1) p2) ∧ p1.hp.length ≤ gs.length + k ∧ p2.hp.length ≤ k ∧ Hid (∀ y, val p1 y = mset (gs ++ ks.take k) y) ∧ Hid (∀ y, val p2 y = mset (ks.take k) y)) (fun _ v16 _ => ks.length - (intOf v16).toNat)
        case atStart => exact ⟨0, q1, s2, rfl, rfl, Nat.zero_le _, hT, by omega, by have := HZ2.out.1; omega, Lib.hid (fun y => by rw [HV0.out]; simp), Lib.hid (fun y => HZ2.out.2 y)⟩
        case round =>
          clear hT hlq HZ2
          obtain ⟨k, p1, p2, rfl, rfl, hk, hT, hlp1, hlp2, hp1, hp2⟩ := hrel
          by_cases hlt : k < ks.length
          · have hR := HRK2.out.kept hT.out.touch
            obtain ⟨b, off, hA, hb, hc⟩ := hR.at_ (by omega)
            subst hA
            obtain ⟨⟨x0, x1⟩, hx⟩ : ∃ x, ks[k]? = some x := ⟨_, List.getElem?_eq_getElem hlt⟩
            obtain ⟨m0, m1⟩ := hc k _ hx
            dsimp only at m0 m1
            have HX := Lib.hid hx
            have HWF := Lib.hid (HRK2.out.wf _ (List.mem_of_getElem? hx))
            have b4 : (k : Int) < (ks.length : Int) := by omega
            obtain ⟨wo2, rfl⟩ : ∃ wo2 : World, wo2 = wr := ⟨_, rfl⟩
            clear hR hc hx
            go_wp2_with fail
            refine (both_calls hT.out x0 x1 HWF.out.1 HWF.out.2 (by omega) (by omega)).mono ?_
            rintro e w5 ⟨rfl, p1', p2', hT', ⟨hl1, hv1⟩, ⟨hl2, hv2⟩⟩
            have HT' := Lib.hid hT'
            have HV1 := Lib.hid hv1
            have HV2 := Lib.hid hv2
            clear hT' hv1 hv2 m0 m1
            go_wp2
            go_roundw
            case rel =>
              have etk : ks.take (k + 1) = ks.take k ++ [(x0, x1)] := by rw [List.take_add_one, HX.out]; rfl
              exact ⟨k + 1, p1', p2', by go_num, by go_num, by omega, HT', by omega, by omega, Lib.hid (fun y => by rw [HV1.out, etk, ← List.append_assoc, mset_snoc, hp1.out]), Lib.hid (fun y => by rw [HV2.out, etk, mset_snoc, hp2.out])⟩
            case measure => simp [intOf]; omega
          · have b4 : ¬ (k : Int) < (ks.length : Int) := by omega
            obtain rfl : k = ks.length := by omega
            have hp1' := hp1.out
            have hp2' := hp2.out
            rw [List.take_length] at hp1' hp2'
            have HP1 : Hid (∀ y, val p1 y = held ks gs 0 y) := Lib.hid (fun y => by rw [held_start, hp1'])
            have HP2 : Hid (∀ y, val p2 y = lval ks y) := Lib.hid (fun y => by rw [hp2', mset_nd NDK.out])
            obtain ⟨wo2, rfl⟩ : ∃ wo2 : World, wo2 = wr := ⟨_, rfl⟩
            clear hp1 hp2 hp1' hp2' hlt HV0 hlp1 hlp2
            go_wp2
            go_loopw [12, 14, 17] (fun v12 v14 v17 wr => ∃ (k : Nat) (r1 : St), v17 = .int .i64 k ∧ k ≤ gs.length ∧ Hid (Two wc wr t1 ((ks.length : Int) + (gs.length : Int) + 1) r1 t2 ((ks.length : Int) + (gs.length : Int) + 1) p2) ∧ Hid (∀ y, val r1 y = held ks gs k y)) (fun _ _ v17 _ => gs.length - (intOf v17).toNat)
            case atStart => exact ⟨0, p1, rfl, Nat.zero_le _, hT, HP1⟩
            case round =>
              clear hT HP1
              obtain ⟨k, r1, rfl, hk, hT, hr1⟩ := hrel
              by_cases hlt : k < gs.length
              · have hR := HRG.out.kept hT.out.touch
                obtain ⟨b, off, hA, hb, hc⟩ := hR.at_ (by omega)
                have HA := Lib.hid hA
                clear hA
                obtain ⟨⟨x0, x1⟩, hx⟩ : ∃ x, gs[k]? = some x := ⟨_, List.getElem?_eq_getElem hlt⟩
                obtain ⟨m0, m1⟩ := hc k _ hx
                dsimp only at m0 m1
                have HX := Lib.hid hx
                have HWF := Lib.hid (HRG.out.wf _ (List.mem_of_getElem? hx))
                have b5 : (k : Int) < (gs.length : Int) := by omega
                obtain ⟨wq, rfl⟩ : ∃ wq : World, wq = wr := ⟨_, rfl⟩
                clear hR hc hx m1
                obtain rfl := HA.out
                go_wp2
                go_loopw [18, 19] (fun v18 v19 wi => ∃ (j : Nat) (st : Bool), v18 = .bool st ∧ v19 = .int .i64 j ∧ j ≤ ks.length ∧ Hid (st = true ↔ x0 ∈ ids (ks.take j)) ∧ Hid (Touch [] wq wi)) (fun _ v19 _ => ks.length - (intOf v19).toNat)
                case atStart => exact ⟨0, false, rfl, rfl, Nat.zero_le _, Lib.hid (by simp [ids]), Lib.hid (Touch.refl _ _)⟩
                case round =>
                  obtain ⟨j, st, rfl, rfl, hj, hst, hti⟩ := hrel
                  by_cases hjl : j < ks.length
                  · have hR := HRK2.out.kept (hT.out.touch.trans hti.out (by simp))
                    obtain ⟨bk, offk, hA, hbk, hc⟩ := hR.at_ (by omega)
                    have HAK := Lib.hid hA
                    clear hA
                    obtain ⟨⟨y0, y1⟩, hy⟩ : ∃ x, ks[j]? = some x := ⟨_, List.getElem?_eq_getElem hjl⟩
                    obtain ⟨k0, k1⟩ := hc j _ hy
                    dsimp only at k0 k1
                    have q0 := cell_touch hti.out m0 (by simp)
                    have b6 : (j : Int) < (ks.length : Int) := by omega
                    have n1 := fun u : Near wr => u.cell k0
                    have n2 := fun u : Near wr => u.cell q0
                    have HST := Lib.hid (ids_take hy x0)
                    dsimp only at HST
                    clear hR hc hy k1
                    obtain rfl := HAK.out
                    cases st with
                    | true =>
                      go_wp2
                      refine wp_region_near (by kernel_rfl) (by kernel_rfl) ?_
                      repeat (go_big_quiet_step (fail))
                      refine wpQuiet_nil ?_
                      rintro _ ⟨u, rfl⟩
                      have TU := Lib.hid (hti.out.trans u.near (by simp))
                      clear n1 n2
                      go_wp2
                      go_roundw
                      case rel => exact ⟨j + 1, true, rfl, by go_num, by omega, Lib.hid (by rw [HST.out]; have := hst.out; simp at this ⊢; exact .inl this), TU⟩
                      case measure => simp [intOf]; omega
                    | false =>
                      by_cases he : y0 = x0
                      · have e1 : (y0 == x0) = true := by rw [beq_iff_eq]; exact he
                        have HE := Lib.hid he
                        clear he
                        go_wp2
                        refine wp_region_near (by kernel_rfl) (by kernel_rfl) ?_
                        repeat (go_big_quiet_step (fail))
                        refine wpQuiet_nil ?_
                        rintro _ ⟨u, rfl⟩
                        have TU := Lib.hid (hti.out.trans u.near (by simp))
                        clear n1 n2
                        go_wp2
                        go_roundw
                        case rel => exact ⟨j + 1, true, rfl, by go_num, by omega, Lib.hid (by rw [HST.out]; have := HE.out; simp [this]), TU⟩
                        case measure => simp [intOf]; omega
                      · have e1 : (y0 == x0) = false := by rw [beq_eq_false_iff_ne]; exact he
                        have HE := Lib.hid he
                        clear he
                        go_wp2
                        refine wp_region_near (by kernel_rfl) (by kernel_rfl) ?_
                        repeat (go_big_quiet_step (fail))
                        refine wpQuiet_nil ?_
                        rintro _ ⟨u, rfl⟩
                        have TU := Lib.hid (hti.out.trans u.near (by simp))
                        clear n1 n2
                        go_wp2
                        go_roundw
                        case rel => exact ⟨j + 1, false, rfl, by go_num, by omega, Lib.hid (by rw [HST.out]; have h5 := HE.out; have := hst.out; simp at this ⊢; exact ⟨this, fun h => h5 h.symm⟩), TU⟩
                        case measure => simp [intOf]; omega
                  · have b6 : ¬ (j : Int) < (ks.length : Int) := by omega
                    have hjk : j = ks.length := by omega
                    have hst' := hst.out
                    rw [hjk, List.take_length] at hst'
                    have HST := Lib.hid hst'
                    have HTI := Lib.hid (hT.out.near hti.out)
                    have q0 := cell_touch hti.out m0 (by simp)
                    clear hst hst' hjk hjl m0
                    cases st with
                    | true =>
                      go_wp2
                      go_roundw
                      case rel => exact ⟨k + 1, r1, by go_num, by omega, HTI, Lib.hid (fun y => by rw [hr1.out, held_stay HX.out (HST.out.1 rfl)])⟩
                      case measure => simp [intOf]; omega
                    | false =>
                      have hnot : x0 ∉ ids ks := fun h => by have := HST.out.2 h; cases this
                      have HNOT := Lib.hid hnot
                      clear hnot
                      go_wp2_with fail
                      refine (HTI.out.drop x0 HWF.out.1 (by rw [hr1.out]; exact held_some NDG.out HX.out HNOT.out)).mono ?_
                      rintro e w5 ⟨rfl, r1', hT', hv'⟩
                      have m2 : w5.cell? ⟨b, off + k * 2, none⟩ = some (.int .i64 x0) := by
                        obtain ⟨b', off', hA', _, hc'⟩ := (HRG.out.kept hT'.touch).at_ (by omega)
                        injection hA' with hA'; injection hA' with hA1 hA2; subst hA1 hA2
                        exact (hc' k _ HX.out).1
                      have HT' := Lib.hid hT'
                      have HV' : Hid (∀ y, val r1' y = held ks gs (k + 1) y) := Lib.hid (fun y => by rw [hv', held_go HX.out HNOT.out, hr1.out])
                      have HNN : Hid (val r1' x0 = none) := Lib.hid (by rw [hv', if_pos rfl])
                      clear hT' hv' q0
                      go_wp2_with fail
                      refine (HT'.out.when x0 HWF.out.1).mono ?_
                      rintro e w6 ⟨hw, rfl⟩
                      rcases hw with ⟨_, rfl⟩ | ⟨v, hv, _⟩
                      · go_wp2
                        go_roundw
                        case rel => exact ⟨k + 1, r1', by go_num, by omega, HT', HV'⟩
                        case measure => simp [intOf]; omega
                      · rw [HNN.out] at hv; cases hv
              · have b5 : ¬ (k : Int) < (gs.length : Int) := by omega
                obtain rfl : k = gs.length := by omega
                have HR1 : Hid (∀ y, val r1 y = lval ks y) := Lib.hid (fun y => by rw [hr1.out, held_end NDK.out])
                obtain ⟨wq, rfl⟩ : ∃ wq : World, wq = wr := ⟨_, rfl⟩
                clear hr1 hlt
                go_wp2_with fail
                refine (alike_calls hT.out (cap := ck) (HRK2.out.kept hT.out.touch) NDK.out HR1.out HP2.out now (by omega)).mono ?_
                rintro e w5 ⟨rfl, f1, f2, hF, hf1, hf2⟩
                have HF := Lib.hid hF
                have HF1 := Lib.hid (zero_val hF.inv.1 hf1)
                have HF2 := Lib.hid (zero_val hF.inv.2 hf2)
                clear hF
                go_wp2
                go_loopw [12, 14, 20] (fun v12 v14 v20 wr => ∃ i : Nat, v20 = .int .i64 i ∧ ((i ≤ ks.length + gs.length + 1 ∧ ∃ g1 g2 : St, Hid (Two wc wr t1 ((ks.length : Int) + (gs.length : Int) + 1) g1 t2 ((ks.length : Int) + (gs.length : Int) + 1) g2) ∧ g1.hp.length = i ∧ g2.hp.length = i ∧ Hid (∀ y, val g1 y = filled i y) ∧ Hid (∀ y, val g2 y = filled i y)) ∨ (i = ks.length + gs.length + 2 ∧ Hid (Touch [] wc wr)))) (fun _ _ v20 _ => ks.length + gs.length + 3 - (intOf v20).toNat)
                case atStart => exact ⟨0, rfl, .inl ⟨Nat.zero_le _, f1, f2, HF, hf1, hf2, Lib.hid (fun y => by rw [HF1.out]; unfold filled; rw [if_neg (by omega)]), Lib.hid (fun y => by rw [HF2.out]; unfold filled; rw [if_neg (by omega)])⟩⟩
                case round =>
                  clear hT HF HF1 HF2 hf1 hf2 HR1 HP2 H0 H1
                  obtain ⟨i, rfl, hh⟩ := hrel
                  obtain ⟨wq2, rfl⟩ : ∃ wq2 : World, wq2 = wr := ⟨_, rfl⟩
                  rcases hh with ⟨hi, g1, g2, hG, hl1, hl2, hv1, hv2⟩ | ⟨hi, hG⟩
                  · have b7 : (i : Int) ≤ (ks.length : Int) + (gs.length : Int) + 1 := by omega
                    have w1 : wfi (i : Int) := wfi_mk (by omega) (by omega)
                    have w2 : wfi (1 : Int) := wfi_mk (by omega) (by omega)
                    have HW1 := Lib.hid w1
                    have HW2 := Lib.hid w2
                    clear w1 w2
                    by_cases hlast : i < ks.length + gs.length + 1
                    · have b8 : (i : Int) < (ks.length : Int) + (gs.length : Int) + 1 := by omega
                      go_wp2_with fail
                      refine (Two.set hG.out (i : Int) 1 HW1.out HW2.out (fun _ => by omega)).mono ?_
                      rintro e w6 ⟨g1', hG1, rfl, hn1, hu1⟩
                      have HG1 := Lib.hid hG1
                      have HU1 := Lib.hid hu1
                      have hN1 : g1'.hp.length = i + 1 := by rw [hn1, hv1.out, filled_not]; simp; exact hl1
                      clear hG1 hu1 hn1
                      go_wp2_with fail
                      refine (Two.set HG1.out.swap (i : Int) 1 HW1.out HW2.out (fun _ => by omega)).mono ?_
                      rintro e w7 ⟨g2', hG2, rfl, hn2, hu2⟩
                      have HG2 := Lib.hid hG2.swap
                      have HU2 := Lib.hid hu2
                      have hN2 : g2'.hp.length = i + 1 := by rw [hn2, hv2.out, filled_not]; simp; exact hl2
                      clear hG2 hu2 hn2
                      go_wp2
                      go_roundw
                      case rel => exact ⟨i + 1, by go_num, .inl ⟨by omega, g1', g2', HG2, hN1, hN2, Lib.hid (fun y => by rw [HU1.out, filled_step, hv1.out]), Lib.hid (fun y => by rw [HU2.out, filled_step, hv2.out])⟩⟩
                      case measure => simp [intOf]; omega
                    · have b8 : ¬ (i : Int) < (ks.length : Int) + (gs.length : Int) + 1 := by omega
                      go_wp2_with fail
                      refine (Two.set_full hG.out (i : Int) 1 HW1.out HW2.out (by rw [hv1.out, filled_not]) (by omega)).mono ?_
                      rintro e w6 ⟨hG1, rfl⟩
                      have HG1 := Lib.hid hG1
                      clear hG1
                      go_wp2_with fail
                      refine (Two.set_full HG1.out.swap (i : Int) 1 HW1.out HW2.out (by rw [hv2.out, filled_not]) (by omega)).mono ?_
                      rintro e w7 ⟨hG2, rfl⟩
                      have HG2 := Lib.hid hG2.touch
                      clear hG2
                      go_wp2
                      go_roundw
                      case rel => exact ⟨i + 1, by go_num, .inr ⟨by omega, HG2⟩⟩
                      case measure => simp [intOf]; omega
                  · have b7 : ¬ (i : Int) ≤ (ks.length : Int) + (gs.length : Int) + 1 := by omega
                    go_wp2
                    go_ret
                    exact ⟨rfl, HTC.out.trans hG.out (by simp)⟩
end Go.Proofs.Ytjnhldcgemcjbaa.Tm
