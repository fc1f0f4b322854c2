/- The reference's Timers: Drop, Due by what is held; no condition. -/
import Derived.Test.YtjnhldcgemcjbaaO
namespace Go.Proofs.Ytjnhldcgemcjbaa.Tm
open Go.RowKit Go.Maps
set_option linter.unusedVariables false

def RDropPost (w : World) (rb : Nat) (R : List Nat) (lim : Int) (l : List Pr) (id : Int) (e : Ending) (w' : World) : Prop :=
  ∃ l' R', RGoes w w' rb R lim l' R' ∧ ((lval l id = none ∧ e = .returned (.int .i64 3) ∧ l' = l) ∨
    ((lval l id).isSome = true ∧ e = .returned (.int .i64 0) ∧ l'.length = l.length - 1 ∧ ∀ y, lval l' y = if y = id then none else lval l y))

theorem rdrop_calls {w : World} {rb : Nat} {R : List Nat} {lim : Int} {l : List Pr} (h : RefO w rb R lim l) (id : Int) :
    Calls Try.prog 32 #[.pointer (some ⟨rb, 0, none⟩), .int .i64 id] w (RDropPost w rb R lim l id) := by
  obtain ⟨⟨V, hR, rfl⟩, hnd, hwf, hroom, hmost⟩ := h
  have H := Lib.hid hR
  clear hR
  go_enter Try.func32, Try.ntmps32
  go_wp2_with fail
  refine (place_calls H.out id).mono ?_
  rintro e w1 ⟨r, rfl, hw1, hP⟩
  subst hw1
  rcases hP with ⟨rfl, hno⟩ | ⟨k, p, rfl, hk, hpid⟩
  · have HNO := Lib.hid hno
    clear hno
    go_wp2
    go_ret
    exact ⟨l, _, ⟨⟨⟨V, H.out, rfl⟩, hnd, hwf, hroom, hmost⟩, Touch.refl _ _, fun q hq => .inl hq⟩, .inl ⟨(lval_none id).2 HNO.out, rfl, rfl⟩⟩
  · obtain ⟨a, b⟩ := p
    dsimp only at hpid
    subst hpid
    have hkl := (List.getElem?_eq_some_iff.1 hk).1
    have b2 : ¬ (k : Int) < 0 := by omega
    have HK := Lib.hid hk
    clear hk
    go_wp2_with fail
    refine (without_calls H.out k (by omega)).mono ?_
    rintro e w2 ⟨rfl, V', h2, t2, hV⟩
    have H2 := Lib.hid h2
    have T2 := Lib.hid t2
    have HV := Lib.hid hV
    clear h2 t2 hV
    go_wp2
    go_ret
    have hlv : lval l a = some b := (lval_iff hnd a b).2 (List.mem_of_getElem? HK.out)
    refine ⟨l.eraseIdx k, _, ⟨⟨⟨V', H2.out, rfl⟩, nd_erase hnd k, fun p hp => hwf p (List.mem_of_mem_eraseIdx hp), by have := List.length_eraseIdx_le l k; omega, hmost⟩, T2.out.mono (fun x hx => .inl (by simp at hx; simp [rfoot, hx])), fun q hq => ?_⟩, .inr ⟨by rw [hlv]; rfl, rfl, by rw [List.length_eraseIdx, if_pos hkl], lval_erase hnd HK.out⟩⟩
    simp only [rfoot, List.mem_cons, Option.mem_toList] at hq ⊢
    rcases hq with rfl | hq
    · exact .inl (.inl rfl)
    · exact .inr (HV.out q hq)

/-- What is taken out at now of what m holds: lp; m' is left. -/
structure DueSpec (m : Int → Option Int) (now : Int) (lp : List Pr) (m' : Int → Option Int) : Prop where
  sorted : lp.Pairwise (fun p q => le p q ∧ p.1 ≠ q.1)
  mem : ∀ p ∈ lp, m p.1 = some p.2 ∧ p.2 ≤ now
  left : ∀ y v, m' y = some v → now < v
  vals : ∀ y, m' y = if y ∈ lp.map (·.1) then none else m y
theorem Dued.spec {s : St} {now : Int} {lp : List Pr} {s' : St} (h : Dued s now lp s') : DueSpec (val s) now lp (val s') := ⟨h.sorted, h.mem, h.left, h.vals⟩
theorem DueSpec.mem_iff {m m' : Int → Option Int} {now : Int} {lp : List Pr} (h : DueSpec m now lp m') (p : Pr) : p ∈ lp ↔ m p.1 = some p.2 ∧ p.2 ≤ now := by
  refine ⟨h.mem p, fun ⟨h1, h2⟩ => ?_⟩
  by_cases hy : p.1 ∈ lp.map (·.1)
  · obtain ⟨q, hq, e⟩ := List.mem_map.1 hy
    have := (h.mem q hq).1
    rw [e, h1] at this
    obtain ⟨a, b⟩ := p
    obtain ⟨c, d⟩ := q
    simp only at e this
    injection this with this
    rw [← e, this]; exact hq
  · have h3 := h.vals p.1
    rw [if_neg hy, h1] at h3
    have := h.left _ _ h3
    omega
theorem sorted_unique : ∀ (l1 l2 : List Pr), l1.Pairwise (fun p q => le p q ∧ p.1 ≠ q.1) → l2.Pairwise (fun p q => le p q ∧ p.1 ≠ q.1) → (∀ p, p ∈ l1 ↔ p ∈ l2) → l1 = l2
  | [], [], _, _, _ => rfl
  | [], b :: r, _, _, h => by have := (h b).2 (by simp); simp at this
  | a :: r, [], _, _, h => by have := (h a).1 (by simp); simp at this
  | a :: r, b :: r', h1, h2, h => by
    obtain ⟨ha, h1'⟩ := List.pairwise_cons.1 h1
    obtain ⟨hb, h2'⟩ := List.pairwise_cons.1 h2
    have e : a = b := by
      rcases List.mem_cons.1 ((h a).1 (by simp)) with e | e
      · exact e
      · rcases List.mem_cons.1 ((h b).2 (by simp)) with e' | e'
        · exact e'.symm
        · exact le_anti (ha b e').1 (hb a e).1
    subst e
    rw [sorted_unique r r' h1' h2' (fun p => ?_)]
    constructor
    · intro hp
      rcases List.mem_cons.1 ((h p).1 (by simp [hp])) with e | e
      · subst e; exact absurd rfl (ha p hp).2
      · exact e
    · intro hp
      rcases List.mem_cons.1 ((h p).2 (by simp [hp])) with e | e
      · subst e; exact absurd rfl (hb p hp).2
      · exact e
theorem DueSpec.unique {m m1 m2 : Int → Option Int} {now : Int} {l1 l2 : List Pr} (h1 : DueSpec m now l1 m1) (h2 : DueSpec m now l2 m2) : l1 = l2 :=
  sorted_unique l1 l2 h1.sorted h2.sorted (fun p => by rw [h1.mem_iff, h2.mem_iff])

structure RDuing (l : List Pr) (now : Int) (lp : List Pr) (t : List Pr) : Prop where
  sorted : lp.Pairwise (fun p q => le p q ∧ p.1 ≠ q.1)
  mem : ∀ p ∈ lp, lval l p.1 = some p.2 ∧ p.2 ≤ now
  later : ∀ p ∈ lp, ∀ q ∈ t, le p q
  vals : ∀ y, lval t y = if y ∈ lp.map (·.1) then none else lval l y
  len : t.length + lp.length = l.length
  nd : Nd t
  sub : ∀ p ∈ t, p ∈ l
theorem RDuing.start {l : List Pr} (h : Nd l) (now : Int) : RDuing l now [] l := ⟨List.Pairwise.nil, by simp, by simp, by simp, by simp, h, fun _ h => h⟩
theorem RDuing.step {l t : List Pr} {now : Int} {lp : List Pr} {a b : Int} (h : RDuing l now lp t) {k : Nat} (hk : t[k]? = some (a, b)) (hmin : ∀ q ∈ t, le (a, b) q) (hb : b ≤ now) : RDuing l now (lp ++ [(a, b)]) (t.eraseIdx k) := by
  have hkl := (List.getElem?_eq_some_iff.1 hk).1
  have hva : lval t a = some b := (lval_iff h.nd a b).2 (List.mem_of_getElem? hk)
  have hna : a ∉ lp.map (·.1) := fun hx => by have := h.vals a; rw [if_pos hx, hva] at this; cases this
  refine ⟨?_, ?_, ?_, ?_, ?_, nd_erase h.nd k, fun p hp => h.sub p (List.mem_of_mem_eraseIdx hp)⟩
  · rw [List.pairwise_append]
    refine ⟨h.sorted, by simp, fun p hp q hq => ?_⟩
    simp at hq
    subst hq
    refine ⟨h.later p hp _ (List.mem_of_getElem? hk), fun e => hna ?_⟩
    rw [← show p.1 = a from e]; exact List.mem_map_of_mem hp
  · intro p hp
    rcases List.mem_append.1 hp with h1 | h1
    · exact h.mem p h1
    · simp at h1; subst h1
      have := h.vals a
      rw [if_neg hna, hva] at this
      exact ⟨this.symm, hb⟩
  · intro p hp q hq
    have hq' := List.mem_of_mem_eraseIdx hq
    rcases List.mem_append.1 hp with h1 | h1
    · exact h.later p h1 q hq'
    · simp at h1; subst h1
      exact hmin q hq'
  · intro y
    rw [lval_erase h.nd hk y]
    dsimp only
    by_cases e : y = a
    · rw [if_pos e, if_pos (by rw [e]; simp)]
    · rw [if_neg e, h.vals y]
      by_cases e2 : y ∈ lp.map (·.1)
      · rw [if_pos e2, if_pos (by simp at e2 ⊢; exact .inl e2)]
      · rw [if_neg e2, if_neg (by simp at e2 ⊢; exact ⟨e2, e⟩)]
  · rw [List.length_eraseIdx, if_pos hkl]; simp; have := h.len; omega
theorem RDuing.stop {l t : List Pr} {now : Int} {lp : List Pr} (h : RDuing l now lp t) (hs : ∀ q ∈ t, now < q.2) : DueSpec (lval l) now lp (lval t) :=
  ⟨h.sorted, h.mem, fun y v hv => hs _ ((lval_iff h.nd y v).1 hv), h.vals⟩

def RDuePost (w : World) (rb : Nat) (R : List Nat) (lim : Int) (l : List Pr) (now : Int) (e : Ending) (w' : World) : Prop :=
  ∃ V lp l' R', e = .returned V ∧ RGoes w w' rb R lim l' R' ∧ IRow w' w.heap.size V (lp.map (·.1)) ∧ DueSpec (lval l) now lp (lval l') ∧ l'.length + lp.length = l.length ∧ ∀ k, V.ownBlock = some k → k ∉ R'

theorem IRow.apart {w : World} {base : Nat} {V V' : Value} {l : List Int} {e : TypeId} {l' : List Pr} (h : IRow w base V l) (h' : PRow w e V' l') (hne : e ≠ 3) : ∀ k, V.ownBlock = some k → V'.ownBlock ≠ some k := by
  intro k hk hk'
  rcases h.2 with ⟨rfl, _⟩ | ⟨g, cap, cur, rfl, _, hh, _⟩
  · simp [Value.ownBlock] at hk
  · simp [Value.ownBlock] at hk
    subst hk
    exact h'.ne_of hne hh g hk' rfl

set_option maxHeartbeats 1000000 in
theorem rdue_calls {w : World} {rb : Nat} {R : List Nat} {lim : Int} {l : List Pr} (h : RefO w rb R lim l) (now : Int) :
    Calls Try.prog 35 #[.pointer (some ⟨rb, 0, none⟩), .int .i64 now] w (RDuePost w rb R lim l now) := by
  obtain ⟨⟨V0, hR, rfl⟩, hnd, hwf, hroom, hmost⟩ := h
  have hf0 := hR.foot_lt
  have hrbw := hR.rb_lt
  have H := Lib.hid hR
  clear hR
  go_enter Try.func35, Try.ntmps35
  go_wp2
  go_loopg [5] l.length (fun kq v5 wr => ∃ (lp t : List Pr) (V : Value), Hid (RefAt wr rb V lim t) ∧ Hid (Touch (rfoot rb V0) w wr) ∧ Hid (∀ k, V.ownBlock = some k → V0.ownBlock = some k ∨ w.heap.size ≤ k) ∧ Hid (IRow wr w.heap.size v5 (lp.map (·.1))) ∧ Hid (RDuing l now lp t) ∧ t.length ≤ kq)
  case atStart => exact ⟨[], l, V0, H, Lib.hid (Touch.refl _ _), Lib.hid (fun k hk => .inl hk), Lib.hid (IRow.nil _ _), Lib.hid (RDuing.start hnd now), Nat.le_refl _⟩
  case round =>
    obtain ⟨lp, t, V, hA, hT, hV, hI, hD, hk⟩ := hrel
    obtain ⟨A5, c5, hv5⟩ := hI.out.form
    rw [List.length_map] at hv5
    subst hv5
    obtain ⟨A, cap, hVs⟩ := hA.out.row.form
    subst hVs
    have hlt : t.length + lp.length = l.length := hD.out.len
    obtain ⟨c0, c1, f1, hrb⟩ := blk2_cells hA.out.blk
    have hob : ∀ k, k ∈ (Value.slice A5 lp.length c5).ownBlock.toList → w.heap.size ≤ k := fun k hk => (hI.out.block k (by simpa using hk)).1
    have hfin : ∀ (wq : World), Touch [] wr wq → (∀ q ∈ t, now < q.2) → RDuePost w rb (rfoot rb V0) lim l now (.returned (.slice A5 lp.length c5)) wq := by
      intro wq tq hq
      refine ⟨_, lp, t, _, rfl, ⟨⟨⟨_, hA.out.kept tq (by simp), rfl⟩, hD.out.nd, fun p hp => hwf p (hD.out.sub p hp), by omega, hmost⟩, hT.out.trans tq (by simp), fun k hk => ?_⟩, hI.out.kept tq (by simp), hD.out.stop hq, hlt, fun k hk hx => ?_⟩
      · simp only [rfoot, List.mem_cons, Option.mem_toList] at hk ⊢
        rcases hk with rfl | hk
        · exact .inl (.inl rfl)
        · exact (hV.out k hk).imp (fun h => .inr h) (fun h => h)
      · simp only [rfoot, List.mem_cons, Option.mem_toList] at hx
        rcases hx with rfl | hx
        · have := hob k (by simpa using hk); omega
        · exact hI.out.apart hA.out.row (by decide) k hk hx
    have HF := Lib.hid hfin
    clear hfin
    by_cases h0 : 0 < t.length
    · have hd0 : decide (0 < t.length) = true := by rw [decide_eq_true_eq]; exact h0
      go_wp2_with fail
      refine (first_calls hA.out).mono ?_
      rintro e w1 ⟨r, rfl, ht1, hP⟩
      rcases hP with ⟨_, hl0⟩ | ⟨k, p, rfl, hkl, hkp, hall⟩
      · omega
      obtain ⟨a, b⟩ := p
      have hA1 := hA.out.kept ht1 (by simp)
      obtain ⟨d0, d1, g1, hrb1⟩ := blk2_cells hA1.blk
      obtain ⟨g, cap2, hVV, hg, hcap, _, cur, hcur⟩ := hA1.row.formP h0
      injection hVV with hV1 hV2 hV3
      subst hV1 hV3
      obtain ⟨k0, k1, z0, z1⟩ := hA1.row.cell k (a, b) hkp
      dsimp only at k0 k1
      have b1 : (k : Int) < (t.length : Int) := by omega
      have hmin : ∀ q ∈ t, le (a, b) q := fun q hq => by
        obtain ⟨i, hi⟩ := List.mem_iff_getElem?.1 hq
        exact hall i q (List.getElem?_eq_some_iff.1 hi).1 hi
      have HM := Lib.hid hmin
      have HKP := Lib.hid hkp
      have HA1 := Lib.hid hA1
      have HT1 := Lib.hid ht1
      clear hmin hkp hA1 ht1 hall hcur hV2 c0 c1 f1
      by_cases hb : now < b
      · have HB := Lib.hid hb
        have e1 : decide (now < b) = true := by rw [decide_eq_true_eq]; exact hb
        clear hb
        go_wp2
        go_ret
        refine HF.out _ HT1.out (fun q hq => ?_)
        have := HM.out q hq
        have := HB.out
        unfold le at *
        dsimp only at *
        omega
      · have HB := Lib.hid hb
        have e1 : decide (now < b) = false := by rw [decide_eq_false_iff_not]; exact hb
        clear hb
        have hI1 := hI.out.kept HT1.out (by simp)
        have hw1 : w.heap.size ≤ w1.heap.size := Nat.le_trans hT.out.size HT1.out.size
        have hlp : lp.length < 8796093022208 := by omega
        have HI1 := Lib.hid hI1
        have hD2 := hD.out.step HKP.out HM.out (by have := HB.out; omega)
        have HD2 := Lib.hid hD2
        clear hI1 hD2
        go_wp2_with (first | (at_builtin; go_must (refine wpList_append_i rfl (.tmp 26) (.tmp 35) rfl w.heap.size (.slice A5 lp.length c5) (lp.map (·.1)) a rfl HI1.out hw1 rfl (by rw [List.length_map]; exact hlp) ?_); go_must (intro A1 c1' w2 hr1 ht2 hV1; have HR1 := Lib.hid hr1; have HT2 := Lib.hid ht2; have HV1 := Lib.hid hV1; clear hr1 ht2 hV1)) | fail)
        have hA2 := HA1.out.kept HT2.out (fun q hq hx => by
          have h1 := hob q hx
          simp only [rfoot, List.mem_cons, Option.mem_toList] at hq
          rcases hq with rfl | hq
          · omega
          · exact HI1.out.apart HA1.out.row (by decide) q (by simpa using hx) hq)
        refine (without_calls hA2 k (by omega)).mono ?_
        rintro e w3 ⟨rfl, V3, h3, t3, hV3⟩
        have H3 := Lib.hid h3
        have T3 := Lib.hid t3
        have HV3 := Lib.hid hV3
        have hlt3 : (t.eraseIdx k).length < gk := by rw [List.length_eraseIdx, if_pos hkl]; omega
        clear h3 t3 hV3 hA2
        go_wp2
        go_roundg (gk - 1)
        case rel =>
          have hs2 : w.heap.size ≤ w2.heap.size := Nat.le_trans hw1 HT2.out.size
          refine ⟨lp ++ [(a, b)], t.eraseIdx k, V3, H3, Lib.hid ?_, Lib.hid (fun q hq => .inr (Nat.le_trans hs2 (HV3.out q hq))), Lib.hid ?_, HD2, by omega⟩
          · exact ((hT.out.trans HT1.out (by simp)).trans HT2.out (fun x hx => .inr (hob x hx))).trans T3.out (fun x hx => .inl (by simp at hx; simp [rfoot, hx]))
          · have := HR1.out.kept T3.out (fun q hq => by have := (HR1.out.block q hq).1; simp; omega)
            simpa using this
        case measure => omega
    · have hd0 : decide (0 < t.length) = false := by rw [decide_eq_false_iff_not]; exact h0
      have HZ := Lib.hid h0
      clear h0
      go_wp2
      go_ret
      exact HF.out _ (Touch.refl _ _) (fun q hq => by have := HZ.out; have := List.length_pos_of_mem hq; omega)
end Go.Proofs.Ytjnhldcgemcjbaa.Tm
