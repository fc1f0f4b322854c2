/- plays of the Timer law; no condition. -/
import Derived.Test.YtjnhldcgemcjbaaS
namespace Go.Proofs.Ytjnhldcgemcjbaa.Tm
open Go.RowKit Go.Maps
set_option linter.unusedVariables false

def PlaysPost (w : World) (tb rb : Nat) (lim : Int) (F : List Nat) (e : Ending) (w' : World) : Prop := e = .returned (.bool true) ∧ DuoPost w tb rb lim F w'

theorem box4 {w : World} {n : Nat} {a b c d : Value} {t : TypeId} (h : w.heap[n]? = some (.cells #[a, b, c, d] t (0, 0))) : w.cell? ⟨n, 0, none⟩ = some a ∧ w.cell? ⟨n, 2, none⟩ = some c ∧ w.cell? ⟨n, 3, none⟩ = some d ∧ n < w.heap.size := by
  refine ⟨?_, ?_, ?_, (Array.getElem?_eq_some_iff.1 h).1⟩ <;> simp [World.cell?, h]

/-- The parameter's box is laid: all stands in the world behind it. -/
theorem boxed {w : World} {tb rb : Nat} {lim : Int} {F : List Nat} (h : Duo w tb rb lim F) (o : Obj) : ∃ S R s l, Both (w.alloc o) tb rb lim S R s l ∧ F = S ++ R ∧ (∀ k ∈ S, k < w.heap.size) ∧ (∀ k ∈ R, k < w.heap.size) ∧ ∀ w', DuoPost (w.alloc o) tb rb lim (S ++ R) w' → DuoPost w tb rb lim F w' := by
  obtain ⟨S, R, s, l, hB, rfl⟩ := h
  have tb0 : Touch [] w (w.alloc o) := (Touch.refl _ _).alloc _
  refine ⟨S, R, s, l, ⟨hB.tim.kept tb0 (by simp), hB.ref.kept tb0 (by simp), hB.apart, hB.vals, hB.len⟩, rfl, hB.tim.lt, hB.ref.lt, ?_⟩
  rintro w' ⟨F', h1, h2, h3⟩
  have := tb0.size
  exact ⟨F', h1, (tb0.mono (S' := S ++ R) (by simp)).trans h2 (fun x hx => .inl hx), fun k hk => (h3 k hk).imp (fun h => h) (fun h => by omega)⟩

set_option maxHeartbeats 1000000 in
theorem plays_set {w : World} {tb rb : Nat} {lim : Int} {F : List Nat} (h : Duo w tb rb lim F) (on id at_ : Int) (hid : wfi id) (hat : wfi at_) :
    Calls Try.prog 23 #[.pointer (some ⟨tb, 0, none⟩), .pointer (some ⟨rb, 0, none⟩), .agg #[.int .i64 1, .int .i64 on, .int .i64 id, .int .i64 at_]] w (PlaysPost w tb rb lim F) := by
  obtain ⟨S, R, s, l, hB, rfl, hS, hR, hfin⟩ := boxed h (.cells #[.int .i64 1, .int .i64 on, .int .i64 id, .int .i64 at_] 54)
  have hbx := heap_alloc_new w (.cells #[.int .i64 1, .int .i64 on, .int .i64 id, .int .i64 at_] 54)
  have hnS : w.heap.size ∉ S := fun hx => by have := hS _ hx; omega
  have hnR : w.heap.size ∉ R := fun hx => by have := hR _ hx; omega
  have HFIN := Lib.hid hfin
  have HBX := Lib.hid hbx
  have HB := Lib.hid hB
  clear hfin hbx hB
  go_enter Try.func23, Try.ntmps23
  go_wp2_with fail
  refine (set_calls HB.out.tim id at_ hid hat).mono ?_
  rintro e w1 ⟨s1, S1, g1, hs⟩
  have hb1 := (g1.touch.block w.heap.size (by simp) hnS).trans HBX.out
  obtain ⟨q0, q2, q3, q4⟩ := box4 hb1
  have hr1 := HB.out.ref_kept g1.touch
  have hv1 := HB.out.vals id
  have hl1 := HB.out.len
  have G1 := Lib.hid g1
  clear hb1 g1
  rcases hs with ⟨hn, hlim, rfl, rfl⟩ | ⟨hn, rfl, hlen, hval⟩
  · have HN := Lib.hid hn
    have HLIM := Lib.hid hlim
    have HV1 := Lib.hid hv1
    have HL1 := Lib.hid hl1
    clear hn hlim hv1 hl1
    go_wp2_with fail
    refine (rset_calls hr1 id at_ hid hat).mono ?_
    rintro e w2 ⟨l2, R2, g2, hr⟩
    rcases hr with ⟨_, _, rfl, rfl⟩ | ⟨hx, _⟩
    · have G2 := Lib.hid g2
      clear g2
      go_wp2
      go_ret
      exact ⟨rfl, HFIN.out _ (both_next HB.out G1.out G2.out HB.out.vals HB.out.len)⟩
    · have := HN.out; have := HLIM.out; have := HV1.out; have := HL1.out; exact absurd hx (by rw [← HV1.out, HN.out]; simp; omega)
  · have HN := Lib.hid hn
    have HLEN := Lib.hid hlen
    have HVAL := Lib.hid hval
    have HV1 := Lib.hid hv1
    have HL1 := Lib.hid hl1
    clear hn hlen hval hv1 hl1
    go_wp2_with fail
    refine (rset_calls hr1 id at_ hid hat).mono ?_
    rintro e w2 ⟨l2, R2, g2, hr⟩
    rcases hr with ⟨hx, hy, rfl, rfl⟩ | ⟨hx, rfl, hlen2, hval2⟩
    · have := HL1.out; exact absurd HN.out (by rw [HV1.out, hx]; simp; omega)
    · have G2 := Lib.hid g2
      have HLEN2 := Lib.hid hlen2
      have HVAL2 := Lib.hid hval2
      clear g2 hlen2 hval2 hx
      go_wp2
      go_ret
      exact ⟨rfl, HFIN.out _ (both_next HB.out G1.out G2.out (fun y => by rw [HVAL.out, HVAL2.out, HB.out.vals]) (by rw [HLEN.out, HLEN2.out, HV1.out, HL1.out]))⟩

set_option maxHeartbeats 1000000 in
theorem plays_drop {w : World} {tb rb : Nat} {lim : Int} {F : List Nat} (h : Duo w tb rb lim F) (on id at_ : Int) (hid : wfi id) (hat : wfi at_) :
    Calls Try.prog 23 #[.pointer (some ⟨tb, 0, none⟩), .pointer (some ⟨rb, 0, none⟩), .agg #[.int .i64 2, .int .i64 on, .int .i64 id, .int .i64 at_]] w (PlaysPost w tb rb lim F) := by
  obtain ⟨S, R, s, l, hB, rfl, hS, hR, hfin⟩ := boxed h (.cells #[.int .i64 2, .int .i64 on, .int .i64 id, .int .i64 at_] 54)
  have hbx := heap_alloc_new w (.cells #[.int .i64 2, .int .i64 on, .int .i64 id, .int .i64 at_] 54)
  have hnS : w.heap.size ∉ S := fun hx => by have := hS _ hx; omega
  have hnR : w.heap.size ∉ R := fun hx => by have := hR _ hx; omega
  have HFIN := Lib.hid hfin
  have HBX := Lib.hid hbx
  have HB := Lib.hid hB
  clear hfin hbx hB
  go_enter Try.func23, Try.ntmps23
  go_wp2_with fail
  refine (drop_calls HB.out.tim id hid).mono ?_
  rintro e w1 ⟨s1, ht1, tt1, hs⟩
  have hb1 := (tt1.block w.heap.size (by simp) hnS).trans HBX.out
  obtain ⟨q0, q2, q3, q4⟩ := box4 hb1
  have hr1 := HB.out.ref_kept tt1
  have g1 : Goes (w.alloc (.cells #[.int .i64 2, .int .i64 on, .int .i64 id, .int .i64 at_] 54)) w1 tb S lim s1 S := ⟨ht1, tt1, fun k hk => .inl hk⟩
  have hv1 := HB.out.vals id
  have hl1 := HB.out.len
  have G1 := Lib.hid g1
  have HV1 := Lib.hid hv1
  have HL1 := Lib.hid hl1
  clear hb1 g1 hv1 hl1 ht1 tt1
  rcases hs with ⟨hn, rfl, rfl⟩ | ⟨hn, rfl, hlen, hpos, hval⟩
  · have HN := Lib.hid hn
    clear hn
    go_wp2_with fail
    refine (rdrop_calls hr1 id).mono ?_
    rintro e w2 ⟨l2, R2, g2, hr⟩
    rcases hr with ⟨_, rfl, rfl⟩ | ⟨hx, _⟩
    · have G2 := Lib.hid g2
      clear g2
      go_wp2
      go_ret
      exact ⟨rfl, HFIN.out _ (both_next HB.out G1.out G2.out HB.out.vals HB.out.len)⟩
    · exact absurd hx (by rw [← HV1.out, HN.out]; simp)
  · have HN := Lib.hid hn
    have HLEN := Lib.hid hlen
    have HVAL := Lib.hid hval
    clear hn hlen hval
    go_wp2_with fail
    refine (rdrop_calls hr1 id).mono ?_
    rintro e w2 ⟨l2, R2, g2, hr⟩
    rcases hr with ⟨hx, rfl, rfl⟩ | ⟨hx, rfl, hlen2, hval2⟩
    · exact absurd HN.out (by rw [HV1.out, hx]; simp)
    · have G2 := Lib.hid g2
      have HLEN2 := Lib.hid hlen2
      have HVAL2 := Lib.hid hval2
      clear g2 hlen2 hval2 hx
      go_wp2
      go_ret
      exact ⟨rfl, HFIN.out _ (both_next HB.out G1.out G2.out (fun y => by rw [HVAL.out, HVAL2.out, HB.out.vals]) (by rw [HLEN.out, HLEN2.out, HL1.out]))⟩

set_option maxHeartbeats 1000000 in
theorem plays_when {w : World} {tb rb : Nat} {lim : Int} {F : List Nat} (h : Duo w tb rb lim F) (on id at_ : Int) (hid : wfi id) (hat : wfi at_) :
    Calls Try.prog 23 #[.pointer (some ⟨tb, 0, none⟩), .pointer (some ⟨rb, 0, none⟩), .agg #[.int .i64 3, .int .i64 on, .int .i64 id, .int .i64 at_]] w (PlaysPost w tb rb lim F) := by
  obtain ⟨S, R, s, l, hB, rfl, hS, hR, hfin⟩ := boxed h (.cells #[.int .i64 3, .int .i64 on, .int .i64 id, .int .i64 at_] 54)
  have hbx := heap_alloc_new w (.cells #[.int .i64 3, .int .i64 on, .int .i64 id, .int .i64 at_] 54)
  have hnS : w.heap.size ∉ S := fun hx => by have := hS _ hx; omega
  have hnR : w.heap.size ∉ R := fun hx => by have := hR _ hx; omega
  have HFIN := Lib.hid hfin
  have HBX := Lib.hid hbx
  have HB := Lib.hid hB
  clear hfin hbx hB
  go_enter Try.func23, Try.ntmps23
  go_wp2_with fail
  refine (when_calls HB.out.tim id hid).mono ?_
  rintro e w1 ⟨hw, hw1⟩
  subst hw1
  have hb1 := HBX.out
  obtain ⟨q0, q2, q3, q4⟩ := box4 hb1
  have hv1 := HB.out.vals id
  have HV1 := Lib.hid hv1
  clear hb1 hv1
  rcases hw with ⟨hn, rfl⟩ | ⟨v, hn, rfl⟩
  · have HN := Lib.hid hn
    clear hn
    go_wp2_with fail
    refine (rwhen_calls HB.out.ref id).mono ?_
    rintro e w2 ⟨hr, hw2⟩
    subst hw2
    rcases hr with ⟨_, rfl⟩ | ⟨u, hx, _⟩
    · go_wp2
      go_ret
      exact ⟨rfl, HFIN.out _ (HB.out.post (Touch.refl _ _))⟩
    · exact absurd hx (by rw [← HV1.out, HN.out]; simp)
  · have HN := Lib.hid hn
    clear hn
    go_wp2_with fail
    refine (rwhen_calls HB.out.ref id).mono ?_
    rintro e w2 ⟨hr, hw2⟩
    subst hw2
    rcases hr with ⟨hx, rfl⟩ | ⟨u, hx, rfl⟩
    · exact absurd HN.out (by rw [HV1.out, hx]; simp)
    · have huv : v = u := by have := HN.out; rw [HV1.out, hx] at this; injection this with this; exact this.symm
      subst huv
      have ee : (v == v) = true := by simp
      clear hx
      go_wp2
      go_ret
      exact ⟨rfl, HFIN.out _ (HB.out.post (Touch.refl _ _))⟩

set_option maxHeartbeats 1000000 in
theorem plays_next {w : World} {tb rb : Nat} {lim : Int} {F : List Nat} (h : Duo w tb rb lim F) (on id at_ : Int) (hid : wfi id) (hat : wfi at_) :
    Calls Try.prog 23 #[.pointer (some ⟨tb, 0, none⟩), .pointer (some ⟨rb, 0, none⟩), .agg #[.int .i64 4, .int .i64 on, .int .i64 id, .int .i64 at_]] w (PlaysPost w tb rb lim F) := by
  obtain ⟨S, R, s, l, hB, rfl, hS, hR, hfin⟩ := boxed h (.cells #[.int .i64 4, .int .i64 on, .int .i64 id, .int .i64 at_] 54)
  have hbx := heap_alloc_new w (.cells #[.int .i64 4, .int .i64 on, .int .i64 id, .int .i64 at_] 54)
  have hnS : w.heap.size ∉ S := fun hx => by have := hS _ hx; omega
  have hnR : w.heap.size ∉ R := fun hx => by have := hR _ hx; omega
  have HFIN := Lib.hid hfin
  have HBX := Lib.hid hbx
  have HB := Lib.hid hB
  clear hfin hbx hB
  go_enter Try.func23, Try.ntmps23
  go_wp2_with fail
  refine (next_calls HB.out.tim).mono ?_
  rintro e1 w1 ⟨hn, tt1⟩
  have hr1 := HB.out.ref.kept tt1 (by simp)
  have T1 := Lib.hid tt1
  have hN := Lib.hid hn
  rcases hn with ⟨_, rfl⟩ | ⟨a, b, _, _, _, rfl⟩
  all_goals
    go_wp2_with fail
    refine (rnext_calls hr1).mono ?_
    rintro e2 w2 ⟨hr, tt2⟩
    have he := HB.out.nextEq hN.out hr
    subst he
    have T2 := Lib.hid tt2
    clear tt2 hr tt1
    first | (have ee : (a == a) = true := by simp) | skip
    first | (have ee2 : (b == b) = true := by simp) | skip
    go_wp2
    go_ret
    exact ⟨rfl, HFIN.out _ (HB.out.post (T1.out.trans T2.out (by simp)))⟩

set_option maxHeartbeats 1000000 in
theorem plays_due {w : World} {tb rb : Nat} {lim : Int} {F : List Nat} (h : Duo w tb rb lim F) (on id at_ : Int) (hid : wfi id) (hat : wfi at_) :
    Calls Try.prog 23 #[.pointer (some ⟨tb, 0, none⟩), .pointer (some ⟨rb, 0, none⟩), .agg #[.int .i64 5, .int .i64 on, .int .i64 id, .int .i64 at_]] w (PlaysPost w tb rb lim F) := by
  obtain ⟨S, R, s, l, hB, rfl, hS, hR, hfin⟩ := boxed h (.cells #[.int .i64 5, .int .i64 on, .int .i64 id, .int .i64 at_] 54)
  have hbx := heap_alloc_new w (.cells #[.int .i64 5, .int .i64 on, .int .i64 id, .int .i64 at_] 54)
  have hnS : w.heap.size ∉ S := fun hx => by have := hS _ hx; omega
  have hnR : w.heap.size ∉ R := fun hx => by have := hR _ hx; omega
  have HFIN := Lib.hid hfin
  have HBX := Lib.hid hbx
  have HB := Lib.hid hB
  clear hfin hbx hB
  go_enter Try.func23, Try.ntmps23
  go_wp2_with fail
  refine (due_calls HB.out.tim at_).mono ?_
  rintro e w1 ⟨V1, lp1, s1, rfl, ht1, tt1, hi1, hd1⟩
  have hb1 := (tt1.block w.heap.size (by simp) hnS).trans HBX.out
  obtain ⟨q0, q2, q3, q4⟩ := box4 hb1
  have hr1 := HB.out.ref_kept tt1
  have g1 : Goes (w.alloc (.cells #[.int .i64 5, .int .i64 on, .int .i64 id, .int .i64 at_] 54)) w1 tb S lim s1 S := ⟨ht1, tt1, fun k hk => .inl hk⟩
  have G1 := Lib.hid g1
  have HI1 := Lib.hid hi1
  have HD1 := Lib.hid hd1
  obtain ⟨A1, c1, hV1⟩ := hi1.form
  rw [List.length_map] at hV1
  subst hV1
  clear hb1 g1 ht1 tt1 hi1 hd1
  go_wp2_with fail
  refine (rdue_calls hr1 at_).mono ?_
  rintro e w2 ⟨V2, lp2, l2, R2, rfl, g2, hi2, hd2, hlen2, _⟩
  have hds : DueSpec (lval l) at_ lp1 (val s1) := by
    have := HD1.out.spec
    have e : val s = lval l := funext HB.out.vals
    rw [e] at this; exact this
  have hlp : lp1 = lp2 := hds.unique hd2
  subst hlp
  have hi1 := HI1.out.kept g2.touch (fun k hk hx => by have h1 := (HI1.out.block k hk).1; rw [World.size_alloc] at h1; have := hR k hx; omega)
  have hvv : ∀ y, val s1 y = lval l2 y := fun y => by rw [hds.vals, hd2.vals]
  have hll : s1.hp.length = l2.length := by have := HD1.out.len; have := HB.out.len; omega
  obtain ⟨A2, c2, hV2⟩ := hi2.form
  rw [List.length_map] at hV2
  subst hV2
  have G2 := Lib.hid g2
  have HI1' := Lib.hid hi1
  have HI2 := Lib.hid hi2
  have HVV := Lib.hid hvv
  have HLL := Lib.hid hll
  clear g2 hi1 hi2 hd2 hds hvv hll hlen2
  go_wp2_with fail
  refine (same_calls HI1'.out HI2.out).mono ?_
  rintro e w3 ⟨rfl, tt3⟩
  have T3 := Lib.hid tt3
  clear tt3
  go_wp2
  go_ret
  exact ⟨rfl, HFIN.out _ ((both_next HB.out G1.out G2.out HVV.out HLL.out).near T3.out)⟩

set_option maxHeartbeats 1000000 in
theorem plays_len {w : World} {tb rb : Nat} {lim : Int} {F : List Nat} (h : Duo w tb rb lim F) (on id at_ : Int) (hid : wfi id) (hat : wfi at_) :
    Calls Try.prog 23 #[.pointer (some ⟨tb, 0, none⟩), .pointer (some ⟨rb, 0, none⟩), .agg #[.int .i64 6, .int .i64 on, .int .i64 id, .int .i64 at_]] w (PlaysPost w tb rb lim F) := by
  obtain ⟨S, R, s, l, hB, rfl, hS, hR, hfin⟩ := boxed h (.cells #[.int .i64 6, .int .i64 on, .int .i64 id, .int .i64 at_] 54)
  have hbx := heap_alloc_new w (.cells #[.int .i64 6, .int .i64 on, .int .i64 id, .int .i64 at_] 54)
  have hnS : w.heap.size ∉ S := fun hx => by have := hS _ hx; omega
  have hnR : w.heap.size ∉ R := fun hx => by have := hR _ hx; omega
  have HFIN := Lib.hid hfin
  have HBX := Lib.hid hbx
  have HB := Lib.hid hB
  clear hfin hbx hB
  go_enter Try.func23, Try.ntmps23
  go_wp2_with fail
  obtain ⟨⟨V, mb, hT, _⟩, _⟩ := HB.out.tim
  refine (len_calls hT).mono ?_
  rintro e w1 ⟨rfl, hw1⟩
  subst hw1
  obtain ⟨⟨V2, hR2, _⟩, _⟩ := HB.out.ref
  have hl := HB.out.len
  have ee : ((s.hp.length : Int) == (l.length : Int)) = true := by rw [beq_iff_eq]; omega
  have HL := Lib.hid hl
  have HR2 := Lib.hid hR2
  clear hl hT hR2
  go_wp2_with fail
  refine (rlen_calls HR2.out).mono ?_
  rintro e w2 ⟨rfl, hw2⟩
  subst hw2
  go_wp2
  go_ret
  exact ⟨rfl, HFIN.out _ (HB.out.post (Touch.refl _ _))⟩

theorem plays_other {w : World} {tb rb : Nat} {lim : Int} {F : List Nat} (h : Duo w tb rb lim F) (kd on id at_ : Int) (h1 : kd ≠ 1) (h2 : kd ≠ 2) (h3 : kd ≠ 3) (h4 : kd ≠ 4) (h5 : kd ≠ 5) (h6 : kd ≠ 6) :
    Calls Try.prog 23 #[.pointer (some ⟨tb, 0, none⟩), .pointer (some ⟨rb, 0, none⟩), .agg #[.int .i64 kd, .int .i64 on, .int .i64 id, .int .i64 at_]] w (PlaysPost w tb rb lim F) := by
  obtain ⟨S, R, s, l, hB, rfl, hS, hR, hfin⟩ := boxed h (.cells #[.int .i64 kd, .int .i64 on, .int .i64 id, .int .i64 at_] 54)
  have e1 : (kd == 1) = false := by rw [beq_eq_false_iff_ne]; exact h1
  have e2 : (kd == 2) = false := by rw [beq_eq_false_iff_ne]; exact h2
  have e3 : (kd == 3) = false := by rw [beq_eq_false_iff_ne]; exact h3
  have e4 : (kd == 4) = false := by rw [beq_eq_false_iff_ne]; exact h4
  have e5 : (kd == 5) = false := by rw [beq_eq_false_iff_ne]; exact h5
  have e6 : (kd == 6) = false := by rw [beq_eq_false_iff_ne]; exact h6
  have HFIN := Lib.hid hfin
  have HB := Lib.hid hB
  clear hfin hB h1 h2 h3 h4 h5 h6
  go_enter Try.func23, Try.ntmps23
  go_wp2
  go_ret
  exact ⟨rfl, HFIN.out _ (HB.out.post (Touch.refl _ _))⟩

theorem plays_calls {w : World} {tb rb : Nat} {lim : Int} {F : List Nat} (h : Duo w tb rb lim F) (kd on id at_ : Int) (hid : wfi id) (hat : wfi at_) :
    Calls Try.prog 23 #[.pointer (some ⟨tb, 0, none⟩), .pointer (some ⟨rb, 0, none⟩), .agg #[.int .i64 kd, .int .i64 on, .int .i64 id, .int .i64 at_]] w (PlaysPost w tb rb lim F) := by
  by_cases h1 : kd = 1
  · subst h1; exact plays_set h on id at_ hid hat
  by_cases h2 : kd = 2
  · subst h2; exact plays_drop h on id at_ hid hat
  by_cases h3 : kd = 3
  · subst h3; exact plays_when h on id at_ hid hat
  by_cases h4 : kd = 4
  · subst h4; exact plays_next h on id at_ hid hat
  by_cases h5 : kd = 5
  · subst h5; exact plays_due h on id at_ hid hat
  by_cases h6 : kd = 6
  · subst h6; exact plays_len h on id at_ hid hat
  exact plays_other h kd on id at_ h1 h2 h3 h4 h5 h6
end Go.Proofs.Ytjnhldcgemcjbaa.Tm
