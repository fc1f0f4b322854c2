/- The reference's Timers: New, Len, When, Next, Set, Drop by what is held; no condition. -/
import Derived.Test.YtjnhldcgemcjbaaL
namespace Go.Proofs.Ytjnhldcgemcjbaa.Tm
open Go.RowKit Go.Maps
set_option linter.unusedVariables false

def lval (l : List Pr) (y : Int) : Option Int := (l.find? (fun p => p.1 == y)).map (·.2)
def Nd (l : List Pr) : Prop := (l.map (·.1)).Nodup
theorem nd_inj {l : List Pr} (h : Nd l) {p q : Pr} (hp : p ∈ l) (hq : q ∈ l) (e : p.1 = q.1) : p = q := by
  induction l with
  | nil => cases hp
  | cons x r ih =>
    unfold Nd at h
    rw [List.map_cons, List.nodup_cons] at h
    rcases List.mem_cons.1 hp with rfl | hp' <;> rcases List.mem_cons.1 hq with rfl | hq'
    · rfl
    · exact absurd (List.mem_map_of_mem (f := (·.1)) hq') (by rw [← e]; exact h.1)
    · exact absurd (List.mem_map_of_mem (f := (·.1)) hp') (by rw [e]; exact h.1)
    · exact ih h.2 hp' hq'
theorem lval_iff {l : List Pr} (h : Nd l) (y v : Int) : lval l y = some v ↔ (y, v) ∈ l := by
  unfold lval
  constructor
  · intro hv
    obtain ⟨p, hp, hpv⟩ := Option.map_eq_some_iff.1 hv
    have h1 := List.find?_some hp
    have h2 := List.mem_of_find?_eq_some hp
    have h3 : p.1 = y := by simpa using h1
    obtain ⟨a, b⟩ := p
    simp only at h3 hpv
    rw [← h3, ← hpv]; exact h2
  · intro hm
    cases hf : l.find? (fun p => p.1 == y) with
    | none => have := List.find?_eq_none.1 hf _ hm; simp at this
    | some p =>
      have h1 := List.find?_some hf
      have h2 := List.mem_of_find?_eq_some hf
      have h3 : p.1 = y := by simpa using h1
      have := nd_inj h h2 hm h3
      rw [this]; rfl
theorem lval_none {l : List Pr} (y : Int) : lval l y = none ↔ ∀ p ∈ l, p.1 ≠ y := by
  unfold lval
  rw [Option.map_eq_none_iff, List.find?_eq_none]
  simp
theorem nd_idx {l : List Pr} (h : Nd l) {i j : Nat} {p q : Pr} (hp : l[i]? = some p) (hq : l[j]? = some q) (e : p.1 = q.1) : i = j := by
  have hi := (List.getElem?_eq_some_iff.1 hp).1
  have hj := (List.getElem?_eq_some_iff.1 hq).1
  have h1 : (l.map (·.1))[i]? = some p.1 := by simp [hp]
  have h2 : (l.map (·.1))[j]? = some p.1 := by rw [e]; simp [hq]
  exact (List.getElem?_inj (by simpa using hi) h).1 (h1.trans h2.symm)
theorem nd_erase {l : List Pr} (h : Nd l) (k : Nat) : Nd (l.eraseIdx k) := by
  unfold Nd at *
  exact h.sublist ((List.eraseIdx_sublist l k).map _)
theorem mem_erase {l : List Pr} (h : Nd l) {k : Nat} {x : Pr} (hx : l[k]? = some x) (p : Pr) : p ∈ l.eraseIdx k ↔ p ∈ l ∧ p.1 ≠ x.1 := by
  constructor
  · intro hp
    refine ⟨List.mem_of_mem_eraseIdx hp, fun e => ?_⟩
    have hpl := List.mem_of_mem_eraseIdx hp
    obtain ⟨i, hi, hik, he⟩ := List.mem_eraseIdx_iff_getElem.1 hp
    exact hik (nd_idx h (by rw [List.getElem?_eq_getElem hi, he]) hx e)
  · rintro ⟨hp, hne⟩
    obtain ⟨i, hi⟩ := List.mem_iff_getElem?.1 hp
    obtain ⟨hil, he⟩ := List.getElem?_eq_some_iff.1 hi
    refine List.mem_eraseIdx_iff_getElem.2 ⟨i, hil, fun e => ?_, he⟩
    subst e
    rw [hx] at hi; cases hi; exact hne rfl
theorem opt_ext {a b : Option Int} (h : ∀ v, a = some v ↔ b = some v) : a = b := by
  cases a with
  | none => cases b with
    | none => rfl
    | some v => exact absurd ((h v).2 rfl) (by simp)
  | some v => exact ((h v).1 rfl).symm
theorem lval_erase {l : List Pr} (h : Nd l) {k : Nat} {x : Pr} (hx : l[k]? = some x) (y : Int) : lval (l.eraseIdx k) y = if y = x.1 then none else lval l y := by
  refine opt_ext fun v => ?_
  rw [lval_iff (nd_erase h k), mem_erase h hx]
  by_cases e : y = x.1
  · rw [if_pos e]; simp [e]
  · rw [if_neg e, lval_iff h]; simp [e]
theorem nd_snoc {l : List Pr} (h : Nd l) {x : Pr} (hx : ∀ p ∈ l, p.1 ≠ x.1) : Nd (l ++ [x]) := by
  unfold Nd at *
  rw [List.map_append, List.nodup_append]
  refine ⟨h, by simp, fun a ha b hb => ?_⟩
  simp at hb
  obtain ⟨p, hp, rfl⟩ := List.mem_map.1 ha
  rw [hb]; exact hx p hp
theorem lval_snoc {l : List Pr} (h : Nd l) {x : Pr} (hx : ∀ p ∈ l, p.1 ≠ x.1) (y : Int) : lval (l ++ [x]) y = if y = x.1 then some x.2 else lval l y := by
  refine opt_ext fun v => ?_
  obtain ⟨a, b⟩ := x
  rw [lval_iff (nd_snoc h hx)]
  by_cases e : y = a
  · rw [if_pos e]
    subst e
    constructor
    · intro hm
      rcases List.mem_append.1 hm with h1 | h1
      · exact absurd rfl (hx (y, v) h1)
      · simp at h1; rw [h1]
    · intro hv; cases hv; simp
  · rw [if_neg e, lval_iff h]
    simp [e]
theorem nd_set {l : List Pr} (h : Nd l) {k : Nat} {x : Pr} {y : Pr} (hx : l[k]? = some x) (e : y.1 = x.1) : Nd (l.set k y) := by
  unfold Nd at *
  have : (l.set k y).map (·.1) = l.map (·.1) := by
    rw [List.map_set]
    apply List.ext_getElem?
    intro i
    rw [List.getElem?_set]
    by_cases hi : k = i
    · subst hi
      obtain ⟨hkl, hke⟩ := List.getElem?_eq_some_iff.1 hx
      simp [hkl, e, hke]
    · simp [hi]
  rw [this]; exact h
theorem lval_set {l : List Pr} (h : Nd l) {k : Nat} {x y : Pr} (hx : l[k]? = some x) (e : y.1 = x.1) (z : Int) : lval (l.set k y) z = if z = x.1 then some y.2 else lval l z := by
  have hk := (List.getElem?_eq_some_iff.1 hx).1
  refine opt_ext fun v => ?_
  rw [lval_iff (nd_set h hx e)]
  by_cases e2 : z = x.1
  · rw [if_pos e2]
    constructor
    · intro hm
      have : y ∈ l.set k y := by rw [List.mem_iff_getElem?]; exact ⟨k, by simp [hk]⟩
      have := nd_inj (nd_set h hx e) hm this (by rw [e2, e])
      rw [← this]
    · intro hv
      cases hv
      rw [List.mem_iff_getElem?]; exact ⟨k, by simp [hk]; rw [e2, ← e]⟩
  · rw [if_neg e2, lval_iff h]
    constructor
    · intro hm
      rcases List.mem_or_eq_of_mem_set hm with h1 | h1
      · exact h1
      · exact absurd (by rw [← e, ← h1]) e2
    · intro hm
      obtain ⟨i, hi⟩ := List.mem_iff_getElem?.1 hm
      rw [List.mem_iff_getElem?]
      refine ⟨i, ?_⟩
      rw [List.getElem?_set, if_neg]
      · exact hi
      · rintro rfl; rw [hx] at hi; cases hi; exact e2 rfl

/-- The reference's object with its blocks. -/
structure RefO (w : World) (rb : Nat) (R : List Nat) (lim : Int) (l : List Pr) : Prop where
  at_ : ∃ V, RefAt w rb V lim l ∧ R = rfoot rb V
  nd : Nd l
  wf : ∀ p ∈ l, wfi p.1 ∧ wfi p.2
  room : (l.length : Int) ≤ lim
  most : lim ≤ 65536
theorem RefO.lt {w : World} {rb : Nat} {R : List Nat} {lim : Int} {l : List Pr} (h : RefO w rb R lim l) : ∀ k ∈ R, k < w.heap.size := by
  obtain ⟨V, h1, rfl⟩ := h.at_
  exact h1.foot_lt
theorem RefO.kept {w w' : World} {rb : Nat} {R : List Nat} {lim : Int} {l : List Pr} (h : RefO w rb R lim l) {X : List Nat} (t : Touch X w w') (hn : ∀ k ∈ R, k ∉ X) : RefO w' rb R lim l := by
  obtain ⟨V, h1, rfl⟩ := h.at_
  exact ⟨⟨V, h1.kept t hn, rfl⟩, h.nd, h.wf, h.room, h.most⟩

structure RGoes (w w' : World) (rb : Nat) (R : List Nat) (lim : Int) (l' : List Pr) (R' : List Nat) : Prop where
  ref : RefO w' rb R' lim l'
  touch : Touch R w w'
  sub : ∀ k ∈ R', k ∈ R ∨ w.heap.size ≤ k

theorem rnew_bad (w : World) (lim : Int) (h : lim < 1 ∨ 65536 < lim) :
    Calls Try.prog 22 #[.int .i64 lim] w fun e w' => e = .returned (.tuple #[.pointer none, .int .i64 1]) ∧ w' = w := by
  by_cases h1 : lim < 1
  · go_enter Try.func22, Try.ntmps22
    go_wp2
    go_ret2
    exact ⟨rfl, rfl⟩
  · have h2 : 65536 < lim := by omega
    go_enter Try.func22, Try.ntmps22
    go_wp2
    go_ret2
    exact ⟨rfl, rfl⟩
def RNewPost (w : World) (lim : Int) (e : Ending) (w' : World) : Prop :=
  ∃ rb, e = .returned (.tuple #[.pointer (some ⟨rb, 0, none⟩), .int .i64 0]) ∧ RefO w' rb [rb] lim [] ∧ Touch [] w w' ∧ w.heap.size ≤ rb
theorem rnew_good (w : World) (lim : Int) (h1 : 1 ≤ lim) (h2 : lim ≤ 65536) : Calls Try.prog 22 #[.int .i64 lim] w (RNewPost w lim) := by
  have g1 : ¬ lim < 1 := by omega
  have g2 : ¬ 65536 < lim := by omega
  go_enter Try.func22, Try.ntmps22
  go_wp2
  go_ret2
  exact ⟨w.heap.size, rfl, ⟨⟨.slice none 0 0, ⟨heap_alloc_new w _, PRow.nil _ _⟩, rfl⟩, List.Pairwise.nil, by simp, by simp; omega, h2⟩, (Touch.refl _ _).alloc _, Nat.le_refl _⟩

def WhenR (l : List Pr) (id : Int) (e : Ending) : Prop := (lval l id = none ∧ e = .returned (.tuple #[.int .i64 0, .int .i64 3])) ∨ ∃ v, lval l id = some v ∧ e = .returned (.tuple #[.int .i64 v, .int .i64 0])

theorem rwhen_calls {w : World} {rb : Nat} {R : List Nat} {lim : Int} {l : List Pr} (h : RefO w rb R lim l) (id : Int) :
    Calls Try.prog 33 #[.pointer (some ⟨rb, 0, none⟩), .int .i64 id] w fun e w' => WhenR l id e ∧ w' = w := by
  obtain ⟨⟨V, hR, rfl⟩, hnd, hwf, hroom, hmost⟩ := h
  obtain ⟨A, cap, rfl⟩ := hR.row.form
  obtain ⟨c0, c1, f1, _⟩ := blk2_cells hR.blk
  have H := Lib.hid hR
  clear hR
  go_enter Try.func33, Try.ntmps33
  go_wp2_with fail
  refine (place_calls H.out id).mono ?_
  rintro e w1 ⟨r, rfl, hw1, hP⟩
  subst hw1
  rcases hP with ⟨rfl, hno⟩ | ⟨k, p, rfl, hk, hid⟩
  · have HNO := Lib.hid hno
    clear hno
    go_wp2
    go_ret2
    exact ⟨.inl ⟨(lval_none id).2 HNO.out, rfl⟩, rfl⟩
  · obtain ⟨a, b⟩ := p
    have hkl := (List.getElem?_eq_some_iff.1 hk).1
    obtain ⟨g, cap2, hV, hg, hcap, _, cur, hcur⟩ := H.out.row.formP (by omega)
    injection hV with hV1 hV2 hV3
    subst hV1 hV3
    obtain ⟨k0, k1, z0, z1⟩ := H.out.row.cell k (a, b) hk
    dsimp only at k0 k1 hid
    have b1 : (k : Int) < (l.length : Int) := by omega
    have b2 : ¬ (k : Int) < 0 := by omega
    have HK := Lib.hid hk
    have HID := Lib.hid hid
    clear hk hid hV2 hcur
    go_wp2
    go_ret2
    refine ⟨.inr ⟨b, ?_, rfl⟩, rfl⟩
    rw [lval_iff hnd, ← HID.out]
    exact List.mem_of_getElem? HK.out

def NextR (l : List Pr) (e : Ending) : Prop := (l = [] ∧ e = .returned (.tuple #[.int .i64 0, .int .i64 0, .int .i64 3])) ∨ ∃ a b, (a, b) ∈ l ∧ (∀ q ∈ l, le (a, b) q) ∧ e = .returned (.tuple #[.int .i64 a, .int .i64 b, .int .i64 0])

set_option maxHeartbeats 400000 in
theorem rnext_calls {w : World} {rb : Nat} {R : List Nat} {lim : Int} {l : List Pr} (h : RefO w rb R lim l) :
    Calls Try.prog 34 #[.pointer (some ⟨rb, 0, none⟩)] w fun e w' => NextR l e ∧ Touch [] w w' := by
  obtain ⟨⟨V, hR, rfl⟩, hnd, hwf, hroom, hmost⟩ := h
  obtain ⟨A, cap, rfl⟩ := hR.row.form
  have H := Lib.hid hR
  clear hR
  go_enter Try.func34, Try.ntmps34
  go_wp2_with fail
  refine (first_calls H.out).mono ?_
  rintro e w1 ⟨r, rfl, ht1, hP⟩
  have hR1 := H.out.kept ht1 (by simp)
  obtain ⟨c0, c1, f1, _⟩ := blk2_cells hR1.blk
  have H1 := Lib.hid hR1
  have HT1 := Lib.hid ht1
  clear hR1 ht1
  rcases hP with ⟨rfl, hl0⟩ | ⟨k, p, rfl, hkl, hk, hall⟩
  · have HL := Lib.hid hl0
    clear hl0
    go_wp2
    go_ret3
    exact ⟨.inl ⟨List.eq_nil_of_length_eq_zero HL.out, rfl⟩, HT1.out⟩
  · obtain ⟨a, b⟩ := p
    obtain ⟨g, cap2, hV, hg, hcap, _, cur, hcur⟩ := H1.out.row.formP (by omega)
    injection hV with hV1 hV2 hV3
    subst hV1 hV3
    obtain ⟨k0, k1, z0, z1⟩ := H1.out.row.cell k (a, b) hk
    dsimp only at k0 k1
    have b1 : (k : Int) < (l.length : Int) := by omega
    have b2 : ¬ (k : Int) < 0 := by omega
    have HK := Lib.hid hk
    have HALL := Lib.hid hall
    have n1 := fun u : Near w1 => u.cell c1
    have n2 := fun u : Near w1 => u.cell k0
    have n3 := fun u : Near w1 => u.cell k1
    clear hk hall hV2 hcur
    go_wp2
    refine wp_region_near (by kernel_rfl) (by kernel_rfl) ?_
    repeat (go_big_quiet_step (fail))
    refine wpQuiet_nil ?_
    rintro _ ⟨u, rfl⟩
    go_wp2
    go_ret3
    refine ⟨.inr ⟨a, b, List.mem_of_getElem? HK.out, fun q hq => ?_, rfl⟩, HT1.out.trans u.near (by simp)⟩
    obtain ⟨i, hi⟩ := List.mem_iff_getElem?.1 hq
    exact HALL.out i q (List.getElem?_eq_some_iff.1 hi).1 hi
end Go.Proofs.Ytjnhldcgemcjbaa.Tm
