/- The reference's Timers: place, first, without; no condition. -/
import Derived.Test.YtjnhldcgemcjbaaJ
namespace Go.Proofs.Ytjnhldcgemcjbaa.Tm
open Go.RowKit Go.Maps
set_option linter.unusedVariables false

structure RefAt (w : World) (rb : Nat) (V : Value) (lim : Int) (l : List Pr) : Prop where
  blk : w.heap[rb]? = some (.cells #[.int .i64 lim, V] 74 (0, 0))
  row : PRow w 77 V l
def rfoot (rb : Nat) (V : Value) : List Nat := rb :: V.ownBlock.toList
theorem RefAt.rb_lt {w : World} {rb : Nat} {V : Value} {lim : Int} {l : List Pr} (h : RefAt w rb V lim l) : rb < w.heap.size := (Array.getElem?_eq_some_iff.1 h.blk).1
theorem RefAt.foot_lt {w : World} {rb : Nat} {V : Value} {lim : Int} {l : List Pr} (h : RefAt w rb V lim l) : ∀ k ∈ rfoot rb V, k < w.heap.size := by
  intro k hk
  simp [rfoot] at hk
  rcases hk with rfl | hk
  · exact h.rb_lt
  · exact h.row.lt k hk
theorem RefAt.kept {w w' : World} {rb : Nat} {V : Value} {lim : Int} {l : List Pr} (h : RefAt w rb V lim l) {S : List Nat} (t : Touch S w w') (hn : ∀ k ∈ rfoot rb V, k ∉ S) : RefAt w' rb V lim l :=
  ⟨(t.block rb h.rb_lt (hn rb (by simp [rfoot]))).trans h.blk, h.row.kept t (fun k hk => hn k (by simp [rfoot, hk]))⟩
theorem RefAt.ne {w : World} {rb : Nat} {V : Value} {lim : Int} {l : List Pr} (h : RefAt w rb V lim l) : ∀ k, V.ownBlock = some k → k ≠ rb := h.row.ne_of (by decide) h.blk
theorem blk2_cells {w : World} {tb : Nat} {a V : Value} {t : TypeId} (h : w.heap[tb]? = some (.cells #[a, V] t (0, 0))) :
    w.cell? ⟨tb, 0, none⟩ = some a ∧ w.cell? ⟨tb, 1, none⟩ = some V ∧ w.frozen? ⟨tb, 1, none⟩ = false ∧ tb < w.heap.size := by
  refine ⟨?_, ?_, ?_, (Array.getElem?_eq_some_iff.1 h).1⟩ <;> simp [World.cell?, World.frozen?, h]

def PlaceOut (l : List Pr) (id : Int) (r : Int) : Prop := (r = -1 ∧ ∀ p ∈ l, p.1 ≠ id) ∨ ∃ (k : Nat) (p : Pr), r = (k : Int) ∧ l[k]? = some p ∧ p.1 = id
def PlacePost (w : World) (l : List Pr) (id : Int) (e : Ending) (w' : World) : Prop := ∃ r, e = .returned (.int .i64 r) ∧ w' = w ∧ PlaceOut l id r

theorem place_calls {w : World} {rb : Nat} {V : Value} {lim : Int} {l : List Pr} (h : RefAt w rb V lim l) (id : Int) :
    Calls Try.prog 38 #[.pointer (some ⟨rb, 0, none⟩), .int .i64 id] w (PlacePost w l id) := by
  obtain ⟨A, cap, rfl⟩ := h.row.form
  obtain ⟨c0, c1, f1, _⟩ := blk2_cells h.blk
  have hlen := h.row.len_le
  have H := Lib.hid h
  go_enter Try.func38, Try.ntmps38
  go_wp2
  go_loop [5] (fun v => ∃ k : Nat, v = .int .i64 k ∧ k ≤ l.length ∧ Hid (∀ i p, i < k → l[i]? = some p → p.1 ≠ id)) (fun v => l.length - (intOf v).toNat)
  case atStart => exact ⟨0, rfl, by omega, Lib.hid (fun i p hi => by omega)⟩
  case round =>
    obtain ⟨k, rfl, hk, hno⟩ := hrel
    by_cases hlt : k < l.length
    · obtain ⟨a, b, _, hab⟩ := getD_pair l k hlt
      obtain ⟨g, cap2, hV, hg, hcap, _, cur, hcur⟩ := H.out.row.formP (by omega)
      injection hV with hV1 hV2 hV3
      subst hV1 hV3
      obtain ⟨k0, k1, z0, z1⟩ := H.out.row.cell k (a, b) hab
      dsimp only at k0 k1
      have b1 : (k : Int) < (l.length : Int) := by omega
      have HAB := Lib.hid hab
      clear hab hcur hV2 h
      by_cases he : a = id
      · have e1 : (a == id) = true := by rw [beq_iff_eq]; exact he
        have HE := Lib.hid he
        clear he
        go_wp2
        go_ret
        exact ⟨_, rfl, rfl, .inr ⟨k, (a, b), rfl, HAB.out, HE.out⟩⟩
      · have e1 : (a == id) = false := by rw [beq_eq_false_iff_ne]; exact he
        have HE := Lib.hid he
        clear he
        go_wp2
        go_round
        case rel =>
          refine ⟨k + 1, by go_num, by omega, Lib.hid (fun i p hi hp => ?_)⟩
          rcases Nat.lt_or_ge i k with h1 | h1
          · exact hno.out i p h1 hp
          · obtain rfl : i = k := by omega
            rw [HAB.out] at hp; cases hp; exact HE.out
        case measure => simp [intOf]; omega
    · have b1 : ¬ (k : Int) < (l.length : Int) := by omega
      have HK := Lib.hid hlt
      clear hlt h
      go_wp2
      go_ret
      refine ⟨_, rfl, rfl, .inl ⟨rfl, fun p hp => ?_⟩⟩
      obtain ⟨i, hi⟩ := List.mem_iff_getElem?.1 hp
      have hil := (List.getElem?_eq_some_iff.1 hi).1
      exact hno.out i p (by have := HK.out; omega) hi

theorem rlen_calls {w : World} {rb : Nat} {V : Value} {lim : Int} {l : List Pr} (h : RefAt w rb V lim l) :
    Calls Try.prog 36 #[.pointer (some ⟨rb, 0, none⟩)] w fun e w' => e = .returned (.int .i64 l.length) ∧ w' = w := by
  obtain ⟨A, cap, rfl⟩ := h.row.form
  obtain ⟨c0, c1, f1, _⟩ := blk2_cells h.blk
  go_enter Try.func36, Try.ntmps36
  go_wp2
  go_ret
  exact ⟨rfl, rfl⟩

/-- The place of the first of the first k. -/
def FirstOut (l : List Pr) (k : Nat) (r : Int) : Prop := (r = -1 ∧ k = 0) ∨ ∃ (j : Nat) (p : Pr), r = (j : Int) ∧ j < k ∧ l[j]? = some p ∧ ∀ i q, i < k → l[i]? = some q → le p q
def FirstPost (w : World) (l : List Pr) (e : Ending) (w' : World) : Prop := ∃ r, e = .returned (.int .i64 r) ∧ Touch [] w w' ∧ FirstOut l l.length r

theorem FirstOut.new {l : List Pr} {k : Nat} {x p : Pr} (hx : l[k]? = some x) (j : Nat) (hp : l[j]? = some p) (hall : ∀ i q, i < k → l[i]? = some q → le p q) (hb : aheadB x p = true) : FirstOut l (k + 1) k :=
  .inr ⟨k, x, rfl, by omega, hx, fun i q hi hq => by
    rcases Nat.lt_or_ge i k with h1 | h1
    · exact le_tr (le_of_ahead hb) (hall i q h1 hq)
    · obtain rfl : i = k := by omega
      rw [hx] at hq; cases hq; exact le_refl' _⟩
theorem FirstOut.old {l : List Pr} {k : Nat} {x p : Pr} (hx : l[k]? = some x) (j : Nat) (hj : j < k) (hp : l[j]? = some p) (hall : ∀ i q, i < k → l[i]? = some q → le p q) (hb : aheadB x p = false) : FirstOut l (k + 1) j :=
  .inr ⟨j, p, rfl, by omega, hp, fun i q hi hq => by
    rcases Nat.lt_or_ge i k with h1 | h1
    · exact hall i q h1 hq
    · obtain rfl : i = k := by omega
      rw [hx] at hq; cases hq; exact ahead_false.1 hb⟩

set_option maxHeartbeats 1000000 in
theorem first_calls {w : World} {rb : Nat} {V : Value} {lim : Int} {l : List Pr} (h : RefAt w rb V lim l) :
    Calls Try.prog 40 #[.pointer (some ⟨rb, 0, none⟩)] w (FirstPost w l) := by
  obtain ⟨A, cap, rfl⟩ := h.row.form
  have hlen := h.row.len_le
  have H := Lib.hid h
  clear h
  go_enter Try.func40, Try.ntmps40
  go_wp2
  go_loopw [3, 4] (fun v3 v4 wr => ∃ (k : Nat) (r : Int), v3 = .int .i64 r ∧ v4 = .int .i64 k ∧ k ≤ l.length ∧ Hid (FirstOut l k r) ∧ Hid (Touch [] w wr)) (fun _ v4 _ => l.length - (intOf v4).toNat)
  case atStart => exact ⟨0, -1, rfl, rfl, by omega, Lib.hid (.inl ⟨rfl, rfl⟩), Lib.hid (Touch.refl _ _)⟩
  case round =>
    obtain ⟨k, r, rfl, rfl, hk, hF, hT⟩ := hrel
    have hR := H.out.kept hT.out (by simp)
    obtain ⟨c0, c1, f1, hrb⟩ := blk2_cells hR.blk
    have HR := Lib.hid hR
    clear hR
    by_cases hlt : k < l.length
    · obtain ⟨a, b, _, hab⟩ := getD_pair l k hlt
      obtain ⟨g, cap2, hV, hg, hcap, _, cur, hcur⟩ := HR.out.row.formP (by omega)
      injection hV with hV1 hV2 hV3
      subst hV1 hV3
      obtain ⟨k0, k1, z0, z1⟩ := HR.out.row.cell k (a, b) hab
      dsimp only at k0 k1
      have b1 : (k : Int) < (l.length : Int) := by omega
      have HAB := Lib.hid hab
      clear hab hcur hV2
      rcases hF.out with ⟨hr, hk0⟩ | ⟨j, p, hr, hj, hp, hall⟩
      · subst hr
        have n1 := fun u : Near (wr.alloc (.cells #[.int .i64 a, .int .i64 b] 77)) => u.cell (a := ⟨wr.heap.size, 0, none⟩) (v := .int .i64 a) (by simp)
        have HK0 := Lib.hid hk0
        clear hk0 hF
        go_wp2
        refine wp_region_near (by kernel_rfl) (by kernel_rfl) ?_
        repeat (go_big_quiet_step (fail))
        refine wpQuiet_nil ?_
        rintro _ ⟨u, rfl⟩
        have tu : Touch [] w u.w := (hT.out.alloc (.cells #[.int .i64 a, .int .i64 b] 77)).trans u.near (by simp)
        have TU := Lib.hid tu
        clear tu n1
        go_wp2
        go_roundw
        case rel => exact ⟨k + 1, k, rfl, by go_num, by omega, Lib.hid (.inr ⟨k, (a, b), rfl, by omega, HAB.out, fun i q hi hq => by have := HK0.out; obtain rfl : i = k := (by omega); rw [HAB.out] at hq; cases hq; exact le_refl' _⟩), TU⟩
        case measure => simp [intOf]; omega
      · subst hr
        obtain ⟨p0, p1⟩ := p
        obtain ⟨m0, m1, _, _⟩ := HR.out.row.cell j (p0, p1) hp
        dsimp only at m0 m1
        have hjl : (j : Int) < (l.length : Int) := by omega
        have hj0 : (0 : Int) ≤ (j : Int) := by omega
        have hd0 : decide ((j : Int) < 0) = false := by rw [decide_eq_false_iff_not]; omega
        have n1 := fun u : Near (wr.alloc (.cells #[.int .i64 a, .int .i64 b] 77)) => u.cell (a := ⟨wr.heap.size, 0, none⟩) (v := .int .i64 a) (by simp)
        have n2 := fun u : Near (wr.alloc (.cells #[.int .i64 a, .int .i64 b] 77)) => u.cell (a := ⟨wr.heap.size, 1, none⟩) (v := .int .i64 b) (by simp)
        have n3 := fun u : Near (wr.alloc (.cells #[.int .i64 a, .int .i64 b] 77)) => u.cell (a := ⟨rb, 1, none⟩) ((World.cell?_alloc_lt _ _ _ hrb).trans c1)
        have n4 := fun u : Near (wr.alloc (.cells #[.int .i64 a, .int .i64 b] 77)) => u.cell (a := ⟨g, j * 2, none⟩) ((World.cell?_alloc_lt _ _ _ hg).trans m0)
        have n5 := fun u : Near (wr.alloc (.cells #[.int .i64 a, .int .i64 b] 77)) => u.cell (a := ⟨g, j * 2 + 1, none⟩) ((World.cell?_alloc_lt _ _ _ hg).trans m1)
        have HP := Lib.hid hp
        have HALL := Lib.hid hall
        clear hp hall hF
        by_cases q1 : b < p1
        · have d1 : decide (b < p1) = true := by rw [decide_eq_true_eq]; exact q1
          have HB : Hid (aheadB (a, b) (p0, p1) = true) := Lib.hid (by simp [aheadB, q1])
          go_wp2
          refine wp_region_near (by kernel_rfl) (by kernel_rfl) ?_
          repeat (go_big_quiet_step (fail))
          refine wpQuiet_nil ?_
          rintro _ ⟨u, rfl⟩
          have tu : Touch [] w u.w := (hT.out.alloc (.cells #[.int .i64 a, .int .i64 b] 77)).trans u.near (by simp)
          have TU := Lib.hid tu
          clear tu n1 n2 n3 n4 n5
          go_wp2
          go_roundw
          case rel => exact ⟨k + 1, k, rfl, by go_num, by omega, Lib.hid (FirstOut.new HAB.out j HP.out HALL.out HB.out), TU⟩
          case measure => simp [intOf]; omega
        · by_cases q2 : b = p1
          · by_cases q3 : a < p0
            · have d1 : decide (b < p1) = false := by rw [decide_eq_false_iff_not]; exact q1
              have d2 : (b == p1) = true := by rw [beq_iff_eq]; exact q2
              have d3 : decide (a < p0) = true := by rw [decide_eq_true_eq]; exact q3
              have HB : Hid (aheadB (a, b) (p0, p1) = true) := Lib.hid (by rw [ahead_true]; dsimp only; omega)
              clear q2
              go_wp2
              refine wp_region_near (by kernel_rfl) (by kernel_rfl) ?_
              repeat (go_big_quiet_step (fail))
              refine wpQuiet_nil ?_
              rintro _ ⟨u, rfl⟩
              have tu : Touch [] w u.w := (hT.out.alloc (.cells #[.int .i64 a, .int .i64 b] 77)).trans u.near (by simp)
              have TU := Lib.hid tu
              clear tu n1 n2 n3 n4 n5
              go_wp2
              go_roundw
              case rel => exact ⟨k + 1, k, rfl, by go_num, by omega, Lib.hid (FirstOut.new HAB.out j HP.out HALL.out HB.out), TU⟩
              case measure => simp [intOf]; omega
            · have d1 : decide (b < p1) = false := by rw [decide_eq_false_iff_not]; exact q1
              have d2 : (b == p1) = true := by rw [beq_iff_eq]; exact q2
              have d3 : decide (a < p0) = false := by rw [decide_eq_false_iff_not]; exact q3
              have HB : Hid (aheadB (a, b) (p0, p1) = false) := Lib.hid (by rw [ahead_false]; unfold le; dsimp only; omega)
              clear q2
              go_wp2
              refine wp_region_near (by kernel_rfl) (by kernel_rfl) ?_
              repeat (go_big_quiet_step (fail))
              refine wpQuiet_nil ?_
              rintro _ ⟨u, rfl⟩
              have tu : Touch [] w u.w := (hT.out.alloc (.cells #[.int .i64 a, .int .i64 b] 77)).trans u.near (by simp)
              have TU := Lib.hid tu
              clear tu n1 n2 n3 n4 n5
              go_wp2
              go_roundw
              case rel => exact ⟨k + 1, j, rfl, by go_num, by omega, Lib.hid (FirstOut.old HAB.out j hj HP.out HALL.out HB.out), TU⟩
              case measure => simp [intOf]; omega
          · have d1 : decide (b < p1) = false := by rw [decide_eq_false_iff_not]; exact q1
            have d2 : (b == p1) = false := by rw [beq_eq_false_iff_ne]; exact q2
            have HB : Hid (aheadB (a, b) (p0, p1) = false) := Lib.hid (by rw [ahead_false]; unfold le; dsimp only; omega)
            go_wp2
            refine wp_region_near (by kernel_rfl) (by kernel_rfl) ?_
            repeat (go_big_quiet_step (fail))
            refine wpQuiet_nil ?_
            rintro _ ⟨u, rfl⟩
            have tu : Touch [] w u.w := (hT.out.alloc (.cells #[.int .i64 a, .int .i64 b] 77)).trans u.near (by simp)
            have TU := Lib.hid tu
            clear tu n1 n2 n3 n4 n5
            go_wp2
            go_roundw
            case rel => exact ⟨k + 1, j, rfl, by go_num, by omega, Lib.hid (FirstOut.old HAB.out j hj HP.out HALL.out HB.out), TU⟩
            case measure => simp [intOf]; omega
    · have b1 : ¬ (k : Int) < (l.length : Int) := by omega
      have hkl : k = l.length := by omega
      have HK := Lib.hid hkl
      clear hkl hlt
      go_wp2
      go_ret
      exact ⟨_, rfl, hT.out, by rw [← HK.out]; exact hF.out⟩
end Go.Proofs.Ytjnhldcgemcjbaa.Tm
