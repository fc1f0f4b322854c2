/- Len, Next, When, New of Timers; no condition. -/
import Derived.Test.YtjnhldcgemcjbaaD
import Derived.Carry
namespace Go.Proofs.Ytjnhldcgemcjbaa.Tm
open Go.RowKit Go.Maps
set_option linter.unusedVariables false

theorem len_calls {w : World} {tb : Nat} {V : Value} {mb : Nat} {lim : Int} {s : St} (h : TimersAt w tb V mb lim s) :
    Calls Try.prog 14 #[.pointer (some ⟨tb, 0, none⟩)] w fun e w' => e = .returned (.int .i64 s.hp.length) ∧ w' = w := by
  obtain ⟨A, cap, rfl⟩ := h.row.form
  obtain ⟨c0, c1, c2, f1⟩ := h.cells
  go_enter Try.func14, Try.ntmps14
  go_wp2
  go_ret
  exact ⟨rfl, rfl⟩

theorem next_empty {w : World} {tb : Nat} {V : Value} {mb : Nat} {lim : Int} {s : St} (h : TimersAt w tb V mb lim s) (hs : s.hp = []) :
    Calls Try.prog 20 #[.pointer (some ⟨tb, 0, none⟩)] w fun e w' => e = .returned (.tuple #[.int .i64 0, .int .i64 0, .int .i64 3]) ∧ Touch [] w w' := by
  obtain ⟨A, cap, rfl⟩ := h.row.form
  obtain ⟨c0, c1, c2, f1⟩ := h.cells
  rw [hs] at c1
  have e1 : ((0 : Int) == 0) = true := rfl
  go_enter Try.func20, Try.ntmps20
  go_wp2
  go_ret3
  exact ⟨rfl, Touch.refl _ _⟩

theorem next_some {w : World} {tb : Nat} {V : Value} {mb : Nat} {lim : Int} {s : St} (h : TimersAt w tb V mb lim s) (a b : Int) (r : List Pr) (hs : s.hp = (a, b) :: r) :
    Calls Try.prog 20 #[.pointer (some ⟨tb, 0, none⟩)] w fun e w' => e = .returned (.tuple #[.int .i64 a, .int .i64 b, .int .i64 0]) ∧ Touch [] w w' := by
  have hl : s.hp.length = r.length + 1 := by rw [hs]; rfl
  obtain ⟨g, cap, rfl, hg, hcap, hlen, cur, hcur⟩ := h.row.formP (by omega)
  obtain ⟨c0, c1, c2, f1⟩ := h.cells
  obtain ⟨k0, k1, z0, z1⟩ := h.row.cell 0 (a, b) (by rw [hs]; rfl)
  dsimp only at k0 k1
  have e1 : ((s.hp.length : Int) == 0) = false := by rw [beq_eq_false_iff_ne]; omega
  have b1 : (0 : Int) < (s.hp.length : Int) := by omega
  have n2 := fun u : Near w => u.cell c1
  have n3 := fun u : Near w => u.cell k0
  have n4 := fun u : Near w => u.cell k1
  simp only [Nat.zero_mul, Nat.zero_add] at n3 n4
  clear hs hl k0 k1 hcur
  go_enter Try.func20, Try.ntmps20
  go_wp2
  refine wp_region_near (by kernel_rfl) (by kernel_rfl) ?_
  repeat (go_big_quiet_step (fail))
  refine wpQuiet_nil ?_
  rintro _ ⟨u, rfl⟩
  go_wp2
  go_ret3
  exact ⟨rfl, u.near⟩

theorem when_none {w : World} {tb : Nat} {V : Value} {mb : Nat} {lim : Int} {s : St} (h : TimersAt w tb V mb lim s) (x : Int) (hx : wfi x) (hs : s.f x = none) :
    Calls Try.prog 16 #[.pointer (some ⟨tb, 0, none⟩), .int .i64 x] w fun e w' => e = .returned (.tuple #[.int .i64 0, .int .i64 3]) ∧ w' = w := by
  obtain ⟨c0, c1, c2, f1⟩ := h.cells
  have hl := (h.map.look x hx).1
  rw [hs] at hl
  simp only [Option.getD_none, Option.isSome_none] at hl
  go_enter Try.func16, Try.ntmps16
  go_wp2
  go_ret2
  exact ⟨rfl, rfl⟩
theorem when_some {w : World} {tb : Nat} {V : Value} {mb : Nat} {lim : Int} {s : St} (h : TimersAt w tb V mb lim s) (x : Int) (hx : wfi x) (i : Int) (hs : s.f x = some i) (h0 : 0 ≤ i) (a b : Int) (hp : s.hp[i.toNat]? = some (a, b)) :
    Calls Try.prog 16 #[.pointer (some ⟨tb, 0, none⟩), .int .i64 x] w fun e w' => e = .returned (.tuple #[.int .i64 b, .int .i64 0]) ∧ w' = w := by
  obtain ⟨i, rfl⟩ := Int.eq_ofNat_of_zero_le h0
  have hi : i < s.hp.length := (List.getElem?_eq_some_iff.1 hp).1
  obtain ⟨g, cap, rfl, hg, hcap, hlen, cur, hcur⟩ := h.row.formP (by omega)
  obtain ⟨c0, c1, c2, f1⟩ := h.cells
  obtain ⟨k0, k1, z0, z1⟩ := h.row.cell i (a, b) hp
  dsimp only at k0 k1
  have hl := (h.map.look x hx).1
  rw [hs] at hl
  simp only [Option.getD_some, Option.isSome_some] at hl
  have b1 : (i : Int) < (s.hp.length : Int) := by omega
  clear hs hp hcur
  go_enter Try.func16, Try.ntmps16
  go_wp2
  go_ret2
  exact ⟨rfl, rfl⟩

theorem new_bad (w : World) (lim : Int) (h : lim < 1 ∨ 65536 < lim) :
    Calls Try.prog 11 #[.int .i64 lim] w fun e w' => e = .returned (.tuple #[.pointer none, .int .i64 1]) ∧ w' = w := by
  by_cases h1 : lim < 1
  · go_enter Try.func11, Try.ntmps11
    go_wp2
    go_ret2
    exact ⟨rfl, rfl⟩
  · have h2 : 65536 < lim := by omega
    go_enter Try.func11, Try.ntmps11
    go_wp2
    go_ret2
    exact ⟨rfl, rfl⟩
def NewPost (w : World) (lim : Int) (e : Ending) (w' : World) : Prop :=
  ∃ tb mb, e = .returned (.tuple #[.pointer (some ⟨tb, 0, none⟩), .int .i64 0]) ∧ TimersAt w' tb (.slice none 0 0) mb lim ⟨[], fun _ => none, 0⟩ ∧ Touch [] w w' ∧ w.heap.size ≤ tb ∧ w.heap.size ≤ mb
theorem new_good (w : World) (lim : Int) (h1 : 1 ≤ lim) (h2 : lim ≤ 65536) :
    Calls Try.prog 11 #[.int .i64 lim] w (NewPost w lim) := by
  have hmm := @run_makeMap Try.prog
  have g1 : ¬ lim < 1 := by omega
  have g2 : ¬ 65536 < lim := by omega
  go_enter Try.func11, Try.ntmps11
  go_wp2
  go_ret2
  refine ⟨w.heap.size + 1, w.heap.size, rfl, ⟨?_, PRow.nil _ _, ?_⟩, ((Touch.refl _ _).alloc _).alloc _, by omega, by omega⟩
  · have := heap_alloc_new (w.alloc (.map #[] 0)) (.cells #[.int .i64 lim, .slice none 0 0, .map (some w.heap.size)] 63)
    rw [World.size_alloc] at this
    exact this
  · exact (IMap.made w).kept (S := []) ((Touch.refl _ _).alloc _) (by simp)
end Go.Proofs.Ytjnhldcgemcjbaa.Tm
