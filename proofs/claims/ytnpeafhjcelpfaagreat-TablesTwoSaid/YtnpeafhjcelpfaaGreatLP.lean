/- The library's sort of neighbours; no condition. -/
import Derived.Test.YtnpeafhjcelpfaaGreatLK
import Derived.Test.YtnpeafhjcelpfaaGreatLO
namespace Go.Proofs.YtnpeafhjcelpfaaGreat.Tri
open Go.RowKit Go.Maps
set_option linter.unusedVariables false
set_option linter.unusedSimpArgs false
set_option maxRecDepth 100000

structure NeE where
  ip : Int
  m : M6
instance : Inhabited NeE := ⟨⟨0, ⟨0, 0, 0, 0, 0, 0⟩⟩⟩
def encN (x : NeE) : List Value := (neiC x.ip x.m).toList
theorem encN_len (x : NeE) : (encN x).length = 7 := rfl
theorem encN_one (x : NeE) : ∀ v ∈ encN x, v.oneCell' = true := by
  intro v hv
  simp only [encN, neiC, List.mem_cons, List.not_mem_nil, or_false] at hv
  rcases hv with rfl | rfl | rfl | rfl | rfl | rfl | rfl <;> rfl
def cfN (x y : NeE) : Int := cmpI x.ip y.ip
theorem closureN (x y : NeE) (w : World) : Calls Tryz.prog 55 #[.agg (encN x).toArray, .agg (encN y).toArray] w fun e w' => e = .returned (.int .i64 (cfN x y)) ∧ Touch [] w w' ∧ w.drawn ≤ w'.drawn := by
  show Calls Tryz.prog 55 #[.agg (neiC x.ip x.m), .agg (neiC y.ip y.m)] w _
  unfold neiC
  go_enter Tryz.func55, Tryz.ntmps55
  go_wp2_with fail
  refine (cmpA _ x.ip y.ip).mono ?_
  rintro e w1 ⟨rfl, h1⟩
  subst h1
  go_wp2
  go_ret
  exact ⟨rfl, ((Touch.refl [] w).alloc _).alloc _, Nat.le_refl _⟩
theorem cmpI_eq {a b : Int} : cmpI a b = 0 ↔ a = b := by
  unfold cmpI
  split
  · constructor <;> intro h <;> omega
  · split
    · constructor <;> intro h <;> omega
    · constructor <;> intro h <;> omega
theorem cmpI_lt {a b : Int} : cmpI a b < 0 ↔ a < b := by
  unfold cmpI
  split
  · constructor <;> intro h <;> omega
  · split
    · constructor <;> intro h <;> omega
    · constructor <;> intro h <;> omega
theorem ltN (x y : NeE) : ltOf cfN x y = true ↔ x.ip < y.ip := by
  unfold ltOf
  rw [decide_eq_true_eq]
  exact cmpI_lt
theorem ltN_f (x y : NeE) : ltOf cfN x y = false ↔ ¬ x.ip < y.ip := by
  rw [← ltN, Bool.not_eq_true]
theorem swoN : Sort.SWO (ltOf cfN) where
  irrefl x := by rw [ltN_f]; omega
  trans x y z h1 h2 := by rw [ltN] at *; omega
  ntrans x y z h1 h2 := by rw [ltN_f] at *; omega
theorem aggN (w : World) : (isAgg 53).run Tryz.prog w = .ok true w := by kernel_rfl
theorem sizeN (w : World) : (Go.sizeOf 53).run Tryz.prog w = .ok 7 w := by kernel_rfl
theorem entersN : ∀ args w, (callFunc 55 args).run Tryz.prog w = .ok (.enter 55 args) w := enters_of Tryz.func55 (by kernel_rfl) rfl
def SortedN (l' l : List NeE) : Prop := l'.Perm l ∧ l'.Pairwise fun x y => ¬ y.ip < x.ip
theorem sortN_calls {w : World} {A : Option Addr} {c n : Nat} {l : List NeE} (h : VRow w 53 7 (.slice A n c) n (SK.flatL encN l)) (hl : l.length = n) (hn : n ≤ 1000000) :
    Calls Tryz.prog 81 #[.slice A n c, .func (.func 55) #[] #[]] w fun e w' => e = .returned (.tuple #[]) ∧ ∃ l', SortedN l' l ∧ VRow w' 53 7 (.slice A n c) n (SK.flatL encN l') ∧ Touch (Value.slice A n c).ownBlock.toList w w' := by
  by_cases h0 : n = 0
  · subst h0
    have hs := Go.Proofs.AnyF.slices_SortFunc_none (P := Tryz.prog) (ρ := sortN_ren) { sortN with } A c (.func (.func 55) #[] #[]) w
    change Calls Tryz.prog 81 _ _ _ at hs
    refine hs.mono ?_
    rintro e w' ⟨rfl, rfl⟩
    obtain rfl := List.eq_nil_of_length_eq_zero hl
    exact ⟨rfl, [], ⟨List.Perm.refl _, List.Pairwise.nil⟩, h, Touch.refl _ _⟩
  · obtain ⟨g, c', e, hg, _⟩ := h.at_ (by omega)
    simp only [Value.slice.injEq, true_and] at e
    obtain ⟨rfl, rfl⟩ := e
    obtain ⟨hH, hblk⟩ := SK.holds_of encN encN_len h hl
    have hs := Go.Proofs.AnyQ.slices_SortFunc (P := Tryz.prog) (ρ := sortN_ren) sortN 7 aggN sizeN encN encN_len encN_one cfN swoN 55 #[] g 0 c l.toArray w entersN
      (fun m os dk _ x y => (closureN x y _).mono fun e w' ⟨he, t, hd⟩ => ⟨he, SK.grow_of t hd⟩) hH hblk (by simp; omega)
    change Calls Tryz.prog 81 _ _ _ at hs
    rw [show l.toArray.size = n by simpa using hl] at hs
    refine hs.mono ?_
    rintro e w' ⟨rfl, d', m, os, hp, hso, rfl⟩
    have hp' : Sort.PermIn 0 l.toArray.size l.toArray d' := by rw [show l.toArray.size = n by simpa using hl]; exact hp
    have hs' : Sort.SortedIn (ltOf cfN) 0 l.toArray.size d' := by rw [show l.toArray.size = n by simpa using hl]; exact hso
    obtain ⟨e1, e2, e3⟩ := SK.sorted_list hp' hs'
    obtain ⟨r1, r2⟩ := SK.sorted_row encN encN_len h (d' := d') (m := m) (by rw [e1]; simpa using hl) os
    exact ⟨rfl, d'.toList, ⟨by simpa using e2, e3.imp fun h => (ltN_f _ _).1 h⟩, r1, r2⟩
end Go.Proofs.YtnpeafhjcelpfaaGreat.Tri
