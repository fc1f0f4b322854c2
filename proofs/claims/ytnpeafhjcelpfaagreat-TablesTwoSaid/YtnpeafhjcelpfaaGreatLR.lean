/- The library's sort of entries; no condition. -/
import Derived.Test.YtnpeafhjcelpfaaGreatLQ
namespace Go.Proofs.YtnpeafhjcelpfaaGreat.Tri
open Go.RowKit Go.Maps
set_option linter.unusedVariables false
set_option linter.unusedSimpArgs false
set_option maxRecDepth 100000

structure FdE where
  m : M6
  ua : Int
instance : Inhabited FdE := ⟨⟨⟨0, 0, 0, 0, 0, 0⟩, 0⟩⟩
def encF (x : FdE) : List Value := (fdbC x.m x.ua).toList
theorem encF_len (x : FdE) : (encF x).length = 7 := rfl
theorem encF_one (x : FdE) : ∀ v ∈ encF x, v.oneCell' = true := by
  intro v hv
  simp only [encF, fdbC, List.mem_cons, List.not_mem_nil, or_false] at hv
  rcases hv with rfl | rfl | rfl | rfl | rfl | rfl | rfl <;> rfl
def cfF (x y : FdE) : Int := cmpM x.m y.m
theorem closureF (x y : FdE) (w : World) : Calls Tryz.prog 58 #[.agg (encF x).toArray, .agg (encF y).toArray] w fun e w' => e = .returned (.int .i64 (cfF x y)) ∧ Touch [] w w' ∧ w.drawn ≤ w'.drawn := by
  obtain ⟨m, p⟩ := x
  obtain ⟨n, q⟩ := y
  have X := Lib.hid (box_keep (.cells (fdbC n q) 55) (box_at w (.cells (fdbC m p) 55)))
  have Y := Lib.hid (box_at' (w.alloc (.cells (fdbC m p) 55)) (.cells (fdbC n q) 55) (w.heap.size + 1) (by simp))
  have TW := Lib.hid (((Touch.refl [] w).alloc (.cells (fdbC m p) 55)).alloc (.cells (fdbC n q) 55))
  have DW := Lib.hid (show w.drawn ≤ ((w.alloc (.cells (fdbC m p) 55)).alloc (.cells (fdbC n q) 55)).drew.drawn from Nat.le_succ _)
  show Calls Tryz.prog 58 #[.agg (fdbC m p), .agg (fdbC n q)] w _
  go_enter Tryz.func58, Tryz.ntmps58
  go_upto_region 1 with (fail)
  obtain ⟨W0, hW0⟩ : ∃ W0 : World, W0 = (w.alloc (.cells (fdbC m p) 55)).alloc (.cells (fdbC n q) 55) := ⟨_, rfl⟩
  rw [← hW0] at X Y TW DW ⊢
  clear hW0
  have HV := Lib.hid (bcmp_calls (w := W0.drew) (macL m) (macL n) ⟨w.heap.size, 0, none⟩ ⟨w.heap.size + 1, 0, none⟩ (mac_at (drew_keep X.out)) (mac_at (drew_keep Y.out)) 6 6)
  go_region_with ((go_at_call 59; refine HV.out.mono ?_; rintro e w' ⟨rfl, rfl⟩))
  all_goals
    go_wp2
    go_ret
    exact ⟨rfl, TW.out.drew, DW.out⟩
theorem ltF (x y : FdE) : ltOf cfF x y = true ↔ cmpM x.m y.m < 0 := by
  unfold ltOf
  rw [decide_eq_true_eq]
  exact Iff.rfl
theorem ltF_f (x y : FdE) : ltOf cfF x y = false ↔ ¬ cmpM x.m y.m < 0 := by
  rw [← ltF, Bool.not_eq_true]
theorem swoF : Sort.SWO (ltOf cfF) where
  irrefl x := by rw [ltF_f]; unfold cmpM; rw [cb_refl]; omega
  trans x y z h1 h2 := by rw [ltF] at *; exact cb_trans _ _ _ h1 h2
  ntrans x y z h1 h2 := by rw [ltF_f] at *; exact cb_ntrans _ _ _ h1 h2
theorem aggF (w : World) : (isAgg 55).run Tryz.prog w = .ok true w := by kernel_rfl
theorem sizeF (w : World) : (Go.sizeOf 55).run Tryz.prog w = .ok 7 w := by kernel_rfl
theorem entersF : ∀ args w, (callFunc 58 args).run Tryz.prog w = .ok (.enter 58 args) w := enters_of Tryz.func58 (by kernel_rfl) rfl
def SortedF (l' l : List FdE) : Prop := l'.Perm l ∧ l'.Pairwise fun x y => ¬ cmpM y.m x.m < 0
theorem sortF_calls {w : World} {A : Option Addr} {c n : Nat} {l : List FdE} (h : VRow w 55 7 (.slice A n c) n (SK.flatL encF l)) (hl : l.length = n) (hn : n ≤ 1000000) :
    Calls Tryz.prog 83 #[.slice A n c, .func (.func 58) #[] #[]] w fun e w' => e = .returned (.tuple #[]) ∧ ∃ l', SortedF l' l ∧ VRow w' 55 7 (.slice A n c) n (SK.flatL encF l') ∧ Touch (Value.slice A n c).ownBlock.toList w w' := by
  by_cases h0 : n = 0
  · subst h0
    have hs := Go.Proofs.AnyF.slices_SortFunc_none (P := Tryz.prog) (ρ := sortF_ren) { sortF with } A c (.func (.func 58) #[] #[]) w
    change Calls Tryz.prog 83 _ _ _ at hs
    refine hs.mono ?_
    rintro e w' ⟨rfl, rfl⟩
    obtain rfl := List.eq_nil_of_length_eq_zero hl
    exact ⟨rfl, [], ⟨List.Perm.refl _, List.Pairwise.nil⟩, h, Touch.refl _ _⟩
  · obtain ⟨g, c', e, hg, _⟩ := h.at_ (by omega)
    simp only [Value.slice.injEq, true_and] at e
    obtain ⟨rfl, rfl⟩ := e
    obtain ⟨hH, hblk⟩ := SK.holds_of encF encF_len h hl
    have hs := Go.Proofs.AnyQ.slices_SortFunc (P := Tryz.prog) (ρ := sortF_ren) sortF 7 aggF sizeF encF encF_len encF_one cfF swoF 58 #[] g 0 c l.toArray w entersF
      (fun m os dk _ x y => (closureF x y _).mono fun e w' ⟨he, t, hd⟩ => ⟨he, SK.grow_of t hd⟩) hH hblk (by simp; omega)
    change Calls Tryz.prog 83 _ _ _ at hs
    rw [show l.toArray.size = n by simpa using hl] at hs
    refine hs.mono ?_
    rintro e w' ⟨rfl, d', m, os, hp, hso, rfl⟩
    have hp' : Sort.PermIn 0 l.toArray.size l.toArray d' := by rw [show l.toArray.size = n by simpa using hl]; exact hp
    have hs' : Sort.SortedIn (ltOf cfF) 0 l.toArray.size d' := by rw [show l.toArray.size = n by simpa using hl]; exact hso
    obtain ⟨e1, e2, e3⟩ := SK.sorted_list hp' hs'
    obtain ⟨r1, r2⟩ := SK.sorted_row encF encF_len h (d' := d') (m := m) (by rw [e1]; simpa using hl) os
    exact ⟨rfl, d'.toList, ⟨by simpa using e2, e3.imp fun h => (ltF_f _ _).1 h⟩, r1, r2⟩
end Go.Proofs.YtnpeafhjcelpfaaGreat.Tri
