/- Flat tables in memory: newFlat, has, put, drop, count; no condition. -/
import Derived.Test.YtnpeafhjcelpfaaGreatLB
namespace Go.Proofs.YtnpeafhjcelpfaaGreat.Tri
open Go.RowKit Go.Maps
set_option linter.unusedVariables false
set_option linter.unusedSimpArgs false
set_option maxRecDepth 100000
def cellsAt (w : World) (b : Nat) : Array Value := match w.heap[b]? with | some (.cells cs _ _) => cs | _ => #[]
def OpAt (w : World) (b : Nat) : Prop := ∃ o, w.heap[b]? = some (.cells (opC o) 57 (0, 0))
theorem load57 {w : World} {b : Nat} (h : OpAt w b) : (loadVar 57 ⟨b, 0, none⟩).run Tryz.prog w = .ok (.agg (cellsAt w b)) w := by
  obtain ⟨o, h⟩ := h
  have e : cellsAt w b = opC o := by unfold cellsAt; rw [h]
  rw [e]
  exact run_loadVar_row w b 57 57 (opC o) (0, 0) _ h Tryz.underlying57 rfl (by kernel_rfl)
theorem load57' {w : World} {b : Nat} (h : OpAt w b) : (Instr.loadAt 57 (.pointer (some ⟨b, 0, none⟩))).run Tryz.prog w = .ok (.agg (cellsAt w b)) w := by
  simp only [Instr.loadAt, Instr.sureAddr, Sem.run_bind, Sem.run_pure, Result.andThen_ok, load57 h]
theorem loadVar_other {t : TypeId} (h : ¬ t = 57) (a : Addr) : loadVar t a = (do if ← isAgg t then pure (.agg (← loadCells a (← sizeOf t))) else load a) := rfl
attribute [-go_sem] loadVar
attribute [local go_sem] load57 loadVar_other
def macC (m : M6) : Array Value := #[.int .u8 m.m0, .int .u8 m.m1, .int .u8 m.m2, .int .u8 m.m3, .int .u8 m.m4, .int .u8 m.m5]
theorem sz_drew (w : World) : w.drew.heap.size = w.heap.size := rfl
theorem at2' {w : World} {o : Obj} {n : Nat} (h : n = w.heap.size) : (w.alloc o).heap[n]? = some o := by subst h; exact heap_alloc_new w o
theorem six_cells {w : World} {b : Nat} {c0 c1 c2 c3 c4 c5 : Value} {T : TypeId} (h : w.heap[b]? = some (.cells #[c0, c1, c2, c3, c4, c5] T (0, 0))) :
    w.cell? ⟨b, 0, none⟩ = some c0 ∧ w.cell? ⟨b, 1, none⟩ = some c1 ∧ w.cell? ⟨b, 2, none⟩ = some c2 ∧ w.cell? ⟨b, 3, none⟩ = some c3 ∧ w.cell? ⟨b, 4, none⟩ = some c4 ∧ w.cell? ⟨b, 5, none⟩ = some c5 := by
  refine ⟨?_, ?_, ?_, ?_, ?_, ?_⟩ <;> simp [World.cell?, h]
theorem set6v {W : World} {b : Nat} {c0 c1 c2 c3 c4 c5 : Value} {T : TypeId} (h : W.heap[b]? = some (.cells #[c0, c1, c2, c3, c4, c5] T (0, 0))) (x0 x1 x2 x3 x4 x5 : Value) :
    ((((((W.setCell ⟨b, 0, none⟩ x0).setCell ⟨b, 1, none⟩ x1).setCell ⟨b, 2, none⟩ x2).setCell ⟨b, 3, none⟩ x3).setCell ⟨b, 4, none⟩ x4).setCell ⟨b, 5, none⟩ x5).heap[b]? = some (.cells #[x0, x1, x2, x3, x4, x5] T (0, 0)) := by
  have h0 := box_set (o := 0) h x0
  simp only [List.setIfInBounds_toArray, List.set_cons_succ, List.set_cons_zero] at h0
  have h1 := box_set (o := 1) h0 x1
  simp only [List.setIfInBounds_toArray, List.set_cons_succ, List.set_cons_zero] at h1
  have h2 := box_set (o := 2) h1 x2
  simp only [List.setIfInBounds_toArray, List.set_cons_succ, List.set_cons_zero] at h2
  have h3 := box_set (o := 3) h2 x3
  simp only [List.setIfInBounds_toArray, List.set_cons_succ, List.set_cons_zero] at h3
  have h4 := box_set (o := 4) h3 x4
  simp only [List.setIfInBounds_toArray, List.set_cons_succ, List.set_cons_zero] at h4
  have h5 := box_set (o := 5) h4 x5
  simp only [List.setIfInBounds_toArray, List.set_cons_succ, List.set_cons_zero] at h5
  exact h5
theorem set7v {W : World} {b : Nat} {c0 c1 c2 c3 c4 c5 c6 : Value} {T : TypeId} (h : W.heap[b]? = some (.cells #[c0, c1, c2, c3, c4, c5, c6] T (0, 0))) (x0 x1 x2 x3 x4 x5 x6 : Value) :
    (((((((W.setCell ⟨b, 0, none⟩ x0).setCell ⟨b, 1, none⟩ x1).setCell ⟨b, 2, none⟩ x2).setCell ⟨b, 3, none⟩ x3).setCell ⟨b, 4, none⟩ x4).setCell ⟨b, 5, none⟩ x5).setCell ⟨b, 6, none⟩ x6).heap[b]? = some (.cells #[x0, x1, x2, x3, x4, x5, x6] T (0, 0)) :=
  by
  have h0 := box_set (o := 0) h x0
  simp only [List.setIfInBounds_toArray, List.set_cons_succ, List.set_cons_zero] at h0
  have h1 := box_set (o := 1) h0 x1
  simp only [List.setIfInBounds_toArray, List.set_cons_succ, List.set_cons_zero] at h1
  have h2 := box_set (o := 2) h1 x2
  simp only [List.setIfInBounds_toArray, List.set_cons_succ, List.set_cons_zero] at h2
  have h3 := box_set (o := 3) h2 x3
  simp only [List.setIfInBounds_toArray, List.set_cons_succ, List.set_cons_zero] at h3
  have h4 := box_set (o := 4) h3 x4
  simp only [List.setIfInBounds_toArray, List.set_cons_succ, List.set_cons_zero] at h4
  have h5 := box_set (o := 5) h4 x5
  simp only [List.setIfInBounds_toArray, List.set_cons_succ, List.set_cons_zero] at h5
  have h6 := box_set (o := 6) h5 x6
  simp only [List.setIfInBounds_toArray, List.set_cons_succ, List.set_cons_zero] at h6
  exact h6
theorem fstF1 (w : World) (A B : Obj) : ((w.drew.alloc A).alloc B).heap[w.heap.size]? = some A := heap_alloc2_old w A B
theorem sndF1 (w : World) (A B : Obj) : ((w.drew.alloc A).alloc B).heap[w.heap.size + 1]? = some B := heap_alloc2_new w A B
theorem fstF2 (w : World) (A B : Obj) : (((w.alloc A).alloc B).drew).heap[w.heap.size]? = some A := heap_alloc2_old w A B
theorem sndF2 (w : World) (A B : Obj) : (((w.alloc A).alloc B).drew).heap[w.heap.size + 1]? = some B := heap_alloc2_new w A B
theorem fstF3 (w : World) (A B : Obj) : ((w.alloc A).alloc B).heap[w.heap.size]? = some A := heap_alloc2_old w A B
theorem sndF3 (w : World) (A B : Obj) : ((w.alloc A).alloc B).heap[w.heap.size + 1]? = some B := heap_alloc2_new w A B
theorem oneG1 (w : World) (A : Obj) : (w.drew.alloc A).heap[w.heap.size]? = some A := heap_alloc_new w A
theorem oneG2 (w : World) (A : Obj) : ((w.alloc A).drew).heap[w.heap.size]? = some A := heap_alloc_new w A
theorem oneG3 (w : World) (A : Obj) : (w.alloc A).heap[w.heap.size]? = some A := heap_alloc_new w A
theorem keep7 {W : World} {b k : Nat} {x : Obj} (h : W.heap[k]? = some x) (hk : k ≠ b) (x0 x1 x2 x3 x4 x5 x6 : Value) :
    (((((((W.setCell ⟨b, 0, none⟩ x0).setCell ⟨b, 1, none⟩ x1).setCell ⟨b, 2, none⟩ x2).setCell ⟨b, 3, none⟩ x3).setCell ⟨b, 4, none⟩ x4).setCell ⟨b, 5, none⟩ x5).setCell ⟨b, 6, none⟩ x6).heap[k]? = some x := by
  have e : ∀ (V : World) (o : Nat) (y : Value), (V.setCell ⟨b, o, none⟩ y).heap[k]? = V.heap[k]? := fun V o y => heap_setCell_other V ⟨b, o, none⟩ k y hk
  rw [e, e, e, e, e, e, e]
  exact h
theorem at_end0 (w : World) (o : Obj) : (w.alloc o).heap[w.heap.size]? = some o := heap_alloc_new w o
theorem seven_cells {w : World} {b : Nat} {c0 c1 c2 c3 c4 c5 c6 : Value} {T : TypeId} (h : w.heap[b]? = some (.cells #[c0, c1, c2, c3, c4, c5, c6] T (0, 0))) :
    w.cell? ⟨b, 0, none⟩ = some c0 ∧ w.cell? ⟨b, 1, none⟩ = some c1 ∧ w.cell? ⟨b, 2, none⟩ = some c2 ∧ w.cell? ⟨b, 3, none⟩ = some c3 ∧ w.cell? ⟨b, 4, none⟩ = some c4 ∧ w.cell? ⟨b, 5, none⟩ = some c5 ∧ w.cell? ⟨b, 6, none⟩ = some c6 := by
  refine ⟨?_, ?_, ?_, ?_, ?_, ?_, ?_⟩ <;> simp [World.cell?, h]
theorem set7 {w W : World} {b : Nat} {c0 c1 c2 c3 c4 c5 c6 : Value} {T : TypeId} (t : Touch [] w W) (h : W.heap[b]? = some (.cells #[c0, c1, c2, c3, c4, c5, c6] T (0, 0))) (hb : w.heap.size ≤ b) (x0 x1 x2 x3 x4 x5 x6 : Value) :
    (((((((W.setCell ⟨b, 0, none⟩ x0).setCell ⟨b, 1, none⟩ x1).setCell ⟨b, 2, none⟩ x2).setCell ⟨b, 3, none⟩ x3).setCell ⟨b, 4, none⟩ x4).setCell ⟨b, 5, none⟩ x5).setCell ⟨b, 6, none⟩ x6).heap[b]? = some (.cells #[x0, x1, x2, x3, x4, x5, x6] T (0, 0)) ∧
    Touch [] w (((((((W.setCell ⟨b, 0, none⟩ x0).setCell ⟨b, 1, none⟩ x1).setCell ⟨b, 2, none⟩ x2).setCell ⟨b, 3, none⟩ x3).setCell ⟨b, 4, none⟩ x4).setCell ⟨b, 5, none⟩ x5).setCell ⟨b, 6, none⟩ x6) :=
  by
  have h0 : (W.setCell ⟨b, 0, none⟩ x0).heap[b]? = some (.cells #[x0, c1, c2, c3, c4, c5, c6] T (0, 0)) := box_set (o := 0) h x0
  have h1 := box_set (o := 1) h0 x1
  simp only [List.setIfInBounds_toArray, List.set_cons_succ, List.set_cons_zero] at h1
  have h2 := box_set (o := 2) h1 x2
  simp only [List.setIfInBounds_toArray, List.set_cons_succ, List.set_cons_zero] at h2
  have h3 := box_set (o := 3) h2 x3
  simp only [List.setIfInBounds_toArray, List.set_cons_succ, List.set_cons_zero] at h3
  have h4 := box_set (o := 4) h3 x4
  simp only [List.setIfInBounds_toArray, List.set_cons_succ, List.set_cons_zero] at h4
  have h5 := box_set (o := 5) h4 x5
  simp only [List.setIfInBounds_toArray, List.set_cons_succ, List.set_cons_zero] at h5
  have h6 := box_set (o := 6) h5 x6
  simp only [List.setIfInBounds_toArray, List.set_cons_succ, List.set_cons_zero] at h6
  exact ⟨h6, ((((((t.setCell _ _ (.inr hb)).setCell _ _ (.inr hb)).setCell _ _ (.inr hb)).setCell _ _ (.inr hb)).setCell _ _ (.inr hb)).setCell _ _ (.inr hb)).setCell _ _ (.inr hb)⟩

/-! ### Neigh -/
def fv1 : Value := .func (.func 72) #[] #[]
structure Flat1 (w : World) (fb m : Nat) (f : Value → Option Value) (n : Nat) : Prop where
  blk : w.heap[fb]? = some (.cells #[.map (some m), fv1] 122 (0, 0))
  map : GMap 38 w m f n
theorem Flat1.kept {w w' : World} {fb m : Nat} {f : Value → Option Value} {n : Nat} (h : Flat1 w fb m f n) {S : List Nat} (t : Touch S w w') (h1 : fb ∉ S) (h2 : m ∉ S) : Flat1 w' fb m f n :=
  ⟨touch_box t h.blk h1, h.map.kept t h2⟩
theorem Flat1.ne {w : World} {fb m : Nat} {f : Value → Option Value} {n : Nat} (h : Flat1 w fb m f n) : fb ≠ m := by
  rintro rfl
  obtain ⟨es, c, h2⟩ := h.map.isMap
  rw [h.blk] at h2
  cases h2
theorem Flat1.lt {w : World} {fb m : Nat} {f : Value → Option Value} {n : Nat} (h : Flat1 w fb m f n) : fb < w.heap.size ∧ m < w.heap.size := ⟨(Array.getElem?_eq_some_iff.1 h.blk).1, h.map.lt⟩
set_option maxHeartbeats 4000000 in
theorem newflat1_calls {w : World} :
    Calls Tryz.prog 71 #[fv1] w (fun e w' => ∃ fb m, e = .returned (.pointer (some ⟨fb, 0, none⟩)) ∧ Flat1 w' fb m (fun _ => none) 0 ∧ Touch [] w w' ∧ w.heap.size ≤ fb ∧ w.heap.size ≤ m ∧ fb ≠ m) := by
  have hmm := @run_makeMap Tryz.prog
  unfold fv1
  go_enter Tryz.func71, Tryz.ntmps71
  go_wp2
  go_ret
  refine ⟨w.heap.size + 1, w.heap.size, rfl, ⟨box_at' (w.alloc (.map #[] 0)) _ _ (by simp), (GMap.made _ w).kept (S := []) ((Touch.refl [] _).alloc _) (by simp)⟩, ((Touch.refl [] w).alloc _).alloc _, by omega, by omega, by omega⟩
theorem opS1 {w : World} {fb m b : Nat} {T : TypeId} (o : OpR) (hf : w.heap[fb]? = some (.cells #[.map (some m), fv1] T (0, 0))) (ho : w.heap[b]? = some (.cells (opC o) 57 (0, 0))) :
    w.cell? ⟨fb, 1, none⟩ = some (.func (.func 72) #[] #[]) ∧ OpAt w b ∧ cellsAt w b = opC o :=
  ⟨by simp [World.cell?, hf, fv1], ⟨o, ho⟩, by unfold cellsAt; rw [ho]⟩
theorem z1 (w : World) : (zeroValue 53).run Tryz.prog w = .ok (.agg (neiC 0 ⟨0, 0, 0, 0, 0, 0⟩)) w := by kernel_rfl
set_option maxHeartbeats 4000000 in
theorem count1_calls {w : World} {fb m : Nat} {f : Value → Option Value} {n : Nat} (h : Flat1 w fb m f n) :
    Calls Tryz.prog 161 #[.pointer (some ⟨fb, 0, none⟩)] w (fun e w' => e = .returned (.int .i64 n) ∧ Touch [] w w') := by
  obtain ⟨c0, c1, _⟩ := two_cells h.blk
  have hl := h.map.len Tryz.underlying119
  go_enter Tryz.func161, Tryz.ntmps161
  go_wp2
  go_ret
  exact ⟨rfl, Touch.refl [] w⟩
set_option maxHeartbeats 4000000 in
theorem has1_calls {w : World} {fb m : Nat} {f : Value → Option Value} {n : Nat} (h : Flat1 w fb m f n) (o : OpR) {l : Lit} (hk : keyOf Tryz.prog 38 (.int .u32 o.ip) = some l) (hf : ∀ v, f (.int .u32 o.ip) = some v → ∃ (z : Int) (y : M6), v = .agg (neiC z y)) :
    Calls Tryz.prog 163 #[.pointer (some ⟨fb, 0, none⟩), .agg (opC o)] w (fun e w' => e = .returned (.bool (f (.int .u32 o.ip)).isSome) ∧ Touch [] w w') := by
  have H := Lib.hid h
  have HK := Lib.hid hk
  have HF := Lib.hid hf
  clear h hk hf
  go_enter Tryz.func163, Tryz.ntmps163
  go_upto_region 1 with (fail)
  have OB := Lib.hid (box_at w (.cells (opC o) 57))
  have TW := Lib.hid ((Touch.refl [] w).alloc (.cells (opC o) 57))
  have FB := Lib.hid (touch_box TW.out H.out.blk (by simp))
  obtain ⟨WA, hWA⟩ : ∃ WA : World, WA = w.alloc (.cells (opC o) 57) := ⟨_, rfl⟩
  rw [← hWA] at OB TW FB ⊢
  obtain ⟨b0, hb0⟩ : ∃ b0, b0 = w.heap.size := ⟨_, rfl⟩
  rw [← hb0] at OB ⊢
  clear hWA hb0
  go_cut [5, 6] (fun v5 v6 wc => v5 = .int .u32 o.ip ∧ ∃ b5, v6 = .pointer (some ⟨b5, 0, none⟩) ∧ Hid (wc.heap[b5]? = some (.cells (neiC o.ip o.nm) 53 (0, 0))) ∧ Hid (Touch [] w wc))
  case first =>
    have hlf := (Array.getElem?_eq_some_iff.1 FB.out).1
    have hlo := (Array.getElem?_eq_some_iff.1 OB.out).1
    have hls := TW.out.size
    have NE := Lib.hid (show fb ≠ WA.heap.size ∧ b0 ≠ WA.heap.size ∧ w.heap.size ≤ WA.heap.size by omega)
    clear hlf hlo hls
    obtain ⟨k0, k1, k2⟩ := opS1 o FB.out OB.out
    go_region_held3 (fun w' => w'.cell? ⟨fb, 1, none⟩ = some (.func (.func 72) #[] #[]) ∧ OpAt w' b0 ∧ cellsAt w' b0 = opC o)
      (first | with_reducible exact opS1 o (drew_keep FB.out) (drew_keep OB.out) | with_reducible exact opS1 o (box_keep _ (drew_keep FB.out)) (box_keep _ (drew_keep OB.out)) | with_reducible exact opS1 o (drew_keep (box_keep _ FB.out)) (drew_keep (box_keep _ OB.out)) | with_reducible exact opS1 o (box_keep _ FB.out) (box_keep _ OB.out) | with_reducible exact opS1 o FB5.out OB5.out | with_reducible exact opS1 o (box_keep _ FB5.out) (box_keep _ OB5.out) | with_reducible exact opS1 o (keep7 FB5.out NE.out.1 _ _ _ _ _ _ _) (keep7 OB5.out NE.out.2.1 _ _ _ _ _ _ _) | go_keep)
      (first | (go_at_call 72; refine (row1_calls o).mono ?_; rintro e w5 ⟨rfl, ht⟩; unfold neiC; first | (have Q5 := Lib.hid (touch_box ht (show _ = some (.cells (neiC 0 ⟨0, 0, 0, 0, 0, 0⟩) 53 (0, 0)) from heap_alloc_new WA _) (by simp)); unfold neiC at Q5; obtain ⟨r0, r1, r2, r3, r4, r5, r6⟩ := seven_cells Q5.out; have rf := fun o => rt_frozen Q5.out o; have OB5 := Lib.hid (touch_box ht (show _ = some (.cells (opC o) 57 (0, 0)) from box_keep (w := WA) _ OB.out) (by simp)); have T5 : Hid (Touch [] w w5) := Lib.hid (by first | with_reducible exact ((TW.out.drew.alloc _)).trans ht (by simp) | with_reducible exact ((TW.out.alloc _).drew).trans ht (by simp) | with_reducible exact ((TW.out.alloc _)).trans ht (by simp)); have FB5 := Lib.hid (touch_box T5.out H.out.blk (by simp))) | (have OB5 := Lib.hid (touch_box ht (show _ = some (.cells (opC o) 57 (0, 0)) from OB.out) (by simp)); have T5 : Hid (Touch [] w w5) := Lib.hid (by first | with_reducible exact (TW.out.drew).trans ht (by simp) | with_reducible exact (TW.out).trans ht (by simp)); have FB5 := Lib.hid (touch_box T5.out H.out.blk (by simp)))))
    all_goals
      clear k0 k1 k2
      go_wp2
      go_meet
      case rel =>
        unfold neiC
        first
          | (have S7 := set7 T5.out Q5.out NE.out.2.2 (.int .u32 o.ip) (.int .u8 o.nm.m0) (.int .u8 o.nm.m1) (.int .u8 o.nm.m2) (.int .u8 o.nm.m3) (.int .u8 o.nm.m4) (.int .u8 o.nm.m5); exact ⟨rfl, _, rfl, Lib.hid S7.1, Lib.hid S7.2⟩)
          | exact ⟨rfl, _, rfl, Lib.hid (at_end0 w5 _), Lib.hid (T5.out.alloc _)⟩
  case rest =>
  clear OB TW FB
  obtain ⟨rfl, b5, rfl, hb5, hT⟩ := hcut
  have F2 := Lib.hid (H.out.kept hT.out (by simp) (by simp))
  obtain ⟨c0, c1, _⟩ := two_cells F2.out.blk
  have hl := (F2.out.map.look lawAddr Tryz.underlying119 (z1 _) HK.out).1
  have HE : Hid ((f (.int .u32 o.ip)).isSome = (f (.int .u32 o.ip)).isSome) := Lib.hid rfl
  generalize hff : f (.int .u32 o.ip) = ff at hl HE ⊢
  cases ff with
  | none =>
    simp only [Option.getD_none, Option.isSome_none, neiC] at hl
    have HFF := Lib.hid hff
    clear hff HE
    skip
    go_wp2
    go_ret
    exact ⟨by rw [HFF.out]; rfl, hT.out.alloc _⟩
  | some v =>
    obtain ⟨z, y, rfl⟩ := HF.out v hff
    simp only [Option.getD_some, Option.isSome_some, neiC] at hl
    have HFF := Lib.hid hff
    clear hff HE
    skip
    go_wp2
    go_ret
    exact ⟨by rw [HFF.out]; rfl, hT.out.alloc _⟩
set_option maxHeartbeats 4000000 in
theorem drop1_calls {w : World} {fb m : Nat} {f : Value → Option Value} {n : Nat} (h : Flat1 w fb m f n) (o : OpR) {l : Lit} (hk : keyOf Tryz.prog 38 (.int .u32 o.ip) = some l) :
    Calls Tryz.prog 162 #[.pointer (some ⟨fb, 0, none⟩), .agg (opC o)] w (fun e w' => e = .returned (.tuple #[]) ∧ Flat1 w' fb m (updV f (.int .u32 o.ip) none) (if (f (.int .u32 o.ip)).isSome then n - 1 else n) ∧ Touch [m] w w') := by
  have H := Lib.hid h
  have HK := Lib.hid hk
  have HNE := Lib.hid h.ne
  obtain ⟨n', hn'⟩ : ∃ n', n' = (if (f (.int .u32 o.ip)).isSome then n - 1 else n) := ⟨_, rfl⟩
  rw [← hn']
  have HN' := Lib.hid hn'
  clear h hk hn'
  go_enter Tryz.func162, Tryz.ntmps162
  go_upto_region 1 with (fail)
  have OB := Lib.hid (box_at w (.cells (opC o) 57))
  have TW := Lib.hid ((Touch.refl [] w).alloc (.cells (opC o) 57))
  have FB := Lib.hid (touch_box TW.out H.out.blk (by simp))
  obtain ⟨WA, hWA⟩ : ∃ WA : World, WA = w.alloc (.cells (opC o) 57) := ⟨_, rfl⟩
  rw [← hWA] at OB TW FB ⊢
  obtain ⟨b0, hb0⟩ : ∃ b0, b0 = w.heap.size := ⟨_, rfl⟩
  rw [← hb0] at OB ⊢
  clear hWA hb0
  go_cut [4, 5] (fun v4 v5 wc => v4 = .int .u32 o.ip ∧ ∃ b5, v5 = .pointer (some ⟨b5, 0, none⟩) ∧ Hid (wc.heap[b5]? = some (.cells (neiC o.ip o.nm) 53 (0, 0))) ∧ Hid (Touch [] w wc))
  case first =>
    have hlf := (Array.getElem?_eq_some_iff.1 FB.out).1
    have hlo := (Array.getElem?_eq_some_iff.1 OB.out).1
    have hls := TW.out.size
    have NE := Lib.hid (show fb ≠ WA.heap.size ∧ b0 ≠ WA.heap.size ∧ w.heap.size ≤ WA.heap.size by omega)
    clear hlf hlo hls
    obtain ⟨k0, k1, k2⟩ := opS1 o FB.out OB.out
    go_region_held3 (fun w' => w'.cell? ⟨fb, 1, none⟩ = some (.func (.func 72) #[] #[]) ∧ OpAt w' b0 ∧ cellsAt w' b0 = opC o)
      (first | with_reducible exact opS1 o (drew_keep FB.out) (drew_keep OB.out) | with_reducible exact opS1 o (box_keep _ (drew_keep FB.out)) (box_keep _ (drew_keep OB.out)) | with_reducible exact opS1 o (drew_keep (box_keep _ FB.out)) (drew_keep (box_keep _ OB.out)) | with_reducible exact opS1 o (box_keep _ FB.out) (box_keep _ OB.out) | with_reducible exact opS1 o FB5.out OB5.out | with_reducible exact opS1 o (box_keep _ FB5.out) (box_keep _ OB5.out) | with_reducible exact opS1 o (keep7 FB5.out NE.out.1 _ _ _ _ _ _ _) (keep7 OB5.out NE.out.2.1 _ _ _ _ _ _ _) | go_keep)
      (first | (go_at_call 72; refine (row1_calls o).mono ?_; rintro e w5 ⟨rfl, ht⟩; unfold neiC; first | (have Q5 := Lib.hid (touch_box ht (show _ = some (.cells (neiC 0 ⟨0, 0, 0, 0, 0, 0⟩) 53 (0, 0)) from heap_alloc_new WA _) (by simp)); unfold neiC at Q5; obtain ⟨r0, r1, r2, r3, r4, r5, r6⟩ := seven_cells Q5.out; have rf := fun o => rt_frozen Q5.out o; have OB5 := Lib.hid (touch_box ht (show _ = some (.cells (opC o) 57 (0, 0)) from box_keep (w := WA) _ OB.out) (by simp)); have T5 : Hid (Touch [] w w5) := Lib.hid (by first | with_reducible exact ((TW.out.drew.alloc _)).trans ht (by simp) | with_reducible exact ((TW.out.alloc _).drew).trans ht (by simp) | with_reducible exact ((TW.out.alloc _)).trans ht (by simp)); have FB5 := Lib.hid (touch_box T5.out H.out.blk (by simp))) | (have OB5 := Lib.hid (touch_box ht (show _ = some (.cells (opC o) 57 (0, 0)) from OB.out) (by simp)); have T5 : Hid (Touch [] w w5) := Lib.hid (by first | with_reducible exact (TW.out.drew).trans ht (by simp) | with_reducible exact (TW.out).trans ht (by simp)); have FB5 := Lib.hid (touch_box T5.out H.out.blk (by simp)))))
    all_goals
      clear k0 k1 k2
      go_wp2
      go_meet
      case rel =>
        unfold neiC
        first
          | (have S7 := set7 T5.out Q5.out NE.out.2.2 (.int .u32 o.ip) (.int .u8 o.nm.m0) (.int .u8 o.nm.m1) (.int .u8 o.nm.m2) (.int .u8 o.nm.m3) (.int .u8 o.nm.m4) (.int .u8 o.nm.m5); exact ⟨rfl, _, rfl, Lib.hid S7.1, Lib.hid S7.2⟩)
          | exact ⟨rfl, _, rfl, Lib.hid (at_end0 w5 _), Lib.hid (T5.out.alloc _)⟩
  case rest =>
  clear OB TW FB
  obtain ⟨rfl, b5, rfl, hb5, hT⟩ := hcut
  have F2 := Lib.hid (H.out.kept hT.out (by simp) (by simp))
  obtain ⟨c0, c1, _⟩ := two_cells F2.out.blk
  obtain ⟨w3, hrun, k3, t3⟩ := F2.out.map.drop lawAddr Tryz.underlying119 HK.out 0
  rw [← HN'.out] at k3
  have K3 := Lib.hid k3
  have T3 := Lib.hid t3
  clear k3 t3
  skip
  go_wp2
  go_end0
  exact ⟨rfl, ⟨touch_box T3.out F2.out.blk (by simpa using HNE.out), K3.out⟩, (hT.out.mono (by simp)).trans T3.out (by simp)⟩
set_option maxHeartbeats 4000000 in
theorem put1_calls {w : World} {fb m : Nat} {f : Value → Option Value} {n : Nat} (h : Flat1 w fb m f n) (o : OpR) {l : Lit} (hk : keyOf Tryz.prog 38 (.int .u32 o.ip) = some l) (hn : n < 9223372036854775807) :
    Calls Tryz.prog 164 #[.pointer (some ⟨fb, 0, none⟩), .agg (opC o)] w (fun e w' => e = .returned (.tuple #[]) ∧ Flat1 w' fb m (updV f (.int .u32 o.ip) (some (.agg (neiC o.ip o.nm)))) (if (f (.int .u32 o.ip)).isSome then n else n + 1) ∧ Touch [m] w w') := by
  have H := Lib.hid h
  have HK := Lib.hid hk
  have HNE := Lib.hid h.ne
  have HN := Lib.hid hn
  obtain ⟨n', hn'⟩ : ∃ n', n' = (if (f (.int .u32 o.ip)).isSome then n else n + 1) := ⟨_, rfl⟩
  rw [← hn']
  have HN' := Lib.hid hn'
  clear h hk hn hn'
  unfold neiC
  go_enter Tryz.func164, Tryz.ntmps164
  go_upto_region 1 with (fail)
  have OB := Lib.hid (box_at w (.cells (opC o) 57))
  have TW := Lib.hid ((Touch.refl [] w).alloc (.cells (opC o) 57))
  have FB := Lib.hid (touch_box TW.out H.out.blk (by simp))
  obtain ⟨WA, hWA⟩ : ∃ WA : World, WA = w.alloc (.cells (opC o) 57) := ⟨_, rfl⟩
  rw [← hWA] at OB TW FB ⊢
  obtain ⟨b0, hb0⟩ : ∃ b0, b0 = w.heap.size := ⟨_, rfl⟩
  rw [← hb0] at OB ⊢
  clear hWA hb0
  go_cut [4, 5] (fun v4 v5 wc => v4 = .int .u32 o.ip ∧ ∃ b5, v5 = .pointer (some ⟨b5, 0, none⟩) ∧ Hid (wc.heap[b5]? = some (.cells (neiC o.ip o.nm) 53 (0, 0))) ∧ Hid (Touch [] w wc))
  case first =>
    have hlf := (Array.getElem?_eq_some_iff.1 FB.out).1
    have hlo := (Array.getElem?_eq_some_iff.1 OB.out).1
    have hls := TW.out.size
    have NE := Lib.hid (show fb ≠ WA.heap.size ∧ b0 ≠ WA.heap.size ∧ w.heap.size ≤ WA.heap.size by omega)
    clear hlf hlo hls
    obtain ⟨k0, k1, k2⟩ := opS1 o FB.out OB.out
    go_region_held3 (fun w' => w'.cell? ⟨fb, 1, none⟩ = some (.func (.func 72) #[] #[]) ∧ OpAt w' b0 ∧ cellsAt w' b0 = opC o)
      (first | with_reducible exact opS1 o (drew_keep FB.out) (drew_keep OB.out) | with_reducible exact opS1 o (box_keep _ (drew_keep FB.out)) (box_keep _ (drew_keep OB.out)) | with_reducible exact opS1 o (drew_keep (box_keep _ FB.out)) (drew_keep (box_keep _ OB.out)) | with_reducible exact opS1 o (box_keep _ FB.out) (box_keep _ OB.out) | with_reducible exact opS1 o FB5.out OB5.out | with_reducible exact opS1 o (box_keep _ FB5.out) (box_keep _ OB5.out) | with_reducible exact opS1 o (keep7 FB5.out NE.out.1 _ _ _ _ _ _ _) (keep7 OB5.out NE.out.2.1 _ _ _ _ _ _ _) | go_keep)
      (first | (go_at_call 72; refine (row1_calls o).mono ?_; rintro e w5 ⟨rfl, ht⟩; unfold neiC; first | (have Q5 := Lib.hid (touch_box ht (show _ = some (.cells (neiC 0 ⟨0, 0, 0, 0, 0, 0⟩) 53 (0, 0)) from heap_alloc_new WA _) (by simp)); unfold neiC at Q5; obtain ⟨r0, r1, r2, r3, r4, r5, r6⟩ := seven_cells Q5.out; have rf := fun o => rt_frozen Q5.out o; have OB5 := Lib.hid (touch_box ht (show _ = some (.cells (opC o) 57 (0, 0)) from box_keep (w := WA) _ OB.out) (by simp)); have T5 : Hid (Touch [] w w5) := Lib.hid (by first | with_reducible exact ((TW.out.drew.alloc _)).trans ht (by simp) | with_reducible exact ((TW.out.alloc _).drew).trans ht (by simp) | with_reducible exact ((TW.out.alloc _)).trans ht (by simp)); have FB5 := Lib.hid (touch_box T5.out H.out.blk (by simp))) | (have OB5 := Lib.hid (touch_box ht (show _ = some (.cells (opC o) 57 (0, 0)) from OB.out) (by simp)); have T5 : Hid (Touch [] w w5) := Lib.hid (by first | with_reducible exact (TW.out.drew).trans ht (by simp) | with_reducible exact (TW.out).trans ht (by simp)); have FB5 := Lib.hid (touch_box T5.out H.out.blk (by simp)))))
    all_goals
      clear k0 k1 k2
      go_wp2
      go_meet
      case rel =>
        unfold neiC
        first
          | (have S7 := set7 T5.out Q5.out NE.out.2.2 (.int .u32 o.ip) (.int .u8 o.nm.m0) (.int .u8 o.nm.m1) (.int .u8 o.nm.m2) (.int .u8 o.nm.m3) (.int .u8 o.nm.m4) (.int .u8 o.nm.m5); exact ⟨rfl, _, rfl, Lib.hid S7.1, Lib.hid S7.2⟩)
          | exact ⟨rfl, _, rfl, Lib.hid (at_end0 w5 _), Lib.hid (T5.out.alloc _)⟩
  case rest =>
  clear OB TW FB
  obtain ⟨rfl, b5, rfl, hb5, hT⟩ := hcut
  have F2 := Lib.hid (H.out.kept hT.out (by simp) (by simp))
  obtain ⟨c0, c1, _⟩ := two_cells F2.out.blk
  unfold neiC at hb5
  obtain ⟨r0, r1, r2, r3, r4, r5, r6⟩ := seven_cells hb5.out
  obtain ⟨w3, hrun, k3, t3⟩ := (F2.out.map.kept (Touch.refl [] wc).drew (by simp)).store lawAddr Tryz.underlying119 HK.out (.agg (neiC o.ip o.nm)) HN.out
  rw [← HN'.out] at k3
  have K3 := Lib.hid k3
  have T3 := Lib.hid t3
  clear k3 t3
  unfold neiC at hrun K3
  skip
  go_wp2
  go_region
  all_goals
    go_wp2
    go_end0
    exact ⟨rfl, ⟨touch_box T3.out (drew_keep F2.out.blk) (by simpa using HNE.out), K3.out⟩, (hT.out.drew.mono (by simp)).trans T3.out (by simp)⟩
end Go.Proofs.YtnpeafhjcelpfaaGreat.Tri
