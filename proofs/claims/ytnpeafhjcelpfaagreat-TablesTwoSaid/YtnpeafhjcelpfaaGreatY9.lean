/- The law: both, first; no condition. -/
import Derived.Test.YtnpeafhjcelpfaaGreatY8
import Derived.Test.YtnpeafhjcelpfaaGreatY3
import Derived.Deep.Slices
import Derived.Lib.SmallJoins
import Derived.OpenShut
import Derived.SizedLaws

namespace Go.Proofs.YtnpeafhjcelpfaaGreat.Tri
open Go.RowKit Go.Maps
set_option linter.unusedVariables false
set_option linter.unusedSimpArgs false
set_option maxRecDepth 100000

theorem results_t3 {fn : Func} {a b c : Tmp} (h : fn.results = #[.tmp a, .tmp b, .tmp c]) (tmps : Array Value) (w : World) :
    (results fn tmps).run Tryz.prog w = .ok (.tuple #[tmps.getD a undef, tmps.getD b undef, tmps.getD c undef]) w := by
  simp [results, h]
def BothPost (w : World) (l0 l1 l2 : Int) (e : Ending) (w' : World) : Prop := Touch [] w w' ∧ ((¬ (capOk l0 ∧ capOk l1 ∧ capOk l2) ∧ e = .returned (.tuple #[.pointer none, .pointer none, .bool true])) ∨
  ((capOk l0 ∧ capOk l1 ∧ capOk l2) ∧ ∃ kb rb F, e = .returned (.tuple #[.pointer (some ⟨kb, 0, none⟩), .pointer (some ⟨rb, 0, none⟩), .bool true]) ∧ Duo w' kb rb l0 l1 l2 KSt.none LSt.none F ∧ ∀ x ∈ F, w.heap.size ≤ x))
theorem sane0 {l0 l1 l2 : Int} (h : capOk l0 ∧ capOk l1 ∧ capOk l2) : Sane l0 l1 l2 KSt.none := by
  unfold capOk at h
  exact ⟨(fun x v hv => by cases hv), (fun x v hv => by cases hv), by simp [KSt.none]; omega, by simp [KSt.none]; omega, by simp [KSt.none]; omega, trivial, rfl⟩
theorem good0 {l0 l1 l2 : Int} (h : capOk l0 ∧ capOk l1 ∧ capOk l2) : GoodL l0 l1 l2 LSt.none := by
  unfold capOk at h
  exact ⟨by simp [LSt.none], by simp [LSt.none], by simp [LSt.none], by simp [LSt.none]; omega, by simp [LSt.none]; omega, by simp [LSt.none]; omega⟩
set_option maxHeartbeats 8000000 in
theorem both_calls {w : World} (l0 l1 l2 : Int) : Calls Tryz.prog 16 #[.agg #[.int .i64 l0, .int .i64 l1, .int .i64 l2]] w (BothPost w l0 l1 l2) := by
  obtain ⟨W1, hW1⟩ : ∃ W1 : World, W1 = w.alloc (.cells #[.int .i64 l0, .int .i64 l1, .int .i64 l2] 23) := ⟨_, rfl⟩
  have T1 := Lib.hid (show Touch [] w W1 by rw [hW1]; exact (Touch.refl [] w).alloc _)
  obtain ⟨b1, hb1⟩ : ∃ b1, b1 = w.heap.size := ⟨_, rfl⟩
  have X1 := Lib.hid (show W1.heap[b1]? = some (.cells #[.int .i64 l0, .int .i64 l1, .int .i64 l2] 23 (0, 0)) by rw [hW1, hb1]; exact box_at w _)
  have HW1 := Lib.hid hW1
  have HB1 := Lib.hid hb1
  clear hW1 hb1
  obtain ⟨x0, x1, x2⟩ := th3 X1.out
  go_enter Tryz.func16, Tryz.ntmps16
  go_upto_region 1 with (fail)
  rw [← HW1.out, ← HB1.out]
  go_wp2_with fail
  refine (new_calls3 l0 l1 l2).mono ?_
  rintro e w2 ⟨t2, hk⟩
  have T2 := Lib.hid (T1.out.trans t2 (by simp))
  have X2 := Lib.hid (touch_box t2 X1.out (by simp))
  clear x0 x1 x2 t2
  obtain ⟨x0, x1, x2⟩ := th3 X2.out
  rcases hk with ⟨hc, rfl⟩ | ⟨hc, kb, tb, b1', m1, b2, m2, S, rfl, hK, hf⟩
  · have HC := Lib.hid hc
    clear hc
    go_wp2_with fail
    refine (rnew_calls l0 l1 l2).mono ?_
    rintro e w3 ⟨t3, hr⟩
    rcases hr with ⟨_, rfl⟩ | ⟨hc2, _⟩
    · have T3 := Lib.hid (T2.out.trans t3 (by simp))
      clear t3
      go_wp2
      refine bodyPost_ret (results_t3 rfl _ _) rfl ?_
      exact ⟨T3.out, .inl ⟨HC.out, rfl⟩⟩
    · exact absurd hc2 HC.out
  · have HC := Lib.hid hc
    have HK := Lib.hid hK
    have HF := Lib.hid (show ∀ x ∈ kb :: b1' :: m1 :: b2 :: m2 :: S, w.heap.size ≤ x from fun x hx => Nat.le_trans T1.out.size (hf x hx))
    clear hc hK hf
    go_wp2_with fail
    refine (rnew_calls l0 l1 l2).mono ?_
    rintro e w3 ⟨t3, hr⟩
    rcases hr with ⟨hc2, _⟩ | ⟨_, rb, FB, rfl, hR, hrb, hfb⟩
    · exact absurd HC.out hc2
    · have T3 := Lib.hid (T2.out.trans t3 (by simp))
      have K3 := Lib.hid (show Ker w3 kb l0 l1 l2 KSt.none (kb :: b1' :: m1 :: b2 :: m2 :: S) from ⟨tb, b1', m1, b2, m2, S, rfl, HK.out.kept t3 (by simp)⟩)
      have HLT := Ker.lt (show Ker w2 kb l0 l1 l2 KSt.none (kb :: b1' :: m1 :: b2 :: m2 :: S) from ⟨tb, b1', m1, b2, m2, S, rfl, HK.out⟩)
      have HR := Lib.hid hR
      have HFB := Lib.hid hfb
      clear t3 hR hfb hrb
      go_wp2
      refine bodyPost_ret (results_t3 rfl _ _) rfl ?_
      refine ⟨T3.out, .inr ⟨HC.out, kb, rb, _, rfl, ⟨_, FB, rfl, K3.out, HR.out, Sim.none, sane0 HC.out, good0 HC.out, fun x hx hx2 => ?_⟩, fun x hx => ?_⟩⟩
      · have h1 := HLT x hx
        have h2 := HFB.out x hx2
        omega
      · rcases List.mem_append.1 hx with h | h
        · exact HF.out x h
        · exact Nat.le_trans T2.out.size (HFB.out x h)
theorem RdO.ofCells {w : World} {b : Nat} {os : List OpR} (h : w.heap[b]? = some (.cells (SK.flatL (fun o => (opC o).toList) os).toArray 57 (0, 0))) : RdO w (some ⟨b, 0, none⟩) os := by
  refine ⟨fun i o ho => ⟨b, 0, _, _, rfl, ⟨_, h⟩, fun j v hv => ?_⟩⟩
  have hj : j < 19 := (List.getElem?_eq_some_iff.1 hv).1
  have := SK.flatL_get (fun o => (opC o).toList) 19 (fun _ => rfl) os i j o ho hj
  simp only [World.cell?, h, Nat.zero_add]
  simpa [this] using hv
theorem RdO.none (w : World) : RdO w none [] := ⟨fun i o ho => by simp at ho⟩
def fo1 : OpR := ⟨1, 167837696, 16, 335675392, 0, m60, m60, 0⟩
def fmac : M6 := ⟨2, 0, 0, 0, 0, 1⟩
def fo2 : OpR := ⟨3, 0, 0, 0, 167837696, fmac, m60, 0⟩
def fo3 : OpR := ⟨5, 0, 0, 0, 0, m60, fmac, 3221225985⟩
theorem m60_wf : m60.wf := ⟨by decide, by decide, by decide, by decide, by decide, by decide⟩
theorem fmac_wf : fmac.wf := ⟨by decide, by decide, by decide, by decide, by decide, by decide⟩
theorem fo_ok : ∀ o ∈ [fo1, fo2, fo3], OpW o := by
  intro o ho
  simp only [List.mem_cons, List.not_mem_nil, or_false] at ho
  rcases ho with rfl | rfl | rfl
  · exact ⟨by decide, by decide, by decide, m60_wf, m60_wf, by decide⟩
  · exact ⟨by decide, by decide, by decide, fmac_wf, m60_wf, by decide⟩
  · exact ⟨by decide, by decide, by decide, m60_wf, fmac_wf, by decide⟩
theorem fo_cells : (#[.int .i64 1, .int .u32 167837696, .int .i64 16, .int .u32 167837696, .bool false, .int .u32 0, .int .u8 0, .int .u8 0, .int .u8 0, .int .u8 0, .int .u8 0, .int .u8 0, .int .u8 0, .int .u8 0, .int .u8 0, .int .u8 0, .int .u8 0, .int .u8 0, .int .u32 0, .int .i64 3, .int .u32 0, .int .i64 0, .int .u32 0, .bool false, .int .u32 167837696, .int .u8 2, .int .u8 0, .int .u8 0, .int .u8 0, .int .u8 0, .int .u8 1, .int .u8 0, .int .u8 0, .int .u8 0, .int .u8 0, .int .u8 0, .int .u8 0, .int .u32 0, .int .i64 5, .int .u32 0, .int .i64 0, .int .u32 0, .bool false, .int .u32 0, .int .u8 0, .int .u8 0, .int .u8 0, .int .u8 0, .int .u8 0, .int .u8 0, .int .u8 2, .int .u8 0, .int .u8 0, .int .u8 0, .int .u8 0, .int .u8 1, .int .u32 3221225985] : Array Value) = (SK.flatL (fun o => (opC o).toList) [fo1, fo2, fo3]).toArray := by
  simp [SK.flatL, opC, fo1, fo2, fo3, rV, rL, m60, fmac]
theorem plays_none {w : World} {kb rb : Nat} {l0 l1 l2 : Int} {s : KSt} {t : LSt} {F : List Nat} (h : Duo w kb rb l0 l1 l2 s t F) (kd : Int) (dst : Nat) (hdst : dst < 4294967296) :
    Calls Tryz.prog 20 #[.pointer (some ⟨kb, 0, none⟩), .pointer (some ⟨rb, 0, none⟩), .agg #[.int .i64 kd, .slice none 0 0, .int .u32 dst]] w (PlayPost w kb rb l0 l1 l2 F) :=
  plays_calls h kd none 0 [] dst (RdO.none w) (by simp) (by simp [rdBlk]) (by simp) hdst
theorem play_two {w : World} {kb rb : Nat} {l0 l1 l2 : Int} {s : KSt} {t : LSt} {F : List Nat} (h : Duo w kb rb l0 l1 l2 s t F) :
    Calls Tryz.prog 20 #[.pointer (some ⟨kb, 0, none⟩), .pointer (some ⟨rb, 0, none⟩), .agg #[.int .i64 2, .slice none 0 0, .int .u32 167837699]] w (PlayPost w kb rb l0 l1 l2 F) :=
  plays_none h 2 167837699 (by omega)
theorem play_three {w : World} {kb rb : Nat} {l0 l1 l2 : Int} {s : KSt} {t : LSt} {F : List Nat} (h : Duo w kb rb l0 l1 l2 s t F) :
    Calls Tryz.prog 20 #[.pointer (some ⟨kb, 0, none⟩), .pointer (some ⟨rb, 0, none⟩), .agg #[.int .i64 3, .slice none 0 0, .int .u32 0]] w (PlayPost w kb rb l0 l1 l2 F) :=
  plays_none h 3 0 (by omega)
theorem play_one {w : World} {kb rb : Nat} {l0 l1 l2 : Int} {s : KSt} {t : LSt} {F : List Nat} (h : Duo w kb rb l0 l1 l2 s t F) {b : Nat} (hr : RdO w (some ⟨b, 0, none⟩) [fo1, fo2, fo3]) (hd : ∀ x ∈ rdBlk (some ⟨b, 0, none⟩) [fo1, fo2, fo3], x ∉ F ∧ x < w.heap.size) :
    Calls Tryz.prog 20 #[.pointer (some ⟨kb, 0, none⟩), .pointer (some ⟨rb, 0, none⟩), .agg #[.int .i64 1, .slice (some ⟨b, 0, none⟩) 3 3, .int .u32 0]] w (PlayPost w kb rb l0 l1 l2 F) :=
  plays_calls h 1 (some ⟨b, 0, none⟩) 3 [fo1, fo2, fo3] 0 hr fo_ok hd (by simp) (by omega)
end Go.Proofs.YtnpeafhjcelpfaaGreat.Tri

/- The law: first; no condition. -/
namespace Go.Proofs.YtnpeafhjcelpfaaGreat.Tri
open Go.RowKit Go.Maps
set_option linter.unusedVariables false
set_option linter.unusedSimpArgs false
set_option maxRecDepth 100000

set_option maxHeartbeats 8000000 in
theorem first_calls {w : World} : Calls Tryz.prog 17 #[] w (fun e w' => e = .returned (.bool true) ∧ Touch [] w w') := by
  go_enter Tryz.func17, Tryz.ntmps17
  go_wp2_with fail
  refine (both_calls 2 1 1).mono ?_
  rintro e w1 ⟨t1, hh⟩
  rcases hh with ⟨hc, _⟩ | ⟨_, kb, rb, F, rfl, hD, hF⟩
  · exact absurd (by unfold capOk; decide) hc
  · have T1 := Lib.hid t1
    have D1 := Lib.hid hD
    have HF := Lib.hid hF
    clear t1 hD hF
    go_upto_region 7 with (fail)
    obtain ⟨W2, hW2⟩ : ∃ W2 : World, W2 = ((w1.alloc (.cells #[.int .u32 167837696, .int .i64 16] 47)).alloc (.cells #[.int .u8 2, .int .u8 0, .int .u8 0, .int .u8 0, .int .u8 0, .int .u8 1] 51)).alloc (.cells #[.int .i64 1, .int .u32 167837696, .int .i64 16, .int .u32 167837696, .bool false, .int .u32 0, .int .u8 0, .int .u8 0, .int .u8 0, .int .u8 0, .int .u8 0, .int .u8 0, .int .u8 0, .int .u8 0, .int .u8 0, .int .u8 0, .int .u8 0, .int .u8 0, .int .u32 0, .int .i64 3, .int .u32 0, .int .i64 0, .int .u32 0, .bool false, .int .u32 167837696, .int .u8 2, .int .u8 0, .int .u8 0, .int .u8 0, .int .u8 0, .int .u8 1, .int .u8 0, .int .u8 0, .int .u8 0, .int .u8 0, .int .u8 0, .int .u8 0, .int .u32 0, .int .i64 5, .int .u32 0, .int .i64 0, .int .u32 0, .bool false, .int .u32 0, .int .u8 0, .int .u8 0, .int .u8 0, .int .u8 0, .int .u8 0, .int .u8 0, .int .u8 2, .int .u8 0, .int .u8 0, .int .u8 0, .int .u8 0, .int .u8 1, .int .u32 3221225985] 57) := ⟨_, rfl⟩
    rw [← hW2]
    obtain ⟨b6, hb6⟩ : ∃ b6, b6 = w1.heap.size + 1 + 1 := ⟨_, rfl⟩
    have t2 : Touch [] w1 W2 := by rw [hW2]; exact (((Touch.refl [] w1).alloc _).alloc _).alloc _
    have T2 := Lib.hid (T1.out.trans t2 (by simp))
    have D2 := Lib.hid (D1.out.kept t2 (by simp))
    have RO := Lib.hid (RdO.ofCells (w := W2) (b := b6) (os := [fo1, fo2, fo3]) (by rw [← fo_cells, hW2, hb6]; exact box_at' _ _ _ (by simp)))
    have HFD := Lib.hid (show ∀ x ∈ rdBlk (some ⟨b6, 0, none⟩) [fo1, fo2, fo3], x ∉ F ∧ x < W2.heap.size from fun x hx => by
      simp [rdBlk] at hx
      subst hx
      refine ⟨fun h => ?_, ?_⟩
      · have := D1.out.lt _ h; omega
      · rw [hW2, hb6]; simp)
    rw [← hb6]
    have HP := Lib.hid (play_one D2.out RO.out HFD.out)
    clear hW2 hb6 t2
    go_wp2_with fail
    refine HP.out.mono ?_
    rintro e w3 ⟨rfl, s3, u3, F3, hd, ht, hf⟩
    have T3 := Lib.hid (T2.out.trans ht (fun x hx => .inr (HF.out x hx)))
    have HF3 := Lib.hid (show ∀ x ∈ F3, w.heap.size ≤ x from fun x hx => by
      rcases hf x hx with h | h
      · exact HF.out x h
      · exact Nat.le_trans T2.out.size h)
    have H3 := Lib.hid (play_two hd)
    clear hd ht hf T1 D1 RO HFD D2 HP HF T2
    go_wp2_with fail
    refine H3.out.mono ?_
    rintro e w4 ⟨rfl, s4, u4, F4, hd, ht, hf⟩
    have T4 := Lib.hid (T3.out.trans ht (fun x hx => .inr (HF3.out x hx)))
    have HF4 := Lib.hid (show ∀ x ∈ F4, w.heap.size ≤ x from fun x hx => by
      rcases hf x hx with h | h
      · exact HF3.out x h
      · exact Nat.le_trans T3.out.size h)
    have H4 := Lib.hid (play_three hd)
    clear hd ht hf H3 HF3 T3
    go_wp2_with fail
    refine H4.out.mono ?_
    rintro e w5 ⟨rfl, s5, u5, F5, hd, ht, hf⟩
    have T5 := Lib.hid (T4.out.trans ht (fun x hx => .inr (HF4.out x hx)))
    clear hd ht hf H4 HF4 T4
    go_wp2
    go_ret
    exact ⟨rfl, T5.out⟩
end Go.Proofs.YtnpeafhjcelpfaaGreat.Tri

/- The law: holds, and the first five statements' functions; no condition. -/
namespace Go.Proofs.YtnpeafhjcelpfaaGreat.Tri
open Go.RowKit Go.Maps
set_option linter.unusedVariables false
set_option linter.unusedSimpArgs false
set_option maxRecDepth 100000

/-- A step as it came in. -/
structure SOp where
  kd : Int
  A : Option Addr
  c : Nat
  os : List OpR
  dst : Nat
structure StepOk (w : World) (x : SOp) : Prop where
  rd : RdO w x.A x.os
  ok : ∀ o ∈ x.os, OpW o
  dst : x.dst < 4294967296
  len : x.os.length < 4611686018427387904
  lt : ∀ b ∈ rdBlk x.A x.os, b < w.heap.size
/-- A row of steps that is read. -/
structure RdS (w : World) (A : Option Addr) (l : List SOp) : Prop where
  at_ : ∀ i x, l[i]? = some x → StepOk w x ∧ ∃ g p, A = some ⟨g, p, none⟩ ∧ w.cell? ⟨g, p + i * 3, none⟩ = some (.int .i64 x.kd) ∧ w.cell? ⟨g, p + i * 3 + 1, none⟩ = some (.slice x.A x.os.length x.c) ∧ w.cell? ⟨g, p + i * 3 + 2, none⟩ = some (.int .u32 x.dst)
theorem RdS.kept {w w' : World} {A : Option Addr} {l : List SOp} (h : RdS w A l) (t : Touch [] w w') : RdS w' A l :=
  ⟨fun i x hx => by
    obtain ⟨h1, g, p, e, c0, c1, c2⟩ := h.at_ i x hx
    exact ⟨⟨h1.rd.kept t (by simp), h1.ok, h1.dst, h1.len, fun b hb => Nat.lt_of_lt_of_le (h1.lt b hb) t.size⟩, g, p, e, cell_touch t c0 (by simp), cell_touch t c1 (by simp), cell_touch t c2 (by simp)⟩⟩
theorem capsV (l0 l1 l2 : Int) : (Value.agg #[.int .i64 l0, .int .i64 l1, .int .i64 l2] : Value) = .agg #[.int .i64 l0, .int .i64 l1, .int .i64 l2] := rfl
set_option maxHeartbeats 8000000 in
theorem holds_calls {w : World} (l0 l1 l2 : Int) (A : Option Addr) (c : Nat) (l : List SOp) (lo hi : Int) (hA : RdS w A l) (hn : l.length < 4611686018427387904) :
    Calls Tryz.prog 18 #[.agg #[.int .i64 l0, .int .i64 l1, .int .i64 l2], .slice A l.length c, .int .i64 lo, .int .i64 hi] w (fun e w' => e = .returned (.bool true) ∧ Touch [] w w') := by
  obtain ⟨N, hN⟩ : ∃ N, N = l.length := ⟨_, rfl⟩
  have HN := Lib.hid hN
  have HA := Lib.hid hA
  rw [← hN]
  rw [← hN] at hn
  obtain ⟨W1, hW1⟩ : ∃ W1 : World, W1 = w.alloc (.cells #[.int .i64 l0, .int .i64 l1, .int .i64 l2] 23) := ⟨_, rfl⟩
  have T1 := Lib.hid (show Touch [] w W1 by rw [hW1]; exact (Touch.refl [] w).alloc _)
  obtain ⟨b4, hb4⟩ : ∃ b4, b4 = w.heap.size := ⟨_, rfl⟩
  have X1 := Lib.hid (show W1.heap[b4]? = some (.cells #[.int .i64 l0, .int .i64 l1, .int .i64 l2] 23 (0, 0)) by rw [hW1, hb4]; exact box_at w _)
  have HW1 := Lib.hid hW1
  have HB4 := Lib.hid hb4
  clear hW1 hb4 hA hN
  obtain ⟨x0, x1, x2⟩ := th3 X1.out
  go_enter Tryz.func18, Tryz.ntmps18
  go_upto_region 1 with (fail)
  rw [← HW1.out, ← HB4.out]
  go_wp2_with fail
  refine (both_calls l0 l1 l2).mono ?_
  rintro e w2 ⟨t2, hh⟩
  have T2 := Lib.hid (T1.out.trans t2 (by simp))
  clear x0 x1 x2
  rcases hh with ⟨hc, rfl⟩ | ⟨hc, kb, rb, F, rfl, hD, hF⟩
  · clear t2 hc
    go_wp2_with fail
    refine first_calls.mono ?_
    rintro e w3 ⟨rfl, t3⟩
    have T3 := Lib.hid (T2.out.trans t3 (by simp))
    clear t3
    go_wp2
    go_ret
    exact ⟨rfl, T3.out⟩
  · have D2 := Lib.hid hD
    have HF := Lib.hid (show ∀ x ∈ F, w.heap.size ≤ x from fun x hx => Nat.le_trans T1.out.size (hF x hx))
    clear t2 hc hD hF
    go_wp2_with fail
    refine first_calls.mono ?_
    rintro e w3 ⟨rfl, t3⟩
    have T3 := Lib.hid (T2.out.trans t3 (by simp))
    have D3 := Lib.hid (D2.out.kept t3 (by simp))
    clear t3
    go_wp2_with fail
    go_loopg [12] (N + 1) (fun kq v12 wr => ∃ (i : Nat) (s : KSt) (t : LSt) (Fi : List Nat), v12 = .int .i64 i ∧ i ≤ N ∧ N + 1 - i ≤ kq ∧ Hid (Duo wr kb rb l0 l1 l2 s t Fi) ∧ Hid (Touch [] w wr) ∧ Hid (∀ x ∈ Fi, w.heap.size ≤ x))
    case atStart => exact ⟨0, _, _, F, rfl, Nat.zero_le _, by omega, D3, T3, HF⟩
    case round =>
      obtain ⟨i, s, t, Fi, rfl, hi, hkq, hD, hT, hF⟩ := hrel
      by_cases hlt : i < N
      · have b1 : (i : Int) < (N : Int) := by omega
        obtain ⟨x, hx⟩ : ∃ x, l[i]? = some x := ⟨l[i]'(by rw [← HN.out]; exact hlt), List.getElem?_eq_getElem _⟩
        obtain ⟨hst, g, p, hAe, m0, m1, m2⟩ := (HA.out.kept hT.out).at_ i x hx
        subst hAe
        have HST := Lib.hid hst
        have hxx := Lib.hid hx
        clear hst hx
        go_upto_region 10 with (fail)
        obtain ⟨W4, hW4⟩ : ∃ W4 : World, W4 = wr.alloc (.cells #[.int .i64 x.kd, .slice x.A x.os.length x.c, .int .u32 x.dst] 40) := ⟨_, rfl⟩
        rw [← hW4]
        have t4 : Touch [] wr W4 := by rw [hW4]; exact (Touch.refl [] wr).alloc _
        obtain ⟨b13, hb13⟩ : ∃ b13, b13 = wr.heap.size := ⟨_, rfl⟩
        have X4 := Lib.hid (show W4.heap[b13]? = some (.cells #[.int .i64 x.kd, .slice x.A x.os.length x.c, .int .u32 x.dst] 40 (0, 0)) by rw [hW4, hb13]; exact box_at _ _)
        have T4 := Lib.hid (hT.out.trans t4 (by simp))
        have HP := Lib.hid (plays_calls (hD.out.kept t4 (by simp)) x.kd x.A x.c x.os x.dst (HST.out.rd.kept t4 (by simp)) HST.out.ok (fun b hb => ⟨fun h => by
            have h1 := hF.out b h
            have h2 := (HA.out.at_ i x hxx.out).1.lt b hb
            omega, Nat.lt_of_lt_of_le (HST.out.lt b hb) t4.size⟩) HST.out.len HST.out.dst)
        rw [← hb13]
        clear hW4 t4 hb13 m0 m1 m2
        obtain ⟨y0, y1, y2⟩ := th3 X4.out
        go_wp2_with fail
        refine HP.out.mono ?_
        rintro e w5 ⟨rfl, s5, u5, F5, hd, ht, hf⟩
        have D5 := Lib.hid hd
        have T5 := Lib.hid (T4.out.trans ht (fun x hx => .inr (hF.out x hx)))
        have HF5 := Lib.hid (show ∀ x ∈ F5, w.heap.size ≤ x from fun x hx => by
          rcases hf x hx with h | h
          · exact hF.out x h
          · exact Nat.le_trans T4.out.size h)
        clear hd ht hf HP y0 y1 y2
        go_wp2
        go_roundg (N - i)
        case rel => exact ⟨i + 1, s5, u5, F5, by simp, by omega, by omega, D5, T5, HF5⟩
        case measure => omega
      · have b1 : ¬ (i : Int) < (N : Int) := by omega
        go_wp2
        go_ret
        exact ⟨rfl, hT.out⟩
end Go.Proofs.YtnpeafhjcelpfaaGreat.Tri

/- Ops that came in, opened; no condition. -/
namespace Go.Proofs.YtnpeafhjcelpfaaGreat.Tri
open Go.RowKit Go.Maps Go.ChangeShapes Go.WideShapes Go.Deep Go.Joins
set_option linter.unusedVariables false
set_option linter.unusedSimpArgs false
set_option maxRecDepth 100000

theorem plain_add (b off i : Nat) : ((⟨b, off, none⟩ : Addr).add i) = ⟨b, off + i, none⟩ := by
  unfold Addr.add
  by_cases hi : i = 0 <;> simp [hi]
theorem spot_of {w : World} {a : Addr} {v : Value} (h : w.cell? a = some v) : a = ⟨a.block, a.off, none⟩ := by
  unfold World.cell? at h
  obtain ⟨b, o, s⟩ := a
  cases s with
  | none => rfl
  | some k =>
    exfalso
    revert h
    dsimp only
    split <;> simp
theorem o_u8 {x : Int} (h : (Lit.int .u8 x).wf = true) : 0 ≤ x ∧ x < 256 := by
  simp [Lit.wf, IntKind.min, IntKind.max, IntKind.signed, IntKind.bits] at h; omega
theorem o_u32 {x : Int} (h : (Lit.int .u32 x).wf = true) : 0 ≤ x ∧ x < 4294967296 := by
  simp [Lit.wf, IntKind.min, IntKind.max, IntKind.signed, IntKind.bits] at h; omega
theorem choose_list {α : Type} [Inhabited α] {n : Nat} {P : Nat → α → Prop} (h : ∀ i, i < n → ∃ x, P i x) : ∃ l : List α, l.length = n ∧ ∀ i x, l[i]? = some x → P i x := by
  classical
  refine ⟨(List.range n).map fun i => if hi : i < n then (h i hi).choose else default, by simp, fun i x hx => ?_⟩
  have hi : i < n := by have := (List.getElem?_eq_some_iff.1 hx).1; simpa using this
  simp [hi] at hx
  rw [← hx]
  exact (h i hi).choose_spec
instance : Inhabited OpR := ⟨⟨0, 0, 0, 0, 0, m60, m60, 0⟩⟩
section
variable {H : Type} {enc : TypeId × Value → H} {W : World} {base : Nat} {spare : Nat → Bool} {held : Bool}
def Small (d : DataW H) (t : TypeId) : Prop := ∀ n ∈ d.weights Tryz.prog t, n ≤ reachBytes
theorem small_arg {ts : List TypeId} {ds : List (DataW H)} (h : (DataW.weightsEach Tryz.prog ts ds).all (· ≤ reachBytes) = true) {j : Nat} {t : TypeId} {d : DataW H} (ht : ts[j]? = some t) (hd : ds[j]? = some d) : Small d t := by
  intro n hn
  have := List.all_eq_true.1 h _ (DataW.weights_mem_each ht hd n hn)
  simpa using this
theorem small_all {e : TypeId} : ∀ {l : List (DataW H)}, (∀ n ∈ DataW.weightsAll Tryz.prog e l, n ≤ reachBytes) → ∀ d ∈ l, Small d e
  | [], _, _, hd => by cases hd
  | x :: r, h, d, hd => by
    simp only [DataW.weightsAll, List.mem_append] at h
    rcases List.mem_cons.1 hd with rfl | hd
    · exact fun n hn => h n (.inl hn)
    · exact small_all (fun n hn => h n (.inr hn)) d hd
theorem small_slice {t e : TypeId} {elems sp : List (DataW H)} (hu : Tryz.prog.underlying t = some (.slice e)) (h : Small (.slice elems sp) t) : (elems.length + sp.length) * Tryz.prog.bytesOf e ≤ reachBytes ∧ ∀ d ∈ elems, Small d e := by
  unfold Small at h
  rw [DataW.weights, hu] at h
  simp only [List.mem_cons, List.mem_append] at h
  exact ⟨h _ (.inl rfl), small_all (fun n hn => h n (.inr (.inl hn)))⟩
theorem small_struct {t : TypeId} {fs : Array Field} {parts : List (DataW H)} (hu : Tryz.prog.underlying t = some (.struct fs)) (h : Small (.agg parts) t) {j : Nat} {f : Field} {d : DataW H} (hf : fs[j]? = some f) (hd : parts[j]? = some d) : Small d f.type := by
  unfold Small at h
  rw [DataW.weights, hu] at h
  intro n hn
  exact h n (DataW.weights_mem_each (j := j) (by simp [hf]) hd n hn)
theorem small_len {t e : TypeId} {elems sp : List (DataW H)} (hu : Tryz.prog.underlying t = some (.slice e)) (h : Small (.slice elems sp) t) (hb : 1 ≤ Tryz.prog.bytesOf e) : elems.length ≤ 140737488355328 := by
  have h1 := (small_slice hu h).1
  have h3 := reachBytes_lt
  have : (elems.length + sp.length) * 1 ≤ (elems.length + sp.length) * Tryz.prog.bytesOf e := Nat.mul_le_mul_left _ hb
  omega
theorem open_mac {fuel : Nat} {cs : List Value} {x : DataW H × List MemPlace} (h : DataW.trod enc Tryz.prog W base spare held fuel 51 cs = some x) : ∃ m : M6, m.wf ∧ cs = [.int .u8 m.m0, .int .u8 m.m1, .int .u8 m.m2, .int .u8 m.m3, .int .u8 m.m4, .int .u8 m.m5] := by
  obtain ⟨xs, n, _, _, hl, hlen, hf⟩ := DataW.trod_array Tryz.underlying51 h
  have c6 : Tryz.prog.cellsOf 51 = 6 := by kernel_rfl
  have c1 : Tryz.prog.cellsOf 5 = 1 := by kernel_rfl
  rw [c6] at hl
  rw [c1] at hf
  match cs, hl, xs, hlen with
  | [v0, v1, v2, v3, v4, v5], _, [y0, y1, y2, y3, y4, y5], _ =>
    have t0 := hf 0 (by decide)
    have t1 := hf 1 (by decide)
    have t2 := hf 2 (by decide)
    have t3 := hf 3 (by decide)
    have t4 := hf 4 (by decide)
    have t5 := hf 5 (by decide)
    obtain ⟨n0, e0, _, w0⟩ := DataW.trod_int Tryz.underlying5 t0
    obtain ⟨n1, e1, _, w1⟩ := DataW.trod_int Tryz.underlying5 t1
    obtain ⟨n2, e2, _, w2⟩ := DataW.trod_int Tryz.underlying5 t2
    obtain ⟨n3, e3, _, w3⟩ := DataW.trod_int Tryz.underlying5 t3
    obtain ⟨n4, e4, _, w4⟩ := DataW.trod_int Tryz.underlying5 t4
    obtain ⟨n5, e5, _, w5⟩ := DataW.trod_int Tryz.underlying5 t5
    simp at e0 e1 e2 e3 e4 e5
    subst e0 e1 e2 e3 e4 e5
    exact ⟨⟨n0, n1, n2, n3, n4, n5⟩, ⟨o_u8 w0, o_u8 w1, o_u8 w2, o_u8 w3, o_u8 w4, o_u8 w5⟩, rfl⟩
theorem open_addr {fuel : Nat} {cs : List Value} {x : DataW H × List MemPlace} (h : DataW.trod enc Tryz.prog W base spare held fuel 38 cs = some x) : ∃ n : Nat, n < 4294967296 ∧ cs = [.int .u32 n] := by
  obtain ⟨n0, e0, _, w0⟩ := DataW.trod_int Tryz.underlying38 h
  have hw := o_u32 w0
  obtain ⟨n, rfl⟩ := Int.eq_ofNat_of_zero_le hw.1
  exact ⟨n, by omega, e0⟩
theorem open_route {fuel : Nat} {cs : List Value} {x : DataW H × List MemPlace} (h : DataW.trod enc Tryz.prog W base spare held fuel 49 cs = some x) : ∃ (a : Nat) (m v : Int), a < 4294967296 ∧ 0 ≤ v ∧ v < 8589934592 ∧ cs = [.int .u32 a, .int .i64 m, .int .u32 (rV v), .bool (rL v)] := by
  obtain ⟨y0, y1, y2, n, _, hl, t0, t1, t2⟩ := trod_struct3 Tryz.underlying49 h
  have c4 : Tryz.prog.cellsOf 49 = 4 := by kernel_rfl
  have c2 : Tryz.prog.cellsOf 47 = 2 := by kernel_rfl
  have ca : Tryz.prog.cellsOf 38 = 1 := by kernel_rfl
  have ci : Tryz.prog.cellsOf 3 = 1 := by kernel_rfl
  have cb : Tryz.prog.cellsOf 4 = 1 := by kernel_rfl
  rw [c4] at hl
  match cs, hl with
  | [v0, v1, v2, v3], _ =>
    try dsimp only at t0 t1 t2
    rw [c2] at t0
    rw [ca] at t1
    rw [cb] at t2
    obtain ⟨z0, z1, n', _, _, s0, s1⟩ := trod_struct2 Tryz.underlying47 t0
    · try dsimp only at s0 s1
      rw [ca] at s0
      rw [ci] at s1
      obtain ⟨a, ha, ea⟩ := open_addr s0
      obtain ⟨m, em, _, _⟩ := DataW.trod_int Tryz.underlying3 s1
      obtain ⟨b, hb, eb⟩ := open_addr t1
      obtain ⟨l, el, _⟩ := DataW.trod_bool Tryz.underlying4 t2
      simp at ea em eb el
      subst ea em eb el
      cases l with
      | true => exact ⟨a, m, 2 * b + 1, ha, by omega, by omega, by simp [rV, rL]; omega⟩
      | false => exact ⟨a, m, 2 * b, ha, by omega, by omega, by simp [rV, rL]⟩
theorem open_neigh {fuel : Nat} {cs : List Value} {x : DataW H × List MemPlace} (h : DataW.trod enc Tryz.prog W base spare held fuel 53 cs = some x) : ∃ (ip : Int) (m : M6), 0 ≤ ip ∧ ip < 4294967296 ∧ m.wf ∧ cs = [.int .u32 ip, .int .u8 m.m0, .int .u8 m.m1, .int .u8 m.m2, .int .u8 m.m3, .int .u8 m.m4, .int .u8 m.m5] := by
  obtain ⟨y0, y1, n, _, hl, t0, t1⟩ := trod_struct2 Tryz.underlying53 h
  have c7 : Tryz.prog.cellsOf 53 = 7 := by kernel_rfl
  have ca : Tryz.prog.cellsOf 38 = 1 := by kernel_rfl
  have cm : Tryz.prog.cellsOf 51 = 6 := by kernel_rfl
  rw [c7] at hl
  match cs, hl with
  | [v0, v1, v2, v3, v4, v5, v6], _ =>
    try dsimp only at t0 t1
    rw [ca] at t0
    rw [cm] at t1
    obtain ⟨a, ha, ea⟩ := open_addr t0
    obtain ⟨m, hm, em⟩ := open_mac t1
    simp at ea em
    obtain ⟨rfl, rfl, rfl, rfl, rfl, rfl⟩ := em
    subst ea
    exact ⟨a, m, by omega, by omega, hm, rfl⟩
theorem open_fdb {fuel : Nat} {cs : List Value} {x : DataW H × List MemPlace} (h : DataW.trod enc Tryz.prog W base spare held fuel 55 cs = some x) : ∃ (m : M6) (u : Int), 0 ≤ u ∧ u < 4294967296 ∧ m.wf ∧ cs = [.int .u8 m.m0, .int .u8 m.m1, .int .u8 m.m2, .int .u8 m.m3, .int .u8 m.m4, .int .u8 m.m5, .int .u32 u] := by
  obtain ⟨y0, y1, n, _, hl, t0, t1⟩ := trod_struct2 Tryz.underlying55 h
  have c7 : Tryz.prog.cellsOf 55 = 7 := by kernel_rfl
  have ca : Tryz.prog.cellsOf 38 = 1 := by kernel_rfl
  have cm : Tryz.prog.cellsOf 51 = 6 := by kernel_rfl
  rw [c7] at hl
  match cs, hl with
  | [v0, v1, v2, v3, v4, v5, v6], _ =>
    try dsimp only at t0 t1
    rw [cm] at t0
    rw [ca] at t1
    obtain ⟨m, hm, em⟩ := open_mac t0
    obtain ⟨a, ha, ea⟩ := open_addr t1
    simp at ea em
    obtain ⟨rfl, rfl, rfl, rfl, rfl, rfl⟩ := em
    subst ea
    exact ⟨m, a, by omega, by omega, hm, rfl⟩
theorem open_op {fuel : Nat} {cs : List Value} {x : DataW H × List MemPlace} (h : DataW.trod enc Tryz.prog W base spare held fuel 57 cs = some x) : ∃ o : OpR, OpW o ∧ cs = (opC o).toList := by
  obtain ⟨y0, y1, y2, y3, n, _, hl, t0, t1, t2, t3⟩ := trod_struct4 Tryz.underlying57 h
  have c19 : Tryz.prog.cellsOf 57 = 19 := by kernel_rfl
  have ci : Tryz.prog.cellsOf 3 = 1 := by kernel_rfl
  have cr : Tryz.prog.cellsOf 49 = 4 := by kernel_rfl
  have cn : Tryz.prog.cellsOf 53 = 7 := by kernel_rfl
  have cf : Tryz.prog.cellsOf 55 = 7 := by kernel_rfl
  rw [c19] at hl
  match cs, hl with
  | [v0, v1, v2, v3, v4, v5, v6, v7, v8, v9, v10, v11, v12, v13, v14, v15, v16, v17, v18], _ =>
    try dsimp only at t0 t1 t2 t3
    rw [ci] at t0
    rw [cr] at t1
    rw [cn] at t2
    rw [cf] at t3
    obtain ⟨kd, ek, _, _⟩ := DataW.trod_int Tryz.underlying3 t0
    obtain ⟨a, m, v, ha, hv0, hv1, er⟩ := open_route t1
    obtain ⟨ip, nm, hi0, hi1, hnm, en⟩ := open_neigh t2
    obtain ⟨fm, u, hu0, hu1, hfm, ef⟩ := open_fdb t3
    simp at ek er en ef
    obtain ⟨rfl, rfl, rfl, rfl⟩ := er
    obtain ⟨rfl, rfl, rfl, rfl, rfl, rfl, rfl⟩ := en
    obtain ⟨rfl, rfl, rfl, rfl, rfl, rfl, rfl⟩ := ef
    subst ek
    exact ⟨⟨kd, a, m, v, ip, nm, fm, u⟩, ⟨ha, ⟨hv0, hv1⟩, ⟨hi0, hi1⟩, hnm, hfm, ⟨hu0, hu1⟩⟩, rfl⟩
/-- A row of ops that came in. -/
theorem open_ops {fuel : Nat} {V : Value} {x : DataW H × List MemPlace} (h : DataW.trod enc Tryz.prog W base spare held fuel 36 [V] = some x) (hs : Small x.1 36) :
    ∃ (A : Option Addr) (c : Nat) (os : List OpR), V = .slice A os.length c ∧ RdO W A os ∧ (∀ o ∈ os, OpW o) ∧ os.length ≤ 140737488355328 ∧ ∀ b ∈ rdBlk A os, b < W.heap.size := by
  rcases open_slice Tryz.underlying36 h with ⟨hcs, rfl⟩ | ⟨a, len, c, m, n, D, Pl, hcs, hb, hl, hm, hmm, hx, hel⟩
  · simp at hcs
    subst hcs
    exact ⟨none, 0, [], rfl, ⟨fun i o ho => by simp at ho⟩, by simp, by simp, by simp [rdBlk]⟩
  · simp at hcs
    subst hcs
    have hlm : len ≤ m := by rw [hmm]; split <;> omega
    have hc : Tryz.prog.cellsOf 57 = 19 := by kernel_rfl
    have hsz : len ≤ 140737488355328 := by
      rw [hx] at hs
      have := small_len Tryz.underlying36 hs (of_decide_eq_true (by kernel_rfl))
      simpa using this
    have key : ∀ i, i < len → ∃ o : OpR, OpW o ∧ ∀ j v, (opC o).toList[j]? = some v → W.cell? ((a.add (i * 19)).add j) = some v := by
      intro i hi
      obtain ⟨cs', h1, h2⟩ := hel i (by omega)
      rw [hc] at h1
      obtain ⟨_, hlen, hcell⟩ := World.cells?_some h1
      obtain ⟨o, ho, rfl⟩ := open_op h2
      refine ⟨o, ho, fun j v hv => ?_⟩
      have hj : j < 19 := by have := (List.getElem?_eq_some_iff.1 hv).1; simpa [opC] using this
      exact (hcell j hj).trans hv
    obtain ⟨os, hos, hok⟩ := choose_list key
    refine ⟨some a, c, os, by rw [hos], ⟨fun i o ho => ?_⟩, fun o ho => ?_, by omega, fun b hb => ?_⟩
    · have h0 := (hok i o ho).2
      have q0 := h0 0 _ rfl
      have hsp : a = ⟨a.block, a.off, none⟩ := by
        have hi : 0 < os.length := by have := (List.getElem?_eq_some_iff.1 ho).1; omega
        have q := (hok 0 _ (List.getElem?_eq_getElem hi)).2 0 _ rfl
        exact spot_of (w := W) (by simpa [Addr.add] using q)
      rw [hsp, plain_add, plain_add] at q0
      obtain ⟨cc, T, f, hheap⟩ : ∃ cc T f, W.heap[a.block]? = some (.cells cc T f) := by
        unfold World.cell? at q0
        dsimp only at q0
        split at q0
        · rename_i cc T f he; exact ⟨cc, T, f, he⟩
        · cases q0
      refine ⟨a.block, a.off, cc, f, by rw [← hsp], ⟨T, hheap⟩, fun j v hv => ?_⟩
      have := h0 j v hv
      rw [hsp, plain_add, plain_add] at this
      exact this
    · obtain ⟨i, hi⟩ := List.getElem?_of_mem ho
      exact (hok i o hi).1
    · cases hos2 : os with
      | nil => rw [hos2] at hb; simp [rdBlk] at hb
      | cons o l =>
        rw [hos2] at hb
        simp [rdBlk] at hb
        have q := (hok 0 o (by rw [hos2]; rfl)).2 0 _ rfl
        have := World.block_lt_of_cell? W _ q
        rw [hb]
        simpa [Addr.add] using this
end
end Go.Proofs.YtnpeafhjcelpfaaGreat.Tri

/- Steps that came in, opened; the first five statements' functions; no condition. -/
namespace Go.Proofs.YtnpeafhjcelpfaaGreat.Tri
open Go.RowKit Go.Maps Go.ChangeShapes Go.WideShapes Go.Deep Go.Joins
set_option linter.unusedVariables false
set_option linter.unusedSimpArgs false
set_option maxRecDepth 100000

instance : Inhabited SOp := ⟨⟨0, none, 0, [], 0⟩⟩
section
variable {H : Type} {enc : TypeId × Value → H} {W : World} {base : Nat} {spare : Nat → Bool} {held : Bool}
theorem open_step {fuel : Nat} {cs : List Value} {x : DataW H × List MemPlace} (h : DataW.trod enc Tryz.prog W base spare held fuel 40 cs = some x) (hs : Small x.1 40) :
    ∃ s : SOp, cs = [.int .i64 s.kd, .slice s.A s.os.length s.c, .int .u32 s.dst] ∧ StepOk W s := by
  obtain ⟨y0, y1, y2, n, hx, hl, t0, t1, t2⟩ := trod_struct3 Tryz.underlying40 h
  have c3 : Tryz.prog.cellsOf 40 = 3 := by kernel_rfl
  have ci : Tryz.prog.cellsOf 3 = 1 := by kernel_rfl
  have cs1 : Tryz.prog.cellsOf 36 = 1 := by kernel_rfl
  have ca : Tryz.prog.cellsOf 38 = 1 := by kernel_rfl
  rw [c3] at hl
  rw [hx] at hs
  have s1 := small_struct Tryz.underlying40 hs (j := 1) rfl rfl
  match cs, hl with
  | [v0, v1, v2], _ =>
    dsimp only at t0 t1 t2 s1
    rw [ci] at t0
    rw [cs1] at t1
    rw [ca] at t2
    obtain ⟨kd, ek, _, _⟩ := DataW.trod_int Tryz.underlying3 t0
    obtain ⟨A, c, os, eo, h1, h2, h3, h4⟩ := open_ops (V := v1) (by simpa using t1) s1
    obtain ⟨d, hd, ed⟩ := open_addr t2
    simp at ek ed
    subst ek ed eo
    exact ⟨⟨kd, A, c, os, d⟩, rfl, ⟨h1, h2, hd, by simp only; omega, h4⟩⟩
/-- A row of steps that came in. -/
theorem open_steps {fuel : Nat} {A : Option Addr} {len cap : Nat} {x : DataW H × List MemPlace} (h : DataW.trod enc Tryz.prog W base spare held fuel 30 [.slice A len cap] = some x) (hs : Small x.1 30) :
    ∃ l, len = l.length ∧ RdS W A l ∧ l.length < 4611686018427387904 := by
  rcases open_slice Tryz.underlying30 h with ⟨hcs, rfl⟩ | ⟨a, l, c, m, n, D, Pl, hcs, hb, hl, hm, hmm, hx, hel⟩
  · simp at hcs
    obtain ⟨rfl, rfl, rfl⟩ := hcs
    exact ⟨[], rfl, ⟨fun i o ho => by simp at ho⟩, by simp⟩
  · simp at hcs
    obtain ⟨rfl, rfl, rfl⟩ := hcs
    have hlm : len ≤ m := by rw [hmm]; split <;> omega
    have hc : Tryz.prog.cellsOf 40 = 3 := by kernel_rfl
    rw [hx] at hs
    have hss := small_slice Tryz.underlying30 hs
    have hsz : len ≤ 140737488355328 := by
      have := small_len Tryz.underlying30 hs (of_decide_eq_true (by kernel_rfl))
      simpa using this
    have key : ∀ i, i < len → ∃ s : SOp, StepOk W s ∧ W.cell? ((a.add (i * 3)).add 0) = some (.int .i64 s.kd) ∧ W.cell? ((a.add (i * 3)).add 1) = some (.slice s.A s.os.length s.c) ∧ W.cell? ((a.add (i * 3)).add 2) = some (.int .u32 s.dst) := by
      intro i hi
      obtain ⟨cs', h1, h2⟩ := hel i (by omega)
      rw [hc] at h1
      obtain ⟨_, hlen, hcell⟩ := World.cells?_some h1
      obtain ⟨s, rfl, hs⟩ := open_step h2 (hss.2 _ (List.mem_map.2 ⟨i, List.mem_range.2 hi, rfl⟩))
      exact ⟨s, hs, (hcell 0 (by omega)).trans rfl, (hcell 1 (by omega)).trans rfl, (hcell 2 (by omega)).trans rfl⟩
    obtain ⟨L, hL, hok⟩ := choose_list key
    refine ⟨L, hL.symm, ⟨fun i s hsi => ?_⟩, by omega⟩
    obtain ⟨h1, q0, q1, q2⟩ := hok i s hsi
    have hsp : a = ⟨a.block, a.off, none⟩ := by
      have hi : 0 < L.length := by have := (List.getElem?_eq_some_iff.1 hsi).1; omega
      have q := (hok 0 _ (List.getElem?_eq_getElem hi)).2.1
      exact spot_of (w := W) (by simpa [Addr.add] using q)
    rw [hsp, plain_add, plain_add] at q0 q1 q2
    exact ⟨h1, a.block, a.off, by rw [← hsp], q0, q1, q2⟩
end
set_option maxHeartbeats 4000000 in
theorem news_calls {w : World} (l0 l1 l2 : Int) :
    Calls Tryz.prog 3 #[.agg #[.int .i64 l0, .int .i64 l1, .int .i64 l2]] w (fun e w' => e = .returned (.bool true) ∧ Touch [] w w') := by
  obtain ⟨W1, hW1⟩ : ∃ W1 : World, W1 = w.alloc (.cells #[.int .i64 l0, .int .i64 l1, .int .i64 l2] 23) := ⟨_, rfl⟩
  have T1 := Lib.hid (show Touch [] w W1 by rw [hW1]; exact (Touch.refl [] w).alloc _)
  obtain ⟨b4, hb4⟩ : ∃ b4, b4 = w.heap.size := ⟨_, rfl⟩
  have X1 := Lib.hid (show W1.heap[b4]? = some (.cells #[.int .i64 l0, .int .i64 l1, .int .i64 l2] 23 (0, 0)) by rw [hW1, hb4]; exact box_at w _)
  have HW1 := Lib.hid hW1
  have HB4 := Lib.hid hb4
  clear hW1 hb4
  obtain ⟨x0, x1, x2⟩ := th3 X1.out
  go_enter Tryz.func3, Tryz.ntmps3
  go_upto_region 1 with (fail)
  rw [← HW1.out, ← HB4.out]
  go_wp2_with fail
  refine (both_calls l0 l1 l2).mono ?_
  rintro e w2 ⟨t2, hh⟩
  have T2 := Lib.hid (T1.out.trans t2 (by simp))
  clear x0 x1 x2 t2
  rcases hh with ⟨hc, rfl⟩ | ⟨hc, kb, rb, F, rfl, hD, hF⟩
  all_goals
    go_wp2_with fail
    refine first_calls.mono ?_
    rintro e w3 ⟨rfl, t3⟩
    have T3 := Lib.hid (T2.out.trans t3 (by simp))
    clear t3
    go_wp2
    go_ret
    exact ⟨rfl, T3.out⟩
set_option maxHeartbeats 4000000 in
theorem does_calls {w : World} (l0 l1 l2 : Int) (A : Option Addr) (c : Nat) (l : List SOp) (hA : RdS w A l) (hn : l.length < 4611686018427387904) :
    Calls Tryz.prog 4 #[.agg #[.int .i64 l0, .int .i64 l1, .int .i64 l2], .slice A l.length c] w (fun e w' => e = .returned (.bool true) ∧ Touch [] w w') := by
  obtain ⟨N, hN⟩ : ∃ N, N = l.length := ⟨_, rfl⟩
  obtain ⟨W1, hW1⟩ : ∃ W1 : World, W1 = w.alloc (.cells #[.int .i64 l0, .int .i64 l1, .int .i64 l2] 23) := ⟨_, rfl⟩
  have T1 := Lib.hid (show Touch [] w W1 by rw [hW1]; exact (Touch.refl [] w).alloc _)
  obtain ⟨b4, hb4⟩ : ∃ b4, b4 = w.heap.size := ⟨_, rfl⟩
  have X1 := Lib.hid (show W1.heap[b4]? = some (.cells #[.int .i64 l0, .int .i64 l1, .int .i64 l2] 23 (0, 0)) by rw [hW1, hb4]; exact box_at w _)
  have HW1 := Lib.hid hW1
  have HB4 := Lib.hid hb4
  have HH := Lib.hid (holds_calls (w := W1) l0 l1 l2 A c l 1 1 (hA.kept T1.out) hn)
  rw [← hN] at HH ⊢
  clear hW1 hb4 hA hn hN
  obtain ⟨x0, x1, x2⟩ := th3 X1.out
  go_enter Tryz.func4, Tryz.ntmps4
  go_upto_region 1 with (fail)
  rw [← HW1.out, ← HB4.out]
  go_wp2_with fail
  refine HH.out.mono ?_
  rintro e w2 ⟨rfl, t2⟩
  have T2 := Lib.hid (T1.out.trans t2 (by simp))
  clear t2 x0 x1 x2
  go_wp2
  go_ret
  exact ⟨rfl, T2.out⟩
set_option maxHeartbeats 4000000 in
theorem resolves_calls {w : World} (l0 l1 l2 : Int) (A : Option Addr) (c : Nat) (l : List SOp) (hA : RdS w A l) (hn : l.length < 4611686018427387904) :
    Calls Tryz.prog 5 #[.agg #[.int .i64 l0, .int .i64 l1, .int .i64 l2], .slice A l.length c] w (fun e w' => e = .returned (.bool true) ∧ Touch [] w w') := by
  obtain ⟨N, hN⟩ : ∃ N, N = l.length := ⟨_, rfl⟩
  obtain ⟨W1, hW1⟩ : ∃ W1 : World, W1 = w.alloc (.cells #[.int .i64 l0, .int .i64 l1, .int .i64 l2] 23) := ⟨_, rfl⟩
  have T1 := Lib.hid (show Touch [] w W1 by rw [hW1]; exact (Touch.refl [] w).alloc _)
  obtain ⟨b4, hb4⟩ : ∃ b4, b4 = w.heap.size := ⟨_, rfl⟩
  have X1 := Lib.hid (show W1.heap[b4]? = some (.cells #[.int .i64 l0, .int .i64 l1, .int .i64 l2] 23 (0, 0)) by rw [hW1, hb4]; exact box_at w _)
  have HW1 := Lib.hid hW1
  have HB4 := Lib.hid hb4
  have HH := Lib.hid (holds_calls (w := W1) l0 l1 l2 A c l 2 2 (hA.kept T1.out) hn)
  rw [← hN] at HH ⊢
  clear hW1 hb4 hA hn hN
  obtain ⟨x0, x1, x2⟩ := th3 X1.out
  go_enter Tryz.func5, Tryz.ntmps5
  go_upto_region 1 with (fail)
  rw [← HW1.out, ← HB4.out]
  go_wp2_with fail
  refine HH.out.mono ?_
  rintro e w2 ⟨rfl, t2⟩
  have T2 := Lib.hid (T1.out.trans t2 (by simp))
  clear t2 x0 x1 x2
  go_wp2
  go_ret
  exact ⟨rfl, T2.out⟩
set_option maxHeartbeats 4000000 in
theorem dumpsS_calls {w : World} (l0 l1 l2 : Int) (A : Option Addr) (c : Nat) (l : List SOp) (hA : RdS w A l) (hn : l.length < 4611686018427387904) :
    Calls Tryz.prog 6 #[.agg #[.int .i64 l0, .int .i64 l1, .int .i64 l2], .slice A l.length c] w (fun e w' => e = .returned (.bool true) ∧ Touch [] w w') := by
  obtain ⟨N, hN⟩ : ∃ N, N = l.length := ⟨_, rfl⟩
  obtain ⟨W1, hW1⟩ : ∃ W1 : World, W1 = w.alloc (.cells #[.int .i64 l0, .int .i64 l1, .int .i64 l2] 23) := ⟨_, rfl⟩
  have T1 := Lib.hid (show Touch [] w W1 by rw [hW1]; exact (Touch.refl [] w).alloc _)
  obtain ⟨b4, hb4⟩ : ∃ b4, b4 = w.heap.size := ⟨_, rfl⟩
  have X1 := Lib.hid (show W1.heap[b4]? = some (.cells #[.int .i64 l0, .int .i64 l1, .int .i64 l2] 23 (0, 0)) by rw [hW1, hb4]; exact box_at w _)
  have HW1 := Lib.hid hW1
  have HB4 := Lib.hid hb4
  have HH := Lib.hid (holds_calls (w := W1) l0 l1 l2 A c l 3 3 (hA.kept T1.out) hn)
  rw [← hN] at HH ⊢
  clear hW1 hb4 hA hn hN
  obtain ⟨x0, x1, x2⟩ := th3 X1.out
  go_enter Tryz.func6, Tryz.ntmps6
  go_upto_region 1 with (fail)
  rw [← HW1.out, ← HB4.out]
  go_wp2_with fail
  refine HH.out.mono ?_
  rintro e w2 ⟨rfl, t2⟩
  have T2 := Lib.hid (T1.out.trans t2 (by simp))
  clear t2 x0 x1 x2
  go_wp2
  go_ret
  exact ⟨rfl, T2.out⟩
set_option maxHeartbeats 4000000 in
theorem allS_calls {w : World} (l0 l1 l2 : Int) (A : Option Addr) (c : Nat) (l : List SOp) (hA : RdS w A l) (hn : l.length < 4611686018427387904) :
    Calls Tryz.prog 7 #[.agg #[.int .i64 l0, .int .i64 l1, .int .i64 l2], .slice A l.length c] w (fun e w' => e = .returned (.bool true) ∧ Touch [] w w') := by
  obtain ⟨N, hN⟩ : ∃ N, N = l.length := ⟨_, rfl⟩
  obtain ⟨W1, hW1⟩ : ∃ W1 : World, W1 = w.alloc (.cells #[.int .i64 l0, .int .i64 l1, .int .i64 l2] 23) := ⟨_, rfl⟩
  have T1 := Lib.hid (show Touch [] w W1 by rw [hW1]; exact (Touch.refl [] w).alloc _)
  obtain ⟨b4, hb4⟩ : ∃ b4, b4 = w.heap.size := ⟨_, rfl⟩
  have X1 := Lib.hid (show W1.heap[b4]? = some (.cells #[.int .i64 l0, .int .i64 l1, .int .i64 l2] 23 (0, 0)) by rw [hW1, hb4]; exact box_at w _)
  have HW1 := Lib.hid hW1
  have HB4 := Lib.hid hb4
  have HH := Lib.hid (holds_calls (w := W1) l0 l1 l2 A c l 1 4 (hA.kept T1.out) hn)
  rw [← hN] at HH ⊢
  clear hW1 hb4 hA hn hN
  obtain ⟨x0, x1, x2⟩ := th3 X1.out
  go_enter Tryz.func7, Tryz.ntmps7
  go_upto_region 1 with (fail)
  rw [← HW1.out, ← HB4.out]
  go_wp2_with fail
  refine HH.out.mono ?_
  rintro e w2 ⟨rfl, t2⟩
  have T2 := Lib.hid (T1.out.trans t2 (by simp))
  clear t2 x0 x1 x2
  go_wp2
  go_ret
  exact ⟨rfl, T2.out⟩
end Go.Proofs.YtnpeafhjcelpfaaGreat.Tri

