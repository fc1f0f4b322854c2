/- begin; no condition. -/
import Derived.Test.YtmklkdhpbehfeaaRW
namespace Go.Proofs.Ytmklkdhpbehfeaa.Tri
open Go.RowKit Go.Maps
set_option linter.unusedVariables false

def BeginPost (w : World) (B : Nat) (f : Nat → Option Duo) (k n : Nat) (e : Ending) (w' : World) : Prop :=
  e = .returned (.bool true) ∧ Touch [B] w w' ∧ ∃ P, RowAt w' B (put1 f k P) n ∧ ∀ x ∈ P.foot, w.heap.size ≤ x
theorem close_beginA {w W0 w5 : World} {B k : Nat} {c : Array Value} (hc : w.heap[B]? = some (.cells c 123 (0, 0))) (t0 : Touch [] w W0) (t1 : Touch [] W0 w5) (h1 : TrieAt w5 W0.heap.size .nil [W0.heap.size] 0) :
    w.heap.size ≤ W0.heap.size ∧ TrieAt (w5.setCell ⟨B, k, none⟩ (.pointer (some ⟨W0.heap.size, 0, none⟩))) W0.heap.size .nil [W0.heap.size] 0 ∧ (w5.setCell ⟨B, k, none⟩ (.pointer (some ⟨W0.heap.size, 0, none⟩))).heap[B]? = some (.cells (c.setIfInBounds k (.pointer (some ⟨W0.heap.size, 0, none⟩))) 123 (0, 0)) ∧ Touch [B] w (w5.setCell ⟨B, k, none⟩ (.pointer (some ⟨W0.heap.size, 0, none⟩))) := by
  have hB := (Array.getElem?_eq_some_iff.1 hc).1
  have ht := t0.trans t1 (by simp)
  refine ⟨t0.size, h1.kept ((Touch.refl [B] w5).setCell _ _ (.inl (by simp))) (fun x hx => ?_), box_set (touch_box ht hc (by simp)) _, (ht.mono (by simp)).setCell _ _ (.inl (by simp))⟩
  simp at hx ⊢; subst hx
  have := t0.size; omega
theorem close_beginB {w W0 w5 : World} {B k : Nat} {c : Array Value} (hc : w.heap[B]? = some (.cells c 123 (0, 0))) (t0 : Touch [] w W0) (t1 : Touch [] W0 w5) (h1 : RefT w5 W0.heap.size (.slice none 0 0) []) :
    w.heap.size ≤ W0.heap.size ∧ RefT (w5.setCell ⟨B, k, none⟩ (.pointer (some ⟨W0.heap.size, 0, none⟩))) W0.heap.size (.slice none 0 0) [] ∧ (w5.setCell ⟨B, k, none⟩ (.pointer (some ⟨W0.heap.size, 0, none⟩))).heap[B]? = some (.cells (c.setIfInBounds k (.pointer (some ⟨W0.heap.size, 0, none⟩))) 123 (0, 0)) ∧ Touch [B] w (w5.setCell ⟨B, k, none⟩ (.pointer (some ⟨W0.heap.size, 0, none⟩))) := by
  have hB := (Array.getElem?_eq_some_iff.1 hc).1
  have ht := t0.trans t1 (by simp)
  refine ⟨t0.size, h1.kept ((Touch.refl [B] w5).setCell _ _ (.inl (by simp))) (fun x hx => ?_), box_set (touch_box ht hc (by simp)) _, (ht.mono (by simp)).setCell _ _ (.inl (by simp))⟩
  simp [rfoot, Value.ownBlock] at hx ⊢; subst hx
  have := t0.size; omega
theorem blk_cell {w : World} {b o : Nat} {c : Array Value} {T : TypeId} {v : Value} (h : w.heap[b]? = some (.cells c T (0, 0))) (hv : c[o]? = some v) : w.cell? ⟨b, o, none⟩ = some v ∧ w.frozen? ⟨b, o, none⟩ = false := by
  constructor <;> simp [World.cell?, World.frozen?, h, hv]
set_option maxHeartbeats 4000000 in
set_option maxRecDepth 100000 in
theorem begin_calls {w : World} {B : Nat} {f : Nat → Option Duo} {n : Nat} (h : RowAt w B f n) (k : Nat) (hk : k < 8) :
    Calls Try.prog 57 #[.pointer (some ⟨B, 0, none⟩), .int .i64 k] w (BeginPost w B f k n) := by
  have H := Lib.hid h
  obtain ⟨cA, cR, cf⟩ := h.cell k hk
  have fA := cf k
  have hB := h.lt
  have hk8 : (k : Int) < 8 := by omega
  obtain ⟨c, hc, hsz, h3⟩ := h.blk
  have HC := Lib.hid hc
  have HSZ := Lib.hid hsz
  have H3 := Lib.hid (h3 k hk)
  clear h cf hc hsz cR h3
  go_enter Try.func57, Try.ntmps57
  go_wp2_with fail
  go_upto_region 2 with (fail)
  go_cut [] (fun wc => ∃ tb : Nat, Hid (w.heap.size ≤ tb) ∧ Hid (TrieAt wc tb .nil [tb] 0) ∧ Hid (wc.heap[B]? = some (.cells (c.setIfInBounds k (.pointer (some ⟨tb, 0, none⟩))) 123 (0, 0))) ∧ Hid (Touch [B] w wc))
  case first =>
    go_region_law (first | (go_simp; go_at_call 16; refine (new_calls _).mono ?_; rintro e w5 ⟨rfl, h1, t1⟩; have k4 := cell_touch t1 (a := ⟨B, k, none⟩) (v := pa (f k)) (by simp [cA]) (by simp); have kf := frozen_touch t1 (b := B) (o := k) (v := pa (f k)) (by simp [cA]) (by simp [fA]) (by simp)))
    all_goals
      go_wp2
      go_meet
      case rel =>
        obtain ⟨g1, g2, g3, g4⟩ := close_beginA (k := k) HC.out (by first | exact (Touch.refl [] _).drew | exact (Touch.refl [] _).drewN _ | exact Touch.refl [] _) t1 h1
        exact ⟨_, Lib.hid g1, Lib.hid g2, Lib.hid g3, Lib.hid g4⟩
  case rest =>
  obtain ⟨tb, htb, hTr, hcB, hT⟩ := hcut
  obtain ⟨cR, fR⟩ := blk_cell (o := 8 + k) (v := pb (f k)) hcB.out (by rw [Array.getElem?_setIfInBounds_ne (by omega)]; exact H3.out.2)
  clear cA fA
  have htl : tb < wc.heap.size := hTr.out.lt tb (by simp)
  have hszw := hT.out.size
  go_wp2_with fail
  go_upto_region 3 with (fail)
  go_cut [] (fun wd => ∃ rb : Nat, Hid (wc.heap.size ≤ rb) ∧ Hid (RefT wd rb (.slice none 0 0) []) ∧ Hid (wd.heap[B]? = some (.cells ((c.setIfInBounds k (.pointer (some ⟨tb, 0, none⟩))).setIfInBounds (8 + k) (.pointer (some ⟨rb, 0, none⟩))) 123 (0, 0))) ∧ Hid (Touch [B] wc wd))
  case first =>
    go_region_law (first | (go_simp; go_at_call 61; refine (rnew_calls _).mono ?_; rintro e w5 ⟨rfl, h1, t1⟩; have k4 := cell_touch t1 (a := ⟨B, 8 + k, none⟩) (v := pb (f k)) (by simp [cR]) (by simp); have kf := frozen_touch t1 (b := B) (o := 8 + k) (v := pb (f k)) (by simp [cR]) (by simp [fR]) (by simp)))
    all_goals
      go_wp2
      go_meet
      case rel =>
        obtain ⟨g1, g2, g3, g4⟩ := close_beginB (k := 8 + k) hcB.out (by first | exact (Touch.refl [] _).drew | exact (Touch.refl [] _).drewN _ | exact Touch.refl [] _) t1 h1
        exact ⟨_, Lib.hid g1, Lib.hid g2, Lib.hid g3, Lib.hid g4⟩
  case rest =>
  obtain ⟨rb, hrb, hRf, hcD, hT2⟩ := hcut
  obtain ⟨cA, fA⟩ := blk_cell (o := k) (v := .pointer (some ⟨tb, 0, none⟩)) hcD.out (by rw [Array.getElem?_setIfInBounds_ne (by omega), Array.getElem?_setIfInBounds_self_of_lt (by rw [HSZ.out]; omega)])
  clear cR fR
  go_wp2
  go_ret
  have hBt : tb ≠ B := by have := htb.out; omega
  have hft : ∀ x ∈ Duo.foot ⟨tb, rb, .slice none 0 0, .nil, [tb], 0⟩, w.heap.size ≤ x := by
    intro x hx
    simp [Duo.foot, rfoot, Value.ownBlock] at hx
    have := hrb.out; have := htb.out
    omega
  refine ⟨rfl, hT.out.trans hT2.out (fun x hx => .inl hx), ⟨tb, rb, .slice none 0 0, .nil, [tb], 0⟩, RowAt.begun H.out hk HC.out (hT.out.trans hT2.out (fun x hx => .inl hx)) hcD.out rfl ⟨hTr.out.kept hT2.out (by simp [hBt]), hRf.out, ?_⟩ hft rfl, hft⟩
  intro x hx hx2
  simp at hx
  simp [rfoot, Value.ownBlock] at hx2
  have := hrb.out; omega
end Go.Proofs.Ytmklkdhpbehfeaa.Tri
