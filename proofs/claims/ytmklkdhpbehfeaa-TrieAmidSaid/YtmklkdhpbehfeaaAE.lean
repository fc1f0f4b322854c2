/- amidst: the end of a round of its range; no condition. -/
import Derived.Test.YtmklkdhpbehfeaaAD
namespace Go.Proofs.Ytmklkdhpbehfeaa.Tri
open Go.RowKit Go.Maps Go.Shelf
set_option linter.unusedVariables false

theorem am_round {w W0 W' wr : World} {C : AmC} {B14 B15 c14 : Nat} {A14 : Option Addr} {L : List Ent} {Ds : List Nat} {pre : List Ent} {x : Ent} {P1 P2 : Duo}
    (A1 : AmAt w W' C P1) (ok : C.ok w) (N14 : B14 ∉ P1.foot) (N15 : B15 ∉ P1.foot) (N1R : ∀ b, (Value.slice A14 L.length c14).ownBlock = some b → b ∉ P1.foot)
    (NN : W'.heap[B15]? = some (.cells #[.int .i64 pre.length] 3 (0, 0))) (XX14 : W'.heap[B14]? = some (.cells #[.slice A14 L.length c14] 131 (0, 0)))
    (ROW : VRow W' 135 3 (.slice A14 L.length c14) L.length (flatE L)) (DS : ∀ D ∈ Ds, W'.heap[D]? = some (.deferred (some []))) (hsz : W0.heap.size ≤ W'.heap.size) (hB : C.N ≤ B15)
    (A2 : AmAt w wr C P2) (F2 : ∀ y ∈ P2.foot, y ∈ P1.foot ∨ W'.heap.size ≤ y) (T2 : Touch P1.foot W' wr) (HX : pre ++ [x] <+: L) :
    KeepsFrom W0.heap.size W' (wr.setCell ⟨B15, 0, none⟩ (.int .i64 ((pre.length : Int) + 1))) ∧ KeepT 96 W' (wr.setCell ⟨B15, 0, none⟩ (.int .i64 ((pre.length : Int) + 1))) ∧
      AmI w W0 C B14 B15 c14 A14 L Ds (pre ++ [x]) (wr.setCell ⟨B15, 0, none⟩ (.int .i64 ((pre.length : Int) + 1))) := by
  have tS : Touch [B15] wr (wr.setCell ⟨B15, 0, none⟩ (.int .i64 ((pre.length : Int) + 1))) := (Touch.refl _ wr).setCell _ _ (.inl (by simp))
  have tX : Touch (B15 :: P1.foot) W' (wr.setCell ⟨B15, 0, none⟩ (.int .i64 ((pre.length : Int) + 1))) := (T2.mono (fun y hy => .inl (List.mem_cons_of_mem _ hy))).setCell _ _ (.inl (by simp))
  have lt : ∀ {b : Nat} {o : Obj}, W'.heap[b]? = some o → b < W'.heap.size := fun h => (Array.getElem?_eq_some_iff.1 h).1
  have no2 : ∀ {b : Nat} {o : Obj}, W'.heap[b]? = some o → b ∉ P1.foot → b ∉ P2.foot := fun h hn hm => by
    rcases F2 _ hm with e | e
    · exact hn e
    · have := lt h; omega
  have noX : ∀ {b : Nat} {o : Obj}, W'.heap[b]? = some o → (∀ c f, o ≠ .cells c 3 f) → b ∉ P1.foot → b ∉ B15 :: P1.foot := fun {b o} h ho hn hm => by
    rcases List.mem_cons.1 hm with e | e
    · rw [e, NN] at h; cases h; exact ho _ _ rfl
    · exact hn e
  refine ⟨keepsFrom_touch tX (fun y hy => ?_), KeepT.touch tX (fun y hy c f hc => ?_), ⟨⟨P2, A2.kept ok tS (fun y hy => ?_), no2 XX14 N14, no2 NN N15, fun b hb => ?_⟩, ?_, HX, ?_, ROW.kept tX (fun k hk => ?_), fun D hD => touch_box tX (DS D hD) ?_, Nat.le_trans hsz tX.size⟩⟩
  · rcases List.mem_cons.1 hy with rfl | hy
    · exact ⟨_, _, _, NN⟩
    · obtain ⟨c, e, f, hc, _⟩ := duo_cells A1.duo y hy
      exact ⟨_, _, _, hc⟩
  · rcases List.mem_cons.1 hy with rfl | hy
    · rw [NN] at hc; cases hc
    · obtain ⟨c', e, f', hc', hne⟩ := duo_cells A1.duo y hy
      rw [hc'] at hc; cases hc; exact hne rfl
  · simp at hy
    subst hy
    exact ⟨hB, no2 NN N15⟩
  · obtain ⟨c, hc⟩ := ROW.blk b hb
    exact no2 hc (N1R b hb)
  · have := box_set (o := 0) (touch_box T2 NN N15) (.int .i64 ((pre.length : Int) + 1))
    simpa using this
  · exact touch_box tX XX14 (noX XX14 (by intro c f e; cases e) N14)
  · obtain ⟨c, hc⟩ := ROW.blk k hk
    exact noX hc (by intro c f e; cases e) (N1R k hk)
  · refine noX (DS D hD) (by intro c f e; cases e) (fun hm => ?_)
    obtain ⟨c, e, f, hc, _⟩ := duo_cells A1.duo D hm
    rw [DS D hD] at hc; cases hc
end Go.Proofs.Ytmklkdhpbehfeaa.Tri
