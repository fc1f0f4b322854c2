/- A range over Within or All whose first loop variable lies in a box; no condition. -/
import Derived.Test.YtmklkdhpbehfeaaWB
namespace Go.Proofs.Ytmklkdhpbehfeaa.Tri
open Go.RowKit Go.Maps Go.Shelf
set_option linter.unusedVariables false

/-- The frame of a round: yield's temporaries, the box, the second variable. -/
def frameB (a : Act) (s0 s1 b v : Nat) (x : Ent) (Bx : Nat) : Act :=
  { tmps := (((a.tmps.setIfInBounds s0 (.agg #[.int .u32 x.1.a, .int .i64 x.1.n])).setIfInBounds s1 (.int .i64 x.2)).setIfInBounds b (.pointer (some ⟨Bx, 0, none⟩))).setIfInBounds v (.int .i64 x.2), defers := [] }
theorem wp_range2 (s0 s1 b v : Nat) {g : Operand} {assign body : Code} {Q : Exit → Act → World → Prop} {a : Act} {w : World} {B tb a0 : Nat} {m0 : Int} {L : List Ent} {t : T} {S : List Nat} {k : Nat}
    (hg : a.eval g = .func (.func 46) #[] #[.pointer (some ⟨B + 1, 0, none⟩), .pointer (some ⟨B, 0, none⟩)])
    (hT : TrieAt w tb t S k) (hk : 48 * k ≤ 140737488355328) (ha0 : a0 < 4294967296) (hsq : SeqAt w B tb a0 m0) (hL : insideL t a0 m0 = L)
    (I : List Ent → World → Prop) (Ix : Code → List Ent → World → Prop) (hI : OwnFrom w.heap.size I) (hIx : ∀ c, OwnFrom w.heap.size (Ix c)) (h0 : I [] w)
    (hassign : ∀ (l : Nat) (pre : List Ent) (x : Ent) (W : World) (K : Act → World → Prop), I pre W → K (frameB a s0 s1 b v x W.heap.size) (W.alloc (.cells #[.int .u32 x.1.a, .int .i64 x.1.n] 32)) →
      assign.wpIn (Fence.wide.inRound l) 7 Try.prog (Exit.then K (fun _ _ _ => False)) { tmps := (#[s0, s1].zip (encE x)).foldl (fun t (p, v) => t.setIfInBounds p v) a.tmps, defers := [] } W)
    (hbody : ∀ (l : Nat) (pre : List Ent) (x : Ent) (Bx : Nat) (W : World), w.heap.size ≤ l → (∃ r, W.heap[l]? = some (.loop r)) → I pre W → w.heap.size ≤ Bx → W.heap[Bx]? = some (.cells #[.int .u32 x.1.a, .int .i64 x.1.n] 32 (0, 0)) → pre.length < L.length → body.wpIn (Fence.wide.inRound l) 7 Try.prog (ownPostG w.heap.size (KeepT 96) I Ix (pre ++ [x]) W) (frameB a s0 s1 b v x Bx) W)
    (hIa : ∀ pre W o, I pre W → I pre (W.alloc o)) (hIs : ∀ pre W, I pre W → w.heap.size ≤ W.heap.size)
    (hdone : ∀ (D : Nat) (W : World), w.heap.size ≤ D → I L W → W.heap[D]? = some (.deferred (some [])) → Q .normal { a with defers := mark D :: a.defers } W)
    (hstop : ∀ (D : Nat) (c : Code) (pre : List Ent) (W : World), w.heap.size ≤ D → pre <+: L → Ix c pre W → W.heap[D]? = some (.deferred (some [])) → c.wp Try.prog Q { a with defers := mark D :: a.defers } W) :
    (Code.rangeFunc g #[s0, s1] assign body).wp Try.prog Q a w := by
  have hst := within_stops (n := 8) hT hk a0 m0 ha0 B (B + 1) hsq.t hsq.p
  rw [hL] at hst
  refine wp_range (gf := 46) hg (enters_of Try.func46 (by kernel_rfl) rfl)
    hst (fun h k => h.trans k) (fun W l o o' _ h1 h2 _ => KeepT.put W l o o' h1 h2) (fun _ => rfl) I Ix hI hIx h0
    (fun x => BoxX w x (frameB a s0 s1 b v x)) (fun x a' => BoxX.own x _ a') ?_ ?_ ?_ hstop
  · intro l pre x W K hi hK
    exact hassign l pre x W K hi (hK _ _ (keepsFrom_touch (S := []) ((Touch.refl [] W).alloc _) (by simp)) (KeepT.touch (S := []) ((Touch.refl [] W).alloc _) (by simp)) (hIa _ _ _ hi) ⟨W.heap.size, hIs _ _ hi, box_at W _, rfl⟩)
  · rintro l pre x a' W hl hr hi ⟨Bx, hBx, hx, rfl⟩ hlen
    exact hbody l pre x Bx W hl hr hi hBx hx hlen
  · rintro D xs W hD rfl hi hK
    exact hdone D W hD hi hK
end Go.Proofs.Ytmklkdhpbehfeaa.Tri
