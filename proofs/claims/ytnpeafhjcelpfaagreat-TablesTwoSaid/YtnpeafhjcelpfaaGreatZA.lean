/- Ranges over functions in the plain walk; regions that draw their order in a round; no condition. -/
import Derived.Test.YtnpeafhjcelpfaaGreatVA
import Derived.RangeFuncNested
import Derived.RangeFuncBound
import Derived.RangeFuncCalls
import Derived.RangeFuncLeaves
import Derived.Shelf.Abstract
import Derived.Shelf.RegionOpen
import Derived.OwnWalkIn
import Derived.TacticsInMore
import Derived.LoopNIn
import Derived.LoopIn
namespace Go.Proofs.YtnpeafhjcelpfaaGreat.Tri
open Go.RowKit Go.Maps
set_option linter.unusedVariables false

section
variable {P : Program} {F : Fence} {n : Nat} {ops : Array Oper} {md : Region.Mode} {Q : Exit → Act → World → Prop} {r : Nat}
/-- None of the operations is a defer. -/
def calm (l : List Oper) : Bool := l.all fun o => match o.op with
  | .defer _ => false
  | _ => true
theorem calm_op {l : List Oper} (h : calm l = true) {i : Nat} {o : Oper} (hi : l[i]? = some o) (c : Call) (e : o.op = .defer c) : False := by
  have := List.all_eq_true.1 h o (List.mem_of_getElem? hi)
  rw [e] at this
  cases this
theorem op_round {o : Oper} {a : Act} {w : World} {K : Act → World → Prop} (hd : ∀ c, o.op ≠ .defer c) (hro : F.round = none) (h : o.wpIn F n P a w K Q) : o.wpIn (F.inRound r) n P a w K Q := by
  unfold Oper.wpIn at h ⊢
  rw [hro, Oper.semAt_none] at h
  rw [Fence.inRound_round, Oper.semAt_eq _ _ _ hd]
  exact h
theorem opIn_round {i : Nat} {a : Act} {w : World} {K : Act → World → Prop} {l : List Oper} (hl : ops = l.toArray) (hc : calm l = true) (hro : F.round = none) (h : wpOpIn F n P ops Q i K a w) : wpOpIn (F.inRound r) n P ops Q i K a w := by
  unfold wpOpIn at h ⊢
  split
  · rename_i ho; simpa only [ho] using h
  · rename_i o ho
    simp only [ho] at h
    split
    · rename_i hw
      simp only [hw, if_true] at h
      exact op_round (fun c e => calm_op hc (i := i) (o := o) (by subst hl; simpa using ho) c e) hro h
    · rename_i hw
      simp only [hw] at h
      exact h
theorem anyIn_round {l : List Oper} (hl : ops = l.toArray) (hc : calm l = true) (hro : F.round = none) : ∀ (fuel : Nat) (listed : Array Bool) (a : Act) (w : World), wpAnyIn F n P md ops Q fuel listed a w → wpAnyIn (F.inRound r) n P md ops Q fuel listed a w
  | 0, _, _, _, h => h
  | fuel + 1, listed, a, w, h => ⟨h.1, fun i hi => opIn_round hl hc hro (wpOpIn_mono (fun a w => anyIn_round hl hc hro fuel _ a w) (h.2 i hi))⟩
/-- A region of a round that draws its order. -/
theorem wpIn_region_round {id : Nat} {l : List Oper} {a : Act} {w : World} (hm : P.follows .mixedOrders = true) (hc : calm l = true) (hro : F.round = none)
    (h : wpAnyIn F n P .any l.toArray Q l.toArray.size (Array.replicate l.toArray.size false) a w.drew) : (Code.region id l.toArray true).wpIn (F.inRound r) n P Q a w :=
  wpIn_region_any hm (anyIn_round rfl hc hro _ _ _ _ h)
variable {C : World → Prop}
theorem op_round_quiet {o : Oper} {a : Act} {K : Act → Prop} {K' : Act → World → Prop} {w : World} (hd : ∀ c, o.op ≠ .defer c) (hw : C w) (h : ∀ a w', C w' → K a → K' a w') (hh : o.quiet P a C K) : o.wpIn (Fence.wide.inRound r) n P a w K' Q := by
  obtain ⟨v, h1, h2⟩ := hh
  have h3 := h1 w hw
  unfold Oper.quietAt at h3
  unfold Oper.wpIn
  refine ⟨fun _ _ => trivial, ?_⟩
  rw [Fence.inRound_round, Oper.semAt_eq _ _ _ hd]
  generalize (execOp a.eval o).run P w = x at *
  cases x with
  | ok y w' =>
    cases y <;> simp only [Oper.quietUpon] at h3 <;> simp only [Oper.uponIn]
    case value u =>
      obtain ⟨e1, e2⟩ := h3
      rw [e1, e2]
      exact h _ _ hw h2
    case skip =>
      obtain ⟨e1, e2⟩ := h3
      rw [e1, ← e2]
      exact h _ _ hw h2
    case enter f args =>
      obtain ⟨e1, hc⟩ := h3
      rw [e1]
      refine ⟨fun hx => (by cases hx), CallsIn.inRound r (callsIn_wide.2 (hc.mono fun e w'' hx => ?_))⟩
      obtain ⟨he, hw''⟩ := hx
      subst he
      exact h _ _ hw'' h2
  | halt y w' => simp only [Oper.quietUpon] at h3
theorem opIn_round_quiet {i : Nat} {a : Act} {K : Act → Prop} {K' : Act → World → Prop} {w : World} {l : List Oper} (hl : ops = l.toArray) (hc : calm l = true) (hC : C w) (h : ∀ a w', C w' → K a → K' a w') (hh : qOp P ops C i K a) : wpOpIn (Fence.wide.inRound r) n P ops Q i K' a w := by
  unfold qOp at hh
  unfold wpOpIn
  split
  · rename_i ho; simp only [ho] at hh; exact h _ _ hC hh
  · rename_i o ho
    simp only [ho] at hh
    split
    · rename_i hw
      simp only [hw, if_true] at hh
      exact op_round_quiet (fun c e => calm_op hc (i := i) (o := o) (by subst hl; simpa using ho) c e) hC h hh
    · rename_i hw
      simp only [hw] at hh
      exact ⟨fun _ _ => trivial, h _ _ hC hh⟩
theorem anyIn_round_quiet {l : List Oper} (hl : ops = l.toArray) (hc : calm l = true) {Q' : Act → Prop} (hQ : ∀ a w, C w → Q' a → Q .normal a w) : ∀ (fuel : Nat) (listed : Array Bool) (a : Act) (w : World), C w →
    wpAnyQ P md ops C Q' fuel listed a → wpAnyIn (Fence.wide.inRound r) n P md ops Q fuel listed a w
  | 0, _, _, _, hw, h => ⟨h.1, hQ _ _ hw h.2⟩
  | fuel + 1, _, _, _, hw, h => ⟨fun h0 => hQ _ _ hw (h.1 h0), fun i hi => opIn_round_quiet hl hc hw (fun a' w' hw' => anyIn_round_quiet hl hc hQ fuel _ a' w' hw') (h.2 i hi)⟩
/-- A region of a round that draws its order, and only reads. -/
theorem wpIn_round_near {id : Nat} {l : List Oper} {a : Act} {w : World} (hm : P.follows .mixedOrders = true) (hB : Region.lexB .any l.toArray = true) (hc : calm l = true)
    (h : wpQuiet P l.toArray (fun w' => ∃ u : Near w, w' = u.w) (fun a' => ∀ w', (∃ u : Near w, w' = u.w) → Q .normal a' w') l a) : (Code.region id l.toArray true).wpIn (Fence.wide.inRound r) n P Q a w := by
  simp only [Region.lexB, Bool.and_eq_true] at hB
  refine wpIn_region_any hm (anyIn_round_quiet (C := fun w' => ∃ u : Near w, w' = u.w) (Q' := fun a' => ∀ w', (∃ u : Near w, w' = u.w) → Q .normal a' w') rfl hc (fun _ w' hw' h => h w' hw') _ _ _ _ ⟨⟨w.drew, (Touch.refl [] w).drew⟩, rfl⟩ ?_)
  have := wpAnyQ_lex (C := fun w' => ∃ u : Near w, w' = u.w) (md := .any) hB.1 l 0 (Array.replicate l.toArray.size false) a (by simp) (by simpa using hB.2) h
  simpa using this
end

/-- A function whose body holds a range over a function. -/
theorem calls_marks {P : Program} {f : FuncId} {fn : Func} {c : Code} {args : Array Value} {w : World} {R : Ending → World → Prop} (hf : P.funcs[f]? = some fn) (hb : fn.body = some c)
    (h : c.wp P (bodyPostM Fence.wide 9 P fn R) { tmps := args ++ Array.replicate (fn.ntmps - args.size) undef, defers := [] } w) : Calls P f args w R :=
  callsIn_wide.1 (callsIn_of_wp_marks (n := 9) hf hb trivial (wpIn_wide.2 h) rfl)
/-- A range over a function, in a plain walk. -/
theorem wp_range {P : Program} {α : Type} {g : Operand} {ps : Array Tmp} {assign body : Code} {Q : Exit → Act → World → Prop} {a : Act} {w : World}
    {gf : Nat} {lb : Array Value} (hg : a.eval g = .func (.func gf) #[] lb) (eg : ∀ args w, (callFunc gf args).run P w = .ok (.enter gf args) w)
    {encs : α → Array Value} {Kp : World → World → Prop} {S Sp : List α → Prop} {N : Nat} (hseq : SeqStopsK Fence.wide 8 P gf lb encs Kp S Sp N w)
    (hKt : ∀ {A B C : World}, Kp A B → Kp B C → Kp A C) (hKb : ∀ (W : World) (l : Nat) (o o' : Obj), w.heap.size ≤ l → W.heap[l]? = some o → o.isCells = false → o.isWalk = false → Kp W (W.putObj l o')) (hps : ∀ x, (encs x).size = ps.size)
    (I : List α → World → Prop) (Ix : Code → List α → World → Prop) (hI : OwnFrom w.heap.size I) (hIx : ∀ c, OwnFrom w.heap.size (Ix c)) (h0 : I [] w) (Ax : α → Act → World → Prop) (hAx : ∀ x a', OwnFrom w.heap.size (fun (_ : Unit) W => Ax x a' W))
    (hassign : ∀ (l : Nat) (pre : List α) (x : α) (W : World) (K : Act → World → Prop), I pre W → (∀ a' W', KeepsFrom w.heap.size W W' → Kp W W' → I pre W' → Ax x a' W' → K a' W') →
      assign.wpIn (Fence.wide.inRound l) 7 P (Exit.then K (fun _ _ _ => False)) { tmps := (ps.zip (encs x)).foldl (fun t (p, v) => t.setIfInBounds p v) a.tmps, defers := [] } W)
    (hbody : ∀ (l : Nat) (pre : List α) (x : α) (a' : Act) (W : World), w.heap.size ≤ l → (∃ r, W.heap[l]? = some (.loop r)) → I pre W → Ax x a' W → pre.length < N → body.wpIn (Fence.wide.inRound l) 7 P (ownPostG w.heap.size Kp I Ix (pre ++ [x]) W) a' W)
    (hdone : ∀ (D : Nat) (xs : List α) (W : World), w.heap.size ≤ D → S xs → I xs W → W.heap[D]? = some (.deferred (some [])) → Q .normal { a with defers := { target := .collected D, args := #[] } :: a.defers } W)
    (hstop : ∀ (D : Nat) (c : Code) (pre : List α) (W : World), w.heap.size ≤ D → Sp pre → Ix c pre W → W.heap[D]? = some (.deferred (some [])) → c.wp P Q { a with defers := { target := .collected D, args := #[] } :: a.defers } W) :
    (Code.rangeFunc g ps assign body).wp P Q a w :=
  wpIn_wide.1 (wpIn_rangeFunc_ownH (n := 9) rfl (by decide) hg trivial eg hseq hKt hKb (Below.refl _ _) hps I Ix hI hIx h0 Ax hAx hassign hbody hdone (fun D c pre W h1 h2 h3 h4 => wpIn_wide.2 (hstop D c pre W h1 h2 h3 h4)))

/-! ### what a round keeps: the blocks of one type -/
def KeepT (E : TypeId) (W W' : World) : Prop := W.heap.size ≤ W'.heap.size ∧ ∀ (k : Nat) (c : Array Value) (f : Nat × Nat), W.heap[k]? = some (.cells c E f) → W'.heap[k]? = some (.cells c E f)
theorem KeepT.refl (E : TypeId) (W : World) : KeepT E W W := ⟨Nat.le_refl _, fun _ _ _ h => h⟩
theorem KeepT.trans {E : TypeId} {A B C : World} (h : KeepT E A B) (k : KeepT E B C) : KeepT E A C := ⟨Nat.le_trans h.1 k.1, fun i c f hi => k.2 i c f (h.2 i c f hi)⟩
theorem KeepT.put {E : TypeId} (W : World) (l : Nat) (o o' : Obj) (hl : W.heap[l]? = some o) (hc : o.isCells = false) : KeepT E W (W.putObj l o') := by
  refine ⟨(grownBy_putObj' W l o').size, fun k c f hk => ?_⟩
  refine ((grownBy_putObj' W l o').block k (Array.getElem?_eq_some_iff.1 hk).1 (fun e => ?_)).trans hk
  cases e
  rw [hl] at hk
  cases hk
  cases hc
theorem KeepT.touch {E : TypeId} {S : List Nat} {W W' : World} (t : Touch S W W') (hs : ∀ k ∈ S, ∀ (c : Array Value) (f : Nat × Nat), W.heap[k]? ≠ some (.cells c E f)) : KeepT E W W' :=
  ⟨t.size, fun k c f hk => (t.block k (Array.getElem?_eq_some_iff.1 hk).1 (fun h => hs k h c f hk)).trans hk⟩
/-- Whatever is no cells lies as it lay, when only cells were touched. -/
theorem keepsFrom_touch {B : Nat} {S : List Nat} {W W' : World} (t : Touch S W W') (hs : ∀ k ∈ S, ∃ c E f, W.heap[k]? = some (.cells c E f)) : KeepsFrom B W W' :=
  ⟨t.size, fun k o hk h0 ho => (t.block k (Array.getElem?_eq_some_iff.1 h0).1 (fun h => by
    obtain ⟨c, E, f, hc⟩ := hs k h
    rw [h0] at hc
    cases hc
    cases ho)).trans h0⟩
/-- What the law and the iterator do to a world, told as a Touch. -/
theorem touch_grown {W W' : World} {row : Option Nat} (g : W.grownBy W' row) : Touch row.toList W W' := ⟨g.os, g.tape, g.output, g.size, fun k hk hn => g.block k hk (fun e => hn (by rw [← e]; simp))⟩
end Go.Proofs.YtnpeafhjcelpfaaGreat.Tri
