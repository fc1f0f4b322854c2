/- The walk of FragFirst, its state; no condition. -/
import Derived.Test.YtelfemhnijnhfaaGS
import Derived.Test.YtelfemhnijnhfaaGO
namespace Go.Proofs.Ytelfemhnijnhfaa.Fr
open Go.RowKit Go.Maps
set_option linter.unusedVariables false
set_option linter.unusedSimpArgs false
set_option maxRecDepth 100000

structure FSt (w wr : World) (a b7 b9 : Nat) (V9 : Value) (S : List Nat) (st : ASt) (wl : List Int) : Prop where
  asm : AsmAt wr a S st
  new : ∀ k ∈ S, w.heap.size ≤ k
  touch : Touch [] w wr
  want : wr.heap[b7]? = some (.cells (encB wl).toArray 48 (0, 0))
  box : wr.heap[b9]? = some (.cells (pkC ⟨0, 5, false, false, 160, 9, 17, 1, 2⟩ (.slice none 0 0) V9) 30 (0, 0))
  body : OwB wr V9 (List.replicate 8 250)
  n7 : b7 ∉ S
  n9 : b9 ∉ S
  l7 : w.heap.size ≤ b7
theorem FSt.near {w wr wr' : World} {a b7 b9 : Nat} {V9 : Value} {S : List Nat} {st : ASt} {wl : List Int} (F : FSt w wr a b7 b9 V9 S st wl) (t : Touch [] wr wr') : FSt w wr' a b7 b9 V9 S st wl :=
  ⟨F.asm.near t, F.new, F.touch.trans t (by simp), touch_box t F.want (by simp), touch_box t F.box (by simp), F.body.near t, F.n7, F.n9, F.l7⟩
theorem FSt.store {w wr : World} {a b7 b9 : Nat} {V9 : Value} {S : List Nat} {st : ASt} {wl : List Int} (F : FSt w wr a b7 b9 V9 S st wl) (j : Nat) (v : Int) : FSt w (wr.setCell ⟨b7, j, none⟩ (.int .u8 v)) a b7 b9 V9 S st (wl.set j v) := by
  have t : Touch [b7] wr (wr.setCell ⟨b7, j, none⟩ (.int .u8 v)) := (Touch.refl _ wr).setCell _ _ (.inl (by simp))
  have hk : ∀ k ∈ [b7], Kind wr k := fun k hk => by simp at hk; subst hk; exact .inr ⟨_, _, F.want, by decide, by decide⟩
  have h97 : b9 ∉ [b7] := by
    intro h
    simp at h
    subst h
    have h1 := F.want
    rw [F.box] at h1
    simp only [Option.some.injEq, Obj.cells.injEq] at h1
    exact absurd h1.2.1 (by decide)
  refine ⟨F.asm.keptK t (fun k hk hs => by simp at hk; subst hk; exact F.n7 hs) hk, F.new, F.touch.trans t (fun x hx => .inr (by simp at hx; subst hx; exact F.l7)), ?_, touch_box t F.box h97, F.body.kind t hk, F.n7, F.n9, F.l7⟩
  have := box_set (o := j) F.want (.int .u8 v)
  rw [encB_set]
  simpa using this
theorem FSt.add {w wr w' : World} {a b7 b9 : Nat} {V9 : Value} {S S' : List Nat} {st st' : ASt} {wl : List Int} (F : FSt w wr a b7 b9 V9 S st wl) (hA : AsmAt w' a S' st') (t : Touch S wr w') (hs : ∀ k ∈ S', k ∈ S ∨ wr.heap.size ≤ k) : FSt w w' a b7 b9 V9 S' st' wl := by
  have h7 : b7 < wr.heap.size := (Array.getElem?_eq_some_iff.1 F.want).1
  have h9 : b9 < wr.heap.size := (Array.getElem?_eq_some_iff.1 F.box).1
  refine ⟨hA, fun k hk => ?_, F.touch.trans t (fun x hx => .inr (F.new x hx)), touch_box t F.want F.n7, touch_box t F.box F.n9, F.body.kind t F.asm.kinds, fun h => ?_, fun h => ?_, F.l7⟩
  · rcases hs k hk with h | h
    · exact F.new k h
    · exact Nat.le_trans F.touch.size h
  · rcases hs _ h with h | h
    · exact F.n7 h
    · omega
  · rcases hs _ h with h | h
    · exact F.n9 h
    · omega
theorem FSt.cell {w wr : World} {a b7 b9 : Nat} {V9 : Value} {S : List Nat} {st : ASt} {wl : List Int} (F : FSt w wr a b7 b9 V9 S st wl) {j : Nat} (hj : j < wl.length) : wr.cell? ⟨b7, j, none⟩ = some (.int .u8 (wl.getD j 0)) ∧ wr.frozen? ⟨b7, j, none⟩ = false :=
  ⟨enc_cell F.want hj, box_frozen F.want j⟩
theorem info168 : (Try.prog.info? 48).map (fun i => (i.zero, i.size)) = some (some (.agg (encB (List.replicate 168 0)).toArray), 168) := by kernel_rfl
theorem zero168 (w : World) : (zeroValue 48).run Try.prog w = .ok (.agg (encB (List.replicate 168 0)).toArray) w := (zero_of_info info168).1 w
theorem size168 : (Try.prog.info? 48).map (·.size) = some 168 := (zero_of_info info168).2
theorem wpList_load_w {w : World} {ops : Array Oper} {rest : List Oper} {op : Oper} {a : Act} {Q : Exit → Act → World → Prop} (ty : TypeId) (x : Operand) (ho : op.op = .load ty x)
    (b : Nat) (hx : a.eval x = .pointer (some ⟨b, 0, none⟩)) (c : Array Value) (T : TypeId) (hb : w.heap[b]? = some (.cells c T (0, 0))) (d : TypeDesc) (hu : Try.prog.underlying ty = some d) (hd : d.isRow = true) (hi : (Try.prog.info? ty).map (·.size) = some c.size) (hw : Region.wanted op (yielded ops a.tmps) = true)
    (h : wpList Try.prog ops Q rest (a.put op.dst (.agg c)) w) : wpList Try.prog ops Q (op :: rest) a w :=
  wpList_step fun K hK => by
    rw [if_pos hw]
    exact wp_load_mid ty x ho b 0 hx c.toList d (range_all hb) hu hd (by simpa using hi) (hK _ _ h)
end Go.Proofs.Ytelfemhnijnhfaa.Fr
