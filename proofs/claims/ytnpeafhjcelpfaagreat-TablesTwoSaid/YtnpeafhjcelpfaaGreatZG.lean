/- Within, All: what they hand back; no condition. -/
import Derived.Test.YtnpeafhjcelpfaaGreatZF
namespace Go.Proofs.YtnpeafhjcelpfaaGreat.Tri
open Go.RowKit Go.Maps Go.Shelf
set_option linter.unusedVariables false
attribute [local go_sem] Oper.semAt_some

def seqV (B : Nat) : Value := .func (.func 92) #[] #[.pointer (some ⟨B + 1, 0, none⟩), .pointer (some ⟨B, 0, none⟩)]
/-- An iterator over trie tb, inside a prefix. -/
structure SeqAt (w : World) (B tb a : Nat) (m : Int) : Prop where
  t : w.heap[B]? = some (.cells #[.pointer (some ⟨tb, 0, none⟩)] 88 (0, 0))
  p : w.heap[B + 1]? = some (.cells #[.int .u32 a, .int .i64 m] 47 (0, 0))
theorem SeqAt.lt {w : World} {B tb a : Nat} {m : Int} (h : SeqAt w B tb a m) : B + 1 < w.heap.size := (Array.getElem?_eq_some_iff.1 h.p).1
theorem SeqAt.kept {w w' : World} {B tb a : Nat} {m : Int} (h : SeqAt w B tb a m) {S : List Nat} (t : Touch S w w') (h1 : B ∉ S) (h2 : B + 1 ∉ S) : SeqAt w' B tb a m :=
  ⟨touch_box t h.t h1, touch_box t h.p h2⟩
def MakePost (w : World) (tb a : Nat) (m : Int) (e : Ending) (w' : World) : Prop := e = .returned (seqV w.heap.size) ∧ SeqAt w' w.heap.size tb a m ∧ Touch [] w w'
set_option maxHeartbeats 1000000 in
theorem within_calls (tb a : Nat) (m : Int) (w : World) :
    Calls Tryz.prog 80 #[.pointer (some ⟨tb, 0, none⟩), .agg #[.int .u32 a, .int .i64 m]] w (MakePost w tb a m) := by
  have hmf : ∀ (fn : Fn) (first cap : Array Value) (w : World), (Instr.makeFunc fn first cap).run Tryz.prog w = .ok (.func fn first cap) w := fun _ _ _ _ => rfl
  go_enter Tryz.func80, Tryz.ntmps80
  go_wp2
  go_ret
  exact ⟨rfl, ⟨box_keep _ (box_at w _), box_at' _ _ _ (by simp)⟩, ((Touch.refl [] w).alloc _).alloc _⟩
set_option maxHeartbeats 1000000 in
theorem all_calls (tb : Nat) (w : World) :
    Calls Tryz.prog 53 #[.pointer (some ⟨tb, 0, none⟩)] w (MakePost w tb 0 0) := by
  go_enter Tryz.func53, Tryz.ntmps53
  go_wp2_with fail
  refine (within_calls tb 0 0 w).mono ?_
  rintro e w1 ⟨rfl, h1, t1⟩
  have H1 := Lib.hid h1
  have T1 := Lib.hid t1
  clear h1 t1
  unfold seqV
  go_wp2
  go_ret
  exact ⟨rfl, H1.out, T1.out⟩

theorem run_equalIn_func_nil {P : Program} (w : World) (d : Nat) (t : TypeId) {a b : Array TypeId} {c : Bool} (f : Fn) (x y : Array Value) (h : P.underlying t = some (.func a b c)) : (Op.equalIn (d + 1) t (.func f x y) .nilFunc).run P w = .ok false w := by
  simp [Op.equalIn, run_underlying h]
theorem run_equal_func_nil {P : Program} (w : World) (t : TypeId) {a b : Array TypeId} {c : Bool} (f : Fn) (x y : Array Value) (h : P.underlying t = some (.func a b c)) : (Op.equal t (.func f x y) .nilFunc).run P w = .ok false w := run_equalIn_func_nil w 9999 t f x y h
theorem run_eql_func_nil {P : Program} (w : World) (t : TypeId) {a b : Array TypeId} {c : Bool} (f : Fn) (x y : Array Value) (h : P.underlying t = some (.func a b c)) : (binOp .eql t (.func f x y) .nilFunc).run P w = .ok (.bool false) w := by
  simp [binOp, run_equal_func_nil w t f x y h]
theorem seq_some (w : World) (f : Fn) (x y : Array Value) : (binOp .eql 107 (.func f x y) .nilFunc).run Tryz.prog w = .ok (.bool false) w := run_eql_func_nil w _ f x y Tryz.underlying107
/-! ### told -/
end Go.Proofs.YtnpeafhjcelpfaaGreat.Tri
