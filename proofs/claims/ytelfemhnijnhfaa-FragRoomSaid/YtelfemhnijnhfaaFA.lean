/- Worlds that grow; rows; lists of bytes; no condition. -/
import Derived.Test.YtelfemhnijnhfaaProg
import Derived.WalkKit
import Derived.KernelRfl
import Derived.Below
import Derived.Outline
import Derived.Lib.Hide
import Derived.RegionTactic
import Derived.BigRegion
import Derived.ChangeAlike
import Derived.BigQuiet
import Derived.Deep.QuietTactic
import Derived.Deep.Draws
import Derived.Deep.RegionHeld3
import Derived.Deep.RegionLaw
import Derived.Deep.LoopGhost
import Derived.Deep.Cut
import Derived.Deep.CutRange
import Derived.StillTailTactics
import Derived.StillTactics
import Derived.Maps.OwnSet
import Derived.Maps.AppendAt
import Derived.OwnWalk
import Derived.Laws.CopyOwn
import Derived.Laws.OwnMore
import Derived.Laws.BitsLemmas
import Derived.Laws.BitsAllLaws
import Derived.WalkLawsBesides
import Derived.Deep.AppendLies
namespace Go.Proofs.Ytelfemhnijnhfaa.Fr
open Go.RowKit Go.Maps
set_option linter.unusedVariables false

/-- w' is w but for the blocks of S and new ones. -/
structure Touch (S : List Nat) (w w' : World) : Prop where
  os : w'.os = w.os
  tape : w'.tape = w.tape
  output : w'.output = w.output
  size : w.heap.size ≤ w'.heap.size
  block : ∀ k, k < w.heap.size → k ∉ S → w'.heap[k]? = w.heap[k]?

theorem Touch.refl (S : List Nat) (w : World) : Touch S w w := ⟨rfl, rfl, rfl, Nat.le_refl _, fun _ _ _ => rfl⟩
/-- Two steps: the second may also touch what is new behind the first. -/
theorem Touch.trans {S S' : List Nat} {a b c : World} (h : Touch S a b) (k : Touch S' b c) (hs : ∀ x, x ∈ S' → x ∈ S ∨ a.heap.size ≤ x) : Touch S a c :=
  ⟨k.os.trans h.os, k.tape.trans h.tape, k.output.trans h.output, Nat.le_trans h.size k.size, fun i hi hn =>
    (k.block i (Nat.lt_of_lt_of_le hi h.size) (fun hx => by rcases hs i hx with h1 | h1; exact hn h1; omega)).trans (h.block i hi hn)⟩
theorem Touch.mono {S S' : List Nat} {a b : World} (h : Touch S a b) (hs : ∀ x, x ∈ S → x ∈ S' ∨ a.heap.size ≤ x) : Touch S' a b :=
  (Touch.refl S' a).trans h hs
theorem Touch.drewN {S : List Nat} {a b : World} (h : Touch S a b) (n : Nat) : Touch S a (b.drewN n) := ⟨h.os, h.tape, h.output, h.size, h.block⟩
theorem Touch.drew {S : List Nat} {a b : World} (h : Touch S a b) : Touch S a b.drew := ⟨h.os, h.tape, h.output, h.size, h.block⟩
theorem Touch.alloc {S : List Nat} {a b : World} (h : Touch S a b) (o : Obj) : Touch S a (b.alloc o) :=
  ⟨h.os, h.tape, h.output, by simp; have := h.size; omega, fun k hk hn => (Below.heap_alloc b o k (Nat.lt_of_lt_of_le hk h.size)).trans (h.block k hk hn)⟩
theorem Touch.setCell {S : List Nat} {a b : World} (h : Touch S a b) (p : Addr) (v : Value) (hp : p.block ∈ S ∨ a.heap.size ≤ p.block) : Touch S a (b.setCell p v) :=
  ⟨h.os, h.tape, h.output, by simp [h.size], fun k hk hn => (Below.heap_setCell b p v k (fun e => by subst e; rcases hp with h1 | h1; exact hn h1; omega)).trans (h.block k hk hn)⟩
theorem Touch.grown {S : List Nat} {a b c : World} {row : Option Nat} (h : Touch S a b) (g : b.grownBy c row) (hr : ∀ k, row = some k → k ∈ S ∨ a.heap.size ≤ k) : Touch S a c :=
  h.trans (S' := row.toList) ⟨g.os, g.tape, g.output, g.size, fun k hk hn => g.block k hk (fun e => hn (by rw [← e]; simp))⟩ (fun x hx => hr x (by simpa using hx))
theorem Touch.below {a b : World} (h : Touch [] a b) : Below a.heap.size a b := ⟨h.os, h.tape, h.output, h.size, fun k hk => h.block k hk (by simp)⟩
theorem Touch.of_below {a b : World} (h : Below a.heap.size a b) : Touch [] a b := ⟨h.os, h.tape, h.output, h.size, fun k hk _ => h.block k hk⟩
theorem Touch.grownBy {S : List Nat} {a b : World} (h : Touch S a b) {row : Option Nat} (hr : ∀ k, k ∈ S → some k = row) : a.grownBy b row :=
  ⟨h.os, h.tape, h.output, h.size, fun k hk hn => h.block k hk (fun hx => hn (hr k hx))⟩

/-- A world that is w but for new blocks: for regions that read, and call what makes memory of its own. -/
structure Near (w0 : World) where
  w : World
  near : Touch [] w0 w
instance near_any (w0 : World) : Nonempty (Near w0) := ⟨⟨w0, Touch.refl _ _⟩⟩
theorem Near.cell {w0 : World} (u : Near w0) {a : Addr} {v : Value} (h : w0.cell? a = some v) : u.w.cell? a = some v :=
  (World.cell?_of_block (w := w0) (u.near.block a.block (World.block_lt_of_cell? w0 a h) (by simp))).trans h
theorem wp_region_near {P : Program} {id : Nat} {Q : Exit → Act → World → Prop} {a : Act} {w : World} {l : List Oper} (hm : P.follows .mixedOrders = true) (hB : Region.lexB .any l.toArray = true)
    (h : wpQuiet P l.toArray (fun w' => ∃ u : Near w, w' = u.w) (fun a' => ∀ w', (∃ u : Near w, w' = u.w) → Q .normal a' w') l a) : (Code.region id l.toArray true).wp P Q a w :=
  wp_region_quiet (C := fun w' => ∃ u : Near w, w' = u.w) hm hB ⟨⟨w.drew, (Touch.refl [] w).drew⟩, rfl⟩ (by simpa using h)
theorem near_call {P : Program} {f : FuncId} {args : Array Value} {w0 : World} (u : Near w0) {v : Value}
    (h : Calls P f args u.w fun e w' => e = .returned v ∧ Touch [] u.w w') : Calls P f args u.w fun e w' => e = .returned v ∧ ∃ x : Near w0, w' = x.w :=
  h.mono fun _ w' ⟨he, ht⟩ => ⟨he, ⟨w', u.near.trans ht (by simp)⟩, rfl⟩

theorem cell_touch {w w' : World} {S : List Nat} (t : Touch S w w') {a : Addr} {v : Value} (h : w.cell? a = some v) (hn : a.block ∉ S) : w'.cell? a = some v :=
  (World.cell?_of_block (w := w) (t.block a.block (World.block_lt_of_cell? w a h) hn)).trans h
theorem box_at (w : World) (o : Obj) : (w.alloc o).heap[w.heap.size]? = some o := heap_alloc_new w o
theorem box_keep {w : World} {k : Nat} {x : Obj} (o : Obj) (h : w.heap[k]? = some x) : (w.alloc o).heap[k]? = some x :=
  (Below.heap_alloc w o k (Array.getElem?_eq_some_iff.1 h).1).trans h
theorem box_at' (w : World) (o : Obj) (n : Nat) (h : w.heap.size = n) : (w.alloc o).heap[n]? = some o := by subst h; exact box_at w o
theorem touch_box {w w' : World} {S : List Nat} (t : Touch S w w') {k : Nat} {x : Obj} (h : w.heap[k]? = some x) (hn : k ∉ S) : w'.heap[k]? = some x :=
  (t.block k (Array.getElem?_eq_some_iff.1 h).1 hn).trans h
theorem two_cells {w : World} {k : Nat} {x y : Value} {T : TypeId} (h : w.heap[k]? = some (.cells #[x, y] T (0, 0))) :
    w.cell? ⟨k, 0, none⟩ = some x ∧ w.cell? ⟨k, 1, none⟩ = some y ∧ w.frozen? ⟨k, 0, none⟩ = false ∧ w.frozen? ⟨k, 1, none⟩ = false := by
  simp [World.cell?, World.frozen?, h]
theorem box_set {w : World} {k o : Nat} {c : Array Value} {T : TypeId} {f : Nat × Nat} (h : w.heap[k]? = some (.cells c T f)) (v : Value) :
    (w.setCell ⟨k, o, none⟩ v).heap[k]? = some (.cells (c.setIfInBounds o v) T f) := by
  simp [World.setCell, Array.getElem?_modify, h]
theorem box_other {w : World} {k : Nat} {x : Obj} (p : Addr) (v : Value) (h : w.heap[k]? = some x) (hn : k ≠ p.block) : (w.setCell p v).heap[k]? = some x :=
  (Below.heap_setCell w p v k hn).trans h
theorem two_set {w : World} {k : Nat} {x y : Value} {T : TypeId} (h : w.heap[k]? = some (.cells #[x, y] T (0, 0))) (u v : Value) :
    (w.setCell ⟨k, 0, none⟩ u).cell? ⟨k, 0, none⟩ = some u ∧ ((w.setCell ⟨k, 0, none⟩ u).setCell ⟨k, 1, none⟩ v).cell? ⟨k, 1, none⟩ = some v := by
  have h1 := box_set (o := 0) h u
  have h2 := box_set (o := 1) h1 v
  exact ⟨by simp [World.cell?, h1], by simp [World.cell?, h2]⟩
theorem ret_int {k : IntKind} {a b : Int} (h : a = b) : Ending.returned (.int k a) = .returned (.int k b) := by rw [h]

theorem frozen_touch {w w' : World} {S : List Nat} (t : Touch S w w') {b o : Nat} {v : Value} (h : w.cell? ⟨b, o, none⟩ = some v) (hf : w.frozen? ⟨b, o, none⟩ = false) (hn : b ∉ S) : w'.frozen? ⟨b, o, none⟩ = false := by
  have hb := t.block b (World.block_lt_of_cell? w ⟨b, o, none⟩ h) hn
  simp only [World.frozen?] at hf ⊢
  rw [hb]; exact hf
theorem one_cells {w : World} {b : Nat} {x : Value} {T : TypeId} (h : w.heap[b]? = some (.cells #[x] T (0, 0))) : w.cell? ⟨b, 0, none⟩ = some x ∧ w.frozen? ⟨b, 0, none⟩ = false := by
  constructor <;> simp [World.cell?, World.frozen?, h]
/-! ### rows of other things -/
structure VRow (w : World) (e : TypeId) (sz : Nat) (V : Value) (n : Nat) (xs : List Value) : Prop where
  own : w.ownsRow 0 e sz V n xs
theorem VRow.nil (w : World) (e : TypeId) (sz : Nat) : VRow w e sz (.slice none 0 0) 0 [] := ⟨World.ownsRow_nil w 0 e sz⟩
theorem VRow.form {w : World} {e : TypeId} {sz : Nat} {V : Value} {n : Nat} {xs : List Value} (h : VRow w e sz V n xs) : ∃ A cap, V = .slice A n cap := by
  rcases h.own.2 with ⟨rfl, hn⟩ | ⟨g, cap, cur, rfl, _⟩
  · exact ⟨none, 0, by rw [hn]⟩
  · exact ⟨_, cap, rfl⟩
theorem VRow.kept {w w' : World} {e : TypeId} {sz : Nat} {V : Value} {n : Nat} {xs : List Value} (h : VRow w e sz V n xs) {S : List Nat} (t : Touch S w w') (hn : ∀ k, V.ownBlock = some k → k ∉ S) : VRow w' e sz V n xs := by
  refine ⟨h.own.1, ?_⟩
  rcases h.own.2 with h2 | ⟨g, cap, cur, hv, hg, hh, r⟩
  · exact .inl h2
  · refine .inr ⟨g, cap, cur, hv, hg, ?_, r⟩
    rw [t.block g (Array.getElem?_eq_some_iff.1 hh).1 (hn g (by subst hv; rfl))]
    exact hh
theorem VRow.lt {w : World} {e : TypeId} {sz : Nat} {V : Value} {n : Nat} {xs : List Value} (h : VRow w e sz V n xs) : ∀ k, V.ownBlock = some k → k < w.heap.size := fun k hk => (World.ownsRow.lt h.own k hk).2
theorem VRow.blk {w : World} {e : TypeId} {sz : Nat} {V : Value} {n : Nat} {xs : List Value} (h : VRow w e sz V n xs) : ∀ k, V.ownBlock = some k → ∃ c, w.heap[k]? = some (.cells c e (0, 0)) := by
  intro k hk
  rcases h.own.2 with ⟨rfl, _⟩ | ⟨g, cap, cur, rfl, _, hg, _⟩
  · cases hk
  · simp [Value.ownBlock] at hk; subst hk; exact ⟨cur, hg⟩
theorem VRow.at_ {w : World} {e : TypeId} {sz : Nat} {V : Value} {n : Nat} {xs : List Value} (h : VRow w e sz V n xs) (h0 : 0 < n) : ∃ g c, V = .slice (some ⟨g, 0, none⟩) n c ∧ g < w.heap.size ∧ ∀ (i : Nat) (x : Value), xs[i]? = some x → w.cell? ⟨g, i, none⟩ = some x := by
  rcases h.own.2 with ⟨rfl, hn⟩ | ⟨g, cap, cur, rfl, _, hg, _⟩
  · omega
  · refine ⟨g, cap, rfl, (Array.getElem?_eq_some_iff.1 hg).1, fun i x hx => ?_⟩
    have hi : i < xs.length := (List.getElem?_eq_some_iff.1 hx).1
    exact (World.ownsRow.cellAt h.own i (by rw [h.own.1] at hi; exact hi)).trans hx
theorem wpList_append_vr {W : World} {ops : Array Oper} {rest : List Oper} {o : Oper} {a : Act} {Q : Exit → Act → World → Prop} (hgd : o.guard = none) (s x : Operand) (t e : TypeId) (sz bytes : Nat) (z : Value) (hu : Try.prog.underlying t = some (.slice e))
    (ho : o.op = .call { callee := .builtin .append, args := #[s, x], argTypes := #[t, t] })
    (hinfo : (Try.prog.info? e).map (fun i => (i.zero, i.size, i.bytes)) = some (some z, sz, bytes)) (hzs : z.cells.size = sz) (hsz : 0 < sz) (hby : bytes ≤ 128)
    (V : Value) (n : Nat) (xs : List Value) (m : Nat) (cs : Array Value) (hs : a.eval s = V) (hr : VRow W e sz V n xs) (hx : a.eval x = .slice (some ⟨W.heap.size, 0, none⟩) m m) (hl : cs.toList.length = m * sz) (h1 : ∀ u ∈ cs.toList, u.oneCell' = true) (hn : n + m < 1099511627776)
    (h : ∀ A' c' w', VRow w' e sz (.slice A' (n + m) c') (n + m) (xs ++ cs.toList) → Touch V.ownBlock.toList W w' → ((Value.slice A' (n + m) c').ownBlock = V.ownBlock ∨ ∃ b, (Value.slice A' (n + m) c').ownBlock = some b ∧ W.heap.size ≤ b) → wpList Try.prog ops Q rest (a.put o.dst (.slice A' (n + m) c')) w') :
    wpList Try.prog ops Q (o :: rest) a (W.alloc (.cells cs e)) := by
  obtain ⟨i0, hi, hz⟩ := Option.map_eq_some_iff.1 hinfo
  simp only [Prod.mk.injEq] at hz
  obtain ⟨hz0, hz1, hz2⟩ := hz
  have hb : (n + m) * bytes ≤ 140737488355328 := by
    have : (n + m) * bytes ≤ 1099511627776 * 128 := Nat.mul_le_mul (by omega) hby
    omega
  refine wpList_append_own_at (P := Try.prog) _ hgd s x t ho 0 e i0 _ sz bytes hu hi hz0 hz1 hz2 hzs hsz V n xs hs (World.ownsRow.alloc hr.own _) ⟨W.heap.size, 0, none⟩ m m cs.toList hx hl
    (World.news_of_block (cs := cs) (t := e) (fr := (0, 0)) (heap_alloc_new W _)) h1 (by unfold maxLen; omega) hb (Nat.zero_le _) ?_
  intro V' w' hown hg _ hat
  have hr' : VRow w' e sz V' (n + m) (xs ++ cs.toList) := ⟨hown⟩
  obtain ⟨A', c', hV⟩ := hr'.form
  subst hV
  refine h A' c' w' hr' ?_ ?_
  · have g2 := (World.grownBy_alloc W (.cells cs e) V.ownBlock).trans hg
    exact ((Touch.refl V.ownBlock.toList W).grown g2 (fun k hk => .inl (by simp [hk])))
  · rcases hat with h1 | h1
    · exact .inl h1
    · exact .inr ⟨_, h1, by simp⟩


/-! ### bytes -/
def encB (l : List Int) : List Value := l.map (Value.int .u8)
theorem encB_length (l : List Int) : (encB l).length = l.length := List.length_map _
theorem encB_get {l : List Int} {i : Nat} {x : Int} (h : l[i]? = some x) : (encB l)[i]? = some (.int .u8 x) := by simp [encB, h]
theorem encB_append (l m : List Int) : encB (l ++ m) = encB l ++ encB m := List.map_append
theorem encB_one (l : List Int) : ∀ u ∈ encB l, u.oneCell' = true := by
  intro u hu
  obtain ⟨x, _, rfl⟩ := List.mem_map.1 hu
  rfl
def okB (l : List Int) : Prop := ∀ x ∈ l, 0 ≤ x ∧ x < 256
/-- A list of bytes that can be read. -/
structure RdB (w : World) (V : Value) (l : List Int) : Prop where
  form : ∃ A cap, V = .slice A l.length cap ∧ l.length ≤ cap ∧ (A = none → cap = 0) ∧ (0 < l.length → ∃ b off, A = some ⟨b, off, none⟩ ∧ b < w.heap.size ∧ ∀ (i : Nat) (x : Int), l[i]? = some x → w.cell? ⟨b, off + i, none⟩ = some (.int .u8 x))
  wf : okB l
theorem RdB.kept {w w' : World} {V : Value} {l : List Int} (h : RdB w V l) {S : List Nat} (t : Touch S w w') (hn : ∀ (n cap b off : Nat), V = .slice (some ⟨b, off, none⟩) n cap → b ∉ S) : RdB w' V l := by
  obtain ⟨⟨A, cap, hV, hc, hn0, hr⟩, wf⟩ := h
  refine ⟨⟨A, cap, hV, hc, hn0, fun h0 => ?_⟩, wf⟩
  obtain ⟨b, off, hA, hb, hx⟩ := hr h0
  exact ⟨b, off, hA, Nat.lt_of_lt_of_le hb t.size, fun i x hi => cell_touch t (hx i x hi) (hn l.length cap b off (by rw [hV, hA]))⟩
theorem RdB.near {w w' : World} {V : Value} {l : List Int} (h : RdB w V l) (t : Touch [] w w') : RdB w' V l := h.kept t (by simp)
theorem RdB.nil (w : World) : RdB w (.slice none 0 0) [] := ⟨⟨none, 0, rfl, Nat.le_refl _, fun _ => rfl, by simp⟩, by simp [okB]⟩
theorem VRow.rdb {w : World} {V : Value} {l : List Int} {e : TypeId} (h : VRow w e 1 V l.length (encB l)) (hl : okB l) : RdB w V l := by
  rcases h.own.2 with ⟨rfl, hn⟩ | ⟨g, cap, cur, rfl, _, hg, hnc, _⟩
  · refine ⟨⟨none, 0, by rw [hn], by omega, fun _ => rfl, fun h0 => by omega⟩, hl⟩
  · refine ⟨⟨_, cap, rfl, hnc, fun e => by (cases e), fun h0 => ⟨g, 0, rfl, (Array.getElem?_eq_some_iff.1 hg).1, fun i x hx => ?_⟩⟩, hl⟩
    have hi := (List.getElem?_eq_some_iff.1 hx).1
    rw [Nat.zero_add]
    exact (World.ownsRow.cellAt h.own i (by omega)).trans (encB_get hx)
/-- The row is new behind w. -/
def Fresh (n : Nat) (V : Value) : Prop := ∀ b, V.ownBlock = some b → n ≤ b
theorem Fresh.mono {n m : Nat} {V : Value} (h : Fresh n V) (hm : m ≤ n) : Fresh m V := fun b hb => Nat.le_trans hm (h b hb)
theorem touch_grown {w w' : World} {row : Option Nat} (g : w.grownBy w' row) : Touch row.toList w w' :=
  (Touch.refl _ w).grown g (fun k hk => .inl (by simp [hk]))
theorem infoB : (Try.prog.info? 5).map (fun i => (i.zero, i.size, i.bytes)) = some (some (.int .u8 0), 1, 1) := by kernel_rfl
theorem nilB (w : World) (A : Option Addr) (n c : Nat) : (binOp .eql 26 (.slice A n c) (.slice none 0 0)).run Try.prog w = .ok (.bool A.isNone) w :=
  Lib.run_eql_slice_nil w 26 5 A n c 0 0 Try.underlying26
end Go.Proofs.Ytelfemhnijnhfaa.Fr
