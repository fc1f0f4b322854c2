/- The book of TimerMemory: views that stay while rows of their own grow; no condition. -/
import Derived.Test.YtjnhldcgemcjbaaUnt
namespace Go.Proofs.Ytjnhldcgemcjbaa.Tm
open Go.RowKit Go.Maps
set_option linter.unusedVariables false

theorem Vw.blk {w : World} {V : Value} {l : List Int} (h : Vw w V l) (h0 : 0 < l.length) : ∃ g cur, V.ownBlock = some g ∧ w.heap[g]? = some (.cells cur 3 (0, 0)) := by
  obtain ⟨A, c, rfl, h1⟩ := h
  obtain ⟨g, cur, rfl, hg, _⟩ := h1 h0
  exact ⟨g, cur, rfl, hg⟩
theorem Vw.not {w : World} {V : Value} {l : List Int} (h : Vw w V l) (h0 : 0 < l.length) {k : Nat} {c : Array Value} {e : TypeId} {f : Nat × Nat} (hk : w.heap[k]? = some (.cells c e f)) (he : e ≠ 3) : V.ownBlock ≠ some k := by
  obtain ⟨g, cur, hv, hg⟩ := h.blk h0
  intro hx
  rw [hv] at hx; injection hx with hx; subst hx
  rw [hg] at hk
  simp only [Option.some.injEq, Obj.cells.injEq] at hk
  exact he hk.2.1.symm
theorem Vw.no_tim {w : World} {V : Value} {l : List Int} (h : Vw w V l) {tb : Nat} {S : List Nat} {lim : Int} {s : St} (hT : Tim w tb S lim s) (h0 : 0 < l.length) : ∀ k, V.ownBlock = some k → k ∉ S := by
  intro k hk hS
  obtain ⟨⟨V1, mb, h1, rfl⟩, _⟩ := hT
  simp [foot] at hS
  rcases hS with rfl | rfl | hS
  · exact h.not h0 h1.blk (by decide) hk
  · obtain ⟨g, cur, hv, hg⟩ := h.blk h0
    rw [hv] at hk; injection hk with hk; subst hk
    obtain ⟨es, clock, hm⟩ := h1.map.isMap
    rw [hm] at hg; cases hg
  · rcases h1.row.2 with ⟨rfl, _⟩ | ⟨g', cap', cur', rfl, _, hg', _⟩
    · cases hS
    · simp [Value.ownBlock] at hS; subst hS
      exact h.not h0 hg' (by decide) hk
theorem Vw.nil {w : World} {V : Value} {l : List Int} (h : Vw w V l) (h0 : ¬ 0 < l.length) {w' : World} : Vw w' V l := by
  obtain ⟨A, c, rfl, _⟩ := h
  exact ⟨A, c, rfl, fun h1 => absurd h1 h0⟩
theorem Vw.touch {w w' : World} {V : Value} {l : List Int} (h : Vw w V l) {U : Value} {e : TypeId} {sz n : Nat} {xs : List Value} (hr : VRow w e sz U n xs) (he : e ≠ 3) (t : Touch U.ownBlock.toList w w') : Vw w' V l := by
  refine h.kept t (fun h0 k hk hx => ?_)
  simp at hx
  obtain ⟨c, hc⟩ := hr.blk k hx
  exact h.not h0 hc he hk

set_option maxHeartbeats 400000 in
theorem sameV_calls {w : World} {V1 V2 : Value} {l : List Int} (h1 : Vw w V1 l) (h2 : Vw w V2 l) (hlen : l.length ≤ 9223372036854775807) :
    Calls Try.prog 17 #[V1, V2] w fun e w' => e = .returned (.bool true) ∧ Touch [] w w' := by
  obtain ⟨A1, c1, rfl⟩ := h1.form
  obtain ⟨A2, c2, rfl⟩ := h2.form
  have e0 : ((l.length : Int) != (l.length : Int)) = false := by simp
  have H1 := Lib.hid h1
  have H2 := Lib.hid h2
  clear h1 h2
  go_enter Try.func17, Try.ntmps17
  go_wp2
  go_loopw [5] (fun v5 wr => ∃ k : Nat, v5 = .int .i64 k ∧ k ≤ l.length ∧ Hid (Touch [] w wr)) (fun v5 _ => l.length - (intOf v5).toNat)
  case atStart => exact ⟨0, rfl, by omega, Lib.hid (Touch.refl _ _)⟩
  case round =>
    obtain ⟨k, rfl, hk, hT⟩ := hrel
    by_cases hlt : k < l.length
    · have q1 := H1.out.kept hT.out (by simp)
      have q2 := H2.out.kept hT.out (by simp)
      obtain ⟨g1, cap1, hV, _, hm1⟩ := q1.at_ (by omega)
      injection hV with hA _ hC
      subst hA hC
      obtain ⟨g2, cap2, hV2, _, hm2⟩ := q2.at_ (by omega)
      injection hV2 with hA2 _ hC2
      subst hA2 hC2
      obtain ⟨x, hx⟩ : ∃ x, l[k]? = some x := ⟨_, List.getElem?_eq_getElem hlt⟩
      obtain ⟨m1, _⟩ := hm1 k x hx
      obtain ⟨m2, _⟩ := hm2 k x hx
      have n1 := fun u : Near wr => u.cell m1
      have n2 := fun u : Near wr => u.cell m2
      have b1 : (k : Int) < (l.length : Int) := by omega
      have e1 : (x != x) = false := by simp
      clear hx q1 q2 hm1 hm2
      go_wp2
      refine wp_region_near (by kernel_rfl) (by kernel_rfl) ?_
      repeat (go_big_quiet_step (fail))
      refine wpQuiet_nil ?_
      rintro _ ⟨u, rfl⟩
      have tu := hT.out.trans u.near (by simp)
      have TU := Lib.hid tu
      clear tu n1 n2
      go_wp2
      go_roundw
      case rel => exact ⟨k + 1, by go_num, by omega, TU⟩
      case measure => simp [intOf]; omega
    · have b1 : ¬ (k : Int) < (l.length : Int) := by omega
      go_wp2
      go_ret
      exact ⟨rfl, hT.out⟩

abbrev Bn := Value × Value × List Int
def bcells (B : List Bn) : List Value := B.flatMap fun b => [b.1, b.2.1]
theorem bcells_snoc (B : List Bn) (L W : Value) (l : List Int) : bcells (B ++ [(L, W, l)]) = bcells B ++ [L, W] := by simp [bcells]
theorem bcells_get (B : List Bn) : ∀ (i : Nat) (b : Bn), B[i]? = some b → (bcells B)[i * 2]? = some b.1 ∧ (bcells B)[i * 2 + 1]? = some b.2.1 := by
  induction B with
  | nil => intro i b h; simp at h
  | cons q B ih =>
    intro i b h
    have e : bcells (q :: B) = q.1 :: q.2.1 :: bcells B := by simp [bcells]
    rw [e]
    cases i with
    | zero => simp at h; subst h; simp
    | succ i =>
      simp at h
      obtain ⟨h1, h2⟩ := ih i b h
      rw [show (i + 1) * 2 = i * 2 + 1 + 1 by omega]
      exact ⟨by simpa using h1, by simpa using h2⟩
/-- The book: lists, and what they must be. -/
structure Book (w0 wr : World) (v9 : Value) (B : List Bn) : Prop where
  row : VRow wr 42 2 v9 B.length (bcells B)
  ent : ∀ b ∈ B, Vw wr b.1 b.2.2 ∧ Vw wr b.2.1 b.2.2
  new : ∀ b, v9.ownBlock = some b → w0.heap.size ≤ b
  len : ∀ b ∈ B, b.2.2.length ≤ 80000
theorem Book.start (w0 wr : World) : Book w0 wr (.slice none 0 0) [] := ⟨VRow.nil _ _ _, by simp, by simp [Value.ownBlock], by simp⟩
theorem Book.tim {w0 wr w' : World} {v9 : Value} {B : List Bn} (h : Book w0 wr v9 B) {tb : Nat} {S : List Nat} {lim : Int} {s : St} (hT : Tim wr tb S lim s) (t : Touch S wr w') : Book w0 w' v9 B :=
  ⟨h.row.kept t (h.row.no_tim (by decide) (by decide) hT), fun b hb => ⟨(h.ent b hb).1.kept t (fun h0 => (h.ent b hb).1.no_tim hT h0), (h.ent b hb).2.kept t (fun h0 => (h.ent b hb).2.no_tim hT h0)⟩, h.new, h.len⟩
theorem Book.near {w0 wr w' : World} {v9 : Value} {B : List Bn} (h : Book w0 wr v9 B) (t : Touch [] wr w') : Book w0 w' v9 B :=
  ⟨h.row.kept t (by simp), fun b hb => ⟨(h.ent b hb).1.kept t (by simp), (h.ent b hb).2.kept t (by simp)⟩, h.new, h.len⟩
theorem Book.at_ {w0 wr : World} {A : Option Addr} {c : Nat} {B : List Bn} (h : Book w0 wr (.slice A B.length c) B) {i : Nat} (hi : i < B.length) :
    ∃ g L W l, A = some ⟨g, 0, none⟩ ∧ wr.cell? ⟨g, i * 2, none⟩ = some L ∧ wr.cell? ⟨g, i * 2 + 1, none⟩ = some W ∧ Vw wr L l ∧ Vw wr W l ∧ l.length ≤ 80000 := by
  obtain ⟨⟨L, W, l⟩, hx⟩ : ∃ x, B[i]? = some x := ⟨_, List.getElem?_eq_getElem hi⟩
  obtain ⟨g, c', hV, _, hm⟩ := h.row.at_ (by omega)
  simp only [Value.slice.injEq] at hV
  obtain ⟨h1, h2⟩ := bcells_get B i _ hx
  have he := h.ent _ (List.mem_of_getElem? hx)
  exact ⟨g, L, W, l, hV.1, hm _ _ h1, hm _ _ h2, he.1, he.2, h.len _ (List.mem_of_getElem? hx)⟩

/-- The book in the midst of a round: rows from block z on grow, none that grows is shorter than m. -/
structure Mem (w0 wr : World) (tb : Nat) (S : List Nat) (s : St) (z m : Nat) (v9 : Value) (B : List Bn) (Y : List En) : Prop where
  tim : Tim wr tb S 65536 s
  book : Book w0 wr v9 B
  old : ∀ b ∈ B, b.2.2.length ≤ m ∨ ∀ k, (b.1.ownBlock = some k ∨ b.2.1.ownBlock = some k) → k < z
  ys : ∀ y ∈ Y, Vw wr y.1 y.2 ∧ y.2.length ≤ m
  top : Touch [] w0 wr
  lo : w0.heap.size ≤ z
  hi : z ≤ wr.heap.size
theorem Mem.up {w0 wr w' : World} {tb : Nat} {S : List Nat} {s : St} {z m : Nat} {v9 : Value} {B : List Bn} {Y : List En} (h : Mem w0 wr tb S s z m v9 B Y) {V : Value} {l : List Int} (r : IRow wr z V l) (t : Touch V.ownBlock.toList wr w') : Touch [] w0 w' :=
  h.top.trans t (fun x hx => .inr (by simp at hx; have := (r.block x hx).1; have := h.lo; omega))
theorem Mem.start {w0 wr w' : World} {v9 : Value} {B : List Bn} (h : Book w0 wr v9 B) {tb : Nat} {S : List Nat} {s s' : St} (hT : Tim wr tb S 65536 s) (t : Touch S wr w') (hT' : Tim w' tb S 65536 s') (h0 : Touch [] w0 wr) (h1 : Touch [] w0 w') : Mem w0 w' tb S s' wr.heap.size 0 v9 B [] := by
  refine ⟨hT', h.tim hT t, fun b hb => ?_, by simp, h1, h0.size, t.size⟩
  rcases Nat.eq_zero_or_pos b.2.2.length with h0 | h0
  · exact .inl (by omega)
  · refine .inr (fun k hk => ?_)
    rcases hk with hk | hk
    · exact (h.ent b hb).1.lt h0 k hk
    · exact (h.ent b hb).2.lt h0 k hk
theorem Mem.near {w0 wr w' : World} {tb : Nat} {S : List Nat} {s : St} {z m : Nat} {v9 : Value} {B : List Bn} {Y : List En} (h : Mem w0 wr tb S s z m v9 B Y) (t : Touch [] wr w') : Mem w0 w' tb S s z m v9 B Y :=
  ⟨h.tim.kept t (by simp), h.book.near t, h.old, fun y hy => ⟨(h.ys y hy).1.kept t (by simp), (h.ys y hy).2⟩, h.top.trans t (by simp), h.lo, Nat.le_trans h.hi t.size⟩
theorem Mem.grow {w0 wr w' : World} {tb : Nat} {S : List Nat} {s : St} {z m : Nat} {v9 : Value} {B : List Bn} {Y : List En} (h : Mem w0 wr tb S s z m v9 B Y) {V : Value} {l : List Int} (k : Kept V l.length wr w') (r : IRow wr z V l) (hm : m ≤ l.length) : Mem w0 w' tb S s z m v9 B Y := by
  have hv : ∀ (L : Value) (u : List Int), Vw wr L u → (u.length ≤ m ∨ ∀ k, L.ownBlock = some k → k < z) → Vw w' L u := by
    intro L u hL ho
    by_cases h0 : 0 < u.length
    · refine hL.grown k (fun e => ?_)
      rcases ho with ho | ho
      · omega
      · obtain ⟨g, cur, hg, _⟩ := hL.blk h0
        have := ho g hg
        have := (r.block g (by rw [← e]; exact hg)).1
        omega
    · exact hL.nil h0
  refine ⟨h.tim.kept k.1 (fun b hb hx => ?_), ⟨h.book.row.kept k.1 (fun b hb hx => ?_), fun b hb => ⟨hv _ _ (h.book.ent b hb).1 ?_, hv _ _ (h.book.ent b hb).2 ?_⟩, h.book.new, h.book.len⟩, h.old, fun y hy => ⟨hv _ _ (h.ys y hy).1 (.inl (h.ys y hy).2), (h.ys y hy).2⟩, h.up r k.1, h.lo, Nat.le_trans h.hi k.1.size⟩
  · simp at hx; exact r.no_tim h.tim b hx hb
  · simp at hx
    obtain ⟨c, hc⟩ := h.book.row.blk b hb
    exact r.not hc (by decide) hx
  · rcases h.old b hb with h1 | h1
    · exact .inl h1
    · exact .inr fun k hk => h1 k (.inl hk)
  · rcases h.old b hb with h1 | h1
    · exact .inl h1
    · exact .inr fun k hk => h1 k (.inr hk)
/-- What lies from block z on is written while nothing of it is kept. -/
theorem Mem.store {w0 wr w' : World} {tb : Nat} {S : List Nat} {s : St} {z : Nat} {v9 : Value} {B : List Bn} (h : Mem w0 wr tb S s z 0 v9 B []) {V : Value} {l : List Int} (r : IRow wr z V l) (t : Touch V.ownBlock.toList wr w') : Mem w0 w' tb S s z 0 v9 B [] := by
  have hv : ∀ (L : Value) (u : List Int), Vw wr L u → (u.length ≤ 0 ∨ ∀ k, L.ownBlock = some k → k < z) → Vw w' L u := by
    intro L u hL ho
    refine hL.kept t (fun h0 k hk hx => ?_)
    simp at hx
    rcases ho with ho | ho
    · omega
    · have := ho k hk
      have := (r.block k hx).1
      omega
  refine ⟨h.tim.kept t (fun b hb hx => ?_), ⟨h.book.row.kept t (fun b hb hx => ?_), fun b hb => ⟨hv _ _ (h.book.ent b hb).1 ?_, hv _ _ (h.book.ent b hb).2 ?_⟩, h.book.new, h.book.len⟩, h.old, by simp, h.up r t, h.lo, Nat.le_trans h.hi t.size⟩
  · simp at hx; exact r.no_tim h.tim b hx hb
  · simp at hx
    obtain ⟨c, hc⟩ := h.book.row.blk b hb
    exact r.not hc (by decide) hx
  · rcases h.old b hb with h1 | h1
    · exact .inl h1
    · exact .inr fun k hk => h1 k (.inl hk)
  · rcases h.old b hb with h1 | h1
    · exact .inl h1
    · exact .inr fun k hk => h1 k (.inr hk)
/-- One view more. -/
theorem Mem.view {w0 wr : World} {tb : Nat} {S : List Nat} {s : St} {z m : Nat} {v9 : Value} {B : List Bn} {Y : List En} (h : Mem w0 wr tb S s z m v9 B Y) {V : Value} {l : List Int} (hV : Vw wr V l) (m' : Nat) (hm : m ≤ m') (hl : l.length ≤ m') : Mem w0 wr tb S s z m' v9 B ((V, l) :: Y) := by
  refine ⟨h.tim, h.book, fun b hb => ?_, fun y hy => ?_, h.top, h.lo, h.hi⟩
  · rcases h.old b hb with h1 | h1
    · exact .inl (by omega)
    · exact .inr h1
  · rcases List.mem_cons.1 hy with rfl | hy
    · exact ⟨hV, hl⟩
    · exact ⟨(h.ys y hy).1, by have := (h.ys y hy).2; omega⟩
/-- One entry more. -/
theorem Mem.push {w0 wr w' : World} {tb : Nat} {S : List Nat} {s : St} {z m : Nat} {v9 v9' : Value} {B : List Bn} {Y : List En} (h : Mem w0 wr tb S s z m v9 B Y) {L W : Value} {l : List Int}
    (q : VRow w' 42 2 v9' (B.length + 1) (bcells B ++ [L, W])) (t : Touch v9.ownBlock.toList wr w') (o : v9'.ownBlock = v9.ownBlock ∨ ∃ b, v9'.ownBlock = some b ∧ wr.heap.size ≤ b)
    (h1 : (L, l) ∈ Y) (h2 : (W, l) ∈ Y) (h8 : l.length ≤ 80000) : Mem w0 w' tb S s z m v9' (B ++ [(L, W, l)]) Y := by
  have hv : ∀ (U : Value) (u : List Int), Vw wr U u → Vw w' U u := fun U u hU => hU.touch h.book.row (by decide) t
  refine ⟨h.tim.kept t (fun b hb hx => ?_), ⟨by rw [bcells_snoc]; simpa using q, fun b hb => ?_, fun b hb => ?_, fun b hb => ?_⟩, fun b hb => ?_, fun y hy => ⟨hv _ _ (h.ys y hy).1, (h.ys y hy).2⟩, h.top.trans t (fun x hx => .inr (h.book.new x (by simpa using hx))), h.lo, Nat.le_trans h.hi t.size⟩
  · simp at hx; exact h.book.row.no_tim (by decide) (by decide) h.tim b hx hb
  · rcases List.mem_append.1 hb with h3 | h3
    · exact ⟨hv _ _ (h.book.ent b h3).1, hv _ _ (h.book.ent b h3).2⟩
    · simp at h3; subst h3
      exact ⟨hv _ _ (h.ys _ h1).1, hv _ _ (h.ys _ h2).1⟩
  · rcases o with o | ⟨b', o, hb'⟩
    · rw [o] at hb; exact h.book.new b hb
    · rw [o] at hb; cases hb; have := h.lo; have := h.hi; omega
  · rcases List.mem_append.1 hb with h3 | h3
    · exact h.book.len b h3
    · simp at h3; subst h3; exact h8
  · rcases List.mem_append.1 hb with h3 | h3
    · exact h.old b h3
    · simp at h3; subst h3
      exact .inl (h.ys _ h1).2
theorem Mem.more {w0 wr w' : World} {tb : Nat} {S : List Nat} {s : St} {z m : Nat} {v9 v9' : Value} {B : List Bn} {Y : List En} (h : Mem w0 wr tb S s z m v9 B Y) (L W : Value) (l : List Int)
    (q : VRow w' 42 2 v9' (B.length + 1) (bcells B ++ [L, W])) (t : Touch v9.ownBlock.toList wr w') (o : v9'.ownBlock = v9.ownBlock ∨ ∃ b, v9'.ownBlock = some b ∧ wr.heap.size ≤ b)
    (h1 : (L, l) ∈ Y) (h2 : (W, l) ∈ Y) (h8 : l.length ≤ 80000) : ∃ B', B'.length = B.length + 1 ∧ Mem w0 w' tb S s z m v9' B' Y :=
  ⟨_, by simp, h.push q t o h1 h2 h8⟩
/-- A row of ints and the book's own row. -/
theorem Mem.row_kept {w0 wr w' : World} {tb : Nat} {S : List Nat} {s : St} {z m : Nat} {v9 : Value} {B : List Bn} {Y : List En} (h : Mem w0 wr tb S s z m v9 B Y) (t : Touch v9.ownBlock.toList wr w') {V : Value} {l : List Int} {base : Nat} (r : IRow wr base V l) : IRow w' base V l :=
  r.kept t (r.off h.book.row (by decide))
/-- append(row, ps..), where the new block's number is spelled otherwise. -/
theorem wpList_append_vh {W : World} {ops : Array Oper} {rest : List Oper} {o : Oper} {a : Act} {Q : Exit → Act → World → Prop} (hgd : o.guard = none) (s x : Operand)
    (ho : o.op = .call { callee := .builtin .append, args := #[s, x], argTypes := #[37, 37] }) (H : Nat) (hH : W.heap.size = H)
    (base : Nat) (V : Value) (l : List Int) (ps : List Int) (hs : a.eval s = V) (hr : IRow W base V l) (hbase : base ≤ W.heap.size) (hx : a.eval x = .slice (some ⟨H, 0, none⟩) ps.length ps.length) (hl : l.length + ps.length < 8796093022208)
    (h : ∀ A' c' w', IRow w' base (.slice A' (l.length + ps.length) c') (l ++ ps) → Kept V l.length W w' → ((Value.slice A' (l.length + ps.length) c').ownBlock = V.ownBlock ∨ ∃ b, (Value.slice A' (l.length + ps.length) c').ownBlock = some b ∧ W.heap.size ≤ b) → wpList Try.prog ops Q rest (a.put o.dst (.slice A' (l.length + ps.length) c')) w') :
    wpList Try.prog ops Q (o :: rest) a (W.alloc (.cells (ints ps).toArray 3)) := by
  subst hH
  exact wpList_append_vs hgd s x ho base V l ps hs hr hbase hx hl h
theorem IRow.base_le {w : World} {base base' : Nat} {V : Value} {l : List Int} (h : IRow w base V l) (hb : base' ≤ base) : IRow w base' V l := by
  refine ⟨h.1, ?_⟩
  rcases h.2 with h2 | ⟨g, cap, cur, hv, hbb, r⟩
  · exact .inl h2
  · exact .inr ⟨g, cap, cur, hv, Nat.le_trans hb hbb, r⟩
theorem IRow.by {w w' : World} {base n : Nat} {V V0 : Value} {l : List Int} (h : IRow w base V0 l) (k : Kept V n w w') (ha : ∀ b, V0.ownBlock = some b → V.ownBlock ≠ some b) : IRow w' base V0 l :=
  h.kept k.1 (fun b hb hx => ha b hb (by simpa using hx))
theorem IRow.addr {w : World} {base n c : Nat} {A : Option Addr} {l : List Int} (h : IRow w base (.slice A n c) l) (h0 : 0 < n) : ∃ g, A = some ⟨g, 0, none⟩ := by
  rcases h.2 with ⟨e1, _⟩ | ⟨g', cap, cur, e1, _⟩
  · simp at e1; omega
  · simp only [Value.slice.injEq] at e1
    exact ⟨g', e1.1⟩
theorem marks_get (La : List Int) (i : Nat) (m x : Int) (hx : La[i]? = some x) : (List.replicate i m ++ La.drop i)[i]? = some x := by
  rw [List.getElem?_append_right (by simp)]
  simp [List.getElem?_drop, hx]
theorem marks_set (La : List Int) (i : Nat) (m : Int) (hi : i < La.length) : (List.replicate i m ++ La.drop i).set i m = List.replicate (i + 1) m ++ La.drop (i + 1) := by
  rw [List.set_append, if_neg (by simp), List.replicate_succ', List.append_assoc]
  have : List.drop i La = La[i] :: List.drop (i + 1) La := List.drop_eq_getElem_cons hi
  rw [this]
  simp only [List.length_replicate, Nat.sub_self, List.set_cons_zero, List.singleton_append]
theorem marks_len (La : List Int) (i : Nat) (m : Int) (hi : i ≤ La.length) : La.length = (List.replicate i m ++ La.drop i).length := by
  simp; omega
end Go.Proofs.Ytjnhldcgemcjbaa.Tm
