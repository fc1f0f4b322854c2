/- Within, All: what they hand back; told; no condition. -/
import Derived.Test.YtmklkdhpbehfeaaZF
namespace Go.Proofs.Ytmklkdhpbehfeaa.Tri
open Go.RowKit Go.Maps Go.Shelf
set_option linter.unusedVariables false
attribute [local go_sem] Oper.semAt_some

def seqV (B : Nat) : Value := .func (.func 46) #[] #[.pointer (some ⟨B + 1, 0, none⟩), .pointer (some ⟨B, 0, none⟩)]
/-- An iterator over trie tb, inside a prefix. -/
structure SeqAt (w : World) (B tb a : Nat) (m : Int) : Prop where
  t : w.heap[B]? = some (.cells #[.pointer (some ⟨tb, 0, none⟩)] 25 (0, 0))
  p : w.heap[B + 1]? = some (.cells #[.int .u32 a, .int .i64 m] 32 (0, 0))
theorem SeqAt.lt {w : World} {B tb a : Nat} {m : Int} (h : SeqAt w B tb a m) : B + 1 < w.heap.size := (Array.getElem?_eq_some_iff.1 h.p).1
theorem SeqAt.kept {w w' : World} {B tb a : Nat} {m : Int} (h : SeqAt w B tb a m) {S : List Nat} (t : Touch S w w') (h1 : B ∉ S) (h2 : B + 1 ∉ S) : SeqAt w' B tb a m :=
  ⟨touch_box t h.t h1, touch_box t h.p h2⟩
def MakePost (w : World) (tb a : Nat) (m : Int) (e : Ending) (w' : World) : Prop := e = .returned (seqV w.heap.size) ∧ SeqAt w' w.heap.size tb a m ∧ Touch [] w w'
set_option maxHeartbeats 1000000 in
theorem within_calls (tb a : Nat) (m : Int) (w : World) :
    Calls Try.prog 25 #[.pointer (some ⟨tb, 0, none⟩), .agg #[.int .u32 a, .int .i64 m]] w (MakePost w tb a m) := by
  have hmf : ∀ (fn : Fn) (first cap : Array Value) (w : World), (Instr.makeFunc fn first cap).run Try.prog w = .ok (.func fn first cap) w := fun _ _ _ _ => rfl
  go_enter Try.func25, Try.ntmps25
  go_wp2
  go_ret
  exact ⟨rfl, ⟨box_keep _ (box_at w _), box_at' _ _ _ (by simp)⟩, ((Touch.refl [] w).alloc _).alloc _⟩
set_option maxHeartbeats 1000000 in
theorem all_calls (tb : Nat) (w : World) :
    Calls Try.prog 23 #[.pointer (some ⟨tb, 0, none⟩)] w (MakePost w tb 0 0) := by
  go_enter Try.func23, Try.ntmps23
  go_wp2_with fail
  refine (within_calls tb 0 0 w).mono ?_
  rintro e w1 ⟨rfl, h1, t1⟩
  have H1 := Lib.hid h1
  have T1 := Lib.hid t1
  clear h1 t1
  unfold seqV
  go_wp2
  go_ret
  exact ⟨rfl, H1.out, T1.out⟩

theorem run_equalIn_func_nil {P : Program} (w : World) (d : Nat) (t : TypeId) {a b : Array TypeId} {c : Bool} (f : Fn) (x y : Array Value) (h : P.underlying t = some (.func a b c)) : (Op.equalIn (d + 1) t (.func f x y) .nilFunc).run P w = .ok false w := by
  simp [Op.equalIn, run_underlying h]
theorem run_equal_func_nil {P : Program} (w : World) (t : TypeId) {a b : Array TypeId} {c : Bool} (f : Fn) (x y : Array Value) (h : P.underlying t = some (.func a b c)) : (Op.equal t (.func f x y) .nilFunc).run P w = .ok false w := run_equalIn_func_nil w 9999 t f x y h
theorem run_eql_func_nil {P : Program} (w : World) (t : TypeId) {a b : Array TypeId} {c : Bool} (f : Fn) (x y : Array Value) (h : P.underlying t = some (.func a b c)) : (binOp .eql t (.func f x y) .nilFunc).run P w = .ok (.bool false) w := by
  simp [binOp, run_equal_func_nil w t f x y h]
theorem seq_some (w : World) (f : Fn) (x y : Array Value) : (binOp .eql 43 (.func f x y) .nilFunc).run Try.prog w = .ok (.bool false) w := run_eql_func_nil w _ f x y Try.underlying43
/-! ### told -/
theorem info3 : (Try.prog.info? 3).map (fun i => (i.zero, i.size, i.bytes)) = some (some (.int .i64 0), 1, 8) := by kernel_rfl
def flatV (L : List Ent) : List Value := L.map fun e => .int .i64 e.2
structure ToldI (W0 : World) (B4 B5 : Nat) (L : List Ent) (W : World) : Prop where
  a : ∃ V, W.heap[B4]? = some (.cells #[V] 22 (0, 0)) ∧ VRow W 32 2 V L.length (flatP (L.map (·.1))) ∧ ∀ b, V.ownBlock = some b → W0.heap.size ≤ b
  b : ∃ V, W.heap[B5]? = some (.cells #[V] 38 (0, 0)) ∧ VRow W 3 1 V L.length (flatV L) ∧ ∀ b, V.ownBlock = some b → W0.heap.size ≤ b
  touch : Touch [B4, B5] W0 W
theorem ToldI.kept {W0 W W' : World} {B4 B5 : Nat} {L : List Ent} (h : ToldI W0 B4 B5 L W) {S : List Nat} (t : Touch S W W') (hs : ∀ b c e f, W.heap[b]? = some (.cells c e f) → b ∉ S) (hn : ∀ x ∈ S, W0.heap.size ≤ x) : ToldI W0 B4 B5 L W' := by
  obtain ⟨⟨V, a1, a2, a3⟩, ⟨U, b1, b2, b3⟩, tt⟩ := h
  refine ⟨⟨V, touch_box t a1 (hs _ _ _ _ a1), a2.kept t (fun k hk => ?_), a3⟩, ⟨U, touch_box t b1 (hs _ _ _ _ b1), b2.kept t (fun k hk => ?_), b3⟩, tt.trans t (fun x hx => .inr (hn x hx))⟩
  · obtain ⟨c, hc⟩ := a2.blk k hk; exact hs _ _ _ _ hc
  · obtain ⟨c, hc⟩ := b2.blk k hk; exact hs _ _ _ _ hc
theorem ToldI.own {W0 : World} {B4 B5 : Nat} : OwnFrom W0.heap.size (ToldI W0 B4 B5) := by
  intro s W W' row h hg hr
  have hr' : RowNo W W0.heap.size row := hr
  exact h.kept (touch_grown hg) (fun b c e f hb => hr'.cells hb) (fun x hx => (hr x (by simpa using hx)).1)
/-- A loop variable in a box. -/
def BoxX (W0 : World) (x : Ent) (f : Nat → Act) (a' : Act) (W : World) : Prop := ∃ Bx, W0.heap.size ≤ Bx ∧ W.heap[Bx]? = some (.cells #[.int .u32 x.1.a, .int .i64 x.1.n] 32 (0, 0)) ∧ a' = f Bx
theorem BoxX.own {W0 : World} (x : Ent) (f : Nat → Act) (a' : Act) : OwnFrom W0.heap.size (fun (_ : Unit) W => BoxX W0 x f a' W) := by
  rintro s W W' row ⟨Bx, h1, h2, h3⟩ hg hr
  have hr' : RowNo W W0.heap.size row := hr
  exact ⟨Bx, h1, touch_box (touch_grown hg) h2 (hr'.cells h2), h3⟩
def ToldPost (w : World) (L : List Ent) (e : Ending) (w' : World) : Prop :=
  ∃ A4 c4 A5 c5, e = .returned (.tuple #[.slice A4 L.length c4, .slice A5 L.length c5]) ∧ VRow w' 32 2 (.slice A4 L.length c4) L.length (flatP (L.map (·.1))) ∧ VRow w' 3 1 (.slice A5 L.length c5) L.length (flatV L) ∧ Touch [] w w'
theorem insideL_all {t : T} (h : Ok t) : insideL t 0 0 = ents t := by
  have ho : okP 0 0 := ⟨by decide, by refine ⟨by decide, by decide, ?_⟩; simp [maskOf]⟩
  unfold insideL
  rw [if_pos ho, (below_is t _ h ho.2).1, List.filter_eq_self]
  intro e he
  have := (ents_ok h e he).2.1
  have hi : ins e.1 ⟨0, (0 : Int).toNat⟩ := ⟨Nat.zero_le _, by show top e.1.a 0 = top 0 0; rw [top_zero this]; rfl⟩
  exact decide_eq_true hi
theorem told_close {W0 W w1 w3 : World} {B4 B5 c4 c4' c5 c5' : Nat} {A4 A4' A5 A5' : Option Addr} {L : List Ent} {x : Ent} (h4 : B4 < W0.heap.size) (h5 : B5 < W0.heap.size) (h45 : B4 ≠ B5)
    (a1 : W.heap[B4]? = some (.cells #[.slice A4 L.length c4] 22 (0, 0))) (a2 : VRow W 32 2 (.slice A4 L.length c4) L.length (flatP (L.map (·.1)))) (a3 : ∀ b, (Value.slice A4 L.length c4).ownBlock = some b → W0.heap.size ≤ b)
    (b1 : W.heap[B5]? = some (.cells #[.slice A5 L.length c5] 38 (0, 0))) (b2 : VRow W 3 1 (.slice A5 L.length c5) L.length (flatV L)) (b3 : ∀ b, (Value.slice A5 L.length c5).ownBlock = some b → W0.heap.size ≤ b) (tt : Touch [B4, B5] W0 W)
    (r1 : VRow w1 32 2 (.slice A4' (L.length + 1) c4') (L.length + 1) (flatP (L.map (·.1)) ++ [.int .u32 x.1.a, .int .i64 x.1.n])) (t1 : Touch (Value.slice A4 L.length c4).ownBlock.toList W w1) (o1 : (Value.slice A4' (L.length + 1) c4').ownBlock = (Value.slice A4 L.length c4).ownBlock ∨ ∃ b, (Value.slice A4' (L.length + 1) c4').ownBlock = some b ∧ W.heap.size ≤ b)
    (r2 : VRow w3 3 1 (.slice A5' (L.length + 1) c5') (L.length + 1) (flatV L ++ [.int .i64 x.2])) (t2 : Touch (Value.slice A5 L.length c5).ownBlock.toList (w1.setCell ⟨B4, 0, none⟩ (.slice A4' (L.length + 1) c4')) w3) (o2 : (Value.slice A5' (L.length + 1) c5').ownBlock = (Value.slice A5 L.length c5).ownBlock ∨ ∃ b, (Value.slice A5' (L.length + 1) c5').ownBlock = some b ∧ (w1.setCell ⟨B4, 0, none⟩ (.slice A4' (L.length + 1) c4')).heap.size ≤ b) :
    KeepsFrom W0.heap.size W (w3.setCell ⟨B5, 0, none⟩ (.slice A5' (L.length + 1) c5')) ∧ KeepT 96 W (w3.setCell ⟨B5, 0, none⟩ (.slice A5' (L.length + 1) c5')) ∧ ToldI W0 B4 B5 (L ++ [x]) (w3.setCell ⟨B5, 0, none⟩ (.slice A5' (L.length + 1) c5')) := by
  have n4 : B4 ∉ (Value.slice A4 L.length c4).ownBlock.toList := fun hx => by have := a3 _ (by simpa using hx); omega
  have n5 : B5 ∉ (Value.slice A4 L.length c4).ownBlock.toList := fun hx => by have := a3 _ (by simpa using hx); omega
  have m4 : B4 ∉ (Value.slice A5 L.length c5).ownBlock.toList := fun hx => by have := b3 _ (by simpa using hx); omega
  have m5 : B5 ∉ (Value.slice A5 L.length c5).ownBlock.toList := fun hx => by have := b3 _ (by simpa using hx); omega
  have tS : Touch [B4] w1 (w1.setCell ⟨B4, 0, none⟩ (.slice A4' (L.length + 1) c4')) := (Touch.refl [B4] w1).setCell _ _ (.inl (by simp))
  have own4 : ∀ b, (Value.slice A4' (L.length + 1) c4').ownBlock = some b → W0.heap.size ≤ b := fun b hb => by
    rcases o1 with o | ⟨b', o, hb'⟩
    · rw [o] at hb; exact a3 b hb
    · rw [o] at hb; cases hb; exact Nat.le_trans tt.size hb'
  have own5 : ∀ b, (Value.slice A5' (L.length + 1) c5').ownBlock = some b → W0.heap.size ≤ b := fun b hb => by
    rcases o2 with o | ⟨b', o, hb'⟩
    · rw [o] at hb; exact b3 b hb
    · rw [o] at hb; cases hb; exact Nat.le_trans tt.size (Nat.le_trans t1.size (Nat.le_trans tS.size hb'))
  have hX4 : (w1.setCell ⟨B4, 0, none⟩ (.slice A4' (L.length + 1) c4')).heap[B4]? = some (.cells #[.slice A4' (L.length + 1) c4'] 22 (0, 0)) := by
    simpa using box_set (o := 0) (touch_box t1 a1 n4) (.slice A4' (L.length + 1) c4')
  have tZ : Touch [B5] w3 (w3.setCell ⟨B5, 0, none⟩ (.slice A5' (L.length + 1) c5')) := (Touch.refl [B5] w3).setCell _ _ (.inl (by simp))
  have tA : Touch (B4 :: (Value.slice A4 L.length c4).ownBlock.toList) W (w1.setCell ⟨B4, 0, none⟩ (.slice A4' (L.length + 1) c4')) :=
    (t1.mono (fun y hy => .inl (List.mem_cons_of_mem _ hy))).setCell _ _ (.inl (by simp))
  have hTX : Touch (B4 :: B5 :: ((Value.slice A4 L.length c4).ownBlock.toList ++ (Value.slice A5 L.length c5).ownBlock.toList)) W (w3.setCell ⟨B5, 0, none⟩ (.slice A5' (L.length + 1) c5')) :=
    ((tA.mono (fun y hy => .inl (by simp at hy ⊢; rcases hy with h | h <;> simp [h]))).trans t2 (fun y hy => .inl (by simp at hy ⊢; simp [hy]))).setCell _ _ (.inl (by simp))
  have hall : ∀ y ∈ B4 :: B5 :: ((Value.slice A4 L.length c4).ownBlock.toList ++ (Value.slice A5 L.length c5).ownBlock.toList), (y = B4 ∨ y = B5 ∨ W0.heap.size ≤ y) ∧ ∃ c E f, W.heap[y]? = some (.cells c E f) ∧ E ≠ 96 := by
    intro y hy
    simp only [List.mem_cons, List.mem_append] at hy
    rcases hy with rfl | rfl | hy | hy
    · exact ⟨.inl rfl, _, _, _, a1, by decide⟩
    · exact ⟨.inr (.inl rfl), _, _, _, b1, by decide⟩
    · obtain ⟨cc, hcc⟩ := a2.blk y (by simpa using hy)
      exact ⟨.inr (.inr (a3 y (by simpa using hy))), _, _, _, hcc, by decide⟩
    · obtain ⟨cc, hcc⟩ := b2.blk y (by simpa using hy)
      exact ⟨.inr (.inr (b3 y (by simpa using hy))), _, _, _, hcc, by decide⟩
  refine ⟨keepsFrom_touch hTX (fun y hy => ?_), KeepT.touch hTX (fun y hy c f hc => ?_), ⟨⟨_, touch_box tZ (touch_box t2 hX4 m4) (by simp [h45]), ?_, own4⟩, ⟨_, by simpa using box_set (o := 0) (touch_box t2 (touch_box tS (touch_box t1 b1 n5) (by simp [Ne.symm h45])) m5) (.slice A5' (L.length + 1) c5'), ?_, own5⟩, ?_⟩⟩
  · obtain ⟨_, c, E, f, h, _⟩ := hall y hy
    exact ⟨c, E, f, h⟩
  · obtain ⟨_, c', E, f', h, hE⟩ := hall y hy
    rw [h] at hc
    cases hc
    exact hE rfl
  · have e1 : (L ++ [x]).length = L.length + 1 := by simp
    have e2 : flatP ((L ++ [x]).map (·.1)) = flatP (L.map (·.1)) ++ [.int .u32 x.1.a, .int .i64 x.1.n] := by rw [List.map_append, List.map_cons, List.map_nil, flatP_snoc]
    rw [e1, e2]
    refine ((r1.kept tS (fun k hk => by have := own4 k hk; simp; omega)).kept t2 (fun k hk hx => ?_)).kept tZ (fun k hk => by have := own4 k hk; simp; omega)
    -- the two rows lie in blocks of two types
    obtain ⟨cc, hcc⟩ := (r1.kept tS (fun k hk => by have := own4 k hk; simp; omega)).blk k hk
    obtain ⟨cd, hcd⟩ := ((b2.kept t1 (fun k hk hx => by obtain ⟨ce, hce⟩ := a2.blk k (by simpa using hx); obtain ⟨cf, hcf⟩ := b2.blk k hk; rw [hce] at hcf; cases hcf)).kept tS (fun k hk => by have := b3 k hk; simp; omega)).blk k (by simpa using hx)
    rw [hcc] at hcd
    cases hcd
  · have e1 : (L ++ [x]).length = L.length + 1 := by simp
    have e2 : flatV (L ++ [x]) = flatV L ++ [.int .i64 x.2] := by simp [flatV]
    rw [e1, e2]
    exact r2.kept tZ (fun k hk => by have := own5 k hk; simp; omega)
  · exact tt.trans hTX (fun y hy => by obtain ⟨h, _⟩ := hall y hy; rcases h with h | h | h <;> simp [h])
set_option maxRecDepth 100000 in
set_option maxHeartbeats 8000000 in
theorem told_calls {w : World} {tb : Nat} {t : T} {S : List Nat} {k : Nat} (h : TrieAt w tb t S k) (hk : k ≤ 400) :
    Calls Try.prog 21 #[.pointer (some ⟨tb, 0, none⟩)] w (ToldPost w (ents t)) := by
  have H := Lib.hid h
  have hlen := h.len
  have hLall := insideL_all h.ok
  clear h
  refine calls_marks Try.func21 rfl ?_
  simp only [Try.ntmps21, List.size_toArray, List.length_cons, List.length_nil, Nat.reduceAdd, Nat.reduceSub, Array.replicate_succ, Array.replicate_zero, List.push_toArray, List.append_toArray, List.nil_append, List.cons_append]
  go_wp2_with fail
  obtain ⟨W1, hW1⟩ : ∃ W1 : World, W1 = (w.alloc (.cells #[.slice none 0 0] 22)).alloc (.cells #[.slice none 0 0] 38) := ⟨_, rfl⟩
  have X4 := Lib.hid (show W1.heap[w.heap.size]? = some (.cells #[.slice none 0 0] 22 (0, 0)) by rw [hW1]; exact box_keep _ (box_at w _))
  have X5 := Lib.hid (show W1.heap[w.heap.size + 1]? = some (.cells #[.slice none 0 0] 38 (0, 0)) by rw [hW1]; exact box_at' _ _ _ (by simp))
  have T1 := Lib.hid (show Touch [] w W1 by rw [hW1]; exact ((Touch.refl [] w).alloc _).alloc _)
  have hs1 : W1.heap.size = w.heap.size + 1 + 1 := by rw [hW1]; simp
  rw [← hW1]
  clear hW1
  refine (all_calls tb W1).mono ?_
  rintro e W0 ⟨rfl, hsq, t1⟩
  have HSQ := Lib.hid hsq
  have T0 := Lib.hid (T1.out.trans t1 (by simp))
  have Y4 := Lib.hid (touch_box t1 X4.out (by simp))
  have Y5 := Lib.hid (touch_box t1 X5.out (by simp))
  have hs0 := hsq.lt
  rw [hs1]
  rw [hs1] at HSQ hs0
  clear hsq t1 X4 X5 T1 hs1
  unfold seqV
  have hnil := seq_some W0 (.func 46) #[] #[.pointer (some ⟨w.heap.size + 1 + 1 + 1, 0, none⟩), .pointer (some ⟨w.heap.size + 1 + 1, 0, none⟩)]
  go_wp2_with fail
  clear hnil
  have hst := within_stops (n := 8) (H.out.kept T0.out (by simp)) (by omega) 0 0 (by decide) (w.heap.size + 1 + 1) (w.heap.size + 1 + 1 + 1) HSQ.out.t HSQ.out.p
  rw [hLall] at hst
  refine wp_range (gf := 46) (lb := #[.pointer (some ⟨w.heap.size + 1 + 1 + 1, 0, none⟩), .pointer (some ⟨w.heap.size + 1 + 1, 0, none⟩)]) (by rfl) (enters_of Try.func46 (by kernel_rfl) rfl)
    hst (fun h k => h.trans k) (fun W l o o' _ h1 h2 _ => KeepT.put W l o o' h1 h2) (fun _ => rfl)
    (ToldI W0 w.heap.size (w.heap.size + 1)) (fun _ _ _ => False) ToldI.own (fun _ _ _ _ _ hs _ _ => hs)
    ⟨⟨_, Y4.out, VRow.nil _ _ _, by simp [Value.ownBlock]⟩, ⟨_, Y5.out, VRow.nil _ _ _, by simp [Value.ownBlock]⟩, Touch.refl _ _⟩
    (fun x => BoxX W0 x (fun Bx => { tmps := #[.pointer (some ⟨tb, 0, none⟩), undef, .slice none 0 0, .slice none 0 0, .pointer (some ⟨w.heap.size, 0, none⟩), .pointer (some ⟨w.heap.size + 1, 0, none⟩), .func (.func 46) #[] #[.pointer (some ⟨w.heap.size + 1 + 1 + 1, 0, none⟩), .pointer (some ⟨w.heap.size + 1 + 1, 0, none⟩)], .pointer (some ⟨Bx, 0, none⟩), .int .i64 x.2, .pointer (some ⟨tb, 0, none⟩), .func (.func 46) #[] #[.pointer (some ⟨w.heap.size + 1 + 1 + 1, 0, none⟩), .pointer (some ⟨w.heap.size + 1 + 1, 0, none⟩)], .func (.func 46) #[] #[.pointer (some ⟨w.heap.size + 1 + 1 + 1, 0, none⟩), .pointer (some ⟨w.heap.size + 1 + 1, 0, none⟩)], .bool false, .func (.func 46) #[] #[.pointer (some ⟨w.heap.size + 1 + 1 + 1, 0, none⟩), .pointer (some ⟨w.heap.size + 1 + 1, 0, none⟩)], .agg #[.int .u32 x.1.a, .int .i64 x.1.n], .int .i64 x.2, undef, undef, undef, undef, undef, undef, undef, undef, undef, undef, undef, undef, undef], defers := [] })) (fun x a' => BoxX.own x _ a') ?assign ?body ?done ?stop
  case assign =>
    intro l pre x W K hI hK
    simp only [encE]
    gi_wp2
    refine hK _ _ (keepsFrom_touch (S := []) ((Touch.refl [] W).alloc _) (by simp)) (KeepT.touch (S := []) ((Touch.refl [] W).alloc _) (by simp)) (hI.kept (S := []) ((Touch.refl [] W).alloc _) (by simp) (by simp)) ⟨W.heap.size, hI.touch.size, box_at W _, rfl⟩
  case body =>
    rintro l pre x a' W hl ⟨r, hr⟩ hI ⟨Bx, hBx, hx, rfl⟩ hlen
    obtain ⟨⟨V, a1, a2, a3⟩, ⟨U, b1, b2, b3⟩, tt⟩ := hI
    obtain ⟨A4, c4, rfl⟩ := a2.form
    obtain ⟨A5, c5, rfl⟩ := b2.form
    obtain ⟨p4, f4⟩ := one_cells a1
    obtain ⟨p5, f5⟩ := one_cells b1
    obtain ⟨x0, x1, _⟩ := two_cells hx
    have A1 := Lib.hid a1
    have A2 := Lib.hid a2
    have A3 := Lib.hid a3
    have B1 := Lib.hid b1
    have B2 := Lib.hid b2
    have B3 := Lib.hid b3
    have TT := Lib.hid tt
    have hb4 : (pre.length : Int) + 1 ≤ 400 := by omega
    have n4 : w.heap.size ∉ (Value.slice A4 pre.length c4).ownBlock.toList := fun hx => by have := a3 _ (by simpa using hx); omega
    have n5 : w.heap.size + 1 ∉ (Value.slice A4 pre.length c4).ownBlock.toList := fun hx => by have := a3 _ (by simpa using hx); omega
    have m4 : w.heap.size ∉ (Value.slice A5 pre.length c5).ownBlock.toList := fun hx => by have := b3 _ (by simpa using hx); omega
    have m5 : w.heap.size + 1 ∉ (Value.slice A5 pre.length c5).ownBlock.toList := fun hx => by have := b3 _ (by simpa using hx); omega
    have hdis : ∀ k, (Value.slice A5 pre.length c5).ownBlock = some k → k ∉ (Value.slice A4 pre.length c4).ownBlock.toList := fun k hk hx => by
      obtain ⟨ce, hce⟩ := a2.blk k (by simpa using hx)
      obtain ⟨cf, hcf⟩ := b2.blk k hk
      rw [hce] at hcf
      cases hcf
    have hdis2 : ∀ k, (Value.slice A5 pre.length c5).ownBlock = some k → k ∉ [w.heap.size] := fun k hk => by have := b3 k hk; simp; omega
    have HD := Lib.hid hdis
    have HD2 := Lib.hid hdis2
    clear a1 a2 a3 b1 b2 b3 tt hx hdis hdis2 hl hr
    gi_wp2_with (first
      | (gi_at_builtin; refine listIn_append_vr (by rfl) (.tmp 16) (.tmp 18) 22 32 2 16 _ Try.underlying22 (by rfl) info32 rfl (by decide) (by decide) _ _ _ 1 #[.int .u32 x.1.a, .int .i64 x.1.n] (by rfl) A2.out (by rfl) (by rfl) (by simp [Value.oneCell']) (by omega) ?_
         intro A4' c4' w1 r1 t1 o1
         have p4b := cell_touch t1 p4 n4
         have f4b := frozen_touch t1 p4 f4 n4
         have p5b := cell_touch t1 p5 n5
         have f5b := frozen_touch t1 p5 f5 n5
         have tS : Touch [w.heap.size] w1 (w1.setCell ⟨w.heap.size, 0, none⟩ (.slice A4' (pre.length + 1) c4')) := (Touch.refl _ w1).setCell _ _ (.inl (by simp))
         have p5c := cell_touch tS p5b (by simp)
         have f5c := frozen_touch tS p5b f5b (by simp)
         have p4c := (one_cells (box_set (o := 0) (touch_box t1 A1.out n4) (.slice A4' (pre.length + 1) c4'))).1
         have B2c := Lib.hid ((B2.out.kept t1 HD.out).kept tS HD2.out)
         have R1 := Lib.hid r1
         have T1' := Lib.hid t1
         have O1 := Lib.hid o1
         clear r1 t1 o1 tS)
      | (gi_at_builtin; refine listIn_append_vr (by rfl) (.tmp 20) (.tmp 22) 38 3 1 8 _ Try.underlying38 (by rfl) info3 rfl (by decide) (by decide) _ _ _ 1 #[.int .i64 x.2] (by rfl) B2c.out (by first | rfl | (rw [World.size_setCell]; rfl) | (simp only [World.size_setCell]; rfl)) (by rfl) (by simp [Value.oneCell']) (by omega) ?_
         intro A5' c5' w3 r2 t2 o2
         have p4d := cell_touch t2 p4c m4
         have p5d := cell_touch t2 p5c m5
         have f5d := frozen_touch t2 p5c f5c m5
         have R2 := Lib.hid r2
         have T2' := Lib.hid t2
         have O2 := Lib.hid o2
         clear r2 t2 o2))
    exact told_close (by omega) (by omega) (by omega) A1.out A2.out A3.out B1.out B2.out B3.out TT.out R1.out T1'.out O1.out R2.out T2'.out O2.out
  case done =>
    rintro D ys W hD rfl ⟨⟨V, a1, a2, a3⟩, ⟨U, b1, b2, b3⟩, tt⟩ hK
    obtain ⟨A4, c4, rfl⟩ := a2.form
    obtain ⟨A5, c5, rfl⟩ := b2.form
    obtain ⟨p4, f4⟩ := one_cells a1
    obtain ⟨p5, f5⟩ := one_cells b1
    have A2 := Lib.hid a2
    have B2 := Lib.hid b2
    have TT := Lib.hid tt
    have HK := Lib.hid hK
    clear a1 a2 a3 b1 b2 b3 tt hK
    go_wp2
    go_quiet (fail)
    go_wp2
    have hK' : (W.drewN nq).heap[D]? = some (.deferred (some [])) := HK.out
    refine ⟨by simp, .inl ⟨_, _, rfl, run_takeDeferred hK', ?_⟩⟩
    have tN : Touch [] W (W.drewN nq) := (Touch.refl [] W).drewN nq
    have tD : Touch [D] (W.drewN nq) ((W.drewN nq).putObj D (.deferred none)) := touch_grown (grownBy_putObj' (W.drewN nq) D (.deferred none))
    refine ⟨_, results_tmp2 rfl _ _ _, A4, c4, A5, c5, rfl, (A2.out.kept tN (by simp)).kept tD (fun b hb hx => ?_), (B2.out.kept tN (by simp)).kept tD (fun b hb hx => ?_), ?_⟩
    · obtain ⟨cc, hcc⟩ := A2.out.blk b hb
      simp at hx
      subst hx
      rw [HK.out] at hcc
      cases hcc
    · obtain ⟨cc, hcc⟩ := B2.out.blk b hb
      simp at hx
      subst hx
      rw [HK.out] at hcc
      cases hcc
    · exact ((T0.out.trans TT.out (fun x hx => .inr (by simp at hx; omega))).trans tN (by simp)).trans tD (fun x hx => .inr (by have := T0.out.size; simp at hx; omega))
  case stop =>
    rintro D c pre W _ _ h _
    exact h.elim
end Go.Proofs.Ytmklkdhpbehfeaa.Tri
