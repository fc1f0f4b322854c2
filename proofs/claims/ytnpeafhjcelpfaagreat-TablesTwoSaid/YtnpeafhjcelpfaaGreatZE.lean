/- now: what has a value inside a prefix, as a list; no condition. -/
import Derived.Test.YtnpeafhjcelpfaaGreatZD
namespace Go.Proofs.YtnpeafhjcelpfaaGreat.Tri
open Go.RowKit Go.Maps Go.Shelf
set_option linter.unusedVariables false
attribute [local go_sem] Oper.semAt_some

def flatE (l : List Ent) : List Value := l.flatMap fun e => [.int .u32 e.1.a, .int .i64 e.1.n, .int .u32 e.1.a, .int .i64 e.1.n, .int .u32 (rV e.2), .bool (rL e.2)]
theorem flatE_snoc (l : List Ent) (e : Ent) : flatE (l ++ [e]) = flatE l ++ [.int .u32 e.1.a, .int .i64 e.1.n, .int .u32 e.1.a, .int .i64 e.1.n, .int .u32 (rV e.2), .bool (rL e.2)] := by simp [flatE]
theorem flatE_cons (e : Ent) (l : List Ent) : flatE (e :: l) = [.int .u32 e.1.a, .int .i64 e.1.n, .int .u32 e.1.a, .int .i64 e.1.n, .int .u32 (rV e.2), .bool (rL e.2)] ++ flatE l := by simp [flatE]
theorem flatE_get : ∀ (l : List Ent) (i : Nat) (e : Ent), l[i]? = some e → ∀ c, c < 6 → (flatE l)[i * 6 + c]? = [.int .u32 e.1.a, .int .i64 e.1.n, .int .u32 e.1.a, .int .i64 e.1.n, .int .u32 (rV e.2), .bool (rL e.2)][c]?
  | [], i, e, h, _, _ => by simp at h
  | q :: l, 0, e, h, c, hc => by
    simp at h
    subst h
    rw [flatE_cons, Nat.zero_mul, Nat.zero_add, List.getElem?_append_left (by simpa using hc)]
  | q :: l, i + 1, e, h, c, hc => by
    have := flatE_get l i e (by simpa using h) c hc
    rw [flatE_cons, List.getElem?_append_right (by simp; omega), ← this]
    congr 1
    simp
    omega
theorem info96 : (Tryz.prog.info? 163).map (fun i => (i.zero, i.size, i.bytes)) = some (some (.agg #[.int .u32 0, .int .i64 0, .int .u32 0, .int .i64 0, .int .u32 0, .bool false]), 6, 40) := by kernel_rfl
def NowPost (w : World) (L : List Ent) (e : Ending) (w' : World) : Prop :=
  ∃ A c, e = .returned (.slice A L.length c) ∧ VRow w' 163 6 (.slice A L.length c) L.length (flatE L) ∧ Touch [] w w' ∧ ∀ b, (Value.slice A L.length c).ownBlock = some b → w.heap.size ≤ b
def RowNo (W : World) (B : Nat) (row : Option Nat) : Prop := ∀ r, row = some r → B ≤ r ∧ ∃ o : Obj, W.heap[r]? = some o ∧ o.isCells = false
theorem RowNo.cells {W : World} {B : Nat} {row : Option Nat} (h : RowNo W B row) {b : Nat} {c : Array Value} {e : TypeId} {f : Nat × Nat} (hb : W.heap[b]? = some (.cells c e f)) : b ∉ row.toList := by
  intro hx
  obtain ⟨_, o, ho, hc⟩ := h b (by simpa using hx)
  rw [hb] at ho
  cases ho
  cases hc
theorem bare_less : ∀ {t : T}, Ok t → t ≠ .nil → (bare t).length + 1 ≤ (ents t).length
  | .nil, _, hn => absurd rfl hn
  | .node p v l r, h, _ => by
    obtain ⟨h1, h2, h3, h4, h5, h6⟩ := h
    have a : l ≠ .nil → (bare l).length + 1 ≤ (ents l).length := fun hn => bare_less h5 hn
    have b : r ≠ .nil → (bare r).length + 1 ≤ (ents r).length := fun hn => bare_less h6 hn
    have a0 : (bare l).length ≤ (ents l).length := by
      cases l with
      | nil => simp [bare]
      | node => have := a (by simp); omega
    have b0 : (bare r).length ≤ (ents r).length := by
      cases r with
      | nil => simp [bare]
      | node => have := b (by simp); omega
    cases v with
    | none =>
      have a1 := a (h2 rfl).1
      have b1 := b (h2 rfl).2
      simp only [bare, ents, bareOwn, own, List.length_append, List.length_cons, List.length_nil]
      omega
    | some v =>
      simp only [bare, ents, bareOwn, own, List.length_append, List.length_cons, List.length_nil]
      omega
theorem tsize_two {t : T} (h : Ok t) : tsize t ≤ 2 * (ents t).length := by
  have := nodes_count t
  cases t with
  | nil => simp [tsize]
  | node => have := bare_less h (by simp); omega
theorem own_len {w0 : World} : ∀ l : List (NodeAt w0), (l.flatMap NodeAt.own).length ≤ l.length
  | [] => Nat.le_refl _
  | x :: l => by
    have := own_len l
    have h : x.own.length ≤ 1 := by unfold NodeAt.own; cases x.u <;> simp [Tri.own]
    simp only [List.flatMap_cons, List.length_append, List.length_cons]
    omega
/-- Between two rounds of now. -/
structure NowI (W0 : World) (B : Nat) (L : List Ent) (W : World) : Prop where
  at_ : ∃ V, W.heap[B]? = some (.cells #[V] 160 (0, 0)) ∧ VRow W 163 6 V L.length (flatE L) ∧ ∀ b, V.ownBlock = some b → W0.heap.size ≤ b
  touch : Touch [B] W0 W
theorem NowI.own {α : Type} {W0 : World} {B : Nat} (f : List α → List Ent) : OwnFrom W0.heap.size (fun pre W => NowI W0 B (f pre) W) := by
  intro s W W' row ⟨⟨V, h1, h2, h3⟩, h4⟩ hg hr
  have hr' : RowNo W W0.heap.size row := hr
  refine ⟨⟨V, touch_box (touch_grown hg) h1 (hr'.cells h1), h2.kept (touch_grown hg) (fun k hk => ?_), h3⟩, h4.trans (touch_grown hg) (fun x hx => .inr (hr x (by simpa using hx)).1)⟩
  obtain ⟨c, hc⟩ := h2.blk k hk
  exact hr'.cells hc
theorem touch_belowN {n₀ : Nat} {S : List Nat} {W W' : World} (t : Touch S W W') (hn : n₀ ≤ W.heap.size) (hs : ∀ x ∈ S, n₀ ≤ x) : Below n₀ W W' :=
  ⟨t.os, t.tape, t.output, t.size, fun k hk => t.block k (by omega) (fun h => by have := hs k h; omega)⟩
theorem now_close {W0 W w' : World} {B c c' : Nat} {A A' : Option Addr} {L : List Ent} {e : Ent} (hB : W.heap[B]? = some (.cells #[.slice A L.length c] 160 (0, 0))) (hV : VRow W 163 6 (.slice A L.length c) L.length (flatE L)) (hVb : ∀ b, (Value.slice A L.length c).ownBlock = some b → W0.heap.size ≤ b) (tW : Touch [B] W0 W) (hlt : B < W0.heap.size)
    (r1 : VRow w' 163 6 (.slice A' (L.length + 1) c') (L.length + 1) (flatE L ++ [.int .u32 e.1.a, .int .i64 e.1.n, .int .u32 e.1.a, .int .i64 e.1.n, .int .u32 (rV e.2), .bool (rL e.2)])) (t1 : Touch (Value.slice A L.length c).ownBlock.toList W.drew w') (o1 : (Value.slice A' (L.length + 1) c').ownBlock = (Value.slice A L.length c).ownBlock ∨ ∃ b, (Value.slice A' (L.length + 1) c').ownBlock = some b ∧ W.drew.heap.size ≤ b) :
    KeepsFrom W0.heap.size W (w'.setCell ⟨B, 0, none⟩ (.slice A' (L.length + 1) c')) ∧ Below B W (w'.setCell ⟨B, 0, none⟩ (.slice A' (L.length + 1) c')) ∧ NowI W0 B (L ++ [e]) (w'.setCell ⟨B, 0, none⟩ (.slice A' (L.length + 1) c')) := by
  have hBno : B ∉ (Value.slice A L.length c).ownBlock.toList := fun hx => by have := hVb _ (by simpa using hx); omega
  have t1' : Touch (Value.slice A L.length c).ownBlock.toList W w' := (Touch.refl _ W).drew.trans t1 (fun y hy => .inl hy)
  have hB1 : w'.heap[B]? = some (.cells #[.slice A L.length c] 160 (0, 0)) := touch_box t1' hB hBno
  have hown : ∀ b, (Value.slice A' (L.length + 1) c').ownBlock = some b → W0.heap.size ≤ b := fun b hb => by
    rcases o1 with o | ⟨b', o, hb'⟩
    · rw [o] at hb; exact hVb b hb
    · rw [o] at hb; cases hb; exact Nat.le_trans tW.size hb'
  have hTX : Touch (B :: (Value.slice A L.length c).ownBlock.toList) W (w'.setCell ⟨B, 0, none⟩ (.slice A' (L.length + 1) c')) :=
    (t1'.mono (fun y hy => .inl (List.mem_cons_of_mem _ hy))).setCell _ _ (.inl (by simp))
  have hge : ∀ x ∈ B :: (Value.slice A L.length c).ownBlock.toList, x = B ∨ W0.heap.size ≤ x := fun x hx => by
    rcases List.mem_cons.1 hx with rfl | hx
    · exact .inl rfl
    · exact .inr (hVb x (by simpa using hx))
  refine ⟨keepsFrom_touch hTX ?_, touch_belowN hTX (Nat.le_trans (Nat.le_of_lt hlt) tW.size) (fun x hx => by rcases hge x hx with h | h <;> omega), ⟨.slice A' (L.length + 1) c', ?_, ?_⟩, ?_⟩
  · intro y hy
    rcases List.mem_cons.1 hy with rfl | hy
    · exact ⟨_, _, _, hB⟩
    · obtain ⟨cc, hcc⟩ := hV.blk y (by simpa using hy)
      exact ⟨_, _, _, hcc⟩
  · simpa using box_set (o := 0) hB1 (.slice A' (L.length + 1) c')
  · refine ⟨?_, hown⟩
    rw [flatE_snoc, List.length_append]
    exact r1.kept ((Touch.refl [B] w').setCell _ _ (.inl (by simp))) (fun k hk => by have := hown k hk; simp; omega)
  · exact tW.trans hTX (fun x hx => by rcases hge x hx with h | h <;> simp [h])
set_option maxRecDepth 100000 in
set_option maxHeartbeats 8000000 in
theorem now_calls {w : World} {tb : Nat} {t : T} {S : List Nat} {k : Nat} (h : TrieAt w tb t S k) (p : Px) (hp : p.ok) (hk : 80 * k ≤ 140737488355328) :
    Calls Tryz.prog 94 #[.pointer (some ⟨tb, 0, none⟩), .agg #[.int .u32 p.a, .int .i64 p.n]] w (NowPost w (ents (below t p))) := by
  have hsz := tsize_two h.ok
  have hlen := h.len
  have H := Lib.hid h
  have HP := Lib.hid hp
  have hmf : ∀ (fn : Fn) (first cap : Array Value) (w : World), (Instr.makeFunc fn first cap).run Tryz.prog w = .ok (.func fn first cap) w := fun _ _ _ _ => rfl
  clear h hp
  refine calls_marks Tryz.func94 rfl ?_
  simp only [Tryz.ntmps94, List.size_toArray, List.length_cons, List.length_nil, Nat.reduceAdd, Nat.reduceSub, Array.replicate_succ, Array.replicate_zero, List.push_toArray, List.append_toArray, List.nil_append, List.cons_append]
  go_wp2_with fail
  obtain ⟨W0, hW0⟩ : ∃ W0 : World, W0 = ((w.alloc (.cells #[.pointer (some ⟨tb, 0, none⟩)] 88)).alloc (.cells #[.int .u32 p.a, .int .i64 p.n] 47)).alloc (.cells #[.slice none 0 0] 160) := ⟨_, rfl⟩
  have X2 := Lib.hid (show W0.heap[w.heap.size]? = some (.cells #[.pointer (some ⟨tb, 0, none⟩)] 88 (0, 0)) by rw [hW0]; exact box_keep _ (box_keep _ (box_at w _)))
  have X3 := Lib.hid (show W0.heap[w.heap.size + 1]? = some (.cells #[.int .u32 p.a, .int .i64 p.n] 47 (0, 0)) by rw [hW0]; exact box_keep _ (box_at' _ _ _ (by simp)))
  have X5 := Lib.hid (show W0.heap[w.heap.size + 1 + 1]? = some (.cells #[.slice none 0 0] 160 (0, 0)) by rw [hW0]; exact box_at' _ _ _ (by simp))
  have T0 := Lib.hid (show Touch [] w W0 by rw [hW0]; exact (((Touch.refl [] w).alloc _).alloc _).alloc _)
  have hs0 : W0.heap.size = w.heap.size + 1 + 1 + 1 := by rw [hW0]; simp
  rw [← hW0]
  clear hW0
  refine wp_range (gf := 101) (lb := #[.pointer (some ⟨w.heap.size, 0, none⟩), .pointer (some ⟨w.heap.size + 1, 0, none⟩)]) (by rfl) (enters_of Tryz.func101 (by kernel_rfl) rfl)
    (now1_stops (H.out.kept T0.out (by simp)) p HP.out w.heap.size (w.heap.size + 1) (w.heap.size + 1 + 1) 8 X2.out X3.out (by omega) (fun x hx => by have := H.out.lt x hx; omega) (by omega) (by omega))
    belowK_t (belowK_b (by omega)) (fun _ => rfl)
    (fun pre W => NowI W0 (w.heap.size + 1 + 1) (pre.flatMap NodeAt.own) W) (fun _ _ _ => False) (NowI.own _) (fun _ _ _ _ _ hs _ _ => hs)
    ⟨⟨_, X5.out, VRow.nil _ _ _, by simp [Value.ownBlock]⟩, Touch.refl _ _⟩
    (fun x a' _ => a' = { tmps := #[.pointer (some ⟨tb, 0, none⟩), .agg #[.int .u32 p.a, .int .i64 p.n], .pointer (some ⟨w.heap.size, 0, none⟩), .pointer (some ⟨w.heap.size + 1, 0, none⟩), .slice none 0 0, .pointer (some ⟨w.heap.size + 1 + 1, 0, none⟩), .pointer (some ⟨x.b, 0, none⟩),
      .func (.func 101) #[] #[.pointer (some ⟨w.heap.size, 0, none⟩), .pointer (some ⟨w.heap.size + 1, 0, none⟩)], .pointer (some ⟨x.b, 0, none⟩), undef, undef, undef, undef, undef, undef, undef, undef, undef, undef, undef, undef, undef, undef, undef, undef, undef], defers := [] }) (fun x a' _ _ _ _ hs _ _ => hs) ?assign ?body ?done ?stop
  case assign =>
    intro l pre x W K hI hK
    simp only [NodeAt.enc]
    gi_wp2
    exact hK _ _ (KeepsFrom.refl _ _) (Below.refl _ _) hI rfl
  case body =>
    rintro l pre x a' W hl ⟨r, hr⟩ hI rfl hlen
    obtain ⟨L, hL⟩ : ∃ L, L = pre.flatMap NodeAt.own := ⟨_, rfl⟩
    have HL := Lib.hid hL
    have hlen2 := own_len pre
    have hI' : NowI W0 (w.heap.size + 1 + 1) L W := by rw [hL]; exact hI
    rw [← hL] at hlen2
    clear hI hL
    obtain ⟨⟨V, hB, hV, hVb⟩, tW⟩ := hI'
    have HB := Lib.hid hB
    have HV := Lib.hid hV
    have HVB := Lib.hid hVb
    have TW := Lib.hid tW
    have hxb : x.b ≠ w.heap.size + 1 + 1 := by
      obtain ⟨pl, pr, hx⟩ := x.h
      intro e
      rw [e, X5.out] at hx
      simp at hx
    have hcell : ∃ pl pr, W.heap[x.b]? = some (.cells (nodeC x.q x.u pl pr) 155 (0, 0)) := by
      obtain ⟨pl, pr, hx⟩ := x.h
      exact ⟨pl, pr, touch_box tW hx (by simpa using hxb)⟩
    obtain ⟨pl, pr, hxc⟩ := hcell
    obtain ⟨q0, q1, q2, q3, _⟩ := node_cells hxc
    obtain ⟨b0, f0⟩ := one_cells hB
    obtain ⟨A, c, rfl⟩ := hV.form
    clear hB hV hVb tW hxc
    cases hu : x.u with
    | none =>
      rw [hu] at q2
      simp only [Option.isSome_none] at q2
      gi_wp2
      refine ⟨KeepsFrom.refl _ _, Below.refl _ _, ?_⟩
      have e : (pre ++ [x]).flatMap NodeAt.own = L := by rw [HL.out]; simp [NodeAt.own, hu, Tri.own]
      show NowI W0 (w.heap.size + 1 + 1) ((pre ++ [x]).flatMap NodeAt.own) W
      rw [e]
      exact ⟨⟨_, HB.out, HV.out, HVB.out⟩, TW.out⟩
    | some v =>
      rw [hu] at q2 q3
      obtain ⟨q3, q4, q5, q6⟩ := q3
      simp only [Option.isSome_some, oA, oN, oV, oL] at q2 q3 q4 q5 q6
      gi_wp2
      refine wpIn_region_round (by kernel_rfl) (by kernel_rfl) rfl ?_
      have VD := Lib.hid (HV.out.kept (Touch.refl [] W).drew (by simp))
      have bD : W.drew.cell? ⟨w.heap.size + 1 + 1, 0, none⟩ = some _ := b0
      have bA : (W.alloc (.cells #[.int .u32 x.q.a, .int .i64 x.q.n, .int .u32 x.q.a, .int .i64 x.q.n, .int .u32 (rV v), .bool (rL v)] 163)).cell? ⟨w.heap.size + 1 + 1, 0, none⟩ = some _ := cell_touch ((Touch.refl [] W).alloc _) b0 (by simp)
      have fD : W.drew.frozen? ⟨w.heap.size + 1 + 1, 0, none⟩ = false := f0
      have hBno : w.heap.size + 1 + 1 ∉ (Value.slice A L.length c).ownBlock.toList := fun hx => by have := HVB.out _ (by simpa using hx); omega
      repeat' (first
        | (refine wpAnyIn_take (i := 1) (v := ?_) rfl rfl (by kernel_rfl) ?_ ?_ (fun _ _ _ h => h) ⟨Or.inl ⟨by rfl, ?_⟩, fun _ => rfl⟩ ?_; rotate_left 1; (focus (decide +kernel)); (focus (decide +kernel)); (focus (intro w; first | (go_simp; done) | (go_simp; with_reducible rfl))))
        | (refine wpAnyIn_take (i := 2) (v := ?_) rfl rfl (by kernel_rfl) ?_ ?_ (fun _ _ _ h => h) ⟨Or.inl ⟨by rfl, ?_⟩, fun _ => rfl⟩ ?_; rotate_left 1; (focus (decide +kernel)); (focus (decide +kernel)); (focus (intro w; first | (go_simp; done) | (go_simp; with_reducible rfl))))
        | (refine wpAnyIn_take (i := 3) (v := ?_) rfl rfl (by kernel_rfl) ?_ ?_ (fun _ _ _ h => h) ⟨Or.inl ⟨by rfl, ?_⟩, fun _ => rfl⟩ ?_; rotate_left 1; (focus (decide +kernel)); (focus (decide +kernel)); (focus (intro w; first | (go_simp; done) | (go_simp; with_reducible rfl))))
        | (refine wpAnyIn_take (i := 5) (v := ?_) rfl rfl (by kernel_rfl) ?_ ?_ (fun _ _ _ h => h) ⟨Or.inl ⟨by rfl, ?_⟩, fun _ => rfl⟩ ?_; rotate_left 1; (focus (decide +kernel)); (focus (decide +kernel)); (focus (intro w; first | (go_simp; done) | (go_simp; with_reducible rfl))))
        | (refine wpAnyIn_take (i := 6) (v := ?_) rfl rfl (by kernel_rfl) ?_ ?_ (fun _ _ _ h => h) ⟨Or.inl ⟨by rfl, ?_⟩, fun _ => rfl⟩ ?_; rotate_left 1; (focus (decide +kernel)); (focus (decide +kernel)); (focus (intro w; first | (go_simp; done) | (go_simp; with_reducible rfl))))
        | (refine wpAnyIn_take (i := 7) (v := ?_) rfl rfl (by kernel_rfl) ?_ ?_ (fun _ _ _ h => h) ⟨Or.inl ⟨by rfl, ?_⟩, fun _ => rfl⟩ ?_; rotate_left 1; (focus (decide +kernel)); (focus (decide +kernel)); (focus (intro w; first | (go_simp; done) | (go_simp; with_reducible rfl))))
        | (refine wpAnyIn_take (i := 9) (v := ?_) rfl rfl (by kernel_rfl) ?_ ?_ (fun _ _ _ h => h) ⟨Or.inl ⟨by rfl, ?_⟩, fun _ => rfl⟩ ?_; rotate_left 1; (focus (decide +kernel)); (focus (decide +kernel)); (focus (intro w; first | (go_simp; done) | (go_simp; with_reducible rfl))))
        | (refine wpAnyIn_ready (rs := [0, 4, 8]) ?_ (by simp) (AllReadyIn.cons rfl (fun K hK => ?_) (AllReadyIn.cons rfl (fun K hK => ?_) (AllReadyIn.cons rfl (fun K hK => ?_) AllReadyIn.nil))); (focus (decide +kernel)); all_goals (go_simp; refine hK _ _ ?_; clear hK K))
        | (refine wpAnyIn_ready (rs := [4, 8]) ?_ (by simp) (AllReadyIn.cons rfl (fun K hK => ?_) (AllReadyIn.cons rfl (fun K hK => ?_) AllReadyIn.nil)); (focus (decide +kernel)); all_goals (go_simp; refine hK _ _ ?_; clear hK K))
        | (refine wpAnyIn_ready (rs := [0, 8]) ?_ (by simp) (AllReadyIn.cons rfl (fun K hK => ?_) (AllReadyIn.cons rfl (fun K hK => ?_) AllReadyIn.nil)); (focus (decide +kernel)); all_goals (go_simp; refine hK _ _ ?_; clear hK K))
        | (refine wpAnyIn_ready (rs := [0, 4]) ?_ (by simp) (AllReadyIn.cons rfl (fun K hK => ?_) (AllReadyIn.cons rfl (fun K hK => ?_) AllReadyIn.nil)); (focus (decide +kernel)); all_goals (go_simp; refine hK _ _ ?_; clear hK K))
        | (refine wpAnyIn_ready (rs := [0]) ?_ (by simp) (AllReadyIn.cons rfl (fun K hK => ?_) AllReadyIn.nil); (focus (decide +kernel)); all_goals (go_simp; refine hK _ _ ?_; clear hK K))
        | (refine wpAnyIn_ready (rs := [4]) ?_ (by simp) (AllReadyIn.cons rfl (fun K hK => ?_) AllReadyIn.nil); (focus (decide +kernel)); all_goals (go_simp; refine hK _ _ ?_; clear hK K))
        | (refine wpAnyIn_ready (rs := [8]) ?_ (by simp) (AllReadyIn.cons rfl (fun K hK => ?_) AllReadyIn.nil); (focus (decide +kernel)); all_goals (go_simp; refine hK _ _ ?_; clear hK K))
        | (refine wpAnyIn_ready (rs := [0, 10]) ?_ (by simp) (AllReadyIn.cons rfl (fun K hK => ?_) (AllReadyIn.cons rfl (fun K hK => ?_) AllReadyIn.nil)); (focus (decide +kernel)); all_goals (go_simp; refine hK _ _ ?_; clear hK K))
        | (refine wpAnyIn_ready (rs := [10]) ?_ (by simp) (AllReadyIn.cons rfl (fun K hK => ?_) AllReadyIn.nil); (focus (decide +kernel)); all_goals (go_simp; refine hK _ _ ?_; clear hK K)))
      all_goals
        refine wpAnyIn_ready (rs := [11]) (by kernel_rfl) (by simp) (AllReadyIn.cons rfl (fun K hK => ?_) AllReadyIn.nil)
        refine stepIn_append_vr (by rfl) (.tmp 13) (.tmp 23) 160 163 6 40 _ Tryz.underlying160 (by rfl) info96 rfl (by decide) (by decide) _ _ _ 1 #[.int .u32 x.q.a, .int .i64 x.q.n, .int .u32 x.q.a, .int .i64 x.q.n, .int .u32 (rV v), .bool (rL v)] (by rfl) VD.out (by rfl) (by rfl) (by simp [Value.oneCell']) (by omega) ?_
        intro A' c' w' r1 t1 o1
        have b4 := cell_touch t1 bD hBno
        have f4 := frozen_touch t1 bD fD hBno
        refine hK _ _ ?_
        clear hK K
        refine wpAnyIn_ready (rs := [12]) (by kernel_rfl) (by simp) (AllReadyIn.cons rfl (fun K hK => ?_) AllReadyIn.nil)
        go_simp
        refine hK _ _ ?_
        clear hK K
        refine wpAnyIn_done (by kernel_rfl) ?_ _
        clear VD bD bA fD b4 f4 q0 q1 q2 q3 q4 q5 q6 b0 f0
        have e : (pre ++ [x]).flatMap NodeAt.own = L ++ [(x.q, v)] := by rw [HL.out]; simp [NodeAt.own, hu, Tri.own]
        have g := now_close (e := (x.q, v)) HB.out HV.out HVB.out TW.out (by omega) r1 t1 o1
        refine ⟨g.1, g.2.1, ?_⟩
        show NowI W0 (w.heap.size + 1 + 1) ((pre ++ [x]).flatMap NodeAt.own) _
        rw [e]
        exact g.2.2
  case done =>
    rintro D ys W hD hS hI hK
    have hI' : NowI W0 (w.heap.size + 1 + 1) (ents (below t p)) W := by rw [← hS]; exact hI
    obtain ⟨⟨V, hB, hV, hVb⟩, tW⟩ := hI'
    obtain ⟨b0, f0⟩ := one_cells hB
    obtain ⟨A, c, rfl⟩ := hV.form
    have HV := Lib.hid hV
    have HVB := Lib.hid hVb
    have TW := Lib.hid tW
    have HK := Lib.hid hK
    clear hS hI hB hV hVb tW
    go_wp2
    refine ⟨by simp, .inl ⟨_, _, rfl, run_takeDeferred HK.out, ?_⟩⟩
    have tD := touch_grown (grownBy_putObj' W D (.deferred none))
    refine ⟨_, results_tmp rfl _ _ _, A, c, rfl, HV.out.kept tD (fun b hb hx => ?_), ?_, fun b hb => Nat.le_trans T0.out.size (HVB.out b hb)⟩
    · obtain ⟨cc, hcc⟩ := HV.out.blk b hb
      simp at hx
      subst hx
      rw [HK.out] at hcc
      cases hcc
    · exact (T0.out.trans TW.out (fun x hx => .inr (by simp at hx; omega))).trans tD (fun x hx => .inr (by simp at hx; omega))
  case stop =>
    rintro D c pre W _ _ h _
    exact h.elim
end Go.Proofs.YtnpeafhjcelpfaaGreat.Tri
