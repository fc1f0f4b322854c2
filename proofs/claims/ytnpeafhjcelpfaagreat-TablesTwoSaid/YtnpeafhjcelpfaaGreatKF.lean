/- hang whole; Put, New; no condition. -/
import Derived.Test.YtnpeafhjcelpfaaGreatKD
import Derived.Test.YtnpeafhjcelpfaaGreatKE
namespace Go.Proofs.YtnpeafhjcelpfaaGreat.Tri
open Go.RowKit Go.Maps
set_option linter.unusedVariables false

theorem hang_calls : ∀ (t : T) (pv : Value) (S : List Nat) (w : World) (p : Px) (v : Int), Tr w t pv S → Ok t → p.ok →
    Calls Tryz.prog 158 #[pv, .agg #[.int .u32 p.a, .int .i64 p.n], .agg #[.int .u32 p.a, .int .i64 p.n, .int .u32 (rV v), .bool (rL v)]] w (HangPost w t S p v)
  | .nil, pv, S, w, p, v, hT, hO, hp => by
    obtain ⟨rfl, rfl⟩ := hT
    exact hang_nil w p v
  | .node q u l r, pv, S, w, p, v, hT, hO, hp => by
    have hT0 := hT
    obtain ⟨b, pl, pr, Sl, Sr, rfl, hb, hl, hr, rfl, h1, h2, h3⟩ := hT
    obtain ⟨o1, o2, o3, o4, o5, o6⟩ := hO
    by_cases e : q = p
    · subst e
      exact hang_eq q u l r b pl pr Sl Sr w v hb hl hr h1 h2 h3
    · by_cases hi : ins p q
      · have hs := side_of hi (fun e' => e e'.symm) hp o1
        have hn31 : q.n ≤ 31 := by have := hs.1; have := hp.1; omega
        rcases bit_two p.a q.n with hbit | hbit
        · exact hang_left q u l r b pl pr Sl Sr w p v hb hl hr h1 h2 h3 hp e hi o1 hbit hn31 (fun w' hT' => hang_calls l pl Sl w' p v hT' o5 hp)
        · exact hang_right q u l r b pl pr Sl Sr w p v hb hl hr h1 h2 h3 hp e hi o1 hbit hn31 (fun w' hT' => hang_calls r pr Sr w' p v hT' o6 hp)
      · rcases bit_two q.a (common p q).n with hbit | hbit
        · exact hang_split_a q u l r b pl pr _ w p v hb hT0 hp e hi o1 hbit
        · exact hang_split_b q u l r b pl pr _ w p v hb hT0 hp e hi o1 hbit

/-- Block tb is a Trie that holds t. -/
structure TrieAt (w : World) (tb : Nat) (t : T) (S : List Nat) (k : Nat) : Prop where
  at_ : ∃ pv S0, w.heap[tb]? = some (.cells #[.pointer pv, .int .i64 k] 151 (0, 0)) ∧ Tr w t (.pointer pv) S0 ∧ tb ∉ S0 ∧ S = tb :: S0
  ok : Ok t
  len : k = (ents t).length
theorem TrieAt.lt {w : World} {tb : Nat} {t : T} {S : List Nat} {k : Nat} (h : TrieAt w tb t S k) : ∀ x ∈ S, x < w.heap.size := by
  obtain ⟨pv, S0, hb, hT, _, rfl⟩ := h.at_
  intro x hx
  rcases List.mem_cons.1 hx with rfl | hx
  · exact (Array.getElem?_eq_some_iff.1 hb).1
  · exact hT.lt x hx
theorem TrieAt.kept {w w' : World} {tb : Nat} {t : T} {S : List Nat} {k : Nat} (h : TrieAt w tb t S k) {X : List Nat} (tt : Touch X w w') (hn : ∀ x ∈ S, x ∉ X) : TrieAt w' tb t S k := by
  obtain ⟨pv, S0, hb, hT, h1, rfl⟩ := h.at_
  exact ⟨⟨pv, S0, touch_box tt hb (hn tb (by simp)), hT.kept tt (fun x hx => hn x (by simp [hx])), h1, rfl⟩, h.ok, h.len⟩
set_option maxHeartbeats 400000 in
theorem new_calls (w : World) : Calls Tryz.prog 70 #[] w fun e w' => e = .returned (.pointer (some ⟨w.heap.size, 0, none⟩)) ∧ TrieAt w' w.heap.size .nil [w.heap.size] 0 ∧ Touch [] w w' := by
  go_enter Tryz.func70, Tryz.ntmps70
  go_wp2
  go_ret
  exact ⟨rfl, ⟨⟨none, [], box_at w _, ⟨rfl, rfl⟩, by simp, rfl⟩, trivial, rfl⟩, (Touch.refl [] w).alloc _⟩
theorem sorted_nodup {l : List Ent} (h : Sorted l) : l.Nodup := by
  refine List.Pairwise.imp ?_ h
  intro a b hab e; subst e; exact plt_irrefl hab
theorem len_hang {t : T} {p : Px} {v : Int} (h : Ok t) (hp : p.ok) : (ents (hang t p v).1).length = (ents t).length + if (hang t p v).2 then 1 else 0 := by
  have hg := hang_is t p v h hp
  have s1 := ents_sorted t h
  have s2 := ents_sorted _ hg.ok
  cases hf : (hang t p v).2 with
  | true =>
    have hno := hg.fresh.1 hf
    have : (ents (hang t p v).1).Perm ((p, v) :: ents t) := by
      refine (List.perm_ext_iff_of_nodup (sorted_nodup s2) (List.nodup_cons.2 ⟨hno v, sorted_nodup s1⟩)).2 ?_
      rintro ⟨q, u⟩
      rw [hg.mem, List.mem_cons]
      constructor
      · rintro (⟨rfl, rfl⟩ | ⟨h1, h2⟩)
        · exact .inl rfl
        · exact .inr h2
      · rintro (h1 | h1)
        · injection h1 with h1 h2; exact .inl ⟨h1, h2⟩
        · exact .inr ⟨fun e => by subst e; exact hno _ h1, h1⟩
    rw [this.length_eq]; simp
  | false =>
    have hyes : ∃ u, (p, u) ∈ ents t := by
      apply Classical.byContradiction
      intro hx
      have := hg.fresh.2 (fun u hu => hx ⟨u, hu⟩)
      rw [hf] at this; cases this
    obtain ⟨u0, hu0⟩ := hyes
    have : ((ents (hang t p v).1).map (·.1)).Perm ((ents t).map (·.1)) := by
      have nd : ∀ l : List Ent, Sorted l → (l.map (·.1)).Nodup := fun l hl => by
        rw [List.Nodup, List.pairwise_map]
        exact List.Pairwise.imp (fun {a b} hab => plt_ne hab) hl
      refine (List.perm_ext_iff_of_nodup (nd _ s2) (nd _ s1)).2 ?_
      intro q
      simp only [List.mem_map]
      constructor
      · rintro ⟨⟨q', u'⟩, h1, rfl⟩
        rcases (hg.mem _ _).1 h1 with ⟨h2, _⟩ | ⟨_, h2⟩
        · exact ⟨(p, u0), hu0, h2.symm⟩
        · exact ⟨_, h2, rfl⟩
      · rintro ⟨⟨q', u'⟩, h1, rfl⟩
        by_cases e : q' = p
        · subst e; exact ⟨(q', v), (hg.mem _ _).2 (.inl ⟨rfl, rfl⟩), rfl⟩
        · exact ⟨(q', u'), (hg.mem _ _).2 (.inr ⟨e, h1⟩), rfl⟩
    have := this.length_eq
    simpa using this
def PutPost (w : World) (tb : Nat) (t : T) (S : List Nat) (p : Px) (v : Int) (e : Ending) (w' : World) : Prop :=
  e = .returned (.int .i64 0) ∧ ∃ S' k', TrieAt w' tb (hang t p v).1 S' k' ∧ Touch S w w' ∧ ∀ x ∈ S', x ∈ S ∨ w.heap.size ≤ x
theorem close_put {w w1 Wd w5 : World} {tb : Nat} {S0 S' : List Nat} {t' : T} {x : Option Addr} {y z : Value} (hlt : tb < w.heap.size) (H1 : tb ∉ S0) (T1 : Touch [] w w1) (B : w1.heap[tb]? = some (.cells #[y, z] 151 (0, 0))) (tWd : Touch [] w1 Wd) (hTo : Touch S0 Wd w5)
    (hT : Tr w5 t' (.pointer x) S') (hS : ∀ k ∈ S', k ∈ S0 ∨ Wd.heap.size ≤ k) :
    (w5.setCell ⟨tb, 0, none⟩ (.pointer x)).heap[tb]? = some (.cells #[.pointer x, z] 151 (0, 0)) ∧ Tr (w5.setCell ⟨tb, 0, none⟩ (.pointer x)) t' (.pointer x) S' ∧ Touch (tb :: S0) w (w5.setCell ⟨tb, 0, none⟩ (.pointer x)) ∧ (∀ k ∈ S', k ∈ S0 ∨ w.heap.size ≤ k) ∧ tb ∉ S' := by
  have hsz : w.heap.size ≤ Wd.heap.size := Nat.le_trans T1.size tWd.size
  have hn : tb ∉ S' := fun h => by
    rcases hS tb h with h | h
    · exact H1 h
    · omega
  have t0 : Touch S0 w w5 := ((T1.trans tWd (by simp)).mono (S' := S0) (by simp)).trans hTo (fun k hk => .inl hk)
  refine ⟨?_, hT.kept ((Touch.refl [tb] w5).setCell _ _ (.inl (by simp))) (fun k hk => by simp; rintro rfl; exact hn hk), (t0.mono (S' := tb :: S0) (fun k hk => .inl (by simp [hk]))).setCell _ _ (.inl (by simp)), fun k hk => ?_, hn⟩
  · have := box_set (o := 0) (touch_box hTo (touch_box tWd B (by simp)) H1) (.pointer x)
    simpa using this
  · rcases hS k hk with h | h
    · exact .inl h
    · exact .inr (by omega)
set_option maxHeartbeats 2000000 in
theorem put_calls {w : World} {tb : Nat} {t : T} {S : List Nat} {k : Nat} (h : TrieAt w tb t S k) (p : Px) (v : Int) (hp : p.ok) (hk : k < 4611686018427387904) :
    Calls Tryz.prog 155 #[.pointer (some ⟨tb, 0, none⟩), .agg #[.int .u32 p.a, .int .i64 p.n], .agg #[.int .u32 p.a, .int .i64 p.n, .int .u32 (rV v), .bool (rL v)]] w (PutPost w tb t S p v) := by
  obtain ⟨pv, S0, hb, hT, h1, rfl⟩ := h.at_
  have HB := Lib.hid hb
  have HT := Lib.hid hT
  have H1 := Lib.hid h1
  have HP := Lib.hid hp
  have HO := Lib.hid h.ok
  have HK := Lib.hid h.len
  have hpa := hp.2.1
  clear hb hT h1 h hp
  go_enter Tryz.func155, Tryz.ntmps155
  go_wp2_with fail
  refine (refusal_yes p.a p.n _ hpa ⟨by omega, by simpa using HP.out⟩).mono ?_
  rintro e w1 ⟨rfl, ht⟩
  have T1 := Lib.hid ((((Touch.refl [] w).alloc (.cells #[.int .u32 p.a, .int .i64 p.n] 47)).alloc (.cells #[.int .u32 p.a, .int .i64 p.n, .int .u32 (rV v), .bool (rL v)] 49)).trans ht (by simp))
  have X := Lib.hid (touch_box ht (box_keep (.cells #[.int .u32 p.a, .int .i64 p.n, .int .u32 (rV v), .bool (rL v)] 49) (box_at w (.cells #[.int .u32 p.a, .int .i64 p.n] 47))) (by simp))
  have Z := Lib.hid (touch_box ht (box_at' (w.alloc (.cells #[.int .u32 p.a, .int .i64 p.n] 47)) (.cells #[.int .u32 p.a, .int .i64 p.n, .int .u32 (rV v), .bool (rL v)] 49) (w.heap.size + 1) (by simp)) (by simp))
  have B := Lib.hid (touch_box T1.out HB.out (by simp))
  clear ht
  obtain ⟨c0, c1, f0, f1⟩ := two_cells B.out
  obtain ⟨d0, d1, _⟩ := two_cells X.out
  obtain ⟨z0, z1, z2, z3⟩ := rt_cells Z.out
  go_wp2
  go_upto_region 5 with (fail)
  go_cut [8] (fun v8 wc => v8 = .bool (hang t p v).2 ∧ ∃ (x : Option Addr) (S' : List Nat), Hid (wc.heap[tb]? = some (.cells #[.pointer x, .int .i64 k] 151 (0, 0))) ∧ Hid (Tr wc (hang t p v).1 (.pointer x) S') ∧ Hid (Touch (tb :: S0) w wc) ∧ Hid (∀ y ∈ S', y ∈ S0 ∨ w.heap.size ≤ y) ∧ Hid (tb ∉ S'))
  case first =>
    go_region_law (first | (go_simp; go_at_call 158; refine (hang_calls t (.pointer pv) S0 _ p v (by exact (HT.out.kept T1.out (by simp)).kept (by first | exact (Touch.refl [] _).drew | exact (Touch.refl [] _).drewN _ | exact Touch.refl [] _) (by simp)) HO.out HP.out).mono ?_; rintro e w5 ⟨pv', S', rfl, hT, hTo, hS⟩; have k4 := cell_touch hTo (a := ⟨tb, 0, none⟩) (v := .pointer pv) (by simp [c0]) H1.out; have kf := frozen_touch hTo (b := tb) (o := 0) (v := .pointer pv) (by simp [c0]) (by simp [f0]) H1.out))
    all_goals
      go_wp2
      go_meet
      case rel =>
        obtain ⟨g1, g2, g3, g4, g5⟩ := close_put (Array.getElem?_eq_some_iff.1 HB.out).1 H1.out T1.out B.out (by first | exact (Touch.refl [] _).drew | exact (Touch.refl [] _).drewN _ | exact Touch.refl [] _) hTo hT hS
        exact ⟨rfl, pv', S', Lib.hid g1, Lib.hid g2, Lib.hid g3, Lib.hid g4, Lib.hid g5⟩
  case rest =>
  obtain ⟨rfl, x, S', hB, hT, hTo, hS, hn⟩ := hcut
  have HI := Lib.hid (hang_is t p v HO.out HP.out)
  have HL := Lib.hid (len_hang (v := v) HO.out HP.out)
  clear c0 c1 f0 f1 d0 d1 z0 z1 z2 z3 X Z B
  obtain ⟨c0, c1, f0, f1⟩ := two_cells hB.out
  generalize hff : (hang t p v).2 = ff
  have HF := Lib.hid hff
  clear hff
  cases ff with
  | true =>
    go_wp2
    go_ret
    have tt : Touch [tb] wc (wc.setCell ⟨tb, 1, none⟩ (.int .i64 ((k : Int) + 1))) := (Touch.refl _ _).setCell _ _ (.inl (by simp))
    refine ⟨rfl, tb :: S', k + 1, ⟨⟨x, S', ?_, hT.out.kept tt (fun y hy => by simp; rintro rfl; exact hn.out hy), hn.out, rfl⟩, HI.out.ok, by rw [HL.out, HF.out, HK.out]; rfl⟩, hTo.out.trans tt (fun y hy => .inl (by simp at hy; simp [hy])), ?_⟩
    · have := box_set (o := 1) hB.out (.int .i64 ((k : Int) + 1))
      simpa using this
    · intro y hy
      rcases List.mem_cons.1 hy with rfl | hy
      · exact .inl (by simp)
      · rcases hS.out y hy with h | h
        · exact .inl (by simp [h])
        · exact .inr h
  | false =>
    go_wp2
    go_ret
    refine ⟨rfl, tb :: S', k, ⟨⟨x, S', hB.out, hT.out, hn.out, rfl⟩, HI.out.ok, by rw [HL.out, HF.out, HK.out]; rfl⟩, hTo.out, ?_⟩
    intro y hy
    rcases List.mem_cons.1 hy with rfl | hy
    · exact .inl (by simp)
    · rcases hS.out y hy with h | h
      · exact .inl (by simp [h])
      · exact .inr h
end Go.Proofs.YtnpeafhjcelpfaaGreat.Tri
