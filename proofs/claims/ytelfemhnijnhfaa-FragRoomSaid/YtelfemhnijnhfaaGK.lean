/- The plain heart of Add: a datagram is laid into the three parts; no condition. -/
import Derived.Test.YtelfemhnijnhfaaGH
namespace Go.Proofs.Ytelfemhnijnhfaa.Fr
open Go.RowKit Go.Maps
set_option linter.unusedVariables false
set_option linter.unusedSimpArgs false
set_option maxRecDepth 100000

theorem Asm0.put {w w' : World} {a hb kb tb : Nat} {TS TS' : List Nat} {s s' : Tm.St} {fh fk : Value → Option Value} {st : ASt} (h : Asm0 w a hb kb tb TS s fh fk st) {K : K4} (hK : K.wf) {d : Nat} {D : Dg} {i u : Int} (hid : D.id = i) (hu : D.until_ = u)
    (hi : match st.g K with | some x => i = x.2.id | none => fk (.int .i64 i) = none) (hi0 : 0 ≤ i) (hi9 : i ≤ 256)
    (hblk : w'.heap[a]? = some (.cells (asmC st hb kb tb) 107 (0, 0)))
    (hh : GMap 109 w' hb (updV fh (kv K) (some (.pointer (some ⟨d, 0, none⟩)))) (if (st.g K).isSome then st.n else st.n + 1))
    (hk : GMap 3 w' kb (updV fk (.int .i64 i) (some (kv K))) (if (st.g K).isSome then st.n else st.n + 1))
    (ht : Tm.Tim w' tb TS' 256 s') (hl : s'.hp.length = if (st.g K).isSome then st.n else st.n + 1) (hv : ∀ y, Tm.val s' y = if y = i then some u else Tm.val s y)
    (hsub : ∀ k ∈ TS', k ∈ TS ∨ w.heap.size ≤ k) (hD : DgAt w' d D) (hkeep : ∀ (L : K4) (x : Nat × Dg), L.wf → st.g L = some x → DgAt w' x.1 x.2) :
    Asm0 w' a hb kb tb TS' s' (updV fh (kv K) (some (.pointer (some ⟨d, 0, none⟩)))) (updV fk (.int .i64 i) (some (kv K))) { st with g := updK st.g K (some (d, D)), n := if (st.g K).isSome then st.n else st.n + 1 } := by
  have hal : a < w.heap.size := (Array.getElem?_eq_some_iff.1 h.blk).1
  refine ⟨hblk, hh, hk, ht, hl, h.hk, fun hm => ?_, fun hm => ?_, fun hm => ?_, ?_, ?_, ?_, ?_⟩
  · rcases hsub _ hm with h1 | h1
    · exact h.ht h1
    · have := h.held.lt; omega
  · rcases hsub _ hm with h1 | h1
    · exact h.kt h1
    · have := h.keys.lt; omega
  · rcases hsub _ hm with h1 | h1
    · exact h.at_ h1
    · omega
  · intro L hL
    by_cases e : L = K
    · subst e
      rw [updV_same]
      simp [updK_same]
    · rw [updV_other _ (fun e' => e (kv_inj e')), h.look L hL]
      simp [updK_other _ e]
  · intro L y hL hy
    by_cases e : L = K
    · subst e
      simp only [updK_same, Option.some.injEq] at hy
      subst hy
      dsimp only
      rw [hid, updV_same, hv, if_pos rfl, hu]
      exact ⟨hD, rfl, rfl, hi0, hi9⟩
    · simp only [updK_other _ e] at hy
      obtain ⟨q1, q2, q3, q4⟩ := h.each L y hL hy
      have hne : y.2.id ≠ i := by
        intro he
        cases hg : st.g K with
        | none => rw [hg] at hi; dsimp only at hi; rw [he, hi] at q2; cases q2
        | some x =>
          rw [hg] at hi
          dsimp only at hi
          have e1 := (h.each K x hK hg).2.1
          rw [he, hi, e1] at q2
          exact e (kv_inj (Option.some.inj q2)).symm
      refine ⟨hkeep L y hL hy, ?_, ?_, q4⟩
      · rw [updV_other _ (by intro he; simp at he; exact hne he)]
        exact q2
      · rw [hv, if_neg hne]; exact q3
  · intro j v hj hjv
    by_cases e : j = i
    · subst e
      rw [updV_same] at hjv
      cases hjv
      exact ⟨K, (d, D), hK, rfl, by simp [updK_same], hid⟩
    · rw [updV_other _ (by intro he; simp at he; exact e he)] at hjv
      obtain ⟨L, y, hL, rfl, hy, hyi⟩ := h.back j v hj hjv
      have e2 : L ≠ K := by
        rintro rfl
        rw [hy] at hi
        dsimp only at hi
        exact e (by rw [← hyi, hi])
      exact ⟨L, y, hL, rfl, by simpa [updK_other _ e2] using hy, hyi⟩
  · intro j hj
    by_cases e : j = i
    · subst e; rw [updV_same]; rfl
    · rw [hv, if_neg e] at hj
      rw [updV_other _ (by intro he; simp at he; exact e he)]
      exact h.due j hj
theorem DgAt.kindD {w w' : World} {d : Nat} {D : Dg} (h : DgAt w d D) {S : List Nat} (t : Touch S w w') (hk : ∀ k ∈ S, Kind w k ∨ ((∃ c, w.heap[k]? = some (.cells c 113 (0, 0))) ∧ k ≠ d)) : DgAt w' d D := by
  obtain ⟨VB, VH, VO, hb, h1, h2, h3⟩ := h
  have key : ∀ {V : Value} {l : List Int}, OwB w V l → OwB w' V l := by
    intro V l ho
    refine ho.kept t (fun k hok hs => ?_)
    obtain ⟨c', hc⟩ := ho.row.blk _ hok
    rcases hk k hs with (⟨es, c, hm⟩ | ⟨c, T, hm, h5, _⟩) | ⟨⟨c, hm⟩, _⟩
    · rw [hc] at hm; cases hm
    · rw [hc] at hm
      simp only [Option.some.injEq, Obj.cells.injEq] at hm
      exact h5 hm.2.1.symm
    · rw [hc] at hm
      simp only [Option.some.injEq, Obj.cells.injEq] at hm
      exact absurd hm.2.1 (by decide)
  refine ⟨VB, VH, VO, touch_box t hb (fun hs => ?_), key h1, key h2, key h3⟩
  rcases hk d hs with (⟨es, c, hm⟩ | ⟨c, T, hm, _, h5⟩) | ⟨_, hne⟩
  · rw [hb] at hm; cases hm
  · rw [hb] at hm
    simp only [Option.some.injEq, Obj.cells.injEq] at hm
    exact h5 hm.2.1.symm
  · exact hne rfl
theorem Asm0.began {w w' : World} {a hb kb tb : Nat} {TS : List Nat} {s : Tm.St} {fh fk : Value → Option Value} {st : ASt} (h : Asm0 w a hb kb tb TS s fh fk st) {B : List Nat} (t : Touch B w w') (hB : ∀ k ∈ B, k ∉ hb :: kb :: TS) (n : Int)
    (hkeep : ∀ (L : K4) (x : Nat × Dg), L.wf → st.g L = some x → DgAt w' x.1 x.2)
    (hb' : w'.heap[a]? = some (.cells (asmC { st with began := n } hb kb tb) 107 (0, 0))) : Asm0 w' a hb kb tb TS s fh fk { st with began := n } := by
  have hn : ∀ x ∈ hb :: kb :: TS, x ∉ B := fun x hx hb => hB x hb hx
  exact ⟨hb', h.held.kept t (hn hb (by simp)), h.keys.kept t (hn kb (by simp)), tim_kept h.tim t (fun k hk => hn k (by simp [hk])), h.len, h.hk, h.ht, h.kt, h.at_, h.look, fun K x hK' hx => by
    obtain ⟨h1, h2⟩ := h.each K x hK' hx
    exact ⟨hkeep K x hK' hx, h2⟩, h.back, h.due⟩
theorem dg_set0 {w : World} {d : Nat} {D : Dg} (h : DgAt w d D) (x : Int) : DgAt (w.setCell ⟨d, 0, none⟩ (.int .i64 x)) d { D with id := x } ∧ DgAt (w.setCell ⟨d, 1, none⟩ (.int .i64 x)) d { D with order := x } ∧ DgAt (w.setCell ⟨d, 2, none⟩ (.int .i64 x)) d { D with until_ := x } := by
  obtain ⟨VB, VH, VO, hb, h1, h2, h3⟩ := h
  have t : ∀ o v, Touch [d] w (w.setCell ⟨d, o, none⟩ v) := fun o v => (Touch.refl _ w).setCell _ _ (.inl (by simp))
  have n1 := h1.off hb (by decide)
  have n2 := h2.off hb (by decide)
  have n3 := h3.off hb (by decide)
  exact ⟨⟨VB, VH, VO, by simpa using box_set (o := 0) hb (.int .i64 x), h1.kept (t _ _) n1, h2.kept (t _ _) n2, h3.kept (t _ _) n3⟩,
    ⟨VB, VH, VO, by simpa using box_set (o := 1) hb (.int .i64 x), h1.kept (t _ _) n1, h2.kept (t _ _) n2, h3.kept (t _ _) n3⟩,
    ⟨VB, VH, VO, by simpa using box_set (o := 2) hb (.int .i64 x), h1.kept (t _ _) n1, h2.kept (t _ _) n2, h3.kept (t _ _) n3⟩⟩
end Go.Proofs.Ytelfemhnijnhfaa.Fr
