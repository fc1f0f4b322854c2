/- Plain laws for TimerSorts: how many ids; the order; no condition. -/
import Derived.Test.YtjnhldcgemcjbaaOrder
namespace Go.Proofs.Ytjnhldcgemcjbaa.Tm
open Go.RowKit Go.Maps
set_option linter.unusedVariables false

theorem nodup_sub : ∀ (a b : List Int), a.Nodup → (∀ x ∈ a, x ∈ b) → a.length ≤ b.length
  | [], b, _, _ => Nat.zero_le _
  | x :: a, b, h, hs => by
    obtain ⟨hx, h'⟩ := List.nodup_cons.1 h
    have hb : x ∈ b := hs x (by simp)
    have := nodup_sub a (b.erase x) h' (fun y hy => (List.mem_erase_of_ne (fun (e : y = x) => hx (by rw [← e]; exact hy))).2 (hs y (by simp [hy])))
    rw [List.length_erase_of_mem hb] at this
    have hl : 0 < b.length := List.length_pos_of_mem hb
    simp only [List.length_cons]; omega

theorem TInv.nd {s : St} (h : TInv s) : Nd s.hp := by
  unfold Nd
  rw [List.nodup_iff_pairwise_ne, List.pairwise_iff_getElem]
  intro i j hi hj hij e
  simp only [List.length_map] at hi hj
  have h1 := h.f i _ (List.getElem?_eq_getElem hi)
  have h2 := h.f j _ (List.getElem?_eq_getElem hj)
  simp only [List.getElem_map] at e
  rw [e, h2] at h1
  injection h1 with h1
  omega
theorem mset_gen (l : List Pr) (y : Int) : ∀ o : Option Int, (l.foldl (fun o p => if y = p.1 then some p.2 else o) o).isSome = true ↔ o.isSome = true ∨ ∃ p ∈ l, p.1 = y := by
  induction l with
  | nil => intro o; simp
  | cons p l ih =>
    intro o
    rw [List.foldl_cons, ih]
    by_cases e : y = p.1
    · subst e; simp
    · have e' : ¬ p.1 = y := fun h => e h.symm
      simp [e, e']
theorem mset_some (l : List Pr) (y : Int) : (mset l y).isSome = true ↔ ∃ p ∈ l, p.1 = y := by
  unfold mset; rw [mset_gen]; simp
theorem ids_of_val {s : St} (h : TInv s) {y : Int} : y ∈ s.hp.map (·.1) ↔ (val s y).isSome = true := by
  constructor
  · intro hy
    obtain ⟨p, hp, rfl⟩ := List.mem_map.1 hy
    rw [h.val_mem hp]; rfl
  · intro hy
    obtain ⟨v, hv⟩ := Option.isSome_iff_exists.1 hy
    exact List.mem_map.2 ⟨_, h.val_some hv, rfl⟩
theorem ids_of_lval {l : List Pr} {y : Int} : y ∈ l.map (·.1) ↔ (lval l y).isSome = true := by
  cases hl : lval l y with
  | none =>
    have := (lval_none y).1 hl
    simp only [Option.isSome_none]
    constructor
    · intro hy; obtain ⟨p, hp, e⟩ := List.mem_map.1 hy; exact absurd e (this p hp)
    · intro h; cases h
  | some v =>
    simp only [Option.isSome_some]
    refine ⟨fun _ => trivial, fun _ => ?_⟩
    unfold lval at hl
    obtain ⟨p, hp, _⟩ := Option.map_eq_some_iff.1 hl
    have h1 := List.find?_some hp
    exact List.mem_map.2 ⟨p, List.mem_of_find?_eq_some hp, by simpa using h1⟩

/-- W holds the last time of each id of items. -/
structure Want (items W : List Pr) : Prop where
  nd : Nd W
  vals : ∀ y, lval W y = mset items y
theorem Want.room {items W : List Pr} (h : Want items W) {s : St} (hI : TInv s) {k : Nat} (hv : ∀ y, val s y = mset (items.take k) y) {x : Pr} (hx : items[k]? = some x) (hn : val s x.1 = none) : s.hp.length < W.length := by
  have hnd : (x.1 :: s.hp.map (·.1)).Nodup := by
    refine List.nodup_cons.2 ⟨fun hm => ?_, hI.nd⟩
    have h1 := (ids_of_val hI).1 hm
    rw [hn] at h1; cases h1
  have := nodup_sub _ (W.map (·.1)) hnd (fun y hy => by
    rw [ids_of_lval, h.vals, mset_some]
    rcases List.mem_cons.1 hy with rfl | hy
    · exact ⟨x, List.mem_of_getElem? hx, rfl⟩
    · rw [ids_of_val hI, hv, mset_some] at hy
      obtain ⟨p, hp, e⟩ := hy
      exact ⟨p, List.mem_of_mem_take hp, e⟩)
  simp at this; omega
theorem len_of_vals {W : List Pr} (hW : Nd W) {s : St} (hI : TInv s) (hv : ∀ y, val s y = lval W y) : s.hp.length = W.length := by
  have h1 := nodup_sub (s.hp.map (fun p : Pr => p.1)) (W.map (fun p : Pr => p.1)) hI.nd (fun y hy => by rw [ids_of_lval, ← hv, ← ids_of_val hI]; exact hy)
  have h2 := nodup_sub (W.map (fun p : Pr => p.1)) (s.hp.map (fun p : Pr => p.1)) hW (fun y hy => by rw [ids_of_val hI, hv, ← ids_of_lval]; exact hy)
  simp at h1 h2; omega

theorem strict_of {W : List Pr} (h : W.Pairwise le) (hn : Nd W) : W.Pairwise (fun p q => le p q ∧ p.1 ≠ q.1) := by
  unfold Nd at hn
  rw [List.nodup_iff_pairwise_ne, List.pairwise_map] at hn
  exact h.and hn
/-- What came out at now and what came out behind it are W, cut. -/
theorem want_cut {W lpE lpL : List Pr} {s s1 s2 : St} {now mx : Int} (hs : W.Pairwise le) (hn : Nd W) (hv : ∀ y, val s y = lval W y) (h1 : Dued s now lpE s1) (h2 : Dued s1 mx lpL s2) (hmx : ∀ y v, val s y = some v → v ≤ mx) : W = lpE ++ lpL := by
  have hmem : ∀ y v, val s1 y = some v → val s y = some v := fun y v hh => by
    rw [h1.vals] at hh; split at hh
    · cases hh
    · exact hh
  refine sorted_unique W (lpE ++ lpL) (strict_of hs hn) ?_ (fun p => ?_)
  · rw [List.pairwise_append]
    refine ⟨h1.sorted, h2.sorted, fun a ha b hb => ?_⟩
    have a1 := h1.mem a ha
    have b1 := h2.mem b hb
    have b2 := h1.left _ _ b1.1
    refine ⟨?_, fun e => ?_⟩
    · unfold le; omega
    · have h3 := h1.vals b.1
      rw [if_pos (by rw [← e]; exact List.mem_map_of_mem ha), b1.1] at h3
      cases h3
  · rw [List.mem_append, h1.spec.mem_iff, h2.spec.mem_iff]
    have e : p ∈ W ↔ val s p.1 = some p.2 := by rw [hv, lval_iff hn]
    rw [e]
    constructor
    · intro hp
      by_cases hle : p.2 ≤ now
      · exact .inl ⟨hp, hle⟩
      · refine .inr ⟨?_, hmx _ _ hp⟩
        rw [h1.vals, if_neg (fun hm => ?_)]
        · exact hp
        · obtain ⟨q, hq, e2⟩ := List.mem_map.1 hm
          have := h1.mem q hq
          rw [e2, hp] at this
          have h3 := this.1
          injection h3 with h3
          omega
    · rintro (⟨hp, _⟩ | ⟨hp, _⟩)
      · exact hp
      · exact hmem _ _ hp
theorem lval_drop {W : List Pr} (hn : Nd W) {i : Nat} {x : Pr} (hx : W[i]? = some x) (y : Int) : lval (W.drop (i + 1)) y = if y = x.1 then none else lval (W.drop i) y := by
  have hi := (List.getElem?_eq_some_iff.1 hx).1
  have hx' : W[i] = x := (List.getElem?_eq_some_iff.1 hx).2
  have e : W.drop i = x :: W.drop (i + 1) := by rw [List.drop_eq_getElem_cons hi, hx']
  have hnd : Nd (W.drop i) := by unfold Nd at *; exact hn.sublist ((List.drop_sublist i W).map _)
  have := lval_erase hnd (k := 0) (x := x) (by rw [e]; rfl) y
  rw [e] at this ⊢
  simpa using this
theorem lval_nil (y : Int) : lval [] y = none := rfl
end Go.Proofs.Ytjnhldcgemcjbaa.Tm
