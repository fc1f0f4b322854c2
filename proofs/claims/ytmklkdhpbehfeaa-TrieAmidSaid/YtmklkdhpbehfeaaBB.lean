/- A trie and the document's beside it; no condition. -/
import Derived.Test.YtmklkdhpbehfeaaRF
namespace Go.Proofs.Ytmklkdhpbehfeaa.Tri
open Go.RowKit Go.Maps
set_option linter.unusedVariables false

structure Duo where
  tb : Nat
  rb : Nat
  V : Value
  t : T
  S : List Nat
  k : Nat
def Duo.foot (P : Duo) : List Nat := P.S ++ rfoot P.rb P.V
structure DuoAt (w : World) (P : Duo) : Prop where
  a : TrieAt w P.tb P.t P.S P.k
  b : RefT w P.rb P.V (ents P.t)
  dis : ∀ x ∈ P.S, x ∉ rfoot P.rb P.V
theorem DuoAt.lt {w : World} {P : Duo} (h : DuoAt w P) : ∀ x ∈ P.foot, x < w.heap.size := by
  intro x hx
  rcases List.mem_append.1 hx with hx | hx
  · exact h.a.lt x hx
  · exact h.b.lt x hx
theorem DuoAt.kept {w w' : World} {P : Duo} (h : DuoAt w P) {X : List Nat} (t : Touch X w w') (hn : ∀ x ∈ P.foot, x ∉ X) : DuoAt w' P :=
  ⟨h.a.kept t (fun x hx => hn x (List.mem_append_left _ hx)), h.b.kept t (fun x hx => hn x (List.mem_append_right _ hx)), h.dis⟩
structure DuoStep (w : World) (P : Duo) (w' : World) (P' : Duo) : Prop where
  at_ : DuoAt w' P'
  tb : P'.tb = P.tb
  rb : P'.rb = P.rb
  touch : Touch P.foot w w'
  foot : ∀ x ∈ P'.foot, x ∈ P.foot ∨ w.heap.size ≤ x
  len : P'.k ≤ P.k + 1
theorem DuoStep.same {w w' : World} {P : Duo} (h : DuoAt w P) (t : Touch [] w w') : DuoStep w P w' P :=
  ⟨h.kept t (by simp), rfl, rfl, t.mono (by simp), fun x hx => .inl hx, by omega⟩
theorem DuoStep.after {w w1 w2 : World} {P P' : Duo} (t : Touch [] w w1) (h : DuoStep w1 P w2 P') : DuoStep w P w2 P' :=
  ⟨h.at_, h.tb, h.rb, (t.mono (by simp)).trans h.touch (fun x hx => .inl hx), fun x hx => by
    rcases h.foot x hx with h1 | h1
    · exact .inl h1
    · exact .inr (Nat.le_trans t.size h1), h.len⟩
theorem DuoStep.then {w w1 w2 : World} {P P' : Duo} (h : DuoStep w P w1 P') (t : Touch [] w1 w2) : DuoStep w P w2 P' :=
  ⟨h.at_.kept t (by simp), h.tb, h.rb, h.touch.trans t (by simp), h.foot, h.len⟩
theorem DuoAt.step {w w1 w2 : World} {P : Duo} (h : DuoAt w P) {t' : T} {S' : List Nat} {k' : Nat} {V' : Value} {l' : List Ent}
    (h1 : TrieAt w1 P.tb t' S' k') (t1 : Touch P.S w w1) (hs1 : ∀ x ∈ S', x ∈ P.S ∨ w.heap.size ≤ x)
    (h2 : RefT w2 P.rb V' l') (hl : l' = ents t') (t2 : Touch (rfoot P.rb P.V) w1 w2) (hs2 : ∀ k ∈ rfoot P.rb V', k ∈ rfoot P.rb P.V ∨ w1.heap.size ≤ k) (hk : k' ≤ P.k + 1) :
    DuoStep w P w2 ⟨P.tb, P.rb, V', t', S', k'⟩ := by
  have hd : ∀ x ∈ S', x ∉ rfoot P.rb P.V := fun x hx hx2 => by
    rcases hs1 x hx with h3 | h3
    · exact h.dis x h3 hx2
    · have := h.b.lt x hx2; omega
  subst hl
  refine ⟨⟨h1.kept t2 hd, h2, fun x hx hx2 => ?_⟩, rfl, rfl, ?_, fun x hx => ?_, hk⟩
  · rcases hs2 x hx2 with h3 | h3
    · exact hd x hx h3
    · have := h1.lt x hx; omega
  · exact (t1.mono (S' := P.foot) (fun k hk => .inl (List.mem_append_left _ hk))).trans t2 (fun k hk => .inl (List.mem_append_right _ hk))
  · rcases List.mem_append.1 hx with hx | hx
    · rcases hs1 x hx with h3 | h3
      · exact .inl (List.mem_append_left _ h3)
      · exact .inr h3
    · rcases hs2 x hx with h3 | h3
      · exact .inl (List.mem_append_right _ h3)
      · exact .inr (Nat.le_trans t1.size h3)
theorem DuoAt.put {w w1 w2 : World} {P : Duo} (h : DuoAt w P) {p : Px} {v : Int} (hp : p.ok) {S' : List Nat} {k' : Nat} {V' : Value} {l' : List Ent}
    (h1 : TrieAt w1 P.tb (hang P.t p v).1 S' k') (t1 : Touch P.S w w1) (hs1 : ∀ x ∈ S', x ∈ P.S ∨ w.heap.size ≤ x)
    (h2 : RefT w2 P.rb V' l') (hl : PutL (ents P.t) p v l') (t2 : Touch (rfoot P.rb P.V) w1 w2) (hs2 : ∀ k ∈ rfoot P.rb V', k ∈ rfoot P.rb P.V ∨ w1.heap.size ≤ k) :
    DuoStep w P w2 ⟨P.tb, P.rb, V', (hang P.t p v).1, S', k'⟩ := by
  have hg := hang_is P.t p v h.a.ok hp
  refine h.step h1 t1 hs1 h2 (sorted_eq _ _ hl.1 (ents_sorted _ hg.ok) ?_) t2 hs2 ?_
  · rintro ⟨q, u⟩
    rw [hl.2, hg.mem]
  · rw [h1.len, len_hang h.a.ok hp, h.a.len]; split <;> omega
theorem DuoAt.del {w w1 w2 : World} {P : Duo} (h : DuoAt w P) {p : Px} {v : Int} (hm : (p, v) ∈ ents P.t) {S' : List Nat} {k' : Nat} {V' : Value}
    (h1 : TrieAt w1 P.tb (take P.t p) S' k') (t1 : Touch P.S w w1) (hs1 : ∀ x ∈ S', x ∈ P.S)
    (h2 : RefT w2 P.rb V' (dropP (ents P.t) p)) (t2 : Touch (rfoot P.rb P.V) w1 w2) (hs2 : ∀ k ∈ rfoot P.rb V', k ∈ rfoot P.rb P.V ∨ w1.heap.size ≤ k) :
    DuoStep w P w2 ⟨P.tb, P.rb, V', take P.t p, S', k'⟩ := by
  have hg := take_is P.t p v h.a.ok hm
  refine h.step h1 t1 (fun x hx => .inl (hs1 x hx)) h2 (sorted_eq _ _ (dropP_sorted (ents_sorted _ h.a.ok)) (ents_sorted _ hg.ok) ?_) t2 hs2 ?_
  · rintro ⟨q, u⟩
    rw [dropP_mem, hg.mem]
  · have := len_take h.a.ok hm
    rw [h1.len, h.a.len]; omega
/-- A new one. -/
theorem DuoAt.new {w w1 w2 : World} (h1 : TrieAt w1 w.heap.size .nil [w.heap.size] 0) (t1 : Touch [] w w1) {w1' : World} (t2 : Touch [] w1 w1') (h2 : RefT w2 w1'.heap.size (.slice none 0 0) []) (t3 : Touch [] w1' w2) :
    DuoAt w2 ⟨w.heap.size, w1'.heap.size, .slice none 0 0, .nil, [w.heap.size], 0⟩ := by
  refine ⟨(h1.kept t2 (by simp)).kept t3 (by simp), h2, ?_⟩
  intro x hx hx2
  simp at hx
  simp [rfoot, Value.ownBlock] at hx2
  have := h1.lt w.heap.size (by simp)
  have := t2.size
  omega
end Go.Proofs.Ytmklkdhpbehfeaa.Tri
