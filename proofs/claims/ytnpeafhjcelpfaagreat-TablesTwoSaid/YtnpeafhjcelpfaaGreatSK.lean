/- The library's sort at rows of structs: the two vocabularies; no condition. -/
import Derived.Test.YtnpeafhjcelpfaaGreatKK
import Derived.Shelf.SlSortCmp.NoneTotal
namespace Go.Proofs.YtnpeafhjcelpfaaGreat.Tri
open Go.RowKit Go.Maps
set_option linter.unusedVariables false
set_option linter.unusedSimpArgs false

namespace SK
open Go.Sort
variable {α : Type}

/-- A world that is w but for draws and new blocks. -/
theorem grow_of {w w' : World} (t : Touch [] w w') (hd : w.drawn ≤ w'.drawn) : ∃ q os', w' = grow (w.drewN q) os' := by
  refine ⟨w'.drawn - w.drawn, w'.heap.extract w.heap.size w'.heap.size, ?_⟩
  obtain ⟨h', t', d', o', p'⟩ := w'
  obtain ⟨h, tp, d, o, p⟩ := w
  have e1 := t.os
  have e2 := t.tape
  have e3 := t.output
  have e4 := t.size
  have e5 := t.block
  dsimp only at e1 e2 e3 e4 e5 hd
  subst e1 e2 e3
  simp only [grow, World.drewN, World.mk.injEq, and_true, true_and]
  refine ⟨?_, by omega⟩
  apply Array.ext_getElem?
  intro k
  rw [Array.getElem?_append]
  by_cases hk : k < h.size
  · rw [if_pos hk]; exact e5 k hk (by simp)
  · rw [if_neg hk, Array.getElem?_extract]
    by_cases hk2 : k < h'.size
    · rw [if_pos (by omega)]; congr 1; omega
    · rw [if_neg (by omega), Array.getElem?_eq_none (by omega)]
def flatL (enc : α → List Value) (l : List α) : List Value := l.flatMap enc
theorem flatL_len (enc : α → List Value) (k : Nat) (hk : ∀ x, (enc x).length = k) : ∀ l : List α, (flatL enc l).length = l.length * k
  | [] => by simp [flatL]
  | x :: l => by
    have := flatL_len enc k hk l
    simp only [flatL, List.flatMap_cons, List.length_append, List.length_cons] at this ⊢
    rw [this, hk, Nat.add_mul]
    omega
theorem flatL_get (enc : α → List Value) (k : Nat) (hk : ∀ x, (enc x).length = k) : ∀ (l : List α) (i c : Nat) (x : α), l[i]? = some x → c < k → (flatL enc l)[i * k + c]? = (enc x)[c]?
  | [], i, c, x, h, _ => by simp at h
  | y :: l, 0, c, x, h, hc => by
    simp at h
    subst h
    simp only [flatL, List.flatMap_cons, Nat.zero_mul, Nat.zero_add]
    rw [List.getElem?_append_left (by rw [hk]; exact hc)]
  | y :: l, i + 1, c, x, h, hc => by
    have := flatL_get enc k hk l i c x (by simpa using h) hc
    simp only [flatL, List.flatMap_cons] at this ⊢
    rw [List.getElem?_append_right (by rw [hk, Nat.add_mul]; omega), hk, ← this]
    congr 1
    rw [Nat.add_mul]; omega
variable [Inhabited α]
theorem flatK_list (enc : α → List Value) (k : Nat) (hk : ∀ x, (enc x).length = k) (d : Array α) : (Sort.flatK enc k d).toList = flatL enc d.toList := by
  apply List.ext_getElem?
  intro t
  by_cases ht : t < d.size * k
  · have hk0 : 0 < k := by
      rcases Nat.eq_zero_or_pos k with h | h
      · subst h; omega
      · exact h
    have hi : t / k < d.size := (Nat.div_lt_iff_lt_mul hk0).2 ht
    have hc := Nat.mod_lt t hk0
    have e : t = t / k * k + t % k := by rw [Nat.mul_comm]; exact (Nat.div_add_mod t k).symm
    have h1 : d.toList[t / k]? = some d[t / k]! := by rw [getElem!_pos d _ hi]; simp [hi]
    have h2 := flatL_get enc k hk d.toList (t / k) (t % k) _ h1 hc
    rw [← e] at h2
    rw [h2]
    have h3 := Sort.get_flatK enc k d t ht
    have h4 : t < (Sort.flatK enc k d).size := by rw [Sort.size_flatK]; exact ht
    rw [getElem!_pos _ t h4] at h3
    rw [Array.getElem?_toList, Array.getElem?_eq_getElem h4, h3]
    have h5 : t % k < (enc d[t / k]!).length := by rw [hk]; exact hc
    rw [List.getElem?_eq_getElem h5]
    simp [h5]
  · rw [List.getElem?_eq_none (by simp; omega), List.getElem?_eq_none (by rw [flatL_len enc k hk]; simp; omega)]
theorem holds_of {w : World} {g n c k : Nat} {e : TypeId} (enc : α → List Value) (hk : ∀ x, (enc x).length = k) {l : List α} (h : VRow w e k (.slice (some ⟨g, 0, none⟩) n c) n (flatL enc l)) (hn : l.length = n) : HoldsK enc k w g 0 l.toArray ∧ g < w.heap.size := by
  have hlt := h.lt g rfl
  refine ⟨?_, hlt⟩
  intro j hj
  rw [Sort.size_flatK] at hj
  have hj' : j < n * k := by simpa [hn] using hj
  have hb := h.blk g rfl
  obtain ⟨cur, hcur⟩ := hb
  refine ⟨?_, by simp [World.frozen?, hcur]⟩
  have h1 := World.ownsRow.cellAt h.own j hj'
  rw [Nat.zero_add]
  have h4 : j < (Sort.flatK enc k l.toArray).size := by rw [Sort.size_flatK]; exact hj
  rw [show some (id (Sort.flatK enc k l.toArray)[j]!) = (Sort.flatK enc k l.toArray).toList[j]? by rw [Array.getElem?_toList, Array.getElem?_eq_getElem h4, getElem!_pos _ j h4]; rfl, flatK_list enc k hk]
  exact h1
theorem sorted_row {w : World} {g n c k m : Nat} {e : TypeId} (enc : α → List Value) (hk : ∀ x, (enc x).length = k) {xs : List Value} (h : VRow w e k (.slice (some ⟨g, 0, none⟩) n c) n xs) {d' : Array α} (hn : d'.size = n) (os : Array Obj) :
    VRow (sortWorldK enc k w g 0 m d' os) e k (.slice (some ⟨g, 0, none⟩) n c) n (flatL enc d'.toList) ∧ Touch [g] w (sortWorldK enc k w g 0 m d' os) := by
  have hlt := h.lt g rfl
  rcases h.own.2 with ⟨h0, _⟩ | ⟨g', cap, cur, hv, hbase, hb, h1, h2, h3, h4⟩
  · cases h0
  cases hv
  have hfl : (Sort.flatK enc k d').size = n * k := by rw [Sort.size_flatK, hn]
  have hheap : (sortWorldK enc k w g 0 m d' os).heap[g]? = some (.cells (putCells id 0 (Sort.flatK enc k d') cur) e (0, 0)) := by
    unfold sortWorldK putRowK
    rw [heap_grow_old _ _ (by simpa [putRow, mapBlock, Sort.ahead] using hlt)]
    simp [putRow, mapBlock, Sort.ahead, Array.getElem?_modify, hb, onCells]
  have hnc : n * k ≤ c * k := Nat.mul_le_mul_right k h1
  refine ⟨⟨by rw [flatL_len enc k hk]; simp [hn], .inr ⟨g, c, _, rfl, Nat.zero_le _, hheap, h1, h2, by simp [putCells, h3], ?_⟩⟩, ⟨rfl, rfl, rfl, by simp [sortWorldK, putRowK, putRow, mapBlock, Sort.ahead], fun j hj hne => ?_⟩⟩
  · rw [← flatK_list enc k hk]
    apply List.ext_getElem?
    intro j
    by_cases hj : j < n * k
    · have hc : j < cur.size := by rw [h3]; omega
      rw [List.getElem?_take_of_lt hj, Array.getElem?_toList, Array.getElem?_toList]
      have h5 : j < (Sort.flatK enc k d').size := by rw [hfl]; exact hj
      simp only [putCells, Array.getElem?_mapIdx, Array.getElem?_eq_getElem hc, Option.map_some, Nat.zero_le, true_and, Nat.zero_add, h5, if_true, Nat.sub_zero, id]
      rw [Array.getElem?_eq_getElem h5, getElem!_pos _ j h5]
    · rw [List.getElem?_take_eq_none (by omega), List.getElem?_eq_none (by simp [hn]; omega)]
  · unfold sortWorldK putRowK
    rw [heap_grow_old _ _ (by simpa [putRow, mapBlock, Sort.ahead] using hj)]
    have : g ≠ j := fun e => hne (by simp [e])
    simp [putRow, mapBlock, Sort.ahead, Array.getElem?_modify, this]
theorem sorted_list {lt : α → α → Bool} {d d' : Array α} (hp : PermIn 0 d.size d d') (hs : SortedIn lt 0 d.size d') : d'.size = d.size ∧ d'.toList.Perm d.toList ∧ d'.toList.Pairwise fun x y => lt y x = false := by
  obtain ⟨hsz, _, hperm⟩ := hp
  have e1 : d'.extract 0 d.size = d' := by rw [← hsz]; exact Array.extract_size
  rw [e1, Array.extract_size] at hperm
  refine ⟨hsz, hperm, ?_⟩
  rw [List.pairwise_iff_getElem]
  intro i j hi hj hij
  have hi' : i < d'.size := by simpa using hi
  have hj' : j < d'.size := by simpa using hj
  have := hs i j (Nat.zero_le _) hij (by omega)
  rw [getElem!_pos d' j hj', getElem!_pos d' i hi'] at this
  simpa using this
end SK
end Go.Proofs.YtnpeafhjcelpfaaGreat.Tri
