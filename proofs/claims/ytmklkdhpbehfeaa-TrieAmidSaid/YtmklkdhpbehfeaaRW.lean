/- slot, the row of eight, begin; no condition. -/
import Derived.Test.YtmklkdhpbehfeaaPL
namespace Go.Proofs.Ytmklkdhpbehfeaa.Tri
open Go.RowKit Go.Maps
set_option linter.unusedVariables false

def slotN (k : Int) : Nat := (if k < 0 then -1 - k else k).toNat % 8
theorem slotN_lt (k : Int) : slotN k < 8 := Nat.mod_lt _ (by decide)
set_option maxHeartbeats 400000 in
theorem slot_calls (k : Int) (w : World) (h1 : -9223372036854775808 ≤ k) (h2 : k ≤ 9223372036854775807) :
    Calls Try.prog 59 #[.int .i64 k] w fun e w' => e = .returned (.int .i64 (slotN k : Nat)) ∧ w' = w := by
  by_cases hm : k < 0
  · have e : (((-1 : Int) - k) % 8) = ((slotN k : Nat) : Int) := by unfold slotN; rw [if_pos hm]; omega
    have h0 : 0 ≤ (-1 : Int) - k := by omega
    obtain ⟨y, hy⟩ : ∃ y : Nat, (-1 : Int) - k = (y : Int) := ⟨((-1 : Int) - k).toNat, by omega⟩
    have E := Lib.hid e
    clear e
    go_enter Try.func59, Try.ntmps59
    go_wp2
    go_ret
    refine ⟨ret_int ?_, rfl⟩
    rw [← E.out, hy]
    try simp
    try omega
  · have e : k % 8 = ((slotN k : Nat) : Int) := by unfold slotN; rw [if_neg hm]; omega
    obtain ⟨y, rfl⟩ := Int.eq_ofNat_of_zero_le (by omega : 0 ≤ k)
    have E := Lib.hid e
    clear e
    go_enter Try.func59, Try.ntmps59
    go_wp2
    go_ret
    exact ⟨ret_int E.out, rfl⟩
def pa : Option Duo → Value
  | none => .pointer none
  | some P => .pointer (some ⟨P.tb, 0, none⟩)
def pb : Option Duo → Value
  | none => .pointer none
  | some P => .pointer (some ⟨P.rb, 0, none⟩)
structure RowAt (w : World) (B : Nat) (f : Nat → Option Duo) (n : Nat) : Prop where
  blk : ∃ c, w.heap[B]? = some (.cells c 123 (0, 0)) ∧ c.size = 16 ∧ ∀ i, i < 8 → c[i]? = some (pa (f i)) ∧ c[8 + i]? = some (pb (f i))
  duo : ∀ i P, i < 8 → f i = some P → DuoAt w P
  out : ∀ i P, i < 8 → f i = some P → B ∉ P.foot
  dis : ∀ i j P Q, i < 8 → j < 8 → i ≠ j → f i = some P → f j = some Q → ∀ x ∈ P.foot, x ∉ Q.foot
  len : ∀ i P, i < 8 → f i = some P → P.k ≤ n
theorem RowAt.lt {w : World} {B : Nat} {f : Nat → Option Duo} {n : Nat} (h : RowAt w B f n) : B < w.heap.size := by
  obtain ⟨c, hc, _⟩ := h.blk; exact (Array.getElem?_eq_some_iff.1 hc).1
theorem RowAt.cell {w : World} {B : Nat} {f : Nat → Option Duo} {n : Nat} (h : RowAt w B f n) (i : Nat) (hi : i < 8) :
    w.cell? ⟨B, i, none⟩ = some (pa (f i)) ∧ w.cell? ⟨B, 8 + i, none⟩ = some (pb (f i)) ∧ ∀ o, w.frozen? ⟨B, o, none⟩ = false := by
  obtain ⟨c, hc, _, h3⟩ := h.blk
  obtain ⟨h4, h5⟩ := h3 i hi
  refine ⟨?_, ?_, fun o => ?_⟩ <;> simp [World.cell?, World.frozen?, hc, h4, h5]
theorem RowAt.kept {w w' : World} {B : Nat} {f : Nat → Option Duo} {n : Nat} (h : RowAt w B f n) (t : Touch [] w w') : RowAt w' B f n := by
  obtain ⟨c, hc, h2⟩ := h.blk
  exact ⟨⟨c, touch_box t hc (by simp), h2⟩, fun i P hi hP => (h.duo i P hi hP).kept t (by simp), h.out, h.dis, h.len⟩
theorem RowAt.mono {w : World} {B : Nat} {f : Nat → Option Duo} {n m : Nat} (h : RowAt w B f n) (hm : n ≤ m) : RowAt w B f m :=
  ⟨h.blk, h.duo, h.out, h.dis, fun i P hi hP => Nat.le_trans (h.len i P hi hP) hm⟩
def put1 (f : Nat → Option Duo) (k : Nat) (P : Duo) : Nat → Option Duo := fun i => if i = k then some P else f i
/-- One of them has moved. -/
theorem RowAt.step {w w' : World} {B : Nat} {f : Nat → Option Duo} {n : Nat} (h : RowAt w B f n) {k : Nat} (hk : k < 8) {P P' : Duo} (hP : f k = some P) (s : DuoStep w P w' P') : RowAt w' B (put1 f k P') (n + 1) := by
  have hB := h.out k P hk hP
  have hlt := h.lt
  have hfo : ∀ j Q, j < 8 → j ≠ k → f j = some Q → ∀ x ∈ P'.foot, x ∉ Q.foot := fun j Q hj hne hQ x hx hx2 => by
    rcases s.foot x hx with h1 | h1
    · exact h.dis k j P Q hk hj (fun e => hne e.symm) hP hQ x h1 hx2
    · have := (h.duo j Q hj hQ).lt x hx2; omega
  obtain ⟨c, hc, hsz, h3⟩ := h.blk
  refine ⟨⟨c, touch_box s.touch hc hB, hsz, fun i hi => ?_⟩, fun i Q hi hQ => ?_, fun i Q hi hQ => ?_, fun i j Q R hi hj hne hQ hR => ?_, fun i Q hi hQ => ?_⟩
  · unfold put1
    by_cases e : i = k
    · subst e
      rw [if_pos rfl]
      have := h3 i hi
      rw [hP] at this
      simpa [pa, pb, s.tb, s.rb] using this
    · rw [if_neg e]; exact h3 i hi
  · unfold put1 at hQ
    split at hQ
    · injection hQ with hQ; subst hQ; exact s.at_
    · rename_i hne; exact (h.duo i Q hi hQ).kept s.touch (fun x hx hx2 => h.dis k i P Q hk hi (fun e => hne e.symm) hP hQ x hx2 hx)
  · unfold put1 at hQ
    split at hQ
    · injection hQ with hQ; subst hQ
      intro hx
      rcases s.foot B hx with h1 | h1
      · exact hB h1
      · omega
    · exact h.out i Q hi hQ
  · unfold put1 at hQ hR
    split at hQ <;> split at hR
    · omega
    · rename_i e1 e2; injection hQ with hQ; subst hQ; exact hfo j R hj e2 hR
    · rename_i e1 e2; injection hR with hR; subst hR; intro x hx hx2; exact hfo i Q hi e1 hQ x hx2 hx
    · exact h.dis i j Q R hi hj hne hQ hR
  · unfold put1 at hQ
    split at hQ
    · injection hQ with hQ; subst hQ; exact Nat.le_trans s.len (Nat.succ_le_succ (h.len k P hk hP))
    · exact Nat.le_succ_of_le (h.len i Q hi hQ)
/-- One is begun anew. -/
theorem RowAt.begun {w w' : World} {B : Nat} {f : Nat → Option Duo} {n : Nat} (h : RowAt w B f n) {k : Nat} (hk : k < 8) {P' : Duo} {c c' : Array Value} (hc : w.heap[B]? = some (.cells c 123 (0, 0))) (ht : Touch [B] w w')
    (hc' : w'.heap[B]? = some (.cells c' 123 (0, 0))) (e' : c' = (c.setIfInBounds k (.pointer (some ⟨P'.tb, 0, none⟩))).setIfInBounds (8 + k) (.pointer (some ⟨P'.rb, 0, none⟩))) (hd : DuoAt w' P') (hf : ∀ x ∈ P'.foot, w.heap.size ≤ x) (hk0 : P'.k = 0) : RowAt w' B (put1 f k P') n := by
  have hlt := h.lt
  obtain ⟨c1, hc1, hsz, h3⟩ := h.blk
  rw [hc] at hc1
  simp only [Option.some.injEq, Obj.cells.injEq, and_true] at hc1
  obtain rfl := hc1
  refine ⟨⟨c', hc', by rw [e']; simp [hsz], fun i hi => ?_⟩, fun i Q hi hQ => ?_, fun i Q hi hQ => ?_, fun i j Q R hi hj hne hQ hR => ?_, fun i Q hi hQ => ?_⟩
  · obtain ⟨h4, h5⟩ := h3 i hi
    unfold put1
    rw [e']
    by_cases e : i = k
    · subst e
      rw [if_pos rfl]
      constructor
      · rw [Array.getElem?_setIfInBounds_ne (by omega), Array.getElem?_setIfInBounds_self_of_lt (by omega)]; rfl
      · rw [Array.getElem?_setIfInBounds_self_of_lt (by simp; omega)]; rfl
    · rw [if_neg e]
      constructor
      · rw [Array.getElem?_setIfInBounds_ne (by omega), Array.getElem?_setIfInBounds_ne (by omega)]; exact h4
      · rw [Array.getElem?_setIfInBounds_ne (by omega), Array.getElem?_setIfInBounds_ne (by omega)]; exact h5
  · unfold put1 at hQ
    split at hQ
    · injection hQ with hQ; subst hQ; exact hd
    · exact (h.duo i Q hi hQ).kept ht (fun x hx hx2 => by simp at hx2; subst hx2; exact h.out i Q hi hQ hx)
  · unfold put1 at hQ
    split at hQ
    · injection hQ with hQ; subst hQ; intro hx; have := hf B hx; omega
    · exact h.out i Q hi hQ
  · unfold put1 at hQ hR
    split at hQ <;> split at hR
    · omega
    · injection hQ with hQ; subst hQ; intro x hx hx2; have := hf x hx; have := (h.duo j R hj hR).lt x hx2; omega
    · injection hR with hR; subst hR; intro x hx hx2; have := hf x hx2; have := (h.duo i Q hi hQ).lt x hx; omega
    · exact h.dis i j Q R hi hj hne hQ hR
  · unfold put1 at hQ
    split at hQ
    · injection hQ with hQ; subst hQ; omega
    · exact h.len i Q hi hQ
end Go.Proofs.Ytmklkdhpbehfeaa.Tri
