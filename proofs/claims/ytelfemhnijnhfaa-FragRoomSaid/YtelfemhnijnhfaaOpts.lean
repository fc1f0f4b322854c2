/- Areas of options, plain lists; no condition. -/
namespace Go.Proofs.Ytelfemhnijnhfaa.Fr
set_option linter.unusedVariables false

def optsOK : List Int → Bool
  | [] => true
  | x :: r =>
    if x = 0 then r.all (fun y => y == 0)
    else if x = 1 then optsOK r
    else match r with
      | [] => false
      | n :: q => if n < 2 ∨ (q.length : Int) + 2 < n then false else optsOK ((n :: q).drop (n.toNat - 1))
termination_by l => l.length
decreasing_by
  all_goals simp_wf
  all_goals first | omega | (simp only [List.length_drop, List.length_cons]; omega)
def areaB (l : List Int) : Bool := decide (l.length ≤ 40 ∧ l.length % 4 = 0) && optsOK l
def copyO : List Int → List Int
  | [] => []
  | x :: r =>
    if x = 0 then []
    else if x = 1 then copyO r
    else match r with
      | [] => []
      | n :: q => if n < 2 then [] else (if 128 ≤ x then (x :: n :: q).take n.toNat else []) ++ copyO ((n :: q).drop (n.toNat - 1))
termination_by l => l.length
decreasing_by
  all_goals simp_wf
  all_goals first | omega | (simp only [List.length_drop, List.length_cons]; omega)
def pad4 (l : List Int) : List Int := l ++ List.replicate ((4 - l.length % 4) % 4) 0
def copiedO (l : List Int) : List Int := pad4 (copyO l)

theorem drop_at {l : List Int} {i : Nat} {x : Int} (h : l[i]? = some x) : l.drop i = x :: l.drop (i + 1) := by
  obtain ⟨hi, rfl⟩ := List.getElem?_eq_some_iff.1 h
  exact List.drop_eq_getElem_cons hi
theorem ok_end {l : List Int} {i : Nat} (h : l.length ≤ i) : optsOK (l.drop i) = true := by rw [List.drop_eq_nil_of_le h]; unfold optsOK; rfl
theorem ok_zero {l : List Int} {i : Nat} (h : l[i]? = some 0) : optsOK (l.drop i) = (l.drop i).all (fun y => y == 0) := by
  rw [drop_at h]; unfold optsOK; simp
theorem ok_nop {l : List Int} {i : Nat} (h : l[i]? = some 1) : optsOK (l.drop i) = optsOK (l.drop (i + 1)) := by
  rw [drop_at h]; conv => lhs; unfold optsOK
  simp
theorem ok_short {l : List Int} {i : Nat} {x : Int} (h : l[i]? = some x) (h0 : x ≠ 0) (h1 : x ≠ 1) (hs : l.length ≤ i + 1) : optsOK (l.drop i) = false := by
  rw [drop_at h, List.drop_eq_nil_of_le hs]; unfold optsOK; simp [h0, h1]
theorem ok_bad {l : List Int} {i : Nat} {x n : Int} (h : l[i]? = some x) (h0 : x ≠ 0) (h1 : x ≠ 1) (hn : l[i + 1]? = some n) (hb : n < 2 ∨ (l.length : Int) < i + n) : optsOK (l.drop i) = false := by
  have hl := (List.getElem?_eq_some_iff.1 hn).1
  rw [drop_at h, drop_at hn]; unfold optsOK
  have : n < 2 ∨ ((l.drop (i + 1 + 1)).length : Int) + 2 < n := by rw [List.length_drop]; omega
  simp only [h0, h1, if_false, if_pos this]
theorem ok_next {l : List Int} {i : Nat} {x n : Int} (h : l[i]? = some x) (h0 : x ≠ 0) (h1 : x ≠ 1) (hn : l[i + 1]? = some n) (h2 : 2 ≤ n) (hb : (i : Int) + n ≤ l.length) : optsOK (l.drop i) = optsOK (l.drop (i + n.toNat)) := by
  have hl := (List.getElem?_eq_some_iff.1 hn).1
  have e : l.drop (i + n.toNat) = (l.drop (i + 1)).drop (n.toNat - 1) := by rw [List.drop_drop]; congr 1; omega
  rw [e, drop_at h, drop_at hn]; conv => lhs; unfold optsOK
  have : ¬ (n < 2 ∨ ((l.drop (i + 1 + 1)).length : Int) + 2 < n) := by rw [List.length_drop]; omega
  simp only [h0, h1, if_false, if_neg this]
theorem copy_end {l : List Int} {i : Nat} (h : l.length ≤ i) : copyO (l.drop i) = [] := by rw [List.drop_eq_nil_of_le h]; unfold copyO; rfl
theorem copy_zero {l : List Int} {i : Nat} (h : l[i]? = some 0) : copyO (l.drop i) = [] := by rw [drop_at h]; unfold copyO; simp
theorem copy_nop {l : List Int} {i : Nat} (h : l[i]? = some 1) : copyO (l.drop i) = copyO (l.drop (i + 1)) := by
  rw [drop_at h]; conv => lhs; unfold copyO
  simp
theorem copy_next {l : List Int} {i : Nat} {x n : Int} (h : l[i]? = some x) (h0 : x ≠ 0) (h1 : x ≠ 1) (hn : l[i + 1]? = some n) (h2 : 2 ≤ n) :
    copyO (l.drop i) = (if 128 ≤ x then (l.drop i).take n.toNat else []) ++ copyO (l.drop (i + n.toNat)) := by
  have e : l.drop (i + n.toNat) = (l.drop (i + 1)).drop (n.toNat - 1) := by rw [List.drop_drop]; congr 1; omega
  rw [e, drop_at h, drop_at hn]; conv => lhs; unfold copyO
  simp only [h0, h1, if_false, if_neg (show ¬ n < 2 by omega)]

/-- What may be: the shape of the option at i. -/
theorem ok_inv {l : List Int} {i : Nat} {x : Int} (hok : optsOK (l.drop i) = true) (h : l[i]? = some x) (h0 : x ≠ 0) (h1 : x ≠ 1) : ∃ n, l[i + 1]? = some n ∧ 2 ≤ n ∧ (i : Int) + n ≤ l.length := by
  by_cases hs : l.length ≤ i + 1
  · rw [ok_short h h0 h1 hs] at hok; cases hok
  · obtain ⟨n, hn⟩ : ∃ n, l[i + 1]? = some n := ⟨_, List.getElem?_eq_getElem (by omega)⟩
    refine ⟨n, hn, ?_⟩
    by_cases hb : n < 2 ∨ (l.length : Int) < i + n
    · rw [ok_bad h h0 h1 hn hb] at hok; cases hok
    · omega
theorem all_zero {l : List Int} (h : l.all (fun y => y == 0) = true) : ∀ x ∈ l, x = 0 := fun x hx => by have := List.all_eq_true.1 h x hx; simpa using this

theorem copy_len : ∀ (k : Nat) (l : List Int) (i : Nat), l.length - i = k → optsOK (l.drop i) = true → (copyO (l.drop i)).length ≤ k := by
  intro k
  induction k using Nat.strongRecOn with
  | _ k ih =>
    intro l i hk hok
    by_cases hi : l.length ≤ i
    · rw [copy_end hi]; simp
    obtain ⟨x, hx⟩ : ∃ x, l[i]? = some x := ⟨_, List.getElem?_eq_getElem (by omega)⟩
    by_cases h0 : x = 0
    · subst h0; rw [copy_zero hx]; simp
    by_cases h1 : x = 1
    · subst h1
      rw [ok_nop hx] at hok
      have := ih (l.length - (i + 1)) (by omega) l (i + 1) rfl hok
      rw [copy_nop hx]; omega
    · obtain ⟨n, hn, h2, hb⟩ := ok_inv hok hx h0 h1
      rw [ok_next hx h0 h1 hn h2 hb] at hok
      have := ih (l.length - (i + n.toNat)) (by omega) l (i + n.toNat) rfl hok
      rw [copy_next hx h0 h1 hn h2, List.length_append]
      split
      · rw [List.length_take, List.length_drop]; omega
      · simp; omega
theorem pad4_len (l : List Int) : (pad4 l).length % 4 = 0 ∧ l.length ≤ (pad4 l).length ∧ ∀ m, m % 4 = 0 → l.length ≤ m → (pad4 l).length ≤ m := by
  unfold pad4
  rw [List.length_append, List.length_replicate]
  exact ⟨by omega, by omega, fun m h1 h2 => by omega⟩
theorem copied_len {l : List Int} (h : areaB l = true) : (copiedO l).length ≤ l.length ∧ (copiedO l).length % 4 = 0 := by
  unfold areaB at h
  simp only [Bool.and_eq_true, decide_eq_true_eq] at h
  obtain ⟨⟨h1, h2⟩, h3⟩ := h
  have h4 := copy_len l.length l 0 (by omega) (by simpa using h3)
  simp only [List.drop_zero] at h4
  obtain ⟨a, b, c⟩ := pad4_len (copyO l)
  exact ⟨c _ h2 h4, a⟩
theorem copy_mem : ∀ (k : Nat) (l : List Int), l.length = k → ∀ x ∈ copyO l, x ∈ l := by
  intro k
  induction k using Nat.strongRecOn with
  | _ k ih =>
    intro l hk x hx
    match l, hk, hx with
    | [], _, hx => unfold copyO at hx; cases hx
    | y :: r, hk, hx =>
      unfold copyO at hx
      simp only [List.length_cons] at hk
      split at hx
      · cases hx
      · split at hx
        · exact List.mem_cons_of_mem _ (ih r.length (by omega) r rfl x hx)
        · match r, hk, hx with
          | [], _, hx => cases hx
          | n :: q, hk, hx =>
            simp only [List.length_cons] at hk
            dsimp only at hx
            split at hx
            · cases hx
            · rcases List.mem_append.1 hx with h | h
              · split at h
                · exact List.mem_of_mem_take h
                · cases h
              · exact List.mem_cons_of_mem _ (List.mem_of_mem_drop (ih _ (by simp only [List.length_drop, List.length_cons]; omega) _ rfl x h))
theorem copied_ok {l : List Int} (h : ∀ x ∈ l, 0 ≤ x ∧ x < 256) : ∀ x ∈ copiedO l, 0 ≤ x ∧ x < 256 := by
  intro x hx
  rcases List.mem_append.1 hx with hx | hx
  · exact h x (copy_mem _ l rfl x hx)
  · have := (List.mem_replicate.1 hx).2
    omega
/-- What later pieces carry may be. -/
theorem zeros_ok (k : Nat) : optsOK (List.replicate k 0) = true := by
  cases k with
  | zero => unfold optsOK; rfl
  | succ k => rw [List.replicate_succ]; unfold optsOK; simp
theorem copy_okz : ∀ (k : Nat) (l : List Int) (i m : Nat), l.length - i = k → optsOK (l.drop i) = true → optsOK (copyO (l.drop i) ++ List.replicate m 0) = true := by
  intro k
  induction k using Nat.strongRecOn with
  | _ k ih =>
    intro l i m hk hok
    by_cases hi : l.length ≤ i
    · rw [copy_end hi]; exact zeros_ok m
    obtain ⟨x, hx⟩ : ∃ x, l[i]? = some x := ⟨_, List.getElem?_eq_getElem (by omega)⟩
    by_cases h0 : x = 0
    · subst h0; rw [copy_zero hx]; exact zeros_ok m
    by_cases h1 : x = 1
    · subst h1
      rw [ok_nop hx] at hok
      rw [copy_nop hx]
      exact ih (l.length - (i + 1)) (by omega) l (i + 1) m rfl hok
    · obtain ⟨n, hn, h2, hb⟩ := ok_inv hok hx h0 h1
      rw [ok_next hx h0 h1 hn h2 hb] at hok
      have := ih (l.length - (i + n.toNat)) (by omega) l (i + n.toNat) m rfl hok
      rw [copy_next hx h0 h1 hn h2, List.append_assoc]
      split
      · have hl : ((l.drop i).take n.toNat).length = n.toNat := by rw [List.length_take, List.length_drop]; omega
        generalize hR : copyO (l.drop (i + n.toNat)) ++ List.replicate m 0 = R at this ⊢
        have g0 : ((l.drop i).take n.toNat ++ R)[0]? = some x := by
          rw [List.getElem?_append_left (by omega), List.getElem?_take, if_pos (by omega), List.getElem?_drop]; simpa using hx
        have g1 : ((l.drop i).take n.toNat ++ R)[0 + 1]? = some n := by
          rw [List.getElem?_append_left (by omega), List.getElem?_take, if_pos (by omega), List.getElem?_drop]; simpa using hn
        have := ok_next g0 h0 h1 g1 h2 (by rw [List.length_append, hl]; omega)
        rw [List.drop_zero] at this
        rw [this, Nat.zero_add, List.drop_append_of_le_length (by omega), List.drop_eq_nil_of_le (by omega)]
        assumption
      · simpa using this
theorem copied_area {l : List Int} (h : areaB l = true) : areaB (copiedO l) = true := by
  have hl := copied_len h
  unfold areaB at h ⊢
  simp only [Bool.and_eq_true, decide_eq_true_eq] at h ⊢
  obtain ⟨⟨h1, h2⟩, h3⟩ := h
  refine ⟨⟨by omega, hl.2⟩, ?_⟩
  have := copy_okz l.length l 0 ((4 - (copyO l).length % 4) % 4) (by omega) (by simpa using h3)
  simpa [copiedO, pad4] using this
end Go.Proofs.Ytelfemhnijnhfaa.Fr
