/- Tries as trees: sought, taken, found, what lies inside; no condition. -/
import Derived.Test.YtnpeafhjcelpfaaGreatTree
namespace Go.Proofs.YtnpeafhjcelpfaaGreat.Tri
set_option linter.unusedVariables false

/-! ### sought -/
def seek : T → Px → Option Int
  | .nil, _ => none
  | .node q u l r, p => if q = p then u else if ins p q then (if bitOf p.a q.n = 0 then seek l p else seek r p) else none
theorem seek_is : ∀ (t : T) (p : Px) (v : Int), Ok t → p.ok → (seek t p = some v ↔ (p, v) ∈ ents t)
  | .nil, p, v, _, _ => by simp [seek, ents]
  | .node q u l r, p, v, h, hp => by
    have hOk := h
    obtain ⟨h1, h2, h3, h4, h5, h6⟩ := h
    unfold seek
    by_cases e : q = p
    · subst e
      rw [if_pos rfl]
      simp only [ents, List.mem_append, mem_own]
      constructor
      · intro hu; simp [hu]
      · rintro (hu | hm | hm)
        · exact hu.2
        · exact absurd hm (not_mem_top h5 h3 _)
        · exact absurd hm (not_mem_top h6 h4 _)
    · rw [if_neg e]
      by_cases hi : ins p q
      · rw [if_pos hi]
        have hs := side_of hi (fun e' => e e'.symm) hp h1
        simp only [ents, List.mem_append, mem_own]
        rcases bit_two p.a q.n with hb | hb
        · rw [if_pos hb, seek_is l p v h5 hp]
          rw [hb] at hs
          constructor
          · exact fun h => .inr (.inl h)
          · rintro (h | h | h)
            · exact absurd h.1.symm e
            · exact h
            · exact absurd h (not_mem_side h6 h4 hs (by decide) _)
        · rw [if_neg (by omega), seek_is r p v h6 hp]
          rw [hb] at hs
          constructor
          · exact fun h => .inr (.inr h)
          · rintro (h | h | h)
            · exact absurd h.1.symm e
            · exact absurd h (not_mem_side h5 h3 hs (by decide) _)
            · exact h
      · rw [if_neg hi]
        constructor
        · intro h; cases h
        · intro h; exact absurd (ents_in _ hOk q u l r rfl _ h).2 hi
theorem seek_none {t : T} {p : Px} (h : Ok t) (hp : p.ok) : seek t p = none ↔ ∀ v, (p, v) ∉ ents t := by
  constructor
  · intro hn v hm
    rw [(seek_is t p v h hp).2 hm] at hn; cases hn
  · intro hn
    cases hs : seek t p with
    | none => rfl
    | some v => exact absurd ((seek_is t p v h hp).1 hs) (hn v)

/-! ### taken -/
def settle : T → T
  | .nil => .nil
  | .node q u l r => if u.isSome then .node q u l r else match l, r with
    | .nil, r => r
    | l, .nil => l
    | l, r => .node q u l r
theorem settle_some (q : Px) (v : Int) (l r : T) : settle (.node q (some v) l r) = .node q (some v) l r := by simp [settle]
theorem settle_left (q : Px) (r : T) : settle (.node q none .nil r) = r := by simp [settle]
theorem settle_right (q : Px) (l : T) : settle (.node q none l .nil) = l := by cases l <;> simp [settle]
theorem settle_both {q : Px} {l r : T} (hl : l ≠ .nil) (hr : r ≠ .nil) : settle (.node q none l r) = .node q none l r := by
  cases l with
  | nil => exact absurd rfl hl
  | node => cases r with
    | nil => exact absurd rfl hr
    | node => simp [settle]
theorem ents_settle (t : T) : ents (settle t) = ents t := by
  cases t with
  | nil => rfl
  | node q u l r =>
    cases u with
    | some v => rw [settle_some]
    | none =>
      cases l with
      | nil => rw [settle_left]; simp [ents, own]
      | node => cases r with
        | nil => rw [settle_right]; simp [ents, own]
        | node => rw [settle_both (by simp) (by simp)]
/-- A tree whose top node alone may have become needless. -/
def Half : T → Prop
  | .nil => True
  | .node p v l r => p.ok ∧ under p 0 l ∧ under p 1 r ∧ Ok l ∧ Ok r
theorem under_le {x q : Px} {b c : Nat} {t : T} (hq : q.n ≤ 32) (hu : under q c t) (hx : onSide q x b) : under x b t := by
  cases t with
  | nil => trivial
  | node y v l r => exact onSide.of_ins hq hx hu.2.1
theorem settle_ok {t : T} (h : Half t) : Ok (settle t) := by
  cases t with
  | nil => trivial
  | node q u l r =>
    obtain ⟨h1, h2, h3, h4, h5⟩ := h
    cases u with
    | some v => rw [settle_some]; exact ⟨h1, by simp, h2, h3, h4, h5⟩
    | none =>
      cases l with
      | nil => rw [settle_left]; exact h5
      | node => cases r with
        | nil => rw [settle_right]; exact h4
        | node => rw [settle_both (by simp) (by simp)]; exact ⟨h1, by simp, h2, h3, h4, h5⟩
theorem settle_under {t : T} {x : Px} {b : Nat} (h : Half t) (hu : under x b t) : under x b (settle t) := by
  cases t with
  | nil => trivial
  | node q u l r =>
    obtain ⟨h1, h2, h3, h4, h5⟩ := h
    have hx : onSide q x b := hu
    cases u with
    | some v => rw [settle_some]; exact hu
    | none =>
      cases l with
      | nil => rw [settle_left]; exact under_le h1.1 h3 hx
      | node => cases r with
        | nil => rw [settle_right]; exact under_le h1.1 h2 hx
        | node => rw [settle_both (by simp) (by simp)]; exact hu
/-- taken: p has a value. -/
def take : T → Px → T
  | .nil, _ => .nil
  | .node q u l r, p => if q = p then settle (.node q none l r) else if bitOf p.a q.n = 0 then settle (.node q u (take l p) r) else settle (.node q u l (take r p))
structure Taken (t : T) (p : Px) (t' : T) : Prop where
  ok : Ok t'
  mem : ∀ q u, (q, u) ∈ ents t' ↔ (q ≠ p ∧ (q, u) ∈ ents t)
  under : ∀ x b, under x b t → under x b t'
theorem take_is : ∀ (t : T) (p : Px) (v : Int), Ok t → (p, v) ∈ ents t → Taken t p (take t p)
  | .nil, p, v, _, h => by simp [ents] at h
  | .node q u l r, p, v, h, hm => by
    have hOk := h
    have hin := ents_in _ hOk q u l r rfl _ hm
    obtain ⟨h1, h2, h3, h4, h5, h6⟩ := h
    unfold take
    by_cases e : q = p
    · subst e
      rw [if_pos rfl]
      have hh : Half (.node q none l r) := ⟨h1, h3, h4, h5, h6⟩
      refine ⟨settle_ok hh, fun x y => ?_, fun x b hx => settle_under hh hx⟩
      rw [ents_settle]
      have en : own q (none : Option Int) = [] := rfl
      simp only [ents, en, List.nil_append, List.mem_append, mem_own]
      constructor
      · rintro (h | h)
        · exact ⟨(ents_side h5 h3 _ h).ne, .inr (.inl h)⟩
        · exact ⟨(ents_side h6 h4 _ h).ne, .inr (.inr h)⟩
      · rintro ⟨hn, h | h | h⟩
        · exact absurd h.1 hn
        · exact .inl h
        · exact .inr h
    · rw [if_neg e]
      have hs := side_of hin.2 (fun e' => e e'.symm) hin.1 h1
      simp only [ents, List.mem_append, mem_own] at hm
      have hm' : (p, v) ∈ ents l ∨ (p, v) ∈ ents r := by
        rcases hm with hm | hm
        · exact absurd hm.1.symm e
        · exact hm
      rcases bit_two p.a q.n with hb | hb
      · rw [if_pos hb]
        rw [hb] at hs
        have hml : (p, v) ∈ ents l := by
          rcases hm' with h | h
          · exact h
          · exact absurd h (not_mem_side h6 h4 hs (by decide) _)
        obtain ⟨g1, g2, g3⟩ := take_is l p v h5 hml
        have hh : Half (.node q u (take l p) r) := ⟨h1, g3 q 0 h3, h4, g1, h6⟩
        refine ⟨settle_ok hh, fun x y => ?_, fun x b hx => settle_under hh hx⟩
        rw [ents_settle]
        simp only [ents, List.mem_append, mem_own, g2]
        constructor
        · rintro (h | h | h)
          · exact ⟨fun e' => e (h.1.symm.trans e'), .inl h⟩
          · exact ⟨h.1, .inr (.inl h.2)⟩
          · exact ⟨fun e' => by subst e'; exact not_mem_side h6 h4 hs (by decide) _ h, .inr (.inr h)⟩
        · rintro ⟨hn, h | h | h⟩
          · exact .inl h
          · exact .inr (.inl ⟨hn, h⟩)
          · exact .inr (.inr h)
      · rw [if_neg (by omega)]
        rw [hb] at hs
        have hmr : (p, v) ∈ ents r := by
          rcases hm' with h | h
          · exact absurd h (not_mem_side h5 h3 hs (by decide) _)
          · exact h
        obtain ⟨g1, g2, g3⟩ := take_is r p v h6 hmr
        have hh : Half (.node q u l (take r p)) := ⟨h1, h3, g3 q 1 h4, h5, g1⟩
        refine ⟨settle_ok hh, fun x y => ?_, fun x b hx => settle_under hh hx⟩
        rw [ents_settle]
        simp only [ents, List.mem_append, mem_own, g2]
        constructor
        · rintro (h | h | h)
          · exact ⟨fun e' => e (h.1.symm.trans e'), .inl h⟩
          · exact ⟨fun e' => by subst e'; exact not_mem_side h5 h3 hs (by decide) _ h, .inr (.inl h)⟩
          · exact ⟨h.1, .inr (.inr h.2)⟩
        · rintro ⟨hn, h | h | h⟩
          · exact .inl h
          · exact .inr (.inl h)
          · exact .inr (.inr ⟨hn, h⟩)

/-! ### found -/
def holds (p : Px) (a : Nat) : Prop := top a p.n = p.a / 2 ^ (32 - p.n)
theorem holds_top {p : Px} {a : Nat} : holds p a ↔ top a p.n = top p.a p.n := Iff.rfl
def pick (q : Px) (u : Option Int) (b : Option Ent) : Option Ent := match u with
  | some v => some (q, v)
  | none => b
/-- Find from a node on, with the best so far. -/
def find : T → Nat → Option Ent → Option Ent
  | .nil, _, b => b
  | .node q u l r, a, b =>
    if top a q.n = top q.a q.n then
      if q.n = 32 then pick q u b else if bitOf a q.n = 0 then find l a (pick q u b) else find r a (pick q u b)
    else b
/-- The longest that holds a. -/
structure Longest (l : List Ent) (a : Nat) (x : Option Ent) : Prop where
  some_ : ∀ e, x = some e → e ∈ l ∧ top a e.1.n = top e.1.a e.1.n ∧ ∀ e' ∈ l, top a e'.1.n = top e'.1.a e'.1.n → e'.1.n ≤ e.1.n
  none_ : x = none → ∀ e ∈ l, top a e.1.n ≠ top e.1.a e.1.n
theorem side_holds {q p : Px} {b a : Nat} (hq : q.n ≤ 32) (h : onSide q p b) (ha : top a q.n = top q.a q.n) : top a p.n = top p.a p.n ∧ bitOf a p.n = b := by
  have e1 := top_mono (m := p.n) (by have := h.1; omega) hq ha
  have e2 := top_mono (m := p.n + 1) (by have := h.1; omega) hq ha
  refine ⟨e1.trans h.2.1.2, ?_⟩
  rw [top_succ (by have := h.1; omega), top_succ (by have := h.1; omega)] at e2
  have := h.2.2
  omega
def FindIs (t : T) (a : Nat) : Prop := ∀ b : Option Ent,
    (∃ e, find t a b = some e ∧ e ∈ ents t ∧ top a e.1.n = top e.1.a e.1.n ∧ ∀ e' ∈ ents t, top a e'.1.n = top e'.1.a e'.1.n → e'.1.n ≤ e.1.n) ∨ (find t a b = b ∧ ∀ e ∈ ents t, top a e.1.n ≠ top e.1.a e.1.n)
theorem find_is (a : Nat) : ∀ (t : T), Ok t → FindIs t a
  | .nil, _ => fun b => .inr ⟨rfl, by simp [ents]⟩
  | .node q u l r, h => by
    intro b
    have hOk := h
    obtain ⟨h1, h2, h3, h4, h5, h6⟩ := h
    unfold find
    by_cases ht : top a q.n = top q.a q.n
    · rw [if_pos ht]
      have hown : ∀ e ∈ own q u, e = (q, e.2) ∧ u = some e.2 := fun e he => by
        obtain ⟨x, y⟩ := e
        obtain ⟨rfl, h⟩ := mem_own.1 he
        exact ⟨rfl, h⟩
      -- what the tree below gives
      have key : ∀ (s o : T) (c d : Nat), FindIs s a → Ok s → Ok o → under q c s → under q d o → c ≠ d → (∀ e, e ∈ ents (.node q u l r) ↔ e ∈ own q u ∨ e ∈ ents s ∨ e ∈ ents o) → bitOf a q.n = c →
          ∀ b', b' = pick q u b →
          (∃ e, find s a b' = some e ∧ e ∈ ents (.node q u l r) ∧ top a e.1.n = top e.1.a e.1.n ∧ ∀ e' ∈ ents (.node q u l r), top a e'.1.n = top e'.1.a e'.1.n → e'.1.n ≤ e.1.n) ∨ (find s a b' = b ∧ ∀ e ∈ ents (.node q u l r), top a e.1.n ≠ top e.1.a e.1.n) := by
        intro s o c d his hs ho hus huo hcd hmem hbit b' hb'
        have hno : ∀ e ∈ ents o, top a e.1.n ≠ top e.1.a e.1.n := fun e he hx => by
          have := side_holds (ents_ok ho e he).1 (ents_side ho huo e he) hx
          exact hcd (hbit.symm.trans this.2)
        rcases his b' with ⟨e, g1, g2, g3, g4⟩ | ⟨g1, g2⟩
        · refine .inl ⟨e, g1, (hmem e).2 (.inr (.inl g2)), g3, fun e' he' hx => ?_⟩
          rcases (hmem e').1 he' with h | h | h
          · have h7 := (hown e' h).1
            have h8 := (ents_side hs hus e g2).1
            rw [h7]; show q.n ≤ e.1.n; omega
          · exact g4 e' h hx
          · exact absurd hx (hno e' h)
        · rw [g1]
          cases u with
          | some v =>
            have hb2 : b' = _ := hb'
            subst hb2
            refine .inl ⟨(q, v), rfl, (hmem _).2 (.inl (by simp [own])), ht, fun e' he' hx => ?_⟩
            rcases (hmem e').1 he' with h | h | h
            · have h7 := (hown e' h).1
              rw [h7]; exact Nat.le_refl _
            · exact absurd hx (g2 e' h)
            · exact absurd hx (hno e' h)
          | none =>
            have hb2 : b' = _ := hb'
            subst hb2
            refine .inr ⟨rfl, fun e he => ?_⟩
            rcases (hmem e).1 he with h | h | h
            · simp [own] at h
            · exact g2 e h
            · exact hno e h
      by_cases h32 : q.n = 32
      · rw [if_pos h32]
        have hl : l = .nil := by
          cases l with
          | nil => rfl
          | node x _ _ _ => have := h3.1; have := h5.1.1; omega
        have hr : r = .nil := by
          cases r with
          | nil => rfl
          | node x _ _ _ => have := h4.1; have := h6.1.1; omega
        subst hl hr
        have := key .nil .nil (bitOf a q.n) (1 - bitOf a q.n) (find_is a .nil trivial) trivial trivial trivial trivial (by have := bitOf_lt a q.n; omega) (by intro e; simp [ents]) rfl _ rfl
        exact this
      · rw [if_neg h32]
        rcases bit_two a q.n with hb | hb
        · rw [if_pos hb]
          exact key l r 0 1 (find_is a l h5) h5 h6 h3 h4 (by decide) (by intro e; simp [ents]) hb _ rfl
        · rw [if_neg (by omega)]
          exact key r l 1 0 (find_is a r h6) h6 h5 h4 h3 (by decide) (by intro e; simp [ents]; constructor <;> (rintro (h | h | h) <;> simp [h])) hb _ rfl
    · rw [if_neg ht]
      refine .inr ⟨rfl, fun e he hx => ht ?_⟩
      have h7 := ents_in _ hOk q u l r rfl e he
      have e1 := top_mono (m := q.n) h7.2.1 h7.1.1 hx
      exact e1.trans h7.2.2
theorem find_longest {t : T} {a : Nat} (h : Ok t) : Longest (ents t) a (find t a none) := by
  rcases find_is a t h none with ⟨e, h1, h2, h3, h4⟩ | ⟨h1, h2⟩
  · rw [h1]
    exact ⟨(fun e' he => by injection he with he; subst he; exact ⟨h2, h3, h4⟩), (fun he => by cases he)⟩
  · rw [h1]
    exact ⟨(fun e' he => by cases he), fun _ => h2⟩

/-! ### inside -/
def below : T → Px → T
  | .nil, _ => .nil
  | .node q u l r, p => if ins q p then .node q u l r else if ins p q then (if bitOf p.a q.n = 0 then below l p else below r p) else .nil
theorem filter_none {l : List Ent} {p : Px} (h : ∀ e ∈ l, ¬ ins e.1 p) : l.filter (fun e => decide (ins e.1 p)) = [] := by
  rw [List.filter_eq_nil_iff]
  intro e he
  simpa using h e he
theorem below_is : ∀ (t : T) (p : Px), Ok t → p.ok → ents (below t p) = (ents t).filter (fun e => decide (ins e.1 p)) ∧ Ok (below t p)
  | .nil, p, _, _ => ⟨rfl, trivial⟩
  | .node q u l r, p, h, hp => by
    have hOk := h
    obtain ⟨h1, h2, h3, h4, h5, h6⟩ := h
    unfold below
    by_cases hi : ins q p
    · rw [if_pos hi]
      refine ⟨(List.filter_eq_self.2 fun e he => ?_).symm, hOk⟩
      have := ents_in _ hOk q u l r rfl e he
      simpa using ins_trans h1.1 this.2 hi
    · rw [if_neg hi]
      have hown : (own q u).filter (fun e => decide (ins e.1 p)) = [] := by
        cases u <;> simp [own, hi]
      by_cases hj : ins p q
      · rw [if_pos hj]
        have hs := side_of hj (fun e => hi (e ▸ ins_refl _)) hp h1
        have hno : ∀ (t : T) (c : Nat), Ok t → under q c t → c ≠ bitOf p.a q.n → ∀ e ∈ ents t, ¬ ins e.1 p := fun t c ht hu hc e he hx => by
          have s1 := ents_side ht hu e he
          have s2 := onSide.of_ins hp.1 hs hx
          exact hc (sides_apart s1 s2)
        rcases bit_two p.a q.n with hb | hb
        · rw [if_pos hb]
          obtain ⟨g1, g2⟩ := below_is l p h5 hp
          refine ⟨?_, g2⟩
          rw [g1]
          simp only [ents, List.filter_append, hown, List.nil_append]
          rw [filter_none (hno r 1 h6 h4 (by omega)), List.append_nil]
        · rw [if_neg (by omega)]
          obtain ⟨g1, g2⟩ := below_is r p h6 hp
          refine ⟨?_, g2⟩
          rw [g1]
          simp only [ents, List.filter_append, hown, List.nil_append]
          rw [filter_none (hno l 0 h5 h3 (by omega)), List.nil_append]
      · rw [if_neg hj]
        refine ⟨?_, trivial⟩
        rw [filter_none]
        · rfl
        · intro e he hx
          have h7 := ents_in _ hOk q u l r rfl e he
          rcases Nat.lt_or_ge q.n p.n with h | h
          · exact hj (ins_nest hp.1 h7.2 hx (by omega))
          · exact hi (ins_nest h1.1 hx h7.2 h)
end Go.Proofs.YtnpeafhjcelpfaaGreat.Tri
