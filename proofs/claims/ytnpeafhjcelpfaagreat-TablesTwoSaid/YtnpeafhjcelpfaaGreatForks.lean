/- The document's count of nodes: the nodes without a value are the prefixes that fork, each once; no condition. -/
import Derived.Test.YtnpeafhjcelpfaaGreatTree2
namespace Go.Proofs.YtnpeafhjcelpfaaGreat.Tri
set_option linter.unusedVariables false

/-- The prefixes of the nodes without a value. -/
def bareOwn (p : Px) : Option Int → List Px
  | none => [p]
  | some _ => []
def bare : T → List Px
  | .nil => []
  | .node p v l r => bareOwn p v ++ (bare l ++ bare r)
def FirstAt (l : List Ent) (q : Px) (i : Nat) : Prop := (∃ e, l[i]? = some e ∧ ins e.1 q) ∧ ∀ (j : Nat) (e : Ent), j < i → l[j]? = some e → ¬ ins e.1 q
def Forks (l : List Ent) (q : Px) : Prop := (∀ v, (q, v) ∉ l) ∧ (∃ e, e ∈ l ∧ onSide e.1 q 0) ∧ (∃ e, e ∈ l ∧ onSide e.1 q 1)
theorem FirstAt.one {l : List Ent} {q : Px} {i j : Nat} (h1 : FirstAt l q i) (h2 : FirstAt l q j) : i = j := by
  obtain ⟨⟨e, a1, a2⟩, a3⟩ := h1
  obtain ⟨⟨f, b1, b2⟩, b3⟩ := h2
  rcases Nat.lt_trichotomy i j with h | h | h
  · exact absurd a2 (b3 i e h a1)
  · exact h
  · exact absurd b2 (a3 j f h b1)
theorem firstAt_some {q : Px} : ∀ {l : List Ent}, (∃ e, e ∈ l ∧ ins e.1 q) → ∃ i, FirstAt l q i
  | [], h => by obtain ⟨e, he, _⟩ := h; simp at he
  | x :: l, h => by
    by_cases hx : ins x.1 q
    · exact ⟨0, ⟨x, by simp, hx⟩, fun j e hj => absurd hj (Nat.not_lt_zero _)⟩
    · obtain ⟨e, he, hi⟩ := h
      have hel : e ∈ l := by
        rcases List.mem_cons.1 he with rfl | h
        · exact absurd hi hx
        · exact h
      obtain ⟨i, ⟨f, f1, f2⟩, f3⟩ := firstAt_some (l := l) ⟨e, hel, hi⟩
      refine ⟨i + 1, ⟨f, by simpa using f1, f2⟩, fun j e hj he => ?_⟩
      cases j with
      | zero => simp at he; subst he; exact hx
      | succ j => exact f3 j e (by omega) (by simpa using he)
def qOf (e : Ent) (k : Nat) : Px := ⟨maskOf e.1.a k, k⟩
theorem qOf_ins {e : Ent} {q : Px} (hq : q.ok) (h : ins e.1 q) : qOf e q.n = q := by
  have h1 := hq.2.2
  have : maskOf e.1.a q.n = q.a := by rw [← h1]; exact maskOf_eq.2 h.2
  unfold qOf
  rw [this]
open Classical in
noncomputable def rowL (l : List Ent) (i : Nat) (e : Ent) : Nat → List Px
  | 0 => []
  | k + 1 => rowL l i e k ++ (if FirstAt l (qOf e k) i ∧ Forks l (qOf e k) then [qOf e k] else [])
noncomputable def allL (l : List Ent) : Nat → List Px
  | 0 => []
  | i + 1 => allL l i ++ (match l[i]? with
    | some e => rowL l i e e.1.n
    | none => [])
theorem rowL_le (l : List Ent) (i : Nat) (e : Ent) : ∀ k, (rowL l i e k).length ≤ k
  | 0 => Nat.le_refl _
  | k + 1 => by
    have := rowL_le l i e k
    simp only [rowL, List.length_append]
    split <;> simp <;> omega
theorem allL_le {l : List Ent} (h : ∀ e ∈ l, e.1.ok) : ∀ m, (allL l m).length ≤ 32 * m
  | 0 => Nat.le_refl _
  | m + 1 => by
    have := allL_le h m
    simp only [allL, List.length_append]
    split
    · rename_i e he
      have h1 := rowL_le l m e e.1.n
      have h2 := (h e (List.mem_of_getElem? he)).1
      omega
    · simp; omega
theorem mem_rowL {l : List Ent} {i : Nat} {e : Ent} {q : Px} : ∀ {k : Nat}, q ∈ rowL l i e k ↔ ∃ j, j < k ∧ q = qOf e j ∧ FirstAt l q i ∧ Forks l q
  | 0 => by simp [rowL]
  | k + 1 => by
    simp only [rowL, List.mem_append, mem_rowL (k := k)]
    constructor
    · rintro (⟨j, h1, h2⟩ | h)
      · exact ⟨j, by omega, h2⟩
      · split at h
        · rename_i hc
          simp at h
          subst h
          exact ⟨k, by omega, rfl, hc⟩
        · simp at h
    · rintro ⟨j, h1, rfl, h3⟩
      rcases Nat.lt_or_ge j k with h | h
      · exact .inl ⟨j, h, rfl, h3⟩
      · obtain rfl : j = k := by omega
        exact .inr (by rw [if_pos h3]; simp)
theorem mem_allL {l : List Ent} {q : Px} : ∀ {m : Nat}, q ∈ allL l m ↔ ∃ i e, i < m ∧ l[i]? = some e ∧ ∃ j, j < e.1.n ∧ q = qOf e j ∧ FirstAt l q i ∧ Forks l q
  | 0 => by simp [allL]
  | m + 1 => by
    simp only [allL, List.mem_append, mem_allL (m := m)]
    constructor
    · rintro (⟨i, e, h1, h2⟩ | h)
      · exact ⟨i, e, by omega, h2⟩
      · split at h
        · rename_i e he
          exact ⟨m, e, by omega, he, mem_rowL.1 h⟩
        · simp at h
    · rintro ⟨i, e, h1, h2, h3⟩
      rcases Nat.lt_or_ge i m with h | h
      · exact .inl ⟨i, e, h, h2, h3⟩
      · obtain rfl : i = m := by omega
        refine .inr ?_
        rw [h2]
        exact mem_rowL.2 h3
theorem rowL_nodup (l : List Ent) (i : Nat) (e : Ent) : ∀ k, (rowL l i e k).Nodup
  | 0 => by simp [rowL]
  | k + 1 => by
    simp only [rowL]
    rw [List.nodup_append]
    refine ⟨rowL_nodup l i e k, by split <;> simp, fun a ha b hb hab => ?_⟩
    subst hab
    obtain ⟨j, h1, rfl, _⟩ := mem_rowL.1 ha
    split at hb
    · simp [qOf] at hb
      omega
    · simp at hb
theorem allL_nodup (l : List Ent) : ∀ m, (allL l m).Nodup
  | 0 => by simp [allL]
  | m + 1 => by
    simp only [allL]
    rw [List.nodup_append]
    refine ⟨allL_nodup l m, by split <;> first | exact rowL_nodup _ _ _ _ | simp, fun a ha b hb hab => ?_⟩
    subst hab
    obtain ⟨i, e, h1, h2, j, h3, h4, h5, _⟩ := mem_allL.1 ha
    split at hb
    · obtain ⟨j', _, _, h6, _⟩ := mem_rowL.1 hb
      have := h5.one h6
      omega
    · simp at hb
/-! ### the nodes without a value are the forks -/
theorem ents_some {t : T} (h : Ok t) (hn : t ≠ .nil) : ∃ e, e ∈ ents t := by
  cases t with
  | nil => exact absurd rfl hn
  | node p v l r =>
    obtain ⟨h1, h2, h3, h4, h5, h6⟩ := h
    cases v with
    | some v => exact ⟨(p, v), by simp [ents, own]⟩
    | none =>
      obtain ⟨e, he⟩ := ents_some h5 (h2 rfl).1
      exact ⟨e, by simp [ents, he]⟩
theorem bare_in : ∀ (t : T), Ok t → ∀ p v l r, t = .node p v l r → ∀ q ∈ bare t, q.ok ∧ ins q p
  | .nil, _ => by intro p v l r h; cases h
  | .node p v l r, h => by
    intro p' v' l' r' e0 q hq
    injection e0 with e1 e2 e3 e4
    subst e1 e2 e3 e4
    obtain ⟨h1, h2, h3, h4, h5, h6⟩ := h
    simp only [bare, List.mem_append] at hq
    rcases hq with hq | hq | hq
    · cases v with
      | some v => simp [bareOwn] at hq
      | none => simp [bareOwn] at hq; subst hq; exact ⟨h1, ins_refl _⟩
    · cases l with
      | nil => simp [bare] at hq
      | node x vx lx rx =>
        have h7 := bare_in _ h5 x vx lx rx rfl q hq
        exact ⟨h7.1, ins_trans h5.1.1 h7.2 h3.2.1⟩
    · cases r with
      | nil => simp [bare] at hq
      | node x vx lx rx =>
        have h7 := bare_in _ h6 x vx lx rx rfl q hq
        exact ⟨h7.1, ins_trans h6.1.1 h7.2 h4.2.1⟩
theorem bare_side {p : Px} {b : Nat} {t : T} (h : Ok t) (hu : under p b t) : ∀ q ∈ bare t, onSide q p b := by
  cases t with
  | nil => intro e he; simp [bare] at he
  | node q v l r =>
    intro x hx
    have h1 := bare_in _ h q v l r rfl x hx
    exact onSide.of_ins h.1.1 hu h1.2
theorem bare_nodup : ∀ (t : T), Ok t → (bare t).Nodup
  | .nil, _ => by simp [bare]
  | .node p v l r, h => by
    obtain ⟨h1, h2, h3, h4, h5, h6⟩ := h
    simp only [bare]
    rw [List.nodup_append, List.nodup_append]
    refine ⟨by cases v <;> simp [bareOwn], ⟨bare_nodup l h5, bare_nodup r h6, fun a ha b hb hab => ?_⟩, fun a ha b hb hab => ?_⟩
    · subst hab
      have := sides_apart (bare_side h5 h3 a ha) (bare_side h6 h4 a hb)
      omega
    · subst hab
      have ha' : a = p := by cases v <;> simp [bareOwn] at ha; exact ha
      subst ha'
      rcases List.mem_append.1 hb with hb | hb
      · exact (bare_side h5 h3 _ hb).ne rfl
      · exact (bare_side h6 h4 _ hb).ne rfl
theorem bare_forks : ∀ (t : T), Ok t → ∀ q ∈ bare t, q.ok ∧ Forks (ents t) q
  | .nil, _ => by intro q hq; simp [bare] at hq
  | .node p v l r, h => by
    intro q hq
    have hOk := h
    have hqq := bare_in _ hOk p v l r rfl q hq
    obtain ⟨h1, h2, h3, h4, h5, h6⟩ := h
    simp only [bare, List.mem_append] at hq
    refine ⟨hqq.1, ?_⟩
    rcases hq with hq | hq | hq
    · cases v with
      | some v => simp [bareOwn] at hq
      | none =>
        simp [bareOwn] at hq
        subst hq
        obtain ⟨hl, hr⟩ := h2 rfl
        obtain ⟨e, he⟩ := ents_some h5 hl
        obtain ⟨f, hf⟩ := ents_some h6 hr
        refine ⟨fun u hu => ?_, ⟨e, by simp [ents, he], ents_side h5 h3 e he⟩, ⟨f, by simp [ents, hf], ents_side h6 h4 f hf⟩⟩
        simp only [ents, own, List.nil_append, List.mem_append] at hu
        rcases hu with hu | hu
        · exact (ents_side h5 h3 _ hu).ne rfl
        · exact (ents_side h6 h4 _ hu).ne rfl
    · obtain ⟨_, g1, ⟨e, g2, g3⟩, ⟨f, g4, g5⟩⟩ := bare_forks l h5 q hq
      have hs := bare_side h5 h3 q hq
      refine ⟨fun u hu => ?_, ⟨e, by simp [ents, g2], g3⟩, ⟨f, by simp [ents, g4], g5⟩⟩
      simp only [ents, List.mem_append, mem_own] at hu
      rcases hu with hu | hu | hu
      · exact hs.ne hu.1
      · exact g1 u hu
      · have := sides_apart hs (ents_side h6 h4 _ hu); omega
    · obtain ⟨_, g1, ⟨e, g2, g3⟩, ⟨f, g4, g5⟩⟩ := bare_forks r h6 q hq
      have hs := bare_side h6 h4 q hq
      refine ⟨fun u hu => ?_, ⟨e, by simp [ents, g2], g3⟩, ⟨f, by simp [ents, g4], g5⟩⟩
      simp only [ents, List.mem_append, mem_own] at hu
      rcases hu with hu | hu | hu
      · exact hs.ne hu.1
      · have := sides_apart (ents_side h5 h3 _ hu) hs; omega
      · exact g1 u hu
/-- Two on different sides of q, both below p on sides c and d: then p is q, or both are on one side of p. -/
theorem fork_at {p q e f : Px} (hp : p.ok) (hq : q.ok) (he : e.n ≤ 32) (hf : f.n ≤ 32) (h1 : onSide e q 0) (h2 : onSide f q 1) {c d : Nat} (h3 : onSide e p c) (h4 : onSide f p d) : c = d ∨ p = q := by
  rcases Nat.lt_trichotomy p.n q.n with h | h | h
  · left
    have i1 := ins_nest hq.1 h3.2.1 h1.2.1 (by omega)
    have i2 : onSide q p (bitOf q.a p.n) := ⟨h, i1, rfl⟩
    have j1 := onSide.of_ins hq.1 i2 h1.2.1
    have j2 := onSide.of_ins hq.1 i2 h2.2.1
    exact (sides_apart h3 j1).trans (sides_apart h4 j2).symm
  · right
    have i1 := ins_nest hq.1 h3.2.1 h1.2.1 (by omega)
    exact (Px.ext' hp hq h (by have := i1.2; exact this.symm))
  · exfalso
    have i1 := ins_nest hp.1 h1.2.1 h3.2.1 (by omega)
    have i2 : onSide p q (bitOf p.a q.n) := ⟨h, i1, rfl⟩
    have j1 := onSide.of_ins hp.1 i2 h3.2.1
    have j2 := onSide.of_ins hp.1 i2 h4.2.1
    have := sides_apart h1 j1
    have := sides_apart h2 j2
    omega
theorem forks_bare : ∀ (t : T), Ok t → ∀ q, q.ok → Forks (ents t) q → q ∈ bare t
  | .nil, _ => by intro q hq h; obtain ⟨_, ⟨e, he, _⟩, _⟩ := h; simp [ents] at he
  | .node p v l r, h => by
    intro q hq hfk
    have hOk := h
    obtain ⟨h1, h2, h3, h4, h5, h6⟩ := h
    obtain ⟨g1, ⟨e, g2, g3⟩, ⟨f, g4, g5⟩⟩ := hfk
    have hin := ents_in _ hOk p v l r rfl
    have hoke := ents_ok hOk
    have i1 := hin e g2
    have i2 := hin f g4
    -- neither is the node's own
    have hne : ∀ (x y : Ent) (c d : Nat), x ∈ ents (.node p v l r) → y ∈ ents (.node p v l r) → onSide x.1 q c → onSide y.1 q d → c ≠ d → x.1 ≠ p := by
      intro x y c d hx hy hxc hyd hcd hxp
      have := hin y hy
      have j := onSide.of_ins (hoke x hx).1 hxc (by rw [hxp]; exact this.2)
      exact hcd (sides_apart j hyd)
    have ne1 := hne e f 0 1 g2 g4 g3 g5 (by decide)
    have ne2 := hne f e 1 0 g4 g2 g5 g3 (by decide)
    simp only [ents, List.mem_append] at g1 g2 g4
    have g2' : e ∈ ents l ∨ e ∈ ents r := by
      rcases g2 with g | g
      · exact absurd (mem_own (u := e.2).1 g).1 ne1
      · exact g
    have g4' : f ∈ ents l ∨ f ∈ ents r := by
      rcases g4 with g | g
      · exact absurd (mem_own (u := f.2).1 g).1 ne2
      · exact g
    simp only [bare, List.mem_append]
    have cross : ∀ c d : Nat, c ≠ d → onSide e.1 p c → onSide f.1 p d → q ∈ bareOwn p v ∨ q ∈ bare l ∨ q ∈ bare r := by
      intro c d hcd hc hd
      rcases fork_at h1 hq i1.1.1 i2.1.1 g3 g5 hc hd with h | h
      · exact absurd h hcd
      · subst h
        left
        cases v with
        | none => simp [bareOwn]
        | some v => exact absurd (.inl (by simp [own])) (g1 v)
    rcases g2' with a | a
    · rcases g4' with b | b
      · exact .inr (.inl (forks_bare l h5 q hq ⟨fun u hu => g1 u (.inr (.inl hu)), ⟨e, a, g3⟩, ⟨f, b, g5⟩⟩))
      · exact cross 0 1 (by decide) (ents_side h5 h3 _ a) (ents_side h6 h4 _ b)
    · rcases g4' with b | b
      · exact cross 1 0 (by decide) (ents_side h6 h4 _ a) (ents_side h5 h3 _ b)
      · exact .inr (.inr (forks_bare r h6 q hq ⟨fun u hu => g1 u (.inr (.inr hu)), ⟨e, a, g3⟩, ⟨f, b, g5⟩⟩))
theorem nodup_len : ∀ (l m : List Px), l.Nodup → (∀ x ∈ l, x ∈ m) → l.length ≤ m.length
  | [], m, _, _ => Nat.zero_le _
  | x :: l, m, h, hs => by
    have hx := hs x (by simp)
    obtain ⟨h1, h2⟩ := List.nodup_cons.1 h
    have := nodup_len l (m.erase x) h2 (fun y hy => (List.mem_erase_of_ne (fun e => h1 (by rw [← e]; exact hy))).2 (hs y (List.mem_cons_of_mem _ hy)))
    rw [List.length_erase_of_mem hx] at this
    have := List.length_pos_of_mem hx
    simp only [List.length_cons]
    omega
theorem all_bare {t : T} (h : Ok t) : (allL (ents t) (ents t).length).length = (bare t).length := by
  apply Nat.le_antisymm
  · refine nodup_len _ _ (allL_nodup _ _) fun q hq => ?_
    obtain ⟨i, e, h1, h2, j, h3, h4, h5, h6⟩ := mem_allL.1 hq
    refine forks_bare t h q ?_ h6
    have := ents_ok h e (List.mem_of_getElem? h2)
    subst h4
    exact mask_ok this.2.1 (by have := this.1; omega)
  · refine nodup_len _ _ (bare_nodup t h) fun q hq => ?_
    obtain ⟨h1, h2⟩ := bare_forks t h q hq
    obtain ⟨e, he, hs⟩ := h2.2.1
    obtain ⟨i, hi⟩ := firstAt_some (l := ents t) ⟨e, he, hs.2.1⟩
    obtain ⟨f, f1, f2⟩ := hi.1
    have hfm := List.mem_of_getElem? f1
    refine mem_allL.2 ⟨i, f, (List.getElem?_eq_some_iff.1 f1).1, f1, q.n, ?_, (qOf_ins h1 f2).symm, hi, h2⟩
    rcases Nat.lt_or_ge q.n f.1.n with hlt | hge
    · exact hlt
    · exfalso
      have hok := ents_ok h f hfm
      have e1 : f.1.n = q.n := by have := f2.1; omega
      have e2 : f.1 = q := Px.ext' hok h1 e1 (by rw [e1]; exact f2.2)
      exact h2.1 f.2 (by rw [← e2]; exact hfm)
end Go.Proofs.YtnpeafhjcelpfaaGreat.Tri
