/- Tries as trees: what they hold; put, take, find; no condition. -/
import Derived.Test.YtnpeafhjcelpfaaGreatBits
namespace Go.Proofs.YtnpeafhjcelpfaaGreat.Tri
set_option linter.unusedVariables false

inductive T where
  | nil : T
  | node : Px → Option Int → T → T → T
abbrev Ent := Px × Int
def own (p : Px) : Option Int → List Ent
  | none => []
  | some v => [(p, v)]
def ents : T → List Ent
  | .nil => []
  | .node p v l r => own p v ++ (ents l ++ ents r)
def under (p : Px) (b : Nat) : T → Prop
  | .nil => True
  | .node q _ _ _ => onSide q p b
def Ok : T → Prop
  | .nil => True
  | .node p v l r => p.ok ∧ (v = none → l ≠ .nil ∧ r ≠ .nil) ∧ under p 0 l ∧ under p 1 r ∧ Ok l ∧ Ok r
theorem mem_own {p q : Px} {v : Option Int} {u : Int} : (q, u) ∈ own p v ↔ q = p ∧ v = some u := by
  cases v with
  | none => simp [own]
  | some v => simp only [own, List.mem_singleton, Prod.mk.injEq, Option.some.injEq]; exact ⟨fun ⟨h1, h2⟩ => ⟨h1, h2.symm⟩, fun ⟨h1, h2⟩ => ⟨h1, h2.symm⟩⟩
/-- All that a tree holds lies in its top. -/
theorem ents_in : ∀ (t : T), Ok t → ∀ p v l r, t = .node p v l r → ∀ e ∈ ents t, e.1.ok ∧ ins e.1 p
  | .nil, _ => by intro p v l r h; cases h
  | .node p v l r, h => by
    intro p' v' l' r' e0 e he
    injection e0 with e1 e2 e3 e4
    subst e1 e2 e3 e4
    obtain ⟨h1, h2, h3, h4, h5, h6⟩ := h
    simp only [ents, List.mem_append] at he
    rcases he with he | he | he
    · obtain ⟨q, u⟩ := e
      obtain ⟨rfl, _⟩ := mem_own.1 he
      exact ⟨h1, ins_refl _⟩
    · cases l with
      | nil => simp [ents] at he
      | node q vq lq rq =>
        have h7 := ents_in _ h5 q vq lq rq rfl e he
        exact ⟨h7.1, ins_trans h5.1.1 h7.2 h3.2.1⟩
    · cases r with
      | nil => simp [ents] at he
      | node q vq lq rq =>
        have h7 := ents_in _ h6 q vq lq rq rfl e he
        exact ⟨h7.1, ins_trans h6.1.1 h7.2 h4.2.1⟩
theorem ents_ok {t : T} (h : Ok t) : ∀ e ∈ ents t, e.1.ok := by
  cases t with
  | nil => intro e he; simp [ents] at he
  | node p v l r => exact fun e he => (ents_in _ h p v l r rfl e he).1
theorem ents_side {p : Px} {b : Nat} {t : T} (h : Ok t) (hu : under p b t) : ∀ e ∈ ents t, onSide e.1 p b := by
  cases t with
  | nil => intro e he; simp [ents] at he
  | node q v l r =>
    intro e he
    have h1 := ents_in _ h q v l r rfl e he
    exact onSide.of_ins h.1.1 hu h1.2
def Sorted (l : List Ent) : Prop := l.Pairwise (fun x y => plt x.1 y.1)
theorem ents_sorted : ∀ t, Ok t → Sorted (ents t)
  | .nil, _ => by simp [Sorted, ents]
  | .node p v l r, h => by
    obtain ⟨h1, h2, h3, h4, h5, h6⟩ := h
    unfold Sorted
    simp only [ents]
    rw [List.pairwise_append, List.pairwise_append]
    refine ⟨by cases v <;> simp [own], ⟨ents_sorted l h5, ents_sorted r h6, fun x hx y hy => ?_⟩, fun x hx y hy => ?_⟩
    · exact plt_sides h1 (ents_ok h5 x hx).1 (ents_ok h6 y hy).1 (ents_side h5 h3 x hx) (ents_side h6 h4 y hy)
    · obtain ⟨q, u⟩ := x
      obtain ⟨rfl, _⟩ := mem_own.1 hx
      rcases List.mem_append.1 hy with hy | hy
      · exact plt_of_side h1 (ents_side h5 h3 y hy)
      · exact plt_of_side h1 (ents_side h6 h4 y hy)
theorem sorted_head {x : Ent} {l : List Ent} (h : Sorted (x :: l)) : ∀ y ∈ l, plt x.1 y.1 := (List.pairwise_cons.1 h).1
theorem sorted_eq : ∀ (l m : List Ent), Sorted l → Sorted m → (∀ e, e ∈ l ↔ e ∈ m) → l = m
  | [], [], _, _, _ => rfl
  | [], y :: m, _, _, h => by have := (h y).2 (by simp); simp at this
  | x :: l, [], _, _, h => by have := (h x).1 (by simp); simp at this
  | x :: l, y :: m, hl, hm, h => by
    have hx := sorted_head hl
    have hy := sorted_head hm
    have hxy : x = y := by
      rcases List.mem_cons.1 ((h x).1 (by simp)) with e | e
      · exact e
      · rcases List.mem_cons.1 ((h y).2 (by simp)) with e2 | e2
        · exact e2.symm
        · exact absurd (plt_trans (hx y e2) (hy x e)) (fun h => plt_irrefl h)
    subst hxy
    rw [sorted_eq l m (List.pairwise_cons.1 hl).2 (List.pairwise_cons.1 hm).2 (fun e => ⟨fun he => ?_, fun he => ?_⟩)]
    · rcases List.mem_cons.1 ((h e).1 (List.mem_cons_of_mem _ he)) with e1 | e1
      · subst e1; exact absurd (hx _ he) (fun h => plt_irrefl h)
      · exact e1
    · rcases List.mem_cons.1 ((h e).2 (List.mem_cons_of_mem _ he)) with e1 | e1
      · subst e1; exact absurd (hy _ he) (fun h => plt_irrefl h)
      · exact e1
/-- Each prefix has one value. -/
theorem sorted_one {l : List Ent} (h : Sorted l) {q : Px} {u u' : Int} (h1 : (q, u) ∈ l) (h2 : (q, u') ∈ l) : u = u' := by
  induction l with
  | nil => simp at h1
  | cons x l ih =>
    have hx := sorted_head h
    rcases List.mem_cons.1 h1 with e1 | e1 <;> rcases List.mem_cons.1 h2 with e2 | e2
    · subst e1; injection e2 with _ e2; exact e2.symm
    · subst e1; exact absurd (hx _ e2) (fun h => plt_irrefl h)
    · subst e2; exact absurd (hx _ e1) (fun h => plt_irrefl h)
    · exact ih (List.pairwise_cons.1 h).2 e1 e2

/-! ### put -/
/-- The longest prefix that holds both. -/
def commonN (a b : Nat) : Nat → Nat
  | 0 => 0
  | n + 1 => if maskOf a (n + 1) = maskOf b (n + 1) then n + 1 else commonN a b n
def common (p q : Px) : Px := let n := commonN p.a q.a (min p.n q.n); ⟨maskOf p.a n, n⟩
theorem commonN_le (a b : Nat) : ∀ n, commonN a b n ≤ n
  | 0 => Nat.le_refl _
  | n + 1 => by
    unfold commonN
    split
    · exact Nat.le_refl _
    · exact Nat.le_succ_of_le (commonN_le a b n)
theorem commonN_eq {a b : Nat} (ha : a < 4294967296) (hb : b < 4294967296) : ∀ n, top a (commonN a b n) = top b (commonN a b n)
  | 0 => by unfold commonN; rw [top_zero ha, top_zero hb]
  | n + 1 => by
    unfold commonN
    split
    · rename_i h; exact maskOf_eq.1 h
    · exact commonN_eq ha hb n
theorem commonN_max {a b : Nat} : ∀ n m, m ≤ n → n ≤ 32 → top a m = top b m → m ≤ commonN a b n
  | 0, m, h, _, _ => by omega
  | n + 1, m, h, hn, e => by
    unfold commonN
    split
    · exact h
    · rename_i h1
      rcases Nat.lt_or_ge m (n + 1) with h2 | h2
      · exact commonN_max n m (by omega) (by omega) e
      · have : m = n + 1 := by omega
        subst this
        exact absurd (maskOf_eq.2 e) h1
/-- hang: the tree, and whether the prefix is new. -/
def hang : T → Px → Int → T × Bool
  | .nil, p, v => (.node p (some v) .nil .nil, true)
  | .node q u l r, p, v =>
    if q = p then (.node q (some v) l r, u.isNone)
    else if ins p q then
      if bitOf p.a q.n = 0 then (.node q u (hang l p v).1 r, (hang l p v).2)
      else (.node q u l (hang r p v).1, (hang r p v).2)
    else
      let c := common p q
      if c = p then
        if bitOf q.a c.n = 0 then (.node c (some v) (.node q u l r) .nil, true) else (.node c (some v) .nil (.node q u l r), true)
      else
        if bitOf q.a c.n = 0 then (.node c none (.node q u l r) (.node p (some v) .nil .nil), true) else (.node c none (.node p (some v) .nil .nil) (.node q u l r), true)
theorem hang_ne (t : T) (p : Px) (v : Int) : (hang t p v).1 ≠ .nil := by
  cases t with
  | nil => simp [hang]
  | node q u l r =>
    unfold hang
    simp only
    repeat' split
    all_goals simp
theorem mask_ok {a n : Nat} (ha : a < 4294967296) (hn : n ≤ 32) : Px.ok ⟨maskOf a n, n⟩ :=
  ⟨hn, Nat.lt_of_le_of_lt (maskOf_le _ _) ha, by show maskOf (maskOf a n) n = maskOf a n; rw [maskOf_eq]; exact top_mask a n⟩
structure CommonIs (p q c : Px) : Prop where
  ok : c.ok
  inp : ins p c
  inq : ins q c
  side : c ≠ p → onSide p c (bitOf p.a c.n) ∧ onSide q c (1 - bitOf p.a c.n)
theorem common_is {p q : Px} (hp : p.ok) (hq : q.ok) (h : ¬ ins p q) : CommonIs p q (common p q) := by
  have hn : commonN p.a q.a (min p.n q.n) ≤ min p.n q.n := commonN_le _ _ _
  have he := commonN_eq hp.2.1 hq.2.1 (min p.n q.n)
  have hm := commonN_max (a := p.a) (b := q.a) (min p.n q.n)
  have hp1 := hp.1
  have hq1 := hq.1
  generalize hc : commonN p.a q.a (min p.n q.n) = n at *
  have ec : common p q = ⟨maskOf p.a n, n⟩ := by unfold common; simp only [hc]
  rw [ec]
  have h1 : ins p ⟨maskOf p.a n, n⟩ := ⟨by show n ≤ p.n; omega, (top_mask p.a n).symm⟩
  have h2 : ins q ⟨maskOf p.a n, n⟩ := ⟨by show n ≤ q.n; omega, by show top q.a n = top (maskOf p.a n) n; rw [top_mask, he]⟩
  have hok := mask_ok (n := n) hp.2.1 (by omega)
  refine ⟨hok, h1, h2, fun hne => ?_⟩
  have hcq : (⟨maskOf p.a n, n⟩ : Px) ≠ q := by
    rintro e; rw [e] at h1; exact h h1
  have s1 := side_of h1 (fun e => hne e.symm) hp hok
  have s2 := side_of h2 (fun e => hcq e.symm) hq hok
  refine ⟨s1, ?_⟩
  have n1 := s1.1
  have n2 := s2.1
  simp only at n1 n2 s1 s2
  have hx : bitOf p.a n ≠ bitOf q.a n := by
    intro e
    have := hm (n + 1) (by omega) (by omega) (by rw [top_succ (by omega), top_succ (by omega), he, e])
    omega
  have b1 := bitOf_lt p.a n
  have b2 := bitOf_lt q.a n
  have : 1 - bitOf p.a n = bitOf q.a n := by omega
  show onSide q _ (1 - bitOf p.a n)
  rw [this]
  exact s2
/-- What hang does. -/
structure Hung (t : T) (p : Px) (v : Int) (t' : T) (f : Bool) : Prop where
  ok : Ok t'
  mem : ∀ q u, (q, u) ∈ ents t' ↔ (q = p ∧ u = v) ∨ (q ≠ p ∧ (q, u) ∈ ents t)
  fresh : f = true ↔ ∀ u, (p, u) ∉ ents t
  under : ∀ x b, under x b t → onSide p x b → under x b t'
theorem not_mem_side {p q : Px} {b c : Nat} {t : T} (h : Ok t) (hu : under q b t) (hp : onSide p q c) (hne : b ≠ c) (u : Int) : (p, u) ∉ ents t :=
  fun hm => hne (sides_apart (ents_side h hu _ hm) hp)
theorem not_mem_top {q : Px} {b : Nat} {t : T} (h : Ok t) (hu : under q b t) (u : Int) : (q, u) ∉ ents t :=
  fun hm => Nat.lt_irrefl _ (ents_side h hu _ hm).1
theorem ok_leaf {p : Px} (hp : p.ok) (v : Int) : Ok (.node p (some v) .nil .nil) := ⟨hp, by simp, trivial, trivial, trivial, trivial⟩
theorem bit_two (a n : Nat) : bitOf a n = 0 ∨ bitOf a n = 1 := by have := bitOf_lt a n; omega
theorem hang_is : ∀ (t : T) (p : Px) (v : Int), Ok t → p.ok → Hung t p v (hang t p v).1 (hang t p v).2
  | .nil, p, v, _, hp => by
    refine ⟨ok_leaf hp v, fun q u => ?_, by simp [hang, ents], fun x b _ h => h⟩
    simp [hang, ents, own]
  | .node q u l r, p, v, h, hp => by
    obtain ⟨h1, h2, h3, h4, h5, h6⟩ := h
    have hOk : Ok (.node q u l r) := ⟨h1, h2, h3, h4, h5, h6⟩
    unfold hang
    by_cases e : q = p
    · subst e
      rw [if_pos rfl]
      refine ⟨⟨h1, by simp, h3, h4, h5, h6⟩, fun x y => ?_, ?_, fun x b _ hs => hs⟩
      · simp only [ents, List.mem_append, mem_own]
        constructor
        · rintro (⟨rfl, h⟩ | h | h)
          · injection h with h; exact .inl ⟨rfl, h.symm⟩
          · exact .inr ⟨(ents_side h5 h3 _ h).ne, .inr (.inl h)⟩
          · exact .inr ⟨(ents_side h6 h4 _ h).ne, .inr (.inr h)⟩
        · rintro (⟨rfl, rfl⟩ | ⟨hn, h | h⟩)
          · exact .inl ⟨rfl, by first | rfl | trivial⟩
          · exact absurd h.1 hn
          · exact .inr h
      · simp only [ents, List.mem_append, mem_own]
        constructor
        · intro hu w hm
          rcases hm with hm | hm | hm
          · rw [hm.2] at hu; cases hu
          · exact not_mem_top h5 h3 _ hm
          · exact not_mem_top h6 h4 _ hm
        · intro hu
          cases u with
          | none => rfl
          | some w => exact absurd (by simp) (hu w)
    · rw [if_neg e]
      by_cases hi : ins p q
      · rw [if_pos hi]
        have hs := side_of hi (fun e' => e e'.symm) hp h1
        rcases bit_two p.a q.n with hb | hb
        · rw [if_pos hb]
          rw [hb] at hs
          obtain ⟨g1, g2, g3, g4⟩ := hang_is l p v h5 hp
          refine ⟨⟨h1, fun hv => ⟨hang_ne _ _ _, (h2 hv).2⟩, g4 q 0 h3 hs, h4, g1, h6⟩, fun x y => ?_, ?_, fun x b hx _ => hx⟩
          · simp only [ents, List.mem_append, mem_own, g2]
            constructor
            · rintro (h | (h | h) | h)
              · exact .inr ⟨fun e' => e (h.1.symm.trans e'), .inl h⟩
              · exact .inl h
              · exact .inr ⟨h.1, .inr (.inl h.2)⟩
              · exact .inr ⟨fun e' => by subst e'; exact not_mem_side h6 h4 hs (by decide) _ h, .inr (.inr h)⟩
            · rintro (h | ⟨hn, h | h | h⟩)
              · exact .inr (.inl (.inl h))
              · exact .inl h
              · exact .inr (.inl (.inr ⟨hn, h⟩))
              · exact .inr (.inr h)
          · rw [g3]
            simp only [ents, List.mem_append, mem_own]
            constructor
            · intro hf w hm
              rcases hm with hm | hm | hm
              · exact e hm.1.symm
              · exact hf w hm
              · exact not_mem_side h6 h4 hs (by decide) _ hm
            · exact fun hf w hm => hf w (.inr (.inl hm))
        · rw [if_neg (by omega)]
          rw [hb] at hs
          obtain ⟨g1, g2, g3, g4⟩ := hang_is r p v h6 hp
          refine ⟨⟨h1, fun hv => ⟨(h2 hv).1, hang_ne _ _ _⟩, h3, g4 q 1 h4 hs, h5, g1⟩, fun x y => ?_, ?_, fun x b hx _ => hx⟩
          · simp only [ents, List.mem_append, mem_own, g2]
            constructor
            · rintro (h | h | (h | h))
              · exact .inr ⟨fun e' => e (h.1.symm.trans e'), .inl h⟩
              · exact .inr ⟨fun e' => by subst e'; exact not_mem_side h5 h3 hs (by decide) _ h, .inr (.inl h)⟩
              · exact .inl h
              · exact .inr ⟨h.1, .inr (.inr h.2)⟩
            · rintro (h | ⟨hn, h | h | h⟩)
              · exact .inr (.inr (.inl h))
              · exact .inl h
              · exact .inr (.inl h)
              · exact .inr (.inr (.inr ⟨hn, h⟩))
          · rw [g3]
            simp only [ents, List.mem_append, mem_own]
            constructor
            · intro hf w hm
              rcases hm with hm | hm | hm
              · exact e hm.1.symm
              · exact not_mem_side h5 h3 hs (by decide) _ hm
              · exact hf w hm
            · exact fun hf w hm => hf w (.inr (.inr hm))
      · rw [if_neg hi]
        have hc := common_is hp h1 hi
        generalize common p q = c at hc
        obtain ⟨c1, c2, c3, c4⟩ := hc
        have hpn : ∀ w, (p, w) ∉ ents (.node q u l r) := fun w hm => hi (ents_in _ hOk q u l r rfl _ hm).2
        have hun : ∀ x b, onSide p x b → onSide q x b → ∀ l' v' r', under x b (.node c v' l' r') := by
          intro x b s1 s2 l' v' r'
          show onSide c x b
          have hx : ins c x := by
            rcases Nat.lt_or_ge x.n c.n with h | h
            · exact ins_nest c1.1 s1.2.1 c2 (by omega)
            · exfalso
              have hxc : ins x c := ins_nest (by have := s1.1; have := hp.1; omega) c2 s1.2.1 h
              by_cases hcp : c = p
              · subst hcp; have := s1.1; omega
              · obtain ⟨t1, t2⟩ := c4 hcp
                rcases Nat.lt_or_ge c.n x.n with h7 | h7
                · have w1 := top_mono (m := c.n + 1) (by omega) (by have := s1.1; have := hp.1; omega) s1.2.1.2
                  have w2 := top_mono (m := c.n + 1) (by omega) (by have := s1.1; have := hp.1; omega) s2.2.1.2
                  have w3 := w1.trans w2.symm
                  have := t1.1
                  rw [top_succ (by have := hp.1; omega), top_succ (by have := hp.1; omega), t1.2.1.2, t2.2.1.2, t1.2.2, t2.2.2] at w3
                  have := bitOf_lt p.a c.n
                  omega
                · have h8 : c.n = x.n := by omega
                  have b1 := t1.2.2
                  have b2 := t2.2.2
                  have b3 := s1.2.2
                  have b4 := s2.2.2
                  rw [h8] at b1 b2
                  have := bitOf_lt p.a x.n
                  omega
          rcases Nat.lt_or_ge x.n c.n with h | h
          · refine ⟨h, hx, ?_⟩
            have w1 := top_mono (m := x.n + 1) (by omega) c1.1 c2.2
            have w0 := top_mono (m := x.n) (by omega) c1.1 c2.2
            rw [top_succ (by have := c1.1; omega), top_succ (by have := c1.1; omega)] at w1
            have := s1.2.2
            omega
          · exfalso
            have hxn := hx.1
            have h8 : c.n = x.n := by omega
            by_cases hcp : c = p
            · subst hcp; have := s1.1; omega
            · obtain ⟨t1, t2⟩ := c4 hcp
              have b1 := t1.2.2
              have b2 := t2.2.2
              have b3 := s1.2.2
              have b4 := s2.2.2
              rw [h8] at b1 b2
              have := bitOf_lt p.a x.n
              omega
        by_cases hcp : c = p
        · subst hcp
          have hqc : q ≠ c := e
          have hsq := side_of c3 hqc h1 c1
          simp only [if_true]
          rcases bit_two q.a c.n with hb | hb
          · rw [if_pos hb]
            rw [hb] at hsq
            refine ⟨⟨c1, by simp, hsq, trivial, hOk, trivial⟩, fun x y => ?_, ?_, fun x b hx hs => hun x b hs hx _ _ _⟩
            · have e3 : ents (.node c (some v) (.node q u l r) .nil) = (c, v) :: ents (.node q u l r) := by simp [ents, own]
              rw [e3, List.mem_cons]
              constructor
              · rintro (h | h)
                · injection h with h h'; exact .inl ⟨h, h'⟩
                · exact .inr ⟨fun e' => by subst e'; exact hpn _ h, h⟩
              · rintro (⟨rfl, rfl⟩ | h)
                · exact .inl rfl
                · exact .inr h.2
            · exact ⟨fun _ => hpn, fun _ => rfl⟩
          · rw [if_neg (by omega)]
            rw [hb] at hsq
            refine ⟨⟨c1, by simp, trivial, hsq, trivial, hOk⟩, fun x y => ?_, ?_, fun x b hx hs => hun x b hs hx _ _ _⟩
            · have e3 : ents (.node c (some v) .nil (.node q u l r)) = (c, v) :: ents (.node q u l r) := by simp [ents, own]
              rw [e3, List.mem_cons]
              constructor
              · rintro (h | h)
                · injection h with h h'; exact .inl ⟨h, h'⟩
                · exact .inr ⟨fun e' => by subst e'; exact hpn _ h, h⟩
              · rintro (⟨rfl, rfl⟩ | h)
                · exact .inl rfl
                · exact .inr h.2
            · exact ⟨fun _ => hpn, fun _ => rfl⟩
        · simp only
          rw [if_neg hcp]
          obtain ⟨t1, t2⟩ := c4 hcp
          have b1 := t1.2.2
          have b2 := t2.2.2
          rcases bit_two q.a c.n with hb | hb
          · rw [if_pos hb]
            have hpb : bitOf p.a c.n = 1 := by have := bitOf_lt p.a c.n; omega
            rw [hpb] at t1 t2
            refine ⟨⟨c1, by simp, t2, t1, hOk, ok_leaf hp v⟩, fun x y => ?_, ⟨fun _ => hpn, fun _ => rfl⟩, fun x b hx hs => hun x b hs hx _ _ _⟩
            have e3 : ents (.node c none (.node q u l r) (.node p (some v) .nil .nil)) = ents (.node q u l r) ++ [(p, v)] := by simp [ents, own]
            rw [e3, List.mem_append, List.mem_singleton]
            constructor
            · rintro (h | h)
              · exact .inr ⟨fun e' => by subst e'; exact hpn _ h, h⟩
              · injection h with h h'; exact .inl ⟨h, h'⟩
            · rintro (⟨rfl, rfl⟩ | h)
              · exact .inr rfl
              · exact .inl h.2
          · rw [if_neg (by omega)]
            have hpb : bitOf p.a c.n = 0 := by have := bitOf_lt p.a c.n; omega
            rw [hpb] at t1 t2
            refine ⟨⟨c1, by simp, t1, t2, ok_leaf hp v, hOk⟩, fun x y => ?_, ⟨fun _ => hpn, fun _ => rfl⟩, fun x b hx hs => hun x b hs hx _ _ _⟩
            have e3 : ents (.node c none (.node p (some v) .nil .nil) (.node q u l r)) = (p, v) :: ents (.node q u l r) := by simp [ents, own]
            rw [e3, List.mem_cons]
            constructor
            · rintro (h | h)
              · injection h with h h'; exact .inl ⟨h, h'⟩
              · exact .inr ⟨fun e' => by subst e'; exact hpn _ h, h⟩
            · rintro (⟨rfl, rfl⟩ | h)
              · exact .inl rfl
              · exact .inr h.2
end Go.Proofs.YtnpeafhjcelpfaaGreat.Tri
