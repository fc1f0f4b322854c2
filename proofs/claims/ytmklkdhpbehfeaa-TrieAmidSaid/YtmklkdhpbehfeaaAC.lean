/- A trie holds less than 2^33: no more prefixes are there; no condition. -/
import Derived.Test.YtmklkdhpbehfeaaTE
namespace Go.Proofs.Ytmklkdhpbehfeaa.Tri
set_option linter.unusedVariables false

theorem nodup_nat : ∀ (l m : List Nat), l.Nodup → (∀ x ∈ l, x ∈ m) → l.length ≤ m.length
  | [], m, _, _ => Nat.zero_le _
  | x :: l, m, h, hs => by
    have hx := hs x (by simp)
    obtain ⟨h1, h2⟩ := List.nodup_cons.1 h
    have := nodup_nat l (m.erase x) h2 (fun y hy => (List.mem_erase_of_ne (fun e => h1 (by rw [← e]; exact hy))).2 (hs y (List.mem_cons_of_mem _ hy)))
    rw [List.length_erase_of_mem hx] at this
    have := List.length_pos_of_mem hx
    simp only [List.length_cons]
    omega
def code (p : Px) : Nat := 2 ^ p.n + top p.a p.n
theorem top_lt {p : Px} (hp : p.ok) : top p.a p.n < 2 ^ p.n := by
  unfold top
  rw [Nat.div_lt_iff_lt_mul (Nat.two_pow_pos _), ← Nat.pow_add, show p.n + (32 - p.n) = 32 by have := hp.1; omega]
  exact hp.2.1
theorem code_lt {p : Px} (hp : p.ok) : code p < 2 ^ (p.n + 1) := by
  have := top_lt hp
  unfold code
  rw [Nat.pow_succ]; omega
theorem code_inj {p q : Px} (hp : p.ok) (hq : q.ok) (h : code p = code q) : p = q := by
  have h1 := code_lt hp
  have h2 := code_lt hq
  have h3 : 2 ^ p.n ≤ code p := Nat.le_add_right _ _
  have h4 : 2 ^ q.n ≤ code q := Nat.le_add_right _ _
  have hn : p.n = q.n := by
    rcases Nat.lt_trichotomy p.n q.n with g | g | g
    · have := Nat.pow_le_pow_right (n := 2) (by decide) (show p.n + 1 ≤ q.n from g); omega
    · exact g
    · have := Nat.pow_le_pow_right (n := 2) (by decide) (show q.n + 1 ≤ p.n from g); omega
  refine Px.ext' hp hq hn ?_
  unfold code at h
  rw [hn] at h ⊢
  omega
theorem few {t : T} (h : Ok t) : (ents t).length ≤ 8589934592 := by
  have hN : ((ents t).map fun e => code e.1).Nodup := by
    rw [List.Nodup, List.pairwise_map]
    refine List.Pairwise.imp_of_mem ?_ (ents_sorted t h)
    intro a b ha hb hab e
    have := code_inj (ents_ok h a ha) (ents_ok h b hb) e
    exact plt_ne hab this
  have := nodup_nat _ (List.range 8589934592) hN (fun x hx => by
    obtain ⟨e, he, rfl⟩ := List.mem_map.1 hx
    have ho := ents_ok h e he
    rw [List.mem_range]
    have h1 := code_lt ho
    have := Nat.pow_le_pow_right (n := 2) (by decide) (show e.1.n + 1 ≤ 33 by have := ho.1; omega)
    have h33 : (2 : Nat) ^ 33 = 8589934592 := by decide
    omega)
  rw [List.length_map, List.length_range] at this
  exact this
end Go.Proofs.Ytmklkdhpbehfeaa.Tri
