/- Three pairs of Timers beside one another; a list of steps that came in; no condition. -/
import Derived.Test.YtjnhldcgemcjbaaU
namespace Go.Proofs.Ytjnhldcgemcjbaa.Tm
open Go.RowKit Go.Maps
set_option linter.unusedVariables false

/-- No Timers in both, or one in both. -/
def Opt (w : World) (tv rv : Value) (lim : Int) (F : List Nat) : Prop :=
  (tv = .pointer none ∧ rv = .pointer none ∧ F = []) ∨ ∃ tb rb, tv = .pointer (some ⟨tb, 0, none⟩) ∧ rv = .pointer (some ⟨rb, 0, none⟩) ∧ Duo w tb rb lim F
theorem Duo.lt {w : World} {tb rb : Nat} {lim : Int} {F : List Nat} (h : Duo w tb rb lim F) : ∀ k ∈ F, k < w.heap.size := by
  obtain ⟨S, R, s, l, hB, rfl⟩ := h
  intro k hk
  rcases List.mem_append.1 hk with h1 | h1
  · exact hB.tim.lt k h1
  · exact hB.ref.lt k h1
theorem Duo.kept {w w' : World} {tb rb : Nat} {lim : Int} {F X : List Nat} (h : Duo w tb rb lim F) (t : Touch X w w') (hn : ∀ k ∈ F, k ∉ X) : Duo w' tb rb lim F := by
  obtain ⟨S, R, s, l, hB, rfl⟩ := h
  exact ⟨S, R, s, l, ⟨hB.tim.kept t (fun k hk => hn k (by simp [hk])), hB.ref.kept t (fun k hk => hn k (by simp [hk])), hB.apart, hB.vals, hB.len⟩, rfl⟩
theorem Opt.lt {w : World} {tv rv : Value} {lim : Int} {F : List Nat} (h : Opt w tv rv lim F) : ∀ k ∈ F, k < w.heap.size := by
  rcases h with ⟨_, _, rfl⟩ | ⟨tb, rb, _, _, h⟩
  · simp
  · exact h.lt
theorem Opt.kept {w w' : World} {tv rv : Value} {lim : Int} {F X : List Nat} (h : Opt w tv rv lim F) (t : Touch X w w') (hn : ∀ k ∈ F, k ∉ X) : Opt w' tv rv lim F := by
  rcases h with h | ⟨tb, rb, h1, h2, h⟩
  · exact .inl h
  · exact .inr ⟨tb, rb, h1, h2, h.kept t hn⟩

/-- Three pairs; what they use is none of N, and newer than w0. -/
structure Three (w0 : World) (l1 l2 : Int) (N : List Nat) (a b c d x y : Value) (wc : World) : Prop where
  all : ∃ F1 F2 F3, Opt wc a b l1 F1 ∧ Opt wc c d l2 F2 ∧ Opt wc x y l1 F3 ∧ (∀ k ∈ F1, k ∉ F2 ∧ k ∉ F3) ∧ (∀ k ∈ F2, k ∉ F3) ∧ ∀ k, (k ∈ F1 ∨ k ∈ F2 ∨ k ∈ F3) → w0.heap.size ≤ k ∧ k ∉ N
  touch : Touch [] w0 wc
  nlt : ∀ k ∈ N, k < wc.heap.size

theorem Three.near {w0 : World} {l1 l2 : Int} {N : List Nat} {a b c d x y : Value} {wc wd : World} (h : Three w0 l1 l2 N a b c d x y wc) (t : Touch [] wc wd) : Three w0 l1 l2 N a b c d x y wd := by
  obtain ⟨⟨F1, F2, F3, h1, h2, h3, h4⟩, h5, h6⟩ := h
  exact ⟨⟨F1, F2, F3, h1.kept t (by simp), h2.kept t (by simp), h3.kept t (by simp), h4⟩, h5.trans t (by simp), fun k hk => Nat.lt_of_lt_of_le (h6 k hk) t.size⟩
theorem Three.less {w0 : World} {l1 l2 : Int} {N : List Nat} {a b c d x y : Value} {wc : World} (h : Three w0 l1 l2 N a b c d x y wc) : Three w0 l1 l2 [] a b c d x y wc := by
  obtain ⟨⟨F1, F2, F3, h1, h2, h3, h4, h5, h6⟩, h7, h8⟩ := h
  exact ⟨⟨F1, F2, F3, h1, h2, h3, h4, h5, fun k hk => ⟨(h6 k hk).1, by simp⟩⟩, h7, by simp⟩
/-- A new box beside them. -/
theorem Three.box {w0 : World} {l1 l2 : Int} {a b c d x y : Value} {wc : World} (h : Three w0 l1 l2 [] a b c d x y wc) (o : Obj) : Three w0 l1 l2 [wc.heap.size] a b c d x y (wc.alloc o) := by
  obtain ⟨⟨F1, F2, F3, h1, h2, h3, h4, h5, h6⟩, h7, h8⟩ := h
  have t : Touch [] wc (wc.alloc o) := (Touch.refl _ _).alloc _
  refine ⟨⟨F1, F2, F3, h1.kept t (by simp), h2.kept t (by simp), h3.kept t (by simp), h4, h5, fun k hk => ⟨(h6 k hk).1, ?_⟩⟩, h7.trans t (by simp), by simp⟩
  have : k < wc.heap.size := by rcases hk with hk | hk | hk; exact h1.lt k hk; exact h2.lt k hk; exact h3.lt k hk
  simp; omega

theorem Three.play1 {w0 : World} {l1 l2 : Int} {N : List Nat} {tb rb : Nat} {c d x y : Value} {wc : World} (h : Three w0 l1 l2 N (.pointer (some ⟨tb, 0, none⟩)) (.pointer (some ⟨rb, 0, none⟩)) c d x y wc) :
    ∃ F, Duo wc tb rb l1 F ∧ (∀ k ∈ N, k ∉ F) ∧ ∀ wd, DuoPost wc tb rb l1 F wd → Three w0 l1 l2 N (.pointer (some ⟨tb, 0, none⟩)) (.pointer (some ⟨rb, 0, none⟩)) c d x y wd := by
  obtain ⟨⟨F1, F2, F3, h1, h2, h3, h4, h5, h6⟩, h7, h8⟩ := h
  rcases h1 with ⟨e, _⟩ | ⟨tb', rb', e1, e2, h1⟩
  · cases e
  cases e1; cases e2
  refine ⟨F1, h1, fun k hk hx => (h6 k (.inl hx)).2 hk, ?_⟩
  rintro wd ⟨F', g1, g2, g3⟩
  have hs := g2.size
  have hw := h7.size
  refine ⟨⟨F', F2, F3, .inr ⟨tb, rb, rfl, rfl, g1⟩, h2.kept g2 (fun k hk hx => (h4 k hx).1 hk), h3.kept g2 (fun k hk hx => (h4 k hx).2 hk), fun k hk => ?_, h5, fun k hk => ?_⟩, ?_, fun k hk => Nat.lt_of_lt_of_le (h8 k hk) hs⟩
  · rcases g3 k hk with q | q
    · exact h4 k q
    · exact ⟨fun hx => by have := h2.lt k hx; omega, fun hx => by have := h3.lt k hx; omega⟩
  · rcases hk with hk | hk | hk
    · rcases g3 k hk with q | q
      · exact h6 k (.inl q)
      · exact ⟨by omega, fun hx => by have := h8 k hx; omega⟩
    · exact h6 k (.inr (.inl hk))
    · exact h6 k (.inr (.inr hk))
  · exact h7.trans g2 (fun k hk => .inr (h6 k (.inl hk)).1)
theorem Three.play2 {w0 : World} {l1 l2 : Int} {N : List Nat} {tb rb : Nat} {a b x y : Value} {wc : World} (h : Three w0 l1 l2 N a b (.pointer (some ⟨tb, 0, none⟩)) (.pointer (some ⟨rb, 0, none⟩)) x y wc) :
    ∃ F, Duo wc tb rb l2 F ∧ (∀ k ∈ N, k ∉ F) ∧ ∀ wd, DuoPost wc tb rb l2 F wd → Three w0 l1 l2 N a b (.pointer (some ⟨tb, 0, none⟩)) (.pointer (some ⟨rb, 0, none⟩)) x y wd := by
  obtain ⟨⟨F1, F2, F3, h1, h2, h3, h4, h5, h6⟩, h7, h8⟩ := h
  rcases h2 with ⟨e, _⟩ | ⟨tb', rb', e1, e2, h2⟩
  · cases e
  cases e1; cases e2
  refine ⟨F2, h2, fun k hk hx => (h6 k (.inr (.inl hx))).2 hk, ?_⟩
  rintro wd ⟨F', g1, g2, g3⟩
  have hs := g2.size
  have hw := h7.size
  refine ⟨⟨F1, F', F3, h1.kept g2 (fun k hk hx => (h4 k hk).1 hx), .inr ⟨tb, rb, rfl, rfl, g1⟩, h3.kept g2 (fun k hk hx => h5 k hx hk), fun k hk => ⟨fun hx => ?_, (h4 k hk).2⟩, fun k hk => ?_, fun k hk => ?_⟩, ?_, fun k hk => Nat.lt_of_lt_of_le (h8 k hk) hs⟩
  · rcases g3 k hx with q | q
    · exact (h4 k hk).1 q
    · have := h1.lt k hk; omega
  · rcases g3 k hk with q | q
    · exact h5 k q
    · exact fun hx => by have := h3.lt k hx; omega
  · rcases hk with hk | hk | hk
    · exact h6 k (.inl hk)
    · rcases g3 k hk with q | q
      · exact h6 k (.inr (.inl q))
      · exact ⟨by omega, fun hx => by have := h8 k hx; omega⟩
    · exact h6 k (.inr (.inr hk))
  · exact h7.trans g2 (fun k hk => .inr (h6 k (.inr (.inl hk))).1)
theorem Three.play3 {w0 : World} {l1 l2 : Int} {N : List Nat} {tb rb : Nat} {a b c d : Value} {wc : World} (h : Three w0 l1 l2 N a b c d (.pointer (some ⟨tb, 0, none⟩)) (.pointer (some ⟨rb, 0, none⟩)) wc) :
    ∃ F, Duo wc tb rb l1 F ∧ (∀ k ∈ N, k ∉ F) ∧ ∀ wd, DuoPost wc tb rb l1 F wd → Three w0 l1 l2 N a b c d (.pointer (some ⟨tb, 0, none⟩)) (.pointer (some ⟨rb, 0, none⟩)) wd := by
  obtain ⟨⟨F1, F2, F3, h1, h2, h3, h4, h5, h6⟩, h7, h8⟩ := h
  rcases h3 with ⟨e, _⟩ | ⟨tb', rb', e1, e2, h3⟩
  · cases e
  cases e1; cases e2
  refine ⟨F3, h3, fun k hk hx => (h6 k (.inr (.inr hx))).2 hk, ?_⟩
  rintro wd ⟨F', g1, g2, g3⟩
  have hs := g2.size
  have hw := h7.size
  refine ⟨⟨F1, F2, F', h1.kept g2 (fun k hk hx => (h4 k hk).2 hx), h2.kept g2 (fun k hk hx => h5 k hk hx), .inr ⟨tb, rb, rfl, rfl, g1⟩, fun k hk => ⟨(h4 k hk).1, fun hx => ?_⟩, fun k hk hx => ?_, fun k hk => ?_⟩, ?_, fun k hk => Nat.lt_of_lt_of_le (h8 k hk) hs⟩
  · rcases g3 k hx with q | q
    · exact (h4 k hk).2 q
    · have := h1.lt k hk; omega
  · rcases g3 k hx with q | q
    · exact h5 k hk q
    · have := h2.lt k hk; omega
  · rcases hk with hk | hk | hk
    · exact h6 k (.inl hk)
    · exact h6 k (.inr (.inl hk))
    · rcases g3 k hk with q | q
      · exact h6 k (.inr (.inr q))
      · exact ⟨by omega, fun hx => by have := h8 k hx; omega⟩
  · exact h7.trans g2 (fun k hk => .inr (h6 k (.inr (.inr hk))).1)
/-- The third pair is begun anew. -/
theorem Three.anew {w0 : World} {l1 l2 : Int} {N : List Nat} {a b c d x y x' y' : Value} {wc wd : World} (h : Three w0 l1 l2 N a b c d x y wc) (t : Touch [] wc wd) {F : List Nat} (ho : Opt wd x' y' l1 F) (hF : ∀ k ∈ F, wc.heap.size ≤ k) : Three w0 l1 l2 N a b c d x' y' wd := by
  obtain ⟨⟨F1, F2, F3, h1, h2, h3, h4, h5, h6⟩, h7, h8⟩ := h
  have hs := h7.size
  refine ⟨⟨F1, F2, F, h1.kept t (by simp), h2.kept t (by simp), ho, fun k hk => ⟨(h4 k hk).1, fun hx => ?_⟩, fun k hk hx => ?_, fun k hk => ?_⟩, h7.trans t (by simp), fun k hk => Nat.lt_of_lt_of_le (h8 k hk) t.size⟩
  · have := h1.lt k hk; have := hF k hx; omega
  · have := h2.lt k hk; have := hF k hx; omega
  · rcases hk with hk | hk | hk
    · exact h6 k (.inl hk)
    · exact h6 k (.inr (.inl hk))
    · have := hF k hk
      exact ⟨by omega, fun hx => by have := h8 k hx; omega⟩

/-- A Timers and the reference's, both just begun. -/
theorem duo_new {w w1 w2 : World} {lim : Int} {tb rb : Nat} {S : List Nat} {s : St} (hT : Tim w1 tb S lim s) (ht : Touch [] w w1) (hS : ∀ k ∈ S, w.heap.size ≤ k) (hl : s.hp.length = 0) (hv : ∀ y, val s y = none) (hR : RefO w2 rb [rb] lim []) (ht2 : Touch [] w1 w2) (hrb : w1.heap.size ≤ rb) :
    Duo w2 tb rb lim (S ++ [rb]) ∧ ∀ k ∈ S ++ [rb], w.heap.size ≤ k := by
  refine ⟨⟨S, [rb], s, [], ⟨hT.kept ht2 (by simp), hR, fun k hk hx => ?_, fun y => by rw [hv]; rfl, by rw [hl]; rfl⟩, rfl⟩, fun k hk => ?_⟩
  · have := hT.lt k hk; simp at hx; omega
  · rcases List.mem_append.1 hk with h | h
    · exact hS k h
    · simp at h; have := ht.size; omega
end Go.Proofs.Ytjnhldcgemcjbaa.Tm
