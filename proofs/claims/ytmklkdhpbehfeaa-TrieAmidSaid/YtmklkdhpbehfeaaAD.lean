/- amidst: what stands while it runs; no condition. -/
import Derived.Test.YtmklkdhpbehfeaaIN
import Derived.Test.YtmklkdhpbehfeaaPF
import Derived.Test.YtmklkdhpbehfeaaBN
import Derived.Test.YtmklkdhpbehfeaaAC
namespace Go.Proofs.Ytmklkdhpbehfeaa.Tri
open Go.RowKit Go.Maps Go.Shelf
set_option linter.unusedVariables false

theorem few_duo {w : World} {P : Duo} (h : DuoAt w P) : P.k ≤ 8589934592 := by rw [h.a.len]; exact few h.a.ok
theorem plays_A {kd wh : Int} {a : Nat} {m : Int} {A : Nat} {v : Int} (ha : a < 4294967296) (hA : A < 4294967296) (hkd : kd = 1 ∨ kd = 2 ∨ kd = 4) {w : World} {P : Duo} (h : DuoAt w P) :
    Calls Try.prog 60 #[.pointer (some ⟨P.tb, 0, none⟩), .pointer (some ⟨P.rb, 0, none⟩), opV kd wh a m A v] w (PlaysPost w P) := by
  have hk := few_duo h
  rcases hkd with rfl | rfl | rfl
  · exact plays_put h wh a m A v ha (by omega)
  · exact plays_del h wh a m A v ha (by omega)
  · exact plays_find h wh a m A v hA (by omega)
theorem tr_cells {w : World} : ∀ (t : T) (p : Value) (S : List Nat), Tr w t p S → ∀ x ∈ S, ∃ c f, w.heap[x]? = some (.cells c 90 f)
  | .nil, p, S, h => by obtain ⟨_, rfl⟩ := h; simp
  | .node q v l r, p, S, h => by
    obtain ⟨b, pl, pr, Sl, Sr, _, hb, hl, hr, rfl, _⟩ := h
    intro x hx
    simp only [List.mem_cons, List.mem_append] at hx
    rcases hx with rfl | hx | hx
    · exact ⟨_, _, hb⟩
    · exact tr_cells l _ _ hl x hx
    · exact tr_cells r _ _ hr x hx
theorem duo_cells {w : World} {P : Duo} (h : DuoAt w P) : ∀ x ∈ P.foot, ∃ c e f, w.heap[x]? = some (.cells c e f) ∧ e ≠ 96 := by
  intro x hx
  rcases List.mem_append.1 hx with hx | hx
  · obtain ⟨pv, S0, hb, hT, _, hS⟩ := h.a.at_
    rw [hS] at hx
    rcases List.mem_cons.1 hx with rfl | hx
    · exact ⟨_, _, _, hb, by decide⟩
    · obtain ⟨c, f, hc⟩ := tr_cells _ _ _ hT x hx
      exact ⟨_, _, _, hc, by decide⟩
  · rcases List.mem_cons.1 hx with rfl | hx
    · exact ⟨_, _, _, h.b.blk, by decide⟩
    · obtain ⟨c, hc⟩ := h.b.row.blk x (by simpa using hx)
      exact ⟨_, _, _, hc, by decide⟩
structure AmC where
  b6 : Nat
  tb : Nat
  rb : Nat
  B9 : Nat
  B10 : Nat
  B : Nat
  N : Nat
  za : Nat
  zm : Int
  a0 : Nat
  m0 : Int
  A3 : Option Addr
  n3 : Nat
  cap3 : Nat
structure AmC.ok (w : World) (C : AmC) : Prop where
  b6 : w.heap.size = C.b6
  tb : C.b6 + 1 + 1 < C.tb
  b9 : C.tb < C.B9
  rb : C.B9 < C.rb
  b10 : C.rb < C.B10
  b : C.B10 < C.B
  n : C.B + 1 < C.N
structure AmAt (w W : World) (C : AmC) (P : Duo) : Prop where
  duo : DuoAt W P
  tb : P.tb = C.tb
  rb : P.rb = C.rb
  foot : ∀ x ∈ P.foot, x = C.tb ∨ x = C.rb ∨ C.N ≤ x
  x6 : W.heap[C.b6]? = some (.cells #[.int .u32 C.za, .int .i64 C.zm] 32 (0, 0))
  x7 : W.heap[C.b6 + 1]? = some (.cells #[.slice C.A3 C.n3 C.cap3] 73 (0, 0))
  x8 : W.heap[C.b6 + 1 + 1]? = some (.cells #[.bool false] 4 (0, 0))
  x9 : W.heap[C.B9]? = some (.cells #[.pointer (some ⟨C.tb, 0, none⟩)] 25 (0, 0))
  x10 : W.heap[C.B10]? = some (.cells #[.pointer (some ⟨C.rb, 0, none⟩)] 120 (0, 0))
  seq : SeqAt W C.B C.tb C.a0 C.m0
  touch : Touch [] w W
theorem AmAt.kept {w W W' : World} {C : AmC} {P : Duo} (h : AmAt w W C P) (ho : C.ok w) {X : List Nat} (t : Touch X W W') (hx : ∀ x ∈ X, C.N ≤ x ∧ x ∉ P.foot) : AmAt w W' C P := by
  obtain ⟨o1, o2, o3, o4, o5, o6, o7⟩ := ho
  have no : ∀ b, b < C.N → b ∉ X := fun b hb hm => by have := (hx b hm).1; omega
  exact ⟨h.duo.kept t (fun x hx1 hx2 => (hx x hx2).2 hx1), h.tb, h.rb, h.foot, touch_box t h.x6 (no _ (by omega)), touch_box t h.x7 (no _ (by omega)), touch_box t h.x8 (no _ (by omega)), touch_box t h.x9 (no _ (by omega)), touch_box t h.x10 (no _ (by omega)),
    h.seq.kept t (no _ (by omega)) (no _ (by omega)), h.touch.trans t (fun x hx1 => .inr (by have := (hx x hx1).1; omega))⟩
theorem AmAt.step {w W W' : World} {C : AmC} {P P' : Duo} (h : AmAt w W C P) (ho : C.ok w) (hN : C.N ≤ W.heap.size) (s : DuoStep W P W' P') : AmAt w W' C P' := by
  obtain ⟨o1, o2, o3, o4, o5, o6, o7⟩ := ho
  have no : ∀ b, b < C.N → b ≠ C.tb → b ≠ C.rb → b ∉ P.foot := fun b hb h1 h2 hm => by rcases h.foot b hm with e | e | e <;> omega
  have t := s.touch
  refine ⟨s.at_, s.tb.trans h.tb, s.rb.trans h.rb, fun x hx => ?_, touch_box t h.x6 (no _ (by omega) (by omega) (by omega)), touch_box t h.x7 (no _ (by omega) (by omega) (by omega)), touch_box t h.x8 (no _ (by omega) (by omega) (by omega)), touch_box t h.x9 (no _ (by omega) (by omega) (by omega)), touch_box t h.x10 (no _ (by omega) (by omega) (by omega)),
    h.seq.kept t (no _ (by omega) (by omega) (by omega)) (no _ (by omega) (by omega) (by omega)), h.touch.trans t (fun x hx1 => .inr (by rcases h.foot x hx1 with e | e | e <;> omega))⟩
  rcases s.foot x hx with e | e
  · exact h.foot x e
  · exact .inr (.inr (by omega))
structure AmI (w W0 : World) (C : AmC) (B14 B15 c14 : Nat) (A14 : Option Addr) (L : List Ent) (Ds : List Nat) (pre : List Ent) (W : World) : Prop where
  ex : ∃ P, AmAt w W C P ∧ B14 ∉ P.foot ∧ B15 ∉ P.foot ∧ ∀ b, (Value.slice A14 L.length c14).ownBlock = some b → b ∉ P.foot
  n : W.heap[B15]? = some (.cells #[.int .i64 pre.length] 3 (0, 0))
  pf : pre <+: L
  x14 : W.heap[B14]? = some (.cells #[.slice A14 L.length c14] 131 (0, 0))
  row : VRow W 135 3 (.slice A14 L.length c14) L.length (flatE L)
  ds : ∀ D ∈ Ds, W.heap[D]? = some (.deferred (some []))
  size : W0.heap.size ≤ W.heap.size
theorem AmI.kept {w W0 W W' : World} {C : AmC} {B14 B15 c14 : Nat} {A14 : Option Addr} {L : List Ent} {Ds : List Nat} {pre : List Ent} (h : AmI w W0 C B14 B15 c14 A14 L Ds pre W) (ho : C.ok w) {X : List Nat} (t : Touch X W W') (hc : ∀ x ∈ X, C.N ≤ x ∧ (∀ c e f, W.heap[x]? ≠ some (.cells c e f)) ∧ x ∉ Ds) : AmI w W0 C B14 B15 c14 A14 L Ds pre W' := by
  obtain ⟨⟨P, h1, h2, h3, h4⟩, h5, h6, h7, h8, h9, h10⟩ := h
  have nc : ∀ b c e f, W.heap[b]? = some (.cells c e f) → b ∉ X := fun b c e f hb hx => (hc b hx).2.1 _ _ _ hb
  refine ⟨⟨P, h1.kept ho t (fun x hx => ⟨(hc x hx).1, fun hf => ?_⟩), h2, h3, h4⟩, touch_box t h5 (nc _ _ _ _ h5), h6, touch_box t h7 (nc _ _ _ _ h7), h8.kept t (fun k hk => ?_), fun D hD => touch_box t (h9 D hD) (fun hx => (hc D hx).2.2 hD), Nat.le_trans h10 t.size⟩
  · obtain ⟨c, e, f, hcc, _⟩ := duo_cells h1.duo x hf
    exact nc _ _ _ _ hcc hx
  · obtain ⟨c, hcc⟩ := h8.blk k hk
    exact nc _ _ _ _ hcc
theorem AmI.own {w W0 : World} {C : AmC} {B14 B15 c14 : Nat} {A14 : Option Addr} {L : List Ent} {Ds : List Nat} (ho : C.ok w) (hN : C.N ≤ W0.heap.size) (hD : ∀ D ∈ Ds, D < W0.heap.size) : OwnFrom W0.heap.size (AmI w W0 C B14 B15 c14 A14 L Ds) := by
  rintro s W W' row h hg hr
  have hr' : RowNo W W0.heap.size row := hr
  refine h.kept ho (touch_grown hg) (fun x hx => ⟨?_, fun c e f hb => hr'.cells hb hx, fun hd => ?_⟩)
  · have := (hr x (by simpa using hx)).1; omega
  · have := (hr x (by simpa using hx)).1
    have := hD x hd
    omega
theorem AmI.alloc {w W0 W : World} {C : AmC} {B14 B15 c14 : Nat} {A14 : Option Addr} {L : List Ent} {Ds : List Nat} {pre : List Ent} (h : AmI w W0 C B14 B15 c14 A14 L Ds pre W) (ho : C.ok w) (o : Obj) : AmI w W0 C B14 B15 c14 A14 L Ds pre (W.alloc o) :=
  h.kept ho ((Touch.refl [] W).alloc o) (by simp)
end Go.Proofs.Ytmklkdhpbehfeaa.Tri
