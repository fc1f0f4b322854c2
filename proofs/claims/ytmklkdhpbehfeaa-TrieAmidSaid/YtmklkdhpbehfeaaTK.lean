/- walk, Nodes; no condition. -/
import Derived.Test.YtmklkdhpbehfeaaTJ
namespace Go.Proofs.Ytmklkdhpbehfeaa.Tri
open Go.RowKit Go.Maps
set_option linter.unusedVariables false

def CountPost (w : World) (c : Nat) (n : Nat) (T : TypeId) (e : Ending) (w' : World) : Prop :=
  e = .returned (.bool true) ∧ Touch [c] w w' ∧ w'.heap[c]? = some (.cells #[.int .i64 n] T (0, 0))
theorem one_cells {w : World} {b : Nat} {x : Value} {T : TypeId} (h : w.heap[b]? = some (.cells #[x] T (0, 0))) : w.cell? ⟨b, 0, none⟩ = some x ∧ w.frozen? ⟨b, 0, none⟩ = false := by
  constructor <;> simp [World.cell?, World.frozen?, h]
set_option maxHeartbeats 400000 in
theorem count_one {w : World} {c n : Nat} {T : TypeId} (h : w.heap[c]? = some (.cells #[.int .i64 n] T (0, 0))) (hn : n + 1 < 9223372036854775808) (x : Value) :
    Calls Try.prog 56 #[x, .pointer (some ⟨c, 0, none⟩)] w (CountPost w c (n + 1) T) := by
  obtain ⟨c0, f0⟩ := one_cells h
  have H := Lib.hid h
  clear h
  go_enter Try.func56, Try.ntmps56
  go_wp2
  go_ret
  refine ⟨rfl, (Touch.refl _ _).setCell _ _ (.inl (by simp)), ?_⟩
  have := box_set (o := 0) H.out (.int .i64 ((n : Int) + 1))
  simpa using this
set_option maxHeartbeats 2000000 in
set_option maxRecDepth 100000 in
theorem walk_calls (c : Nat) (TT : TypeId) : ∀ (t : T) (pv : Value) (S : List Nat) (w : World) (n : Nat), Tr w t pv S → c ∉ S → n + tsize t < 9223372036854775808 → w.heap[c]? = some (.cells #[.int .i64 n] TT (0, 0)) →
    Calls Try.prog 55 #[pv, .func (.func 56) #[] #[.pointer (some ⟨c, 0, none⟩)]] w (CountPost w c (n + tsize t) TT)
  | .nil, pv, S, w, n, hT, hc, hn, hw => by
    obtain ⟨rfl, rfl⟩ := hT
    have H := Lib.hid hw
    clear hw
    go_enter Try.func55, Try.ntmps55
    go_wp2
    go_ret
    exact ⟨rfl, Touch.refl _ _, H.out⟩
  | .node q u l r, pv, S, w, n, hT, hc, hn, hw => by
    obtain ⟨b, pl, pr, Sl, Sr, rfl, hb, hl, hr, rfl, h1, h2, h3⟩ := hT
    obtain ⟨al, rfl⟩ := hl.ptr
    obtain ⟨ar, rfl⟩ := hr.ptr
    simp only [tsize] at hn ⊢
    have hcb : c ≠ b := fun e => hc (by simp [e])
    have hcl : c ∉ Sl := fun e => hc (by simp [e])
    have hcr : c ∉ Sr := fun e => hc (by simp [e])
    have IL := Lib.hid (fun w' (n' : Nat) (hT' : Tr w' l (.pointer al) Sl) (hn' : n' + tsize l < 9223372036854775808) hw' => walk_calls c TT l (.pointer al) Sl w' n' hT' hcl hn' hw')
    have IR := Lib.hid (fun w' (n' : Nat) (hT' : Tr w' r (.pointer ar) Sr) (hn' : n' + tsize r < 9223372036854775808) hw' => walk_calls c TT r (.pointer ar) Sr w' n' hT' hcr hn' hw')
    have HB := Lib.hid hb
    have HL := Lib.hid hl
    have HR := Lib.hid hr
    have HW := Lib.hid hw
    clear hb hl hr hw hc h1 h2 h3
    go_enter Try.func55, Try.ntmps55
    go_wp2_with fail
    refine (count_one HW.out (by omega) _).mono ?_
    rintro e w1 ⟨rfl, t1, hc1⟩
    have T1 := Lib.hid t1
    have C1 := Lib.hid hc1
    have B1 := Lib.hid (touch_box t1 HB.out (by simp; exact fun e => hcb e.symm))
    clear t1 hc1
    obtain ⟨_, _, _, _, c4, c5, _⟩ := node_cells B1.out
    go_wp2_with fail
    refine (IL.out w1 (n + 1) (HL.out.kept T1.out (by intro k hk; simp; rintro rfl; exact hcl hk)) (by omega) C1.out).mono ?_
    rintro e w2 ⟨rfl, t2, hc2⟩
    have T2 := Lib.hid (T1.out.trans t2 (fun k hk => .inl hk))
    have C2 := Lib.hid hc2
    have B2 := Lib.hid (touch_box T2.out HB.out (by simp; exact fun e => hcb e.symm))
    clear t2 hc2 c4 c5
    obtain ⟨_, _, _, _, c4, c5, _⟩ := node_cells B2.out
    go_wp2_with fail
    refine (IR.out w2 (n + 1 + tsize l) (HR.out.kept T2.out (by intro k hk; simp; rintro rfl; exact hcr hk)) (by omega) C2.out).mono ?_
    rintro e w3 ⟨rfl, t3, hc3⟩
    have T3 := Lib.hid (T2.out.trans t3 (fun k hk => .inl hk))
    have C3 := Lib.hid hc3
    clear t3 hc3 c4 c5
    go_wp2
    go_ret
    refine ⟨rfl, T3.out, ?_⟩
    rw [C3.out, show n + 1 + tsize l + tsize r = n + (tsize l + tsize r + 1) by omega]
set_option maxHeartbeats 1000000 in
theorem nodes_calls {w : World} {tb : Nat} {t : T} {S : List Nat} {k : Nat} (h : TrieAt w tb t S k) (hn : tsize t < 9223372036854775808) :
    Calls Try.prog 37 #[.pointer (some ⟨tb, 0, none⟩)] w fun e w' => e = .returned (.int .i64 (tsize t)) ∧ Touch [] w w' := by
  have hlt := h.lt
  obtain ⟨pv, S0, hb, hT, h1, rfl⟩ := h.at_
  have HT := Lib.hid hT
  have HLT := Lib.hid hlt
  have HB := Lib.hid hb
  have hmf : ∀ (fn : Fn) (first cap : Array Value) (w : World), (Instr.makeFunc fn first cap).run Try.prog w = .ok (.func fn first cap) w := fun _ _ _ _ => rfl
  clear hb hT h1 h hlt
  obtain ⟨W1, hW1⟩ : ∃ W1 : World, W1 = w.alloc (.cells #[.int .i64 0] 3) := ⟨_, rfl⟩
  have B1 := Lib.hid (show W1.heap[tb]? = some (.cells #[.pointer pv, .int .i64 k] 81 (0, 0)) by rw [hW1]; exact box_keep _ HB.out)
  have C1 := Lib.hid (show W1.heap[w.heap.size]? = some (.cells #[.int .i64 0] 3 (0, 0)) by rw [hW1]; exact box_at w _)
  have T1 := Lib.hid (show Touch [] w W1 by rw [hW1]; exact (Touch.refl [] w).alloc _)
  obtain ⟨c0, c1, f0, f1⟩ := two_cells B1.out
  rw [hW1] at c0
  go_enter Try.func37, Try.ntmps37
  go_wp2_with fail
  rw [← hW1]
  clear hW1
  refine (walk_calls w.heap.size 3 t (.pointer pv) S0 W1 0 (HT.out.kept T1.out (by simp)) (fun h => Nat.lt_irrefl _ (HLT.out _ (by simp [h]))) (by omega) C1.out).mono ?_
  rintro e w2 ⟨rfl, t2, hc2⟩
  have T2 := Lib.hid t2
  obtain ⟨e0, _⟩ := one_cells hc2
  clear t2 hc2 c0 c1 f0 f1
  go_wp2
  go_ret
  refine ⟨by simp, ?_⟩
  exact T1.out.trans T2.out (fun k hk => .inr (by simp at hk; omega))
end Go.Proofs.Ytmklkdhpbehfeaa.Tri
