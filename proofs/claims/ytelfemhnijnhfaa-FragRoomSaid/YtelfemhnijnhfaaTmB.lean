/- The Timers object: what its blocks hold; put; no condition. -/
import Derived.Test.YtelfemhnijnhfaaTmA
import Derived.Outline
import Derived.Lib.Hide
import Derived.RegionTactic
import Derived.BigRegion
import Derived.ChangeAlike
import Derived.BigQuiet
import Derived.Deep.QuietTactic
namespace Go.Proofs.Ytelfemhnijnhfaa.Fr.Tm
open Go.RowKit Go.Maps
set_option linter.unusedVariables false
set_option maxRecDepth 100000

/-- What a Timers holds: the heap, the places by id, how many of them. -/
structure St where
  hp : List Pr
  f : Int → Option Int
  n : Nat

def foot (tb : Nat) (V : Value) (mb : Nat) : List Nat := tb :: mb :: V.ownBlock.toList

/-- Block tb is a Timers that holds s. -/
structure TimersAt (w : World) (tb : Nat) (V : Value) (mb : Nat) (lim : Int) (s : St) : Prop where
  blk : w.heap[tb]? = some (.cells #[.int .i64 lim, V, .map (some mb)] 144 (0, 0))
  row : PRow w 149 V s.hp
  map : IMap w mb s.f s.n

theorem TimersAt.tb_lt {w : World} {tb : Nat} {V : Value} {mb : Nat} {lim : Int} {s : St} (h : TimersAt w tb V mb lim s) : tb < w.heap.size := (Array.getElem?_eq_some_iff.1 h.blk).1
theorem TimersAt.foot_lt {w : World} {tb : Nat} {V : Value} {mb : Nat} {lim : Int} {s : St} (h : TimersAt w tb V mb lim s) : ∀ k ∈ foot tb V mb, k < w.heap.size := by
  intro k hk
  simp [foot] at hk
  rcases hk with rfl | rfl | hk
  · exact h.tb_lt
  · exact h.map.lt
  · exact h.row.lt k hk
theorem TimersAt.mb_ne {w : World} {tb : Nat} {V : Value} {mb : Nat} {lim : Int} {s : St} (h : TimersAt w tb V mb lim s) : mb ≠ tb := by
  rintro rfl
  obtain ⟨es, clock, hm⟩ := h.map.isMap
  rw [h.blk] at hm; cases hm
theorem TimersAt.g_ne {w : World} {tb : Nat} {V : Value} {mb : Nat} {lim : Int} {s : St} (h : TimersAt w tb V mb lim s) : ∀ g, V.ownBlock = some g → g ≠ tb ∧ g ≠ mb := by
  intro g hg
  rcases h.row.2 with ⟨rfl, _⟩ | ⟨g', cap, cur, rfl, _, hh, _⟩
  · simp [Value.ownBlock] at hg
  · simp [Value.ownBlock] at hg
    subst hg
    constructor
    · rintro rfl; rw [h.blk] at hh; simp at hh
    · rintro rfl
      obtain ⟨es, clock, hm⟩ := h.map.isMap
      rw [hh] at hm; cases hm
theorem TimersAt.cells {w : World} {tb : Nat} {V : Value} {mb : Nat} {lim : Int} {s : St} (h : TimersAt w tb V mb lim s) :
    w.cell? ⟨tb, 0, none⟩ = some (.int .i64 lim) ∧ w.cell? ⟨tb, 1, none⟩ = some V ∧ w.cell? ⟨tb, 2, none⟩ = some (.map (some mb)) ∧ w.frozen? ⟨tb, 1, none⟩ = false := by
  have hb := h.blk
  simp [World.cell?, World.frozen?, hb]
theorem TimersAt.kept {w w' : World} {tb : Nat} {V : Value} {mb : Nat} {lim : Int} {s : St} (h : TimersAt w tb V mb lim s) {S : List Nat} (t : Touch S w w') (hn : ∀ k ∈ foot tb V mb, k ∉ S) : TimersAt w' tb V mb lim s :=
  ⟨(t.block tb h.tb_lt (hn tb (by simp [foot]))).trans h.blk, h.row.kept t (fun k hk => hn k (by simp [foot, hk])), h.map.kept t (hn mb (by simp [foot]))⟩

def putM (s : St) (i : Nat) (x : Pr) : St := ⟨s.hp.set i x, upd s.f x.1 (some i), if (s.f x.1).isSome then s.n else s.n + 1⟩

set_option maxHeartbeats 400000 in
theorem put_calls {w : World} {tb : Nat} {V : Value} {mb : Nat} {lim : Int} {s : St} (h : TimersAt w tb V mb lim s) (i : Int) (id at_ : Int) (h0 : 0 ≤ i) (hi : i < s.hp.length) (hid : wfi id) (hn : s.n < 9223372036854775807) :
    Calls Try.prog 72 #[.pointer (some ⟨tb, 0, none⟩), .int .i64 i, .agg #[.int .i64 id, .int .i64 at_]] w fun e w' => e = .returned (.tuple #[]) ∧ TimersAt w' tb V mb lim (putM s i.toNat (id, at_)) ∧ Touch (foot tb V mb) w w' := by
  obtain ⟨i, rfl⟩ := Int.eq_ofNat_of_zero_le h0
  obtain ⟨g, cap, rfl, hg, hcap, hlen, cur, hcur⟩ := h.row.formP (by omega)
  obtain ⟨c0, c1, c2, f1⟩ := h.cells
  have htb := h.tb_lt
  have hgne := (h.g_ne g rfl)
  have hp : s.hp[i]? = some (s.hp[i]'(by omega)) := List.getElem?_eq_getElem _
  obtain ⟨k0, k1, z0, z1⟩ := h.row.cell i _ hp
  have hgt : g ≠ tb := hgne.1
  have hst := h.row.stored rfl i (id, at_)
  have ht : Touch [g] w (((w.setCell ⟨g, i * 2, none⟩ (.int .i64 id)).setCell ⟨g, i * 2 + 1, none⟩ (.int .i64 at_)).alloc (.cells #[.int .i64 id, .int .i64 at_] 149)).drew.drew :=
    ((((Touch.refl [g] w).setCell _ _ (by simp)).setCell _ _ (by simp)).alloc _).drew.drew
  obtain ⟨w3, hrun, hm3, ht3⟩ := (h.map.kept ht (by simp; exact fun e => hgne.2 e.symm)).store id i hid (wfi_mk (by omega) (by omega)) hn
  have hfin : TimersAt w3 tb (.slice (some ⟨g, 0, none⟩) s.hp.length cap) mb lim (putM s i (id, at_)) ∧ Touch (foot tb (.slice (some ⟨g, 0, none⟩) s.hp.length cap) mb) w w3 := by
    have hall : Touch [g, mb] w w3 := (ht.mono (S' := [g, mb]) (fun x hx => .inl (by simp at hx ⊢; exact .inl hx))).trans ht3 (fun x hx => .inl (by simp at hx ⊢; exact .inr hx))
    refine ⟨⟨?_, ?_, hm3⟩, hall.mono (fun x hx => .inl (by simp [foot, Value.ownBlock] at hx ⊢; rcases hx with rfl | rfl <;> simp))⟩
    · rw [hall.block tb htb (by simp; exact ⟨fun e => hgt e.symm, fun e => h.mb_ne e.symm⟩)]; exact h.blk
    · have t2 : Touch [mb] (((w.setCell ⟨g, i * 2, none⟩ (.int .i64 id)).setCell ⟨g, i * 2 + 1, none⟩ (.int .i64 at_))) w3 :=
        ((((Touch.refl [mb] _).alloc (.cells #[.int .i64 id, .int .i64 at_] 149)).drew).drew).trans ht3 (fun x hx => .inl hx)
      exact hst.kept t2 (fun k hk => by simp [Value.ownBlock] at hk; subst hk; simp; exact hgne.2)
  have HF := Lib.hid hfin
  have hi' : (i : Int) < (s.hp.length : Int) := hi
  clear hfin hst ht hm3 ht3 hp hcur
  go_enter Try.func72, Try.ntmps72
  go_wp2
  go_region
  go_wp2
  go_region
  go_end0
  exact ⟨rfl, HF.out⟩
end Go.Proofs.Ytelfemhnijnhfaa.Fr.Tm
