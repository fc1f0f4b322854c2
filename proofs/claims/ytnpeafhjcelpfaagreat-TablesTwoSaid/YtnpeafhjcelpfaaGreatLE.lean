/- The table of routes: has, put, drop, count; no condition. -/
import Derived.Test.YtnpeafhjcelpfaaGreatLD
import Derived.Test.YtnpeafhjcelpfaaGreatKI
namespace Go.Proofs.YtnpeafhjcelpfaaGreat.Tri
open Go.RowKit Go.Maps
set_option linter.unusedVariables false
set_option linter.unusedSimpArgs false
set_option maxRecDepth 100000

def rtsV (tb : Nat) : Value := .agg #[.pointer (some ⟨tb, 0, none⟩)]
set_option maxHeartbeats 4000000 in
theorem rcount_calls {w : World} {tb : Nat} {t : T} {S : List Nat} {k : Nat} (h : TrieAt w tb t S k) :
    Calls Tryz.prog 149 #[rtsV tb] w (fun e w' => e = .returned (.int .i64 k) ∧ Touch [] w w') := by
  have H := Lib.hid h
  clear h
  unfold rtsV
  go_enter Tryz.func149, Tryz.ntmps149
  go_wp2_with fail
  refine (len_calls (H.out.kept ((Touch.refl [] w).alloc _) (by simp))).mono ?_
  rintro e w1 ⟨rfl, hw1⟩
  subst hw1
  go_wp2
  go_ret
  exact ⟨rfl, (Touch.refl [] w).alloc _⟩
set_option maxHeartbeats 4000000 in
theorem rput_calls {w : World} {tb : Nat} {t : T} {S : List Nat} {k : Nat} (h : TrieAt w tb t S k) (o : OpR) (p : Px) (hpa : o.pa = p.a) (hpm : o.pm = p.n) (hp : p.ok) (hk : k < 4611686018427387904) :
    Calls Tryz.prog 152 #[rtsV tb, .agg (opC o)] w (fun e w' => e = .returned (.tuple #[]) ∧ ∃ S' k', TrieAt w' tb (hang t p o.v).1 S' k' ∧ Touch S w w' ∧ ∀ x ∈ S', x ∈ S ∨ w.heap.size ≤ x) := by
  have H := Lib.hid h
  have HP := Lib.hid hp
  have HK := Lib.hid hk
  clear h hp hk
  unfold rtsV opC
  rw [hpa, hpm]
  clear hpa hpm
  go_enter Tryz.func152, Tryz.ntmps152
  go_wp2_with fail
  refine (put_calls (H.out.kept (((Touch.refl [] w).alloc _).alloc _) (by simp)) p o.v HP.out HK.out).mono ?_
  rintro e w1 ⟨rfl, S', k', hT, ht, hS⟩
  have HT := Lib.hid hT
  have T1 := Lib.hid ht
  have HS := Lib.hid hS
  clear hT ht hS
  go_wp2
  go_end0
  refine ⟨rfl, S', k', HT.out, (((((Touch.refl [] w).alloc _).alloc _).mono (by simp)).trans T1.out (fun x hx => .inl hx)), fun x hx => ?_⟩
  rcases HS.out x hx with h | h
  · exact .inl h
  · simp at h; exact .inr (by omega)
set_option maxHeartbeats 4000000 in
theorem rdrop_calls {w : World} {tb : Nat} {t : T} {S : List Nat} {k : Nat} (h : TrieAt w tb t S k) (o : OpR) (p : Px) (hpa : o.pa = p.a) (hpm : o.pm = p.n) (hp : p.ok) (hk : k < 4611686018427387904) :
    Calls Tryz.prog 150 #[rtsV tb, .agg (opC o)] w (fun e w' => e = .returned (.tuple #[]) ∧ ((seek t p = none ∧ Touch [] w w') ∨ ∃ v, seek t p = some v ∧ ∃ S' k', TrieAt w' tb (take t p) S' k' ∧ Touch S w w' ∧ ∀ x ∈ S', x ∈ S)) := by
  have H := Lib.hid h
  have HP := Lib.hid hp
  have HK := Lib.hid hk
  clear h hp hk
  unfold rtsV opC
  rw [hpa, hpm]
  clear hpa hpm
  go_enter Tryz.func150, Tryz.ntmps150
  go_wp2_with fail
  refine (del_calls (H.out.kept (((Touch.refl [] w).alloc _).alloc _) (by simp)) p HP.out HK.out).mono ?_
  rintro e w1 (⟨hs, rfl, ht⟩ | ⟨v, hs, rfl, S', k', hT, ht, hS⟩)
  · have HS := Lib.hid hs
    have T1 := Lib.hid ht
    clear hs ht
    go_wp2
    go_end0
    exact ⟨rfl, .inl ⟨HS.out, (((Touch.refl [] w).alloc _).alloc _).trans T1.out (by simp)⟩⟩
  · have HS := Lib.hid hs
    have T1 := Lib.hid ht
    have HT := Lib.hid hT
    have HX := Lib.hid hS
    clear hs ht hT hS
    go_wp2
    go_end0
    exact ⟨rfl, .inr ⟨v, HS.out, S', k', HT.out, (((((Touch.refl [] w).alloc _).alloc _).mono (by simp)).trans T1.out (fun x hx => .inl hx)), HX.out⟩⟩
set_option maxHeartbeats 4000000 in
theorem rhas_calls {w : World} {tb : Nat} {t : T} {S : List Nat} {k : Nat} (h : TrieAt w tb t S k) (o : OpR) (p : Px) (hpa : o.pa = p.a) (hpm : o.pm = p.n) (hp : p.ok) :
    Calls Tryz.prog 151 #[rtsV tb, .agg (opC o)] w (fun e w' => e = .returned (.bool (seek t p).isSome) ∧ Touch [] w w') := by
  have H := Lib.hid h
  have HP := Lib.hid hp
  clear h hp
  unfold rtsV opC
  rw [hpa, hpm]
  clear hpa hpm
  go_enter Tryz.func151, Tryz.ntmps151
  go_wp2_with fail
  refine (get_calls (H.out.kept (((Touch.refl [] w).alloc _).alloc _) (by simp)) p HP.out).mono ?_
  rintro e w1 ⟨ht, (⟨hs, rfl⟩ | ⟨v, hs, rfl⟩)⟩
  · have HS := Lib.hid hs
    have T1 := Lib.hid ht
    clear hs ht
    unfold zeroRt
    go_wp2
    go_ret
    exact ⟨by rw [HS.out]; rfl, ((((Touch.refl [] w).alloc _).alloc _).trans T1.out (by simp)).alloc _⟩
  · have HS := Lib.hid hs
    have T1 := Lib.hid ht
    clear hs ht
    unfold rtV
    go_wp2
    go_ret
    exact ⟨by rw [HS.out]; rfl, ((((Touch.refl [] w).alloc _).alloc _).trans T1.out (by simp)).alloc _⟩
end Go.Proofs.YtnpeafhjcelpfaaGreat.Tri
