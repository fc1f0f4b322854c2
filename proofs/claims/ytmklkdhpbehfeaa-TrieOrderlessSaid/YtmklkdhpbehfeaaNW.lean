/- within: those of a list that lie inside a prefix; no condition. -/
import Derived.Test.YtmklkdhpbehfeaaNE
namespace Go.Proofs.Ytmklkdhpbehfeaa.Tri
open Go.RowKit Go.Maps
set_option linter.unusedVariables false

def ListPost (w : World) (M : List Px) (e : Ending) (w' : World) : Prop :=
  ∃ A c, e = .returned (.slice A M.length c) ∧ VRow w' 32 2 (.slice A M.length c) M.length (flatP M) ∧ Touch [] w w'
theorem filter_nextP {l : List Px} {i : Nat} {x : Px} (f : Px → Bool) (h : l[i]? = some x) : (l.take (i + 1)).filter f = (l.take i).filter f ++ (if f x then [x] else []) := by
  rw [List.take_add_one, h, List.filter_append]
  simp [List.filter_cons]
theorem top_cast (x q : Px) (r : Bool) (h : decide (top x.a q.n = top q.a q.n) = r) : (((x.a : Int) / 2 ^ (32 - q.n)) == ((q.a : Int) / 2 ^ (32 - q.n))) = r := by
  rw [div_cast, div_cast, ← h]
  unfold top
  generalize x.a / 2 ^ (32 - q.n) = u
  generalize q.a / 2 ^ (32 - q.n) = v
  by_cases e : u = v
  · simp [e]
  · rw [beq_eq_false_iff_ne.2 (by omega)]; simp [e]
set_option maxHeartbeats 4000000 in
set_option maxRecDepth 100000 in
theorem wlist_calls {w : World} {A : Option Addr} {n cap : Nat} {l : List Px} (h : RdX w A n l) (hok : ∀ p ∈ l, p.ok) (hn : n ≤ 400) (q : Px) (hq : q.ok) :
    Calls Try.prog 24 #[.slice A n cap, .agg #[.int .u32 q.a, .int .i64 q.n]] w (ListPost w (l.filter (fun x => decide (ins x q)))) := by
  have H := Lib.hid h
  have OK := Lib.hid hok
  have HQ := Lib.hid hq
  have hqn := hq.1
  have hqa := hq.2.1
  obtain ⟨f, hf⟩ : ∃ f : Px → Bool, f = (fun x => decide (ins x q)) := ⟨_, rfl⟩
  have HF := Lib.hid hf
  rw [← hf]
  clear h hok hq hf
  go_enter Try.func24, Try.ntmps24
  go_wp2
  obtain ⟨W0, hW0⟩ : ∃ W0 : World, W0 = w.alloc (.cells #[.int .u32 q.a, .int .i64 q.n] 32) := ⟨_, rfl⟩
  have T0 := Lib.hid (show Touch [] w W0 by rw [hW0]; exact (Touch.refl [] w).alloc _)
  have Z := Lib.hid (show W0.heap[w.heap.size]? = some (.cells #[.int .u32 q.a, .int .i64 q.n] 32 (0, 0)) by rw [hW0]; exact box_at w _)
  have H0 := Lib.hid (H.out.kept T0.out)
  have hsz : w.heap.size < W0.heap.size := (Array.getElem?_eq_some_iff.1 Z.out).1
  rw [← hW0]
  generalize w.heap.size = B3 at *
  clear hW0 H
  go_loopw [5, 6] (fun v5 v6 wr => ∃ (i : Nat) (L : List Px), v6 = .int .i64 i ∧ i ≤ n ∧ Hid (L = (l.take i).filter f) ∧ Hid (VRow wr 32 2 v5 L.length (flatP L)) ∧ Hid (∀ b, v5.ownBlock = some b → W0.heap.size ≤ b) ∧ Hid (Touch [] W0 wr)) (fun _ v6 _ => n - (intOf v6).toNat)
  case atStart => exact ⟨0, [], rfl, Nat.zero_le _, Lib.hid rfl, Lib.hid (VRow.nil _ _ _), Lib.hid (by simp [Value.ownBlock]), Lib.hid (Touch.refl _ _)⟩
  case round =>
    obtain ⟨i, L, rfl, hi, hL, hV, hB, hT⟩ := hrel
    obtain ⟨A3, c3, hv3⟩ := hV.out.form
    subst hv3
    obtain ⟨wo, rfl⟩ : ∃ wo : World, wo = wr := ⟨_, rfl⟩
    have hLn : L.length ≤ i := by rw [hL.out]; exact Nat.le_trans (List.length_filter_le _ _) (by simp; omega)
    by_cases hin : i < n
    · have b1 : (i : Int) < (n : Int) := by omega
      obtain ⟨b, off, hA, hb, hc⟩ := (H0.out.kept hT.out).at_ (by omega)
      have HA := Lib.hid hA
      clear hA
      obtain ⟨x, hx⟩ : ∃ x, l[i]? = some x := ⟨_, List.getElem?_eq_getElem (by rw [H0.out.len]; omega)⟩
      obtain ⟨m0, m1⟩ := hc i _ hx
      have hxo := OK.out _ (List.mem_of_getElem? hx)
      have hxn := hxo.1
      have hxa := hxo.2.1
      have HX := Lib.hid hx
      obtain ⟨z0, z1, _⟩ := two_cells (touch_box hT.out Z.out (by simp))
      have n0 := fun u : Near wo => u.cell m0
      have n1 := fun u : Near wo => u.cell m1
      have k0 := fun u : Near wo => u.cell z0
      have k1 := fun u : Near wo => u.cell z1
      have M0 := Lib.hid m0
      have M1 := Lib.hid m1
      clear hc hx hxo z0 z1 m0 m1
      obtain rfl := HA.out
      by_cases hlen : q.n ≤ x.n
      · have g1 : decide ((q.n : Int) ≤ (x.n : Int)) = true := by rw [decide_eq_true_eq]; omega
        have g1' : (q.n : Int) ≤ (x.n : Int) := by omega
        by_cases ht : top x.a q.n = top q.a q.n
        · have FX : Hid (f x = true) := Lib.hid (by rw [HF.out]; simp only [decide_eq_true_eq]; exact ⟨hlen, ht⟩)
          have e2 := top_cast x q true (by simp [ht])
          clear ht
          obtain ⟨r0, e1⟩ : ∃ r : Bool, ((q.n : Int) == 0) = r := ⟨_, rfl⟩
          cases r0
          all_goals
            go_wp2
            refine wp_region_near (by kernel_rfl) (by kernel_rfl) ?_
            repeat (go_big_quiet_step (fail))
            refine wpQuiet_nil ?_
            rintro _ ⟨u2, rfl⟩
            have HV := Lib.hid (hV.out.kept u2.near (by simp))
            have HT := Lib.hid (hT.out.trans u2.near (by simp))
            have k0 := u2.cell M0.out
            have k1 := u2.cell M1.out
            clear n0 n1 e1 e2 g1
            go_wp2_with (at_builtin; refine wpList_append_vr (by rfl) (.tmp 44) (.tmp 49) 22 32 2 16 _ Try.underlying22 (by rfl) info32 rfl (by omega) (by omega) (.slice A3 L.length c3) L.length (flatP L) 1 #[.int .u32 x.a, .int .i64 x.n] (by rfl) HV.out (by rfl) (by rfl) (by simp [Value.oneCell']) (by omega) ?_
                         intro A' c' w' r t o
                         have R := Lib.hid r
                         have K := Lib.hid t
                         have O := Lib.hid o
                         clear r t o)
            go_roundw
            case rel =>
              refine ⟨i + 1, L ++ [x], by go_num, by omega, Lib.hid ?_, Lib.hid ?_, Lib.hid (fun b hb => ?_), Lib.hid (HT.out.trans K.out (fun x hx => .inr (hB.out x (by simpa using hx))))⟩
              · rw [filter_nextP f HX.out, ← hL.out, FX.out]; simp
              · rw [flatP_snoc, List.length_append]; exact R.out
              · rcases O.out with o | ⟨b', o, hb'⟩
                · rw [o] at hb; exact hB.out b hb
                · rw [o] at hb; cases hb; exact Nat.le_trans HT.out.size hb'
            case measure => simp [intOf]; omega
        · have FX : Hid (f x = false) := Lib.hid (by rw [HF.out]; simp only [decide_eq_false_iff_not]; exact fun h => ht h.2)
          have e2 := top_cast x q false (by simp [ht])
          have h0 : q.n ≠ 0 := fun h => ht (by rw [h, top_zero hxa, top_zero hqa])
          have e1 : ((q.n : Int) == 0) = false := by rw [beq_eq_false_iff_ne]; omega
          clear ht
          go_wp2
          refine wp_region_near (by kernel_rfl) (by kernel_rfl) ?_
          repeat (go_big_quiet_step (fail))
          refine wpQuiet_nil ?_
          rintro _ ⟨u2, rfl⟩
          clear n0 n1 e1 e2 g1
          go_wp2
          go_roundw
          case rel => exact ⟨i + 1, L, by go_num, by omega, Lib.hid (by rw [filter_nextP f HX.out, ← hL.out, FX.out]; simp), Lib.hid (hV.out.kept u2.near (by simp)), hB, Lib.hid (hT.out.trans u2.near (by simp))⟩
          case measure => simp [intOf]; omega
      · have g1 : decide ((q.n : Int) ≤ (x.n : Int)) = false := by rw [decide_eq_false_iff_not]; omega
        have g1' : decide (q.n ≤ x.n) = false := by rw [decide_eq_false_iff_not]; omega
        have FX : Hid (f x = false) := Lib.hid (by rw [HF.out]; simp only [decide_eq_false_iff_not]; exact fun h => hlen h.1)
        clear hlen
        go_wp2
        refine wp_region_near (by kernel_rfl) (by kernel_rfl) ?_
        repeat (go_big_quiet_step (fail))
        refine wpQuiet_nil ?_
        rintro _ ⟨u2, rfl⟩
        clear n0 n1 g1 g1'
        go_wp2
        go_roundw
        case rel => exact ⟨i + 1, L, by go_num, by omega, Lib.hid (by rw [filter_nextP f HX.out, ← hL.out, FX.out]; simp), Lib.hid (hV.out.kept u2.near (by simp)), hB, Lib.hid (hT.out.trans u2.near (by simp))⟩
        case measure => simp [intOf]; omega
    · have b1 : ¬ (i : Int) < (n : Int) := by omega
      have HE : Hid (l.filter f = L) := Lib.hid (by rw [hL.out, List.take_of_length_le (by have := H0.out.len; omega)])
      clear hin
      go_wp2
      go_ret
      unfold ListPost
      rw [HE.out]
      exact ⟨A3, c3, rfl, hV.out, T0.out.trans hT.out (by simp)⟩
end Go.Proofs.Ytmklkdhpbehfeaa.Tri
