/- weftlaw5.whole; no condition. -/
import Derived.Test.YtelfemhnijnhfaaFV
namespace Go.Proofs.Ytelfemhnijnhfaa.Fr
open Go.RowKit Go.Maps
set_option linter.unusedVariables false
set_option linter.unusedSimpArgs false
set_option maxRecDepth 100000
attribute [local go_sem] nilB

/-- The packet that whole makes. -/
def wholeH (opt id : Int) : Hd := ⟨opt, id, false, false, 0, 200, 17, 167772161, 167772162⟩
def wholeP (body : List Int) (opt : Nat) (id : Int) : Pk := ⟨wholeH opt id, optsL opt, body.take 3000⟩
theorem wholeP_len (body : List Int) (opt : Nat) (id : Int) : (wholeP body opt id).body.length ≤ 3000 ∧ (wholeP body opt id).opts.length ≤ 40 := by
  refine ⟨?_, (optsL_ok opt).2.1⟩
  unfold wholeP
  dsimp only
  rw [List.length_take]
  omega
theorem wholeP_wf (body : List Int) {opt : Nat} {id : Int} (ho : opt < 256) (hi : 0 ≤ id ∧ id < 65536) : (wholeP body opt id).h.wf := by
  constructor <;> simp only [wholeP, wholeH] <;> omega
theorem wholeP_may (body : List Int) (opt : Nat) (id : Int) : bErr (wholeP body opt id) = 0 := by
  have h := wholeP_len body opt id
  refine bErr_may (optsL_ok opt).1 ?_ ?_ ?_ ?_ (by omega) ?_
  · exact Int.le_refl 0
  · exact (by decide : (0 : Int) ≤ 65528)
  · rfl
  · show (0 : Int) + ((wholeP body opt id).body.length : Int) ≤ 65535
    omega
  · intro h1; cases h1
def WholePost (w : World) (p : Pk) (e : Ending) (w' : World) : Prop :=
  ∃ VO VB, e = .returned (.agg (pkC p.h VO VB)) ∧ OwB w' VO p.opts ∧ OwB w' VB p.body ∧ Touch [] w w'
set_option maxHeartbeats 2000000 in
/-- What is behind the cut of the body. -/
theorem whole_calls {w : World} {V : Value} {l : List Int} (h : RdB w V l) (hlen : l.length < 4611686018427387904) (opt : Nat) (hopt : opt < 256) (id : Int) :
    Calls Try.prog 15 #[V, .int .u8 opt, .int .u16 id] w (WholePost w (wholeP l opt id)) := by
  obtain ⟨A, cap, rfl⟩ := h.len_lt
  have H := Lib.hid h
  obtain ⟨p, hp⟩ : ∃ p, p = wholeP l opt id := ⟨_, rfl⟩
  have HP := Lib.hid hp
  rw [← hp]
  have HO := Lib.hid (show p.opts = optsL opt by rw [hp]; rfl)
  have HB := Lib.hid (show p.body = l.take 3000 by rw [hp]; rfl)
  have HH := Lib.hid (show p.h = wholeH opt id by rw [hp]; rfl)
  have LB := Lib.hid (show p.body.length ≤ 3000 by rw [hp]; exact (wholeP_len l opt id).1)
  clear hp
  obtain ⟨A1, cap1, hA1⟩ : ∃ A1 cap1, (3000 < l.length → ∃ b off, A = some ⟨b, off, none⟩ ∧ A1 = A ∧ cap1 = cap ∧ 3000 ≤ cap) ∧ Hid (RdB w (.slice A1 p.body.length cap1) p.body) ∧ (¬ 3000 < l.length → A1 = A ∧ cap1 = cap ∧ p.body.length = l.length) ∧ (3000 < l.length → p.body.length = 3000) := by
    by_cases hl : 3000 < l.length
    · have H' := h
      obtain ⟨⟨A', cap', hV, hcap, _, hr⟩, _⟩ := H'
      simp only [Value.slice.injEq] at hV
      obtain ⟨rfl, _, rfl⟩ := hV
      obtain ⟨b, off, rfl, _⟩ := hr (by omega)
      have h3 : (l.take 3000).length = 3000 := by rw [List.length_take]; omega
      have h2 := RdB.sub h (lo := 0) (hi := 3000) (Nat.zero_le _) (by omega)
      simp only [Nat.add_zero, Nat.sub_zero, List.drop_zero] at h2
      refine ⟨_, _, fun _ => ⟨b, off, rfl, rfl, rfl, by omega⟩, Lib.hid ?_, fun k => absurd hl k, fun _ => by rw [HB.out, h3]⟩
      rw [HB.out, h3]
      exact h2
    · have h3 : l.take 3000 = l := List.take_of_length_le (by omega)
      refine ⟨A, cap, fun k => absurd k hl, Lib.hid ?_, fun _ => ⟨rfl, rfl, by rw [HB.out, h3]⟩, fun k => absurd k hl⟩
      rw [HB.out, h3]
      exact h
  obtain ⟨hA2, HR, hA3, hA4⟩ := hA1
  clear h
  go_enter Try.func15, Try.ntmps15
  go_upto_if 10 with (fail)
  obtain ⟨W0, hW0⟩ : ∃ W0 : World, W0 = w.alloc (.cells #[.int .u8 0, .int .u16 0, .bool false, .bool false, .int .i64 0, .int .u8 0, .int .u8 0, .int .u32 0, .int .u32 0, .slice none 0 0, .slice none 0 0] 30) := ⟨_, rfl⟩
  rw [← hW0]
  have Y0 := Lib.hid (show W0.heap[w.heap.size]? = some (.cells (pkC ⟨0, 0, false, false, 0, 0, 0, 0, 0⟩ (.slice none 0 0) (.slice none 0 0)) 30 (0, 0)) by rw [hW0]; exact box_at _ _)
  have T0 := Lib.hid (show Touch [] w W0 by rw [hW0]; exact (Touch.refl [] w).alloc _)
  clear hW0
  go_cut [0] from 10 to 12 (fun v wr => v = .slice A1 p.body.length cap1 ∧ Hid (wr = W0))
  case first =>
    by_cases hl : 3000 < l.length
    · obtain ⟨b, off, rfl, rfl, rfl, h3⟩ := hA2 hl
      have h4 := Lib.hid (hA4 hl)
      have lt1 : (3000 : Int) < (l.length : Int) := by omega
      have lt2 : (3000 : Int) ≤ (cap1 : Int) := by omega
      clear hA2 hA3 hA4 HR
      go_wp2
      go_meet
      case rel => exact ⟨by rw [h4.out], Lib.hid rfl⟩
    · obtain ⟨rfl, rfl, h3⟩ := hA3 hl
      have lt1 : ¬ (3000 : Int) < (l.length : Int) := by omega
      have h4 := Lib.hid h3
      clear hA2 hA3 hA4 HR h3
      go_wp2
      go_meet
      case rel => exact ⟨by rw [h4.out], Lib.hid rfl⟩
  case rest =>
  obtain ⟨rfl, hwr⟩ := hcut
  obtain rfl := hwr.out
  clear hwr hA2 hA3 hA4 H
  have lb := LB.out
  go_wp2_with (at_builtin
               refine wpList_append_none (by rfl) (.const (.slice none 0 0)) (.tmp 13) (by rfl) (.slice A1 p.body.length cap1) p.body (by rfl) (by rfl) (HR.out.near T0.out) (by omega) ?_
               intro A2 c2 w2 h1 h2 h3
               have O2 := Lib.hid h1
               have Y2 := Lib.hid (touch_box h3 Y0.out (by simp))
               have T2 := Lib.hid (T0.out.trans h3 (by simp))
               clear h1 h2 h3)
  refine (options_calls _ opt _ rfl).mono ?_
  rintro e w3 ⟨VO, rfl, o3, t3⟩
  rw [← HO.out] at o3
  obtain ⟨A3, c3, rfl⟩ := o3.row.form
  have O3 := Lib.hid o3
  have O23 := Lib.hid (O2.out.near t3)
  have Y3 := Lib.hid (touch_box t3 Y2.out (by simp))
  have T3 := Lib.hid (T2.out.trans t3 (by simp))
  clear o3 t3 Y2 O2 T2
  obtain ⟨d0, d1, d2, d3, d4, d5, d6, d7, d8, d9, d10⟩ := pk_cells Y3.out
  have y := fun o => box_frozen Y3.out o
  go_wp2
  clear d0 d1 d2 d3 d4 d5 d6 d7 d8 d9 d10 y
  obtain ⟨W4, hW4, X4, t4⟩ := pk_set (w := w3) (k := w.heap.size) (h := ⟨opt, id, false, false, 0, 200, 17, 167772161, 167772162⟩) (VO := .slice A3 p.opts.length c3) (VB := .slice A2 p.body.length c2) Y3.out
  dsimp only at hW4
  rw [← hW4]
  clear hW4
  obtain ⟨c0, c1, c2', c3', c4, c5, c6, c7, c8, c9, c10⟩ := pk_cells X4
  have ne : ∀ {VX : Value} {m : List Int}, OwB w3 VX m → ∀ k, VX.ownBlock = some k → k ∉ [w.heap.size] := by
    intro VX m ho k hk hm
    simp at hm
    subst hm
    obtain ⟨c, hc⟩ := ho.row.blk _ hk
    rw [Y3.out] at hc
    cases hc
  refine bodyPost_ret (v := .agg (pkC p.h (.slice A3 p.opts.length c3) (.slice A2 p.body.length c2))) (by rw [HH.out]; simp [wholeH, results, Try.results15, go_sem, c0, c1, c2', c3', c4, c5, c6, c7, c8, c9, c10]) rfl ?_
  exact ⟨_, _, rfl, O3.out.kept t4 (ne O3.out), O23.out.kept t4 (ne O23.out), T3.out.trans t4 (fun x hx => .inr (by simp at hx; omega))⟩
end Go.Proofs.Ytelfemhnijnhfaa.Fr
