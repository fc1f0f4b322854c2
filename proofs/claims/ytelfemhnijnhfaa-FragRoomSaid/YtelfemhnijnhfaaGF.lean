/- The assembler: number, New; no condition. -/
import Derived.Test.YtelfemhnijnhfaaGE
import Derived.Carry
namespace Go.Proofs.Ytelfemhnijnhfaa.Fr
open Go.RowKit Go.Maps
set_option linter.unusedVariables false
set_option linter.unusedSimpArgs false
set_option maxRecDepth 100000
attribute [local go_sem] nilB

theorem few_ints {w : World} {b n m : Nat} {f : Value → Option Value} (h : GMap 3 w b f n) (hm : m ≤ 1000000) (hf : ∀ j < m, (f (.int .i64 (j : Int))).isSome = true) : m ≤ n := by
  have := h.few lawInt ((List.range m).map fun j : Nat => Value.int .i64 (j : Int)) (by
    rw [List.Nodup, List.pairwise_map]
    exact List.Pairwise.imp (fun h e => h (by simp at e; omega)) List.nodup_range) (fun x hx => by
    simp only [List.mem_map, List.mem_range] at hx
    obtain ⟨j, hj, rfl⟩ := hx
    exact ⟨hf j hj, _, keyInt (by omega) (by omega)⟩)
  simpa using this
set_option maxHeartbeats 2000000 in
theorem number_calls {w : World} {a hb kb tb : Nat} {TS : List Nat} {s : Tm.St} {fh fk : Value → Option Value} {st : ASt} (h : Asm0 w a hb kb tb TS s fh fk st) (hn : st.n ≤ 256) :
    Calls Try.prog 49 #[.pointer (some ⟨a, 0, none⟩)] w fun e w' => ∃ i : Nat, e = .returned (.int .i64 i) ∧ i ≤ 256 ∧ fk (.int .i64 i) = none ∧ Touch [] w w' := by
  have H := Lib.hid h
  obtain ⟨N, hN⟩ : ∃ N, N = st.n := ⟨_, rfl⟩
  have HN := Lib.hid hN
  rw [← hN] at hn
  clear h hN
  go_enter Try.func49, Try.ntmps49
  go_wp2_with fail
  go_loopg [3] (N + 1) (fun kq v3 wr => ∃ i : Nat, v3 = .int .i64 i ∧ i ≤ N ∧ N + 1 - i ≤ kq ∧ Hid (∀ j < i, (fk (.int .i64 (j : Int))).isSome = true) ∧ Hid (Touch [] w wr))
  case atStart => exact ⟨0, rfl, by omega, by omega, Lib.hid (by intro j hj; omega), Lib.hid (Touch.refl _ _)⟩
  case round =>
    obtain ⟨i, rfl, hi, hik, hu, hT⟩ := hrel
    have A := Lib.hid (H.out.near hT.out)
    obtain ⟨c0, c1, c2, c3, c4, c5, c6⟩ := asm_cells A.out.blk
    have hl := (A.out.keys.look lawInt Try.underlying105 (zeroKey wr) (keyInt (x := (i : Int)) (by omega) (by omega))).1
    cases hf : fk (.int .i64 (i : Int)) with
    | none =>
      have HF := Lib.hid hf
      rw [hf] at hl
      simp only [Option.getD_none, Option.isSome_none, kv] at hl
      clear hf
      go_wp2
      go_ret
      exact ⟨i, rfl, by omega, HF.out, (hT.out.trans ((Touch.refl [] wr).alloc _) (by simp))⟩
    | some v =>
      obtain ⟨L, y, hL, rfl, hy, hyi⟩ := H.out.back i v (Tm.wfi_mk (by omega) (by omega)) hf
      have HF := Lib.hid hf
      have hin : i < N := by
        have := few_ints H.out.keys (m := i + 1) (by omega) (fun j hj => by
          by_cases e : j = i
          · subst e; rw [hf]; rfl
          · exact hu.out j (by omega))
        rw [← HN.out] at this
        omega
      rw [hf] at hl
      obtain ⟨l0, l1, l2, l3⟩ := L
      simp only [Option.getD_some, Option.isSome_some, kv] at hl
      clear hf hy hyi hL
      go_wp2
      go_roundg (gk - 1)
      case rel => exact ⟨i + 1, by go_num, by omega, by omega, Lib.hid (fun j hj => by
          by_cases e : j = i
          · subst e; rw [HF.out]; rfl
          · exact hu.out j (by omega)), Lib.hid (hT.out.trans ((Touch.refl [] wr).alloc _) (by simp))⟩
      case measure => omega
set_option maxHeartbeats 2000000 in
theorem fnew_calls (w : World) (room life : Int) (h0 : 1 ≤ room) (h1 : room ≤ 256) (h2 : 1 ≤ life) (h3 : life ≤ 1099511627776) :
    Calls Try.prog 18 #[.int .i64 room, .int .i64 life] w fun e w' => ∃ a S, e = .returned (.tuple #[.pointer (some ⟨a, 0, none⟩), .int .i64 0]) ∧ AsmAt w' a S ⟨room, life, 0, 0, fun _ => none, 0⟩ ∧ Touch [] w w' ∧ ∀ k ∈ S, w.heap.size ≤ k := by
  have hmm := @run_makeMap Try.prog
  have g0 : ¬ room < 1 := by omega
  have g1 : ¬ 256 < room := by omega
  have g2 : ¬ life < 1 := by omega
  have g3 : ¬ 1099511627776 < life := by omega
  go_enter Try.func18, Try.ntmps18
  go_wp2_with fail
  refine (Tm.new_good w 256 (by omega) (by omega)).mono ?_
  rintro e w1 ⟨tb, mb, rfl, ht, t1, hb1, hb2⟩
  have HT := Lib.hid ht
  have T1 := Lib.hid t1
  have HB1 := Lib.hid hb1
  have HB2 := Lib.hid hb2
  clear ht t1 hb1 hb2
  go_wp2
  go_ret2
  obtain ⟨B, hB⟩ : ∃ B, B = w1.heap.size := ⟨_, rfl⟩
  have hT := (HT.out)
  have k1 := hT.tb_lt
  have k2 := hT.map.lt
  have hs := T1.out.size
  have e1 := HB1.out
  have e2 := HB2.out
  have tA : Touch [] w1 (((w1.alloc (.map #[] 0)).alloc (.map #[] 0)).alloc (.cells (asmC ⟨room, life, 0, 0, fun _ => none, 0⟩ w1.heap.size (w1.heap.size + 1) tb) 107)) := (((Touch.refl [] w1).alloc _).alloc _).alloc _
  have hsz : ((w1.alloc (.map #[] 0)).alloc (.map #[] 0)).heap.size = w1.heap.size + 1 + 1 := by simp
  have hsz1 : (w1.alloc (.map #[] 0)).heap.size = w1.heap.size + 1 := by simp
  have g1' := GMap.made 109 w1
  have g2' := GMap.made 3 (w1.alloc (.map #[] 0))
  rw [hsz1] at g2'
  have hok : Tm.Ok ⟨[], fun _ => none, 0⟩ := ⟨⟨by intro i p hp; simp at hp, by intro y v hv; cases hv⟩, by intro i hi hl; simp at hl, rfl, by simp, by simp⟩
  refine ⟨w1.heap.size + 1 + 1, (w1.heap.size + 1 + 1) :: w1.heap.size :: (w1.heap.size + 1) :: Tm.foot tb (.slice none 0 0) mb, rfl, ⟨w1.heap.size, w1.heap.size + 1, tb, _, ⟨[], fun _ => none, 0⟩, fun _ => none, fun _ => none, rfl, ?_⟩, T1.out.trans tA (by simp), ?_⟩
  · refine ⟨?_, ?_, ?_, ?_, rfl, by omega, ?_, ?_, ?_, (fun K hK => rfl), (fun K x hK hx => by cases hx), (fun i v hi hv => by cases hv), (fun i hi => by simp [Tm.val] at hi)⟩
    · have := box_at ((w1.alloc (.map #[] 0)).alloc (.map #[] 0)) (.cells (asmC ⟨room, life, 0, 0, fun _ => none, 0⟩ w1.heap.size (w1.heap.size + 1) tb) 107)
      rw [hsz] at this
      exact this
    · exact (g1'.kept (S := []) ((Touch.refl [] _).alloc _) (by simp)).kept (S := []) ((Touch.refl [] _).alloc _) (by simp)
    · exact g2'.kept (S := []) ((Touch.refl [] _).alloc _) (by simp)
    · exact ⟨⟨_, mb, hT.kept tA (by simp), rfl⟩, hok, by simp, by omega⟩
    · simp [Tm.foot, Value.ownBlock]; omega
    · simp [Tm.foot, Value.ownBlock]; omega
    · simp [Tm.foot, Value.ownBlock]; omega
  · intro k hk
    simp [Tm.foot, Value.ownBlock] at hk
    omega
end Go.Proofs.Ytelfemhnijnhfaa.Fr
