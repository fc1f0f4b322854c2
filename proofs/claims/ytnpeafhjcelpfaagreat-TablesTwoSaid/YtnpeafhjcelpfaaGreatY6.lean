/- The reference: New; the best route; no condition. -/
import Derived.Test.YtnpeafhjcelpfaaGreatY5

namespace Go.Proofs.YtnpeafhjcelpfaaGreat.Tri
open Go.RowKit Go.Maps
set_option linter.unusedVariables false
set_option linter.unusedSimpArgs false
set_option maxRecDepth 100000

def RNewPost (w : World) (l0 l1 l2 : Int) (e : Ending) (w' : World) : Prop := Touch [] w w' ∧ ((¬ (capOk l0 ∧ capOk l1 ∧ capOk l2) ∧ e = .returned (.tuple #[.pointer none, .int .i64 1])) ∨
  ((capOk l0 ∧ capOk l1 ∧ capOk l2) ∧ ∃ rb F, e = .returned (.tuple #[.pointer (some ⟨rb, 0, none⟩), .int .i64 0]) ∧ RefL w' rb l0 l1 l2 LSt.none F ∧ rb ∈ F ∧ ∀ x ∈ F, w.heap.size ≤ x))
set_option maxHeartbeats 4000000 in
theorem rnew_calls {w : World} (l0 l1 l2 : Int) :
    Calls Tryz.prog 41 #[.int .i64 l0, .int .i64 l1, .int .i64 l2] w (RNewPost w l0 l1 l2) := by
  by_cases a0 : l0 < 1
  · have HN := Lib.hid (show ¬ (capOk l0 ∧ capOk l1 ∧ capOk l2) by unfold capOk; omega)
    go_enter Tryz.func41, Tryz.ntmps41
    go_wp2
    refine bodyPost_ret (results_tmp2 rfl _ _ _) rfl ?_
    exact ⟨Touch.refl _ _, .inl ⟨HN.out, rfl⟩⟩
  · by_cases a1 : l1 < 1
    · have HN := Lib.hid (show ¬ (capOk l0 ∧ capOk l1 ∧ capOk l2) by unfold capOk; omega)
      go_enter Tryz.func41, Tryz.ntmps41
      go_wp2
      refine bodyPost_ret (results_tmp2 rfl _ _ _) rfl ?_
      exact ⟨Touch.refl _ _, .inl ⟨HN.out, rfl⟩⟩
    · by_cases a2 : l2 < 1
      · have HN := Lib.hid (show ¬ (capOk l0 ∧ capOk l1 ∧ capOk l2) by unfold capOk; omega)
        go_enter Tryz.func41, Tryz.ntmps41
        go_wp2
        refine bodyPost_ret (results_tmp2 rfl _ _ _) rfl ?_
        exact ⟨Touch.refl _ _, .inl ⟨HN.out, rfl⟩⟩
      · by_cases b0 : 256 < l0
        · have HN := Lib.hid (show ¬ (capOk l0 ∧ capOk l1 ∧ capOk l2) by unfold capOk; omega)
          go_enter Tryz.func41, Tryz.ntmps41
          go_wp2
          refine bodyPost_ret (results_tmp2 rfl _ _ _) rfl ?_
          exact ⟨Touch.refl _ _, .inl ⟨HN.out, rfl⟩⟩
        · by_cases b1 : 256 < l1
          · have HN := Lib.hid (show ¬ (capOk l0 ∧ capOk l1 ∧ capOk l2) by unfold capOk; omega)
            go_enter Tryz.func41, Tryz.ntmps41
            go_wp2
            refine bodyPost_ret (results_tmp2 rfl _ _ _) rfl ?_
            exact ⟨Touch.refl _ _, .inl ⟨HN.out, rfl⟩⟩
          · by_cases b2 : 256 < l2
            · have HN := Lib.hid (show ¬ (capOk l0 ∧ capOk l1 ∧ capOk l2) by unfold capOk; omega)
              go_enter Tryz.func41, Tryz.ntmps41
              go_wp2
              refine bodyPost_ret (results_tmp2 rfl _ _ _) rfl ?_
              exact ⟨Touch.refl _ _, .inl ⟨HN.out, rfl⟩⟩
            · have HN := Lib.hid (show capOk l0 ∧ capOk l1 ∧ capOk l2 by unfold capOk; omega)
              go_enter Tryz.func41, Tryz.ntmps41
              go_wp2
              refine bodyPost_ret (results_tmp2 rfl _ _ _) rfl ?_
              exact ⟨(Touch.refl [] w).alloc _, .inr ⟨HN.out, w.heap.size, _, rfl, ⟨.slice none 0 0, .slice none 0 0, .slice none 0 0, rfl, box_at w _, VRow.nil _ _ _, VRow.nil _ _ _, VRow.nil _ _ _⟩, by simp [kfoot], fun x hx => by simp [kfoot, Value.ownBlock] at hx; omega⟩⟩
/-- Which of the first i routes is the best for an address. -/
def HoldE (a : Nat) (x : Ent) : Prop := maskOf a x.1.n = x.1.a
instance (a : Nat) (x : Ent) : Decidable (HoldE a x) := by unfold HoldE; infer_instance
def BestR (R : List Ent) (a i : Nat) (r : Int) : Prop :=
  (r = -1 ∧ ∀ j y, j < i → R[j]? = some y → ¬ HoldE a y) ∨ ∃ (b : Nat) (x : Ent), r = (b : Int) ∧ b < i ∧ R[b]? = some x ∧ HoldE a x ∧ ∀ j y, j < i → R[j]? = some y → HoldE a y → y.1.n ≤ x.1.n
theorem BestR.start (R : List Ent) (a : Nat) : BestR R a 0 (-1) := .inl ⟨rfl, fun j y h => absurd h (Nat.not_lt_zero _)⟩
theorem BestR.skip {R : List Ent} {a i : Nat} {r : Int} (h : BestR R a i r) {y : Ent} (hy : R[i]? = some y) (hn : ¬ HoldE a y) : BestR R a (i + 1) r := by
  rcases h with ⟨rfl, h1⟩ | ⟨b, x, rfl, hb, hx, hh, h1⟩
  · refine .inl ⟨rfl, fun j z hj hz => ?_⟩
    rcases Nat.eq_or_lt_of_le (Nat.le_of_lt_succ hj) with e | e
    · subst e; rw [hy] at hz; cases hz; exact hn
    · exact h1 j z e hz
  · refine .inr ⟨b, x, rfl, by omega, hx, hh, fun j z hj hz hz2 => ?_⟩
    rcases Nat.eq_or_lt_of_le (Nat.le_of_lt_succ hj) with e | e
    · subst e; rw [hy] at hz; cases hz; exact absurd hz2 hn
    · exact h1 j z e hz hz2
theorem BestR.first {R : List Ent} {a i : Nat} {r : Int} (h : BestR R a i r) (hr : r < 0) {y : Ent} (hy : R[i]? = some y) (hn : HoldE a y) : BestR R a (i + 1) (i : Int) := by
  rcases h with ⟨rfl, h1⟩ | ⟨b, x, rfl, hb, hx, hh, h1⟩
  · refine .inr ⟨i, y, rfl, by omega, hy, hn, fun j z hj hz hz2 => ?_⟩
    rcases Nat.eq_or_lt_of_le (Nat.le_of_lt_succ hj) with e | e
    · subst e; rw [hy] at hz; cases hz; exact Nat.le_refl _
    · exact absurd hz2 (h1 j z e hz)
  · omega
theorem BestR.take {R : List Ent} {a i b : Nat} {x y : Ent} (h : BestR R a i (b : Int)) (hx : R[b]? = some x) (hy : R[i]? = some y) (hn : HoldE a y) (hlt : x.1.n < y.1.n) : BestR R a (i + 1) (i : Int) := by
  rcases h with ⟨h0, h1⟩ | ⟨b', x', h0, hb, hx', hh, h1⟩
  · omega
  · have : b' = b := by omega
    subst this
    rw [hx] at hx'
    cases hx'
    refine .inr ⟨i, y, rfl, by omega, hy, hn, fun j z hj hz hz2 => ?_⟩
    rcases Nat.eq_or_lt_of_le (Nat.le_of_lt_succ hj) with e | e
    · subst e; rw [hy] at hz; cases hz; exact Nat.le_refl _
    · have := h1 j z e hz hz2; omega
theorem BestR.leave {R : List Ent} {a i b : Nat} {x y : Ent} (h : BestR R a i (b : Int)) (hx : R[b]? = some x) (hy : R[i]? = some y) (hn : HoldE a y) (hlt : ¬ x.1.n < y.1.n) : BestR R a (i + 1) (b : Int) := by
  rcases h with ⟨h0, h1⟩ | ⟨b', x', h0, hb, hx', hh, h1⟩
  · omega
  · have : b' = b := by omega
    subst this
    rw [hx] at hx'
    cases hx'
    refine .inr ⟨b', x, rfl, by omega, hx, hh, fun j z hj hz hz2 => ?_⟩
    rcases Nat.eq_or_lt_of_le (Nat.le_of_lt_succ hj) with e | e
    · subst e; rw [hy] at hz; cases hz; omega
    · exact h1 j z e hz hz2
theorem BestR.lt {R : List Ent} {a i : Nat} {r : Int} (h : BestR R a i r) (hr : ¬ r < 0) : ∃ (b : Nat) (x : Ent), r = (b : Int) ∧ b < i ∧ R[b]? = some x := by
  rcases h with ⟨h0, h1⟩ | ⟨b, x, h0, hb, hx, hh, h1⟩
  · omega
  · exact ⟨b, x, h0, hb, hx⟩
/-- What the reference's Resolve answers. -/
def ResRel (s : LSt) (a : Nat) (h : Array Value) (err : Int) : Prop :=
  ∃ r, BestR s.r a s.r.length r ∧ ((r < 0 ∧ h = hop0 ∧ err = 90) ∨ ∃ (b : Nat) (p : Px) (v : Int), r = (b : Int) ∧ s.r[b]? = some (p, v) ∧
    ((rL v = true ∧ h = hopC true p.a p.n 0 m60 0 ∧ err = 0) ∨ (rL v = false ∧ ((h = hop0 ∧ err = 91 ∧ ∀ y ∈ s.n, y.ip ≠ rV v) ∨ ∃ y, y ∈ s.n ∧ y.ip = rV v ∧
      ((h = hop0 ∧ err = 92 ∧ ∀ z ∈ s.e, z.m ≠ y.m) ∨ ∃ z, z ∈ s.e ∧ z.m = y.m ∧ h = hopC false p.a p.n (rV v) y.m z.ua ∧ err = 0)))))
end Go.Proofs.YtnpeafhjcelpfaaGreat.Tri

/- The reference: Resolve; no condition. -/
namespace Go.Proofs.YtnpeafhjcelpfaaGreat.Tri
open Go.RowKit Go.Maps
set_option linter.unusedVariables false
set_option linter.unusedSimpArgs false
set_option maxRecDepth 100000

def RResPost (w : World) (s : LSt) (a : Nat) (e : Ending) (w' : World) : Prop := ∃ h err, e = .returned (.tuple #[.agg h, .int .i64 err]) ∧ ResRel s a h err ∧ Touch [] w w'
theorem fun43 : Tryz.f43.results = #[.cell 4 71, .tmp 5] := by kernel_rfl
theorem hop_cells {w : World} {b : Nat} {T : TypeId} {l : Bool} {a m v : Int} {y : M6} {u : Int} (h : w.heap[b]? = some (.cells (hopC l a m v y u) T (0, 0))) :
    w.cell? ⟨b, 0, none⟩ = some (.bool l) ∧ w.cell? ⟨b, 1, none⟩ = some (.int .u32 a) ∧ w.cell? ⟨b, 2, none⟩ = some (.int .i64 m) ∧ w.cell? ⟨b, 3, none⟩ = some (.int .u32 v) ∧ w.cell? ⟨b, 4, none⟩ = some (.int .u8 y.m0) ∧ w.cell? ⟨b, 5, none⟩ = some (.int .u8 y.m1) ∧ w.cell? ⟨b, 6, none⟩ = some (.int .u8 y.m2) ∧ w.cell? ⟨b, 7, none⟩ = some (.int .u8 y.m3) ∧ w.cell? ⟨b, 8, none⟩ = some (.int .u8 y.m4) ∧ w.cell? ⟨b, 9, none⟩ = some (.int .u8 y.m5) ∧ w.cell? ⟨b, 10, none⟩ = some (.int .u32 u) := by
  refine ⟨?_, ?_, ?_, ?_, ?_, ?_, ?_, ?_, ?_, ?_, ?_⟩ <;> simp [World.cell?, h, hopC]
theorem hop_frozen {w : World} {b : Nat} {T : TypeId} {c : Array Value} (h : w.heap[b]? = some (.cells c T (0, 0))) (o : Nat) : w.frozen? ⟨b, o, none⟩ = false := by
  simp [World.frozen?, h]
theorem cells11 (w : World) (g : Nat) (x0 x1 x2 x3 x4 x5 x6 x7 x8 x9 x10 : Value) : (((((((((((w).setCell ⟨g, 0, none⟩ x0).setCell ⟨g, 1, none⟩ x1).setCell ⟨g, 2, none⟩ x2).setCell ⟨g, 3, none⟩ x3).setCell ⟨g, 4, none⟩ x4).setCell ⟨g, 5, none⟩ x5).setCell ⟨g, 6, none⟩ x6).setCell ⟨g, 7, none⟩ x7).setCell ⟨g, 8, none⟩ x8).setCell ⟨g, 9, none⟩ x9).setCell ⟨g, 10, none⟩ x10 = w.setCells g 0 [x0, x1, x2, x3, x4, x5, x6, x7, x8, x9, x10] := by
  simp only [World.setCells, Nat.zero_add, Nat.reduceAdd]
theorem heap_setCells {b : Nat} {T : TypeId} {f : Nat × Nat} : ∀ (vs : List Value) (o : Nat) (w : World) (cs : List Value), w.heap[b]? = some (.cells cs.toArray T f) → o + vs.length ≤ cs.length → (w.setCells b o vs).heap[b]? = some (.cells (cs.take o ++ vs ++ cs.drop (o + vs.length)).toArray T f)
  | [], o, w, cs, h, _ => by simpa only [World.setCells, List.append_nil, List.length_nil, Nat.add_zero, List.take_append_drop] using h
  | v :: r, o, w, cs, h, ho => by
    simp only [List.length_cons] at ho
    have h1 := box_set (o := o) h v
    simp only [List.setIfInBounds_toArray] at h1
    have h2 := heap_setCells r (o + 1) (w.setCell ⟨b, o, none⟩ v) (cs.set o v) h1 (by rw [List.length_set]; omega)
    have e1 : (cs.set o v).take (o + 1) ++ r ++ (cs.set o v).drop (o + 1 + r.length) = cs.take o ++ v :: r ++ cs.drop (o + (r.length + 1)) := by
      rw [List.take_add_one, List.take_set_of_le (Nat.le_refl o), List.drop_set_of_lt (by omega), List.getElem?_set_self (by omega), show o + 1 + r.length = o + (r.length + 1) by omega]
      simp
    rw [e1] at h2
    simpa only [World.setCells, List.length_cons] using h2
set_option maxHeartbeats 16000000 in
theorem rresolve_calls {w : World} {rb : Nat} {l0 l1 l2 : Int} {s : LSt} {F : List Nat} (h : RefL w rb l0 l1 l2 s F) (hG : GoodL l0 l1 l2 s) (a : Nat) (ha : a < 4294967296) :
    Calls Tryz.prog 43 #[.pointer (some ⟨rb, 0, none⟩), .int .u32 a] w (RResPost w s a) := by
  obtain ⟨V0, V1, V2, rfl, h⟩ := h
  have H := Lib.hid h
  have HG := Lib.hid hG
  obtain ⟨A, cap, rfl⟩ := h.r.form
  obtain ⟨HP, hHP⟩ : ∃ W : World, W = w.alloc (.cells (hopC false 0 0 0 m60 0) 71) := ⟨_, rfl⟩
  have T0 : Hid (Touch [] w HP) := Lib.hid (by rw [hHP]; exact (Touch.refl [] w).alloc _)
  obtain ⟨hb, hhb⟩ : ∃ n, n = w.heap.size := ⟨_, rfl⟩
  have X0 : Hid (HP.heap[hb]? = some (.cells (hopC false 0 0 0 m60 0) 71 (0, 0))) := Lib.hid (by rw [hHP, hhb]; exact box_at _ _)
  have hHP' := Lib.hid hHP
  have hhb' := Lib.hid hhb
  have hlen := hG.lr
  clear h hG hHP hhb
  go_enter Tryz.func43, Tryz.ntmps43
  go_wp2
  have hHP := hHP'.out
  simp only [hopC, m60] at hHP
  have hhb := hhb'.out
  rw [← hHP, ← hhb]
  clear hHP hhb
  go_loopw [6, 7] (fun v6 v7 wr => ∃ (i : Nat) (r : Int), v6 = .int .i64 r ∧ v7 = .int .i64 i ∧ i ≤ s.r.length ∧ Hid (BestR s.r a i r) ∧ Hid (Touch [] HP wr)) (fun _ v7 _ => s.r.length - (intOf v7).toNat)
  case atStart => exact ⟨0, -1, rfl, rfl, Nat.zero_le _, Lib.hid (BestR.start _ _), Lib.hid (Touch.refl _ _)⟩
  case round =>
    obtain ⟨i, r, rfl, rfl, hi, hB, hT⟩ := hrel
    have TT := Lib.hid (T0.out.trans hT.out (by simp))
    have HR := Lib.hid (H.out.kept TT.out (by simp))
    have XR := Lib.hid (touch_box hT.out X0.out (by simp))
    obtain ⟨c0, c1, c2, c3, c4, c5⟩ := six_cells HR.out.blk
    by_cases hlt : i < s.r.length
    · have b1 : (i : Int) < (s.r.length : Int) := by omega
      obtain ⟨⟨q, u⟩, hx⟩ : ∃ x, s.r[i]? = some x := ⟨_, List.getElem?_eq_getElem hlt⟩
      obtain ⟨g, c, hV, _, hgl, hc, _⟩ := HR.out.r.getAt encR_len hx
      simp only [Value.slice.injEq, true_and] at hV
      obtain ⟨rfl, rfl⟩ := hV
      have m0 := hc 0 _ rfl
      rw [Nat.add_zero] at m0
      have m1 := hc 1 _ rfl
      dsimp only at m0 m1
      have HX := Lib.hid hx
      have hqo := (HG.out.r _ (List.mem_of_getElem? hx)).1
      have n0 := fun u : Near wr => u.cell m0
      have n1 := fun u : Near wr => u.cell m1
      have k0 := fun u : Near wr => u.cell c0
      by_cases hh : HoldE a (q, u)
      · have HC := Lib.hid (fun u : Near wr => rholds_near u q a hqo ha true (by simpa [HoldE] using hh))
        have HH := Lib.hid hh
        clear hx hc hqo hh m0 m1
        by_cases hr : r < 0
        · have HRR := Lib.hid hr
          go_wp2
          refine wp_region_near (by kernel_rfl) (by kernel_rfl) ?_
          repeat (go_big_quiet_step ((go_at_call 65; exact HC.out _)))
          refine wpQuiet_nil ?_
          rintro _ ⟨u2, rfl⟩
          have TU := Lib.hid (hT.out.trans u2.near (by simp))
          clear HC n0 n1 k0
          go_wp2
          go_roundw
          case rel => exact ⟨i + 1, (i : Int), rfl, by go_num, by omega, Lib.hid (hB.out.first HRR.out HX.out HH.out), TU⟩
          case measure => simp [intOf]; omega
        · obtain ⟨b, ⟨p, v⟩, rfl, hbi, hbx⟩ := hB.out.lt hr
          obtain ⟨g', c', hV, _, _, hc, _⟩ := HR.out.r.getAt encR_len hbx
          simp only [Value.slice.injEq, Option.some.injEq, Addr.mk.injEq, true_and, and_true] at hV
          obtain ⟨rfl, rfl⟩ := hV
          have m1 := hc 1 _ rfl
          dsimp only at m1
          have n2 := fun u : Near wr => u.cell m1
          have b2 : decide ((b : Int) < 0) = false := by simp
          have b3 : (b : Int) < (s.r.length : Int) := by omega
          have b4 : (0 : Int) ≤ (b : Int) := by omega
          have HBX := Lib.hid hbx
          clear hbx hc m1 hr
          by_cases hn : (p.n : Int) < (q.n : Int)
          · have HNN := Lib.hid hn
            go_wp2
            refine wp_region_near (by kernel_rfl) (by kernel_rfl) ?_
            repeat (go_big_quiet_step ((go_at_call 65; exact HC.out _)))
            refine wpQuiet_nil ?_
            rintro _ ⟨u2, rfl⟩
            have TU := Lib.hid (hT.out.trans u2.near (by simp))
            clear HC n0 n1 n2 k0
            go_wp2
            go_roundw
            case rel => exact ⟨i + 1, (i : Int), rfl, by go_num, by omega, Lib.hid (hB.out.take HBX.out HX.out HH.out (by have := HNN.out; simp only; omega)), TU⟩
            case measure => simp [intOf]; omega
          · have HNN := Lib.hid hn
            have hnd : decide ((p.n : Int) < (q.n : Int)) = false := by simpa using hn
            go_wp2
            refine wp_region_near (by kernel_rfl) (by kernel_rfl) ?_
            repeat (go_big_quiet_step ((go_at_call 65; exact HC.out _)))
            refine wpQuiet_nil ?_
            rintro _ ⟨u2, rfl⟩
            have TU := Lib.hid (hT.out.trans u2.near (by simp))
            clear HC n0 n1 n2 k0
            go_wp2
            go_roundw
            case rel => exact ⟨i + 1, (b : Int), rfl, by go_num, by omega, Lib.hid (hB.out.leave HBX.out HX.out HH.out (by have := HNN.out; simp only; omega)), TU⟩
            case measure => simp [intOf]; omega
      · have HC := Lib.hid (fun u : Near wr => rholds_near u q a hqo ha false (by symm; simpa [HoldE] using hh))
        have HH := Lib.hid hh
        clear hx hc hqo hh m0 m1
        go_wp2
        refine wp_region_near (by kernel_rfl) (by kernel_rfl) ?_
        repeat (go_big_quiet_step ((go_at_call 65; exact HC.out _)))
        refine wpQuiet_nil ?_
        rintro _ ⟨u2, rfl⟩
        have TU := Lib.hid (hT.out.trans u2.near (by simp))
        clear HC n0 n1 k0
        go_wp2
        go_roundw
        case rel => exact ⟨i + 1, r, rfl, by go_num, by omega, Lib.hid (hB.out.skip HX.out HH.out), TU⟩
        case measure => simp [intOf]; omega
    · have b1 : ¬ (i : Int) < (s.r.length : Int) := by omega
      have hii : i = s.r.length := by omega
      have HB2 := Lib.hid (show BestR s.r a s.r.length r by rw [← hii]; exact hB.out)
      have HSZ : Hid (w.heap.size ≤ hb) := Lib.hid (by rw [hhb'.out]; exact Nat.le_refl _)
      clear hB hlt
      by_cases hr : r < 0
      · have HRR := Lib.hid hr
        go_wp2_with (refine wpList_store_row (by rfl) 71 (.tmp 4) (.tmp 58) (by rfl) hb hop0 (by rfl) (by rfl) 71 _ XR.out infoH (by rfl) (one_hop _ _ _ _ _ _) ?_)
        refine bodyPost_ret (results_ct fun43 _ _ hb 71 hop0 (0, 0) _ rfl (setRow_heap _ _ _ _ _ _ XR.out) rfl Tryz.underlying71 (by kernel_rfl)) rfl ?_
        exact ⟨hop0, 90, rfl, ⟨r, HB2.out, .inl ⟨HRR.out, rfl, rfl⟩⟩, TT.out.rowed HSZ.out _⟩
      · obtain ⟨b, ⟨p, v⟩, rfl, hbi, hbx⟩ := HB2.out.lt hr
        obtain ⟨g, c, hV, _, hgl, hc, _⟩ := HR.out.r.getAt encR_len hbx
        simp only [Value.slice.injEq, true_and] at hV
        obtain ⟨rfl, rfl⟩ := hV
        have m0 := hc 0 _ rfl
        rw [Nat.add_zero] at m0
        have m1 := hc 1 _ rfl
        have m2 := hc 2 _ rfl
        have m3 := hc 3 _ rfl
        dsimp only at m0 m1 m2 m3
        have b2 : ¬ (b : Int) < 0 := by omega
        have b3 : (b : Int) < (s.r.length : Int) := by omega
        have b4 : (0 : Int) ≤ (b : Int) := by omega
        have HBX := Lib.hid hbx
        have HBI := Lib.hid hbi
        clear hbx hc hr hbi
        go_upto_region 10 with (fail)
        obtain ⟨W2, hW2⟩ : ∃ W : World, W = wr.alloc (.cells #[.int .u32 p.a, .int .i64 p.n, .int .u32 (rV v), .bool (rL v)] 49) := ⟨_, rfl⟩
        rw [← hW2]
        have t2 : Touch [] wr W2 := by rw [hW2]; exact (Touch.refl [] wr).alloc _
        obtain ⟨r8, hr8⟩ : ∃ r8, r8 = wr.heap.size := ⟨_, rfl⟩
        have R8 := Lib.hid (show W2.heap[r8]? = some (.cells #[.int .u32 p.a, .int .i64 p.n, .int .u32 (rV v), .bool (rL v)] 49 (0, 0)) by rw [hW2, hr8]; exact box_at _ _)
        have X2 := Lib.hid (touch_box t2 XR.out (by simp))
        have T2 := Lib.hid (TT.out.trans t2 (by simp))
        have H2 := Lib.hid (HR.out.kept t2 (by simp))
        rw [← hr8]
        clear hW2 t2 hr8 m0 m1 m2 m3 c0 c1 c2 c3 c4 c5 XR HR
        obtain ⟨q0, q1, q2, q3⟩ := rt_cells R8.out
        cases hl : rL v with
        | true =>
          rw [hl] at q3
          have HL := Lib.hid hl
          clear hl
          go_wp2_with (refine wpList_store_row (by rfl) 71 (.tmp 4) (.tmp 70) (by rfl) hb (hopC true p.a p.n 0 m60 0) (by rfl) (by rfl) 71 _ X2.out infoH (by rfl) (one_hop _ _ _ _ _ _) ?_)
          refine bodyPost_ret (results_ct fun43 _ _ hb 71 (hopC true p.a p.n 0 m60 0) (0, 0) _ rfl (setRow_heap _ _ _ _ _ _ X2.out) rfl Tryz.underlying71 (by kernel_rfl)) rfl ?_
          exact ⟨_, 0, rfl, ⟨b, HB2.out, .inr ⟨b, p, v, rfl, HBX.out, .inl ⟨HL.out, rfl, rfl⟩⟩⟩, T2.out.rowed HSZ.out _⟩
        | false =>
          rw [hl] at q3
          have HL := Lib.hid hl
          clear hl
          go_wp2_with fail
          refine (rneighAt_calls H2.out (rV v) (by have := HG.out.ln; omega)).mono ?_
          rintro e w3 ⟨r, rfl, hr, t3⟩
          have T3 := Lib.hid (T2.out.trans t3 (by simp))
          have X3 := Lib.hid (touch_box t3 X2.out (by simp))
          have R3 := Lib.hid (touch_box t3 R8.out (by simp))
          have H3 := Lib.hid (H2.out.kept t3 (by simp))
          clear t3 q0 q1 q2 q3 R8 X2 H2
          rcases hr with ⟨rfl, hno⟩ | ⟨i1, ⟨ip, mm⟩, rfl, hy, hkey⟩
          · have HNO := Lib.hid hno
            clear hno
            go_wp2_with (refine wpList_store_row (by rfl) 71 (.tmp 4) (.tmp 77) (by rfl) hb hop0 (by rfl) (by rfl) 71 _ X3.out infoH (by rfl) (one_hop _ _ _ _ _ _) ?_)
            refine bodyPost_ret (results_ct fun43 _ _ hb 71 hop0 (0, 0) _ rfl (setRow_heap _ _ _ _ _ _ X3.out) rfl Tryz.underlying71 (by kernel_rfl)) rfl ?_
            exact ⟨_, 91, rfl, ⟨b, HB2.out, .inr ⟨b, p, v, rfl, HBX.out, .inr ⟨HL.out, .inl ⟨rfl, rfl, HNO.out⟩⟩⟩⟩, T3.out.rowed HSZ.out _⟩
          · obtain ⟨AN, cN, hVN⟩ := H3.out.n.form
            subst hVN
            have hyl := (List.getElem?_eq_some_iff.1 hy).1
            obtain ⟨gn, cn, hV, _, _, hc, _⟩ := H3.out.n.getAt encN_len hy
            simp only [Value.slice.injEq, true_and] at hV
            obtain ⟨rfl, rfl⟩ := hV
            have m1 := hc 1 _ rfl
            have m2 := hc 2 _ rfl
            have m3 := hc 3 _ rfl
            have m4 := hc 4 _ rfl
            have m5 := hc 5 _ rfl
            have m6 := hc 6 _ rfl
            dsimp only at m1 m2 m3 m4 m5 m6
            have d2 : ¬ (i1 : Int) < 0 := by omega
            have d3 : (i1 : Int) < (s.n.length : Int) := by omega
            have d4 : (0 : Int) ≤ (i1 : Int) := by omega
            obtain ⟨c0, c1, c2, c3, c4, c5⟩ := six_cells H3.out.blk
            have HY := Lib.hid hy
            have HKE := Lib.hid (show ip = rV v from hkey)
            have hmw := (HG.out.n _ (List.mem_of_getElem? hy)).2.2
            clear hy hkey hc
            go_wp2_with fail
            refine (rfdbAt_calls H3.out (fun x hx => (HG.out.e x hx).1) mm hmw (by have := HG.out.le; omega)).mono ?_
            rintro e w4 ⟨r, rfl, hr, t4⟩
            have T4 := Lib.hid (T3.out.trans t4 (by simp))
            have X4 := Lib.hid (touch_box t4 X3.out (by simp))
            have R4 := Lib.hid (touch_box t4 R3.out (by simp))
            have H4 := Lib.hid (H3.out.kept t4 (by simp))
            clear t4 c0 c1 c2 c3 c4 c5 m1 m2 m3 m4 m5 m6 X3 R3 H3 hmw
            rcases hr with ⟨rfl, hno⟩ | ⟨i2, ⟨mf, ua⟩, rfl, hy2, hkey2⟩
            · have HNO := Lib.hid hno
              clear hno
              go_wp2_with (refine wpList_store_row (by rfl) 71 (.tmp 4) (.tmp 90) (by rfl) hb hop0 (by rfl) (by rfl) 71 _ X4.out infoH (by rfl) (one_hop _ _ _ _ _ _) ?_)
              refine bodyPost_ret (results_ct fun43 _ _ hb 71 hop0 (0, 0) _ rfl (setRow_heap _ _ _ _ _ _ X4.out) rfl Tryz.underlying71 (by kernel_rfl)) rfl ?_
              exact ⟨_, 92, rfl, ⟨b, HB2.out, .inr ⟨b, p, v, rfl, HBX.out, .inr ⟨HL.out, .inr ⟨_, List.mem_of_getElem? HY.out, HKE.out, .inl ⟨rfl, rfl, HNO.out⟩⟩⟩⟩⟩, T4.out.rowed HSZ.out _⟩
            · obtain ⟨AF, cF, hVF⟩ := H4.out.f.form
              subst hVF
              have hyl2 := (List.getElem?_eq_some_iff.1 hy2).1
              obtain ⟨gf, cf, hV, _, _, hc, _⟩ := H4.out.f.getAt encF_len hy2
              simp only [Value.slice.injEq, true_and] at hV
              obtain ⟨rfl, rfl⟩ := hV
              have m6 := hc 6 _ rfl
              dsimp only at m6
              obtain ⟨gn2, cn2, hV, _, _, hc, _⟩ := H4.out.n.getAt encN_len HY.out
              simp only [Value.slice.injEq, Option.some.injEq, Addr.mk.injEq, true_and, and_true] at hV
              obtain ⟨rfl, rfl⟩ := hV
              have n1 := hc 1 _ rfl
              have n2 := hc 2 _ rfl
              have n3 := hc 3 _ rfl
              have n4 := hc 4 _ rfl
              have n5 := hc 5 _ rfl
              have n6 := hc 6 _ rfl
              dsimp only at n1 n2 n3 n4 n5 n6
              have e2 : ¬ (i2 : Int) < 0 := by omega
              have e3 : (i2 : Int) < (s.e.length : Int) := by omega
              have e4 : (0 : Int) ≤ (i2 : Int) := by omega
              obtain ⟨c0, c1, c2, c3, c4, c5⟩ := six_cells H4.out.blk
              obtain ⟨q0, q1, q2, q3⟩ := rt_cells R4.out
              have HY2 := Lib.hid hy2
              have HKE2 := Lib.hid (show mf = mm from hkey2)
              clear hy2 hkey2 hc
              go_upto_region 18 with (fail)
              obtain ⟨x0, x1, x2, x3, x4, x5, x6, x7, x8, x9, x10⟩ := hop_cells X4.out
              have xf := fun o => hop_frozen X4.out o
              clear c0 c3 c4 c5 q3
              go_region
              all_goals
                clear x0 x1 x2 x3 x4 x5 x6 x7 x8 x9 x10 xf n1 n2 n3 n4 n5 n6 m6
                go_wp2
                rw [cells11]
                have hfin := heap_setCells (T := 71) (f := (0, 0)) (hopC false p.a p.n (rV v) mm ua).toList 0 w4 (hopC false 0 0 0 m60 0).toList X4.out (by simp [hopC])
                have ts := touch_setCells hb (hopC false p.a p.n (rV v) mm ua).toList 0 w4
                rw [show (hopC false 0 0 0 m60 0).toList.take 0 ++ (hopC false p.a p.n (rV v) mm ua).toList ++ (hopC false 0 0 0 m60 0).toList.drop (0 + (hopC false p.a p.n (rV v) mm ua).toList.length) = (hopC false p.a p.n (rV v) mm ua).toList by simp [hopC]] at hfin
                change (w4.setCells hb 0 (hopC false p.a p.n (rV v) mm ua).toList).heap[hb]? = some (.cells (hopC false p.a p.n (rV v) mm ua) 71 (0, 0)) at hfin
                rw [show [Value.bool false, Value.int .u32 p.a, Value.int .i64 p.n, Value.int .u32 (rV v), Value.int .u8 mm.m0, Value.int .u8 mm.m1, Value.int .u8 mm.m2, Value.int .u8 mm.m3, Value.int .u8 mm.m4, Value.int .u8 mm.m5, Value.int .u32 ua] = (hopC false p.a p.n (rV v) mm ua).toList by simp [hopC]]
                generalize w4.setCells hb 0 (hopC false p.a p.n (rV v) mm ua).toList = W5 at *
                refine bodyPost_ret (results_ct fun43 _ _ hb 71 (hopC false p.a p.n (rV v) mm ua) (0, 0) _ rfl (drew_keep hfin) rfl Tryz.underlying71 (by kernel_rfl)) rfl ?_
                exact ⟨_, 0, rfl, ⟨b, HB2.out, .inr ⟨b, p, v, rfl, HBX.out, .inr ⟨HL.out, .inr ⟨_, List.mem_of_getElem? HY.out, HKE.out, .inr ⟨_, List.mem_of_getElem? HY2.out, HKE2.out, rfl, rfl⟩⟩⟩⟩⟩, T4.out.trans ts.drew (fun x hx => .inr (by simp at hx; rw [hx]; exact HSZ.out))⟩
end Go.Proofs.YtnpeafhjcelpfaaGreat.Tri

/- The reference: what Dump builds; insertion; no condition. -/
namespace Go.Proofs.YtnpeafhjcelpfaaGreat.Tri
open Go.RowKit Go.Maps
set_option linter.unusedVariables false
set_option linter.unusedSimpArgs false
set_option maxRecDepth 100000

/-- The tables that Dump builds. -/
structure TabAt (w : World) (tb : Nat) (V0 V1 V2 : Value) (R : List Ent) (N : List NeE) (E : List FdE) : Prop where
  blk : w.heap[tb]? = some (.cells #[V0, V1, V2] 66 (0, 0))
  r : VRow w 49 4 V0 R.length (SK.flatL encR R)
  n : VRow w 53 7 V1 N.length (SK.flatL encN N)
  f : VRow w 55 7 V2 E.length (SK.flatL encF E)
def tfoot (tb : Nat) (V0 V1 V2 : Value) : List Nat := tb :: (V0.ownBlock.toList ++ V1.ownBlock.toList ++ V2.ownBlock.toList)
section
variable {w w' : World} {tb : Nat} {V0 V1 V2 : Value} {R : List Ent} {N : List NeE} {E : List FdE}
theorem TabAt.kept (h : TabAt w tb V0 V1 V2 R N E) {S : List Nat} (t : Touch S w w') (hn : ∀ x ∈ tfoot tb V0 V1 V2, x ∉ S) : TabAt w' tb V0 V1 V2 R N E :=
  ⟨touch_box t h.blk (hn tb (by simp [tfoot])), h.r.kept t (fun k hk => hn k (by simp [tfoot, hk])), h.n.kept t (fun k hk => hn k (by simp [tfoot, hk])), h.f.kept t (fun k hk => hn k (by simp [tfoot, hk]))⟩
theorem TabAt.lt (h : TabAt w tb V0 V1 V2 R N E) : ∀ x ∈ tfoot tb V0 V1 V2, x < w.heap.size := by
  intro x hx
  simp only [tfoot, List.mem_cons, List.mem_append, Option.mem_toList] at hx
  rcases hx with rfl | (hx | hx) | hx
  · exact (Array.getElem?_eq_some_iff.1 h.blk).1
  · exact h.r.lt x hx
  · exact h.n.lt x hx
  · exact h.f.lt x hx
theorem TabAt.apart (h : TabAt w tb V0 V1 V2 R N E) : tb ∉ V0.ownBlock.toList ∧ tb ∉ V1.ownBlock.toList ∧ tb ∉ V2.ownBlock.toList ∧ (∀ k, V0.ownBlock = some k → k ∉ V1.ownBlock.toList ∧ k ∉ V2.ownBlock.toList) ∧ (∀ k, V1.ownBlock = some k → k ∉ V0.ownBlock.toList ∧ k ∉ V2.ownBlock.toList) ∧ (∀ k, V2.ownBlock = some k → k ∉ V0.ownBlock.toList ∧ k ∉ V1.ownBlock.toList) := by
  have a0 := h.r.blk
  have a1 := h.n.blk
  have a2 := h.f.blk
  have hb := h.blk
  refine ⟨fun hx => ?_, fun hx => ?_, fun hx => ?_, fun k hk => ⟨fun hx => ?_, fun hx => ?_⟩, fun k hk => ⟨fun hx => ?_, fun hx => ?_⟩, fun k hk => ⟨fun hx => ?_, fun hx => ?_⟩⟩
  · obtain ⟨c, hc⟩ := a0 _ (by simpa using hx); rw [hb] at hc; simp at hc
  · obtain ⟨c, hc⟩ := a1 _ (by simpa using hx); rw [hb] at hc; simp at hc
  · obtain ⟨c, hc⟩ := a2 _ (by simpa using hx); rw [hb] at hc; simp at hc
  · obtain ⟨c, hc⟩ := a0 _ hk; obtain ⟨d, hd⟩ := a1 _ (by simpa using hx); rw [hc] at hd; simp at hd
  · obtain ⟨c, hc⟩ := a0 _ hk; obtain ⟨d, hd⟩ := a2 _ (by simpa using hx); rw [hc] at hd; simp at hd
  · obtain ⟨c, hc⟩ := a1 _ hk; obtain ⟨d, hd⟩ := a0 _ (by simpa using hx); rw [hc] at hd; simp at hd
  · obtain ⟨c, hc⟩ := a1 _ hk; obtain ⟨d, hd⟩ := a2 _ (by simpa using hx); rw [hc] at hd; simp at hd
  · obtain ⟨c, hc⟩ := a2 _ hk; obtain ⟨d, hd⟩ := a0 _ (by simpa using hx); rw [hc] at hd; simp at hd
  · obtain ⟨c, hc⟩ := a2 _ hk; obtain ⟨d, hd⟩ := a1 _ (by simpa using hx); rw [hc] at hd; simp at hd
end
theorem TabAt.newR {w W : World} {tb : Nat} {V0 V1 V2 : Value} {R : List Ent} {N : List NeE} {E : List FdE} (h : TabAt w tb V0 V1 V2 R N E) {V' : Value} {L : List Ent} (t : Touch V0.ownBlock.toList w W) (hv : VRow W 49 4 V' L.length (SK.flatL encR L)) (hB : V'.ownBlock = V0.ownBlock ∨ ∃ b, V'.ownBlock = some b ∧ w.heap.size ≤ b) :
    TabAt (W.setCell ⟨tb, 0, none⟩ V') tb V' V1 V2 L N E ∧ Touch (tfoot tb V0 V1 V2) w (W.setCell ⟨tb, 0, none⟩ V') ∧ ∀ x ∈ tfoot tb V' V1 V2, x ∈ tfoot tb V0 V1 V2 ∨ w.heap.size ≤ x := by
  obtain ⟨a0, a1, a2, d0, d1, d2⟩ := h.apart
  have hrb := h.lt tb (by simp [tfoot])
  have b0 := touch_box t h.blk a0
  have b1 := box_set (o := 0) b0 V'
  simp only [List.setIfInBounds_toArray, List.set_cons_succ, List.set_cons_zero] at b1
  have tS : Touch [tb] W (W.setCell ⟨tb, 0, none⟩ V') := (Touch.refl [tb] W).setCell _ _ (.inl (by simp))
  have hn : tb ∉ V'.ownBlock.toList := by
    rcases hB with e | ⟨b, e, hb⟩
    · rw [e]; exact a0
    · rw [e]; simp; omega
  refine ⟨⟨b1, hv.kept tS (fun k hk hx => hn (by simp at hx; subst hx; simp [hk])), (h.n.kept t (fun k hk => (d1 k hk).1)).kept tS (fun k hk hx => a1 (by simp at hx; subst hx; simp [hk])), (h.f.kept t (fun k hk => (d2 k hk).1)).kept tS (fun k hk hx => a2 (by simp at hx; subst hx; simp [hk]))⟩, (t.mono (fun x hx => .inl (by simp [tfoot, hx]))).setCell _ _ (.inl (by simp [tfoot])), fun x hx => ?_⟩
  simp only [tfoot, List.mem_cons, List.mem_append] at hx ⊢
  rcases hx with hx | (hx | hx) | hx
  · exact .inl (by simp [hx])
  · rcases hB with e | ⟨b, e, hb⟩
    · rw [e] at hx; exact .inl (by simp [hx])
    · rw [e] at hx; simp at hx; subst hx; exact .inr hb
  · exact .inl (by simp [hx])
  · exact .inl (by simp [hx])
theorem TabAt.sameR {w W : World} {tb : Nat} {V0 V1 V2 : Value} {R : List Ent} {N : List NeE} {E : List FdE} (h : TabAt w tb V0 V1 V2 R N E) {L : List Ent} (t : Touch V0.ownBlock.toList w W) (hv : VRow W 49 4 V0 L.length (SK.flatL encR L)) : TabAt W tb V0 V1 V2 L N E := by
  obtain ⟨a0, a1, a2, d0, d1, d2⟩ := h.apart
  exact ⟨touch_box t h.blk a0, hv, h.n.kept t (fun k hk => (d1 k hk).1), h.f.kept t (fun k hk => (d2 k hk).1)⟩
theorem TabAt.newN {w W : World} {tb : Nat} {V0 V1 V2 : Value} {R : List Ent} {N : List NeE} {E : List FdE} (h : TabAt w tb V0 V1 V2 R N E) {V' : Value} {L : List NeE} (t : Touch V1.ownBlock.toList w W) (hv : VRow W 53 7 V' L.length (SK.flatL encN L)) (hB : V'.ownBlock = V1.ownBlock ∨ ∃ b, V'.ownBlock = some b ∧ w.heap.size ≤ b) :
    TabAt (W.setCell ⟨tb, 1, none⟩ V') tb V0 V' V2 R L E ∧ Touch (tfoot tb V0 V1 V2) w (W.setCell ⟨tb, 1, none⟩ V') ∧ ∀ x ∈ tfoot tb V0 V' V2, x ∈ tfoot tb V0 V1 V2 ∨ w.heap.size ≤ x := by
  obtain ⟨a0, a1, a2, d0, d1, d2⟩ := h.apart
  have hrb := h.lt tb (by simp [tfoot])
  have b0 := touch_box t h.blk a1
  have b1 := box_set (o := 1) b0 V'
  simp only [List.setIfInBounds_toArray, List.set_cons_succ, List.set_cons_zero] at b1
  have tS : Touch [tb] W (W.setCell ⟨tb, 1, none⟩ V') := (Touch.refl [tb] W).setCell _ _ (.inl (by simp))
  have hn : tb ∉ V'.ownBlock.toList := by
    rcases hB with e | ⟨b, e, hb⟩
    · rw [e]; exact a1
    · rw [e]; simp; omega
  refine ⟨⟨b1, (h.r.kept t (fun k hk => (d0 k hk).1)).kept tS (fun k hk hx => a0 (by simp at hx; subst hx; simp [hk])), hv.kept tS (fun k hk hx => hn (by simp at hx; subst hx; simp [hk])), (h.f.kept t (fun k hk => (d2 k hk).2)).kept tS (fun k hk hx => a2 (by simp at hx; subst hx; simp [hk]))⟩, (t.mono (fun x hx => .inl (by simp [tfoot, hx]))).setCell _ _ (.inl (by simp [tfoot])), fun x hx => ?_⟩
  simp only [tfoot, List.mem_cons, List.mem_append] at hx ⊢
  rcases hx with hx | (hx | hx) | hx
  · exact .inl (by simp [hx])
  · exact .inl (by simp [hx])
  · rcases hB with e | ⟨b, e, hb⟩
    · rw [e] at hx; exact .inl (by simp [hx])
    · rw [e] at hx; simp at hx; subst hx; exact .inr hb
  · exact .inl (by simp [hx])
theorem TabAt.sameN {w W : World} {tb : Nat} {V0 V1 V2 : Value} {R : List Ent} {N : List NeE} {E : List FdE} (h : TabAt w tb V0 V1 V2 R N E) {L : List NeE} (t : Touch V1.ownBlock.toList w W) (hv : VRow W 53 7 V1 L.length (SK.flatL encN L)) : TabAt W tb V0 V1 V2 R L E := by
  obtain ⟨a0, a1, a2, d0, d1, d2⟩ := h.apart
  exact ⟨touch_box t h.blk a1, h.r.kept t (fun k hk => (d0 k hk).1), hv, h.f.kept t (fun k hk => (d2 k hk).2)⟩
theorem TabAt.newF {w W : World} {tb : Nat} {V0 V1 V2 : Value} {R : List Ent} {N : List NeE} {E : List FdE} (h : TabAt w tb V0 V1 V2 R N E) {V' : Value} {L : List FdE} (t : Touch V2.ownBlock.toList w W) (hv : VRow W 55 7 V' L.length (SK.flatL encF L)) (hB : V'.ownBlock = V2.ownBlock ∨ ∃ b, V'.ownBlock = some b ∧ w.heap.size ≤ b) :
    TabAt (W.setCell ⟨tb, 2, none⟩ V') tb V0 V1 V' R N L ∧ Touch (tfoot tb V0 V1 V2) w (W.setCell ⟨tb, 2, none⟩ V') ∧ ∀ x ∈ tfoot tb V0 V1 V', x ∈ tfoot tb V0 V1 V2 ∨ w.heap.size ≤ x := by
  obtain ⟨a0, a1, a2, d0, d1, d2⟩ := h.apart
  have hrb := h.lt tb (by simp [tfoot])
  have b0 := touch_box t h.blk a2
  have b1 := box_set (o := 2) b0 V'
  simp only [List.setIfInBounds_toArray, List.set_cons_succ, List.set_cons_zero] at b1
  have tS : Touch [tb] W (W.setCell ⟨tb, 2, none⟩ V') := (Touch.refl [tb] W).setCell _ _ (.inl (by simp))
  have hn : tb ∉ V'.ownBlock.toList := by
    rcases hB with e | ⟨b, e, hb⟩
    · rw [e]; exact a2
    · rw [e]; simp; omega
  refine ⟨⟨b1, (h.r.kept t (fun k hk => (d0 k hk).2)).kept tS (fun k hk hx => a0 (by simp at hx; subst hx; simp [hk])), (h.n.kept t (fun k hk => (d1 k hk).2)).kept tS (fun k hk hx => a1 (by simp at hx; subst hx; simp [hk])), hv.kept tS (fun k hk hx => hn (by simp at hx; subst hx; simp [hk]))⟩, (t.mono (fun x hx => .inl (by simp [tfoot, hx]))).setCell _ _ (.inl (by simp [tfoot])), fun x hx => ?_⟩
  simp only [tfoot, List.mem_cons, List.mem_append] at hx ⊢
  rcases hx with hx | (hx | hx) | hx
  · exact .inl (by simp [hx])
  · exact .inl (by simp [hx])
  · exact .inl (by simp [hx])
  · rcases hB with e | ⟨b, e, hb⟩
    · rw [e] at hx; exact .inl (by simp [hx])
    · rw [e] at hx; simp at hx; subst hx; exact .inr hb
theorem TabAt.sameF {w W : World} {tb : Nat} {V0 V1 V2 : Value} {R : List Ent} {N : List NeE} {E : List FdE} (h : TabAt w tb V0 V1 V2 R N E) {L : List FdE} (t : Touch V2.ownBlock.toList w W) (hv : VRow W 55 7 V2 L.length (SK.flatL encF L)) : TabAt W tb V0 V1 V2 R N L := by
  obtain ⟨a0, a1, a2, d0, d1, d2⟩ := h.apart
  exact ⟨touch_box t h.blk a2, h.r.kept t (fun k hk => (d0 k hk).2), h.n.kept t (fun k hk => (d1 k hk).2), hv⟩
/-! ### insertion -/
section
variable {α : Type} {lt : α → α → Prop}
/-- x is on its way down, with j elements ahead of it. -/
def Going (lt : α → α → Prop) (T : List α) (j : Nat) (x : α) : Prop := ∃ P Q, T = P ++ x :: Q ∧ P.length = j ∧ (P ++ Q).Pairwise (fun a b => ¬ lt b a) ∧ ∀ q ∈ Q, lt x q
theorem Going.start {L : List α} (h : L.Pairwise (fun a b => ¬ lt b a)) (x : α) : Going lt (L ++ [x]) L.length x := ⟨L, [], rfl, rfl, by simpa using h, by simp⟩
theorem Going.get {T : List α} {j : Nat} {x : α} (h : Going lt T j x) : T[j]? = some x ∧ j < T.length := by
  obtain ⟨P, Q, rfl, rfl, _⟩ := h
  refine ⟨by simp, by simp⟩
theorem Going.down {T : List α} {j : Nat} {x y : α} (h : Going lt T (j + 1) x) (hy : T[j]? = some y) (hxy : lt x y) : Going lt ((T.set (j + 1) y).set j x) j x ∧ ((T.set (j + 1) y).set j x).Perm T := by
  obtain ⟨P, Q, rfl, hP, hs, hQ⟩ := h
  obtain ⟨P', z, rfl⟩ : ∃ P' z, P = P' ++ [z] := by
    rcases List.eq_nil_or_concat P with e | ⟨P', z, e⟩
    · rw [e] at hP; simp at hP
    · exact ⟨P', z, by rw [e]; simp⟩
  have hl : P'.length = j := by simpa using hP
  have hz : z = y := by
    rw [List.append_assoc, List.getElem?_append_right (by omega), hl] at hy
    simpa using hy
  subst hz
  have e1 : ((P' ++ [z] ++ x :: Q).set (j + 1) z).set j x = P' ++ x :: z :: Q := by
    rw [← hl]
    simp [List.set_append_right]
  rw [e1]
  refine ⟨⟨P', z :: Q, rfl, hl, by simpa using hs, ?_⟩, ?_⟩
  · intro q hq
    rcases List.mem_cons.1 hq with e | h
    · rw [e]; exact hxy
    · exact hQ q h
  · rw [List.append_assoc]
    exact List.Perm.append_left _ (List.Perm.swap _ _ _)
theorem Going.stop {T : List α} {j : Nat} {x : α} (h : Going lt T j x) (hirr : ∀ a b, lt a b → ¬ lt b a) (hnt : ∀ a b c, ¬ lt a b → ¬ lt b c → ¬ lt a c) (hj : j = 0 ∨ ∃ k y, j = k + 1 ∧ T[k]? = some y ∧ ¬ lt x y) : T.Pairwise (fun a b => ¬ lt b a) := by
  obtain ⟨P, Q, rfl, hP, hs, hQ⟩ := h
  rw [List.pairwise_append] at hs
  obtain ⟨h1, h2, h3⟩ := hs
  rw [List.pairwise_append, List.pairwise_cons]
  have hx : ∀ p ∈ P, ¬ lt x p := by
    rcases hj with e | ⟨k, y, e, hy, hn⟩
    · rw [e] at hP
      rw [List.eq_nil_of_length_eq_zero hP]
      simp
    · obtain ⟨P', z, rfl⟩ : ∃ P' z, P = P' ++ [z] := by
        rcases List.eq_nil_or_concat P with e | ⟨P', z, e⟩
        · rw [e] at hP; simp at hP; omega
        · exact ⟨P', z, by rw [e]; simp⟩
      have hl : P'.length = k := by simp at hP; omega
      have hz : z = y := by
        rw [List.append_assoc, List.getElem?_append_right (by omega), hl] at hy
        simpa using hy
      subst hz
      rw [List.pairwise_append] at h1
      intro p hp
      rcases List.mem_append.1 hp with h | h
      · exact hnt x z p hn (h1.2.2 p h z (by simp))
      · simp at h; rw [h]; exact hn
  refine ⟨h1, ⟨fun q hq => hirr x q (hQ q hq), h2⟩, fun p hp q hq => ?_⟩
  rcases List.mem_cons.1 hq with e | h
  · rw [e]; exact hx p hp
  · exact h3 p hp q h
end
def ltR (a b : Ent) : Prop := a.1.a < b.1.a ∨ (a.1.a = b.1.a ∧ a.1.n < b.1.n)
instance (a b : Ent) : Decidable (ltR a b) := by unfold ltR; infer_instance
def ltNe (a b : NeE) : Prop := a.ip < b.ip
def ltFd (a b : FdE) : Prop := mlt a.m b.m
theorem mlt_irr {a b : M6} (h : mlt a b) : ¬ mlt b a := by unfold mlt at *; omega
theorem mlt_nt {a b c : M6} (h1 : ¬ mlt a b) (h2 : ¬ mlt b c) : ¬ mlt a c := by
  have e1 := fun h => mlt_tri (a := b) (b := a) h1 h
  have e2 := fun h => mlt_tri (a := c) (b := b) h2 h
  by_cases hab : b = a
  · subst hab; exact h2
  · by_cases hbc : c = b
    · subst hbc; exact h1
    · have g1 := e1 hab
      have g2 := e2 hbc
      refine mlt_irr ?_
      clear e1 e2 h1 h2 hab hbc
      unfold mlt at *
      omega
end Go.Proofs.YtnpeafhjcelpfaaGreat.Tri

