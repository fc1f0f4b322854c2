/- The reference: its object, and laws of its rows; no condition. -/
import Derived.Test.YtnpeafhjcelpfaaGreatY3
import Derived.Laws.IdiomCopy
import Derived.Laws.OwnMore
import Derived.BigQuiet
import Derived.Deep.RegionLaw
import Derived.Maps.OwnIn

namespace Go.Proofs.YtnpeafhjcelpfaaGreat.Tri
open Go.RowKit Go.Maps
set_option linter.unusedVariables false
set_option linter.unusedSimpArgs false

section
variable {w : World} {e : TypeId} {k g n c : Nat} {xs : List Value}
theorem touch_setCells (g : Nat) : ∀ (vs : List Value) (o : Nat) (w : World), Touch [g] w (w.setCells g o vs)
  | [], _, w => Touch.refl _ w
  | v :: r, o, w => by
    have := touch_setCells g r (o + 1) (w.setCell ⟨g, o, none⟩ v)
    exact ((Touch.refl [g] w).setCell _ _ (.inl (by simp))).trans this (fun x hx => .inl hx)
theorem VRow.put (h : VRow w e k (.slice (some ⟨g, 0, none⟩) n c) n xs) : ∀ (vs : List Value) (o : Nat), o + vs.length ≤ xs.length → VRow (w.setCells g o vs) e k (.slice (some ⟨g, 0, none⟩) n c) n (xs.take o ++ vs ++ xs.drop (o + vs.length)) := by
  intro vs
  induction vs generalizing w xs with
  | nil => intro o ho; simp only [World.setCells, List.append_nil, List.length_nil, Nat.add_zero, List.take_append_drop]; exact h
  | cons v r ih =>
    intro o ho
    simp only [List.length_cons] at ho
    have h1 : VRow (w.setCell ⟨g, o, none⟩ v) e k (.slice (some ⟨g, 0, none⟩) n c) n (xs.set o v) := ⟨(World.ownsRow.stored h.own o v).1⟩
    have h2 := ih h1 (o + 1) (by rw [List.length_set]; omega)
    have e1 : (xs.set o v).take (o + 1) ++ r ++ (xs.set o v).drop (o + 1 + r.length) = xs.take o ++ v :: r ++ xs.drop (o + (r.length + 1)) := by
      rw [List.take_add_one, List.take_set_of_le (Nat.le_refl o), List.drop_set_of_lt (by omega), List.getElem?_set_self (by omega), show o + 1 + r.length = o + (r.length + 1) by omega]
      simp
    rw [e1] at h2
    simpa only [World.setCells, List.length_cons] using h2
theorem VRow.cut (h : VRow w e k (.slice (some ⟨g, 0, none⟩) n c) n xs) {m : Nat} (hm : m ≤ n) : VRow w e k (.slice (some ⟨g, 0, none⟩) m c) m (xs.take (m * k)) := by
  have hl : m * k ≤ n * k := Nat.mul_le_mul_right k hm
  refine ⟨?_, ?_⟩
  · rw [List.length_take, h.own.1]; omega
  · rcases h.own.2 with ⟨h1, _⟩ | ⟨g', cap, cur, hv, hg, hh, h1, h2, h3, h4⟩
    · cases h1
    · simp only [Value.slice.injEq, Option.some.injEq, Addr.mk.injEq, true_and, and_true] at hv
      obtain ⟨rfl, rfl⟩ := hv
      refine .inr ⟨g, c, cur, rfl, hg, hh, Nat.le_trans hm h1, h2, h3, ?_⟩
      rw [← h4, List.take_take, Nat.min_eq_left hl]
end
section
variable {α : Type} {enc : α → List Value} {k : Nat}
theorem flat_take (hk : ∀ x, (enc x).length = k) (l : List α) (i : Nat) (hi : i ≤ l.length) : (SK.flatL enc l).take (i * k) = SK.flatL enc (l.take i) := by
  have e : SK.flatL enc l = SK.flatL enc (l.take i) ++ SK.flatL enc (l.drop i) := by
    unfold SK.flatL; rw [← List.flatMap_append, List.take_append_drop]
  have hl : (SK.flatL enc (l.take i)).length = i * k := by rw [SK.flatL_len enc k hk, List.length_take, Nat.min_eq_left hi]
  rw [e, ← hl, List.take_left]
theorem flat_drop (hk : ∀ x, (enc x).length = k) (l : List α) (i : Nat) (hi : i ≤ l.length) : (SK.flatL enc l).drop (i * k) = SK.flatL enc (l.drop i) := by
  have e : SK.flatL enc l = SK.flatL enc (l.take i) ++ SK.flatL enc (l.drop i) := by
    unfold SK.flatL; rw [← List.flatMap_append, List.take_append_drop]
  have hl : (SK.flatL enc (l.take i)).length = i * k := by rw [SK.flatL_len enc k hk, List.length_take, Nat.min_eq_left hi]
  rw [e, ← hl, List.drop_left]
theorem flat_app (a b : List α) : SK.flatL enc (a ++ b) = SK.flatL enc a ++ SK.flatL enc b := by simp [SK.flatL]
theorem flat_one (x : α) : SK.flatL enc [x] = enc x := by simp [SK.flatL]
variable {w : World} {e : TypeId} {g c : Nat}
/-- Element i written over. -/
theorem VRow.setAt (hk : ∀ x, (enc x).length = k) {l : List α} (h : VRow w e k (.slice (some ⟨g, 0, none⟩) l.length c) l.length (SK.flatL enc l)) {i : Nat} (hi : i < l.length) (x : α) :
    VRow (w.setCells g (i * k) (enc x)) e k (.slice (some ⟨g, 0, none⟩) (l.set i x).length c) (l.set i x).length (SK.flatL enc (l.set i x)) := by
  have hlen : (SK.flatL enc l).length = l.length * k := SK.flatL_len enc k hk l
  have hik : i * k + k ≤ l.length * k := by rw [← Nat.succ_mul]; exact Nat.mul_le_mul_right k hi
  have h1 := h.put (enc x) (i * k) (by rw [hk, hlen]; exact hik)
  rw [hk, flat_take hk l i (by omega), show i * k + k = (i + 1) * k by rw [Nat.succ_mul], flat_drop hk l (i + 1) (by omega)] at h1
  rw [List.length_set, List.set_eq_take_append_cons_drop, if_pos hi, flat_app, show x :: l.drop (i + 1) = [x] ++ l.drop (i + 1) from rfl, flat_app, flat_one]
  simpa using h1
/-- Element i taken out. -/
theorem VRow.outAt (hk : ∀ x, (enc x).length = k) {l : List α} (h : VRow w e k (.slice (some ⟨g, 0, none⟩) l.length c) l.length (SK.flatL enc l)) {i : Nat} (hi : i < l.length) :
    VRow (w.setCells g (i * k) (SK.flatL enc (l.drop (i + 1)))) e k (.slice (some ⟨g, 0, none⟩) (l.eraseIdx i).length c) (l.eraseIdx i).length (SK.flatL enc (l.eraseIdx i)) := by
  have hlen : (SK.flatL enc l).length = l.length * k := SK.flatL_len enc k hk l
  have hd : (SK.flatL enc (l.drop (i + 1))).length = (l.length - (i + 1)) * k := by rw [SK.flatL_len enc k hk, List.length_drop]
  have e1 : (i + (l.length - (i + 1))) * k = i * k + (l.length - (i + 1)) * k := Nat.add_mul _ _ _
  have e2 : (i + (l.length - (i + 1))) * k ≤ l.length * k := Nat.mul_le_mul_right k (by omega)
  have h1 := h.put (SK.flatL enc (l.drop (i + 1))) (i * k) (by rw [hd, hlen]; omega)
  have hle : (l.eraseIdx i).length = i + (l.length - (i + 1)) := by rw [List.length_eraseIdx_of_lt hi]; omega
  have h2 := h1.cut (m := (l.eraseIdx i).length) (by omega)
  rw [flat_take hk l i (by omega)] at h2
  have e3 : (SK.flatL enc (l.take i)).length = i * k := by rw [SK.flatL_len enc k hk, List.length_take, Nat.min_eq_left (by omega)]
  rw [List.append_assoc, ← List.append_assoc, List.take_append_of_le_length (by rw [List.length_append, e3, hd, hle, e1]; exact Nat.le_refl _), List.take_of_length_le (by rw [List.length_append, e3, hd, hle, e1]; exact Nat.le_refl _)] at h2
  rw [List.eraseIdx_eq_take_drop_succ, flat_app]
  rw [List.eraseIdx_eq_take_drop_succ] at h2
  exact h2
/-- The cells of element i. -/
theorem VRow.getAt (hk : ∀ x, (enc x).length = k) {V : Value} {l : List α} (h : VRow w e k V l.length (SK.flatL enc l)) {i : Nat} {x : α} (hx : l[i]? = some x) :
    ∃ g c, V = .slice (some ⟨g, 0, none⟩) l.length c ∧ l.length ≤ c ∧ g < w.heap.size ∧ (∀ j v, (enc x)[j]? = some v → w.cell? ⟨g, i * k + j, none⟩ = some v) ∧ ∀ j, w.frozen? ⟨g, j, none⟩ = false := by
  have hi := (List.getElem?_eq_some_iff.1 hx).1
  obtain ⟨g, c, hV, hg, hc⟩ := h.at_ (by omega)
  refine ⟨g, c, hV, ?_, hg, fun j v hv => ?_, fun j => ?_⟩
  · rcases h.own.2 with ⟨h1, h2⟩ | ⟨g', cap, cur, hv, _, _, h1, _⟩
    · omega
    · rw [hV] at hv
      simp only [Value.slice.injEq, true_and] at hv
      omega
  · have hj : j < k := by rw [← hk x]; exact (List.getElem?_eq_some_iff.1 hv).1
    exact hc _ _ ((SK.flatL_get enc k hk l i j x hx hj).trans hv)
  · have := h.own
    rw [hV] at this
    exact World.ownsRow.frozenAt this _
end
theorem encR_len (x : Ent) : (encR x).length = 4 := rfl
theorem encR_one (x : Ent) : ∀ v ∈ encR x, v.oneCell' = true := by
  intro v hv
  simp only [encR, List.mem_cons, List.not_mem_nil, or_false] at hv
  rcases hv with rfl | rfl | rfl | rfl <;> rfl
/-- The reference's kernel. -/
structure RefK (w : World) (rb : Nat) (V0 V1 V2 : Value) (R : List Ent) (N : List NeE) (E : List FdE) (l0 l1 l2 : Int) : Prop where
  blk : w.heap[rb]? = some (.cells #[V0, V1, V2, .int .i64 l0, .int .i64 l1, .int .i64 l2] 132 (0, 0))
  r : VRow w 49 4 V0 R.length (SK.flatL encR R)
  n : VRow w 53 7 V1 N.length (SK.flatL encN N)
  f : VRow w 55 7 V2 E.length (SK.flatL encF E)
def kfoot (rb : Nat) (V0 V1 V2 : Value) : List Nat := rb :: (V0.ownBlock.toList ++ V1.ownBlock.toList ++ V2.ownBlock.toList)
section
variable {w w' : World} {rb : Nat} {V0 V1 V2 : Value} {R : List Ent} {N : List NeE} {E : List FdE} {l0 l1 l2 : Int}
theorem RefK.kept (h : RefK w rb V0 V1 V2 R N E l0 l1 l2) {S : List Nat} (t : Touch S w w') (hn : ∀ x ∈ kfoot rb V0 V1 V2, x ∉ S) : RefK w' rb V0 V1 V2 R N E l0 l1 l2 :=
  ⟨touch_box t h.blk (hn rb (by simp [kfoot])), h.r.kept t (fun k hk => hn k (by simp [kfoot, hk])), h.n.kept t (fun k hk => hn k (by simp [kfoot, hk])), h.f.kept t (fun k hk => hn k (by simp [kfoot, hk]))⟩
theorem RefK.lt (h : RefK w rb V0 V1 V2 R N E l0 l1 l2) : ∀ x ∈ kfoot rb V0 V1 V2, x < w.heap.size := by
  intro x hx
  simp only [kfoot, List.mem_cons, List.mem_append, Option.mem_toList] at hx
  rcases hx with rfl | (hx | hx) | hx
  · exact (Array.getElem?_eq_some_iff.1 h.blk).1
  · exact h.r.lt x hx
  · exact h.n.lt x hx
  · exact h.f.lt x hx
/-- The rows and the object lie apart. -/
theorem RefK.apart (h : RefK w rb V0 V1 V2 R N E l0 l1 l2) : rb ∉ V0.ownBlock.toList ∧ rb ∉ V1.ownBlock.toList ∧ rb ∉ V2.ownBlock.toList ∧ (∀ k, V0.ownBlock = some k → k ∉ V1.ownBlock.toList ∧ k ∉ V2.ownBlock.toList) ∧ (∀ k, V1.ownBlock = some k → k ∉ V0.ownBlock.toList ∧ k ∉ V2.ownBlock.toList) ∧ (∀ k, V2.ownBlock = some k → k ∉ V0.ownBlock.toList ∧ k ∉ V1.ownBlock.toList) := by
  have a0 := h.r.blk
  have a1 := h.n.blk
  have a2 := h.f.blk
  have hb := h.blk
  refine ⟨fun hx => ?_, fun hx => ?_, fun hx => ?_, fun k hk => ⟨fun hx => ?_, fun hx => ?_⟩, fun k hk => ⟨fun hx => ?_, fun hx => ?_⟩, fun k hk => ⟨fun hx => ?_, fun hx => ?_⟩⟩
  · obtain ⟨c, hc⟩ := a0 _ (by simpa using hx); rw [hb] at hc; simp at hc
  · obtain ⟨c, hc⟩ := a1 _ (by simpa using hx); rw [hb] at hc; simp at hc
  · obtain ⟨c, hc⟩ := a2 _ (by simpa using hx); rw [hb] at hc; simp at hc
  · obtain ⟨c, hc⟩ := a0 _ hk; obtain ⟨d, hd⟩ := a1 _ (by simpa using hx); rw [hc] at hd; simp at hd
  · obtain ⟨c, hc⟩ := a0 _ hk; obtain ⟨d, hd⟩ := a2 _ (by simpa using hx); rw [hc] at hd; simp at hd
  · obtain ⟨c, hc⟩ := a1 _ hk; obtain ⟨d, hd⟩ := a0 _ (by simpa using hx); rw [hc] at hd; simp at hd
  · obtain ⟨c, hc⟩ := a1 _ hk; obtain ⟨d, hd⟩ := a2 _ (by simpa using hx); rw [hc] at hd; simp at hd
  · obtain ⟨c, hc⟩ := a2 _ hk; obtain ⟨d, hd⟩ := a0 _ (by simpa using hx); rw [hc] at hd; simp at hd
  · obtain ⟨c, hc⟩ := a2 _ hk; obtain ⟨d, hd⟩ := a1 _ (by simpa using hx); rw [hc] at hd; simp at hd
end
/-- Where a list holds a key. -/
def FindI {α κ : Type} (key : α → κ) (l : List α) (x : κ) (r : Int) : Prop := (r = -1 ∧ ∀ y ∈ l, key y ≠ x) ∨ ∃ (i : Nat) (y : α), r = (i : Int) ∧ l[i]? = some y ∧ key y = x
def FindPostI {α κ : Type} (w : World) (key : α → κ) (l : List α) (x : κ) (e : Ending) (w' : World) : Prop := ∃ r, e = .returned (.int .i64 r) ∧ FindI key l x r ∧ Touch [] w w'
end Go.Proofs.YtnpeafhjcelpfaaGreat.Tri

/- The reference: routeAt, neighAt; no condition. -/
namespace Go.Proofs.YtnpeafhjcelpfaaGreat.Tri
open Go.RowKit Go.Maps
set_option linter.unusedVariables false
set_option linter.unusedSimpArgs false
set_option maxRecDepth 100000

theorem FindI.none {α κ : Type} {key : α → κ} {l : List α} {x : κ} {k : Nat} (h : ∀ i y, i < k → l[i]? = some y → key y ≠ x) (hk : l.length ≤ k) : FindI key l x (-1) :=
  .inl ⟨rfl, fun y hy => by
    obtain ⟨i, hi⟩ := List.mem_iff_getElem?.1 hy
    exact h i y (by have := (List.getElem?_eq_some_iff.1 hi).1; omega) hi⟩
theorem no_more {α κ : Type} {key : α → κ} {l : List α} {x : κ} {k : Nat} {y : α} (h : ∀ i y, i < k → l[i]? = some y → key y ≠ x) (hy : l[k]? = some y) (hn : key y ≠ x) : ∀ i y, i < k + 1 → l[i]? = some y → key y ≠ x := by
  intro i z hi hz
  rcases Nat.eq_or_lt_of_le (Nat.le_of_lt_succ hi) with e | e
  · subst e; rw [hy] at hz; cases hz; exact hn
  · exact h i z e hz
def NeE.key (y : NeE) : Int := y.ip
set_option maxHeartbeats 4000000 in
theorem rneighAt_calls {w : World} {rb : Nat} {V0 V1 V2 : Value} {R : List Ent} {N : List NeE} {E : List FdE} {l0 l1 l2 : Int} (h : RefK w rb V0 V1 V2 R N E l0 l1 l2) (a : Int) (hlen : N.length < 4611686018427387904) :
    Calls Tryz.prog 66 #[.pointer (some ⟨rb, 0, none⟩), .int .u32 a] w (FindPostI w NeE.key N a) := by
  have H := Lib.hid h
  obtain ⟨A, cap, rfl⟩ := h.n.form
  clear h
  go_enter Tryz.func66, Tryz.ntmps66
  go_wp2
  go_loopw [5] (fun v5 wr => ∃ k : Nat, v5 = .int .i64 k ∧ k ≤ N.length ∧ Hid (∀ i y, i < k → N[i]? = some y → NeE.key y ≠ a) ∧ Hid (Touch [] w wr)) (fun v5 _ => N.length - (intOf v5).toNat)
  case atStart => exact ⟨0, rfl, Nat.zero_le _, Lib.hid (fun i y hi => absurd hi (Nat.not_lt_zero _)), Lib.hid (Touch.refl _ _)⟩
  case round =>
    obtain ⟨k, rfl, hk, hno, hT⟩ := hrel
    have HR := Lib.hid (H.out.kept hT.out (by simp))
    obtain ⟨c0, c1, c2, c3, c4, c5⟩ := six_cells HR.out.blk
    by_cases hlt : k < N.length
    · have b1 : (k : Int) < (N.length : Int) := by omega
      obtain ⟨⟨ip, m⟩, hx⟩ : ∃ x, N[k]? = some x := ⟨_, List.getElem?_eq_getElem hlt⟩
      obtain ⟨g, c, hV, _, hgl, hc, _⟩ := HR.out.n.getAt encN_len hx
      simp only [Value.slice.injEq, true_and] at hV
      obtain ⟨rfl, rfl⟩ := hV
      have m0 := hc 0 _ rfl
      rw [Nat.add_zero] at m0
      have HX := Lib.hid hx
      clear hx hc
      by_cases e : ip = a
      · have HE := Lib.hid e
        subst e
        go_wp2
        go_ret
        exact ⟨(k : Int), rfl, .inr ⟨k, _, rfl, HX.out, rfl⟩, hT.out⟩
      · have eb : (ip == a) = false := by simpa using e
        have HE := Lib.hid e
        clear e
        go_wp2
        go_roundw
        case rel => exact ⟨k + 1, by go_num, by omega, Lib.hid (no_more hno.out HX.out HE.out), hT⟩
        case measure => simp [intOf]; omega
    · have b1 : ¬ (k : Int) < (N.length : Int) := by omega
      have HK := Lib.hid hlt
      clear hlt
      go_wp2
      go_ret
      exact ⟨_, rfl, FindI.none hno.out (by have := HK.out; omega), hT.out⟩
def Ent.key (y : Ent) : Px := y.1
set_option maxHeartbeats 4000000 in
theorem rrouteAt_calls {w : World} {rb : Nat} {V0 V1 V2 : Value} {R : List Ent} {N : List NeE} {E : List FdE} {l0 l1 l2 : Int} (h : RefK w rb V0 V1 V2 R N E l0 l1 l2) (p : Px) (hlen : R.length < 4611686018427387904) :
    Calls Tryz.prog 99 #[.pointer (some ⟨rb, 0, none⟩), .agg #[.int .u32 p.a, .int .i64 p.n]] w (FindPostI w Ent.key R p) := by
  have H := Lib.hid h
  obtain ⟨A, cap, rfl⟩ := h.r.form
  clear h
  go_enter Tryz.func99, Tryz.ntmps99
  go_wp2
  obtain ⟨W1, hW1⟩ : ∃ W1 : World, W1 = w.alloc (.cells #[.int .u32 p.a, .int .i64 p.n] 47) := ⟨_, rfl⟩
  rw [← hW1]
  have X1 := Lib.hid (show W1.heap[w.heap.size]? = some (.cells #[.int .u32 p.a, .int .i64 p.n] 47 (0, 0)) by rw [hW1]; exact box_at w _)
  have T1 := Lib.hid (show Touch [] w W1 by rw [hW1]; exact (Touch.refl [] w).alloc _)
  clear hW1
  go_loopw [5] (fun v5 wr => ∃ k : Nat, v5 = .int .i64 k ∧ k ≤ R.length ∧ Hid (∀ i y, i < k → R[i]? = some y → Ent.key y ≠ p) ∧ Hid (Touch [] W1 wr)) (fun v5 _ => R.length - (intOf v5).toNat)
  case atStart => exact ⟨0, rfl, Nat.zero_le _, Lib.hid (fun i y hi => absurd hi (Nat.not_lt_zero _)), Lib.hid (Touch.refl _ _)⟩
  case round =>
    obtain ⟨k, rfl, hk, hno, hT⟩ := hrel
    have TT := Lib.hid (T1.out.trans hT.out (by simp))
    have HR := Lib.hid (H.out.kept TT.out (by simp))
    obtain ⟨c0, c1, c2, c3, c4, c5⟩ := six_cells HR.out.blk
    obtain ⟨d0, d1, _⟩ := two_cells (touch_box hT.out X1.out (by simp))
    by_cases hlt : k < R.length
    · have b1 : (k : Int) < (R.length : Int) := by omega
      obtain ⟨⟨q, u⟩, hx⟩ : ∃ x, R[k]? = some x := ⟨_, List.getElem?_eq_getElem hlt⟩
      obtain ⟨g, c, hV, _, hgl, hc, _⟩ := HR.out.r.getAt encR_len hx
      simp only [Value.slice.injEq, true_and] at hV
      obtain ⟨rfl, rfl⟩ := hV
      have m0 := hc 0 _ rfl
      rw [Nat.add_zero] at m0
      have m1 := hc 1 _ rfl
      dsimp only at m0 m1
      have HX := Lib.hid hx
      clear hx hc
      by_cases e : q.a = p.a
      · have e1 : ((q.a : Int) == (p.a : Int)) = true := by simp [e]
        by_cases f : q.n = p.n
        · have f1 : ((q.n : Int) == (p.n : Int)) = true := by simp [f]
          have HE := Lib.hid (show q = p by cases q; cases p; simp_all)
          clear e f
          go_wp2
          go_quiet (fail)
          go_wp2
          go_ret
          exact ⟨(k : Int), rfl, .inr ⟨k, _, rfl, HX.out, HE.out⟩, TT.out.drewN _⟩
        · have f1 : ((q.n : Int) == (p.n : Int)) = false := by simp; omega
          have HE := Lib.hid (show q ≠ p from fun x => f (by rw [x]))
          clear e f
          go_wp2
          go_quiet (fail)
          go_wp2
          go_roundw
          case rel => exact ⟨k + 1, by go_num, by omega, Lib.hid (no_more hno.out HX.out HE.out), Lib.hid (hT.out.drewN _)⟩
          case measure => simp [intOf]; omega
      · have e1 : ((q.a : Int) == (p.a : Int)) = false := by simp; omega
        have HE := Lib.hid (show q ≠ p from fun x => e (by rw [x]))
        clear e
        go_wp2
        go_quiet (fail)
        go_wp2
        go_roundw
        case rel => exact ⟨k + 1, by go_num, by omega, Lib.hid (no_more hno.out HX.out HE.out), Lib.hid (hT.out.drewN _)⟩
        case measure => simp [intOf]; omega
    · have b1 : ¬ (k : Int) < (R.length : Int) := by omega
      have HK := Lib.hid hlt
      clear hlt
      go_wp2
      go_ret
      exact ⟨_, rfl, FindI.none hno.out (by have := HK.out; omega), TT.out⟩
end Go.Proofs.YtnpeafhjcelpfaaGreat.Tri

/- The reference: compare, fdbAt; no condition. -/
namespace Go.Proofs.YtnpeafhjcelpfaaGreat.Tri
open Go.RowKit Go.Maps
set_option linter.unusedVariables false
set_option linter.unusedSimpArgs false
set_option maxRecDepth 100000

def mg (m : M6) (k : Nat) : Int := (macL m).getD k 0
/-- What compare answers. -/
def CmpR (a b : M6) (r : Int) : Prop := (r = 0 ∧ a = b) ∨ ∃ k, k < 6 ∧ (∀ j, j < k → mg a j = mg b j) ∧ mg a k ≠ mg b k ∧ r = mg a k - mg b k
theorem m6_ext {a b : M6} (h : ∀ j, j < 6 → mg a j = mg b j) : a = b := by
  obtain ⟨a0, a1, a2, a3, a4, a5⟩ := a
  obtain ⟨b0, b1, b2, b3, b4, b5⟩ := b
  have h0 := h 0 (by decide)
  have h1 := h 1 (by decide)
  have h2 := h 2 (by decide)
  have h3 := h 3 (by decide)
  have h4 := h 4 (by decide)
  have h5 := h 5 (by decide)
  simp only [mg, macL, List.getD_cons_zero, List.getD_cons_succ] at h0 h1 h2 h3 h4 h5
  subst h0 h1 h2 h3 h4 h5
  rfl
theorem mg_wf {m : M6} (h : m.wf) (k : Nat) : 0 ≤ mg m k ∧ mg m k < 256 := by
  obtain ⟨h0, h1, h2, h3, h4, h5⟩ := h
  rcases (show k = 0 ∨ k = 1 ∨ k = 2 ∨ k = 3 ∨ k = 4 ∨ k = 5 ∨ 6 ≤ k by omega) with rfl | rfl | rfl | rfl | rfl | rfl | h
  · exact h0
  · exact h1
  · exact h2
  · exact h3
  · exact h4
  · exact h5
  · have : mg m k = 0 := by
      unfold mg
      rw [List.getD_eq_getElem?_getD, List.getElem?_eq_none (by simp [macL]; omega)]
      rfl
    omega
theorem mac_cell {w : World} {b : Nat} {m : M6} {T : TypeId} (h : w.heap[b]? = some (.cells (macC m) T (0, 0))) {k : Nat} (hk : k < 6) : w.cell? ⟨b, k, none⟩ = some (.int .u8 (mg m k)) := by
  rcases (show k = 0 ∨ k = 1 ∨ k = 2 ∨ k = 3 ∨ k = 4 ∨ k = 5 by omega) with rfl | rfl | rfl | rfl | rfl | rfl <;> simp [World.cell?, h, macC, mg, macL]
set_option maxHeartbeats 4000000 in
theorem rcompare_calls {w : World} (a b : M6) (ha : a.wf) (hb : b.wf) :
    Calls Tryz.prog 69 #[.agg (macC a), .agg (macC b)] w (fun e w' => ∃ r, e = .returned (.int .i64 r) ∧ CmpR a b r ∧ Touch [] w w') := by
  have HA := Lib.hid ha
  have HB := Lib.hid hb
  obtain ⟨W1, hW1⟩ : ∃ W1 : World, W1 = (w.alloc (.cells (macC a) 51)).alloc (.cells (macC b) 51) := ⟨_, rfl⟩
  have X0 := Lib.hid (show W1.heap[w.heap.size]? = some (.cells (macC a) 51 (0, 0)) by rw [hW1]; exact box_keep _ (box_at w _))
  have X1 := Lib.hid (show W1.heap[w.heap.size + 1]? = some (.cells (macC b) 51 (0, 0)) by rw [hW1]; exact box_at' _ _ _ (by simp))
  have T1 := Lib.hid (show Touch [] w W1 by rw [hW1]; exact ((Touch.refl [] w).alloc _).alloc _)
  unfold macC at hW1 ⊢
  have HW := Lib.hid hW1
  clear ha hb hW1
  go_enter Tryz.func69, Tryz.ntmps69
  go_wp2
  rw [← HW.out]
  go_loopw [5] (fun v5 wr => ∃ k : Nat, v5 = .int .i64 k ∧ k ≤ 6 ∧ Hid (∀ j, j < k → mg a j = mg b j) ∧ Hid (Touch [] W1 wr)) (fun v5 _ => 6 - (intOf v5).toNat)
  case atStart => exact ⟨0, rfl, by omega, Lib.hid (fun i hi => absurd hi (Nat.not_lt_zero _)), Lib.hid (Touch.refl _ _)⟩
  case round =>
    obtain ⟨k, rfl, hk, hno, hT⟩ := hrel
    have TT := Lib.hid (T1.out.trans hT.out (by simp))
    by_cases hlt : k < 6
    · have b1 : (k : Int) < 6 := by omega
      have m0 := mac_cell (touch_box hT.out X0.out (by simp)) hlt
      have m1 := mac_cell (touch_box hT.out X1.out (by simp)) hlt
      have ma := mg_wf HA.out k
      have mb := mg_wf HB.out k
      obtain ⟨x, hx⟩ : ∃ x, x = mg a k := ⟨_, rfl⟩
      obtain ⟨y, hy⟩ : ∃ y, y = mg b k := ⟨_, rfl⟩
      rw [← hx] at m0 ma
      rw [← hy] at m1 mb
      have HX := Lib.hid hx
      have HY := Lib.hid hy
      clear hx hy
      by_cases e : x = y
      · have eb : (x == y) = true := by simp [e]
        have HE := Lib.hid e
        clear e
        go_wp2
        go_quiet (fail)
        go_wp2
        go_roundw
        case rel => exact ⟨k + 1, by go_num, by omega, Lib.hid (fun j hj => by
          rcases Nat.eq_or_lt_of_le (Nat.le_of_lt_succ hj) with h | h
          · rw [h, ← HX.out, ← HY.out, HE.out]
          · exact hno.out j h), Lib.hid (hT.out.drewN _)⟩
        case measure => simp [intOf]; omega
      · have eb : (x == y) = false := by simpa using e
        have HE := Lib.hid e
        clear e
        go_wp2
        go_quiet (fail)
        go_wp2
        go_quiet (fail)
        go_wp2
        go_ret
        refine ⟨x - y, by first | rfl | (congr 2; go_num), .inr ⟨k, hlt, hno.out, by rw [← HX.out, ← HY.out]; exact HE.out, by rw [← HX.out, ← HY.out]⟩, ?_⟩
        first | exact (TT.out.drewN _).drewN _ | exact TT.out.drewN _
    · have b1 : ¬ (k : Int) < 6 := by omega
      have HK := Lib.hid hlt
      clear hlt
      go_wp2
      go_ret
      exact ⟨0, rfl, .inl ⟨rfl, m6_ext (fun j hj => hno.out j (by have := HK.out; omega))⟩, TT.out⟩
end Go.Proofs.YtnpeafhjcelpfaaGreat.Tri

/- The reference: fdbAt; no condition. -/
namespace Go.Proofs.YtnpeafhjcelpfaaGreat.Tri
open Go.RowKit Go.Maps
set_option linter.unusedVariables false
set_option linter.unusedSimpArgs false
set_option maxRecDepth 100000

def cmpV (a b : M6) : Int :=
  if mg a 0 ≠ mg b 0 then mg a 0 - mg b 0 else if mg a 1 ≠ mg b 1 then mg a 1 - mg b 1 else if mg a 2 ≠ mg b 2 then mg a 2 - mg b 2 else
  if mg a 3 ≠ mg b 3 then mg a 3 - mg b 3 else if mg a 4 ≠ mg b 4 then mg a 4 - mg b 4 else if mg a 5 ≠ mg b 5 then mg a 5 - mg b 5 else 0
theorem CmpR.eq {a b : M6} {r : Int} (h : CmpR a b r) : r = cmpV a b := by
  rcases h with ⟨rfl, rfl⟩ | ⟨k, hk, h1, h2, rfl⟩
  · simp [cmpV]
  · unfold cmpV
    rcases (show k = 0 ∨ k = 1 ∨ k = 2 ∨ k = 3 ∨ k = 4 ∨ k = 5 by omega) with rfl | rfl | rfl | rfl | rfl | rfl
    · rw [if_pos h2]
    · rw [if_neg (fun x => x (h1 0 (by decide))), if_pos h2]
    · rw [if_neg (fun x => x (h1 0 (by decide))), if_neg (fun x => x (h1 1 (by decide))), if_pos h2]
    · rw [if_neg (fun x => x (h1 0 (by decide))), if_neg (fun x => x (h1 1 (by decide))), if_neg (fun x => x (h1 2 (by decide))), if_pos h2]
    · rw [if_neg (fun x => x (h1 0 (by decide))), if_neg (fun x => x (h1 1 (by decide))), if_neg (fun x => x (h1 2 (by decide))), if_neg (fun x => x (h1 3 (by decide))), if_pos h2]
    · rw [if_neg (fun x => x (h1 0 (by decide))), if_neg (fun x => x (h1 1 (by decide))), if_neg (fun x => x (h1 2 (by decide))), if_neg (fun x => x (h1 3 (by decide))), if_neg (fun x => x (h1 4 (by decide))), if_pos h2]
theorem cmpV_zero {a b : M6} : cmpV a b = 0 ↔ a = b := by
  constructor
  · intro h
    unfold cmpV at h
    apply m6_ext
    intro j hj
    split at h
    · omega
    · split at h
      · omega
      · split at h
        · omega
        · split at h
          · omega
          · split at h
            · omega
            · split at h
              · omega
              · rcases (show j = 0 ∨ j = 1 ∨ j = 2 ∨ j = 3 ∨ j = 4 ∨ j = 5 by omega) with rfl | rfl | rfl | rfl | rfl | rfl <;> omega
  · rintro rfl
    simp [cmpV]
theorem cmpV_lt {a b : M6} : cmpV a b < 0 ↔ mlt a b := by
  have key : ∀ (x y c : Int) (P : Prop), (c < 0 ↔ P) → ((if x ≠ y then x - y else c) < 0 ↔ x < y ∨ (x = y ∧ P)) := by
    intro x y c P h
    by_cases e : x = y
    · simp [e, h]
    · simp [e]; omega
  unfold cmpV mlt
  refine key _ _ _ _ (key _ _ _ _ (key _ _ _ _ (key _ _ _ _ (key _ _ _ _ ?_))))
  show (if mg a 5 ≠ mg b 5 then mg a 5 - mg b 5 else 0) < 0 ↔ mg a 5 < mg b 5
  split <;> omega
theorem rcmp_calls {w : World} (a b : M6) (ha : a.wf) (hb : b.wf) :
    Calls Tryz.prog 69 #[.agg (macC a), .agg (macC b)] w (fun e w' => e = .returned (.int .i64 (cmpV a b)) ∧ Touch [] w w') := by
  refine (rcompare_calls a b ha hb).mono ?_
  rintro e w' ⟨r, rfl, hr, t⟩
  exact ⟨by rw [hr.eq], t⟩
theorem rcmp_near {w0 : World} (u : Near w0) (a b : M6) (ha : a.wf) (hb : b.wf) :
    Calls Tryz.prog 69 #[.agg #[.int .u8 a.m0, .int .u8 a.m1, .int .u8 a.m2, .int .u8 a.m3, .int .u8 a.m4, .int .u8 a.m5], .agg #[.int .u8 b.m0, .int .u8 b.m1, .int .u8 b.m2, .int .u8 b.m3, .int .u8 b.m4, .int .u8 b.m5]] u.w fun e w' => e = .returned (.int .i64 (cmpV a b)) ∧ ∃ x : Near w0, w' = x.w :=
  near_call u (rcmp_calls a b ha hb)
def FdE.key (y : FdE) : M6 := y.m
set_option maxHeartbeats 4000000 in
theorem rfdbAt_calls {w : World} {rb : Nat} {V0 V1 V2 : Value} {R : List Ent} {N : List NeE} {E : List FdE} {l0 l1 l2 : Int} (h : RefK w rb V0 V1 V2 R N E l0 l1 l2) (hE : ∀ x ∈ E, x.m.wf) (p : M6) (hp : p.wf) (hlen : E.length < 4611686018427387904) :
    Calls Tryz.prog 67 #[.pointer (some ⟨rb, 0, none⟩), .agg (macC p)] w (FindPostI w FdE.key E p) := by
  have H := Lib.hid h
  have HE0 := Lib.hid hE
  have HP := Lib.hid hp
  obtain ⟨A, cap, rfl⟩ := h.f.form
  clear h hE hp
  unfold macC
  go_enter Tryz.func67, Tryz.ntmps67
  go_wp2
  obtain ⟨W1, hW1⟩ : ∃ W1 : World, W1 = w.alloc (.cells #[.int .u8 p.m0, .int .u8 p.m1, .int .u8 p.m2, .int .u8 p.m3, .int .u8 p.m4, .int .u8 p.m5] 51) := ⟨_, rfl⟩
  rw [← hW1]
  have X1 := Lib.hid (show W1.heap[w.heap.size]? = some (.cells #[.int .u8 p.m0, .int .u8 p.m1, .int .u8 p.m2, .int .u8 p.m3, .int .u8 p.m4, .int .u8 p.m5] 51 (0, 0)) by rw [hW1]; exact box_at w _)
  have T1 := Lib.hid (show Touch [] w W1 by rw [hW1]; exact (Touch.refl [] w).alloc _)
  clear hW1
  go_loopw [5] (fun v5 wr => ∃ k : Nat, v5 = .int .i64 k ∧ k ≤ E.length ∧ Hid (∀ i y, i < k → E[i]? = some y → FdE.key y ≠ p) ∧ Hid (Touch [] W1 wr)) (fun v5 _ => E.length - (intOf v5).toNat)
  case atStart => exact ⟨0, rfl, Nat.zero_le _, Lib.hid (fun i y hi => absurd hi (Nat.not_lt_zero _)), Lib.hid (Touch.refl _ _)⟩
  case round =>
    obtain ⟨k, rfl, hk, hno, hT⟩ := hrel
    have TT := Lib.hid (T1.out.trans hT.out (by simp))
    have HR := Lib.hid (H.out.kept TT.out (by simp))
    obtain ⟨c0, c1, c2, c3, c4, c5⟩ := six_cells HR.out.blk
    obtain ⟨d0, d1, d2, d3, d4, d5⟩ := six_cells (touch_box hT.out X1.out (by simp))
    by_cases hlt : k < E.length
    · have b1 : (k : Int) < (E.length : Int) := by omega
      obtain ⟨⟨m, ua⟩, hx⟩ : ∃ x, E[k]? = some x := ⟨_, List.getElem?_eq_getElem hlt⟩
      obtain ⟨g, c, hV, _, hgl, hc, _⟩ := HR.out.f.getAt encF_len hx
      simp only [Value.slice.injEq, true_and] at hV
      obtain ⟨rfl, rfl⟩ := hV
      have m0 := hc 0 _ rfl
      rw [Nat.add_zero] at m0
      have m1 := hc 1 _ rfl
      have m2 := hc 2 _ rfl
      have m3 := hc 3 _ rfl
      have m4 := hc 4 _ rfl
      have m5 := hc 5 _ rfl
      dsimp only at m0 m1 m2 m3 m4 m5
      have HX := Lib.hid hx
      have HC := Lib.hid (fun u : Near wr => rcmp_near u m p (HE0.out _ (List.mem_of_getElem? hx)) HP.out)
      have n0 := fun u : Near wr => u.cell m0
      have n1 := fun u : Near wr => u.cell m1
      have n2 := fun u : Near wr => u.cell m2
      have n3 := fun u : Near wr => u.cell m3
      have n4 := fun u : Near wr => u.cell m4
      have n5 := fun u : Near wr => u.cell m5
      have e0 := fun u : Near wr => u.cell d0
      have e1 := fun u : Near wr => u.cell d1
      have e2 := fun u : Near wr => u.cell d2
      have e3 := fun u : Near wr => u.cell d3
      have e4 := fun u : Near wr => u.cell d4
      have e5 := fun u : Near wr => u.cell d5
      have k2 := fun u : Near wr => u.cell c2
      obtain ⟨r, hr⟩ : ∃ r, r = cmpV m p := ⟨_, rfl⟩
      have HRR := Lib.hid hr
      rw [← hr] at HC
      clear hx hc hr m0 m1 m2 m3 m4 m5 d0 d1 d2 d3 d4 d5
      by_cases e : r = 0
      · have HE := Lib.hid (cmpV_zero.1 (HRR.out.symm.trans e))
        have eb : (r == 0) = true := by simp [e]
        clear e
        go_wp2
        refine wp_region_near (by kernel_rfl) (by kernel_rfl) ?_
        repeat (go_big_quiet_step ((go_at_call 69; exact HC.out _)))
        refine wpQuiet_nil ?_
        rintro _ ⟨u2, rfl⟩
        have TU := Lib.hid (TT.out.trans u2.near (by simp))
        clear HC n0 n1 n2 n3 n4 n5 e0 e1 e2 e3 e4 e5 k2
        go_wp2
        go_ret
        exact ⟨(k : Int), rfl, .inr ⟨k, _, rfl, HX.out, HE.out⟩, TU.out⟩
      · have HE := Lib.hid (show m ≠ p from fun x => e (by rw [HRR.out]; exact cmpV_zero.2 x))
        have eb : (r == 0) = false := by simpa using e
        clear e
        go_wp2
        refine wp_region_near (by kernel_rfl) (by kernel_rfl) ?_
        repeat (go_big_quiet_step ((go_at_call 69; exact HC.out _)))
        refine wpQuiet_nil ?_
        rintro _ ⟨u2, rfl⟩
        have TU := Lib.hid (hT.out.trans u2.near (by simp))
        clear HC n0 n1 n2 n3 n4 n5 e0 e1 e2 e3 e4 e5 k2
        go_wp2
        go_roundw
        case rel => exact ⟨k + 1, by go_num, by omega, Lib.hid (no_more hno.out HX.out HE.out), TU⟩
        case measure => simp [intOf]; omega
    · have b1 : ¬ (k : Int) < (E.length : Int) := by omega
      have HK := Lib.hid hlt
      clear hlt
      go_wp2
      go_ret
      exact ⟨_, rfl, FindI.none hno.out (by have := HK.out; omega), TT.out⟩
end Go.Proofs.YtnpeafhjcelpfaaGreat.Tri

/- The reference: size, valid, holds; no condition. -/
namespace Go.Proofs.YtnpeafhjcelpfaaGreat.Tri
open Go.RowKit Go.Maps
set_option linter.unusedVariables false
set_option linter.unusedSimpArgs false
set_option maxRecDepth 100000

theorem pow_le32 {k : Nat} (h : k ≤ 32) : 1 ≤ 2 ^ k ∧ 2 ^ k ≤ 4294967296 := by
  refine ⟨Nat.one_le_two_pow, ?_⟩
  have := Nat.pow_le_pow_right (n := 2) (by decide) h
  simpa using this
set_option maxHeartbeats 1000000 in
theorem rsize_calls (n z : Nat) (w : World) (hn : n ≤ 32) (hz : z = 2 ^ (32 - n)) :
    Calls Tryz.prog 90 #[.int .i64 n] w fun e w' => e = .returned (.int .i64 z) ∧ Touch [] w w' := by
  have HZ := Lib.hid hz
  clear hz
  go_enter Tryz.func90, Tryz.ntmps90
  go_wp2
  go_loopw [3, 4] (fun v3 v4 wr => ∃ i : Nat, ∃ x : Nat, v3 = .int .i64 x ∧ v4 = .int .i64 i ∧ n ≤ i ∧ i ≤ 32 ∧ Hid (x = 2 ^ (i - n)) ∧ Hid (Touch [] w wr)) (fun _ v4 _ => 32 - (intOf v4).toNat)
  case atStart => exact ⟨n, 1, rfl, rfl, Nat.le_refl _, hn, Lib.hid (by simp), Lib.hid (Touch.refl _ _)⟩
  case round =>
    obtain ⟨i, x, rfl, rfl, h1, h2, hx, hT⟩ := hrel
    have hb := pow_le32 (k := i - n) (by omega)
    rw [← hx.out] at hb
    obtain ⟨hb1, hb2⟩ := hb
    by_cases hlt : i < 32
    · have b1 : (i : Int) < 32 := by omega
      go_wp2
      go_roundw
      case rel => exact ⟨i + 1, 2 * x, by go_num, by go_num, by omega, by omega, Lib.hid (by rw [hx.out, show i + 1 - n = (i - n) + 1 by omega, Nat.pow_succ, Nat.mul_comm]), hT⟩
      case measure => simp [intOf]; omega
    · have b1 : ¬ (i : Int) < 32 := by omega
      have hi : i = 32 := by omega
      go_wp2
      go_ret
      have hxi : x = z := by rw [hx.out, hi, HZ.out]
      exact ⟨by rw [← hxi]; rfl, hT.out⟩
theorem rsize_near {w0 : World} (u : Near w0) (n x : Nat) (hn : n ≤ 32) (hx : x = 2 ^ (32 - n)) :
    Calls Tryz.prog 90 #[.int .i64 n] u.w fun e w' => e = .returned (.int .i64 x) ∧ ∃ x : Near w0, w' = x.w := by
  exact near_call u (rsize_calls n x u.w hn hx)
theorem mod_mask (a s : Nat) : a % s = 0 ↔ a / s * s = a := by
  have := Nat.div_add_mod a s
  rw [Nat.mul_comm] at this
  omega
set_option maxHeartbeats 2000000 in
theorem rvalid_calls (a : Nat) (m : Int) (w : World) (ha : a < 4294967296) (r : Bool) (hr : r = true ↔ okP a m) :
    Calls Tryz.prog 98 #[.agg #[.int .u32 a, .int .i64 m]] w fun e w' => e = .returned (.bool r) ∧ Touch [] w w' := by
  by_cases h1 : m < 0
  · have hr' : r = false := by rw [Bool.eq_false_iff]; intro h; have h4 := (hr.1 h).1; omega
    subst hr'
    clear hr
    go_enter Tryz.func98, Tryz.ntmps98
    go_wp2
    go_ret
    exact ⟨rfl, (Touch.refl [] w).alloc _⟩
  · by_cases h2 : 32 < m
    · have hr' : r = false := by rw [Bool.eq_false_iff]; intro h; have h4 := (hr.1 h).2.1; simp only at h4; omega
      subst hr'
      clear hr
      go_enter Tryz.func98, Tryz.ntmps98
      go_wp2
      go_ret
      exact ⟨rfl, (Touch.refl [] w).alloc _⟩
    · obtain ⟨n, rfl⟩ := Int.eq_ofNat_of_zero_le (show 0 ≤ m by omega)
      have hn : n ≤ 32 := by omega
      have hp := pow_bd hn
      have e1 : ((((a % 2 ^ (32 - n) : Nat)) : Int) == 0) = r := by
        rw [Bool.eq_iff_iff, beq_iff_eq, hr]
        unfold okP Px.ok maskOf
        simp only [Int.toNat_natCast]
        have := mod_mask a (2 ^ (32 - n))
        omega
      have e2 : ((2 ^ (32 - n) : Nat) : Int) ≠ 0 := by omega
      have e3 : (a : Int).tmod ((2 ^ (32 - n) : Nat) : Int) = ((a % 2 ^ (32 - n) : Nat) : Int) := by rw [Int.tmod_eq_emod_of_nonneg (by omega)]; push_cast; rfl
      obtain ⟨x, hx⟩ : ∃ x : Nat, x = 2 ^ (32 - n) := ⟨_, rfl⟩
      rw [← hx] at e1 e2 e3 hp
      have HX := Lib.hid hx
      obtain ⟨hp1, hp2⟩ := hp
      obtain ⟨y, hy⟩ : ∃ y : Nat, y = a % x := ⟨_, rfl⟩
      rw [← hy] at e1 e3
      have hy2 : y < 4294967296 := by rw [hy]; exact Nat.lt_of_le_of_lt (Nat.mod_le _ _) ha
      have e4 : x ≠ 0 := by omega
      have e5 : ¬ (x : Int) = 0 := e2
      clear hr hx hy
      go_enter Tryz.func98, Tryz.ntmps98
      go_wp2
      obtain ⟨W1, hW1⟩ : ∃ W1 : World, W1 = w.alloc (.cells #[.int .u32 a, .int .i64 n] 47) := ⟨_, rfl⟩
      rw [← hW1]
      have X1 := Lib.hid (show W1.heap[w.heap.size]? = some (.cells #[.int .u32 a, .int .i64 n] 47 (0, 0)) by rw [hW1]; exact box_at w _)
      have T1 := Lib.hid (show Touch [] w W1 by rw [hW1]; exact (Touch.refl [] w).alloc _)
      clear hW1
      obtain ⟨c0, c1, _⟩ := two_cells X1.out
      have n0 := fun u : Near W1 => u.cell c0
      have n1 := fun u : Near W1 => u.cell c1
      clear c0 c1
      refine wp_region_near (by kernel_rfl) (by kernel_rfl) ?_
      repeat (go_big_quiet_step ((go_at_call 90; exact rsize_near _ n x hn HX.out)))
      refine wpQuiet_nil ?_
      rintro _ ⟨u2, rfl⟩
      have TX := Lib.hid (T1.out.trans u2.near (by simp))
      clear n0 n1
      go_wp2
      go_ret
      exact ⟨rfl, TX.out⟩
theorem holds_iff {p : Px} (hp : p.ok) (a : Nat) : (p.a ≤ a ∧ a < p.a + 2 ^ (32 - p.n)) ↔ maskOf a p.n = p.a := by
  have h := hp.2.2
  have hs : 0 < 2 ^ (32 - p.n) := Nat.two_pow_pos _
  unfold maskOf at h ⊢
  generalize 2 ^ (32 - p.n) = s at *
  have e1 := Nat.div_add_mod a s
  have e2 := Nat.mod_lt a hs
  rw [Nat.mul_comm] at e1
  constructor
  · rintro ⟨h1, h2⟩
    have : a / s = p.a / s := by
      rw [← h] at h1 h2
      have g1 : p.a / s ≤ a / s := (Nat.le_div_iff_mul_le hs).2 h1
      have g2 : a / s < p.a / s + 1 := (Nat.div_lt_iff_lt_mul hs).2 (by rw [Nat.add_mul, Nat.one_mul]; exact h2)
      omega
    rw [this, h]
  · intro h1
    omega
set_option maxHeartbeats 2000000 in
theorem rholds_calls (p : Px) (a : Nat) (w : World) (hp : p.ok) (ha : a < 4294967296) (r : Bool) (hr : r = decide (maskOf a p.n = p.a)) :
    Calls Tryz.prog 65 #[.agg #[.int .u32 p.a, .int .i64 p.n], .int .u32 a] w fun e w' => e = .returned (.bool r) ∧ Touch [] w w' := by
  have hn := hp.1
  have hpa := hp.2.1
  have hpw := pow_bd hn
  have hiff := holds_iff hp a
  obtain ⟨x, hx⟩ : ∃ x : Nat, x = 2 ^ (32 - p.n) := ⟨_, rfl⟩
  rw [← hx] at hpw hiff
  obtain ⟨hp1, hp2⟩ := hpw
  have HX := Lib.hid hx
  by_cases h1 : p.a ≤ a
  · have e1 : decide ((p.a : Int) ≤ (a : Int)) = true := by rw [decide_eq_true_eq]; omega
    have e1' : (p.a : Int) ≤ (a : Int) := by omega
    have e2 : decide ((a : Int) < (p.a : Int) + (x : Int)) = r := by
      rw [Bool.eq_iff_iff, hr, decide_eq_true_eq, decide_eq_true_eq, ← hiff]
      omega
    clear hr hx hp hiff
    go_enter Tryz.func65, Tryz.ntmps65
    go_wp2
    obtain ⟨W1, hW1⟩ : ∃ W1 : World, W1 = w.alloc (.cells #[.int .u32 p.a, .int .i64 p.n] 47) := ⟨_, rfl⟩
    rw [← hW1]
    have X1 := Lib.hid (show W1.heap[w.heap.size]? = some (.cells #[.int .u32 p.a, .int .i64 p.n] 47 (0, 0)) by rw [hW1]; exact box_at w _)
    have T1 := Lib.hid (show Touch [] w W1 by rw [hW1]; exact (Touch.refl [] w).alloc _)
    clear hW1
    obtain ⟨c0, c1, _⟩ := two_cells X1.out
    have n0 := fun u : Near W1 => u.cell c0
    have n1 := fun u : Near W1 => u.cell c1
    clear c0 c1
    refine wp_region_near (by kernel_rfl) (by kernel_rfl) ?_
    repeat (go_big_quiet_step ((go_at_call 90; exact rsize_near _ p.n x hn HX.out)))
    refine wpQuiet_nil ?_
    rintro _ ⟨u2, rfl⟩
    have TX := Lib.hid (T1.out.trans u2.near (by simp))
    clear n0 n1
    go_wp2
    go_ret
    exact ⟨rfl, TX.out⟩
  · have hr' : r = false := by rw [hr, decide_eq_false_iff_not, ← hiff]; omega
    subst hr'
    have e1 : decide ((p.a : Int) ≤ (a : Int)) = false := by rw [decide_eq_false_iff_not]; omega
    have e1' : decide (p.a ≤ a) = false := by rw [decide_eq_false_iff_not]; omega
    clear hr hx hp hiff h1
    go_enter Tryz.func65, Tryz.ntmps65
    go_wp2
    go_quiet (fail)
    go_wp2
    go_ret
    exact ⟨rfl, ((Touch.refl [] w).alloc _).drewN _⟩
theorem rholds_near {w0 : World} (u : Near w0) (p : Px) (a : Nat) (hp : p.ok) (ha : a < 4294967296) (r : Bool) (hr : r = decide (maskOf a p.n = p.a)) :
    Calls Tryz.prog 65 #[.agg #[.int .u32 p.a, .int .i64 p.n], .int .u32 a] u.w fun e w' => e = .returned (.bool r) ∧ ∃ x : Near w0, w' = x.w :=
  near_call u (rholds_calls p a u.w hp ha r hr)
end Go.Proofs.YtnpeafhjcelpfaaGreat.Tri

/- The reference: what an op does to a list; no condition. -/
namespace Go.Proofs.YtnpeafhjcelpfaaGreat.Tri
open Go.RowKit Go.Maps
set_option linter.unusedVariables false
set_option linter.unusedSimpArgs false
set_option maxRecDepth 100000

/-- What one op makes of a list. -/
def RowRel {α κ : Type} (key : α → κ) (x : κ) (y : α) (pt : Bool) (lim : Int) (l l' : List α) (err : Int) : Prop :=
  ∃ r, FindI key l x r ∧
    ((pt = false ∧ err = 0 ∧ ((r = -1 ∧ l' = l) ∨ ∃ i : Nat, r = (i : Int) ∧ l' = l.eraseIdx i)) ∨
     (pt = true ∧ ((∃ i : Nat, r = (i : Int) ∧ err = 0 ∧ l' = l.set i y) ∨ (r = -1 ∧ lim ≤ l.length ∧ err = 4 ∧ l' = l) ∨ (r = -1 ∧ ¬ lim ≤ (l.length : Int) ∧ err = 0 ∧ l' = l ++ [y]))))
theorem op_all {w : World} {b : Nat} {T : TypeId} (o : OpR) (h : w.heap[b]? = some (.cells (opC o) T (0, 0))) :
    w.cell? ⟨b, 0, none⟩ = some (.int .i64 o.kd) ∧ w.cell? ⟨b, 1, none⟩ = some (.int .u32 o.pa) ∧ w.cell? ⟨b, 2, none⟩ = some (.int .i64 o.pm) ∧ w.cell? ⟨b, 3, none⟩ = some (.int .u32 (rV o.v)) ∧ w.cell? ⟨b, 4, none⟩ = some (.bool (rL o.v)) ∧ w.cell? ⟨b, 5, none⟩ = some (.int .u32 o.ip) ∧
    w.cell? ⟨b, 6, none⟩ = some (.int .u8 o.nm.m0) ∧ w.cell? ⟨b, 7, none⟩ = some (.int .u8 o.nm.m1) ∧ w.cell? ⟨b, 8, none⟩ = some (.int .u8 o.nm.m2) ∧ w.cell? ⟨b, 9, none⟩ = some (.int .u8 o.nm.m3) ∧ w.cell? ⟨b, 10, none⟩ = some (.int .u8 o.nm.m4) ∧ w.cell? ⟨b, 11, none⟩ = some (.int .u8 o.nm.m5) ∧
    w.cell? ⟨b, 12, none⟩ = some (.int .u8 o.fm.m0) ∧ w.cell? ⟨b, 13, none⟩ = some (.int .u8 o.fm.m1) ∧ w.cell? ⟨b, 14, none⟩ = some (.int .u8 o.fm.m2) ∧ w.cell? ⟨b, 15, none⟩ = some (.int .u8 o.fm.m3) ∧ w.cell? ⟨b, 16, none⟩ = some (.int .u8 o.fm.m4) ∧ w.cell? ⟨b, 17, none⟩ = some (.int .u8 o.fm.m5) ∧ w.cell? ⟨b, 18, none⟩ = some (.int .u32 o.ua) := by
  refine ⟨?_, ?_, ?_, ?_, ?_, ?_, ?_, ?_, ?_, ?_, ?_, ?_, ?_, ?_, ?_, ?_, ?_, ?_, ?_⟩ <;> simp [World.cell?, h, opC]
theorem info_of {t : TypeId} {z : Value} {s b : Nat} (h : (Tryz.prog.info? t).map (fun i => (i.zero, i.size, i.bytes)) = some (some z, s, b)) : ∃ i, Tryz.prog.info? t = some i ∧ i.zero = some z ∧ i.size = s ∧ i.bytes = b := by
  obtain ⟨i0, hi, hz⟩ := Option.map_eq_some_iff.1 h
  simp only [Prod.mk.injEq] at hz
  exact ⟨i0, hi, hz.1, hz.2.1, hz.2.2⟩
/-- What an append of two reslices of one row needs. -/
theorem out_facts {α : Type} {enc : α → List Value} {k : Nat} (hk : ∀ x, (enc x).length = k) (h1 : ∀ x, ∀ v ∈ enc x, v.oneCell' = true) {w : World} {e : TypeId} {g c : Nat} {l : List α} (h : VRow w e k (.slice (some ⟨g, 0, none⟩) l.length c) l.length (SK.flatL enc l)) (hc : l.length ≤ c) {i : Nat} (hi : i < l.length) :
    ∃ A : Addr, (if c = i + 1 then some (⟨g, 0, none⟩ : Addr) else some ⟨g, (i + 1) * k, none⟩) = some A ∧ (∀ j u, (SK.flatL enc (l.drop (i + 1)))[j]? = some u → w.drew.cell? (A.add j) = some u) ∧
      (SK.flatL enc (l.drop (i + 1))).length = (l.length - (i + 1)) * k ∧ (∀ u ∈ SK.flatL enc (l.drop (i + 1)), u.oneCell' = true) ∧
      (∀ j, j < (SK.flatL enc (l.drop (i + 1))).length → (w.drew.cell? ⟨g, 0 + i * k + j, none⟩).isSome = true ∧ w.drew.frozen? ⟨g, 0 + i * k + j, none⟩ = false) := by
  have hd : (SK.flatL enc (l.drop (i + 1))).length = (l.length - (i + 1)) * k := by rw [SK.flatL_len enc k hk, List.length_drop]
  have hfl : (SK.flatL enc l).length = l.length * k := SK.flatL_len enc k hk l
  have hdr : ∀ j, (SK.flatL enc (l.drop (i + 1)))[j]? = (SK.flatL enc l)[(i + 1) * k + j]? := fun j => by
    rw [← flat_drop hk l (i + 1) (by omega), List.getElem?_drop]
  have hcell : ∀ j, j < l.length * k → w.cell? ⟨g, j, none⟩ = (SK.flatL enc l)[j]? := fun j hj => World.ownsRow.cellAt h.own j hj
  have hbd : ∀ j, j < (l.length - (i + 1)) * k → (i + 1) * k + j < l.length * k := fun j hj => by
    have e : l.length * k = (i + 1) * k + (l.length - (i + 1)) * k := by rw [← Nat.add_mul]; congr 1; omega
    omega
  by_cases hci : c = i + 1
  · refine ⟨⟨g, 0, none⟩, by simp [hci], fun j u hu => ?_, hd, ?_, ?_⟩
    · have hz : (SK.flatL enc (l.drop (i + 1))).length = 0 := by rw [hd, show l.length - (i + 1) = 0 by omega, Nat.zero_mul]
      rw [List.length_eq_zero_iff.1 hz] at hu
      simp at hu
    · intro u hu
      obtain ⟨x, _, hx⟩ := List.mem_flatMap.1 hu
      exact h1 x u hx
    · intro j hj
      rw [hd] at hj
      have h2 := hbd j hj
      have h3 : i * k + j < l.length * k := by have : i * k ≤ (i + 1) * k := Nat.mul_le_mul_right k (by omega); omega
      rw [Nat.zero_add]
      refine ⟨?_, World.ownsRow.frozenAt h.own _⟩
      show (w.cell? _).isSome = true
      rw [hcell _ h3, List.getElem?_eq_getElem (by rw [hfl]; exact h3)]
      rfl
  · refine ⟨⟨g, (i + 1) * k, none⟩, by simp [hci], fun j u hu => ?_, hd, ?_, ?_⟩
    · have hj : j < (l.length - (i + 1)) * k := by rw [← hd]; exact (List.getElem?_eq_some_iff.1 hu).1
      rw [show (⟨g, (i + 1) * k, none⟩ : Addr).add j = ⟨g, (i + 1) * k + j, none⟩ by simp [Addr.add]]
      show w.cell? ⟨g, (i + 1) * k + j, none⟩ = some u
      rw [hcell _ (hbd j hj), ← hdr j]
      exact hu
    · intro u hu
      obtain ⟨x, _, hx⟩ := List.mem_flatMap.1 hu
      exact h1 x u hx
    · intro j hj
      rw [hd] at hj
      have h2 := hbd j hj
      have h3 : i * k + j < l.length * k := by have : i * k ≤ (i + 1) * k := Nat.mul_le_mul_right k (by omega); omega
      rw [Nat.zero_add]
      refine ⟨?_, World.ownsRow.frozenAt h.own _⟩
      show (w.cell? _).isSome = true
      rw [hcell _ h3, List.getElem?_eq_getElem (by rw [hfl]; exact h3)]
      rfl
theorem cell_setCells {w : World} {g o : Nat} {vs : List Value} {b x : Nat} {v : Value} (h : w.cell? ⟨b, x, none⟩ = some v) (hne : b ≠ g) : (w.setCells g o vs).cell? ⟨b, x, none⟩ = some v := by
  rw [World.cell?_setCells_out g vs o w _ (fun hb _ => absurd hb hne)]
  exact h
theorem RefK.newR {w W : World} {rb : Nat} {V0 V1 V2 : Value} {R : List Ent} {N : List NeE} {E : List FdE} {l0 l1 l2 : Int} (h : RefK w rb V0 V1 V2 R N E l0 l1 l2) {V' : Value} {L : List Ent} (t : Touch V0.ownBlock.toList w W) (hv : VRow W 49 4 V' L.length (SK.flatL encR L)) (hB : V'.ownBlock = V0.ownBlock ∨ ∃ b, V'.ownBlock = some b ∧ w.heap.size ≤ b) :
    RefK (W.setCell ⟨rb, 0, none⟩ V') rb V' V1 V2 L N E l0 l1 l2 ∧ Touch (kfoot rb V0 V1 V2) w (W.setCell ⟨rb, 0, none⟩ V') ∧ ∀ x ∈ kfoot rb V' V1 V2, x ∈ kfoot rb V0 V1 V2 ∨ w.heap.size ≤ x := by
  obtain ⟨a0, a1, a2, d0, d1, d2⟩ := h.apart
  have hrb := h.lt rb (by simp [kfoot])
  have b0 := touch_box t h.blk a0
  have b1 := box_set (o := 0) b0 V'
  simp only [List.setIfInBounds_toArray, List.set_cons_succ, List.set_cons_zero] at b1
  have tS : Touch [rb] W (W.setCell ⟨rb, 0, none⟩ V') := (Touch.refl [rb] W).setCell _ _ (.inl (by simp))
  have hn : rb ∉ V'.ownBlock.toList := by
    rcases hB with e | ⟨b, e, hb⟩
    · rw [e]; exact a0
    · rw [e]; simp; omega
  refine ⟨⟨b1, hv.kept tS (fun k hk hx => hn (by simp at hx; subst hx; simp [hk])), (h.n.kept t (fun k hk => (d1 k hk).1)).kept tS (fun k hk hx => a1 (by simp at hx; subst hx; simp [hk])), (h.f.kept t (fun k hk => (d2 k hk).1)).kept tS (fun k hk hx => a2 (by simp at hx; subst hx; simp [hk]))⟩, (t.mono (fun x hx => .inl (by simp [kfoot, hx]))).setCell _ _ (.inl (by simp [kfoot])), fun x hx => ?_⟩
  simp only [kfoot, List.mem_cons, List.mem_append] at hx ⊢
  rcases hx with hx | (hx | hx) | hx
  · exact .inl (by simp [hx])
  · rcases hB with e | ⟨b, e, hb⟩
    · rw [e] at hx; exact .inl (by simp [hx])
    · rw [e] at hx; simp at hx; subst hx; exact .inr hb
  · exact .inl (by simp [hx])
  · exact .inl (by simp [hx])
theorem RefK.newN {w W : World} {rb : Nat} {V0 V1 V2 : Value} {R : List Ent} {N : List NeE} {E : List FdE} {l0 l1 l2 : Int} (h : RefK w rb V0 V1 V2 R N E l0 l1 l2) {V' : Value} {L : List NeE} (t : Touch V1.ownBlock.toList w W) (hv : VRow W 53 7 V' L.length (SK.flatL encN L)) (hB : V'.ownBlock = V1.ownBlock ∨ ∃ b, V'.ownBlock = some b ∧ w.heap.size ≤ b) :
    RefK (W.setCell ⟨rb, 1, none⟩ V') rb V0 V' V2 R L E l0 l1 l2 ∧ Touch (kfoot rb V0 V1 V2) w (W.setCell ⟨rb, 1, none⟩ V') ∧ ∀ x ∈ kfoot rb V0 V' V2, x ∈ kfoot rb V0 V1 V2 ∨ w.heap.size ≤ x := by
  obtain ⟨a0, a1, a2, d0, d1, d2⟩ := h.apart
  have hrb := h.lt rb (by simp [kfoot])
  have b0 := touch_box t h.blk a1
  have b1 := box_set (o := 1) b0 V'
  simp only [List.setIfInBounds_toArray, List.set_cons_succ, List.set_cons_zero] at b1
  have tS : Touch [rb] W (W.setCell ⟨rb, 1, none⟩ V') := (Touch.refl [rb] W).setCell _ _ (.inl (by simp))
  have hn : rb ∉ V'.ownBlock.toList := by
    rcases hB with e | ⟨b, e, hb⟩
    · rw [e]; exact a1
    · rw [e]; simp; omega
  refine ⟨⟨b1, (h.r.kept t (fun k hk => (d0 k hk).1)).kept tS (fun k hk hx => a0 (by simp at hx; subst hx; simp [hk])), hv.kept tS (fun k hk hx => hn (by simp at hx; subst hx; simp [hk])), (h.f.kept t (fun k hk => (d2 k hk).2)).kept tS (fun k hk hx => a2 (by simp at hx; subst hx; simp [hk]))⟩, (t.mono (fun x hx => .inl (by simp [kfoot, hx]))).setCell _ _ (.inl (by simp [kfoot])), fun x hx => ?_⟩
  simp only [kfoot, List.mem_cons, List.mem_append] at hx ⊢
  rcases hx with hx | (hx | hx) | hx
  · exact .inl (by simp [hx])
  · exact .inl (by simp [hx])
  · rcases hB with e | ⟨b, e, hb⟩
    · rw [e] at hx; exact .inl (by simp [hx])
    · rw [e] at hx; simp at hx; subst hx; exact .inr hb
  · exact .inl (by simp [hx])
theorem RefK.newF {w W : World} {rb : Nat} {V0 V1 V2 : Value} {R : List Ent} {N : List NeE} {E : List FdE} {l0 l1 l2 : Int} (h : RefK w rb V0 V1 V2 R N E l0 l1 l2) {V' : Value} {L : List FdE} (t : Touch V2.ownBlock.toList w W) (hv : VRow W 55 7 V' L.length (SK.flatL encF L)) (hB : V'.ownBlock = V2.ownBlock ∨ ∃ b, V'.ownBlock = some b ∧ w.heap.size ≤ b) :
    RefK (W.setCell ⟨rb, 2, none⟩ V') rb V0 V1 V' R N L l0 l1 l2 ∧ Touch (kfoot rb V0 V1 V2) w (W.setCell ⟨rb, 2, none⟩ V') ∧ ∀ x ∈ kfoot rb V0 V1 V', x ∈ kfoot rb V0 V1 V2 ∨ w.heap.size ≤ x := by
  obtain ⟨a0, a1, a2, d0, d1, d2⟩ := h.apart
  have hrb := h.lt rb (by simp [kfoot])
  have b0 := touch_box t h.blk a2
  have b1 := box_set (o := 2) b0 V'
  simp only [List.setIfInBounds_toArray, List.set_cons_succ, List.set_cons_zero] at b1
  have tS : Touch [rb] W (W.setCell ⟨rb, 2, none⟩ V') := (Touch.refl [rb] W).setCell _ _ (.inl (by simp))
  have hn : rb ∉ V'.ownBlock.toList := by
    rcases hB with e | ⟨b, e, hb⟩
    · rw [e]; exact a2
    · rw [e]; simp; omega
  refine ⟨⟨b1, (h.r.kept t (fun k hk => (d0 k hk).2)).kept tS (fun k hk hx => a0 (by simp at hx; subst hx; simp [hk])), (h.n.kept t (fun k hk => (d1 k hk).2)).kept tS (fun k hk hx => a1 (by simp at hx; subst hx; simp [hk])), hv.kept tS (fun k hk hx => hn (by simp at hx; subst hx; simp [hk]))⟩, (t.mono (fun x hx => .inl (by simp [kfoot, hx]))).setCell _ _ (.inl (by simp [kfoot])), fun x hx => ?_⟩
  simp only [kfoot, List.mem_cons, List.mem_append] at hx ⊢
  rcases hx with hx | (hx | hx) | hx
  · exact .inl (by simp [hx])
  · exact .inl (by simp [hx])
  · exact .inl (by simp [hx])
  · rcases hB with e | ⟨b, e, hb⟩
    · rw [e] at hx; exact .inl (by simp [hx])
    · rw [e] at hx; simp at hx; subst hx; exact .inr hb
theorem RefK.sameR {w W : World} {rb : Nat} {V0 V1 V2 : Value} {R : List Ent} {N : List NeE} {E : List FdE} {l0 l1 l2 : Int} (h : RefK w rb V0 V1 V2 R N E l0 l1 l2) {L : List Ent} (t : Touch V0.ownBlock.toList w W) (hv : VRow W 49 4 V0 L.length (SK.flatL encR L)) : RefK W rb V0 V1 V2 L N E l0 l1 l2 := by
  obtain ⟨a0, a1, a2, d0, d1, d2⟩ := h.apart
  exact ⟨touch_box t h.blk a0, hv, h.n.kept t (fun k hk => (d1 k hk).1), h.f.kept t (fun k hk => (d2 k hk).1)⟩
theorem RefK.sameN {w W : World} {rb : Nat} {V0 V1 V2 : Value} {R : List Ent} {N : List NeE} {E : List FdE} {l0 l1 l2 : Int} (h : RefK w rb V0 V1 V2 R N E l0 l1 l2) {L : List NeE} (t : Touch V1.ownBlock.toList w W) (hv : VRow W 53 7 V1 L.length (SK.flatL encN L)) : RefK W rb V0 V1 V2 R L E l0 l1 l2 := by
  obtain ⟨a0, a1, a2, d0, d1, d2⟩ := h.apart
  exact ⟨touch_box t h.blk a1, h.r.kept t (fun k hk => (d0 k hk).1), hv, h.f.kept t (fun k hk => (d2 k hk).2)⟩
theorem RefK.sameF {w W : World} {rb : Nat} {V0 V1 V2 : Value} {R : List Ent} {N : List NeE} {E : List FdE} {l0 l1 l2 : Int} (h : RefK w rb V0 V1 V2 R N E l0 l1 l2) {L : List FdE} (t : Touch V2.ownBlock.toList w W) (hv : VRow W 55 7 V2 L.length (SK.flatL encF L)) : RefK W rb V0 V1 V2 R N L l0 l1 l2 := by
  obtain ⟨a0, a1, a2, d0, d1, d2⟩ := h.apart
  exact ⟨touch_box t h.blk a2, h.r.kept t (fun k hk => (d0 k hk).2), h.n.kept t (fun k hk => (d1 k hk).2), hv⟩
theorem cells7 (w : World) (g o : Nat) (x0 x1 x2 x3 x4 x5 x6 : Value) : ((((((w.setCell ⟨g, o, none⟩ x0).setCell ⟨g, o + 1, none⟩ x1).setCell ⟨g, o + 2, none⟩ x2).setCell ⟨g, o + 3, none⟩ x3).setCell ⟨g, o + 4, none⟩ x4).setCell ⟨g, o + 5, none⟩ x5).setCell ⟨g, o + 6, none⟩ x6 = w.setCells g o [x0, x1, x2, x3, x4, x5, x6] := by
  simp only [World.setCells, Nat.add_assoc]
theorem cells4 (w : World) (g o : Nat) (x0 x1 x2 x3 : Value) : (((w.setCell ⟨g, o, none⟩ x0).setCell ⟨g, o + 1, none⟩ x1).setCell ⟨g, o + 2, none⟩ x2).setCell ⟨g, o + 3, none⟩ x3 = w.setCells g o [x0, x1, x2, x3] := by
  simp only [World.setCells, Nat.add_assoc]
theorem VRow.drew {w : World} {e : TypeId} {sz : Nat} {V : Value} {n : Nat} {xs : List Value} (h : VRow w e sz V n xs) : VRow w.drew e sz V n xs := ⟨World.ownsRow.drew h.own⟩
theorem step_append_vr {W : World} {ops : Array Oper} {o : Oper} {a : Act} {K : Act → World → Prop} {Q : Exit → Act → World → Prop} {E : Prop} (hgd : o.guard = none) (s x : Operand) (t e : TypeId) (sz bytes : Nat) (z : Value) (hu : Tryz.prog.underlying t = some (.slice e))
    (ho : o.op = .call { callee := .builtin .append, args := #[s, x], argTypes := #[t, t] })
    (hinfo : (Tryz.prog.info? e).map (fun i => (i.zero, i.size, i.bytes)) = some (some z, sz, bytes)) (hzs : z.cells.size = sz) (hsz : 0 < sz) (hby : 1 ≤ bytes)
    (V : Value) (n : Nat) (xs : List Value) (m : Nat) (cs : Array Value) (hs : a.eval s = V) (hr : VRow W e sz V n xs) (hx : a.eval x = .slice (some ⟨W.heap.size, 0, none⟩) m m) (hl : cs.toList.length = m * sz) (h1 : ∀ u ∈ cs.toList, u.oneCell' = true) (hn : (n + m) * bytes ≤ 140737488355328)
    (h : ∀ A' c' w', VRow w' e sz (.slice A' (n + m) c') (n + m) (xs ++ cs.toList) → Touch V.ownBlock.toList W w' → ((Value.slice A' (n + m) c').ownBlock = V.ownBlock ∨ ∃ b, (Value.slice A' (n + m) c').ownBlock = some b ∧ W.heap.size ≤ b) → K (a.put o.dst (.slice A' (n + m) c')) w') :
    if Region.wanted o (yielded ops a.tmps) = true then Oper.wp Tryz.prog o a (W.alloc (.cells cs e)) K Q else E := by
  have hw : Region.wanted o (yielded ops a.tmps) = true := by simp [Region.wanted, hgd]
  rw [if_pos hw]
  obtain ⟨i0, hi, hz⟩ := Option.map_eq_some_iff.1 hinfo
  simp only [Prod.mk.injEq] at hz
  obtain ⟨hz0, hz1, hz2⟩ := hz
  have hn5 : n + m ≤ 140737488355328 := by
    have : (n + m) * 1 ≤ (n + m) * bytes := Nat.mul_le_mul (Nat.le_refl _) hby
    omega
  obtain ⟨V', w', hrun, hown, hg, _, hat⟩ := run_append_own_at (P := Tryz.prog) (W.alloc (.cells cs e)) 0 t o.type e i0 _ sz bytes hu hi hz0 hz1 hz2 hzs hsz V n xs (World.ownsRow.alloc hr.own _) ⟨W.heap.size, 0, none⟩ m m cs.toList hl
    (World.news_of_block (cs := cs) (t := e) (fr := (0, 0)) (heap_alloc_new W _)) h1 (by unfold maxLen; omega) hn (Nat.zero_le _)
  have hr' : VRow w' e sz V' (n + m) (xs ++ cs.toList) := ⟨hown⟩
  obtain ⟨A', c', hV⟩ := hr'.form
  subst hV
  unfold Oper.wp execOp
  simp only [ho, resolve, invoke, builtin, Sem.run_bind, Sem.run_pure, Result.andThen_ok, List.map_toArray, List.map_cons, List.map_nil, hs, hx, hrun]
  refine h A' c' w' hr' ?_ ?_
  · have g2 := (World.grownBy_alloc W (.cells cs e) V.ownBlock).trans hg
    exact ((Touch.refl V.ownBlock.toList W).grown g2 (fun k hk => .inl (by simp [hk])))
  · rcases hat with h1 | h1
    · exact .inl h1
    · exact .inr ⟨_, h1, by simp⟩
end Go.Proofs.YtnpeafhjcelpfaaGreat.Tri

