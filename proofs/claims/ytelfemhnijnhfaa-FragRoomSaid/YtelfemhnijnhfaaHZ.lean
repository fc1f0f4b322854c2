/- The library's sort of holds; no condition. -/
import Derived.Test.YtelfemhnijnhfaaHY
import Derived.Test.YtelfemhnijnhfaaSK
import Derived.LoopTactic
import Derived.Test.YtelfemhnijnhfaaGK
import Derived.Test.YtelfemhnijnhfaaGO

namespace Go.Proofs.Ytelfemhnijnhfaa.Fr
open Go.RowKit Go.Maps
set_option linter.unusedVariables false
set_option linter.unusedSimpArgs false
set_option maxRecDepth 100000

def sortH_ren : Go.Shelf.Ren := ⟨fun | 6 => 53 | 15 => 76 | 14 => 75 | 28 => 97 | 29 => 98 | 20 => 89 | 21 => 90 | 22 => 91 | 23 => 92 | 24 => 93 | 25 => 94 | 26 => 95 | 27 => 96 | 46 => 107 | 47 => 108 | 48 => 109 | 49 => 110 | 50 => 111 | 57 => 116 | n => n, fun | 22 => 66 | 24 => 69 | 25 => 127 | 3 => 3 | 39 => 137 | 0 => 0 | 53 => 24 | 55 => 139 | 4 => 4 | 46 => 166 | 45 => 165 | 50 => 147 | 5 => 5 | 9 => 9 | 66 => 182 | 70 => 186 | 76 => 190 | 77 => 191 | n => n, fun | n => n⟩
theorem sortH : Go.Proofs.SlLaysF0.n6 Try.prog sortH_ren := {
  mixed := by kernel_rfl,
  f6 := ⟨Try.f53.name, by decide, Try.func53.trans (congrArg some (by kernel_rfl))⟩,
  f14 := ⟨Try.f75.name, by decide, Try.func75.trans (congrArg some (by kernel_rfl))⟩,
  f15 := Try.func76.trans (congrArg some (by kernel_rfl)),
  f20 := ⟨Try.f89.name, by decide, Try.func89.trans (congrArg some (by kernel_rfl))⟩,
  f21 := ⟨Try.f90.name, by decide, Try.func90.trans (congrArg some (by kernel_rfl))⟩,
  f22 := ⟨Try.f91.name, by decide, Try.func91.trans (congrArg some (by kernel_rfl))⟩,
  f23 := ⟨Try.f92.name, by decide, Try.func92.trans (congrArg some (by kernel_rfl))⟩,
  f24 := ⟨Try.f93.name, by decide, Try.func93.trans (congrArg some (by kernel_rfl))⟩,
  f25 := ⟨Try.f94.name, by decide, Try.func94.trans (congrArg some (by kernel_rfl))⟩,
  f26 := ⟨Try.f95.name, by decide, Try.func95.trans (congrArg some (by kernel_rfl))⟩,
  f27 := ⟨Try.f96.name, by decide, Try.func96.trans (congrArg some (by kernel_rfl))⟩,
  f28 := Try.func97.trans (congrArg some (by kernel_rfl)),
  f29 := Try.func98.trans (congrArg some (by kernel_rfl)),
  f46 := ⟨Try.f107.name, by decide, Try.func107.trans (congrArg some (by kernel_rfl))⟩,
  f47 := Try.func108.trans (congrArg some (by kernel_rfl)),
  f48 := Try.func109.trans (congrArg some (by kernel_rfl)),
  f49 := ⟨Try.f110.name, by decide, Try.func110.trans (congrArg some (by kernel_rfl))⟩,
  f50 := ⟨Try.f111.name, by decide, Try.func111.trans (congrArg some (by kernel_rfl))⟩,
  f57 := ⟨Try.f116.name, by decide, Try.func116.trans (congrArg some (by kernel_rfl))⟩,
  t0 := Try.underlying0,
  a0 := Try.isAgg0,
  z0 := Try.sizeOf0,
  v0 := Try.zeroValue0,
  t3 := Try.underlying3,
  a3 := Try.isAgg3,
  z3 := Try.sizeOf3,
  v3 := Try.zeroValue3,
  t4 := Try.underlying4,
  a4 := Try.isAgg4,
  z4 := Try.sizeOf4,
  v4 := Try.zeroValue4,
  t5 := Try.underlying5,
  a5 := Try.isAgg5,
  z5 := Try.sizeOf5,
  v5 := Try.zeroValue5,
  t9 := Try.underlying9,
  a9 := Try.isAgg9,
  z9 := Try.sizeOf9,
  v9 := Try.zeroValue9,
  t22 := Try.underlying66,
  a22 := Try.isAgg66,
  z22 := Try.sizeOf66,
  v22 := Try.zeroValue66,
  t25 := Try.underlying127,
  a25 := Try.isAgg127,
  z25 := Try.sizeOf127,
  v25 := Try.zeroValue127,
  t39 := Try.underlying137,
  a39 := Try.isAgg137,
  z39 := Try.sizeOf137,
  v39 := Try.zeroValue137,
  t45 := Try.underlying165,
  a45 := Try.isAgg165,
  z45 := Try.sizeOf165,
  v45 := Try.zeroValue165,
  t46 := Try.underlying166,
  a46 := Try.isAgg166,
  z46 := Try.sizeOf166,
  v46 := Try.zeroValue166,
  t50 := Try.underlying147,
  a50 := Try.isAgg147,
  z50 := Try.sizeOf147,
  v50 := Try.zeroValue147,
  t53 := Try.underlying24,
  a53 := Try.isAgg24,
  z53 := Try.sizeOf24,
  v53 := Try.zeroValue24,
  t55 := Try.underlying139,
  a55 := Try.isAgg139,
  z55 := Try.sizeOf139,
  v55 := Try.zeroValue139,
  t66 := Try.underlying182,
  a66 := Try.isAgg182,
  z66 := Try.sizeOf182,
  v66 := Try.zeroValue182,
  t70 := Try.underlying186,
  a70 := Try.isAgg186,
  z70 := Try.sizeOf186,
  v70 := Try.zeroValue186,
  t76 := Try.underlying190,
  a76 := Try.isAgg190,
  z76 := Try.sizeOf190,
  v76 := Try.zeroValue190,
  t77 := Try.underlying191,
  a77 := Try.isAgg191,
  z77 := Try.sizeOf191,
  v77 := Try.zeroValue191 }

structure HoE where
  k : K4
  n : Int
  u : Int
instance : Inhabited HoE := ⟨⟨⟨0, 0, 0, 0⟩, 0, 0⟩⟩
def encH (x : HoE) : List Value := (hoC x.k x.n x.u).toList
theorem encH_len (x : HoE) : (encH x).length = 6 := rfl
theorem encH_one (x : HoE) : ∀ v ∈ encH x, v.oneCell' = true := by
  intro v hv
  simp only [encH, hoC, List.mem_cons, List.not_mem_nil, or_false] at hv
  rcases hv with rfl | rfl | rfl | rfl | rfl | rfl <;> rfl
def cmpI (a b : Int) : Int := if a < b then -1 else if b < a then 1 else 0
def orI : List Int → Int
  | [] => 0
  | x :: l => if x = 0 then orI l else x
def cfH (x y : HoE) : Int := orI [cmpI x.k.src y.k.src, cmpI x.k.dst y.k.dst, cmpI x.k.proto y.k.proto, cmpI x.k.id y.k.id]
theorem nanA (w : World) (x : Int) : Calls Try.prog 77 #[.int .u32 x] w fun e w' => e = .returned (.bool false) ∧ w' = w := by
  go_enter Try.func77, Try.ntmps77
  go_wp2
  go_ret
  exact ⟨rfl, rfl⟩
theorem nanB (w : World) (x : Int) : Calls Try.prog 78 #[.int .u8 x] w fun e w' => e = .returned (.bool false) ∧ w' = w := by
  go_enter Try.func78, Try.ntmps78
  go_wp2
  go_ret
  exact ⟨rfl, rfl⟩
theorem nanU (w : World) (x : Int) : Calls Try.prog 79 #[.int .u16 x] w fun e w' => e = .returned (.bool false) ∧ w' = w := by
  go_enter Try.func79, Try.ntmps79
  go_wp2
  go_ret
  exact ⟨rfl, rfl⟩
theorem cmpA (w : World) (x y : Int) : Calls Try.prog 56 #[.int .u32 x, .int .u32 y] w fun e w' => e = .returned (.int .i64 (cmpI x y)) ∧ w' = w := by
  unfold cmpI
  by_cases h : x < y
  · rw [if_pos h]
    go_enter Try.func56, Try.ntmps56
    go_wp2_with (go_at_call 77; refine (nanA _ _).mono ?_; rintro e w' ⟨rfl, rfl⟩)
    go_ret
    exact ⟨rfl, rfl⟩
  · by_cases h2 : y < x
    · rw [if_neg h, if_pos h2]
      go_enter Try.func56, Try.ntmps56
      go_wp2_with (go_at_call 77; refine (nanA _ _).mono ?_; rintro e w' ⟨rfl, rfl⟩)
      go_ret
      exact ⟨rfl, rfl⟩
    · rw [if_neg h, if_neg h2]
      go_enter Try.func56, Try.ntmps56
      go_wp2_with (go_at_call 77; refine (nanA _ _).mono ?_; rintro e w' ⟨rfl, rfl⟩)
      go_ret
      exact ⟨rfl, rfl⟩
theorem cmpB (w : World) (x y : Int) : Calls Try.prog 57 #[.int .u8 x, .int .u8 y] w fun e w' => e = .returned (.int .i64 (cmpI x y)) ∧ w' = w := by
  unfold cmpI
  by_cases h : x < y
  · rw [if_pos h]
    go_enter Try.func57, Try.ntmps57
    go_wp2_with (go_at_call 78; refine (nanB _ _).mono ?_; rintro e w' ⟨rfl, rfl⟩)
    go_ret
    exact ⟨rfl, rfl⟩
  · by_cases h2 : y < x
    · rw [if_neg h, if_pos h2]
      go_enter Try.func57, Try.ntmps57
      go_wp2_with (go_at_call 78; refine (nanB _ _).mono ?_; rintro e w' ⟨rfl, rfl⟩)
      go_ret
      exact ⟨rfl, rfl⟩
    · rw [if_neg h, if_neg h2]
      go_enter Try.func57, Try.ntmps57
      go_wp2_with (go_at_call 78; refine (nanB _ _).mono ?_; rintro e w' ⟨rfl, rfl⟩)
      go_ret
      exact ⟨rfl, rfl⟩
theorem cmpU (w : World) (x y : Int) : Calls Try.prog 58 #[.int .u16 x, .int .u16 y] w fun e w' => e = .returned (.int .i64 (cmpI x y)) ∧ w' = w := by
  unfold cmpI
  by_cases h : x < y
  · rw [if_pos h]
    go_enter Try.func58, Try.ntmps58
    go_wp2_with (go_at_call 79; refine (nanU _ _).mono ?_; rintro e w' ⟨rfl, rfl⟩)
    go_ret
    exact ⟨rfl, rfl⟩
  · by_cases h2 : y < x
    · rw [if_neg h, if_pos h2]
      go_enter Try.func58, Try.ntmps58
      go_wp2_with (go_at_call 79; refine (nanU _ _).mono ?_; rintro e w' ⟨rfl, rfl⟩)
      go_ret
      exact ⟨rfl, rfl⟩
    · rw [if_neg h, if_neg h2]
      go_enter Try.func58, Try.ntmps58
      go_wp2_with (go_at_call 79; refine (nanU _ _).mono ?_; rintro e w' ⟨rfl, rfl⟩)
      go_ret
      exact ⟨rfl, rfl⟩
set_option maxHeartbeats 1000000 in
theorem or_calls {w : World} {b : Nat} {l : List Int} (hl : l.length ≤ 1000) (hc : ∀ (i : Nat) (x : Int), l[i]? = some x → w.cell? ⟨b, i, none⟩ = some (.int .i64 x)) (c : Nat) :
    Calls Try.prog 55 #[.slice (some ⟨b, 0, none⟩) l.length c] w fun e w' => e = .returned (.int .i64 (orI l)) ∧ w' = w := by
  obtain ⟨n, hn⟩ : ∃ n, n = l.length := ⟨_, rfl⟩
  obtain ⟨r, hr⟩ : ∃ r, r = orI l := ⟨_, rfl⟩
  rw [← hr, ← hn]
  have HR : Hid (orI (l.drop 0) = r) := Lib.hid (by rw [hr]; rfl)
  have HN := Lib.hid hn
  have HC := Lib.hid hc
  have hn9 : n ≤ 1000 := by rw [hn]; exact hl
  clear hr hn hc hl
  go_enter Try.func55, Try.ntmps55
  go_wp2
  go_loop [8] (fun i => ∃ k : Nat, k ≤ n ∧ i = .int .i64 k ∧ Hid (orI (l.drop k) = r)) (fun i => n - (intOf i).toNat)
  case atStart => exact ⟨0, Nat.zero_le _, rfl, HR⟩
  case round =>
    obtain ⟨k, hk, rfl, hR⟩ := hrel
    by_cases hlt : k < n
    · have li : (k : Int) < (n : Int) := by omega
      obtain ⟨x, hx⟩ : ∃ x, l[k]? = some x := ⟨_, List.getElem?_eq_getElem (by rw [← HN.out]; exact hlt)⟩
      have kc := HC.out k x hx
      have hd : l.drop k = x :: l.drop (k + 1) := by
        obtain ⟨h2, h3⟩ := List.getElem?_eq_some_iff.1 hx
        rw [List.drop_eq_getElem_cons h2, h3]
      have hR' := hR.out
      rw [hd] at hR'
      unfold orI at hR'
      clear hd hx hR
      by_cases h0 : x = 0
      · rw [if_pos h0] at hR'
        have HR' := Lib.hid hR'
        subst h0
        clear hR'
        go_wp2
        go_round
        case rel => exact ⟨k + 1, by omega, by go_num, HR'⟩
        case measure => simp [intOf]; omega
      · rw [if_neg h0] at hR'
        subst hR'
        go_wp2
        go_ret
        exact ⟨rfl, rfl⟩
    · obtain rfl : k = n := by omega
      have h0 : r = 0 := by
        have := hR.out
        rw [List.drop_eq_nil_of_le (by rw [HN.out]; omega)] at this
        rw [← this]; rfl
      have H0 := Lib.hid h0
      clear h0
      go_wp2
      go_ret
      exact ⟨by rw [H0.out]; rfl, rfl⟩
theorem or_touch {W : World} {a b c d : Int} (X : World) (g : Nat) (h0 : X.cell? ⟨g, 0, none⟩ = some (.int .i64 a)) (h1 : X.cell? ⟨g, 1, none⟩ = some (.int .i64 b)) (h2 : X.cell? ⟨g, 2, none⟩ = some (.int .i64 c)) (h3 : X.cell? ⟨g, 3, none⟩ = some (.int .i64 d)) :
    Calls Try.prog 55 #[.slice (some ⟨g, 0, none⟩) 4 4] X fun e w' => e = .returned (.int .i64 (orI [a, b, c, d])) ∧ w' = X :=
  or_calls (l := [a, b, c, d]) (by simp) (fun i x hx => by
    match i, hx with
    | 0, hx => simp at hx; subst hx; exact h0
    | 1, hx => simp at hx; subst hx; exact h1
    | 2, hx => simp at hx; subst hx; exact h2
    | 3, hx => simp at hx; subst hx; exact h3) 4
theorem new_c (w : World) (c : Array Value) (T : TypeId) (i : Nat) (v : Value) (h : c[i]? = some v) : (w.alloc (.cells c T)).drew.cell? ⟨w.heap.size, i, none⟩ = some v := by
  have := box_at w (.cells c T)
  have h2 : (w.alloc (.cells c T)).drew.heap[w.heap.size]? = some (.cells c T (0, 0)) := this
  unfold World.cell?
  rw [h2]
  exact h
set_option maxHeartbeats 4000000 in
theorem closureH (x y : HoE) (W : World) : Calls Try.prog 54 #[.agg (encH x).toArray, .agg (encH y).toArray] W fun e w' => e = .returned (.int .i64 (cfH x y)) ∧ Touch [] W w' ∧ W.drawn ≤ w'.drawn := by
  obtain ⟨⟨x0, x1, x2, x3⟩, x4, x5⟩ := x
  obtain ⟨⟨y0, y1, y2, y3⟩, y4, y5⟩ := y
  have hor := fun X g => or_touch (W := W) (a := cmpI x0 y0) (b := cmpI x1 y1) (c := cmpI x2 y2) (d := cmpI x3 y3) X g
  unfold cfH
  dsimp only
  obtain ⟨r, hr⟩ : ∃ r, r = orI [cmpI x0 y0, cmpI x1 y1, cmpI x2 y2, cmpI x3 y3] := ⟨_, rfl⟩
  rw [← hr] at hor ⊢
  have HOR := Lib.hid hor
  obtain ⟨k0, hk0⟩ : ∃ k, k = cmpI x0 y0 := ⟨_, rfl⟩
  obtain ⟨k1, hk1⟩ : ∃ k, k = cmpI x1 y1 := ⟨_, rfl⟩
  obtain ⟨k2, hk2⟩ : ∃ k, k = cmpI x2 y2 := ⟨_, rfl⟩
  obtain ⟨k3, hk3⟩ : ∃ k, k = cmpI x3 y3 := ⟨_, rfl⟩
  rw [← hk0, ← hk1, ← hk2, ← hk3] at HOR
  have q0 := fun w => (cmpA w x0 y0)
  have q1 := fun w => (cmpA w x1 y1)
  have q2 := fun w => (cmpB w x2 y2)
  have q3 := fun w => (cmpU w x3 y3)
  rw [← hk0] at q0
  rw [← hk1] at q1
  rw [← hk2] at q2
  rw [← hk3] at q3
  have HO2 := Lib.hid (fun X : World => HOR.out ((X.alloc (.cells #[.int .i64 k0, .int .i64 k1, .int .i64 k2, .int .i64 k3] 3)).drew) X.heap.size (new_c _ _ _ _ _ rfl) (new_c _ _ _ _ _ rfl) (new_c _ _ _ _ _ rfl) (new_c _ _ _ _ _ rfl))
  have Q0 := Lib.hid q0
  have Q1 := Lib.hid q1
  have Q2 := Lib.hid q2
  have Q3 := Lib.hid q3
  clear hr hor hk0 hk1 hk2 hk3 q0 q1 q2 q3
  unfold encH hoC
  dsimp only
  go_enter Try.func54, Try.ntmps54
  go_upto_region 1 with (fail)
  obtain ⟨W2, hW2⟩ : ∃ X : World, X = (W.alloc (.cells #[.int .u32 x0, .int .u32 x1, .int .u8 x2, .int .u16 x3, .int .i64 x4, .int .i64 x5] 69)).alloc (.cells #[.int .u32 y0, .int .u32 y1, .int .u8 y2, .int .u16 y3, .int .i64 y4, .int .i64 y5] 69) := ⟨_, rfl⟩
  rw [← hW2]
  have T2 : Hid (Touch [] W W2 ∧ W2.drawn = W.drawn) := Lib.hid ⟨by rw [hW2]; exact ((Touch.refl [] W).alloc _).alloc _, by rw [hW2]; rfl⟩
  obtain ⟨b0, hb0⟩ : ∃ b0, b0 = W.heap.size := ⟨_, rfl⟩
  obtain ⟨b1, hb1⟩ : ∃ b1, b1 = W.heap.size + 1 := ⟨_, rfl⟩
  have X0 : W2.heap[b0]? = some (.cells #[.int .u32 x0, .int .u32 x1, .int .u8 x2, .int .u16 x3, .int .i64 x4, .int .i64 x5] 69 (0, 0)) := by rw [hW2, hb0]; exact box_keep _ (box_at W _)
  have X1 : W2.heap[b1]? = some (.cells #[.int .u32 y0, .int .u32 y1, .int .u8 y2, .int .u16 y3, .int .i64 y4, .int .i64 y5] 69 (0, 0)) := by rw [hW2, hb1]; exact box_at' _ _ _ (by simp)
  rw [← hb1, ← hb0]
  clear hb0 hb1 hW2
  have a0 := (show W2.cell? ⟨b0, 0, none⟩ = some (.int .u32 x0) by simp [World.cell?, X0])
  have a1 := (show W2.cell? ⟨b0, 1, none⟩ = some (.int .u32 x1) by simp [World.cell?, X0])
  have a2 := (show W2.cell? ⟨b0, 2, none⟩ = some (.int .u8 x2) by simp [World.cell?, X0])
  have a3 := (show W2.cell? ⟨b0, 3, none⟩ = some (.int .u16 x3) by simp [World.cell?, X0])
  have c0 := (show W2.cell? ⟨b1, 0, none⟩ = some (.int .u32 y0) by simp [World.cell?, X1])
  have c1 := (show W2.cell? ⟨b1, 1, none⟩ = some (.int .u32 y1) by simp [World.cell?, X1])
  have c2 := (show W2.cell? ⟨b1, 2, none⟩ = some (.int .u8 y2) by simp [World.cell?, X1])
  have c3 := (show W2.cell? ⟨b1, 3, none⟩ = some (.int .u16 y3) by simp [World.cell?, X1])
  clear X0 X1
  go_region_held3 (fun w' => w'.cell? ⟨b0, 0, none⟩ = some (.int .u32 x0) ∧ w'.cell? ⟨b0, 1, none⟩ = some (.int .u32 x1) ∧ w'.cell? ⟨b0, 2, none⟩ = some (.int .u8 x2) ∧ w'.cell? ⟨b0, 3, none⟩ = some (.int .u16 x3) ∧ w'.cell? ⟨b1, 0, none⟩ = some (.int .u32 y0) ∧ w'.cell? ⟨b1, 1, none⟩ = some (.int .u32 y1) ∧ w'.cell? ⟨b1, 2, none⟩ = some (.int .u8 y2) ∧ w'.cell? ⟨b1, 3, none⟩ = some (.int .u16 y3)) (go_keep)
    (first | (go_at_call 56; first | ((with_reducible refine (Q0.out _).mono ?_); rintro e w' ⟨rfl, rfl⟩) | ((with_reducible refine (Q1.out _).mono ?_); rintro e w' ⟨rfl, rfl⟩)) | (go_at_call 57; refine (Q2.out _).mono ?_; rintro e w' ⟨rfl, rfl⟩) | (go_at_call 58; refine (Q3.out _).mono ?_; rintro e w' ⟨rfl, rfl⟩) | (go_at_call 55; refine (HO2.out _).mono ?_; rintro e w' ⟨rfl, rfl⟩))
  all_goals
    have T3 : Hid (Touch [] W ((W2.alloc (.cells #[.int .i64 k0, .int .i64 k1, .int .i64 k2, .int .i64 k3] 3)).drew) ∧ W.drawn ≤ ((W2.alloc (.cells #[.int .i64 k0, .int .i64 k1, .int .i64 k2, .int .i64 k3] 3)).drew).drawn) := Lib.hid ⟨(T2.out.1.alloc _).drew, by rw [← T2.out.2]; exact Nat.le_succ _⟩
    go_wp2
    go_ret
    exact ⟨rfl, T3.out.1, T3.out.2⟩
/-! ### the order of holds -/
def klt (a b : K4) : Prop := a.src < b.src ∨ (a.src = b.src ∧ (a.dst < b.dst ∨ (a.dst = b.dst ∧ (a.proto < b.proto ∨ (a.proto = b.proto ∧ a.id < b.id)))))
theorem cmpI_eq {a b : Int} : cmpI a b = 0 ↔ a = b := by
  unfold cmpI
  split
  · constructor <;> intro h <;> omega
  · split
    · constructor <;> intro h <;> omega
    · constructor <;> intro h <;> omega
theorem cmpI_lt {a b : Int} : cmpI a b < 0 ↔ a < b := by
  unfold cmpI
  split
  · constructor <;> intro h <;> omega
  · split
    · constructor <;> intro h <;> omega
    · constructor <;> intro h <;> omega
theorem cfH_lt (x y : HoE) : cfH x y < 0 ↔ klt x.k y.k := by
  unfold cfH orI orI orI orI orI klt
  by_cases h0 : x.k.src = y.k.src
  · rw [if_pos (cmpI_eq.2 h0)]
    by_cases h1 : x.k.dst = y.k.dst
    · rw [if_pos (cmpI_eq.2 h1)]
      by_cases h2 : x.k.proto = y.k.proto
      · rw [if_pos (cmpI_eq.2 h2)]
        by_cases h3 : x.k.id = y.k.id
        · rw [if_pos (cmpI_eq.2 h3)]
          constructor <;> intro h <;> omega
        · rw [if_neg (fun e => h3 (cmpI_eq.1 e)), cmpI_lt]
          constructor <;> intro h <;> omega
      · rw [if_neg (fun e => h2 (cmpI_eq.1 e)), cmpI_lt]
        constructor <;> intro h <;> omega
    · rw [if_neg (fun e => h1 (cmpI_eq.1 e)), cmpI_lt]
      constructor <;> intro h <;> omega
  · rw [if_neg (fun e => h0 (cmpI_eq.1 e)), cmpI_lt]
    constructor <;> intro h <;> omega
theorem ltH (x y : HoE) : ltOf cfH x y = true ↔ klt x.k y.k := by
  unfold ltOf
  rw [decide_eq_true_eq, cfH_lt]
theorem ltH_f (x y : HoE) : ltOf cfH x y = false ↔ ¬ klt x.k y.k := by
  rw [← ltH, Bool.not_eq_true]
theorem swoH : Sort.SWO (ltOf cfH) where
  irrefl x := by rw [ltH_f]; unfold klt; omega
  trans x y z h1 h2 := by rw [ltH] at *; unfold klt at *; omega
  ntrans x y z h1 h2 := by rw [ltH_f] at *; unfold klt at *; omega
theorem aggH (w : World) : (isAgg 69).run Try.prog w = .ok true w := by kernel_rfl
theorem sizeH (w : World) : (Go.sizeOf 69).run Try.prog w = .ok 6 w := by kernel_rfl
theorem entersH : ∀ args w, (callFunc 54 args).run Try.prog w = .ok (.enter 54 args) w := enters_of Try.func54 (by kernel_rfl) rfl
def SortedH (l' l : List HoE) : Prop := l'.Perm l ∧ l'.Pairwise fun x y => ¬ klt y.k x.k
theorem sortH_calls {w : World} {A : Option Addr} {c n : Nat} {l : List HoE} (h : VRow w 69 6 (.slice A n c) n (SK.flatL encH l)) (hl : l.length = n) (hn : n ≤ 1000000) :
    Calls Try.prog 53 #[.slice A n c, .func (.func 54) #[] #[]] w fun e w' => e = .returned (.tuple #[]) ∧ ∃ l', SortedH l' l ∧ VRow w' 69 6 (.slice A n c) n (SK.flatL encH l') ∧ Touch (Value.slice A n c).ownBlock.toList w w' := by
  by_cases h0 : n = 0
  · subst h0
    have hs := Go.Proofs.AnyF.slices_SortFunc_none (P := Try.prog) (ρ := sortH_ren) { sortH with } A c (.func (.func 54) #[] #[]) w
    change Calls Try.prog 53 _ _ _ at hs
    refine hs.mono ?_
    rintro e w' ⟨rfl, rfl⟩
    obtain rfl := List.eq_nil_of_length_eq_zero hl
    exact ⟨rfl, [], ⟨List.Perm.refl _, List.Pairwise.nil⟩, h, Touch.refl _ _⟩
  · obtain ⟨g, c', e, hg, _⟩ := h.at_ (by omega)
    simp only [Value.slice.injEq, true_and] at e
    obtain ⟨rfl, rfl⟩ := e
    obtain ⟨hH, hblk⟩ := SK.holds_of encH encH_len h hl
    have hs := Go.Proofs.AnyQ.slices_SortFunc (P := Try.prog) (ρ := sortH_ren) sortH 6 aggH sizeH encH encH_len encH_one cfH swoH 54 #[] g 0 c l.toArray w entersH
      (fun m os dk _ x y => (closureH x y _).mono fun e w' ⟨he, t, hd⟩ => ⟨he, SK.grow_of t hd⟩) hH hblk (by simp; omega)
    change Calls Try.prog 53 _ _ _ at hs
    rw [show l.toArray.size = n by simpa using hl] at hs
    refine hs.mono ?_
    rintro e w' ⟨rfl, d', m, os, hp, hso, rfl⟩
    have hp' : Sort.PermIn 0 l.toArray.size l.toArray d' := by rw [show l.toArray.size = n by simpa using hl]; exact hp
    have hs' : Sort.SortedIn (ltOf cfH) 0 l.toArray.size d' := by rw [show l.toArray.size = n by simpa using hl]; exact hso
    obtain ⟨e1, e2, e3⟩ := SK.sorted_list hp' hs'
    obtain ⟨r1, r2⟩ := SK.sorted_row encH encH_len h (d' := d') (m := m) (by rw [e1]; simpa using hl) os
    exact ⟨rfl, d'.toList, ⟨by simpa using e2, e3.imp fun h => (ltH_f _ _).1 h⟩, r1, r2⟩
end Go.Proofs.Ytelfemhnijnhfaa.Fr

/- Held, whatever is held; no condition. -/
namespace Go.Proofs.Ytelfemhnijnhfaa.Fr
open Go.RowKit Go.Maps
set_option linter.unusedVariables false
set_option linter.unusedSimpArgs false
set_option maxRecDepth 100000
attribute [local go_sem] nilB

theorem VRow.off {w : World} {e : TypeId} {sz : Nat} {V : Value} {n : Nat} {xs : List Value} (h : VRow w e sz V n xs) {b : Nat} {o : Obj} (hb : w.heap[b]? = some o) (hne : ∀ c, o ≠ .cells c e (0, 0)) : b ∉ V.ownBlock.toList := by
  intro hm
  simp only [Option.mem_toList] at hm
  obtain ⟨c, hc⟩ := h.blk b hm
  rw [hb] at hc
  exact hne c (Option.some.inj hc)
/-- What has been collected while a range goes on. -/
structure Coll (st : ASt) (left : Lit → Bool) (l : List HoE) : Prop where
  isIn : ∀ x ∈ l, x.k.wf ∧ ∃ y, st.g x.k = some y ∧ x.n = y.2.count ∧ x.u = y.2.until_
  seen : ∀ x ∈ l, ∀ kl, keyOf Try.prog 109 (kv x.k) = some kl → left kl = false
  all : ∀ (K : K4) y, K.wf → st.g K = some y → (∃ kl, keyOf Try.prog 109 (kv K) = some kl ∧ left kl = true) ∨ ∃ x ∈ l, x.k = K
  nodup : (l.map (·.k)).Nodup
theorem Coll.start {st : ASt} {D : DataW Value} {fh : Value → Option Value} (hf : ∀ x l, keyOf Try.prog 109 x = some l → (fh x = none ∧ Maps.has D l = false) ∨ ∃ v, fh x = some v ∧ Maps.has D l = true ∧ (∀ z, D.atKey l z = .held v))
    (hl : ∀ K : K4, K.wf → fh (kv K) = (st.g K).map fun x => .pointer (some ⟨x.1, 0, none⟩)) : Coll st (Maps.has D) [] :=
  ⟨by simp, by simp, fun K y hK hy => .inl (by
    obtain ⟨kl, hkl⟩ := key_some hK
    refine ⟨kl, hkl, ?_⟩
    rcases hf _ kl hkl with ⟨h1, _⟩ | ⟨_, _, h2, _⟩
    · rw [hl K hK, hy] at h1; cases h1
    · exact h2), by simp⟩
theorem Coll.step {st : ASt} {left : Lit → Bool} {l : List HoE} (h : Coll st left l) {K : K4} {kl : Lit} {y : Nat × Dg} (hK : K.wf) (hkl : keyOf Try.prog 109 (kv K) = some kl) (hlk : left kl = true) (hy : st.g K = some y) :
    Coll st (fun z => left z && !z.sameKey kl) (l ++ [⟨K, y.2.count, y.2.until_⟩]) := by
  have hn : ∀ x ∈ l, x.k ≠ K := fun x hx e => by
    have := h.seen x hx kl (by rw [e]; exact hkl)
    rw [hlk] at this; cases this
  have hkey : WideAt.IsKeyLit kl := lawKey.key hkl
  refine ⟨?_, ?_, ?_, ?_⟩
  · intro x hx
    rcases List.mem_append.1 hx with hx | hx
    · exact h.isIn x hx
    · simp at hx; subst hx; exact ⟨hK, y, hy, rfl, rfl⟩
  · intro x hx kl' hkl'
    rcases List.mem_append.1 hx with hx | hx
    · rw [h.seen x hx kl' hkl']; rfl
    · simp at hx
      subst hx
      have e : kl' = kl := by
        dsimp only at hkl'
        rw [hkl] at hkl'
        exact (Option.some.inj hkl').symm
      rw [e, WideAt.sameKey_self hkey]
      simp
  · intro L z hL hz
    by_cases e : L = K
    · exact .inr ⟨⟨K, y.2.count, y.2.until_⟩, List.mem_append_right _ (by simp), e.symm⟩
    · rcases h.all L z hL hz with ⟨kl', h1, h2⟩ | ⟨x, hx, hxk⟩
      · refine .inl ⟨kl', h1, ?_⟩
        have : kl'.sameKey kl = false := by
          cases hs : kl'.sameKey kl
          · rfl
          · have e2 := (WideAt.sameKey_iff hkey).1 hs
            exact absurd (kv_inj (lawKey.inj h1 (by rw [hkl, e2]))) e
        rw [h2, this]
        rfl
      · exact .inr ⟨x, List.mem_append_left _ hx, hxk⟩
  · rw [List.map_append, List.nodup_append]
    refine ⟨h.nodup, by simp, ?_⟩
    intro a ha b hb
    simp at hb
    obtain ⟨x, hx, rfl⟩ := List.mem_map.1 ha
    rw [hb]
    exact hn x hx
/-- The list of what is held: every datagram, in order. -/
structure HeldL (st : ASt) (l : List HoE) : Prop where
  isIn : ∀ x ∈ l, x.k.wf ∧ ∃ y, st.g x.k = some y ∧ x.n = y.2.count ∧ x.u = y.2.until_
  all : ∀ (K : K4) y, K.wf → st.g K = some y → ∃ x ∈ l, x.k = K
  asc : l.Pairwise fun x y => klt x.k y.k
theorem klt_tri {a b : K4} (h : ¬ klt b a) (hne : a ≠ b) : klt a b := by
  obtain ⟨a0, a1, a2, a3⟩ := a
  obtain ⟨b0, b1, b2, b3⟩ := b
  simp only [ne_eq, K4.mk.injEq, not_and] at hne
  unfold klt at *
  dsimp only at *
  by_cases h0 : a0 = b0
  · by_cases h1 : a1 = b1
    · by_cases h2 : a2 = b2
      · have := hne h0 h1 h2; omega
      · omega
    · omega
  · omega
theorem Coll.done {st : ASt} {left : Lit → Bool} {l l' : List HoE} (h : Coll st left l) (h0 : ∀ kl, left kl = false) (hs : SortedH l' l) : HeldL st l' := by
  obtain ⟨hp, ho⟩ := hs
  refine ⟨fun x hx => h.isIn x (hp.mem_iff.1 hx), fun K y hK hy => ?_, ?_⟩
  · rcases h.all K y hK hy with ⟨kl, _, h2⟩ | ⟨x, hx, e⟩
    · rw [h0] at h2; cases h2
    · exact ⟨x, hp.mem_iff.2 hx, e⟩
  · have hn : (l'.map (·.k)).Nodup := (hp.map _).nodup_iff.2 h.nodup
    have hn' : l'.Pairwise fun x y => x.k ≠ y.k := by
      have := hn
      rw [List.nodup_iff_pairwise_ne, List.pairwise_map] at this
      exact this
    exact (ho.and hn').imp fun ⟨a, b⟩ => klt_tri a b
def HeldAll (w : World) (st : ASt) (e : Ending) (w' : World) : Prop :=
  ∃ (l : List HoE) (A : Option Addr) (c n : Nat), e = .returned (.slice A n c) ∧ l.length = n ∧ VRow w' 69 6 (.slice A n c) n (SK.flatL encH l) ∧ Touch [] w w' ∧ Fresh w.heap.size (.slice A n c) ∧ HeldL st l
set_option maxHeartbeats 4000000 in
theorem heldall_calls {w : World} {a : Nat} {S : List Nat} {st : ASt} (h : AsmAt w a S st) (hn : st.n ≤ 100000) :
    Calls Try.prog 24 #[.pointer (some ⟨a, 0, none⟩)] w (HeldAll w st) := by
  obtain ⟨hb, kb, tb, TS, s, fh, fk, rfl, h⟩ := h
  have H := Lib.hid h
  obtain ⟨D, hown, hsz, hf⟩ := h.held
  have OWN := Lib.hid hown
  have HSZ := Lib.hid hsz
  have HF := Lib.hid hf
  have CL0 := Lib.hid (Coll.start (st := st) hf h.look)
  have hbl : Hid (hb < w.heap.size) := Lib.hid h.held.lt
  obtain ⟨N, hN⟩ : ∃ N, N = st.n := ⟨_, rfl⟩
  have HN := Lib.hid hN
  rw [← hN] at hn OWN HSZ
  obtain ⟨c0, c1, c2, c3, c4, c5, c6⟩ := asm_cells h.blk
  clear hown hsz hf hN h
  go_enter Try.func24, Try.ntmps24
  go_wp2_with (first
    | (at_range; refine wpList_range_own _ (by rfl) _ 104 (by rfl) 109 111 lawKey Try.underlying104 heldR hb N D (by rfl) OWN.out ?_; intro w0 hrg0 hg0 hs0)
    | go_in)
  go_frame
  obtain ⟨r, hr⟩ : ∃ r, r = w.heap.size := ⟨_, rfl⟩
  have HR := Lib.hid hr
  rw [← hr] at hrg0 ⊢
  have T0 : Hid (Touch [] w w0) := Lib.hid ((Touch.refl [] w).grown hg0 (by simp))
  rw [HSZ.out] at hrg0
  have RG0 := Lib.hid hrg0
  clear hrg0 hg0 hs0 hr c0 c1 c2 c3 c4 c5 c6
  go_loopg [3] N (fun kq v3 wr => ∃ (left : Lit → Bool) (cnt : Nat) (l : List HoE) (A : Option Addr) (cV n : Nat), v3 = .slice A n cV ∧ cnt ≤ kq ∧ n + cnt ≤ N ∧ Hid (l.length = n) ∧ Hid (wr.ranges Try.prog 109 heldR hb r N D left cnt) ∧ Hid (Touch [] w wr) ∧ Hid (VRow wr 69 6 (.slice A n cV) n (SK.flatL encH l)) ∧ Hid (Fresh w.heap.size (.slice A n cV)) ∧ Hid (Coll st left l) ∧ Hid (∀ kl, left kl = true → Maps.has D kl = true))
  case atStart => exact ⟨_, N, [], none, 0, 0, rfl, Nat.le_refl _, by omega, Lib.hid rfl, RG0, T0, Lib.hid (VRow.nil _ _ _), Lib.hid (Fresh.nil _), CL0, Lib.hid (fun _ h => h)⟩
  case round =>
    obtain ⟨left, cnt, l, A, cV, n, rfl, hcq, hnc, hL, hRG, hT, hV, hFR, hCL, hSUB⟩ := hrel
    go_wp2_with (first
      | (at_next; refine wpList_next_ranges (α := K4) (β := Value) _ (by rfl) (.tmp 10) (by rfl) 109 lawKey heldR kv id (fun key kl hkey => by obtain ⟨K, _, e⟩ := key_inv hkey; exact ⟨K, e⟩) (fun v y hv => ⟨v, rfl⟩) hb r N D left cnt (by rfl) hRG.out ?_ ?_)
      | go_in)
    · intro hc0 hl0
      have CD := Lib.hid (fun l' => hCL.out.done (l' := l') hl0)
      clear hc0 hl0 hCL hRG
      go_wp2_with fail
      refine (sortH_calls hV.out hL.out (by omega)).mono ?_
      rintro e w5 ⟨rfl, l', hso, hv5, t5⟩
      have DN := Lib.hid (CD.out l' hso)
      have V5 := Lib.hid hv5
      have T5 := Lib.hid (hT.out.trans t5 (fun x hx => .inr (by simp only [Option.mem_toList] at hx; exact hFR.out x hx)))
      have L5 : Hid (l'.length = n) := Lib.hid (by rw [hso.1.length_eq]; exact hL.out)
      clear hso hv5 t5 CD
      go_wp2
      go_ret
      exact ⟨l', A, cV, n, rfl, L5.out, V5.out, T5.out, hFR.out, DN.out⟩
    · intro K c kl y y2 w1 cnt1 hkey hlk hy hat hrg1 hlt hg1 hs1 hen
      have hK : ∃ K', K4.wf K' ∧ kv K = kv K' := key_inv hkey
      obtain ⟨K', hKw, hKe⟩ := hK
      obtain rfl := kv_inj hKe
      have hc : ∃ x : Nat × Dg, st.g K = some x ∧ c = .pointer (some ⟨x.1, 0, none⟩) := by
        have hy' : y = .held c := by
          have h9 : heldR c = some (y, y2) := hy
          unfold heldR at h9
          simp at h9
          exact h9.1.symm
        rcases HF.out (kv K) kl hkey with ⟨_, e2⟩ | ⟨v, e1, _, e3⟩
        · have := hSUB.out kl hlk
          rw [e2] at this; cases this
        · have e4 := (e3 .nil).symm.trans (hat .nil)
          rw [hy'] at e4
          injection e4 with e4
          rw [H.out.look K hKw] at e1
          cases hg : st.g K with
          | none => rw [hg] at e1; cases e1
          | some x => rw [hg] at e1; exact ⟨x, rfl, by rw [← e4]; simpa using e1.symm⟩
      obtain ⟨x, hgx, rfl⟩ := hc
      have HKX : Hid (K.wf ∧ st.g K = some x) := Lib.hid ⟨hKw, hgx⟩
      have CL1 := Lib.hid (hCL.out.step hKw hkey hlk hgx)
      have hc1 : n + cnt1 + 1 ≤ N := by omega
      have hq1 : cnt1 + 1 ≤ gk := by omega
      have t1 : Touch [r] wr w1 := (Touch.refl [r] _).grown hg1 (fun k hk => .inl (by cases hk; simp))
      have T1 : Hid (Touch [] w w1) := Lib.hid (hT.out.trans t1 (fun z hz => .inr (by have := HR.out; simp at hz; omega)))
      have hrV : r ∉ (Value.slice A n cV).ownBlock.toList := by
        obtain ⟨es, clock, since, seen, c0, h1, h2, h3, h4, h5, _⟩ := hRG.out
        exact hV.out.off h5 (fun c e => by cases e)
      have V1 : Hid (VRow w1 69 6 (.slice A n cV) n (SK.flatL encH l)) := Lib.hid (hV.out.kept t1 (fun k hk hm => hrV (by simp at hm; subst hm; simp [hk])))
      have RG1 := Lib.hid hrg1
      have SUB1 : Hid (∀ z, (left z && !z.sameKey kl) = true → Maps.has D z = true) := Lib.hid (fun z hz => hSUB.out z (by rw [Bool.and_eq_true] at hz; exact hz.1))
      obtain ⟨left1, hleft1⟩ : ∃ f : Lit → Bool, f = fun z => left z && !z.sameKey kl := ⟨_, rfl⟩
      rw [← hleft1] at CL1 RG1
      have SUB2 : Hid (∀ z, left1 z = true → Maps.has D z = true) := Lib.hid (by rw [hleft1]; exact SUB1.out)
      obtain ⟨d, Dx⟩ := x
      obtain ⟨l0, l1, l2, l3⟩ := K
      dsimp only [kv, id] at hen
      dsimp only at CL1
      clear hkey hlk hy hat hrg1 hlt hg1 hs1 hKw hgx hKe hRG hT hrV t1 hleft1 SUB1 hSUB hV hCL hcq hnc
      go_upto_region 5 with (fail)
      obtain ⟨W2, hW2⟩ : ∃ W : World, W = w1.alloc (.cells #[.int .u32 l0, .int .u32 l1, .int .u8 l2, .int .u16 l3] 109) := ⟨_, rfl⟩
      rw [← hW2]
      have t2 : Touch [] w1 W2 := by rw [hW2]; exact (Touch.refl [] w1).alloc _
      obtain ⟨b4, hb4⟩ : ∃ b4, b4 = w1.heap.size := ⟨_, rfl⟩
      have X2 : Hid (W2.heap[b4]? = some (.cells #[.int .u32 l0, .int .u32 l1, .int .u8 l2, .int .u16 l3] 109 (0, 0))) := Lib.hid (by rw [hW2, hb4]; exact box_at _ _)
      have T2 := Lib.hid (T1.out.trans t2 (by simp))
      have RG2 := Lib.hid (ranges_kept RG1.out t2 (by simp) (by simp))
      have V2 := Lib.hid (V1.out.kept t2 (by simp))
      have DG2 : Hid (DgAt W2 d Dx) := Lib.hid ((H.out.each _ _ HKX.out.1 HKX.out.2).1.near T2.out)
      rw [← hb4]
      clear hb4 hW2 t2 T1 RG1 V1 hen
      have x0 := (show W2.cell? ⟨b4, 0, none⟩ = some (.int .u32 l0) by simp [World.cell?, X2.out])
      have x1 := (show W2.cell? ⟨b4, 1, none⟩ = some (.int .u32 l1) by simp [World.cell?, X2.out])
      have x2 := (show W2.cell? ⟨b4, 2, none⟩ = some (.int .u8 l2) by simp [World.cell?, X2.out])
      have x3 := (show W2.cell? ⟨b4, 3, none⟩ = some (.int .u16 l3) by simp [World.cell?, X2.out])
      obtain ⟨VB, VH, VO, hd, _⟩ := DG2.out
      obtain ⟨d0, d1, d2, d3, d4, d5, d6, d7, d8, _⟩ := dg_cells hd
      have nb4 : Hid (b4 ∉ (Value.slice A n cV).ownBlock.toList) := Lib.hid (V2.out.off X2.out (fun c e => by simp at e))
      have nd : Hid (d ∉ (Value.slice A n cV).ownBlock.toList) := Lib.hid (V2.out.off hd (fun c e => by simp at e))
      have nr : Hid (hb ∉ (Value.slice A n cV).ownBlock.toList ∧ r ∉ (Value.slice A n cV).ownBlock.toList) := Lib.hid (by
        obtain ⟨es, clock, since, seen, c0, h1, h2, h3, h4, h5, _⟩ := RG2.out
        exact ⟨V2.out.off h1 (fun c e => by cases e), V2.out.off h5 (fun c e => by cases e)⟩)
      clear hd
      go_region_held3 (fun w' => w'.cell? ⟨b4, 0, none⟩ = some (.int .u32 l0) ∧ w'.cell? ⟨b4, 1, none⟩ = some (.int .u32 l1) ∧ w'.cell? ⟨b4, 2, none⟩ = some (.int .u8 l2) ∧ w'.cell? ⟨b4, 3, none⟩ = some (.int .u16 l3) ∧ w'.cell? ⟨d, 5, none⟩ = some (.int .i64 Dx.count) ∧ w'.cell? ⟨d, 2, none⟩ = some (.int .i64 Dx.until_))
        (first | go_keep | exact ⟨cell_touch t5' x0 nb4.out, cell_touch t5' x1 nb4.out, cell_touch t5' x2 nb4.out, cell_touch t5' x3 nb4.out, cell_touch t5' d5 nd.out, cell_touch t5' d2 nd.out⟩)
        ((refine step_append_h (w := W2.drew) (by rfl) (.tmp 16) (.tmp 34) (by rfl) (.slice A n cV) n (SK.flatL encH l) (by rfl) (V2.out.kept ((Touch.refl [] W2).drew) (by simp)) ⟨l0, l1, l2, l3⟩ Dx.count Dx.until_ (by rfl) (by omega) ?_; intro A5 c5 w5 v5 t5 o5; have t5' : Touch (Value.slice A n cV).ownBlock.toList W2 w5 := (((Touch.refl [] W2).drew).mono (by simp)).trans t5 (fun x hx => .inl hx); have V5 := Lib.hid v5; have T5 := Lib.hid t5; have O5 := Lib.hid o5; clear v5 t5 o5))
      all_goals
        have T25 : Hid (Touch (Value.slice A n cV).ownBlock.toList W2 w5) := Lib.hid ((((Touch.refl [] W2).drew).mono (by simp)).trans T5.out (fun x hx => .inl hx))
        have TT := Lib.hid (T2.out.trans T25.out (fun x hx => .inr (by simp only [Option.mem_toList] at hx; exact hFR.out x hx)))
        have RG5 := Lib.hid (ranges_kept RG2.out T25.out nr.out.1 nr.out.2)
        have FR5 : Hid (Fresh w.heap.size (.slice A5 (n + 1) c5)) := Lib.hid (by
          intro b hb
          rcases O5.out with h1 | ⟨b', h1, h2⟩
          · exact hFR.out b (by rw [← h1]; exact hb)
          · rw [hb] at h1
            cases h1
            exact Nat.le_trans T2.out.size h2)
        have V6 : Hid (VRow w5 69 6 (.slice A5 (n + 1) c5) (n + 1) (SK.flatL encH (l ++ [⟨⟨l0, l1, l2, l3⟩, Dx.count, Dx.until_⟩]))) := Lib.hid (by
          have h1 := V5.out
          rw [show SK.flatL encH (l ++ [⟨⟨l0, l1, l2, l3⟩, Dx.count, Dx.until_⟩]) = SK.flatL encH l ++ (hoC ⟨l0, l1, l2, l3⟩ Dx.count Dx.until_).toList by simp [SK.flatL, encH]]
          exact h1)
        have L6 : Hid ((l ++ [(⟨⟨l0, l1, l2, l3⟩, Dx.count, Dx.until_⟩ : HoE)]).length = n + 1) := Lib.hid (by rw [List.length_append, hL.out]; rfl)
        clear x0 x1 x2 x3 d0 d1 d2 d3 d4 d5 d6 d7 d8 T25 T5 V5 O5 hFR V2 RG2 T2
        go_wp2
        go_roundg cnt1
        case rel => exact ⟨left1, cnt1, _, A5, c5, n + 1, by first | rfl | simp, Nat.le_refl _, by omega, L6, RG5, TT, V6, FR5, CL1, SUB2⟩
        case measure => omega
end Go.Proofs.Ytelfemhnijnhfaa.Fr

/- The oldest datagram; no condition. -/
namespace Go.Proofs.Ytelfemhnijnhfaa.Fr
open Go.RowKit Go.Maps
set_option linter.unusedVariables false
set_option linter.unusedSimpArgs false
set_option maxRecDepth 100000
attribute [local go_sem] nilB

def older (x y : Nat × Dg) : Prop := x.2.until_ < y.2.until_ ∨ (x.2.until_ = y.2.until_ ∧ x.2.order < y.2.order)
structure Oldest (st : ASt) (K : K4) (x : Nat × Dg) : Prop where
  wf : K.wf
  is : st.g K = some x
  least : ∀ (L : K4) y, L.wf → st.g L = some y → ¬ older y x
/-- Of what has been seen so far nothing is older. -/
def Seen (st : ASt) (left : Lit → Bool) (x : Option (Nat × Dg)) : Prop :=
  ∀ (L : K4) y, L.wf → st.g L = some y → (∃ kl, keyOf Try.prog 109 (kv L) = some kl ∧ left kl = true) ∨ ∃ z, x = some z ∧ ¬ older y z
theorem Seen.start {st : ASt} {D : DataW Value} {fh : Value → Option Value} (hf : ∀ x l, keyOf Try.prog 109 x = some l → (fh x = none ∧ Maps.has D l = false) ∨ ∃ v, fh x = some v ∧ Maps.has D l = true ∧ (∀ z, D.atKey l z = .held v))
    (hl : ∀ K : K4, K.wf → fh (kv K) = (st.g K).map fun x => .pointer (some ⟨x.1, 0, none⟩)) : Seen st (Maps.has D) none := fun K y hK hy => by
  rcases (Coll.start hf hl).all K y hK hy with h | ⟨x, hx, _⟩
  · exact .inl h
  · cases hx
theorem Seen.step {st : ASt} {left : Lit → Bool} {x : Option (Nat × Dg)} (h : Seen st left x) {K : K4} {kl : Lit} {y z : Nat × Dg} (hkl : keyOf Try.prog 109 (kv K) = some kl) (hy : st.g K = some y)
    (hz : ¬ older y z) (hx : ∀ x0, x = some x0 → ∀ v, ¬ older v x0 → ¬ older v z) : Seen st (fun q => left q && !q.sameKey kl) (some z) := fun L v hL hv => by
  have hkey : WideAt.IsKeyLit kl := lawKey.key hkl
  by_cases e : L = K
  · subst e
    rw [hy] at hv
    cases hv
    exact .inr ⟨z, rfl, hz⟩
  · rcases h L v hL hv with ⟨kl', h1, h2⟩ | ⟨x0, e0, h1⟩
    · refine .inl ⟨kl', h1, ?_⟩
      have : kl'.sameKey kl = false := by
        cases hs : kl'.sameKey kl
        · rfl
        · have e2 := (WideAt.sameKey_iff hkey).1 hs
          exact absurd (kv_inj (lawKey.inj h1 (by rw [hkl, e2]))) e
      show (left kl' && !kl'.sameKey kl) = true
      rw [h2, this]
      rfl
    · exact .inr ⟨z, rfl, hx x0 e0 v h1⟩
set_option maxHeartbeats 4000000 in
theorem oldest_calls {w : World} {a : Nat} {S : List Nat} {st : ASt} (h : AsmAt w a S st) (hne : ∃ (K : K4) (y : Nat × Dg), K.wf ∧ st.g K = some y) :
    Calls Try.prog 48 #[.pointer (some ⟨a, 0, none⟩)] w fun e w' => ∃ K x, Oldest st K x ∧ e = .returned (kv K) ∧ Touch [] w w' := by
  obtain ⟨hb, kb, tb, TS, s, fh, fk, rfl, h⟩ := h
  have H := Lib.hid h
  have HNE := Lib.hid hne
  obtain ⟨D, hown, hsz, hf⟩ := h.held
  have OWN := Lib.hid hown
  have HSZ := Lib.hid hsz
  have HF := Lib.hid hf
  have SN0 := Lib.hid (Seen.start (st := st) hf h.look)
  obtain ⟨N, hN⟩ : ∃ N, N = st.n := ⟨_, rfl⟩
  have HN := Lib.hid hN
  rw [← hN] at OWN HSZ
  clear hown hsz hf hN hne
  go_enter Try.func48, Try.ntmps48
  go_upto_region 3 with (fail)
  obtain ⟨W0, hW0⟩ : ∃ X : World, X = (w.alloc (.cells #[.int .u32 0, .int .u32 0, .int .u8 0, .int .u16 0] 109)).alloc (.cells #[.int .u32 0, .int .u32 0, .int .u8 0, .int .u16 0] 109) := ⟨_, rfl⟩
  rw [← hW0]
  have t0 : Touch [] w W0 := by rw [hW0]; exact ((Touch.refl [] w).alloc _).alloc _
  obtain ⟨b2, hb2⟩ : ∃ b2, b2 = w.heap.size := ⟨_, rfl⟩
  obtain ⟨b4, hb4⟩ : ∃ b4, b4 = w.heap.size + 1 := ⟨_, rfl⟩
  have HB2 := Lib.hid hb2
  have HB4 := Lib.hid hb4
  have A0 := Lib.hid (show W0.heap[b2]? = some (.cells #[.int .u32 0, .int .u32 0, .int .u8 0, .int .u16 0] 109 (0, 0)) by rw [hW0, hb2]; exact box_keep _ (box_at w _))
  have B0 := Lib.hid (show W0.heap[b4]? = some (.cells #[.int .u32 0, .int .u32 0, .int .u8 0, .int .u16 0] 109 (0, 0)) by rw [hW0, hb4]; exact box_at' _ _ _ (by simp))
  have T0 := Lib.hid t0
  have HW0 : Hid (W0.heap.size = b4 + 1) := Lib.hid (by rw [hW0, hb4]; simp)
  have OWN0 : Hid (W0.ownsMap Try.prog 109 heldR hb N D) := Lib.hid (by
    obtain ⟨es, clock, h1, F, h2, h3⟩ := OWN.out
    exact ⟨es, clock, touch_box t0 h1 (by simp), F, h2, h3⟩)
  obtain ⟨c0, c1, c2, c3, c4, c5, c6⟩ := asm_cells (h.near t0).blk
  rw [← hb4, ← hb2]
  clear hb2 hb4 t0 hW0 h
  go_wp2_with (first
    | (at_range; refine wpList_range_own _ (by rfl) _ 104 (by rfl) 109 111 lawKey Try.underlying104 heldR hb N D (by rfl) OWN0.out ?_; intro w0 hrg0 hg0 hs0)
    | go_in)
  go_frame
  obtain ⟨r, hr⟩ : ∃ r, r = W0.heap.size := ⟨_, rfl⟩
  have HR : Hid (r = b4 + 1) := Lib.hid (by rw [hr]; exact HW0.out)
  rw [← hr] at hrg0 ⊢
  have t1 : Touch [] W0 w0 := (Touch.refl [] W0).grown hg0 (by simp)
  have A1 := Lib.hid (touch_box t1 A0.out (by simp))
  have B1 := Lib.hid (touch_box t1 B0.out (by simp))
  have T1 := Lib.hid (T0.out.trans t1 (by simp))
  rw [HSZ.out] at hrg0
  have RG0 := Lib.hid hrg0
  clear hrg0 hg0 hs0 hr c0 c1 c2 c3 c4 c5 c6 t1 A0 B0 T0 HW0 OWN0
  go_loopg [3] N (fun kq v3 wr => ∃ (left : Lit → Bool) (cnt : Nat) (K0 : K4) (x : Option (Nat × Dg)), cnt ≤ kq ∧ v3 = .pointer (x.map fun z => ⟨z.1, 0, none⟩) ∧ Hid (wr.ranges Try.prog 109 heldR hb r N D left cnt) ∧ Hid (Touch [] w wr) ∧
    Hid (wr.heap[b4]? = some (.cells #[.int .u32 K0.src, .int .u32 K0.dst, .int .u8 K0.proto, .int .u16 K0.id] 109 (0, 0))) ∧ Hid (wr.heap[b2]? = some (.cells #[.int .u32 0, .int .u32 0, .int .u8 0, .int .u16 0] 109 (0, 0))) ∧ Hid (Seen st left x) ∧ Hid (∀ z, x = some z → K0.wf ∧ st.g K0 = some z) ∧ Hid (∀ kl, left kl = true → Maps.has D kl = true))
  case atStart => exact ⟨_, N, ⟨0, 0, 0, 0⟩, none, Nat.le_refl _, rfl, RG0, T1, B1, A1, SN0, Lib.hid (fun z hz => by cases hz), Lib.hid (fun _ h => h)⟩
  case round =>
    obtain ⟨left, cnt, K0, x, hcq, rfl, hRG, hT, hB, hA, hSN, hX, hSUB⟩ := hrel
    go_wp2_with (first
      | (at_next; refine wpList_next_ranges (α := K4) (β := Value) _ (by rfl) (.tmp 11) (by rfl) 109 lawKey heldR kv id (fun key kl hkey => by obtain ⟨K, _, e⟩ := key_inv hkey; exact ⟨K, e⟩) (fun v y hv => ⟨v, rfl⟩) hb r N D left cnt (by rfl) hRG.out ?_ ?_)
      | go_in)
    · intro hc0 hl0
      have hx : ∃ z, x = some z := by
        obtain ⟨L, v, hL, hv⟩ := HNE.out
        rcases hSN.out L v hL hv with ⟨kl, _, h2⟩ | ⟨z, hz, _⟩
        · rw [hl0] at h2; cases h2
        · exact ⟨z, hz⟩
      obtain ⟨z, rfl⟩ := hx
      have OL : Hid (Oldest st K0 z) := Lib.hid ⟨(hX.out z rfl).1, (hX.out z rfl).2, fun L y hL hy => by
        rcases hSN.out L y hL hy with ⟨kl, _, h2⟩ | ⟨z', hz', h3⟩
        · rw [hl0] at h2; cases h2
        · cases hz'; exact h3⟩
      obtain ⟨l0, l1, l2, l3⟩ := K0
      have hB' := hB.out
      have hA' := hA.out
      dsimp only at hB'
      have y0 := (show wr.cell? ⟨b4, 0, none⟩ = some (.int .u32 l0) by simp [World.cell?, hB'])
      have y1 := (show wr.cell? ⟨b4, 1, none⟩ = some (.int .u32 l1) by simp [World.cell?, hB'])
      have y2 := (show wr.cell? ⟨b4, 2, none⟩ = some (.int .u8 l2) by simp [World.cell?, hB'])
      have y3 := (show wr.cell? ⟨b4, 3, none⟩ = some (.int .u16 l3) by simp [World.cell?, hB'])
      have z0 := fun o => box_frozen hA' o
      obtain ⟨W9, hW9⟩ : ∃ X : World, X = (((wr.setCell ⟨b2, 0, none⟩ (.int .u32 l0)).setCell ⟨b2, 1, none⟩ (.int .u32 l1)).setCell ⟨b2, 2, none⟩ (.int .u8 l2)).setCell ⟨b2, 3, none⟩ (.int .u16 l3) := ⟨_, rfl⟩
      have t9 : Touch [b2] wr W9 := by rw [hW9]; exact ((((Touch.refl _ wr).setCell _ _ (.inl (by simp))).setCell _ _ (.inl (by simp))).setCell _ _ (.inl (by simp))).setCell _ _ (.inl (by simp))
      have k9 := box_set (o := 3) (box_set (o := 2) (box_set (o := 1) (box_set (o := 0) hA' (.int .u32 l0)) (.int .u32 l1)) (.int .u8 l2)) (.int .u16 l3)
      rw [← hW9] at k9
      have K9 := Lib.hid k9
      have T9 := Lib.hid (hT.out.trans t9 (fun q hq => .inr (by have := HB2.out; simp at hq; omega)))
      have HW9 := Lib.hid hW9
      have a0 := (show wr.cell? ⟨b2, 0, none⟩ = some (.int .u32 0) by simp [World.cell?, hA'])
      have a1 := (show wr.cell? ⟨b2, 1, none⟩ = some (.int .u32 0) by simp [World.cell?, hA'])
      have a2 := (show wr.cell? ⟨b2, 2, none⟩ = some (.int .u8 0) by simp [World.cell?, hA'])
      have a3 := (show wr.cell? ⟨b2, 3, none⟩ = some (.int .u16 0) by simp [World.cell?, hA'])
      clear hB hA hB' hA' k9 hW9 t9 hc0 hl0 hSN hX hSUB hRG hcq
      go_wp2
      rw [← HW9.out]
      clear y0 y1 y2 y3 z0 a0 a1 a2 a3 HW9
      have r0 := (show W9.cell? ⟨b2, 0, none⟩ = some (.int .u32 l0) by simp [World.cell?, K9.out])
      have r1 := (show W9.cell? ⟨b2, 1, none⟩ = some (.int .u32 l1) by simp [World.cell?, K9.out])
      have r2 := (show W9.cell? ⟨b2, 2, none⟩ = some (.int .u8 l2) by simp [World.cell?, K9.out])
      have r3 := (show W9.cell? ⟨b2, 3, none⟩ = some (.int .u16 l3) by simp [World.cell?, K9.out])
      refine bodyPost_ret (v := .agg #[.int .u32 l0, .int .u32 l1, .int .u8 l2, .int .u16 l3]) (by simp [results, Try.results48, go_sem, r0, r1, r2, r3]) rfl ?_
      exact ⟨⟨l0, l1, l2, l3⟩, z, OL.out, rfl, T9.out⟩
    · intro K c kl y y2 w1 cnt1 hkey hlk hy hat hrg1 hlt hg1 hs1 hen
      have hK : ∃ K', K4.wf K' ∧ kv K = kv K' := key_inv hkey
      obtain ⟨K', hKw, hKe⟩ := hK
      obtain rfl := kv_inj hKe
      have hc : ∃ x : Nat × Dg, st.g K = some x ∧ c = .pointer (some ⟨x.1, 0, none⟩) := by
        have hy' : y = .held c := by
          have h9 : heldR c = some (y, y2) := hy
          unfold heldR at h9
          simp at h9
          exact h9.1.symm
        rcases HF.out (kv K) kl hkey with ⟨_, e2⟩ | ⟨v, e1, _, e3⟩
        · have := hSUB.out kl hlk
          rw [e2] at this; cases this
        · have e4 := (e3 .nil).symm.trans (hat .nil)
          rw [hy'] at e4
          injection e4 with e4
          rw [H.out.look K hKw] at e1
          cases hg : st.g K with
          | none => rw [hg] at e1; cases e1
          | some x => rw [hg] at e1; exact ⟨x, rfl, by rw [← e4]; simpa using e1.symm⟩
      obtain ⟨y, hgy, rfl⟩ := hc
      have HKY : Hid (K.wf ∧ st.g K = some y) := Lib.hid ⟨hKw, hgy⟩
      have SN1 := Lib.hid (fun z hz hx => hSN.out.step (z := z) hkey hgy hz hx)
      have hq1 : cnt1 + 1 ≤ gk := by omega
      have t1 : Touch [r] wr w1 := (Touch.refl [r] _).grown hg1 (fun k hk => .inl (by cases hk; simp))
      have T1 : Hid (Touch [] w w1) := Lib.hid (hT.out.trans t1 (fun z hz => .inr (by have := HR.out; have := HB4.out; simp at hz; omega)))
      have RG1 := Lib.hid hrg1
      have BB1 := Lib.hid (touch_box t1 hB.out (by have := HR.out; simp; omega))
      have AA1 := Lib.hid (touch_box t1 hA.out (by have := HR.out; have := HB2.out; have := HB4.out; simp; omega))
      have SUB1 : Hid (∀ z, (left z && !z.sameKey kl) = true → Maps.has D z = true) := Lib.hid (fun z hz => hSUB.out z (by rw [Bool.and_eq_true] at hz; exact hz.1))
      obtain ⟨left1, hleft1⟩ : ∃ f : Lit → Bool, f = fun z => left z && !z.sameKey kl := ⟨_, rfl⟩
      rw [← hleft1] at SN1 RG1
      have SUB2 : Hid (∀ z, left1 z = true → Maps.has D z = true) := Lib.hid (by rw [hleft1]; exact SUB1.out)
      obtain ⟨d, Dy⟩ := y
      obtain ⟨m0, m1, m2, m3⟩ := K
      dsimp only [kv, id] at hen
      clear hkey hlk hy hat hrg1 hlt hg1 hs1 hKw hgy hKe hRG hT t1 hleft1 SUB1 hSUB hSN hcq hA hB
      go_upto_region 6 with (fail)
      obtain ⟨W2, hW2⟩ : ∃ W : World, W = w1.alloc (.cells #[.int .u32 m0, .int .u32 m1, .int .u8 m2, .int .u16 m3] 109) := ⟨_, rfl⟩
      rw [← hW2]
      have t2 : Touch [] w1 W2 := by rw [hW2]; exact (Touch.refl [] w1).alloc _
      obtain ⟨b5, hb5⟩ : ∃ b5, b5 = w1.heap.size := ⟨_, rfl⟩
      have X2 : Hid (W2.heap[b5]? = some (.cells #[.int .u32 m0, .int .u32 m1, .int .u8 m2, .int .u16 m3] 109 (0, 0))) := Lib.hid (by rw [hW2, hb5]; exact box_at _ _)
      have T2 := Lib.hid (T1.out.trans t2 (by simp))
      have RG2 := Lib.hid (ranges_kept RG1.out t2 (by simp) (by simp))
      have BB2 := Lib.hid (touch_box t2 BB1.out (by simp))
      have AA2 := Lib.hid (touch_box t2 AA1.out (by simp))
      have DG2 : Hid (DgAt W2 d Dy) := Lib.hid ((H.out.each _ _ HKY.out.1 HKY.out.2).1.near T2.out)
      rw [← hb5]
      clear hb5 hW2 t2 T1 RG1 BB1 AA1 hen
      obtain ⟨VB, VH, VO, hd, -⟩ := DG2.out
      obtain ⟨-, d1, d2, -⟩ := dg_cells hd
      clear hd
      obtain ⟨tb, htb⟩ : ∃ tb : Bool, tb = true ↔ (∀ z, x = some z → older (d, Dy) z) := by classical exact ⟨decide (∀ z, x = some z → older (d, Dy) z), decide_eq_true_iff⟩
      have HTB := Lib.hid htb
      clear htb
      go_cut [51] from 17 to 51 (fun v wq => v = .bool tb ∧ Hid (Touch [] W2 wq))
      case first =>
        cases x with
        | none =>
          have e0 : Hid (tb = true) := Lib.hid (HTB.out.2 (fun z hz => by cases hz))
          dsimp only [Option.map]
          clear d1 d2
          refine wp_region_near (by kernel_rfl) (by kernel_rfl) ?_
          repeat (go_big_quiet_step (fail))
          refine wpQuiet_nil ?_
          rintro _ ⟨u, rfl⟩
          have TX := Lib.hid u.near
          go_wp2
          go_meet
          case rel => exact ⟨by rw [e0.out], TX⟩
        | some z =>
          obtain ⟨dz, Dz⟩ := z
          have DZ : Hid (DgAt W2 dz Dz) := Lib.hid ((H.out.each _ _ (hX.out _ rfl).1 (hX.out _ rfl).2).1.near T2.out)
          obtain ⟨VB', VH', VO', hd', -⟩ := DZ.out
          obtain ⟨-, g1, g2, -⟩ := dg_cells hd'
          clear hd'
          have n1 := fun u : Near W2 => u.cell d1
          have n2 := fun u : Near W2 => u.cell d2
          have m1' := fun u : Near W2 => u.cell g1
          have m2' := fun u : Near W2 => u.cell g2
          clear d1 d2 g1 g2
          have HT2 : Hid (tb = true ↔ (Dy.until_ < Dz.until_ ∨ (Dy.until_ = Dz.until_ ∧ Dy.order < Dz.order))) := Lib.hid ⟨fun h => HTB.out.1 h _ rfl, fun h => HTB.out.2 (fun z hz => by cases hz; exact h)⟩
          dsimp only [Option.map]
          by_cases q1 : Dy.until_ < Dz.until_
          · have e0 : Hid (tb = true) := Lib.hid (HT2.out.2 (.inl q1))
            have q2 : decide (Dy.until_ < Dz.until_) = true := decide_eq_true q1
            clear q1
            refine wp_region_near (by kernel_rfl) (by kernel_rfl) ?_
            repeat (go_big_quiet_step (fail))
            refine wpQuiet_nil ?_
            rintro _ ⟨u, rfl⟩
            have TX := Lib.hid u.near
            clear n1 n2 m1' m2'
            go_wp2
            go_meet
            case rel => exact ⟨by rw [e0.out], TX⟩
          · by_cases q3 : Dy.until_ = Dz.until_
            · obtain ⟨tb2, htb2⟩ : ∃ tb2 : Bool, tb2 = decide (Dy.order < Dz.order) := ⟨_, rfl⟩
              have e0 : Hid (tb = decide (Dy.order < Dz.order)) := Lib.hid (by
                rw [Bool.eq_iff_iff, HT2.out, decide_eq_true_eq]
                constructor
                · rintro (h | ⟨_, h⟩)
                  · exact absurd h q1
                  · exact h
                · exact fun h => .inr ⟨q3, h⟩)
              have q2 : decide (Dy.until_ < Dz.until_) = false := decide_eq_false q1
              have q4 : (Dy.until_ == Dz.until_) = true := by rw [beq_iff_eq]; exact q3
              have Q3 := Lib.hid q3
              clear q1 q3
              refine wp_region_near (by kernel_rfl) (by kernel_rfl) ?_
              repeat (go_big_quiet_step (fail))
              refine wpQuiet_nil ?_
              rintro _ ⟨u, rfl⟩
              have TX := Lib.hid u.near
              clear n1 n2 m1' m2'
              go_wp2
              go_meet
              case rel => exact ⟨by rw [e0.out], TX⟩
            · have e0 : Hid (tb = false) := Lib.hid (by
                rw [← Bool.not_eq_true, HT2.out]
                rintro (h | ⟨h, _⟩)
                · exact q1 h
                · exact q3 h)
              have q2 : decide (Dy.until_ < Dz.until_) = false := decide_eq_false q1
              have q4 : (Dy.until_ == Dz.until_) = false := by rw [beq_eq_false_iff_ne]; exact q3
              clear q1 q3
              refine wp_region_near (by kernel_rfl) (by kernel_rfl) ?_
              repeat (go_big_quiet_step (fail))
              refine wpQuiet_nil ?_
              rintro _ ⟨u, rfl⟩
              have TX := Lib.hid u.near
              clear n1 n2 m1' m2'
              go_wp2
              go_meet
              case rel => exact ⟨by rw [e0.out], TX⟩
      case rest =>
      obtain ⟨rfl, hT3⟩ := hcut
      obtain ⟨W3, hw3⟩ : ∃ w3, w3 = wc := ⟨_, rfl⟩
      rw [← hw3] at hT3 ⊢
      have X3 := Lib.hid (touch_box hT3.out X2.out (by simp))
      have BB3 := Lib.hid (touch_box hT3.out BB2.out (by simp))
      have AA3 := Lib.hid (touch_box hT3.out AA2.out (by simp))
      have RG3 := Lib.hid (ranges_kept RG2.out hT3.out (by simp) (by simp))
      have T3 := Lib.hid (T2.out.trans hT3.out (by simp))
      clear hw3 hT3 X2 BB2 AA2 RG2 T2 DG2 d1 d2
      cases htb : tb
      · have hz : ∃ z, x = some z ∧ ¬ older (d, Dy) z := by
          cases x with
          | none => exact absurd (HTB.out.2 (fun z hz => by cases hz)) (by rw [htb]; decide)
          | some z => exact ⟨z, rfl, fun h => by
              have := HTB.out.2 (fun z' hz' => by cases hz'; exact h)
              rw [htb] at this; cases this⟩
        have SN3 : Hid (Seen st left1 x) := Lib.hid (by
          obtain ⟨z, rfl, hz⟩ := hz
          exact SN1.out z hz (fun x0 h0 v hv => by cases h0; exact hv))
        clear htb hz SN1 HTB
        go_wp2
        go_roundg cnt1
        case rel => exact ⟨left1, cnt1, K0, x, Nat.le_refl _, rfl, RG3, T3, BB3, AA3, SN3, hX, SUB2⟩
        case measure => omega
      · have SN3 : Hid (Seen st left1 (some (d, Dy))) := Lib.hid (SN1.out (d, Dy) (by unfold older; omega) (fun x0 h0 v hv => by
          have h1 := HTB.out.1 htb x0 h0
          unfold older at *
          omega))
        have HX3 : Hid (∀ z, some (d, Dy) = some z → (⟨m0, m1, m2, m3⟩ : K4).wf ∧ st.g ⟨m0, m1, m2, m3⟩ = some z) := Lib.hid (fun z hz => by cases hz; exact HKY.out)
        obtain ⟨l0, l1, l2, l3⟩ := K0
        have hB' := BB3.out
        dsimp only at hB'
        have y0 := (show W3.cell? ⟨b5, 0, none⟩ = some (.int .u32 m0) by simp [World.cell?, X3.out])
        have y1 := (show W3.cell? ⟨b5, 1, none⟩ = some (.int .u32 m1) by simp [World.cell?, X3.out])
        have y2 := (show W3.cell? ⟨b5, 2, none⟩ = some (.int .u8 m2) by simp [World.cell?, X3.out])
        have y3 := (show W3.cell? ⟨b5, 3, none⟩ = some (.int .u16 m3) by simp [World.cell?, X3.out])
        have z0 := fun o => box_frozen hB' o
        have a0 := (show W3.cell? ⟨b4, 0, none⟩ = some (.int .u32 l0) by simp [World.cell?, hB'])
        have a1 := (show W3.cell? ⟨b4, 1, none⟩ = some (.int .u32 l1) by simp [World.cell?, hB'])
        have a2 := (show W3.cell? ⟨b4, 2, none⟩ = some (.int .u8 l2) by simp [World.cell?, hB'])
        have a3 := (show W3.cell? ⟨b4, 3, none⟩ = some (.int .u16 l3) by simp [World.cell?, hB'])
        obtain ⟨W4, hW4⟩ : ∃ X : World, X = ((((W3.setCell ⟨b4, 0, none⟩ (.int .u32 m0)).setCell ⟨b4, 1, none⟩ (.int .u32 m1)).setCell ⟨b4, 2, none⟩ (.int .u8 m2)).setCell ⟨b4, 3, none⟩ (.int .u16 m3)).drew := ⟨_, rfl⟩
        have t4 : Touch [b4] W3 W4 := by rw [hW4]; exact (((((Touch.refl [b4] W3).setCell _ _ (.inl (by simp))).setCell _ _ (.inl (by simp))).setCell _ _ (.inl (by simp))).setCell _ _ (.inl (by simp))).drew
        have k4 : W4.heap[b4]? = some (.cells #[.int .u32 m0, .int .u32 m1, .int .u8 m2, .int .u16 m3] 109 (0, 0)) := by
          rw [hW4]
          exact box_set (o := 3) (box_set (o := 2) (box_set (o := 1) (box_set (o := 0) hB' (.int .u32 m0)) (.int .u32 m1)) (.int .u8 m2)) (.int .u16 m3)
        have K4' := Lib.hid k4
        have T4 := Lib.hid (T3.out.trans t4 (fun q hq => .inr (by have := HB4.out; simp at hq; omega)))
        have RG4 := Lib.hid (ranges_kept RG3.out t4 (by
          obtain ⟨es, clock, since, seen, c0, h1, _⟩ := RG3.out
          intro hm
          simp at hm
          subst hm
          rw [hB'] at h1; cases h1) (by have := HR.out; simp; omega))
        have AA4 := Lib.hid (touch_box t4 AA3.out (by have := HB2.out; have := HB4.out; simp; omega))
        have HW4 := Lib.hid hW4
        clear hB' htb SN1 HTB hX hW4 t4 k4
        go_wp2
        go_region_law (fail)
        all_goals
          try rw [← HW4.out]
          go_wp2
          try rw [← HW4.out]
          go_roundg cnt1
          case rel => exact ⟨left1, cnt1, ⟨m0, m1, m2, m3⟩, some (d, Dy), Nat.le_refl _, rfl, RG4, T4, K4', AA4, SN3, HX3, SUB2⟩
          case measure => omega
end Go.Proofs.Ytelfemhnijnhfaa.Fr

/- Add, a piece of a new datagram where there is no room: the oldest goes; no condition. -/
namespace Go.Proofs.Ytelfemhnijnhfaa.Fr
open Go.RowKit Go.Maps
set_option linter.unusedVariables false
set_option linter.unusedSimpArgs false
set_option maxRecDepth 100000
attribute [local go_sem] nilB

def More (st : ASt) (p : Pk) : Prop := bErr p = 0 ∧ ¬ (p.h.off = 0 ∧ p.h.mf = false) ∧ clashB (oldD st (keyP p)) p = false ∧ wholeB (takenD (oldD st (keyP p)) p) = false
def AddRelE (st : ASt) (p q : Pk) (r : Int) (st' : ASt) : Prop :=
  (AddRel st p q r st' ∧ (More st p → (st.g (keyP p)).isSome = true ∨ (st.n : Int) < st.room)) ∨
  (More st p ∧ st.g (keyP p) = none ∧ st.room ≤ (st.n : Int) ∧ r = 52 ∧ q = zeroP ∧ ∃ K0 x0, Oldest st K0 x0 ∧ ∃ d i, st' = kept (gone st K0) p d i)
def AddPostE (w : World) (a : Nat) (S : List Nat) (st : ASt) (p : Pk) (e : Ending) (w' : World) : Prop :=
  ∃ q r st' S', PktR w w' q r e ∧ AsmAt w' a S' st' ∧ Touch S w w' ∧ (∀ k ∈ S', k ∈ S ∨ w.heap.size ≤ k) ∧ AddRelE st p q r st'
set_option maxHeartbeats 8000000 in
theorem add_evict {w : World} {a : Nat} {S : List Nat} {st : ASt} (h : AsmAt w a S st) (hst : st.ok) {p : Pk} {VO VB : Value} (hr : ∀ w', Touch S w w' → RdB w' VO p.opts ∧ RdB w' VB p.body) (hlo : p.opts.length ≤ 140737488355328) (hlb : p.body.length ≤ 140737488355328) (hw : p.h.wf) (hE : bErr p = 0) (hz : ¬ (p.h.off = 0 ∧ p.h.mf = false)) (hc : clashB (oldD st (keyP p)) p = false) (hwb : wholeB (takenD (oldD st (keyP p)) p) = false) (hgn : st.g (keyP p) = none) (hful : st.room ≤ (st.n : Int)) (hne : ∃ (K : K4) (y : Nat × Dg), K.wf ∧ st.g K = some y) (hbn : st.began < 4611686018427387904) :
    Calls Try.prog 20 #[.pointer (some ⟨a, 0, none⟩), .agg (pkC p.h VO VB)] w (AddPostE w a S st p) := by
  have HST := Lib.hid hst
  obtain ⟨ho, hb⟩ := hr w (Touch.refl S w)
  have HAL : Hid (∀ k ∈ S, k < w.heap.size) := Lib.hid h.lt
  have HAK : Hid (∀ k ∈ S, Kind w k) := Lib.hid h.kinds
  have HPW := Lib.hid hw
  have HKW := Lib.hid (keyP_wf hw)
  have HE0 := Lib.hid hE
  have HZ := Lib.hid hz
  have HC := Lib.hid hc
  have HWC := Lib.hid hwb
  clear hE hz hc hwb
  have HGN := Lib.hid hgn
  have HFUL := Lib.hid hful
  have HNE := Lib.hid hne
  have HBN := Lib.hid hbn
  clear hgn hful hne hbn
  obtain ⟨P, hP⟩ : ∃ P, P = p := ⟨_, rfl⟩
  have HP := Lib.hid hP
  rw [← hP] at HPW HKW HE0 HZ HC HWC HGN
  have EP : Hid (AddPostE w a S st p = AddPostE w a S st P) := Lib.hid (by rw [hP])
  rw [EP.out]
  clear EP
  obtain ⟨⟨tos, id, df, mf, off, ttl, proto, src, dst⟩, opts, body⟩ := p
  dsimp only at ho hb hlo hlb hr ⊢
  clear hw hst hP
  obtain ⟨A, cap, rfl⟩ := hb.len_lt
  obtain ⟨AV, cV, rfl⟩ := ho.len_lt
  have HO := Lib.hid ho
  have HB := Lib.hid hb
  have H := Lib.hid h
  have HRD := Lib.hid hr
  clear h ho hb hr
  go_enter Try.func20, Try.ntmps20
  go_upto_region 1 with (fail)
  obtain ⟨W0, hW0⟩ : ∃ W0 : World, W0 = (w.alloc (.cells (pkC ⟨tos, id, df, mf, off, ttl, proto, src, dst⟩ (.slice AV opts.length cV) (.slice A body.length cap)) 30)).alloc (.cells (pkC ⟨0, 0, false, false, 0, 0, 0, 0, 0⟩ (.slice none 0 0) (.slice none 0 0)) 30) := ⟨_, rfl⟩
  rw [← hW0]
  have t0 : Touch [] w W0 := by rw [hW0]; exact ((Touch.refl [] w).alloc _).alloc _
  obtain ⟨b0, hb0⟩ : ∃ b0, b0 = w.heap.size := ⟨_, rfl⟩
  obtain ⟨b1, hb1⟩ : ∃ b1, b1 = w.heap.size + 1 := ⟨_, rfl⟩
  have HB0 := Lib.hid hb0
  have HB1 := Lib.hid hb1
  have Y0 := Lib.hid (show W0.heap[b0]? = some (.cells (pkC ⟨tos, id, df, mf, off, ttl, proto, src, dst⟩ (.slice AV opts.length cV) (.slice A body.length cap)) 30 (0, 0)) by rw [hW0, hb0]; exact box_keep _ (box_at w _))
  have R0 := Lib.hid (show W0.heap[b1]? = some (.cells (pkC ⟨0, 0, false, false, 0, 0, 0, 0, 0⟩ (.slice none 0 0) (.slice none 0 0)) 30 (0, 0)) by rw [hW0, hb1]; exact box_at' _ _ _ (by simp))
  have T0 := Lib.hid t0
  rw [← hb1, ← hb0]
  clear hb0 hb1 t0 hW0
  obtain ⟨c0, c1, c2, c3, c4, c5, c6, c7, c8, c9, c10⟩ := pk_cells Y0.out
  dsimp only at c0 c1 c2 c3 c4 c5 c6 c7 c8 c9 c10
  go_wp2_with fail
  refine (build_calls (p := ⟨⟨tos, id, df, mf, off, ttl, proto, src, dst⟩, opts, body⟩) (HO.out.near T0.out) (HB.out.near T0.out) hlo hlb (by have := HPW.out; rw [HP.out] at this; exact this)).mono ?_
  rintro e W1 ⟨t1, hp⟩
  have HBE : Hid (bErr P = bErr ⟨⟨tos, id, df, mf, off, ttl, proto, src, dst⟩, opts, body⟩) := Lib.hid (by rw [HP.out])
  rw [← HBE.out] at hp
  have Y1 := Lib.hid (touch_box t1 Y0.out (by simp))
  have R1 := Lib.hid (touch_box t1 R0.out (by simp))
  have T1 := Lib.hid (T0.out.trans t1 (by simp))
  clear t1 Y0 R0 T0 c0 c1 c2 c3 c4 c5 c6 c7 c8 c9 c10
  rcases hp with ⟨hp, _⟩ | ⟨_, VZ, rfl, _, _⟩
  · exact absurd HE0.out hp
  obtain ⟨c0, c1, c2, c3, c4, c5, c6, c7, c8, c9, c10⟩ := pk_cells Y1.out
  dsimp only at c0 c1 c2 c3 c4 c5 c6 c7 c8 c9 c10
  go_upto_region 5 with (fail)
  obtain ⟨W2, hW2⟩ : ∃ W2 : World, W2 = W1.alloc (.cells #[.int .u32 src, .int .u32 dst, .int .u8 proto, .int .u16 id] 109) := ⟨_, rfl⟩
  rw [← hW2]
  have t2 : Touch [] W1 W2 := by rw [hW2]; exact (Touch.refl [] W1).alloc _
  have X2 := Lib.hid (show W2.heap[W1.heap.size]? = some (.cells #[.int .u32 src, .int .u32 dst, .int .u8 proto, .int .u16 id] 109 (0, 0)) by rw [hW2]; exact box_at _ _)
  obtain ⟨b2, hb2⟩ : ∃ b2, b2 = W1.heap.size := ⟨_, rfl⟩
  have HB2 : Hid (b1 < b2) := Lib.hid (by rw [hb2]; exact (Array.getElem?_eq_some_iff.1 R1.out).1)
  have Y2 := Lib.hid (touch_box t2 Y1.out (by simp))
  have R2 := Lib.hid (touch_box t2 R1.out (by simp))
  have T2 := Lib.hid (T1.out.trans t2 (by simp))
  rw [← hb2] at X2 ⊢
  clear hb2 t2 hW2 Y1 R1 T1 c0 c1 c2 c3 c4 c5 c6 c7 c8 c9 c10
  have HKP : Hid (keyP P = ⟨src, dst, proto, id⟩) := Lib.hid (by rw [HP.out]; rfl)
  have HKV : Hid (kv (keyP P) = .agg #[.int .u32 src, .int .u32 dst, .int .u8 proto, .int .u16 id]) := Lib.hid (by rw [HKP.out]; rfl)
  obtain ⟨c0, c1, c2, c3, c4, c5, c6, c7, c8, c9, c10⟩ := pk_cells Y2.out
  dsimp only at c0 c1 c2 c3 c4 c5 c6 c7 c8 c9 c10
  have x0 := (show W2.cell? ⟨b2, 0, none⟩ = some (.int .u32 src) by simp [World.cell?, X2.out])
  have x1 := (show W2.cell? ⟨b2, 1, none⟩ = some (.int .u32 dst) by simp [World.cell?, X2.out])
  have x2 := (show W2.cell? ⟨b2, 2, none⟩ = some (.int .u8 proto) by simp [World.cell?, X2.out])
  have x3 := (show W2.cell? ⟨b2, 3, none⟩ = some (.int .u16 id) by simp [World.cell?, X2.out])
  go_upto_region 5 with (fail)
  go_cut [47] from 38 to 47 (fun v wq => v = .bool false ∧ Hid (wq = W2))
  case first =>
    have hnz := HZ.out
    rw [HP.out] at hnz
    dsimp only at hnz
    by_cases ho0 : off = 0
    · have hm1 : mf = true := by cases mf; exact absurd ⟨ho0, rfl⟩ hnz; rfl
      subst ho0 hm1
      clear hnz
      go_wp2
      go_meet
      case rel => exact ⟨rfl, Lib.hid rfl⟩
    · have o0 : (off == 0) = false := by rw [beq_eq_false_iff_ne]; exact ho0
      clear hnz ho0
      go_wp2
      go_meet
      case rel => exact ⟨rfl, Lib.hid rfl⟩
  case rest =>
  obtain ⟨rfl, hwq⟩ := hcut
  obtain ⟨W3, hw3⟩ : ∃ w3, w3 = wc := ⟨_, rfl⟩
  obtain rfl : W3 = W2 := by rw [hw3]; exact hwq.out
  rw [← hw3]
  clear hwq hw3 x0 x1 x2 x3 c0 c1 c2 c3 c4 c5 c6 c7 c8 c9 c10
  obtain ⟨q, hq⟩ : ∃ q : Option Addr, q = (st.g (keyP P)).map fun x => ⟨x.1, 0, none⟩ := ⟨_, rfl⟩
  have HQ := Lib.hid hq
  clear hq
  go_upto_region 8 with (fail)
  go_cut [9] from 53 to 58 (fun v wq => v = .pointer q ∧ Hid (Touch [] W3 wq))
  case first =>
    obtain ⟨hb, kb, tb, TS, s, fh, fk, rfl, h⟩ := H.out.near T2.out
    obtain ⟨kl, hkl⟩ := key_some HKW.out
    have A0 := Lib.hid h
    have HFH : Hid (fh (.agg #[.int .u32 src, .int .u32 dst, .int .u8 proto, .int .u16 id]) = (st.g (keyP P)).map fun x => .pointer (some ⟨x.1, 0, none⟩)) := Lib.hid (by rw [← HKV.out]; exact h.look _ HKW.out)
    obtain ⟨a0, a1, a2, a3, a4, a5, a6⟩ := asm_cells h.blk
    have n4 := fun u : Near W3 => u.cell a4
    have y0 := fun u : Near W3 => u.cell (show W3.cell? ⟨b2, 0, none⟩ = some (.int .u32 src) by simp [World.cell?, X2.out])
    have y1 := fun u : Near W3 => u.cell (show W3.cell? ⟨b2, 1, none⟩ = some (.int .u32 dst) by simp [World.cell?, X2.out])
    have y2 := fun u : Near W3 => u.cell (show W3.cell? ⟨b2, 2, none⟩ = some (.int .u8 proto) by simp [World.cell?, X2.out])
    have y3 := fun u : Near W3 => u.cell (show W3.cell? ⟨b2, 3, none⟩ = some (.int .u16 id) by simp [World.cell?, X2.out])
    have nl := fun u : Near W3 => (by
      have h1 := ((A0.out.near u.near).held.look lawKey Try.underlying104 (zeroDg u.w) hkl).2
      rw [HKV.out, HFH.out] at h1
      have h2 : ((st.g (keyP P)).map fun x => Value.pointer (some ⟨x.1, 0, none⟩)).getD (.pointer none) = .pointer q := by rw [HQ.out]; cases st.g (keyP P) <;> rfl
      rw [h2] at h1
      exact h1 : (Instr.lookup 104 (.map (some hb)) (.agg #[.int .u32 src, .int .u32 dst, .int .u8 proto, .int .u16 id]) false).run Try.prog u.w = .ok (.pointer q) u.w)
    clear a0 a1 a2 a3 a4 a5 a6 h hkl
    refine wp_region_near (by kernel_rfl) (by kernel_rfl) ?_
    repeat (go_big_quiet_step (fail))
    refine wpQuiet_nil ?_
    rintro _ ⟨u, rfl⟩
    have TX := Lib.hid u.near
    clear n4 y0 y1 y2 y3 nl
    go_wp2
    go_meet
    case rel => exact ⟨rfl, TX⟩
  case rest =>
  obtain ⟨rfl, hT3⟩ := hcut
  obtain ⟨W4, hw4⟩ : ∃ w4, w4 = wc := ⟨_, rfl⟩
  rw [← hw4] at hT3 ⊢
  have Y4 := Lib.hid (touch_box hT3.out Y2.out (by simp))
  have X4 := Lib.hid (touch_box hT3.out X2.out (by simp))
  have R4 := Lib.hid (touch_box hT3.out R2.out (by simp))
  have T4 := Lib.hid (T2.out.trans hT3.out (by simp))
  clear hw4 hT3 Y2 X2 R2 T2
  obtain ⟨D0, hD0⟩ : ∃ D0, D0 = oldD st (keyP P) := ⟨_, rfl⟩
  have HD0 := Lib.hid hD0
  clear hD0
  go_upto_if 61 with (fail)
  obtain ⟨fb, hfb⟩ : ∃ fb, fb = q.isNone := ⟨_, rfl⟩
  rw [← hfb]
  have HFB : Hid (fb = !(st.g (keyP P)).isSome) := Lib.hid (by rw [hfb, HQ.out]; cases st.g (keyP P) <;> rfl)
  have HFQ := Lib.hid hfb
  clear hfb
  go_cut [9] from 61 to 63 (fun v wc => ∃ d0, v = .pointer (some ⟨d0, 0, none⟩) ∧ Hid (DgAt wc d0 D0) ∧ Hid (Touch [] W4 wc) ∧ Hid (∀ x, st.g (keyP P) = some x → d0 = x.1))
  case first =>
    cases hg : st.g (keyP P) with
    | none =>
      have hq : q = none := by rw [HQ.out, hg]; rfl
      have hf : fb = true := by rw [HFB.out, hg]; rfl
      have hd : D0 = freshD := by rw [HD0.out]; unfold oldD; rw [hg]
      have HDF := Lib.hid hd
      have HG := Lib.hid hg
      subst hq hf
      clear hd hg
      go_wp2
      go_meet
      case rel => exact ⟨W4.heap.size, rfl, Lib.hid (by rw [HDF.out]; exact ⟨_, _, _, box_at _ _, OwB.nil _, OwB.nil _, OwB.nil _⟩), Lib.hid ((Touch.refl [] W4).alloc _), Lib.hid (fun x hx => by rw [HG.out] at hx; cases hx)⟩
    | some x =>
      obtain ⟨d0, D1⟩ := x
      have hq : q = some ⟨d0, 0, none⟩ := by rw [HQ.out, hg]; rfl
      have hf : fb = false := by rw [HFB.out, hg]; rfl
      have hd : D0 = D1 := by rw [HD0.out]; unfold oldD; rw [hg]
      have HDA : Hid (DgAt W4 d0 D0) := Lib.hid (by
        obtain ⟨hb, kb, tb, TS, s, fh, fk, rfl, h⟩ := H.out.near T4.out
        rw [hd]
        exact (h.each _ _ HKW.out hg).1)
      have HG := Lib.hid hg
      have HXX : Hid (∀ x, st.g (keyP P) = some x → d0 = x.1) := Lib.hid (fun x hx => by rw [HG.out] at hx; cases hx; rfl)
      subst hq hf
      clear hd hg
      go_wp2
      go_meet
      case rel => exact ⟨d0, rfl, HDA, Lib.hid (Touch.refl [] W4), HXX⟩
  case rest =>
  obtain ⟨d0, rfl, HDA, hT4, HDX⟩ := hcut
  obtain ⟨W5, hw5⟩ : ∃ w5, w5 = wc := ⟨_, rfl⟩
  rw [← hw5] at HDA hT4 ⊢
  have Y5 := Lib.hid (touch_box hT4.out Y4.out (by simp))
  have X5 := Lib.hid (touch_box hT4.out X4.out (by simp))
  have R5 := Lib.hid (touch_box hT4.out R4.out (by simp))
  have T5 := Lib.hid (T4.out.trans hT4.out (by simp))
  clear hw5 hT4 Y4 X4 R4 T4
  have HBZ := Lib.hid (bErr_zero HE0.out)
  have hz1 : 0 ≤ off := by have := HBZ.out.2.2.2.2.1; rw [HP.out] at this; exact this
  have hz2 : off ≤ 65528 := by have := HBZ.out.2.2.2.2.2.1; rw [HP.out] at this; exact this
  have hz3 : off + body.length ≤ 65535 := by have := HBZ.out.2.2.2.2.2.2.2.1; rw [HP.out] at this; exact this
  have hz4 : opts.length ≤ 40 := by have := HBZ.out.2.2.1; rw [HP.out] at this; exact this
  obtain ⟨c0, c1, c2, c3, c4, c5, c6, c7, c8, c9, c10⟩ := pk_cells Y5.out
  dsimp only at c0 c1 c2 c3 c4 c5 c6 c7 c8 c9 c10
  go_wp2_with fail
  refine (clash_calls (p := ⟨⟨tos, id, df, mf, off, ttl, proto, src, dst⟩, opts, body⟩) HDA.out (HRD.out W5 (T5.out.mono (by simp))).2 (by dsimp only; omega) hz1 (by dsimp only; omega)).mono ?_
  rintro e W6 ⟨rfl, t6⟩
  rw [← HP.out, HD0.out]
  have Y6 := Lib.hid (touch_box t6 Y5.out (by simp))
  have X6 := Lib.hid (touch_box t6 X5.out (by simp))
  have R6 := Lib.hid (touch_box t6 R5.out (by simp))
  have D6 := Lib.hid (HDA.out.near t6)
  have T6 := Lib.hid (T5.out.trans t6 (by simp))
  clear t6 Y5 X5 R5 T5 HDA c0 c1 c2 c3 c4 c5 c6 c7 c8 c9 c10
  rw [HC.out]
  have HOK : Hid (D0.ok) := Lib.hid (by rw [HD0.out]; exact oldD_ok HST.out HPW.out)
  obtain ⟨D1, hD1⟩ : ∃ D1, D1 = takenD (oldD st (keyP P)) P := ⟨_, rfl⟩
  have HD1 := Lib.hid hD1
  have HTK : Hid (D1.ok) := Lib.hid (by rw [hD1]; exact (takes (oldD_ok HST.out HPW.out) HE0.out HPW.out HZ.out).ok)
  clear hD1
  have HWB : Hid (wholeB D1 = false) := Lib.hid (by rw [HD1.out]; exact HWC.out)
  have hpos : 0 < off + (body.length : Int) := by
    have h1 := HZ.out
    have h2 := HBZ.out.2.2.2.2.2.2.2.2.2
    rw [HP.out] at h1 h2
    dsimp only at h1 h2
    cases mf
    · have : off ≠ 0 := fun e => h1 ⟨e, rfl⟩
      omega
    · have := (h2 rfl).1
      omega
  obtain ⟨c0, c1, c2, c3, c4, c5, c6, c7, c8, c9, c10⟩ := pk_cells Y6.out
  dsimp only at c0 c1 c2 c3 c4 c5 c6 c7 c8 c9 c10
  go_wp2_with fail
  refine (taken_calls (p := ⟨⟨tos, id, df, mf, off, ttl, proto, src, dst⟩, opts, body⟩) D6.out (HRD.out W6 (T6.out.mono (by simp))).1 (HRD.out W6 (T6.out.mono (by simp))).2 hz4 hz1 hz3 hpos HOK.out.len HOK.out.le HOK.out.c0.1 HOK.out.c0.2 HOK.out.far0 HOK.out.far9).mono ?_
  rintro e W7 ⟨d1, rfl, hd1, t7, hd7⟩
  rw [← HP.out, HD0.out, ← HD1.out] at hd1
  have Y7 := Lib.hid (touch_box t7 Y6.out (by simp))
  have X7 := Lib.hid (touch_box t7 X6.out (by simp))
  have R7 := Lib.hid (touch_box t7 R6.out (by simp))
  have D7 := Lib.hid hd1
  have HDG : Hid (w.heap.size ≤ d1) := Lib.hid (Nat.le_trans T6.out.size hd7)
  have HDB : Hid (W6.heap.size ≤ d1) := Lib.hid hd7
  have HWS : Hid (b2 < W6.heap.size) := Lib.hid (Array.getElem?_eq_some_iff.1 X6.out).1
  have T7 := Lib.hid (T6.out.trans t7 (by simp))
  clear t7 hd1 hd7 Y6 X6 R6 D6 T6 c0 c1 c2 c3 c4 c5 c6 c7 c8 c9 c10
  go_wp2_with fail
  refine (dwhole_calls D7.out).mono ?_
  rintro e W8 ⟨rfl, t8⟩
  rw [HWB.out]
  have Y8 := Lib.hid (touch_box t8 Y7.out (by simp))
  have X8 := Lib.hid (touch_box t8 X7.out (by simp))
  have R8 := Lib.hid (touch_box t8 R7.out (by simp))
  have D8 := Lib.hid (D7.out.near t8)
  have T8 := Lib.hid (T7.out.trans t8 (by simp))
  clear t8 Y7 X7 R7 D7 T7
  obtain ⟨hb, kb, tb, TS, s, fh, fk, rfl, h8⟩ := H.out.near T8.out
  have A8 := Lib.hid h8
  clear h8
  have HN : Hid ((st.n : Int) ≤ 256) := Lib.hid (by have := HST.out.n; have := HST.out.r9; omega)
  have hda : d1 ≠ a := by have := HAL.out a (by simp); have := HDG.out; omega
  have HD1I : Hid (D1.id = D0.id ∧ D1.order = D0.order ∧ D1.until_ = D0.until_) := Lib.hid (by rw [HD1.out, HD0.out]; exact ⟨rfl, rfl, rfl⟩)
  have hf : fb = true := by rw [HFB.out, HGN.out]; rfl
  subst hf
  have HDLT : Hid (∀ (L : K4) (x : Nat × Dg), L.wf → st.g L = some x → x.1 < w.heap.size) := Lib.hid (fun L x hL hx => by
    obtain ⟨hb', kb', tb', TS', s', fh', fk', _, h2⟩ := (show AsmAt w a (a :: hb :: kb :: TS) st from H.out)
    exact (h2.each L x hL hx).1.lt)
  go_upto_if 88 with (fail)
  go_cut [] from 88 to 121 (fun wc => ∃ (K0 : K4) (x0 : Nat × Dg) (tb1 : Nat) (s1 : Tm.St) (fh1 fk1 : Value → Option Value) (i : Int), Hid (Oldest st K0 x0) ∧ Hid (fk1 (.int .i64 i) = none) ∧ Hid (0 ≤ i ∧ i ≤ 256) ∧ Hid (Asm0 wc a hb kb tb1 TS s1 fh1 fk1 { gone st K0 with began := st.began + 1 }) ∧ Hid (DgAt wc d1 { D1 with id := i, order := st.began }) ∧ Hid (Touch (d1 :: a :: hb :: kb :: TS) W8 wc))
  case first =>
    have hd1 : decide (st.room ≤ (st.n : Int)) = true := decide_eq_true HFUL.out
    have hbn := HST.out.b0
    obtain ⟨a0, a1, a2, a3, a4, a5, a6⟩ := asm_cells A8.out.blk
    have n0 := fun u : Near W8 => u.cell a0
    have n4 := fun u : Near W8 => u.cell a4
    have nl := fun u : Near W8 => ((A8.out.near u.near).held.len Try.underlying104 3)
    clear a0 a1 a2 a3 a4 a5 a6
    go_wp2
    refine wp_region_near (by kernel_rfl) (by kernel_rfl) ?_
    repeat (go_big_quiet_step (fail))
    refine wpQuiet_nil ?_
    rintro _ ⟨u, rfl⟩
    have TU := Lib.hid u.near
    obtain ⟨WU, hWU⟩ : ∃ W, W = u.w := ⟨_, rfl⟩
    rw [← hWU] at TU ⊢
    have AU := Lib.hid (A8.out.near TU.out)
    clear n0 n4 nl hWU hd1
    go_wp2_with fail
    refine (oldest_calls (show AsmAt WU a (a :: hb :: kb :: TS) st from ⟨hb, kb, tb, TS, s, fh, fk, rfl, AU.out⟩) HNE.out).mono ?_
    rintro e WV ⟨K0, x0, hol, rfl, tv⟩
    have HOL := Lib.hid hol
    have AV' : Hid (AsmAt WV a (a :: hb :: kb :: TS) st) := Lib.hid ⟨hb, kb, tb, TS, s, fh, fk, rfl, AU.out.near tv⟩
    have TV := Lib.hid (TU.out.trans tv (by simp))
    clear hol tv TU AU
    go_wp2_with fail
    refine (adrop_calls AV'.out HOL.out.wf).mono ?_
    rintro e WY ⟨rfl, hay, ty⟩
    obtain ⟨hb', kb', tb1, TS', s1, fh1, fk1, hS, hA1⟩ := hay
    simp only [List.cons.injEq, true_and] at hS
    obtain ⟨rfl, rfl, rfl⟩ := hS
    have DY : Hid (DgAt WY d1 D1) := Lib.hid ((D8.out.near TV.out).kind ty AV'.out.kinds)
    have TY := Lib.hid ((TV.out.mono (S' := a :: hb :: kb :: TS) (by simp)).trans ty (fun x hx => .inl hx))
    obtain ⟨st1, hst1⟩ : ∃ st1, st1 = gone st K0 := ⟨_, rfl⟩
    rw [← hst1] at hA1
    have AY := Lib.hid hA1
    have HS1 := Lib.hid hst1
    have N1 : Hid ((st1.n : Int) ≤ 256) := Lib.hid (by
      have h1 := HN.out
      rw [hst1]
      show (((if (st.g K0).isSome then st.n - 1 else st.n) : Nat) : Int) ≤ 256
      split <;> omega)
    have B1 : Hid (st1.began = st.began) := Lib.hid (by rw [hst1]; rfl)
    clear hA1 ty hst1 TV AV'
    go_wp2_with fail
    refine (number_calls AY.out (by have := N1.out; omega)).mono ?_
    rintro e W9 ⟨i, rfl, hi9, hif, t9⟩
    have HIF := Lib.hid hif
    have T89 := Lib.hid (TY.out.trans t9 (by simp))
    have A9 := Lib.hid (AY.out.near t9)
    have D9 := Lib.hid (DY.out.near t9)
    clear t9 hif TY AY DY
    obtain ⟨VB9, VH9, VO9, hd9, r1, r2, r3⟩ := D9.out
    obtain ⟨d0', d1', _⟩ := dg_cells hd9
    obtain ⟨a0, a1, a2, a3, a4, a5, a6⟩ := asm_cells A9.out.blk
    rw [B1.out] at a3
    have fd := fun o => box_frozen hd9 o
    have fa := fun o => box_frozen A9.out.blk o
    have HDD9 := Lib.hid hd9
    obtain ⟨WX, hWX⟩ : ∃ W : World, W = ((W9.setCell ⟨d1, 0, none⟩ (.int .i64 i)).setCell ⟨d1, 1, none⟩ (.int .i64 st.began)).setCell ⟨a, 3, none⟩ (.int .i64 (st.began + 1)) := ⟨_, rfl⟩
    have HWX := Lib.hid hWX
    clear hWX hd9 r1 r2 r3
    have hbn9 := HBN.out
    go_wp2
    rw [← HWX.out]
    have tX : Touch [d1, a] W9 WX := by rw [HWX.out]; exact (((Touch.refl _ W9).setCell _ _ (.inl (by simp))).setCell _ _ (.inl (by simp))).setCell _ _ (.inl (by simp))
    have DX : DgAt WX d1 { D1 with id := (i : Int), order := st.began } := by
      have q1 := (dg_set0 D9.out (i : Int)).1
      have q2 := (dg_set0 q1 st.began).2.1
      rw [HWX.out]
      refine q2.kindD ((Touch.refl [a] _).setCell _ _ (.inl (by simp))) (fun k hk => .inl ?_)
      simp at hk
      subst hk
      refine .inr ⟨_, _, box_other _ _ (box_other _ _ A9.out.blk (by simpa using Ne.symm hda)) (by simpa using Ne.symm hda), by decide, by decide⟩
    have hlt1 : ∀ (L : K4) (x : Nat × Dg), L.wf → st1.g L = some x → x.1 < w.heap.size := by
      intro L x hL hx
      rw [HS1.out] at hx
      by_cases e : L = K0
      · subst e; simp [gone, updK_same] at hx
      · exact HDLT.out L x hL (by simpa [gone, updK_other _ e] using hx)
    have hkp : ∀ (L : K4) (x : Nat × Dg), L.wf → st1.g L = some x → DgAt WX x.1 x.2 := by
      intro L x hL hx
      refine (A9.out.each L x hL hx).1.kindD tX (fun k hk => ?_)
      simp at hk
      rcases hk with rfl | rfl
      · refine .inr ⟨⟨_, HDD9.out⟩, fun he => ?_⟩
        have h3 := hlt1 L x hL hx
        have := HDG.out
        omega
      · exact .inl (.inr ⟨_, _, A9.out.blk, by decide, by decide⟩)
    have hal : ∀ k ∈ a :: hb :: kb :: TS, k ≠ d1 := fun k hk he => by have := HAL.out k hk; have := HDG.out; omega
    have AX : Asm0 WX a hb kb tb1 TS s1 fh1 fk1 { gone st K0 with began := st.began + 1 } := by
      rw [← HS1.out]
      refine A9.out.began tX (fun k hk hm => ?_) _ hkp ?_
      · simp only [List.mem_cons, List.not_mem_nil, or_false] at hk
        rcases hk with rfl | rfl
        · exact hal k (by simp [List.mem_cons] at hm ⊢; right; exact hm) rfl
        · have h1 := A9.out.ab
          have h2 := A9.out.at_
          simp only [List.mem_cons] at hm
          rcases hm with h | h | h
          · exact h1.1 h
          · exact h1.2 h
          · exact h2 h
      · rw [HWX.out]
        have z1 := box_other (k := a) ⟨d1, 1, none⟩ (.int .i64 st.began) (box_other (k := a) ⟨d1, 0, none⟩ (.int .i64 i) A9.out.blk (by simpa using Ne.symm hda)) (by simpa using Ne.symm hda)
        simpa using box_set (o := 3) z1 (.int .i64 (st.began + 1))
    go_meet
    case rel => exact ⟨K0, x0, tb1, s1, fh1, fk1, i, HOL, HIF, Lib.hid (by omega), Lib.hid AX, Lib.hid DX, Lib.hid ((T89.out.mono (fun x hx => .inl (by simp at hx ⊢; right; exact hx))).trans tX (fun x hx => .inl (by simp at hx ⊢; rcases hx with h | h; exact .inl h; exact .inr (.inl h))))⟩
  case rest =>
  clear A8
  obtain ⟨K0, x0, tb, s, fh, fk, i, HOL, HIF, HI9, A9, D9, hT9⟩ := hcut
  obtain ⟨W9, hw9⟩ : ∃ w9, w9 = wc := ⟨_, rfl⟩
  rw [← hw9] at A9 D9 hT9 ⊢
  have nbs : ∀ b, w.heap.size ≤ b → b ≠ d1 → b ∉ d1 :: a :: hb :: kb :: TS := fun b h1 h2 hm => by
    rcases List.mem_cons.1 hm with h | h
    · exact h2 h
    · have := HAL.out b h; omega
  have nb0 : b0 ∉ d1 :: a :: hb :: kb :: TS := nbs b0 (by have := HB0.out; omega) (by have := HB0.out; have := HB1.out; have := HB2.out; have := HDB.out; have := HWS.out; omega)
  have nb1 : b1 ∉ d1 :: a :: hb :: kb :: TS := nbs b1 (by have := HB1.out; omega) (by have := HB1.out; have := HB2.out; have := HDB.out; have := HWS.out; omega)
  have nb2 : b2 ∉ d1 :: a :: hb :: kb :: TS := nbs b2 (by have := HB1.out; have := HB2.out; omega) (by have := HDB.out; have := HWS.out; omega)
  have Y9 := Lib.hid (touch_box hT9.out Y8.out nb0)
  have X9 := Lib.hid (touch_box hT9.out X8.out nb2)
  have R9 := Lib.hid (touch_box hT9.out R8.out nb1)
  have T9 := Lib.hid ((T8.out.mono (S' := a :: hb :: kb :: TS) (by simp)).trans hT9.out (fun x hx => by
    rcases List.mem_cons.1 hx with h | h
    · subst h; exact .inr HDG.out
    · exact .inl h))
  obtain ⟨st1, hst1⟩ : ∃ st1, st1 = gone st K0 := ⟨_, rfl⟩
  have HS1 := Lib.hid hst1
  have GN1 : Hid (st1.g (keyP P) = none) := Lib.hid (by
    rw [hst1]
    show updK st.g K0 none (keyP P) = none
    by_cases e : keyP P = K0
    · rw [e, updK_same]
    · rw [updK_other _ e, HGN.out])
  have HLT : Hid (∀ (L : K4) (x : Nat × Dg), L.wf → st1.g L = some x → x.1 < w.heap.size) := Lib.hid (by
    intro L x hL hx
    rw [hst1] at hx
    by_cases e : L = K0
    · subst e; simp [gone, updK_same] at hx
    · exact HDLT.out L x hL (by simpa [gone, updK_other _ e] using hx))
  have HST1 : Hid (st1.ok) := Lib.hid (by rw [hst1]; exact gone_ok HST.out K0)
  have HN1 : Hid ((st1.n : Int) ≤ 256) := Lib.hid (by have := HST1.out.n; have := HST1.out.r9; omega)
  have HRM : Hid ((st1.g (keyP P)).isSome = true ∨ (st1.n : Int) < st1.room) := Lib.hid (.inr (by
    have h1 := HST.out.n
    have h2 : st1.n = st.n - 1 := by rw [hst1]; simp [gone, HOL.out.is]
    have h3 : st1.room = st.room := by rw [hst1]; rfl
    have h4 := HST.out.r0
    have h5 := HFUL.out
    omega))
  obtain ⟨bg, hbg⟩ : ∃ bg, bg = if (st1.g (keyP P)).isSome then st1.began else st1.began + 1 := ⟨_, rfl⟩
  obtain ⟨og, hog⟩ : ∃ og, og = if (st1.g (keyP P)).isSome then D0.order else st1.began := ⟨_, rfl⟩
  have hbg' : bg = st.began + 1 := by rw [hbg, GN1.out, hst1]; rfl
  have hog' : og = st.began := by rw [hog, GN1.out, hst1]; rfl
  rw [← hst1, ← hbg'] at A9
  rw [← hog'] at D9
  have HBG := Lib.hid hbg
  have HOG := Lib.hid hog
  have HI : Hid (match st1.g (keyP P) with | some x => i = x.2.id | none => fk (.int .i64 i) = none) := Lib.hid (by rw [GN1.out]; exact HIF.out)
  have eo : oldD st (keyP P) = oldD st1 (keyP P) := by unfold oldD; rw [GN1.out, HGN.out]
  have HD0b : Hid (D0 = oldD st1 (keyP P)) := Lib.hid (by rw [← eo]; exact HD0.out)
  have HD1b : Hid (D1 = takenD (oldD st1 (keyP P)) P) := Lib.hid (by rw [← eo]; exact HD1.out)
  have FINR : Hid (∀ d i, AddRelE st P zeroP 52 (kept st1 P d i)) := Lib.hid (fun d i => .inr ⟨⟨HE0.out, HZ.out, HC.out, HWC.out⟩, HGN.out, HFUL.out, rfl, rfl, K0, x0, HOL.out, d, i, by rw [hst1]⟩)
  clear hw9 hT9 Y8 X8 R8 T8 D8 nb0 nb1 nb2 nbs hst1 hbg hog hbg' hog' eo HIF HD0 HD1 HST HN
  have HST := HST1
  have HN := HN1
  have HD0 := HD0b
  have HD1 := HD1b
  clear HST1 HN1 HD0b HD1b
  have httl : 0 ≤ ttl ∧ ttl < 256 := by have := HPW.out.ttl; rw [HP.out] at this; exact this
  obtain ⟨sp, hsp⟩ : ∃ sp, sp = spanI st1 P := ⟨_, rfl⟩
  have HSP : Hid (sp = if st1.life < (if ttl < 1 then 1 else ttl) then st1.life else (if ttl < 1 then 1 else ttl)) := Lib.hid (by rw [hsp, HP.out]; rfl)
  have HSS := Lib.hid hsp
  have hspb := spanI_bd HST.out P
  rw [← hsp] at hspb
  obtain ⟨hspb0, hspb1⟩ := hspb
  clear hsp
  go_upto_region 28 with (fail)
  go_cut [15] from 122 to 131 (fun v wq => v = .int .i64 sp ∧ Hid (Touch [] W9 wq))
  case first =>
    obtain ⟨_, _, _, _, _, c5, _⟩ := pk_cells Y9.out
    dsimp only at c5
    obtain ⟨_, a1, _⟩ := asm_cells A9.out.blk
    dsimp only at a1
    have n5 := fun u : Near W9 => u.cell c5
    have n1 := fun u : Near W9 => u.cell a1
    clear c5 a1
    refine wp_region_near (by kernel_rfl) (by kernel_rfl) ?_
    repeat' (go_big_quiet_step (fail))
    all_goals
      refine wpQuiet_nil ?_
      rintro _ ⟨u, rfl⟩
      have TX := Lib.hid u.near
      clear n5 n1
      go_wp2
      all_goals go_meet
      all_goals exact ⟨by rw [HSP.out]; congr 1; (repeat' split) <;> omega, TX⟩
  case rest =>
  obtain ⟨rfl, hT9⟩ := hcut
  obtain ⟨WA, hwA⟩ : ∃ wA, wA = wc := ⟨_, rfl⟩
  rw [← hwA] at hT9 ⊢
  have AA := Lib.hid (A9.out.near hT9.out)
  have DA := Lib.hid (D9.out.near hT9.out)
  have XA := Lib.hid (touch_box hT9.out X9.out (by simp))
  have RA := Lib.hid (touch_box hT9.out R9.out (by simp))
  have TA := Lib.hid (T9.out.trans hT9.out (by simp))
  clear hwA hT9 X9 R9 Y9 A9 D9 T9
  obtain ⟨un, hun⟩ : ∃ un, un = untilI st1 P D0 := ⟨_, rfl⟩
  have HUN : Hid (un = if D1.until_ < afterI st1.now sp then afterI st1.now sp else D1.until_) := Lib.hid (by rw [hun, HD1I.out.2.2, HSS.out]; rfl)
  have HUU := Lib.hid hun
  have hunb := untilI_bd (p := P) HST.out HOK.out
  rw [← hun] at hunb
  obtain ⟨hunb0, hunb1⟩ := hunb
  clear hun
  go_upto_region 29 with (fail)
  go_cut [] from 132 to 145 (fun wc => Hid (DgAt wc d1 { D1 with id := i, order := og, until_ := un }) ∧ Hid (Touch [d1] WA wc))
  case first =>
    obtain ⟨VBA, VHA, VOA, hdA, q1, q2, q3⟩ := DA.out
    obtain ⟨_, _, dd2, _⟩ := dg_cells hdA
    dsimp only at dd2
    have df2 := box_frozen hdA 2
    obtain ⟨_, _, a2, _⟩ := asm_cells AA.out.blk
    dsimp only at a2
    have htn := HST.out.t0
    have htn9 := HST.out.t9
    clear hdA q1 q2 q3
    go_region_law (go_simp; go_at_call 50; refine (after_calls _ st1.now sp htn htn9 hspb0 (by omega)).mono ?_; rintro e w2 ⟨rfl, rfl⟩)
    all_goals (try go_wp2)
    all_goals go_meet
    all_goals exact ⟨Lib.hid (by
      have q1 := (dg_set0 (DA.out.near (Touch.refl [] WA).drew) un).2.2
      first
        | (have hv : un = afterI st1.now sp := by rw [HUN.out]; split <;> omega
           rw [hv] at q1 ⊢
           exact q1)
        | (have hv : un = max D1.until_ (afterI st1.now sp) := by rw [HUN.out, Int.max_def]; split <;> split <;> omega
           rw [hv] at q1 ⊢
           exact q1)
        | (have hv : un = D1.until_ := by rw [HUN.out]; split <;> omega
           rw [hv] at q1 ⊢
           exact q1)), Lib.hid ((((Touch.refl [] WA).drew).mono (by simp)).setCell _ _ (.inl (by simp)))⟩
  case rest =>
  obtain ⟨DB, hTB⟩ := hcut
  obtain ⟨WB, hwB⟩ : ∃ wB, wB = wc := ⟨_, rfl⟩
  rw [← hwB] at DB hTB ⊢
  clear hwB
  have hS : Hid (∀ k ∈ a :: hb :: kb :: TS, k < w.heap.size) := HAL
  have ab := Lib.hid AA.out.ab
  have hkp : Hid (∀ (L : K4) (x : Nat × Dg), L.wf → st1.g L = some x → DgAt WB x.1 x.2) := Lib.hid (fun L x hL hx => by
    have h3 := HLT.out L x hL hx
    obtain ⟨VBA, VHA, VOA, hdA, _⟩ := DA.out
    refine (AA.out.each L x hL hx).1.kindD hTB.out (fun k hk => ?_)
    simp at hk
    subst hk
    exact .inr ⟨⟨_, hdA⟩, fun he => by have := HDG.out; omega⟩)
  have nd : ∀ k ∈ a :: hb :: kb :: TS, k ∉ [d1] := fun k hk hm => by have := hS.out k hk; have := HDG.out; simp at hm; omega
  have SAB := Lib.hid hTB.out.size
  have HELD := Lib.hid (AA.out.held.kept hTB.out (nd hb (by simp)))
  have KEYS := Lib.hid (AA.out.keys.kept hTB.out (nd kb (by simp)))
  have TIM := Lib.hid (tim_kept AA.out.tim hTB.out (fun k hk => nd k (by simp [hk])))
  have BLK := Lib.hid (touch_box hTB.out AA.out.blk (nd a (by simp)))
  have XB := Lib.hid (touch_box hTB.out XA.out (by have := HDB.out; have := HWS.out; simp; omega))
  have RB := Lib.hid (touch_box hTB.out RA.out (by have := HDB.out; have := HWS.out; have := HB2.out; simp; omega))
  have TB := Lib.hid (TA.out.trans hTB.out (fun x hx => .inr (by have := HDG.out; simp at hx; omega)))
  have HKD : Hid (∀ k ∈ a :: hb :: kb :: TS, Kind WB k) := Lib.hid (fun k hk => by
    have h1 : AsmAt WA a (a :: hb :: kb :: TS) { st1 with began := bg } := ⟨hb, kb, tb, TS, s, fh, fk, rfl, AA.out⟩
    rcases h1.kinds k hk with ⟨es, c, hm⟩ | ⟨c, T, hm, h5, h6⟩
    · exact .inl ⟨es, c, touch_box hTB.out hm (nd k hk)⟩
    · exact .inr ⟨c, T, touch_box hTB.out hm (nd k hk), h5, h6⟩)
  clear hTB DA XA RA TA nd
  obtain ⟨n', hn'⟩ : ∃ n', n' = if (st1.g (keyP P)).isSome then st1.n else st1.n + 1 := ⟨_, rfl⟩
  have HN' := Lib.hid hn'
  have HFI : Hid ((fh (.agg #[.int .u32 src, .int .u32 dst, .int .u8 proto, .int .u16 id])).isSome = (st1.g (keyP P)).isSome) := Lib.hid (by
    rw [← HKV.out, AA.out.look _ HKW.out]
    show ((st1.g (keyP P)).map _).isSome = _
    cases st1.g (keyP P) <;> rfl)
  have HKI : Hid ((fk (.int .i64 i)).isSome = (st1.g (keyP P)).isSome) := Lib.hid (by
    have h1 := HI.out
    cases hg : st1.g (keyP P) with
    | none => rw [hg] at h1; dsimp only at h1; rw [h1]; rfl
    | some x => rw [hg] at h1; dsimp only at h1; rw [h1, (AA.out.each _ x HKW.out hg).2.1]; rfl)
  have HVI : Hid ((Tm.val s i).isSome = (st1.g (keyP P)).isSome) := Lib.hid (by
    have h1 := HI.out
    cases hg : st1.g (keyP P) with
    | none =>
      rw [hg] at h1
      dsimp only at h1
      cases hv : (Tm.val s i).isSome
      · rfl
      · have := AA.out.due i hv; rw [h1] at this; cases this
    | some x => rw [hg] at h1; dsimp only at h1; rw [h1, (AA.out.each _ x HKW.out hg).2.2.1]; rfl)
  clear hn'
  have hn9 : st1.n < 9223372036854775807 := by have := HN.out; omega
  obtain ⟨hi0, hi9⟩ := HI9.out
  go_upto_region 30 with (fail)
  go_cut [] from 146 to 151 (fun wc => Hid (GMap 109 wc hb (updV fh (kv (keyP P)) (some (.pointer (some ⟨d1, 0, none⟩)))) n') ∧ Hid (Touch [hb] WB wc))
  case first =>
    obtain ⟨kl, hkl⟩ := key_some HKW.out
    have HKL := Lib.hid hkl
    obtain ⟨_, _, _, _, a4, _⟩ := asm_cells BLK.out
    have x0 := (show WB.cell? ⟨b2, 0, none⟩ = some (.int .u32 src) by simp [World.cell?, XB.out])
    have x1 := (show WB.cell? ⟨b2, 1, none⟩ = some (.int .u32 dst) by simp [World.cell?, XB.out])
    have x2 := (show WB.cell? ⟨b2, 2, none⟩ = some (.int .u8 proto) by simp [World.cell?, XB.out])
    have x3 := (show WB.cell? ⟨b2, 3, none⟩ = some (.int .u16 id) by simp [World.cell?, XB.out])
    have KD := Lib.hid (HELD.out.kept (Touch.refl [] WB).drew (by simp))
    clear hkl
    obtain ⟨w4, hrun, k4, t4⟩ := KD.out.store lawKey Try.underlying104 HKL.out (.pointer (some ⟨d1, 0, none⟩)) hn9
    rw [HKV.out, HFI.out, ← HN'.out] at k4
    rw [HKV.out] at hrun
    have K4' := Lib.hid k4
    have T4' := Lib.hid t4
    clear k4 t4
    go_region_law (fail)
    all_goals (try go_wp2)
    all_goals go_meet
    all_goals exact ⟨Lib.hid (by rw [HKV.out]; exact K4'.out), Lib.hid ((((Touch.refl [] WB).drew).mono (by simp)).trans T4'.out (fun x hx => .inl hx))⟩
  case rest =>
  obtain ⟨HELDC, hTC⟩ := hcut
  obtain ⟨WC, hwC⟩ : ∃ wC, wC = wc := ⟨_, rfl⟩
  rw [← hwC] at HELDC hTC ⊢
  clear hwC
  have KEYSC := Lib.hid (KEYS.out.kept hTC.out (by simp; exact fun e => AA.out.hk e.symm))
  have TIMC := Lib.hid (tim_kept TIM.out hTC.out (fun k hk => by simp; rintro rfl; exact AA.out.ht hk))
  have BLKC := Lib.hid (touch_box hTC.out BLK.out (by simp; exact ab.out.1))
  have DC := Lib.hid (DB.out.kind hTC.out (fun k hk => HKD.out k (by simp at hk; simp [hk])))
  have XC := Lib.hid (touch_box hTC.out XB.out (by have := hS.out hb (by simp); have := HB0.out; have := HB1.out; have := HB2.out; simp; omega))
  have RC := Lib.hid (touch_box hTC.out RB.out (by have := hS.out hb (by simp); have := HB0.out; have := HB1.out; have := HB2.out; simp; omega))
  have TC : Hid (Touch (hb :: kb :: TS) WB WC) := Lib.hid (hTC.out.mono (fun x hx => .inl (by simp at hx; simp [hx])))
  clear hTC HELD KEYS TIM BLK XB RB
  go_upto_region 31 with (fail)
  go_cut [] from 152 to 160 (fun wc => Hid (GMap 3 wc kb (updV fk (.int .i64 i) (some (kv (keyP P)))) n') ∧ Hid (Touch [kb] WC wc))
  case first =>
    obtain ⟨VBA, VHA, VOA, hdC, _⟩ := DC.out
    obtain ⟨dd0, _⟩ := dg_cells hdC
    dsimp only at dd0
    obtain ⟨_, _, _, _, _, a5, _⟩ := asm_cells BLKC.out
    have x0 := (show WC.cell? ⟨b2, 0, none⟩ = some (.int .u32 src) by simp [World.cell?, XC.out])
    have x1 := (show WC.cell? ⟨b2, 1, none⟩ = some (.int .u32 dst) by simp [World.cell?, XC.out])
    have x2 := (show WC.cell? ⟨b2, 2, none⟩ = some (.int .u8 proto) by simp [World.cell?, XC.out])
    have x3 := (show WC.cell? ⟨b2, 3, none⟩ = some (.int .u16 id) by simp [World.cell?, XC.out])
    have KD := Lib.hid (KEYSC.out.kept (Touch.refl [] WC).drew (by simp))
    clear hdC
    obtain ⟨w4, hrun, k4, t4⟩ := KD.out.store lawInt Try.underlying105 (keyInt (x := i) (by omega) (by omega)) (.agg #[.int .u32 src, .int .u32 dst, .int .u8 proto, .int .u16 id]) hn9
    rw [HKI.out, ← HN'.out] at k4
    have K4' := Lib.hid k4
    have T4' := Lib.hid t4
    clear k4 t4
    go_region_law (fail)
    all_goals (try go_wp2)
    all_goals go_meet
    all_goals exact ⟨Lib.hid (by rw [HKV.out]; exact K4'.out), Lib.hid ((((Touch.refl [] WC).drew).mono (by simp)).trans T4'.out (fun x hx => .inl hx))⟩
  case rest =>
  obtain ⟨KEYSD, hTD⟩ := hcut
  obtain ⟨WD, hwD⟩ : ∃ wD, wD = wc := ⟨_, rfl⟩
  rw [← hwD] at KEYSD hTD ⊢
  clear hwD
  have HELDD := Lib.hid (HELDC.out.kept hTD.out (by simp; exact AA.out.hk))
  have TIMD := Lib.hid (tim_kept TIMC.out hTD.out (fun k hk => by simp; rintro rfl; exact AA.out.kt hk))
  have BLKD := Lib.hid (touch_box hTD.out BLKC.out (by simp; exact ab.out.2))
  have TD : Hid (Touch (hb :: kb :: TS) WB WD) := Lib.hid (TC.out.trans hTD.out (fun x hx => .inl (by simp at hx; simp [hx])))
  have DD := Lib.hid (DB.out.kind TD.out (fun k hk => HKD.out k (by simp at hk; simp; exact .inr hk)))
  have RD := Lib.hid (touch_box hTD.out RC.out (by have := hS.out kb (by simp); have := HB0.out; have := HB1.out; have := HB2.out; simp; omega))
  clear hTD TC XC RC DC BLKC KEYSC TIMC HELDC
  go_upto_region 32 with (fail)
  go_cut [] from 161 to 173 (fun wc => ∃ s' TS', Hid (Tm.Goes WD wc tb TS 256 s' TS') ∧ Hid (s'.hp.length = n') ∧ Hid (∀ y, Tm.val s' y = if y = i then some un else Tm.val s y))
  case first =>
    obtain ⟨VBA, VHA, VOA, hdD, _⟩ := DD.out
    obtain ⟨dd0, _, dd2, _⟩ := dg_cells hdD
    dsimp only at dd0 dd2
    obtain ⟨_, _, _, _, _, _, a6⟩ := asm_cells BLKD.out
    have TK := Lib.hid (tim_kept TIMD.out (Touch.refl [] WD).drew (by simp))
    have HLEN : Hid (s.hp.length = st1.n) := Lib.hid AA.out.len
    have hw1 : Tm.wfi i := Tm.wfi_mk (by omega) (by omega)
    have hw2 : Tm.wfi un := Tm.wfi_mk (by omega) (by omega)
    clear hdD
    go_region_law (go_simp; go_at_call 51; refine (Tm.set_calls TK.out i un hw1 hw2).mono ?_; rintro e w2 ⟨s', TS', k1, hp⟩; rcases hp with ⟨hp, hp2, _⟩ | ⟨_, rfl, hp, hp'⟩; (exfalso; have h1 := HVI.out; rw [hp] at h1; have h2 := HLEN.out; have h3 := HRM.out; have h4 := HST.out.r9; rw [← h1] at h3; rcases h3 with h3 | h3; cases h3; omega); have K1 := Lib.hid k1; have K2 := Lib.hid hp; have K3 := Lib.hid hp'; clear k1 hp hp')
    all_goals (try go_wp2)
    all_goals go_meet
    all_goals exact ⟨s', TS', Lib.hid ⟨K1.out.tim, (((Touch.refl [] WD).drew).mono (by simp)).trans K1.out.touch (fun x hx => .inl hx), fun k hk => K1.out.sub k hk⟩, Lib.hid (by rw [K2.out, HVI.out, HLEN.out, HN'.out]), K3⟩
  case rest =>
  obtain ⟨s', TS', HG, HL', HV'⟩ := hcut
  obtain ⟨WE, hwE⟩ : ∃ wE, wE = wc := ⟨_, rfl⟩
  rw [← hwE] at HG ⊢
  clear hwE
  have HELDE := Lib.hid (HELDD.out.kept HG.out.touch AA.out.ht)
  have KEYSE := Lib.hid (KEYSD.out.kept HG.out.touch AA.out.kt)
  have BLKE := Lib.hid (touch_box HG.out.touch BLKD.out AA.out.at_)
  have TE : Hid (Touch (hb :: kb :: TS) WB WE) := Lib.hid (TD.out.trans HG.out.touch (fun x hx => .inl (by simp [hx])))
  have HKE : Hid (∀ k ∈ hb :: kb :: TS, Kind WB k) := Lib.hid (fun k hk => HKD.out k (by simp at hk; simp; exact .inr hk))
  have RE := Lib.hid (touch_box HG.out.touch RD.out (fun hm => by have := hS.out b1 (by simp [hm]); have := HB1.out; omega))
  have RLT : Hid (b1 < WD.heap.size) := Lib.hid (Array.getElem?_eq_some_iff.1 RD.out).1
  have SBD := Lib.hid TD.out.size
  have RK : Hid (∀ k ∈ a :: hb :: kb :: TS', k ∈ a :: hb :: kb :: TS ∨ WD.heap.size ≤ k) := Lib.hid (fun k hk => by
    simp only [List.mem_cons] at hk ⊢
    rcases hk with h | h | h | h
    · exact .inl (.inl h)
    · exact .inl (.inr (.inl h))
    · exact .inl (.inr (.inr (.inl h)))
    · rcases HG.out.sub k h with h | h
      · exact .inl (.inr (.inr (.inr h)))
      · exact .inr h)
  have FIN : Hid (AsmAt WE a (a :: hb :: kb :: TS') (kept st1 P d1 i)) := Lib.hid (by
    have h1 := AA.out.put (d := d1) (D := { D1 with id := i, order := og, until_ := un }) (i := i) (u := un) (w' := WE) (TS' := TS') (s' := s') HKW.out rfl rfl (by have := HI.out; exact this) HI9.out.1 HI9.out.2 BLKE.out (by have := HELDE.out; rw [HN'.out] at this; exact this) (by have := KEYSE.out; rw [HN'.out] at this; exact this) HG.out.tim (by rw [HL'.out, HN'.out]) HV'.out (fun k hk => by
      rcases HG.out.sub k hk with h | h
      · exact .inl h
      · exact .inr (Nat.le_trans SAB.out (Nat.le_trans SBD.out h))) (DB.out.kind TE.out HKE.out) (fun L x hL hx => (hkp.out L x hL hx).kind TE.out HKE.out)
    have e : kept st1 P d1 i = { ({ st1 with began := bg } : ASt) with g := updK st1.g (keyP P) (some (d1, { D1 with id := i, order := og, until_ := un })), n := if (st1.g (keyP P)).isSome then st1.n else st1.n + 1 } := by
      have e2 : newD st1 P i = { D1 with id := i, order := og, until_ := un } := by
        unfold newD
        rw [HD1.out, HOG.out, HUU.out, HD0.out]
        have h2 := HI.out
        cases hg : st1.g (keyP P) with
        | none => simp
        | some x =>
          rw [hg] at h2
          dsimp only at h2
          have e3 : (oldD st1 (keyP P)).id = i := by rw [h2]; unfold oldD; rw [hg]
          simp [e3]
      unfold kept
      rw [e2, HBG.out]
    rw [e]
    exact ⟨hb, kb, tb, TS', s', _, _, rfl, h1⟩)
  have TT : Hid (Touch (a :: hb :: kb :: TS) w WE) := Lib.hid (TB.out.trans TE.out (fun x hx => .inl (by simp at hx; simp; exact .inr hx)))
  clear HELDE KEYSE BLKE TE HKE TD HELDD KEYSD BLKD TIMD DD DB
  obtain ⟨r0, r1, r2, r3, r4, r5, r6, r7, r8, r9, r10⟩ := pk_cells RE.out
  dsimp only at r0 r1 r2 r3 r4 r5 r6 r7 r8 r9 r10
  have z := fun o => box_frozen RE.out o
  obtain ⟨WZ, hWZ, RZ, tZ⟩ := pk_set (h := ⟨0, 0, false, false, 0, 0, 0, 0, 0⟩) (VO := .slice none 0 0) (VB := .slice none 0 0) RE.out
  dsimp only at hWZ
  have HWZ := Lib.hid hWZ
  have HRZ := Lib.hid RZ
  have TZ := Lib.hid tZ
  clear hWZ RZ tZ
  go_wp2
  rw [← HWZ.out]
  clear r0 r1 r2 r3 r4 r5 r6 r7 r8 r9 r10 z HWZ
  obtain ⟨r0, r1, r2, r3, r4, r5, r6, r7, r8, r9, r10⟩ := pk_cells HRZ.out
  dsimp only at r0 r1 r2 r3 r4 r5 r6 r7 r8 r9 r10
  refine bodyPost_ret (v := .tuple #[.agg (pkC ⟨0, 0, false, false, 0, 0, 0, 0, 0⟩ (.slice none 0 0) (.slice none 0 0)), .int .i64 52]) (by simp [results, Try.results20, go_sem, r0, r1, r2, r3, r4, r5, r6, r7, r8, r9, r10]) rfl ?_
  exact ⟨zeroP, 52, kept st1 P d1 i, a :: hb :: kb :: TS', PktR.zero, FIN.out.keptK TZ.out (fun k hk hs => by simp only [List.mem_singleton] at hk; subst hk; rcases RK.out _ hs with h | h; (have := HAL.out _ h; have := HB1.out; omega); (have := RLT.out; omega)) (kind_pk RE.out), TT.out.trans TZ.out (fun x hx => .inr (by have := HB1.out; simp at hx; omega)), fun k hk => (RK.out k hk).imp (fun h => h) (fun h => Nat.le_trans TB.out.size (Nat.le_trans SBD.out h)), FINR.out d1 i⟩
theorem addE_calls {w : World} {a : Nat} {S : List Nat} {st : ASt} (h : AsmAt w a S st) (hst : st.ok) {p : Pk} {VO VB : Value} (hr : ∀ w', Touch S w w' → RdB w' VO p.opts ∧ RdB w' VB p.body) (hlo : p.opts.length ≤ 140737488355328) (hlb : p.body.length ≤ 140737488355328) (hw : p.h.wf)
    (hne : st.room ≤ (st.n : Int) → ∃ (K : K4) (y : Nat × Dg), K.wf ∧ st.g K = some y) (hbn : st.began < 4611686018427387904) :
    Calls Try.prog 20 #[.pointer (some ⟨a, 0, none⟩), .agg (pkC p.h VO VB)] w (AddPostE w a S st p) := by
  by_cases hm : More st p ∧ st.g (keyP p) = none ∧ st.room ≤ (st.n : Int)
  · obtain ⟨⟨h1, h2, h3, h4⟩, h5, h6⟩ := hm
    exact add_evict h hst hr hlo hlb hw h1 h2 h3 h4 h5 h6 (hne h6) hbn
  · have key : Calls Try.prog 20 #[.pointer (some ⟨a, 0, none⟩), .agg (pkC p.h VO VB)] w (AddPost w a S st p) → Calls Try.prog 20 #[.pointer (some ⟨a, 0, none⟩), .agg (pkC p.h VO VB)] w (AddPostE w a S st p) := by
      intro hc
      refine hc.mono ?_
      rintro e w' ⟨q, r, st', S', h1, h2, h3, h4, h5⟩
      refine ⟨q, r, st', S', h1, h2, h3, h4, .inl ⟨h5, fun hM => ?_⟩⟩
      cases hg : st.g (keyP p) with
      | some x => exact .inl rfl
      | none => exact .inr (by
          by_cases hf : st.room ≤ (st.n : Int)
          · exact absurd ⟨hM, hg, hf⟩ hm
          · omega)
    by_cases hE : bErr p = 0
    · by_cases hz : p.h.off = 0 ∧ p.h.mf = false
      · exact key (add_self h hst hr hlo hlb hw hE hz)
      · cases hc : clashB (oldD st (keyP p)) p
        · cases hwb : wholeB (takenD (oldD st (keyP p)) p)
          · refine key (add_more h hst hr hlo hlb hw hE hz hc hwb ?_ hbn)
            cases hg : st.g (keyP p) with
            | some x => exact .inl rfl
            | none => exact .inr (by
                by_cases hf : st.room ≤ (st.n : Int)
                · exact absurd ⟨⟨hE, hz, hc, hwb⟩, hg, hf⟩ hm
                · omega)
          · by_cases hq : bErr (packD (takenD (oldD st (keyP p)) p)) = 0
            · exact key (add_whole h hst hr hlo hlb hw hE hz hc hwb hq)
            · exact key (add_broken h hst hr hlo hlb hw hE hz hc hwb hq)
        · exact key (add_clash h hst hr hlo hlb hw hE hz hc)
    · exact key (add_bad h hst hr hlo hlb hw hE)
end Go.Proofs.Ytelfemhnijnhfaa.Fr

/- The plain law of FragRoom; no program in sight; no condition. -/
namespace Go.Proofs.Ytelfemhnijnhfaa.Fr
open Go.RowKit
set_option linter.unusedVariables false
set_option linter.unusedSimpArgs false

theorem Kid_inj {i j : Int} (h : Kid i = Kid j) : i = j := by simpa [Kid] using h
/-- The i-th time to live of FragRoom. -/
def tR (l : List Int) (i : Nat) : Int := if (l[i]?).getD 7 < 1 then 1 else (l[i]?).getD 7
theorem tR_bd {l : List Int} (h : ∀ x ∈ l, 0 ≤ x ∧ x < 256) (i : Nat) : 1 ≤ tR l i ∧ tR l i < 256 := by
  unfold tR
  cases hx : l[i]? with
  | none => simp
  | some x =>
    have := h x (List.mem_of_getElem? hx)
    simp only [Option.getD_some]
    split <;> omega
structure RoomSt (st : ASt) (N i : Nat) (T : Nat → Int) : Prop where
  ok : st.ok
  room : st.room = N
  life : st.life = 1099511627776
  now : st.now = 0
  began : st.began = i
  n : st.n = i
  has : ∀ j, j < i → ∃ x, st.g (Kid j) = some x ∧ x.2.until_ = T j ∧ x.2.order = j ∧ x.2.count = 8
  only : ∀ (K : K4) (x : Nat × Dg), st.g K = some x → ∃ j, j < i ∧ K = Kid (j : Nat)
theorem room_start {N : Nat} (h1 : 1 ≤ N) (h9 : N ≤ 256) (T : Nat → Int) : RoomSt ⟨N, 1099511627776, 0, 0, fun _ => none, 0⟩ N 0 T :=
  ⟨⟨by simp; omega, by simp; omega, by simp, by simp, by simp, by simp, by simp, by simp, fun K x hK hx => by cases hx⟩, rfl, rfl, rfl, rfl, rfl, fun j hj => by omega, fun K x hx => by cases hx⟩
theorem room_new {st : ASt} (hn : st.now = 0) (hl : st.life = 1099511627776) {id t : Int} (hg : st.g (Kid id) = none) (ht : 0 ≤ t ∧ t < 256) (hc : (takenD freshD (pieceP id 1 1 9 false t)).count = 8) (i : Int) :
    (newD st (pieceP id 1 1 9 false t) i).count = 8 ∧ (newD st (pieceP id 1 1 9 false t) i).until_ = (if t < 1 then 1 else t) ∧ (newD st (pieceP id 1 1 9 false t) i).order = st.began := by
  have hk : keyP (pieceP id 1 1 9 false t) = Kid id := rfl
  have hold : oldD st (keyP (pieceP id 1 1 9 false t)) = freshD := by unfold oldD; rw [hk, hg]
  unfold newD
  rw [hold, hk, hg]
  refine ⟨hc, ?_, rfl⟩
  show untilI st _ freshD = _
  unfold untilI afterI spanI
  dsimp only
  rw [hn, hl]
  have e : (pieceP id 1 1 9 false t).h.ttl = t := rfl
  rw [e]
  simp only [freshD]
  split <;> split <;> split <;> (try split) <;> omega
theorem room_add {st : ASt} {N i : Nat} {T : Nat → Int} (h : RoomSt st N i T) (hi : i < N) (hN : N ≤ 256) {t : Int} (ht : 1 ≤ t ∧ t < 256) (hT : T i = t) {q : Pk} {r : Int} {st' : ASt} (hA : AddRelE st (pieceP i 1 1 9 false t) q r st') :
    r = 52 ∧ RoomSt st' N (i + 1) T := by
  have hroom : (st.n : Int) < st.room := by rw [h.n, h.room]; omega
  have hg : st.g (Kid i) = none := by
    cases hg : st.g (Kid i) with
    | none => rfl
    | some x =>
      obtain ⟨j, hj, e⟩ := h.only _ x hg
      have := Kid_inj e
      omega
  rcases hA with ⟨hA, _⟩ | ⟨_, _, hf, _⟩
  · obtain ⟨hr, d, k, h3, hok, hn, _, _, hc, _⟩ := only_open h.ok hroom (id := i) (off := 1) (n := 1) (c := 9) (mf := false) (t := t) (by omega) (by omega) (by omega) (by omega) (by omega) hg hA
    obtain ⟨n1, n2, n3⟩ := room_new (t := t) h.now h.life hg (by omega) (by simpa using hc) k
    rw [if_neg (by omega)] at n2
    have hgg : st'.g = updK st.g (Kid i) (some (d, newD st (pieceP i 1 1 9 false t) k)) := by rw [h3]; rfl
    refine ⟨hr, hok, by rw [h3]; exact h.room, by rw [h3]; exact h.life, by rw [h3]; exact h.now, ?_, by rw [hn, h.n], ?_, ?_⟩
    · rw [h3]
      show (if (st.g (Kid i)).isSome then st.began else st.began + 1) = _
      rw [hg, h.began]
      simp
    · intro j hj
      rw [hgg]
      by_cases e : j = i
      · subst e
        rw [updK_same]
        exact ⟨_, rfl, by rw [hT]; exact n2, n3.trans h.began, n1⟩
      · rw [updK_other _ (fun e' => e (by have := Kid_inj e'; omega))]
        exact h.has j (by omega)
    · intro K x hx
      rw [hgg] at hx
      by_cases e : K = Kid i
      · exact ⟨i, by omega, e⟩
      · rw [updK_other _ e] at hx
        obtain ⟨j, hj, e2⟩ := h.only K x hx
        exact ⟨j, by omega, e2⟩
  · omega
/-- The first of those with the least time. -/
def FirstLeast (N : Nat) (T : Nat → Int) (m : Nat) : Prop := m < N ∧ (∀ j, j < N → T m ≤ T j) ∧ ∀ j, j < m → T m < T j
structure RoomEnd (st : ASt) (N m : Nat) (T : Nat → Int) : Prop where
  n : st.n = N
  least : FirstLeast N T m
  has : ∀ j, j < N → j ≠ m → ∃ x, st.g (Kid j) = some x ∧ x.2.until_ = T j ∧ x.2.count = 8
  last : ∃ x, st.g (Kid 60000) = some x
  only : ∀ (K : K4) (x : Nat × Dg), st.g K = some x → (∃ j, j < N ∧ j ≠ m ∧ K = Kid (j : Nat)) ∨ K = Kid 60000
theorem room_evict {st : ASt} {N : Nat} {T : Nat → Int} (h : RoomSt st N N T) (h1 : 1 ≤ N) (hN : N ≤ 256) {t : Int} (ht : 0 ≤ t ∧ t < 256) {q : Pk} {r : Int} {st' : ASt} (hA : AddRelE st (pieceP 60000 1 1 9 false t) q r st') :
    r = 52 ∧ ∃ m, RoomEnd st' N m T := by
  have hg : st.g (Kid 60000) = none := by
    cases hg : st.g (Kid 60000) with
    | none => rfl
    | some x =>
      obtain ⟨j, hj, e⟩ := h.only _ x hg
      have := Kid_inj e
      omega
  have hpe : bErr (pieceP 60000 1 1 9 false t) = 0 := mk_may (by omega) (by omega) (by omega)
  have hnz : ¬ ((pieceP 60000 1 1 9 false t).h.off = 0 ∧ (pieceP 60000 1 1 9 false t).h.mf = false) := by
    intro hh
    have := hh.1
    simp [pieceP] at this
  rcases hA with ⟨hA, hroom⟩ | ⟨hM, _, hf, hr, hq, K0, x0, hol, d, k, h3⟩
  · exfalso
    have key : More st (pieceP 60000 1 1 9 false t) := by
      refine ⟨hpe, hnz, ?_⟩
      have hold : oldD st (keyP (pieceP 60000 1 1 9 false t)) = freshD := by
        unfold oldD
        rw [show keyP (pieceP 60000 1 1 9 false t) = Kid 60000 from rfl, hg]
      rw [hold]
      have hend : endI (pieceP 60000 1 1 9 false t) = 16 := rfl
      constructor
      · unfold clashB
        rw [hend]
        simp [freshD, pieceP]
      · have hcount : (takenD freshD (pieceP 60000 1 1 9 false t)).count = 8 := by
          show (layD freshD (pieceP 60000 1 1 9 false t)).2.2 = _
          unfold layD
          rw [lay_fresh _ _ _ (fun j _ => by
            show (splice (List.replicate (takenN freshD (pieceP 60000 1 1 9 false t)) 0) 0 freshD.have_).getD j 0 = 0
            rw [pad_eq]
            simp only [freshD, List.nil_append]
            exact getD_zeros _ _)]
          simp [freshD, pieceP]
        have hlen : (takenD freshD (pieceP 60000 1 1 9 false t)).length = 16 := rfl
        unfold wholeB
        rw [hcount, hlen]
        rfl
    rcases hroom key with h4 | h4
    · rw [show keyP (pieceP 60000 1 1 9 false t) = Kid 60000 from rfl, hg] at h4; cases h4
    · rw [h.n, h.room] at h4; omega
  · obtain ⟨st1, hst1⟩ : ∃ st1, st1 = gone st K0 := ⟨_, rfl⟩
    rw [← hst1] at h3
    obtain ⟨m, hm, rfl⟩ := h.only K0 x0 hol.is
    have hg0 : st1.g = updK st.g (Kid m) none := by rw [hst1]; rfl
    have hn0 : st1.n = N - 1 := by rw [hst1]; simp [gone, hol.is, h.n]
    have hr0 : st1.room = N := by rw [hst1]; exact h.room
    have hg1 : st1.g (Kid 60000) = none := by
      rw [hg0, updK_other _ (fun e => by have := Kid_inj e; omega), hg]
    have ho1 : st1.ok := by rw [hst1]; exact gone_ok h.ok _
    have eo : oldD st (keyP (pieceP 60000 1 1 9 false t)) = oldD st1 (keyP (pieceP 60000 1 1 9 false t)) := by
      unfold oldD
      rw [show keyP (pieceP 60000 1 1 9 false t) = Kid 60000 from rfl, hg, hg1]
    have hA1 : AddRel st1 (pieceP 60000 1 1 9 false t) zeroP 52 st' := .inr (.inr ⟨hpe, hnz, .inr (.inr (.inr ⟨by rw [← eo]; exact hM.2.2.1, by rw [← eo]; exact hM.2.2.2, rfl, rfl, d, k, h3⟩))⟩)
    obtain ⟨_, d', k', h3', hok, hn, _⟩ := only_open ho1 (by rw [hn0, hr0]; omega) (id := 60000) (off := 1) (n := 1) (c := 9) (mf := false) (t := t) (by omega) (by omega) (by omega) (by omega) ht hg1 hA1
    have hgg : st'.g = updK st1.g (Kid 60000) (some (d, newD st1 (pieceP 60000 1 1 9 false t) k)) := by rw [h3]; rfl
    have hle : ∀ j, j < N → ¬ (T j < T m ∨ (T j = T m ∧ j < m)) := by
      intro j hj hh
      obtain ⟨x, hx, hu, ho, _⟩ := h.has j hj
      obtain ⟨y, hy, hu', ho', _⟩ := h.has m hm
      rw [hol.is] at hy
      cases hy
      refine hol.least (Kid j) x (Kid_wf (by omega)) hx ?_
      unfold older
      rw [hu, hu', ho, ho']
      omega
    refine ⟨hr, m, by rw [hn, hn0]; omega, ⟨hm, fun j hj => by have := hle j hj; omega, fun j hj => by have := hle j (by omega); omega⟩, ?_, ?_, ?_⟩
    · intro j hj hjm
      obtain ⟨x, hx, hu, ho, hc⟩ := h.has j hj
      refine ⟨x, ?_, hu, hc⟩
      rw [hgg, updK_other _ (fun e => by have := Kid_inj e; omega), hg0, updK_other _ (fun e => hjm (by have := Kid_inj e; omega))]
      exact hx
    · exact ⟨_, by rw [hgg, updK_same]⟩
    · intro K x hx
      rw [hgg] at hx
      by_cases e : K = Kid 60000
      · exact .inr e
      · rw [updK_other _ e, hg0] at hx
        by_cases e2 : K = Kid m
        · subst e2; rw [updK_same] at hx; cases hx
        · rw [updK_other _ e2] at hx
          obtain ⟨j, hj, e3⟩ := h.only K x hx
          exact .inl ⟨j, hj, fun e4 => e2 (by rw [e3, e4]), e3⟩
/-! ### the lists that Held tells -/
theorem klt_asymm {a b : K4} (h : klt a b) (h' : klt b a) : False := by unfold klt at *; omega
theorem klt_irrefl {a : K4} (h : klt a a) : False := klt_asymm h h
theorem sorted_same {l m : List HoE} (hl : l.Pairwise fun x y => klt x.k y.k) (hm : m.Pairwise fun x y => klt x.k y.k) (h : ∀ x, x ∈ l ↔ x ∈ m) : l = m := by
  have nd : ∀ {l : List HoE}, l.Pairwise (fun x y => klt x.k y.k) → l.Nodup := fun h => h.imp (fun hk e => by subst e; exact klt_irrefl hk)
  have hp : l.Perm m := (List.perm_ext_iff_of_nodup (nd hl) (nd hm)).2 h
  exact hp.eq_of_pairwise (le := fun x y => klt x.k y.k) (fun a b _ _ h1 h2 => (klt_asymm h1 h2).elim) hl hm
theorem klt_id {i j : Int} : klt (Kid i) (Kid j) ↔ i < j := by unfold klt Kid; simp
def eR (T : Nat → Int) (j : Nat) : HoE := ⟨Kid j, 8, T j⟩
theorem held_room {st : ASt} {N : Nat} {T : Nat → Int} (h : RoomSt st N N T) (hN : N ≤ 256) {l : List HoE} (hl : HeldL st l) : l = (List.range N).map (eR T) := by
  refine sorted_same hl.asc ?_ fun x => ?_
  · rw [List.pairwise_map]
    exact List.pairwise_lt_range.imp (fun h => klt_id.2 (by omega))
  · constructor
    · intro hx
      obtain ⟨hw, y, hy, h1, h2⟩ := hl.isIn x hx
      obtain ⟨j, hj, e⟩ := h.only _ y hy
      obtain ⟨z, hz, hu, ho, hc⟩ := h.has j hj
      rw [e, hz] at hy
      cases hy
      refine List.mem_map.2 ⟨j, List.mem_range.2 hj, ?_⟩
      obtain ⟨k, n, u⟩ := x
      dsimp only at e h1 h2
      rw [e, h1, h2, hu, hc]; rfl
    · intro hx
      obtain ⟨j, hj, rfl⟩ := List.mem_map.1 hx
      obtain ⟨z, hz, hu, ho, hc⟩ := h.has j (List.mem_range.1 hj)
      have hj' := List.mem_range.1 hj
      obtain ⟨x, hx, e⟩ := hl.all (Kid j) z (Kid_wf (by omega)) hz
      obtain ⟨hw, y, hy, h1, h2⟩ := hl.isIn x hx
      rw [e, hz] at hy
      cases hy
      obtain ⟨k, n, u⟩ := x
      dsimp only at e h1 h2
      have : eR T j = ⟨k, n, u⟩ := by unfold eR; rw [e, h1, h2, hu, hc]
      rw [this]; exact hx
theorem held_end {st : ASt} {N m : Nat} {T : Nat → Int} (h : RoomEnd st N m T) (hN : N ≤ 256) {l : List HoE} (hl : HeldL st l) : ∃ n u, l = ((List.range m).map (eR T) ++ (List.range (N - 1 - m)).map (fun k => eR T (m + 1 + k))) ++ [⟨Kid 60000, n, u⟩] := by
  obtain ⟨xl, hxl⟩ := h.last
  refine ⟨xl.2.count, xl.2.until_, sorted_same hl.asc ?_ fun x => ?_⟩
  · rw [List.pairwise_append, List.pairwise_append]
    refine ⟨⟨?_, ?_, ?_⟩, by simp, ?_⟩
    · rw [List.pairwise_map]
      exact List.pairwise_lt_range.imp (fun h => klt_id.2 (by omega))
    · rw [List.pairwise_map]
      exact List.pairwise_lt_range.imp (fun h => klt_id.2 (by omega))
    · intro a ha b hb
      obtain ⟨i, hi, rfl⟩ := List.mem_map.1 ha
      obtain ⟨j, hj, rfl⟩ := List.mem_map.1 hb
      have := List.mem_range.1 hi
      exact klt_id.2 (by omega)
    · intro a ha b hb
      simp at hb
      subst hb
      have hm := h.least.1
      rcases List.mem_append.1 ha with ha | ha
      · obtain ⟨i, hi, rfl⟩ := List.mem_map.1 ha
        have := List.mem_range.1 hi
        exact klt_id.2 (by omega)
      · obtain ⟨i, hi, rfl⟩ := List.mem_map.1 ha
        have := List.mem_range.1 hi
        exact klt_id.2 (by omega)
  · have mem : ∀ j, (eR T j ∈ (List.range m).map (eR T) ++ (List.range (N - 1 - m)).map (fun k => eR T (m + 1 + k))) ↔ (j < N ∧ j ≠ m) := by
      intro j
      have inj : ∀ a b, eR T a = eR T b → a = b := fun a b e => by
        have := congrArg HoE.k e
        have := Kid_inj this
        omega
      have hm := h.least.1
      rw [List.mem_append]
      constructor
      · rintro (h | h)
        · obtain ⟨i, hi, e⟩ := List.mem_map.1 h
          have := List.mem_range.1 hi
          have := inj _ _ e
          omega
        · obtain ⟨i, hi, e⟩ := List.mem_map.1 h
          have := List.mem_range.1 hi
          have := inj _ _ e
          omega
      · rintro ⟨h1, h2⟩
        by_cases hj : j < m
        · exact .inl (List.mem_map.2 ⟨j, List.mem_range.2 hj, rfl⟩)
        · exact .inr (List.mem_map.2 ⟨j - (m + 1), List.mem_range.2 (by omega), by rw [show m + 1 + (j - (m + 1)) = j by omega]⟩)
    constructor
    · intro hx
      obtain ⟨hw, y, hy, h1, h2⟩ := hl.isIn x hx
      rcases h.only _ y hy with ⟨j, hj, hjm, e⟩ | e
      · obtain ⟨z, hz, hu, hc⟩ := h.has j hj hjm
        rw [e, hz] at hy
        cases hy
        refine List.mem_append_left _ ?_
        have : x = eR T j := by
          obtain ⟨k, n, u⟩ := x
          dsimp only at e h1 h2
          rw [e, h1, h2, hu, hc]; rfl
        rw [this]
        exact (mem j).2 ⟨hj, hjm⟩
      · rw [e, hxl] at hy
        cases hy
        refine List.mem_append_right _ ?_
        obtain ⟨k, n, u⟩ := x
        dsimp only at e h1 h2
        rw [e, h1, h2]
        simp
    · intro hx
      have fin : ∀ (K : K4) (z : Nat × Dg), K.wf → st.g K = some z → (⟨K, z.2.count, z.2.until_⟩ : HoE) ∈ l := by
        intro K z hK hz
        obtain ⟨x, hx, e⟩ := hl.all K z hK hz
        obtain ⟨hw, y, hy, h1, h2⟩ := hl.isIn x hx
        rw [e, hz] at hy
        cases hy
        obtain ⟨k, n, u⟩ := x
        dsimp only at e h1 h2
        rw [← e, ← h1, ← h2]; exact hx
      rcases List.mem_append.1 hx with hx | hx
      · have hj : ∃ j, x = eR T j := by
          rcases List.mem_append.1 hx with h | h
          · obtain ⟨i, _, e⟩ := List.mem_map.1 h
            exact ⟨_, e.symm⟩
          · obtain ⟨i, _, e⟩ := List.mem_map.1 h
            exact ⟨_, e.symm⟩
        obtain ⟨j, rfl⟩ := hj
        obtain ⟨h1, h2⟩ := (mem j).1 hx
        obtain ⟨z, hz, hu, hc⟩ := h.has j h1 h2
        have := fin (Kid j) z (Kid_wf (by omega)) hz
        rw [hu, hc] at this
        exact this
      · simp at hx
        subst hx
        exact fin (Kid 60000) xl (Kid_wf (by omega)) hxl
/-- Of the list behind: its places. -/
theorem end_get {N m : Nat} {T : Nat → Int} {n u : Int} (hm : m < N) : let l := ((List.range m).map (eR T) ++ (List.range (N - 1 - m)).map (fun k => eR T (m + 1 + k))) ++ [(⟨Kid 60000, n, u⟩ : HoE)]
    l.length = N ∧ (∀ j, j < N - 1 → l[j]? = some (eR T (if j < m then j else j + 1))) ∧ l[N - 1]? = some ⟨Kid 60000, n, u⟩ := by
  intro l
  have hl : l.length = N := by simp [l]; omega
  refine ⟨hl, fun j hj => ?_, ?_⟩
  · have h1 : j < ((List.range m).map (eR T) ++ (List.range (N - 1 - m)).map (fun k => eR T (m + 1 + k))).length := by simp; omega
    show (((List.range m).map (eR T) ++ (List.range (N - 1 - m)).map (fun k => eR T (m + 1 + k))) ++ [(⟨Kid 60000, n, u⟩ : HoE)])[j]? = _
    rw [List.getElem?_append_left h1]
    by_cases hj : j < m
    · rw [List.getElem?_append_left (by simp; exact hj), if_pos hj]
      simp [hj]
    · rw [List.getElem?_append_right (by simp; omega), if_neg hj]
      simp only [List.length_map, List.length_range]
      rw [List.getElem?_map, List.getElem?_range (by omega)]
      simp only [Option.map_some]
      rw [show m + 1 + (j - m) = j + 1 by omega]
  · show (((List.range m).map (eR T) ++ (List.range (N - 1 - m)).map (fun k => eR T (m + 1 + k))) ++ [(⟨Kid 60000, n, u⟩ : HoE)])[N - 1]? = _
    rw [List.getElem?_append_right (by simp; omega)]
    simp
    rw [show N - 1 - (m + (N - 1 - m)) = 0 by omega]
    rfl
end Go.Proofs.Ytelfemhnijnhfaa.Fr

/- The walk of FragRoom; no condition. -/
namespace Go.Proofs.Ytelfemhnijnhfaa.Fr
open Go.RowKit Go.Maps
set_option linter.unusedVariables false
set_option linter.unusedSimpArgs false
set_option maxRecDepth 100000
attribute [local go_sem] nilB

theorem ho_ne (a b c d e f d' e' f' : Int) (h : d ≠ d') (w : World) :
    (binOp .eql 69 (.agg #[.int .u32 a, .int .u32 b, .int .u8 c, .int .u16 d, .int .i64 e, .int .i64 f]) (.agg #[.int .u32 a, .int .u32 b, .int .u8 c, .int .u16 d', .int .i64 e', .int .i64 f'])).run Try.prog w = .ok (.bool false) w := by
  rw [run_eql_struct, show (10000 : Nat) = 9999 + 1 from rfl, run_equalIn_agg w 9999 69 _ _ (by kernel_rfl) stoodHo]
  have h3 := Try.underlying3
  have h2 := Try.underlying2
  have h5 := Try.underlying5
  have h23 := Try.underlying23
  have h30 := Try.underlying25
  have hb : (d == d') = false := by rw [beq_eq_false_iff_ne]; exact h
  simp [Program.fieldsOf, Try.underlying69, Op.eqFields, go_sem, h, hb]
theorem row6 {w : World} {g : Nat} {l : List HoE} (hx : ∀ (i : Nat) (x : Value), (SK.flatL encH l)[i]? = some x → w.cell? ⟨g, i, none⟩ = some x) {j : Nat} {a b c d e f : Int} (h : l[j]? = some ⟨⟨a, b, c, d⟩, e, f⟩) :
    w.cell? ⟨g, j * 6, none⟩ = some (.int .u32 a) ∧ w.cell? ⟨g, j * 6 + 1, none⟩ = some (.int .u32 b) ∧ w.cell? ⟨g, j * 6 + 2, none⟩ = some (.int .u8 c) ∧ w.cell? ⟨g, j * 6 + 3, none⟩ = some (.int .u16 d) ∧ w.cell? ⟨g, j * 6 + 4, none⟩ = some (.int .i64 e) ∧ w.cell? ⟨g, j * 6 + 5, none⟩ = some (.int .i64 f) := by
  have k := fun c hc => SK.flatL_get encH 6 encH_len l j c _ h hc
  exact ⟨hx _ _ (k 0 (by omega)), hx _ _ (k 1 (by omega)), hx _ _ (k 2 (by omega)), hx _ _ (k 3 (by omega)), hx _ _ (k 4 (by omega)), hx _ _ (k 5 (by omega))⟩
theorem range_get {T : Nat → Int} {N j : Nat} (h : j < N) : ((List.range N).map (eR T))[j]? = some ⟨⟨1, 2, 17, j⟩, 8, T j⟩ := by
  simp [h, eR, Kid]
set_option maxHeartbeats 8000000 in
theorem room_calls {w : World} {V1 : Value} {l1 : List Int} (h1 : RdB w V1 l1) (hlen : l1.length ≤ 140737488355328) (room0 : Int) (hb1 : -9223372036854775808 ≤ room0) (hb2 : room0 ≤ 9223372036854775807) (more : Int) (hm0 : 0 ≤ more) (hm9 : more < 256) :
    Calls Try.prog 7 #[.int .i64 room0, V1, .int .u8 more] w fun e w' => e = .returned (.bool true) ∧ Touch [] w w' := by
  obtain ⟨A, cap, rfl⟩ := h1.len_lt
  have H1 := Lib.hid h1
  have HB := Lib.hid h1.wf
  clear h1
  go_enter Try.func7, Try.ntmps7
  obtain ⟨bn, hbn⟩ : ∃ bn : Bool, bn = (decide (room0 < 1) || decide (256 < room0)) := ⟨_, rfl⟩
  have HBN := Lib.hid hbn
  clear hbn
  go_upto_region 1 with (fail)
  go_cut [26] from 21 to 26 (fun v wq => v = .bool bn ∧ Hid (wq = w))
  case first =>
    by_cases c1 : room0 < 1
    · have e0 : Hid (bn = true) := Lib.hid (by rw [HBN.out, decide_eq_true c1]; rfl)
      go_wp2
      go_meet
      case rel => exact ⟨by rw [e0.out], Lib.hid rfl⟩
    · by_cases c2 : 256 < room0
      · have e0 : Hid (bn = true) := Lib.hid (by rw [HBN.out, decide_eq_true c2]; simp)
        go_wp2
        go_meet
        case rel => exact ⟨by rw [e0.out], Lib.hid rfl⟩
      · have e0 : Hid (bn = false) := Lib.hid (by rw [HBN.out, decide_eq_false c1, decide_eq_false c2]; rfl)
        go_wp2
        go_meet
        case rel => exact ⟨by rw [e0.out], Lib.hid rfl⟩
  case rest =>
  obtain ⟨rfl, hwq⟩ := hcut
  rw [hwq.out]
  clear hwq
  go_upto_if 26 with (fail)
  go_cut [0] from 21 to 26 (fun v wq => ∃ N : Nat, v = .int .i64 N ∧ 1 ≤ N ∧ N ≤ 256 ∧ Hid (wq = w))
  case first =>
    cases hc : bn
    · have e1 : 1 ≤ room0 ∧ room0 ≤ 256 := by
        have h1 := HBN.out
        rw [hc] at h1
        have h2 := h1.symm
        rw [Bool.or_eq_false_iff, decide_eq_false_iff_not, decide_eq_false_iff_not] at h2
        omega
      obtain ⟨N, rfl⟩ : ∃ N : Nat, room0 = N := ⟨room0.toNat, by omega⟩
      have E1 := Lib.hid e1
      clear e1 hc
      go_wp2
      go_meet
      case rel => exact ⟨N, rfl, by have := E1.out; omega, by have := E1.out; omega, Lib.hid rfl⟩
    · clear hc
      go_wp2
      go_meet
      case rel => exact ⟨3, rfl, by omega, by omega, Lib.hid rfl⟩
  case rest =>
  obtain ⟨N, rfl, hN1, hN9, hwq⟩ := hcut
  rw [hwq.out]
  clear hwq HBN hb1 hb2
  go_wp2_with fail
  refine (fnew_calls _ N 1099511627776 (by omega) (by omega) (by omega) (by omega)).mono ?_
  rintro e w1 ⟨a, S, rfl, hA, t1, hS⟩
  have F1 : Hid (ESt w w1 a S ⟨N, 1099511627776, 0, 0, fun _ => none, 0⟩) := Lib.hid ⟨hA, hS, t1⟩
  clear hA t1 hS
  go_wp2_with fail
  go_loopg [9, 10] N (fun kq v9 v10 wr => ∃ (i : Nat) (lst : Int) (S : List Nat) (st : ASt), v9 = .int .i64 lst ∧ v10 = .int .i64 i ∧ i ≤ N ∧ N - i ≤ kq ∧ Hid (ESt w wr a S st) ∧ Hid (RoomSt st N i (tR l1)) ∧ Hid (i = 0 ∨ ((∀ j, j < i → lst ≤ tR l1 j) ∧ ∃ j, j < i ∧ tR l1 j = lst)))
  case atStart => exact ⟨0, 0, S, _, rfl, rfl, by omega, by omega, F1, Lib.hid (room_start hN1 hN9 _), Lib.hid (.inl rfl)⟩
  case round =>
    obtain ⟨i, lst, S, st, rfl, rfl, hi, hik, hF, hR, hL⟩ := hrel
    by_cases hin : i < N
    · have li : (i : Int) < (N : Int) := by omega
      obtain ⟨y, hy⟩ : ∃ y : Int, y = (l1[i]?).getD 7 := ⟨_, rfl⟩
      have HY := Lib.hid hy
      have hyb : 0 ≤ y ∧ y < 256 := by
        rw [hy]
        cases hx : l1[i]? with
        | none => simp
        | some x => simpa using HB.out x (List.mem_of_getElem? hx)
      have HYB := Lib.hid hyb
      clear hy hyb
      go_upto_if 46 with (fail)
      go_cut [11] from 43 to 51 (fun v wq => v = .int .i64 y ∧ Hid (wq = wr))
      case first =>
        by_cases c1 : i < l1.length
        · have c2 : (i : Int) < (l1.length : Int) := by omega
          obtain ⟨z, hz⟩ : ∃ z, l1[i]? = some z := ⟨_, List.getElem?_eq_getElem c1⟩
          obtain ⟨hne, hbt, b2, o2, hB, hcell⟩ := H1.out.at_ (by omega)
          subst hB
          have kz := cell_touch hF.out.touch (hcell i z hz) (by simp)
          have e0 : Hid (y = z) := Lib.hid (by rw [HY.out, hz]; rfl)
          have zb := hbt z (List.mem_of_getElem? hz)
          obtain ⟨zb0, zb1⟩ := zb
          clear hcell hbt hz hne
          go_wp2
          go_meet
          case rel => exact ⟨by rw [e0.out], Lib.hid rfl⟩
        · have c2 : ¬ (i : Int) < (l1.length : Int) := by omega
          have e0 : Hid (y = 7) := Lib.hid (by rw [HY.out, List.getElem?_eq_none (by omega)]; rfl)
          go_wp2
          go_meet
          case rel => exact ⟨by rw [e0.out], Lib.hid rfl⟩
      case rest =>
      obtain ⟨rfl, hwq⟩ := hcut
      rw [hwq.out]
      clear hwq
      obtain ⟨t, ht⟩ : ∃ t : Int, t = tR l1 i := ⟨_, rfl⟩
      have HT : Hid (t = if y < 1 then 1 else y) := Lib.hid (by rw [ht, HY.out]; rfl)
      have HTR := Lib.hid ht
      have htb : 1 ≤ t ∧ t < 256 := by rw [ht]; exact tR_bd HB.out i
      obtain ⟨ht1, ht9⟩ := htb
      clear ht HY
      go_upto_if 53 with (fail)
      go_cut [11] from 52 to 53 (fun v wq => v = .int .i64 t ∧ Hid (wq = wr))
      case first =>
        by_cases c1 : y < 1
        · have e0 : Hid (t = 1) := Lib.hid (by rw [HT.out, if_pos c1])
          go_wp2
          go_meet
          case rel => exact ⟨by rw [e0.out], Lib.hid rfl⟩
        · have e0 : Hid (t = y) := Lib.hid (by rw [HT.out, if_neg c1])
          go_wp2
          go_meet
          case rel => exact ⟨by rw [e0.out], Lib.hid rfl⟩
      case rest =>
      obtain ⟨rfl, hwq⟩ := hcut
      rw [hwq.out]
      clear hwq HT
      obtain ⟨l', hl'⟩ : ∃ l' : Int, l' = if i = 0 ∨ t < lst then t else lst := ⟨_, rfl⟩
      have HL' := Lib.hid hl'
      clear hl'
      obtain ⟨tb, htb⟩ : ∃ tb : Bool, tb = decide (i = 0 ∨ t < lst) := ⟨_, rfl⟩
      have HTB := Lib.hid htb
      clear htb
      go_upto_region 15 with (fail)
      go_cut [60] from 54 to 60 (fun v wq => v = .bool tb ∧ Hid (wq = wr))
      case first =>
        by_cases c1 : i = 0
        · have e0 : Hid (tb = true) := Lib.hid (by rw [HTB.out]; exact decide_eq_true (.inl c1))
          subst c1
          go_wp2
          go_meet
          case rel => exact ⟨by rw [e0.out], Lib.hid rfl⟩
        · have ci : ((i : Int) == 0) = false := by rw [beq_eq_false_iff_ne]; omega
          by_cases c2 : t < lst
          · have e0 : Hid (tb = true) := Lib.hid (by rw [HTB.out]; exact decide_eq_true (.inr c2))
            clear c1
            go_wp2
            go_meet
            case rel => exact ⟨by rw [e0.out], Lib.hid rfl⟩
          · have e0 : Hid (tb = false) := Lib.hid (by rw [HTB.out]; exact decide_eq_false (by omega))
            clear c1
            go_wp2
            go_meet
            case rel => exact ⟨by rw [e0.out], Lib.hid rfl⟩
      case rest =>
      obtain ⟨rfl, hwq⟩ := hcut
      rw [hwq.out]
      clear hwq
      go_upto_if 60 with (fail)
      go_cut [9] from 54 to 62 (fun v wq => v = .int .i64 l' ∧ Hid (wq = wr))
      case first =>
        cases hc : tb
        · have e0 : Hid (l' = lst) := Lib.hid (by rw [HL'.out, if_neg (by have := HTB.out; rw [hc] at this; exact of_decide_eq_false this.symm)])
          clear hc
          go_wp2
          go_meet
          case rel => exact ⟨by rw [e0.out], Lib.hid rfl⟩
        · have e0 : Hid (l' = t) := Lib.hid (by rw [HL'.out, if_pos (by have := HTB.out; rw [hc] at this; exact of_decide_eq_true this.symm)])
          clear hc
          go_wp2
          go_meet
          case rel => exact ⟨by rw [e0.out], Lib.hid rfl⟩
      case rest =>
      obtain ⟨rfl, hwq⟩ := hcut
      rw [hwq.out]
      clear hwq HTB
      have HLL : Hid (i + 1 = 0 ∨ ((∀ j, j < i + 1 → l' ≤ tR l1 j) ∧ ∃ j, j < i + 1 ∧ tR l1 j = l')) := Lib.hid (.inr (by
        rcases hL.out with h0 | ⟨h1, j0, hj0, he0⟩
        · have e : l' = t := by rw [HL'.out, if_pos (.inl h0)]
          exact ⟨fun j hj => by rw [show j = i by omega, e, HTR.out]; omega, i, by omega, by rw [e, HTR.out]⟩
        · by_cases c : t < lst
          · have e : l' = t := by rw [HL'.out, if_pos (.inr c)]
            refine ⟨fun j hj => ?_, i, by omega, by rw [e, HTR.out]⟩
            by_cases hji : j = i
            · rw [hji, e, HTR.out]; omega
            · have := h1 j (by omega); omega
          · have e : l' = lst := by rw [HL'.out, if_neg (by omega)]
            refine ⟨fun j hj => ?_, j0, by omega, by rw [e, he0]⟩
            by_cases hji : j = i
            · rw [hji, e, ← HTR.out]; omega
            · have := h1 j (by omega); omega))
      clear HL' hL
      have hi16 : (i : Int) < 65536 := by omega
      go_wp2_with fail
      refine (mk_calls _ i 1 1 9 false t (by omega) (by omega) (by omega) (by omega)).mono ?_
      rintro e w2 ⟨V2, rfl, o2, _, t2⟩
      have O2 := Lib.hid o2
      have F2 := Lib.hid (hF.out.near t2)
      clear o2 t2 hF
      have MW : Hid ((pieceP i 1 1 9 false t).h.wf) := Lib.hid (mk_wf (by omega) (by omega) (by omega) (by omega))
      have NE : Hid (st.room ≤ (st.n : Int) → ∃ (K : K4) (y : Nat × Dg), K.wf ∧ st.g K = some y) := Lib.hid (fun h => by rw [hR.out.room, hR.out.n] at h; omega)
      have BG : Hid (st.began < 4611686018427387904) := Lib.hid (by have := hR.out.began; omega)
      go_wp2_with fail
      refine (addE_calls (p := pieceP i 1 1 9 false t) F2.out.asm hR.out.ok (fun w' t => ⟨(OwB.nil w').rdb, (O2.out.kind t F2.out.asm.kinds).rdb⟩) (by simp [pieceP]) (by simp [pieceP]) MW.out NE.out BG.out).mono ?_
      rintro e w3 ⟨q, r, st3, S3, ⟨VR, VR', rfl, oR, oR', _, _⟩, hA3, t3, hs3, hR3⟩
      obtain ⟨rfl, hE3⟩ := room_add hR.out hin hN9 ⟨ht1, ht9⟩ HTR.out.symm hR3
      have E3 := Lib.hid hE3
      have F3 := Lib.hid (F2.out.add hA3 t3 hs3)
      obtain ⟨AR, cR, rfl⟩ := oR.row.form
      obtain ⟨AR', cR', rfl⟩ := oR'.row.form
      obtain ⟨⟨qt, qi, qd, qm, qf, ql, qp, qs, qe⟩, qo, qb⟩ := q
      clear oR oR' hA3 t3 hs3 hR3 hE3 hR F2 O2 MW NE BG
      go_upto_region 18 with (fail)
      obtain ⟨W4, hW4⟩ : ∃ W : World, W = w3.alloc (.cells (pkC ⟨qt, qi, qd, qm, qf, ql, qp, qs, qe⟩ (.slice AR qo.length cR) (.slice AR' qb.length cR')) 30) := ⟨_, rfl⟩
      rw [← hW4]
      have F4 : Hid (ESt w W4 a S3 st3) := Lib.hid (F3.out.near (by rw [hW4]; exact (Touch.refl [] w3).alloc _))
      clear hW4 F3
      go_wp2_with fail
      go_roundg (gk - 1)
      case rel => exact ⟨i + 1, l', S3, st3, rfl, by go_num, by omega, by omega, F4, E3, HLL⟩
      case measure => omega
    · have hiN : i = N := by omega
      subst hiN
      have li : ¬ (i : Int) < (i : Int) := by omega
      have hi9 : (i : Int) ≤ 256 := by omega
      have hi1 : (1 : Int) ≤ (i : Int) := by omega
      have LT0 := Lib.hid hF.out.asm.lt
      go_wp2_with fail
      refine (heldall_calls hF.out.asm (by rw [hR.out.n]; omega)).mono ?_
      rintro e w2 ⟨L1, A1, c1, n1, rfl, hlen1, hv1, t2, hf1, hl1⟩
      have e1 := held_room hR.out hN9 hl1
      have en : n1 = i := by rw [← hlen1, e1]; simp
      subst e1 en
      have NS : Hid (∀ k, (Value.slice A1 n1 c1).ownBlock = some k → k ∉ S) := Lib.hid (fun k hk hm => by
        have h1 := LT0.out k hm
        have h2 := hf1 k hk
        omega)
      have V1 := Lib.hid hv1
      have F2 := Lib.hid (hF.out.near t2)
      clear hlen1 hv1 t2 hf1 hl1 hF LT0
      go_wp2_with fail
      refine (mk_calls _ 60000 1 1 9 false more (by omega) (by omega) (by omega) (by omega)).mono ?_
      rintro e w3 ⟨V2, rfl, o2, _, t3⟩
      have O3 := Lib.hid o2
      have F3 := Lib.hid (F2.out.near t3)
      have V3 := Lib.hid (V1.out.kept t3 (by simp))
      clear o2 t3 F2 V1
      have MW : Hid ((pieceP 60000 1 1 9 false more).h.wf) := Lib.hid (mk_wf (by omega) (by omega) (by omega) ⟨hm0, hm9⟩)
      have NE : Hid (st.room ≤ (st.n : Int) → ∃ (K : K4) (y : Nat × Dg), K.wf ∧ st.g K = some y) := Lib.hid (fun h => by
        obtain ⟨x, hx, _⟩ := hR.out.has 0 (by omega)
        exact ⟨_, x, Kid_wf (by omega), hx⟩)
      have BG : Hid (st.began < 4611686018427387904) := Lib.hid (by have := hR.out.began; omega)
      go_wp2_with fail
      refine (addE_calls (p := pieceP 60000 1 1 9 false more) F3.out.asm hR.out.ok (fun w' t => ⟨(OwB.nil w').rdb, (O3.out.kind t F3.out.asm.kinds).rdb⟩) (by simp [pieceP]) (by simp [pieceP]) MW.out NE.out BG.out).mono ?_
      rintro e w4 ⟨q, r, st4, S4, ⟨VR, VR', rfl, oR, oR', _, _⟩, hA4, t4, hs4, hR4⟩
      obtain ⟨rfl, m, hE4⟩ := room_evict hR.out hN1 hN9 ⟨hm0, hm9⟩ hR4
      have E4 := Lib.hid hE4
      have F4 := Lib.hid (F3.out.add hA4 t4 hs4)
      have V4 := Lib.hid (V3.out.kept t4 NS.out)
      obtain ⟨AR, cR, rfl⟩ := oR.row.form
      obtain ⟨AR', cR', rfl⟩ := oR'.row.form
      obtain ⟨⟨qt, qi, qd, qm, qf, ql, qp, qs, qe⟩, qo, qb⟩ := q
      clear oR oR' hA4 t4 hs4 hR4 hE4 F3 O3 V3 MW NE BG NS
      go_upto_region 22 with (fail)
      obtain ⟨W5, hW5⟩ : ∃ W : World, W = w4.alloc (.cells (pkC ⟨qt, qi, qd, qm, qf, ql, qp, qs, qe⟩ (.slice AR qo.length cR) (.slice AR' qb.length cR')) 30) := ⟨_, rfl⟩
      rw [← hW5]
      have t5 : Touch [] w4 W5 := by rw [hW5]; exact (Touch.refl [] w4).alloc _
      have F5 : Hid (ESt w W5 a S4 st4) := Lib.hid (F4.out.near t5)
      have V5 := Lib.hid (V4.out.kept t5 (by simp))
      clear hW5 F4 V4 t5
      go_wp2_with fail
      refine (heldall_calls F5.out.asm (by rw [E4.out.n]; omega)).mono ?_
      rintro e w6 ⟨L2, A2, c2, n2, rfl, hlen2, hv2, t6, hf2, hl2⟩
      obtain ⟨xn, xu, e2⟩ := held_end E4.out hN9 hl2
      obtain ⟨hg0, hg1, hg2⟩ := end_get (T := tR l1) (n := xn) (u := xu) E4.out.least.1
      rw [← e2] at hg0 hg1 hg2
      have en2 : n2 = n1 := by rw [← hlen2, hg0]
      subst en2
      have T6 := Lib.hid (F5.out.near t6).touch
      have V6 := Lib.hid (V5.out.kept t6 (by simp))
      have U6 := Lib.hid hv2
      have HLST : Hid ((∀ j, j < n2 → lst ≤ tR l1 j) ∧ ∃ j, j < n2 ∧ tR l1 j = lst) := Lib.hid (by
        rcases hL.out with h | h
        · omega
        · exact h)
      have HMIN : Hid (m < n2 ∧ tR l1 m = lst ∧ (∀ j, j < m → lst < tR l1 j)) := Lib.hid (by
        obtain ⟨f1, f2, f3⟩ := E4.out.least
        obtain ⟨g1, j0, g2, g3⟩ := HLST.out
        have h1 := g1 m f1
        have h2 := f2 j0 g2
        refine ⟨f1, by omega, fun j hj => ?_⟩
        have := f3 j hj
        omega)
      obtain ⟨gB, cB, eB, _, hB⟩ := V6.out.at_ (by omega)
      obtain ⟨gA, cA, eA, _, hA⟩ := U6.out.at_ (by omega)
      simp only [Value.slice.injEq] at eA eB
      obtain ⟨rfl, -, rfl⟩ := eA
      obtain ⟨rfl, -, rfl⟩ := eB
      clear hL hR hlen2 hv2 t6 hf2 hl2 V5 F5 E4 HLST
      obtain ⟨M, rfl⟩ : ∃ M, n2 = M + 1 := ⟨n2 - 1, by omega⟩
      have HB6 := Lib.hid hB
      have HA6 := Lib.hid hA
      have q0 := HA6.out (M * 6 + 3) (.int .u16 60000) (by rw [SK.flatL_get encH 6 encH_len L2 M 3 _ hg2 (by omega)]; rfl)
      have G1 := Lib.hid hg1
      clear hB hA hg1 hg2 hg0
      go_wp2_with fail
      clear q0
      go_loopg [18, 19] (M + 1) (fun kq v18 v19 wr => ∃ (i : Nat) (gn : Int), v18 = .int .i64 gn ∧ v19 = .int .i64 i ∧ i ≤ M + 1 ∧ M + 1 - i ≤ kq ∧ 0 ≤ gn ∧ gn ≤ 1 ∧ Hid (gn = if i ≤ m then 0 else 1) ∧ Hid (Touch [] w6 wr))
      case atStart => exact ⟨0, 0, rfl, rfl, by omega, by omega, by omega, by omega, Lib.hid rfl, Lib.hid (Touch.refl _ _)⟩
      case round =>
        obtain ⟨i, gn, rfl, rfl, hi, hik, hg0, hg1, hG, hT⟩ := hrel
        by_cases hin : i < M + 1
        · have li : (i : Int) < (M : Int) + 1 := by omega
          obtain ⟨tb, htb⟩ : ∃ tb : Bool, tb = decide (i ≠ m) := ⟨_, rfl⟩
          have HTB := Lib.hid htb
          obtain ⟨ti, hti⟩ : ∃ ti : Int, ti = tR l1 i := ⟨_, rfl⟩
          have HTI := Lib.hid hti
          have LB : Hid (((List.range (M + 1)).map (eR (tR l1)))[i]? = some ⟨⟨1, 2, 17, i⟩, 8, ti⟩) := Lib.hid (by rw [hti]; exact range_get hin)
          clear htb hti
          go_upto_region 29 with (fail)
          go_cut [131] from 113 to 131 (fun v wq => v = .bool tb ∧ Hid (Touch [] wr wq))
          case first =>
            obtain ⟨b0, b1, b2, b3, b4, b5⟩ := row6 HB6.out LB.out
            have n0 := fun u : Near wr => u.cell (cell_touch hT.out b0 (by simp))
            have n1 := fun u : Near wr => u.cell (cell_touch hT.out b1 (by simp))
            have n2 := fun u : Near wr => u.cell (cell_touch hT.out b2 (by simp))
            have n3 := fun u : Near wr => u.cell (cell_touch hT.out b3 (by simp))
            have n4 := fun u : Near wr => u.cell (cell_touch hT.out b4 (by simp))
            have n5 := fun u : Near wr => u.cell (cell_touch hT.out b5 (by simp))
            have hgt := guardHo
            clear b0 b1 b2 b3 b4 b5
            by_cases him : i < m
            · have e0 : Hid (tb = true) := Lib.hid (by rw [HTB.out]; exact decide_eq_true (by omega))
              have hgn : gn = 0 := by rw [hG.out, if_pos (by omega)]
              subst hgn
              have lm : (i : Int) < (M : Int) := by have := HMIN.out.1; omega
              have LA : Hid (L2[i]? = some ⟨⟨1, 2, 17, i⟩, 8, ti⟩) := Lib.hid (by
                have h1 := G1.out i (by have := HMIN.out.1; omega)
                rw [if_pos him] at h1
                rw [h1, HTI.out]; rfl)
              obtain ⟨b0, b1, b2, b3, b4, b5⟩ := row6 HA6.out LA.out
              have m0 := fun u : Near wr => u.cell (cell_touch hT.out b0 (by simp))
              have m1 := fun u : Near wr => u.cell (cell_touch hT.out b1 (by simp))
              have m2 := fun u : Near wr => u.cell (cell_touch hT.out b2 (by simp))
              have m3 := fun u : Near wr => u.cell (cell_touch hT.out b3 (by simp))
              have m4 := fun u : Near wr => u.cell (cell_touch hT.out b4 (by simp))
              have m5 := fun u : Near wr => u.cell (cell_touch hT.out b5 (by simp))
              have heq := fun w => ho_eql 1 2 17 i 8 ti w
              clear b0 b1 b2 b3 b4 b5 him
              refine wp_region_near (by kernel_rfl) (by kernel_rfl) ?_
              repeat (go_big_quiet_step (fail))
              refine wpQuiet_nil ?_
              rintro _ ⟨u, rfl⟩
              have TX := Lib.hid u.near
              clear n0 n1 n2 n3 n4 n5 m0 m1 m2 m3 m4 m5 heq hgt
              go_wp2
              go_meet
              case rel => exact ⟨by rw [e0.out], TX⟩
            · by_cases hie : i = m
              · have e0 : Hid (tb = false) := Lib.hid (by rw [HTB.out]; exact decide_eq_false (by omega))
                have hgn : gn = 0 := by rw [hG.out, if_pos (by omega)]
                subst hgn
                by_cases hmM : i < M
                · have lm : (i : Int) < (M : Int) := by omega
                  have LA : Hid (L2[i]? = some ⟨⟨1, 2, 17, ((i + 1 : Nat) : Int)⟩, 8, tR l1 (i + 1)⟩) := Lib.hid (by
                    have h1 := G1.out i (by omega)
                    rw [if_neg him] at h1
                    rw [h1]; rfl)
                  obtain ⟨b0, b1, b2, b3, b4, b5⟩ := row6 HA6.out LA.out
                  obtain ⟨tj, htj⟩ : ∃ tj : Int, tj = tR l1 (i + 1) := ⟨_, rfl⟩
                  obtain ⟨ij, hij⟩ : ∃ ij : Int, ij = ((i + 1 : Nat) : Int) := ⟨_, rfl⟩
                  rw [← htj] at b5
                  rw [← hij] at b3
                  have hne : ij ≠ (i : Int) := by omega
                  have m0 := fun u : Near wr => u.cell (cell_touch hT.out b0 (by simp))
                  have m1 := fun u : Near wr => u.cell (cell_touch hT.out b1 (by simp))
                  have m2 := fun u : Near wr => u.cell (cell_touch hT.out b2 (by simp))
                  have m3 := fun u : Near wr => u.cell (cell_touch hT.out b3 (by simp))
                  have m4 := fun u : Near wr => u.cell (cell_touch hT.out b4 (by simp))
                  have m5 := fun u : Near wr => u.cell (cell_touch hT.out b5 (by simp))
                  have heq := fun w => ho_ne 1 2 17 ij 8 tj i 8 ti hne w
                  clear b0 b1 b2 b3 b4 b5 him hie htj hij hne hmM
                  refine wp_region_near (by kernel_rfl) (by kernel_rfl) ?_
                  repeat (go_big_quiet_step (fail))
                  refine wpQuiet_nil ?_
                  rintro _ ⟨u, rfl⟩
                  have TX := Lib.hid u.near
                  clear n0 n1 n2 n3 n4 n5 m0 m1 m2 m3 m4 m5 heq hgt
                  go_wp2
                  go_meet
                  case rel => exact ⟨by rw [e0.out], TX⟩
                · have lm : ¬ (i : Int) < (M : Int) := by omega
                  have ld : decide ((i : Int) < (M : Int)) = false := decide_eq_false lm
                  have ld' : decide (i < M) = false := decide_eq_false hmM
                  clear hmM hie him lm hgt
                  refine wp_region_near (by kernel_rfl) (by kernel_rfl) ?_
                  repeat (go_big_quiet_step (fail))
                  refine wpQuiet_nil ?_
                  rintro _ ⟨u, rfl⟩
                  have TX := Lib.hid u.near
                  clear n0 n1 n2 n3 n4 n5
                  go_wp2
                  go_meet
                  case rel => exact ⟨by rw [e0.out], TX⟩
              · have e0 : Hid (tb = true) := Lib.hid (by rw [HTB.out]; exact decide_eq_true hie)
                have hgn : gn = 1 := by rw [hG.out, if_neg (by omega)]
                subst hgn
                obtain ⟨k, rfl⟩ : ∃ k, i = k + 1 := ⟨i - 1, by omega⟩
                have lm : (k : Int) < (M : Int) := by omega
                have LA : Hid (L2[k]? = some ⟨⟨1, 2, 17, ((k + 1 : Nat) : Int)⟩, 8, ti⟩) := Lib.hid (by
                  have h1 := G1.out k (by omega)
                  rw [if_neg (by omega)] at h1
                  rw [h1, HTI.out]; rfl)
                obtain ⟨b0, b1, b2, b3, b4, b5⟩ := row6 HA6.out LA.out
                have hc : ((k + 1 : Nat) : Int) = (k : Int) + 1 := by omega
                rw [hc] at b3 n3
                have m0 := fun u : Near wr => u.cell (cell_touch hT.out b0 (by simp))
                have m1 := fun u : Near wr => u.cell (cell_touch hT.out b1 (by simp))
                have m2 := fun u : Near wr => u.cell (cell_touch hT.out b2 (by simp))
                have m3 := fun u : Near wr => u.cell (cell_touch hT.out b3 (by simp))
                have m4 := fun u : Near wr => u.cell (cell_touch hT.out b4 (by simp))
                have m5 := fun u : Near wr => u.cell (cell_touch hT.out b5 (by simp))
                have heq := fun w => ho_eql 1 2 17 ((k : Int) + 1) 8 ti w
                clear b0 b1 b2 b3 b4 b5 him hie hc
                refine wp_region_near (by kernel_rfl) (by kernel_rfl) ?_
                repeat (go_big_quiet_step (fail))
                refine wpQuiet_nil ?_
                rintro _ ⟨u, rfl⟩
                have TX := Lib.hid u.near
                clear n0 n1 n2 n3 n4 n5 m0 m1 m2 m3 m4 m5 heq hgt
                go_wp2
                go_meet
                case rel => exact ⟨by rw [e0.out], TX⟩
          case rest =>
          obtain ⟨rfl, hTq⟩ := hcut
          obtain ⟨W7, hw7⟩ : ∃ W7, W7 = wc := ⟨_, rfl⟩
          rw [← hw7] at hTq ⊢
          have T7 := Lib.hid (hT.out.trans hTq.out (by simp))
          clear hw7 hTq hT
          cases hc : tb
          · have him : i = m := by
              have h1 := HTB.out
              rw [hc] at h1
              have h2 := of_decide_eq_false h1.symm
              omega
            have hgn : gn = 0 := by rw [hG.out, if_pos (by omega)]
            subst hgn
            have HIM := Lib.hid him
            have e5 : Hid (ti = lst) := Lib.hid (by rw [HTI.out, HIM.out]; exact HMIN.out.2.1)
            obtain ⟨b0, b1, b2, b3, b4, b5⟩ := row6 HB6.out LB.out
            have kb := cell_touch T7.out b5 (by simp)
            have kq : (ti != lst) = false := by rw [e5.out]; simp
            clear b0 b1 b2 b3 b4 b5 hc him
            obtain ⟨wo, hwo⟩ : ∃ wo : World, wo = W7 := ⟨_, rfl⟩
            go_wp2_with fail
            clear kb kq hwo
            have li2 : i < M + 1 := hin
            go_loopg [20] i (fun kq v20 wr => ∃ j : Nat, v20 = .int .i64 j ∧ j ≤ i ∧ i - j ≤ kq ∧ Hid (wr = W7))
            case atStart => exact ⟨0, rfl, by omega, by omega, Lib.hid rfl⟩
            case round =>
              obtain ⟨j, rfl, hj, hjk, hwr⟩ := hrel
              obtain rfl := hwr.out
              clear hwr
              by_cases hji : j < i
              · have lj : (j : Int) < (i : Int) := by omega
                obtain ⟨tj, htj⟩ : ∃ tj : Int, tj = tR l1 j := ⟨_, rfl⟩
                have LJ : Hid (((List.range (M + 1)).map (eR (tR l1)))[j]? = some ⟨⟨1, 2, 17, j⟩, 8, tj⟩) := Lib.hid (by rw [htj]; exact range_get (by omega))
                obtain ⟨b0, b1, b2, b3, b4, b5⟩ := row6 HB6.out LJ.out
                have kb := cell_touch T7.out b5 (by simp)
                have kq : (tj == lst) = false := by
                  rw [beq_eq_false_iff_ne, htj]
                  have := HMIN.out.2.2 j (by have := HIM.out; omega)
                  omega
                have jM : (j : Int) < (M : Int) + 1 := by omega
                clear b0 b1 b2 b3 b4 b5 htj
                go_wp2
                go_roundg (i - (j + 1))
                case rel => exact ⟨j + 1, by go_num, by omega, by omega, Lib.hid rfl⟩
                case measure => omega
              · obtain rfl : j = i := by omega
                have lj : ¬ (j : Int) < (j : Int) := by omega
                have G2 : Hid ((1 : Int) = if j + 1 ≤ m then 0 else 1) := Lib.hid (by rw [if_neg (by have := HIM.out; omega)])
                clear hG
                go_wp2
                go_roundg (M + 1 - (j + 1))
                case rel => exact ⟨j + 1, 1, by first | rfl | go_num, by go_num, by omega, by omega, by omega, by omega, G2, T7⟩
                case measure => omega
          · have him : i ≠ m := by
              have h1 := HTB.out
              rw [hc] at h1
              exact of_decide_eq_true h1.symm
            have G2 : Hid (gn = if i + 1 ≤ m then 0 else 1) := Lib.hid (by
              rw [hG.out]
              by_cases h : i ≤ m
              · rw [if_pos h, if_pos (by omega)]
              · rw [if_neg h, if_neg (by omega)])
            clear hc him hG
            go_wp2
            go_roundg (gk - 1)
            case rel => exact ⟨i + 1, gn, rfl, by go_num, by omega, by omega, hg0, hg1, G2, T7⟩
            case measure => omega
        · have hgn : gn = 1 := by rw [hG.out, if_neg (by have := HMIN.out.1; omega)]
          subst hgn
          obtain rfl : i = M + 1 := by omega
          have li : ¬ ((M : Int) + 1) < (M : Int) + 1 := by omega
          have TF := Lib.hid (T6.out.trans hT.out (by simp))
          clear hG hT
          go_wp2
          go_ret
          exact ⟨rfl, TF.out⟩
end Go.Proofs.Ytelfemhnijnhfaa.Fr

