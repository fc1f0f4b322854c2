/- valids, its row new memory; swaps in an own row; what came and went; no condition. -/
import Derived.Test.YtmklkdhpbehfeaaNX
namespace Go.Proofs.Ytmklkdhpbehfeaa.Tri
open Go.RowKit Go.Maps
set_option linter.unusedVariables false

def ValidsFPost (w : World) (l : List (Nat × Int)) (e : Ending) (w' : World) : Prop :=
  ∃ A c, e = .returned (.slice A ((l.take 200).map (fun x => pxOf x.1 x.2)).length c) ∧ VRow w' 32 2 (.slice A ((l.take 200).map (fun x => pxOf x.1 x.2)).length c) ((l.take 200).map (fun x => pxOf x.1 x.2)).length (flatP ((l.take 200).map (fun x => pxOf x.1 x.2))) ∧ Touch [] w w' ∧ ∀ b, (Value.slice A ((l.take 200).map (fun x => pxOf x.1 x.2)).length c).ownBlock = some b → w.heap.size ≤ b
set_option maxHeartbeats 4000000 in
set_option maxRecDepth 100000 in
theorem valids_fresh {w : World} {A : Option Addr} {n cap : Nat} {l : List (Nat × Int)} (h : RdI w A n l) (hn : n ≤ 4611686018427387904) :
    Calls Try.prog 15 #[.slice A n cap] w (ValidsFPost w l) := by
  have H := Lib.hid h
  clear h
  go_enter Try.func15, Try.ntmps15
  go_wp2
  go_loopw [3, 4] (fun v3 v4 wr => ∃ (i : Nat) (L : List Px), v4 = .int .i64 i ∧ i ≤ n ∧ i ≤ 200 ∧ Hid (L = (l.take i).map (fun x => pxOf x.1 x.2)) ∧ Hid (L.length = i) ∧ Hid (VRow wr 32 2 v3 L.length (flatP L)) ∧ Hid (∀ b, v3.ownBlock = some b → w.heap.size ≤ b) ∧ Hid (Touch [] w wr)) (fun _ v4 _ => n - (intOf v4).toNat)
  case atStart => exact ⟨0, [], rfl, Nat.zero_le _, Nat.zero_le _, Lib.hid rfl, Lib.hid rfl, Lib.hid (VRow.nil _ _ _), Lib.hid (by simp [Value.ownBlock]), Lib.hid (Touch.refl _ _)⟩
  case round =>
    obtain ⟨i, L, rfl, hi, hi2, hL, hLl, hV, hB, hT⟩ := hrel
    obtain ⟨A3, c3, hv3⟩ := hV.out.form
    subst hv3
    obtain ⟨wo, rfl⟩ : ∃ wo : World, wo = wr := ⟨_, rfl⟩
    by_cases hin : i < n ∧ i < 200
    · have b1 : (i : Int) < (n : Int) := by omega
      have b2 : (i : Int) < 200 := by omega
      obtain ⟨b, off, hA, hb, hc⟩ := (H.out.kept hT.out).at_ (by omega)
      have HA := Lib.hid hA
      clear hA
      obtain ⟨⟨x0, x1⟩, hx⟩ : ∃ x, l[i]? = some x := ⟨_, List.getElem?_eq_getElem (by rw [H.out.len]; omega)⟩
      obtain ⟨m0, m1⟩ := hc i _ hx
      have hwf := H.out.wf _ (List.mem_of_getElem? hx)
      dsimp only at m0 m1 hwf
      obtain ⟨w0, w1, w2⟩ := hwf
      have HX := Lib.hid hx
      clear hc hx hin
      obtain rfl := HA.out
      go_wp2
      go_upto_region 5 with (fail)
      go_cut [5] (fun v5 wc => ∃ bx, v5 = .pointer (some ⟨bx, 0, none⟩) ∧ Hid (wc.heap[bx]? = some (.cells #[.int .u32 (pxOf x0 x1).a, .int .i64 (pxOf x0 x1).n] 32 (0, 0))) ∧ Hid (Touch [] wo wc))
      case first =>
        have g0 := fun o => cell_touch ((Touch.refl [] wo).alloc o) m0 (by simp)
        have g1 := fun o => cell_touch ((Touch.refl [] wo).alloc o) m1 (by simp)
        go_region_law (first | (go_simp; go_at_call 26; refine (prefix_calls _ _ _ w0 w1 w2).mono ?_; rintro e w5 ⟨rfl, t5⟩; try (have hbx := touch_box t5 (box_at wo (.cells #[.int .u32 0, .int .i64 0] 32 (0, 0))) List.not_mem_nil; obtain ⟨z0, z1, z2, z3⟩ := two_cells hbx)))
        all_goals
          have tw : Touch [] wo w5 := Touch.trans (S' := []) (by first | exact (Touch.refl [] wo).drew | exact (Touch.refl [] wo).drewN _ | exact Touch.refl [] wo | exact ((Touch.refl [] wo).alloc _).drew | exact (Touch.refl [] wo).alloc _ | exact ((Touch.refl [] wo).drew).alloc _) t5 (by simp)
          go_wp2
          go_meet
          case rel => first | exact ⟨w5.heap.size, rfl, Lib.hid (box_at w5 _), Lib.hid (tw.alloc _)⟩ | exact ⟨wo.heap.size, rfl, Lib.hid (two_full hbx _ _), Lib.hid ((tw.setCell _ _ (.inr (Nat.le_refl _))).setCell _ _ (.inr (Nat.le_refl _)))⟩
      case rest =>
      obtain ⟨bx, rfl, hbx, htc⟩ := hcut
      have HV := Lib.hid (hV.out.kept htc.out (by simp))
      have HT := Lib.hid (hT.out.trans htc.out (by simp))
      obtain ⟨z0, z1, _⟩ := two_cells hbx.out
      have hl200 : L.length ≤ 200 := by have := hLl.out; omega
      clear hV hT htc hbx m0 m1
      go_wp2_with (at_builtin; refine wpList_append_vr (by rfl) (.tmp 27) (.tmp 29) 22 32 2 16 _ Try.underlying22 (by rfl) info32 rfl (by omega) (by omega) (.slice A3 L.length c3) L.length (flatP L) 1 #[.int .u32 (pxOf x0 x1).a, .int .i64 (pxOf x0 x1).n] (by rfl) HV.out (by rfl) (by rfl) (by simp [Value.oneCell']) (by omega) ?_
                   intro A' c' w' r t o
                   have R := Lib.hid r
                   have K := Lib.hid t
                   have O := Lib.hid o
                   clear r t o)
      go_roundw
      case rel =>
        refine ⟨i + 1, L ++ [pxOf x0 x1], by go_num, by omega, by omega, Lib.hid ?_, Lib.hid (by simp [hLl.out]), Lib.hid ?_, Lib.hid (fun b hb => ?_), Lib.hid (HT.out.trans K.out (fun x hx => .inr (hB.out x (by simpa using hx))))⟩
        · rw [List.take_add_one, HX.out, hL.out]; simp
        · rw [flatP_snoc, List.length_append]; exact R.out
        · rcases O.out with o | ⟨b', o, hb'⟩
          · rw [o] at hb; exact hB.out b hb
          · rw [o] at hb; cases hb; exact Nat.le_trans HT.out.size hb'
      case measure => simp [intOf]; omega
    · have HE : Hid ((l.take 200).map (fun x => pxOf x.1 x.2) = L) := Lib.hid (by
        rw [hL.out]
        congr 1
        have := H.out.len
        by_cases h2 : i = n
        · rw [List.take_of_length_le (by omega), List.take_of_length_le (by omega)]
        · rw [show i = 200 by omega])
      by_cases h1 : i < n
      · have b1 : (i : Int) < (n : Int) := by omega
        have b2 : ¬ (i : Int) < 200 := by omega
        clear hin h1
        go_wp2
        go_ret
        unfold ValidsFPost
        rw [HE.out]
        exact ⟨A3, c3, rfl, hV.out, hT.out, hB.out⟩
      · have b1 : ¬ (i : Int) < (n : Int) := by omega
        clear hin h1
        go_wp2
        go_ret
        unfold ValidsFPost
        rw [HE.out]
        exact ⟨A3, c3, rfl, hV.out, hT.out, hB.out⟩
theorem flatP_set (p : Px) : ∀ (l : List Px) (k : Nat), flatP (l.set k p) = ((flatP l).set (k * 2) (.int .u32 p.a)).set (k * 2 + 1) (.int .i64 p.n)
  | [], k => by simp [flatP]
  | q :: l, 0 => by simp [flatP]
  | q :: l, k + 1 => by
    have ih := flatP_set p l k
    have e : ∀ m : List Px, flatP (q :: m) = .int .u32 q.a :: .int .i64 q.n :: flatP m := fun m => by simp [flatP]
    rw [List.set_cons_succ, e, e, ih, show (k + 1) * 2 = k * 2 + 1 + 1 by omega, List.set_cons_succ, List.set_cons_succ, List.set_cons_succ, List.set_cons_succ]
theorem VRow.setP {w : World} {g n c : Nat} {l : List Px} (h : VRow w 32 2 (.slice (some ⟨g, 0, none⟩) n c) n (flatP l)) (k : Nat) (p : Px) :
    VRow ((w.setCell ⟨g, k * 2, none⟩ (.int .u32 p.a)).setCell ⟨g, k * 2 + 1, none⟩ (.int .i64 p.n)) 32 2 (.slice (some ⟨g, 0, none⟩) n c) n (flatP (l.set k p)) := by
  rw [flatP_set]
  exact ⟨(World.ownsRow.stored (World.ownsRow.stored h.own (k * 2) (.int .u32 p.a)).1 (k * 2 + 1) (.int .i64 p.n)).1⟩
def val (q : Px) : Int := (q.a : Int) + (q.n : Int)
/-- What a trie holds: those of D with their value, others with -5. -/
def Mixed (t : T) (D : List Px) (R : Px → Prop) : Prop := ∀ q u, (q, u) ∈ ents t ↔ (q ∈ D ∧ u = val q) ∨ (q ∉ D ∧ R q ∧ u = -5)
theorem mixed_nil : Mixed .nil [] (fun _ => False) := by intro q u; simp [ents]
theorem mixed_cong {t : T} {D D' : List Px} {R R' : Px → Prop} (h : Mixed t D R) (hD : ∀ q, q ∈ D' ↔ q ∈ D) (hR : ∀ q, R' q ↔ R q) : Mixed t D' R' := by
  intro q u
  rw [h q u, hD, hR]
theorem mixed_rest {t t' : T} {R : Px → Prop} {p : Px} {f : Bool} (h : Mixed t [] R) (hg : Hung t p (-5) t' f) : Mixed t' [] (fun q => R q ∨ q = p) := by
  intro q u
  rw [hg.mem, h q u]
  simp only [List.not_mem_nil, false_and, false_or, not_false_eq_true, true_and]
  constructor
  · rintro (⟨h1, h2⟩ | ⟨h1, h2, h3⟩)
    · exact ⟨.inr h1, h2⟩
    · exact ⟨.inl h2, h3⟩
  · rintro ⟨h1, h2⟩
    by_cases e : q = p
    · exact .inl ⟨e, h2⟩
    · rcases h1 with h1 | h1
      · exact .inr ⟨e, h1, h2⟩
      · exact absurd h1 e
theorem mixed_put {t t' : T} {D : List Px} {R : Px → Prop} {p : Px} {f : Bool} (h : Mixed t D R) (hg : Hung t p (val p) t' f) : Mixed t' (p :: D) R := by
  intro q u
  rw [hg.mem, h q u]
  by_cases e : q = p
  · subst e
    simp
  · simp [e]
theorem mixed_del {t t' : T} {D : List Px} {R : Px → Prop} {p : Px} (h : Mixed t D R) (hg : Taken t p t') (hp : p ∉ D) : Mixed t' D (fun q => R q ∧ q ≠ p) := by
  intro q u
  rw [hg.mem, h q u]
  constructor
  · rintro ⟨h1, h2 | ⟨h2, h3, h4⟩⟩
    · exact .inl h2
    · exact .inr ⟨h2, ⟨h3, h1⟩, h4⟩
  · rintro (⟨h1, h2⟩ | ⟨h1, ⟨h2, h3⟩, h4⟩)
    · exact ⟨fun e => hp (e ▸ h1), .inl ⟨h1, h2⟩⟩
    · exact ⟨h3, .inr ⟨h1, h2, h4⟩⟩
theorem mixed_skip {t : T} {D : List Px} {R : Px → Prop} {p : Px} (h : Mixed t D R) (hp : p ∈ D) : Mixed t D (fun q => R q ∧ q ≠ p) := by
  intro q u
  rw [h q u]
  constructor
  · rintro (h1 | ⟨h1, h2, h3⟩)
    · exact .inl h1
    · exact .inr ⟨h1, ⟨h2, fun e => h1 (e ▸ hp)⟩, h3⟩
  · rintro (h1 | ⟨h1, ⟨h2, h3⟩, h4⟩)
    · exact .inl h1
    · exact .inr ⟨h1, h2, h4⟩
theorem mixed_gone {t : T} {D : List Px} {R : Px → Prop} {p : Px} (h : Mixed t D R) (hp : p ∉ D) (hn : ¬ R p) : Mixed t D (fun q => R q ∧ q ≠ p) := by
  intro q u
  rw [h q u]
  constructor
  · rintro (h1 | ⟨h1, h2, h3⟩)
    · exact .inl h1
    · exact .inr ⟨h1, ⟨h2, fun e => hn (e ▸ h2)⟩, h3⟩
  · rintro (h1 | ⟨h1, ⟨h2, h3⟩, h4⟩)
    · exact .inl h1
    · exact .inr ⟨h1, h2, h4⟩
theorem swap_drop {L : List Px} {n k : Nat} {x y : Px} (hn : n < L.length) (hk : k ≤ n) : (((L.set k y).set n x).drop n) = x :: L.drop (n + 1) := by
  apply List.ext_getElem?
  intro i
  rw [List.getElem?_drop]
  cases i with
  | zero =>
    rw [Nat.add_zero, List.getElem?_set_self (by simpa using hn)]; rfl
  | succ i =>
    rw [List.getElem?_set_ne (by omega), List.getElem?_set_ne (by omega), List.getElem?_cons_succ, List.getElem?_drop]
    congr 1; omega
theorem swap_mem {L : List Px} {n k : Nat} {x y : Px} (hx : L[k]? = some x) (hy : L[n]? = some y) (q : Px) : q ∈ (L.set k y).set n x ↔ q ∈ L := by
  obtain ⟨hk, rfl⟩ := List.getElem?_eq_some_iff.1 hx
  obtain ⟨hn, rfl⟩ := List.getElem?_eq_some_iff.1 hy
  exact (List.set_set_perm hk hn).mem_iff
theorem ents_same {s t : T} (hs : Ok s) (ht : Ok t) {D : List Px} (h1 : Mixed s D (fun _ => False)) (h2 : Mixed t D (fun _ => False)) : ents s = ents t := by
  refine sorted_eq _ _ (ents_sorted s hs) (ents_sorted t ht) (fun e => ?_)
  obtain ⟨q, u⟩ := e
  rw [h1 q u, h2 q u]
theorem tsize_same {s t : T} (hs : Ok s) (ht : Ok t) (h : ents s = ents t) : tsize s = tsize t := by
  rw [← tsize_all hs, ← tsize_all ht, h]
theorem tsize_ge {t : T} : (ents t).length ≤ tsize t := by have := nodes_count t; omega
theorem tsize_lt {t : T} (h : Ok t) (hn : t ≠ .nil) : tsize t + 1 ≤ 2 * (ents t).length := by
  have := nodes_count t
  have := bare_less h hn
  omega
end Go.Proofs.Ytmklkdhpbehfeaa.Tri
