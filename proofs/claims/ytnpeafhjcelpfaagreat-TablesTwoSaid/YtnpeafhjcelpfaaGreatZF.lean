/- Within and All: the iterators' contract; no condition. -/
import Derived.Test.YtnpeafhjcelpfaaGreatZE
namespace Go.Proofs.YtnpeafhjcelpfaaGreat.Tri
open Go.RowKit Go.Maps Go.Shelf
set_option linter.unusedVariables false
attribute [local go_sem] Oper.semAt_some

/-- What an iterator tells of one entry. -/
def encE (e : Ent) : Array Value := #[.agg #[.int .u32 e.1.a, .int .i64 e.1.n], .agg #[.int .u32 e.1.a, .int .i64 e.1.n, .int .u32 (rV e.2), .bool (rL e.2)]]
theorem VRow.keepT {w w' : World} {e : TypeId} {sz : Nat} {V : Value} {n : Nat} {xs : List Value} (h : VRow w e sz V n xs) (t : KeepT e w w') : VRow w' e sz V n xs := by
  refine ⟨h.own.1, ?_⟩
  rcases h.own.2 with h2 | ⟨g, cap, cur, hv, hg, hh, r⟩
  · exact .inl h2
  · exact .inr ⟨g, cap, cur, hv, hg, t.2 _ _ _ hh, r⟩
theorem take_next {α : Type} {l : List α} {i : Nat} {x : α} (h : l[i]? = some x) : l.take (i + 1) = l.take i ++ [x] := by
  rw [List.take_add_one, h]; rfl
open Classical in
/-- What Within tells. -/
noncomputable def insideL (t : T) (a : Nat) (m : Int) : List Ent := if okP a m then ents (below t ⟨a, m.toNat⟩) else []
set_option maxRecDepth 100000 in
set_option maxHeartbeats 8000000 in
theorem within_stops {w : World} {tb : Nat} {t : T} {S : List Nat} {k : Nat} (h : TrieAt w tb t S k) (hk : 80 * k ≤ 140737488355328) (a : Nat) (m : Int) (ha : a < 4294967296) (B2 B3 n : Nat)
    (hB2 : w.heap[B2]? = some (.cells #[.pointer (some ⟨tb, 0, none⟩)] 88 (0, 0))) (hB3 : w.heap[B3]? = some (.cells #[.int .u32 a, .int .i64 m] 47 (0, 0))) :
    SeqStopsK Fence.wide n Tryz.prog 92 #[.pointer (some ⟨B3, 0, none⟩), .pointer (some ⟨B2, 0, none⟩)] encE (KeepT 163) (fun xs => xs = insideL t a m) (fun pre => pre <+: insideL t a m) (insideL t a m).length w := by
  intro l J Jx W hW hJ hJx hY h0
  have tW : Touch [] w W := Touch.of_below hW
  have HT := Lib.hid (h.kept tW (by simp))
  have HB2 := Lib.hid (touch_box tW hB2 (by simp))
  have HB3 := Lib.hid (touch_box tW hB3 (by simp))
  have HJ := Lib.hid hJ
  have H0 := Lib.hid h0
  have HY := Lib.hid hY
  obtain ⟨d0, d1, _⟩ := two_cells HB3.out
  have hf40 : Fence.wide.fn 93 := trivial
  have hf47 : Fence.wide.fn 94 := trivial
  clear h hB2 hB3 hW hJ hJx hY h0 tW
  by_cases hok : okP a m
  · have hr := callsIn_wide (n := n - 1).2 (refusal_yes a m W ha hok)
    obtain ⟨hm0, hpx⟩ := hok
    have HP := Lib.hid hpx
    obtain ⟨p, hp⟩ : ∃ p : Px, p = ⟨a, m.toNat⟩ := ⟨_, rfl⟩
    have hL : Hid (insideL t a m = ents (below t p)) := Lib.hid (by unfold insideL; rw [if_pos ⟨hm0, hpx⟩, hp])
    have e1 : (a : Int) = (p.a : Int) := by rw [hp]
    have e2 : m = (p.n : Int) := by rw [hp]; simp; omega
    have HPO : Hid p.ok := Lib.hid (by rw [hp]; exact hpx)
    rw [hL.out] at HY ⊢
    have hab : a = p.a := by omega
    subst hab
    subst e2
    clear hL hp e1 hm0 hpx HP
    obtain ⟨L, hL⟩ : ∃ L, L = ents (below t p) := ⟨_, rfl⟩
    have hnow : Hid (∀ W1, Touch [] W W1 → CallsIn Fence.wide (n - 1) Tryz.prog 94 #[.pointer (some ⟨tb, 0, none⟩), .agg #[.int .u32 p.a, .int .i64 p.n]] W1 (NowPost W1 L)) :=
      Lib.hid (fun W1 t1 => by rw [hL]; exact callsIn_wide.2 (now_calls (HT.out.kept t1 (by simp)) p HPO.out hk))
    have hLk : L.length ≤ k := by rw [hL, (below_is t p HT.out.ok HPO.out).1, HT.out.len]; exact List.length_filter_le _ _
    have hLl : L.length < 4611686018427387904 := by omega
    rw [← hL] at HY ⊢
    clear hL
    refine callsIn_of_wp Tryz.func92 rfl trivial ?_ rfl
    simp only [Tryz.ntmps92, List.size_toArray, List.length_cons, List.length_nil, Nat.reduceAdd, Nat.reduceSub, Array.replicate_succ, Array.replicate_zero, List.push_toArray, List.append_toArray, List.nil_append, List.cons_append]
    gi_wp2_with (first
      | ((try refine ⟨dd _, ?_⟩); gi_at_call 93; refine hr.mono ?_; clear hr; rintro e W1 ⟨rfl, t1⟩; have d01 := (two_cells (touch_box t1 HB3.out (by simp))).1; have d11 := (two_cells (touch_box t1 HB3.out (by simp))).2.1; have c01 := (one_cells (touch_box t1 HB2.out (by simp))).1)
      | ((try refine ⟨dd _, ?_⟩); gi_at_call 94; refine (hnow.out _ t1).mono ?_; clear hnow; rintro e W2 ⟨A, c, rfl, hV, t2, hown⟩))
    have hJ2 := Lib.hid (abides_touch HJ.out (t1.trans t2 (by simp)) H0.out)
    have HV := Lib.hid hV
    clear hV hown t1 t2 d01 d11 c01 d0 d1 H0 HT HB2 HB3 HPO hf40 hf47
    gi_loopw [13] (fun v13 wr => ∃ i : Nat, v13 = .int .i64 i ∧ i ≤ L.length ∧ Hid (J (L.take i) wr) ∧ Hid (VRow wr 163 6 (.slice A L.length c) L.length (flatE L))) (fun v13 _ => L.length - (intOf v13).toNat)
    case atStart => exact ⟨0, rfl, Nat.zero_le _, by simpa using hJ2, HV⟩
    case round =>
      obtain ⟨i, rfl, hi, hJi, hVi⟩ := hrel
      by_cases hlt : i < L.length
      · have b1 : (i : Int) < (L.length : Int) := by omega
        obtain ⟨⟨q, u⟩, hx⟩ : ∃ x, L[i]? = some x := ⟨_, List.getElem?_eq_getElem hlt⟩
        obtain ⟨g, c', hsl, hgl, hc⟩ := hVi.out.at_ (by omega)
        simp only [Value.slice.injEq, true_and] at hsl
        obtain ⟨hA, hcc⟩ := hsl
        subst hA hcc
        have m0 := hc _ _ (flatE_get L i _ hx 0 (by omega))
        have m1 := hc _ _ (flatE_get L i _ hx 1 (by omega))
        have m2 := hc _ _ (flatE_get L i _ hx 2 (by omega))
        have m3 := hc _ _ (flatE_get L i _ hx 3 (by omega))
        have m4 := hc _ _ (flatE_get L i _ hx 4 (by omega))
        have m5 := hc _ _ (flatE_get L i _ hx 5 (by omega))
        rw [Nat.add_zero] at m0
        dsimp only at m0 m1 m2 m3 m4 m5
        obtain ⟨fn, tmps, assign, body, hy, hR⟩ := HY.out (L.take i) (q, u) (wr.alloc (.cells #[.int .u32 q.a, .int .i64 q.n, .int .u32 q.a, .int .i64 q.n, .int .u32 (rV u), .bool (rL u)] 163)) (abides_touch HJ.out ((Touch.refl [] wr).alloc _) hJi.out) (by rw [List.length_take]; omega)
        simp only [encE] at hy
        have HX := Lib.hid hx
        have hVa := Lib.hid (hVi.out.kept ((Touch.refl [] wr).alloc (.cells #[.int .u32 q.a, .int .i64 q.n, .int .u32 q.a, .int .i64 q.n, .int .u32 (rV u), .bool (rL u)] 163)) (by simp))
        clear hc hx
        gi_wp2_with (first
          | ((try refine ⟨dd _, ?_⟩); refine hR.mono ?_; clear hR; rintro e W3 (⟨rfl, hJ3, hk3⟩ | ⟨rfl, hx3⟩))
          | (fail))
        · go_roundw
          case rel => exact ⟨i + 1, by go_num, by omega, Lib.hid (by rw [take_next HX.out]; exact hJ3), Lib.hid (hVa.out.keepT hk3)⟩
          case measure => simp [intOf]; omega
        · refine bodyPost_ret (results_none rfl _ _ _) rfl ?_
          exact ⟨⟨_, rfl⟩, .inr ⟨L.take i ++ [(q, u)], ⟨L.drop (i + 1), by rw [← take_next HX.out]; exact List.take_append_drop _ _⟩, hx3⟩⟩
      · have b1 : ¬ (i : Int) < (L.length : Int) := by omega
        have hii : i = L.length := by omega
        gi_wp2
        go_end0
        exact ⟨⟨_, rfl⟩, .inl (by have := hJi.out; rw [hii, List.take_length] at this; exact this)⟩
  · have hr := callsIn_wide (n := n - 1).2 (refusal_no a m W ha hok)
    have hL : insideL t a m = [] := by unfold insideL; rw [if_neg hok]
    rw [hL] at HY ⊢
    clear hok hL
    refine callsIn_of_wp Tryz.func92 rfl trivial ?_ rfl
    simp only [Tryz.ntmps92, List.size_toArray, List.length_cons, List.length_nil, Nat.reduceAdd, Nat.reduceSub, Array.replicate_succ, Array.replicate_zero, List.push_toArray, List.append_toArray, List.nil_append, List.cons_append]
    gi_wp2_with (first
      | ((try refine ⟨dd _, ?_⟩); gi_at_call 93; refine hr.mono ?_; clear hr; rintro e W1 ⟨rfl, t1⟩)
      | (fail))
    refine bodyPost_ret (results_none rfl _ _ _) rfl ?_
    exact ⟨⟨_, rfl⟩, .inl ⟨[], rfl, abides_touch HJ.out t1 H0.out⟩⟩
end Go.Proofs.YtnpeafhjcelpfaaGreat.Tri
