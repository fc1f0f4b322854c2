/- last and inOrder of the Timer laws; no condition. -/
import Derived.Test.YtjnhldcgemcjbaaU
namespace Go.Proofs.Ytjnhldcgemcjbaa.Tm
open Go.RowKit Go.Maps
set_option linter.unusedVariables false

theorem info35 : (Try.prog.info? 35).map (fun i => (i.zero, i.size, i.bytes)) = some (some (.agg #[.int .i64 0, .int .i64 0]), 2, 16) := by kernel_rfl

/-- A list of pairs that came in, or lies in a row. -/
structure RdPr (w : World) (A : Option Addr) (n : Nat) (l : List Pr) : Prop where
  len : l.length = n
  wf : ∀ p ∈ l, wfi p.1 ∧ wfi p.2
  at_ : 0 < n → ∃ b off, A = some ⟨b, off, none⟩ ∧ b < w.heap.size ∧ ∀ i p, l[i]? = some p → w.cell? ⟨b, off + i * 2, none⟩ = some (.int .i64 p.1) ∧ w.cell? ⟨b, off + i * 2 + 1, none⟩ = some (.int .i64 p.2)
theorem cell_touch {w w' : World} {S : List Nat} (t : Touch S w w') {a : Addr} {v : Value} (h : w.cell? a = some v) (hn : a.block ∉ S) : w'.cell? a = some v :=
  (World.cell?_of_block (w := w) (t.block a.block (World.block_lt_of_cell? w a h) hn)).trans h
theorem RdPr.kept {w w' : World} {A : Option Addr} {n : Nat} {l : List Pr} (h : RdPr w A n l) (t : Touch [] w w') : RdPr w' A n l := by
  refine ⟨h.len, h.wf, fun h0 => ?_⟩
  obtain ⟨b, off, hA, hb, hc⟩ := h.at_ h0
  exact ⟨b, off, hA, Nat.lt_of_lt_of_le hb t.size, fun i p hp => ⟨cell_touch t (hc i p hp).1 (by simp), cell_touch t (hc i p hp).2 (by simp)⟩⟩

/-- The last time of each id. -/
def mset (l : List Pr) (y : Int) : Option Int := l.foldl (fun o p => if y = p.1 then some p.2 else o) none
theorem mset_snoc (l : List Pr) (p : Pr) (y : Int) : mset (l ++ [p]) y = if y = p.1 then some p.2 else mset l y := by
  unfold mset; rw [List.foldl_append]; rfl
structure LastInv (l acc : List Pr) : Prop where
  nd : Nd acc
  vals : ∀ y, lval acc y = mset l y
  wf : ∀ p ∈ acc, wfi p.1 ∧ wfi p.2
  len : acc.length ≤ l.length

def LastPost (w : World) (l : List Pr) (e : Ending) (w' : World) : Prop := ∃ V acc, e = .returned V ∧ PRow w' 35 V acc ∧ Touch [] w w' ∧ (∀ k, V.ownBlock = some k → w.heap.size ≤ k) ∧ LastInv l acc

theorem placeOut_step {l : List Pr} {j : Nat} {id r : Int} {x : Pr} (h : PlaceOut (l.take j) id r) (hx : l[j]? = some x) : PlaceOut (l.take (j + 1)) id (if x.1 = id then (j : Int) else r) := by
  have hj := (List.getElem?_eq_some_iff.1 hx).1
  have e : l.take (j + 1) = l.take j ++ [x] := by rw [List.take_add_one, hx]; rfl
  by_cases hid : x.1 = id
  · rw [if_pos hid]
    exact .inr ⟨j, x, rfl, by rw [List.getElem?_take, if_pos (by omega)]; exact hx, hid⟩
  · rw [if_neg hid]
    rcases h with ⟨h1, h2⟩ | ⟨k, p, h1, h2, h3⟩
    · refine .inl ⟨h1, fun p hp => ?_⟩
      rw [e] at hp
      rcases List.mem_append.1 hp with h4 | h4
      · exact h2 p h4
      · simp at h4; rw [h4]; exact hid
    · refine .inr ⟨k, p, h1, ?_, h3⟩
      rw [List.getElem?_take] at h2 ⊢
      split at h2
      · rw [if_pos (by omega)]; exact h2
      · cases h2

set_option maxHeartbeats 2000000 in
theorem last_calls {w : World} {A : Option Addr} {n cap : Nat} {l : List Pr} (h : RdPr w A n l) (hsm : n ≤ 1048576) :
    Calls Try.prog 19 #[.slice A n cap] w (LastPost w l) := by
  have H := Lib.hid h
  have hlen := h.len
  have HL := Lib.hid hlen
  clear h hlen
  go_enter Try.func19, Try.ntmps19
  go_wp2
  go_loopw [3, 4] (fun v3 v4 wr => ∃ (k : Nat) (acc : List Pr), v4 = .int .i64 k ∧ k ≤ n ∧ Hid (PRow wr 35 v3 acc) ∧ Hid (∀ q, v3.ownBlock = some q → w.heap.size ≤ q) ∧ Hid (Touch [] w wr) ∧ Hid (LastInv (l.take k) acc)) (fun _ v4 _ => n - (intOf v4).toNat)
  case atStart => exact ⟨0, [], rfl, Nat.zero_le _, Lib.hid (PRow.nil _ _), Lib.hid (by intro q hq; simp [Value.ownBlock] at hq), Lib.hid (Touch.refl _ _), Lib.hid ⟨List.Pairwise.nil, fun y => rfl, by simp, by simp⟩⟩
  case round =>
    obtain ⟨k, acc, rfl, hk, hP, hB, hT, hI⟩ := hrel
    obtain ⟨A3, c3, hv3⟩ := hP.out.form
    subst hv3
    by_cases hlt : k < n
    · have hR := H.out.kept hT.out
      obtain ⟨b, off, hA, hb, hc⟩ := hR.at_ (by omega)
      subst hA
      obtain ⟨⟨x0, x1⟩, hx⟩ : ∃ x, l[k]? = some x := ⟨_, List.getElem?_eq_getElem (by rw [HL.out]; exact hlt)⟩
      obtain ⟨m0, m1⟩ := hc k _ hx
      dsimp only at m0 m1
      have HX := Lib.hid hx
      have hwx := H.out.wf _ (List.mem_of_getElem? hx)
      have hal : acc.length ≤ k := by have := hI.out.len; simp at this; omega
      have b1 : (k : Int) < (n : Int) := by omega
      obtain ⟨wo, rfl⟩ : ∃ wo : World, wo = wr := ⟨_, rfl⟩
      clear hR hc hx
      go_wp2
      go_loopw [5, 6] (fun v5 v6 wi => ∃ (j : Nat) (r : Int), v5 = .int .i64 r ∧ v6 = .int .i64 j ∧ j ≤ acc.length ∧ Hid (PlaceOut (acc.take j) x0 r) ∧ Hid (Touch [] wo wi)) (fun _ v6 _ => acc.length - (intOf v6).toNat)
      case atStart => exact ⟨0, -1, rfl, rfl, Nat.zero_le _, Lib.hid (.inl ⟨rfl, by simp⟩), Lib.hid (Touch.refl _ _)⟩
      case round =>
        obtain ⟨j, r, rfl, rfl, hj, hPl, hTi⟩ := hrel
        have hPi := hP.out.kept hTi.out (by simp)
        have HPI := Lib.hid hPi
        have q0 := cell_touch hTi.out m0 (by simp)
        have q1 := cell_touch hTi.out m1 (by simp)
        by_cases hjl : j < acc.length
        · obtain ⟨g, cap2, hV, hg, hcap, _, cur, hcur⟩ := hPi.formP (by omega)
          injection hV with hV1 hV2 hV3
          subst hV1 hV3
          obtain ⟨y0, y1, _, hy⟩ := getD_pair acc j hjl
          obtain ⟨k0, k1, _, _⟩ := hPi.cell j (y0, y1) hy
          dsimp only at k0 k1
          have b2 : (j : Int) < (acc.length : Int) := by omega
          have n1 := fun u : Near wr => u.cell k0
          have n2 := fun u : Near wr => u.cell q0
          have hst := placeOut_step hPl.out hy
          dsimp only at hst
          have HST := Lib.hid hst
          clear hPi hcur hV2 hy hst
          by_cases he : y0 = x0
          · have e1 : (y0 == x0) = true := by rw [beq_iff_eq]; exact he
            have HE := Lib.hid he
            clear he
            go_wp2
            refine wp_region_near (by kernel_rfl) (by kernel_rfl) ?_
            repeat (go_big_quiet_step (fail))
            refine wpQuiet_nil ?_
            rintro _ ⟨u, rfl⟩
            have TU := Lib.hid (hTi.out.trans u.near (by simp))
            clear n1 n2
            go_wp2
            go_roundw
            case rel => exact ⟨j + 1, j, rfl, by go_num, by omega, Lib.hid (by have := HST.out; rw [if_pos HE.out] at this; exact this), TU⟩
            case measure => simp [intOf]; omega
          · have e1 : (y0 == x0) = false := by rw [beq_eq_false_iff_ne]; exact he
            have HE := Lib.hid he
            clear he
            go_wp2
            refine wp_region_near (by kernel_rfl) (by kernel_rfl) ?_
            repeat (go_big_quiet_step (fail))
            refine wpQuiet_nil ?_
            rintro _ ⟨u, rfl⟩
            have TU := Lib.hid (hTi.out.trans u.near (by simp))
            clear n1 n2
            go_wp2
            go_roundw
            case rel => exact ⟨j + 1, r, rfl, by go_num, by omega, Lib.hid (by have := HST.out; rw [if_neg HE.out] at this; exact this), TU⟩
            case measure => simp [intOf]; omega
        · have b2 : ¬ (j : Int) < (acc.length : Int) := by omega
          have hja : j = acc.length := by omega
          have hpl := hPl.out
          rw [hja, List.take_length] at hpl
          have hTall := hT.out.trans hTi.out (by simp)
          have HT2 := Lib.hid hTall
          have etk : l.take (k + 1) = l.take k ++ [(x0, x1)] := by rw [List.take_add_one, HX.out]; rfl
          have HTK := Lib.hid etk
          clear hja hTall etk hPi
          rcases hpl with ⟨hr, hno⟩ | ⟨q, p, hr, hq, hqid⟩
          · subst hr
            have HNO := Lib.hid hno
            clear hno
            go_wp2_with (at_builtin; go_must (refine wpList_append_pr rfl (.tmp 33) (.tmp 38) 25 35 Try.underlying25 rfl info35 (.slice A3 acc.length c3) acc x0 x1 rfl HPI.out rfl (by omega) ?_); go_must (intro A1 c1' w2 hr1 ht1 hV1; have HR1 := Lib.hid hr1; have HT1 := Lib.hid ht1; have HV1 := Lib.hid hV1; clear hr1 ht1 hV1))
            go_roundw
            case rel =>
              refine ⟨k + 1, acc ++ [(x0, x1)], by go_num, by omega, HR1, Lib.hid (fun q hq => ?_), Lib.hid (HT2.out.trans HT1.out (fun x hx => .inr (hB.out x (by simpa using hx)))), Lib.hid ⟨nd_snoc hI.out.nd HNO.out, fun y => ?_, fun p hp => ?_, ?_⟩⟩
              · rcases HV1.out with e | ⟨q', e, hq'⟩
                · exact hB.out q (by rw [← e]; exact hq)
                · rw [e] at hq; cases hq; exact Nat.le_trans HT2.out.size hq'
              · rw [HTK.out, mset_snoc, lval_snoc hI.out.nd HNO.out, hI.out.vals]
              · rcases List.mem_append.1 hp with h1 | h1
                · exact hI.out.wf p h1
                · simp at h1; rw [h1]; exact hwx
              · rw [HTK.out]; simp; have := hI.out.len; simp at this; omega
            case measure => simp [intOf]; omega
          · subst hr
            obtain ⟨z0, z1⟩ := p
            dsimp only at hqid
            subst hqid
            have hql := (List.getElem?_eq_some_iff.1 hq).1
            obtain ⟨g, cap2, hV, hg, hcap, _, cur, hcur⟩ := HPI.out.formP (by omega)
            injection hV with hV1 hV2 hV3
            subst hV1 hV3
            obtain ⟨k0, k1, f0, f1⟩ := HPI.out.cell q (z0, z1) hq
            dsimp only at k0 k1
            have b3 : (q : Int) < (acc.length : Int) := by omega
            have b4 : ¬ (q : Int) < 0 := by omega
            have HQ := Lib.hid hq
            clear hq hV2 hcur
            go_wp2
            go_roundw
            case rel =>
              have tg : Touch [g] wr (wr.setCell ⟨g, q * 2 + 1, none⟩ (.int .i64 x1)) := (Touch.refl _ _).setCell _ _ (.inl (by simp))
              have hgB := hB.out g rfl
              refine ⟨k + 1, acc.set q (z0, x1), by go_num, by omega, Lib.hid ?_, hB, Lib.hid (HT2.out.trans tg (fun x hx => .inr (by simp at hx; rw [hx]; exact hgB))), Lib.hid ⟨nd_set hI.out.nd HQ.out rfl, fun y => ?_, fun p hp => ?_, ?_⟩⟩
              · have := HPI.out.stored2 rfl q z0 z1 x1 HQ.out
                simpa using this
              · rw [HTK.out, mset_snoc, lval_set (y := (z0, x1)) hI.out.nd HQ.out rfl, hI.out.vals]
              · rcases List.mem_or_eq_of_mem_set hp with h1 | h1
                · exact hI.out.wf p h1
                · rw [h1]; exact hwx
              · rw [HTK.out]; simp; have := hI.out.len; simp at this; omega
            case measure => simp [intOf]; omega
    · have b1 : ¬ (k : Int) < (n : Int) := by omega
      have hkl : k = n := by omega
      have HK := Lib.hid hkl
      clear hkl hlt
      go_wp2
      go_ret
      refine ⟨_, acc, rfl, hP.out, hT.out, hB.out, ?_⟩
      have := hI.out
      rw [HK.out, ← HL.out, List.take_length] at this
      exact this
end Go.Proofs.Ytjnhldcgemcjbaa.Tm
