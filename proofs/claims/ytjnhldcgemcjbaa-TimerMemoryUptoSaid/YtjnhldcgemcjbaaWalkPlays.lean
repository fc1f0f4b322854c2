/- The walk of TimerPlays: it answers true, and what came in is as it was; no condition. -/
import Derived.Test.YtjnhldcgemcjbaaV
namespace Go.Proofs.Ytjnhldcgemcjbaa.Tm
open Go.RowKit Go.Maps
set_option linter.unusedVariables false

/-- What New gave: nothing, or a Timers with nothing in it. -/
def Fresh (w wc : World) (lim : Int) (v : Value) (c : Int) : Prop :=
  (¬ (1 ≤ lim ∧ lim ≤ 65536) ∧ v = .pointer none ∧ c = 1 ∧ Touch [] w wc) ∨
  ((1 ≤ lim ∧ lim ≤ 65536) ∧ c = 0 ∧ ∃ tb S s, v = .pointer (some ⟨tb, 0, none⟩) ∧ Tim wc tb S lim s ∧ Touch [] w wc ∧ (∀ k ∈ S, w.heap.size ≤ k) ∧ s.hp.length = 0 ∧ ∀ y, val s y = none)
/-- What both New gave. -/
def FreshBoth (w wc : World) (lim : Int) (v u : Value) : Prop := ∃ F, Opt wc v u lim F ∧ Touch [] w wc ∧ ∀ k ∈ F, w.heap.size ≤ k

/-- A list of steps that came in. -/
def RdOps (w : World) (A : Option Addr) (n : Nat) (f : Nat → Int × Int × Int × Int) : Prop :=
  n ≤ 9223372036854775807 ∧ (∀ i, wfi (f i).2.2.1 ∧ wfi (f i).2.2.2) ∧ (0 < n → ∃ b off, A = some ⟨b, off, none⟩ ∧ b < w.heap.size ∧ ∀ i, i < n →
    w.cell? ⟨b, off + i * 4, none⟩ = some (.int .i64 (f i).1) ∧ w.cell? ⟨b, off + i * 4 + 1, none⟩ = some (.int .i64 (f i).2.1) ∧ w.cell? ⟨b, off + i * 4 + 2, none⟩ = some (.int .i64 (f i).2.2.1) ∧ w.cell? ⟨b, off + i * 4 + 3, none⟩ = some (.int .i64 (f i).2.2.2))
theorem cell_near {w w' : World} (t : Touch [] w w') {a : Addr} {v : Value} (h : w.cell? a = some v) : w'.cell? a = some v := (Near.cell ⟨w', t⟩ h)

theorem new_any (w : World) (lim : Int) : Calls Try.prog 11 #[.int .i64 lim] w fun e w' => ∃ v c, e = .returned (.tuple #[v, .int .i64 c]) ∧ Fresh w w' lim v c := by
  by_cases h : 1 ≤ lim ∧ lim ≤ 65536
  · refine (newT_calls w lim h.1 h.2).mono ?_
    rintro e w' ⟨tb, S, s, he, h1, h2, h3, h4, h5⟩
    exact ⟨_, _, he, .inr ⟨h, rfl, tb, S, s, rfl, h1, h2, h3, h4, h5⟩⟩
  · refine (new_bad w lim (by omega)).mono ?_
    rintro e w' ⟨he, rfl⟩
    exact ⟨_, _, he, .inl ⟨h, rfl, rfl, Touch.refl _ _⟩⟩
theorem rnew_any (w wc : World) (lim : Int) (v : Value) (c : Int) (hF : Fresh w wc lim v c) : Calls Try.prog 22 #[.int .i64 lim] wc fun e w' => ∃ u, e = .returned (.tuple #[u, .int .i64 c]) ∧ FreshBoth w w' lim v u := by
  rcases hF with ⟨h, rfl, rfl, ht⟩ | ⟨h, rfl, tb, S, s, rfl, h1, h2, h3, h4, h5⟩
  · refine (rnew_bad wc lim (by omega)).mono ?_
    rintro e w' ⟨he, rfl⟩
    exact ⟨_, he, [], .inl ⟨rfl, rfl, rfl⟩, ht, by simp⟩
  · refine (rnew_good wc lim h.1 h.2).mono ?_
    rintro e w' ⟨rb, he, g1, g2, g3⟩
    obtain ⟨d1, d2⟩ := duo_new h1 h2 h3 h4 h5 g1 g2 g3
    exact ⟨_, he, _, .inr ⟨tb, rb, rfl, rfl, d1⟩, h2.trans g2 (by simp), d2⟩
theorem box5 {w : World} {n : Nat} {a b c d : Value} {t : TypeId} (h : w.heap[n]? = some (.cells #[a, b, c, d] t (0, 0))) : w.cell? ⟨n, 0, none⟩ = some a ∧ w.cell? ⟨n, 1, none⟩ = some b ∧ w.cell? ⟨n, 2, none⟩ = some c ∧ w.cell? ⟨n, 3, none⟩ = some d ∧ n < w.heap.size := by
  refine ⟨?_, ?_, ?_, ?_, (Array.getElem?_eq_some_iff.1 h).1⟩ <;> simp [World.cell?, h]

def NewPost2 (w w' : World) (lim : Int) (e : Ending) : Prop := ∃ v c, e = .returned (.tuple #[v, .int .i64 c]) ∧ Fresh w w' lim v c

def Test1 (u8 u10 v81 : Value) : Prop := (v81 = .bool true ∧ ∃ tb rb, u8 = .pointer (some ⟨tb, 0, none⟩) ∧ u10 = .pointer (some ⟨rb, 0, none⟩)) ∨ v81 = .bool false
theorem Fresh.touch {w wc : World} {lim : Int} {v : Value} {c : Int} (h : Fresh w wc lim v c) : Touch [] w wc := by
  rcases h with ⟨_, _, _, h⟩ | ⟨_, _, _, _, _, _, _, h, _⟩ <;> exact h
def BoxAt (w : World) (n : Nat) (kd on id at_ : Int) : Prop := w.heap[n]? = some (.cells #[.int .i64 kd, .int .i64 on, .int .i64 id, .int .i64 at_] 54 (0, 0))
theorem BoxAt.kept {w w' : World} {n : Nat} {kd on id at_ : Int} (h : BoxAt w n kd on id at_) {S : List Nat} (t : Touch S w w') (hn : n ∉ S) : BoxAt w' n kd on id at_ :=
  (t.block n (Array.getElem?_eq_some_iff.1 h).1 hn).trans h
set_option maxHeartbeats 4000000 in
set_option maxRecDepth 100000 in
theorem walk_plays (w : World) (l1 l2 : Int) (A : Option Addr) (n cap : Nat) (f : Nat → Int × Int × Int × Int) (hr : RdOps w A n f) :
    Calls Try.prog 6 #[.int .i64 l1, .int .i64 l2, .slice A n cap] w fun e w' => e = .returned (.bool true) ∧ Touch [] w w' := by
  have hn := hr.1
  have HR := Lib.hid hr
  clear hr
  go_enter Try.func6, Try.ntmps6
  go_upto_region 4 with (go_at_call 10; refine (begun_calls _).mono ?_; rintro e w0 ⟨rfl, ht0⟩)
  go_cut [8, 9] (fun v8 v9 wc => ∃ c : Int, v9 = .int .i64 c ∧ Hid (Fresh w0 wc l1 v8 c))
  case first =>
    go_wp2_with fail
    refine (new_any _ l1).mono ?_
    rintro e w1 ⟨v, c, rfl, hF⟩
    have HF := Lib.hid hF
    clear hF
    go_wp2
    go_meet
    case rel => exact ⟨c, rfl, HF⟩
  case rest =>
  obtain ⟨c1, rfl, hF1⟩ := hcut
  obtain ⟨wa, rfl⟩ : ∃ wa : World, wa = wc := ⟨_, rfl⟩
  go_upto_region 5 with (fail)
  go_cut [10, 11] (fun v10 v11 wd => v11 = .int .i64 c1 ∧ Hid (FreshBoth w0 wd l1 u8 v10))
  case first =>
    go_wp2_with fail
    refine (rnew_any _ _ l1 _ _ hF1.out).mono ?_
    rintro e w1 ⟨u, rfl, hB⟩
    have HB := Lib.hid hB
    clear hB
    go_wp2
    go_meet
    case rel => exact ⟨rfl, HB⟩
  case rest =>
  obtain ⟨rfl, hB1⟩ := hcut
  obtain ⟨wb, rfl⟩ : ∃ wb : World, wb = wc := ⟨_, rfl⟩
  clear hF1
  go_upto_region 6 with (fail)
  go_cut [12, 13] (fun v12 v13 wc => ∃ c : Int, v13 = .int .i64 c ∧ Hid (Fresh wb wc l2 v12 c))
  case first =>
    go_wp2_with fail
    refine (new_any _ l2).mono ?_
    rintro e w1 ⟨v, c, rfl, hF⟩
    have HF := Lib.hid hF
    clear hF
    go_wp2
    go_meet
    case rel => exact ⟨c, rfl, HF⟩
  case rest =>
  obtain ⟨c2, rfl, hF2⟩ := hcut
  obtain ⟨wd, rfl⟩ : ∃ wd : World, wd = wc := ⟨_, rfl⟩
  go_upto_region 7 with (fail)
  go_cut [14, 15] (fun v14 v15 we => v15 = .int .i64 c2 ∧ Hid (FreshBoth wb we l2 u12 v14))
  case first =>
    go_wp2_with fail
    refine (rnew_any _ _ l2 _ _ hF2.out).mono ?_
    rintro e w1 ⟨u, rfl, hB⟩
    have HB := Lib.hid hB
    clear hB
    go_wp2
    go_meet
    case rel => exact ⟨rfl, HB⟩
  case rest =>
  obtain ⟨rfl, hB2⟩ := hcut
  obtain ⟨we, rfl⟩ : ∃ we : World, we = wc := ⟨_, rfl⟩
  clear hF2
  have h3 : Three w l1 l2 [] u8 u10 u12 u14 (.pointer none) (.pointer none) we := by
    obtain ⟨F1, o1, t1, n1⟩ := hB1.out
    obtain ⟨F2, o2, t2, n2⟩ := hB2.out
    have hs0 := ht0.size
    have hs1 := t1.size
    refine ⟨⟨F1, F2, [], o1.kept t2 (by simp), o2, .inl ⟨rfl, rfl, rfl⟩, fun k hk => ⟨fun hx => ?_, by simp⟩, by simp, fun k hk => ⟨?_, by simp⟩⟩, (ht0.trans t1 (by simp)).trans t2 (by simp), by simp⟩
    · have := o1.lt k hk; have := n2 k hx; omega
    · rcases hk with hk | hk | hk
      · have := n1 k hk; omega
      · have := n2 k hk; omega
      · cases hk
  have H3 := Lib.hid h3
  clear h3
  go_upto_region 8 with (fail)
  go_cut [64] (fun v64 wf => v64 = .bool false ∧ wf = we)
  case first =>
    obtain ⟨F1, o1, _, _⟩ := hB1.out
    obtain ⟨F2, o2, _, _⟩ := hB2.out
    have q1 : (c1 != c1) = false := by simp
    have q2 : (c2 != c2) = false := by simp
    rcases o1 with ⟨rfl, rfl, _⟩ | ⟨tb1, rb1, rfl, rfl, _⟩ <;> rcases o2 with ⟨rfl, rfl, _⟩ | ⟨tb2, rb2, rfl, rfl, _⟩
    all_goals
      go_wp2
      go_meet
      case rel => exact ⟨rfl, rfl⟩
  case rest =>
  obtain ⟨rfl, rfl⟩ := hcut
  clear hB1 hB2
  go_wp2
  go_loopw [7, 16, 17, 18] (fun v7 v16 v17 v18 wr => ∃ k : Nat, v7 = .bool true ∧ v18 = .int .i64 k ∧ k ≤ n ∧ Hid (Three w l1 l2 [] u8 u10 u12 u14 v16 v17 wr)) (fun _ _ _ v18 _ => n - (intOf v18).toNat)
  case atStart => exact ⟨0, rfl, rfl, Nat.zero_le _, H3⟩
  case round =>
    obtain ⟨k, rfl, rfl, hk, hT⟩ := hrel
    by_cases hlt : k < n
    · obtain ⟨_, hwf, hcs⟩ := HR.out
      obtain ⟨b, off, rfl, hbw, hcell⟩ := hcs (by omega)
      obtain ⟨m0, m1, m2, m3⟩ := hcell k hlt
      obtain ⟨wid, wat⟩ := hwf k
      generalize f k = op at *
      obtain ⟨kd, on, id, at_⟩ := op
      dsimp only at m0 m1 m2 m3 wid wat
      have g0 := cell_near hT.out.touch m0
      have g1 := cell_near hT.out.touch m1
      have g2 := cell_near hT.out.touch m2
      have g3 := cell_near hT.out.touch m3
      have b1 : (k : Int) < (n : Int) := by omega
      clear m0 m1 m2 m3 hcell hcs
      have hT1 := hT.out.box (.cells #[.int .i64 kd, .int .i64 on, .int .i64 id, .int .i64 at_] 54)
      have hbx := heap_alloc_new wr (.cells #[.int .i64 kd, .int .i64 on, .int .i64 id, .int .i64 at_] 54)
      have HT1 := Lib.hid hT1
      have HBX : Hid (BoxAt (wr.alloc (.cells #[.int .i64 kd, .int .i64 on, .int .i64 id, .int .i64 at_] 54)) wr.heap.size kd on id at_) := Lib.hid hbx
      clear hT1 hbx
      obtain ⟨bo, hbo⟩ : ∃ bo, bo = wr.heap.size := ⟨_, rfl⟩
      have HBO := Lib.hid hbo
      clear hbo
      go_upto_region 16 with (fail)
      go_cut [81] (fun v81 wc => Hid (Test1 u8 u10 v81) ∧ Hid (Three w l1 l2 [wr.heap.size] u8 u10 u12 u14 u16 u17 wc) ∧ Hid (BoxAt wc wr.heap.size kd on id at_))
      case first =>
        obtain ⟨F1, F2, F3, o1, _⟩ := hT.out.all
        by_cases hon : on = 0
        · subst hon
          rcases o1 with ⟨rfl, rfl, _⟩ | ⟨tb1, rb1, rfl, rfl, _⟩
          · go_wp2
            go_meet
            case rel => exact ⟨Lib.hid (.inr rfl), HT1, HBX⟩
          · go_wp2
            go_meet
            case rel => exact ⟨Lib.hid (.inl ⟨rfl, tb1, rb1, rfl, rfl⟩), HT1, HBX⟩
        · have e1 : (on == 0) = false := by rw [beq_eq_false_iff_ne]; exact hon
          clear hon o1
          go_wp2
          go_meet
          case rel => exact ⟨Lib.hid (.inr rfl), HT1, HBX⟩
      case rest =>
      obtain ⟨hTe, hT2, hB2⟩ := hcut
      obtain ⟨wf, rfl⟩ : ∃ wf : World, wf = wc := ⟨_, rfl⟩
      clear HT1 HBX g0 g1 g2 g3
      go_upto_if 81 with (fail)
      go_cut [7] (fun v7 wc => v7 = .bool true ∧ Hid (Three w l1 l2 [wr.heap.size] u8 u10 u12 u14 u16 u17 wc) ∧ Hid (BoxAt wc wr.heap.size kd on id at_))
      case first =>
        obtain ⟨q0, q1, q2, q3, q4⟩ := box5 hB2.out
        rcases hTe.out with ⟨rfl, tb1, rb1, rfl, rfl⟩ | rfl
        · obtain ⟨F, hD, hnF, hnext⟩ := hT2.out.play1
          have HN := Lib.hid hnext
          go_wp2_with fail
          refine (plays_calls hD kd on id at_ wid wat).mono ?_
          rintro e wg ⟨rfl, hP⟩
          have hB3 := hB2.out.kept (by obtain ⟨F', _, h, _⟩ := hP; exact h) (hnF _ (by simp))
          have HP := Lib.hid (HN.out _ hP)
          have HB3 := Lib.hid hB3
          clear hP hB3 hD hnext
          go_wp2
          go_meet
          case rel => exact ⟨rfl, HP, HB3⟩
        · obtain ⟨F1, F2, F3, _, o2, _⟩ := hT2.out.all
          by_cases hon : on = 0
          · subst hon
            clear o2
            go_wp2
            go_meet
            case rel => exact ⟨rfl, hT2, hB2⟩
          · have e1 : (on != 0) = true := by rw [bne_iff_ne]; exact hon
            have e2 : (on == 0) = false := by rw [beq_eq_false_iff_ne]; exact hon
            clear hon
            rcases o2 with ⟨rfl, rfl, _⟩ | ⟨tb1, rb1, rfl, rfl, _⟩
            · go_wp2
              go_meet
              case rel => exact ⟨rfl, hT2, hB2⟩
            · obtain ⟨F, hD, hnF, hnext⟩ := hT2.out.play2
              have HN := Lib.hid hnext
              go_wp2_with fail
              refine (plays_calls hD kd on id at_ wid wat).mono ?_
              rintro e wg ⟨rfl, hP⟩
              have hB3 := hB2.out.kept (by obtain ⟨F', _, h, _⟩ := hP; exact h) (hnF _ (by simp))
              have HP := Lib.hid (HN.out _ hP)
              have HB3 := Lib.hid hB3
              clear hP hB3 hD hnext
              go_wp2
              go_meet
              case rel => exact ⟨rfl, HP, HB3⟩
      case rest =>
      obtain ⟨rfl, hT3, hB3⟩ := hcut
      obtain ⟨wg, rfl⟩ : ∃ wg : World, wg = wc := ⟨_, rfl⟩
      clear hTe hT2 hB2
      go_upto_if 103 with (go_at_call 11; refine (new_any _ l1).mono ?_; rintro e wh ⟨v, c, rfl, hF⟩)
      have hT4 := Lib.hid (hT3.out.near hF.touch)
      have hB4 := Lib.hid (hB3.out.kept hF.touch (by simp))
      clear hF hT3 hB3
      go_cut [7, 16, 17] (fun v7 v16 v17 wc => v7 = .bool true ∧ Hid (Three w l1 l2 [wr.heap.size] u8 u10 u12 u14 v16 v17 wc) ∧ Hid (BoxAt wc wr.heap.size kd on id at_))
      case first =>
        by_cases hm : (k : Int) = (n : Int) / 2
        · have e1 : ((k : Int) == (n : Int) / 2) = true := by rw [beq_iff_eq]; exact hm
          clear hm
          go_wp2_with fail
          refine (new_any _ l1).mono ?_
          rintro e wi ⟨v1, cc, rfl, hF⟩
          go_wp2_with fail
          refine (rnew_any _ _ l1 _ _ hF).mono ?_
          rintro e wj ⟨v2, rfl, F3, ho, htj, hFj⟩
          have hT6 := hT4.out.anew htj ho hFj
          have hB6 := hB4.out.kept htj (by simp)
          have HT6 := Lib.hid hT6
          have HB6 := Lib.hid hB6
          have ecc : (cc == cc) = true := by simp
          clear hT6 hB6 htj hFj hF
          rcases ho with ⟨rfl, rfl, _⟩ | ⟨tb1, rb1, rfl, rfl, _⟩
          · go_wp2
            go_meet
            case rel => exact ⟨rfl, HT6, HB6⟩
          · go_wp2
            go_meet
            case rel => exact ⟨rfl, HT6, HB6⟩
        · have e1 : ((k : Int) == (n : Int) / 2) = false := by rw [beq_eq_false_iff_ne]; exact hm
          clear hm
          go_wp2
          go_meet
          case rel => exact ⟨rfl, hT4, hB4⟩
      case rest =>
      obtain ⟨rfl, hT5, hB5⟩ := hcut
      obtain ⟨wk, rfl⟩ : ∃ wk : World, wk = wc := ⟨_, rfl⟩
      clear hT4 hB4
      obtain ⟨q0, q1, q2, q3, q4⟩ := box5 hB5.out
      obtain ⟨F1, F2, F3, _, _, o3, _⟩ := hT5.out.all
      rcases o3 with ⟨rfl, rfl, _⟩ | ⟨tb1, rb1, rfl, rfl, _⟩
      · go_wp2
        go_roundw
        case rel => exact ⟨k + 1, rfl, by go_num, by omega, Lib.hid hT5.out.less⟩
        case measure => simp [intOf]; omega
      · obtain ⟨F, hD, hnF, hnext⟩ := hT5.out.play3
        have HN := Lib.hid hnext
        clear hnext
        go_wp2_with fail
        refine (plays_calls hD kd on id at_ wid wat).mono ?_
        rintro e wl ⟨rfl, hP⟩
        have HP := Lib.hid (HN.out _ hP).less
        clear hP hD
        go_wp2
        go_roundw
        case rel => exact ⟨k + 1, rfl, by go_num, by omega, HP⟩
        case measure => simp [intOf]; omega
    · have b1 : ¬ (k : Int) < (n : Int) := by omega
      go_wp2
      go_ret
      exact ⟨rfl, hT.out.touch⟩
end Go.Proofs.Ytjnhldcgemcjbaa.Tm
