/- When and Next by what is held; sameInts; the two Timers side by side; plays; no condition. -/
import Derived.Test.YtjnhldcgemcjbaaQ
namespace Go.Proofs.Ytjnhldcgemcjbaa.Tm
open Go.RowKit Go.Maps
set_option linter.unusedVariables false

def WhenT (m : Int → Option Int) (id : Int) (e : Ending) : Prop := (m id = none ∧ e = .returned (.tuple #[.int .i64 0, .int .i64 3])) ∨ ∃ v, m id = some v ∧ e = .returned (.tuple #[.int .i64 v, .int .i64 0])
theorem when_calls {w : World} {tb : Nat} {S : List Nat} {lim : Int} {s : St} (h : Tim w tb S lim s) (id : Int) (hid : wfi id) :
    Calls Try.prog 16 #[.pointer (some ⟨tb, 0, none⟩), .int .i64 id] w fun e w' => WhenT (val s) id e ∧ w' = w := by
  obtain ⟨⟨V, mb, h1, rfl⟩, hok, hlim, hmax⟩ := h
  cases hf : s.f id with
  | none => exact (when_none h1 id hid hf).mono fun e w' ⟨he, hw⟩ => ⟨.inl ⟨by unfold val; rw [hf]; rfl, he⟩, hw⟩
  | some v =>
    obtain ⟨i, p, e1, h2, h3⟩ := hok.inv.back id v hf
    obtain ⟨a, b⟩ := p
    dsimp only at h3
    subst h3
    subst e1
    exact (when_some h1 a hid (i : Int) hf (by omega) a b (by simpa using h2)).mono fun e w' ⟨he, hw⟩ => ⟨.inr ⟨b, hok.inv.val_mem (List.mem_of_getElem? h2), he⟩, hw⟩

def NextT (m : Int → Option Int) (n : Nat) (e : Ending) : Prop := (n = 0 ∧ e = .returned (.tuple #[.int .i64 0, .int .i64 0, .int .i64 3])) ∨ ∃ a b, 0 < n ∧ m a = some b ∧ (∀ y v, m y = some v → le (a, b) (y, v)) ∧ e = .returned (.tuple #[.int .i64 a, .int .i64 b, .int .i64 0])
theorem next_calls {w : World} {tb : Nat} {S : List Nat} {lim : Int} {s : St} (h : Tim w tb S lim s) :
    Calls Try.prog 20 #[.pointer (some ⟨tb, 0, none⟩)] w fun e w' => NextT (val s) s.hp.length e ∧ Touch [] w w' := by
  obtain ⟨⟨V, mb, h1, rfl⟩, hok, hlim, hmax⟩ := h
  cases hs : s.hp with
  | nil => exact (next_empty h1 hs).mono fun e w' ⟨he, hw⟩ => ⟨.inl ⟨rfl, he⟩, hw⟩
  | cons x r =>
    obtain ⟨a, b⟩ := x
    refine (next_some h1 a b r hs).mono fun e w' ⟨he, hw⟩ => ⟨.inr ⟨a, b, by simp, ?_, fun y v hv => ?_, he⟩, hw⟩
    · exact hok.inv.val_mem (p := (a, b)) (by rw [hs]; simp)
    · have hm := hok.inv.val_some hv
      obtain ⟨i, hi⟩ := List.mem_iff_getElem?.1 hm
      have := hok.heap.least i (List.getElem?_eq_some_iff.1 hi).1
      rw [at0_some hi, at0_some (p := (a, b)) (by rw [hs]; rfl)] at this
      exact this

theorem IRow.formP {w : World} {base : Nat} {V : Value} {l : List Int} (h : IRow w base V l) (hl : 0 < l.length) :
    ∃ g cap, V = .slice (some ⟨g, 0, none⟩) l.length cap ∧ g < w.heap.size := by
  rcases h.2 with ⟨rfl, hn⟩ | ⟨g, cap, cur, rfl, _, hg, _⟩
  · omega
  · exact ⟨g, cap, rfl, (Array.getElem?_eq_some_iff.1 hg).1⟩

/-- Two rows of the same ints: sameInts says so. -/
theorem same_calls {w : World} {b1 b2 : Nat} {V1 V2 : Value} {l : List Int} (h1 : IRow w b1 V1 l) (h2 : IRow w b2 V2 l) :
    Calls Try.prog 17 #[V1, V2] w fun e w' => e = .returned (.bool true) ∧ Touch [] w w' := by
  obtain ⟨A1, c1, rfl⟩ := h1.form
  obtain ⟨A2, c2, rfl⟩ := h2.form
  have hlen := h1.len_le
  have e0 : ((l.length : Int) != (l.length : Int)) = false := by simp
  have H1 := Lib.hid h1
  have H2 := Lib.hid h2
  clear h1 h2
  go_enter Try.func17, Try.ntmps17
  go_wp2
  go_loopw [5] (fun v5 wr => ∃ k : Nat, v5 = .int .i64 k ∧ k ≤ l.length ∧ Hid (Touch [] w wr)) (fun v5 _ => l.length - (intOf v5).toNat)
  case atStart => exact ⟨0, rfl, by omega, Lib.hid (Touch.refl _ _)⟩
  case round =>
    obtain ⟨k, rfl, hk, hT⟩ := hrel
    by_cases hlt : k < l.length
    · have q1 := H1.out.kept hT.out (by simp)
      have q2 := H2.out.kept hT.out (by simp)
      obtain ⟨g1, cap1, hV, hg1⟩ := q1.formP (by omega)
      injection hV with hA _ hC
      subst hA hC
      obtain ⟨g2, cap2, hV2, hg2⟩ := q2.formP (by omega)
      injection hV2 with hA2 _ hC2
      subst hA2 hC2
      obtain ⟨x, hx⟩ : ∃ x, l[k]? = some x := ⟨_, List.getElem?_eq_getElem hlt⟩
      obtain ⟨m1, _⟩ := q1.cell k x hx
      obtain ⟨m2, _⟩ := q2.cell k x hx
      have n1 := fun u : Near wr => u.cell m1
      have n2 := fun u : Near wr => u.cell m2
      have b1 : (k : Int) < (l.length : Int) := by omega
      have e1 : (x != x) = false := by simp
      clear hx q1 q2
      go_wp2
      refine wp_region_near (by kernel_rfl) (by kernel_rfl) ?_
      repeat (go_big_quiet_step (fail))
      refine wpQuiet_nil ?_
      rintro _ ⟨u, rfl⟩
      have tu := hT.out.trans u.near (by simp)
      have TU := Lib.hid tu
      clear tu n1 n2
      go_wp2
      go_roundw
      case rel => exact ⟨k + 1, by go_num, by omega, TU⟩
      case measure => simp [intOf]; omega
    · have b1 : ¬ (k : Int) < (l.length : Int) := by omega
      go_wp2
      go_ret
      exact ⟨rfl, hT.out⟩

/-- A Timers and the reference's, which hold the same. -/
structure Both (w : World) (tb rb : Nat) (lim : Int) (S R : List Nat) (s : St) (l : List Pr) : Prop where
  tim : Tim w tb S lim s
  ref : RefO w rb R lim l
  apart : ∀ k ∈ S, k ∉ R
  vals : ∀ y, val s y = lval l y
  len : s.hp.length = l.length
def Duo (w : World) (tb rb : Nat) (lim : Int) (F : List Nat) : Prop := ∃ S R s l, Both w tb rb lim S R s l ∧ F = S ++ R
def DuoPost (w : World) (tb rb : Nat) (lim : Int) (F : List Nat) (w' : World) : Prop := ∃ F', Duo w' tb rb lim F' ∧ Touch F w w' ∧ ∀ k ∈ F', k ∈ F ∨ w.heap.size ≤ k

theorem both_next {w w1 w2 : World} {tb rb : Nat} {lim : Int} {S R S1 R1 : List Nat} {s s1 : St} {l l1 : List Pr} (h : Both w tb rb lim S R s l) (g1 : Goes w w1 tb S lim s1 S1) (g2 : RGoes w1 w2 rb R lim l1 R1)
    (hv : ∀ y, val s1 y = lval l1 y) (hl : s1.hp.length = l1.length) : DuoPost w tb rb lim (S ++ R) w2 := by
  have hSlt := h.tim.lt
  have hRlt := h.ref.lt
  have hS1 := g1.tim.lt
  have hap : ∀ k ∈ S1, k ∉ R1 := by
    intro k hk hk'
    have := hS1 k hk
    rcases g2.sub k hk' with h1 | h1
    · rcases g1.sub k hk with h2 | h2
      · exact h.apart k h2 h1
      · have := hRlt k h1; omega
    · omega
  have hap2 : ∀ k ∈ S1, k ∉ R := by
    intro k hk hk'
    rcases g1.sub k hk with h2 | h2
    · exact h.apart k h2 hk'
    · have := hRlt k hk'; omega
  have hsz := g1.touch.size
  refine ⟨S1 ++ R1, ⟨S1, R1, s1, l1, ⟨g1.tim.kept g2.touch hap2, g2.ref, hap, hv, hl⟩, rfl⟩, ?_, ?_⟩
  · exact (g1.touch.mono (S' := S ++ R) (fun x hx => .inl (by simp [hx]))).trans g2.touch (fun x hx => .inl (by simp [hx]))
  · intro k hk
    rcases List.mem_append.1 hk with h1 | h1
    · rcases g1.sub k h1 with h2 | h2
      · exact .inl (by simp [h2])
      · exact .inr h2
    · rcases g2.sub k h1 with h2 | h2
      · exact .inl (by simp [h2])
      · exact .inr (by omega)
theorem Both.ref_kept {w w1 : World} {tb rb : Nat} {lim : Int} {S R : List Nat} {s : St} {l : List Pr} (h : Both w tb rb lim S R s l) (t : Touch S w w1) : RefO w1 rb R lim l :=
  h.ref.kept t (fun k hk hx => h.apart k hx hk)
theorem DuoPost.near {w w1 w2 : World} {tb rb : Nat} {lim : Int} {F : List Nat} (h : DuoPost w tb rb lim F w1) (t : Touch [] w1 w2) : DuoPost w tb rb lim F w2 := by
  obtain ⟨F', ⟨S, R, s, l, hb, rfl⟩, h2, h3⟩ := h
  exact ⟨_, ⟨S, R, s, l, ⟨hb.tim.kept t (by simp), hb.ref.kept t (by simp), hb.apart, hb.vals, hb.len⟩, rfl⟩, h2.trans t (by simp), h3⟩
theorem Both.post {w w1 : World} {tb rb : Nat} {lim : Int} {S R : List Nat} {s : St} {l : List Pr} (h : Both w tb rb lim S R s l) (t : Touch [] w w1) : DuoPost w tb rb lim (S ++ R) w1 :=
  ⟨_, ⟨S, R, s, l, ⟨h.tim.kept t (by simp), h.ref.kept t (by simp), h.apart, h.vals, h.len⟩, rfl⟩, t.mono (by simp), fun k hk => .inl hk⟩
theorem Both.nextEq {w : World} {tb rb : Nat} {lim : Int} {S R : List Nat} {s : St} {l : List Pr} (h : Both w tb rb lim S R s l) {e1 e2 : Ending} (h1 : NextT (val s) s.hp.length e1) (h2 : NextR l e2) : e1 = e2 := by
  rcases h1 with ⟨hn, he⟩ | ⟨a, b, hn, hab, hmin, he⟩
  · rcases h2 with ⟨_, he2⟩ | ⟨a, b, hab, _⟩
    · rw [he, he2]
    · have := h.len; have := List.length_pos_of_mem hab; omega
  · rcases h2 with ⟨hl, _⟩ | ⟨a', b', hab', hmin', he2⟩
    · have := h.len; rw [hl, List.length_nil] at this; omega
    · rw [h.vals] at hab
      have hm1 := (lval_iff h.ref.nd a b).1 hab
      have hm2 : val s a' = some b' := by rw [h.vals]; exact (lval_iff h.ref.nd a' b').2 hab'
      have := le_anti (hmin a' b' hm2) (hmin' _ hm1)
      simp only [Prod.mk.injEq] at this
      rw [he, he2, this.1, this.2]
end Go.Proofs.Ytjnhldcgemcjbaa.Tm
