/- remove, Drop and Due of Timers, by what they leave; no condition. -/
import Derived.Test.YtelfemhnijnhfaaTmH
namespace Go.Proofs.Ytelfemhnijnhfaa.Fr.Tm
open Go.RowKit Go.Maps
set_option linter.unusedVariables false
set_option maxRecDepth 100000

theorem cut_hole {s : St} (h : TInv s) {i : Nat} {x y : Pr} (hx : s.hp[i]? = some x) (hy : s.hp[s.hp.length - 1]? = some y) (hi : i < s.hp.length - 1) : Hole (cutM s x.1) i y.1 ∧ ((cutM s x.1).f y.1).isSome = true ∧ y.1 ≠ x.1 := by
  have fx := h.f i x hx
  have fy := h.f _ y hy
  have hne : y.1 ≠ x.1 := fun e => by rw [e, fx] at fy; injection fy with fy; omega
  refine ⟨⟨fun k p hk hp => ?_, fun z v hz hv => ?_⟩, ?_, hne⟩
  · simp only [cutM, List.getElem?_take] at hp
    split at hp
    · rename_i hkl
      have fp := h.f k p hp
      refine ⟨?_, fun e => by rw [e, fy] at fp; injection fp with fp; omega⟩
      simp only [cutM, upd]
      rw [if_neg (fun e => by rw [e, fx] at fp; injection fp with fp; omega)]
      exact fp
    · cases hp
  · simp only [cutM, upd] at hv
    by_cases e : z = x.1
    · rw [if_pos e] at hv; cases hv
    · rw [if_neg e] at hv
      obtain ⟨k, p, h1, h2, h3⟩ := h.back z v hv
      have hkl : k < s.hp.length := (List.getElem?_eq_some_iff.1 h2).1
      refine ⟨k, p, h1, ?_, ?_, h3⟩
      · rintro rfl; rw [hx] at h2; cases h2; exact e h3.symm
      · simp only [cutM, List.getElem?_take]
        rw [if_pos]
        · exact h2
        · have : k ≠ s.hp.length - 1 := by rintro rfl; rw [hy] at h2; cases h2; exact hz h3.symm
          omega
  · simp only [cutM, upd]
    rw [if_neg hne, fy]; rfl

theorem cut_at0 {s : St} {x : Int} {i : Nat} (hi : i < s.hp.length - 1) : at0 (cutM s x).hp i = at0 s.hp i := by
  refine at0_some ?_
  simp only [cutM, List.getElem?_take, if_pos hi]
  exact some_at0 (by omega)
theorem cut_heap {s : St} (h : HeapOk s.hp) (x : Int) : HeapOk (cutM s x).hp := by
  intro i i0 il
  have hl : (cutM s x).hp.length = s.hp.length - 1 := by simp [cutM]
  rw [cut_at0 (by omega), cut_at0 (by omega)]
  exact h i i0 (by omega)
theorem cut_val {s : St} (h : TInv s) {i : Nat} {x y : Pr} (hx : s.hp[i]? = some x) (hy : s.hp[s.hp.length - 1]? = some y) (z : Int) (hz : z ≠ y.1) : val (cutM s x.1) z = if z = x.1 then none else val s z := by
  unfold val
  simp only [cutM, upd]
  by_cases e : z = x.1
  · rw [if_pos e, if_pos e]; rfl
  · rw [if_neg e, if_neg e]
    cases hf : s.f z with
    | none => rfl
    | some k =>
      obtain ⟨j, p, h1, h2, h3⟩ := h.back z k hf
      have hkl : j < s.hp.length := (List.getElem?_eq_some_iff.1 h2).1
      have : j ≠ s.hp.length - 1 := by rintro rfl; rw [hy] at h2; cases h2; exact hz h3.symm
      subst h1
      simp only [Option.bind_some, Int.toNat_natCast, List.getElem?_take]
      rw [if_pos (by omega)]
/-- The last one itself is taken out. -/
theorem cut_last {s : St} (h : TInv s) {x : Pr} (hx : s.hp[s.hp.length - 1]? = some x) : TInv (cutM s x.1) ∧ ∀ z, val (cutM s x.1) z = if z = x.1 then none else val s z := by
  have fx := h.f _ x hx
  have hxl := (List.getElem?_eq_some_iff.1 hx).1
  refine ⟨⟨fun k p hp => ?_, fun z v hv => ?_⟩, fun z => ?_⟩
  · simp only [cutM, List.getElem?_take] at hp
    split at hp
    · rename_i hkl
      have fp := h.f k p hp
      simp only [cutM, upd]
      rw [if_neg (fun e => by rw [e, fx] at fp; injection fp with fp; omega)]
      exact fp
    · cases hp
  · simp only [cutM, upd] at hv
    by_cases e : z = x.1
    · rw [if_pos e] at hv; cases hv
    · rw [if_neg e] at hv
      obtain ⟨k, p, h1, h2, h3⟩ := h.back z v hv
      have hkl : k < s.hp.length := (List.getElem?_eq_some_iff.1 h2).1
      refine ⟨k, p, h1, ?_, h3⟩
      simp only [cutM, List.getElem?_take]
      rw [if_pos]
      · exact h2
      · have : k ≠ s.hp.length - 1 := by rintro rfl; rw [hx] at h2; cases h2; exact e h3.symm
        omega
  · by_cases e : z = x.1
    · rw [if_pos e]; unfold val; simp only [cutM, upd, if_pos e]; rfl
    · exact cut_val h hx hx z e

def RemovePost (w : World) (tb : Nat) (S : List Nat) (lim : Int) (s : St) (a b : Int) (e : Ending) (w' : World) : Prop :=
  e = .returned (.agg #[.int .i64 a, .int .i64 b]) ∧ ∃ s', Tim w' tb S lim s' ∧ Touch S w w' ∧ s'.hp.length = s.hp.length - 1 ∧ ∀ y, val s' y = if y = a then none else val s y

theorem foot_eq {tb mb : Nat} {V V' : Value} (h : V'.ownBlock = V.ownBlock) : foot tb V mb = foot tb V' mb := by unfold foot; rw [h]

theorem remove_calls {w : World} {tb : Nat} {S : List Nat} {lim : Int} {s : St} (hT : Tim w tb S lim s) (i : Nat) (a b : Int) (hp : s.hp[i]? = some (a, b)) :
    Calls Try.prog 83 #[.pointer (some ⟨tb, 0, none⟩), .int .i64 i] w (RemovePost w tb S lim s a b) := by
  obtain ⟨⟨V, mb, h, rfl⟩, hok, hlim, hmax⟩ := hT
  have hil0 : i < s.hp.length := (List.getElem?_eq_some_iff.1 hp).1
  have ha := hok.wf _ (List.mem_of_getElem? hp)
  have fa := hok.inv.f i _ hp
  have hk : (s.f a).isSome = true := by rw [show s.f a = _ from fa]; rfl
  have hsm := hok.len
  have hn := hok.n
  have hwv : ∀ y v, val s y = some v → wfi y ∧ wfi v := fun y v hv => hok.wf _ (hok.inv.val_some hv)
  have fin : ∀ s' : St, TInv s' → HeapOk s'.hp → s'.hp.length = s.hp.length - 1 → s'.n = s.n - 1 → (∀ y, val s' y = if y = a then none else val s y) →
      ∀ e w', (e = .returned (.agg #[.int .i64 a, .int .i64 b]) ∧ ∃ V', TimersAt w' tb V' mb lim s' ∧ Touch (foot tb V mb) w w' ∧ V'.ownBlock = V.ownBlock) → RemovePost w tb (foot tb V mb) lim s a b e w' := by
    rintro s' hI hH hl hn' hv e w' ⟨he, V', hT', ht, hV⟩
    refine ⟨he, s', ⟨⟨V', mb, hT', foot_eq hV⟩, ⟨hI, hH, by omega, fun p hp' => ?_, by omega⟩, by omega, hmax⟩, ht, hl, hv⟩
    have hv' := hI.val_mem hp'
    rw [hv] at hv'
    by_cases ea : p.1 = a
    · rw [if_pos ea] at hv'; cases hv'
    · rw [if_neg ea] at hv'; exact hwv _ _ hv'
  by_cases hil : i < s.hp.length - 1
  · obtain ⟨y0, y1, hy', hyp⟩ := getD_pair s.hp (s.hp.length - 1) (by omega)
    obtain ⟨hH, hky, hne⟩ := cut_hole hok.inv hp hyp hil
    have hcl : (cutM s a).hp.length = s.hp.length - 1 := by simp [cutM]
    have hci : i < (cutM s (a, b).1).hp.length := by rw [show (cutM s (a, b).1).hp.length = _ from hcl]; exact hil
    have hA : Alm (cutM s (a, b).1).hp i := (cut_heap hok.heap a).alm i
    have u := placed_spec (x := (y0, y1)) hH hci hA
    obtain ⟨q, hq1, hq2, hq3, _⟩ := u.place
    obtain ⟨_, _, st⟩ := sunk_spec (x := (y0, y1)) hH hci hA hq3
    have hwy := hok.wf _ (List.mem_of_getElem? hyp)
    have hvc : ∀ z, z ≠ y0 → val (cutM s a) z = if z = a then none else val s z := fun z hz => cut_val hok.inv hp hyp z hz
    have hwc : ∀ z v, z ≠ y0 → val (cutM s a) z = some v → wfi z ∧ wfi v := by
      intro z v hz hv
      rw [hvc z hz] at hv
      by_cases e : z = a
      · rw [if_pos e] at hv; cases hv
      · rw [if_neg e] at hv; exact hwv z v hv
    have good2 : ∀ t : St, TInv t → (∀ z, val t z = if z = y0 then some y1 else val (cutM s a) z) → t.n ≤ 65537 → Good t := by
      intro t hI hv hn2
      refine hI.good (fun z v hz => ?_) hn2
      rw [hv z] at hz
      by_cases e : z = y0
      · rw [if_pos e] at hz; cases hz; rw [e]; exact hwy
      · rw [if_neg e] at hz; exact hwc z v e hz
    have hn1 : (putM (cutM s a) i (y0, y1)).n = s.n - 1 := by simp only [putM]; rw [if_pos hky]; rfl
    have hg1 : Good (putM (cutM s a) i (y0, y1)) := good2 _ (hH.close hci) (fun z => hH.close_val hci z) (by rw [hn1]; omega)
    have hv2 : ∀ z, val (placed (y0, y1) (cutM s a) i) z = if z = y0 then some y1 else val (cutM s a) z := by
      intro z
      rw [u.val z, hH.close_val hci z]
      by_cases e : z = (y0, y1).1
      · simp only [if_pos e]
      · simp only [if_neg e]
    have hl2 : (placed (y0, y1) (cutM s a) i).hp.length = s.hp.length - 1 := by rw [u.same.len, putM_len]; exact hcl
    have hg2 : Good (placed (y0, y1) (cutM s a) i) := good2 _ u.inv hv2 (by rw [u.same.n, hn1]; omega)
    refine (remove_mid h i a b y0 y1 q hp hyp hil ha.1 hk hwy.1 hg1 hg2 hq3 (by rw [← hl2]; exact hq1) (at0_some hq2) hl2 hsm (by omega)).mono (fin _ st.inv st.heap (by rw [st.len]; exact hcl) ?_ ?_)
    · rw [st.n, if_pos hky]; rfl
    · intro z
      rw [st.val z]
      by_cases e : z = (y0, y1).1
      · rw [if_pos e, if_neg (by rw [e]; exact hne), e]
        exact (hok.inv.val_mem (List.mem_of_getElem? hyp)).symm
      · rw [if_neg e]; exact hvc z e
  · have hie : i = s.hp.length - 1 := by omega
    subst hie
    obtain ⟨hI, hv⟩ := cut_last hok.inv hp
    exact (remove_last h _ a b hp hil ha.1 hk).mono (fin _ hI (cut_heap hok.heap a) (by simp [cutM]) rfl hv)

/-! ### Drop -/
def DropPost (w : World) (tb : Nat) (S : List Nat) (lim : Int) (s : St) (id : Int) (e : Ending) (w' : World) : Prop :=
  ∃ s', Tim w' tb S lim s' ∧ Touch S w w' ∧ (((val s id) = none ∧ e = .returned (.int .i64 3) ∧ s' = s) ∨
    ((val s id).isSome = true ∧ e = .returned (.int .i64 0) ∧ s'.hp.length = s.hp.length - 1 ∧ 0 < s.hp.length ∧ ∀ y, val s' y = if y = id then none else val s y))

theorem drop_calls {w : World} {tb : Nat} {S : List Nat} {lim : Int} {s : St} (hT : Tim w tb S lim s) (id : Int) (hid : wfi id) :
    Calls Try.prog 71 #[.pointer (some ⟨tb, 0, none⟩), .int .i64 id] w (DropPost w tb S lim s id) := by
  have hT0 := Lib.hid hT
  obtain ⟨⟨V, mb, h, rfl⟩, hok, hlim, hmax⟩ := hT
  obtain ⟨c0, c1, c2, f1⟩ := h.cells
  have hl := (h.map.look id hid).1
  cases hf : s.f id with
  | none =>
    rw [hf] at hl
    simp only [Option.getD_none, Option.isSome_none] at hl
    have HF := Lib.hid hf
    clear hf
    go_enter Try.func71, Try.ntmps71
    go_wp2
    go_ret
    exact ⟨s, hT0.out, Touch.refl _ _, .inl ⟨by unfold val; rw [HF.out]; rfl, rfl, rfl⟩⟩
  | some v =>
    obtain ⟨i, p, h1, h2, h3⟩ := hok.inv.back id v hf
    obtain ⟨a, b⟩ := p
    have hv : v = (i : Int) := h1
    subst hv
    have ha : a = id := h3
    subst ha
    rw [hf] at hl
    simp only [Option.getD_some, Option.isSome_some] at hl
    have hs : (val s a).isSome = true := by rw [val_isSome hok.inv, hf]; rfl
    have h0 : 0 < s.hp.length := by have := (List.getElem?_eq_some_iff.1 h2).1; omega
    have H2 := Lib.hid h2
    have HS := Lib.hid hs
    clear hf h1 h2 h3 hs
    go_enter Try.func71, Try.ntmps71
    go_wp2_with fail
    refine (remove_calls hT0.out i a b H2.out).mono ?_
    rintro e w1 ⟨rfl, s', h4, h5, h6, h7⟩
    have H7 := Lib.hid h7
    have H6 := Lib.hid h6
    clear h6 h7
    go_wp2
    go_ret
    exact ⟨s', h4, h5, .inr ⟨HS.out, rfl, H6.out, h0, H7.out⟩⟩
end Go.Proofs.Ytelfemhnijnhfaa.Fr.Tm
