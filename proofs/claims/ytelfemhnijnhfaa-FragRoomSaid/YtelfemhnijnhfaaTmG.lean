/- Set of Timers, an id that is not held yet; no condition. -/
import Derived.Test.YtelfemhnijnhfaaTmF
import Derived.Deep.DeepMust
namespace Go.Proofs.Ytelfemhnijnhfaa.Fr.Tm
open Go.RowKit Go.Maps
set_option linter.unusedVariables false
set_option maxRecDepth 100000

theorem blk_cells {w : World} {tb : Nat} {a V m : Value} (h : w.heap[tb]? = some (.cells #[a, V, m] 144 (0, 0))) :
    w.cell? ⟨tb, 0, none⟩ = some a ∧ w.cell? ⟨tb, 1, none⟩ = some V ∧ w.cell? ⟨tb, 2, none⟩ = some m ∧ w.frozen? ⟨tb, 1, none⟩ = false ∧ tb < w.heap.size := by
  refine ⟨?_, ?_, ?_, ?_, (Array.getElem?_eq_some_iff.1 h).1⟩ <;> simp [World.cell?, World.frozen?, h]
theorem set_blk {w : World} {tb : Nat} {a V m : Value} (h : w.heap[tb]? = some (.cells #[a, V, m] 144 (0, 0))) (V' : Value) :
    (w.setCell ⟨tb, 1, none⟩ V').heap[tb]? = some (.cells #[a, V', m] 144 (0, 0)) := by
  simp [World.setCell, Array.getElem?_modify, h]
theorem PRow.ne_of {w : World} {e e' : TypeId} {V : Value} {l : List Pr} (h : PRow w e V l) (hne : e ≠ e') {tb : Nat} {c : Array Value} (hb : w.heap[tb]? = some (.cells c e' (0, 0))) : ∀ k, V.ownBlock = some k → k ≠ tb := by
  rintro k hk rfl
  rcases h.2 with ⟨rfl, _⟩ | ⟨g', cap, cur, rfl, _, hh, _⟩
  · simp [Value.ownBlock] at hk
  · simp [Value.ownBlock] at hk
    subst hk
    rw [hb] at hh
    simp at hh
    exact hne hh.2.symm
/-- The slice of a Timers is another one now: appended to. -/
theorem TimersAt.grown {w w1 : World} {tb : Nat} {V : Value} {mb : Nat} {lim : Int} {s : St} (h : TimersAt w tb V mb lim s) {V1 : Value} {l : List Pr} (hr : PRow w1 149 V1 l) (ht : Touch V.ownBlock.toList w w1) :
    TimersAt (w1.setCell ⟨tb, 1, none⟩ V1) tb V1 mb lim ⟨l, s.f, s.n⟩ ∧ Touch (foot tb V mb) w (w1.setCell ⟨tb, 1, none⟩ V1) := by
  have hgn : tb ∉ V.ownBlock.toList := fun hx => (h.g_ne tb (by simpa using hx)).1 rfl
  have hmn : mb ∉ V.ownBlock.toList := fun hx => (h.g_ne mb (by simpa using hx)).2 rfl
  have hb := (ht.block tb h.tb_lt hgn).trans h.blk
  have hne := hr.ne_of (by decide) hb
  have t1 : Touch [tb] w1 (w1.setCell ⟨tb, 1, none⟩ V1) := (Touch.refl [tb] w1).setCell _ _ (.inl (by simp))
  refine ⟨⟨set_blk hb V1, hr.kept t1 (fun k hk => by simp; exact hne k hk), (h.map.kept ht hmn).kept t1 (by simp; exact h.mb_ne)⟩, ?_⟩
  exact (ht.mono (S' := foot tb V mb) (fun x hx => .inl (by simp [foot] at hx ⊢; simp [hx]))).trans t1 (fun x hx => .inl (by simp at hx; simp [foot, hx]))
theorem set_full {w : World} {tb : Nat} {S : List Nat} {lim : Int} {s : St} (hT : Tim w tb S lim s) (id at_ : Int) (hid : wfi id) (hf : s.f id = none) (hL : (s.hp.length : Int) = lim) :
    Calls Try.prog 51 #[.pointer (some ⟨tb, 0, none⟩), .int .i64 id, .int .i64 at_] w (SetPost w tb S lim s id at_) := by
  have hT0 := hT
  obtain ⟨⟨V, mb, h, rfl⟩, hok, hlim, hmax⟩ := hT
  obtain ⟨A, cap, rfl⟩ := h.row.form
  obtain ⟨c0, c1, c2, f1⟩ := h.cells
  have hl := (h.map.look id hid).1
  rw [hf] at hl
  simp only [Option.getD_none, Option.isSome_none] at hl
  have HFin : ∀ w', Touch [] w w' → SetPost w tb (foot tb (.slice A s.hp.length cap) mb) lim s id at_ (.returned (.int .i64 4)) w' := by
    intro w' t
    exact ⟨s, _, ⟨⟨⟨_, mb, h.kept t (by simp), rfl⟩, hok, hlim, hmax⟩, t.mono (by simp), fun k hk => .inl hk⟩, .inl ⟨by rw [val_isSome hok.inv, hf]; rfl, hL, rfl, rfl⟩⟩
  have HFIN := Lib.hid HFin
  have n1 := fun u : Near w => u.cell c0
  have n2 := fun u : Near w => u.cell c1
  have hd : lim ≤ (s.hp.length : Int) := by omega
  have hd2 : decide (lim ≤ (s.hp.length : Int)) = true := by rw [decide_eq_true_eq]; exact hd
  clear HFin hf hL hT0
  go_enter Try.func51, Try.ntmps51
  go_wp2
  refine wp_region_near (by kernel_rfl) (by kernel_rfl) ?_
  repeat (go_big_quiet_step (fail))
  refine wpQuiet_nil ?_
  rintro _ ⟨u, rfl⟩
  go_wp2
  go_ret
  exact HFIN.out _ u.near

set_option maxHeartbeats 1000000 in
theorem set_new {w : World} {tb : Nat} {S : List Nat} {lim : Int} {s : St} (hT : Tim w tb S lim s) (id at_ : Int) (hid : wfi id) (hat : wfi at_) (hf : s.f id = none) (hL : (s.hp.length : Int) < lim) :
    Calls Try.prog 51 #[.pointer (some ⟨tb, 0, none⟩), .int .i64 id, .int .i64 at_] w (SetPost w tb S lim s id at_) := by
  obtain ⟨⟨V, mb, h, rfl⟩, hok, hlim, hmax⟩ := hT
  obtain ⟨s0, hs0⟩ : ∃ s0 : St, s0 = ⟨s.hp ++ [(0, 0)], s.f, s.n⟩ := ⟨_, rfl⟩
  have hl0 : s0.hp.length = s.hp.length + 1 := by rw [hs0]; simp
  have hil : s.hp.length < s0.hp.length := by omega
  have hold : ∀ i, i < s.hp.length → s0.hp[i]? = s.hp[i]? := fun i hi => by rw [hs0]; simp [List.getElem?_append, hi]
  have hat0 : ∀ i, i < s.hp.length → at0 s0.hp i = at0 s.hp i := fun i hi => at0_some (by rw [hold i hi]; exact some_at0 hi)
  have hH : Hole s0 s.hp.length (id, at_).1 := by
    constructor
    · intro i p hi hp
      have hi2 : i < s0.hp.length := (List.getElem?_eq_some_iff.1 hp).1
      rw [hold i (by omega)] at hp
      have h1 := hok.inv.f i p hp
      refine ⟨by rw [hs0]; exact h1, fun e => ?_⟩
      rw [e] at h1
      rw [show s.f (id, at_).1 = none from hf] at h1; cases h1
    · intro y v hy hv
      rw [hs0] at hv
      obtain ⟨i, p, h1, h2, h3⟩ := hok.inv.back y v hv
      have hi2 : i < s.hp.length := (List.getElem?_eq_some_iff.1 h2).1
      exact ⟨i, p, h1, by omega, by rw [hold i hi2]; exact h2, h3⟩
  have hA : Alm s0.hp s.hp.length := by
    refine ⟨fun i i0 il hi hpi => ?_, fun i i0 il hpi h0 => by omega⟩
    rw [hat0 _ (by omega), hat0 _ (by omega)]
    exact hok.heap i i0 (by omega)
  have hv0 : ∀ y, val s0 y = val s y := by
    intro y
    unfold val
    rw [hs0]
    dsimp only
    cases hfy : s.f y with
    | none => rfl
    | some k =>
      obtain ⟨i, p, h1, h2, h3⟩ := hok.inv.back y k hfy
      have hi2 : i < s.hp.length := (List.getElem?_eq_some_iff.1 h2).1
      subst h1
      simp [List.getElem?_append, hi2]
  have hf0 : (s0.f (id, at_).1).isSome = false := by rw [hs0]; show (s.f id).isSome = false; rw [hf]; rfl
  have hn0 : s0.n = s.hp.length := by rw [hs0]; exact hok.n
  have u := placed_spec (x := (id, at_)) hH hil hA
  have hwv : ∀ y v, val s0 y = some v → wfi y ∧ wfi v := fun y v hv => hok.wf _ (hok.inv.val_some (by rw [← hv0]; exact hv))
  have hn1 : (putM s0 s.hp.length (id, at_)).n = s.hp.length + 1 := by simp only [putM, hf0]; rw [hn0]; rfl
  have hls : s.hp.length ≤ 65535 := by omega
  have hg1 : Good (putM s0 s.hp.length (id, at_)) := good_of (s0 := s0) (hH.close hil) (hH.close_val hil) ⟨hid, hat⟩ hwv (by rw [hn1]; omega)
  have hv2 : ∀ y, val (placed (id, at_) s0 s.hp.length) y = if y = (id, at_).1 then some (id, at_).2 else val s0 y := by
    intro y; rw [u.val y, hH.close_val hil y]; by_cases e : y = (id, at_).1
    · simp only [if_pos e]
    · simp only [if_neg e]
  have hg2 : Good (placed (id, at_) s0 s.hp.length) := good_of (s0 := s0) u.inv hv2 ⟨hid, hat⟩ hwv (by rw [u.same.n, hn1]; omega)
  obtain ⟨q, hq1, hq2, hq3, _⟩ := u.place
  obtain ⟨_, _, st⟩ := sunk_spec (x := (id, at_)) hH hil hA hq3
  have hok' : Ok (sunk (id, at_) (placed (id, at_) s0 s.hp.length) q) := by
    refine ⟨st.inv, st.heap, ?_, ?_, by rw [st.len, hl0]; omega⟩
    · rw [st.n, hf0, st.len, hl0, hn0]; rfl
    · exact (good_of (s0 := s0) st.inv st.val ⟨hid, hat⟩ hwv (by rw [st.n, hf0, hn0]; simp; omega)).wf
  have hvn : (val s id).isSome = false := by rw [val_isSome hok.inv, hf]; rfl
  have HFin : ∀ w' V', TimersAt w' tb V' mb lim (sunk (id, at_) (placed (id, at_) s0 s.hp.length) q) → Touch (foot tb V mb) w w' → (V'.ownBlock = V.ownBlock ∨ ∃ b, V'.ownBlock = some b ∧ w.heap.size ≤ b) → SetPost w tb (foot tb V mb) lim s id at_ (.returned (.int .i64 0)) w' := by
    intro w' V' h' t' hV'
    refine ⟨_, _, ⟨⟨⟨V', mb, h', rfl⟩, hok', by rw [st.len, hl0]; omega, hmax⟩, t', fun k hk => ?_⟩, .inr ⟨.inr hL, rfl, ?_, fun y => ?_⟩⟩
    · simp only [foot, List.mem_cons, Option.mem_toList] at hk ⊢
      rcases hk with rfl | rfl | hk
      · exact .inl (.inl rfl)
      · exact .inl (.inr (.inl rfl))
      · rcases hV' with e | ⟨b, e, hb⟩
        · exact .inl (.inr (.inr (by rw [← e]; exact hk)))
        · rw [e] at hk; cases hk; exact .inr hb
    · rw [st.len, hl0, hvn]; rfl
    · rw [st.val y, hv0 y]
  have HFIN := Lib.hid HFin
  obtain ⟨A, cap, rfl⟩ := h.row.form
  obtain ⟨c0, c1, c2, f1⟩ := h.cells
  have hl := (h.map.look id hid).1
  rw [hf] at hl
  simp only [Option.getD_none, Option.isSome_none] at hl
  have hlen1 : (putM s0 s.hp.length (id, at_)).hp.length = s.hp.length + 1 := by rw [putM_len, hl0]
  have hlen2 : (placed (id, at_) s0 s.hp.length).hp.length = s.hp.length + 1 := by rw [u.same.len, hlen1]
  have hx1 : (putM s0 s.hp.length (id, at_)).hp.getD s.hp.length (0, 0) = (id, at_) := by simp [putM, List.getD_eq_getElem?_getD, hil]
  have hx2 : (placed (id, at_) s0 s.hp.length).hp.getD q (0, 0) = (id, at_) := at0_some hq2
  have hq4 : q < s.hp.length + 1 := by omega
  have HX1 := Lib.hid hx1
  have HX2 := Lib.hid hx2
  have HL0 := Lib.hid hl0
  have HL1 := Lib.hid hlen1
  have HL2 := Lib.hid hlen2
  have HQ3 := Lib.hid hq3
  have HS0 := Lib.hid hs0
  have HN0 := Lib.hid hn0
  have hd2 : decide (lim ≤ (s.hp.length : Int)) = false := by rw [decide_eq_false_iff_not]; omega
  have n1 := fun u : Near w => u.cell c0
  have n2 := fun u : Near w => u.cell c1
  have htb := h.tb_lt
  clear HFin hok' st hq1 hq2 hq3 hv2 hwv u hA hH hf hx1 hx2 hlen1 hlen2 hs0 hl0 hold hat0 hv0 hf0 hn0 hn1 hvn hil
  go_enter Try.func51, Try.ntmps51
  go_wp2
  refine wp_region_near (by kernel_rfl) (by kernel_rfl) ?_
  repeat (go_big_quiet_step (fail))
  refine wpQuiet_nil ?_
  rintro _ ⟨u, rfl⟩
  have v0 := n1 u
  have v1 := n2 u
  have hu := h.kept u.near (by simp)
  obtain ⟨_, _, v2, g1⟩ := hu.cells
  have hutb := hu.tb_lt
  have HU := Lib.hid hu
  have hun := u.near
  have hgn : tb ∉ (Value.slice A s.hp.length cap).ownBlock.toList := fun hx => (hu.g_ne tb (by simpa using hx)).1 rfl
  clear n1 n2 hu c0 c1 c2 f1 hl
  go_wp2_with (at_builtin; go_must (refine wpList_append_pr rfl (.tmp 39) (.tmp 41) 142 149 Try.underlying142 rfl infoOne (.slice A s.hp.length cap) s.hp 0 0 rfl HU.out.row rfl (by omega) ?_); go_must (intro A1 c1 w1 hr1 ht1 hV1; have q0 := (ht1.block tb hutb hgn).trans HU.out.blk; obtain ⟨_, q1, _, q2, q3⟩ := blk_cells q0; have HR1 := Lib.hid hr1; have HV1 := Lib.hid hV1; have HQ0 := Lib.hid q0; clear hr1 hV1 q0))
  have hx := HU.out.grown HR1.out ht1
  rw [← HS0.out] at hx
  obtain ⟨h1, t1⟩ := hx
  have hii : (s.hp.length : Int) < (s0.hp.length : Int) := by rw [HL0.out]; omega
  refine (put_calls h1 (s.hp.length : Int) id at_ (by omega) hii hid (by rw [HN0.out]; omega)).mono ?_
  rintro e w2 ⟨rfl, h2, t2⟩
  rw [Int.toNat_natCast] at h2
  clear hii
  go_wp2_with fail
  refine (up_calls h2 hg1 (s.hp.length : Int) (by omega) (by rw [HL1.out]; omega)).mono ?_
  rintro e w3 ⟨rfl, h3, t3⟩
  rw [Int.toNat_natCast, HX1.out] at h3
  have h3' : TimersAt w3 tb (.slice A1 (s.hp.length + 1) c1) mb lim (placed (id, at_) s0 s.hp.length) := h3
  clear h3
  obtain ⟨d0, d1, d2, _⟩ := h3'.cells
  have hl2 := (h3'.map.look id hid).2
  rw [HQ3.out] at hl2
  simp only [Option.getD_some] at hl2
  go_wp2_with fail
  refine (down_calls h3' hg2 (q : Int) (by omega) (by rw [HL2.out]; exact_mod_cast hq4) (by rw [HL2.out]; omega)).mono ?_
  rintro e w4 ⟨rfl, h4, t4⟩
  rw [Int.toNat_natCast, HX2.out] at h4
  go_wp2
  go_ret
  refine HFIN.out _ _ h4 ?_ (HV1.out.imp (fun h => h) (fun ⟨b, e1, e2⟩ => ⟨b, e1, Nat.le_trans hun.size e2⟩))
  have hsub : ∀ x, x ∈ foot tb (.slice A1 (s.hp.length + 1) c1) mb → x ∈ foot tb (.slice A s.hp.length cap) mb ∨ u.w.heap.size ≤ x := by
    intro x hx
    simp only [foot, List.mem_cons, Option.mem_toList] at hx ⊢
    rcases hx with rfl | rfl | hx
    · exact .inl (.inl rfl)
    · exact .inl (.inr (.inl rfl))
    · rcases HV1.out with e | ⟨b, e, hb⟩
      · exact .inl (.inr (.inr (by rw [← e]; exact hx)))
      · rw [e] at hx; cases hx; exact .inr hb
  have hall := ((t1.trans t2 hsub).trans t3 hsub).trans t4 hsub
  exact (hun.mono (S' := foot tb (.slice A s.hp.length cap) mb) (by simp)).trans hall (fun x hx => .inl hx)

/-- Set, whatever the id. -/
theorem set_calls {w : World} {tb : Nat} {S : List Nat} {lim : Int} {s : St} (hT : Tim w tb S lim s) (id at_ : Int) (hid : wfi id) (hat : wfi at_) :
    Calls Try.prog 51 #[.pointer (some ⟨tb, 0, none⟩), .int .i64 id, .int .i64 at_] w (SetPost w tb S lim s id at_) := by
  cases hf : s.f id with
  | some v =>
    obtain ⟨i, p, h1, h2, h3⟩ := hT.ok.inv.back id v hf
    exact set_old hT id at_ hid hat i (by rw [hf, h1])
  | none =>
    by_cases hL : (s.hp.length : Int) < lim
    · exact set_new hT id at_ hid hat hf hL
    · exact set_full hT id at_ hid hf (by have := hT.room; omega)
end Go.Proofs.Ytelfemhnijnhfaa.Fr.Tm
