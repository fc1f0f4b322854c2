/- Set of Timers; no condition. -/
import Derived.Test.YtelfemhnijnhfaaTmE
import Derived.Test.YtelfemhnijnhfaaTmM
import Derived.OwnWalk
import Derived.Deep.AppendLies
namespace Go.Proofs.Ytelfemhnijnhfaa.Fr.Tm
open Go.RowKit Go.Maps
set_option linter.unusedVariables false
set_option maxRecDepth 100000

/-- append(row, pair), the pair in a new block. -/
theorem wpList_append_pr {W : World} {ops : Array Oper} {rest : List Oper} {o : Oper} {a : Act} {Q : Exit → Act → World → Prop} (hgd : o.guard = none) (s x : Operand) (t e : TypeId) (hu : Try.prog.underlying t = some (.slice e))
    (ho : o.op = .call { callee := .builtin .append, args := #[s, x], argTypes := #[t, t] })
    (hinfo : (Try.prog.info? e).map (fun i => (i.zero, i.size, i.bytes)) = some (some (.agg #[.int .i64 0, .int .i64 0]), 2, 16))
    (V : Value) (l : List Pr) (p q : Int) (hs : a.eval s = V) (hr : PRow W e V l) (hx : a.eval x = .slice (some ⟨W.heap.size, 0, none⟩) 1 1) (hl : l.length < 4398046511104)
    (h : ∀ A' c' w', PRow w' e (.slice A' (l.length + 1) c') (l ++ [(p, q)]) → Touch V.ownBlock.toList W w' → ((Value.slice A' (l.length + 1) c').ownBlock = V.ownBlock ∨ ∃ b, (Value.slice A' (l.length + 1) c').ownBlock = some b ∧ W.heap.size ≤ b) → wpList Try.prog ops Q rest (a.put o.dst (.slice A' (l.length + 1) c')) w') :
    wpList Try.prog ops Q (o :: rest) a (W.alloc (.cells #[.int .i64 p, .int .i64 q] e)) := by
  obtain ⟨i0, hi, hz⟩ := Option.map_eq_some_iff.1 hinfo
  simp only [Prod.mk.injEq] at hz
  obtain ⟨hz0, hz1, hz2⟩ := hz
  refine wpList_append_own_at (P := Try.prog) _ hgd s x t ho 0 e i0 _ 2 16 hu hi hz0 hz1 hz2 rfl (by omega) V l.length (flat l) hs (World.ownsRow.alloc hr _) ⟨W.heap.size, 0, none⟩ 1 1 [.int .i64 p, .int .i64 q] hx rfl
    (World.news_of_block (cs := #[.int .i64 p, .int .i64 q]) (t := e) (fr := (0, 0)) (heap_alloc_new W _)) (by intro u hu; simp at hu; rcases hu with rfl | rfl <;> rfl) (by unfold maxLen; omega) (by omega) (Nat.zero_le _) ?_
  intro V' w' hown hg _ hat
  have hr' : PRow w' e V' (l ++ [(p, q)]) := by
    unfold PRow
    rw [flat_append]
    simpa [flat, cellsOf2] using hown
  obtain ⟨A', c', hV⟩ := hr'.form
  rw [List.length_append, List.length_singleton] at hV
  subst hV
  refine h A' c' w' hr' ?_ ?_
  · have g2 := (World.grownBy_alloc W (.cells #[.int .i64 p, .int .i64 q] e) V.ownBlock).trans hg
    exact ((Touch.refl V.ownBlock.toList W).grown g2 (fun k hk => .inl (by simp [hk])))
  · rcases hat with h1 | h1
    · exact .inl h1
    · exact .inr ⟨_, h1, by simp⟩

theorem infoOne : (Try.prog.info? 149).map (fun i => (i.zero, i.size, i.bytes)) = some (some (.agg #[.int .i64 0, .int .i64 0]), 2, 16) := by kernel_rfl

/-- What stands of a Timers between two calls. -/
structure Ok (s : St) : Prop where
  inv : TInv s
  heap : HeapOk s.hp
  n : s.n = s.hp.length
  wf : ∀ p ∈ s.hp, wfi p.1 ∧ wfi p.2
  len : s.hp.length ≤ 65536

theorem TInv.val_mem {s : St} (h : TInv s) {p : Pr} (hp : p ∈ s.hp) : val s p.1 = some p.2 := by
  obtain ⟨i, hi⟩ := List.mem_iff_getElem?.1 hp
  unfold val
  rw [h.f i p hi]
  simp [hi]
theorem TInv.val_some {s : St} (h : TInv s) {y v : Int} (hv : val s y = some v) : (y, v) ∈ s.hp := by
  unfold val at hv
  cases hf : s.f y with
  | none => rw [hf] at hv; cases hv
  | some k =>
    obtain ⟨i, p, h1, h2, h3⟩ := h.back y k hf
    rw [hf, h1] at hv
    simp [h2] at hv
    rw [List.mem_iff_getElem?]
    exact ⟨i, by rw [h2]; obtain ⟨a, b⟩ := p; simp at h3 hv; rw [h3, hv]⟩
theorem TInv.good {s : St} (h : TInv s) (hw : ∀ y v, val s y = some v → wfi y ∧ wfi v) (hn : s.n ≤ 65537) : Good s :=
  ⟨fun p hp => hw _ _ (h.val_mem hp), fun p hp => by obtain ⟨i, hi⟩ := List.mem_iff_getElem?.1 hp; rw [h.f i p hi]; rfl, hn⟩
theorem Ok.good {s : St} (h : Ok s) : Good s := h.inv.good (fun y v hv => h.wf _ (h.inv.val_some hv)) (by have := h.n; have := h.len; omega)
theorem val_isSome {s : St} (h : TInv s) (y : Int) : (val s y).isSome = (s.f y).isSome := by
  unfold val
  cases hf : s.f y with
  | none => rfl
  | some k =>
    obtain ⟨i, p, h1, h2, h3⟩ := h.back y k hf
    subst h1
    simp [h2]

theorem Alm.set {l : List Pr} {j : Nat} (h : Alm l j) (hj : j < l.length) (x : Pr) : Alm (l.set j x) j := by
  refine ⟨fun i i0 il hi hpi => ?_, fun i i0 il hpi h0 => ?_⟩
  · simp only [List.length_set] at il
    rw [at0_set _ _ _ _ hj, at0_set _ _ _ _ hj, if_neg hpi, if_neg hi]
    exact h.far i i0 il hi hpi
  · simp only [List.length_set] at il
    rw [at0_set _ _ _ _ hj, at0_set _ _ _ _ hj, if_neg (show ¬ (j - 1) / 2 = j by omega), if_neg (show ¬ i = j by omega)]
    exact h.near i i0 il hpi h0

/-- put, up and down of x at its place: what comes of it. -/
structure Settled (s0 : St) (x : Pr) (s3 : St) : Prop where
  inv : TInv s3
  heap : HeapOk s3.hp
  len : s3.hp.length = s0.hp.length
  n : s3.n = if (s0.f x.1).isSome then s0.n else s0.n + 1
  val : ∀ y, val s3 y = if y = x.1 then some x.2 else val s0 y

def placed (x : Pr) (s0 : St) (i : Nat) : St := upM x i (putM s0 i x) i
def sunk (x : Pr) (s2 : St) (p : Nat) : St := downM x s2.hp.length s2 p

theorem placed_spec {s0 : St} {i : Nat} {x : Pr} (hH : Hole s0 i x.1) (hi : i < s0.hp.length) (hA : Alm s0.hp i) : UpOut (putM s0 i x) x (placed x s0 i) := by
  have h1 := hH.close hi
  exact up_out x i (putM s0 i x) i (h1.hole (by simp [putM, hi])) (by simp [putM, hi]) (by simp [putM, upd]) (hA.set hi x) (Nat.le_refl _)
theorem sunk_spec {s0 : St} {i : Nat} {x : Pr} (hH : Hole s0 i x.1) (hi : i < s0.hp.length) (hA : Alm s0.hp i) {p : Nat} (hp : (placed x s0 i).f x.1 = some (p : Int)) :
    p < (placed x s0 i).hp.length ∧ (placed x s0 i).hp[p]? = some x ∧ Settled s0 x (sunk x (placed x s0 i) p) := by
  have u := placed_spec hH hi hA
  obtain ⟨p', hp1, hp2, hp3, hb⟩ := u.place
  rw [hp] at hp3
  have e : p = p' := by injection hp3 with e; omega
  subst e
  refine ⟨hp1, hp2, ?_⟩
  have hd := hb.dn hp1
  rw [at0_some hp2] at hd
  have d := down_out x (placed x s0 i).hp.length (placed x s0 i) p (u.inv.hole hp2) hp1 (by rw [hp]; rfl) hd (by omega)
  refine ⟨d.inv, d.heap, ?_, ?_, fun y => ?_⟩
  · rw [show (sunk x (placed x s0 i) p).hp.length = (placed x s0 i).hp.length from d.same.len, u.same.len]; simp [putM]
  · rw [show (sunk x (placed x s0 i) p).n = (placed x s0 i).n from d.same.n, u.same.n]; simp [putM]
  · rw [show val (sunk x (placed x s0 i) p) y = _ from d.val y, u.val y, hH.close_val hi y]
    by_cases e : y = x.1
    · simp only [if_pos e]
    · simp only [if_neg e]

theorem good_of {s0 t : St} {x : Pr} (h : TInv t) (hv : ∀ y, val t y = if y = x.1 then some x.2 else val s0 y) (hx : wfi x.1 ∧ wfi x.2) (h0 : ∀ y v, val s0 y = some v → wfi y ∧ wfi v) (hn : t.n ≤ 65537) : Good t := by
  refine h.good (fun y v hyv => ?_) hn
  rw [hv y] at hyv
  by_cases e : y = x.1
  · rw [if_pos e] at hyv; cases hyv; rw [e]; exact hx
  · rw [if_neg e] at hyv; exact h0 y v hyv

/-- A Timers that stands, with its blocks. -/
structure Tim (w : World) (tb : Nat) (S : List Nat) (lim : Int) (s : St) : Prop where
  at_ : ∃ V mb, TimersAt w tb V mb lim s ∧ S = foot tb V mb
  ok : Ok s
  room : (s.hp.length : Int) ≤ lim
  most : lim ≤ 65536

/-- The same object behind a call. -/
structure Goes (w w' : World) (tb : Nat) (S : List Nat) (lim : Int) (s' : St) (S' : List Nat) : Prop where
  tim : Tim w' tb S' lim s'
  touch : Touch S w w'
  sub : ∀ k ∈ S', k ∈ S ∨ w.heap.size ≤ k

def SetPost (w : World) (tb : Nat) (S : List Nat) (lim : Int) (s : St) (id at_ : Int) (e : Ending) (w' : World) : Prop :=
  ∃ s' S', Goes w w' tb S lim s' S' ∧
    (((val s id).isSome = false ∧ (s.hp.length : Int) = lim ∧ s' = s ∧ e = .returned (.int .i64 4)) ∨
     (((val s id).isSome = true ∨ (s.hp.length : Int) < lim) ∧ e = .returned (.int .i64 0) ∧ s'.hp.length = (if (val s id).isSome then s.hp.length else s.hp.length + 1) ∧ ∀ y, val s' y = if y = id then some at_ else val s y))

theorem ownBlock_slice (A : Option Addr) (n c n' c' : Nat) : Value.ownBlock (.slice A n c) = Value.ownBlock (.slice A n' c') := by cases A <;> rfl

set_option maxHeartbeats 1000000 in
theorem set_old {w : World} {tb : Nat} {S : List Nat} {lim : Int} {s : St} (hT : Tim w tb S lim s) (id at_ : Int) (hid : wfi id) (hat : wfi at_) (i : Nat) (hf : s.f id = some (i : Int)) :
    Calls Try.prog 51 #[.pointer (some ⟨tb, 0, none⟩), .int .i64 id, .int .i64 at_] w (SetPost w tb S lim s id at_) := by
  obtain ⟨⟨V, mb, h, rfl⟩, hok, hlim, hmax⟩ := hT
  obtain ⟨i', p, hi', hp, hpid⟩ := hok.inv.back id i hf
  have hii : i' = i := by omega
  subst hii
  have hil : i' < s.hp.length := (List.getElem?_eq_some_iff.1 hp).1
  have hH : Hole s i' (id, at_).1 := by have := hok.inv.hole hp; rw [hpid] at this; exact this
  have hA := hok.heap.alm i'
  have u := placed_spec (x := (id, at_)) hH hil hA
  have hgood := hok.good
  have hk : (s.f (id, at_).1).isSome = true := by show (s.f id).isSome = true; rw [hf]; rfl
  have hg1 : Good (putM s i' (id, at_)) := hgood.put i' (id, at_) ⟨hid, hat⟩ hk
  have hwv : ∀ y v, val s y = some v → wfi y ∧ wfi v := fun y v hv => hok.wf _ (hok.inv.val_some hv)
  have hv2 : ∀ y, val (placed (id, at_) s i') y = if y = (id, at_).1 then some (id, at_).2 else val s y := by
    intro y; rw [u.val y, hH.close_val hil y]; by_cases e : y = (id, at_).1
    · simp only [if_pos e]
    · simp only [if_neg e]
  have hg2 : Good (placed (id, at_) s i') := good_of (s0 := s) u.inv hv2 ⟨hid, hat⟩ hwv (by rw [u.same.n]; exact hg1.n)
  obtain ⟨q, hq1, hq2, hq3, _⟩ := u.place
  obtain ⟨_, _, st⟩ := sunk_spec (x := (id, at_)) hH hil hA hq3
  have hok' : Ok (sunk (id, at_) (placed (id, at_) s i') q) := by
    refine ⟨st.inv, st.heap, ?_, ?_, by rw [st.len]; exact hok.len⟩
    · rw [st.n, hk, st.len]; exact hok.n
    · exact (good_of (s0 := s) st.inv st.val ⟨hid, hat⟩ hwv (by rw [st.n, hk]; exact hgood.n)).wf
  have HFin : ∀ w', TimersAt w' tb V mb lim (sunk (id, at_) (placed (id, at_) s i') q) → Touch (foot tb V mb) w w' → SetPost w tb (foot tb V mb) lim s id at_ (.returned (.int .i64 0)) w' := by
    intro w' h' t'
    refine ⟨_, _, ⟨⟨⟨V, mb, h', rfl⟩, hok', by rw [st.len]; exact hlim, hmax⟩, t', fun k hk => .inl hk⟩, .inr ⟨.inl (by rw [val_isSome hok.inv]; exact hk), rfl, ?_, st.val⟩⟩
    rw [st.len, val_isSome hok.inv, hf]; rfl
  have HFIN := Lib.hid HFin
  obtain ⟨c0, c1, c2, f1⟩ := h.cells
  have hl := (h.map.look id hid).1
  rw [hf] at hl
  simp only [Option.getD_some, Option.isSome_some] at hl
  have hsn : s.n < 9223372036854775807 := by have := hgood.n; omega
  have hlen1 : (putM s i' (id, at_)).hp.length = s.hp.length := putM_len _ _ _
  have hlen2 : (placed (id, at_) s i').hp.length = s.hp.length := by rw [u.same.len, hlen1]
  have hx1 : (putM s i' (id, at_)).hp.getD i' (0, 0) = (id, at_) := by simp [putM, List.getD_eq_getElem?_getD, hil]
  have hx2 : (placed (id, at_) s i').hp.getD q (0, 0) = (id, at_) := at0_some hq2
  have hq4 : q < s.hp.length := by omega
  have hl0 := hok.len
  have HX1 := Lib.hid hx1
  have HX2 := Lib.hid hx2
  have HL1 := Lib.hid hlen1
  have HL2 := Lib.hid hlen2
  have HQ3 := Lib.hid hq3
  have hii : (i' : Int) < s.hp.length := by omega
  clear HFin hok' st hq1 hq2 hq3 hv2 hwv hk u hA hH hp hpid hi' hf hx1 hx2 hlen1 hlen2
  go_enter Try.func51, Try.ntmps51
  go_wp2_with fail
  refine (put_calls h (i' : Int) id at_ (by omega) hii hid hsn).mono ?_
  rintro e w1 ⟨rfl, h1, t1⟩
  rw [Int.toNat_natCast] at h1
  go_wp2_with fail
  refine (up_calls h1 hg1 (i' : Int) (by omega) (by rw [HL1.out]; exact hii)).mono ?_
  rintro e w2 ⟨rfl, h2, t2⟩
  rw [Int.toNat_natCast, HX1.out] at h2
  have h2' : TimersAt w2 tb V mb lim (placed (id, at_) s i') := h2
  clear h2
  obtain ⟨d0, d1, d2, _⟩ := h2'.cells
  have hl2 := (h2'.map.look id hid).2
  rw [show (placed (id, at_) s i').f id = some (q : Int) from HQ3.out] at hl2
  simp only [Option.getD_some] at hl2
  go_wp2_with fail
  refine (down_calls h2' hg2 (q : Int) (by omega) (by rw [HL2.out]; exact_mod_cast hq4) (by rw [HL2.out]; omega)).mono ?_
  rintro e w3 ⟨rfl, h3, t3⟩
  rw [Int.toNat_natCast, HX2.out] at h3
  go_wp2
  go_ret
  exact HFIN.out _ h3 ((t1.trans t2 (fun _ h => .inl h)).trans t3 (fun _ h => .inl h))
end Go.Proofs.Ytelfemhnijnhfaa.Fr.Tm
