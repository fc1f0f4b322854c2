/- The assembler in memory; drop; no condition. -/
import Derived.Test.YtelfemhnijnhfaaGD
import Derived.StillTailTactics
namespace Go.Proofs.Ytelfemhnijnhfaa.Fr
open Go.RowKit Go.Maps
set_option linter.unusedVariables false
set_option linter.unusedSimpArgs false
set_option maxRecDepth 100000
attribute [local go_sem] nilB

theorem step_delete_g {w : World} {ops : Array Oper} {o : Oper} {a : Act} {K : Act → World → Prop} {Q : Exit → Act → World → Prop} {E : Prop} (hgd : o.guard = none) (m s : Operand) (t k : TypeId) (hop : o.op = Op.call { callee := Callee.builtin Builtin.delete, args := #[m, s], argTypes := #[t, k] })
    (e : TypeId) (KY : Keyed Try.prog k) (ht : Try.prog.underlying t = some (.map k e)) (b n : Nat) (f : Value → Option Value) (hm : a.eval m = .map (some b)) (h : GMap k w b f n) (x : Value) (l : Lit) (hs : a.eval s = x) (hkey : keyOf Try.prog k x = some l)
    (hK : ∀ w', GMap k w' b (updV f x none) (if (f x).isSome then n - 1 else n) → Touch [b] w w' → K (a.put o.dst (.tuple #[])) w') :
    if Region.wanted o (yielded ops a.tmps) = true then Oper.wp Try.prog o a w K Q else E := by
  have hw : Region.wanted o (yielded ops a.tmps) = true := by simp [Region.wanted, hgd]
  rw [if_pos hw]
  obtain ⟨w', hrun, r1, r2⟩ := h.drop KY ht hkey o.type
  unfold Oper.wp
  simp [execOp, hop, resolve, invoke, builtin, hm, hs, hrun, Result.andThen]
  exact hK w' r1 r2
theorem step_update_g {w : World} {ops : Array Oper} {o : Oper} {a : Act} {K : Act → World → Prop} {Q : Exit → Act → World → Prop} {E : Prop} (hgd : o.guard = none) (m s v : Operand) (t k : TypeId) (hop : o.op = Op.mapUpdate t m s v)
    (e : TypeId) (KY : Keyed Try.prog k) (ht : Try.prog.underlying t = some (.map k e)) (b n : Nat) (f : Value → Option Value) (hm : a.eval m = .map (some b)) (h : GMap k w b f n) (hn : n < 9223372036854775807) (x : Value) (l : Lit) (hs : a.eval s = x) (hkey : keyOf Try.prog k x = some l) (val : Value) (hv : a.eval v = val)
    (hK : ∀ w', GMap k w' b (updV f x (some val)) (if (f x).isSome then n else n + 1) → Touch [b] w w' → K (a.put o.dst undef) w') :
    if Region.wanted o (yielded ops a.tmps) = true then Oper.wp Try.prog o a w K Q else E := by
  have hw : Region.wanted o (yielded ops a.tmps) = true := by simp [Region.wanted, hgd]
  rw [if_pos hw]
  obtain ⟨w', hrun, r1, r2⟩ := h.store KY ht hkey val hn
  unfold Oper.wp
  simp [execOp, hop, hm, hs, hv, hrun, Result.andThen]
  exact hK w' r1 r2

structure ASt where
  room : Int
  life : Int
  now : Int
  began : Int
  g : K4 → Option (Nat × Dg)
  n : Nat
open Classical in
noncomputable def updK (g : K4 → Option (Nat × Dg)) (K : K4) (v : Option (Nat × Dg)) : K4 → Option (Nat × Dg) := fun L => if L = K then v else g L
theorem updK_same (g : K4 → Option (Nat × Dg)) (K : K4) (v : Option (Nat × Dg)) : updK g K v K = v := by simp [updK]
theorem updK_other {g : K4 → Option (Nat × Dg)} {K L : K4} (v : Option (Nat × Dg)) (h : L ≠ K) : updK g K v L = g L := by simp [updK, h]

abbrev asmC (st : ASt) (hb kb tb : Nat) : Array Value := #[.int .i64 st.room, .int .i64 st.life, .int .i64 st.now, .int .i64 st.began, .map (some hb), .map (some kb), .pointer (some ⟨tb, 0, none⟩)]
theorem asm_cells {w : World} {k : Nat} {st : ASt} {hb kb tb : Nat} {T : TypeId} (h : w.heap[k]? = some (.cells (asmC st hb kb tb) T (0, 0))) :
    w.cell? ⟨k, 0, none⟩ = some (.int .i64 st.room) ∧ w.cell? ⟨k, 1, none⟩ = some (.int .i64 st.life) ∧ w.cell? ⟨k, 2, none⟩ = some (.int .i64 st.now) ∧ w.cell? ⟨k, 3, none⟩ = some (.int .i64 st.began) ∧
    w.cell? ⟨k, 4, none⟩ = some (.map (some hb)) ∧ w.cell? ⟨k, 5, none⟩ = some (.map (some kb)) ∧ w.cell? ⟨k, 6, none⟩ = some (.pointer (some ⟨tb, 0, none⟩)) := by
  simp [World.cell?, h]
/-- What kind of block an assembler writes. -/
def Kind (w : World) (k : Nat) : Prop := (∃ es c, w.heap[k]? = some (.map es c)) ∨ ∃ c T, w.heap[k]? = some (.cells c T (0, 0)) ∧ T ≠ 5 ∧ T ≠ 113
theorem OwB.kind {w w' : World} {V : Value} {l : List Int} (h : OwB w V l) {S : List Nat} (t : Touch S w w') (hk : ∀ k ∈ S, Kind w k) : OwB w' V l :=
  h.kept t (fun k ho hs => by
    obtain ⟨c', hc⟩ := h.row.blk _ ho
    rcases hk k hs with ⟨es, c, hm⟩ | ⟨c, T, hm, h5, _⟩
    · rw [hc] at hm; cases hm
    · rw [hc] at hm
      simp only [Option.some.injEq, Obj.cells.injEq] at hm
      exact h5 hm.2.1.symm)
theorem DgAt.kind {w w' : World} {d : Nat} {D : Dg} (h : DgAt w d D) {S : List Nat} (t : Touch S w w') (hk : ∀ k ∈ S, Kind w k) : DgAt w' d D := by
  obtain ⟨VB, VH, VO, hb, h1, h2, h3⟩ := h
  refine ⟨VB, VH, VO, touch_box t hb (fun hs => ?_), h1.kind t hk, h2.kind t hk, h3.kind t hk⟩
  rcases hk d hs with ⟨es, c, hm⟩ | ⟨c, T, hm, _, h5⟩
  · rw [hb] at hm; cases hm
  · rw [hb] at hm
    simp only [Option.some.injEq, Obj.cells.injEq] at hm
    exact h5 hm.2.1.symm
theorem kind_tim {w : World} {tb : Nat} {S : List Nat} {lim : Int} {s : Tm.St} (h : Tm.Tim w tb S lim s) : ∀ k ∈ S, Kind w k := by
  obtain ⟨⟨V, mb, h1, rfl⟩, _⟩ := h
  intro k hk
  simp only [Tm.foot, List.mem_cons, Option.mem_toList] at hk
  rcases hk with rfl | rfl | hk
  · exact .inr ⟨_, _, h1.blk, by decide, by decide⟩
  · exact .inl h1.map.isMap
  · rcases h1.row.2 with ⟨rfl, _⟩ | ⟨g', cap, cur, rfl, _, hh, _⟩
    · cases hk
    · simp only [Value.ownBlock, Option.some.injEq] at hk
      subst hk
      exact .inr ⟨_, _, hh, by decide, by decide⟩

structure Asm0 (w : World) (a hb kb tb : Nat) (TS : List Nat) (s : Tm.St) (fh fk : Value → Option Value) (st : ASt) : Prop where
  blk : w.heap[a]? = some (.cells (asmC st hb kb tb) 107 (0, 0))
  held : GMap 109 w hb fh st.n
  keys : GMap 3 w kb fk st.n
  tim : Tm.Tim w tb TS 256 s
  len : s.hp.length = st.n
  hk : hb ≠ kb
  ht : hb ∉ TS
  kt : kb ∉ TS
  at_ : a ∉ TS
  look : ∀ K : K4, K.wf → fh (kv K) = (st.g K).map fun x => .pointer (some ⟨x.1, 0, none⟩)
  each : ∀ (K : K4) (x : Nat × Dg), K.wf → st.g K = some x → DgAt w x.1 x.2 ∧ fk (.int .i64 x.2.id) = some (kv K) ∧ Tm.val s x.2.id = some x.2.until_ ∧ 0 ≤ x.2.id ∧ x.2.id ≤ 256
  back : ∀ (i : Int) (v : Value), Tm.wfi i → fk (.int .i64 i) = some v → ∃ K x, K4.wf K ∧ v = kv K ∧ st.g K = some x ∧ x.2.id = i
  due : ∀ i : Int, (Tm.val s i).isSome = true → (fk (.int .i64 i)).isSome = true
/-- Block a is an assembler that holds st; S: the blocks that it writes. -/
def AsmAt (w : World) (a : Nat) (S : List Nat) (st : ASt) : Prop :=
  ∃ hb kb tb TS s fh fk, S = a :: hb :: kb :: TS ∧ Asm0 w a hb kb tb TS s fh fk st
theorem AsmAt.kinds {w : World} {a : Nat} {S : List Nat} {st : ASt} (h : AsmAt w a S st) : ∀ k ∈ S, Kind w k := by
  obtain ⟨hb, kb, tb, TS, s, fh, fk, rfl, h⟩ := h
  intro k hk
  simp only [List.mem_cons] at hk
  rcases hk with rfl | rfl | rfl | hk
  · exact .inr ⟨_, _, h.blk, by decide, by decide⟩
  · exact .inl h.held.isMap
  · exact .inl h.keys.isMap
  · exact kind_tim h.tim k hk
theorem AsmAt.lt {w : World} {a : Nat} {S : List Nat} {st : ASt} (h : AsmAt w a S st) : ∀ k ∈ S, k < w.heap.size := by
  intro k hk
  rcases h.kinds k hk with ⟨_, _, hm⟩ | ⟨_, _, hm, _⟩ <;> exact (Array.getElem?_eq_some_iff.1 hm).1
theorem tim_kept {w w' : World} {tb : Nat} {TS : List Nat} {lim : Int} {s : Tm.St} (h : Tm.Tim w tb TS lim s) {S : List Nat} (t : Touch S w w') (hn : ∀ k ∈ TS, k ∉ S) : Tm.Tim w' tb TS lim s := by
  obtain ⟨⟨V, mb, h1, rfl⟩, h2, h3, h4⟩ := h
  exact ⟨⟨V, mb, h1.kept t hn, rfl⟩, h2, h3, h4⟩
theorem Asm0.near {w w' : World} {a hb kb tb : Nat} {TS : List Nat} {s : Tm.St} {fh fk : Value → Option Value} {st : ASt} (h : Asm0 w a hb kb tb TS s fh fk st) (t : Touch [] w w') : Asm0 w' a hb kb tb TS s fh fk st :=
  ⟨touch_box t h.blk (by simp), h.held.kept t (by simp), h.keys.kept t (by simp), tim_kept h.tim t (by simp), h.len, h.hk, h.ht, h.kt, h.at_, h.look, fun K x hK hx => by
    obtain ⟨h1, h2⟩ := h.each K x hK hx
    exact ⟨h1.near t, h2⟩, h.back, h.due⟩
theorem AsmAt.near {w w' : World} {a : Nat} {S : List Nat} {st : ASt} (h : AsmAt w a S st) (t : Touch [] w w') : AsmAt w' a S st := by
  obtain ⟨hb, kb, tb, TS, s, fh, fk, rfl, h⟩ := h
  exact ⟨hb, kb, tb, TS, s, fh, fk, rfl, h.near t⟩
theorem Asm0.ab {w : World} {a hb kb tb : Nat} {TS : List Nat} {s : Tm.St} {fh fk : Value → Option Value} {st : ASt} (h : Asm0 w a hb kb tb TS s fh fk st) : a ≠ hb ∧ a ≠ kb := by
  obtain ⟨es, c, hm⟩ := h.held.isMap
  obtain ⟨es', c', hm'⟩ := h.keys.isMap
  constructor
  · rintro rfl; rw [h.blk] at hm; cases hm
  · rintro rfl; rw [h.blk] at hm'; cases hm'
/-- One that is held goes. -/
noncomputable def gone (st : ASt) (K : K4) : ASt := { st with g := updK st.g K none, n := if (st.g K).isSome then st.n - 1 else st.n }
theorem gone_none {st : ASt} {K : K4} (h : st.g K = none) : gone st K = st := by
  obtain ⟨r, l, w, b, g, n⟩ := st
  have e : updK g K none = g := by
    funext L
    by_cases hL : L = K
    · subst hL; rw [updK_same]; exact h.symm
    · rw [updK_other _ hL]
  have h' : g K = none := h
  unfold gone
  simp [h', e]
/-- The plain heart of drop: the three parts without one datagram. -/
theorem Asm0.drop {w w1 w2 w3 : World} {a hb kb tb : Nat} {TS : List Nat} {s s' : Tm.St} {fh fk : Value → Option Value} {st : ASt} (h : Asm0 w a hb kb tb TS s fh fk st) {K : K4} (hK : K.wf) {x : Nat × Dg} (hx : st.g K = some x)
    (h1 : Tm.Tim w1 tb TS 256 s') (t1 : Touch TS w w1) (hl : s'.hp.length = s.hp.length - 1) (hv : ∀ y, Tm.val s' y = if y = x.2.id then none else Tm.val s y)
    (h2 : GMap 3 w2 kb (updV fk (.int .i64 x.2.id) none) (st.n - 1)) (t2 : Touch [kb] w1 w2) (h3 : GMap 109 w3 hb (updV fh (kv K) none) (st.n - 1)) (t3 : Touch [hb] w2 w3) :
    Asm0 w3 a hb kb tb TS s' (updV fh (kv K) none) (updV fk (.int .i64 x.2.id) none) (gone st K) ∧ Touch (a :: hb :: kb :: TS) w w3 := by
  have hA : AsmAt w a (a :: hb :: kb :: TS) st := ⟨hb, kb, tb, TS, s, fh, fk, rfl, h⟩
  obtain ⟨ab1, ab2⟩ := h.ab
  have tt : Touch (hb :: kb :: TS) w w3 := ((t1.mono (S' := hb :: kb :: TS) (fun k hk => .inl (by simp [hk]))).trans t2 (fun k hk => .inl (by simp at hk; simp [hk]))).trans t3 (fun k hk => .inl (by simp at hk; simp [hk]))
  have ta : Touch (a :: hb :: kb :: TS) w w3 := tt.mono (fun k hk => .inl (by simp at hk; simp; exact .inr hk))
  have hn : (gone st K).n = st.n - 1 := by simp [gone, hx]
  have e1 := h.each K x hK hx
  refine ⟨⟨?_, by rw [hn]; exact h3, by rw [hn]; exact h2.kept t3 (by simp; exact fun e => h.hk e.symm), tim_kept (tim_kept h1 t2 (fun k hk => by simp; rintro rfl; exact h.kt hk)) t3 (fun k hk => by simp; rintro rfl; exact h.ht hk), by rw [hn, hl, h.len], h.hk, h.ht, h.kt, h.at_, ?_, ?_, ?_, ?_⟩, ta⟩
  · exact touch_box tt h.blk (by simp; exact ⟨ab1, ab2, h.at_⟩)
  · intro L hL
    by_cases e : L = K
    · subst e
      rw [updV_same]
      simp [gone, updK_same]
    · rw [updV_other _ (fun e' => e (kv_inj e')), h.look L hL]
      simp [gone, updK_other _ e]
  · intro L y hL hy
    have e : L ≠ K := by rintro rfl; simp [gone, updK_same] at hy
    have hy' : st.g L = some y := by simpa [gone, updK_other _ e] using hy
    obtain ⟨q1, q2, q3, q4⟩ := h.each L y hL hy'
    have hid : y.2.id ≠ x.2.id := by
      intro he
      rw [he, e1.2.1] at q2
      exact e (kv_inj (Option.some.inj q2)).symm
    refine ⟨q1.kind ta hA.kinds, ?_, ?_, q4⟩
    · rw [updV_other _ (by intro he; simp at he; exact hid he)]
      exact q2
    · rw [hv, if_neg hid]; exact q3
  · intro i v hi hv'
    have hne : (.int .i64 i : Value) ≠ .int .i64 x.2.id := by intro he; rw [he, updV_same] at hv'; cases hv'
    rw [updV_other _ hne] at hv'
    obtain ⟨L, y, hL, rfl, hy, hyi⟩ := h.back i v hi hv'
    have e : L ≠ K := by
      rintro rfl
      rw [hx] at hy
      cases hy
      exact hne (by rw [hyi])
    exact ⟨L, y, hL, rfl, by simpa [gone, updK_other _ e] using hy, hyi⟩
  · intro i hi
    rw [hv] at hi
    by_cases e : i = x.2.id
    · rw [if_pos e] at hi; cases hi
    · rw [if_neg e] at hi
      rw [updV_other _ (by intro he; simp at he; exact e he)]
      exact h.due i hi
set_option maxHeartbeats 2000000 in
theorem adrop_calls {w : World} {a : Nat} {S : List Nat} {st : ASt} (h : AsmAt w a S st) {K : K4} (hK : K.wf) :
    Calls Try.prog 43 #[.pointer (some ⟨a, 0, none⟩), kv K] w fun e w' => e = .returned (.tuple #[]) ∧ AsmAt w' a S (gone st K) ∧ Touch S w w' := by
  obtain ⟨hb, kb, tb, TS, s, fh, fk, rfl, h⟩ := h
  obtain ⟨kl, hkl⟩ := key_some hK
  have HKL := Lib.hid hkl
  have HK := Lib.hid hK
  obtain ⟨KK, hKK⟩ : ∃ KK, KK = K := ⟨_, rfl⟩
  have HKK := Lib.hid hKK
  rw [← hKK] at HKL HK
  rw [← hKK]
  clear hKK hkl hK
  obtain ⟨ks, kd, kp, ki⟩ := K
  have HKV : Hid (kv KK = .agg #[.int .u32 ks, .int .u32 kd, .int .u8 kp, .int .u16 ki]) := Lib.hid (by rw [HKK.out]; rfl)
  rw [HKV.out]
  have H := Lib.hid h
  cases hg : st.g KK with
  | none =>
    have HG := Lib.hid hg
    have hfh := h.look KK HK.out
    rw [hg, HKV.out] at hfh
    have HFH : Hid (fh (.agg #[.int .u32 ks, .int .u32 kd, .int .u8 kp, .int .u16 ki]) = none) := Lib.hid hfh
    clear hg hfh h
    go_enter Try.func43, Try.ntmps43
    go_upto_region 1 with (fail)
    obtain ⟨W0, hW0⟩ : ∃ W0 : World, W0 = w.alloc (.cells #[.int .u32 ks, .int .u32 kd, .int .u8 kp, .int .u16 ki] 109) := ⟨_, rfl⟩
    rw [← hW0]
    have t0 : Touch [] w W0 := by rw [hW0]; exact (Touch.refl [] w).alloc _
    have Y0 := Lib.hid (show W0.heap[w.heap.size]? = some (.cells #[.int .u32 ks, .int .u32 kd, .int .u8 kp, .int .u16 ki] 109 (0, 0)) by rw [hW0]; exact box_at _ _)
    have A0 := Lib.hid (H.out.near t0)
    have T0 := Lib.hid t0
    obtain ⟨b0, hb0⟩ : ∃ b0, b0 = w.heap.size := ⟨_, rfl⟩
    rw [← hb0] at Y0 ⊢
    clear hb0 t0 hW0
    have ny := fun (u : Near W0) (o : Nat) (v : Value) (hv : W0.cell? ⟨b0, o, none⟩ = some v) => u.cell hv
    obtain ⟨c0, c1, c2, c3, c4, c5, c6⟩ := asm_cells A0.out.blk
    have n4 := fun u : Near W0 => u.cell c4
    have y0 := fun u : Near W0 => u.cell (show W0.cell? ⟨b0, 0, none⟩ = some (.int .u32 ks) by simp [World.cell?, Y0.out])
    have y1 := fun u : Near W0 => u.cell (show W0.cell? ⟨b0, 1, none⟩ = some (.int .u32 kd) by simp [World.cell?, Y0.out])
    have y2 := fun u : Near W0 => u.cell (show W0.cell? ⟨b0, 2, none⟩ = some (.int .u8 kp) by simp [World.cell?, Y0.out])
    have y3 := fun u : Near W0 => u.cell (show W0.cell? ⟨b0, 3, none⟩ = some (.int .u16 ki) by simp [World.cell?, Y0.out])
    have nl := fun u : Near W0 => (by
      have h1 := ((A0.out.near u.near).held.look lawKey Try.underlying104 (zeroDg u.w) HKL.out).2
      rw [HKV.out, HFH.out] at h1
      exact h1 : (Instr.lookup 104 (.map (some hb)) (.agg #[.int .u32 ks, .int .u32 kd, .int .u8 kp, .int .u16 ki]) false).run Try.prog u.w = .ok (.pointer none) u.w)
    clear ny c0 c1 c2 c3 c4 c5 c6
    refine wp_region_near (by kernel_rfl) (by kernel_rfl) ?_
    repeat (go_big_quiet_step (fail))
    refine wpQuiet_nil ?_
    rintro _ ⟨u, rfl⟩
    have T1 := Lib.hid (T0.out.trans u.near (by simp))
    clear n4 y0 y1 y2 y3 nl
    go_wp2
    refine bodyPost_ret (v := .tuple #[]) (by simp [results, Try.results43, go_sem]) rfl ?_
    exact ⟨rfl, by rw [gone_none HG.out]; exact ⟨hb, kb, tb, TS, s, fh, fk, rfl, H.out.near T1.out⟩, T1.out.mono (by simp)⟩
  | some x =>
    obtain ⟨d, D⟩ := x
    have HG := Lib.hid hg
    have hfh := h.look KK HK.out
    rw [hg, HKV.out] at hfh
    have HFH : Hid (fh (.agg #[.int .u32 ks, .int .u32 kd, .int .u8 kp, .int .u16 ki]) = some (.pointer (some ⟨d, 0, none⟩))) := Lib.hid hfh
    have he := h.each KK (d, D) HK.out hg
    have HE := Lib.hid he
    obtain ⟨did, hdid⟩ : ∃ did, did = D.id := ⟨_, rfl⟩
    have HDI := Lib.hid hdid
    have hwi : Tm.wfi did := Tm.wfi_mk (by rw [hdid]; have := he.2.2.2; dsimp only at this; omega) (by rw [hdid]; have := he.2.2.2; dsimp only at this; omega)
    have HFK : Hid ((fk (.int .i64 did)).isSome = true) := Lib.hid (by rw [hdid, he.2.1]; rfl)
    have HFI : Hid ((fh (.agg #[.int .u32 ks, .int .u32 kd, .int .u8 kp, .int .u16 ki])).isSome = true) := Lib.hid (by rw [hfh]; rfl)
    have HVS : Hid ((Tm.val s did).isSome = true) := Lib.hid (by rw [hdid, he.2.2.1]; rfl)
    clear hg hfh h he hdid
    go_enter Try.func43, Try.ntmps43
    go_upto_region 1 with (fail)
    obtain ⟨W0, hW0⟩ : ∃ W0 : World, W0 = w.alloc (.cells #[.int .u32 ks, .int .u32 kd, .int .u8 kp, .int .u16 ki] 109) := ⟨_, rfl⟩
    rw [← hW0]
    have t0 : Touch [] w W0 := by rw [hW0]; exact (Touch.refl [] w).alloc _
    have Y0 := Lib.hid (show W0.heap[w.heap.size]? = some (.cells #[.int .u32 ks, .int .u32 kd, .int .u8 kp, .int .u16 ki] 109 (0, 0)) by rw [hW0]; exact box_at _ _)
    have A0 := Lib.hid (H.out.near t0)
    have T0 := Lib.hid t0
    obtain ⟨b0, hb0⟩ : ∃ b0, b0 = w.heap.size := ⟨_, rfl⟩
    have HB0 := Lib.hid hb0
    rw [← hb0] at Y0 ⊢
    clear hb0 t0 hW0
    obtain ⟨c0, c1, c2, c3, c4, c5, c6⟩ := asm_cells A0.out.blk
    have n4 := fun u : Near W0 => u.cell c4
    have y0 := fun u : Near W0 => u.cell (show W0.cell? ⟨b0, 0, none⟩ = some (.int .u32 ks) by simp [World.cell?, Y0.out])
    have y1 := fun u : Near W0 => u.cell (show W0.cell? ⟨b0, 1, none⟩ = some (.int .u32 kd) by simp [World.cell?, Y0.out])
    have y2 := fun u : Near W0 => u.cell (show W0.cell? ⟨b0, 2, none⟩ = some (.int .u8 kp) by simp [World.cell?, Y0.out])
    have y3 := fun u : Near W0 => u.cell (show W0.cell? ⟨b0, 3, none⟩ = some (.int .u16 ki) by simp [World.cell?, Y0.out])
    have nl := fun u : Near W0 => (by
      have h1 := ((A0.out.near u.near).held.look lawKey Try.underlying104 (zeroDg u.w) HKL.out).2
      rw [HKV.out, HFH.out] at h1
      exact h1 : (Instr.lookup 104 (.map (some hb)) (.agg #[.int .u32 ks, .int .u32 kd, .int .u8 kp, .int .u16 ki]) false).run Try.prog u.w = .ok (.pointer (some ⟨d, 0, none⟩)) u.w)
    clear c0 c1 c2 c3 c4 c5 c6
    refine wp_region_near (by kernel_rfl) (by kernel_rfl) ?_
    repeat (go_big_quiet_step (fail))
    refine wpQuiet_nil ?_
    rintro _ ⟨u, rfl⟩
    obtain ⟨W1, hW1⟩ : ∃ W1, W1 = u.w := ⟨_, rfl⟩
    have A1 := Lib.hid (A0.out.near u.near)
    have Y1 := Lib.hid (touch_box u.near Y0.out (by simp))
    have T1 := Lib.hid (T0.out.trans u.near (by simp))
    rw [← hW1] at A1 Y1 T1 ⊢
    clear n4 y0 y1 y2 y3 nl hW1 A0 Y0 T0
    obtain ⟨VB, VH, VO, hd, _⟩ := HE.out.1.near T1.out
    have HD1 := Lib.hid hd
    clear hd
    go_upto_region 3 with (fail)
    go_cut [] from 13 to 21 (fun wc => ∃ s', Hid (Tm.Tim wc tb TS 256 s') ∧ Hid (Touch TS W1 wc) ∧ Hid (s'.hp.length = s.hp.length - 1) ∧ Hid (∀ y, Tm.val s' y = if y = did then none else Tm.val s y))
    case first =>
      obtain ⟨c0, c1, c2, c3, c4, c5, c6⟩ := asm_cells A1.out.blk
      obtain ⟨d0, d1, d2, d3, d4, d5, d6, d7, d8, _⟩ := dg_cells HD1.out
      dsimp only at d0
      rw [← HDI.out] at d0
      have TD := Lib.hid (tim_kept A1.out.tim (Touch.refl [] W1).drew (by simp))
      go_region_law (go_simp; go_at_call 71; refine (Tm.drop_calls TD.out did hwi).mono ?_; rintro e w2 ⟨s', k1, k2, hp⟩; rcases hp with ⟨hp, _⟩ | ⟨_, rfl, hp, _, hp'⟩; (have := HVS.out; rw [hp] at this; cases this); have K1 := Lib.hid k1; have K2 := Lib.hid k2; have K3 := Lib.hid hp; have K4 := Lib.hid hp'; clear k1 k2 hp hp')
      all_goals (try go_wp2)
      all_goals go_meet
      all_goals exact ⟨s', K1, Lib.hid ((((Touch.refl [] W1).drew).mono (by simp)).trans K2.out (fun x hx => .inl hx)), K3, K4⟩
    case rest =>
    obtain ⟨s', K1, hT2, K3, KV⟩ := hcut
    obtain ⟨W2, hw2⟩ : ∃ w2, w2 = wc := ⟨_, rfl⟩
    rw [← hw2] at K1 hT2 ⊢
    clear hw2
    have hA : AsmAt W1 a (a :: hb :: kb :: TS) st := ⟨hb, kb, tb, TS, s, fh, fk, rfl, A1.out⟩
    have hks : ∀ k ∈ a :: hb :: kb :: TS, Kind W1 k := hA.kinds
    have BLK2 := Lib.hid (touch_box hT2.out A1.out.blk A1.out.at_)
    have Y2 := Lib.hid (touch_box hT2.out Y1.out (fun h => by
      rcases hks b0 (by simp [h]) with ⟨es, c, hm⟩ | ⟨c, T, hm, h5, h6⟩
      · rw [Y1.out] at hm; cases hm
      · have h7 := H.out
        have h8 := (show AsmAt w a (a :: hb :: kb :: TS) st from ⟨hb, kb, tb, TS, s, fh, fk, rfl, h7⟩).lt b0 (by simp [h])
        have := HB0.out
        omega))
    have D2 := Lib.hid (HE.out.1.near T1.out |>.kind hT2.out (fun k hk => hks k (by simp [hk])))
    have KEY2 := Lib.hid (A1.out.keys.kept hT2.out A1.out.kt)
    have HELD2 := Lib.hid (A1.out.held.kept hT2.out A1.out.ht)
    clear hks hA
    go_upto_region 4 with (fail)
    go_cut [] from 22 to 29 (fun wc => Hid (GMap 3 wc kb (updV fk (.int .i64 did) none) (st.n - 1)) ∧ Hid (Touch [kb] W2 wc))
    case first =>
      obtain ⟨VB, VH, VO, hd, _⟩ := D2.out
      obtain ⟨c0, c1, c2, c3, c4, c5, c6⟩ := asm_cells BLK2.out
      obtain ⟨d0, d1, d2, d3, d4, d5, d6, d7, d8, _⟩ := dg_cells hd
      dsimp only at d0
      rw [← HDI.out] at d0
      have KD := Lib.hid (KEY2.out.kept (Touch.refl [] W2).drew (by simp))
      clear hd
      go_region_law (refine step_delete_g (by rfl) (.tmp 25) (.tmp 29) 105 3 (by rfl) 109 lawInt Try.underlying105 kb st.n fk (by rfl) KD.out (.int .i64 did) (.int .i64 did) (by rfl) (keyInt (Tm.wfi_bd hwi).1 (Tm.wfi_bd hwi).2) ?_; rw [if_pos HFK.out]; intro w3 k3 t3; have K3' := Lib.hid k3; have T3' := Lib.hid t3; clear k3 t3)
      all_goals (try go_wp2)
      all_goals go_meet
      all_goals exact ⟨K3', Lib.hid ((((Touch.refl [] W2).drew).mono (by simp)).trans T3'.out (fun x hx => .inl hx))⟩
    case rest =>
    obtain ⟨KEY3, hT3⟩ := hcut
    obtain ⟨W3, hw3⟩ : ∃ w3, w3 = wc := ⟨_, rfl⟩
    rw [← hw3] at KEY3 hT3 ⊢
    clear hw3
    have BLK3 := Lib.hid (touch_box hT3.out BLK2.out (by simp; exact A1.out.ab.2))
    have Y3 := Lib.hid (touch_box hT3.out Y2.out (by
      have h8 := (show AsmAt w a (a :: hb :: kb :: TS) st from ⟨hb, kb, tb, TS, s, fh, fk, rfl, H.out⟩).lt kb (by simp)
      have := HB0.out
      simp
      omega))
    have HELD3 := Lib.hid (HELD2.out.kept hT3.out (by simp; exact A1.out.hk))
    clear D2 BLK2 Y2 HELD2 KEY2
    go_upto_region 5 with (fail)
    obtain ⟨c0, c1, c2, c3, c4, c5, c6⟩ := asm_cells BLK3.out
    have y0 := (show W3.cell? ⟨b0, 0, none⟩ = some (.int .u32 ks) by simp [World.cell?, Y3.out])
    have y1 := (show W3.cell? ⟨b0, 1, none⟩ = some (.int .u32 kd) by simp [World.cell?, Y3.out])
    have y2 := (show W3.cell? ⟨b0, 2, none⟩ = some (.int .u8 kp) by simp [World.cell?, Y3.out])
    have y3 := (show W3.cell? ⟨b0, 3, none⟩ = some (.int .u16 ki) by simp [World.cell?, Y3.out])
    have KD := Lib.hid (HELD3.out.kept (Touch.refl [] W3).drew (by simp))
    go_region_law (refine step_delete_g (by rfl) (.tmp 33) (.tmp 34) 104 109 (by rfl) 111 lawKey Try.underlying104 hb st.n fh (by rfl) KD.out (.agg #[.int .u32 ks, .int .u32 kd, .int .u8 kp, .int .u16 ki]) kl (by rfl) (by rw [← HKV.out]; exact HKL.out) ?_; rw [if_pos HFI.out]; intro w4 k4 t4; have K4' := Lib.hid k4; have T4' := Lib.hid t4; clear k4 t4)
    all_goals
      have hT4 : Hid (Touch [hb] W3 w4) := Lib.hid ((((Touch.refl [] W3).drew).mono (by simp)).trans T4'.out (fun x hx => .inl hx))
      have HELD4 : Hid (GMap 109 w4 hb (updV fh (kv KK) none) (st.n - 1)) := Lib.hid (by rw [HKV.out]; exact K4'.out)
      have hfin := Lib.hid (A1.out.drop HK.out HG.out K1.out hT2.out K3.out (by dsimp only; rw [← HDI.out]; exact KV.out) (by dsimp only; rw [← HDI.out]; exact KEY3.out) hT3.out HELD4.out hT4.out)
      go_wp2
      go_end0
      exact ⟨rfl, ⟨hb, kb, tb, TS, s', _, _, rfl, hfin.out.1⟩, (T1.out.mono (by simp)).trans hfin.out.2 (fun x hx => .inl hx)⟩
end Go.Proofs.Ytelfemhnijnhfaa.Fr
