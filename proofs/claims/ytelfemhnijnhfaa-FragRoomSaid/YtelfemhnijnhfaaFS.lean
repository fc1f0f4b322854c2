/- The walk of FragSplits; no condition. -/
import Derived.Test.YtelfemhnijnhfaaFQ
namespace Go.Proofs.Ytelfemhnijnhfaa.Fr
open Go.RowKit Go.Maps
set_option linter.unusedVariables false
set_option linter.unusedSimpArgs false
set_option maxRecDepth 100000
attribute [local go_sem] nilB

structure CutE where
  p : Pk
  VO : Value
  VB : Value
  mtu : Int
abbrev cutC (x : CutE) : Array Value := #[.int .u8 x.p.h.tos, .int .u16 x.p.h.id, .bool x.p.h.df, .bool x.p.h.mf, .int .i64 x.p.h.off, .int .u8 x.p.h.ttl, .int .u8 x.p.h.proto, .int .u32 x.p.h.src, .int .u32 x.p.h.dst, x.VO, x.VB, .int .i64 x.mtu]
structure CutE.ok (w : World) (x : CutE) : Prop where
  wf : x.p.h.wf
  m : -9223372036854775808 ≤ x.mtu ∧ x.mtu ≤ 9223372036854775807
  ro : RdB w x.VO x.p.opts
  rb : RdB w x.VB x.p.body
  lo : x.p.opts.length ≤ 140737488355328
  lb : x.p.body.length ≤ 140737488355328
structure RdC (w : World) (A : Option Addr) (n : Nat) (l : List CutE) : Prop where
  len : l.length = n
  ok : ∀ x ∈ l, x.ok w
  at_ : 0 < n → ∃ b off, A = some ⟨b, off, none⟩ ∧ ∀ (i : Nat) (x : CutE), l[i]? = some x → ∀ (j : Nat) (v : Value), (cutC x).toList[j]? = some v → w.cell? ⟨b, off + i * 12 + j, none⟩ = some v
theorem cut_cells {w : World} {k : Nat} {x : CutE} {T : TypeId} (hb : w.heap[k]? = some (.cells (cutC x) T (0, 0))) :
    w.cell? ⟨k, 0, none⟩ = some (.int .u8 x.p.h.tos) ∧ w.cell? ⟨k, 1, none⟩ = some (.int .u16 x.p.h.id) ∧ w.cell? ⟨k, 2, none⟩ = some (.bool x.p.h.df) ∧ w.cell? ⟨k, 3, none⟩ = some (.bool x.p.h.mf) ∧ w.cell? ⟨k, 4, none⟩ = some (.int .i64 x.p.h.off) ∧
    w.cell? ⟨k, 5, none⟩ = some (.int .u8 x.p.h.ttl) ∧ w.cell? ⟨k, 6, none⟩ = some (.int .u8 x.p.h.proto) ∧ w.cell? ⟨k, 7, none⟩ = some (.int .u32 x.p.h.src) ∧ w.cell? ⟨k, 8, none⟩ = some (.int .u32 x.p.h.dst) ∧ w.cell? ⟨k, 9, none⟩ = some x.VO ∧ w.cell? ⟨k, 10, none⟩ = some x.VB ∧ w.cell? ⟨k, 11, none⟩ = some (.int .i64 x.mtu) := by
  simp [World.cell?, hb]
theorem PRow.cells {w : World} {A : Option Addr} {n c : Nat} {l : List PE} (h : PRow w (.slice A n c) l) (h0 : 0 < n) : ∃ g, A = some ⟨g, 0, none⟩ ∧ ∀ (i : Nat) (e : PE), l[i]? = some e → ∀ (j : Nat) (v : Value), (pkC e.1.h e.2.1 e.2.2).toList[j]? = some v → w.cell? ⟨g, i * 11 + j, none⟩ = some v := by
  obtain ⟨A', c', e⟩ := h.row.form
  simp only [Value.slice.injEq] at e
  obtain ⟨_, hn, _⟩ := e
  obtain ⟨g, c2, hV, _, hc⟩ := h.row.at_ (by omega)
  simp only [Value.slice.injEq] at hV
  exact ⟨g, hV.1, fun i e hi j v hv => hc _ _ (flatK_get l i e hi j v hv)⟩
theorem eqp_near {w0 : World} (u : Near w0) {VO VO' VB VB' : Value} {p : Pk} (ho : RdB w0 VO p.opts) (ho' : RdB w0 VO' p.opts) (hb : RdB w0 VB p.body) (hb' : RdB w0 VB' p.body) (hlo : p.opts.length ≤ 140737488355328) (hlb : p.body.length ≤ 140737488355328) :
    Calls Try.prog 14 #[.agg (pkC p.h VO VB), .agg (pkC p.h VO' VB')] u.w fun e w' => e = .returned (.bool true) ∧ ∃ x : Near w0, w' = x.w :=
  near_call u (eqp_calls (ho.near u.near) (ho'.near u.near) (hb.near u.near) (hb'.near u.near) hlo hlb)
theorem splitL_len {p : Pk} {later : List Int} {mtu : Int} : ∀ (k pos : Nat) (opts : List Int), ∀ q ∈ splitL p later mtu k pos opts, q.body.length ≤ p.body.length ∧ (q.opts = opts ∨ q.opts = later) := by
  intro k
  induction k with
  | zero => intro pos opts q hq; simp [splitL] at hq
  | succ k ih =>
    intro pos opts q hq
    unfold splitL at hq
    split at hq
    · simp only [List.mem_singleton] at hq
      subst hq
      exact ⟨by simp only [List.length_drop]; omega, .inl rfl⟩
    · rcases List.mem_cons.1 hq with rfl | hq
      · exact ⟨by simp only [List.length_take, List.length_drop]; omega, .inl rfl⟩
      · obtain ⟨h1, h2⟩ := ih _ _ q hq
        exact ⟨h1, .inr (by rcases h2 with h | h <;> exact h)⟩
theorem splitL_count {p : Pk} {later : List Int} {mtu : Int} : ∀ (k pos : Nat) (opts : List Int), (splitL p later mtu k pos opts).length ≤ k := by
  intro k
  induction k with
  | zero => intro pos opts; simp [splitL]
  | succ k ih =>
    intro pos opts
    unfold splitL
    split
    · simp
    · have := ih (pos + ((mtu - 20 - opts.length) / 8 * 8).toNat) later
      simp only [List.length_cons]; omega
theorem splitP_count (p : Pk) (mtu : Int) : (splitP p mtu).length ≤ p.body.length + 1 := by
  unfold splitP
  split
  · simp
  · exact splitL_count _ _ _
theorem splitP_len {p : Pk} {mtu : Int} (hlo : p.opts.length ≤ 140737488355328) (hlb : p.body.length ≤ 140737488355328) : ∀ q ∈ splitP p mtu, q.opts.length ≤ 140737488355328 ∧ q.body.length ≤ 140737488355328 := by
  intro q hq
  unfold splitP at hq
  by_cases he : splitE p mtu ≠ 0
  · rw [if_pos he] at hq; cases hq
  · rw [if_neg he] at hq
    obtain ⟨h1, h2⟩ := splitL_len _ _ _ q hq
    refine ⟨?_, by omega⟩
    rcases h2 with h | h
    · rw [h]; exact hlo
    · rw [h]
      have hbe : bErr p = 0 := by
        unfold splitE at he
        by_cases h68 : mtu < 68
        · rw [if_pos h68] at he; exact absurd (by decide) he
        · rw [if_neg h68] at he
          by_cases hb : bErr p = 0
          · exact hb
          · rw [if_pos hb] at he; exact absurd hb he
      obtain ⟨ha, _⟩ := bErr_zero hbe
      have := (copied_len ha).1
      omega
set_option maxHeartbeats 8000000 in
theorem splits_calls {w : World} {A : Option Addr} {n cap : Nat} {l : List CutE} (h : RdC w A n l) (hn : n ≤ 140737488355328) :
    Calls Try.prog 3 #[.slice A n cap] w fun e w' => e = .returned (.bool true) ∧ Touch [] w w' := by
  have H := Lib.hid h
  have hn4 : n < 4611686018427387904 := by omega
  clear h hn
  go_enter Try.func3, Try.ntmps3
  go_wp2
  go_loopg [3] n (fun kq v3 wr => ∃ i : Nat, v3 = .int .i64 i ∧ i ≤ n ∧ n - i ≤ kq ∧ Hid (Touch [] w wr))
  case atStart => exact ⟨0, rfl, by omega, by omega, Lib.hid (Touch.refl _ _)⟩
  case round =>
    obtain ⟨i, rfl, hi, hk, hT⟩ := hrel
    by_cases hlt : i < n
    rotate_left
    · have lt1 : ¬ (i : Int) < (n : Int) := by omega
      go_wp2
      go_ret
      exact ⟨rfl, hT.out⟩
    have lt1 : (i : Int) < (n : Int) := by omega
    obtain ⟨x, hx⟩ : ∃ x, l[i]? = some x := ⟨_, List.getElem?_eq_getElem (by rw [H.out.len]; exact hlt)⟩
    obtain ⟨b, off, hA, hc⟩ := H.out.at_ (by omega)
    have XOK := Lib.hid (H.out.ok x (List.mem_of_getElem? hx))
    obtain ⟨p, VO, VB, mtu⟩ := x
    have m0 := cell_touch hT.out (hc i _ hx 0 _ rfl) (by simp)
    have m1 := cell_touch hT.out (hc i _ hx 1 _ rfl) (by simp)
    have m2 := cell_touch hT.out (hc i _ hx 2 _ rfl) (by simp)
    have m3 := cell_touch hT.out (hc i _ hx 3 _ rfl) (by simp)
    have m4 := cell_touch hT.out (hc i _ hx 4 _ rfl) (by simp)
    have m5 := cell_touch hT.out (hc i _ hx 5 _ rfl) (by simp)
    have m6 := cell_touch hT.out (hc i _ hx 6 _ rfl) (by simp)
    have m7 := cell_touch hT.out (hc i _ hx 7 _ rfl) (by simp)
    have m8 := cell_touch hT.out (hc i _ hx 8 _ rfl) (by simp)
    have m9 := cell_touch hT.out (hc i _ hx 9 _ rfl) (by simp)
    have m10 := cell_touch hT.out (hc i _ hx 10 _ rfl) (by simp)
    have m11 := cell_touch hT.out (hc i _ hx 11 _ rfl) (by simp)
    rw [Nat.add_zero] at m0
    dsimp only at m0 m1 m2 m3 m4 m5 m6 m7 m8 m9 m10 m11
    subst hA
    obtain ⟨⟨mt1, mt2⟩⟩ := XOK.out.m |> fun h => (⟨h⟩ : Nonempty _)
    obtain ⟨AO, cO, hVO⟩ := XOK.out.ro.len_lt
    obtain ⟨AB, cB, hVB⟩ := XOK.out.rb.len_lt
    dsimp only at hVO hVB mt1 mt2
    subst hVO hVB
    clear hc hx
    go_upto_region 5 with (fail)
    obtain ⟨W4, hW4⟩ : ∃ W4 : World, W4 = wr.alloc (.cells (cutC ⟨p, .slice AO p.opts.length cO, .slice AB p.body.length cB, mtu⟩) 32) := ⟨_, rfl⟩
    rw [← hW4]
    have Z4 := Lib.hid (show W4.heap[wr.heap.size]? = some (.cells (cutC ⟨p, .slice AO p.opts.length cO, .slice AB p.body.length cB, mtu⟩) 32 (0, 0)) by rw [hW4]; exact box_at _ _)
    have T4 := Lib.hid (show Touch [] w W4 by rw [hW4]; exact hT.out.alloc _)
    have S4 : Hid (wr.heap.size < W4.heap.size) := Lib.hid (by rw [hW4]; simp)
    obtain ⟨b4, hb4⟩ : ∃ b4, b4 = wr.heap.size := ⟨_, rfl⟩
    rw [← hb4] at Z4 S4 ⊢
    clear hb4 hW4 m0 m1 m2 m3 m4 m5 m6 m7 m8 m9 m10 m11
    obtain ⟨c0, c1, c2, c3, c4, c5, c6, c7, c8, c9, c10, c11⟩ := cut_cells Z4.out
    dsimp only at c0 c1 c2 c3 c4 c5 c6 c7 c8 c9 c10 c11
    go_wp2_with fail
    refine (lcopied_calls (p := p) (XOK.out.ro.near T4.out) (XOK.out.rb.near T4.out) XOK.out.lo XOK.out.lb).mono ?_
    rintro e w5 ⟨VO5, VB5, rfl, o5, o5', _, _, _, t5⟩
    obtain ⟨A5, c5', rfl⟩ := o5.row.form
    obtain ⟨A5', c5'', rfl⟩ := o5'.row.form
    have Z5 := Lib.hid (touch_box t5 Z4.out (by simp))
    have T5 := Lib.hid (T4.out.trans t5 (by simp))
    have O5 := Lib.hid o5
    have O5' := Lib.hid o5'
    clear o5 o5' t5 c0 c1 c2 c3 c4 c5 c6 c7 c8 c9 c10 c11 Z4 T4
    go_upto_region 6 with (fail)
    obtain ⟨W6, hW6⟩ : ∃ W6 : World, W6 = w5.alloc (.cells (pkC p.h (.slice A5 p.opts.length c5') (.slice A5' p.body.length c5'')) 30) := ⟨_, rfl⟩
    rw [← hW6]
    have t6 : Touch [] w5 W6 := by rw [hW6]; exact (Touch.refl [] w5).alloc _
    have Y6 := Lib.hid (show W6.heap[w5.heap.size]? = some (.cells (pkC p.h (.slice A5 p.opts.length c5') (.slice A5' p.body.length c5'')) 30 (0, 0)) by rw [hW6]; exact box_at _ _)
    have Z6 := Lib.hid (touch_box t6 Z5.out (by simp))
    have T6 := Lib.hid (T5.out.trans t6 (by simp))
    have O6 := Lib.hid (O5.out.near t6)
    have O6' := Lib.hid (O5'.out.near t6)
    obtain ⟨b5, hb5⟩ : ∃ b5, b5 = w5.heap.size := ⟨_, rfl⟩
    rw [← hb5] at Y6 ⊢
    clear hb5 hW6 t6 Z5 T5 O5 O5'
    obtain ⟨c0, c1, c2, c3, c4, c5, c6, c7, c8, c9, c10, c11⟩ := cut_cells Z6.out
    dsimp only at c0 c1 c2 c3 c4 c5 c6 c7 c8 c9 c10 c11
    obtain ⟨d0, d1, d2, d3, d4, d5, d6, d7, d8, d9, d10⟩ := pk_cells Y6.out
    go_wp2_with fail
    refine (split_calls (p := p) O6.out.rdb O6'.out.rdb XOK.out.lo XOK.out.lb XOK.out.wf mtu mt1 mt2).mono ?_
    rintro e w7 ⟨t7, V7, l7, rfl, p7, hl7, _, _⟩
    obtain ⟨A7, c7', rfl⟩ := p7.row.form
    have P7 := Lib.hid p7
    have HL7 := Lib.hid hl7
    have Z7 := Lib.hid (touch_box t7 Z6.out (by simp))
    have Y7 := Lib.hid (touch_box t7 Y6.out (by simp))
    have T7 := Lib.hid (T6.out.trans t7 (by simp))
    have O7 := Lib.hid (O6.out.near t7)
    have O7' := Lib.hid (O6'.out.near t7)
    clear p7 hl7 t7 c0 c1 c2 c3 c4 c5 c6 c7 c8 c9 c10 c11 d0 d1 d2 d3 d4 d5 d6 d7 d8 d9 d10 Z6 Y6 T6 O6 O6'
    obtain ⟨c0, c1, c2, c3, c4, c5, c6, c7, c8, c9, c10, c11⟩ := cut_cells Z7.out
    dsimp only at c0 c1 c2 c3 c4 c5 c6 c7 c8 c9 c10 c11
    obtain ⟨ee, hee⟩ : ∃ ee, ee = splitE p mtu := ⟨_, rfl⟩
    rw [← hee]
    go_wp2_with fail
    refine (rsplit_calls (p := p) (XOK.out.ro.near T7.out) (XOK.out.rb.near T7.out) XOK.out.lo XOK.out.lb XOK.out.wf mtu mt1 mt2).mono ?_
    rintro e w8 ⟨t8, V8, l8, rfl, p8, hl8, _, _⟩
    rw [← hee]
    clear hee
    obtain ⟨A8, c8', rfl⟩ := p8.row.form
    have hll : Hid (l8.map (·.1) = l7.map (·.1)) := Lib.hid (by rw [hl8, HL7.out])
    have hlen : l8.length = l7.length := by have := congrArg List.length hll.out; simpa using this
    have P8 := Lib.hid p8
    have P78 := Lib.hid (P7.out.near t8)
    have Z8 := Lib.hid (touch_box t8 Z7.out (by simp))
    have Y8 := Lib.hid (touch_box t8 Y7.out (by simp))
    have T8 := Lib.hid (T7.out.trans t8 (by simp))
    have O8 := Lib.hid (O7.out.near t8)
    have O8' := Lib.hid (O7'.out.near t8)
    rw [hlen] at P8 ⊢
    have HLEN := Lib.hid hlen
    clear p8 hl8 t8 hlen c0 c1 c2 c3 c4 c5 c6 c7 c8 c9 c10 c11 Z7 Y7 T7 O7 O7' P7
    obtain ⟨c0, c1, c2, c3, c4, c5, c6, c7, c8, c9, c10, c11⟩ := cut_cells Z8.out
    dsimp only at c0 c1 c2 c3 c4 c5 c6 c7 c8 c9 c10 c11
    obtain ⟨d0, d1, d2, d3, d4, d5, d6, d7, d8, d9, d10⟩ := pk_cells Y8.out
    have hee1 : (ee != ee) = false := by simp
    have hlb : l7.length < 4611686018427387904 := by
      have h1 := splitP_count p mtu
      have h2 := congrArg List.length HL7.out
      rw [List.length_map] at h2
      have h3 := XOK.out.lb
      dsimp only at h3
      omega
    go_wp2_with fail
    refine (eqp_calls (p := p) O8.out.rdb (XOK.out.ro.near T8.out) O8'.out.rdb (XOK.out.rb.near T8.out) XOK.out.lo XOK.out.lb).mono ?_
    rintro e w9 ⟨rfl, t9⟩
    have P9 := Lib.hid (P78.out.near t9)
    have P9' := Lib.hid (P8.out.near t9)
    have T9 := Lib.hid (T8.out.trans t9 (by simp))
    clear t9 c0 c1 c2 c3 c4 c5 c6 c7 c8 c9 c10 c11 d0 d1 d2 d3 d4 d5 d6 d7 d8 d9 d10 Z8 Y8 T8 O8 O8' P8 P78 hee1
    revert gk
    intro g0
    intros
    rename n - i ≤ g0 => hk
    go_wp2_with fail
    go_loopg [10] l7.length (fun kq v wq => ∃ j : Nat, v = .int .i64 j ∧ j ≤ l7.length ∧ l7.length - j ≤ kq ∧ Hid (Touch [] w9 wq))
    case atStart => exact ⟨0, rfl, by omega, by omega, Lib.hid (Touch.refl _ _)⟩
    case round =>
      obtain ⟨j, rfl, hj, hjk, hTq⟩ := hrel
      by_cases hjl : j < l7.length
      · have lj : (j : Int) < (l7.length : Int) := by omega
        obtain ⟨⟨q, QO, QB⟩, he⟩ : ∃ e, l7[j]? = some e := ⟨_, List.getElem?_eq_getElem hjl⟩
        obtain ⟨⟨q', QO', QB'⟩, he'⟩ : ∃ e, l8[j]? = some e := ⟨_, List.getElem?_eq_getElem (by rw [HLEN.out]; exact hjl)⟩
        have hqq : q' = q := by
          have h1 := congrArg (fun z => z[j]?) hll.out
          simp only [List.getElem?_map, he, he', Option.map_some, Option.some.injEq] at h1
          exact h1
        subst hqq
        obtain ⟨g7, hA7, h7⟩ := P9.out.cells (by omega)
        obtain ⟨g8, hA8, h8⟩ := P9'.out.cells (by omega)
        subst hA7 hA8
        have E7 := Lib.hid (P9.out.el _ (List.mem_of_getElem? he))
        have E8 := Lib.hid (P9'.out.el _ (List.mem_of_getElem? he'))
        have QL := Lib.hid (splitP_len XOK.out.lo XOK.out.lb q' (by
          have := HL7.out
          rw [← this]
          exact List.mem_map.2 ⟨_, List.mem_of_getElem? he, rfl⟩))
        have n7 : ∀ (u : Near wr) (jj : Nat) (v : Value), (pkC q'.h QO QB).toList[jj]? = some v → u.w.cell? ⟨g7, j * 11 + jj, none⟩ = some v := fun u jj v hv => u.cell (cell_touch hTq.out (h7 j _ he jj v hv) (by simp))
        have n8 : ∀ (u : Near wr) (jj : Nat) (v : Value), (pkC q'.h QO' QB').toList[jj]? = some v → u.w.cell? ⟨g8, j * 11 + jj, none⟩ = some v := fun u jj v hv => u.cell (cell_touch hTq.out (h8 j _ he' jj v hv) (by simp))
        have x0 := fun u : Near wr => n7 u 0 _ rfl
        have y0 := fun u : Near wr => n8 u 0 _ rfl
        have x1 := fun u : Near wr => n7 u 1 _ rfl
        have y1 := fun u : Near wr => n8 u 1 _ rfl
        have x2 := fun u : Near wr => n7 u 2 _ rfl
        have y2 := fun u : Near wr => n8 u 2 _ rfl
        have x3 := fun u : Near wr => n7 u 3 _ rfl
        have y3 := fun u : Near wr => n8 u 3 _ rfl
        have x4 := fun u : Near wr => n7 u 4 _ rfl
        have y4 := fun u : Near wr => n8 u 4 _ rfl
        have x5 := fun u : Near wr => n7 u 5 _ rfl
        have y5 := fun u : Near wr => n8 u 5 _ rfl
        have x6 := fun u : Near wr => n7 u 6 _ rfl
        have y6 := fun u : Near wr => n8 u 6 _ rfl
        have x7 := fun u : Near wr => n7 u 7 _ rfl
        have y7 := fun u : Near wr => n8 u 7 _ rfl
        have x8 := fun u : Near wr => n7 u 8 _ rfl
        have y8 := fun u : Near wr => n8 u 8 _ rfl
        have x9 := fun u : Near wr => n7 u 9 _ rfl
        have y9 := fun u : Near wr => n8 u 9 _ rfl
        have x10 := fun u : Near wr => n7 u 10 _ rfl
        have y10 := fun u : Near wr => n8 u 10 _ rfl
        dsimp only [Nat.add_zero] at x0 y0 x1 y1 x2 y2 x3 y3 x4 y4 x5 y5 x6 y6 x7 y7 x8 y8 x9 y9 x10 y10
        have HE7 := Lib.hid (fun u : Near wr => eqp_near u ((E7.out.1.near hTq.out).rdb) ((E8.out.1.near hTq.out).rdb) ((E7.out.2.near hTq.out).rdb) ((E8.out.2.near hTq.out).rdb) QL.out.1 QL.out.2)
        dsimp only at HE7
        clear n7 n8 h7 h8 he he'
        go_wp2
        refine wp_region_near (by kernel_rfl) (by kernel_rfl) ?_
        repeat (go_big_quiet_step ((go_at_call 14; exact HE7.out _)))
        refine wpQuiet_nil ?_
        rintro _ ⟨u2, rfl⟩
        have TX := Lib.hid (hTq.out.trans u2.near (by simp))
        clear x0 y0 x1 y1 x2 y2 x3 y3 x4 y4 x5 y5 x6 y6 x7 y7 x8 y8 x9 y9 x10 y10 HE7
        go_wp2
        go_roundg (gk - 1)
        case rel => exact ⟨j + 1, by go_num, by omega, by omega, TX⟩
        case measure => omega
      · have lj : ¬ (j : Int) < (l7.length : Int) := by omega
        go_wp2
        go_roundg (g0 - 1)
        case rel => exact ⟨i + 1, by go_num, by omega, by omega, Lib.hid (T9.out.trans hTq.out (by simp))⟩
        case measure => omega
end Go.Proofs.Ytelfemhnijnhfaa.Fr
