/- Datagrams in memory: clash, whole; the saturating sum; no condition. -/
import Derived.Test.YtelfemhnijnhfaaGA
namespace Go.Proofs.Ytelfemhnijnhfaa.Fr
open Go.RowKit Go.Maps
set_option linter.unusedVariables false
set_option linter.unusedSimpArgs false
set_option maxRecDepth 100000
attribute [local go_sem] nilB

structure Dg where
  id : Int
  order : Int
  until_ : Int
  bytes : List Int
  have_ : List Int
  count : Int
  length : Int
  far : Int
  first : Bool
  h : Hd
  opts : List Int
abbrev dgC (D : Dg) (VB VH VO : Value) : Array Value := #[.int .i64 D.id, .int .i64 D.order, .int .i64 D.until_, VB, VH, .int .i64 D.count, .int .i64 D.length, .int .i64 D.far, .bool D.first,
  .int .u8 D.h.tos, .int .u16 D.h.id, .bool D.h.df, .bool D.h.mf, .int .i64 D.h.off, .int .u8 D.h.ttl, .int .u8 D.h.proto, .int .u32 D.h.src, .int .u32 D.h.dst, VO]
theorem dg_cells {w : World} {k : Nat} {D : Dg} {VB VH VO : Value} {T : TypeId} (hb : w.heap[k]? = some (.cells (dgC D VB VH VO) T (0, 0))) :
    w.cell? ⟨k, 0, none⟩ = some (.int .i64 D.id) ∧ w.cell? ⟨k, 1, none⟩ = some (.int .i64 D.order) ∧ w.cell? ⟨k, 2, none⟩ = some (.int .i64 D.until_) ∧ w.cell? ⟨k, 3, none⟩ = some VB ∧ w.cell? ⟨k, 4, none⟩ = some VH ∧
    w.cell? ⟨k, 5, none⟩ = some (.int .i64 D.count) ∧ w.cell? ⟨k, 6, none⟩ = some (.int .i64 D.length) ∧ w.cell? ⟨k, 7, none⟩ = some (.int .i64 D.far) ∧ w.cell? ⟨k, 8, none⟩ = some (.bool D.first) ∧
    w.cell? ⟨k, 9, none⟩ = some (.int .u8 D.h.tos) ∧ w.cell? ⟨k, 10, none⟩ = some (.int .u16 D.h.id) ∧ w.cell? ⟨k, 11, none⟩ = some (.bool D.h.df) ∧ w.cell? ⟨k, 12, none⟩ = some (.bool D.h.mf) ∧ w.cell? ⟨k, 13, none⟩ = some (.int .i64 D.h.off) ∧
    w.cell? ⟨k, 14, none⟩ = some (.int .u8 D.h.ttl) ∧ w.cell? ⟨k, 15, none⟩ = some (.int .u8 D.h.proto) ∧ w.cell? ⟨k, 16, none⟩ = some (.int .u32 D.h.src) ∧ w.cell? ⟨k, 17, none⟩ = some (.int .u32 D.h.dst) ∧ w.cell? ⟨k, 18, none⟩ = some VO := by
  simp [World.cell?, hb]
/-- Block d is a datagram that holds D. -/
def DgAt (w : World) (d : Nat) (D : Dg) : Prop :=
  ∃ VB VH VO, w.heap[d]? = some (.cells (dgC D VB VH VO) 113 (0, 0)) ∧ OwB w VB D.bytes ∧ OwB w VH D.have_ ∧ OwB w VO D.opts
theorem DgAt.near {w w' : World} {d : Nat} {D : Dg} (h : DgAt w d D) (t : Touch [] w w') : DgAt w' d D := by
  obtain ⟨VB, VH, VO, hb, h1, h2, h3⟩ := h
  exact ⟨VB, VH, VO, touch_box t hb (by simp), h1.near t, h2.near t, h3.near t⟩
theorem DgAt.lt {w : World} {d : Nat} {D : Dg} (h : DgAt w d D) : d < w.heap.size := by
  obtain ⟨VB, VH, VO, hb, _⟩ := h
  exact (Array.getElem?_eq_some_iff.1 hb).1
def endI (p : Pk) : Int := p.h.off + p.body.length
def clashB (D : Dg) (p : Pk) : Bool := if 0 ≤ D.length then (decide (D.length < endI p) || (!p.h.mf && endI p != D.length)) else (!p.h.mf && decide (endI p < D.far))
def wholeB (D : Dg) : Bool := decide (0 ≤ D.length) && D.count == D.length
set_option maxHeartbeats 2000000 in
theorem clash_calls {w : World} {d : Nat} {D : Dg} {p : Pk} {VO VB : Value} (h : DgAt w d D) (hb : RdB w VB p.body) (hl : p.body.length ≤ 65535) (h0 : 0 ≤ p.h.off) (h1 : p.h.off ≤ 65535) :
    Calls Try.prog 44 #[.pointer (some ⟨d, 0, none⟩), .agg (pkC p.h VO VB)] w fun e w' => e = .returned (.bool (clashB D p)) ∧ Touch [] w w' := by
  obtain ⟨A, cap, rfl⟩ := hb.len_lt
  have H := Lib.hid h
  obtain ⟨⟨tos, id, df, mf, off, ttl, proto, src, dst⟩, opts, body⟩ := p
  obtain ⟨e, he⟩ : ∃ e : Int, e = endI ⟨⟨tos, id, df, mf, off, ttl, proto, src, dst⟩, opts, body⟩ := ⟨_, rfl⟩
  have HE : Hid (e = off + body.length) := Lib.hid (by rw [he]; rfl)
  have HC : Hid (clashB D ⟨⟨tos, id, df, mf, off, ttl, proto, src, dst⟩, opts, body⟩ = if 0 ≤ D.length then (decide (D.length < e) || (!mf && e != D.length)) else (!mf && decide (e < D.far))) := Lib.hid (by unfold clashB; rw [he])
  obtain ⟨cb, hcb⟩ : ∃ cb, cb = clashB D ⟨⟨tos, id, df, mf, off, ttl, proto, src, dst⟩, opts, body⟩ := ⟨_, rfl⟩
  rw [← hcb]
  have HC := Lib.hid (hcb.trans HC.out)
  dsimp only at hl h0 h1 hb ⊢
  clear h hb he hcb
  go_enter Try.func44, Try.ntmps44
  go_upto_region 1 with (fail)
  obtain ⟨W, hW⟩ : ∃ W : World, W = w.alloc (.cells (pkC ⟨tos, id, df, mf, off, ttl, proto, src, dst⟩ VO (.slice A body.length cap)) 30) := ⟨_, rfl⟩
  rw [← hW]
  have t : Touch [] w W := by rw [hW]; exact (Touch.refl [] w).alloc _
  have Y := Lib.hid (show W.heap[w.heap.size]? = some (.cells (pkC ⟨tos, id, df, mf, off, ttl, proto, src, dst⟩ VO (.slice A body.length cap)) 30 (0, 0)) by rw [hW]; exact box_at _ _)
  obtain ⟨VB', VH', VO', hd, _⟩ := H.out.near t
  have HD := Lib.hid hd
  have T := Lib.hid t
  obtain ⟨b9, hb9⟩ : ∃ b9, b9 = w.heap.size := ⟨_, rfl⟩
  rw [← hb9] at Y ⊢
  clear hb9 hd t hW
  obtain ⟨c0, c1, c2, c3, c4, c5, c6, c7, c8, c9, c10⟩ := pk_cells Y.out
  obtain ⟨d0, d1, d2, d3, d4, d5, d6, d7, d8, _⟩ := dg_cells HD.out
  dsimp only at c0 c1 c2 c3 c4 c5 c6 c7 c8 c9 c10
  go_upto_region 2 with (fail)
  have hee : off + (body.length : Int) = e := HE.out.symm
  rw [hee]
  clear hee
  by_cases g0 : 0 ≤ D.length
  · have G0 := Lib.hid g0
    by_cases g1 : D.length < e
    · have G1 := Lib.hid g1
      go_wp2
      go_ret
      exact ⟨by have h9 := HC.out; rw [if_pos (by have := G0.out; omega), decide_eq_true (by have := G1.out; omega)] at h9; rw [h9]; rfl, T.out⟩
    · have G1 := Lib.hid g1
      cases mf
      · go_wp2
        go_ret
        exact ⟨by have h9 := HC.out; rw [if_pos (by have := G0.out; omega), decide_eq_false (by have := G1.out; omega)] at h9; rw [h9]; rfl, T.out⟩
      · go_wp2
        go_ret
        exact ⟨by have h9 := HC.out; rw [if_pos (by have := G0.out; omega), decide_eq_false (by have := G1.out; omega)] at h9; rw [h9]; rfl, T.out⟩
  · have G0 := Lib.hid g0
    cases mf
    · go_wp2
      go_ret
      exact ⟨by have h9 := HC.out; rw [if_neg (by have := G0.out; omega)] at h9; rw [h9]; rfl, T.out⟩
    · go_wp2
      go_ret
      exact ⟨by have h9 := HC.out; rw [if_neg (by have := G0.out; omega)] at h9; rw [h9]; rfl, T.out⟩
set_option maxHeartbeats 1000000 in
theorem dwhole_calls {w : World} {d : Nat} {D : Dg} (h : DgAt w d D) :
    Calls Try.prog 46 #[.pointer (some ⟨d, 0, none⟩)] w fun e w' => e = .returned (.bool (wholeB D)) ∧ Touch [] w w' := by
  obtain ⟨VB', VH', VO', hd, _⟩ := h
  have HD := Lib.hid hd
  clear hd
  obtain ⟨d0, d1, d2, d3, d4, d5, d6, d7, d8, _⟩ := dg_cells HD.out
  by_cases g0 : 0 ≤ D.length
  · have e0 : Hid (wholeB D = (D.count == D.length)) := Lib.hid (by unfold wholeB; rw [decide_eq_true g0]; rfl)
    have x5 := fun u : Near w => u.cell d5
    have x6 := fun u : Near w => u.cell d6
    clear d0 d1 d2 d3 d4 d5 d6 d7 d8
    go_enter Try.func46, Try.ntmps46
    go_wp2
    refine wp_region_near (by kernel_rfl) (by kernel_rfl) ?_
    repeat (go_big_quiet_step (fail))
    refine wpQuiet_nil ?_
    rintro _ ⟨u, rfl⟩
    go_wp2
    go_ret
    exact ⟨by rw [e0.out]; rfl, u.near⟩
  · have e0 : Hid (wholeB D = false) := Lib.hid (by unfold wholeB; rw [decide_eq_false g0]; rfl)
    have gd : decide (0 ≤ D.length) = false := decide_eq_false g0
    clear g0
    have x5 := fun u : Near w => u.cell d5
    have x6 := fun u : Near w => u.cell d6
    clear d0 d1 d2 d3 d4 d5 d6 d7 d8
    go_enter Try.func46, Try.ntmps46
    go_wp2
    refine wp_region_near (by kernel_rfl) (by kernel_rfl) ?_
    repeat (go_big_quiet_step (fail))
    refine wpQuiet_nil ?_
    rintro _ ⟨u, rfl⟩
    go_wp2
    go_ret
    exact ⟨by rw [e0.out]; rfl, u.near⟩
def afterI (now span : Int) : Int := if 9223372036854775807 < now + span then 9223372036854775807 else now + span
/-- Where both are none below nought. -/
theorem after_calls (w : World) (now span : Int) (h0 : 0 ≤ now) (h1 : now ≤ 9223372036854775807) (h2 : 0 ≤ span) (h3 : span ≤ 9223372036854775807) :
    Calls Try.prog 50 #[.int .i64 now, .int .i64 span] w fun e w' => e = .returned (.int .i64 (afterI now span)) ∧ w' = w := by
  by_cases h : 9223372036854775807 < now + span
  · have e0 : Hid (afterI now span = 9223372036854775807) := Lib.hid (by unfold afterI; rw [if_pos h])
    have hn : 0 < now := by omega
    have hs : 0 < span := by omega
    have hw : IntKind.i64.wrap (now + span) = now + span - 18446744073709551616 := by rw [IntKind.wrap_i64]; omega
    have hneg : now + span - 18446744073709551616 < 0 := by omega
    go_enter Try.func50, Try.ntmps50
    go_wp2
    go_ret
    exact ⟨by rw [e0.out]; rfl, rfl⟩
  · have e0 : Hid (afterI now span = now + span) := Lib.hid (by unfold afterI; rw [if_neg h])
    have hneg : ¬ now + span < 0 := by omega
    have hnn : ¬ now < 0 := by omega
    by_cases hn : 0 < now
    · by_cases hs : 0 < span
      · go_enter Try.func50, Try.ntmps50
        go_wp2
        go_ret
        exact ⟨by rw [e0.out]; rfl, rfl⟩
      · go_enter Try.func50, Try.ntmps50
        go_wp2
        go_ret
        exact ⟨by rw [e0.out]; rfl, rfl⟩
    · go_enter Try.func50, Try.ntmps50
      go_wp2
      go_ret
      exact ⟨by rw [e0.out]; rfl, rfl⟩
end Go.Proofs.Ytelfemhnijnhfaa.Fr
