/- weftref3.Build; no condition. -/
import Derived.Test.YtelfemhnijnhfaaFK
namespace Go.Proofs.Ytelfemhnijnhfaa.Fr
open Go.RowKit Go.Maps
set_option linter.unusedVariables false
set_option maxRecDepth 100000
attribute [local go_sem] nilB

def rsumI (p : Pk) : Int := 65535 - foldI (wsum (hdrL p.h p.opts (total p) 0) true)
def refL (p : Pk) : List Int := hdrL p.h p.opts (total p) (rsumI p) ++ p.body
def RBuildPost (w : World) (p : Pk) (e : Ending) (w' : World) : Prop :=
  Touch [] w w' ∧ ((bErr p ≠ 0 ∧ e = .returned (.tuple #[.slice none 0 0, .int .i64 (bErr p)])) ∨ (bErr p = 0 ∧ ∃ V, e = .returned (.tuple #[V, .int .i64 0]) ∧ OwB w' V (refL p) ∧ Fresh w.heap.size V))
theorem RdS.one {w W : World} {k : Nat} {V : Value} {l : List Int} (t : Touch [] w W) (hb : W.heap[k]? = some (.cells #[V] 26 (0, 0))) (o : RdB w V l) : RdS W (some ⟨k, 0, none⟩) 1 [(V, l)] := by
  obtain ⟨c0, _⟩ := one_cells hb
  refine ⟨rfl, fun _ => ⟨k, 0, rfl, fun i p hp => ?_⟩, fun p hp => ?_⟩
  · match i, hp with
    | 0, hp => simp at hp; subst hp; simpa using c0
  · simp only [List.mem_cons, List.not_mem_nil, or_false] at hp
    subst hp
    exact o.near t
theorem bErr_zero {p : Pk} (h : bErr p = 0) : areaB p.opts = true ∧ ordB p.h.off p.body.length p.h.mf = true ∧ p.opts.length ≤ 40 ∧ p.opts.length % 4 = 0 ∧ 0 ≤ p.h.off ∧ p.h.off ≤ 65528 ∧ p.h.off % 8 = 0 ∧ p.h.off + p.body.length ≤ 65535 ∧ 20 + p.opts.length + p.body.length ≤ 65535 ∧ (p.h.mf = true → 0 < p.body.length ∧ p.body.length % 8 = 0) := by
  unfold bErr at h
  by_cases ha : areaB p.opts = false
  · rw [if_pos ha] at h; cases h
  rw [if_neg ha] at h
  by_cases hb : ordB p.h.off p.body.length p.h.mf = false
  · rw [if_pos hb] at h; cases h
  rw [if_neg hb] at h
  by_cases hc : 65535 < 20 + p.opts.length + p.body.length
  · rw [if_pos hc] at h; cases h
  have ha' : areaB p.opts = true := by simpa using ha
  have hb' : ordB p.h.off p.body.length p.h.mf = true := by simpa using hb
  have h1 := ha'
  unfold areaB at h1
  simp only [Bool.and_eq_true, decide_eq_true_eq] at h1
  have h2 := hb'
  simp only [ordB, Bool.and_eq_true, decide_eq_true_eq, Bool.or_eq_true, Bool.not_eq_true'] at h2
  obtain ⟨⟨o1, o2, o3, o4⟩, o5⟩ := h2
  refine ⟨ha', hb', h1.1.1, h1.1.2, o1, o2, o3, o4, by omega, fun hm => ?_⟩
  rcases o5 with o5 | o5
  · rw [hm] at o5; cases o5
  · omega
set_option maxHeartbeats 4000000 in
theorem rbuild_calls {w : World} {VO VB : Value} {p : Pk} (ho : RdB w VO p.opts) (hb : RdB w VB p.body) (hlo : p.opts.length ≤ 140737488355328) (hlb : p.body.length ≤ 140737488355328) (hw : p.h.wf) :
    Calls Try.prog 31 #[.agg (pkC p.h VO VB)] w (RBuildPost w p) := by
  have HO := Lib.hid ho
  have HB := Lib.hid hb
  have LO := Lib.hid hlo
  have LB := Lib.hid hlb
  obtain ⟨A, cap, rfl⟩ := ho.len_lt
  obtain ⟨A', cap', rfl⟩ := hb.len_lt
  have HW := Lib.hid hw
  clear ho hb hlo hlb hw
  go_enter Try.func31, Try.ntmps31
  go_upto_region 1 with (fail)
  have X0 := Lib.hid (box_at w (.cells (pkC p.h (.slice A p.opts.length cap) (.slice A' p.body.length cap')) 30))
  obtain ⟨W0, hW0⟩ : ∃ W0 : World, W0 = w.alloc (.cells (pkC p.h (.slice A p.opts.length cap) (.slice A' p.body.length cap')) 30) := ⟨_, rfl⟩
  rw [← hW0] at X0 ⊢
  have T0 := Lib.hid (show Touch [] w W0 by rw [hW0]; exact (Touch.refl [] w).alloc _)
  clear hW0
  obtain ⟨c0, c1, c2, c3, c4, c5, c6, c7, c8, c9, c10⟩ := pk_cells X0.out
  go_wp2_with fail
  refine (refused_calls (HO.out.near T0.out) (HB.out.near T0.out) LO.out LB.out HW.out).mono ?_
  rintro e w1 ⟨rfl, t1⟩
  have T1 := Lib.hid t1
  clear t1 c0 c1 c2 c3 c4 c5 c6 c7 c8 c9 c10
  by_cases hbe : bErr p = 0
  rotate_left
  · obtain ⟨eb, heb⟩ : ∃ eb, eb = bErr p := ⟨_, rfl⟩
    rw [← heb]
    have hne : (eb != 0) = true := by rw [heb]; simpa using hbe
    have HE := Lib.hid heb
    have HNE := Lib.hid hbe
    clear heb hbe
    go_wp2
    go_ret2
    exact ⟨T0.out.trans T1.out (by simp), .inl ⟨HNE.out, by rw [← HE.out]; rfl⟩⟩
  have HE := Lib.hid hbe
  rw [hbe]
  obtain ⟨_, _, l40, _, o1, o2, _, _, hbig, _⟩ := bErr_zero hbe
  clear hbe
  have hN : Hid ((20 : Int) + (p.opts.length : Int) + (p.body.length : Int) = (total p : Int)) := Lib.hid (by unfold total hlen; push_cast; omega)
  have hNb : total p < 65536 := by unfold total hlen; omega
  obtain ⟨c0, c1, c2, c3, c4, c5, c6, c7, c8, c9, c10⟩ := pk_cells (touch_box T1.out X0.out (by simp))
  go_wp2_with fail
  rw [hN.out]
  refine (header_calls ((HO.out.near T0.out).near T1.out) l40 HW.out ⟨o1, o2⟩ (total p) 0 (by omega) (by omega) (by omega) (by omega)).mono ?_
  rintro e w2 ⟨A2, cp2, rfl, o, f, t⟩
  have HL2 : Hid ((hdrL p.h p.opts (total p) 0).length ≤ 100) := Lib.hid (by rw [hdrL_len]; omega)
  have O2 := Lib.hid o
  have T2 := Lib.hid (T1.out.trans t (by simp))
  clear o f t c0 c1 c2 c3 c4 c5 c6 c7 c8 c9 c10
  go_wp2_with fail
  refine (rsum_calls (ps := [(.slice A2 (hdrL p.h p.opts (total p) 0).length cp2, hdrL p.h p.opts (total p) 0)]) (RdS.one ((Touch.refl [] w2).alloc _) (box_at w2 _) O2.out.rdb) (by omega) (by have := HL2.out; simp only [joinS, List.flatMap_cons, List.flatMap_nil, List.append_nil]; omega)).mono ?_
  rintro e w3 ⟨rfl, t3⟩
  have hjs : Hid (65535 - foldI (wsum (joinS [(Value.slice A2 (hdrL p.h p.opts (total p) 0).length cp2, hdrL p.h p.opts (total p) 0)]) true) = rsumI p) := Lib.hid (by unfold rsumI; simp [joinS])
  rw [hjs.out]
  have hsb : 0 ≤ rsumI p ∧ rsumI p < 65536 := by
    unfold rsumI
    have h1 := (wsum_bd O2.out.wf true).1
    have : ∀ t, 0 ≤ t → 0 ≤ foldI t ∧ foldI t ≤ 65535 := fun t ht => by unfold foldI; split <;> omega
    have := this _ h1
    omega
  obtain ⟨s0, s1⟩ := hsb
  have T3 := Lib.hid ((T2.out.alloc (.cells #[.slice A2 (hdrL p.h p.opts (total p) 0).length cp2] 26)).trans t3 (by simp))
  clear t3 O2 T1 hjs
  obtain ⟨c0, c1, c2, c3, c4, c5, c6, c7, c8, c9, c10⟩ := pk_cells (touch_box T3.out X0.out (by simp))
  go_wp2_with fail
  refine (header_calls ((HO.out.near T0.out).near T3.out) l40 HW.out ⟨o1, o2⟩ (total p) (rsumI p) (by omega) (by omega) s0 s1).mono ?_
  rintro e w4 ⟨A4, cp4, rfl, o, f, t⟩
  have HL4 : Hid ((hdrL p.h p.opts (total p) (rsumI p)).length ≤ 100) := Lib.hid (by rw [hdrL_len]; omega)
  have O4 := Lib.hid o
  have F4 := Lib.hid (f.mono (T3.out.size))
  have T4 := Lib.hid (T3.out.trans t (by simp))
  clear o f t c0 c1 c2 c3 c4 c5 c6 c7 c8 c9 c10
  go_wp2_with fail
  go_loopg [8, 9] p.body.length (fun kq v8 v9 wr => ∃ (i : Nat) (A7 : Option Addr) (c7 : Nat) (m : List Int), v9 = .int .i64 i ∧ v8 = .slice A7 m.length c7 ∧ i ≤ p.body.length ∧ p.body.length - i ≤ kq ∧ Hid (m = hdrL p.h p.opts (total p) (rsumI p) ++ p.body.take i) ∧ Hid (OwB wr (.slice A7 m.length c7) m) ∧ Hid (Fresh W0.heap.size (.slice A7 m.length c7)) ∧ Hid (Touch [] W0 wr))
  case atStart => exact ⟨0, A4, cp4, hdrL p.h p.opts (total p) (rsumI p), rfl, rfl, by omega, by omega, Lib.hid (by simp), O4, F4, T4⟩
  case round =>
    obtain ⟨i, A7, c7, m, rfl, rfl, hi, hk, hm, hO, hF, hT⟩ := hrel
    obtain ⟨_, _, _, _, _, _, _, _, _, _, c10⟩ := pk_cells (touch_box hT.out X0.out (by simp))
    by_cases hlt : i < p.body.length
    · have R := (HB.out.near T0.out).near hT.out
      obtain ⟨⟨A3, cap3, hV, _, _, hr⟩, wf⟩ := R
      simp only [Value.slice.injEq, true_and] at hV
      obtain ⟨rfl, rfl⟩ := hV
      obtain ⟨b, off, rfl, hb, hc⟩ := hr (by omega)
      obtain ⟨x, hx⟩ : ∃ x, p.body[i]? = some x := ⟨_, List.getElem?_eq_getElem hlt⟩
      have xw := Lib.hid (wf x (List.mem_of_getElem? hx))
      have m0 := hc i x hx
      have lt1 : (i : Int) < (p.body.length : Int) := by omega
      have HN : Hid (m ++ [x] = hdrL p.h p.opts (total p) (rsumI p) ++ p.body.take (i + 1)) := Lib.hid (by rw [hm.out, List.append_assoc, List.take_add_one, hx]; rfl)
      have HLn : Hid (m.length ≤ 70000) := Lib.hid (by rw [hm.out, List.length_append, List.length_take]; have := HL4.out; omega)
      clear hc hx hr wf
      go_wp2_with (at_builtin
                   refine wpList_append_o (w0 := W0) (by rfl) (.tmp 43) (.tmp 49) (by rfl) (.slice A7 m.length c7) (.slice (some ⟨wr.heap.size, 0, none⟩) 1 1) m [x] (m ++ [x]) rfl (by rfl) (hO.out.near ((Touch.refl [] wr).alloc _)) (by rfl) (rdb_one wr x xw.out) (by rw [List.length_append]; have := HLn.out; simp only [List.length_cons, List.length_nil]; omega) hF.out (hT.out.alloc _) ?_
                   intro A8 c8 w8 h1 h2 h3
                   have O8 := Lib.hid h1
                   have F8 := Lib.hid h2
                   have T8 := Lib.hid h3
                   clear h1 h2 h3)
      go_roundg (gk - 1)
      case rel => exact ⟨i + 1, A8, c8, m ++ [x], by go_num, by first | rfl | simp, by omega, by omega, HN, O8, F8, T8⟩
      case measure => omega
    · have lt1 : ¬ (i : Int) < (p.body.length : Int) := by omega
      have HD : Hid (m = refL p) := Lib.hid (by rw [hm.out, List.take_of_length_le (by omega)]; rfl)
      go_wp2
      go_ret2
      refine ⟨T0.out.trans hT.out (by simp), .inr ⟨HE.out, _, rfl, ?_, hF.out.mono T0.out.size⟩⟩
      rw [← HD.out]
      exact hO.out
end Go.Proofs.Ytelfemhnijnhfaa.Fr
