/- The reference: neigh; no condition. -/
import Derived.Test.YtnpeafhjcelpfaaGreatY4

namespace Go.Proofs.YtnpeafhjcelpfaaGreat.Tri
open Go.RowKit Go.Maps
set_option linter.unusedVariables false
set_option linter.unusedSimpArgs false
set_option maxRecDepth 100000

def NPost (w : World) (rb : Nat) (V0 V1 V2 : Value) (R : List Ent) (N : List NeE) (E : List FdE) (l0 l1 l2 : Int) (o : OpR) (e : Ending) (w' : World) : Prop :=
  ∃ (err : Int) (V1' : Value) (N' : List NeE), e = .returned (.int .i64 err) ∧ RefK w' rb V0 V1' V2 R N' E l0 l1 l2 ∧ RowRel NeE.key o.ip ⟨o.ip, o.nm⟩ (decide (o.kd ≠ 4)) l1 N N' err ∧ Touch (kfoot rb V0 V1 V2) w w' ∧ ∀ x ∈ kfoot rb V0 V1' V2, x ∈ kfoot rb V0 V1 V2 ∨ w.heap.size ≤ x
set_option maxHeartbeats 8000000 in
theorem rneigh_calls {w : World} {rb : Nat} {V0 V1 V2 : Value} {R : List Ent} {N : List NeE} {E : List FdE} {l0 l1 l2 : Int} (h : RefK w rb V0 V1 V2 R N E l0 l1 l2) (o : OpR) (hlen : N.length ≤ 1000000) :
    Calls Tryz.prog 88 #[.pointer (some ⟨rb, 0, none⟩), .agg (opC o)] w (NPost w rb V0 V1 V2 R N E l0 l1 l2 o) := by
  have H := Lib.hid h
  obtain ⟨A, cap, rfl⟩ := h.n.form
  clear h
  go_enter Tryz.func88, Tryz.ntmps88
  go_upto_region 1 with (fail)
  obtain ⟨W1, hW1⟩ : ∃ W1 : World, W1 = w.alloc (.cells (opC o) 57) := ⟨_, rfl⟩
  rw [← hW1]
  have X1 := Lib.hid (show W1.heap[w.heap.size]? = some (.cells (opC o) 57 (0, 0)) by rw [hW1]; exact box_at w _)
  have T1 := Lib.hid (show Touch [] w W1 by rw [hW1]; exact (Touch.refl [] w).alloc _)
  clear hW1
  obtain ⟨b3, hb3⟩ : ∃ b3, b3 = w.heap.size := ⟨_, rfl⟩
  have HB3 := Lib.hid hb3
  rw [← hb3] at X1 ⊢
  clear hb3
  have q5 := (op_all o X1.out).2.2.2.2.2.1
  go_wp2_with fail
  refine (rneighAt_calls (H.out.kept T1.out (by simp)) o.ip (by omega)).mono ?_
  rintro e w2 ⟨r, rfl, hr, t2⟩
  have T2 := Lib.hid (T1.out.trans t2 (by simp))
  have X2 := Lib.hid (touch_box t2 X1.out (by simp))
  have HR := Lib.hid (H.out.kept T2.out (by simp))
  have HFI := Lib.hid hr
  clear t2 q5 hr X1 T1
  obtain ⟨q0, q1, q2, q3, q4, q5, q6, q7, q8, q9, q10, q11, q12, q13, q14, q15, q16, q17, q18⟩ := op_all o X2.out
  obtain ⟨c0, c1, c2, c3, c4, c5⟩ := six_cells HR.out.blk
  clear q1 q2 q3 q4 q12 q13 q14 q15 q16 q17 q18
  by_cases hk4 : o.kd = 4
  · have ek : (o.kd == 4) = true := by simp [hk4]
    have HK := Lib.hid hk4
    clear hk4
    rcases HFI.out with ⟨rfl, hno⟩ | ⟨i, y, rfl, hy, hkey⟩
    · have HN := Lib.hid hno
      clear hno
      go_wp2
      go_ret
      exact ⟨0, _, N, rfl, HR.out, ⟨-1, HFI.out, .inl ⟨by simp [HK.out], rfl, .inl ⟨rfl, rfl⟩⟩⟩, T2.out.mono (by simp), fun x hx => .inl hx⟩
    · have hil := (List.getElem?_eq_some_iff.1 hy).1
      obtain ⟨g, c, hV, hcap, hgl, _, hfz⟩ := HR.out.n.getAt encN_len hy
      simp only [Value.slice.injEq, true_and] at hV
      obtain ⟨rfl, rfl⟩ := hV
      obtain ⟨AD, hA, hnews, s1, s2, s3⟩ := out_facts encN_len encN_one HR.out.n hcap hil
      have S1 := Lib.hid s1
      have S2 := Lib.hid s2
      have S3 := Lib.hid s3
      have HNW := Lib.hid hnews
      have hne : rb ≠ g := fun e => HR.out.apart.2.1 (by simp [Value.ownBlock, e])
      have hwr : IntKind.i64.wrap ((i : Int) + 1) = (i : Int) + 1 := by rw [IntKind.wrap_i64]; omega
      have hp0 : (0 : Int) ≤ (i : Int) + 1 := by omega
      have hp1 : (i : Int) + 1 ≤ (N.length : Int) := by omega
      have hp2 : ((i : Int) + 1).toNat = i + 1 := by omega
      have hp3 : i ≤ cap := by omega
      have hp4 : (0 : Int) ≤ (i : Int) := by omega
      obtain ⟨i0, hi0, hz0, hz1, hz2⟩ := info_of infoN
      have k1 := cell_setCells (w := w2.drew) (g := g) (o := 0 + i * 7) (vs := SK.flatL encN (N.drop (i + 1))) (show w2.drew.cell? ⟨rb, 1, none⟩ = _ from c1) hne
      have e1 : (w2.drew.setCells g (0 + i * 7) (SK.flatL encN (N.drop (i + 1)))).frozen? ⟨rb, 1, none⟩ = false := (World.frozen?_setCells g _ _ _ _).trans (six_more HR.out.blk 1)
      have HHI := Lib.hid hil
      have HKY := Lib.hid hkey
      have HY := Lib.hid hy
      have HNE := Lib.hid hne
      obtain ⟨MV, hMV⟩ : ∃ MV, MV = SK.flatL encN (N.drop (i + 1)) := ⟨_, rfl⟩
      have HMV := Lib.hid hMV
      rw [← hMV] at S1 S2 S3 HNW k1 e1
      rw [Nat.zero_add] at k1 e1
      clear hnews s1 s2 s3 hfz hil hkey hy hne hMV
      go_upto_region 4 with (fail)
      go_region_law (refine step_append_room rfl (.tmp 22) (.tmp 29) 63 rfl 53 i0 7 Tryz.underlying63 hi0 hz1 g 0 i cap (by simp [Act.eval, Act.put]) AD (N.length - (i + 1)) (cap - (i + 1)) MV (by simp [Act.eval, Act.put]) S1.out HNW.out S2.out (by omega) S3.out ?_)
      all_goals
        clear k1 e1
        go_wp2
        go_ret
        have hle : (N.eraseIdx i).length = i + (N.length - (i + 1)) := by rw [List.length_eraseIdx_of_lt HHI.out]; have := HHI.out; omega
        have row := VRow.outAt encN_len (show VRow w2.drew 53 7 (.slice (some ⟨g, 0, none⟩) N.length cap) N.length (SK.flatL encN N) from ⟨HR.out.n.own⟩) HHI.out
        rw [← HMV.out, hle] at row
        rw [← hle] at row
        obtain ⟨g1, g2, g3⟩ := HR.out.newN (L := N.eraseIdx i) (((Touch.refl [g] w2).drew).trans (touch_setCells g MV (i * 7) w2.drew) (fun x hx => .inl hx)) row (.inl rfl)
        rw [hle] at g1 g2 g3
        exact ⟨0, _, N.eraseIdx i, rfl, g1, ⟨(i : Int), HFI.out, .inl ⟨by simp [HK.out], rfl, .inr ⟨i, rfl, rfl⟩⟩⟩, (T2.out.mono (by simp)).trans g2 (fun x hx => .inl hx), fun x hx => by
          rcases g3 x hx with h | h
          · exact .inl h
          · exact .inr (Nat.le_trans T2.out.size h)⟩
  · have ek : (o.kd == 4) = false := by simpa using hk4
    have HK := Lib.hid hk4
    clear hk4
    rcases HFI.out with ⟨rfl, hno⟩ | ⟨i, y, rfl, hy, hkey⟩
    · have HN := Lib.hid hno
      clear hno
      by_cases hl : l1 ≤ (N.length : Int)
      · have HL := Lib.hid hl
        go_wp2
        go_quiet (fail)
        go_wp2
        go_ret
        exact ⟨4, _, N, rfl, HR.out.kept ((Touch.refl [] w2).drewN _) (by simp), ⟨-1, HFI.out, .inr ⟨by simp [HK.out], .inr (.inl ⟨rfl, HL.out, rfl, rfl⟩)⟩⟩, ((T2.out.trans ((Touch.refl [] w2).drewN _) (by simp)).mono (by simp)), fun x hx => .inl hx⟩
      · have HL := Lib.hid hl
        go_upto_region 11 with (first | (go_quiet (fail)) | fail)
        obtain ⟨W4, hW4⟩ : ∃ W : World, W = w2.drewN nq := ⟨_, rfl⟩
        rw [← hW4]
        have t4 : Touch [] w2 W4 := by rw [hW4]; exact (Touch.refl [] w2).drewN _
        have X4 := Lib.hid (touch_box t4 X2.out (by simp))
        have HR4 := Lib.hid (HR.out.kept t4 (by simp))
        have T4 := Lib.hid (T2.out.trans t4 (by simp))
        clear hW4 t4 q0 q5 q6 q7 q8 q9 q10 q11 c0 c1 c2 c3 c4 c5
        obtain ⟨q0, q1, q2, q3, q4, q5, q6, q7, q8, q9, q10, q11, q12, q13, q14, q15, q16, q17, q18⟩ := op_all o X4.out
        obtain ⟨c0, c1, c2, c3, c4, c5⟩ := six_cells HR4.out.blk
        have ca1 := fun ob => (six_cells (box_keep ob HR4.out.blk)).2.1
        have ROW := Lib.hid (show VRow W4.drew 53 7 (.slice A N.length cap) N.length (SK.flatL encN N) from ⟨HR4.out.n.own⟩)
        have hn1 : rb ∉ (Value.slice A N.length cap).ownBlock.toList := HR4.out.apart.2.1
        clear q1 q2 q3 q4 q12 q13 q14 q15 q16 q17 q18
        go_region_law (refine step_append_vr (W := W4.drew) (by rfl) (.tmp 57) (.tmp 60) 63 53 7 12 _ Tryz.underlying63 (by rfl) infoN rfl (by decide) (by decide) (.slice A N.length cap) N.length (SK.flatL encN N) 1 #[.int .u32 o.ip, .int .u8 o.nm.m0, .int .u8 o.nm.m1, .int .u8 o.nm.m2, .int .u8 o.nm.m3, .int .u8 o.nm.m4, .int .u8 o.nm.m5] (by rfl) ROW.out (by rfl) (by rfl) (by simp [Value.oneCell']) (by omega) ?_
                       intro A5 c5' w5 v5 t5 o5
                       have k1 := cell_touch t5 (show W4.drew.cell? ⟨rb, 1, none⟩ = _ from c1) hn1
                       have e1 := frozen_touch t5 (show W4.drew.cell? ⟨rb, 1, none⟩ = _ from c1) (show W4.drew.frozen? ⟨rb, 1, none⟩ = false from six_more HR4.out.blk 1) hn1
                       have V5 := Lib.hid v5
                       have T5 := Lib.hid t5
                       have O5 := Lib.hid o5
                       clear v5 t5 o5)
        all_goals
          clear k1 e1 ca1
          go_wp2
          go_ret
          obtain ⟨g1, g2, g3⟩ := HR4.out.newN (L := N ++ [⟨o.ip, o.nm⟩]) (((Touch.refl (Value.slice A N.length cap).ownBlock.toList W4).drew).trans T5.out (fun x hx => .inl hx)) (by rw [List.length_append, flat_app, flat_one]; exact V5.out) (by rcases O5.out with h | ⟨b, h1, h2⟩; exact .inl h; exact .inr ⟨b, h1, h2⟩)
          exact ⟨0, _, N ++ [⟨o.ip, o.nm⟩], rfl, g1, ⟨-1, HFI.out, .inr ⟨by simp [HK.out], .inr (.inr ⟨rfl, by have := HL.out; omega, rfl, rfl⟩)⟩⟩, (T4.out.mono (by simp)).trans g2 (fun x hx => .inl hx), fun x hx => by
            rcases g3 x hx with h | h
            · exact .inl h
            · exact .inr (Nat.le_trans T4.out.size h)⟩
    · have hil := (List.getElem?_eq_some_iff.1 hy).1
      obtain ⟨g, c, hV, hcap, hgl, hc, hfz⟩ := HR.out.n.getAt encN_len hy
      simp only [Value.slice.injEq, true_and] at hV
      obtain ⟨rfl, rfl⟩ := hV
      have hne : rb ≠ g := fun e => HR.out.apart.2.1 (by simp [Value.ownBlock, e])
      have hp1 : (i : Int) < (N.length : Int) := by omega
      have hp4 : (0 : Int) ≤ (i : Int) := by omega
      have m0 := hc 0 _ rfl
      rw [Nat.add_zero] at m0
      have m1 := hc 1 _ rfl
      have m2 := hc 2 _ rfl
      have m3 := hc 3 _ rfl
      have m4 := hc 4 _ rfl
      have m5 := hc 5 _ rfl
      have m6 := hc 6 _ rfl
      have HHI := Lib.hid hil
      have HY := Lib.hid hy
      clear hc hil hkey hy hcap
      go_upto_region 7 with (fail)
      go_region
      all_goals
        clear hfz
        go_wp2
        go_ret
        rw [cells7]
        obtain ⟨y', hy'⟩ : ∃ y' : NeE, y' = ⟨o.ip, o.nm⟩ := ⟨_, rfl⟩
        have row := VRow.setAt encN_len HR.out.n HHI.out y'
        have ts := touch_setCells g (encN y') (i * 7) w2
        rw [show [Value.int .u32 o.ip, Value.int .u8 o.nm.m0, Value.int .u8 o.nm.m1, Value.int .u8 o.nm.m2, Value.int .u8 o.nm.m3, Value.int .u8 o.nm.m4, Value.int .u8 o.nm.m5] = encN y' by rw [hy']; rfl]
        generalize w2.setCells g (i * 7) (encN y') = W5 at *
        rw [List.length_set] at row
        have row2 : VRow W5.drew 53 7 (.slice (some ⟨g, 0, none⟩) N.length cap) (N.set i y').length (SK.flatL encN (N.set i y')) := by rw [List.length_set]; exact row.drew
        refine ⟨0, _, N.set i y', rfl, HR.out.sameN ts.drew row2, ⟨(i : Int), HFI.out, .inr ⟨by simp [HK.out], .inl ⟨i, rfl, rfl, by rw [hy']⟩⟩⟩, (T2.out.mono (by simp)).trans ts.drew (fun x hx => .inl (by simp at hx; simp [kfoot, Value.ownBlock, hx])), fun x hx => .inl hx⟩
end Go.Proofs.YtnpeafhjcelpfaaGreat.Tri

/- The reference: fdb; no condition. -/
namespace Go.Proofs.YtnpeafhjcelpfaaGreat.Tri
open Go.RowKit Go.Maps
set_option linter.unusedVariables false
set_option linter.unusedSimpArgs false
set_option maxRecDepth 100000

def FPost (w : World) (rb : Nat) (V0 V1 V2 : Value) (R : List Ent) (N : List NeE) (E : List FdE) (l0 l1 l2 : Int) (o : OpR) (e : Ending) (w' : World) : Prop :=
  ∃ (err : Int) (V2' : Value) (E' : List FdE), e = .returned (.int .i64 err) ∧ RefK w' rb V0 V1 V2' R N E' l0 l1 l2 ∧ RowRel FdE.key o.fm ⟨o.fm, o.ua⟩ (decide (o.kd ≠ 6)) l2 E E' err ∧ Touch (kfoot rb V0 V1 V2) w w' ∧ ∀ x ∈ kfoot rb V0 V1 V2', x ∈ kfoot rb V0 V1 V2 ∨ w.heap.size ≤ x
set_option maxHeartbeats 8000000 in
theorem rfdb_calls {w : World} {rb : Nat} {V0 V1 V2 : Value} {R : List Ent} {N : List NeE} {E : List FdE} {l0 l1 l2 : Int} (h : RefK w rb V0 V1 V2 R N E l0 l1 l2) (hE : ∀ x ∈ E, x.m.wf) (o : OpR) (ho : o.fm.wf) (hlen : E.length ≤ 1000000) :
    Calls Tryz.prog 89 #[.pointer (some ⟨rb, 0, none⟩), .agg (opC o)] w (FPost w rb V0 V1 V2 R N E l0 l1 l2 o) := by
  have H := Lib.hid h
  have HWE := Lib.hid hE
  have HWO := Lib.hid ho
  obtain ⟨A, cap, rfl⟩ := h.f.form
  clear h hE ho
  go_enter Tryz.func89, Tryz.ntmps89
  go_upto_region 1 with (fail)
  obtain ⟨W1, hW1⟩ : ∃ W1 : World, W1 = w.alloc (.cells (opC o) 57) := ⟨_, rfl⟩
  rw [← hW1]
  have X1 := Lib.hid (show W1.heap[w.heap.size]? = some (.cells (opC o) 57 (0, 0)) by rw [hW1]; exact box_at w _)
  have T1 := Lib.hid (show Touch [] w W1 by rw [hW1]; exact (Touch.refl [] w).alloc _)
  clear hW1
  obtain ⟨b3, hb3⟩ : ∃ b3, b3 = w.heap.size := ⟨_, rfl⟩
  have HB3 := Lib.hid hb3
  rw [← hb3] at X1 ⊢
  clear hb3
  obtain ⟨_, _, _, _, _, _, _, _, _, _, _, _, q12, q13, q14, q15, q16, q17, _⟩ := op_all o X1.out
  go_wp2_with fail
  refine (rfdbAt_calls (H.out.kept T1.out (by simp)) HWE.out o.fm HWO.out (by omega)).mono ?_
  rintro e w2 ⟨r, rfl, hr, t2⟩
  have T2 := Lib.hid (T1.out.trans t2 (by simp))
  have X2 := Lib.hid (touch_box t2 X1.out (by simp))
  have HR := Lib.hid (H.out.kept T2.out (by simp))
  have HFI := Lib.hid hr
  clear t2 q12 q13 q14 q15 q16 q17 hr X1 T1
  obtain ⟨q0, q1, q2, q3, q4, q5, q6, q7, q8, q9, q10, q11, q12, q13, q14, q15, q16, q17, q18⟩ := op_all o X2.out
  obtain ⟨c0, c1, c2, c3, c4, c5⟩ := six_cells HR.out.blk
  clear q1 q2 q3 q4 q5 q6 q7 q8 q9 q10 q11
  by_cases hk4 : o.kd = 6
  · have ek : (o.kd == 6) = true := by simp [hk4]
    have HK := Lib.hid hk4
    clear hk4
    rcases HFI.out with ⟨rfl, hno⟩ | ⟨i, y, rfl, hy, hkey⟩
    · have HN := Lib.hid hno
      clear hno
      go_wp2
      go_ret
      exact ⟨0, _, E, rfl, HR.out, ⟨-1, HFI.out, .inl ⟨by simp [HK.out], rfl, .inl ⟨rfl, rfl⟩⟩⟩, T2.out.mono (by simp), fun x hx => .inl hx⟩
    · have hil := (List.getElem?_eq_some_iff.1 hy).1
      obtain ⟨g, c, hV, hcap, hgl, _, hfz⟩ := HR.out.f.getAt encF_len hy
      simp only [Value.slice.injEq, true_and] at hV
      obtain ⟨rfl, rfl⟩ := hV
      obtain ⟨AD, hA, hnews, s1, s2, s3⟩ := out_facts encF_len encF_one HR.out.f hcap hil
      have S1 := Lib.hid s1
      have S2 := Lib.hid s2
      have S3 := Lib.hid s3
      have HNW := Lib.hid hnews
      have hne : rb ≠ g := fun e => HR.out.apart.2.2.1 (by simp [Value.ownBlock, e])
      have hwr : IntKind.i64.wrap ((i : Int) + 1) = (i : Int) + 1 := by rw [IntKind.wrap_i64]; omega
      have hp0 : (0 : Int) ≤ (i : Int) + 1 := by omega
      have hp1 : (i : Int) + 1 ≤ (E.length : Int) := by omega
      have hp2 : ((i : Int) + 1).toNat = i + 1 := by omega
      have hp3 : i ≤ cap := by omega
      have hp4 : (0 : Int) ≤ (i : Int) := by omega
      obtain ⟨i0, hi0, hz0, hz1, hz2⟩ := info_of infoF
      have k1 := cell_setCells (w := w2.drew) (g := g) (o := 0 + i * 7) (vs := SK.flatL encF (E.drop (i + 1))) (show w2.drew.cell? ⟨rb, 2, none⟩ = _ from c2) hne
      have e1 : (w2.drew.setCells g (0 + i * 7) (SK.flatL encF (E.drop (i + 1)))).frozen? ⟨rb, 2, none⟩ = false := (World.frozen?_setCells g _ _ _ _).trans (six_more HR.out.blk 2)
      have HHI := Lib.hid hil
      have HKY := Lib.hid hkey
      have HY := Lib.hid hy
      have HNE := Lib.hid hne
      obtain ⟨MV, hMV⟩ : ∃ MV, MV = SK.flatL encF (E.drop (i + 1)) := ⟨_, rfl⟩
      have HMV := Lib.hid hMV
      rw [← hMV] at S1 S2 S3 HNW k1 e1
      rw [Nat.zero_add] at k1 e1
      clear hnews s1 s2 s3 hfz hil hkey hy hne hMV
      go_upto_region 4 with (fail)
      go_region_law (refine step_append_room rfl (.tmp 22) (.tmp 29) 64 rfl 55 i0 7 Tryz.underlying64 hi0 hz1 g 0 i cap (by simp [Act.eval, Act.put]) AD (E.length - (i + 1)) (cap - (i + 1)) MV (by simp [Act.eval, Act.put]) S1.out HNW.out S2.out (by omega) S3.out ?_)
      all_goals
        clear k1 e1
        go_wp2
        go_ret
        have hle : (E.eraseIdx i).length = i + (E.length - (i + 1)) := by rw [List.length_eraseIdx_of_lt HHI.out]; have := HHI.out; omega
        have row := VRow.outAt encF_len (show VRow w2.drew 55 7 (.slice (some ⟨g, 0, none⟩) E.length cap) E.length (SK.flatL encF E) from ⟨HR.out.f.own⟩) HHI.out
        rw [← HMV.out, hle] at row
        rw [← hle] at row
        obtain ⟨g1, g2, g3⟩ := HR.out.newF (L := E.eraseIdx i) (((Touch.refl [g] w2).drew).trans (touch_setCells g MV (i * 7) w2.drew) (fun x hx => .inl hx)) row (.inl rfl)
        rw [hle] at g1 g2 g3
        exact ⟨0, _, E.eraseIdx i, rfl, g1, ⟨(i : Int), HFI.out, .inl ⟨by simp [HK.out], rfl, .inr ⟨i, rfl, rfl⟩⟩⟩, (T2.out.mono (by simp)).trans g2 (fun x hx => .inl hx), fun x hx => by
          rcases g3 x hx with h | h
          · exact .inl h
          · exact .inr (Nat.le_trans T2.out.size h)⟩
  · have ek : (o.kd == 6) = false := by simpa using hk4
    have HK := Lib.hid hk4
    clear hk4
    rcases HFI.out with ⟨rfl, hno⟩ | ⟨i, y, rfl, hy, hkey⟩
    · have HN := Lib.hid hno
      clear hno
      by_cases hl : l2 ≤ (E.length : Int)
      · have HL := Lib.hid hl
        go_wp2
        go_quiet (fail)
        go_wp2
        go_ret
        exact ⟨4, _, E, rfl, HR.out.kept ((Touch.refl [] w2).drewN _) (by simp), ⟨-1, HFI.out, .inr ⟨by simp [HK.out], .inr (.inl ⟨rfl, HL.out, rfl, rfl⟩)⟩⟩, ((T2.out.trans ((Touch.refl [] w2).drewN _) (by simp)).mono (by simp)), fun x hx => .inl hx⟩
      · have HL := Lib.hid hl
        go_upto_region 11 with (first | (go_quiet (fail)) | fail)
        obtain ⟨W4, hW4⟩ : ∃ W : World, W = w2.drewN nq := ⟨_, rfl⟩
        rw [← hW4]
        have t4 : Touch [] w2 W4 := by rw [hW4]; exact (Touch.refl [] w2).drewN _
        have X4 := Lib.hid (touch_box t4 X2.out (by simp))
        have HR4 := Lib.hid (HR.out.kept t4 (by simp))
        have T4 := Lib.hid (T2.out.trans t4 (by simp))
        clear hW4 t4 q0 q12 q13 q14 q15 q16 q17 q18 c0 c1 c2 c3 c4 c5
        obtain ⟨q0, q1, q2, q3, q4, q5, q6, q7, q8, q9, q10, q11, q12, q13, q14, q15, q16, q17, q18⟩ := op_all o X4.out
        obtain ⟨c0, c1, c2, c3, c4, c5⟩ := six_cells HR4.out.blk
        have ca1 := fun ob => (six_cells (box_keep ob HR4.out.blk)).2.2.1
        have ROW := Lib.hid (show VRow W4.drew 55 7 (.slice A E.length cap) E.length (SK.flatL encF E) from ⟨HR4.out.f.own⟩)
        have hn1 : rb ∉ (Value.slice A E.length cap).ownBlock.toList := HR4.out.apart.2.2.1
        clear q1 q2 q3 q4 q5 q6 q7 q8 q9 q10 q11
        go_region_law (refine step_append_vr (W := W4.drew) (by rfl) (.tmp 57) (.tmp 60) 64 55 7 12 _ Tryz.underlying64 (by rfl) infoF rfl (by decide) (by decide) (.slice A E.length cap) E.length (SK.flatL encF E) 1 #[.int .u8 o.fm.m0, .int .u8 o.fm.m1, .int .u8 o.fm.m2, .int .u8 o.fm.m3, .int .u8 o.fm.m4, .int .u8 o.fm.m5, .int .u32 o.ua] (by rfl) ROW.out (by rfl) (by rfl) (by simp [Value.oneCell']) (by omega) ?_
                       intro A5 c5' w5 v5 t5 o5
                       have k1 := cell_touch t5 (show W4.drew.cell? ⟨rb, 2, none⟩ = _ from c2) hn1
                       have e1 := frozen_touch t5 (show W4.drew.cell? ⟨rb, 2, none⟩ = _ from c2) (show W4.drew.frozen? ⟨rb, 2, none⟩ = false from six_more HR4.out.blk 2) hn1
                       have V5 := Lib.hid v5
                       have T5 := Lib.hid t5
                       have O5 := Lib.hid o5
                       clear v5 t5 o5)
        all_goals
          clear k1 e1 ca1
          go_wp2
          go_ret
          obtain ⟨g1, g2, g3⟩ := HR4.out.newF (L := E ++ [⟨o.fm, o.ua⟩]) (((Touch.refl (Value.slice A E.length cap).ownBlock.toList W4).drew).trans T5.out (fun x hx => .inl hx)) (by rw [List.length_append, flat_app, flat_one]; exact V5.out) (by rcases O5.out with h | ⟨b, h1, h2⟩; exact .inl h; exact .inr ⟨b, h1, h2⟩)
          exact ⟨0, _, E ++ [⟨o.fm, o.ua⟩], rfl, g1, ⟨-1, HFI.out, .inr ⟨by simp [HK.out], .inr (.inr ⟨rfl, by have := HL.out; omega, rfl, rfl⟩)⟩⟩, (T4.out.mono (by simp)).trans g2 (fun x hx => .inl hx), fun x hx => by
            rcases g3 x hx with h | h
            · exact .inl h
            · exact .inr (Nat.le_trans T4.out.size h)⟩
    · have hil := (List.getElem?_eq_some_iff.1 hy).1
      obtain ⟨g, c, hV, hcap, hgl, hc, hfz⟩ := HR.out.f.getAt encF_len hy
      simp only [Value.slice.injEq, true_and] at hV
      obtain ⟨rfl, rfl⟩ := hV
      have hne : rb ≠ g := fun e => HR.out.apart.2.2.1 (by simp [Value.ownBlock, e])
      have hp1 : (i : Int) < (E.length : Int) := by omega
      have hp4 : (0 : Int) ≤ (i : Int) := by omega
      have m0 := hc 0 _ rfl
      rw [Nat.add_zero] at m0
      have m1 := hc 1 _ rfl
      have m2 := hc 2 _ rfl
      have m3 := hc 3 _ rfl
      have m4 := hc 4 _ rfl
      have m5 := hc 5 _ rfl
      have m6 := hc 6 _ rfl
      have HHI := Lib.hid hil
      have HY := Lib.hid hy
      clear hc hil hkey hy hcap
      go_upto_region 7 with (fail)
      go_region
      all_goals
        clear hfz
        go_wp2
        go_ret
        rw [cells7]
        obtain ⟨y', hy'⟩ : ∃ y' : FdE, y' = ⟨o.fm, o.ua⟩ := ⟨_, rfl⟩
        have row := VRow.setAt encF_len HR.out.f HHI.out y'
        have ts := touch_setCells g (encF y') (i * 7) w2
        rw [show [Value.int .u8 o.fm.m0, Value.int .u8 o.fm.m1, Value.int .u8 o.fm.m2, Value.int .u8 o.fm.m3, Value.int .u8 o.fm.m4, Value.int .u8 o.fm.m5, Value.int .u32 o.ua] = encF y' by rw [hy']; rfl]
        generalize w2.setCells g (i * 7) (encF y') = W5 at *
        rw [List.length_set] at row
        have row2 : VRow W5.drew 55 7 (.slice (some ⟨g, 0, none⟩) E.length cap) (E.set i y').length (SK.flatL encF (E.set i y')) := by rw [List.length_set]; exact row.drew
        refine ⟨0, _, E.set i y', rfl, HR.out.sameF ts.drew row2, ⟨(i : Int), HFI.out, .inr ⟨by simp [HK.out], .inl ⟨i, rfl, rfl, by rw [hy']⟩⟩⟩, (T2.out.mono (by simp)).trans ts.drew (fun x hx => .inl (by simp at hx; simp [kfoot, Value.ownBlock, hx])), fun x hx => .inl hx⟩
end Go.Proofs.YtnpeafhjcelpfaaGreat.Tri

/- The reference: route, whether it is an op; no condition. -/
namespace Go.Proofs.YtnpeafhjcelpfaaGreat.Tri
open Go.RowKit Go.Maps
set_option linter.unusedVariables false
set_option linter.unusedSimpArgs false
set_option maxRecDepth 100000

theorem okB_iff {a : Nat} {m : Int} : okB a m = true ↔ okP a m := by
  unfold okB
  rw [@decide_eq_true_iff _ (Classical.propDecidable _)]
set_option maxHeartbeats 8000000 in
theorem rroute_bad {w : World} {rb : Nat} (o : OpR) (hpa : o.pa < 4294967296) (hb : okR o.kd o.pa o.pm o.v = false) :
    Calls Tryz.prog 87 #[.pointer (some ⟨rb, 0, none⟩), .agg (opC o)] w (fun e w' => e = .returned (.int .i64 93) ∧ Touch [] w w') := by
  obtain ⟨W1, hW1⟩ : ∃ W1 : World, W1 = w.alloc (.cells (opC o) 57) := ⟨_, rfl⟩
  have X1 := Lib.hid (show W1.heap[w.heap.size]? = some (.cells (opC o) 57 (0, 0)) by rw [hW1]; exact box_at w _)
  have T1 := Lib.hid (show Touch [] w W1 by rw [hW1]; exact (Touch.refl [] w).alloc _)
  have HW1 := Lib.hid hW1
  clear hW1
  obtain ⟨q0, q1, q2, q3, q4, q5, q6, q7, q8, q9, q10, q11, q12, q13, q14, q15, q16, q17, q18⟩ := op_all o X1.out
  clear q0 q3 q4 q5 q6 q7 q8 q9 q10 q11 q12 q13 q14 q15 q16 q17 q18
  unfold okR at hb
  cases hob : okB o.pa o.pm with
  | false =>
    have HV := Lib.hid (rvalid_calls o.pa o.pm W1 hpa false (by rw [← okB_iff, hob]))
    clear hb hob
    go_enter Tryz.func87, Tryz.ntmps87
    go_upto_region 1 with (fail)
    rw [← HW1.out]
    go_wp2_with (go_at_call 98; refine HV.out.mono ?_; rintro e w2 ⟨rfl, t2⟩; have T2 := Lib.hid t2; clear t2)
    go_ret
    exact ⟨rfl, T1.out.trans T2.out (by simp)⟩
  | true =>
    have HV := Lib.hid (rvalid_calls o.pa o.pm W1 hpa true (by rw [← okB_iff, hob]))
    rw [hob] at hb
    simp at hb
    obtain ⟨⟨h1, h2⟩, h3⟩ := hb
    have e1 : (o.kd == 1) = true := by simp [h1]
    have e3 : (rV o.v == 0) = false := by simpa using h3
    clear hob
    go_enter Tryz.func87, Tryz.ntmps87
    go_upto_region 1 with (fail)
    rw [← HW1.out]
    go_wp2_with (go_at_call 98; refine HV.out.mono ?_; rintro e w2 ⟨rfl, t2⟩; have T2 := Lib.hid t2; (obtain ⟨r0, r1, r2, r3, r4, _⟩ := op_all o (touch_box t2 X1.out (by simp))); clear t2; rw [h1] at r0; rw [h2] at r4)
    go_ret
    exact ⟨rfl, T1.out.trans T2.out (by simp)⟩
end Go.Proofs.YtnpeafhjcelpfaaGreat.Tri

/- The reference: route; no condition. -/
namespace Go.Proofs.YtnpeafhjcelpfaaGreat.Tri
open Go.RowKit Go.Maps
set_option linter.unusedVariables false
set_option linter.unusedSimpArgs false
set_option maxRecDepth 100000

def RPost (w : World) (rb : Nat) (V0 V1 V2 : Value) (R : List Ent) (N : List NeE) (E : List FdE) (l0 l1 l2 : Int) (o : OpR) (e : Ending) (w' : World) : Prop :=
  ∃ (err : Int) (V0' : Value) (R' : List Ent), e = .returned (.int .i64 err) ∧ RefK w' rb V0' V1 V2 R' N E l0 l1 l2 ∧ RowRel Ent.key (pxO o) (pxO o, o.v) (decide (o.kd ≠ 2)) l0 R R' err ∧ Touch (kfoot rb V0 V1 V2) w w' ∧ ∀ x ∈ kfoot rb V0' V1 V2, x ∈ kfoot rb V0 V1 V2 ∨ w.heap.size ≤ x
set_option maxHeartbeats 8000000 in
theorem rroute_calls {w : World} {rb : Nat} {V0 V1 V2 : Value} {R : List Ent} {N : List NeE} {E : List FdE} {l0 l1 l2 : Int} (h : RefK w rb V0 V1 V2 R N E l0 l1 l2) (o : OpR) (hpa : o.pa < 4294967296) (hok : okR o.kd o.pa o.pm o.v = true) (hlen : R.length ≤ 1000000) :
    Calls Tryz.prog 87 #[.pointer (some ⟨rb, 0, none⟩), .agg (opC o)] w (RPost w rb V0 V1 V2 R N E l0 l1 l2 o) := by
  have H := Lib.hid h
  have HPX := Lib.hid (px_ok (okR_okB hok))
  have HPM := Lib.hid (px_ok (okR_okB hok)).2
  have HOB := Lib.hid (okR_okB hok)
  have HOK := Lib.hid hok
  obtain ⟨A, cap, rfl⟩ := h.r.form
  clear h hok
  go_enter Tryz.func87, Tryz.ntmps87
  go_upto_region 1 with (fail)
  obtain ⟨W1, hW1⟩ : ∃ W1 : World, W1 = w.alloc (.cells (opC o) 57) := ⟨_, rfl⟩
  rw [← hW1]
  have X1 := Lib.hid (show W1.heap[w.heap.size]? = some (.cells (opC o) 57 (0, 0)) by rw [hW1]; exact box_at w _)
  have T1 := Lib.hid (show Touch [] w W1 by rw [hW1]; exact (Touch.refl [] w).alloc _)
  clear hW1
  obtain ⟨b3, hb3⟩ : ∃ b3, b3 = w.heap.size := ⟨_, rfl⟩
  have HB3 := Lib.hid hb3
  rw [← hb3] at X1 ⊢
  clear hb3
  go_cut [26] (fun v26 wc => v26 = .bool false ∧ Hid (Touch [] W1 wc))
  case first =>
    obtain ⟨q0, q1, q2, q3, q4, q5, q6, q7, q8, q9, q10, q11, q12, q13, q14, q15, q16, q17, q18⟩ := op_all o X1.out
    clear q0 q3 q4 q5 q6 q7 q8 q9 q10 q11 q12 q13 q14 q15 q16 q17 q18
    have HV := Lib.hid (rvalid_calls o.pa o.pm W1 hpa true (by rw [← okB_iff, HOB.out]))
    have hcs := HOK.out
    unfold okR at hcs
    rw [HOB.out] at hcs
    simp at hcs
    by_cases h1 : o.kd = 1
    · have e1 : (o.kd == 1) = true := by simp [h1]
      cases h2 : rL o.v with
      | false =>
        clear hcs
        go_wp2_with (go_at_call 98; refine HV.out.mono ?_; rintro e w2 ⟨rfl, t2⟩; have T2 := Lib.hid t2; (obtain ⟨r0, r1, r2, r3, r4, _⟩ := op_all o (touch_box t2 X1.out (by simp))); clear t2; rw [h2] at r4)
        go_meet
        case rel => exact ⟨rfl, T2⟩
      | true =>
        have hv0 : rV o.v = 0 := by
          rcases hcs with (h | h) | h
          · exact absurd h1 h
          · rw [h2] at h; cases h
          · exact h
        have HV0 := Lib.hid hv0
        clear hcs hv0
        go_wp2_with (go_at_call 98; refine HV.out.mono ?_; rintro e w2 ⟨rfl, t2⟩; have T2 := Lib.hid t2; (obtain ⟨r0, r1, r2, r3, r4, _⟩ := op_all o (touch_box t2 X1.out (by simp))); clear t2; rw [h2] at r4)
        go_meet
        case rel => exact ⟨by first | rfl | (rw [HV0.out]; rfl), T2⟩
    · have e1 : (o.kd == 1) = false := by simpa using h1
      clear hcs
      go_wp2_with (go_at_call 98; refine HV.out.mono ?_; rintro e w2 ⟨rfl, t2⟩; have T2 := Lib.hid t2; (obtain ⟨r0, r1, r2, r3, r4, _⟩ := op_all o (touch_box t2 X1.out (by simp))); clear t2)
      go_meet
      case rel => exact ⟨rfl, T2⟩
  case rest =>
  obtain ⟨rfl, hTc⟩ := hcut
  have T1c := Lib.hid (T1.out.trans hTc.out (by simp))
  have X1c := Lib.hid (touch_box hTc.out X1.out (by simp))
  clear X1 T1 hTc
  obtain ⟨_, q1, q2, _⟩ := op_all o X1c.out
  go_wp2_with fail
  have hcall := rrouteAt_calls (H.out.kept T1c.out (by simp)) (pxO o) (by omega)
  rw [← HPM.out] at hcall
  refine hcall.mono ?_
  rintro e w2 ⟨r, rfl, hr, t2⟩
  have T2 := Lib.hid (T1c.out.trans t2 (by simp))
  have X2 := Lib.hid (touch_box t2 X1c.out (by simp))
  have HR := Lib.hid (H.out.kept T2.out (by simp))
  have HFI := Lib.hid hr
  clear t2 q1 q2 hr X1c T1c hcall
  obtain ⟨q0, q1, q2, q3, q4, q5, q6, q7, q8, q9, q10, q11, q12, q13, q14, q15, q16, q17, q18⟩ := op_all o X2.out
  obtain ⟨c0, c1, c2, c3, c4, c5⟩ := six_cells HR.out.blk
  clear q5 q6 q7 q8 q9 q10 q11 q12 q13 q14 q15 q16 q17 q18
  by_cases hk4 : o.kd = 2
  · have ek : (o.kd == 2) = true := by simp [hk4]
    have HK := Lib.hid hk4
    clear hk4
    rcases HFI.out with ⟨rfl, hno⟩ | ⟨i, y, rfl, hy, hkey⟩
    · have HN := Lib.hid hno
      clear hno
      go_wp2
      go_ret
      exact ⟨0, _, R, rfl, HR.out, ⟨-1, HFI.out, .inl ⟨by simp [HK.out], rfl, .inl ⟨rfl, rfl⟩⟩⟩, T2.out.mono (by simp), fun x hx => .inl hx⟩
    · have hil := (List.getElem?_eq_some_iff.1 hy).1
      obtain ⟨g, c, hV, hcap, hgl, _, hfz⟩ := HR.out.r.getAt encR_len hy
      simp only [Value.slice.injEq, true_and] at hV
      obtain ⟨rfl, rfl⟩ := hV
      obtain ⟨AD, hA, hnews, s1, s2, s3⟩ := out_facts encR_len encR_one HR.out.r hcap hil
      have S1 := Lib.hid s1
      have S2 := Lib.hid s2
      have S3 := Lib.hid s3
      have HNW := Lib.hid hnews
      have hne : rb ≠ g := fun e => HR.out.apart.1 (by simp [Value.ownBlock, e])
      have hwr : IntKind.i64.wrap ((i : Int) + 1) = (i : Int) + 1 := by rw [IntKind.wrap_i64]; omega
      have hp0 : (0 : Int) ≤ (i : Int) + 1 := by omega
      have hp1 : (i : Int) + 1 ≤ (R.length : Int) := by omega
      have hp2 : ((i : Int) + 1).toNat = i + 1 := by omega
      have hp3 : i ≤ cap := by omega
      have hp4 : (0 : Int) ≤ (i : Int) := by omega
      obtain ⟨i0, hi0, hz0, hz1, hz2⟩ := info_of infoR
      have k1 := cell_setCells (w := w2.drew) (g := g) (o := 0 + i * 4) (vs := SK.flatL encR (R.drop (i + 1))) (show w2.drew.cell? ⟨rb, 0, none⟩ = _ from c0) hne
      have e1 : (w2.drew.setCells g (0 + i * 4) (SK.flatL encR (R.drop (i + 1)))).frozen? ⟨rb, 0, none⟩ = false := (World.frozen?_setCells g _ _ _ _).trans (six_more HR.out.blk 0)
      have HHI := Lib.hid hil
      have HKY := Lib.hid hkey
      have HY := Lib.hid hy
      have HNE := Lib.hid hne
      obtain ⟨MV, hMV⟩ : ∃ MV, MV = SK.flatL encR (R.drop (i + 1)) := ⟨_, rfl⟩
      have HMV := Lib.hid hMV
      rw [← hMV] at S1 S2 S3 HNW k1 e1
      rw [Nat.zero_add] at k1 e1
      clear hnews s1 s2 s3 hfz hil hkey hy hne hMV
      go_upto_region 6 with (fail)
      go_region_law (refine step_append_room rfl (.tmp 43) (.tmp 50) 62 rfl 49 i0 4 Tryz.underlying62 hi0 hz1 g 0 i cap (by simp [Act.eval, Act.put]) AD (R.length - (i + 1)) (cap - (i + 1)) MV (by simp [Act.eval, Act.put]) S1.out HNW.out S2.out (by omega) S3.out ?_)
      all_goals
        clear k1 e1
        go_wp2
        go_ret
        have hle : (R.eraseIdx i).length = i + (R.length - (i + 1)) := by rw [List.length_eraseIdx_of_lt HHI.out]; have := HHI.out; omega
        have row := VRow.outAt encR_len (show VRow w2.drew 49 4 (.slice (some ⟨g, 0, none⟩) R.length cap) R.length (SK.flatL encR R) from ⟨HR.out.r.own⟩) HHI.out
        rw [← HMV.out, hle] at row
        rw [← hle] at row
        obtain ⟨g1, g2, g3⟩ := HR.out.newR (L := R.eraseIdx i) (((Touch.refl [g] w2).drew).trans (touch_setCells g MV (i * 4) w2.drew) (fun x hx => .inl hx)) row (.inl rfl)
        rw [hle] at g1 g2 g3
        exact ⟨0, _, R.eraseIdx i, rfl, g1, ⟨(i : Int), HFI.out, .inl ⟨by simp [HK.out], rfl, .inr ⟨i, rfl, rfl⟩⟩⟩, (T2.out.mono (by simp)).trans g2 (fun x hx => .inl hx), fun x hx => by
          rcases g3 x hx with h | h
          · exact .inl h
          · exact .inr (Nat.le_trans T2.out.size h)⟩
  · have ek : (o.kd == 2) = false := by simpa using hk4
    have HK := Lib.hid hk4
    clear hk4
    rcases HFI.out with ⟨rfl, hno⟩ | ⟨i, y, rfl, hy, hkey⟩
    · have HN := Lib.hid hno
      clear hno
      by_cases hl : l0 ≤ (R.length : Int)
      · have HL := Lib.hid hl
        go_wp2
        go_quiet (fail)
        go_wp2
        go_ret
        exact ⟨4, _, R, rfl, HR.out.kept ((Touch.refl [] w2).drewN _) (by simp), ⟨-1, HFI.out, .inr ⟨by simp [HK.out], .inr (.inl ⟨rfl, HL.out, rfl, rfl⟩)⟩⟩, ((T2.out.trans ((Touch.refl [] w2).drewN _) (by simp)).mono (by simp)), fun x hx => .inl hx⟩
      · have HL := Lib.hid hl
        go_upto_region 13 with (first | (go_quiet (fail)) | fail)
        obtain ⟨W4, hW4⟩ : ∃ W : World, W = w2.drewN nq := ⟨_, rfl⟩
        rw [← hW4]
        have t4 : Touch [] w2 W4 := by rw [hW4]; exact (Touch.refl [] w2).drewN _
        have X4 := Lib.hid (touch_box t4 X2.out (by simp))
        have HR4 := Lib.hid (HR.out.kept t4 (by simp))
        have T4 := Lib.hid (T2.out.trans t4 (by simp))
        clear hW4 t4 q0 q1 q2 q3 q4 c0 c1 c2 c3 c4 c5
        obtain ⟨q0, q1, q2, q3, q4, q5, q6, q7, q8, q9, q10, q11, q12, q13, q14, q15, q16, q17, q18⟩ := op_all o X4.out
        obtain ⟨c0, c1, c2, c3, c4, c5⟩ := six_cells HR4.out.blk
        have ca1 := fun ob => (six_cells (box_keep ob HR4.out.blk)).1
        have ROW := Lib.hid (show VRow W4.drew 49 4 (.slice A R.length cap) R.length (SK.flatL encR R) from ⟨HR4.out.r.own⟩)
        have hn1 : rb ∉ (Value.slice A R.length cap).ownBlock.toList := HR4.out.apart.1
        clear q5 q6 q7 q8 q9 q10 q11 q12 q13 q14 q15 q16 q17 q18
        go_region_law (refine step_append_vr (W := W4.drew) (by rfl) (.tmp 78) (.tmp 81) 62 49 4 24 _ Tryz.underlying62 (by rfl) infoR rfl (by decide) (by decide) (.slice A R.length cap) R.length (SK.flatL encR R) 1 #[.int .u32 o.pa, .int .i64 o.pm, .int .u32 (rV o.v), .bool (rL o.v)] (by rfl) ROW.out (by rfl) (by rfl) (by simp [Value.oneCell']) (by omega) ?_
                       intro A5 c5' w5 v5 t5 o5
                       have k1 := cell_touch t5 (show W4.drew.cell? ⟨rb, 0, none⟩ = _ from c0) hn1
                       have e1 := frozen_touch t5 (show W4.drew.cell? ⟨rb, 0, none⟩ = _ from c0) (show W4.drew.frozen? ⟨rb, 0, none⟩ = false from six_more HR4.out.blk 0) hn1
                       have V5 := Lib.hid v5
                       have T5 := Lib.hid t5
                       have O5 := Lib.hid o5
                       clear v5 t5 o5)
        all_goals
          clear k1 e1 ca1
          go_wp2
          go_ret
          obtain ⟨g1, g2, g3⟩ := HR4.out.newR (L := R ++ [(pxO o, o.v)]) (((Touch.refl (Value.slice A R.length cap).ownBlock.toList W4).drew).trans T5.out (fun x hx => .inl hx)) (by rw [List.length_append, flat_app, flat_one, show encR (pxO o, o.v) = [Value.int .u32 o.pa, Value.int .i64 o.pm, Value.int .u32 (rV o.v), Value.bool (rL o.v)] by simp only [encR]; rw [← HPM.out]; rfl]; exact V5.out) (by rcases O5.out with h | ⟨b, h1, h2⟩; exact .inl h; exact .inr ⟨b, h1, h2⟩)
          exact ⟨0, _, R ++ [(pxO o, o.v)], rfl, g1, ⟨-1, HFI.out, .inr ⟨by simp [HK.out], .inr (.inr ⟨rfl, by have := HL.out; omega, rfl, rfl⟩)⟩⟩, (T4.out.mono (by simp)).trans g2 (fun x hx => .inl hx), fun x hx => by
            rcases g3 x hx with h | h
            · exact .inl h
            · exact .inr (Nat.le_trans T4.out.size h)⟩
    · have hil := (List.getElem?_eq_some_iff.1 hy).1
      obtain ⟨g, c, hV, hcap, hgl, hc, hfz⟩ := HR.out.r.getAt encR_len hy
      simp only [Value.slice.injEq, true_and] at hV
      obtain ⟨rfl, rfl⟩ := hV
      have hne : rb ≠ g := fun e => HR.out.apart.1 (by simp [Value.ownBlock, e])
      have hp1 : (i : Int) < (R.length : Int) := by omega
      have hp4 : (0 : Int) ≤ (i : Int) := by omega
      have m0 := hc 0 _ rfl
      rw [Nat.add_zero] at m0
      have m1 := hc 1 _ rfl
      have m2 := hc 2 _ rfl
      have m3 := hc 3 _ rfl
      have HHI := Lib.hid hil
      have HY := Lib.hid hy
      clear hc hil hkey hy hcap
      go_upto_region 9 with (fail)
      go_region
      all_goals
        clear hfz
        go_wp2
        go_ret
        rw [cells4]
        obtain ⟨y', hy'⟩ : ∃ y' : Ent, y' = (pxO o, o.v) := ⟨_, rfl⟩
        have row := VRow.setAt encR_len HR.out.r HHI.out y'
        have ts := touch_setCells g (encR y') (i * 4) w2
        rw [show [Value.int .u32 o.pa, Value.int .i64 o.pm, Value.int .u32 (rV o.v), Value.bool (rL o.v)] = encR y' by rw [hy']; simp only [encR]; rw [← HPM.out]; rfl]
        generalize w2.setCells g (i * 4) (encR y') = W5 at *
        rw [List.length_set] at row
        have row2 : VRow W5.drew 49 4 (.slice (some ⟨g, 0, none⟩) R.length cap) (R.set i y').length (SK.flatL encR (R.set i y')) := by rw [List.length_set]; exact row.drew
        refine ⟨0, _, R.set i y', rfl, HR.out.sameR ts.drew row2, ⟨(i : Int), HFI.out, .inr ⟨by simp [HK.out], .inl ⟨i, rfl, rfl, by rw [hy']⟩⟩⟩, (T2.out.mono (by simp)).trans ts.drew (fun x hx => .inl (by simp at hx; simp [kfoot, Value.ownBlock, hx])), fun x hx => .inl hx⟩
end Go.Proofs.YtnpeafhjcelpfaaGreat.Tri

/- The reference: New, Flush, one op; no condition. -/
namespace Go.Proofs.YtnpeafhjcelpfaaGreat.Tri
open Go.RowKit Go.Maps
set_option linter.unusedVariables false
set_option linter.unusedSimpArgs false
set_option maxRecDepth 100000

/-- The reference's three lists. -/
structure LSt where
  r : List Ent
  n : List NeE
  e : List FdE
def LSt.none : LSt := ⟨[], [], []⟩
/-- The reference's kernel, and the blocks that are its own. -/
def RefL (w : World) (rb : Nat) (l0 l1 l2 : Int) (s : LSt) (F : List Nat) : Prop := ∃ V0 V1 V2, F = kfoot rb V0 V1 V2 ∧ RefK w rb V0 V1 V2 s.r s.n s.e l0 l1 l2
theorem RefL.kept {w w' : World} {rb : Nat} {l0 l1 l2 : Int} {s : LSt} {F : List Nat} (h : RefL w rb l0 l1 l2 s F) {X : List Nat} (t : Touch X w w') (hn : ∀ x ∈ F, x ∉ X) : RefL w' rb l0 l1 l2 s F := by
  obtain ⟨V0, V1, V2, rfl, h⟩ := h
  exact ⟨V0, V1, V2, rfl, h.kept t hn⟩
theorem RefL.lt {w : World} {rb : Nat} {l0 l1 l2 : Int} {s : LSt} {F : List Nat} (h : RefL w rb l0 l1 l2 s F) : ∀ x ∈ F, x < w.heap.size := by
  obtain ⟨V0, V1, V2, rfl, h⟩ := h
  exact h.lt
/-- What the lists hold is right, and within the capacities. -/
structure GoodL (l0 l1 l2 : Int) (s : LSt) : Prop where
  r : ∀ x ∈ s.r, x.1.ok ∧ 0 ≤ x.2 ∧ x.2 < 8589934592
  n : ∀ x ∈ s.n, 0 ≤ x.ip ∧ x.ip < 4294967296 ∧ x.m.wf
  e : ∀ x ∈ s.e, x.m.wf ∧ 0 ≤ x.ua ∧ x.ua < 4294967296
  lr : (s.r.length : Int) ≤ l0 ∧ l0 ≤ 256
  ln : (s.n.length : Int) ≤ l1 ∧ l1 ≤ 256
  le : (s.e.length : Int) ≤ l2 ∧ l2 ≤ 256
/-- One op on the lists. -/
def StepL (l0 l1 l2 : Int) (s : LSt) (o : OpR) (s' : LSt) (err : Int) : Prop :=
  if o.kd = 1 ∨ o.kd = 2 then (if okR o.kd o.pa o.pm o.v then RowRel Ent.key (pxO o) (pxO o, o.v) (decide (o.kd ≠ 2)) l0 s.r s'.r err ∧ s'.n = s.n ∧ s'.e = s.e else s' = s ∧ err = 93)
  else if o.kd = 3 ∨ o.kd = 4 then RowRel NeE.key o.ip ⟨o.ip, o.nm⟩ (decide (o.kd ≠ 4)) l1 s.n s'.n err ∧ s'.r = s.r ∧ s'.e = s.e
  else if o.kd = 5 ∨ o.kd = 6 then RowRel FdE.key o.fm ⟨o.fm, o.ua⟩ (decide (o.kd ≠ 6)) l2 s.e s'.e err ∧ s'.r = s.r ∧ s'.n = s.n
  else s' = s ∧ err = 93
def LeavesL (rb : Nat) (l0 l1 l2 : Int) (F : List Nat) (s' : LSt) (W W' : World) : Prop := ∃ F', RefL W' rb l0 l1 l2 s' F' ∧ Touch F W W' ∧ ∀ x ∈ F', x ∈ F ∨ W.heap.size ≤ x
theorem LeavesL.trans {rb : Nat} {l0 l1 l2 : Int} {F F1 : List Nat} {s' : LSt} {w w1 w2 : World} (t : Touch F w w1) (hF : ∀ x ∈ F1, x ∈ F ∨ w.heap.size ≤ x) (h : LeavesL rb l0 l1 l2 F1 s' w1 w2) : LeavesL rb l0 l1 l2 F s' w w2 := by
  obtain ⟨F', hk, t', hF'⟩ := h
  refine ⟨F', hk, t.trans t' hF, fun x hx => ?_⟩
  rcases hF' x hx with h1 | h1
  · exact hF x h1
  · exact .inr (Nat.le_trans t.size h1)
def OnePost (w : World) (rb : Nat) (l0 l1 l2 : Int) (s : LSt) (F : List Nat) (o : OpR) (e : Ending) (w' : World) : Prop := ∃ (err : Int) (s' : LSt), e = .returned (.int .i64 err) ∧ StepL l0 l1 l2 s o s' err ∧ LeavesL rb l0 l1 l2 F s' w w'
set_option maxHeartbeats 8000000 in
theorem rone_calls {w : World} {rb : Nat} {l0 l1 l2 : Int} {s : LSt} {F : List Nat} (h : RefL w rb l0 l1 l2 s F) (hG : GoodL l0 l1 l2 s) (o : OpR) (ho : OpW o) :
    Calls Tryz.prog 64 #[.pointer (some ⟨rb, 0, none⟩), .agg (opC o)] w (OnePost w rb l0 l1 l2 s F o) := by
  obtain ⟨V0, V1, V2, rfl, h⟩ := h
  have H := Lib.hid h
  have HG := Lib.hid hG
  have HO := Lib.hid ho
  obtain ⟨W1, hW1⟩ : ∃ W1 : World, W1 = w.alloc (.cells (opC o) 57) := ⟨_, rfl⟩
  have X1 := Lib.hid (show W1.heap[w.heap.size]? = some (.cells (opC o) 57 (0, 0)) by rw [hW1]; exact box_at w _)
  have T1 := Lib.hid (show Touch [] w W1 by rw [hW1]; exact (Touch.refl [] w).alloc _)
  have HW1 := Lib.hid hW1
  have q0 := (op_all o X1.out).1
  have H1 := Lib.hid (h.kept T1.out (by simp))
  clear h hG ho hW1
  by_cases h12 : o.kd = 1 ∨ o.kd = 2
  · have HK := Lib.hid h12
    have e1 : (o.kd == 1) = decide (o.kd = 1) := rfl
    cases hok : okR o.kd o.pa o.pm o.v with
    | false =>
      have HC := Lib.hid (rroute_bad (w := W1) (rb := rb) o HO.out.pa hok)
      have HOK := Lib.hid hok
      clear hok e1
      rcases h12 with hk | hk
      all_goals
        rw [hk] at q0
        have HKD := Lib.hid hk
        clear hk
        go_enter Tryz.func64, Tryz.ntmps64
        go_upto_region 1 with (fail)
        rw [← HW1.out]
        go_wp2_with (first
          | (refine wpList_load_mid (by rfl) 57 (.tmp 3) (by rfl) w.heap.size 0 (by rfl) (opC o).toList _ (range_box X1.out) Tryz.underlying57 rfl info57 ?_)
          | (go_at_call 87; refine HC.out.mono ?_; rintro e w2 ⟨rfl, t2⟩; have T2 := Lib.hid t2; clear t2))
        go_ret
        exact ⟨93, s, rfl, by unfold StepL; rw [if_pos HK.out, HOK.out]; exact ⟨rfl, rfl⟩, _, ⟨V0, V1, V2, rfl, H1.out.kept T2.out (by simp)⟩, (T1.out.trans T2.out (by simp)).mono (by simp), fun x hx => .inl hx⟩
    | true =>
      have HC := Lib.hid (rroute_calls H1.out o HO.out.pa hok (by have := HG.out.lr; omega))
      have HOK := Lib.hid hok
      clear hok e1
      rcases h12 with hk | hk
      all_goals
        rw [hk] at q0
        have HKD := Lib.hid hk
        clear hk
        go_enter Tryz.func64, Tryz.ntmps64
        go_upto_region 1 with (fail)
        rw [← HW1.out]
        go_wp2_with (first
          | (refine wpList_load_mid (by rfl) 57 (.tmp 3) (by rfl) w.heap.size 0 (by rfl) (opC o).toList _ (range_box X1.out) Tryz.underlying57 rfl info57 ?_)
          | (go_at_call 87; refine HC.out.mono ?_; rintro e w2 ⟨err, V', L, rfl, hr, hs, ht, hf⟩; have A1 := Lib.hid hr; have A2 := Lib.hid hs; have A3 := Lib.hid ht; have A4 := Lib.hid hf; clear hr hs ht hf))
        go_ret
        exact ⟨err, ⟨L, s.n, s.e⟩, rfl, by unfold StepL; rw [if_pos HK.out, HOK.out]; exact ⟨A2.out, rfl, rfl⟩, _, ⟨_, _, _, rfl, A1.out⟩, (T1.out.mono (by simp)).trans A3.out (fun x hx => .inl hx), fun x hx => by
          rcases A4.out x hx with h | h
          · exact .inl h
          · exact .inr (Nat.le_trans T1.out.size h)⟩
  · have g1 : (o.kd == 1) = false := by simp; exact fun h => h12 (.inl h)
    have g2 : (o.kd == 2) = false := by simp; exact fun h => h12 (.inr h)
    have HK := Lib.hid h12
    clear h12
    by_cases h34 : o.kd = 3 ∨ o.kd = 4
    · have HC := Lib.hid (rneigh_calls H1.out o (by have := HG.out.ln; omega))
      have HK2 := Lib.hid h34
      clear g1 g2
      rcases h34 with hk | hk
      all_goals
        rw [hk] at q0
        have HKD := Lib.hid hk
        clear hk
        go_enter Tryz.func64, Tryz.ntmps64
        go_upto_region 1 with (fail)
        rw [← HW1.out]
        go_wp2_with (first
          | (refine wpList_load_mid (by rfl) 57 (.tmp 3) (by rfl) w.heap.size 0 (by rfl) (opC o).toList _ (range_box X1.out) Tryz.underlying57 rfl info57 ?_)
          | (go_at_call 88; refine HC.out.mono ?_; rintro e w2 ⟨err, V', L, rfl, hr, hs, ht, hf⟩; have A1 := Lib.hid hr; have A2 := Lib.hid hs; have A3 := Lib.hid ht; have A4 := Lib.hid hf; clear hr hs ht hf))
        go_ret
        exact ⟨err, ⟨s.r, L, s.e⟩, rfl, by unfold StepL; rw [if_neg HK.out, if_pos HK2.out]; exact ⟨A2.out, rfl, rfl⟩, _, ⟨_, _, _, rfl, A1.out⟩, (T1.out.mono (by simp)).trans A3.out (fun x hx => .inl hx), fun x hx => by
          rcases A4.out x hx with h | h
          · exact .inl h
          · exact .inr (Nat.le_trans T1.out.size h)⟩
    · have g3 : (o.kd == 3) = false := by simp; exact fun h => h34 (.inl h)
      have g4 : (o.kd == 4) = false := by simp; exact fun h => h34 (.inr h)
      have HK2 := Lib.hid h34
      clear h34
      by_cases h56 : o.kd = 5 ∨ o.kd = 6
      · have HC := Lib.hid (rfdb_calls H1.out (fun x hx => (HG.out.e x hx).1) o HO.out.fm (by have := HG.out.le; omega))
        have HK3 := Lib.hid h56
        clear g1 g2 g3 g4
        rcases h56 with hk | hk
        all_goals
          rw [hk] at q0
          have HKD := Lib.hid hk
          clear hk
          go_enter Tryz.func64, Tryz.ntmps64
          go_upto_region 1 with (fail)
          rw [← HW1.out]
          go_wp2_with (first
            | (refine wpList_load_mid (by rfl) 57 (.tmp 3) (by rfl) w.heap.size 0 (by rfl) (opC o).toList _ (range_box X1.out) Tryz.underlying57 rfl info57 ?_)
            | (go_at_call 89; refine HC.out.mono ?_; rintro e w2 ⟨err, V', L, rfl, hr, hs, ht, hf⟩; have A1 := Lib.hid hr; have A2 := Lib.hid hs; have A3 := Lib.hid ht; have A4 := Lib.hid hf; clear hr hs ht hf))
          go_ret
          exact ⟨err, ⟨s.r, s.n, L⟩, rfl, by unfold StepL; rw [if_neg HK.out, if_neg HK2.out, if_pos HK3.out]; exact ⟨A2.out, rfl, rfl⟩, _, ⟨_, _, _, rfl, A1.out⟩, (T1.out.mono (by simp)).trans A3.out (fun x hx => .inl hx), fun x hx => by
            rcases A4.out x hx with h | h
            · exact .inl h
            · exact .inr (Nat.le_trans T1.out.size h)⟩
      · have g5 : (o.kd == 5) = false := by simp; exact fun h => h56 (.inl h)
        have g6 : (o.kd == 6) = false := by simp; exact fun h => h56 (.inr h)
        have HK3 := Lib.hid h56
        clear h56
        go_enter Tryz.func64, Tryz.ntmps64
        go_upto_region 1 with (fail)
        rw [← HW1.out]
        go_wp2
        go_ret
        exact ⟨93, s, rfl, by unfold StepL; rw [if_neg HK.out, if_neg HK2.out, if_neg HK3.out]; exact ⟨rfl, rfl⟩, _, ⟨V0, V1, V2, rfl, H1.out⟩, T1.out.mono (by simp), fun x hx => .inl hx⟩
end Go.Proofs.YtnpeafhjcelpfaaGreat.Tri

/- The reference: Do, New, Flush; no condition. -/
namespace Go.Proofs.YtnpeafhjcelpfaaGreat.Tri
open Go.RowKit Go.Maps
set_option linter.unusedVariables false
set_option linter.unusedSimpArgs false
set_option maxRecDepth 100000

theorem RowRel.all {α κ : Type} {key : α → κ} {x : κ} {y : α} {pt : Bool} {lim : Int} {l l' : List α} {err : Int} {P : α → Prop} (h : RowRel key x y pt lim l l' err) (hl : ∀ z ∈ l, P z) (hy : P y) : ∀ z ∈ l', P z := by
  obtain ⟨r, _, h⟩ := h
  rcases h with ⟨_, _, ⟨_, rfl⟩ | ⟨i, _, rfl⟩⟩ | ⟨_, ⟨i, _, _, rfl⟩ | ⟨_, _, _, rfl⟩ | ⟨_, _, _, rfl⟩⟩
  · exact hl
  · exact fun z hz => hl z (List.mem_of_mem_eraseIdx hz)
  · intro z hz
    rcases List.mem_or_eq_of_mem_set hz with h | h
    · exact hl z h
    · rw [h]; exact hy
  · exact hl
  · intro z hz
    rcases List.mem_append.1 hz with h | h
    · exact hl z h
    · simp at h; rw [h]; exact hy
theorem RowRel.len {α κ : Type} {key : α → κ} {x : κ} {y : α} {pt : Bool} {lim : Int} {l l' : List α} {err : Int} (h : RowRel key x y pt lim l l' err) (hl : (l.length : Int) ≤ lim) : (l'.length : Int) ≤ lim := by
  obtain ⟨r, _, h⟩ := h
  rcases h with ⟨_, _, ⟨_, rfl⟩ | ⟨i, _, rfl⟩⟩ | ⟨_, ⟨i, _, _, rfl⟩ | ⟨_, _, _, rfl⟩ | ⟨_, hn, _, rfl⟩⟩
  · exact hl
  · have := List.length_eraseIdx_le l i; omega
  · rw [List.length_set]; exact hl
  · exact hl
  · rw [List.length_append, List.length_singleton]; omega
theorem good_step {l0 l1 l2 : Int} {s s' : LSt} {o : OpR} {err : Int} (h : GoodL l0 l1 l2 s) (ho : OpW o) (hs : StepL l0 l1 l2 s o s' err) : GoodL l0 l1 l2 s' := by
  unfold StepL at hs
  split at hs
  · split at hs
    · rename_i hok
      obtain ⟨hr, e1, e2⟩ := hs
      exact ⟨hr.all h.r ⟨(px_ok (okR_okB hok)).1, ho.v⟩, by rw [e1]; exact h.n, by rw [e2]; exact h.e, ⟨hr.len h.lr.1, h.lr.2⟩, by rw [e1]; exact h.ln, by rw [e2]; exact h.le⟩
    · rw [hs.1]; exact h
  · split at hs
    · obtain ⟨hr, e1, e2⟩ := hs
      exact ⟨by rw [e1]; exact h.r, hr.all h.n ⟨ho.ip.1, ho.ip.2, ho.nm⟩, by rw [e2]; exact h.e, by rw [e1]; exact h.lr, ⟨hr.len h.ln.1, h.ln.2⟩, by rw [e2]; exact h.le⟩
    · split at hs
      · obtain ⟨hr, e1, e2⟩ := hs
        exact ⟨by rw [e1]; exact h.r, by rw [e2]; exact h.n, hr.all h.e ⟨ho.fm, ho.ua.1, ho.ua.2⟩, by rw [e1]; exact h.lr, by rw [e2]; exact h.ln, ⟨hr.len h.le.1, h.le.2⟩⟩
      · rw [hs.1]; exact h
/-- Ops in order on the lists, up to the first that is refused. -/
def DoL (l0 l1 l2 : Int) : LSt → List OpR → Nat → LSt → Nat → Int → Prop
  | s, [], i, s', j, e => s' = s ∧ j = i ∧ e = 0
  | s, o :: os, i, s', j, e => ∃ s1 e1, StepL l0 l1 l2 s o s1 e1 ∧ ((e1 = 0 ∧ DoL l0 l1 l2 s1 os (i + 1) s' j e) ∨ (e1 ≠ 0 ∧ s' = s1 ∧ j = i ∧ e = e1))
def DoPostL (w : World) (rb : Nat) (l0 l1 l2 : Int) (F : List Nat) (s : LSt) (os : List OpR) (e : Ending) (w' : World) : Prop :=
  ∃ (s' : LSt) (j : Nat) (err : Int), e = .returned (.tuple #[.int .i64 j, .int .i64 err]) ∧ DoL l0 l1 l2 s os 0 s' j err ∧ GoodL l0 l1 l2 s' ∧ LeavesL rb l0 l1 l2 F s' w w'
set_option maxHeartbeats 8000000 in
theorem rdo_calls {w : World} {rb : Nat} {l0 l1 l2 : Int} {s : LSt} {F : List Nat} (h : RefL w rb l0 l1 l2 s F) (hG : GoodL l0 l1 l2 s) (A : Option Addr) (c : Nat) (os : List OpR) (hA : RdO w A os) (hO : ∀ o ∈ os, OpW o) (hd : ∀ x ∈ rdBlk A os, x ∉ F ∧ x < w.heap.size) (hn : os.length < 4611686018427387904) :
    Calls Tryz.prog 42 #[.pointer (some ⟨rb, 0, none⟩), .slice A os.length c] w (DoPostL w rb l0 l1 l2 F s os) := by
  obtain ⟨N, hN⟩ : ∃ N, N = os.length := ⟨_, rfl⟩
  have HN := Lib.hid hN
  have H := Lib.hid h
  have HG := Lib.hid hG
  have HA := Lib.hid hA
  have HO := Lib.hid hO
  have HD := Lib.hid hd
  rw [← hN]
  rw [← hN] at hn
  clear h hG hA hO hd hN
  go_enter Tryz.func42, Tryz.ntmps42
  go_wp2_with fail
  go_loopg [6] (N + 1) (fun kq v6 wr => ∃ (i : Nat) (si : LSt) (Fi : List Nat), v6 = .int .i64 i ∧ i ≤ N ∧ N + 1 - i ≤ kq ∧ Hid (RefL wr rb l0 l1 l2 si Fi) ∧ Hid (GoodL l0 l1 l2 si) ∧ Hid (∀ s' j e, DoL l0 l1 l2 si (os.drop i) i s' j e → DoL l0 l1 l2 s os 0 s' j e) ∧ Hid (Touch F w wr) ∧ Hid (∀ x ∈ Fi, x ∈ F ∨ w.heap.size ≤ x))
  case atStart => exact ⟨0, s, F, rfl, Nat.zero_le _, by omega, H, HG, Lib.hid (fun _ _ _ h => h), Lib.hid (Touch.refl _ _), Lib.hid (fun x hx => .inl hx)⟩
  case round =>
    obtain ⟨i, si, Fi, rfl, hi, hkq, hK, hSi, hRi, hT, hF⟩ := hrel
    by_cases hlt : i < N
    · have b1 : (i : Int) < (N : Int) := by omega
      obtain ⟨o, ho⟩ : ∃ o, os[i]? = some o := ⟨os[i]'(by rw [← HN.out]; exact hlt), List.getElem?_eq_getElem _⟩
      have HOo := Lib.hid (HO.out o (List.mem_of_getElem? ho))
      have hRA := HA.out.kept hT.out (fun x hx => (HD.out x hx).1)
      obtain ⟨g, p, cs, fr, hA, hg, hr⟩ := hRA.at_ i o ho
      subst hA
      have HRG := Lib.hid hr
      have hdr : os.drop i = o :: os.drop (i + 1) := by
        rw [List.drop_eq_getElem_cons (by rw [← HN.out]; exact hlt)]
        congr 1
        rw [List.getElem?_eq_getElem (by rw [← HN.out]; exact hlt)] at ho
        exact Option.some.inj ho
      have HDR := Lib.hid hdr
      clear hr hg hRA ho hdr
      go_wp2_with (first
        | (refine wpList_load_mid (by rfl) 57 (.tmp 17) (by rfl) g (p + i * 19) (by rfl) (opC o).toList _ HRG.out Tryz.underlying57 rfl info57 ?_)
        | fail)
      refine (rone_calls hK.out hSi.out o HOo.out).mono ?_
      rintro e w2 ⟨err, s1, rfl, hst, hL⟩
      have HST := Lib.hid hst
      have HL := Lib.hid hL
      clear hst hL
      by_cases he : err = 0
      · have he' : (err == 0) = true := by simp [he]
        have HE := Lib.hid he
        clear he
        go_wp2
        go_roundg (N - i)
        case rel =>
          obtain ⟨F', h1, h2, h3⟩ := LeavesL.trans hT.out hF.out HL.out
          exact ⟨i + 1, s1, F', by simp, by omega, by omega, Lib.hid h1, Lib.hid (good_step hSi.out HOo.out HST.out), Lib.hid (fun s' j e h => hRi.out s' j e (by rw [HDR.out]; exact ⟨s1, err, HST.out, .inl ⟨HE.out, h⟩⟩)), Lib.hid h2, Lib.hid h3⟩
        case measure => omega
      · have he' : (err == 0) = false := by simpa using he
        have HE := Lib.hid he
        clear he
        go_wp2
        refine bodyPost_ret (results_tmp2 rfl _ _ _) rfl ?_
        exact ⟨s1, i, err, rfl, hRi.out _ _ _ (by rw [HDR.out]; exact ⟨s1, err, HST.out, .inr ⟨HE.out, rfl, rfl, rfl⟩⟩), good_step hSi.out HOo.out HST.out, LeavesL.trans hT.out hF.out HL.out⟩
    · have b1 : ¬ (i : Int) < (N : Int) := by omega
      have hiN : i = N := by omega
      go_wp2
      refine bodyPost_ret (results_tmp2 rfl _ _ _) rfl ?_
      have hr : os.drop i = [] := by rw [hiN, HN.out, List.drop_length]
      refine ⟨si, i, 0, by rw [hiN]; rfl, hRi.out _ _ _ (by rw [hr]; exact ⟨rfl, rfl, rfl⟩), hSi.out, Fi, hK.out, hT.out, hF.out⟩
set_option maxHeartbeats 4000000 in
theorem rflush_calls {w : World} {rb : Nat} {l0 l1 l2 : Int} {s : LSt} {F : List Nat} (h : RefL w rb l0 l1 l2 s F) :
    Calls Tryz.prog 45 #[.pointer (some ⟨rb, 0, none⟩)] w (fun e w' => e = .returned (.tuple #[]) ∧ LeavesL rb l0 l1 l2 F LSt.none w w') := by
  obtain ⟨V0, V1, V2, rfl, h⟩ := h
  have HB := Lib.hid h.blk
  obtain ⟨c0, c1, c2, c3, c4, c5⟩ := six_cells HB.out
  have cf := fun o => six_more HB.out o
  clear h
  go_enter Tryz.func45, Tryz.ntmps45
  go_wp2
  go_end0
  have b0 := box_set (o := 0) HB.out (.slice none 0 0)
  simp only [List.setIfInBounds_toArray, List.set_cons_succ, List.set_cons_zero] at b0
  have b1 := box_set (o := 1) b0 (.slice none 0 0)
  simp only [List.setIfInBounds_toArray, List.set_cons_succ, List.set_cons_zero] at b1
  have b2 := box_set (o := 2) b1 (.slice none 0 0)
  simp only [List.setIfInBounds_toArray, List.set_cons_succ, List.set_cons_zero] at b2
  refine ⟨rfl, _, ⟨.slice none 0 0, .slice none 0 0, .slice none 0 0, rfl, b2, VRow.nil _ _ _, VRow.nil _ _ _, VRow.nil _ _ _⟩, (((Touch.refl _ w).setCell _ _ (.inl (by simp [kfoot]))).setCell _ _ (.inl (by simp [kfoot]))).setCell _ _ (.inl (by simp [kfoot])), fun x hx => .inl (by simp [kfoot, Value.ownBlock] at hx ⊢; exact .inl hx)⟩
end Go.Proofs.YtnpeafhjcelpfaaGreat.Tri

