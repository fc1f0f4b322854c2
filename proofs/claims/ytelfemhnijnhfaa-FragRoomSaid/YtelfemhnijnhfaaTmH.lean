/- remove of Timers; no condition. -/
import Derived.Test.YtelfemhnijnhfaaTmG
import Derived.StillTailTactics
namespace Go.Proofs.Ytelfemhnijnhfaa.Fr.Tm
open Go.RowKit Go.Maps
set_option linter.unusedVariables false
set_option maxRecDepth 100000

theorem alloc3 (w : World) (o1 o2 o3 : Obj) : (((w.alloc o1).alloc o2).alloc o3).heap[w.heap.size]? = some o1 ∧ (((w.alloc o1).alloc o2).alloc o3).heap[w.heap.size + 1]? = some o2 ∧ (((w.alloc o1).alloc o2).alloc o3).heap[w.heap.size + 1 + 1]? = some o3 := by
  have e1 : (w.alloc o1).heap.size = w.heap.size + 1 := World.size_alloc ..
  have e2 : ((w.alloc o1).alloc o2).heap.size = w.heap.size + 1 + 1 := by rw [World.size_alloc, e1]
  refine ⟨?_, ?_, ?_⟩
  · rw [Below.heap_alloc _ _ _ (by omega), Below.heap_alloc _ _ _ (by omega)]; exact heap_alloc_new w o1
  · rw [Below.heap_alloc _ _ _ (by omega)]; rw [← e1]; exact heap_alloc_new _ o2
  · rw [← e2]; exact heap_alloc_new _ o3
theorem box_cells {w : World} {b : Nat} {p q : Value} {t : TypeId} (h : w.heap[b]? = some (.cells #[p, q] t (0, 0))) :
    w.cell? ⟨b, 0, none⟩ = some p ∧ w.cell? ⟨b, 1, none⟩ = some q ∧ w.frozen? ⟨b, 0, none⟩ = false ∧ w.frozen? ⟨b, 1, none⟩ = false ∧ b < w.heap.size := by
  refine ⟨?_, ?_, ?_, ?_, (Array.getElem?_eq_some_iff.1 h).1⟩ <;> simp [World.cell?, World.frozen?, h]

/-- The last is taken off the list, and x's id out of the places. -/
def cutM (s : St) (x : Int) : St := ⟨s.hp.take (s.hp.length - 1), upd s.f x none, s.n - 1⟩
def removeM (s : St) (i : Nat) (x y : Pr) : St :=
  if i < s.hp.length - 1 then
    sunk y (placed y (cutM s x.1) i) ((((placed y (cutM s x.1) i).f y.1).getD 0).toNat)
  else cutM s x.1

/-- The blocks of remove's own: the result, x and y. -/
def Boxes (w wd : World) (a b y0 y1 : Int) : Prop :=
  wd.heap[w.heap.size]? = some (.cells #[.int .i64 0, .int .i64 0] 149 (0, 0)) ∧ wd.heap[w.heap.size + 1]? = some (.cells #[.int .i64 a, .int .i64 b] 149 (0, 0)) ∧ wd.heap[w.heap.size + 1 + 1]? = some (.cells #[.int .i64 y0, .int .i64 y1] 149 (0, 0))

theorem cut_world {w : World} {tb g mb : Nat} {lim : Int} {s : St} {cap : Nat} {a b y0 y1 : Int} (h : TimersAt w tb (.slice (some ⟨g, 0, none⟩) s.hp.length cap) mb lim s) (ha : wfi a) (hk : (s.f a).isSome = true) :
    ∃ wd, (Builtin.delete_ #[141, 3] 0 #[.map (some mb), .int .i64 a]).run Try.prog ((((w.setCell ⟨tb, 1, none⟩ (.slice (some ⟨g, 0, none⟩) (s.hp.length - 1) cap)).alloc (.cells #[.int .i64 0, .int .i64 0] 149)).alloc (.cells #[.int .i64 a, .int .i64 b] 149)).alloc (.cells #[.int .i64 y0, .int .i64 y1] 149)).drew.drew = .ok (.tuple #[]) wd ∧
      TimersAt wd tb (.slice (some ⟨g, 0, none⟩) (s.hp.length - 1) cap) mb lim (cutM s a) ∧ Touch (foot tb (.slice (some ⟨g, 0, none⟩) s.hp.length cap) mb) w wd ∧ Boxes w wd a b y0 y1 := by
  have hgne := h.g_ne g rfl
  have t1 : Touch [tb] w (w.setCell ⟨tb, 1, none⟩ (.slice (some ⟨g, 0, none⟩) (s.hp.length - 1) cap)) := (Touch.refl [tb] w).setCell _ _ (.inl (by simp))
  have t2 : Touch [tb] w ((((w.setCell ⟨tb, 1, none⟩ (.slice (some ⟨g, 0, none⟩) (s.hp.length - 1) cap)).alloc (.cells #[.int .i64 0, .int .i64 0] 149)).alloc (.cells #[.int .i64 a, .int .i64 b] 149)).alloc (.cells #[.int .i64 y0, .int .i64 y1] 149)).drew.drew := (((t1.alloc _).alloc _).alloc _).drew.drew
  have t3 : Touch [] (w.setCell ⟨tb, 1, none⟩ (.slice (some ⟨g, 0, none⟩) (s.hp.length - 1) cap)) ((((w.setCell ⟨tb, 1, none⟩ (.slice (some ⟨g, 0, none⟩) (s.hp.length - 1) cap)).alloc (.cells #[.int .i64 0, .int .i64 0] 149)).alloc (.cells #[.int .i64 a, .int .i64 b] 149)).alloc (.cells #[.int .i64 y0, .int .i64 y1] 149)).drew.drew := ((((Touch.refl [] _).alloc _).alloc _).alloc _).drew.drew
  obtain ⟨wd, hrun, hm, td⟩ := (h.map.kept t2 (by simp; exact h.mb_ne)).drop a ha 0
  refine ⟨wd, hrun, ⟨?_, ?_, ?_⟩, ?_, ?_⟩
  · rw [td.block tb (by have := h.tb_lt; have := t2.size; omega) (by simp; exact fun e => h.mb_ne e.symm), t3.block tb (by simp; exact h.tb_lt) (by simp)]
    exact set_blk h.blk _
  · have h1 := h.row.take (s.hp.length - 1) (by omega)
    exact ((h1.kept t2 (fun k hk => by simp [Value.ownBlock] at hk; subst hk; simp; exact hgne.1))).kept td (fun k hk => by simp [Value.ownBlock] at hk; subst hk; simp; exact hgne.2)
  · rw [hk] at hm; exact hm
  · exact (t2.mono (S' := foot tb (.slice (some ⟨g, 0, none⟩) s.hp.length cap) mb) (fun x hx => .inl (by simp at hx; simp [foot, hx]))).trans td (fun x hx => .inl (by simp at hx; simp [foot, hx]))
  · have hs : (w.setCell ⟨tb, 1, none⟩ (.slice (some ⟨g, 0, none⟩) (s.hp.length - 1) cap)).heap.size = w.heap.size := World.size_setCell ..
    obtain ⟨q1, q2, q3⟩ := alloc3 (w.setCell ⟨tb, 1, none⟩ (.slice (some ⟨g, 0, none⟩) (s.hp.length - 1) cap)) (.cells #[.int .i64 0, .int .i64 0] 149) (.cells #[.int .i64 a, .int .i64 b] 149) (.cells #[.int .i64 y0, .int .i64 y1] 149)
    rw [hs] at q1 q2 q3
    have hmb := h.map.lt
    exact ⟨(td.block _ (by simp; omega) (by simp; omega)).trans q1, (td.block _ (by simp) (by simp; omega)).trans q2, (td.block _ (by simp) (by simp; omega)).trans q3⟩

theorem two_set {w : World} {b : Nat} {p q : Value} (h0 : w.cell? ⟨b, 0, none⟩ = some p) (h1 : w.cell? ⟨b, 1, none⟩ = some q) (x y : Value) :
    ((w.setCell ⟨b, 0, none⟩ x).setCell ⟨b, 1, none⟩ y).cell? ⟨b, 0, none⟩ = some x ∧ ((w.setCell ⟨b, 0, none⟩ x).setCell ⟨b, 1, none⟩ y).cell? ⟨b, 1, none⟩ = some y := by
  refine ⟨?_, ?_⟩
  · rw [World.cell?_setCell_other _ _ _ _ (by simp)]; exact World.cell?_setCell_same _ _ _ h0
  · exact World.cell?_setCell_same _ _ _ (u := q) (by rw [World.cell?_setCell_other _ _ _ _ (by simp)]; exact h1)

set_option maxHeartbeats 1000000 in
theorem remove_last {w : World} {tb : Nat} {V : Value} {mb : Nat} {lim : Int} {s : St} (h : TimersAt w tb V mb lim s) (i : Nat) (a b : Int) (hp : s.hp[i]? = some (a, b)) (hil : ¬ i < s.hp.length - 1) (ha : wfi a) (hk : (s.f a).isSome = true) :
    Calls Try.prog 83 #[.pointer (some ⟨tb, 0, none⟩), .int .i64 i] w fun e w' => e = .returned (.agg #[.int .i64 a, .int .i64 b]) ∧ ∃ V', TimersAt w' tb V' mb lim (cutM s a) ∧ Touch (foot tb V mb) w w' ∧ V'.ownBlock = V.ownBlock := by
  have hil0 : i < s.hp.length := (List.getElem?_eq_some_iff.1 hp).1
  obtain ⟨g, cap, rfl, hg, hcap, hlen, cur, hcur⟩ := h.row.formP (by omega)
  obtain ⟨c0, c1, c2, f1⟩ := h.cells
  obtain ⟨k0, k1, z0, z1⟩ := h.row.cell i (a, b) hp
  obtain ⟨y0, y1, hy, hyp⟩ := getD_pair s.hp (s.hp.length - 1) (by omega)
  obtain ⟨l0, l1, _, _⟩ := h.row.cell (s.hp.length - 1) (y0, y1) hyp
  dsimp only at k0 k1 l0 l1
  have htb := h.tb_lt
  have hgt : g ≠ tb := (h.g_ne g rfl).1
  have b0 : (i : Int) < (s.hp.length : Int) := by omega
  have b1 : (0 : Int) ≤ (s.hp.length : Int) - 1 := by omega
  have b2 : (s.hp.length : Int) - 1 ≤ (cap : Int) := by omega
  have b3 : (s.hp.length : Int) - 1 < (s.hp.length : Int) := by omega
  have htb1 : tb < w.heap.size + 1 := by omega
  have htb2 : tb < w.heap.size + 1 + 1 := by omega
  have hg1 : g < w.heap.size + 1 := by omega
  have hg2 : g < w.heap.size + 1 + 1 := by omega
  obtain ⟨wd, hrun, hTd, htd, hB⟩ := cut_world (y0 := y0) (y1 := y1) (b := b) h ha hk
  have HTD := Lib.hid hTd
  have HTT := Lib.hid htd
  obtain ⟨r1, r2, r3⟩ := hB
  obtain ⟨p1, p2, p3, p4, p5⟩ := box_cells r1
  obtain ⟨x1, x2, _, _, _⟩ := box_cells r2
  have hlt : ¬ (i : Int) < (s.hp.length : Int) - 1 := by omega
  clear hp hy hyp hcur r1 r2 r3 hTd htd
  go_enter Try.func83, Try.ntmps83
  go_wp2
  go_region
  go_wp2
  go_region
  go_wp2
  have hW := two_set p1 p2 (.int .i64 a) (.int .i64 b)
  refine bodyPost_ret (v := .agg #[.int .i64 a, .int .i64 b]) (by simp [results, Try.results83, go_sem, hW.1, hW.2]) rfl ⟨rfl, ?_⟩
  have t1 : Touch [w.heap.size] wd ((wd.setCell ⟨w.heap.size, 0, none⟩ (.int .i64 a)).setCell ⟨w.heap.size, 1, none⟩ (.int .i64 b)) := ((Touch.refl _ _).setCell _ _ (.inl (by simp))).setCell _ _ (.inl (by simp))
  exact ⟨_, HTD.out.kept t1 (fun k hk => by have := h.foot_lt k hk; simp; omega), HTT.out.trans t1 (fun x hx => .inr (by simp at hx; omega)), rfl⟩

set_option maxHeartbeats 2000000 in
theorem remove_mid {w : World} {tb : Nat} {V : Value} {mb : Nat} {lim : Int} {s : St} (h : TimersAt w tb V mb lim s) (i : Nat) (a b y0 y1 : Int) (q : Nat) (hp : s.hp[i]? = some (a, b)) (hyp : s.hp[s.hp.length - 1]? = some (y0, y1)) (hil : i < s.hp.length - 1) (ha : wfi a) (hk : (s.f a).isSome = true)
    (hy : wfi y0) (hg1 : Good (putM (cutM s a) i (y0, y1))) (hg2 : Good (placed (y0, y1) (cutM s a) i)) (hq3 : (placed (y0, y1) (cutM s a) i).f y0 = some (q : Int)) (hq1 : q < s.hp.length - 1) (hq2 : (placed (y0, y1) (cutM s a) i).hp.getD q (0, 0) = (y0, y1))
    (hlen2 : (placed (y0, y1) (cutM s a) i).hp.length = s.hp.length - 1) (hsm : s.hp.length ≤ 65536) (hn : s.n ≤ 65537) :
    Calls Try.prog 83 #[.pointer (some ⟨tb, 0, none⟩), .int .i64 i] w fun e w' => e = .returned (.agg #[.int .i64 a, .int .i64 b]) ∧ ∃ V', TimersAt w' tb V' mb lim (sunk (y0, y1) (placed (y0, y1) (cutM s a) i) q) ∧ Touch (foot tb V mb) w w' ∧ V'.ownBlock = V.ownBlock := by
  have hil0 : i < s.hp.length := (List.getElem?_eq_some_iff.1 hp).1
  obtain ⟨g, cap, rfl, hg, hcap, hlen, cur, hcur⟩ := h.row.formP (by omega)
  obtain ⟨c0, c1, c2, f1⟩ := h.cells
  obtain ⟨k0, k1, z0, z1⟩ := h.row.cell i (a, b) hp
  obtain ⟨l0, l1, _, _⟩ := h.row.cell (s.hp.length - 1) (y0, y1) hyp
  dsimp only at k0 k1 l0 l1
  have htb := h.tb_lt
  have hgt : g ≠ tb := (h.g_ne g rfl).1
  have b0 : (i : Int) < (s.hp.length : Int) := by omega
  have b1 : (0 : Int) ≤ (s.hp.length : Int) - 1 := by omega
  have b2 : (s.hp.length : Int) - 1 ≤ (cap : Int) := by omega
  have b3 : (s.hp.length : Int) - 1 < (s.hp.length : Int) := by omega
  have htb1 : tb < w.heap.size + 1 := by omega
  have htb2 : tb < w.heap.size + 1 + 1 := by omega
  have hgw1 : g < w.heap.size + 1 := by omega
  have hgw2 : g < w.heap.size + 1 + 1 := by omega
  obtain ⟨wd, hrun, hTd, htd, hB⟩ := cut_world (y0 := y0) (y1 := y1) (b := b) h ha hk
  have hl1 : (cutM s a).hp.length = s.hp.length - 1 := by simp [cutM]
  have HTD := Lib.hid hTd
  have HTT := Lib.hid htd
  have HB := Lib.hid hB
  have HL1 := Lib.hid hl1
  have HL2 := Lib.hid hlen2
  have HQ2 := Lib.hid hq2
  have HQ3 := Lib.hid hq3
  have hx1 : (putM (cutM s a) i (y0, y1)).hp.getD i (0, 0) = (y0, y1) := by simp [putM, List.getD_eq_getElem?_getD, hl1, hil]
  have HX1 := Lib.hid hx1
  obtain ⟨r1, r2, r3⟩ := hB
  obtain ⟨p1, p2, _, _, _⟩ := box_cells r3
  have hlt : (i : Int) < (s.hp.length : Int) - 1 := by omega
  clear hp hyp hcur r1 r2 r3 hTd htd hl1 hlen2 hq2 hq3 hx1
  go_enter Try.func83, Try.ntmps83
  go_wp2
  go_region
  go_wp2
  go_region
  go_wp2_with fail
  refine (put_calls HTD.out (i : Int) y0 y1 (by omega) (by rw [HL1.out]; omega) hy (by simp only [cutM]; omega)).mono ?_
  rintro e w1 ⟨rfl, h1, t1⟩
  rw [Int.toNat_natCast] at h1
  go_wp2_with fail
  refine (up_calls h1 hg1 (i : Int) (by omega) (by rw [putM_len, HL1.out]; omega)).mono ?_
  rintro e w2 ⟨rfl, h2, t2⟩
  rw [Int.toNat_natCast, HX1.out] at h2
  have h2' : TimersAt w2 tb (.slice (some ⟨g, 0, none⟩) (s.hp.length - 1) cap) mb lim (placed (y0, y1) (cutM s a) i) := h2
  clear h2
  have hft : foot tb (.slice (some ⟨g, 0, none⟩) (s.hp.length - 1) cap) mb = foot tb (.slice (some ⟨g, 0, none⟩) s.hp.length cap) mb := rfl
  have tall := (HTT.out.trans t1 (fun _ h => .inl h)).trans t2 (fun _ h => .inl h)
  have tloc := t1.trans t2 (fun _ h => .inl h)
  have hfl := h.foot_lt
  have hnot : ∀ k, w.heap.size ≤ k → k ∉ foot tb (.slice (some ⟨g, 0, none⟩) (s.hp.length - 1) cap) mb := fun k hk hx => by have := hfl k hx; omega
  have hB2 : Boxes w w2 a b y0 y1 := by
    obtain ⟨r1, r2, r3⟩ := HB.out
    exact ⟨(tloc.block _ (Array.getElem?_eq_some_iff.1 r1).1 (hnot _ (by omega))).trans r1, (tloc.block _ (Array.getElem?_eq_some_iff.1 r2).1 (hnot _ (by omega))).trans r2, (tloc.block _ (Array.getElem?_eq_some_iff.1 r3).1 (hnot _ (by omega))).trans r3⟩
  obtain ⟨d0, d1, d2, _⟩ := h2'.cells
  have hl2 := (h2'.map.look y0 hy).2
  rw [HQ3.out] at hl2
  simp only [Option.getD_some] at hl2
  have HB2 := Lib.hid hB2
  obtain ⟨r1, r2, r3⟩ := hB2
  obtain ⟨e1, e2, _, _, _⟩ := box_cells r3
  clear r1 r2 r3 k0 k1 l0 l1 c0 c1 c2 f1 z0 z1 p1 p2 hrun
  have hl3 : (Instr.lookup 141 (.map (some mb)) (.int .i64 y0) false).run Try.prog w2.drew = .ok (.int .i64 q) w2.drew := by
    have := ((h2'.kept (Touch.refl [] w2).drew (by simp)).map.look y0 hy).2
    rw [HQ3.out] at this
    exact this
  go_wp2_with fail
  go_still_tail 8, (by kernel_rfl)
  change wpList _ _ _ _ _ (World.drew w2)
  go_wp2_with fail
  have h2d := h2'.kept (Touch.refl [] w2).drew (by simp)
  refine (down_calls h2d hg2 (q : Int) (by omega) (by rw [HL2.out]; omega) (by rw [HL2.out]; omega)).mono ?_
  rintro e w3 ⟨rfl, h3, t3⟩
  rw [Int.toNat_natCast, HQ2.out] at h3
  have hB3 : Boxes w w3 a b y0 y1 := by
    obtain ⟨r1, r2, r3⟩ := HB2.out
    exact ⟨(t3.block _ (Array.getElem?_eq_some_iff.1 r1).1 (hnot _ (by omega))).trans r1, (t3.block _ (Array.getElem?_eq_some_iff.1 r2).1 (hnot _ (by omega))).trans r2, (t3.block _ (Array.getElem?_eq_some_iff.1 r3).1 (hnot _ (by omega))).trans r3⟩
  obtain ⟨r1, r2, r3⟩ := hB3
  obtain ⟨p1, p2, p3, p4, p5⟩ := box_cells r1
  obtain ⟨x1, x2, _, _, _⟩ := box_cells r2
  clear r1 r2 r3 e1 e2 d0 d1 d2 hl2 hl3
  go_wp2
  have hW := two_set p1 p2 (.int .i64 a) (.int .i64 b)
  refine bodyPost_ret (v := .agg #[.int .i64 a, .int .i64 b]) (by simp [results, Try.results83, go_sem, hW.1, hW.2]) rfl ⟨rfl, ?_⟩
  have tw : Touch [w.heap.size] w3 ((w3.setCell ⟨w.heap.size, 0, none⟩ (.int .i64 a)).setCell ⟨w.heap.size, 1, none⟩ (.int .i64 b)) := ((Touch.refl _ _).setCell _ _ (.inl (by simp))).setCell _ _ (.inl (by simp))
  have tall3 : Touch (foot tb (.slice (some ⟨g, 0, none⟩) s.hp.length cap) mb) w w3 := (tall.drew).trans t3 (fun _ h => .inl h)
  exact ⟨_, h3.kept tw (fun k hk => by have := hfl k hk; simp; omega), tall3.trans tw (fun x hx => .inr (by simp at hx; omega)), rfl⟩
end Go.Proofs.Ytelfemhnijnhfaa.Fr.Tm
