/- Dump: what it answers; no condition. -/
import Derived.Test.YtnpeafhjcelpfaaGreatY1

namespace Go.Proofs.YtnpeafhjcelpfaaGreat.Tri
open Go.RowKit Go.Maps Go.Shelf
set_option linter.unusedVariables false
set_option linter.unusedSimpArgs false
attribute [local go_sem] Oper.semAt_some

def encR (e : Ent) : List Value := [.int .u32 e.1.a, .int .i64 e.1.n, .int .u32 (rV e.2), .bool (rL e.2)]
theorem infoR : (Tryz.prog.info? 49).map (fun i => (i.zero, i.size, i.bytes)) = some (some (.agg #[.int .u32 0, .int .i64 0, .int .u32 0, .bool false]), 4, 24) := by kernel_rfl
def tab0 : Array Value := #[.slice none 0 0, .slice none 0 0, .slice none 0 0]
/-- What the first part of Dump has collected. -/
structure DumpI (W0 : World) (B : Nat) (L : List Ent) (W : World) : Prop where
  a : ∃ V, W.heap[B]? = some (.cells #[V, .slice none 0 0, .slice none 0 0] 66 (0, 0)) ∧ VRow W 49 4 V L.length (SK.flatL encR L) ∧ ∀ b, V.ownBlock = some b → W0.heap.size ≤ b
  touch : Touch [B] W0 W
theorem DumpI.kept {W0 W W' : World} {B : Nat} {L : List Ent} (h : DumpI W0 B L W) {S : List Nat} (t : Touch S W W') (hs : ∀ b c e f, W.heap[b]? = some (.cells c e f) → b ∉ S) (hn : ∀ x ∈ S, W0.heap.size ≤ x) : DumpI W0 B L W' := by
  obtain ⟨⟨V, a1, a2, a3⟩, tt⟩ := h
  refine ⟨⟨V, touch_box t a1 (hs _ _ _ _ a1), a2.kept t (fun k hk => ?_), a3⟩, tt.trans t (fun x hx => .inr (hn x hx))⟩
  obtain ⟨c, hc⟩ := a2.blk k hk; exact hs _ _ _ _ hc
theorem DumpI.own {W0 : World} {B : Nat} : OwnFrom W0.heap.size (DumpI W0 B) := by
  intro s W W' row h hg hr
  have hr' : RowNo W W0.heap.size row := hr
  exact h.kept (touch_grown hg) (fun b c e f hb => hr'.cells hb) (fun x hx => (hr x (by simpa using hx)).1)
/-- A loop variable in a box. -/
def BoxR (W0 : World) (x : Ent) (f : Nat → Act) (a' : Act) (W : World) : Prop := ∃ Bx, W0.heap.size ≤ Bx ∧ W.heap[Bx]? = some (.cells #[.int .u32 x.1.a, .int .i64 x.1.n, .int .u32 (rV x.2), .bool (rL x.2)] 49 (0, 0)) ∧ a' = f Bx
theorem BoxR.own {W0 : World} (x : Ent) (f : Nat → Act) (a' : Act) : OwnFrom W0.heap.size (fun (_ : Unit) W => BoxR W0 x f a' W) := by
  rintro s W W' row ⟨Bx, h1, h2, h3⟩ hg hr
  have hr' : RowNo W W0.heap.size row := hr
  exact ⟨Bx, h1, touch_box (touch_grown hg) h2 (hr'.cells h2), h3⟩
theorem insideL_all {t : T} (h : Ok t) : insideL t 0 0 = ents t := by
  have ho : okP 0 0 := ⟨by decide, by refine ⟨by decide, by decide, ?_⟩; simp [maskOf]⟩
  unfold insideL
  rw [if_pos ho, (below_is t _ h ho.2).1, List.filter_eq_self]
  intro e he
  have := (ents_ok h e he).2.1
  have hi : ins e.1 ⟨0, (0 : Int).toNat⟩ := ⟨Nat.zero_le _, by show top e.1.a 0 = top 0 0; rw [top_zero this]; rfl⟩
  exact decide_eq_true hi
theorem dump_close {W0 W w1 : World} {B c c' : Nat} {A A' : Option Addr} {L : List Ent} {x : Ent} (hB : B < W0.heap.size)
    (a1 : W.heap[B]? = some (.cells #[.slice A L.length c, .slice none 0 0, .slice none 0 0] 66 (0, 0))) (a2 : VRow W 49 4 (.slice A L.length c) L.length (SK.flatL encR L)) (a3 : ∀ b, (Value.slice A L.length c).ownBlock = some b → W0.heap.size ≤ b) (tt : Touch [B] W0 W)
    (r1 : VRow w1 49 4 (.slice A' (L.length + 1) c') (L.length + 1) (SK.flatL encR L ++ [.int .u32 x.1.a, .int .i64 x.1.n, .int .u32 (rV x.2), .bool (rL x.2)])) (t1 : Touch (Value.slice A L.length c).ownBlock.toList W w1) (o1 : (Value.slice A' (L.length + 1) c').ownBlock = (Value.slice A L.length c).ownBlock ∨ ∃ b, (Value.slice A' (L.length + 1) c').ownBlock = some b ∧ W.heap.size ≤ b) :
    KeepsFrom W0.heap.size W (w1.setCell ⟨B, 0, none⟩ (.slice A' (L.length + 1) c')) ∧ KeepT 163 W (w1.setCell ⟨B, 0, none⟩ (.slice A' (L.length + 1) c')) ∧ DumpI W0 B (L ++ [x]) (w1.setCell ⟨B, 0, none⟩ (.slice A' (L.length + 1) c')) := by
  have n4 : B ∉ (Value.slice A L.length c).ownBlock.toList := fun hx => by have := a3 _ (by simpa using hx); omega
  have own4 : ∀ b, (Value.slice A' (L.length + 1) c').ownBlock = some b → W0.heap.size ≤ b := fun b hb => by
    rcases o1 with o | ⟨b', o, hb'⟩
    · rw [o] at hb; exact a3 b hb
    · rw [o] at hb; cases hb; exact Nat.le_trans tt.size hb'
  have hX4 : (w1.setCell ⟨B, 0, none⟩ (.slice A' (L.length + 1) c')).heap[B]? = some (.cells #[.slice A' (L.length + 1) c', .slice none 0 0, .slice none 0 0] 66 (0, 0)) := by
    simpa using box_set (o := 0) (touch_box t1 a1 n4) (.slice A' (L.length + 1) c')
  have tS : Touch [B] w1 (w1.setCell ⟨B, 0, none⟩ (.slice A' (L.length + 1) c')) := (Touch.refl [B] w1).setCell _ _ (.inl (by simp))
  have hTX : Touch (B :: (Value.slice A L.length c).ownBlock.toList) W (w1.setCell ⟨B, 0, none⟩ (.slice A' (L.length + 1) c')) :=
    (t1.mono (fun y hy => .inl (List.mem_cons_of_mem _ hy))).setCell _ _ (.inl (by simp))
  have hall : ∀ y ∈ B :: (Value.slice A L.length c).ownBlock.toList, (y = B ∨ W0.heap.size ≤ y) ∧ ∃ c E f, W.heap[y]? = some (.cells c E f) ∧ E ≠ 163 := by
    intro y hy
    simp only [List.mem_cons] at hy
    rcases hy with rfl | hy
    · exact ⟨.inl rfl, _, _, _, a1, by decide⟩
    · obtain ⟨cc, hcc⟩ := a2.blk y (by simpa using hy)
      exact ⟨.inr (a3 y (by simpa using hy)), _, _, _, hcc, by decide⟩
  refine ⟨keepsFrom_touch hTX (fun y hy => ?_), KeepT.touch hTX (fun y hy c f hc => ?_), ⟨⟨_, hX4, ?_, own4⟩, ?_⟩⟩
  · obtain ⟨_, c, E, f, h, _⟩ := hall y hy
    exact ⟨c, E, f, h⟩
  · obtain ⟨_, c', E, f', h, hE⟩ := hall y hy
    rw [h] at hc
    cases hc
    exact hE rfl
  · have h1 := r1.kept tS (fun k hk => by have := own4 k hk; simp; omega)
    rw [List.length_append, show SK.flatL encR (L ++ [x]) = SK.flatL encR L ++ [.int .u32 x.1.a, .int .i64 x.1.n, .int .u32 (rV x.2), .bool (rL x.2)] by simp [SK.flatL, encR]]
    exact h1
  · exact tt.trans hTX (fun y hy => by
      rcases (hall y hy).1 with h | h
      · exact .inl (by simp [h])
      · exact .inr h)
/-- What a Dump is. -/
structure DumpIs (w w' : World) (R : List Ent) (f1 f2 : Value → Option Value) (v : Value) : Prop where
  is : ∃ (A0 A1 A2 : Option Addr) (c0 c1 c2 : Nat) (L1 : List NeE) (L2 : List FdE), v = .agg #[.slice A0 R.length c0, .slice A1 L1.length c1, .slice A2 L2.length c2] ∧ VRow w' 49 4 (.slice A0 R.length c0) R.length (SK.flatL encR R) ∧ VRow w' 53 7 (.slice A1 L1.length c1) L1.length (SK.flatL encN L1) ∧ VRow w' 55 7 (.slice A2 L2.length c2) L2.length (SK.flatL encF L2) ∧
    Fresh w.heap.size (.slice A0 R.length c0) ∧ Fresh w.heap.size (.slice A1 L1.length c1) ∧ Fresh w.heap.size (.slice A2 L2.length c2) ∧ AllN f1 L1 ∧ AllF f2 L2
theorem results_c {fn : Func} {p : Tmp} {ty : TypeId} (h : fn.results = #[.cell p ty]) (tmps : Array Value) (w : World) (g : Nat) (t : TypeId) (cs : Array Value) (fr : Nat × Nat) (d : TypeDesc)
    (hp : tmps.getD p undef = .pointer (some ⟨g, 0, none⟩)) (hg : w.heap[g]? = some (.cells cs t fr))
    (hd : (match d with | .struct _ | .array _ _ => true | _ => false) = true) (hu : Tryz.prog.underlying ty = some d) (hi : (Tryz.prog.info? ty).map (·.size) = some cs.size) :
    (results fn tmps).run Tryz.prog w = .ok (.agg cs) w := by
  have hp' : tmps[p]?.getD undef = .pointer (some ⟨g, 0, none⟩) := by simpa using hp
  simp [results, h, hp', asAddr, run_loadVar_row w g t ty cs fr d hg hu (by revert hd; cases d <;> exact id) hi]
theorem fun25 : Tryz.f25.results = #[.cell 2 66] := by kernel_rfl
end Go.Proofs.YtnpeafhjcelpfaaGreat.Tri

/- Dump: the walk; no condition. -/
namespace Go.Proofs.YtnpeafhjcelpfaaGreat.Tri
open Go.RowKit Go.Maps Go.Shelf
set_option linter.unusedVariables false
set_option linter.unusedSimpArgs false
set_option maxRecDepth 100000
attribute [local go_sem] Oper.semAt_some

theorem th_cells {w : World} {b : Nat} {x y z : Value} {T : TypeId} (h : w.heap[b]? = some (.cells #[x, y, z] T (0, 0))) : w.cell? ⟨b, 0, none⟩ = some x ∧ w.frozen? ⟨b, 0, none⟩ = false := by
  constructor <;> simp [World.cell?, World.frozen?, h]
theorem th_frozen {w : World} {b : Nat} {x y z : Value} {T : TypeId} (h : w.heap[b]? = some (.cells #[x, y, z] T (0, 0))) (o : Nat) : w.frozen? ⟨b, o, none⟩ = false := by
  simp [World.frozen?, h]
theorem th3 {w : World} {b : Nat} {x y z : Value} {T : TypeId} (h : w.heap[b]? = some (.cells #[x, y, z] T (0, 0))) : w.cell? ⟨b, 0, none⟩ = some x ∧ w.cell? ⟨b, 1, none⟩ = some y ∧ w.cell? ⟨b, 2, none⟩ = some z := by
  refine ⟨?_, ?_, ?_⟩ <;> simp [World.cell?, h]
theorem infoT : (Tryz.prog.info? 66).map (·.size) = some 3 := by kernel_rfl
theorem touch_row (w : World) (b : Nat) (cs : Array Value) : Touch [b] w (w.setRow b cs) :=
  ⟨rfl, rfl, rfl, by rw [size_setRow]; exact Nat.le_refl _, fun k hk hn => setRow_other _ _ _ _ (fun e => hn (by simp [e]))⟩
def DumpPost (w : World) (s : KSt) (e : Ending) (w' : World) : Prop := ∃ v, e = .returned v ∧ DumpIs w w' (ents s.t) s.f1 s.f2 v ∧ Touch [] w w'
set_option maxHeartbeats 8000000 in
theorem dump_calls {w : World} {kb tb b1 m1 b2 m2 : Nat} {S : List Nat} {l0 l1 l2 : Int} {s : KSt} (h : KerAt w kb tb b1 m1 b2 m2 S l0 l1 l2 s) (hr1 : RightN s.f1) (hr2 : RightF s.f2) (hk : s.k ≤ 100000) (hn1 : s.n1 ≤ 100000) (hn2 : s.n2 ≤ 100000) :
    Calls Tryz.prog 25 #[.pointer (some ⟨kb, 0, none⟩)] w (DumpPost w s) := by
  have H := Lib.hid h
  have R1 := Lib.hid hr1
  have R2 := Lib.hid hr2
  have N1 := Lib.hid hn1
  have N2 := Lib.hid hn2
  have hlen := h.tri.len
  have hLall := insideL_all h.tri.ok
  obtain ⟨W1, hW1⟩ : ∃ W1 : World, W1 = (w.alloc (.cells tab0 66)).alloc (.cells tab0 66) := ⟨_, rfl⟩
  have X2 := Lib.hid (show W1.heap[w.heap.size]? = some (.cells tab0 66 (0, 0)) by rw [hW1]; exact box_keep _ (box_at w _))
  have X3 := Lib.hid (show W1.heap[w.heap.size + 1]? = some (.cells tab0 66 (0, 0)) by rw [hW1]; exact box_at' _ _ _ (by simp))
  have T1 := Lib.hid (show Touch [] w W1 by rw [hW1]; exact ((Touch.refl [] w).alloc _).alloc _)
  have H1 := Lib.hid (h.kept T1.out (by simp))
  have hs1 : Hid (W1.heap.size = w.heap.size + 1 + 1) := Lib.hid (by rw [hW1]; simp)
  have HW1 := Lib.hid hW1
  obtain ⟨c0, c1, c2, c3, c4, c5⟩ := six_cells H1.out.blk
  clear h hr1 hr2 hn1 hn2 hW1
  refine calls_marks Tryz.func25 rfl ?_
  simp only [Tryz.ntmps25, List.size_toArray, List.length_cons, List.length_nil, Nat.reduceAdd, Nat.reduceSub, Array.replicate_succ, Array.replicate_zero, List.push_toArray, List.append_toArray, List.nil_append, List.cons_append]
  go_upto_region 2 with (fail)
  have hW1 := HW1.out
  unfold tab0 at hW1
  rw [← hW1]
  clear hW1
  go_wp2_with fail
  refine (all_calls tb W1).mono ?_
  rintro e W0 ⟨rfl, hsq, t1⟩
  clear c0 c1 c2 c3 c4 c5
  have HSQ := Lib.hid hsq
  have T0 := Lib.hid (T1.out.trans t1 (by simp))
  have Y2 := Lib.hid (touch_box t1 X2.out (by simp))
  have Y3 := Lib.hid (touch_box t1 X3.out (by simp))
  have hs0 := hsq.lt
  rw [hs1.out]
  rw [hs1.out] at HSQ hs0
  clear hsq t1 X2 X3 T1 hs1 H1
  unfold seqV
  have hnil := seq_some W0 (.func 92) #[] #[.pointer (some ⟨w.heap.size + 1 + 1 + 1, 0, none⟩), .pointer (some ⟨w.heap.size + 1 + 1, 0, none⟩)]
  go_wp2_with fail
  clear hnil
  have hst := within_stops (n := 8) (H.out.tri.kept T0.out (by simp)) (by omega) 0 0 (by decide) (w.heap.size + 1 + 1) (w.heap.size + 1 + 1 + 1) HSQ.out.t HSQ.out.p
  rw [hLall] at hst
  refine wp_range (gf := 92) (lb := #[.pointer (some ⟨w.heap.size + 1 + 1 + 1, 0, none⟩), .pointer (some ⟨w.heap.size + 1 + 1, 0, none⟩)]) (by rfl) (enters_of Tryz.func92 (by kernel_rfl) rfl)
    hst (fun h k => h.trans k) (fun W l o o' _ h1 h2 _ => KeepT.put W l o o' h1 h2) (fun _ => rfl)
    (DumpI W0 (w.heap.size + 1)) (fun _ _ _ => False) DumpI.own (fun _ _ _ _ _ hs _ _ => hs)
    ⟨⟨_, Y3.out, VRow.nil _ _ _, by simp [Value.ownBlock]⟩, Touch.refl _ _⟩
    (fun x => BoxR W0 x (fun Bx => { tmps := #[.pointer (some ⟨kb, 0, none⟩), undef, .pointer (some ⟨w.heap.size, 0, none⟩), .pointer (some ⟨w.heap.size + 1, 0, none⟩), undef, .pointer (some ⟨Bx, 0, none⟩), .pointer (some ⟨kb, 0, none⟩), .pointer (some ⟨kb, 0, none⟩), .pointer (some ⟨kb, 3, none⟩), .pointer (some ⟨kb, 3, none⟩), .pointer (some ⟨tb, 0, none⟩), .func (.func 92) #[] #[.pointer (some ⟨w.heap.size + 1 + 1 + 1, 0, none⟩), .pointer (some ⟨w.heap.size + 1 + 1, 0, none⟩)], .agg #[.int .u32 x.1.a, .int .i64 x.1.n], .agg #[.int .u32 x.1.a, .int .i64 x.1.n, .int .u32 (rV x.2), .bool (rL x.2)], undef, undef, undef, undef, undef, undef, undef, undef, undef, undef, undef, undef, undef, undef, undef, undef, undef, undef, undef], defers := [] })) (fun x a' => BoxR.own x _ a') ?assign ?body ?done ?stop
  case assign =>
    intro l pre x W K hI hK
    simp only [encE]
    gi_wp2
    refine hK _ _ (keepsFrom_touch (S := []) ((Touch.refl [] W).alloc _) (by simp)) (KeepT.touch (S := []) ((Touch.refl [] W).alloc _) (by simp)) (hI.kept (S := []) ((Touch.refl [] W).alloc _) (by simp) (by simp)) ⟨W.heap.size, hI.touch.size, box_at W _, rfl⟩
  case body =>
    rintro l pre x a' W hl ⟨r, hr⟩ hI ⟨Bx, hBx, hx, rfl⟩ hlen
    obtain ⟨⟨V, a1, a2, a3⟩, tt⟩ := hI
    obtain ⟨A4, c4, rfl⟩ := a2.form
    obtain ⟨p4, f4⟩ := th_cells a1
    obtain ⟨x0, x1, x2, x3⟩ := rt_cells hx
    have A1 := Lib.hid a1
    have A2 := Lib.hid a2
    have A3 := Lib.hid a3
    have TT := Lib.hid tt
    have hb4 : (pre.length : Int) + 1 ≤ 100000 := by omega
    have n4 : w.heap.size + 1 ∉ (Value.slice A4 pre.length c4).ownBlock.toList := fun hx => by have := a3 _ (by simpa using hx); omega
    clear a1 a2 a3 tt hx hl hr
    gi_wp2_with (first
      | (gi_at_builtin; refine listIn_append_vr (by rfl) (.tmp 15) (.tmp 17) 62 49 4 24 _ Tryz.underlying62 (by rfl) infoR rfl (by decide) (by decide) _ _ _ 1 #[.int .u32 x.1.a, .int .i64 x.1.n, .int .u32 (rV x.2), .bool (rL x.2)] (by rfl) A2.out (by rfl) (by rfl) (by simp [Value.oneCell']) (by omega) ?_
         intro A4' c4' w1 r1 t1 o1
         have p4b := cell_touch t1 p4 n4
         have f4b := frozen_touch t1 p4 f4 n4
         have R1' := Lib.hid r1
         have T1' := Lib.hid t1
         have O1 := Lib.hid o1
         clear r1 t1 o1))
    exact dump_close (by omega) A1.out A2.out A3.out TT.out R1'.out T1'.out O1.out
  case done =>
    rintro D ys W hD rfl ⟨⟨V, a1, a2, a3⟩, tt⟩ hK
    obtain ⟨A4, c4, rfl⟩ := a2.form
    have A1 := Lib.hid a1
    have A2 := Lib.hid a2
    have A3 := Lib.hid a3
    have TT := Lib.hid tt
    have TW := Lib.hid (T0.out.trans tt (fun x hx => .inr (by simp at hx; omega)))
    have HK := Lib.hid hK
    have HW := Lib.hid (H.out.kept TW.out (by simp))
    have Z2 := Lib.hid (touch_box tt Y2.out (by simp))
    have FR0 : Hid (Fresh w.heap.size (.slice A4 (ents s.t).length c4)) := Lib.hid (fun b hb => by have := a3 b hb; omega)
    have HBD : Hid (w.heap.size + 1 < D) := Lib.hid (by omega)
    have nB := (show w.heap.size + 1 ∉ (Value.slice A4 (ents s.t).length c4).ownBlock.toList from fun hx => by have := a3 _ (by simpa using hx); omega)
    have nB2 := (show w.heap.size ∉ (Value.slice A4 (ents s.t).length c4).ownBlock.toList from fun hx => by have := a3 _ (by simpa using hx); omega)
    have NB := Lib.hid (And.intro nB nB2)
    obtain ⟨R, hR⟩ : ∃ R, R = ents s.t := ⟨_, rfl⟩
    have HR := Lib.hid hR
    rw [← hR] at A1 A2 FR0 NB
    obtain ⟨c0, c1, c2, c3, c4', c5⟩ := six_cells HW.out.blk
    clear a1 a2 a3 tt hK nB nB2 hR hst hLall hlen hk Y2 Y3 HSQ T0 TT A3 hs0
    go_wp2_with fail
    refine (all1_calls HW.out.fl1 R1.out N1.out).mono ?_
    rintro e w5 ⟨L1, A5, cc5, _, rfl, rfl, hv1, t5, fr1, an1⟩
    clear c0 c1 c2 c3 c4' c5
    have V1 := Lib.hid hv1
    have FR1 : Hid (Fresh w.heap.size (.slice A5 L1.length cc5)) := Lib.hid (fun b hb => Nat.le_trans TW.out.size (fr1 b hb))
    have NB1 : Hid (w.heap.size + 1 ∉ (Value.slice A5 L1.length cc5).ownBlock.toList ∧ w.heap.size ∉ (Value.slice A5 L1.length cc5).ownBlock.toList) := Lib.hid ⟨fun hx => by have h1 := fr1 _ (by simpa using hx); have h2 := (Array.getElem?_eq_some_iff.1 A1.out).1; omega, fun hx => by have h1 := fr1 _ (by simpa using hx); have h2 := (Array.getElem?_eq_some_iff.1 A1.out).1; omega⟩
    have AN1 := Lib.hid an1
    have B5 := Lib.hid (touch_box t5 A1.out (by simp))
    have Z5 := Lib.hid (touch_box t5 Z2.out (by simp))
    have K5 := Lib.hid (touch_box t5 HK.out (by simp))
    have V5 := Lib.hid (A2.out.kept t5 (by simp))
    have T5 := Lib.hid (TW.out.trans t5 (by simp))
    clear hv1 fr1 an1 t5 A1 Z2 HK A2 TW HW
    obtain ⟨p4, f4⟩ := th_cells B5.out
    have f4' := th_frozen B5.out 1
    have p5 := (th3 B5.out).2.1
    go_upto_region 6 with (fail)
    obtain ⟨W6, hW6⟩ : ∃ W6 : World, W6 = w5.setCell ⟨w.heap.size + 1, 1, none⟩ (.slice A5 L1.length cc5) := ⟨_, rfl⟩
    rw [← hW6]
    have t6 : Touch [w.heap.size + 1] w5 W6 := by rw [hW6]; exact (Touch.refl _ w5).setCell _ _ (.inl (by simp))
    have bb := box_set (o := 1) B5.out (.slice A5 L1.length cc5)
    rw [← hW6] at bb
    simp only [List.setIfInBounds_toArray, List.set_cons_succ, List.set_cons_zero] at bb
    have B6 := Lib.hid bb
    have Z6 := Lib.hid (touch_box t6 Z5.out (by simp))
    have K6 := Lib.hid (touch_box t6 K5.out (by have := HBD.out; simp; omega))
    have V6 := Lib.hid (V5.out.kept t6 (fun k hk hm => by simp at hm; subst hm; exact NB.out.1 (by simp [hk])))
    have U6 := Lib.hid (V1.out.kept t6 (fun k hk hm => by simp at hm; subst hm; exact NB1.out.1 (by simp [hk])))
    have T6 := Lib.hid (T5.out.trans t6 (fun x hx => .inr (by simp at hx; omega)))
    have HW := Lib.hid (H.out.kept T6.out (by simp))
    clear hW6 t6 bb p4 f4 f4' p5 B5 Z5 K5 V5 V1 T5
    obtain ⟨c0, c1, c2, c3, c4', c5⟩ := six_cells HW.out.blk
    go_wp2_with fail
    refine (all2_calls HW.out.fl2 R2.out N2.out).mono ?_
    rintro e w7 ⟨L2, A7, cc7, _, rfl, rfl, hv2, t7, fr2, an2⟩
    clear c0 c1 c2 c3 c4' c5
    have FR2 : Hid (Fresh w.heap.size (.slice A7 L2.length cc7)) := Lib.hid (fun b hb => Nat.le_trans T6.out.size (fr2 b hb))
    have NB2 : Hid (w.heap.size + 1 ∉ (Value.slice A7 L2.length cc7).ownBlock.toList ∧ w.heap.size ∉ (Value.slice A7 L2.length cc7).ownBlock.toList) := Lib.hid ⟨fun hx => by have h1 := fr2 _ (by simpa using hx); have h2 := (Array.getElem?_eq_some_iff.1 B6.out).1; omega, fun hx => by have h1 := fr2 _ (by simpa using hx); have h2 := (Array.getElem?_eq_some_iff.1 B6.out).1; omega⟩
    have AN2 := Lib.hid an2
    have V2 := Lib.hid hv2
    have B7 := Lib.hid (touch_box t7 B6.out (by simp))
    have Z7 := Lib.hid (touch_box t7 Z6.out (by simp))
    have K7 := Lib.hid (touch_box t7 K6.out (by simp))
    have V7 := Lib.hid (V6.out.kept t7 (by simp))
    have U7 := Lib.hid (U6.out.kept t7 (by simp))
    have T7 := Lib.hid (T6.out.trans t7 (by simp))
    clear hv2 fr2 an2 t7 B6 Z6 K6 V6 U6 T6 HW
    obtain ⟨p4, f4⟩ := th_cells B7.out
    have f4' := th_frozen B7.out 2
    have p5 := (th3 B7.out).2.2
    go_upto_region 7 with (fail)
    obtain ⟨W8, hW8⟩ : ∃ W8 : World, W8 = w7.setCell ⟨w.heap.size + 1, 2, none⟩ (.slice A7 L2.length cc7) := ⟨_, rfl⟩
    rw [← hW8]
    have t8 : Touch [w.heap.size + 1] w7 W8 := by rw [hW8]; exact (Touch.refl _ w7).setCell _ _ (.inl (by simp))
    have bb := box_set (o := 2) B7.out (.slice A7 L2.length cc7)
    rw [← hW8] at bb
    simp only [List.setIfInBounds_toArray, List.set_cons_succ, List.set_cons_zero] at bb
    have Z8 := Lib.hid (touch_box t8 Z7.out (by simp))
    have K8 := Lib.hid (touch_box t8 K7.out (by have := HBD.out; simp; omega))
    have V8 := Lib.hid (V7.out.kept t8 (fun k hk hm => by simp at hm; subst hm; exact NB.out.1 (by simp [hk])))
    have U8 := Lib.hid (U7.out.kept t8 (fun k hk hm => by simp at hm; subst hm; exact NB1.out.1 (by simp [hk])))
    have Y8 := Lib.hid (V2.out.kept t8 (fun k hk hm => by simp at hm; subst hm; exact NB2.out.1 (by simp [hk])))
    have T8 := Lib.hid (T7.out.trans t8 (fun x hx => .inr (by simp at hx; omega)))
    obtain ⟨p0, p1, p2⟩ := th3 bb
    clear hW8 t8 bb p4 f4 f4' p5 B7 Z7 K7 V7 U7 V2 T7
    go_wp2_with (refine wpList_store_row (by rfl) 66 (.tmp 2) (.tmp 32) (by rfl) w.heap.size #[.slice A4 R.length c4, .slice A5 L1.length cc5, .slice A7 L2.length cc7] (by rfl) (by rfl) 66 _ Z8.out infoT (by rfl) (by simp [Value.oneCell']) ?_)
    have tR : Touch [w.heap.size] W8 (W8.setRow w.heap.size #[.slice A4 R.length c4, .slice A5 L1.length cc5, .slice A7 L2.length cc7]) := touch_row _ _ _
    have Z9 := setRow_heap W8 w.heap.size _ #[.slice A4 R.length c4, .slice A5 L1.length cc5, .slice A7 L2.length cc7] _ _ Z8.out
    have K9 := touch_box tR K8.out (by have := HBD.out; simp; omega)
    have V9 := V8.out.kept tR (fun k hk hm => by simp at hm; subst hm; exact NB.out.2 (by simp [hk]))
    have U9 := U8.out.kept tR (fun k hk hm => by simp at hm; subst hm; exact NB1.out.2 (by simp [hk]))
    have Y9 := Y8.out.kept tR (fun k hk hm => by simp at hm; subst hm; exact NB2.out.2 (by simp [hk]))
    have T9 := T8.out.trans tR (fun x hx => .inr (by simp at hx; omega))
    generalize W8.setRow w.heap.size #[.slice A4 R.length c4, .slice A5 L1.length cc5, .slice A7 L2.length cc7] = W9 at *
    have tD : Touch [D] W9 (W9.putObj D (.deferred none)) := touch_grown (grownBy_putObj' W9 D (.deferred none))
    have offD : ∀ {e : TypeId} {sz : Nat} {V : Value} {n : Nat} {xs : List Value}, VRow W9 e sz V n xs → ∀ k, V.ownBlock = some k → k ∉ [D] := fun hV b hb hx => by
      obtain ⟨cc, hcc⟩ := hV.blk b hb
      simp at hx
      subst hx
      rw [K9] at hcc
      cases hcc
    refine ⟨by simp, .inl ⟨_, _, rfl, run_takeDeferred K9, ?_⟩⟩
    refine ⟨_, results_c fun25 _ _ w.heap.size 66 #[.slice A4 R.length c4, .slice A5 L1.length cc5, .slice A7 L2.length cc7] (0, 0) _ rfl (touch_box tD Z9 (by have := HBD.out; simp; omega)) rfl Tryz.underlying66 (by kernel_rfl), _, rfl, ⟨?_⟩, T9.trans tD (fun x hx => .inr (by have := HBD.out; simp at hx; omega))⟩
    rw [← HR.out]
    exact ⟨A4, A5, A7, c4, cc5, cc7, L1, L2, rfl, V9.kept tD (offD V9), U9.kept tD (offD U9), Y9.kept tD (offD Y9), FR0.out, FR1.out, FR2.out, AN1.out, AN2.out⟩
  case stop =>
    rintro D c pre W _ _ h _
    exact h.elim
end Go.Proofs.YtnpeafhjcelpfaaGreat.Tri

