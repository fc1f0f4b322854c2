/- Do: a kernel and its footprint; what one op does; a table as an op sees it; no condition. -/
import Derived.Test.YtnpeafhjcelpfaaGreatY2
import Derived.Test.YtnpeafhjcelpfaaGreatLJ
import Derived.Test.YtnpeafhjcelpfaaGreatLG
import Derived.Deep.MidRow
import Derived.Deep.WholeRow

namespace Go.Proofs.YtnpeafhjcelpfaaGreat.Tri
open Go.RowKit Go.Maps
set_option linter.unusedVariables false
set_option linter.unusedSimpArgs false
set_option maxRecDepth 100000

/-- A kernel, and the blocks that are its own. -/
def Ker (w : World) (kb : Nat) (l0 l1 l2 : Int) (s : KSt) (F : List Nat) : Prop := ∃ tb b1 m1 b2 m2 S, F = kb :: b1 :: m1 :: b2 :: m2 :: S ∧ KerAt w kb tb b1 m1 b2 m2 S l0 l1 l2 s
theorem Ker.kept {w w' : World} {kb : Nat} {l0 l1 l2 : Int} {s : KSt} {F : List Nat} (h : Ker w kb l0 l1 l2 s F) {X : List Nat} (t : Touch X w w') (hn : ∀ x ∈ F, x ∉ X) : Ker w' kb l0 l1 l2 s F := by
  obtain ⟨tb, b1, m1, b2, m2, S, rfl, h⟩ := h
  exact ⟨tb, b1, m1, b2, m2, S, rfl, h.kept t hn⟩
theorem Ker.lt {w : World} {kb : Nat} {l0 l1 l2 : Int} {s : KSt} {F : List Nat} (h : Ker w kb l0 l1 l2 s F) : ∀ x ∈ F, x < w.heap.size := by
  obtain ⟨tb, b1, m1, b2, m2, S, rfl, h⟩ := h
  intro x hx
  simp only [List.mem_cons] at hx
  rcases hx with rfl | rfl | rfl | rfl | rfl | hx
  · exact (Array.getElem?_eq_some_iff.1 h.blk).1
  · exact h.fl1.lt.1
  · exact h.fl1.lt.2
  · exact h.fl2.lt.1
  · exact h.fl2.lt.2
  · exact h.tri.lt x hx
/-- What an op is. -/
structure OpW (o : OpR) : Prop where
  pa : o.pa < 4294967296
  v : 0 ≤ o.v ∧ o.v < 8589934592
  ip : 0 ≤ o.ip ∧ o.ip < 4294967296
  nm : o.nm.wf
  fm : o.fm.wf
  ua : 0 ≤ o.ua ∧ o.ua < 4294967296
/-- A row of ops that is read. -/
structure RdO (w : World) (A : Option Addr) (os : List OpR) : Prop where
  at_ : ∀ i o, os[i]? = some o → ∃ g p c f, A = some ⟨g, p, none⟩ ∧ (∃ T, w.heap[g]? = some (.cells c T f)) ∧ w.rangeAt g (p + i * 19) (opC o).toList
def rdBlk (A : Option Addr) (os : List OpR) : List Nat := match A, os with
  | some a, _ :: _ => [a.block]
  | _, _ => []
theorem RdO.kept {w w' : World} {A : Option Addr} {os : List OpR} (h : RdO w A os) {S : List Nat} (t : Touch S w w') (hn : ∀ x ∈ rdBlk A os, x ∉ S) : RdO w' A os := by
  refine ⟨fun i o ho => ?_⟩
  obtain ⟨g, p, c, f, rfl, ⟨T, h1⟩, h2⟩ := h.at_ i o ho
  have e := t.block g (Array.getElem?_eq_some_iff.1 h1).1 (hn g (by cases os with | nil => simp at ho | cons a l => simp [rdBlk]))
  refine ⟨g, p, c, f, rfl, ⟨T, e.trans h1⟩, fun j v hj => ?_⟩
  have := h2 j v hj
  simp only [World.cell?] at this ⊢
  rw [e]
  exact this
def pxO (o : OpR) : Px := ⟨o.pa, o.pm.toNat⟩
def ipO (o : OpR) : Value := .int .u32 o.ip
/-- What the tables hold, within the capacities. -/
structure Sane (l0 l1 l2 : Int) (s : KSt) : Prop where
  r1 : RightN s.f1
  r2 : RightF s.f2
  k : (s.k : Int) ≤ l0 ∧ l0 ≤ 256
  n1 : (s.n1 : Int) ≤ l1 ∧ l1 ≤ 256
  n2 : (s.n2 : Int) ≤ l2 ∧ l2 ≤ 256
  ok : Ok s.t
  len : s.k = (ents s.t).length
def putR (s : KSt) (o : OpR) : KSt := ⟨(hang s.t (pxO o) o.v).1, (ents (hang s.t (pxO o) o.v).1).length, s.f1, s.n1, s.f2, s.n2⟩
def dropR (s : KSt) (o : OpR) : KSt := if seek s.t (pxO o) = none then s else ⟨take s.t (pxO o), (ents (take s.t (pxO o))).length, s.f1, s.n1, s.f2, s.n2⟩
noncomputable def putN (s : KSt) (o : OpR) : KSt := ⟨s.t, s.k, updV s.f1 (ipO o) (some (.agg (neiC o.ip o.nm))), if (s.f1 (ipO o)).isSome then s.n1 else s.n1 + 1, s.f2, s.n2⟩
noncomputable def dropN (s : KSt) (o : OpR) : KSt := ⟨s.t, s.k, updV s.f1 (ipO o) none, if (s.f1 (ipO o)).isSome then s.n1 - 1 else s.n1, s.f2, s.n2⟩
noncomputable def putF (s : KSt) (o : OpR) : KSt := ⟨s.t, s.k, s.f1, s.n1, updV s.f2 (macV o.fm) (some (.agg (fdbC o.fm o.ua))), if (s.f2 (macV o.fm)).isSome then s.n2 else s.n2 + 1⟩
noncomputable def dropF (s : KSt) (o : OpR) : KSt := ⟨s.t, s.k, s.f1, s.n1, updV s.f2 (macV o.fm) none, if (s.f2 (macV o.fm)).isSome then s.n2 - 1 else s.n2⟩
/-- One op on one table. -/
def stepT (pt : Bool) (lim : Int) (cnt : Nat) (hs : Bool) (s sd sp : KSt) : KSt × Int := if pt then (if lim ≤ cnt ∧ hs = false then (s, 4) else (sp, 0)) else (sd, 0)
noncomputable def stepK (l0 l1 l2 : Int) (s : KSt) (o : OpR) : KSt × Int :=
  if o.kd = 1 ∨ o.kd = 2 then (if okR o.kd o.pa o.pm o.v then stepT (decide (o.kd = 1)) l0 s.k (seek s.t (pxO o)).isSome s (dropR s o) (putR s o) else (s, 93))
  else if o.kd = 3 ∨ o.kd = 4 then stepT (decide (o.kd = 3)) l1 s.n1 (s.f1 (ipO o)).isSome s (dropN s o) (putN s o)
  else if o.kd = 5 ∨ o.kd = 6 then stepT (decide (o.kd = 5)) l2 s.n2 (s.f2 (macV o.fm)).isSome s (dropF s o) (putF s o)
  else (s, 93)
/-- Ops in order, up to the first that is refused. -/
noncomputable def doK (l0 l1 l2 : Int) : KSt → List OpR → Nat → KSt × Nat × Int
  | s, [], i => (s, i, 0)
  | s, o :: os, i => if (stepK l0 l1 l2 s o).2 = 0 then doK l0 l1 l2 (stepK l0 l1 l2 s o).1 os (i + 1) else (s, i, (stepK l0 l1 l2 s o).2)
def Leaves (kb : Nat) (l0 l1 l2 : Int) (F : List Nat) (s' : KSt) (W W' : World) : Prop := ∃ F', Ker W' kb l0 l1 l2 s' F' ∧ Touch F W W' ∧ ∀ x ∈ F', x ∈ F ∨ W.heap.size ≤ x
/-- A table as an op sees it: how many entries it holds, whether it holds the op's key, what drop and put leave. -/
structure TabI (w : World) (kb : Nat) (l0 l1 l2 : Int) (F : List Nat) (I : Value) (o : OpR) (cnt : Nat) (hs : Bool) (sd sp : KSt) : Prop where
  ex : ∃ ty rc fc fh fd fp, I = .iface ty rc ∧
    (∀ W : World, (nilAhead (Tryz.prog.types.size + Made.depth) ty rc "weft/tables.count").run Tryz.prog W = .ok (some false) W ∧ (method (Tryz.prog.types.size + Made.depth) ty rc "weft/tables.count").run Tryz.prog W = .ok (fc, rc) W ∧ ∀ args, (callFunc fc args).run Tryz.prog W = .ok (.enter fc args) W) ∧
    (∀ W : World, (nilAhead (Tryz.prog.types.size + Made.depth) ty rc "weft/tables.has").run Tryz.prog W = .ok (some false) W ∧ (method (Tryz.prog.types.size + Made.depth) ty rc "weft/tables.has").run Tryz.prog W = .ok (fh, rc) W ∧ ∀ args, (callFunc fh args).run Tryz.prog W = .ok (.enter fh args) W) ∧
    (∀ W : World, (nilAhead (Tryz.prog.types.size + Made.depth) ty rc "weft/tables.drop").run Tryz.prog W = .ok (some false) W ∧ (method (Tryz.prog.types.size + Made.depth) ty rc "weft/tables.drop").run Tryz.prog W = .ok (fd, rc) W ∧ ∀ args, (callFunc fd args).run Tryz.prog W = .ok (.enter fd args) W) ∧
    (∀ W : World, (nilAhead (Tryz.prog.types.size + Made.depth) ty rc "weft/tables.put").run Tryz.prog W = .ok (some false) W ∧ (method (Tryz.prog.types.size + Made.depth) ty rc "weft/tables.put").run Tryz.prog W = .ok (fp, rc) W ∧ ∀ args, (callFunc fp args).run Tryz.prog W = .ok (.enter fp args) W) ∧
    (∀ W, Touch [] w W → Calls Tryz.prog fc #[rc] W (fun e w' => e = .returned (.int .i64 cnt) ∧ Touch [] W w')) ∧
    (∀ W, Touch [] w W → Calls Tryz.prog fh #[rc, .agg (opC o)] W (fun e w' => e = .returned (.bool hs) ∧ Touch [] W w')) ∧
    (∀ W, Touch [] w W → Calls Tryz.prog fd #[rc, .agg (opC o)] W (fun e w' => e = .returned (.tuple #[]) ∧ Leaves kb l0 l1 l2 F sd W w')) ∧
    (∀ W, Touch [] w W → Calls Tryz.prog fp #[rc, .agg (opC o)] W (fun e w' => e = .returned (.tuple #[]) ∧ Leaves kb l0 l1 l2 F sp W w'))
/-- What speaks tells of an op, and what that table does. -/
def Sees (w : World) (kb : Nat) (l0 l1 l2 : Int) (s : KSt) (F : List Nat) (o : OpR) : Prop :=
  (∃ (I : Value) (lim : Int) (pt : Bool), stepK l0 l1 l2 s o = (s, 93) ∧ ∀ W, Touch [] w W → Calls Tryz.prog 52 #[.pointer (some ⟨kb, 0, none⟩), .agg (opC o)] W (fun e w' => e = .returned (.tuple #[I, .int .i64 lim, .bool pt, .bool false]) ∧ Touch [] W w')) ∨
  ∃ (I : Value) (lim : Int) (pt : Bool) (cnt : Nat) (hs : Bool) (sd sp : KSt), stepK l0 l1 l2 s o = stepT pt lim cnt hs s sd sp ∧ TabI w kb l0 l1 l2 F I o cnt hs sd sp ∧
    ∀ W, Touch [] w W → Calls Tryz.prog 52 #[.pointer (some ⟨kb, 0, none⟩), .agg (opC o)] W (fun e w' => e = .returned (.tuple #[I, .int .i64 lim, .bool pt, .bool true]) ∧ Touch [] W w')
theorem px_ok {o : OpR} (h : okB o.pa o.pm = true) : (pxO o).ok ∧ o.pm = ((pxO o).n : Int) := by
  unfold okB at h
  rw [@decide_eq_true_iff _ (Classical.propDecidable _)] at h
  exact ⟨h.2, by have := h.1; simp [pxO]; omega⟩
theorem okR_okB {kd : Int} {a : Nat} {m v : Int} (h : okR kd a m v = true) : okB a m = true := by
  unfold okR at h
  rw [Bool.and_eq_true] at h
  exact h.1
theorem sees {w : World} {kb : Nat} {l0 l1 l2 : Int} {s : KSt} {F : List Nat} (h : Ker w kb l0 l1 l2 s F) (hS : Sane l0 l1 l2 s) {o : OpR} (ho : OpW o) : Sees w kb l0 l1 l2 s F o := by
  obtain ⟨tb, b1, m1, b2, m2, S, rfl, h⟩ := h
  obtain ⟨n01, n02, n03, n04, n12, n13, n14, n23, n24, n34⟩ : kb ≠ b1 ∧ kb ≠ m1 ∧ kb ≠ b2 ∧ kb ≠ m2 ∧ b1 ≠ m1 ∧ b1 ≠ b2 ∧ b1 ≠ m2 ∧ m1 ≠ b2 ∧ m1 ≠ m2 ∧ b2 ≠ m2 := by
    have := h.nod
    simp at this
    obtain ⟨⟨a1, a2, a3, a4⟩, ⟨a5, a6, a7⟩, ⟨a8, a9⟩, a10⟩ := this
    exact ⟨a1, a2, a3, a4, a5, a6, a7, a8, a9, a10⟩
  have hk : ∀ W, Touch [] w W → KerAt W kb tb b1 m1 b2 m2 S l0 l1 l2 s := fun W t => h.kept t (by simp)
  by_cases h12 : o.kd = 1 ∨ o.kd = 2
  · cases hok : okR o.kd o.pa o.pm o.v with
    | false => exact .inl ⟨ifcR tb, l0, decide (o.kd = 1), by simp [stepK, h12, hok], fun W t => by have := speaks_route (hk W t) o ho.pa h12; rw [hok] at this; exact this⟩
    | true =>
      obtain ⟨hp, hm⟩ := px_ok (okR_okB hok)
      refine .inr ⟨ifcR tb, l0, decide (o.kd = 1), s.k, (seek s.t (pxO o)).isSome, dropR s o, putR s o, by simp [stepK, h12, hok], ⟨90, rtsV tb, _, _, _, _, rfl, fun W => ⟨nilR_count _ W, metR_count _ W, fun args => enters_of Tryz.func149 (by kernel_rfl) rfl args W⟩, fun W => ⟨nilR_has _ W, metR_has _ W, fun args => enters_of Tryz.func151 (by kernel_rfl) rfl args W⟩, fun W => ⟨nilR_drop _ W, metR_drop _ W, fun args => enters_of Tryz.func150 (by kernel_rfl) rfl args W⟩, fun W => ⟨nilR_put _ W, metR_put _ W, fun args => enters_of Tryz.func152 (by kernel_rfl) rfl args W⟩, fun W t => rcount_calls (hk W t).tri, fun W t => rhas_calls (hk W t).tri o (pxO o) rfl hm hp, fun W t => ?_, fun W t => ?_⟩, fun W t => by have := speaks_route (hk W t) o ho.pa h12; rw [hok] at this; exact this⟩
      · have hkw := hk W t
        refine (rdrop_calls hkw.tri o (pxO o) rfl hm hp (by have := hS.k; omega)).mono ?_
        rintro e w' ⟨rfl, ⟨hs, t'⟩ | ⟨v, hs, S', k', hT, t', hS'⟩⟩
        · refine ⟨rfl, _, ⟨tb, b1, m1, b2, m2, S, rfl, ?_⟩, t'.mono (by simp), fun x hx => .inl hx⟩
          unfold dropR
          rw [if_pos hs]
          exact hkw.kept t' (by simp)
        · have hkl := hT.len
          have d := hkw.dis
          refine ⟨rfl, _, ⟨tb, b1, m1, b2, m2, S', rfl, ?_⟩, t'.mono (fun x hx => .inl (by simp [hx])), fun x hx => .inl (by simp only [List.mem_cons] at hx ⊢; rcases hx with hx | hx | hx | hx | hx | hx; (simp [hx]); (simp [hx]); (simp [hx]); (simp [hx]); (simp [hx]); exact .inr (.inr (.inr (.inr (.inr (hS' x hx))))))⟩
          unfold dropR
          rw [if_neg (by rw [hs]; simp), ← hkl]
          exact ⟨touch_box t' hkw.blk (fun hx => d kb hx (by simp)), hT, hkw.fl1.kept t' (fun hx => d _ hx (by simp)) (fun hx => d _ hx (by simp)), hkw.fl2.kept t' (fun hx => d _ hx (by simp)) (fun hx => d _ hx (by simp)), hkw.nod, fun x hx => d x (hS' x hx)⟩
      · have hkw := hk W t
        refine (rput_calls hkw.tri o (pxO o) rfl hm hp (by have := hS.k; omega)).mono ?_
        rintro e w' ⟨rfl, S', k', hT, t', hS'⟩
        have hkl := hT.len
        have d := hkw.dis
        have hlt := (show Ker W kb l0 l1 l2 s _ from ⟨tb, b1, m1, b2, m2, S, rfl, hkw⟩).lt
        refine ⟨rfl, _, ⟨tb, b1, m1, b2, m2, S', rfl, ?_⟩, t'.mono (fun x hx => .inl (by simp [hx])), fun x hx => ?_⟩
        · unfold putR
          rw [← hkl]
          exact ⟨touch_box t' hkw.blk (fun hx => d kb hx (by simp)), hT, hkw.fl1.kept t' (fun hx => d _ hx (by simp)) (fun hx => d _ hx (by simp)), hkw.fl2.kept t' (fun hx => d _ hx (by simp)) (fun hx => d _ hx (by simp)), hkw.nod, fun x hx hx2 => by
            rcases hS' x hx with h1 | h1
            · exact d x h1 hx2
            · have := hlt x (by simp only [List.mem_cons, List.not_mem_nil, or_false] at hx2 ⊢; rcases hx2 with h | h | h | h | h <;> simp [h])
              omega⟩
        · simp only [List.mem_cons] at hx ⊢
          rcases hx with hx | hx | hx | hx | hx | hx
          · simp [hx]
          · simp [hx]
          · simp [hx]
          · simp [hx]
          · simp [hx]
          · rcases hS' x hx with h1 | h1
            · exact .inl (by simp [h1])
            · exact .inr h1
  · have hn1 : o.kd ≠ 1 := fun e => h12 (.inl e)
    have hn2 : o.kd ≠ 2 := fun e => h12 (.inr e)
    by_cases h34 : o.kd = 3 ∨ o.kd = 4
    · have hkey := keyAddr ho.ip.1 ho.ip.2
      refine .inr ⟨ifc1 b1, l1, decide (o.kd = 3), s.n1, (s.f1 (ipO o)).isSome, dropN s o, putN s o, by simp [stepK, h12, h34], ⟨_, _, _, _, _, _, rfl, fun W => ⟨nil1_count _ W, met1_count _ W, fun args => enters_of Tryz.func161 (by kernel_rfl) rfl args W⟩, fun W => ⟨nil1_has _ W, met1_has _ W, fun args => enters_of Tryz.func163 (by kernel_rfl) rfl args W⟩, fun W => ⟨nil1_drop _ W, met1_drop _ W, fun args => enters_of Tryz.func162 (by kernel_rfl) rfl args W⟩, fun W => ⟨nil1_put _ W, met1_put _ W, fun args => enters_of Tryz.func164 (by kernel_rfl) rfl args W⟩, fun W t => count1_calls (hk W t).fl1, fun W t => has1_calls (hk W t).fl1 o hkey (fun v hv => by obtain ⟨y, e⟩ := hS.r1 _ _ hv; exact ⟨_, y, e⟩), fun W t => ?_, fun W t => ?_⟩, fun W t => by have := speaks_flat (hk W t) o hn1 hn2; unfold spk at this; rw [if_pos h34] at this; exact this⟩
      · have hkw := hk W t
        refine (drop1_calls hkw.fl1 o hkey).mono ?_
        rintro e w' ⟨rfl, hf, t'⟩
        refine ⟨rfl, _, ⟨tb, b1, m1, b2, m2, S, rfl, ?_⟩, t'.mono (fun x hx => .inl (by simp at hx; simp [hx])), fun x hx => .inl hx⟩
        exact ⟨touch_box t' hkw.blk (by simp; exact n02), hkw.tri.kept t' (fun x hx hx2 => hkw.dis x hx (by simp at hx2; simp [hx2])), hf, hkw.fl2.kept t' (by simp; exact fun e => n23 e.symm) (by simp; exact fun e => n24 e.symm), hkw.nod, hkw.dis⟩
      · have hkw := hk W t
        refine (put1_calls hkw.fl1 o hkey (by have := hS.n1; omega)).mono ?_
        rintro e w' ⟨rfl, hf, t'⟩
        refine ⟨rfl, _, ⟨tb, b1, m1, b2, m2, S, rfl, ?_⟩, t'.mono (fun x hx => .inl (by simp at hx; simp [hx])), fun x hx => .inl hx⟩
        exact ⟨touch_box t' hkw.blk (by simp; exact n02), hkw.tri.kept t' (fun x hx hx2 => hkw.dis x hx (by simp at hx2; simp [hx2])), hf, hkw.fl2.kept t' (by simp; exact fun e => n23 e.symm) (by simp; exact fun e => n24 e.symm), hkw.nod, hkw.dis⟩
    · by_cases h56 : o.kd = 5 ∨ o.kd = 6
      · obtain ⟨kl, hkey⟩ := mac_some ho.fm
        refine .inr ⟨ifc2 b2, l2, decide (o.kd = 5), s.n2, (s.f2 (macV o.fm)).isSome, dropF s o, putF s o, by simp [stepK, h12, h34, h56], ⟨_, _, _, _, _, _, rfl, fun W => ⟨nil2_count _ W, met2_count _ W, fun args => enters_of Tryz.func165 (by kernel_rfl) rfl args W⟩, fun W => ⟨nil2_has _ W, met2_has _ W, fun args => enters_of Tryz.func167 (by kernel_rfl) rfl args W⟩, fun W => ⟨nil2_drop _ W, met2_drop _ W, fun args => enters_of Tryz.func166 (by kernel_rfl) rfl args W⟩, fun W => ⟨nil2_put _ W, met2_put _ W, fun args => enters_of Tryz.func168 (by kernel_rfl) rfl args W⟩, fun W t => count2_calls (hk W t).fl2, fun W t => has2_calls (hk W t).fl2 o hkey (fun v hv => by obtain ⟨y, e⟩ := hS.r2 _ _ hv; exact ⟨y, _, e⟩), fun W t => ?_, fun W t => ?_⟩, fun W t => by have := speaks_flat (hk W t) o hn1 hn2; unfold spk at this; rw [if_neg h34, if_pos h56] at this; exact this⟩
        · have hkw := hk W t
          refine (drop2_calls hkw.fl2 o hkey).mono ?_
          rintro e w' ⟨rfl, hf, t'⟩
          refine ⟨rfl, _, ⟨tb, b1, m1, b2, m2, S, rfl, ?_⟩, t'.mono (fun x hx => .inl (by simp at hx; simp [hx])), fun x hx => .inl hx⟩
          exact ⟨touch_box t' hkw.blk (by simp; exact n04), hkw.tri.kept t' (fun x hx hx2 => hkw.dis x hx (by simp at hx2; simp [hx2])), hkw.fl1.kept t' (by simp; exact n14) (by simp; exact n24), hf, hkw.nod, hkw.dis⟩
        · have hkw := hk W t
          refine (put2_calls hkw.fl2 o hkey (by have := hS.n2; omega)).mono ?_
          rintro e w' ⟨rfl, hf, t'⟩
          refine ⟨rfl, _, ⟨tb, b1, m1, b2, m2, S, rfl, ?_⟩, t'.mono (fun x hx => .inl (by simp at hx; simp [hx])), fun x hx => .inl hx⟩
          exact ⟨touch_box t' hkw.blk (by simp; exact n04), hkw.tri.kept t' (fun x hx hx2 => hkw.dis x hx (by simp at hx2; simp [hx2])), hkw.fl1.kept t' (by simp; exact n14) (by simp; exact n24), hf, hkw.nod, hkw.dis⟩
      · refine .inl ⟨.nilIface, 0, false, by simp [stepK, h12, h34, h56], fun W t => by have := speaks_flat (hk W t) o hn1 hn2; unfold spk at this; rw [if_neg h34, if_neg h56] at this; exact this⟩
end Go.Proofs.YtnpeafhjcelpfaaGreat.Tri

/- Do: the walk; no condition. -/
namespace Go.Proofs.YtnpeafhjcelpfaaGreat.Tri
open Go.RowKit Go.Maps
set_option linter.unusedVariables false
set_option linter.unusedSimpArgs false
set_option maxRecDepth 100000

theorem info57 : (Tryz.prog.info? 57).map (·.size) = some 19 := by kernel_rfl
theorem one_op (o : OpR) : (opC o).all (·.oneCell') = true := by
  simp [opC, Value.oneCell']
theorem range_box {w : World} {k : Nat} {c : Array Value} {T : TypeId} (hb : w.heap[k]? = some (.cells c T (0, 0))) : w.rangeAt k 0 c.toList := by
  intro j v hj
  simp [World.cell?, hb]
  simpa using hj
theorem seek_some' {s : KSt} (hO : Ok s.t) {p : Px} (hp : p.ok) {u : Int} (h : seek s.t p = some u) : (p, u) ∈ ents s.t := (seek_is s.t p u hO hp).1 h
theorem sane_step {l0 l1 l2 : Int} {s : KSt} (h : Sane l0 l1 l2 s) {o : OpR} (ho : OpW o) (h0 : (stepK l0 l1 l2 s o).2 = 0) : Sane l0 l1 l2 (stepK l0 l1 l2 s o).1 := by
  obtain ⟨r1, r2, k, n1, n2, ok, len⟩ := h
  unfold stepK stepT at h0 ⊢
  by_cases h12 : o.kd = 1 ∨ o.kd = 2
  · simp only [h12, if_true] at h0 ⊢
    cases hok : okR o.kd o.pa o.pm o.v with
    | false => rw [hok] at h0; simp at h0
    | true =>
      obtain ⟨hp, hm⟩ := px_ok (okR_okB hok)
      simp only [hok, if_true] at h0 ⊢
      split at h0
      · rename_i hd
        simp only [hd, if_true]
        split at h0
        · simp at h0
        · rename_i hf
          rw [if_neg hf]
          have hh := hang_is s.t (pxO o) o.v ok hp
          have hl := len_hang (v := o.v) ok hp
          refine ⟨r1, r2, ?_, n1, n2, hh.ok, rfl⟩
          simp only [putR]
          rw [hl, ← len]
          split
          · rename_i hfl
            have hn := (seek_none ok hp).2 (hh.fresh.1 hfl)
            rw [hn] at hf
            simp at hf
            omega
          · simpa using k
      · rename_i hd
        simp only [hd]
        simp only [Bool.false_eq_true, if_false]
        unfold dropR
        split
        · exact ⟨r1, r2, k, n1, n2, ok, len⟩
        · rename_i hs
          obtain ⟨u, hu⟩ := Option.ne_none_iff_exists'.1 hs
          have hm := seek_some' ok hp hu
          have ht := take_is s.t (pxO o) u ok hm
          have hl := len_take ok hm
          exact ⟨r1, r2, by simp only; omega, n1, n2, ht.ok, rfl⟩
  · simp only [h12, if_false] at h0 ⊢
    by_cases h34 : o.kd = 3 ∨ o.kd = 4
    · simp only [h34, if_true] at h0 ⊢
      split at h0
      · rename_i hd
        simp only [hd, if_true]
        split at h0
        · simp at h0
        · rename_i hf
          rw [if_neg hf]
          refine ⟨?_, r2, k, ?_, n2, ok, len⟩
          · intro x v hv
            simp only [putN] at hv
            by_cases e : (.int .u32 x : Value) = ipO o
            · rw [e, updV_same] at hv
              unfold ipO at e
              injection e with _ e
              cases hv
              exact ⟨_, by rw [e]⟩
            · rw [updV_other _ e] at hv
              exact r1 _ _ hv
          · simp only [putN]
            split
            · exact n1
            · rename_i hs
              simp only [Bool.not_eq_true] at hs
              rw [hs] at hf
              simp at hf
              omega
      · rename_i hd
        simp only [hd]
        simp only [Bool.false_eq_true, if_false]
        refine ⟨?_, r2, k, ?_, n2, ok, len⟩
        · intro x v hv
          simp only [dropN] at hv
          by_cases e : (.int .u32 x : Value) = ipO o
          · rw [e, updV_same] at hv; cases hv
          · rw [updV_other _ e] at hv
            exact r1 _ _ hv
        · simp only [dropN]
          split <;> omega
    · simp only [h34, if_false] at h0 ⊢
      by_cases h56 : o.kd = 5 ∨ o.kd = 6
      · simp only [h56, if_true] at h0 ⊢
        split at h0
        · rename_i hd
          simp only [hd, if_true]
          split at h0
          · simp at h0
          · rename_i hf
            rw [if_neg hf]
            refine ⟨r1, ?_, k, n1, ?_, ok, len⟩
            · intro m v hv
              simp only [putF] at hv
              by_cases e : macV m = macV o.fm
              · rw [e, updV_same] at hv
                cases hv
                exact ⟨_, by rw [macV_inj e]⟩
              · rw [updV_other _ e] at hv
                exact r2 _ _ hv
            · simp only [putF]
              split
              · exact n2
              · rename_i hs
                simp only [Bool.not_eq_true] at hs
                rw [hs] at hf
                simp at hf
                omega
        · rename_i hd
          simp only [hd]
          simp only [Bool.false_eq_true, if_false]
          refine ⟨r1, ?_, k, n1, ?_, ok, len⟩
          · intro m v hv
            simp only [dropF] at hv
            by_cases e : macV m = macV o.fm
            · rw [e, updV_same] at hv; cases hv
            · rw [updV_other _ e] at hv
              exact r2 _ _ hv
          · simp only [dropF]
            split <;> omega
      · simp only [h56, if_false] at h0
        simp at h0
theorem doK_ok {l0 l1 l2 : Int} {s s' : KSt} {o : OpR} {os : List OpR} {i : Nat} (h : stepK l0 l1 l2 s o = (s', 0)) : doK l0 l1 l2 s (o :: os) i = doK l0 l1 l2 s' os (i + 1) := by
  rw [doK, if_pos (by rw [h]), h]
theorem doK_no {l0 l1 l2 : Int} {s s' : KSt} {o : OpR} {os : List OpR} {i : Nat} {e : Int} (h : stepK l0 l1 l2 s o = (s', e)) (he : e ≠ 0) : doK l0 l1 l2 s (o :: os) i = (s, i, e) := by
  rw [doK, if_neg (by rw [h]; exact he), h]
end Go.Proofs.YtnpeafhjcelpfaaGreat.Tri

/- Do: the walk; no condition. -/
namespace Go.Proofs.YtnpeafhjcelpfaaGreat.Tri
open Go.RowKit Go.Maps
set_option linter.unusedVariables false
set_option linter.unusedSimpArgs false
set_option maxRecDepth 100000

def DoPost (w : World) (kb : Nat) (l0 l1 l2 : Int) (F : List Nat) (r : KSt × Nat × Int) (e : Ending) (w' : World) : Prop :=
  e = .returned (.tuple #[.int .i64 r.2.1, .int .i64 r.2.2]) ∧ Sane l0 l1 l2 r.1 ∧ Leaves kb l0 l1 l2 F r.1 w w'
theorem Leaves.trans {kb : Nat} {l0 l1 l2 : Int} {F F1 : List Nat} {s' : KSt} {w w1 w2 : World} (t : Touch F w w1) (hF : ∀ x ∈ F1, x ∈ F ∨ w.heap.size ≤ x) (h : Leaves kb l0 l1 l2 F1 s' w1 w2) : Leaves kb l0 l1 l2 F s' w w2 := by
  obtain ⟨F', hk, t', hF'⟩ := h
  refine ⟨F', hk, t.trans t' hF, fun x hx => ?_⟩
  rcases hF' x hx with h1 | h1
  · exact hF x h1
  · exact .inr (Nat.le_trans t.size h1)
theorem step_close {kb : Nat} {l0 l1 l2 : Int} {F Fi : List Nat} {si s' : KSt} {w wr w2 w3 : World} {o : OpR} {os : List OpR} {i : Nat} {R : KSt × Nat × Int} (hst : stepK l0 l1 l2 si o = (s', 0)) (hS : Sane l0 l1 l2 si) (ho : OpW o) (hL : Leaves kb l0 l1 l2 Fi s' w2 w3) (t2 : Touch [] wr w2) (hT : Touch F w wr) (hF : ∀ x ∈ Fi, x ∈ F ∨ w.heap.size ≤ x) (hR : R = doK l0 l1 l2 si (o :: os) i) :
    ∃ F', Ker w3 kb l0 l1 l2 s' F' ∧ Sane l0 l1 l2 s' ∧ R = doK l0 l1 l2 s' os (i + 1) ∧ Touch F w w3 ∧ ∀ x ∈ F', x ∈ F ∨ w.heap.size ≤ x := by
  obtain ⟨F', h1, h2, h3⟩ := hL
  have hs := sane_step hS ho (by rw [hst])
  rw [hst] at hs
  refine ⟨F', h1, hs, by rw [hR]; exact doK_ok hst, (hT.trans t2 (by simp)).trans h2 hF, fun x hx => ?_⟩
  rcases h3 x hx with h | h
  · exact hF x h
  · exact .inr (Nat.le_trans (hT.trans t2 (by simp)).size h)
theorem stepT_full {lim : Int} {cnt : Nat} {s sd sp : KSt} (h : lim ≤ (cnt : Int)) : stepT true lim cnt false s sd sp = (s, 4) := by
  unfold stepT
  rw [if_pos rfl, if_pos ⟨h, rfl⟩]
theorem stepT_put {lim : Int} {cnt : Nat} {hs : Bool} {s sd sp : KSt} (h : ¬ lim ≤ (cnt : Int)) : stepT true lim cnt hs s sd sp = (sp, 0) := by
  unfold stepT
  rw [if_pos rfl, if_neg (fun x => h x.1)]
theorem wpList_load_want {ops : Array Oper} {rest : List Oper} {op : Oper} {a : Act} {w : World} {Q : Exit → Act → World → Prop} (hwd : Region.wanted op (yielded ops a.tmps) = true) (ty : TypeId) (x : Operand) (ho : op.op = .load ty x)
    (b o : Nat) (hx : a.eval x = .pointer (some ⟨b, o, none⟩)) (cs : List Value) (d : TypeDesc) (hc : w.rangeAt b o cs)
    (hu : Tryz.prog.underlying ty = some d) (hd : d.isRow = true) (hi : (Tryz.prog.info? ty).map (·.size) = some cs.length)
    (h : wpList Tryz.prog ops Q rest (a.put op.dst (.agg cs.toArray)) w) : wpList Tryz.prog ops Q (op :: rest) a w :=
  wpList_step fun K hK => by rw [if_pos hwd]; exact wp_load_mid ty x ho b o hx cs d hc hu hd hi (hK _ _ h)
set_option maxHeartbeats 8000000 in
theorem do_calls {w : World} {kb : Nat} {l0 l1 l2 : Int} {s : KSt} {F : List Nat} (h : Ker w kb l0 l1 l2 s F) (hS : Sane l0 l1 l2 s) (A : Option Addr) (c : Nat) (os : List OpR) (hA : RdO w A os) (hO : ∀ o ∈ os, OpW o) (hd : ∀ x ∈ rdBlk A os, x ∉ F ∧ x < w.heap.size) (hn : os.length < 4611686018427387904) :
    Calls Tryz.prog 23 #[.pointer (some ⟨kb, 0, none⟩), .slice A os.length c] w (DoPost w kb l0 l1 l2 F (doK l0 l1 l2 s os 0)) := by
  obtain ⟨N, hN⟩ : ∃ N, N = os.length := ⟨_, rfl⟩
  have HN := Lib.hid hN
  have H := Lib.hid h
  have HS := Lib.hid hS
  have HA := Lib.hid hA
  have HO := Lib.hid hO
  have HD := Lib.hid hd
  obtain ⟨R, hR⟩ : ∃ R, R = doK l0 l1 l2 s os 0 := ⟨_, rfl⟩
  have HR := Lib.hid hR
  rw [← hR, ← hN]
  rw [← hN] at hn
  clear h hS hA hO hd hN hR
  go_enter Tryz.func23, Tryz.ntmps23
  go_wp2_with fail
  go_loopg [14] (N + 1) (fun kq v14 wr => ∃ (i : Nat) (si : KSt) (Fi : List Nat), v14 = .int .i64 i ∧ i ≤ N ∧ N + 1 - i ≤ kq ∧ Hid (Ker wr kb l0 l1 l2 si Fi) ∧ Hid (Sane l0 l1 l2 si) ∧ Hid (R = doK l0 l1 l2 si (os.drop i) i) ∧ Hid (Touch F w wr) ∧ Hid (∀ x ∈ Fi, x ∈ F ∨ w.heap.size ≤ x))
  case atStart => exact ⟨0, s, F, rfl, Nat.zero_le _, by omega, H, HS, Lib.hid HR.out, Lib.hid (Touch.refl _ _), Lib.hid (fun x hx => .inl hx)⟩
  case round =>
    obtain ⟨i, si, Fi, rfl, hi, hkq, hK, hSi, hRi, hT, hF⟩ := hrel
    by_cases hlt : i < N
    · have b1 : (i : Int) < (N : Int) := by omega
      obtain ⟨o, ho⟩ : ∃ o, os[i]? = some o := ⟨os[i]'(by rw [← HN.out]; exact hlt), List.getElem?_eq_getElem _⟩
      have HOo := Lib.hid (HO.out o (List.mem_of_getElem? ho))
      have hRA := HA.out.kept hT.out (fun x hx => (HD.out x hx).1)
      obtain ⟨g, p, cs, fr, hA, hg, hr⟩ := hRA.at_ i o ho
      subst hA
      have HRG := Lib.hid hr
      have hdr : os.drop i = o :: os.drop (i + 1) := by
        rw [List.drop_eq_getElem_cons (by rw [← HN.out]; exact hlt)]
        congr 1
        rw [List.getElem?_eq_getElem (by rw [← HN.out]; exact hlt)] at ho
        exact Option.some.inj ho
      have HDR := Lib.hid (show R = doK l0 l1 l2 si (o :: os.drop (i + 1)) i by rw [hRi.out, hdr])
      clear hr hg hRA ho hdr hRi
      have HSE := Lib.hid (sees hK.out hSi.out HOo.out)
      go_upto_region 4 with (first
        | (refine wpList_load_mid (by rfl) 57 (.tmp 17) (by rfl) g (p + i * 19) (by rfl) (opC o).toList _ HRG.out Tryz.underlying57 rfl info57 ?_)
        | (refine wpList_store_row (by rfl) 57 (.tmp 7) (.tmp 18) (by rfl) wr.heap.size (opC o) (by rfl) (by rfl) 57 _ (box_at _ _) info57 (by rfl) (one_op o) ?_; rw [World.setRow_alloc_new]))
      obtain ⟨W1, hW1⟩ : ∃ W1 : World, W1 = wr.alloc (.cells (opC o) 57) := ⟨_, rfl⟩
      rw [← hW1]
      have t1 : Touch [] wr W1 := by rw [hW1]; exact (Touch.refl [] wr).alloc _
      obtain ⟨b7, hb7⟩ : ∃ b7, b7 = wr.heap.size := ⟨_, rfl⟩
      have X1 := Lib.hid (show W1.heap[b7]? = some (.cells (opC o) 57 (0, 0)) by rw [hW1, hb7]; exact box_at _ _)
      have T1 := Lib.hid t1
      have HB7 := Lib.hid hb7
      rw [← hb7]
      clear hW1 t1 hb7 HRG
      rcases HSE.out with ⟨I, lim, pt, hst, hsp⟩ | ⟨I, lim, pt, cnt, hs, sd, sp, hst, hti, hsp⟩
      · have HST := Lib.hid hst
        have HSP := Lib.hid hsp
        clear hst hsp HSE
        go_wp2_with (first
          | (refine wpList_load_mid (by rfl) 57 (.tmp 7) (by rfl) b7 0 (by rfl) (opC o).toList _ (range_box X1.out) Tryz.underlying57 rfl info57 ?_)
          | fail)
        refine (HSP.out _ T1.out).mono ?_
        rintro e w2 ⟨rfl, t2⟩
        have T2 := Lib.hid (T1.out.trans t2 (by simp))
        clear t2 HSP
        go_wp2
        refine bodyPost_ret (results_tmp2 rfl _ _ _) rfl ?_
        have hr : R = (si, i, 93) := by rw [HDR.out]; exact doK_no HST.out (by decide)
        rw [hr]
        exact ⟨rfl, hSi.out, Fi, hK.out.kept T2.out (by simp), hT.out.trans T2.out (by simp), hF.out⟩
      · have HST := Lib.hid hst
        have HSP := Lib.hid hsp
        obtain ⟨ty, rc, fc, fh, fd, fp, rfl, c1, h1, d1, p1, cc, ch, cd, cp⟩ := hti.ex
        have hfu : Tryz.prog.types.size + Made.depth = 327 := by kernel_rfl
        rw [hfu] at c1 h1 d1 p1
        clear hfu
        have hcount1 := fun W => (c1 W).1
        have hcount2 := fun W => (c1 W).2.1
        have hcount3 := fun W => (c1 W).2.2
        have hhas1 := fun W => (h1 W).1
        have hhas2 := fun W => (h1 W).2.1
        have hhas3 := fun W => (h1 W).2.2
        have hdrop1 := fun W => (d1 W).1
        have hdrop2 := fun W => (d1 W).2.1
        have hdrop3 := fun W => (d1 W).2.2
        have hput1 := fun W => (p1 W).1
        have hput2 := fun W => (p1 W).2.1
        have hput3 := fun W => (p1 W).2.2
        have CC := Lib.hid cc
        have CH := Lib.hid ch
        have CD := Lib.hid cd
        have CP := Lib.hid cp
        clear c1 h1 d1 p1 cc ch cd cp hti hst hsp HSE
        go_wp2_with (first
          | (refine wpList_load_mid (by rfl) 57 (.tmp 7) (by rfl) b7 0 (by rfl) (opC o).toList _ (range_box X1.out) Tryz.underlying57 rfl info57 ?_)
          | fail)
        refine (HSP.out _ T1.out).mono ?_
        rintro e w2 ⟨rfl, t2⟩
        have T2 := Lib.hid (T1.out.trans t2 (by simp))
        have X2 := Lib.hid (touch_box t2 X1.out (by simp))
        clear t2 HSP
        cases pt with
        | false =>
          go_wp2_with (first
            | (refine wpList_load_mid (by rfl) 57 (.tmp 7) (by rfl) b7 0 (by rfl) (opC o).toList _ (range_box X2.out) Tryz.underlying57 rfl info57 ?_)
            | fail)
          refine (CD.out _ T2.out).mono ?_
          rintro e w3 ⟨rfl, hL⟩
          have HL := Lib.hid hL
          clear hL hcount1 hcount2 hcount3 hhas1 hhas2 hhas3 hdrop1 hdrop2 hdrop3 hput1 hput2 hput3
          go_wp2
          go_roundg (N - i)
          case rel =>
            obtain ⟨F', k1, k2, k3, k4, k5⟩ := step_close (by rw [HST.out]; rfl) hSi.out HOo.out HL.out T2.out hT.out hF.out HDR.out
            exact ⟨i + 1, sd, F', by simp, by omega, by omega, Lib.hid k1, Lib.hid k2, Lib.hid k3, Lib.hid k4, Lib.hid k5⟩
          case measure => omega
        | true =>
          by_cases hc : lim ≤ (cnt : Int)
          · have hCT := Lib.hid hc
            cases hs with
            | false =>
              go_wp2_with (first
                | (refine wpList_load_mid (by rfl) 57 (.tmp 7) (by rfl) b7 0 (by rfl) (opC o).toList _ (range_box X2.out) Tryz.underlying57 rfl info57 ?_)
                | (refine (CC.out _ T2.out).mono ?_; rintro e w3 ⟨rfl, t3⟩; have T3 := Lib.hid (T2.out.trans t3 (by simp)); have X3 := Lib.hid (touch_box t3 X2.out (by simp)); clear t3)
                | (refine wpList_load_mid (by rfl) 57 (.tmp 7) (by rfl) b7 0 (by rfl) (opC o).toList _ (range_box X3.out) Tryz.underlying57 rfl info57 ?_)
                | (refine wpList_load_want (by rfl) 57 (.tmp 7) (by rfl) b7 0 (by rfl) (opC o).toList _ (range_box X3.out) Tryz.underlying57 rfl info57 ?_)
                | (refine (CH.out _ T3.out).mono ?_; rintro e w4 ⟨rfl, t4⟩; have T4 := Lib.hid (T3.out.trans t4 (by simp)); clear t4)
                | fail)
              have hr : R = (si, i, 4) := by rw [HDR.out]; exact doK_no (by rw [HST.out]; exact stepT_full (by have := hCT.out; omega)) (by decide)
              rw [hr]
              refine bodyPost_ret (results_tmp2 rfl _ _ _) rfl ?_
              exact ⟨rfl, hSi.out, Fi, hK.out.kept T4.out (by simp), hT.out.trans T4.out (by simp), hF.out⟩
            | true =>
              go_wp2_with (first
                | (refine wpList_load_mid (by rfl) 57 (.tmp 7) (by rfl) b7 0 (by rfl) (opC o).toList _ (range_box X4.out) Tryz.underlying57 rfl info57 ?_)
                | (refine (CP.out _ T4.out).mono ?_; rintro e w5 ⟨rfl, hL⟩; have HL := Lib.hid hL; clear hL)
                | (refine (CC.out _ T2.out).mono ?_; rintro e w3 ⟨rfl, t3⟩; have T3 := Lib.hid (T2.out.trans t3 (by simp)); have X3 := Lib.hid (touch_box t3 X2.out (by simp)); clear t3)
                | (refine wpList_load_want (by rfl) 57 (.tmp 7) (by rfl) b7 0 (by rfl) (opC o).toList _ (range_box X3.out) Tryz.underlying57 rfl info57 ?_)
                | (refine (CH.out _ T3.out).mono ?_; rintro e w4 ⟨rfl, t4⟩; have T4 := Lib.hid (T3.out.trans t4 (by simp)); have X4 := Lib.hid (touch_box t4 X3.out (by simp)); clear t4)
                | fail)
              clear hcount1 hcount2 hcount3 hhas1 hhas2 hhas3 hdrop1 hdrop2 hdrop3 hput1 hput2 hput3
              go_wp2
              go_roundg (N - i)
              case rel =>
                obtain ⟨F', k1, k2, k3, k4, k5⟩ := step_close (s' := sp) (by rw [HST.out]; simp [stepT]) hSi.out HOo.out HL.out T4.out hT.out hF.out HDR.out
                exact ⟨i + 1, sp, F', by simp, by omega, by omega, Lib.hid k1, Lib.hid k2, Lib.hid k3, Lib.hid k4, Lib.hid k5⟩
              case measure => omega
          · have hCT := Lib.hid hc
            go_wp2_with (first
              | (refine wpList_load_mid (by rfl) 57 (.tmp 7) (by rfl) b7 0 (by rfl) (opC o).toList _ (range_box X3.out) Tryz.underlying57 rfl info57 ?_)
              | (refine (CP.out _ T3.out).mono ?_; rintro e w5 ⟨rfl, hL⟩; have HL := Lib.hid hL; clear hL)
              | (refine (CC.out _ T2.out).mono ?_; rintro e w3 ⟨rfl, t3⟩; have T3 := Lib.hid (T2.out.trans t3 (by simp)); have X3 := Lib.hid (touch_box t3 X2.out (by simp)); clear t3)
              | fail)
            clear hcount1 hcount2 hcount3 hhas1 hhas2 hhas3 hdrop1 hdrop2 hdrop3 hput1 hput2 hput3
            go_wp2
            go_roundg (N - i)
            case rel =>
              obtain ⟨F', k1, k2, k3, k4, k5⟩ := step_close (s' := sp) (by rw [HST.out]; exact stepT_put (by have := hCT.out; omega)) hSi.out HOo.out HL.out T3.out hT.out hF.out HDR.out
              exact ⟨i + 1, sp, F', by simp, by omega, by omega, Lib.hid k1, Lib.hid k2, Lib.hid k3, Lib.hid k4, Lib.hid k5⟩
            case measure => omega
    · have b1 : ¬ (i : Int) < (N : Int) := by omega
      have hiN : i = N := by omega
      go_wp2
      refine bodyPost_ret (results_tmp2 rfl _ _ _) rfl ?_
      have hr : R = (si, i, 0) := by rw [hRi.out, hiN, HN.out, List.drop_length]; rfl
      rw [hr, ← hiN]
      exact ⟨rfl, hSi.out, Fi, hK.out, hT.out, hF.out⟩
end Go.Proofs.YtnpeafhjcelpfaaGreat.Tri

