/- Ops; what an op speaks of: the two closures of empty; no condition. -/
import Derived.Test.YtnpeafhjcelpfaaGreatLA
import Derived.Laws.Rows
namespace Go.Proofs.YtnpeafhjcelpfaaGreat.Tri
open Go.RowKit Go.Maps
set_option linter.unusedVariables false
set_option linter.unusedSimpArgs false

structure OpR where
  kd : Int
  pa : Nat
  pm : Int
  v : Int
  ip : Int
  nm : M6
  fm : M6
  ua : Int
def neiC (ip : Int) (m : M6) : Array Value := #[.int .u32 ip, .int .u8 m.m0, .int .u8 m.m1, .int .u8 m.m2, .int .u8 m.m3, .int .u8 m.m4, .int .u8 m.m5]
def fdbC (m : M6) (ua : Int) : Array Value := #[.int .u8 m.m0, .int .u8 m.m1, .int .u8 m.m2, .int .u8 m.m3, .int .u8 m.m4, .int .u8 m.m5, .int .u32 ua]
def opC (o : OpR) : Array Value := #[.int .i64 o.kd, .int .u32 o.pa, .int .i64 o.pm, .int .u32 (rV o.v), .bool (rL o.v), .int .u32 o.ip, .int .u8 o.nm.m0, .int .u8 o.nm.m1, .int .u8 o.nm.m2, .int .u8 o.nm.m3, .int .u8 o.nm.m4, .int .u8 o.nm.m5, .int .u8 o.fm.m0, .int .u8 o.fm.m1, .int .u8 o.fm.m2, .int .u8 o.fm.m3, .int .u8 o.fm.m4, .int .u8 o.fm.m5, .int .u32 o.ua]
theorem results_tc {fn : Func} {u p : Tmp} {ty : TypeId} (h : fn.results = #[.tmp u, .cell p ty]) (tmps : Array Value) (w : World) (g : Nat) (t : TypeId) (cs : Array Value) (fr : Nat × Nat) (d : TypeDesc)
    (hp : tmps.getD p undef = .pointer (some ⟨g, 0, none⟩)) (hg : w.heap[g]? = some (.cells cs t fr))
    (hd : (match d with | .struct _ | .array _ _ => true | _ => false) = true) (hu : Tryz.prog.underlying ty = some d) (hi : (Tryz.prog.info? ty).map (·.size) = some cs.size) :
    (results fn tmps).run Tryz.prog w = .ok (.tuple #[tmps.getD u undef, .agg cs]) w := by
  have hp' : tmps[p]?.getD undef = .pointer (some ⟨g, 0, none⟩) := by simpa using hp
  simp [results, h, hp', asAddr, run_loadVar_row w g t ty cs fr d hg hu (by revert hd; cases d <;> exact id) hi]
theorem results_cc {fn : Func} {q p : Tmp} {tq ty : TypeId} (h : fn.results = #[.cell q tq, .cell p ty]) (tmps : Array Value) (w : World) (g g' : Nat) (t t' : TypeId) (cs cs' : Array Value) (fr fr' : Nat × Nat) (d d' : TypeDesc)
    (hq : tmps.getD q undef = .pointer (some ⟨g', 0, none⟩)) (hg' : w.heap[g']? = some (.cells cs' t' fr'))
    (hd' : (match d' with | .struct _ | .array _ _ => true | _ => false) = true) (hu' : Tryz.prog.underlying tq = some d') (hi' : (Tryz.prog.info? tq).map (·.size) = some cs'.size)
    (hp : tmps.getD p undef = .pointer (some ⟨g, 0, none⟩)) (hg : w.heap[g]? = some (.cells cs t fr))
    (hd : (match d with | .struct _ | .array _ _ => true | _ => false) = true) (hu : Tryz.prog.underlying ty = some d) (hi : (Tryz.prog.info? ty).map (·.size) = some cs.size) :
    (results fn tmps).run Tryz.prog w = .ok (.tuple #[.agg cs', .agg cs]) w := by
  have hp' : tmps[p]?.getD undef = .pointer (some ⟨g, 0, none⟩) := by simpa using hp
  have hq' : tmps[q]?.getD undef = .pointer (some ⟨g', 0, none⟩) := by simpa using hq
  simp [results, h, hp', hq', asAddr, run_loadVar_row w g t ty cs fr d hg hu (by revert hd; cases d <;> exact id) hi, run_loadVar_row w g' t' tq cs' fr' d' hg' hu' (by revert hd'; cases d' <;> exact id) hi']
theorem fun53 : Tryz.f72.results = #[.tmp 2, .cell 3 53] := by kernel_rfl
theorem fun55 : Tryz.f74.results = #[.cell 2 51, .cell 3 55] := by kernel_rfl
theorem at_end2 (w : World) (o p : Obj) (n : Nat) (h : n = w.heap.size + 1) : ((w.alloc o).alloc p).drew.heap[n]? = some p := by subst h; exact heap_alloc2_new w o p
theorem at_end (w : World) (o : Obj) : (w.alloc o).drew.heap[w.heap.size]? = some o := heap_alloc_new w o
theorem at_end1 (w : World) (o p : Obj) (n : Nat) (h : n = w.heap.size) : ((w.alloc o).alloc p).drew.heap[n]? = some o := by subst h; exact heap_alloc2_old w o p
set_option maxHeartbeats 4000000 in
set_option maxRecDepth 100000 in
theorem row1_calls {w : World} (o : OpR) :
    Calls Tryz.prog 72 #[.agg (opC o)] w (fun e w' => e = .returned (.tuple #[.int .u32 o.ip, .agg (neiC o.ip o.nm)]) ∧ Touch [] w w') := by
  unfold opC neiC
  go_enter Tryz.func72, Tryz.ntmps72
  go_wp2
  go_region
  all_goals
    go_wp2
    refine bodyPost_ret (results_tc fun53 _ _ (w.heap.size + 1) 53 (neiC o.ip o.nm) (0, 0) _ rfl (at_end2 _ _ _ _ (by simp)) rfl Tryz.underlying53 (by kernel_rfl)) rfl ?_
    exact ⟨rfl, (((Touch.refl [] w).alloc _).alloc _).drew⟩
set_option maxHeartbeats 4000000 in
set_option maxRecDepth 100000 in
theorem row2_calls {w : World} (o : OpR) :
    Calls Tryz.prog 74 #[.agg (opC o)] w (fun e w' => e = .returned (.tuple #[macV o.fm, .agg (fdbC o.fm o.ua)]) ∧ Touch [] w w') := by
  unfold opC fdbC macV
  go_enter Tryz.func74, Tryz.ntmps74
  go_wp2
  go_region
  all_goals
    go_wp2
    refine bodyPost_ret (results_cc fun55 _ _ (w.heap.size + 2) (w.heap.size + 1) 55 51 (fdbC o.fm o.ua) #[.int .u8 o.fm.m0, .int .u8 o.fm.m1, .int .u8 o.fm.m2, .int .u8 o.fm.m3, .int .u8 o.fm.m4, .int .u8 o.fm.m5] (0, 0) (0, 0) _ _ rfl (at_end1 _ _ _ _ (by simp)) rfl Tryz.underlying51 (by kernel_rfl) rfl (at_end2 _ _ _ _ (by simp)) rfl Tryz.underlying55 (by kernel_rfl)) rfl ?_
    exact ⟨rfl, ((((Touch.refl [] w).alloc _).alloc _).alloc _).drew⟩
end Go.Proofs.YtnpeafhjcelpfaaGreat.Tri
