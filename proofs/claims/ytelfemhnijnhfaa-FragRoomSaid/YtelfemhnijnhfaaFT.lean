/- Cuts that came in, opened; no condition. -/
import Derived.Test.YtelfemhnijnhfaaFS
import Derived.Deep.Slices
import Derived.Lib.SmallJoins
import Derived.OpenShut
import Derived.SizedLaws
namespace Go.Proofs.Ytelfemhnijnhfaa.Fr
open Go.RowKit Go.Maps Go.ChangeShapes Go.WideShapes Go.Deep Go.Joins
set_option linter.unusedVariables false
set_option linter.unusedSimpArgs false
set_option maxRecDepth 100000

section
variable {H : Type} {enc : TypeId × Value → H} {W : World} {base : Nat} {spare : Nat → Bool} {held : Bool}
def Small (d : DataW H) (t : TypeId) : Prop := ∀ n ∈ d.weights Try.prog t, n ≤ reachBytes
theorem small_arg {ts : List TypeId} {ds : List (DataW H)} (h : (DataW.weightsEach Try.prog ts ds).all (· ≤ reachBytes) = true) {j : Nat} {t : TypeId} {d : DataW H} (ht : ts[j]? = some t) (hd : ds[j]? = some d) : Small d t := by
  intro n hn
  have := List.all_eq_true.1 h _ (DataW.weights_mem_each ht hd n hn)
  simpa using this
theorem small_all {e : TypeId} : ∀ {l : List (DataW H)}, (∀ n ∈ DataW.weightsAll Try.prog e l, n ≤ reachBytes) → ∀ d ∈ l, Small d e
  | [], _, _, hd => by cases hd
  | x :: r, h, d, hd => by
    simp only [DataW.weightsAll, List.mem_append] at h
    rcases List.mem_cons.1 hd with rfl | hd
    · exact fun n hn => h n (.inl hn)
    · exact small_all (fun n hn => h n (.inr hn)) d hd
theorem small_slice {t e : TypeId} {elems sp : List (DataW H)} (hu : Try.prog.underlying t = some (.slice e)) (h : Small (.slice elems sp) t) : (elems.length + sp.length) * Try.prog.bytesOf e ≤ reachBytes ∧ ∀ d ∈ elems, Small d e := by
  unfold Small at h
  rw [DataW.weights, hu] at h
  simp only [List.mem_cons, List.mem_append] at h
  exact ⟨h _ (.inl rfl), small_all (fun n hn => h n (.inr (.inl hn)))⟩
theorem small_struct {t : TypeId} {fs : Array Field} {parts : List (DataW H)} (hu : Try.prog.underlying t = some (.struct fs)) (h : Small (.agg parts) t) {j : Nat} {f : Field} {d : DataW H} (hf : fs[j]? = some f) (hd : parts[j]? = some d) : Small d f.type := by
  unfold Small at h
  rw [DataW.weights, hu] at h
  intro n hn
  exact h n (DataW.weights_mem_each (j := j) (by simp [hf]) hd n hn)
theorem trod10 {t : TypeId} {f0 f1 f2 f3 f4 f5 f6 f7 f8 f9 : Field} {fuel : Nat} {cs : List Value} {x : DataW H × List MemPlace} (ht : Try.prog.underlying t = some (.struct #[f0, f1, f2, f3, f4, f5, f6, f7, f8, f9])) (h : DataW.trod enc Try.prog W base spare held fuel t cs = some x) (hs : Small x.1 t) :
    ∃ y0 y1 y2 y3 y4 y5 y6 y7 y8 y9 n, cs.length = Try.prog.cellsOf t ∧ DataW.trod enc Try.prog W base spare held n f0.type ((cs.drop f0.offset).take (Try.prog.cellsOf f0.type)) = some y0 ∧ DataW.trod enc Try.prog W base spare held n f1.type ((cs.drop f1.offset).take (Try.prog.cellsOf f1.type)) = some y1 ∧ DataW.trod enc Try.prog W base spare held n f2.type ((cs.drop f2.offset).take (Try.prog.cellsOf f2.type)) = some y2 ∧ DataW.trod enc Try.prog W base spare held n f3.type ((cs.drop f3.offset).take (Try.prog.cellsOf f3.type)) = some y3 ∧ DataW.trod enc Try.prog W base spare held n f4.type ((cs.drop f4.offset).take (Try.prog.cellsOf f4.type)) = some y4 ∧ DataW.trod enc Try.prog W base spare held n f5.type ((cs.drop f5.offset).take (Try.prog.cellsOf f5.type)) = some y5 ∧ DataW.trod enc Try.prog W base spare held n f6.type ((cs.drop f6.offset).take (Try.prog.cellsOf f6.type)) = some y6 ∧ DataW.trod enc Try.prog W base spare held n f7.type ((cs.drop f7.offset).take (Try.prog.cellsOf f7.type)) = some y7 ∧ DataW.trod enc Try.prog W base spare held n f8.type ((cs.drop f8.offset).take (Try.prog.cellsOf f8.type)) = some y8 ∧ DataW.trod enc Try.prog W base spare held n f9.type ((cs.drop f9.offset).take (Try.prog.cellsOf f9.type)) = some y9 ∧ Small y9.1 f9.type := by
  obtain ⟨xs, n, _, rfl, hl, hlen, hf⟩ := DataW.trod_struct ht h
  match xs, hlen with
  | [y0, y1, y2, y3, y4, y5, y6, y7, y8, y9], _ => exact ⟨y0, y1, y2, y3, y4, y5, y6, y7, y8, y9, n, hl, by simpa using hf 0 f0 rfl, by simpa using hf 1 f1 rfl, by simpa using hf 2 f2 rfl, by simpa using hf 3 f3 rfl, by simpa using hf 4 f4 rfl, by simpa using hf 5 f5 rfl, by simpa using hf 6 f6 rfl, by simpa using hf 7 f7 rfl, by simpa using hf 8 f8 rfl, by simpa using hf 9 f9 rfl, small_struct ht hs (j := 9) (f := f9) rfl rfl⟩
theorem trod2 {t : TypeId} {f0 f1 : Field} {fuel : Nat} {cs : List Value} {x : DataW H × List MemPlace} (ht : Try.prog.underlying t = some (.struct #[f0, f1])) (h : DataW.trod enc Try.prog W base spare held fuel t cs = some x) (hs : Small x.1 t) :
    ∃ y0 y1 n, cs.length = Try.prog.cellsOf t ∧ DataW.trod enc Try.prog W base spare held n f0.type ((cs.drop f0.offset).take (Try.prog.cellsOf f0.type)) = some y0 ∧ DataW.trod enc Try.prog W base spare held n f1.type ((cs.drop f1.offset).take (Try.prog.cellsOf f1.type)) = some y1 ∧ Small y0.1 f0.type ∧ Small y1.1 f1.type := by
  obtain ⟨xs, n, _, rfl, hl, hlen, hf⟩ := DataW.trod_struct ht h
  match xs, hlen with
  | [y0, y1], _ => exact ⟨y0, y1, n, hl, by simpa using hf 0 f0 rfl, by simpa using hf 1 f1 rfl, small_struct ht hs (j := 0) (f := f0) rfl rfl, small_struct ht hs (j := 1) (f := f1) rfl rfl⟩
theorem spot_of {w : World} {a : Addr} {v : Value} (h : w.cell? a = some v) : a = ⟨a.block, a.off, none⟩ := by
  unfold World.cell? at h
  obtain ⟨b, o, s⟩ := a
  cases s with
  | none => rfl
  | some k =>
    exfalso
    revert h
    dsimp only
    split <;> simp
theorem wf_u8 {x : Int} (h : (Lit.int .u8 x).wf = true) : 0 ≤ x ∧ x < 256 := by
  simp [Lit.wf, IntKind.min, IntKind.max, IntKind.signed, IntKind.bits] at h; omega
theorem wf_u16 {x : Int} (h : (Lit.int .u16 x).wf = true) : 0 ≤ x ∧ x < 65536 := by
  simp [Lit.wf, IntKind.min, IntKind.max, IntKind.signed, IntKind.bits] at h; omega
theorem wf_u32 {x : Int} (h : (Lit.int .u32 x).wf = true) : 0 ≤ x ∧ x < 4294967296 := by
  simp [Lit.wf, IntKind.min, IntKind.max, IntKind.signed, IntKind.bits] at h; omega
theorem wf_i64 {x : Int} (h : (Lit.int .i64 x).wf = true) : -9223372036854775808 ≤ x ∧ x ≤ 9223372036854775807 := by
  simp [Lit.wf, IntKind.min, IntKind.max, IntKind.signed, IntKind.bits] at h; omega
theorem choose_list {α : Type} [Inhabited α] {n : Nat} {P : Nat → α → Prop} (h : ∀ i, i < n → ∃ x, P i x) : ∃ l : List α, l.length = n ∧ ∀ i x, l[i]? = some x → P i x := by
  classical
  refine ⟨(List.range n).map fun i => if hi : i < n then (h i hi).choose else default, by simp, fun i x hx => ?_⟩
  have hi : i < n := by have := (List.getElem?_eq_some_iff.1 hx).1; simpa using this
  simp [hi] at hx
  rw [← hx]
  exact (h i hi).choose_spec
set_option maxRecDepth 100000 in
theorem open_bytes {fuel : Nat} {V : Value} {x : DataW H × List MemPlace} (h : DataW.trod enc Try.prog W base spare held fuel 26 [V] = some x) (hs : Small x.1 26) :
    ∃ l, RdB W V l ∧ l.length ≤ 140737488355328 := by
  rcases open_slice Try.underlying26 h with ⟨hcs, rfl⟩ | ⟨a, len, c, m, n, D, Pl, hcs, hb, hl, hm, hmm, hx, hel⟩
  · simp at hcs
    subst hcs
    exact ⟨[], RdB.nil W, by simp⟩
  · simp at hcs
    subst hcs
    have hlm : len ≤ m := by rw [hmm]; split <;> omega
    have hc : Try.prog.cellsOf 5 = 1 := by kernel_rfl
    have key : ∀ i, i < len → ∃ q : Int, W.cell? (a.add i) = some (.int .u8 q) ∧ 0 ≤ q ∧ q < 256 := by
      intro i hi
      obtain ⟨cs', h1, h2⟩ := hel i (by omega)
      rw [hc] at h1
      obtain ⟨_, hlen, hcell⟩ := World.cells?_some h1
      match cs', hlen with
      | [c0], _ =>
        obtain ⟨n0, e0, _, w0⟩ := DataW.trod_int Try.underlying5 h2
        simp at e0
        subst e0
        have := hcell 0 (by omega)
        refine ⟨n0, ?_, wf_u8 w0⟩
        have e : (a.add (i * 1)).add 0 = a.add i := by simp [Addr.add]
        rw [e] at this
        exact this.trans rfl
    obtain ⟨l, hll, hlk⟩ := choose_list key
    have hsz : len ≤ 140737488355328 := by
      rw [hx] at hs
      have h1 := (small_slice Try.underlying26 hs).1
      have h2 : Try.prog.bytesOf 5 = 1 := by kernel_rfl
      have h3 := reachBytes_lt
      rw [h2] at h1
      simp only [List.length_map, List.length_range] at h1
      omega
    refine ⟨l, ⟨⟨some a, c, by rw [hll], by omega, fun e => by (cases e), fun h0 => ?_⟩, fun x hx' => ?_⟩, by omega⟩
    · obtain ⟨q0, _⟩ := hlk 0 _ (List.getElem?_eq_getElem (by omega))
      have hsp : a = ⟨a.block, a.off, none⟩ := spot_of (w := W) (by simpa [Addr.add] using q0)
      refine ⟨a.block, a.off, by rw [← hsp], ?_, fun i y hy => ?_⟩
      · have := World.block_lt_of_cell? W _ q0
        simpa [Addr.add] using this
      · have := (hlk i y hy).1
        rw [hsp, plain_add] at this
        exact this
    · obtain ⟨i, hi⟩ := List.getElem?_of_mem hx'
      exact (hlk i x hi).2
instance : Inhabited CutE := ⟨⟨⟨⟨0, 0, false, false, 0, 0, 0, 0, 0⟩, [], []⟩, .slice none 0 0, .slice none 0 0, 0⟩⟩
set_option maxRecDepth 100000 in
theorem open_head {fuel : Nat} {cs : List Value} {x : DataW H × List MemPlace} (h : DataW.trod enc Try.prog W base spare held fuel 28 cs = some x) (hs : Small x.1 28) :
    ∃ (hd : Hd) (VO : Value) (o : List Int), cs = (hdC hd VO).toList ∧ hd.wf ∧ RdB W VO o ∧ o.length ≤ 140737488355328 := by
  obtain ⟨y0, y1, y2, y3, y4, y5, y6, y7, y8, y9, n, hl, t0, t1, t2, t3, t4, t5, t6, t7, t8, t9, s9⟩ := trod10 Try.underlying28 h hs
  have c5 : Try.prog.cellsOf 5 = 1 := by kernel_rfl
  have c23 : Try.prog.cellsOf 23 = 1 := by kernel_rfl
  have c4 : Try.prog.cellsOf 4 = 1 := by kernel_rfl
  have c3 : Try.prog.cellsOf 3 = 1 := by kernel_rfl
  have c25 : Try.prog.cellsOf 25 = 1 := by kernel_rfl
  have c26 : Try.prog.cellsOf 26 = 1 := by kernel_rfl
  have c28 : Try.prog.cellsOf 28 = 10 := by kernel_rfl
  rw [c28] at hl
  match cs, hl with
  | [v0, v1, v2, v3, v4, v5, v6, v7, v8, v9], _ =>
    dsimp only at t0 t1 t2 t3 t4 t5 t6 t7 t8 t9 s9
    rw [c5] at t0 t5 t6
    rw [c23] at t1
    rw [c4] at t2 t3
    rw [c3] at t4
    rw [c25] at t7 t8
    rw [c26] at t9
    obtain ⟨n0, e0, _, w0⟩ := DataW.trod_int Try.underlying5 t0
    obtain ⟨n1, e1, _, w1⟩ := DataW.trod_int Try.underlying23 t1
    obtain ⟨n2, e2, _⟩ := DataW.trod_bool Try.underlying4 t2
    obtain ⟨n3, e3, _⟩ := DataW.trod_bool Try.underlying4 t3
    obtain ⟨n4, e4, _, w4⟩ := DataW.trod_int Try.underlying3 t4
    obtain ⟨n5, e5, _, w5⟩ := DataW.trod_int Try.underlying5 t5
    obtain ⟨n6, e6, _, w6⟩ := DataW.trod_int Try.underlying5 t6
    obtain ⟨n7, e7, _, w7⟩ := DataW.trod_int Try.underlying25 t7
    obtain ⟨n8, e8, _, w8⟩ := DataW.trod_int Try.underlying25 t8
    simp at e0 e1 e2 e3 e4 e5 e6 e7 e8
    subst e0 e1 e2 e3 e4 e5 e6 e7 e8
    obtain ⟨o, ho, hol⟩ := open_bytes (V := v9) (by simpa using t9) s9
    exact ⟨⟨n0, n1, n2, n3, n4, n5, n6, n7, n8⟩, v9, o, rfl, ⟨wf_u8 w0, wf_u16 w1, wf_i64 w4, wf_u8 w5, wf_u8 w6, wf_u32 w7, wf_u32 w8⟩, ho, hol⟩
set_option maxRecDepth 100000 in
theorem open_packet {fuel : Nat} {cs : List Value} {x : DataW H × List MemPlace} (h : DataW.trod enc Try.prog W base spare held fuel 30 cs = some x) (hs : Small x.1 30) :
    ∃ (p : Pk) (VO VB : Value), cs = (pkC p.h VO VB).toList ∧ p.h.wf ∧ RdB W VO p.opts ∧ RdB W VB p.body ∧ p.opts.length ≤ 140737488355328 ∧ p.body.length ≤ 140737488355328 := by
  obtain ⟨y0, y1, n, hl, t0, t1, s0, s1⟩ := trod2 Try.underlying30 h hs
  have c26 : Try.prog.cellsOf 26 = 1 := by kernel_rfl
  have c28 : Try.prog.cellsOf 28 = 10 := by kernel_rfl
  have c30 : Try.prog.cellsOf 30 = 11 := by kernel_rfl
  rw [c30] at hl
  match cs, hl with
  | [v0, v1, v2, v3, v4, v5, v6, v7, v8, v9, v10], _ =>
    dsimp only at t0 t1 s0 s1
    rw [c28] at t0
    rw [c26] at t1
    obtain ⟨hd, VO, o, e, hwf, ho, hol⟩ := open_head (by simpa using t0) s0
    obtain ⟨bd, hb, hbl⟩ := open_bytes (V := v10) (by simpa using t1) s1
    simp at e
    obtain ⟨rfl, rfl, rfl, rfl, rfl, rfl, rfl, rfl, rfl, rfl⟩ := e
    exact ⟨⟨hd, o, bd⟩, _, v10, rfl, hwf, ho, hb, hol, hbl⟩
set_option maxRecDepth 100000 in
theorem open_cut {fuel : Nat} {cs : List Value} {x : DataW H × List MemPlace} (h : DataW.trod enc Try.prog W base spare held fuel 32 cs = some x) (hs : Small x.1 32) :
    ∃ c : CutE, cs = (cutC c).toList ∧ c.ok W := by
  obtain ⟨y0, y1, n, hl, t0, t1, s0, s1⟩ := trod2 Try.underlying32 h hs
  have c3 : Try.prog.cellsOf 3 = 1 := by kernel_rfl
  have c30 : Try.prog.cellsOf 30 = 11 := by kernel_rfl
  have c32 : Try.prog.cellsOf 32 = 12 := by kernel_rfl
  rw [c32] at hl
  match cs, hl with
  | [v0, v1, v2, v3, v4, v5, v6, v7, v8, v9, v10, v11], _ =>
    dsimp only at t0 t1 s0
    rw [c30] at t0
    rw [c3] at t1
    obtain ⟨p, VO, VB, e, hwf, ho, hb, hol, hbl⟩ := open_packet (by simpa using t0) s0
    obtain ⟨n1, e1, _, w1⟩ := DataW.trod_int Try.underlying3 t1
    simp at e e1
    obtain ⟨rfl, rfl, rfl, rfl, rfl, rfl, rfl, rfl, rfl, rfl, rfl⟩ := e
    subst e1
    exact ⟨⟨p, _, _, n1⟩, rfl, ⟨hwf, wf_i64 w1, ho, hb, hol, hbl⟩⟩
set_option maxRecDepth 100000 in
theorem open_cuts {fuel : Nat} {A : Option Addr} {len cap : Nat} {x : DataW H × List MemPlace} (h : DataW.trod enc Try.prog W base spare held fuel 22 [.slice A len cap] = some x) (hs : Small x.1 22) :
    ∃ l, RdC W A len l ∧ len ≤ 140737488355328 := by
  rcases open_slice Try.underlying22 h with ⟨hcs, rfl⟩ | ⟨a, l, c, m, n, D, Pl, hcs, hb, hl, hm, hmm, hx, hel⟩
  · simp at hcs
    obtain ⟨rfl, rfl, rfl⟩ := hcs
    exact ⟨[], ⟨rfl, by simp, fun h0 => by omega⟩, by omega⟩
  · simp at hcs
    obtain ⟨rfl, rfl, rfl⟩ := hcs
    have hlm : len ≤ m := by rw [hmm]; split <;> omega
    have hc : Try.prog.cellsOf 32 = 12 := by kernel_rfl
    rw [hx] at hs
    have hss := small_slice Try.underlying22 hs
    have hsz : len ≤ 140737488355328 := by
      have h1 := hss.1
      have h2 : 1 ≤ Try.prog.bytesOf 32 := of_decide_eq_true (by kernel_rfl)
      have h3 := reachBytes_lt
      simp only [List.length_map, List.length_range] at h1
      have : (len + (m - len)) * 1 ≤ (len + (m - len)) * Try.prog.bytesOf 32 := Nat.mul_le_mul_left _ h2
      omega
    have key : ∀ i, i < len → ∃ q : CutE, (∀ (j : Nat) (v : Value), (cutC q).toList[j]? = some v → W.cell? ((a.add (i * 12)).add j) = some v) ∧ q.ok W := by
      intro i hi
      obtain ⟨cs', h1, h2⟩ := hel i (by omega)
      rw [hc] at h1
      obtain ⟨_, hlen, hcell⟩ := World.cells?_some h1
      obtain ⟨q, rfl, hq⟩ := open_cut h2 (hss.2 _ (List.mem_map.2 ⟨i, List.mem_range.2 hi, rfl⟩))
      refine ⟨q, fun j v hv => ?_, hq⟩
      have hj : j < 12 := by have := (List.getElem?_eq_some_iff.1 hv).1; simpa [cutC] using this
      exact (hcell j hj).trans hv
    obtain ⟨L, hLl, hLk⟩ := choose_list key
    refine ⟨L, ⟨hLl, fun x hx' => ?_, fun h0 => ?_⟩, hsz⟩
    · obtain ⟨i, hi⟩ := List.getElem?_of_mem hx'
      exact (hLk i x hi).2
    · have q0 := (hLk 0 _ (List.getElem?_eq_getElem (by omega))).1 0 _ rfl
      have hsp : a = ⟨a.block, a.off, none⟩ := spot_of (w := W) (by simpa [Addr.add] using q0)
      refine ⟨a.block, a.off, by rw [← hsp], fun i x hi j v hv => ?_⟩
      have := (hLk i x hi).1 j v hv
      rw [hsp, plain_add, plain_add] at this
      exact this
end
end Go.Proofs.Ytelfemhnijnhfaa.Fr
