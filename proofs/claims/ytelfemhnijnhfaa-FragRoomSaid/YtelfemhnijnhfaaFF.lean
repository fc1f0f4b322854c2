/- copy of bytes into a row of the call's own; no condition. -/
import Derived.Test.YtelfemhnijnhfaaFE
namespace Go.Proofs.Ytelfemhnijnhfaa.Fr
open Go.RowKit Go.Maps
set_option linter.unusedVariables false
set_option maxRecDepth 100000
attribute [local go_sem] nilB

theorem OwB.full {w : World} {g : Nat} {l : List Int} (h : OwB w (.slice (some ⟨g, 0, none⟩) l.length l.length) l) : w.heap[g]? = some (.cells (encB l).toArray 5 (0, 0)) := by
  rcases h.row.own.2 with ⟨h2, _⟩ | ⟨g', cap, cur, hv, _, hg, _, _, hcs, htake⟩
  · cases h2
  · simp only [Value.slice.injEq, Option.some.injEq, Addr.mk.injEq, and_true, true_and] at hv
    obtain ⟨rfl, rfl⟩ := hv
    rw [hg]
    have : cur = (encB l).toArray := by
      apply Array.ext'
      rw [← htake, List.take_of_length_le (by simp only [Array.length_toList]; omega)]
    rw [this]
theorem OwB.of_full {w : World} {g : Nat} {l : List Int} (h : w.heap[g]? = some (.cells (encB l).toArray 5 (0, 0))) (hl : okB l) (hn : l.length ≤ 140737488355328) : OwB w (.slice (some ⟨g, 0, none⟩) l.length l.length) l := by
  refine ⟨⟨⟨by rw [encB_length]; omega, .inr ⟨g, l.length, _, rfl, Nat.zero_le _, h, Nat.le_refl _, by unfold maxLen; omega, by simp [encB_length], ?_⟩⟩⟩, hl⟩
  rw [List.take_of_length_le (by simp [encB_length])]
theorem splice_encB (l m : List Int) (off : Nat) : encB (splice l off m) = splice (encB l) off (encB m) := by
  unfold splice encB
  simp [List.map_append, List.map_take, List.map_drop]
theorem splice_ok {l m : List Int} {off : Nat} (h : okB l) (k : okB m) : okB (splice l off m) := by
  intro x hx
  unfold splice at hx
  rcases List.mem_append.1 hx with hx | hx
  · exact h x (List.mem_of_mem_take hx)
  · rcases List.mem_append.1 hx with hx | hx
    · exact k x hx
    · exact h x (List.mem_of_mem_drop hx)
theorem run_copy_b {w : World} {g off dLen dCap : Nat} {dp : Option Addr} {l m : List Int} {VX : Value} (ty : TypeId) (h : OwB w (.slice (some ⟨g, 0, none⟩) l.length l.length) l) (hx : RdB w VX m)
    (hd : 0 < m.length → dp = some ⟨g, off, none⟩) (hfit : off + m.length ≤ l.length) (hdl : m.length ≤ dLen) (hl : l.length ≤ 140737488355328) :
    ∃ w', (Builtin.copy_ #[26, 26] ty #[.slice dp dLen dCap, VX]).run Try.prog w = .ok (goInt m.length) w' ∧ OwB w' (.slice (some ⟨g, 0, none⟩) l.length l.length) (splice l off m) ∧ Touch [g] w w' := by
  have hsl : (splice l off m).length = l.length := length_splice l off m hfit
  obtain ⟨⟨A, cap, rfl, _, hnil, hc⟩, wf⟩ := hx
  have hinfo : (Try.prog.info? 5).map (·.size) = some 1 := by
    obtain ⟨i0, hi, hz⟩ := Option.map_eq_some_iff.1 infoB
    simp only [Prod.mk.injEq] at hz
    rw [hi]; simp [hz.2.1]
  by_cases h0 : 0 < m.length
  · obtain ⟨b, off2, rfl, hb, hx⟩ := hc h0
    obtain rfl := hd h0
    have hrun := run_copy_row (P := Try.prog) w 26 26 ty 5 g off dLen dCap ⟨b, off2, none⟩ m.length cap (encB l).toArray 5 (encB m) Try.underlying26 hinfo h.full
      (by rw [encB_length]; exact (Nat.min_eq_left hdl).symm) (RdB.news (n := 0) (cap := 0) hx) (by simp only [encB_length, List.size_toArray]; omega) (encB_one m)
    refine ⟨_, by rw [hrun, encB_length], ?_, ?_⟩
    · have key : ∀ X : Array Value, X = (encB (splice l off m)).toArray → OwB (w.setRow g X) (.slice (some ⟨g, 0, none⟩) l.length l.length) (splice l off m) := by
        rintro _ rfl
        have := OwB.of_full (setRow_heap w g (encB l).toArray (encB (splice l off m)).toArray 5 (0, 0) h.full) (splice_ok h.wf wf) (by rw [hsl]; exact hl)
        rw [hsl] at this
        exact this
      exact key _ (by rw [splice_encB]; simp [splice, encB_length])
    · exact ⟨rfl, rfl, rfl, by simp [World.setRow], fun k hk hn => setRow_other w g k _ (by simpa using hn)⟩
  · have hm : m = [] := List.eq_nil_of_length_eq_zero (by omega)
    subst hm
    have hrun := run_copy_none (P := Try.prog) w 26 26 ty 5 dp A dLen dCap 0 cap Try.underlying26 hinfo (by simp)
    refine ⟨w, hrun, ?_, Touch.refl _ _⟩
    simpa [splice] using h
theorem wp_copy_b {w : World} {o : Oper} {a : Act} {K : Act → World → Prop} {Q : Exit → Act → World → Prop} (d s : Operand)
    (ho : o.op = .call { callee := .builtin .copy, args := #[d, s], argTypes := #[26, 26] })
    {g dLen dCap : Nat} {dp : Option Addr} (off : Nat) (l m : List Int) (VX : Value) (hd0 : a.eval d = .slice dp dLen dCap) (hs0 : a.eval s = VX)
    (h : OwB w (.slice (some ⟨g, 0, none⟩) l.length l.length) l) (hx : RdB w VX m)
    (hd : 0 < m.length → dp = some ⟨g, off, none⟩) (hfit : off + m.length ≤ l.length) (hdl : m.length ≤ dLen) (hl : l.length ≤ 140737488355328)
    (hK : ∀ w', OwB w' (.slice (some ⟨g, 0, none⟩) l.length l.length) (splice l off m) → Touch [g] w w' → K (a.put o.dst (goInt m.length)) w') : o.wp Try.prog a w K Q := by
  obtain ⟨w', hrun, h1, h2⟩ := run_copy_b (w := w) o.type h hx hd hfit hdl hl (dCap := dCap)
  unfold Oper.wp execOp
  simp only [ho, resolve, invoke, builtin, Sem.run_bind, Sem.run_pure, Result.andThen_ok, List.map_toArray, List.map_cons, List.map_nil, hd0, hs0, hrun]
  exact hK w' h1 h2
theorem step_copy_b {w : World} {ops : Array Oper} {o : Oper} {a : Act} {K : Act → World → Prop} {Q : Exit → Act → World → Prop} {E : Prop} (hgd : o.guard = none) (d s : Operand)
    (ho : o.op = .call { callee := .builtin .copy, args := #[d, s], argTypes := #[26, 26] })
    {g dLen dCap : Nat} {dp : Option Addr} (off : Nat) (l m : List Int) (VX : Value) (hd0 : a.eval d = .slice dp dLen dCap) (hs0 : a.eval s = VX)
    (h : OwB w (.slice (some ⟨g, 0, none⟩) l.length l.length) l) (hx : RdB w VX m)
    (hd : 0 < m.length → dp = some ⟨g, off, none⟩) (hfit : off + m.length ≤ l.length) (hdl : m.length ≤ dLen) (hl : l.length ≤ 140737488355328)
    (hK : ∀ w', OwB w' (.slice (some ⟨g, 0, none⟩) l.length l.length) (splice l off m) → Touch [g] w w' → K (a.put o.dst (goInt m.length)) w') :
    if Region.wanted o (yielded ops a.tmps) = true then Oper.wp Try.prog o a w K Q else E := by
  have hw : Region.wanted o (yielded ops a.tmps) = true := by simp [Region.wanted, hgd]
  rw [if_pos hw]
  exact wp_copy_b d s ho off l m VX hd0 hs0 h hx hd hfit hdl hl hK
theorem wpList_copy_b {w : World} {ops : Array Oper} {rest : List Oper} {o : Oper} {a : Act} {Q : Exit → Act → World → Prop} (hgd : o.guard = none) (d s : Operand)
    (ho : o.op = .call { callee := .builtin .copy, args := #[d, s], argTypes := #[26, 26] })
    {g dLen dCap : Nat} {dp : Option Addr} (off : Nat) (l m : List Int) (VX : Value) (hd0 : a.eval d = .slice dp dLen dCap) (hs0 : a.eval s = VX)
    (h : OwB w (.slice (some ⟨g, 0, none⟩) l.length l.length) l) (hx : RdB w VX m)
    (hd : 0 < m.length → dp = some ⟨g, off, none⟩) (hfit : off + m.length ≤ l.length) (hdl : m.length ≤ dLen) (hl : l.length ≤ 140737488355328)
    (hK : ∀ w', OwB w' (.slice (some ⟨g, 0, none⟩) l.length l.length) (splice l off m) → Touch [g] w w' → wpList Try.prog ops Q rest (a.put o.dst (goInt m.length)) w') : wpList Try.prog ops Q (o :: rest) a w :=
  wpList_plain hgd fun _ hK' => wp_copy_b d s ho off l m VX hd0 hs0 h hx hd hfit hdl hl fun w' h1 h2 => hK' _ _ (hK w' h1 h2)
/-- make([]byte, n). -/
theorem made_zeros (n : Nat) : (madeCells (Value.int .u8 0).cells (n * 1)).toList = encB (List.replicate n 0) := by
  have : ∀ k, (madeCells (Value.int .u8 0).cells k).toList = List.replicate k (Value.int .u8 0) := by
    intro k
    simp [madeCells, Value.cells, List.eq_replicate_iff, Nat.mod_one]
  rw [this, Nat.mul_one]
  simp [encB]
theorem wpList_make_b (w : World) {ops : Array Oper} {rest : List Oper} {o : Oper} {a : Act} {Q : Exit → Act → World → Prop}
    (hg : o.guard = none) (l c : Operand) (hop : o.op = Op.makeSlice 26 l c) (n : Nat) (hl : a.eval l = .int .i64 n) (hc : a.eval c = .int .i64 n) (hn : n ≤ 140737488355328)
    (hK : ∀ w', OwB w' (.slice (some ⟨w.heap.size, 0, none⟩) n n) (List.replicate n 0) → Touch [] w w' → wpList Try.prog ops Q rest (a.put o.dst (.slice (some ⟨w.heap.size, 0, none⟩) n n)) w') :
    wpList Try.prog ops Q (o :: rest) a w := by
  obtain ⟨i, hi, h1, h2, h3⟩ := info_parts infoB
  refine wpList_make_full (P := Try.prog) w hg l c 26 hop 0 5 i (.int .u8 0) 1 Try.underlying26 hi h1 h2 .i64 .i64 n n n hl hc rfl rfl (by rw [h3]; omega) (by unfold maxLen; omega) (Nat.zero_le _) ?_
  intro w' hr hgr
  refine hK w' ⟨⟨?_⟩, fun x hx => by have := (List.mem_replicate.1 hx).2; omega⟩ ((Touch.refl [] w).grown hgr (by simp))
  rw [made_zeros] at hr
  rw [List.length_replicate]
  exact hr
theorem OwB.len {w : World} {A : Option Addr} {n c : Nat} {l : List Int} (h : OwB w (.slice A n c) l) : n = l.length := by
  obtain ⟨A', c', e⟩ := h.row.form
  simp only [Value.slice.injEq] at e
  exact e.2.1
theorem step_copy_n {w : World} {ops : Array Oper} {o : Oper} {a : Act} {K : Act → World → Prop} {Q : Exit → Act → World → Prop} {E : Prop} (hgd : o.guard = none) (d s : Operand)
    (ho : o.op = .call { callee := .builtin .copy, args := #[d, s], argTypes := #[26, 26] })
    {g n dLen dCap : Nat} {dp : Option Addr} (off : Nat) (l m : List Int) (VX : Value) (hd0 : a.eval d = .slice dp dLen dCap) (hs0 : a.eval s = VX)
    (h : OwB w (.slice (some ⟨g, 0, none⟩) n n) l) (hx : RdB w VX m)
    (hd : 0 < m.length → dp = some ⟨g, off, none⟩) (hfit : off + m.length ≤ n) (hdl : m.length ≤ dLen) (hl : n ≤ 140737488355328)
    (hK : ∀ w', OwB w' (.slice (some ⟨g, 0, none⟩) n n) (splice l off m) → Touch [g] w w' → K (a.put o.dst (goInt m.length)) w') :
    if Region.wanted o (yielded ops a.tmps) = true then Oper.wp Try.prog o a w K Q else E := by
  have e := h.len
  subst e
  exact step_copy_b hgd d s ho off l m VX hd0 hs0 h hx hd hfit hdl hl hK
theorem wpList_copy_n {w : World} {ops : Array Oper} {rest : List Oper} {o : Oper} {a : Act} {Q : Exit → Act → World → Prop} (hgd : o.guard = none) (d s : Operand)
    (ho : o.op = .call { callee := .builtin .copy, args := #[d, s], argTypes := #[26, 26] })
    {g n dLen dCap : Nat} {dp : Option Addr} (off : Nat) (l m : List Int) (VX : Value) (hd0 : a.eval d = .slice dp dLen dCap) (hs0 : a.eval s = VX)
    (h : OwB w (.slice (some ⟨g, 0, none⟩) n n) l) (hx : RdB w VX m)
    (hd : 0 < m.length → dp = some ⟨g, off, none⟩) (hfit : off + m.length ≤ n) (hdl : m.length ≤ dLen) (hl : n ≤ 140737488355328)
    (hK : ∀ w', OwB w' (.slice (some ⟨g, 0, none⟩) n n) (splice l off m) → Touch [g] w w' → wpList Try.prog ops Q rest (a.put o.dst (goInt m.length)) w') : wpList Try.prog ops Q (o :: rest) a w := by
  have e := h.len
  subst e
  exact wpList_copy_b hgd d s ho off l m VX hd0 hs0 h hx hd hfit hdl hl hK
theorem OwB.sub {w : World} {g n cap : Nat} {l : List Int} (h : OwB w (.slice (some ⟨g, 0, none⟩) n cap) l) {lo hi : Nat} (hl : lo ≤ hi) (hh : hi ≤ n) : RdB w (.slice (some ⟨g, lo, none⟩) (hi - lo) (cap - lo)) ((l.drop lo).take (hi - lo)) := by
  have hn := h.len
  obtain ⟨⟨A, cp, hV, hcap, _, hr⟩, wf⟩ := h.rdb
  simp only [Value.slice.injEq] at hV
  obtain ⟨hA, _, rfl⟩ := hV
  have hlen : ((l.drop lo).take (hi - lo)).length = hi - lo := by rw [List.length_take, List.length_drop]; omega
  refine ⟨⟨_, _, by rw [hlen], by omega, fun e => by (cases e), fun h0 => ?_⟩, fun x hx => wf x (List.mem_of_mem_drop (List.mem_of_mem_take hx))⟩
  obtain ⟨b, off, hA', hb, hc⟩ := hr (by omega)
  rw [← hA] at hA'
  simp only [Option.some.injEq, Addr.mk.injEq, and_true] at hA'
  obtain ⟨rfl, rfl⟩ := hA'
  refine ⟨g, lo, rfl, hb, fun i x hx => ?_⟩
  have hi2 := (List.getElem?_eq_some_iff.1 hx).1
  rw [List.getElem?_take, if_pos (by omega), List.getElem?_drop] at hx
  have := hc _ _ hx
  simpa using this
theorem RdS.two {w W : World} {k g n cap h : Nat} {l : List Int} (t : Touch [] w W) (hb : W.heap[k]? = some (.cells #[.slice (some ⟨g, 0, none⟩) 10 cap, .slice (some ⟨g, 12, none⟩) (h - 12) (cap - 12)] 26 (0, 0)))
    (o : OwB w (.slice (some ⟨g, 0, none⟩) n cap) l) (h1 : 12 ≤ h) (h2 : h ≤ n) : RdS W (some ⟨k, 0, none⟩) 2 [(.slice (some ⟨g, 0, none⟩) 10 cap, l.take 10), (.slice (some ⟨g, 12, none⟩) (h - 12) (cap - 12), (l.drop 12).take (h - 12))] := by
  obtain ⟨c0, c1, _⟩ := two_cells hb
  refine ⟨rfl, fun _ => ⟨k, 0, rfl, fun i p hp => ?_⟩, fun p hp => ?_⟩
  · match i, hp with
    | 0, hp => simp at hp; subst hp; simpa using c0
    | 1, hp => simp at hp; subst hp; simpa using c1
  · simp only [List.mem_cons, List.not_mem_nil, or_false] at hp
    rcases hp with rfl | rfl
    · have := (o.near t).sub (lo := 0) (hi := 10) (by omega) (by omega)
      simpa using this
    · exact (o.near t).sub h1 h2
end Go.Proofs.Ytelfemhnijnhfaa.Fr
