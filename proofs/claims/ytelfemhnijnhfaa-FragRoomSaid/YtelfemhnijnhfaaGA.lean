/- Maps of any key and element as functions of values; keys of datagrams; no condition. -/
import Derived.Test.YtelfemhnijnhfaaTmJ
import Derived.Test.YtelfemhnijnhfaaFT
import Derived.DeepKeys4
import Derived.Maps.OwnSet
namespace Go.Proofs.Ytelfemhnijnhfaa.Fr
open Go.RowKit Go.Maps
set_option linter.unusedVariables false
set_option linter.unusedSimpArgs false
set_option maxRecDepth 100000

def heldR (v : Value) : Option (DataW Value × List MemPlace) := some (.held v, [])
/-- Block b is a map with keys of type k that holds just f, n keys. -/
def GMap (k : TypeId) (w : World) (b : Nat) (f : Value → Option Value) (n : Nat) : Prop :=
  ∃ D : DataW Value, w.ownsMap Try.prog k heldR b n D ∧ Maps.size D = n ∧
    ∀ x l, keyOf Try.prog k x = some l → (f x = none ∧ Maps.has D l = false) ∨ ∃ v, f x = some v ∧ Maps.has D l = true ∧ (∀ z, D.atKey l z = .held v)
open Classical in
noncomputable def updV (f : Value → Option Value) (x : Value) (v : Option Value) : Value → Option Value := fun y => if y = x then v else f y
theorem updV_same (f : Value → Option Value) (x : Value) (v : Option Value) : updV f x v x = v := by simp [updV]
theorem updV_other {f : Value → Option Value} {x y : Value} (v : Option Value) (h : y ≠ x) : updV f x v y = f y := by simp [updV, h]

section
variable {k : TypeId} {w w' : World} {b : Nat} {f : Value → Option Value} {n : Nat}
theorem GMap.lt (h : GMap k w b f n) : b < w.heap.size := by obtain ⟨D, h, _⟩ := h; exact h.lt
theorem GMap.kept (h : GMap k w b f n) {S : List Nat} (t : Touch S w w') (hn : b ∉ S) : GMap k w' b f n := by
  obtain ⟨D, h1, h2⟩ := h
  refine ⟨D, ?_, h2⟩
  obtain ⟨es, clock, hb, F, hs, hD⟩ := h1
  exact ⟨es, clock, (t.block b (Array.getElem?_eq_some_iff.1 hb).1 hn).trans hb, F, hs, hD⟩
theorem GMap.isMap (h : GMap k w b f n) : ∃ es clock, w.heap[b]? = some (.map es clock) := by
  obtain ⟨D, ⟨es, clock, hb, _⟩, _⟩ := h
  exact ⟨es, clock, hb⟩
theorem GMap.made (k : TypeId) (w : World) : GMap k (w.alloc (.map #[] 0)) w.heap.size (fun _ => none) 0 :=
  ⟨.map [], World.ownsMap_made _ _ _ _, rfl, fun x l _ => .inl ⟨rfl, rfl⟩⟩
theorem GMap.look (h : GMap k w b f n) (K : Keyed Try.prog k) {t e : TypeId} (ht : Try.prog.underlying t = some (.map k e)) {z : Value} (hz : (zeroValue e).run Try.prog w = .ok z w) {x : Value} {l : Lit} (hk : keyOf Try.prog k x = some l) :
    (Instr.lookup t (.map (some b)) x true).run Try.prog w = .ok (.tuple #[(f x).getD z, .bool (f x).isSome]) w ∧ (Instr.lookup t (.map (some b)) x false).run Try.prog w = .ok ((f x).getD z) w := by
  obtain ⟨D, h1, hs, hf⟩ := h
  obtain ⟨v, ps, hrun, hv⟩ := h1.look_ok K ht hz (zd := .held z) (zp := []) rfl hk
  obtain ⟨v', ps', hrun', hv'⟩ := h1.lookup K ht hz (zd := .held z) (zp := []) rfl hk
  simp only [heldR, Option.some.injEq, Prod.mk.injEq] at hv hv'
  rcases hf x l hk with ⟨e1, e2⟩ | ⟨u, e1, e2, e3⟩
  · rw [atKey_of_not_has e2] at hv hv'
    have a1 := hv.1
    have a2 := hv'.1
    injection a1 with a1
    injection a2 with a2
    rw [hrun, hrun', e1, e2, a1, a2]
    exact ⟨rfl, rfl⟩
  · rw [e3] at hv hv'
    have a1 := hv.1
    have a2 := hv'.1
    injection a1 with a1
    injection a2 with a2
    rw [hrun, hrun', e1, e2, a1, a2]
    exact ⟨rfl, rfl⟩
theorem gturned (h : w.mapTurned w' b) : Touch [b] w w' := by
  have g := h.grown
  exact ⟨g.os, g.tape, g.output, g.size, fun k hk hn => g.block k hk (fun e => hn (by simpa using e))⟩
theorem gtight {N : Nat} {D : DataW Value} (h : w.ownsMap Try.prog k heldR b N D) : w.ownsMap Try.prog k heldR b (Maps.size D) D := by
  obtain ⟨es, clock, hb, F, _, rfl⟩ := h
  exact ⟨es, clock, hb, F, by simp [Maps.size, length_sorted], rfl⟩
theorem GMap.len (h : GMap k w b f n) {t e : TypeId} (ht : Try.prog.underlying t = some (.map k e)) (ty : TypeId) : (Builtin.len_ #[t] ty #[.map (some b)]).run Try.prog w = .ok (.int .i64 n) w := by
  obtain ⟨D, h1, hs, hf⟩ := h
  rw [h1.len ht ty, hs]
theorem GMap.store (h : GMap k w b f n) (K : Keyed Try.prog k) {t e : TypeId} (ht : Try.prog.underlying t = some (.map k e)) {x : Value} {l : Lit} (hk : keyOf Try.prog k x = some l) (v : Value) (hn : n < 9223372036854775807) :
    ∃ w', (Instr.mapUpdate t (.map (some b)) x v).run Try.prog w = .ok () w' ∧ GMap k w' b (updV f x (some v)) (if (f x).isSome then n else n + 1) ∧ Touch [b] w w' := by
  obtain ⟨D, h1, hs, hf⟩ := h
  have ht' := h1.tidy K
  have hl : WideAt.IsKeyLit l := K.key hk
  obtain ⟨w', hrun, h2, h3⟩ := h1.store K ht (by unfold maxLen; omega) hk (show heldR v = some (.held v, []) from rfl)
  refine ⟨w', hrun, ⟨D.put l (.held v), ?_, ?_, ?_⟩, gturned h3⟩
  · have h4 := gtight h2
    have e : Maps.size (D.put l (.held v)) = if (f x).isSome then n else n + 1 := by
      rw [size_put ht', hs]
      rcases hf x l hk with ⟨e1, e2⟩ | ⟨u, e1, e2, _⟩ <;> simp [e1, e2]
    rw [e] at h4
    exact h4
  · rw [size_put ht', hs]
    rcases hf x l hk with ⟨e1, e2⟩ | ⟨u, e1, e2, _⟩ <;> simp [e1, e2]
  · intro y m hy
    by_cases e : y = x
    · subst e
      rw [hk] at hy
      cases hy
      rw [updV_same]
      exact .inr ⟨v, rfl, has_put_same ht'.isMap hl _, fun z => atKey_put_same ht'.isMap hl _ z⟩
    · rw [updV_other _ e]
      have hne : m ≠ l := fun h => e (K.inj hy (by rw [hk, h]))
      rcases hf y m hy with ⟨e1, e2⟩ | ⟨u, e1, e2, e3⟩
      · exact .inl ⟨e1, by rw [has_put_other hne]; exact e2⟩
      · exact .inr ⟨u, e1, by rw [has_put_other hne]; exact e2, fun z => by rw [atKey_put_other hne]; exact e3 z⟩
theorem GMap.drop (h : GMap k w b f n) (K : Keyed Try.prog k) {t e : TypeId} (ht : Try.prog.underlying t = some (.map k e)) {x : Value} {l : Lit} (hk : keyOf Try.prog k x = some l) (ty : TypeId) :
    ∃ w', (Builtin.delete_ #[t, k] ty #[.map (some b), x]).run Try.prog w = .ok (.tuple #[]) w' ∧ GMap k w' b (updV f x none) (if (f x).isSome then n - 1 else n) ∧ Touch [b] w w' := by
  obtain ⟨D, h1, hs, hf⟩ := h
  have ht' := h1.tidy K
  obtain ⟨w', hrun, h2, h3⟩ := h1.drop K ht hk ty
  have e : Maps.size (D.del l) = if (f x).isSome then n - 1 else n := by
    have := size_del (k := l) ht'
    rw [hs] at this
    rcases hf x l hk with ⟨e1, e2⟩ | ⟨u, e1, e2, _⟩
    · simp [e2] at this; simp [e1, this]
    · simp [e2] at this; simp [e1]; omega
  refine ⟨w', hrun, ⟨D.del l, ?_, e, ?_⟩, gturned h3⟩
  · have h4 := gtight h2
    rw [e] at h4
    exact h4
  · intro y m hy
    by_cases e : y = x
    · subst e
      rw [hk] at hy
      cases hy
      rw [updV_same]
      exact .inl ⟨rfl, has_del_same⟩
    · rw [updV_other _ e]
      have hne : m ≠ l := fun h => e (K.inj hy (by rw [hk, h]))
      rcases hf y m hy with ⟨e1, e2⟩ | ⟨u, e1, e2, e3⟩
      · exact .inl ⟨e1, by rw [has_del_other hne]; exact e2⟩
      · exact .inr ⟨u, e1, by rw [has_del_other hne]; exact e2, fun z => by rw [atKey_del_other hne]; exact e3 z⟩
/-- As many keys as are told apart. -/
theorem GMap.few (h : GMap k w b f n) (K : Keyed Try.prog k) (xs : List Value) (hd : xs.Nodup) (hx : ∀ x ∈ xs, (f x).isSome = true ∧ ∃ l, keyOf Try.prog k x = some l) : xs.length ≤ n := by
  obtain ⟨D, h1, hs, hf⟩ := h
  have ht' := h1.tidy K
  have key : ∀ (xs : List Value) (D : DataW Value), Tidy D → xs.Nodup → (∀ x ∈ xs, ∃ l, keyOf Try.prog k x = some l ∧ Maps.has D l = true) → xs.length ≤ Maps.size D := by
    intro xs
    induction xs with
    | nil => intro D _ _ _; simp
    | cons x r ih =>
      intro D hT hn hh
      obtain ⟨l, hl, hhas⟩ := hh x (by simp)
      have h2 := ih (D.del l) (hT.del l) (List.nodup_cons.1 hn).2 (fun y hy => by
        obtain ⟨m, hm, hhm⟩ := hh y (by simp [hy])
        have hne : m ≠ l := fun e => by
          have e2 : y = x := K.inj hm (by rw [hl, e])
          exact (List.nodup_cons.1 hn).1 (e2 ▸ hy)
        exact ⟨m, hm, by rw [has_del_other hne]; exact hhm⟩)
      have h3 := size_del (k := l) hT
      rw [hhas] at h3
      simp at h3
      simp
      omega
  have := key xs D ht' hd (fun x hx' => by
    obtain ⟨h1, l, hl⟩ := hx x hx'
    refine ⟨l, hl, ?_⟩
    rcases hf x l hl with ⟨e1, _⟩ | ⟨u, _, e2, _⟩
    · rw [e1] at h1; cases h1
    · exact e2)
  omega
end

/-! ### the key of a datagram -/
structure K4 where
  src : Int
  dst : Int
  proto : Int
  id : Int
structure K4.wf (K : K4) : Prop where
  src : 0 ≤ K.src ∧ K.src < 4294967296
  dst : 0 ≤ K.dst ∧ K.dst < 4294967296
  proto : 0 ≤ K.proto ∧ K.proto < 256
  id : 0 ≤ K.id ∧ K.id < 65536
def kv (K : K4) : Value := .agg #[.int .u32 K.src, .int .u32 K.dst, .int .u8 K.proto, .int .u16 K.id]
theorem kv_inj {K L : K4} (h : kv K = kv L) : K = L := by
  unfold kv at h
  simp at h
  obtain ⟨a, b, c, d⟩ := h
  cases K; cases L
  simp_all
theorem laidOutT : laidOutB Try.prog = true := by kernel_rfl
theorem rowKey : (109 : TypeId) < Try.prog.types.size := of_decide_eq_true (by kernel_rfl)
theorem wideKey : (match Try.prog.underlying 109 with | some (.array _ _) | some (.struct _) => true | _ => false) = true := by rw [Try.underlying109]
theorem lawKey : Keyed Try.prog 109 := Keyed.of_law (deep_law_laid laidOutT (m := 3) (by omega) rowKey (by kernel_rfl) wideKey)
theorem key_some {K : K4} (h : K.wf) : ∃ l, keyOf Try.prog 109 (kv K) = some l := by
  obtain ⟨hs, hd, hp, hi⟩ := h
  obtain ⟨d, hdd⟩ : ∃ d, Try.prog.types.size + 1 = d + 2 := ⟨Try.prog.types.size - 1, by have h0 : 0 < Try.prog.types.size := Nat.lt_of_le_of_lt (Nat.zero_le _) rowKey; omega⟩
  have c0 : Try.prog.cellsOf 109 = 4 := by kernel_rfl
  have c1 : Try.prog.cellsOf 25 = 1 := by kernel_rfl
  have c2 : Try.prog.cellsOf 5 = 1 := by kernel_rfl
  have c3 : Try.prog.cellsOf 23 = 1 := by kernel_rfl
  have k0 : Try.prog.keyType 109 = true := by kernel_rfl
  have w0 : (Lit.int .u32 K.src).wf = true := by
    simp only [Lit.wf, IntKind.min, IntKind.max, IntKind.signed, IntKind.bits, Bool.and_eq_true, decide_eq_true_eq]
    constructor <;> simp <;> omega
  have w1 : (Lit.int .u32 K.dst).wf = true := by
    simp only [Lit.wf, IntKind.min, IntKind.max, IntKind.signed, IntKind.bits, Bool.and_eq_true, decide_eq_true_eq]
    constructor <;> simp <;> omega
  have w2 : (Lit.int .u8 K.proto).wf = true := by
    simp only [Lit.wf, IntKind.min, IntKind.max, IntKind.signed, IntKind.bits, Bool.and_eq_true, decide_eq_true_eq]
    constructor <;> simp <;> omega
  have w3 : (Lit.int .u16 K.id).wf = true := by
    simp only [Lit.wf, IntKind.min, IntKind.max, IntKind.signed, IntKind.bits, Bool.and_eq_true, decide_eq_true_eq]
    constructor <;> simp <;> omega
  have hf : (kv K).formed Try.prog 109 = true := by simp [kv, Value.formed, Try.underlying109, c0]
  unfold keyOf
  simp only [Try.underlying109, k0, hf, Bool.and_self, if_true]
  rw [hdd]
  simp [kv, Value.cells, Program.keyLits, Try.underlying109, Try.underlying25, Try.underlying5, Try.underlying23, c0, c1, c2, c3, w0, w1, w2, w3]
theorem lawInt : Keyed Try.prog 3 := int_keyed Try.underlying3
theorem keyInt {x : Int} (h0 : -9223372036854775808 ≤ x) (h1 : x ≤ 9223372036854775807) : keyOf Try.prog 3 (.int .i64 x) = some (.int .i64 x) :=
  keyOf_int_mk Try.underlying3 (Tm.wfi_mk h0 h1)
theorem zeroKey (w : World) : (zeroValue 109).run Try.prog w = .ok (kv ⟨0, 0, 0, 0⟩) w := by kernel_rfl
theorem zeroDg (w : World) : (zeroValue 111).run Try.prog w = .ok (.pointer none) w := by kernel_rfl
end Go.Proofs.Ytelfemhnijnhfaa.Fr
