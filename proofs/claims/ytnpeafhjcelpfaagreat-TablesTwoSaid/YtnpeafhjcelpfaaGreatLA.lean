/- Maps of any key and element as functions of values; keys of neighbours and entries; no condition. -/
import Derived.Test.YtnpeafhjcelpfaaGreatZG
import Derived.DeepKeys4
import Derived.Maps.OwnSet
import Derived.Maps.RangeWalk
namespace Go.Proofs.YtnpeafhjcelpfaaGreat.Tri
open Go.RowKit Go.Maps
set_option linter.unusedVariables false
set_option linter.unusedSimpArgs false
set_option maxRecDepth 100000

def heldR (v : Value) : Option (DataW Value × List MemPlace) := some (.held v, [])
/-- Block b is a map with keys of type k that holds just f, n keys. -/
def GMap (k : TypeId) (w : World) (b : Nat) (f : Value → Option Value) (n : Nat) : Prop :=
  ∃ D : DataW Value, w.ownsMap Tryz.prog k heldR b n D ∧ Maps.size D = n ∧
    ∀ x l, keyOf Tryz.prog k x = some l → (f x = none ∧ Maps.has D l = false) ∨ ∃ v, f x = some v ∧ Maps.has D l = true ∧ (∀ z, D.atKey l z = .held v)
open Classical in
noncomputable def updV (f : Value → Option Value) (x : Value) (v : Option Value) : Value → Option Value := fun y => if y = x then v else f y
theorem updV_same (f : Value → Option Value) (x : Value) (v : Option Value) : updV f x v x = v := by simp [updV]
theorem updV_other {f : Value → Option Value} {x y : Value} (v : Option Value) (h : y ≠ x) : updV f x v y = f y := by simp [updV, h]

section
variable {k : TypeId} {w w' : World} {b : Nat} {f : Value → Option Value} {n : Nat}
theorem GMap.lt (h : GMap k w b f n) : b < w.heap.size := by obtain ⟨D, h, _⟩ := h; exact h.lt
theorem GMap.kept (h : GMap k w b f n) {S : List Nat} (t : Touch S w w') (hn : b ∉ S) : GMap k w' b f n := by
  obtain ⟨D, h1, h2⟩ := h
  refine ⟨D, ?_, h2⟩
  obtain ⟨es, clock, hb, F, hs, hD⟩ := h1
  exact ⟨es, clock, (t.block b (Array.getElem?_eq_some_iff.1 hb).1 hn).trans hb, F, hs, hD⟩
theorem GMap.isMap (h : GMap k w b f n) : ∃ es clock, w.heap[b]? = some (.map es clock) := by
  obtain ⟨D, ⟨es, clock, hb, _⟩, _⟩ := h
  exact ⟨es, clock, hb⟩
theorem GMap.made (k : TypeId) (w : World) : GMap k (w.alloc (.map #[] 0)) w.heap.size (fun _ => none) 0 :=
  ⟨.map [], World.ownsMap_made _ _ _ _, rfl, fun x l _ => .inl ⟨rfl, rfl⟩⟩
theorem GMap.look (h : GMap k w b f n) (K : Keyed Tryz.prog k) {t e : TypeId} (ht : Tryz.prog.underlying t = some (.map k e)) {z : Value} (hz : (zeroValue e).run Tryz.prog w = .ok z w) {x : Value} {l : Lit} (hk : keyOf Tryz.prog k x = some l) :
    (Instr.lookup t (.map (some b)) x true).run Tryz.prog w = .ok (.tuple #[(f x).getD z, .bool (f x).isSome]) w ∧ (Instr.lookup t (.map (some b)) x false).run Tryz.prog w = .ok ((f x).getD z) w := by
  obtain ⟨D, h1, hs, hf⟩ := h
  obtain ⟨v, ps, hrun, hv⟩ := h1.look_ok K ht hz (zd := .held z) (zp := []) rfl hk
  obtain ⟨v', ps', hrun', hv'⟩ := h1.lookup K ht hz (zd := .held z) (zp := []) rfl hk
  simp only [heldR, Option.some.injEq, Prod.mk.injEq] at hv hv'
  rcases hf x l hk with ⟨e1, e2⟩ | ⟨u, e1, e2, e3⟩
  · rw [atKey_of_not_has e2] at hv hv'
    have a1 := hv.1
    have a2 := hv'.1
    injection a1 with a1
    injection a2 with a2
    rw [hrun, hrun', e1, e2, a1, a2]
    exact ⟨rfl, rfl⟩
  · rw [e3] at hv hv'
    have a1 := hv.1
    have a2 := hv'.1
    injection a1 with a1
    injection a2 with a2
    rw [hrun, hrun', e1, e2, a1, a2]
    exact ⟨rfl, rfl⟩
theorem gturned (h : w.mapTurned w' b) : Touch [b] w w' := by
  have g := h.grown
  exact ⟨g.os, g.tape, g.output, g.size, fun k hk hn => g.block k hk (fun e => hn (by simpa using e))⟩
theorem gtight {N : Nat} {D : DataW Value} (h : w.ownsMap Tryz.prog k heldR b N D) : w.ownsMap Tryz.prog k heldR b (Maps.size D) D := by
  obtain ⟨es, clock, hb, F, _, rfl⟩ := h
  exact ⟨es, clock, hb, F, by simp [Maps.size, length_sorted], rfl⟩
theorem GMap.len (h : GMap k w b f n) {t e : TypeId} (ht : Tryz.prog.underlying t = some (.map k e)) (ty : TypeId) : (Builtin.len_ #[t] ty #[.map (some b)]).run Tryz.prog w = .ok (.int .i64 n) w := by
  obtain ⟨D, h1, hs, hf⟩ := h
  rw [h1.len ht ty, hs]
theorem GMap.store (h : GMap k w b f n) (K : Keyed Tryz.prog k) {t e : TypeId} (ht : Tryz.prog.underlying t = some (.map k e)) {x : Value} {l : Lit} (hk : keyOf Tryz.prog k x = some l) (v : Value) (hn : n < 9223372036854775807) :
    ∃ w', (Instr.mapUpdate t (.map (some b)) x v).run Tryz.prog w = .ok () w' ∧ GMap k w' b (updV f x (some v)) (if (f x).isSome then n else n + 1) ∧ Touch [b] w w' := by
  obtain ⟨D, h1, hs, hf⟩ := h
  have ht' := h1.tidy K
  have hl : WideAt.IsKeyLit l := K.key hk
  obtain ⟨w', hrun, h2, h3⟩ := h1.store K ht (by unfold maxLen; omega) hk (show heldR v = some (.held v, []) from rfl)
  refine ⟨w', hrun, ⟨D.put l (.held v), ?_, ?_, ?_⟩, gturned h3⟩
  · have h4 := gtight h2
    have e : Maps.size (D.put l (.held v)) = if (f x).isSome then n else n + 1 := by
      rw [size_put ht', hs]
      rcases hf x l hk with ⟨e1, e2⟩ | ⟨u, e1, e2, _⟩ <;> simp [e1, e2]
    rw [e] at h4
    exact h4
  · rw [size_put ht', hs]
    rcases hf x l hk with ⟨e1, e2⟩ | ⟨u, e1, e2, _⟩ <;> simp [e1, e2]
  · intro y m hy
    by_cases e : y = x
    · subst e
      rw [hk] at hy
      cases hy
      rw [updV_same]
      exact .inr ⟨v, rfl, has_put_same ht'.isMap hl _, fun z => atKey_put_same ht'.isMap hl _ z⟩
    · rw [updV_other _ e]
      have hne : m ≠ l := fun h => e (K.inj hy (by rw [hk, h]))
      rcases hf y m hy with ⟨e1, e2⟩ | ⟨u, e1, e2, e3⟩
      · exact .inl ⟨e1, by rw [has_put_other hne]; exact e2⟩
      · exact .inr ⟨u, e1, by rw [has_put_other hne]; exact e2, fun z => by rw [atKey_put_other hne]; exact e3 z⟩
theorem GMap.drop (h : GMap k w b f n) (K : Keyed Tryz.prog k) {t e : TypeId} (ht : Tryz.prog.underlying t = some (.map k e)) {x : Value} {l : Lit} (hk : keyOf Tryz.prog k x = some l) (ty : TypeId) :
    ∃ w', (Builtin.delete_ #[t, k] ty #[.map (some b), x]).run Tryz.prog w = .ok (.tuple #[]) w' ∧ GMap k w' b (updV f x none) (if (f x).isSome then n - 1 else n) ∧ Touch [b] w w' := by
  obtain ⟨D, h1, hs, hf⟩ := h
  have ht' := h1.tidy K
  obtain ⟨w', hrun, h2, h3⟩ := h1.drop K ht hk ty
  have e : Maps.size (D.del l) = if (f x).isSome then n - 1 else n := by
    have := size_del (k := l) ht'
    rw [hs] at this
    rcases hf x l hk with ⟨e1, e2⟩ | ⟨u, e1, e2, _⟩
    · simp [e2] at this; simp [e1, this]
    · simp [e2] at this; simp [e1]; omega
  refine ⟨w', hrun, ⟨D.del l, ?_, e, ?_⟩, gturned h3⟩
  · have h4 := gtight h2
    rw [e] at h4
    exact h4
  · intro y m hy
    by_cases e : y = x
    · subst e
      rw [hk] at hy
      cases hy
      rw [updV_same]
      exact .inl ⟨rfl, has_del_same⟩
    · rw [updV_other _ e]
      have hne : m ≠ l := fun h => e (K.inj hy (by rw [hk, h]))
      rcases hf y m hy with ⟨e1, e2⟩ | ⟨u, e1, e2, e3⟩
      · exact .inl ⟨e1, by rw [has_del_other hne]; exact e2⟩
      · exact .inr ⟨u, e1, by rw [has_del_other hne]; exact e2, fun z => by rw [atKey_del_other hne]; exact e3 z⟩
/-- As many keys as are told apart. -/
theorem GMap.few (h : GMap k w b f n) (K : Keyed Tryz.prog k) (xs : List Value) (hd : xs.Nodup) (hx : ∀ x ∈ xs, (f x).isSome = true ∧ ∃ l, keyOf Tryz.prog k x = some l) : xs.length ≤ n := by
  obtain ⟨D, h1, hs, hf⟩ := h
  have ht' := h1.tidy K
  have key : ∀ (xs : List Value) (D : DataW Value), Tidy D → xs.Nodup → (∀ x ∈ xs, ∃ l, keyOf Tryz.prog k x = some l ∧ Maps.has D l = true) → xs.length ≤ Maps.size D := by
    intro xs
    induction xs with
    | nil => intro D _ _ _; simp
    | cons x r ih =>
      intro D hT hn hh
      obtain ⟨l, hl, hhas⟩ := hh x (by simp)
      have h2 := ih (D.del l) (hT.del l) (List.nodup_cons.1 hn).2 (fun y hy => by
        obtain ⟨m, hm, hhm⟩ := hh y (by simp [hy])
        have hne : m ≠ l := fun e => by
          have e2 : y = x := K.inj hm (by rw [hl, e])
          exact (List.nodup_cons.1 hn).1 (e2 ▸ hy)
        exact ⟨m, hm, by rw [has_del_other hne]; exact hhm⟩)
      have h3 := size_del (k := l) hT
      rw [hhas] at h3
      simp at h3
      simp
      omega
  have := key xs D ht' hd (fun x hx' => by
    obtain ⟨h1, l, hl⟩ := hx x hx'
    refine ⟨l, hl, ?_⟩
    rcases hf x l hl with ⟨e1, _⟩ | ⟨u, _, e2, _⟩
    · rw [e1] at h1; cases h1
    · exact e2)
  omega
end


theorem laidOutT : laidOutB Tryz.prog = true := by kernel_rfl
/-! ### MACs -/
structure M6 where
  m0 : Int
  m1 : Int
  m2 : Int
  m3 : Int
  m4 : Int
  m5 : Int
structure M6.wf (m : M6) : Prop where
  h0 : 0 ≤ m.m0 ∧ m.m0 < 256
  h1 : 0 ≤ m.m1 ∧ m.m1 < 256
  h2 : 0 ≤ m.m2 ∧ m.m2 < 256
  h3 : 0 ≤ m.m3 ∧ m.m3 < 256
  h4 : 0 ≤ m.m4 ∧ m.m4 < 256
  h5 : 0 ≤ m.m5 ∧ m.m5 < 256
def macV (m : M6) : Value := .agg #[.int .u8 m.m0, .int .u8 m.m1, .int .u8 m.m2, .int .u8 m.m3, .int .u8 m.m4, .int .u8 m.m5]
theorem macV_inj {m n : M6} (h : macV m = macV n) : m = n := by
  unfold macV at h
  simp at h
  obtain ⟨a, b, c, d, e, f⟩ := h
  cases m; cases n
  simp_all
theorem rowMac : (51 : TypeId) < Tryz.prog.types.size := of_decide_eq_true (by kernel_rfl)
theorem wideMac : (match Tryz.prog.underlying 51 with | some (.array _ _) | some (.struct _) => true | _ => false) = true := by rw [Tryz.underlying51]
theorem lawMac : Keyed Tryz.prog 51 := Keyed.of_law (deep_law_laid laidOutT (m := 3) (by omega) rowMac (by kernel_rfl) wideMac)
theorem wf8 {x : Int} (h : 0 ≤ x ∧ x < 256) : (Lit.int .u8 x).wf = true := by
  simp only [Lit.wf, IntKind.min, IntKind.max, IntKind.signed, IntKind.bits, Bool.and_eq_true, decide_eq_true_eq]
  constructor <;> simp <;> omega
theorem mac_some {m : M6} (h : m.wf) : ∃ l, keyOf Tryz.prog 51 (macV m) = some l := by
  obtain ⟨h0, h1, h2, h3, h4, h5⟩ := h
  obtain ⟨d, hdd⟩ : ∃ d, Tryz.prog.types.size + 1 = d + 2 := ⟨Tryz.prog.types.size - 1, by have h0 : 0 < Tryz.prog.types.size := Nat.lt_of_le_of_lt (Nat.zero_le _) rowMac; omega⟩
  have c0 : Tryz.prog.cellsOf 51 = 6 := by kernel_rfl
  have c2 : Tryz.prog.cellsOf 5 = 1 := by kernel_rfl
  have k0 : Tryz.prog.keyType 51 = true := by kernel_rfl
  have hf : (macV m).formed Tryz.prog 51 = true := by simp [macV, Value.formed, Tryz.underlying51, c0]
  unfold keyOf
  simp only [Tryz.underlying51, k0, hf, Bool.and_self, if_true]
  rw [hdd]
  simp [macV, Value.cells, Program.keyLits, Tryz.underlying51, Tryz.underlying5, c0, c2, show List.range 6 = [0, 1, 2, 3, 4, 5] from rfl, wf8 h0, wf8 h1, wf8 h2, wf8 h3, wf8 h4, wf8 h5]
theorem un8 {x : Int} (h : (Lit.int .u8 x).wf = true) : 0 ≤ x ∧ x < 256 := by
  simp only [Lit.wf, IntKind.min, IntKind.max, IntKind.signed, IntKind.bits, Bool.and_eq_true, decide_eq_true_eq] at h
  obtain ⟨h1, h2⟩ := h
  simp at h1 h2
  omega
theorem mac_inv {v : Value} {l : Lit} (h : keyOf Tryz.prog 51 v = some l) : ∃ m : M6, m.wf ∧ v = macV m := by
  obtain ⟨⟨xs⟩, L, rfl, hL, _⟩ := keyOf_top wideMac h
  obtain ⟨d, hdd⟩ : ∃ d, Tryz.prog.types.size + 1 = d + 2 := ⟨Tryz.prog.types.size - 1, by have h0 : 0 < Tryz.prog.types.size := Nat.lt_of_le_of_lt (Nat.zero_le _) rowMac; omega⟩
  rw [hdd] at hL
  have c0 : Tryz.prog.cellsOf 51 = 6 := by kernel_rfl
  have c2 : Tryz.prog.cellsOf 5 = 1 := by kernel_rfl
  have hlen : xs.length = 6 := by
    by_cases hx : xs.length = 6
    · exact hx
    · simp [Program.keyLits, Tryz.underlying51, c0, c2, hx] at hL
  match xs, hlen with
  | [a, b, c, e, f, g], _ =>
    have F : ∀ (v : Value) (x : List Lit), Tryz.prog.keyLits (d + 1) 5 [v] = some x → ∃ n, v = .int .u8 n ∧ (Lit.int .u8 n).wf = true := by
      intro v x hx
      unfold Program.keyLits at hx
      rw [Tryz.underlying5] at hx
      cases v <;> simp at hx
      rename_i q' n
      obtain ⟨⟨rfl, hw⟩, _⟩ := hx
      exact ⟨n, rfl, hw⟩
    unfold Program.keyLits at hL
    simp only [Tryz.underlying51, c0] at hL
    simp [c2, show List.range 6 = [0, 1, 2, 3, 4, 5] from rfl] at hL
    cases ha : Tryz.prog.keyLits (d + 1) 5 [a] <;> simp [ha] at hL
    cases hb : Tryz.prog.keyLits (d + 1) 5 [b] <;> simp [hb] at hL
    cases hc : Tryz.prog.keyLits (d + 1) 5 [c] <;> simp [hc] at hL
    cases he : Tryz.prog.keyLits (d + 1) 5 [e] <;> simp [he] at hL
    cases hf : Tryz.prog.keyLits (d + 1) 5 [f] <;> simp [hf] at hL
    cases hg : Tryz.prog.keyLits (d + 1) 5 [g] <;> simp [hg] at hL
    obtain ⟨n1, rfl, w1⟩ := F a _ ha
    obtain ⟨n2, rfl, w2⟩ := F b _ hb
    obtain ⟨n3, rfl, w3⟩ := F c _ hc
    obtain ⟨n4, rfl, w4⟩ := F e _ he
    obtain ⟨n5, rfl, w5⟩ := F f _ hf
    obtain ⟨n6, rfl, w6⟩ := F g _ hg
    exact ⟨⟨n1, n2, n3, n4, n5, n6⟩, ⟨un8 w1, un8 w2, un8 w3, un8 w4, un8 w5, un8 w6⟩, rfl⟩
theorem lawAddr : Keyed Tryz.prog 38 := int_keyed Tryz.underlying38
theorem keyAddr {x : Int} (h0 : 0 ≤ x) (h1 : x < 4294967296) : keyOf Tryz.prog 38 (.int .u32 x) = some (.int .u32 x) :=
  keyOf_int_mk Tryz.underlying38 (by
    simp only [Lit.wf, IntKind.min, IntKind.max, IntKind.signed, IntKind.bits, Bool.and_eq_true, decide_eq_true_eq]
    constructor <;> simp <;> omega)
end Go.Proofs.YtnpeafhjcelpfaaGreat.Tri
