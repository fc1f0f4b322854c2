/- What Add answers and leaves, as a relation; no condition. -/
import Derived.Test.YtelfemhnijnhfaaGP
namespace Go.Proofs.Ytelfemhnijnhfaa.Fr
open Go.RowKit Go.Maps
set_option linter.unusedVariables false
set_option linter.unusedSimpArgs false
set_option maxRecDepth 100000

def keyP (p : Pk) : K4 := ⟨p.h.src, p.h.dst, p.h.proto, p.h.id⟩
theorem keyP_wf {p : Pk} (h : p.h.wf) : (keyP p).wf := ⟨h.src, h.dst, h.proto, h.id⟩
def zeroP : Pk := ⟨⟨0, 0, false, false, 0, 0, 0, 0, 0⟩, [], []⟩
def oldD (st : ASt) (K : K4) : Dg := match st.g K with | some x => x.2 | none => freshD
def spanI (st : ASt) (p : Pk) : Int := let t := if p.h.ttl < 1 then 1 else p.h.ttl; if st.life < t then st.life else t
def untilI (st : ASt) (p : Pk) (D : Dg) : Int := if D.until_ < afterI st.now (spanI st p) then afterI st.now (spanI st p) else D.until_
def newD (st : ASt) (p : Pk) (i : Int) : Dg :=
  { takenD (oldD st (keyP p)) p with
    id := if (st.g (keyP p)).isSome then (oldD st (keyP p)).id else i
    order := if (st.g (keyP p)).isSome then (oldD st (keyP p)).order else st.began
    until_ := untilI st p (oldD st (keyP p)) }
noncomputable def kept (st : ASt) (p : Pk) (d : Nat) (i : Int) : ASt :=
  { st with began := if (st.g (keyP p)).isSome then st.began else st.began + 1, g := updK st.g (keyP p) (some (d, newD st p i)), n := if (st.g (keyP p)).isSome then st.n else st.n + 1 }
def AddRel (st : ASt) (p q : Pk) (r : Int) (st' : ASt) : Prop :=
  (bErr p ≠ 0 ∧ r = bErr p ∧ q = zeroP ∧ st' = st) ∨
  (bErr p = 0 ∧ (p.h.off = 0 ∧ p.h.mf = false) ∧ r = 0 ∧ q = p ∧ st' = gone st (keyP p)) ∨
  (bErr p = 0 ∧ ¬ (p.h.off = 0 ∧ p.h.mf = false) ∧
    ((clashB (oldD st (keyP p)) p = true ∧ r = 53 ∧ q = zeroP ∧ st' = st) ∨
     (clashB (oldD st (keyP p)) p = false ∧ wholeB (takenD (oldD st (keyP p)) p) = true ∧ bErr (packD (takenD (oldD st (keyP p)) p)) ≠ 0 ∧ r = bErr (packD (takenD (oldD st (keyP p)) p)) ∧ q = zeroP ∧ st' = st) ∨
     (clashB (oldD st (keyP p)) p = false ∧ wholeB (takenD (oldD st (keyP p)) p) = true ∧ bErr (packD (takenD (oldD st (keyP p)) p)) = 0 ∧ r = 0 ∧ q = packD (takenD (oldD st (keyP p)) p) ∧ st' = gone st (keyP p)) ∨
     (clashB (oldD st (keyP p)) p = false ∧ wholeB (takenD (oldD st (keyP p)) p) = false ∧ r = 52 ∧ q = zeroP ∧ ∃ d i, st' = kept st p d i)))
def PktR (w w' : World) (p : Pk) (r : Int) (e : Ending) : Prop :=
  ∃ VO VB, e = .returned (.tuple #[.agg (pkC p.h VO VB), .int .i64 r]) ∧ OwB w' VO p.opts ∧ OwB w' VB p.body ∧ Fresh w.heap.size VO ∧ Fresh w.heap.size VB
def AddPost (w : World) (a : Nat) (S : List Nat) (st : ASt) (p : Pk) (e : Ending) (w' : World) : Prop :=
  ∃ q r st' S', PktR w w' q r e ∧ AsmAt w' a S' st' ∧ Touch S w w' ∧ (∀ k ∈ S', k ∈ S ∨ w.heap.size ≤ k) ∧ AddRel st p q r st'
theorem PktR.zero {w w' : World} {r : Int} : PktR w w' zeroP r (.returned (.tuple #[.agg (pkC ⟨0, 0, false, false, 0, 0, 0, 0, 0⟩ (.slice none 0 0) (.slice none 0 0)), .int .i64 r])) :=
  ⟨_, _, rfl, OwB.nil _, OwB.nil _, Fresh.nil _, Fresh.nil _⟩
structure ASt.ok (st : ASt) : Prop where
  r0 : 1 ≤ st.room
  r9 : st.room ≤ 256
  l0 : 1 ≤ st.life
  l9 : st.life ≤ 1099511627776
  t0 : 0 ≤ st.now
  t9 : st.now ≤ 9223372036854775807
  b0 : 0 ≤ st.began
  n : (st.n : Int) ≤ st.room
  dg : ∀ (K : K4) (x : Nat × Dg), K.wf → st.g K = some x → x.2.ok
theorem oldD_ok {st : ASt} (h : st.ok) {p : Pk} (hw : p.h.wf) : (oldD st (keyP p)).ok := by
  unfold oldD
  split
  · rename_i x hx
    exact h.dg _ x (keyP_wf hw) hx
  · exact freshD_ok
theorem gone_ok {st : ASt} (h : st.ok) (K : K4) : (gone st K).ok := by
  refine ⟨h.r0, h.r9, h.l0, h.l9, h.t0, h.t9, h.b0, ?_, fun L x hL hx => ?_⟩
  · have := h.n
    show ((if (st.g K).isSome then st.n - 1 else st.n : Nat) : Int) ≤ st.room
    split <;> omega
  · by_cases e : L = K
    · subst e; simp [gone, updK_same] at hx
    · exact h.dg L x hL (by simpa [gone, updK_other _ e] using hx)
theorem spanI_bd {st : ASt} (h : st.ok) (p : Pk) : 0 ≤ spanI st p ∧ spanI st p ≤ 1099511627776 := by
  have := h.l0
  have := h.l9
  unfold spanI
  dsimp only
  split <;> split <;> omega
theorem afterI_bd {a b : Int} (h0 : 0 ≤ a) (h1 : 0 ≤ b) : 0 ≤ afterI a b ∧ afterI a b ≤ 9223372036854775807 := by
  unfold afterI
  split <;> omega
theorem untilI_bd {st : ASt} (h : st.ok) {p : Pk} {D : Dg} (hD : D.ok) : 0 ≤ untilI st p D ∧ untilI st p D ≤ 9223372036854775807 := by
  have h1 := afterI_bd h.t0 (spanI_bd h p).1
  have := hD.u0
  have := hD.u9
  unfold untilI
  split <;> omega
theorem kept_ok {st : ASt} (h : st.ok) {p : Pk} (hb : bErr p = 0) (hw : p.h.wf) (hn : ¬ (p.h.off = 0 ∧ p.h.mf = false)) (hr : (st.g (keyP p)).isSome = true ∨ (st.n : Int) < st.room) (d : Nat) (i : Int) : (kept st p d i).ok := by
  have hD := oldD_ok h hw
  have hT := (takes hD hb hw hn).ok
  have hU := untilI_bd (p := p) h hD
  refine ⟨h.r0, h.r9, h.l0, h.l9, h.t0, h.t9, ?_, ?_, fun L x hL hx => ?_⟩
  · have := h.b0
    show 0 ≤ (if (st.g (keyP p)).isSome then st.began else st.began + 1)
    split <;> omega
  · have := h.n
    show ((if (st.g (keyP p)).isSome then st.n else st.n + 1 : Nat) : Int) ≤ st.room
    split
    · omega
    · rcases hr with h1 | h1
      · contradiction
      · omega
  · by_cases e : L = keyP p
    · subst e
      simp [kept, updK_same] at hx
      subst hx
      exact ⟨hT.len, hT.le, hT.count, hT.far0, hT.far9, hT.length, hT.opts, hT.wf, hU.1, hU.2⟩
    · exact h.dg L x hL (by simpa [kept, updK_other _ e] using hx)
theorem AddRel.ok {st : ASt} (h : st.ok) {p q : Pk} {r : Int} {st' : ASt} (hw : p.h.wf) (hr : (st.g (keyP p)).isSome = true ∨ (st.n : Int) < st.room) (hA : AddRel st p q r st') : st'.ok := by
  rcases hA with ⟨_, _, _, rfl⟩ | ⟨_, _, _, _, rfl⟩ | ⟨hb, hn, hA⟩
  · exact h
  · exact gone_ok h _
  · rcases hA with ⟨_, _, _, rfl⟩ | ⟨_, _, _, _, _, rfl⟩ | ⟨_, _, _, _, _, rfl⟩ | ⟨_, _, _, _, d, i, rfl⟩
    · exact h
    · exact h
    · exact gone_ok h _
    · exact kept_ok h hb hw hn hr d i
theorem AsmAt.keptK {w w' : World} {a : Nat} {S : List Nat} {st : ASt} (h : AsmAt w a S st) {B : List Nat} (t : Touch B w w') (hB : ∀ k ∈ B, k ∉ S) (hK : ∀ k ∈ B, Kind w k) : AsmAt w' a S st := by
  obtain ⟨hb, kb, tb, TS, s, fh, fk, rfl, h⟩ := h
  have hn : ∀ x ∈ a :: hb :: kb :: TS, x ∉ B := fun x hx hb => hB x hb hx
  exact ⟨hb, kb, tb, TS, s, fh, fk, rfl, touch_box t h.blk (hn a (by simp)), h.held.kept t (hn hb (by simp)), h.keys.kept t (hn kb (by simp)), tim_kept h.tim t (fun k hk => hn k (by simp [hk])), h.len, h.hk, h.ht, h.kt, h.at_, h.look, fun K x hK' hx => by
    obtain ⟨h1, h2⟩ := h.each K x hK' hx
    exact ⟨h1.kind t hK, h2⟩, h.back, h.due⟩
theorem kind_pk {w : World} {b : Nat} {c : Array Value} (h : w.heap[b]? = some (.cells c 30 (0, 0))) : ∀ k ∈ [b], Kind w k := by
  intro k hk
  simp at hk
  subst hk
  exact .inr ⟨_, _, h, by decide, by decide⟩
end Go.Proofs.Ytelfemhnijnhfaa.Fr
