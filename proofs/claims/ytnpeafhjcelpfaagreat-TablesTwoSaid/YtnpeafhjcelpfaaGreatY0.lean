/- What a range over a map has collected; no condition. -/
import Derived.Test.YtnpeafhjcelpfaaGreatLR
import Derived.Test.YtnpeafhjcelpfaaGreatLP
import Derived.Test.YtnpeafhjcelpfaaGreatLD
import Derived.Lib.Hide

namespace Go.Proofs.YtnpeafhjcelpfaaGreat.Tri
open Go.RowKit Go.Maps
set_option linter.unusedVariables false
set_option linter.unusedSimpArgs false
set_option maxRecDepth 100000

structure CollV (k : TypeId) (f : Value → Option Value) (left : Lit → Bool) (l : List (Value × Value)) : Prop where
  isIn : ∀ x ∈ l, f x.1 = some x.2 ∧ ∃ kl, keyOf Tryz.prog k x.1 = some kl ∧ left kl = false
  all : ∀ x v kl, keyOf Tryz.prog k x = some kl → f x = some v → left kl = true ∨ ∃ y ∈ l, y.1 = x
  nodup : (l.map (·.1)).Nodup
theorem CollV.start {k : TypeId} {f : Value → Option Value} {D : DataW Value} (hf : ∀ x l, keyOf Tryz.prog k x = some l → (f x = none ∧ Maps.has D l = false) ∨ ∃ v, f x = some v ∧ Maps.has D l = true ∧ (∀ z, D.atKey l z = .held v)) : CollV k f (Maps.has D) [] :=
  ⟨by simp, fun x v kl hk hv => .inl (by
    rcases hf x kl hk with ⟨h1, _⟩ | ⟨_, _, h2, _⟩
    · rw [h1] at hv; cases hv
    · exact h2), by simp⟩
theorem CollV.step {k : TypeId} {f : Value → Option Value} {left : Lit → Bool} {l : List (Value × Value)} (K : Keyed Tryz.prog k) (h : CollV k f left l) {x v : Value} {kl : Lit} (hk : keyOf Tryz.prog k x = some kl) (hlk : left kl = true) (hv : f x = some v) :
    CollV k f (fun z => left z && !z.sameKey kl) (l ++ [(x, v)]) := by
  have hkey : WideAt.IsKeyLit kl := K.key hk
  have hn : ∀ y ∈ l, y.1 ≠ x := fun y hy e => by
    obtain ⟨_, kl', h1, h2⟩ := h.isIn y hy
    rw [e, hk] at h1
    cases h1
    rw [hlk] at h2
    cases h2
  refine ⟨?_, ?_, ?_⟩
  · intro y hy
    rcases List.mem_append.1 hy with hy | hy
    · obtain ⟨h1, kl', h2, h3⟩ := h.isIn y hy
      exact ⟨h1, kl', h2, by rw [h3]; rfl⟩
    · simp at hy
      subst hy
      exact ⟨hv, kl, hk, by rw [WideAt.sameKey_self hkey]; simp⟩
  · intro y u kl' hk' hu
    by_cases e : y = x
    · exact .inr ⟨(x, v), List.mem_append_right _ (by simp), e.symm⟩
    · rcases h.all y u kl' hk' hu with h1 | ⟨z, hz, hzy⟩
      · refine .inl ?_
        have : kl'.sameKey kl = false := by
          cases hs : kl'.sameKey kl
          · rfl
          · exact absurd (K.inj hk' (by rw [hk, WideAt.sameKey_eq hs])) e
        rw [h1, this]
        rfl
      · exact .inr ⟨z, List.mem_append_left _ hz, hzy⟩
  · rw [List.map_append, List.nodup_append]
    refine ⟨h.nodup, by simp, ?_⟩
    intro a ha b hb
    simp at hb
    subst hb
    obtain ⟨y, hy, rfl⟩ := List.mem_map.1 ha
    exact hn y hy
end Go.Proofs.YtnpeafhjcelpfaaGreat.Tri

/- flat.all of neighbours; no condition. -/
namespace Go.Proofs.YtnpeafhjcelpfaaGreat.Tri
open Go.RowKit Go.Maps
set_option linter.unusedVariables false
set_option linter.unusedSimpArgs false
set_option maxRecDepth 100000

def Fresh (n : Nat) (V : Value) : Prop := ∀ b, V.ownBlock = some b → n ≤ b
theorem VRow.off {w : World} {e : TypeId} {sz : Nat} {V : Value} {n : Nat} {xs : List Value} (h : VRow w e sz V n xs) {b : Nat} {o : Obj} (hb : w.heap[b]? = some o) (hne : ∀ c, o ≠ .cells c e (0, 0)) : b ∉ V.ownBlock.toList := by
  intro hm
  simp only [Option.mem_toList] at hm
  obtain ⟨c, hc⟩ := h.blk b hm
  rw [hb] at hc
  exact hne c (Option.some.inj hc)
theorem ranges_keptV {k : TypeId} {w w' : World} {b r n cnt : Nat} {D : DataW Value} {left : Lit → Bool} (h : w.ranges Tryz.prog k heldR b r n D left cnt) {S : List Nat} (t : Touch S w w') (hb : b ∉ S) (hr : r ∉ S) : w'.ranges Tryz.prog k heldR b r n D left cnt := by
  obtain ⟨es, clock, since, seen, c0, h1, h2, h3, h4, h5, h6⟩ := h
  exact ⟨es, clock, since, seen, c0, (t.block b (Array.getElem?_eq_some_iff.1 h1).1 hb).trans h1, h2, h3, h4, (t.block r (Array.getElem?_eq_some_iff.1 h5).1 hr).trans h5, h6⟩
theorem addr_inv {v : Value} {l : Lit} (h : keyOf Tryz.prog 38 v = some l) : ∃ x : Int, v = .int .u32 x := by
  rw [keyOf_int Tryz.underlying38] at h
  unfold mapKey at h
  rw [Tryz.underlying38] at h
  cases v <;> simp at h
  rename_i q n
  obtain ⟨⟨rfl, _⟩, _⟩ := h
  exact ⟨n, rfl⟩
end Go.Proofs.YtnpeafhjcelpfaaGreat.Tri

/- flat.all of neighbours: the walk; no condition. -/
namespace Go.Proofs.YtnpeafhjcelpfaaGreat.Tri
open Go.RowKit Go.Maps
set_option linter.unusedVariables false
set_option linter.unusedSimpArgs false
set_option maxRecDepth 100000

theorem infoN : (Tryz.prog.info? 53).map (fun i => (i.zero, i.size, i.bytes)) = some (some (.agg (neiC 0 ⟨0, 0, 0, 0, 0, 0⟩)), 7, 12) := by kernel_rfl
def kvN (x : NeE) : Value × Value := (.int .u32 x.ip, .agg (neiC x.ip x.m))
/-- Just what f holds, rising. -/
structure AllN (f : Value → Option Value) (l : List NeE) : Prop where
  isIn : ∀ x ∈ l, f (.int .u32 x.ip) = some (.agg (neiC x.ip x.m)) ∧ 0 ≤ x.ip ∧ x.ip < 4294967296
  all : ∀ (x : Int) v, 0 ≤ x → x < 4294967296 → f (.int .u32 x) = some v → ∃ y ∈ l, y.ip = x
  up : l.Pairwise fun x y => x.ip < y.ip
def All1 (w : World) (f : Value → Option Value) (e : Ending) (w' : World) : Prop :=
  ∃ (l : List NeE) (A : Option Addr) (c n : Nat), e = .returned (.slice A n c) ∧ l.length = n ∧ VRow w' 53 7 (.slice A n c) n (SK.flatL encN l) ∧ Touch [] w w' ∧ Fresh w.heap.size (.slice A n c) ∧ AllN f l
theorem wf_u32 {x : Int} {l : Lit} (h : keyOf Tryz.prog 38 (.int .u32 x) = some l) : 0 ≤ x ∧ x < 4294967296 := by
  rw [keyOf_int Tryz.underlying38] at h
  unfold mapKey at h
  rw [Tryz.underlying38] at h
  simp at h
  obtain ⟨hw, _⟩ := h
  simp only [Lit.wf, IntKind.min, IntKind.max, IntKind.signed, IntKind.bits, Bool.and_eq_true, decide_eq_true_eq] at hw
  obtain ⟨h1, h2⟩ := hw
  simp at h1 h2
  omega
theorem CollV.doneN {f : Value → Option Value} {left : Lit → Bool} {l l' : List NeE} (h : CollV 38 f left (l.map kvN)) (h0 : ∀ kl, left kl = false) (hs : SortedN l' l) : AllN f l' := by
  obtain ⟨hp, hu⟩ := hs
  refine ⟨?_, ?_, ?_⟩
  · intro x hx
    obtain ⟨h1, kl, h2, _⟩ := h.isIn (kvN x) (List.mem_map.2 ⟨x, hp.mem_iff.1 hx, rfl⟩)
    exact ⟨h1, wf_u32 h2⟩
  · intro x v hx0 hx1 hv
    rcases h.all (.int .u32 x) v _ (keyAddr hx0 hx1) hv with h1 | ⟨y, hy, e⟩
    · rw [h0] at h1; cases h1
    · obtain ⟨z, hz, rfl⟩ := List.mem_map.1 hy
      simp only [kvN] at e
      injection e with _ e
      exact ⟨z, hp.mem_iff.2 hz, e⟩
  · have hn : (l'.map (fun x => x.ip)).Nodup := by
      have h1 : (l.map (fun x => (kvN x).1)).Nodup := by have := h.nodup; rwa [List.map_map] at this
      have h2 : (l'.map (fun x => (kvN x).1)).Nodup := (hp.map _).nodup_iff.2 h1
      rw [List.Nodup, List.pairwise_map] at h2 ⊢
      exact h2.imp (fun h e => h (by simp [kvN, e]))
    rw [List.Nodup, List.pairwise_map] at hn
    exact (hu.and hn).imp (fun ⟨h1, h2⟩ => by omega)
end Go.Proofs.YtnpeafhjcelpfaaGreat.Tri

/- flat.all of neighbours: the walk; no condition. -/
namespace Go.Proofs.YtnpeafhjcelpfaaGreat.Tri
open Go.RowKit Go.Maps
set_option linter.unusedVariables false
set_option linter.unusedSimpArgs false
set_option maxRecDepth 100000

theorem pr_cells {w : World} {b : Nat} {x y : Value} {T : TypeId} (h : w.heap[b]? = some (.cells #[x, y] T (0, 0))) : w.cell? ⟨b, 0, none⟩ = some x ∧ w.cell? ⟨b, 1, none⟩ = some y := by
  constructor <;> simp [World.cell?, h]
/-- What f holds is a neighbour of that key. -/
def RightN (f : Value → Option Value) : Prop := ∀ (x : Int) v, f (.int .u32 x) = some v → ∃ y : M6, v = .agg (neiC x y)
set_option maxHeartbeats 4000000 in
theorem all1_calls {w : World} {fb m : Nat} {f : Value → Option Value} {n0 : Nat} (h : Flat1 w fb m f n0) (hr : RightN f) (hn : n0 ≤ 100000) :
    Calls Tryz.prog 54 #[.pointer (some ⟨fb, 0, none⟩), .func (.func 55) #[] #[]] w (All1 w f) := by
  have HRN := Lib.hid hr
  obtain ⟨hblk, D, hown, hsz, hf⟩ := h
  have OWN := Lib.hid hown
  have HSZ := Lib.hid hsz
  have HF := Lib.hid hf
  have CL0 := Lib.hid (CollV.start (k := 38) (f := f) (D := D) hf)
  have hbl : Hid (m < w.heap.size) := Lib.hid hown.lt
  obtain ⟨N, hN⟩ : ∃ N, N = n0 := ⟨_, rfl⟩
  have HN := Lib.hid hN
  rw [← hN] at hn OWN HSZ
  obtain ⟨c0, c1⟩ := pr_cells hblk
  clear hown hsz hf hN hblk hr
  go_enter Tryz.func54, Tryz.ntmps54
  go_wp2_with (first
    | (at_range; refine wpList_range_own _ (by rfl) _ 119 (by rfl) 38 53 lawAddr Tryz.underlying119 heldR m N D (by rfl) OWN.out ?_; intro w0 hrg0 hg0 hs0)
    | go_in)
  go_frame
  obtain ⟨r, hr⟩ : ∃ r, r = w.heap.size := ⟨_, rfl⟩
  have HR := Lib.hid hr
  rw [← hr] at hrg0 ⊢
  have T0 : Hid (Touch [] w w0) := Lib.hid ((Touch.refl [] w).grown hg0 (by simp))
  rw [HSZ.out] at hrg0
  have RG0 := Lib.hid hrg0
  clear hrg0 hg0 hs0 hr c0 c1
  go_loopg [5] N (fun kq v3 wr => ∃ (left : Lit → Bool) (cnt : Nat) (l : List NeE) (A : Option Addr) (cV n : Nat), v3 = .slice A n cV ∧ cnt ≤ kq ∧ n + cnt ≤ N ∧ Hid (l.length = n) ∧ Hid (wr.ranges Tryz.prog 38 heldR m r N D left cnt) ∧ Hid (Touch [] w wr) ∧ Hid (VRow wr 53 7 (.slice A n cV) n (SK.flatL encN l)) ∧ Hid (Fresh w.heap.size (.slice A n cV)) ∧ Hid (CollV 38 f left (l.map kvN)) ∧ Hid (∀ kl, left kl = true → Maps.has D kl = true))
  case atStart => exact ⟨_, N, [], none, 0, 0, rfl, Nat.le_refl _, by omega, Lib.hid rfl, RG0, T0, Lib.hid (VRow.nil _ _ _), Lib.hid (fun _ h => by cases h), CL0, Lib.hid (fun _ h => h)⟩
  case round =>
    obtain ⟨left, cnt, l, A, cV, n, rfl, hcq, hnc, hL, hRG, hT, hV, hFR, hCL, hSUB⟩ := hrel
    go_wp2_with (first
      | (at_next; refine wpList_next_ranges (α := Int) (β := Value) _ (by rfl) (.tmp 12) (by rfl) 38 lawAddr heldR (fun x => .int .u32 x) id (fun key kl hkey => addr_inv hkey) (fun v y hv => ⟨v, rfl⟩) m r N D left cnt (by rfl) hRG.out ?_ ?_)
      | go_in)
    · intro hc0 hl0
      have CD := Lib.hid (fun l' => hCL.out.doneN (l' := l') hl0)
      clear hc0 hl0 hCL hRG
      go_wp2_with fail
      refine (sortN_calls hV.out hL.out (by omega)).mono ?_
      rintro e w5 ⟨rfl, l', hso, hv5, t5⟩
      have DN := Lib.hid (CD.out l' hso)
      have V5 := Lib.hid hv5
      have T5 := Lib.hid (hT.out.trans t5 (fun x hx => .inr (by simp only [Option.mem_toList] at hx; exact hFR.out x hx)))
      have L5 : Hid (l'.length = n) := Lib.hid (by rw [hso.1.length_eq]; exact hL.out)
      clear hso hv5 t5 CD
      go_wp2
      go_ret
      exact ⟨l', A, cV, n, rfl, L5.out, V5.out, T5.out, hFR.out, DN.out⟩
    · intro K c kl y y2 w1 cnt1 hkey hlk hy hat hrg1 hlt hg1 hs1 hen
      have hc : ∃ x : M6, f (.int .u32 K) = some (.agg (neiC K x)) ∧ c = .agg (neiC K x) := by
        have hy' : y = .held c := by
          have h9 : heldR c = some (y, y2) := hy
          unfold heldR at h9
          simp at h9
          exact h9.1.symm
        rcases HF.out (.int .u32 K) kl hkey with ⟨_, e2⟩ | ⟨v, e1, _, e3⟩
        · have := hSUB.out kl hlk
          rw [e2] at this; cases this
        · have e4 := (e3 .nil).symm.trans (hat .nil)
          rw [hy'] at e4
          injection e4 with e4
          obtain ⟨z, rfl⟩ := HRN.out _ _ e1
          exact ⟨z, e1, e4.symm⟩
      obtain ⟨x, hgx, rfl⟩ := hc
      have CL1 := Lib.hid (hCL.out.step lawAddr hkey hlk hgx)
      have hc1 : n + cnt1 + 1 ≤ N := by omega
      have hq1 : cnt1 + 1 ≤ gk := by omega
      have t1 : Touch [r] wr w1 := (Touch.refl [r] _).grown hg1 (fun k hk => .inl (by cases hk; simp))
      have T1 : Hid (Touch [] w w1) := Lib.hid (hT.out.trans t1 (fun z hz => .inr (by have := HR.out; simp at hz; omega)))
      have hrV : r ∉ (Value.slice A n cV).ownBlock.toList := by
        obtain ⟨es, clock, since, seen, c0, h1, h2, h3, h4, h5, _⟩ := hRG.out
        exact hV.out.off h5 (fun c e => by cases e)
      have V1 : Hid (VRow w1 53 7 (.slice A n cV) n (SK.flatL encN l)) := Lib.hid (hV.out.kept t1 (fun k hk hm => hrV (by simp at hm; subst hm; simp [hk])))
      have RG1 := Lib.hid hrg1
      have SUB1 : Hid (∀ z, (left z && !z.sameKey kl) = true → Maps.has D z = true) := Lib.hid (fun z hz => hSUB.out z (by rw [Bool.and_eq_true] at hz; exact hz.1))
      obtain ⟨left1, hleft1⟩ : ∃ f : Lit → Bool, f = fun z => left z && !z.sameKey kl := ⟨_, rfl⟩
      rw [← hleft1] at CL1 RG1
      have SUB2 : Hid (∀ z, left1 z = true → Maps.has D z = true) := Lib.hid (by rw [hleft1]; exact SUB1.out)
      unfold neiC at hen
      clear hkey hlk hy hat hrg1 hlt hg1 hs1 hgx hRG hT hrV t1 hleft1 SUB1 hSUB hV hCL hcq hnc
      go_upto_region 5 with (fail)
      obtain ⟨W2, hW2⟩ : ∃ W : World, W = w1.alloc (.cells #[.int .u32 K, .int .u8 x.m0, .int .u8 x.m1, .int .u8 x.m2, .int .u8 x.m3, .int .u8 x.m4, .int .u8 x.m5] 53) := ⟨_, rfl⟩
      rw [← hW2]
      have t2 : Touch [] w1 W2 := by rw [hW2]; exact (Touch.refl [] w1).alloc _
      obtain ⟨b4, hb4⟩ : ∃ b4, b4 = w1.heap.size := ⟨_, rfl⟩
      have X2 : Hid (W2.heap[b4]? = some (.cells #[.int .u32 K, .int .u8 x.m0, .int .u8 x.m1, .int .u8 x.m2, .int .u8 x.m3, .int .u8 x.m4, .int .u8 x.m5] 53 (0, 0))) := Lib.hid (by rw [hW2, hb4]; exact box_at _ _)
      have T2 := Lib.hid (T1.out.trans t2 (by simp))
      have RG2 := Lib.hid (ranges_keptV RG1.out t2 (by simp) (by simp))
      have V2 := Lib.hid (V1.out.kept t2 (by simp))
      rw [← hb4]
      clear hb4 hW2 t2 T1 RG1 V1 hen
      have x0 := (show W2.cell? ⟨b4, 0, none⟩ = some (.int .u32 K) by simp [World.cell?, X2.out])
      have x1 := (show W2.cell? ⟨b4, 1, none⟩ = some (.int .u8 x.m0) by simp [World.cell?, X2.out])
      have x2 := (show W2.cell? ⟨b4, 2, none⟩ = some (.int .u8 x.m1) by simp [World.cell?, X2.out])
      have x3 := (show W2.cell? ⟨b4, 3, none⟩ = some (.int .u8 x.m2) by simp [World.cell?, X2.out])
      have x4 := (show W2.cell? ⟨b4, 4, none⟩ = some (.int .u8 x.m3) by simp [World.cell?, X2.out])
      have x5 := (show W2.cell? ⟨b4, 5, none⟩ = some (.int .u8 x.m4) by simp [World.cell?, X2.out])
      have x6 := (show W2.cell? ⟨b4, 6, none⟩ = some (.int .u8 x.m5) by simp [World.cell?, X2.out])
      have nr : Hid (m ∉ (Value.slice A n cV).ownBlock.toList ∧ r ∉ (Value.slice A n cV).ownBlock.toList) := Lib.hid (by
        obtain ⟨es, clock, since, seen, c0, h1, h2, h3, h4, h5, _⟩ := RG2.out
        exact ⟨V2.out.off h1 (fun c e => by cases e), V2.out.off h5 (fun c e => by cases e)⟩)
      go_wp2_with (at_builtin; refine wpList_append_vr (by rfl) (.tmp 17) (.tmp 19) 63 53 7 12 _ Tryz.underlying63 (by rfl) infoN rfl (by omega) (by omega) (.slice A n cV) n (SK.flatL encN l) 1 #[.int .u32 K, .int .u8 x.m0, .int .u8 x.m1, .int .u8 x.m2, .int .u8 x.m3, .int .u8 x.m4, .int .u8 x.m5] (by rfl) V2.out (by rfl) (by rfl) (by simp [Value.oneCell']) (by omega) ?_; intro A5 c5 w5 v5 t5 o5)
      have V5 := Lib.hid v5
      have T5 := Lib.hid t5
      have O5 := Lib.hid o5
      clear v5 t5 o5
      have TT := Lib.hid (T2.out.trans T5.out (fun x hx => .inr (by simp only [Option.mem_toList] at hx; exact hFR.out x hx)))
      have RG5 := Lib.hid (ranges_keptV RG2.out T5.out nr.out.1 nr.out.2)
      have FR5 : Hid (Fresh w.heap.size (.slice A5 (n + 1) c5)) := Lib.hid (by
        intro b hb
        rcases O5.out with h1 | ⟨b', h1, h2⟩
        · exact hFR.out b (by rw [← h1]; exact hb)
        · rw [hb] at h1
          cases h1
          exact Nat.le_trans T2.out.size h2)
      have V6 : Hid (VRow w5 53 7 (.slice A5 (n + 1) c5) (n + 1) (SK.flatL encN (l ++ [⟨K, x⟩]))) := Lib.hid (by
        have h1 := V5.out
        rw [show SK.flatL encN (l ++ [⟨K, x⟩]) = SK.flatL encN l ++ (neiC K x).toList by simp [SK.flatL, encN]]
        exact h1)
      have L6 : Hid ((l ++ [(⟨K, x⟩ : NeE)]).length = n + 1) := Lib.hid (by rw [List.length_append, hL.out]; rfl)
      have CL6 : Hid (CollV 38 f left1 ((l ++ [(⟨K, x⟩ : NeE)]).map kvN)) := Lib.hid (by rw [List.map_append]; exact CL1.out)
      clear x0 x1 x2 x3 x4 x5 x6 T5 V5 O5 hFR V2 RG2 T2 CL1
      go_wp2
      go_roundg cnt1
      case rel => exact ⟨left1, cnt1, _, A5, c5, n + 1, by first | rfl | simp, Nat.le_refl _, by omega, L6, RG5, TT, V6, FR5, CL6, SUB2⟩
      case measure => omega
end Go.Proofs.YtnpeafhjcelpfaaGreat.Tri

/- flat.all of entries: what it answers; no condition. -/
namespace Go.Proofs.YtnpeafhjcelpfaaGreat.Tri
open Go.RowKit Go.Maps
set_option linter.unusedVariables false
set_option linter.unusedSimpArgs false
set_option maxRecDepth 100000

/-- One MAC is below another one. -/
def mlt (a b : M6) : Prop := a.m0 < b.m0 ∨ (a.m0 = b.m0 ∧ (a.m1 < b.m1 ∨ (a.m1 = b.m1 ∧ (a.m2 < b.m2 ∨ (a.m2 = b.m2 ∧ (a.m3 < b.m3 ∨ (a.m3 = b.m3 ∧ (a.m4 < b.m4 ∨ (a.m4 = b.m4 ∧ a.m5 < b.m5)))))))))
instance (a b : M6) : Decidable (mlt a b) := by unfold mlt; infer_instance
theorem byte_lt {x y : Int} (hx : 0 ≤ x ∧ x < 256) (hy : 0 ≤ y ∧ y < 256) : (UInt8.ofNat x.toNat < UInt8.ofNat y.toNat) ↔ x < y := by
  rw [UInt8.lt_iff_toNat_lt]
  simp only [UInt8.toNat_ofNat']
  omega
theorem cons_lt {x y : Int} (hx : 0 ≤ x ∧ x < 256) (hy : 0 ≤ y ∧ y < 256) (p q : List UInt8) : Lib.compareBytes (UInt8.ofNat x.toNat :: p) (UInt8.ofNat y.toNat :: q) < 0 ↔ x < y ∨ (x = y ∧ Lib.compareBytes p q < 0) := by
  rw [show Lib.compareBytes (UInt8.ofNat x.toNat :: p) (UInt8.ofNat y.toNat :: q) = if UInt8.ofNat x.toNat < UInt8.ofNat y.toNat then -1 else if UInt8.ofNat y.toNat < UInt8.ofNat x.toNat then 1 else Lib.compareBytes p q from rfl]
  simp only [byte_lt hx hy, byte_lt hy hx]
  split
  · constructor <;> intro h <;> omega
  · split
    · constructor <;> intro h <;> omega
    · constructor <;> intro h <;> omega
theorem cmpM_lt {a b : M6} (ha : a.wf) (hb : b.wf) : cmpM a b < 0 ↔ mlt a b := by
  unfold cmpM macL Lib.bytesOf mlt
  simp only [List.map_cons, List.map_nil]
  rw [cons_lt ha.h0 hb.h0, cons_lt ha.h1 hb.h1, cons_lt ha.h2 hb.h2, cons_lt ha.h3 hb.h3, cons_lt ha.h4 hb.h4, cons_lt ha.h5 hb.h5]
  simp [Lib.compareBytes]
theorem lex_tri {a b : Int} {P Q R : Prop} (h : ¬ (b < a ∨ (b = a ∧ P))) (hr : a = b → ¬ P → R → Q) (hR : a = b → R) : a < b ∨ (a = b ∧ Q) := by
  by_cases e : a = b
  · exact .inr ⟨e, hr e (fun p => h (.inr ⟨e.symm, p⟩)) (hR e)⟩
  · exact .inl (by
      have : ¬ b < a := fun p => h (.inl p)
      omega)
theorem mlt_tri {a b : M6} (h : ¬ mlt b a) (hne : a ≠ b) : mlt a b := by
  obtain ⟨a0, a1, a2, a3, a4, a5⟩ := a
  obtain ⟨b0, b1, b2, b3, b4, b5⟩ := b
  simp only [ne_eq, M6.mk.injEq, not_and] at hne
  unfold mlt at *
  dsimp only at *
  refine lex_tri h (fun e1 h hne => ?_) hne
  refine lex_tri h (fun e1 h hne => ?_) hne
  refine lex_tri h (fun e1 h hne => ?_) hne
  refine lex_tri h (fun e1 h hne => ?_) hne
  refine lex_tri h (fun e1 h hne => ?_) hne
  omega
theorem infoF : (Tryz.prog.info? 55).map (fun i => (i.zero, i.size, i.bytes)) = some (some (.agg (fdbC ⟨0, 0, 0, 0, 0, 0⟩ 0)), 7, 12) := by kernel_rfl
def kvF (x : FdE) : Value × Value := (macV x.m, .agg (fdbC x.m x.ua))
/-- Just what f holds, rising. -/
structure AllF (f : Value → Option Value) (l : List FdE) : Prop where
  isIn : ∀ x ∈ l, f (macV x.m) = some (.agg (fdbC x.m x.ua)) ∧ x.m.wf
  all : ∀ (m : M6) v, m.wf → f (macV m) = some v → ∃ y ∈ l, y.m = m
  up : l.Pairwise fun x y => mlt x.m y.m
def All2 (w : World) (f : Value → Option Value) (e : Ending) (w' : World) : Prop :=
  ∃ (l : List FdE) (A : Option Addr) (c n : Nat), e = .returned (.slice A n c) ∧ l.length = n ∧ VRow w' 55 7 (.slice A n c) n (SK.flatL encF l) ∧ Touch [] w w' ∧ Fresh w.heap.size (.slice A n c) ∧ AllF f l
theorem CollV.doneF {f : Value → Option Value} {left : Lit → Bool} {l l' : List FdE} (h : CollV 51 f left (l.map kvF)) (h0 : ∀ kl, left kl = false) (hs : SortedF l' l) : AllF f l' := by
  obtain ⟨hp, hu⟩ := hs
  have hI : ∀ x ∈ l', f (macV x.m) = some (.agg (fdbC x.m x.ua)) ∧ x.m.wf := by
    intro x hx
    obtain ⟨h1, kl, h2, _⟩ := h.isIn (kvF x) (List.mem_map.2 ⟨x, hp.mem_iff.1 hx, rfl⟩)
    obtain ⟨m, hm, e⟩ := mac_inv h2
    obtain rfl := macV_inj (show macV x.m = macV m from e)
    exact ⟨h1, hm⟩
  refine ⟨hI, ?_, ?_⟩
  · intro m v hm hv
    obtain ⟨kl, hk⟩ := mac_some hm
    rcases h.all (macV m) v kl hk hv with h1 | ⟨y, hy, e⟩
    · rw [h0] at h1; cases h1
    · obtain ⟨z, hz, rfl⟩ := List.mem_map.1 hy
      exact ⟨z, hp.mem_iff.2 hz, macV_inj e⟩
  · have hn : (l'.map (fun x => x.m)).Nodup := by
      have h1 : (l.map (fun x => (kvF x).1)).Nodup := by have := h.nodup; rwa [List.map_map] at this
      have h2 : (l'.map (fun x => (kvF x).1)).Nodup := (hp.map _).nodup_iff.2 h1
      rw [List.Nodup, List.pairwise_map] at h2 ⊢
      exact h2.imp (fun h e => h (by simp [kvF, e]))
    rw [List.Nodup, List.pairwise_map] at hn
    have hb : l'.Pairwise fun x y => x.m.wf ∧ y.m.wf := by
      rw [List.pairwise_iff_forall_sublist]
      intro a b hab
      have h1 := hab.subset
      exact ⟨(hI a (h1 (by simp))).2, (hI b (h1 (by simp))).2⟩
    exact ((hu.and hn).and hb).imp (fun ⟨⟨h1, h2⟩, h3, h4⟩ => mlt_tri (fun h => h1 ((cmpM_lt h4 h3).2 h)) h2)
end Go.Proofs.YtnpeafhjcelpfaaGreat.Tri

/- flat.all of entries: the walk; no condition. -/
namespace Go.Proofs.YtnpeafhjcelpfaaGreat.Tri
open Go.RowKit Go.Maps
set_option linter.unusedVariables false
set_option linter.unusedSimpArgs false
set_option maxRecDepth 100000

/-- What f holds is an entry of that key. -/
def RightF (f : Value → Option Value) : Prop := ∀ (m : M6) v, f (macV m) = some v → ∃ u : Int, v = .agg (fdbC m u)
set_option maxHeartbeats 4000000 in
theorem all2_calls {w : World} {fb m : Nat} {f : Value → Option Value} {n0 : Nat} (h : Flat2 w fb m f n0) (hr : RightF f) (hn : n0 ≤ 100000) :
    Calls Tryz.prog 57 #[.pointer (some ⟨fb, 0, none⟩), .func (.func 58) #[] #[]] w (All2 w f) := by
  have HRN := Lib.hid hr
  obtain ⟨hblk, D, hown, hsz, hf⟩ := h
  have OWN := Lib.hid hown
  have HSZ := Lib.hid hsz
  have HF := Lib.hid hf
  have CL0 := Lib.hid (CollV.start (k := 51) (f := f) (D := D) hf)
  have hbl : Hid (m < w.heap.size) := Lib.hid hown.lt
  obtain ⟨N, hN⟩ : ∃ N, N = n0 := ⟨_, rfl⟩
  have HN := Lib.hid hN
  rw [← hN] at hn OWN HSZ
  obtain ⟨c0, c1⟩ := pr_cells hblk
  clear hown hsz hf hN hblk hr
  go_enter Tryz.func57, Tryz.ntmps57
  go_wp2_with (first
    | (at_range; refine wpList_range_own _ (by rfl) _ 124 (by rfl) 51 55 lawMac Tryz.underlying124 heldR m N D (by rfl) OWN.out ?_; intro w0 hrg0 hg0 hs0)
    | go_in)
  go_frame
  obtain ⟨r, hr⟩ : ∃ r, r = w.heap.size := ⟨_, rfl⟩
  have HR := Lib.hid hr
  rw [← hr] at hrg0 ⊢
  have T0 : Hid (Touch [] w w0) := Lib.hid ((Touch.refl [] w).grown hg0 (by simp))
  rw [HSZ.out] at hrg0
  have RG0 := Lib.hid hrg0
  clear hrg0 hg0 hs0 hr c0 c1
  go_loopg [5] N (fun kq v3 wr => ∃ (left : Lit → Bool) (cnt : Nat) (l : List FdE) (A : Option Addr) (cV n : Nat), v3 = .slice A n cV ∧ cnt ≤ kq ∧ n + cnt ≤ N ∧ Hid (l.length = n) ∧ Hid (wr.ranges Tryz.prog 51 heldR m r N D left cnt) ∧ Hid (Touch [] w wr) ∧ Hid (VRow wr 55 7 (.slice A n cV) n (SK.flatL encF l)) ∧ Hid (Fresh w.heap.size (.slice A n cV)) ∧ Hid (CollV 51 f left (l.map kvF)) ∧ Hid (∀ kl, left kl = true → Maps.has D kl = true))
  case atStart => exact ⟨_, N, [], none, 0, 0, rfl, Nat.le_refl _, by omega, Lib.hid rfl, RG0, T0, Lib.hid (VRow.nil _ _ _), Lib.hid (fun _ h => by cases h), CL0, Lib.hid (fun _ h => h)⟩
  case round =>
    obtain ⟨left, cnt, l, A, cV, n, rfl, hcq, hnc, hL, hRG, hT, hV, hFR, hCL, hSUB⟩ := hrel
    go_wp2_with (first
      | (at_next; refine wpList_next_ranges (α := M6) (β := Value) _ (by rfl) (.tmp 12) (by rfl) 51 lawMac heldR macV id (fun key kl hkey => by obtain ⟨m', _, e⟩ := mac_inv hkey; exact ⟨m', e⟩) (fun v y hv => ⟨v, rfl⟩) m r N D left cnt (by rfl) hRG.out ?_ ?_)
      | go_in)
    · intro hc0 hl0
      have CD := Lib.hid (fun l' => hCL.out.doneF (l' := l') hl0)
      clear hc0 hl0 hCL hRG
      go_wp2_with fail
      refine (sortF_calls hV.out hL.out (by omega)).mono ?_
      rintro e w5 ⟨rfl, l', hso, hv5, t5⟩
      have DN := Lib.hid (CD.out l' hso)
      have V5 := Lib.hid hv5
      have T5 := Lib.hid (hT.out.trans t5 (fun x hx => .inr (by simp only [Option.mem_toList] at hx; exact hFR.out x hx)))
      have L5 : Hid (l'.length = n) := Lib.hid (by rw [hso.1.length_eq]; exact hL.out)
      clear hso hv5 t5 CD
      go_wp2
      go_ret
      exact ⟨l', A, cV, n, rfl, L5.out, V5.out, T5.out, hFR.out, DN.out⟩
    · intro K c kl y y2 w1 cnt1 hkey hlk hy hat hrg1 hlt hg1 hs1 hen
      have hc : ∃ x : Int, f (macV K) = some (.agg (fdbC K x)) ∧ c = .agg (fdbC K x) := by
        have hy' : y = .held c := by
          have h9 : heldR c = some (y, y2) := hy
          unfold heldR at h9
          simp at h9
          exact h9.1.symm
        rcases HF.out (macV K) kl hkey with ⟨_, e2⟩ | ⟨v, e1, _, e3⟩
        · have := hSUB.out kl hlk
          rw [e2] at this; cases this
        · have e4 := (e3 .nil).symm.trans (hat .nil)
          rw [hy'] at e4
          injection e4 with e4
          obtain ⟨z, rfl⟩ := HRN.out _ _ e1
          exact ⟨z, e1, e4.symm⟩
      obtain ⟨x, hgx, rfl⟩ := hc
      have CL1 := Lib.hid (hCL.out.step lawMac hkey hlk hgx)
      have hc1 : n + cnt1 + 1 ≤ N := by omega
      have hq1 : cnt1 + 1 ≤ gk := by omega
      have t1 : Touch [r] wr w1 := (Touch.refl [r] _).grown hg1 (fun k hk => .inl (by cases hk; simp))
      have T1 : Hid (Touch [] w w1) := Lib.hid (hT.out.trans t1 (fun z hz => .inr (by have := HR.out; simp at hz; omega)))
      have hrV : r ∉ (Value.slice A n cV).ownBlock.toList := by
        obtain ⟨es, clock, since, seen, c0, h1, h2, h3, h4, h5, _⟩ := hRG.out
        exact hV.out.off h5 (fun c e => by cases e)
      have V1 : Hid (VRow w1 55 7 (.slice A n cV) n (SK.flatL encF l)) := Lib.hid (hV.out.kept t1 (fun k hk hm => hrV (by simp at hm; subst hm; simp [hk])))
      have RG1 := Lib.hid hrg1
      have SUB1 : Hid (∀ z, (left z && !z.sameKey kl) = true → Maps.has D z = true) := Lib.hid (fun z hz => hSUB.out z (by rw [Bool.and_eq_true] at hz; exact hz.1))
      obtain ⟨left1, hleft1⟩ : ∃ f : Lit → Bool, f = fun z => left z && !z.sameKey kl := ⟨_, rfl⟩
      rw [← hleft1] at CL1 RG1
      have SUB2 : Hid (∀ z, left1 z = true → Maps.has D z = true) := Lib.hid (by rw [hleft1]; exact SUB1.out)
      unfold fdbC at hen
      clear hkey hlk hy hat hrg1 hlt hg1 hs1 hgx hRG hT hrV t1 hleft1 SUB1 hSUB hV hCL hcq hnc
      go_upto_region 5 with (fail)
      obtain ⟨W2, hW2⟩ : ∃ W : World, W = w1.alloc (.cells #[.int .u8 K.m0, .int .u8 K.m1, .int .u8 K.m2, .int .u8 K.m3, .int .u8 K.m4, .int .u8 K.m5, .int .u32 x] 55) := ⟨_, rfl⟩
      rw [← hW2]
      have t2 : Touch [] w1 W2 := by rw [hW2]; exact (Touch.refl [] w1).alloc _
      obtain ⟨b4, hb4⟩ : ∃ b4, b4 = w1.heap.size := ⟨_, rfl⟩
      have X2 : Hid (W2.heap[b4]? = some (.cells #[.int .u8 K.m0, .int .u8 K.m1, .int .u8 K.m2, .int .u8 K.m3, .int .u8 K.m4, .int .u8 K.m5, .int .u32 x] 55 (0, 0))) := Lib.hid (by rw [hW2, hb4]; exact box_at _ _)
      have T2 := Lib.hid (T1.out.trans t2 (by simp))
      have RG2 := Lib.hid (ranges_keptV RG1.out t2 (by simp) (by simp))
      have V2 := Lib.hid (V1.out.kept t2 (by simp))
      rw [← hb4]
      clear hb4 hW2 t2 T1 RG1 V1 hen
      have x0 := (show W2.cell? ⟨b4, 0, none⟩ = some (.int .u8 K.m0) by simp [World.cell?, X2.out])
      have x1 := (show W2.cell? ⟨b4, 1, none⟩ = some (.int .u8 K.m1) by simp [World.cell?, X2.out])
      have x2 := (show W2.cell? ⟨b4, 2, none⟩ = some (.int .u8 K.m2) by simp [World.cell?, X2.out])
      have x3 := (show W2.cell? ⟨b4, 3, none⟩ = some (.int .u8 K.m3) by simp [World.cell?, X2.out])
      have x4 := (show W2.cell? ⟨b4, 4, none⟩ = some (.int .u8 K.m4) by simp [World.cell?, X2.out])
      have x5 := (show W2.cell? ⟨b4, 5, none⟩ = some (.int .u8 K.m5) by simp [World.cell?, X2.out])
      have x6 := (show W2.cell? ⟨b4, 6, none⟩ = some (.int .u32 x) by simp [World.cell?, X2.out])
      have nr : Hid (m ∉ (Value.slice A n cV).ownBlock.toList ∧ r ∉ (Value.slice A n cV).ownBlock.toList) := Lib.hid (by
        obtain ⟨es, clock, since, seen, c0, h1, h2, h3, h4, h5, _⟩ := RG2.out
        exact ⟨V2.out.off h1 (fun c e => by cases e), V2.out.off h5 (fun c e => by cases e)⟩)
      go_wp2_with (at_builtin; refine wpList_append_vr (by rfl) (.tmp 17) (.tmp 19) 64 55 7 12 _ Tryz.underlying64 (by rfl) infoF rfl (by omega) (by omega) (.slice A n cV) n (SK.flatL encF l) 1 #[.int .u8 K.m0, .int .u8 K.m1, .int .u8 K.m2, .int .u8 K.m3, .int .u8 K.m4, .int .u8 K.m5, .int .u32 x] (by rfl) V2.out (by rfl) (by rfl) (by simp [Value.oneCell']) (by omega) ?_; intro A5 c5 w5 v5 t5 o5)
      have V5 := Lib.hid v5
      have T5 := Lib.hid t5
      have O5 := Lib.hid o5
      clear v5 t5 o5
      have TT := Lib.hid (T2.out.trans T5.out (fun x hx => .inr (by simp only [Option.mem_toList] at hx; exact hFR.out x hx)))
      have RG5 := Lib.hid (ranges_keptV RG2.out T5.out nr.out.1 nr.out.2)
      have FR5 : Hid (Fresh w.heap.size (.slice A5 (n + 1) c5)) := Lib.hid (by
        intro b hb
        rcases O5.out with h1 | ⟨b', h1, h2⟩
        · exact hFR.out b (by rw [← h1]; exact hb)
        · rw [hb] at h1
          cases h1
          exact Nat.le_trans T2.out.size h2)
      have V6 : Hid (VRow w5 55 7 (.slice A5 (n + 1) c5) (n + 1) (SK.flatL encF (l ++ [⟨K, x⟩]))) := Lib.hid (by
        have h1 := V5.out
        rw [show SK.flatL encF (l ++ [⟨K, x⟩]) = SK.flatL encF l ++ (fdbC K x).toList by simp [SK.flatL, encF]]
        exact h1)
      have L6 : Hid ((l ++ [(⟨K, x⟩ : FdE)]).length = n + 1) := Lib.hid (by rw [List.length_append, hL.out]; rfl)
      have CL6 : Hid (CollV 51 f left1 ((l ++ [(⟨K, x⟩ : FdE)]).map kvF)) := Lib.hid (by rw [List.map_append]; exact CL1.out)
      clear x0 x1 x2 x3 x4 x5 x6 T5 V5 O5 hFR V2 RG2 T2 CL1
      go_wp2
      go_roundg cnt1
      case rel => exact ⟨left1, cnt1, _, A5, c5, n + 1, by first | rfl | simp, Nat.le_refl _, by omega, L6, RG5, TT, V6, FR5, CL6, SUB2⟩
      case measure => omega
end Go.Proofs.YtnpeafhjcelpfaaGreat.Tri

