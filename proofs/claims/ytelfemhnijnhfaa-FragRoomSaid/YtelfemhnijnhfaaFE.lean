/- ip4.Build, its parts; no condition. -/
import Derived.Test.YtelfemhnijnhfaaFD
namespace Go.Proofs.Ytelfemhnijnhfaa.Fr
open Go.RowKit Go.Maps
set_option linter.unusedVariables false
set_option maxRecDepth 100000
attribute [local go_sem] nilB

def putW (l : List Int) (i : Nat) (v : Int) : List Int := (l.set i (v / 256)).set (i + 1) (v % 256)
def putL (l : List Int) (i : Nat) (v : Int) : List Int := putW (putW l i (v / 65536)) (i + 2) (v % 65536)
theorem putW_len (l : List Int) (i : Nat) (v : Int) : (putW l i v).length = l.length := by simp [putW]
theorem putL_len (l : List Int) (i : Nat) (v : Int) : (putL l i v).length = l.length := by simp [putL, putW]
theorem okB_set {l : List Int} (h : okB l) (i : Nat) {v : Int} (hv : 0 ≤ v ∧ v < 256) : okB (l.set i v) := by
  intro x hx
  rcases List.mem_or_eq_of_mem_set hx with hx | rfl
  · exact h x hx
  · exact hv
theorem okB_putW {l : List Int} (h : okB l) (i : Nat) {v : Int} (hv : 0 ≤ v ∧ v < 65536) : okB (putW l i v) := okB_set (okB_set h i (by omega)) (i + 1) (by omega)
theorem encB_set (l : List Int) (i : Nat) (v : Int) : encB (l.set i v) = (encB l).set i (.int .u8 v) := by simp [encB, List.map_set]
theorem OwB.formP {w : World} {V : Value} {l : List Int} (h : OwB w V l) (h0 : 0 < l.length) : ∃ g cap cur, V = .slice (some ⟨g, 0, none⟩) l.length cap ∧ l.length ≤ cap ∧ w.heap[g]? = some (.cells cur 5 (0, 0)) ∧ ∀ (i : Nat) (x : Int), l[i]? = some x → w.cell? ⟨g, i, none⟩ = some (.int .u8 x) := by
  rcases h.row.own.2 with ⟨_, hn⟩ | ⟨g, cap, cur, rfl, _, hg, hnc, _⟩
  · omega
  · refine ⟨g, cap, cur, rfl, hnc, hg, fun i x hx => ?_⟩
    have hi := (List.getElem?_eq_some_iff.1 hx).1
    exact (World.ownsRow.cellAt h.row.own i (by omega)).trans (encB_get hx)
theorem OwB.stored {w : World} {g cap : Nat} {l : List Int} (h : OwB w (.slice (some ⟨g, 0, none⟩) l.length cap) l) (i : Nat) {v : Int} (hv : 0 ≤ v ∧ v < 256) : OwB (w.setCell ⟨g, i, none⟩ (.int .u8 v)) (.slice (some ⟨g, 0, none⟩) l.length cap) (l.set i v) := by
  refine ⟨⟨?_⟩, okB_set h.wf i hv⟩
  rw [encB_set, List.length_set]
  exact (World.ownsRow.stored h.row.own i (.int .u8 v)).1
theorem OwB.setc {w : World} {g n cap : Nat} {l : List Int} (h : OwB w (.slice (some ⟨g, 0, none⟩) n cap) l) (i : Nat) {v : Int} (hv : 0 ≤ v ∧ v < 256) : OwB (w.setCell ⟨g, i, none⟩ (.int .u8 v)) (.slice (some ⟨g, 0, none⟩) n cap) (l.set i v) := by
  obtain ⟨A, c, e⟩ := h.row.form
  simp only [Value.slice.injEq] at e
  obtain ⟨_, rfl, _⟩ := e
  exact h.stored i hv
theorem OwB.at_ {w : World} {g n cap : Nat} {l : List Int} (h : OwB w (.slice (some ⟨g, 0, none⟩) n cap) l) {i : Nat} (hi : i < n) : (∃ x, w.cell? ⟨g, i, none⟩ = some (.int .u8 x)) ∧ w.frozen? ⟨g, i, none⟩ = false := by
  obtain ⟨A, c, e⟩ := h.row.form
  simp only [Value.slice.injEq] at e
  obtain ⟨_, rfl, _⟩ := e
  obtain ⟨g', cap', cur, e, _, hcur, hc⟩ := h.formP (by omega)
  simp only [Value.slice.injEq, Option.some.injEq, Addr.mk.injEq, and_true, true_and] at e
  obtain ⟨rfl, rfl⟩ := e
  exact ⟨⟨_, hc i _ (List.getElem?_eq_getElem hi)⟩, box_frozen hcur i⟩
theorem u16_hi {v : Int} (h : 0 ≤ v ∧ v < 65536) : (v / 256) % 256 = v / 256 := by omega
set_option maxHeartbeats 1000000 in
theorem putw_calls {w : World} {V : Value} {l : List Int} (h : OwB w V l) (i : Nat) (I : Int) (hI : I = (i : Int)) (v : Int) (hi : i + 1 < l.length) (hv : 0 ≤ v ∧ v < 65536) (hlen : l.length < 4611686018427387904) :
    Calls Try.prog 39 #[V, .int .i64 I, .int .u16 v] w fun e w' => e = .returned (.tuple #[]) ∧ OwB w' V (putW l i v) ∧ Touch V.ownBlock.toList w w' := by
  subst hI
  obtain ⟨g, cap, cur, rfl, hcap, hcur, hc⟩ := h.formP (by omega)
  have k0 := hc i _ (List.getElem?_eq_getElem (by omega))
  have k1 := hc (i + 1) _ (List.getElem?_eq_getElem hi)
  have z0 := box_frozen hcur i
  have z1 := box_frozen hcur (i + 1)
  have b1 : (i : Int) < (l.length : Int) := by omega
  have b2 : (i : Int) + 1 < (l.length : Int) := by omega
  have H1 : OwB ((w.setCell ⟨g, i, none⟩ (.int .u8 (v / 256))).setCell ⟨g, i + 1, none⟩ (.int .u8 (v % 256))) (.slice (some ⟨g, 0, none⟩) l.length cap) (putW l i v) := by
    have := (h.stored i (v := v / 256) (by omega))
    have h2 := OwB.stored (l := l.set i (v / 256)) (by rw [List.length_set]; exact this) (i + 1) (v := v % 256) (by omega)
    rw [List.length_set] at h2
    exact h2
  have HF := Lib.hid H1
  have HT : Hid (Touch [g] w ((w.setCell ⟨g, i, none⟩ (.int .u8 (v / 256))).setCell ⟨g, i + 1, none⟩ (.int .u8 (v % 256)))) := Lib.hid (((Touch.refl _ w).setCell _ _ (.inl (by simp))).setCell _ _ (.inl (by simp)))
  obtain ⟨v0, v1⟩ := hv
  clear H1 h hcur hc
  go_enter Try.func39, Try.ntmps39
  go_wp2
  go_end0
  exact ⟨rfl, HF.out, by simpa [Value.ownBlock] using HT.out⟩
set_option maxHeartbeats 1000000 in
theorem putl_calls {w : World} {V : Value} {l : List Int} (h : OwB w V l) (i : Nat) (I : Int) (hI : I = (i : Int)) (v : Int) (hi : i + 3 < l.length) (hv : 0 ≤ v ∧ v < 4294967296) (hlen : l.length < 4611686018427387904) :
    Calls Try.prog 40 #[V, .int .i64 I, .int .u32 v] w fun e w' => e = .returned (.tuple #[]) ∧ OwB w' V (putL l i v) ∧ Touch V.ownBlock.toList w w' := by
  subst hI
  obtain ⟨g, cap, cur, rfl, _⟩ := h.formP (by omega)
  have H := Lib.hid h
  obtain ⟨v0, v1⟩ := hv
  clear h
  go_enter Try.func40, Try.ntmps40
  go_wp2_with fail
  refine (putw_calls H.out i i rfl (v / 65536) (by omega) (by omega) hlen).mono ?_
  rintro e w1 ⟨rfl, h1, t1⟩
  have H1 := Lib.hid h1
  have T1 := Lib.hid t1
  have hc : Hid ((i : Int) + 2 = ((i + 2 : Nat) : Int)) := Lib.hid (by omega)
  clear h1 t1
  go_wp2_with fail
  rw [hc.out]
  refine (putw_calls (l := putW l i (v / 65536)) H1.out (i + 2) _ rfl (v % 65536) (by rw [putW_len]; omega) (by omega) (by rw [putW_len]; exact hlen)).mono ?_
  rintro e w2 ⟨rfl, h2, t2⟩
  have H2 := Lib.hid h2
  have T2 := Lib.hid (T1.out.trans t2 (fun x hx => .inl hx))
  clear h2 t2
  go_wp2
  go_end0
  exact ⟨rfl, H2.out, T2.out⟩
def foldI (t : Int) : Int := if t = 0 then 0 else 1 + (t - 1) % 65535
theorem foldI_small {t : Int} (h0 : 0 ≤ t) (h : t ≤ 65535) : foldI t = t := by unfold foldI; split <;> omega
theorem foldI_step {t : Int} (h : 65535 < t) : foldI (t / 65536 + t % 65536) = foldI t := by
  unfold foldI
  rw [if_neg (by omega), if_neg (by omega)]
  have : t = t / 65536 * 65536 + t % 65536 := by omega
  omega
theorem and_ffff {t : Int} (h0 : 0 ≤ t) (h : t < 1099511627776) : bits .and .u64 t 65535 = t % 65536 := by
  have := bits_mask .u64 64 (by decide) (fun n h0 h1 => by rw [IntKind.wrap_u64]; omega) 16 (by decide) t h0 (by omega)
  simpa using this
set_option maxHeartbeats 1000000 in
theorem folded_calls (w : World) (t : Int) (h0 : 0 ≤ t) (h1 : t < 1099511627776) :
    Calls Try.prog 70 #[.int .u64 t] w fun e w' => e = .returned (.int .u16 (foldI t)) ∧ w' = w := by
  go_enter Try.func70, Try.ntmps70
  go_wp2
  go_loopg [0] t.toNat (fun kq v wr => ∃ x : Int, v = .int .u64 x ∧ 0 ≤ x ∧ x < 1099511627776 ∧ Hid (foldI x = foldI t) ∧ Hid (wr = w) ∧ Hid (x.toNat ≤ kq))
  case atStart => exact ⟨t, rfl, h0, h1, Lib.hid rfl, Lib.hid rfl, Lib.hid (Nat.le_refl _)⟩
  case round =>
    obtain ⟨x, rfl, x0, x1, hf, hw, hk⟩ := hrel
    obtain rfl := hw.out
    by_cases hx : 65535 < x
    · have ha := and_ffff x0 x1
      have HS := Lib.hid (foldI_step hx)
      go_wp2
      go_roundg (gk - 1)
      case rel => exact ⟨_, rfl, by omega, by omega, Lib.hid (by rw [HS.out, hf.out]), Lib.hid rfl, Lib.hid (by have := hk.out; omega)⟩
      case measure => have := hk.out; omega
    · have HS := Lib.hid (foldI_small x0 (by omega))
      go_wp2
      go_ret
      exact ⟨ret_int (by rw [← hf.out, HS.out]), rfl⟩
theorem xor_u16 {x : Int} (h0 : 0 ≤ x) (h1 : x ≤ 65535) : bits .xor .u16 IntKind.u16.max x = 65535 - x := by
  obtain ⟨n, rfl⟩ := Int.eq_ofNat_of_zero_le h0
  have e : IntKind.u16.max = ((65535 : Nat) : Int) := by decide
  have hn : n < 65536 := by omega
  rw [e, u16_xor_nat 65535 n (by decide) hn]
  have h := congrArg BitVec.toNat (BitVec.allOnes_xor (x := BitVec.ofNat 16 n))
  rw [BitVec.toNat_xor, BitVec.toNat_allOnes, BitVec.toNat_not, BitVec.toNat_ofNat, Nat.mod_eq_of_lt (by omega)] at h
  have h2 : (65535 ^^^ n) = 65535 - n := by simpa using h
  rw [h2]; omega
/-! ### the sum -/
def wsum : List Int → Bool → Int
  | [], _ => 0
  | x :: r, hi => (if hi then 256 * x else x) + wsum r (!hi)
theorem wsum_snoc (l : List Int) (x : Int) : ∀ hi, wsum (l ++ [x]) hi = wsum l hi + (if hi = (l.length % 2 == 0) then 256 * x else x) := by
  induction l with
  | nil => intro hi; cases hi <;> simp [wsum]
  | cons y l ih =>
    intro hi
    simp only [List.cons_append, wsum, ih, List.length_cons]
    have : ((!hi) = (l.length % 2 == 0)) ↔ (hi = ((l.length + 1) % 2 == 0)) := by
      rcases Nat.mod_two_eq_zero_or_one l.length with h | h
      · have h2 : (l.length + 1) % 2 = 1 := by omega
        rw [h, h2]; cases hi <;> decide
      · have h2 : (l.length + 1) % 2 = 0 := by omega
        rw [h, h2]; cases hi <;> decide
    simp only [this]
    omega
theorem par_succ (n : Nat) : ((n + (0 + 1)) % 2 == 0) = !(n % 2 == 0) := by
  rcases Nat.mod_two_eq_zero_or_one n with h | h
  · have h2 : (n + (0 + 1)) % 2 = 1 := by omega
    rw [h, h2]; rfl
  · have h2 : (n + (0 + 1)) % 2 = 0 := by omega
    rw [h, h2]; rfl
theorem wsum_bd {l : List Int} (h : okB l) : ∀ hi, 0 ≤ wsum l hi ∧ wsum l hi ≤ 65280 * l.length := by
  induction l with
  | nil => intro hi; simp [wsum]
  | cons y l ih =>
    intro hi
    have h1 := ih (fun x hx => h x (by simp [hx])) (!hi)
    have h2 := h y (by simp)
    simp only [wsum, List.length_cons]
    split <;> omega
/-- Lists of bytes in a row. -/
structure RdS (w : World) (A : Option Addr) (n : Nat) (ps : List (Value × List Int)) : Prop where
  len : ps.length = n
  at_ : 0 < n → ∃ b off, A = some ⟨b, off, none⟩ ∧ ∀ (i : Nat) (p : Value × List Int), ps[i]? = some p → w.cell? ⟨b, off + i, none⟩ = some p.1
  rd : ∀ p ∈ ps, RdB w p.1 p.2
def joinS (ps : List (Value × List Int)) : List Int := ps.flatMap (·.2)
theorem joinS_ok {w : World} {A : Option Addr} {n : Nat} {ps : List (Value × List Int)} (h : RdS w A n ps) : okB (joinS ps) := by
  intro x hx
  obtain ⟨p, hp, hx⟩ := List.mem_flatMap.1 hx
  exact (h.rd p hp).wf x hx
set_option maxHeartbeats 2000000 in
theorem sum_calls {w : World} {A : Option Addr} {n cap : Nat} {ps : List (Value × List Int)} (h : RdS w A n ps) (hn : n < 1000) (hlen : (joinS ps).length ≤ 1000000) :
    Calls Try.prog 41 #[.slice A n cap] w fun e w' => e = .returned (.int .u16 (65535 - foldI (wsum (joinS ps) true))) ∧ w' = w := by
  have H := Lib.hid h
  have HL := Lib.hid hlen
  have OKJ := Lib.hid (joinS_ok h)
  clear h hlen
  go_enter Try.func41, Try.ntmps41
  go_wp2
  go_loopg [11, 3, 4] n (fun kq v11 v3 v4 wr => ∃ (i : Nat) (t : Int) (pre : List Int) (hb : Bool), v11 = .int .i64 i ∧ v3 = .int .u64 t ∧ v4 = .bool hb ∧ i ≤ n ∧ n - i ≤ kq ∧ Hid (pre = joinS (ps.take i)) ∧ Hid (t = wsum pre true) ∧ Hid (hb = (pre.length % 2 == 0)) ∧ Hid (wr = w))
  case atStart => exact ⟨0, 0, [], true, rfl, rfl, rfl, by omega, by omega, Lib.hid (by simp [joinS]), Lib.hid rfl, Lib.hid rfl, Lib.hid rfl⟩
  case round =>
    obtain ⟨i, t, pre, hb, rfl, rfl, rfl, hi, hk, hpre, ht, hhb, hw⟩ := hrel
    obtain rfl := hw.out
    by_cases hlt : i < n
    · obtain ⟨⟨V, l⟩, hp⟩ : ∃ p, ps[i]? = some p := ⟨_, List.getElem?_eq_getElem (by rw [H.out.len]; exact hlt)⟩
      obtain ⟨b, off, hA, hc⟩ := H.out.at_ (by omega)
      have m0 := hc i _ hp
      obtain ⟨⟨A1, cap1, hV, hcap1, _, hr⟩, wfl⟩ := H.out.rd _ (List.mem_of_getElem? hp)
      dsimp only at hV hr wfl m0 hcap1
      subst hV hA
      have lt1 : (i : Int) < (n : Int) := by omega
      have HNext : Hid (joinS (ps.take (i + 1)) = pre ++ l) := Lib.hid (by rw [hpre.out, List.take_add_one, hp]; simp [joinS])
      have HLen : Hid (pre.length + l.length ≤ 1000000) := Lib.hid (by
        have h1 := HL.out
        have h2 : joinS ps = joinS (ps.take (i + 1)) ++ joinS (ps.drop (i + 1)) := by unfold joinS; rw [← List.flatMap_append, List.take_append_drop]
        rw [h2, HNext.out] at h1
        simp only [List.length_append] at h1
        omega)
      have hll : l.length ≤ 1000000 := by have := HLen.out; omega
      have HR := Lib.hid hr
      have WF := Lib.hid wfl
      have OKP : Hid (okB (pre ++ l)) := Lib.hid (by rw [← HNext.out]; exact fun x hx => OKJ.out x (by
        obtain ⟨p, hp, hx⟩ := List.mem_flatMap.1 hx
        exact List.mem_flatMap.2 ⟨p, List.mem_of_mem_take hp, hx⟩))
      clear hc hp hr wfl
      revert gk
      intro g0
      intros
      rename n - i ≤ g0 => hk
      go_wp2
      go_loopg [17, 3, 4] l.length (fun kq v17 v3 v4 wq => ∃ (j : Nat) (t : Int) (hb : Bool), v17 = .int .i64 j ∧ v3 = .int .u64 t ∧ v4 = .bool hb ∧ j ≤ l.length ∧ l.length - j ≤ kq ∧ Hid (t = wsum (pre ++ l.take j) true) ∧ Hid (hb = ((pre ++ l.take j).length % 2 == 0)) ∧ Hid (wq = wr))
      case atStart => exact ⟨0, t, hb, rfl, rfl, rfl, by omega, by omega, Lib.hid (by simpa using ht.out), Lib.hid (by simpa using hhb.out), Lib.hid rfl⟩
      case round =>
        obtain ⟨j, t, hb, rfl, rfl, rfl, hj, hjk, ht2, hhb2, hw2⟩ := hrel
        obtain rfl := hw2.out
        by_cases hjl : j < l.length
        · obtain ⟨b1, off1, hA1, _, hc1⟩ := HR.out (by omega)
          obtain ⟨x, hx⟩ : ∃ x, l[j]? = some x := ⟨_, List.getElem?_eq_getElem hjl⟩
          have mx := hc1 j x hx
          obtain ⟨x0, x1⟩ := WF.out x (List.mem_of_getElem? hx)
          subst hA1
          have lj : (j : Int) < (l.length : Int) := by omega
          have hts : Hid (l.take (j + 1) = l.take j ++ [x]) := Lib.hid (by rw [List.take_add_one, hx]; rfl)
          have hbd : 0 ≤ t ∧ t ≤ 65280000000 := by
            have h1 := wsum_bd (l := pre ++ l.take j) (fun y hy => OKP.out y (by rcases List.mem_append.1 hy with h | h; exact List.mem_append_left _ h; exact List.mem_append_right _ (List.mem_of_mem_take h))) true
            have h2 : (pre ++ l.take j).length ≤ 1000000 := by rw [List.length_append, List.length_take]; have := HLen.out; omega
            rw [ht2.out]; omega
          obtain ⟨t0, t1⟩ := hbd
          have HW := Lib.hid (wsum_snoc (pre ++ l.take j) x true)
          clear hc1 hx
          cases hb
          · go_wp2
            go_roundg (gk - 1)
            case rel => exact ⟨j + 1, _, _, by go_num, rfl, rfl, by omega, by omega, Lib.hid (by rw [hts.out, ← List.append_assoc, HW.out, ← ht2.out, ← hhb2.out]; simp), Lib.hid (by rw [hts.out, ← List.append_assoc, List.length_append, List.length_cons, List.length_nil, par_succ, ← hhb2.out]; rfl), Lib.hid rfl⟩
            case measure => omega
          · go_wp2
            go_roundg (gk - 1)
            case rel => exact ⟨j + 1, _, _, by go_num, rfl, rfl, by omega, by omega, Lib.hid (by rw [hts.out, ← List.append_assoc, HW.out, ← ht2.out, ← hhb2.out]; simp [Int.mul_comm]), Lib.hid (by rw [hts.out, ← List.append_assoc, List.length_append, List.length_cons, List.length_nil, par_succ, ← hhb2.out]; rfl), Lib.hid rfl⟩
            case measure => omega
        · have lj : ¬ (j : Int) < (l.length : Int) := by omega
          go_wp2
          go_roundg (g0 - 1)
          case rel => exact ⟨i + 1, t, pre ++ l, hb, by go_num, rfl, rfl, by omega, by omega, Lib.hid HNext.out.symm, Lib.hid (by rw [ht2.out, List.take_of_length_le (by omega)]), Lib.hid (by rw [hhb2.out, List.take_of_length_le (by omega)]), Lib.hid rfl⟩
          case measure => omega
    · have lt1 : ¬ (i : Int) < (n : Int) := by omega
      have hT : Hid (t = wsum (joinS ps) true) := Lib.hid (by rw [ht.out, hpre.out, List.take_of_length_le (by rw [H.out.len]; omega)])
      have hbd : 0 ≤ t ∧ t < 1099511627776 := by
        have h1 := wsum_bd OKJ.out true
        have h2 := HL.out
        rw [hT.out]; omega
      obtain ⟨t0, t1⟩ := hbd
      go_wp2_with fail
      refine (folded_calls _ t t0 t1).mono ?_
      rintro e w1 ⟨rfl, rfl⟩
      have hf : 0 ≤ foldI t ∧ foldI t ≤ 65535 := by unfold foldI; split <;> omega
      obtain ⟨f0, f1⟩ := hf
      go_wp2
      refine bodyPost_ret (v := .int .u16 (65535 - foldI (wsum (joinS ps) true))) (by simp [results, Try.results41, go_sem, hT.out]; exact xor_u16 (by rw [← hT.out]; exact f0) (by rw [← hT.out]; exact f1)) rfl ⟨rfl, rfl⟩
end Go.Proofs.Ytelfemhnijnhfaa.Fr
