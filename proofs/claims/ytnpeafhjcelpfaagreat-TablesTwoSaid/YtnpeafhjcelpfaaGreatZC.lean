/- now's inner iterator: its contract; no condition. -/
import Derived.Test.YtnpeafhjcelpfaaGreatZB
import Derived.Test.YtnpeafhjcelpfaaGreatForks
import Derived.Test.YtnpeafhjcelpfaaGreatKK
namespace Go.Proofs.YtnpeafhjcelpfaaGreat.Tri
open Go.RowKit Go.Maps Go.Shelf
set_option linter.unusedVariables false
attribute [local go_sem] Oper.semAt_some

theorem nodes_count : ∀ t : T, (ents t).length + (bare t).length = tsize t
  | .nil => rfl
  | .node p v l r => by
    have a := nodes_count l
    have b := nodes_count r
    cases v <;> simp [ents, bare, own, bareOwn, tsize] <;> omega
theorem Tr.same {w w' : World} : ∀ {x : T} {p : Value} {S : List Nat}, Tr w x p S → (∀ k ∈ S, w'.heap[k]? = w.heap[k]?) → Tr w' x p S
  | .nil, p, S, h, _ => h
  | .node q v l r, p, S, h, hn => by
    obtain ⟨b, pl, pr, Sl, Sr, rfl, hb, hl, hr, rfl, h1, h2, h3⟩ := h
    exact ⟨b, pl, pr, Sl, Sr, rfl, (hn b (by simp)).trans hb, hl.same (fun k hk => hn k (by simp [hk])), hr.same (fun k hk => hn k (by simp [hk])), rfl, h1, h2, h3⟩
theorem lists_len {w0 : World} : ∀ {t : T} {p : Value} {xs : List (NodeAt w0)}, Lists w0 t p xs → xs.length = tsize t
  | .nil, p, xs, h => by rw [h.2]; rfl
  | .node q v l r, p, xs, h => by
    obtain ⟨x, pl, pr, xl, xr, _, _, _, _, hl, hr, rfl⟩ := h
    simp only [List.length_cons, List.length_append, lists_len hl, lists_len hr, tsize]
theorem tsize_below (p : Px) : ∀ t : T, tsize (below t p) ≤ tsize t
  | .nil => Nat.le_refl _
  | .node q u l r => by
    have a := tsize_below p l
    have b := tsize_below p r
    unfold below
    split
    · exact Nat.le_refl _
    · split
      · split <;> simp only [tsize] <;> omega
      · simp [tsize]
theorem abides_touch {β : Type} {B : Nat} {J : β → World → Prop} (hJ : AbidesFrom B J) {s : β} {W W' : World} (t : Touch [] W W') (h : J s W) : J s W' :=
  hJ s W W' none h (t.grownBy (by simp)) (fun r e => by cases e)
set_option maxRecDepth 100000 in
set_option maxHeartbeats 4000000 in
theorem now1_stops {w : World} {tb : Nat} {t : T} {S : List Nat} {k : Nat} (h : TrieAt w tb t S k) (p : Px) (hp : p.ok) (B2 B3 n₀ n : Nat)
    (hB2 : w.heap[B2]? = some (.cells #[.pointer (some ⟨tb, 0, none⟩)] 88 (0, 0))) (hB3 : w.heap[B3]? = some (.cells #[.int .u32 p.a, .int .i64 p.n] 47 (0, 0))) (hn : n₀ ≤ w.heap.size) (hS : ∀ x ∈ S, x < n₀) (h2 : B2 < n₀) (h3 : B3 < n₀) :
    SeqStopsK Fence.wide n Tryz.prog 101 #[.pointer (some ⟨B2, 0, none⟩), .pointer (some ⟨B3, 0, none⟩)] (NodeAt.enc (w0 := w)) (Below n₀) (fun ys => ys.flatMap NodeAt.own = ents (below t p)) (fun _ => True) (tsize t) w := by
  intro l J Jx W hW hJ hJx hY h0
  have tW : Touch [] w W := Touch.of_below hW
  have hbel := callsIn_wide (n := n - 1).2 (below_calls (h.kept tW (by simp)) p hp)
  have hyN : Hid (YieldsN n₀ (tsize t) l J Jx) := Lib.hid (fun m pre x W1 hj hl => YieldAt.any rfl m (hY pre x W1 hj hl))
  have HJ := Lib.hid hJ
  have HW := Lib.hid hW
  have H0 := Lib.hid h0
  have HS := Lib.hid hS
  have HN := Lib.hid hn
  obtain ⟨c0, _⟩ := one_cells (touch_box tW hB2 (by simp))
  obtain ⟨d0, d1, _⟩ := two_cells (touch_box tW hB3 (by simp))
  have hf55 : Fence.wide.fn 102 := trivial
  have hf68 : Fence.wide.fn 103 := trivial
  clear h hp hB2 hB3 hn hS h2 h3 hY hJ hJx hW h0 tW
  refine callsIn_of_wp Tryz.func101 rfl trivial ?_ rfl
  simp only [Tryz.ntmps101, List.size_toArray, List.length_cons, List.length_nil, Nat.reduceAdd, Nat.reduceSub, Array.replicate_succ, Array.replicate_zero, List.push_toArray, List.append_toArray, List.nil_append, List.cons_append]
  gi_wp2_with (first
    | ((try refine ⟨dd _, ?_⟩); gi_at_call 103; refine hbel.mono ?_; clear hbel; rintro e W1 ⟨t1, px, Sx, rfl, hTx, hSx⟩)
    | (fail))
  obtain ⟨xs, hL, hown, hxs⟩ := lists_of (w0 := w) (hTx.same (w' := w) (fun k hk => (HW.out.block k (Nat.lt_of_lt_of_le (HS.out _ (hSx k hk)) HN.out)).symm))
  have hwk := walkY n₀ (tsize t) l J Jx hyN.out (below t p) (n - 1) (.pointer px) xs [] W1 hL (fun x hx => HS.out _ (hSx _ (hxs x hx)))
    ((HW.out.mono HN.out).trans (t1.below.mono (Nat.le_trans HN.out HW.out.size))) (abides_touch HJ.out t1 H0.out) (by simp only [List.length_nil, Nat.zero_add]; rw [lists_len hL]; exact tsize_below p t)
  clear hL hxs hTx hSx t1
  gi_wp2_with (first
    | ((try refine ⟨dd _, ?_⟩); gi_at_call 102; refine hwk.mono ?_; clear hwk; rintro e W2 (⟨rfl, hJ2, hB2⟩ | ⟨rfl, q, hq, hx2⟩))
    | (fail))
  · go_end0
    exact ⟨⟨_, rfl⟩, .inl ⟨xs, hown, by simpa using hJ2⟩⟩
  · go_end0
    exact ⟨⟨_, rfl⟩, .inr ⟨q, trivial, by simpa using hx2⟩⟩
end Go.Proofs.YtnpeafhjcelpfaaGreat.Tri
