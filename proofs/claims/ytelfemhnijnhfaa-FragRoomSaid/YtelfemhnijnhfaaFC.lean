/- append of bytes; copies of lists; no condition. -/
import Derived.Test.YtelfemhnijnhfaaFB
namespace Go.Proofs.Ytelfemhnijnhfaa.Fr
open Go.RowKit Go.Maps
set_option linter.unusedVariables false
set_option maxRecDepth 100000
attribute [local go_sem] nilB

theorem RdB.len_lt {w : World} {V : Value} {l : List Int} (h : RdB w V l) : ∃ A cap, V = .slice A l.length cap := by
  obtain ⟨⟨A, cap, h1, _⟩, _⟩ := h
  exact ⟨A, cap, h1⟩
theorem plain_add (b off j : Nat) : (⟨b, off, none⟩ : Addr).add j = ⟨b, off + j, none⟩ := by
  unfold Addr.add; split <;> simp_all
theorem RdB.news {w : World} {b off n cap : Nat} {l : List Int} (h : ∀ (i : Nat) (x : Int), l[i]? = some x → w.cell? ⟨b, off + i, none⟩ = some (.int .u8 x)) : ∀ j u, (encB l)[j]? = some u → w.cell? ((⟨b, off, none⟩ : Addr).add j) = some u := by
  intro j u hu
  rw [plain_add]
  obtain ⟨x, hx, rfl⟩ : ∃ x, l[j]? = some x ∧ Value.int .u8 x = u := by
    simp only [encB, List.getElem?_map, Option.map_eq_some_iff] at hu
    exact hu
  exact h j x hx
theorem run_append_none (w : World) (base : Nat) (t ty e : TypeId) (i : TypeInfo) (size : Nat) (ht : Try.prog.underlying t = some (.slice e)) (hi : Try.prog.info? e = some i)
    (v : Value) (n : Nat) (xs : List Value) (hown : w.ownsRow base e size v n xs) (c : Nat) : (Builtin.append_ #[t, t] ty #[v, .slice none 0 c]).run Try.prog w = .ok v w := by
  rcases hown.2 with ⟨rfl, rfl⟩ | ⟨g, cap, cur, rfl, _, _, hnc, _⟩
  · simp [Builtin.append_, run_underlying ht, sizeOf, typeInfo, hi, Builtin.lenOf, Builtin.firstCells]
  · simp [Builtin.append_, run_underlying ht, sizeOf, typeInfo, hi, Builtin.lenOf, Builtin.firstCells, hnc, storeCells]
theorem run_append_b {w : World} {V VX : Value} {l m : List Int} (ty : TypeId) (hr : VRow w 5 1 V l.length (encB l)) (hx : RdB w VX m) (hn : l.length + m.length ≤ 140737488355328) :
    ∃ A' c' w', (Builtin.append_ #[26, 26] ty #[V, VX]).run Try.prog w = .ok (.slice A' (l.length + m.length) c') w' ∧ VRow w' 5 1 (.slice A' (l.length + m.length) c') (l ++ m).length (encB (l ++ m)) ∧ Touch V.ownBlock.toList w w' ∧
      ((Value.slice A' (l.length + m.length) c').ownBlock = V.ownBlock ∨ (Value.slice A' (l.length + m.length) c').ownBlock = some w.heap.size) := by
  obtain ⟨i0, hi, hz⟩ := Option.map_eq_some_iff.1 infoB
  simp only [Prod.mk.injEq] at hz
  obtain ⟨hz0, hz1, hz2⟩ := hz
  obtain ⟨⟨A, cap, rfl, _, hnil, hc⟩, wf⟩ := hx
  have shape : ∀ (v' : Value) (w' : World), w'.ownsRow 0 5 1 v' (l.length + m.length) (encB l ++ encB m) → VRow w' 5 1 v' (l ++ m).length (encB (l ++ m)) ∧ ∃ A' c', v' = .slice A' (l.length + m.length) c' := by
    intro v' w' h
    have h' : VRow w' 5 1 v' (l.length + m.length) (encB l ++ encB m) := ⟨h⟩
    refine ⟨by rw [encB_append, List.length_append]; exact h', h'.form⟩
  by_cases h0 : 0 < m.length
  · obtain ⟨b, off, rfl, hb, hx⟩ := hc h0
    obtain ⟨v', w', hrun, h2, h3, _, h5⟩ := run_append_own_at (P := Try.prog) w 0 26 ty 5 i0 _ 1 1 Try.underlying26 hi hz0 hz1 hz2 rfl (by decide) V l.length (encB l) hr.own ⟨b, off, none⟩ m.length cap (encB m) (by rw [encB_length]; omega)
      (RdB.news (n := 0) (cap := 0) hx) (encB_one m) (by unfold maxLen; omega) (by omega) (Nat.zero_le _)
    obtain ⟨s1, A', c', rfl⟩ := shape v' w' h2
    exact ⟨A', c', w', hrun, s1, touch_grown h3, h5⟩
  · have hm : m = [] := List.eq_nil_of_length_eq_zero (by omega)
    subst hm
    rcases A with _ | ad
    · obtain ⟨A', c', hV⟩ := hr.form
      refine ⟨A', c', w, ?_, ?_, Touch.refl _ _, .inl (by rw [hV]; rfl)⟩
      · have := run_append_none w 0 26 ty 5 i0 1 Try.underlying26 hi V l.length (encB l) hr.own cap
        simp only [List.length_nil, Nat.add_zero]
        rw [← hV]; exact this
      · have e : Value.slice A' (l.length + ([] : List Int).length) c' = V := by rw [hV]; rfl
        rw [e]; simpa using hr
    · obtain ⟨v', w', hrun, h2, h3, _, h5⟩ := run_append_own_at (P := Try.prog) w 0 26 ty 5 i0 _ 1 1 Try.underlying26 hi hz0 hz1 hz2 rfl (by decide) V l.length (encB l) hr.own ad 0 cap [] (by simp)
        (by simp) (by simp) (by unfold maxLen; omega) (by omega) (Nat.zero_le _)
      obtain ⟨s1, A', c', rfl⟩ := shape v' w' h2
      exact ⟨A', c', w', hrun, s1, touch_grown h3, h5⟩
theorem wp_append_b {w : World} {o : Oper} {a : Act} {K : Act → World → Prop} {Q : Exit → Act → World → Prop} (s x : Operand)
    (ho : o.op = .call { callee := .builtin .append, args := #[s, x], argTypes := #[26, 26] })
    (V VX : Value) (l m : List Int) (hs : a.eval s = V) (hr : VRow w 5 1 V l.length (encB l)) (hx : a.eval x = VX) (hm : RdB w VX m) (hn : l.length + m.length ≤ 140737488355328)
    (h : ∀ A' c' w', VRow w' 5 1 (.slice A' (l.length + m.length) c') (l ++ m).length (encB (l ++ m)) → Touch V.ownBlock.toList w w' →
      ((Value.slice A' (l.length + m.length) c').ownBlock = V.ownBlock ∨ (Value.slice A' (l.length + m.length) c').ownBlock = some w.heap.size) → K (a.put o.dst (.slice A' (l.length + m.length) c')) w') : o.wp Try.prog a w K Q := by
  obtain ⟨A', c', w', hrun, h2, h3, h4⟩ := run_append_b (w := w) o.type hr hm hn
  unfold Oper.wp execOp
  simp only [ho, resolve, invoke, builtin, Sem.run_bind, Sem.run_pure, Result.andThen_ok, List.map_toArray, List.map_cons, List.map_nil, hs, hx, hrun]
  exact h A' c' w' h2 h3 h4
theorem wpList_append_b {w : World} {ops : Array Oper} {rest : List Oper} {o : Oper} {a : Act} {Q : Exit → Act → World → Prop} (hgd : o.guard = none) (s x : Operand)
    (ho : o.op = .call { callee := .builtin .append, args := #[s, x], argTypes := #[26, 26] })
    (V VX : Value) (l m : List Int) (hs : a.eval s = V) (hr : VRow w 5 1 V l.length (encB l)) (hx : a.eval x = VX) (hm : RdB w VX m) (hn : l.length + m.length ≤ 140737488355328)
    (h : ∀ A' c' w', VRow w' 5 1 (.slice A' (l.length + m.length) c') (l ++ m).length (encB (l ++ m)) → Touch V.ownBlock.toList w w' →
      ((Value.slice A' (l.length + m.length) c').ownBlock = V.ownBlock ∨ (Value.slice A' (l.length + m.length) c').ownBlock = some w.heap.size) → wpList Try.prog ops Q rest (a.put o.dst (.slice A' (l.length + m.length) c')) w') : wpList Try.prog ops Q (o :: rest) a w :=
  wpList_plain hgd fun _ hK => wp_append_b s x ho V VX l m hs hr hx hm hn fun A' c' w' h2 h3 h4 => hK _ _ (h A' c' w' h2 h3 h4)
theorem step_append_b {w : World} {ops : Array Oper} {o : Oper} {a : Act} {K : Act → World → Prop} {Q : Exit → Act → World → Prop} {E : Prop} (hgd : o.guard = none) (s x : Operand)
    (ho : o.op = .call { callee := .builtin .append, args := #[s, x], argTypes := #[26, 26] })
    (V VX : Value) (l m : List Int) (hs : a.eval s = V) (hr : VRow w 5 1 V l.length (encB l)) (hx : a.eval x = VX) (hm : RdB w VX m) (hn : l.length + m.length ≤ 140737488355328)
    (h : ∀ A' c' w', VRow w' 5 1 (.slice A' (l.length + m.length) c') (l ++ m).length (encB (l ++ m)) → Touch V.ownBlock.toList w w' →
      ((Value.slice A' (l.length + m.length) c').ownBlock = V.ownBlock ∨ (Value.slice A' (l.length + m.length) c').ownBlock = some w.heap.size) → K (a.put o.dst (.slice A' (l.length + m.length) c')) w') :
    if Region.wanted o (yielded ops a.tmps) = true then Oper.wp Try.prog o a w K Q else E := by
  have hw : Region.wanted o (yielded ops a.tmps) = true := by simp [Region.wanted, hgd]
  rw [if_pos hw]
  exact wp_append_b s x ho V VX l m hs hr hx hm hn h
theorem Fresh.own {w : World} {V V' : Value} (h : V'.ownBlock = V.ownBlock ∨ V'.ownBlock = some w.heap.size) {n : Nat} (hV : Fresh n V) (hn : n ≤ w.heap.size) : Fresh n V' := by
  intro b hb
  rcases h with h | h
  · exact hV b (by rw [← h]; exact hb)
  · rw [h] at hb; cases hb; exact hn
theorem Fresh.nil (n : Nat) : Fresh n (.slice none 0 0) := by intro b hb; cases hb

/-- slices.Clone of bytes. -/
structure OwB (w : World) (V : Value) (l : List Int) : Prop where
  row : VRow w 5 1 V l.length (encB l)
  wf : okB l
theorem OwB.rdb {w : World} {V : Value} {l : List Int} (h : OwB w V l) : RdB w V l := h.row.rdb h.wf
theorem OwB.kept {w w' : World} {V : Value} {l : List Int} (h : OwB w V l) {S : List Nat} (t : Touch S w w') (hn : ∀ k, V.ownBlock = some k → k ∉ S) : OwB w' V l := ⟨h.row.kept t hn, h.wf⟩
theorem OwB.near {w w' : World} {V : Value} {l : List Int} (h : OwB w V l) (t : Touch [] w w') : OwB w' V l := h.kept t (by simp)
theorem OwB.nil (w : World) : OwB w (.slice none 0 0) [] := ⟨VRow.nil _ _ _, by simp [okB]⟩
theorem wpList_append_made {w : World} {ops : Array Oper} {rest : List Oper} {o : Oper} {a : Act} {Q : Exit → Act → World → Prop} (hgd : o.guard = none) (s x : Operand)
    (ho : o.op = .call { callee := .builtin .append, args := #[s, x], argTypes := #[26, 26] })
    (VX : Value) (m : List Int) (hs : a.eval s = .slice (some ⟨w.heap.size, 0, none⟩) 0 0) (hx : a.eval x = VX) (hm : RdB w VX m) (hn : m.length ≤ 140737488355328)
    (h : ∀ A' c' w', OwB w' (.slice A' m.length c') m → Fresh w.heap.size (.slice A' m.length c') → Touch [] w w' → wpList Try.prog ops Q rest (a.put o.dst (.slice A' m.length c')) w') : wpList Try.prog ops Q (o :: rest) a (w.alloc (.cells #[] 5)) := by
  refine wpList_append_b hgd s x ho (.slice (some ⟨w.heap.size, 0, none⟩) 0 0) VX [] m hs ⟨World.ownsRow_made w #[] 0 (Nat.zero_le _) (by unfold maxLen; omega) (by rfl)⟩ hx (hm.near ((Touch.refl [] w).alloc _)) (by simpa using hn) ?_
  intro A' c' w' h1 h2 h3
  have e : ([] : List Int).length + m.length = m.length := by simp
  rw [e] at h1 h3 ⊢
  refine h A' c' w' ⟨h1, hm.wf⟩ (fun b hb => ?_) (((Touch.refl [] w).alloc _).trans h2 (fun x hx => .inr (by simp [Value.ownBlock] at hx; omega)))
  rcases h3 with g | g
  · rw [g] at hb; simp [Value.ownBlock] at hb; omega
  · rw [g] at hb; simp at hb; omega
theorem wpList_append_none {w : World} {ops : Array Oper} {rest : List Oper} {o : Oper} {a : Act} {Q : Exit → Act → World → Prop} (hgd : o.guard = none) (s x : Operand)
    (ho : o.op = .call { callee := .builtin .append, args := #[s, x], argTypes := #[26, 26] })
    (VX : Value) (m : List Int) (hs : a.eval s = .slice none 0 0) (hx : a.eval x = VX) (hm : RdB w VX m) (hn : m.length ≤ 140737488355328)
    (h : ∀ A' c' w', OwB w' (.slice A' m.length c') m → Fresh w.heap.size (.slice A' m.length c') → Touch [] w w' → wpList Try.prog ops Q rest (a.put o.dst (.slice A' m.length c')) w') : wpList Try.prog ops Q (o :: rest) a w := by
  refine wpList_append_b hgd s x ho (.slice none 0 0) VX [] m hs (VRow.nil _ _ _) hx hm (by simpa using hn) ?_
  intro A' c' w' h1 h2 h3
  have e : ([] : List Int).length + m.length = m.length := by simp
  rw [e] at h1 h3 ⊢
  refine h A' c' w' ⟨h1, hm.wf⟩ (fun b hb => ?_) h2
  rcases h3 with g | g
  · rw [g] at hb; cases hb
  · rw [g] at hb; cases hb; exact Nat.le_refl _
def ClonePost (w : World) (l : List Int) (e : Ending) (w' : World) : Prop := ∃ V', e = .returned V' ∧ OwB w' V' l ∧ Fresh w.heap.size V' ∧ Touch [] w w'
set_option maxHeartbeats 1000000 in
theorem clone_calls {w : World} {V : Value} {l : List Int} (h : RdB w V l) (hlen : l.length ≤ 140737488355328) :
    Calls Try.prog 63 #[V] w (ClonePost w l) := by
  have H := Lib.hid h
  have HL := Lib.hid hlen
  clear hlen
  obtain ⟨⟨A, cap, hV, hcap, hnil, hr⟩, wf⟩ := h
  rcases A with _ | ad
  · have hl : l = [] := by
      by_cases h0 : 0 < l.length
      · obtain ⟨b, off, e, _⟩ := hr h0; cases e
      · exact List.eq_nil_of_length_eq_zero (by omega)
    have hc := hnil rfl
    subst hl hc
    simp only [List.length_nil] at hV
    subst hV
    clear hr hnil H wf hcap
    go_enter Try.func63, Try.ntmps63
    go_wp2
    go_ret
    exact ⟨_, rfl, OwB.nil _, Fresh.nil _, Touch.refl _ _⟩
  · subst hV
    have WF := Lib.hid wf
    clear hr hnil wf
    go_enter Try.func63, Try.ntmps63
    go_wp2_with (at_builtin; refine wpList_append_made (by rfl) (.tmp 5) (.tmp 6) (by rfl) (.slice (some ad) l.length cap) l (by rfl) (by rfl) H.out HL.out ?_; intro A' c' w' h1 h2 h3; have K1 := Lib.hid h1; have K2 := Lib.hid h2; have K3 := Lib.hid h3; clear h1 h2 h3)
    go_ret
    exact ⟨_, rfl, K1.out, K2.out, K3.out⟩
/-! ### packets -/
structure Hd where
  tos : Int
  id : Int
  df : Bool
  mf : Bool
  off : Int
  ttl : Int
  proto : Int
  src : Int
  dst : Int
structure Pk where
  h : Hd
  opts : List Int
  body : List Int
structure Hd.wf (h : Hd) : Prop where
  tos : 0 ≤ h.tos ∧ h.tos < 256
  id : 0 ≤ h.id ∧ h.id < 65536
  off : -9223372036854775808 ≤ h.off ∧ h.off ≤ 9223372036854775807
  ttl : 0 ≤ h.ttl ∧ h.ttl < 256
  proto : 0 ≤ h.proto ∧ h.proto < 256
  src : 0 ≤ h.src ∧ h.src < 4294967296
  dst : 0 ≤ h.dst ∧ h.dst < 4294967296
/-- A header's cells. -/
abbrev hdC (h : Hd) (VO : Value) : Array Value := #[.int .u8 h.tos, .int .u16 h.id, .bool h.df, .bool h.mf, .int .i64 h.off, .int .u8 h.ttl, .int .u8 h.proto, .int .u32 h.src, .int .u32 h.dst, VO]
abbrev pkC (h : Hd) (VO VB : Value) : Array Value := #[.int .u8 h.tos, .int .u16 h.id, .bool h.df, .bool h.mf, .int .i64 h.off, .int .u8 h.ttl, .int .u8 h.proto, .int .u32 h.src, .int .u32 h.dst, VO, VB]
theorem pk_cells {w : World} {k : Nat} {h : Hd} {VO VB : Value} {T : TypeId} (hb : w.heap[k]? = some (.cells (pkC h VO VB) T (0, 0))) :
    w.cell? ⟨k, 0, none⟩ = some (.int .u8 h.tos) ∧ w.cell? ⟨k, 1, none⟩ = some (.int .u16 h.id) ∧ w.cell? ⟨k, 2, none⟩ = some (.bool h.df) ∧ w.cell? ⟨k, 3, none⟩ = some (.bool h.mf) ∧ w.cell? ⟨k, 4, none⟩ = some (.int .i64 h.off) ∧
    w.cell? ⟨k, 5, none⟩ = some (.int .u8 h.ttl) ∧ w.cell? ⟨k, 6, none⟩ = some (.int .u8 h.proto) ∧ w.cell? ⟨k, 7, none⟩ = some (.int .u32 h.src) ∧ w.cell? ⟨k, 8, none⟩ = some (.int .u32 h.dst) ∧ w.cell? ⟨k, 9, none⟩ = some VO ∧ w.cell? ⟨k, 10, none⟩ = some VB := by
  simp [World.cell?, hb]
theorem hd_cells {w : World} {k : Nat} {h : Hd} {VO : Value} {T : TypeId} (hb : w.heap[k]? = some (.cells (hdC h VO) T (0, 0))) :
    w.cell? ⟨k, 0, none⟩ = some (.int .u8 h.tos) ∧ w.cell? ⟨k, 1, none⟩ = some (.int .u16 h.id) ∧ w.cell? ⟨k, 2, none⟩ = some (.bool h.df) ∧ w.cell? ⟨k, 3, none⟩ = some (.bool h.mf) ∧ w.cell? ⟨k, 4, none⟩ = some (.int .i64 h.off) ∧
    w.cell? ⟨k, 5, none⟩ = some (.int .u8 h.ttl) ∧ w.cell? ⟨k, 6, none⟩ = some (.int .u8 h.proto) ∧ w.cell? ⟨k, 7, none⟩ = some (.int .u32 h.src) ∧ w.cell? ⟨k, 8, none⟩ = some (.int .u32 h.dst) ∧ w.cell? ⟨k, 9, none⟩ = some VO := by
  simp [World.cell?, hb]
theorem box_frozen {w : World} {k : Nat} {c : Array Value} {T : TypeId} (hb : w.heap[k]? = some (.cells c T (0, 0))) (o : Nat) : w.frozen? ⟨k, o, none⟩ = false := by
  simp [World.frozen?, hb]
theorem pk_set {w : World} {k : Nat} {h h' : Hd} {VO VB VO' VB' : Value} {T : TypeId} (hb : w.heap[k]? = some (.cells (pkC h' VO' VB') T (0, 0))) :
    ∃ W : World, W = (((((((((((w.setCell ⟨k, 0, none⟩ (.int .u8 h.tos)).setCell ⟨k, 1, none⟩ (.int .u16 h.id)).setCell ⟨k, 2, none⟩ (.bool h.df)).setCell ⟨k, 3, none⟩ (.bool h.mf)).setCell ⟨k, 4, none⟩ (.int .i64 h.off)).setCell ⟨k, 5, none⟩ (.int .u8 h.ttl)).setCell ⟨k, 6, none⟩ (.int .u8 h.proto)).setCell ⟨k, 7, none⟩ (.int .u32 h.src)).setCell ⟨k, 8, none⟩ (.int .u32 h.dst)).setCell ⟨k, 9, none⟩ (VO)).setCell ⟨k, 10, none⟩ (VB)) ∧ W.heap[k]? = some (.cells (pkC h VO VB) T (0, 0)) ∧ Touch [k] w W := by
  have b0 := box_set (o := 0) hb (.int .u8 h.tos)
  have b1 := box_set (o := 1) b0 (.int .u16 h.id)
  have b2 := box_set (o := 2) b1 (.bool h.df)
  have b3 := box_set (o := 3) b2 (.bool h.mf)
  have b4 := box_set (o := 4) b3 (.int .i64 h.off)
  have b5 := box_set (o := 5) b4 (.int .u8 h.ttl)
  have b6 := box_set (o := 6) b5 (.int .u8 h.proto)
  have b7 := box_set (o := 7) b6 (.int .u32 h.src)
  have b8 := box_set (o := 8) b7 (.int .u32 h.dst)
  have b9 := box_set (o := 9) b8 (VO)
  have b10 := box_set (o := 10) b9 (VB)
  refine ⟨_, rfl, by simpa using b10, ?_⟩
  exact ((((((((((((Touch.refl [k] w).setCell _ _ (.inl (by simp))).setCell _ _ (.inl (by simp))).setCell _ _ (.inl (by simp))).setCell _ _ (.inl (by simp))).setCell _ _ (.inl (by simp))).setCell _ _ (.inl (by simp))).setCell _ _ (.inl (by simp))).setCell _ _ (.inl (by simp))).setCell _ _ (.inl (by simp))).setCell _ _ (.inl (by simp))).setCell _ _ (.inl (by simp)))
theorem hd_set {w : World} {k : Nat} {h h' : Hd} {VO VB VO' VB' : Value} {T : TypeId} (hb : w.heap[k]? = some (.cells (hdC h' VO') T (0, 0))) :
    ∃ W : World, W = ((((((((((w.setCell ⟨k, 0, none⟩ (.int .u8 h.tos)).setCell ⟨k, 1, none⟩ (.int .u16 h.id)).setCell ⟨k, 2, none⟩ (.bool h.df)).setCell ⟨k, 3, none⟩ (.bool h.mf)).setCell ⟨k, 4, none⟩ (.int .i64 h.off)).setCell ⟨k, 5, none⟩ (.int .u8 h.ttl)).setCell ⟨k, 6, none⟩ (.int .u8 h.proto)).setCell ⟨k, 7, none⟩ (.int .u32 h.src)).setCell ⟨k, 8, none⟩ (.int .u32 h.dst)).setCell ⟨k, 9, none⟩ (VO)) ∧ W.heap[k]? = some (.cells (hdC h VO) T (0, 0)) ∧ Touch [k] w W := by
  have b0 := box_set (o := 0) hb (.int .u8 h.tos)
  have b1 := box_set (o := 1) b0 (.int .u16 h.id)
  have b2 := box_set (o := 2) b1 (.bool h.df)
  have b3 := box_set (o := 3) b2 (.bool h.mf)
  have b4 := box_set (o := 4) b3 (.int .i64 h.off)
  have b5 := box_set (o := 5) b4 (.int .u8 h.ttl)
  have b6 := box_set (o := 6) b5 (.int .u8 h.proto)
  have b7 := box_set (o := 7) b6 (.int .u32 h.src)
  have b8 := box_set (o := 8) b7 (.int .u32 h.dst)
  have b9 := box_set (o := 9) b8 (VO)
  refine ⟨_, rfl, by simpa using b9, ?_⟩
  exact (((((((((((Touch.refl [k] w).setCell _ _ (.inl (by simp))).setCell _ _ (.inl (by simp))).setCell _ _ (.inl (by simp))).setCell _ _ (.inl (by simp))).setCell _ _ (.inl (by simp))).setCell _ _ (.inl (by simp))).setCell _ _ (.inl (by simp))).setCell _ _ (.inl (by simp))).setCell _ _ (.inl (by simp))).setCell _ _ (.inl (by simp)))
def OwnPost (w : World) (p : Pk) (e : Ending) (w' : World) : Prop :=
  ∃ VO VB, e = .returned (.agg (pkC p.h VO VB)) ∧ OwB w' VO p.opts ∧ OwB w' VB p.body ∧ Fresh w.heap.size VO ∧ Fresh w.heap.size VB ∧ (∀ b, VO.ownBlock = some b → VB.ownBlock ≠ some b) ∧ Touch [] w w'
set_option maxHeartbeats 2000000 in
theorem own_calls {w : World} {VO VB : Value} {p : Pk} (ho : RdB w VO p.opts) (hb : RdB w VB p.body) (hlo : p.opts.length ≤ 140737488355328) (hlb : p.body.length ≤ 140737488355328) :
    Calls Try.prog 29 #[.agg (pkC p.h VO VB)] w (OwnPost w p) := by
  have HO := Lib.hid ho
  have HB := Lib.hid hb
  have LO := Lib.hid hlo
  have LB := Lib.hid hlb
  clear ho hb hlo hlb
  go_enter Try.func29, Try.ntmps29
  go_wp2_with fail
  obtain ⟨W0, hW0⟩ : ∃ W0 : World, W0 = (w.alloc (.cells (pkC p.h VO VB) 30)).alloc (.cells #[.int .u8 0, .int .u16 0, .bool false, .bool false, .int .i64 0, .int .u8 0, .int .u8 0, .int .u32 0, .int .u32 0, .slice none 0 0, .slice none 0 0] 30) := ⟨_, rfl⟩
  rw [← hW0]
  have X0 := Lib.hid (show W0.heap[w.heap.size]? = some (.cells (pkC p.h VO VB) 30 (0, 0)) by rw [hW0]; exact box_keep _ (box_at w _))
  have Y0 := Lib.hid (show W0.heap[w.heap.size + 1]? = some (.cells (pkC ⟨0, 0, false, false, 0, 0, 0, 0, 0⟩ (.slice none 0 0) (.slice none 0 0)) 30 (0, 0)) by rw [hW0]; exact box_at' _ _ _ (by simp))
  have T0 := Lib.hid (show Touch [] w W0 by rw [hW0]; exact ((Touch.refl [] w).alloc _).alloc _)
  have S0 := Lib.hid (show W0.heap.size = w.heap.size + 2 by rw [hW0]; simp)
  clear hW0
  refine (clone_calls (HO.out.near T0.out) LO.out).mono ?_
  rintro e w1 ⟨VO1, rfl, o1, f1, t1⟩
  obtain ⟨A1, cp1, rfl⟩ := o1.row.form
  have X1 := Lib.hid (touch_box t1 X0.out (by simp))
  have Y1 := Lib.hid (touch_box t1 Y0.out (by simp))
  have T1 := Lib.hid (T0.out.trans t1 (by simp))
  have O1 := Lib.hid o1
  have F1 := Lib.hid f1
  have S1 := Lib.hid t1.size
  clear o1 f1 t1 X0 Y0
  obtain ⟨_, _, _, _, _, _, _, _, _, c9, c10⟩ := pk_cells X1.out
  have z9 := box_frozen X1.out 9
  obtain ⟨W2, hW2⟩ : ∃ W2 : World, W2 = w1.setCell ⟨w.heap.size, 9, none⟩ (.slice A1 p.opts.length cp1) := ⟨_, rfl⟩
  have X2 := Lib.hid (show W2.heap[w.heap.size]? = some (.cells (pkC p.h (.slice A1 p.opts.length cp1) VB) 30 (0, 0)) by rw [hW2]; simpa using box_set (o := 9) X1.out (.slice A1 p.opts.length cp1))
  have Y2 := Lib.hid (show W2.heap[w.heap.size + 1]? = some (.cells (pkC ⟨0, 0, false, false, 0, 0, 0, 0, 0⟩ (.slice none 0 0) (.slice none 0 0)) 30 (0, 0)) by rw [hW2]; exact box_other _ _ Y1.out (by simp))
  have t2 : Touch [w.heap.size] w1 W2 := by rw [hW2]; exact (Touch.refl _ w1).setCell _ _ (.inl (by simp))
  have T2 := Lib.hid (T1.out.trans t2 (by simp))
  have O2 := Lib.hid (O1.out.kept t2 (fun k hk h => by have := F1.out k hk; have := S0.out; simp at h; omega))
  have S2 := Lib.hid t2.size
  clear t2
  go_wp2_with fail
  rw [← hW2]
  clear hW2 c9 c10 z9
  refine (clone_calls (HB.out.near T2.out) LB.out).mono ?_
  rintro e w3 ⟨VB1, rfl, o3, f3, t3⟩
  obtain ⟨A3, cp3, rfl⟩ := o3.row.form
  have X3 := Lib.hid (touch_box t3 X2.out (by simp))
  have Y3 := Lib.hid (touch_box t3 Y2.out (by simp))
  have T3 := Lib.hid (T2.out.trans t3 (by simp))
  have O3 := Lib.hid o3
  have O23 := Lib.hid (O2.out.near t3)
  have F3 := Lib.hid f3
  have S3 := Lib.hid t3.size
  have NE : Hid (∀ b, (Value.slice A1 p.opts.length cp1).ownBlock = some b → (Value.slice A3 p.body.length cp3).ownBlock ≠ some b) := Lib.hid (fun b hb hb2 => by
    have h1 := f3 b hb2
    have h2 := O2.out.row.lt b hb
    omega)
  clear o3 f3 t3 X2 Y2
  obtain ⟨c0, c1, c2, c3, c4, c5, c6, c7, c8, c9, c10⟩ := pk_cells X3.out
  obtain ⟨d0, d1, d2, d3, d4, d5, d6, d7, d8, d9, d10⟩ := pk_cells Y3.out
  have z := fun o => box_frozen X3.out o
  have y := fun o => box_frozen Y3.out o
  go_wp2
  obtain ⟨W4, hW4, X4, t4⟩ := pk_set (w := w3.setCell ⟨w.heap.size, 10, none⟩ (.slice A3 p.body.length cp3)) (k := w.heap.size + 1) (h := p.h) (VO := .slice A1 p.opts.length cp1) (VB := .slice A3 p.body.length cp3) (box_other _ _ Y3.out (by simp))
  rw [← hW4]
  clear hW4
  have t5 : Touch [w.heap.size, w.heap.size + 1] w3 W4 := ((Touch.refl _ w3).setCell _ _ (.inl (by simp))).trans t4 (by simp)
  have hs0 := S0.out
  have hs1 := S1.out
  have hs2 := S2.out
  have hs3 := S3.out
  have f1 := F1.out
  have f3 := F3.out
  clear c0 c1 c2 c3 c4 c5 c6 c7 c8 c9 c10 d0 d1 d2 d3 d4 d5 d6 d7 d8 d9 d10 z y
  obtain ⟨c0, c1, c2, c3, c4, c5, c6, c7, c8, c9, c10⟩ := pk_cells X4
  refine bodyPost_ret (v := .agg (pkC p.h (.slice A1 p.opts.length cp1) (.slice A3 p.body.length cp3))) (by simp [results, Try.results29, go_sem, c0, c1, c2, c3, c4, c5, c6, c7, c8, c9, c10]) rfl ?_
  refine ⟨_, _, rfl, O23.out.kept t5 (fun k hk h => ?_), O3.out.kept t5 (fun k hk h => ?_), fun b hb => ?_, fun b hb => ?_, NE.out, T3.out.trans t5 (fun x hx => .inr ?_)⟩
  · have := f1 k hk; simp at h; omega
  · have := f3 k hk; simp at h; omega
  · have := f1 b hb; omega
  · have := f3 b hb; omega
  · simp at hx; omega
end Go.Proofs.Ytelfemhnijnhfaa.Fr
