/- A kernel and the document's: what one op does to both; plain; no condition. -/
import Derived.Test.YtnpeafhjcelpfaaGreatY7
import Derived.Laws.StructEq
import Derived.ChangeKeysEq

namespace Go.Proofs.YtnpeafhjcelpfaaGreat.Tri
open Go.RowKit Go.Maps
set_option linter.unusedVariables false
set_option linter.unusedSimpArgs false

/-- What a list holds is what M tells. -/
structure TabM {α κ β : Type} (M : κ → β → Prop) (key : α → κ) (val : α → β) (l : List α) (n : Nat) : Prop where
  m : ∀ x v, M x v ↔ ∃ y ∈ l, key y = x ∧ val y = v
  nodup : (l.map key).Nodup
  len : n = l.length
section
variable {α κ β : Type} {M : κ → β → Prop} {key : α → κ} {val : α → β} {l l' : List α} {n : Nat} {x : κ} {y : α} {pt : Bool} {lim err : Int}
theorem key_at (h : (l.map key).Nodup) {i j : Nat} {a b : α} (ha : l[i]? = some a) (hb : l[j]? = some b) (hk : key a = key b) : i = j := by
  have h1 : (l.map key)[i]? = some (key a) := by rw [List.getElem?_map, ha]; rfl
  have h2 : (l.map key)[j]? = some (key a) := by rw [List.getElem?_map, hb, hk]; rfl
  have hi := (List.getElem?_eq_some_iff.1 h1).1
  exact (List.getElem?_inj hi h).1 (h1.trans h2.symm)
theorem mem_erase_key (h : (l.map key).Nodup) {i : Nat} {a : α} (ha : l[i]? = some a) (z : α) : z ∈ l.eraseIdx i ↔ z ∈ l ∧ key z ≠ key a := by
  constructor
  · intro hz
    refine ⟨List.mem_of_mem_eraseIdx hz, fun e => ?_⟩
    obtain ⟨j, hji, hj⟩ := List.mem_eraseIdx_iff_getElem?.1 hz
    exact hji (key_at h hj ha e)
  · rintro ⟨hz, hk⟩
    obtain ⟨j, hj⟩ := List.mem_iff_getElem?.1 hz
    exact List.mem_eraseIdx_iff_getElem?.2 ⟨j, fun e => hk (by subst e; rw [ha] at hj; cases hj; rfl), hj⟩
theorem mem_set_key (h : (l.map key).Nodup) {i : Nat} {a : α} (ha : l[i]? = some a) (y z : α) : z ∈ l.set i y ↔ z = y ∨ (z ∈ l ∧ key z ≠ key a) := by
  have hi := (List.getElem?_eq_some_iff.1 ha).1
  constructor
  · intro hz
    obtain ⟨j, hj⟩ := List.mem_iff_getElem?.1 hz
    by_cases e : i = j
    · subst e
      rw [List.getElem?_set_self hi] at hj
      cases hj
      exact .inl rfl
    · rw [List.getElem?_set_ne e] at hj
      exact .inr ⟨List.mem_of_getElem? hj, fun k => e (key_at h ha hj k.symm)⟩
  · rintro (rfl | ⟨hz, hk⟩)
    · exact List.mem_of_getElem? (List.getElem?_set_self hi)
    · obtain ⟨j, hj⟩ := List.mem_iff_getElem?.1 hz
      have e : i ≠ j := fun e => hk (by subst e; rw [ha] at hj; cases hj; rfl)
      exact List.mem_of_getElem? (i := j) (by rw [List.getElem?_set_ne e]; exact hj)
/-- A put. -/
def PutM (M M' : κ → β → Prop) (x : κ) (v : β) : Prop := ∀ x' v', M' x' v' ↔ (x' = x ∧ v' = v) ∨ (x' ≠ x ∧ M x' v')
/-- A drop. -/
def DropM (M M' : κ → β → Prop) (x : κ) : Prop := ∀ x' v', M' x' v' ↔ x' ≠ x ∧ M x' v'
theorem row_drop (h : TabM M key val l n) (hr : RowRel key x y false lim l l' err) : err = 0 ∧ (∀ M', DropM M M' x → TabM M' key val l' l'.length) ∧ ((∃ v, M x v) → l'.length + 1 = n) ∧ ((¬ ∃ v, M x v) → l' = l) := by
  obtain ⟨r, hf, hr⟩ := hr
  rcases hr with ⟨_, he, h1⟩ | ⟨h0, _⟩
  · refine ⟨he, ?_⟩
    rcases hf with ⟨rfl, hno⟩ | ⟨i, z, rfl, hz, hzk⟩
    · have hl : l' = l := by
        rcases h1 with ⟨_, h⟩ | ⟨i, hi, _⟩
        · exact h
        · omega
      have hne : ¬ ∃ v, M x v := fun ⟨v, hv⟩ => by
        obtain ⟨y, hy, hk, _⟩ := (h.m x v).1 hv
        exact hno y hy hk
      refine ⟨fun M' hM => ⟨fun x' v' => ?_, by rw [hl]; exact h.nodup, rfl⟩, fun h => absurd h hne, fun _ => hl⟩
      rw [hM, hl, h.m]
      constructor
      · rintro ⟨_, h⟩; exact h
      · rintro ⟨y, hy, hk, hv⟩
        exact ⟨fun e => hno y hy (hk.trans e), y, hy, hk, hv⟩
    · have hl : l' = l.eraseIdx i := by
        rcases h1 with ⟨hi, _⟩ | ⟨j, hi, h⟩
        · omega
        · have : j = i := by omega
          subst this
          exact h
      have hil := (List.getElem?_eq_some_iff.1 hz).1
      have hyes : ∃ v, M x v := ⟨val z, (h.m x _).2 ⟨z, List.mem_of_getElem? hz, hzk, rfl⟩⟩
      refine ⟨fun M' hM => ⟨fun x' v' => ?_, ?_, rfl⟩, fun _ => ?_, fun hn => absurd hyes hn⟩
      · rw [hM, hl, h.m]
        constructor
        · rintro ⟨hx, y, hy, hk, hv⟩
          exact ⟨y, (mem_erase_key h.nodup hz y).2 ⟨hy, by rw [hk, hzk]; exact hx⟩, hk, hv⟩
        · rintro ⟨y, hy, hk, hv⟩
          obtain ⟨hy1, hy2⟩ := (mem_erase_key h.nodup hz y).1 hy
          exact ⟨by rw [← hk, ← hzk]; exact hy2, y, hy1, hk, hv⟩
      · rw [hl]
        exact h.nodup.sublist ((List.eraseIdx_sublist l i).map key)
      · rw [hl, List.length_eraseIdx_of_lt hil, h.len]; omega
  · cases h0
theorem row_put (h : TabM M key val l n) (hy : key y = x) (hr : RowRel key x y true lim l l' err) :
    ((lim ≤ (n : Int) ∧ ¬ ∃ v, M x v) ∧ err = 4 ∧ l' = l) ∨ (¬ (lim ≤ (n : Int) ∧ ¬ ∃ v, M x v) ∧ err = 0 ∧ (∀ M', PutM M M' x (val y) → TabM M' key val l' l'.length) ∧ ((∃ v, M x v) → l'.length = n) ∧ ((¬ ∃ v, M x v) → l'.length = n + 1)) := by
  obtain ⟨r, hf, hr⟩ := hr
  rcases hr with ⟨h0, _⟩ | ⟨_, hr⟩
  · cases h0
  · rcases hf with ⟨rfl, hno⟩ | ⟨i, z, rfl, hz, hzk⟩
    · have hne : ¬ ∃ v, M x v := fun ⟨v, hv⟩ => by
        obtain ⟨y, hy, hk, _⟩ := (h.m x v).1 hv
        exact hno y hy hk
      rcases hr with ⟨i, hi, _⟩ | ⟨_, hl, he, rfl⟩ | ⟨_, hl, he, rfl⟩
      · omega
      · exact .inl ⟨⟨by rw [h.len]; exact hl, hne⟩, he, rfl⟩
      · refine .inr ⟨fun h2 => hl (by rw [← h.len]; exact h2.1), he, fun M' hM => ⟨fun x' v' => ?_, ?_, rfl⟩, fun h => absurd h hne, fun _ => by rw [List.length_append, h.len]; rfl⟩
        · rw [hM, h.m]
          constructor
          · rintro (⟨rfl, rfl⟩ | ⟨_, z, hz, hk, hv⟩)
            · exact ⟨y, by simp, hy, rfl⟩
            · exact ⟨z, by simp [hz], hk, hv⟩
          · rintro ⟨z, hz, hk, hv⟩
            rcases List.mem_append.1 hz with h1 | h1
            · exact .inr ⟨fun e => hno z h1 (hk.trans e), z, h1, hk, hv⟩
            · simp at h1
              subst h1
              exact .inl ⟨hk.symm.trans hy, hv.symm⟩
        · rw [List.map_append, List.nodup_append]
          refine ⟨h.nodup, by simp, ?_⟩
          intro a ha b hb
          simp at hb
          subst hb
          obtain ⟨z, hz, rfl⟩ := List.mem_map.1 ha
          rw [hy]
          exact hno z hz
    · have hil := (List.getElem?_eq_some_iff.1 hz).1
      have hyes : ∃ v, M x v := ⟨val z, (h.m x _).2 ⟨z, List.mem_of_getElem? hz, hzk, rfl⟩⟩
      rcases hr with ⟨j, hi, he, hl⟩ | ⟨hi, _⟩ | ⟨hi, _⟩
      · have : j = i := by omega
        subst this
        refine .inr ⟨fun h2 => h2.2 hyes, he, fun M' hM => ⟨fun x' v' => ?_, ?_, rfl⟩, fun _ => by rw [hl, List.length_set, h.len], fun hn => absurd hyes hn⟩
        · rw [hM, hl, h.m]
          constructor
          · rintro (⟨rfl, rfl⟩ | ⟨hx, w, hw, hk, hv⟩)
            · exact ⟨y, (mem_set_key h.nodup hz y y).2 (.inl rfl), hy, rfl⟩
            · exact ⟨w, (mem_set_key h.nodup hz y w).2 (.inr ⟨hw, by rw [hk, hzk]; exact hx⟩), hk, hv⟩
          · rintro ⟨w, hw, hk, hv⟩
            rcases (mem_set_key h.nodup hz y w).1 hw with rfl | ⟨h1, h2⟩
            · exact .inl ⟨hk.symm.trans hy, hv.symm⟩
            · exact .inr ⟨by rw [← hk, ← hzk]; exact h2, w, h1, hk, hv⟩
        · rw [hl]
          have e : (l.set j y).map key = l.map key := by
            rw [List.map_set]
            refine List.ext_getElem? fun q => ?_
            by_cases e : j = q
            · subst e
              rw [List.getElem?_set_self (by simpa using hil), List.getElem?_map, hz, hy, ← hzk]
              rfl
            · rw [List.getElem?_set_ne e]
          rw [e]
          exact h.nodup
      · omega
      · omega
end
/-- A kernel holds what the document's holds. -/
structure Sim (s : KSt) (t : LSt) : Prop where
  r : TabM (fun p v => (p, v) ∈ ents s.t) Ent.key (fun e : Ent => e.2) t.r s.k
  n : TabM (fun x v => s.f1 (.int .u32 x) = some v) NeE.key (fun e : NeE => Value.agg (neiC e.ip e.m)) t.n s.n1
  e : TabM (fun m v => s.f2 (macV m) = some v) FdE.key (fun e : FdE => Value.agg (fdbC e.m e.ua)) t.e s.n2
theorem Sim.none : Sim KSt.none LSt.none :=
  ⟨⟨fun x v => by simp [KSt.none, LSt.none, ents], by simp [LSt.none], rfl⟩, ⟨fun x v => by simp [KSt.none, LSt.none], by simp [LSt.none], rfl⟩, ⟨fun x v => by simp [KSt.none, LSt.none], by simp [LSt.none], rfl⟩⟩
theorem sim_step {l0 l1 l2 : Int} {s : KSt} {t t' : LSt} {o : OpR} {err : Int} (h : Sim s t) (hS : Sane l0 l1 l2 s) (hs : StepL l0 l1 l2 t o t' err) :
    (stepK l0 l1 l2 s o).2 = err ∧ Sim (stepK l0 l1 l2 s o).1 t' := by
  unfold StepL at hs
  unfold stepK
  by_cases h12 : o.kd = 1 ∨ o.kd = 2
  · rw [if_pos h12] at hs ⊢
    cases hok : okR o.kd o.pa o.pm o.v with
    | false =>
      rw [hok] at hs
      obtain ⟨rfl, rfl⟩ := hs
      exact ⟨rfl, h⟩
    | true =>
      rw [hok] at hs
      obtain ⟨hp, hm⟩ := px_ok (okR_okB hok)
      obtain ⟨hr, e1, e2⟩ := hs
      rw [if_pos rfl]
      have hsk : (seek s.t (pxO o)).isSome = true ↔ ∃ v, (pxO o, v) ∈ ents s.t := by
        rw [Option.isSome_iff_exists]
        exact exists_congr fun v => seek_is s.t (pxO o) v hS.ok hp
      rcases h12 with hk | hk
      · have hd : decide (o.kd ≠ 2) = true := by simp [hk]
        rw [hd] at hr
        simp only [stepT, hk, decide_true, if_true]
        rcases row_put (x := pxO o) (y := (pxO o, o.v)) h.r rfl hr with ⟨⟨h1, h2⟩, rfl, h3⟩ | ⟨h1, rfl, h2, h3, h4⟩
        · have hn : (seek s.t (pxO o)).isSome = false := by rw [Bool.eq_false_iff]; exact fun x => h2 (hsk.1 x)
          rw [if_pos ⟨h1, hn⟩]
          refine ⟨rfl, ?_⟩
          have : t' = t := by cases t; cases t'; simp_all
          rw [this]; exact h
        · rw [if_neg (fun x => h1 ⟨x.1, fun y => by have := hsk.2 y; rw [x.2] at this; cases this⟩)]
          have hh := hang_is s.t (pxO o) o.v hS.ok hp
          have hM := h2 (fun p v => (p, v) ∈ ents (hang s.t (pxO o) o.v).1) (fun p v => by dsimp only; rw [hh.mem])
          have hlen : (ents (hang s.t (pxO o) o.v).1).length = t'.r.length := by
            have hl := len_hang (v := o.v) hS.ok hp
            rw [hl, ← hS.len]
            by_cases hx : ∃ v, (pxO o, v) ∈ ents s.t
            · rw [h3 hx]
              have : (hang s.t (pxO o) o.v).2 = false := by
                rw [Bool.eq_false_iff]
                intro hf
                obtain ⟨v, hv⟩ := hx
                exact hh.fresh.1 hf v hv
              rw [this]; simp
            · rw [h4 hx]
              have : (hang s.t (pxO o) o.v).2 = true := hh.fresh.2 (fun v hv => hx ⟨v, hv⟩)
              rw [this]; simp
          refine ⟨rfl, ⟨?_, by rw [e1]; exact h.n, by rw [e2]; exact h.e⟩⟩
          show TabM _ _ _ _ (ents (hang s.t (pxO o) o.v).1).length
          rw [hlen]
          exact hM
      · have hd : decide (o.kd ≠ 2) = false := by simp [hk]
        rw [hd] at hr
        have hd1 : decide (o.kd = 1) = false := by simp [hk]
        simp only [stepT, hd1]
        obtain ⟨rfl, h1, h2, h3⟩ := row_drop h.r hr
        refine ⟨rfl, ?_⟩
        simp only [Bool.false_eq_true, if_false]
        unfold dropR
        by_cases hx : ∃ v, (pxO o, v) ∈ ents s.t
        · obtain ⟨v, hv⟩ := hx
          have hsn : seek s.t (pxO o) ≠ none := by
            rw [(seek_is s.t (pxO o) v hS.ok hp).2 hv]; simp
          rw [if_neg hsn]
          have ht := take_is s.t (pxO o) v hS.ok hv
          have hl := len_take hS.ok hv
          have hM := h1 (fun p v => (p, v) ∈ ents (take s.t (pxO o))) (fun p v => by dsimp only; rw [ht.mem])
          refine ⟨?_, by rw [e1]; exact h.n, by rw [e2]; exact h.e⟩
          show TabM _ _ _ _ (ents (take s.t (pxO o))).length
          have h5 := h2 ⟨v, hv⟩
          have h6 := hS.len
          rw [show (ents (take s.t (pxO o))).length = t'.r.length by omega]
          exact hM
        · have hsn : seek s.t (pxO o) = none := (seek_none hS.ok hp).2 (fun v hv => hx ⟨v, hv⟩)
          rw [if_pos hsn]
          have hl := h3 hx
          have : t' = t := by cases t; cases t'; simp_all
          rw [this]; exact h
  · rw [if_neg h12] at hs ⊢
    by_cases h34 : o.kd = 3 ∨ o.kd = 4
    · rw [if_pos h34] at hs ⊢
      obtain ⟨hr, e1, e2⟩ := hs
      have hsk : (s.f1 (ipO o)).isSome = true ↔ ∃ v, s.f1 (.int .u32 o.ip) = some v := by
        rw [Option.isSome_iff_exists]; exact Iff.rfl
      have hinj : ∀ x : Int, (.int .u32 x : Value) = ipO o ↔ x = o.ip := fun x => by
        unfold ipO
        constructor
        · intro e; injection e
        · intro e; rw [e]
      rcases h34 with hk | hk
      · have hd : decide (o.kd ≠ 4) = true := by simp [hk]
        rw [hd] at hr
        simp only [stepT, hk, decide_true, if_true]
        rcases row_put (x := o.ip) (y := ⟨o.ip, o.nm⟩) h.n rfl hr with ⟨⟨h1, h2⟩, rfl, h3⟩ | ⟨h1, rfl, h2, h3, h4⟩
        · have hn : (s.f1 (ipO o)).isSome = false := by rw [Bool.eq_false_iff]; exact fun x => h2 (hsk.1 x)
          rw [if_pos ⟨h1, hn⟩]
          refine ⟨rfl, ?_⟩
          have : t' = t := by cases t; cases t'; simp_all
          rw [this]; exact h
        · rw [if_neg (fun x => h1 ⟨x.1, fun y => by have := hsk.2 y; rw [x.2] at this; cases this⟩)]
          have hM := h2 (fun x v => updV s.f1 (ipO o) (some (.agg (neiC o.ip o.nm))) (.int .u32 x) = some v) (fun x v => by
            dsimp only
            by_cases e : x = o.ip
            · rw [(hinj x).2 e, updV_same]
              simp only [e, Option.some.injEq, true_and, ne_eq, not_true_eq_false, false_and, or_false]
              exact eq_comm
            · rw [updV_other _ (fun h => e ((hinj x).1 h))]
              simp [e])
          refine ⟨rfl, ⟨by rw [e1]; exact h.r, ?_, by rw [e2]; exact h.e⟩⟩
          show TabM _ _ _ _ (if (s.f1 (ipO o)).isSome then s.n1 else s.n1 + 1)
          have hlen : (if (s.f1 (ipO o)).isSome then s.n1 else s.n1 + 1) = t'.n.length := by
            by_cases hx : ∃ v, s.f1 (.int .u32 o.ip) = some v
            · rw [if_pos (hsk.2 hx), h3 hx]
            · rw [if_neg (fun x => hx (hsk.1 x)), h4 hx]
          rw [hlen]
          exact hM
      · have hd : decide (o.kd ≠ 4) = false := by simp [hk]
        rw [hd] at hr
        have hd1 : decide (o.kd = 3) = false := by simp [hk]
        simp only [stepT, hd1]
        obtain ⟨rfl, h1, h2, h3⟩ := row_drop h.n hr
        refine ⟨rfl, ?_⟩
        simp only [Bool.false_eq_true, if_false]
        have hM := h1 (fun x v => updV s.f1 (ipO o) none (.int .u32 x) = some v) (fun x v => by
          dsimp only
          by_cases e : x = o.ip
          · rw [(hinj x).2 e, updV_same]
            simp [e]
          · rw [updV_other _ (fun h => e ((hinj x).1 h))]
            simp [e])
        refine ⟨by rw [e1]; exact h.r, ?_, by rw [e2]; exact h.e⟩
        show TabM _ _ _ _ (if (s.f1 (ipO o)).isSome then s.n1 - 1 else s.n1)
        have hlen : (if (s.f1 (ipO o)).isSome then s.n1 - 1 else s.n1) = t'.n.length := by
          by_cases hx : ∃ v, s.f1 (.int .u32 o.ip) = some v
          · rw [if_pos (hsk.2 hx)]; have := h2 hx; omega
          · rw [if_neg (fun x => hx (hsk.1 x)), h3 hx]; exact h.n.len
        rw [hlen]
        exact hM
    · rw [if_neg h34] at hs ⊢
      by_cases h56 : o.kd = 5 ∨ o.kd = 6
      · rw [if_pos h56] at hs ⊢
        obtain ⟨hr, e1, e2⟩ := hs
        have hsk : (s.f2 (macV o.fm)).isSome = true ↔ ∃ v, s.f2 (macV o.fm) = some v := Option.isSome_iff_exists
        have hinj : ∀ x : M6, macV x = macV o.fm ↔ x = o.fm := fun x => ⟨macV_inj, fun e => by rw [e]⟩
        rcases h56 with hk | hk
        · have hd : decide (o.kd ≠ 6) = true := by simp [hk]
          rw [hd] at hr
          simp only [stepT, hk, decide_true, if_true]
          rcases row_put (x := o.fm) (y := ⟨o.fm, o.ua⟩) h.e rfl hr with ⟨⟨h1, h2⟩, rfl, h3⟩ | ⟨h1, rfl, h2, h3, h4⟩
          · have hn : (s.f2 (macV o.fm)).isSome = false := by rw [Bool.eq_false_iff]; exact fun x => h2 (hsk.1 x)
            rw [if_pos ⟨h1, hn⟩]
            refine ⟨rfl, ?_⟩
            have : t' = t := by cases t; cases t'; simp_all
            rw [this]; exact h
          · rw [if_neg (fun x => h1 ⟨x.1, fun y => by have := hsk.2 y; rw [x.2] at this; cases this⟩)]
            have hM := h2 (fun x v => updV s.f2 (macV o.fm) (some (.agg (fdbC o.fm o.ua))) (macV x) = some v) (fun x v => by
              dsimp only
              by_cases e : x = o.fm
              · rw [(hinj x).2 e, updV_same]
                simp only [e, Option.some.injEq, true_and, ne_eq, not_true_eq_false, false_and, or_false]
                exact eq_comm
              · rw [updV_other _ (fun h => e ((hinj x).1 h))]
                simp [e])
            refine ⟨rfl, ⟨by rw [e1]; exact h.r, by rw [e2]; exact h.n, ?_⟩⟩
            show TabM _ _ _ _ (if (s.f2 (macV o.fm)).isSome then s.n2 else s.n2 + 1)
            have hlen : (if (s.f2 (macV o.fm)).isSome then s.n2 else s.n2 + 1) = t'.e.length := by
              by_cases hx : ∃ v, s.f2 (macV o.fm) = some v
              · rw [if_pos (hsk.2 hx), h3 hx]
              · rw [if_neg (fun x => hx (hsk.1 x)), h4 hx]
            rw [hlen]
            exact hM
        · have hd : decide (o.kd ≠ 6) = false := by simp [hk]
          rw [hd] at hr
          have hd1 : decide (o.kd = 5) = false := by simp [hk]
          simp only [stepT, hd1]
          obtain ⟨rfl, h1, h2, h3⟩ := row_drop h.e hr
          refine ⟨rfl, ?_⟩
          simp only [Bool.false_eq_true, if_false]
          have hM := h1 (fun x v => updV s.f2 (macV o.fm) none (macV x) = some v) (fun x v => by
            dsimp only
            by_cases e : x = o.fm
            · rw [(hinj x).2 e, updV_same]
              simp [e]
            · rw [updV_other _ (fun h => e ((hinj x).1 h))]
              simp [e])
          refine ⟨by rw [e1]; exact h.r, by rw [e2]; exact h.n, ?_⟩
          show TabM _ _ _ _ (if (s.f2 (macV o.fm)).isSome then s.n2 - 1 else s.n2)
          have hlen : (if (s.f2 (macV o.fm)).isSome then s.n2 - 1 else s.n2) = t'.e.length := by
            by_cases hx : ∃ v, s.f2 (macV o.fm) = some v
            · rw [if_pos (hsk.2 hx)]; have := h2 hx; omega
            · rw [if_neg (fun x => hx (hsk.1 x)), h3 hx]; exact h.e.len
          rw [hlen]
          exact hM
      · rw [if_neg h56] at hs ⊢
        obtain ⟨rfl, rfl⟩ := hs
        exact ⟨rfl, h⟩
end Go.Proofs.YtnpeafhjcelpfaaGreat.Tri

/- A kernel and the document's: their answers are alike; plain; no condition. -/
namespace Go.Proofs.YtnpeafhjcelpfaaGreat.Tri
open Go.RowKit Go.Maps
set_option linter.unusedVariables false
set_option linter.unusedSimpArgs false

theorem sim_do {l0 l1 l2 : Int} : ∀ (os : List OpR) (i : Nat) (s : KSt) (t t' : LSt) (j : Nat) (e : Int), Sim s t → Sane l0 l1 l2 s → (∀ o ∈ os, OpW o) → DoL l0 l1 l2 t os i t' j e → ∃ s', doK l0 l1 l2 s os i = (s', j, e) ∧ Sim s' t'
  | [], i, s, t, t', j, e, h, hS, hO, hd => by
    obtain ⟨rfl, rfl, rfl⟩ := hd
    exact ⟨s, rfl, h⟩
  | o :: os, i, s, t, t', j, e, h, hS, hO, hd => by
    obtain ⟨t1, e1, hst, hd⟩ := hd
    obtain ⟨k1, k2⟩ := sim_step h hS hst
    rcases hd with ⟨rfl, hd⟩ | ⟨hne, rfl, rfl, rfl⟩
    · obtain ⟨s', h1, h2⟩ := sim_do os (i + 1) _ t1 t' j e k2 (sane_step hS (hO o (by simp)) k1) (fun o ho => hO o (by simp [ho])) hd
      exact ⟨s', by rw [doK, if_pos k1]; exact h1, h2⟩
    · refine ⟨s, by rw [doK, if_neg (by rw [k1]; exact hne), k1], ?_⟩
      -- refused: nothing has changed
      have hs : (stepK l0 l1 l2 s o).1 = s := by
        unfold stepK stepT at k1 ⊢
        by_cases h12 : o.kd = 1 ∨ o.kd = 2
        · rw [if_pos h12] at k1 ⊢
          split at k1
          · split at k1
            · split at k1
              · rename_i a b c; rw [if_pos a, if_pos b, if_pos c]
              · exact absurd k1.symm hne
            · exact absurd k1.symm hne
          · rename_i a; rw [if_neg a]
        · rw [if_neg h12] at k1 ⊢
          by_cases h34 : o.kd = 3 ∨ o.kd = 4
          · rw [if_pos h34] at k1 ⊢
            split at k1
            · split at k1
              · rename_i b c; rw [if_pos b, if_pos c]
              · exact absurd k1.symm hne
            · exact absurd k1.symm hne
          · rw [if_neg h34] at k1 ⊢
            by_cases h56 : o.kd = 5 ∨ o.kd = 6
            · rw [if_pos h56] at k1 ⊢
              split at k1
              · split at k1
                · rename_i b c; rw [if_pos b, if_pos c]
                · exact absurd k1.symm hne
              · exact absurd k1.symm hne
            · rw [if_neg h56]
      rw [hs] at k2
      exact k2
theorem mask_top {p : Px} (hp : p.ok) {a : Nat} : maskOf a p.n = p.a ↔ top a p.n = top p.a p.n := by
  constructor
  · intro h
    rw [← h, top_mask]
  · intro h
    rw [← hp.2.2, maskOf_eq]; exact h
theorem best_find {t : T} {R : List Ent} {a : Nat} {r : Int} (hO : Ok t) (hm : ∀ e, e ∈ ents t ↔ e ∈ R) (hb : BestR R a R.length r) :
    (r = -1 ∧ find t a none = none) ∨ ∃ (k : Nat) (q : Px) (v : Int), r = (k : Int) ∧ R[k]? = some (q, v) ∧ find t a none = some (q, v) := by
  have hf := find_longest (a := a) hO
  rcases hb with ⟨rfl, h1⟩ | ⟨k, ⟨q, v⟩, rfl, _, h2, h3, h4⟩
  · left
    refine ⟨rfl, ?_⟩
    cases hx : find t a none with
    | none => rfl
    | some e =>
      obtain ⟨g1, g2, _⟩ := hf.some_ _ hx
      obtain ⟨j, hj⟩ := List.mem_iff_getElem?.1 ((hm e).1 g1)
      exact absurd ((mask_top (ents_ok hO _ g1)).2 g2) (h1 j e (List.getElem?_eq_some_iff.1 hj).1 hj)
  · right
    refine ⟨k, q, v, rfl, h2, ?_⟩
    have hmm := (hm _).2 (List.mem_of_getElem? h2)
    have hqo := ents_ok hO _ hmm
    cases hx : find t a none with
    | none => exact absurd ((mask_top hqo).1 h3) (hf.none_ hx _ hmm)
    | some e =>
      obtain ⟨q', v'⟩ := e
      obtain ⟨g1, g2, g3⟩ := hf.some_ _ hx
      have hqo' := ents_ok hO _ g1
      obtain ⟨j, hj⟩ := List.mem_iff_getElem?.1 ((hm _).1 g1)
      have a1 : q'.n ≤ q.n := h4 j _ (List.getElem?_eq_some_iff.1 hj).1 hj ((mask_top hqo').2 g2)
      have a2 : q.n ≤ q'.n := g3 _ hmm ((mask_top hqo).1 h3)
      have a3 : q'.n = q.n := by omega
      have a4 : q'.a = q.a := by
        have e1 := (mask_top hqo').2 g2
        have e2 : maskOf a q.n = q.a := h3
        dsimp only at e1
        rw [← e1, ← e2, a3]
      have a5 : q' = q := by cases q; cases q'; simp_all
      subst a5
      rw [sorted_one (ents_sorted t hO) g1 hmm]
theorem key_eq {α κ : Type} {key : α → κ} {l : List α} (hn : (l.map key).Nodup) {y z : α} (hy : y ∈ l) (hz : z ∈ l) (hk : key y = key z) : y = z := by
  obtain ⟨i, hi⟩ := List.mem_iff_getElem?.1 hy
  obtain ⟨j, hj⟩ := List.mem_iff_getElem?.1 hz
  have := key_at hn hi hj hk
  subst this
  rw [hi] at hj
  exact Option.some.inj hj
open Classical in
/-- What the document's lists tell of a key. -/
noncomputable def nmL (t : LSt) (x : Int) : Option M6 := if h : ∃ y ∈ t.n, y.ip = x then some (Classical.choose h).m else none
open Classical in
noncomputable def emL (t : LSt) (x : M6) : Option Int := if h : ∃ y ∈ t.e, y.m = x then some (Classical.choose h).ua else none
open Classical in
theorem nmL_some {t : LSt} (hn : (t.n.map NeE.key).Nodup) {y : NeE} (hy : y ∈ t.n) : nmL t y.ip = some y.m := by
  have h : ∃ z ∈ t.n, z.ip = y.ip := ⟨y, hy, rfl⟩
  unfold nmL
  rw [dif_pos h, key_eq hn (Classical.choose_spec h).1 hy (Classical.choose_spec h).2]
theorem nmL_none {t : LSt} {x : Int} (h : ∀ y ∈ t.n, y.ip ≠ x) : nmL t x = none := by
  unfold nmL
  rw [dif_neg (fun ⟨y, hy, e⟩ => h y hy e)]
open Classical in
theorem emL_some {t : LSt} (hn : (t.e.map FdE.key).Nodup) {y : FdE} (hy : y ∈ t.e) : emL t y.m = some y.ua := by
  have h : ∃ z ∈ t.e, z.m = y.m := ⟨y, hy, rfl⟩
  unfold emL
  rw [dif_pos h, key_eq hn (Classical.choose_spec h).1 hy (Classical.choose_spec h).2]
theorem emL_none {t : LSt} {x : M6} (h : ∀ y ∈ t.e, y.m ≠ x) : emL t x = none := by
  unfold emL
  rw [dif_neg (fun ⟨y, hy, e⟩ => h y hy e)]
theorem neiC_inj {a b : Int} {x y : M6} (h : (Value.agg (neiC a x) : Value) = .agg (neiC b y)) : a = b ∧ x = y := by
  simp [neiC] at h
  obtain ⟨h0, h1, h2, h3, h4, h5, h6⟩ := h
  cases x; cases y
  simp_all
theorem fdbC_inj {a b : Int} {x y : M6} (h : (Value.agg (fdbC x a) : Value) = .agg (fdbC y b)) : x = y ∧ a = b := by
  simp [fdbC] at h
  obtain ⟨h0, h1, h2, h3, h4, h5, h6⟩ := h
  cases x; cases y
  simp_all
theorem Sim.well {l0 l1 l2 : Int} {s : KSt} {t : LSt} (h : Sim s t) (hG : GoodL l0 l1 l2 t) : Well s (nmL t) (emL t) := by
  refine ⟨fun x => ?_, fun m => ?_, fun x y hy => ?_, fun m u hu => ?_, fun e he => ?_⟩
  · by_cases hx : ∃ y ∈ t.n, y.ip = x
    · obtain ⟨y, hy, rfl⟩ := hx
      rw [nmL_some h.n.nodup hy]
      exact (h.n.m y.ip _).2 ⟨y, hy, rfl, rfl⟩
    · have hx' : ∀ y ∈ t.n, y.ip ≠ x := fun y hy e => hx ⟨y, hy, e⟩
      rw [nmL_none hx']
      cases hf : s.f1 (.int .u32 x) with
      | none => rfl
      | some v =>
        obtain ⟨y, hy, hk, _⟩ := (h.n.m x v).1 hf
        exact absurd hk (hx' y hy)
  · by_cases hx : ∃ y ∈ t.e, y.m = m
    · obtain ⟨y, hy, rfl⟩ := hx
      rw [emL_some h.e.nodup hy]
      exact (h.e.m y.m _).2 ⟨y, hy, rfl, rfl⟩
    · have hx' : ∀ y ∈ t.e, y.m ≠ m := fun y hy e => hx ⟨y, hy, e⟩
      rw [emL_none hx']
      cases hf : s.f2 (macV m) with
      | none => rfl
      | some v =>
        obtain ⟨y, hy, hk, _⟩ := (h.e.m m v).1 hf
        exact absurd hk (hx' y hy)
  · by_cases hx : ∃ z ∈ t.n, z.ip = x
    · obtain ⟨z, hz, rfl⟩ := hx
      rw [nmL_some h.n.nodup hz] at hy
      cases hy
      exact hG.n z hz
    · rw [nmL_none (fun y hy e => hx ⟨y, hy, e⟩)] at hy
      cases hy
  · by_cases hx : ∃ z ∈ t.e, z.m = m
    · obtain ⟨z, hz, rfl⟩ := hx
      rw [emL_some h.e.nodup hz] at hu
      cases hu
      exact hG.e z hz
    · rw [emL_none (fun y hy e => hx ⟨y, hy, e⟩)] at hu
      cases hu
  · obtain ⟨y, hy, hk, hv⟩ := (h.r.m e.1 e.2).1 he
    rw [← hv]
    exact (hG.r y hy).2
theorem Sim.routes {s : KSt} {t : LSt} (h : Sim s t) (e : Ent) : e ∈ ents s.t ↔ e ∈ t.r := by
  obtain ⟨p, v⟩ := e
  rw [h.r.m p v]
  constructor
  · rintro ⟨y, hy, hk, hv⟩
    have : y = (p, v) := by
      obtain ⟨a, b⟩ := y
      simp only [Ent.key] at hk
      simp only at hv
      rw [hk, hv]
    rw [← this]
    exact hy
  · intro hy
    exact ⟨(p, v), hy, rfl, rfl⟩
theorem sim_res {s : KSt} {t : LSt} {a : Nat} {h : Array Value} {err : Int} (hs : Sim s t) (hO : Ok s.t) (hr : ResRel t a h err) : resV (find s.t a none) (nmL t) (emL t) = (h, err) := by
  obtain ⟨r, hb, hr⟩ := hr
  rcases best_find hO hs.routes hb with ⟨rfl, hf⟩ | ⟨k, q, v, rfl, hk, hf⟩
  · rcases hr with ⟨_, rfl, rfl⟩ | ⟨b, p, v, hb, _⟩
    · rw [hf]; rfl
    · omega
  · rcases hr with ⟨hr, _⟩ | ⟨b, p, v', hb, hbp, hr⟩
    · omega
    · have : b = k := by omega
      subst this
      rw [hk] at hbp
      cases hbp
      rw [hf]
      unfold resV
      rcases hr with ⟨hl, rfl, rfl⟩ | ⟨hl, hr⟩
      · simp [hl]
      · rcases hr with ⟨rfl, rfl, hno⟩ | ⟨y, hy, hyi, hr⟩
        · simp [hl, nmL_none hno]
        · have e1 : nmL t (rV v) = some y.m := by rw [← hyi]; exact nmL_some hs.n.nodup hy
          rcases hr with ⟨rfl, rfl, hno⟩ | ⟨z, hz, hzm, rfl, rfl⟩
          · simp [hl, e1, emL_none hno]
          · have e2 : emL t y.m = some z.ua := by rw [← hzm]; exact emL_some hs.e.nodup hz
            simp [hl, e1, e2]
theorem strict_eq {α : Type} {lt : α → α → Prop} (hirr : ∀ a, ¬ lt a a) (htr : ∀ a b c, lt a b → lt b c → lt a c) : ∀ (l m : List α), l.Pairwise lt → m.Pairwise lt → (∀ e, e ∈ l ↔ e ∈ m) → l = m
  | [], [], _, _, _ => rfl
  | [], y :: m, _, _, h => by have := (h y).2 (by simp); simp at this
  | x :: l, [], _, _, h => by have := (h x).1 (by simp); simp at this
  | x :: l, y :: m, hl, hm, h => by
    have hx := (List.pairwise_cons.1 hl).1
    have hy := (List.pairwise_cons.1 hm).1
    have hxy : x = y := by
      rcases List.mem_cons.1 ((h x).1 (by simp)) with e | e
      · exact e
      · rcases List.mem_cons.1 ((h y).2 (by simp)) with e2 | e2
        · exact e2.symm
        · exact absurd (htr _ _ _ (hx y e2) (hy x e)) (hirr x)
    subst hxy
    rw [strict_eq hirr htr l m (List.pairwise_cons.1 hl).2 (List.pairwise_cons.1 hm).2 (fun e => ⟨fun he => ?_, fun he => ?_⟩)]
    · rcases List.mem_cons.1 ((h e).1 (List.mem_cons_of_mem _ he)) with e1 | e1
      · subst e1; exact absurd (hx _ he) (hirr _)
      · exact e1
    · rcases List.mem_cons.1 ((h e).2 (List.mem_cons_of_mem _ he)) with e1 | e1
      · subst e1; exact absurd (hy _ he) (hirr _)
      · exact e1
theorem sort_strict {α κ : Type} {key : α → κ} {lt : α → α → Prop} {L l : List α} (h : SortP lt L l) (hn : (l.map key).Nodup) (htri : ∀ a b, ¬ lt b a → key a ≠ key b → lt a b) : L.Pairwise lt := by
  have h1 : (L.map key).Nodup := (h.1.map _).nodup_iff.2 hn
  rw [List.Nodup, List.pairwise_map] at h1
  exact (h.2.and h1).imp fun ⟨a, b⟩ => htri _ _ a b
theorem mlt_trans {a b c : M6} (h1 : mlt a b) (h2 : mlt b c) : mlt a c := by unfold mlt at *; omega
theorem sim_dump {s : KSt} {t : LSt} (hs : Sim s t) (hO : Ok s.t) {L1 M1 : List NeE} {L2 M2 : List FdE} {R : List Ent} (h1 : AllN s.f1 L1) (h2 : AllF s.f2 L2) (g0 : SortP ltR R t.r) (g1 : SortP ltNe M1 t.n) (g2 : SortP ltFd M2 t.e) (hG : ∀ x ∈ t.e, x.m.wf) (hGn : ∀ x ∈ t.n, 0 ≤ x.ip ∧ x.ip < 4294967296) : ents s.t = R ∧ L1 = M1 ∧ L2 = M2 := by
  refine ⟨?_, ?_, ?_⟩
  · refine strict_eq (lt := ltR) (fun a h => by unfold ltR at h; omega) (fun a b c h k => by unfold ltR at *; omega) _ _ ((ents_sorted s.t hO).imp fun {a b} h => by unfold plt at h; unfold ltR; omega) (sort_strict g0 hs.r.nodup (fun a b h1 h2 => ?_)) (fun e => by rw [hs.routes e]; exact g0.1.mem_iff.symm)
    unfold ltR at *
    by_cases e : a.1.a = b.1.a
    · by_cases f : a.1.n = b.1.n
      · exact absurd (show a.1 = b.1 by
          obtain ⟨⟨x, y⟩, _⟩ := a
          obtain ⟨⟨z, w⟩, _⟩ := b
          simp only at e f
          rw [e, f]) h2
      · omega
    · omega
  · refine strict_eq (lt := ltNe) (fun a h => by unfold ltNe at h; omega) (fun a b c h k => by unfold ltNe at *; omega) _ _ (h1.up.imp fun {a b} h => h) (sort_strict g1 hs.n.nodup (fun a b h1 h2 => by unfold ltNe at *; unfold NeE.key at h2; omega)) (fun e => ?_)
    rw [g1.1.mem_iff]
    constructor
    · intro he
      obtain ⟨y, hy, hk, hv⟩ := (hs.n.m e.ip _).1 (h1.isIn e he).1
      obtain ⟨a1, a2⟩ := neiC_inj hv
      have : y = e := by cases y; cases e; simp_all
      rw [← this]; exact hy
    · intro he
      obtain ⟨b0, b1⟩ := hGn e he
      obtain ⟨y, hy, hyi⟩ := h1.all e.ip _ b0 b1 ((hs.n.m e.ip _).2 ⟨e, he, rfl, rfl⟩)
      have e1 := (h1.isIn y hy).1
      rw [hyi, (hs.n.m e.ip _).2 ⟨e, he, rfl, rfl⟩] at e1
      obtain ⟨a1, a2⟩ := neiC_inj (Option.some.inj e1)
      have : y = e := by cases y; cases e; simp_all
      rw [← this]; exact hy
  · refine strict_eq (lt := ltFd) (fun a h => mlt_irr h h) (fun a b c h k => mlt_trans h k) _ _ (h2.up.imp fun {a b} h => h) (sort_strict g2 hs.e.nodup (fun a b h1 h2 => mlt_tri h1 h2)) (fun e => ?_)
    rw [g2.1.mem_iff]
    constructor
    · intro he
      obtain ⟨y, hy, hk, hv⟩ := (hs.e.m e.m _).1 (h2.isIn e he).1
      obtain ⟨a1, a2⟩ := fdbC_inj hv
      have : y = e := by cases y; cases e; simp_all
      rw [← this]; exact hy
    · intro he
      obtain ⟨y, hy, hyi⟩ := h2.all e.m _ (hG e he) ((hs.e.m e.m _).2 ⟨e, he, rfl, rfl⟩)
      have e1 := (h2.isIn y hy).1
      rw [hyi, (hs.e.m e.m _).2 ⟨e, he, rfl, rfl⟩] at e1
      obtain ⟨a1, a2⟩ := fdbC_inj (Option.some.inj e1)
      have : y = e := by cases y; cases e; simp_all
      rw [← this]; exact hy
end Go.Proofs.YtnpeafhjcelpfaaGreat.Tri

/- Structs that are equal to themselves; no condition. -/
namespace Go.Proofs.YtnpeafhjcelpfaaGreat.Tri
open Go.RowKit Go.Maps
set_option linter.unusedVariables false
set_option linter.unusedSimpArgs false
set_option maxRecDepth 100000

theorem stoodP : Tryz.prog.stoodInHeld 47 = false := by kernel_rfl
theorem stoodR : Tryz.prog.stoodInHeld 49 = false := by kernel_rfl
theorem stoodN : Tryz.prog.stoodInHeld 53 = false := by kernel_rfl
theorem stoodF : Tryz.prog.stoodInHeld 55 = false := by kernel_rfl
theorem stoodH : Tryz.prog.stoodInHeld 71 = false := by kernel_rfl
theorem guardR : Tryz.prog.eqGuardType Tryz.prog.depth 49 = false := by kernel_rfl
theorem guardN : Tryz.prog.eqGuardType Tryz.prog.depth 53 = false := by kernel_rfl
theorem guardF : Tryz.prog.eqGuardType Tryz.prog.depth 55 = false := by kernel_rfl
theorem guardH : Tryz.prog.eqGuardType Tryz.prog.depth 71 = false := by kernel_rfl
theorem szP : Tryz.prog.cellsOf 47 = 2 := by kernel_rfl
theorem szM : Tryz.prog.cellsOf 51 = 6 := by kernel_rfl
theorem rt_same (a n v : Int) (l : Bool) (w : World) :
    (binOp .neq 49 (.agg #[.int .u32 a, .int .i64 n, .int .u32 v, .bool l]) (.agg #[.int .u32 a, .int .i64 n, .int .u32 v, .bool l])).run Tryz.prog w = .ok (.bool false) w := by
  rw [run_neq_struct, show (10000 : Nat) = 9998 + 1 + 1 from rfl, run_equalIn_agg w 9999 49 _ _ (by kernel_rfl) stoodR]
  have h3 := Tryz.underlying3
  have h30 := Tryz.underlying38
  have h4 := Tryz.underlying4
  simp [Program.fieldsOf, Tryz.underlying49, Tryz.underlying47, stoodP, Op.eqFields, go_sem]
theorem info5 : ∃ i, Tryz.prog.info? 5 = some i := Option.isSome_iff_exists.1 (by kernel_rfl)
theorem sz5 : Tryz.prog.cellsOf 5 = 1 := by kernel_rfl
theorem mac_same (d : Nat) (x0 x1 x2 x3 x4 x5 : Int) (w : World) : (Op.equalIn (d + 1 + 1) 51 (.agg #[.int .u8 x0, .int .u8 x1, .int .u8 x2, .int .u8 x3, .int .u8 x4, .int .u8 x5]) (.agg #[.int .u8 x0, .int .u8 x1, .int .u8 x2, .int .u8 x3, .int .u8 x4, .int .u8 x5])).run Tryz.prog w = .ok true w := by
  obtain ⟨i, hi⟩ := info5
  rw [run_equalIn_array w (d + 1) _ _ Tryz.underlying51 hi, sz5]
  have h3 := Tryz.underlying5
  simp [Op.eqItems, show List.range 6 = [0, 1, 2, 3, 4, 5] from rfl, go_sem]
theorem ne_same (ip : Int) (m : M6) (w : World) : (binOp .neq 53 (.agg (neiC ip m)) (.agg (neiC ip m))).run Tryz.prog w = .ok (.bool false) w := by
  unfold neiC
  rw [run_neq_struct, show (10000 : Nat) = 9997 + 1 + 1 + 1 from rfl, run_equalIn_agg w 9999 53 _ _ (by kernel_rfl) stoodN]
  have h30 := Tryz.underlying38
  have hm := fun w => mac_same 9997 m.m0 m.m1 m.m2 m.m3 m.m4 m.m5 w
  simp [Program.fieldsOf, Tryz.underlying53, Op.eqFields, go_sem, hm]
theorem fd_same (u : Int) (m : M6) (w : World) : (binOp .neq 55 (.agg (fdbC m u)) (.agg (fdbC m u))).run Tryz.prog w = .ok (.bool false) w := by
  unfold fdbC
  rw [run_neq_struct, show (10000 : Nat) = 9997 + 1 + 1 + 1 from rfl, run_equalIn_agg w 9999 55 _ _ (by kernel_rfl) stoodF]
  have h30 := Tryz.underlying38
  have hm := fun w => mac_same 9997 m.m0 m.m1 m.m2 m.m3 m.m4 m.m5 w
  simp [Program.fieldsOf, Tryz.underlying55, Op.eqFields, go_sem, hm]
theorem hop_same (l : Bool) (a m v : Int) (y : M6) (u : Int) (w : World) : (binOp .eql 71 (.agg (hopC l a m v y u)) (.agg (hopC l a m v y u))).run Tryz.prog w = .ok (.bool true) w := by
  unfold hopC
  rw [run_eql_struct, show (10000 : Nat) = 9997 + 1 + 1 + 1 from rfl, run_equalIn_agg w 9999 71 _ _ (by kernel_rfl) stoodH]
  have h30 := Tryz.underlying38
  have h3 := Tryz.underlying3
  have h4 := Tryz.underlying4
  have hm := fun w => mac_same 9997 y.m0 y.m1 y.m2 y.m3 y.m4 y.m5 w
  simp [Program.fieldsOf, Tryz.underlying71, Tryz.underlying47, stoodP, Op.eqFields, go_sem, hm]
end Go.Proofs.YtnpeafhjcelpfaaGreat.Tri

/- The law's dumps: tables that are alike; no condition. -/
namespace Go.Proofs.YtnpeafhjcelpfaaGreat.Tri
open Go.RowKit Go.Maps
set_option linter.unusedVariables false
set_option linter.unusedSimpArgs false
set_option maxRecDepth 100000

/-- A value is tables that hold these lists. -/
def DumpV (w : World) (v : Value) (R : List Ent) (N : List NeE) (E : List FdE) : Prop :=
  ∃ U0 U1 U2, v = .agg #[U0, U1, U2] ∧ VRow w 49 4 U0 R.length (SK.flatL encR R) ∧ VRow w 53 7 U1 N.length (SK.flatL encN N) ∧ VRow w 55 7 U2 E.length (SK.flatL encF E)
theorem DumpV.kept {w w' : World} {v : Value} {R : List Ent} {N : List NeE} {E : List FdE} (h : DumpV w v R N E) (t : Touch [] w w') : DumpV w' v R N E := by
  obtain ⟨U0, U1, U2, rfl, h0, h1, h2⟩ := h
  exact ⟨U0, U1, U2, rfl, h0.kept t (by simp), h1.kept t (by simp), h2.kept t (by simp)⟩
set_option maxHeartbeats 16000000 in
theorem dumps_calls {w : World} {v v' : Value} {R : List Ent} {N : List NeE} {E : List FdE} (h : DumpV w v R N E) (h' : DumpV w v' R N E) (hlen : R.length < 1000000 ∧ N.length < 1000000 ∧ E.length < 1000000) :
    Calls Tryz.prog 24 #[v, v'] w (fun e w' => e = .returned (.bool true) ∧ Touch [] w w') := by
  obtain ⟨U0, U1, U2, rfl, h0, h1, h2⟩ := h
  obtain ⟨V0, V1, V2, rfl, g0, g1, g2⟩ := h'
  obtain ⟨A0, a0, rfl⟩ := h0.form
  obtain ⟨A1, a1, rfl⟩ := h1.form
  obtain ⟨A2, a2, rfl⟩ := h2.form
  obtain ⟨B0, b0, rfl⟩ := g0.form
  obtain ⟨B1, b1, rfl⟩ := g1.form
  obtain ⟨B2, b2, rfl⟩ := g2.form
  obtain ⟨W1, hW1⟩ : ∃ W1 : World, W1 = (w.alloc (.cells #[.slice A0 R.length a0, .slice A1 N.length a1, .slice A2 E.length a2] 66)).alloc (.cells #[.slice B0 R.length b0, .slice B1 N.length b1, .slice B2 E.length b2] 66) := ⟨_, rfl⟩
  have T1 := Lib.hid (show Touch [] w W1 by rw [hW1]; exact ((Touch.refl [] w).alloc _).alloc _)
  have X0 := Lib.hid (show W1.heap[w.heap.size]? = some (.cells #[.slice A0 R.length a0, .slice A1 N.length a1, .slice A2 E.length a2] 66 (0, 0)) by rw [hW1]; exact box_keep _ (box_at w _))
  have X1 := Lib.hid (show W1.heap[w.heap.size + 1]? = some (.cells #[.slice B0 R.length b0, .slice B1 N.length b1, .slice B2 E.length b2] 66 (0, 0)) by rw [hW1]; exact box_at' _ _ _ (by simp))
  have HW1 := Lib.hid hW1
  have H0 := Lib.hid (h0.kept T1.out (by simp))
  have H1 := Lib.hid (h1.kept T1.out (by simp))
  have H2 := Lib.hid (h2.kept T1.out (by simp))
  have G0 := Lib.hid (g0.kept T1.out (by simp))
  have G1 := Lib.hid (g1.kept T1.out (by simp))
  have G2 := Lib.hid (g2.kept T1.out (by simp))
  obtain ⟨hl0, hl1, hl2⟩ := hlen
  clear h0 h1 h2 g0 g1 g2 hW1
  go_enter Tryz.func24, Tryz.ntmps24
  go_upto_region 1 with (fail)
  rw [← HW1.out]
  obtain ⟨c0, c1, c2⟩ := th3 X0.out
  obtain ⟨d0, d1, d2⟩ := th3 X1.out
  go_wp2_with fail
  clear c0 c1 c2 d0 d1 d2
  go_loopg [5] (R.length + 1) (fun kq v5 wr => ∃ k : Nat, v5 = .int .i64 k ∧ k ≤ R.length ∧ R.length + 1 - k ≤ kq ∧ Hid (Touch [] W1 wr))
  case atStart => exact ⟨0, rfl, Nat.zero_le _, by omega, Lib.hid (Touch.refl _ _)⟩
  case round =>
    obtain ⟨k, rfl, hk, hkq, hT⟩ := hrel
    obtain ⟨c0, c1, c2⟩ := th3 (touch_box hT.out X0.out (by simp))
    obtain ⟨d0, d1, d2⟩ := th3 (touch_box hT.out X1.out (by simp))
    by_cases hlt : k < R.length
    · have e1 : (k : Int) < (R.length : Int) := by omega
      obtain ⟨x, hx⟩ : ∃ x, R[k]? = some x := ⟨_, List.getElem?_eq_getElem hlt⟩
      have hHk := H0.out.kept hT.out (by simp)
      have hGk := G0.out.kept hT.out (by simp)
      obtain ⟨g, c, hV, _, _, hc, _⟩ := hHk.getAt encR_len hx
      simp only [Value.slice.injEq, true_and] at hV
      obtain ⟨rfl, rfl⟩ := hV
      have m0 := hc 0 _ rfl
      rw [Nat.add_zero] at m0
      have m1 := hc 1 _ rfl
      have m2 := hc 2 _ rfl
      have m3 := hc 3 _ rfl
      obtain ⟨g', c', hV, _, _, hc, _⟩ := hGk.getAt encR_len hx
      simp only [Value.slice.injEq, true_and] at hV
      obtain ⟨rfl, rfl⟩ := hV
      have q0 := hc 0 _ rfl
      rw [Nat.add_zero] at q0
      have q1 := hc 1 _ rfl
      have q2 := hc 2 _ rfl
      have q3 := hc 3 _ rfl
      have hsame := fun w => rt_same x.1.a x.1.n (rV x.2) (rL x.2) w
      clear hHk hGk hc hx c1 c2 d1 d2
      go_wp2
      go_quiet (fail)
      go_wp2
      go_roundg (R.length - k)
      case rel => exact ⟨k + 1, by simp, by omega, by omega, Lib.hid (hT.out.drewN nq)⟩
      case measure => omega
    · have e1 : ¬ (k : Int) < (R.length : Int) := by omega
      have TN := Lib.hid hT.out
      clear hlt hkq
      go_wp2_with fail
      clear c0 c1 c2 d0 d1 d2 e1
      go_loopg [6] (N.length + 1) (fun kq v6 wr => ∃ k : Nat, v6 = .int .i64 k ∧ k ≤ N.length ∧ N.length + 1 - k ≤ kq ∧ Hid (Touch [] W1 wr))
      case atStart => exact ⟨0, rfl, Nat.zero_le _, by omega, TN⟩
      case round =>
        obtain ⟨k, rfl, hk, hkq, hT⟩ := hrel
        obtain ⟨c0, c1, c2⟩ := th3 (touch_box hT.out X0.out (by simp))
        obtain ⟨d0, d1, d2⟩ := th3 (touch_box hT.out X1.out (by simp))
        by_cases hlt : k < N.length
        · have e1 : (k : Int) < (N.length : Int) := by omega
          obtain ⟨x, hx⟩ : ∃ x, N[k]? = some x := ⟨_, List.getElem?_eq_getElem hlt⟩
          have hHk := H1.out.kept hT.out (by simp)
          have hGk := G1.out.kept hT.out (by simp)
          obtain ⟨g, c, hV, _, _, hc, _⟩ := hHk.getAt encN_len hx
          simp only [Value.slice.injEq, true_and] at hV
          obtain ⟨rfl, rfl⟩ := hV
          have m0 := hc 0 _ rfl
          rw [Nat.add_zero] at m0
          have m1 := hc 1 _ rfl
          have m2 := hc 2 _ rfl
          have m3 := hc 3 _ rfl
          have m4 := hc 4 _ rfl
          have m5 := hc 5 _ rfl
          have m6 := hc 6 _ rfl
          obtain ⟨g', c', hV, _, _, hc, _⟩ := hGk.getAt encN_len hx
          simp only [Value.slice.injEq, true_and] at hV
          obtain ⟨rfl, rfl⟩ := hV
          have q0 := hc 0 _ rfl
          rw [Nat.add_zero] at q0
          have q1 := hc 1 _ rfl
          have q2 := hc 2 _ rfl
          have q3 := hc 3 _ rfl
          have q4 := hc 4 _ rfl
          have q5 := hc 5 _ rfl
          have q6 := hc 6 _ rfl
          have hsame := fun w => ne_same x.ip x.m w
          unfold neiC at hsame
          clear hHk hGk hc hx c0 c2 d0 d2
          go_wp2
          go_quiet (fail)
          go_wp2
          go_roundg (N.length - k)
          case rel => exact ⟨k + 1, by simp, by omega, by omega, Lib.hid (hT.out.drewN nq)⟩
          case measure => omega
        · have e1 : ¬ (k : Int) < (N.length : Int) := by omega
          have TN := Lib.hid hT.out
          clear hlt hkq
          go_wp2_with fail
          clear c0 c1 c2 d0 d1 d2 e1
          go_loopg [7] (E.length + 1) (fun kq v7 wr => ∃ k : Nat, v7 = .int .i64 k ∧ k ≤ E.length ∧ E.length + 1 - k ≤ kq ∧ Hid (Touch [] W1 wr))
          case atStart => exact ⟨0, rfl, Nat.zero_le _, by omega, TN⟩
          case round =>
            obtain ⟨k, rfl, hk, hkq, hT⟩ := hrel
            obtain ⟨c0, c1, c2⟩ := th3 (touch_box hT.out X0.out (by simp))
            obtain ⟨d0, d1, d2⟩ := th3 (touch_box hT.out X1.out (by simp))
            by_cases hlt : k < E.length
            · have e1 : (k : Int) < (E.length : Int) := by omega
              obtain ⟨x, hx⟩ : ∃ x, E[k]? = some x := ⟨_, List.getElem?_eq_getElem hlt⟩
              have hHk := H2.out.kept hT.out (by simp)
              have hGk := G2.out.kept hT.out (by simp)
              obtain ⟨g, c, hV, _, _, hc, _⟩ := hHk.getAt encF_len hx
              simp only [Value.slice.injEq, true_and] at hV
              obtain ⟨rfl, rfl⟩ := hV
              have m0 := hc 0 _ rfl
              rw [Nat.add_zero] at m0
              have m1 := hc 1 _ rfl
              have m2 := hc 2 _ rfl
              have m3 := hc 3 _ rfl
              have m4 := hc 4 _ rfl
              have m5 := hc 5 _ rfl
              have m6 := hc 6 _ rfl
              obtain ⟨g', c', hV, _, _, hc, _⟩ := hGk.getAt encF_len hx
              simp only [Value.slice.injEq, true_and] at hV
              obtain ⟨rfl, rfl⟩ := hV
              have q0 := hc 0 _ rfl
              rw [Nat.add_zero] at q0
              have q1 := hc 1 _ rfl
              have q2 := hc 2 _ rfl
              have q3 := hc 3 _ rfl
              have q4 := hc 4 _ rfl
              have q5 := hc 5 _ rfl
              have q6 := hc 6 _ rfl
              have hsame := fun w => fd_same x.ua x.m w
              unfold fdbC at hsame
              clear hHk hGk hc hx c0 c1 d0 d1
              go_wp2
              go_quiet (fail)
              go_wp2
              go_roundg (E.length - k)
              case rel => exact ⟨k + 1, by simp, by omega, by omega, Lib.hid (hT.out.drewN nq)⟩
              case measure => omega
            · have e1 : ¬ (k : Int) < (E.length : Int) := by omega
              have TN := Lib.hid hT.out
              clear hlt hkq
              go_wp2
              go_ret
              exact ⟨rfl, T1.out.trans TN.out (by simp)⟩
end Go.Proofs.YtnpeafhjcelpfaaGreat.Tri

/- A step on a kernel and the document's; no condition. -/
namespace Go.Proofs.YtnpeafhjcelpfaaGreat.Tri
open Go.RowKit Go.Maps
set_option linter.unusedVariables false
set_option linter.unusedSimpArgs false
set_option maxRecDepth 100000

/-- A kernel and the document's beside it, alike. -/
def Duo (w : World) (kb rb : Nat) (l0 l1 l2 : Int) (s : KSt) (t : LSt) (F : List Nat) : Prop :=
  ∃ FA FB, F = FA ++ FB ∧ Ker w kb l0 l1 l2 s FA ∧ RefL w rb l0 l1 l2 t FB ∧ Sim s t ∧ Sane l0 l1 l2 s ∧ GoodL l0 l1 l2 t ∧ ∀ x ∈ FA, x ∉ FB
theorem Duo.lt {w : World} {kb rb : Nat} {l0 l1 l2 : Int} {s : KSt} {t : LSt} {F : List Nat} (h : Duo w kb rb l0 l1 l2 s t F) : ∀ x ∈ F, x < w.heap.size := by
  obtain ⟨FA, FB, rfl, h1, h2, _⟩ := h
  intro x hx
  rcases List.mem_append.1 hx with h | h
  · exact h1.lt x h
  · exact h2.lt x h
theorem Duo.kept {w w' : World} {kb rb : Nat} {l0 l1 l2 : Int} {s : KSt} {t : LSt} {F : List Nat} (h : Duo w kb rb l0 l1 l2 s t F) {X : List Nat} (tt : Touch X w w') (hn : ∀ x ∈ F, x ∉ X) : Duo w' kb rb l0 l1 l2 s t F := by
  obtain ⟨FA, FB, rfl, h1, h2, h3⟩ := h
  exact ⟨FA, FB, rfl, h1.kept tt (fun x hx => hn x (by simp [hx])), h2.kept tt (fun x hx => hn x (by simp [hx])), h3⟩
def Plays (w : World) (kb rb : Nat) (l0 l1 l2 : Int) (F : List Nat) (w' : World) : Prop := ∃ s' t' F', Duo w' kb rb l0 l1 l2 s' t' F' ∧ Touch F w w' ∧ ∀ x ∈ F', x ∈ F ∨ w.heap.size ≤ x
/-- Each of the two has done its own. -/
theorem both_done {w w1 w2 : World} {kb rb : Nat} {l0 l1 l2 : Int} {FA FB : List Nat} {s' : KSt} {t' : LSt} (h1 : ∀ x ∈ FA, x < w.heap.size) (h2 : ∀ x ∈ FB, x < w.heap.size) (hd : ∀ x ∈ FA, x ∉ FB) (hk : Leaves kb l0 l1 l2 FA s' w w1) (hr : LeavesL rb l0 l1 l2 FB t' w1 w2) (hs : Sim s' t') (hS : Sane l0 l1 l2 s') (hG : GoodL l0 l1 l2 t') : Plays w kb rb l0 l1 l2 (FA ++ FB) w2 := by
  obtain ⟨FA', k1, k2, k3⟩ := hk
  obtain ⟨FB', r1, r2, r3⟩ := hr
  have hlt := k1.lt
  refine ⟨s', t', FA' ++ FB', ⟨FA', FB', rfl, k1.kept r2 (fun x hx hx2 => ?_), r1, hs, hS, hG, fun x hx hx2 => ?_⟩, (k2.mono (fun x hx => .inl (by simp [hx]))).trans r2 (fun x hx => .inl (by simp [hx])), fun x hx => ?_⟩
  · rcases k3 x hx with h | h
    · exact hd x h hx2
    · have := h2 x hx2; omega
  · rcases r3 x hx2 with h | h
    · rcases k3 x hx with g | g
      · exact hd x g h
      · have := h2 x h; omega
    · have := hlt x hx; omega
  · rcases List.mem_append.1 hx with h | h
    · rcases k3 x h with g | g
      · exact .inl (by simp [g])
      · exact .inr g
    · rcases r3 x h with g | g
      · exact .inl (by simp [g])
      · exact .inr (Nat.le_trans k2.size g)
theorem resV_form (x : Option Ent) (nm : Int → Option M6) (em : M6 → Option Int) : ∃ l a m v y u err, resV x nm em = (hopC l a m v y u, err) := by
  unfold resV
  split
  · exact ⟨_, _, _, _, _, _, _, rfl⟩
  · split
    · exact ⟨_, _, _, _, _, _, _, rfl⟩
    · split
      · exact ⟨_, _, _, _, _, _, _, rfl⟩
      · split
        · exact ⟨_, _, _, _, _, _, _, rfl⟩
        · exact ⟨_, _, _, _, _, _, _, rfl⟩
theorem sane_none {l0 l1 l2 : Int} {s : KSt} (h : Sane l0 l1 l2 s) : Sane l0 l1 l2 KSt.none :=
  ⟨(fun x v hv => by cases hv), (fun x v hv => by cases hv), by have := h.k; simp [KSt.none]; omega, by have := h.n1; simp [KSt.none]; omega, by have := h.n2; simp [KSt.none]; omega, trivial, rfl⟩
theorem good_none {l0 l1 l2 : Int} {t : LSt} (h : GoodL l0 l1 l2 t) : GoodL l0 l1 l2 LSt.none :=
  ⟨by simp [LSt.none], by simp [LSt.none], by simp [LSt.none], by have := h.lr; simp [LSt.none]; omega, by have := h.ln; simp [LSt.none]; omega, by have := h.le; simp [LSt.none]; omega⟩
theorem ker_flush {w w' : World} {kb : Nat} {l0 l1 l2 : Int} {FA : List Nat} (hkb : kb ∈ FA) (h : ∃ tb b1 m1 b2 m2 S, KerAt w' kb tb b1 m1 b2 m2 S l0 l1 l2 KSt.none ∧ Touch [kb] w w' ∧ ∀ x ∈ b1 :: m1 :: b2 :: m2 :: S, w.heap.size ≤ x) : Leaves kb l0 l1 l2 FA KSt.none w w' := by
  obtain ⟨tb, b1, m1, b2, m2, S, h1, h2, h3⟩ := h
  exact ⟨_, ⟨tb, b1, m1, b2, m2, S, rfl, h1⟩, h2.mono (fun x hx => .inl (by simp at hx; rw [hx]; exact hkb)), fun x hx => by
    rcases List.mem_cons.1 hx with rfl | hx
    · exact .inl hkb
    · exact .inr (h3 x hx)⟩
def PlayPost (w : World) (kb rb : Nat) (l0 l1 l2 : Int) (F : List Nat) (e : Ending) (w' : World) : Prop := e = .returned (.bool true) ∧ Plays w kb rb l0 l1 l2 F w'
set_option maxHeartbeats 16000000 in
theorem plays_calls {w : World} {kb rb : Nat} {l0 l1 l2 : Int} {s : KSt} {t : LSt} {F : List Nat} (h : Duo w kb rb l0 l1 l2 s t F) (kd : Int) (A : Option Addr) (c : Nat) (os : List OpR) (dst : Nat) (hA : RdO w A os) (hO : ∀ o ∈ os, OpW o) (hd : ∀ x ∈ rdBlk A os, x ∉ F ∧ x < w.heap.size) (hn : os.length < 4611686018427387904) (hdst : dst < 4294967296) :
    Calls Tryz.prog 20 #[.pointer (some ⟨kb, 0, none⟩), .pointer (some ⟨rb, 0, none⟩), .agg #[.int .i64 kd, .slice A os.length c, .int .u32 dst]] w (PlayPost w kb rb l0 l1 l2 F) := by
  obtain ⟨FA, FB, rfl, hk, hr, hs, hS, hG, hdj⟩ := h
  have HS := Lib.hid hs
  have HSN := Lib.hid hS
  have HG := Lib.hid hG
  have HDJ := Lib.hid hdj
  have HA := Lib.hid hA
  have HO := Lib.hid hO
  have HD := Lib.hid hd
  have HLA := Lib.hid hk.lt
  have HLB := Lib.hid hr.lt
  obtain ⟨N, hN⟩ : ∃ N, N = os.length := ⟨_, rfl⟩
  have HN := Lib.hid hN
  rw [← hN]
  rw [← hN] at hn
  obtain ⟨W1, hW1⟩ : ∃ W1 : World, W1 = w.alloc (.cells #[.int .i64 kd, .slice A N c, .int .u32 dst] 40) := ⟨_, rfl⟩
  have T1 := Lib.hid (show Touch [] w W1 by rw [hW1]; exact (Touch.refl [] w).alloc _)
  have X1 := Lib.hid (show W1.heap[w.heap.size]? = some (.cells #[.int .i64 kd, .slice A N c, .int .u32 dst] 40 (0, 0)) by rw [hW1]; exact box_at w _)
  have K1 := Lib.hid (hk.kept T1.out (by simp))
  have R1 := Lib.hid (hr.kept T1.out (by simp))
  have HW1 := Lib.hid hW1
  obtain ⟨b5, hb5⟩ : ∃ b5, b5 = w.heap.size := ⟨_, rfl⟩
  rw [← hb5] at X1
  have HB5 := Lib.hid hb5
  obtain ⟨x0, x1, x2⟩ := th3 X1.out
  clear hk hr hs hS hG hdj hA hO hd hN hW1 hb5
  by_cases h1 : kd = 1
  · subst h1
    go_enter Tryz.func20, Tryz.ntmps20
    go_upto_region 1 with (fail)
    rw [← HW1.out, ← HB5.out]
    go_wp2_with fail
    have hc1 := do_calls K1.out HSN.out A c os (HA.out.kept T1.out (by simp)) HO.out (fun x hx => ⟨fun h => (HD.out x hx).1 (by simp [h]), Nat.lt_of_lt_of_le (HD.out x hx).2 T1.out.size⟩) (by rw [← HN.out]; exact hn)
    rw [← HN.out] at hc1
    refine hc1.mono ?_
    rintro e w2 ⟨rfl, hS2, hL2⟩
    have S2 := Lib.hid hS2
    have L2 := Lib.hid hL2
    obtain ⟨FA', hk2, t2, hf2⟩ := hL2
    have X2 := Lib.hid (touch_box t2 X1.out (fun hx => by have := HLA.out b5 hx; have := HB5.out; omega))
    have RR2 := Lib.hid (R1.out.kept t2 (fun x hx hx2 => HDJ.out x hx2 hx))
    have A2 := Lib.hid ((HA.out.kept T1.out (by simp)).kept t2 (fun x hx hx2 => (HD.out x hx).1 (by simp [hx2])))
    have SZ2 := Lib.hid (Nat.le_trans T1.out.size t2.size)
    clear hc1 hS2 hk2 t2 hf2 x0 x1 x2
    obtain ⟨x0, x1, x2⟩ := th3 X2.out
    obtain ⟨DK, hDK⟩ : ∃ DK, DK = doK l0 l1 l2 s os 0 := ⟨_, rfl⟩
    rw [← hDK] at S2 L2 ⊢
    have HDK := Lib.hid hDK
    clear hDK
    obtain ⟨s2, n2, e2⟩ := DK
    dsimp only at S2 L2 ⊢
    go_wp2_with fail
    have hc2 := rdo_calls RR2.out HG.out A c os A2.out HO.out (fun x hx => ⟨fun h => (HD.out x hx).1 (by simp [h]), Nat.lt_of_lt_of_le (HD.out x hx).2 SZ2.out⟩) (by rw [← HN.out]; exact hn)
    rw [← HN.out] at hc2
    refine hc2.mono ?_
    rintro e w3 ⟨t3, j, err, rfl, hDo, hG3, hL3⟩
    obtain ⟨s', hs1, hs2⟩ := sim_do os 0 s t t3 j err HS.out HSN.out HO.out hDo
    have hq := HDK.out.trans hs1
    simp only [Prod.mk.injEq] at hq
    obtain ⟨rfl, rfl, rfl⟩ := hq
    have PL := Lib.hid (both_done (fun x hx => Nat.lt_of_lt_of_le (HLA.out x hx) T1.out.size) (fun x hx => Nat.lt_of_lt_of_le (HLB.out x hx) T1.out.size) HDJ.out L2.out hL3 hs2 S2.out hG3)
    clear hc2 hDo hG3 hL3 hs1 hs2 x0 x1 x2 hdst
    go_wp2
    go_ret
    obtain ⟨s', t', F', p1, p2, p3⟩ := PL.out
    exact ⟨rfl, s', t', F', p1, (T1.out.mono (by simp)).trans p2 (fun x hx => .inl hx), fun x hx => by
      rcases p3 x hx with h | h
      · exact .inl h
      · exact .inr (Nat.le_trans T1.out.size h)⟩
  · have g1 : (kd == 1) = false := by simpa using h1
    clear h1
    by_cases h2 : kd = 2
    · subst h2
      have HW := Lib.hid (HS.out.well HG.out)
      obtain ⟨hl, ha, hm, hv, hy, hu, herr, hform⟩ := resV_form (find s.t dst none) (nmL t) (emL t)
      have HF := Lib.hid hform
      clear g1 hform
      go_enter Tryz.func20, Tryz.ntmps20
      go_upto_region 1 with (fail)
      rw [← HW1.out, ← HB5.out]
      go_wp2_with fail
      obtain ⟨tb, b1, m1, b2, m2, S, hFA, hK⟩ := K1.out
      have hc1 := resolve_calls hK HW.out dst hdst
      rw [HF.out] at hc1
      dsimp only at hc1
      refine hc1.mono ?_
      rintro e w2 ⟨rfl, t2⟩
      have T2 := Lib.hid (T1.out.trans t2 (by simp))
      have X2 := Lib.hid (touch_box t2 X1.out (by simp))
      have K2 := Lib.hid (K1.out.kept t2 (by simp))
      have RR2 := Lib.hid (R1.out.kept t2 (by simp))
      clear hc1 t2 hK hFA x0 x1 x2
      unfold hopC
      go_upto_region 8 with (fail)
      obtain ⟨W3, hW3⟩ : ∃ W3 : World, W3 = w2.alloc (.cells #[.bool hl, .int .u32 ha, .int .i64 hm, .int .u32 hv, .int .u8 hy.m0, .int .u8 hy.m1, .int .u8 hy.m2, .int .u8 hy.m3, .int .u8 hy.m4, .int .u8 hy.m5, .int .u32 hu] 71) := ⟨_, rfl⟩
      rw [← hW3]
      have t3 : Touch [] w2 W3 := by rw [hW3]; exact (Touch.refl [] w2).alloc _
      have Y3 := Lib.hid (show W3.heap[w2.heap.size]? = some (.cells (hopC hl ha hm hv hy hu) 71 (0, 0)) by rw [hW3]; exact box_at _ _)
      have X3 := Lib.hid (touch_box t3 X2.out (by simp))
      have T3 := Lib.hid (T2.out.trans t3 (by simp))
      have K3 := Lib.hid (K2.out.kept t3 (by simp))
      have RR3 := Lib.hid (RR2.out.kept t3 (by simp))
      clear hW3 t3
      obtain ⟨x0, x1, x2⟩ := th3 X3.out
      go_wp2_with fail
      refine (rresolve_calls RR3.out HG.out dst hdst).mono ?_
      rintro e w4 ⟨hh, err, rfl, hrr, t4⟩
      have hq := (sim_res HS.out HSN.out.ok hrr).symm.trans HF.out
      simp only [Prod.mk.injEq] at hq
      obtain ⟨rfl, rfl⟩ := hq
      have T4 := Lib.hid (T3.out.trans t4 (by simp))
      have Y4 := Lib.hid (touch_box t4 Y3.out (by simp))
      have K4 := Lib.hid (K3.out.kept t4 (by simp))
      have RR4 := Lib.hid (RR3.out.kept t4 (by simp))
      clear hrr t4 x0 x1 x2
      unfold hopC
      go_upto_region 9 with (fail)
      obtain ⟨W5, hW5⟩ : ∃ W5 : World, W5 = w4.alloc (.cells #[.bool hl, .int .u32 ha, .int .i64 hm, .int .u32 hv, .int .u8 hy.m0, .int .u8 hy.m1, .int .u8 hy.m2, .int .u8 hy.m3, .int .u8 hy.m4, .int .u8 hy.m5, .int .u32 hu] 71) := ⟨_, rfl⟩
      rw [← hW5]
      have t5 : Touch [] w4 W5 := by rw [hW5]; exact (Touch.refl [] w4).alloc _
      have Z5 := Lib.hid (show W5.heap[w4.heap.size]? = some (.cells (hopC hl ha hm hv hy hu) 71 (0, 0)) by rw [hW5]; exact box_at _ _)
      have Y5 := Lib.hid (touch_box t5 Y4.out (by simp))
      have T5 := Lib.hid (T4.out.trans t5 (by simp))
      have K5 := Lib.hid (K4.out.kept t5 (by simp))
      have RR5 := Lib.hid (RR4.out.kept t5 (by simp))
      clear hW5 t5
      obtain ⟨y0, y1, y2, y3, y4, y5, y6, y7, y8, y9, y10⟩ := hop_cells Y5.out
      obtain ⟨z0, z1, z2, z3, z4, z5, z6, z7, z8, z9, z10⟩ := hop_cells Z5.out
      have hsame := fun w => hop_same hl ha hm hv hy hu w
      unfold hopC at hsame
      go_wp2
      go_ret
      exact ⟨rfl, s, t, FA ++ FB, ⟨FA, FB, rfl, K5.out, RR5.out, HS.out, HSN.out, HG.out, HDJ.out⟩, T5.out.mono (by simp), fun x hx => .inl hx⟩
    · have g2 : (kd == 2) = false := by simpa using h2
      clear h2
      by_cases h3 : kd = 3
      · subst h3
        clear g1 g2
        go_enter Tryz.func20, Tryz.ntmps20
        go_upto_region 1 with (fail)
        rw [← HW1.out, ← HB5.out]
        go_wp2_with fail
        obtain ⟨tb, b1, m1, b2, m2, S, hFA, hK⟩ := K1.out
        refine (dump_calls hK HSN.out.r1 HSN.out.r2 (by have := HSN.out.k; omega) (by have := HSN.out.n1; omega) (by have := HSN.out.n2; omega)).mono ?_
        rintro e w2 ⟨v2, rfl, hv2, t2⟩
        have T2 := Lib.hid (T1.out.trans t2 (by simp))
        have K2 := Lib.hid (K1.out.kept t2 (by simp))
        have RR2 := Lib.hid (R1.out.kept t2 (by simp))
        have V2 := Lib.hid hv2
        clear t2 hK hFA x0 x1 x2 hv2
        go_wp2_with fail
        refine (rdump_calls RR2.out HG.out).mono ?_
        rintro e w3 ⟨v3, rfl, hv3, t3⟩
        obtain ⟨A0, A1, A2, c0, c1, c2, L1, L2, e2, d0, d1, d2, _, _, _, an, af⟩ := V2.out.is
        obtain ⟨U0, U1, U2, M0, M1, M2, e3, f0, f1, f2, _, _, _, g0, g1, g2⟩ := hv3.is
        obtain ⟨q0, q1, q2⟩ := sim_dump HS.out HSN.out.ok an af g0 g1 g2 (fun x hx => (HG.out.e x hx).1) (fun x hx => ⟨(HG.out.n x hx).1, (HG.out.n x hx).2.1⟩)
        have hl0 := g0.1.length_eq
        have hl1 := g1.1.length_eq
        have hl2 := g2.1.length_eq
        have DV := Lib.hid (show DumpV w3 v2 M0 M1 M2 by
          subst q0 q1 q2
          exact ⟨_, _, _, e2, d0.kept t3 (by simp), d1.kept t3 (by simp), d2.kept t3 (by simp)⟩)
        have DW := Lib.hid (show DumpV w3 v3 M0 M1 M2 from ⟨U0, U1, U2, e3, f0, f1, f2⟩)
        have HLN := Lib.hid (show M0.length < 1000000 ∧ M1.length < 1000000 ∧ M2.length < 1000000 by have a0 := HG.out.lr; have a1 := HG.out.ln; have a2 := HG.out.le; omega)
        have T3 := Lib.hid (T2.out.trans t3 (by simp))
        have K3 := Lib.hid (K2.out.kept t3 (by simp))
        have RR3 := Lib.hid (RR2.out.kept t3 (by simp))
        clear e2 d0 d1 d2 an af e3 f0 f1 f2 g0 g1 g2 q0 q1 q2 hl0 hl1 hl2 t3 hv3 V2
        go_wp2_with fail
        refine (dumps_calls DV.out DW.out HLN.out).mono ?_
        rintro e w4 ⟨rfl, t4⟩
        have T4 := Lib.hid (T3.out.trans t4 (by simp))
        have K4 := Lib.hid (K3.out.kept t4 (by simp))
        have RR4 := Lib.hid (RR3.out.kept t4 (by simp))
        clear t4
        go_wp2
        go_ret
        exact ⟨rfl, s, t, FA ++ FB, ⟨FA, FB, rfl, K4.out, RR4.out, HS.out, HSN.out, HG.out, HDJ.out⟩, T4.out.mono (by simp), fun x hx => .inl hx⟩
      · have g3 : (kd == 3) = false := by simpa using h3
        clear h3
        by_cases h4 : kd = 4
        · subst h4
          clear g1 g2 g3
          go_enter Tryz.func20, Tryz.ntmps20
          go_upto_region 1 with (fail)
          rw [← HW1.out, ← HB5.out]
          go_wp2_with fail
          obtain ⟨tb, b1, m1, b2, m2, S, hFA, hK⟩ := K1.out
          refine (flush_calls hK.blk).mono ?_
          rintro e w2 ⟨rfl, hfl⟩
          have L2 := Lib.hid (ker_flush (FA := FA) (by rw [hFA]; simp) hfl)
          obtain ⟨FA', hk2, t2, hf2⟩ := L2.out
          have RR2 := Lib.hid (R1.out.kept t2 (fun x hx hx2 => HDJ.out x hx2 hx))
          clear hfl hk2 t2 hf2 hK hFA x0 x1 x2
          go_wp2_with fail
          refine (rflush_calls RR2.out).mono ?_
          rintro e w3 ⟨rfl, hL3⟩
          have PL := Lib.hid (both_done (fun x hx => Nat.lt_of_lt_of_le (HLA.out x hx) T1.out.size) (fun x hx => Nat.lt_of_lt_of_le (HLB.out x hx) T1.out.size) HDJ.out L2.out hL3 Sim.none (sane_none HSN.out) (good_none HG.out))
          clear hL3
          go_wp2
          go_ret
          obtain ⟨s', t', F', p1, p2, p3⟩ := PL.out
          exact ⟨rfl, s', t', F', p1, (T1.out.mono (by simp)).trans p2 (fun x hx => .inl hx), fun x hx => by
            rcases p3 x hx with h | h
            · exact .inl h
            · exact .inr (Nat.le_trans T1.out.size h)⟩
        · have g4 : (kd == 4) = false := by simpa using h4
          clear h4
          go_enter Tryz.func20, Tryz.ntmps20
          go_upto_region 1 with (fail)
          rw [← HW1.out, ← HB5.out]
          go_wp2
          go_ret
          exact ⟨rfl, s, t, FA ++ FB, ⟨FA, FB, rfl, K1.out, R1.out, HS.out, HSN.out, HG.out, HDJ.out⟩, T1.out.mono (by simp), fun x hx => .inl hx⟩
end Go.Proofs.YtnpeafhjcelpfaaGreat.Tri

