/- The reference: New, Get, Len; no condition. -/
import Derived.Test.YtmklkdhpbehfeaaRB
import Derived.WalkLawsBesides
namespace Go.Proofs.Ytmklkdhpbehfeaa.Tri
open Go.RowKit Go.Maps
set_option linter.unusedVariables false

set_option maxHeartbeats 400000 in
theorem rnew_calls (w : World) : Calls Try.prog 61 #[] w fun e w' => e = .returned (.pointer (some ⟨w.heap.size, 0, none⟩)) ∧ RefT w' w.heap.size (.slice none 0 0) [] ∧ Touch [] w w' := by
  go_enter Try.func61, Try.ntmps61
  go_wp2
  go_ret
  exact ⟨rfl, ⟨box_at w _, VRow.nil _ _ _, by simp⟩, (Touch.refl [] w).alloc _⟩
set_option maxHeartbeats 400000 in
theorem rlen_calls {w : World} {rb : Nat} {V : Value} {l : List Ent} (h : RefT w rb V l) :
    Calls Try.prog 78 #[.pointer (some ⟨rb, 0, none⟩)] w fun e w' => e = .returned (.int .i64 l.length) ∧ w' = w := by
  obtain ⟨A, cap, rfl⟩ := h.row.form
  obtain ⟨cb, _⟩ := one_cells h.blk
  clear h
  go_enter Try.func78, Try.ntmps78
  go_wp2
  go_ret
  exact ⟨rfl, rfl⟩
def RGetPost (w : World) (l : List Ent) (p : Px) (e : Ending) (w' : World) : Prop :=
  Touch [] w w' ∧ (((∀ v, (p, v) ∉ l) ∧ e = .returned (.tuple #[.int .i64 0, .int .i64 3])) ∨ ∃ v : Int, (p, v) ∈ l ∧ e = .returned (.tuple #[.int .i64 v, .int .i64 0]))
set_option maxHeartbeats 1000000 in
theorem rget_bad {w : World} (tv : Value) (a : Nat) (m : Int) (ha : a < 4294967296) (h : ¬ okP a m) :
    Calls Try.prog 75 #[tv, .agg #[.int .u32 a, .int .i64 m]] w fun e w' => e = .returned (.tuple #[.int .i64 0, .int .i64 11]) ∧ Touch [] w w' := by
  have H := Lib.hid h
  clear h
  go_enter Try.func75, Try.ntmps75
  go_wp2_with fail
  refine (rvalid_calls a m _ ha false (by simp [H.out])).mono ?_
  rintro e w' ⟨rfl, ht⟩
  go_wp2
  go_ret2
  exact ⟨rfl, ((Touch.refl [] w).alloc _).trans ht (by simp)⟩
set_option maxHeartbeats 2000000 in
set_option maxRecDepth 100000 in
theorem rget_calls {w : World} {rb : Nat} {V : Value} {l : List Ent} (h : RefT w rb V l) (p : Px) (hp : p.ok) (hlen : l.length < 4611686018427387904) :
    Calls Try.prog 75 #[.pointer (some ⟨rb, 0, none⟩), .agg #[.int .u32 p.a, .int .i64 p.n]] w (RGetPost w l p) := by
  have H := Lib.hid h
  have HP := Lib.hid hp
  have hpa := hp.2.1
  clear h hp
  go_enter Try.func75, Try.ntmps75
  go_wp2_with fail
  refine (rvalid_calls p.a p.n _ hpa true (by simp only [true_iff]; exact ⟨by omega, by simpa using HP.out⟩)).mono ?_
  rintro e w1 ⟨rfl, ht⟩
  have T1 := Lib.hid (((Touch.refl [] w).alloc (.cells #[.int .u32 p.a, .int .i64 p.n] 32)).trans ht (by simp))
  have X := Lib.hid (touch_box ht (box_at w (.cells #[.int .u32 p.a, .int .i64 p.n] 32)) (by simp))
  clear ht
  obtain ⟨d0, d1, _⟩ := two_cells X.out
  go_wp2_with fail
  refine (rfind_calls (H.out.kept T1.out (by simp)) p hlen).mono ?_
  rintro e w2 ⟨r, rfl, hr, t2⟩
  have T2 := Lib.hid (T1.out.trans t2 (by simp))
  clear t2 d0 d1
  rcases hr with ⟨rfl, hno⟩ | ⟨k, v, rfl, hk⟩
  · have HN := Lib.hid hno
    clear hno
    go_wp2
    go_ret2
    exact ⟨T2.out, .inl ⟨HN.out, rfl⟩⟩
  · have HR := Lib.hid (H.out.kept T2.out (by simp))
    obtain ⟨cb, _⟩ := one_cells HR.out.blk
    obtain ⟨g, c, hV, hgl, m0, m1, m2, _⟩ := HR.out.cell k _ hk
    subst hV
    dsimp only at m2
    have hkl := (List.getElem?_eq_some_iff.1 hk).1
    have b1 : (k : Int) < (l.length : Int) := by omega
    have HK := Lib.hid hk
    clear hk m0 m1
    go_wp2
    go_ret2
    exact ⟨T2.out, .inr ⟨v, List.mem_of_getElem? HK.out, rfl⟩⟩
end Go.Proofs.Ytmklkdhpbehfeaa.Tri
