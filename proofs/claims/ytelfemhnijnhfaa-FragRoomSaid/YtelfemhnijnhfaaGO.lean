/- Add, whatever comes; no condition. -/
import Derived.Test.YtelfemhnijnhfaaGI
import Derived.Test.YtelfemhnijnhfaaGJ
import Derived.Test.YtelfemhnijnhfaaGL
import Derived.Test.YtelfemhnijnhfaaGM
namespace Go.Proofs.Ytelfemhnijnhfaa.Fr
open Go.RowKit Go.Maps
set_option linter.unusedVariables false
/-- A new datagram finds room, or none begins. -/
theorem add_calls {w : World} {a : Nat} {S : List Nat} {st : ASt} (h : AsmAt w a S st) (hst : st.ok) {p : Pk} {VO VB : Value} (hr : ∀ w', Touch S w w' → RdB w' VO p.opts ∧ RdB w' VB p.body) (hlo : p.opts.length ≤ 140737488355328) (hlb : p.body.length ≤ 140737488355328) (hw : p.h.wf)
    (hrm : (st.g (keyP p)).isSome = true ∨ (st.n : Int) < st.room) (hbn : st.began < 4611686018427387904) :
    Calls Try.prog 20 #[.pointer (some ⟨a, 0, none⟩), .agg (pkC p.h VO VB)] w (AddPost w a S st p) := by
  by_cases hE : bErr p = 0
  · by_cases hz : p.h.off = 0 ∧ p.h.mf = false
    · exact add_self h hst hr hlo hlb hw hE hz
    · cases hc : clashB (oldD st (keyP p)) p
      · cases hwb : wholeB (takenD (oldD st (keyP p)) p)
        · exact add_more h hst hr hlo hlb hw hE hz hc hwb hrm hbn
        · by_cases hq : bErr (packD (takenD (oldD st (keyP p)) p)) = 0
          · exact add_whole h hst hr hlo hlb hw hE hz hc hwb hq
          · exact add_broken h hst hr hlo hlb hw hE hz hc hwb hq
      · exact add_clash h hst hr hlo hlb hw hE hz hc
  · exact add_bad h hst hr hlo hlb hw hE
end Go.Proofs.Ytelfemhnijnhfaa.Fr
