/- The examples of the document: the run. -/
import Derived.Test.YtmmofgbjpmhgpaaDoorX2
set_option linter.all false
set_option linter.unusedVariables false
set_option linter.unusedSimpArgs false
set_option linter.unnecessarySimpa false
namespace Go.Am
open Go Go.Proofs Go.RowKit
set_option maxRecDepth 1000000
theorem baseY_sound (f : FuncId) : Impl Tryd.prog GW f (specOf baseY f) := by
  by_cases h1 : f = 37
  · subst h1; exact implX_cand
  · have h := baseX_sound f
    have e : specOf baseY f = specOf baseX f := by
      funext l
      simp only [specOf, baseY, h1, if_false]
    rw [e]; exact h
theorem aw_true : isT (awX 5 []) = true := by kernel_rfl
noncomputable def s_awake : List SV → Spec := mkS (fun _ : Unit => []) (fun _ => True) (fun _ => .v (.bool true))
theorem e_awake : s_awake [] = ⟨True, .v (.bool true)⟩ := mkS_eq (args := fun _ : Unit => []) (fun _ _ _ => rfl) ()
theorem c_awake : Impl Tryd.prog GW 5 s_awake := by
  refine impl_le (callX_sound GW_mono mixed baseY_sound tiE_aw fnE_aw 100000 20 5) fun svs hp => ?_
  obtain ⟨p, rfl, _⟩ := hp
  refine ⟨[], trivial, ?_, ?_⟩
  · have h := aw_true
    unfold awX at h
    unfold specOf
    cases hx : callX tiF_aw baseY (lk fnT_aw) 100000 20 5 [] with
    | none => rw [hx] at h; cases h
    | some r => trivial
  · rw [e_awake]
    have h := aw_true
    unfold awX at h
    unfold specOf
    cases hx : callX tiF_aw baseY (lk fnT_aw) 100000 20 5 [] with
    | none => rw [hx] at h; cases h
    | some r =>
      rw [hx] at h
      unfold isT at h
      split at h
      · rename_i e; obtain rfl := Option.some.inj e; exact SV.le_refl _
      · cases h
end Go.Am
