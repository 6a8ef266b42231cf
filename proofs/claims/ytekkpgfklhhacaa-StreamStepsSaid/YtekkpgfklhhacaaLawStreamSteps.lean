/- The row 'StreamSteps': the program answers true at every input that may be, and leaves the input as it was. -/
import Derived.Test.YtekkpgfklhhacaaRows
import Derived.Test.YtekkpgfklhhacaaQ3
import Derived.WalkKit
import Derived.ProofKit
import Derived.OpenShut
import Derived.ShutString
import Derived.ChangeOld
import Derived.Below
import Derived.SizedLaws
namespace Go.Proofs.Ytekkpgfklhhacaa.streamSteps
open Go.ChangeShapes Go.WideShapes Go.ChangeAt Go.RowKit Go.Proofs.Vl
open Go.ChangeMaps (open_string shut_string)
set_option linter.all false
theorem own : ownKnob Try.prog.godebug = none := by kernel_rfl
theorem laidOut : laidOutB Try.prog = true := by kernel_rfl
set_option maxRecDepth 100000 in
set_option maxHeartbeats 4000000 in
theorem lifted (os : Os) (started : os.Started) (H : Type) (enc : TypeId × Value → H) :
    ReturnsInHanded {} Try.checked os 8 .any (Rows.streamStepsSpec.pre6 enc Try.prog Try.f8 Rows.streamStepsRow.domain false) (Rows.streamStepsSpec.post enc Try.prog Try.f8 false true false false) := by
  refine returnsInHanded_of_change_sized (C := Try.checked) own started (by kernel_rfl) Try.func8
    (ChangeSpec.witness6 (enc := enc) (C := Try.checked) false ⟨#[], #[.slice none 0 0], []⟩ 8 (by kernel_rfl) (by kernel_rfl) (by kernel_rfl) (by kernel_rfl)) ?_
  intro W base args ds gs before hval0 hW hcnd hsz0 _
  have hval : ∀ (j : Nat) t v, Try.f8.params[j]? = some t → args[j]? = some v → Value.okWide Try.prog W .any base t v := hval0
  have hW' := hW
  obtain ⟨p, q, hA0, hV, rfl, hfz, hnd⟩ := hW
  have hA : DataW.TrodAll enc Try.prog W 0 (fun _ => true) true Try.f8.params.toList args.toList ds p := hA0
  rw [Try.params8] at hA hval
  obtain ⟨v0, vs0, d0, ds0, p0, q0, hargs, rfl, rfl, h0, r0⟩ := trodAll_cons hA
  obtain ⟨rfl, rfl, rfl⟩ := trodAll_nil r0
  obtain rfl : args = #[v0] := by cases args; simp_all
  obtain ⟨rfl, rfl⟩ := trodVars_none hV
  have k0 := h0
  have lt0 : ∀ x ∈ p0, x.block < W.heap.size := by obtain ⟨m, hm⟩ := k0; exact DataW.trod_lt m _ _ _ hm
  obtain ⟨a0, R0, w0⟩ : ∃ l : List (Int), RepP W (Elder W) (.fro (l.map (pvI .i64))) v0 ∧ (l.length ≤ maxLen ∧ ∀ x ∈ l, (fun x => (Lit.int .i64 x).wf = true) x) := by
    obtain ⟨fuel, hf⟩ := h0
    obtain ⟨l, hl, hok⟩ := (Opens.slice (α := Int) (f := pvI .i64) (ok := fun x => (Lit.int .i64 x).wf = true) (sz := 1) Try.underlying37 (by kernel_rfl) (fun _ => rfl) (by decide) (Opens.int Try.underlying2)) hf
    obtain ⟨A', L', c', rfl⟩ := okWide_slice Try.underlying37 (hval 0 37 v0 rfl rfl)
    simp only [Value.cells] at hl
    cases hl with
    | cons h1 h2 => exact ⟨l, h1, hok⟩
  clear hA0 hval0 hsz0
  refine (AC.top (ssteps_ac _ a0 w0.1) (.cons R0 .nil)).mono fun e W' ⟨he, bel⟩ => ?_
  subst he
  exact ⟨_, rfl, _, _, _, [], _, [], hW', trodAll_mk1 (shut_bool Try.underlying4 _), (trodAll_cons_mk (Below.trod laidOut (by kernel_rfl) (of_decide_eq_true (by kernel_rfl)) k0 bel lt0) trodAll_mk0), rfl, bel.frame _, fun h => by cases h⟩
theorem over : Rows.streamStepsRow.holds Try.pinned (OpenSpec.ofChange Rows.streamStepsSpec) :=
  OpenClaim.holds_of_wide 8 Try.f8 rfl rfl rfl rfl rfl rfl rfl ⟨rfl, rfl, rfl, rfl, rfl⟩ rfl rfl rfl rfl rfl (by kernel_rfl) Try.func8 (by kernel_rfl)
    (of_decide_eq_true (by kernel_rfl)) (by unfold Func.isWrapper; first | (rw [if_pos (by decide +kernel)]; kernel_rfl) | (rw [if_neg (by decide +kernel)]; exact ⟨rfl, rfl⟩))
    (fun os started H enc _ => lifted os started H enc)
theorem proved : Rows.StreamStepsSaid := over
#print axioms proved
end Go.Proofs.Ytekkpgfklhhacaa.streamSteps
namespace Go.Proofs.Ytekkpgfklhhacaa
/-- The row, under a short name, for the claim. -/
theorem streamSteps_holds : Rows.StreamStepsSaid := streamSteps.proved
end Go.Proofs.Ytekkpgfklhhacaa
