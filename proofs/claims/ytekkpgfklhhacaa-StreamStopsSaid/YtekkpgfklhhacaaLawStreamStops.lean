/- The row 'StreamStops': the program answers true at every input that may be, and leaves the input as it was. -/
import Derived.Test.YtekkpgfklhhacaaRows
import Derived.Test.YtekkpgfklhhacaaPD
import Derived.WalkKit
import Derived.ProofKit
import Derived.OpenShut
import Derived.ShutString
import Derived.ChangeOld
import Derived.Below
import Derived.SizedLaws
namespace Go.Proofs.Ytekkpgfklhhacaa.streamStops
open Go.ChangeShapes Go.WideShapes Go.ChangeAt Go.RowKit Go.Proofs.Vl
open Go.ChangeMaps (open_string shut_string)
set_option linter.all false
theorem own : ownKnob Try.prog.godebug = none := by kernel_rfl
theorem laidOut : laidOutB Try.prog = true := by kernel_rfl
set_option maxRecDepth 100000 in
set_option maxHeartbeats 4000000 in
theorem lifted (os : Os) (started : os.Started) (H : Type) (enc : TypeId × Value → H) :
    ReturnsInHanded {} Try.checked os 5 .any (Rows.streamStopsSpec.pre6 enc Try.prog Try.f5 Rows.streamStopsRow.domain false) (Rows.streamStopsSpec.post enc Try.prog Try.f5 false true false false) := by
  refine returnsInHanded_of_change_sized (C := Try.checked) own started (by kernel_rfl) Try.func5
    (ChangeSpec.witness6 (enc := enc) (C := Try.checked) false ⟨#[], #[.slice none 0 0, .int .i64 0], []⟩ 8 (by kernel_rfl) (by kernel_rfl) (by kernel_rfl) (by kernel_rfl)) ?_
  intro W base args ds gs before hval0 hW hcnd hsz0 _
  have hval : ∀ (j : Nat) t v, Try.f5.params[j]? = some t → args[j]? = some v → Value.okWide Try.prog W .any base t v := hval0
  have hW' := hW
  obtain ⟨p, q, hA0, hV, rfl, hfz, hnd⟩ := hW
  have hA : DataW.TrodAll enc Try.prog W 0 (fun _ => true) true Try.f5.params.toList args.toList ds p := hA0
  rw [Try.params5] at hA hval
  obtain ⟨v0, vs0, d0, ds0, p0, q0, hargs, rfl, rfl, h0, r0⟩ := trodAll_cons hA
  obtain ⟨v1, vs1, d1, ds1, p1, q1, rfl, rfl, rfl, h1, r1⟩ := trodAll_cons r0
  obtain ⟨rfl, rfl, rfl⟩ := trodAll_nil r1
  obtain rfl : args = #[v0, v1] := by cases args; simp_all
  obtain ⟨rfl, rfl⟩ := trodVars_none hV
  have k0 := h0
  have lt0 : ∀ x ∈ p0, x.block < W.heap.size := by obtain ⟨m, hm⟩ := k0; exact DataW.trod_lt m _ _ _ hm
  obtain ⟨a0, R0, w0⟩ : ∃ l : List (List Int), RepP W (Elder W) (.fro (l.map (slP (pvI .i64)))) v0 ∧ (l.length ≤ maxLen ∧ ∀ x ∈ l, (fun l => l.length ≤ maxLen ∧ ∀ x ∈ l, (Lit.int .i64 x).wf = true) x) := by
    obtain ⟨fuel, hf⟩ := h0
    obtain ⟨l, hl, hok⟩ := (Opens.slice (α := List Int) (f := slP (pvI .i64)) (ok := fun l => l.length ≤ maxLen ∧ ∀ x ∈ l, (Lit.int .i64 x).wf = true) (sz := 1) Try.underlying22 (by kernel_rfl) (fun _ => rfl) (by decide) (Opens.slice (sz := 1) Try.underlying40 (by kernel_rfl) (fun _ => rfl) (by decide) (Opens.int Try.underlying3))) hf
    obtain ⟨A', L', c', rfl⟩ := okWide_slice Try.underlying22 (hval 0 22 v0 rfl rfl)
    simp only [Value.cells] at hl
    cases hl with
    | cons h1 h2 => exact ⟨l, h1, hok⟩
  obtain ⟨a1, rfl, rfl, rfl, w1⟩ := open_int Try.underlying3 (hval 1 3 v1 rfl rfl) h1
  clear hA0 hval0 hsz0
  refine (AC.top (sstops_ac _ a0 a1 w0.1 (fun r hr => (w0.2 r hr).1)) (.cons R0 (.cons (RepP.s _ rfl) .nil))).mono fun e W' ⟨he, bel⟩ => ?_
  subst he
  exact ⟨_, rfl, _, _, _, [], _, [], hW', trodAll_mk1 (shut_bool Try.underlying4 _), (trodAll_cons_mk (Below.trod laidOut (by kernel_rfl) (of_decide_eq_true (by kernel_rfl)) k0 bel lt0) (trodAll_cons_mk (shut_int Try.underlying3 w1) trodAll_mk0)), rfl, bel.frame _, fun h => by cases h⟩
theorem over : Rows.streamStopsRow.holds Try.pinned (OpenSpec.ofChange Rows.streamStopsSpec) :=
  OpenClaim.holds_of_wide 5 Try.f5 rfl rfl rfl rfl rfl rfl rfl ⟨rfl, rfl, rfl, rfl, rfl⟩ rfl rfl rfl rfl rfl (by kernel_rfl) Try.func5 (by kernel_rfl)
    (of_decide_eq_true (by kernel_rfl)) (by unfold Func.isWrapper; first | (rw [if_pos (by decide +kernel)]; kernel_rfl) | (rw [if_neg (by decide +kernel)]; exact ⟨rfl, rfl⟩))
    (fun os started H enc _ => lifted os started H enc)
theorem proved : Rows.StreamStopsSaid := over
#print axioms proved
end Go.Proofs.Ytekkpgfklhhacaa.streamStops
namespace Go.Proofs.Ytekkpgfklhhacaa
/-- The row, under a short name, for the claim. -/
theorem streamStops_holds : Rows.StreamStopsSaid := streamStops.proved
end Go.Proofs.Ytekkpgfklhhacaa
