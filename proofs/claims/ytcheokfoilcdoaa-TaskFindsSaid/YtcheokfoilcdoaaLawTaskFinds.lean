-- Laid by wip/printx.py, over the print of the kit.
import Derived.Test.YtcheokfoilcdoaaRows
import Derived.Test.YtcheokfoilcdoaaPAllx7
import Derived.Test.YtcheokfoilcdoaaOpn
import Derived.Test.YtcheokfoilcdoaaPureTaskFinds
import Derived.WalkKit
import Derived.ProofKit
import Derived.OpenShut
import Derived.ShutString
import Derived.ChangeOld
import Derived.Below
import Derived.SizedLaws
namespace Go.Proofs.Ytcheokfoilcdoaa.taskFinds
open Go.ChangeShapes Go.WideShapes Go.ChangeAt Go.RowKit Go.Proofs.Ytcheokfoilcdoaa.PAll Go.Proofs.YtcheokfoilcdoaaW.PrintWords
open Go.ChangeMaps (open_string shut_string)
set_option linter.unusedVariables false
theorem own : ownKnob Try.prog.godebug = none := by kernel_rfl
theorem laidOut : laidOutB Try.prog = true := by kernel_rfl
set_option maxRecDepth 100000 in
set_option maxHeartbeats 4000000 in
theorem lifted (os : Os) (started : os.Started) (H : Type) (enc : TypeId × Value → H) :
    ReturnsInHanded {} Try.checked os 4 .any (Rows.taskFindsSpec.pre6 enc Try.prog Try.f4 Rows.taskFindsRow.domain false) (Rows.taskFindsSpec.post enc Try.prog Try.f4 false true false false) := by
  refine returnsInHanded_of_change_sized (C := Try.checked) own started (by kernel_rfl) Try.func4
    (ChangeSpec.witness6 (enc := enc) (C := Try.checked) false ⟨#[], #[.slice none 0 0, .slice none 0 0, .string ByteArray.empty], []⟩ 8 (by kernel_rfl) (by kernel_rfl) (by kernel_rfl) (by kernel_rfl)) ?_
  intro W base args ds gs before hval0 hW hcnd hsz0 _
  have hval : ∀ (j : Nat) t v, Try.f4.params[j]? = some t → args[j]? = some v → Value.okWide Try.prog W .any base t v := hval0
  have hW' := hW
  obtain ⟨p, q, hA0, hV, rfl, hfz, hnd⟩ := hW
  have hA : DataW.TrodAll enc Try.prog W 0 (fun _ => true) true Try.f4.params.toList args.toList ds p := hA0
  rw [Try.params4] at hA hval
  obtain ⟨v0, vs0, d0, ds0, p0, q0, hargs, rfl, rfl, h0, r0⟩ := trodAll_cons hA
  obtain ⟨v1, vs1, d1, ds1, p1, q1, rfl, rfl, rfl, h1, r1⟩ := trodAll_cons r0
  obtain ⟨v2, vs2, d2, ds2, p2, q2, rfl, rfl, rfl, h2, r2⟩ := trodAll_cons r1
  obtain ⟨rfl, rfl, rfl⟩ := trodAll_nil r2
  obtain rfl : args = #[v0, v1, v2] := by cases args; simp_all
  obtain ⟨rfl, rfl⟩ := trodVars_none hV
  have k0 := h0
  have lt0 : ∀ x ∈ p0, x.block < W.heap.size := by obtain ⟨m, hm⟩ := k0; exact DataW.trod_lt m _ _ _ hm
  obtain ⟨A0, len0, c0, rfl⟩ := okWide_slice Try.underlying30 (hval 0 30 v0 rfl rfl)
  obtain ⟨l0, hl0, hr0, hc0, w0⟩ : ∃ l_ : List (S26), len0 = l_.length ∧ Kd.C k26 W A0 l_.length l_ ∧ l_.length ≤ c0 ∧ (l_.length ≤ maxLen ∧ ∀ y2 ∈ l_, (y2.f0.size ≤ maxLen ∧ (Lit.int .i64 y2.f1).wf = true ∧ (Lit.int .i64 y2.f2).wf = true ∧ (Lit.int .i64 y2.f3).wf = true ∧ (Lit.int .i64 y2.f4).wf = true ∧ (Lit.int .i64 y2.f5).wf = true ∧ (Lit.int .i64 y2.f6).wf = true)) := by
    obtain ⟨fuel, hf⟩ := h0
    obtain ⟨l, ⟨A', c', hcs, hlc, hC⟩, hok⟩ := (Rw.Opens.slice (d := k26) Try.underlying30 (by kernel_rfl) o26) hf
    simp [Value.cells] at hcs
    obtain ⟨rfl, rfl, rfl⟩ := hcs
    exact ⟨l, rfl, hC, hlc, hok⟩
  subst hl0
  have k1 := h1
  have lt1 : ∀ x ∈ p1, x.block < W.heap.size := by obtain ⟨m, hm⟩ := k1; exact DataW.trod_lt m _ _ _ hm
  obtain ⟨A1, len1, c1, rfl⟩ := okWide_slice Try.underlying31 (hval 1 31 v1 rfl rfl)
  obtain ⟨l1, hl1, hr1, hc1, w1⟩ : ∃ l_ : List (S51), len1 = l_.length ∧ Kd.C k51 W A1 l_.length l_ ∧ l_.length ≤ c1 ∧ (l_.length ≤ maxLen ∧ ∀ y2 ∈ l_, ((Lit.int .i64 y2.f0).wf = true ∧ (Lit.int .i64 y2.f1).wf = true ∧ (Lit.int .i64 y2.f2).wf = true ∧ (Lit.int .i64 y2.f3).wf = true ∧ (Lit.int .i64 y2.f4).wf = true)) := by
    obtain ⟨fuel, hf⟩ := h1
    obtain ⟨l, ⟨A', c', hcs, hlc, hC⟩, hok⟩ := (Rw.Opens.slice (d := k51) Try.underlying31 (by kernel_rfl) o51) hf
    simp [Value.cells] at hcs
    obtain ⟨rfl, rfl, rfl⟩ := hcs
    exact ⟨l, rfl, hC, hlc, hok⟩
  subst hl1
  obtain ⟨a2, rfl, rfl, rfl, w2⟩ := open_string Try.underlying9 (hval 2 9 v2 rfl rfl) h2
  clear hA0 hval0 hsz0
  refine (cadencylaw04_TaskFinds.walk Pure.TaskFinds A0 c0 l0 A1 c1 l1 a2 W hr0 hc0 w0 hr1 hc1 w1 w2).mono fun e W' ⟨he, bel⟩ => ?_
  subst he
  exact ⟨_, rfl, _, _, _, [], _, [], hW', trodAll_mk1 (shut_bool Try.underlying4 _), (trodAll_cons_mk (Below.trod laidOut (by kernel_rfl) (of_decide_eq_true (by kernel_rfl)) k0 bel lt0) (trodAll_cons_mk (Below.trod laidOut (by kernel_rfl) (of_decide_eq_true (by kernel_rfl)) k1 bel lt1) (trodAll_cons_mk (shut_string Try.underlying9 w2) trodAll_mk0))), rfl, bel.frame _, fun h => by cases h⟩
theorem over : Rows.taskFindsRow.holds Try.pinned (OpenSpec.ofChange Rows.taskFindsSpec) :=
  OpenClaim.holds_of_wide 4 Try.f4 rfl rfl rfl rfl rfl rfl rfl ⟨rfl, rfl, rfl, rfl, rfl⟩ rfl rfl rfl rfl rfl (by kernel_rfl) Try.func4 (by kernel_rfl)
    (of_decide_eq_true (by kernel_rfl)) (by unfold Func.isWrapper; first | (rw [if_pos (by decide +kernel)]; kernel_rfl) | (rw [if_neg (by decide +kernel)]; exact ⟨rfl, rfl⟩))
    (fun os started H enc _ => lifted os started H enc)
theorem proved : Rows.TaskFindsSaid := over
#print axioms proved
end Go.Proofs.Ytcheokfoilcdoaa.taskFinds
namespace Go.Proofs.Ytcheokfoilcdoaa
/-- The row, under a short name, for the claim. -/
theorem taskFinds_holds : Rows.TaskFindsSaid := taskFinds.proved
end Go.Proofs.Ytcheokfoilcdoaa
