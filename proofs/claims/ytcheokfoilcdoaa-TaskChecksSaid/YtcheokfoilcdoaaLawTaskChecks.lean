/- The row 'TaskChecks': the program answers true at every input that may be, and leaves the input as it was. -/
import Derived.Test.YtcheokfoilcdoaaRows
import Derived.Test.YtcheokfoilcdoaaK14
import Derived.WalkKit
import Derived.ProofKit
import Derived.OpenShut
import Derived.ShutString
import Derived.ChangeOld
import Derived.Below
import Derived.SizedLaws
namespace Go.Proofs.Ytcheokfoilcdoaa.taskChecks
open Go.ChangeShapes Go.WideShapes Go.ChangeAt Go.RowKit Go.Proofs.Vl
open Go.ChangeMaps (open_string shut_string)
set_option linter.all false
theorem own : ownKnob Try.prog.godebug = none := by kernel_rfl
theorem laidOut : laidOutB Try.prog = true := by kernel_rfl
set_option maxRecDepth 100000 in
set_option maxHeartbeats 4000000 in
theorem lifted (os : Os) (started : os.Started) (H : Type) (enc : TypeId × Value → H) :
    ReturnsInHanded {} Try.checked os 5 .any (Rows.taskChecksSpec.pre6 enc Try.prog Try.f5 Rows.taskChecksRow.domain false) (Rows.taskChecksSpec.post enc Try.prog Try.f5 false true false false) := by
  refine returnsInHanded_of_change_sized (C := Try.checked) own started (by kernel_rfl) Try.func5
    (ChangeSpec.witness6 (enc := enc) (C := Try.checked) false ⟨#[], #[.slice none 0 0, .slice none 0 0, .agg #[.int .i64 0, .int .i64 0, .int .i64 0, .int .i64 0, .int .i64 0]], []⟩ 8 (by kernel_rfl) (by kernel_rfl) (by kernel_rfl) (by kernel_rfl)) ?_
  intro W base args ds gs before hval0 hW hcnd hsz0 _
  have hval : ∀ (j : Nat) t v, Try.f5.params[j]? = some t → args[j]? = some v → Value.okWide Try.prog W .any base t v := hval0
  have hW' := hW
  obtain ⟨p, q, hA0, hV, rfl, hfz, hnd⟩ := hW
  have hA : DataW.TrodAll enc Try.prog W 0 (fun _ => true) true Try.f5.params.toList args.toList ds p := hA0
  rw [Try.params5] at hA hval
  obtain ⟨v0, vs0, d0, ds0, p0, q0, hargs, rfl, rfl, h0, r0⟩ := trodAll_cons hA
  obtain ⟨v1, vs1, d1, ds1, p1, q1, rfl, rfl, rfl, h1, r1⟩ := trodAll_cons r0
  obtain ⟨v2, vs2, d2, ds2, p2, q2, rfl, rfl, rfl, h2, r2⟩ := trodAll_cons r1
  obtain ⟨rfl, rfl, rfl⟩ := trodAll_nil r2
  obtain rfl : args = #[v0, v1, v2] := by cases args; simp_all
  obtain ⟨rfl, rfl⟩ := trodVars_none hV
  have k0 := h0
  have lt0 : ∀ x ∈ p0, x.block < W.heap.size := by obtain ⟨m, hm⟩ := k0; exact DataW.trod_lt m _ _ _ hm
  obtain ⟨a0, R0, w0⟩ : ∃ l : List (Tk), RepP W (Elder W) (.fro (l.map (tkP))) v0 ∧ (l.length ≤ maxLen ∧ ∀ x ∈ l, (TkOk) x) := by
    obtain ⟨fuel, hf⟩ := h0
    obtain ⟨l, hl, hok⟩ := (Opens.slice (α := Tk) (f := tkP) (ok := TkOk) (sz := 7) Try.underlying30 (by kernel_rfl) (fun _ => rfl) (by decide) (opTk)) hf
    obtain ⟨A', L', c', rfl⟩ := okWide_slice Try.underlying30 (hval 0 30 v0 rfl rfl)
    simp only [Value.cells] at hl
    cases hl with
    | cons h1 h2 => exact ⟨l, h1, hok⟩
  have k1 := h1
  have lt1 : ∀ x ∈ p1, x.block < W.heap.size := by obtain ⟨m, hm⟩ := k1; exact DataW.trod_lt m _ _ _ hm
  obtain ⟨a1, R1, w1⟩ : ∃ l : List (Sp), RepP W (Elder W) (.fro (l.map (spP))) v1 ∧ (l.length ≤ maxLen ∧ ∀ x ∈ l, (SpOk) x) := by
    obtain ⟨fuel, hf⟩ := h1
    obtain ⟨l, hl, hok⟩ := (Opens.slice (α := Sp) (f := spP) (ok := SpOk) (sz := 5) Try.underlying31 (by kernel_rfl) (fun _ => rfl) (by decide) (opSp)) hf
    obtain ⟨A', L', c', rfl⟩ := okWide_slice Try.underlying31 (hval 1 31 v1 rfl rfl)
    simp only [Value.cells] at hl
    cases hl with
    | cons h1 h2 => exact ⟨l, h1, hok⟩
  have k2 := h2
  have lt2 : ∀ x ∈ p2, x.block < W.heap.size := by obtain ⟨m, hm⟩ := k2; exact DataW.trod_lt m _ _ _ hm
  obtain ⟨a2, R2, w2⟩ : ∃ l : List Int, RepA W (Elder W) (fun _ => none) (.pag ((intsP) l)) v2 ∧ (IntsOk 5) l := by
    obtain ⟨fuel, hf⟩ := h2
    obtain ⟨l, hl, hok⟩ := (opInts Try.underlying35 (by kernel_rfl) (by kernel_rfl) : Opens _ _ (intsP) (IntsOk 5)) hf
    obtain ⟨cs, rfl⟩ := okWide_agg (by rfl) (hval 2 35 v2 rfl rfl)
    exact ⟨l, ⟨cs.toList, by simp, hl⟩, hok⟩
  clear hA0 hval0 hsz0
  refine (AC.top (tchecks_top a0 a1 a2 w0 w1.1 w2) (.cons R0 (.cons R1 (.cons R2 .nil)))).mono fun e W' ⟨he, bel⟩ => ?_
  subst he
  exact ⟨_, rfl, _, _, _, [], _, [], hW', trodAll_mk1 (shut_bool Try.underlying4 _), (trodAll_cons_mk (Below.trod laidOut (by kernel_rfl) (of_decide_eq_true (by kernel_rfl)) k0 bel lt0) (trodAll_cons_mk (Below.trod laidOut (by kernel_rfl) (of_decide_eq_true (by kernel_rfl)) k1 bel lt1) (trodAll_cons_mk (Below.trod laidOut (by kernel_rfl) (of_decide_eq_true (by kernel_rfl)) k2 bel lt2) trodAll_mk0))), rfl, bel.frame _, fun h => by cases h⟩
theorem over : Rows.taskChecksRow.holds Try.pinned (OpenSpec.ofChange Rows.taskChecksSpec) :=
  OpenClaim.holds_of_wide 5 Try.f5 rfl rfl rfl rfl rfl rfl rfl ⟨rfl, rfl, rfl, rfl, rfl⟩ rfl rfl rfl rfl rfl (by kernel_rfl) Try.func5 (by kernel_rfl)
    (of_decide_eq_true (by kernel_rfl)) (by unfold Func.isWrapper; first | (rw [if_pos (by decide +kernel)]; kernel_rfl) | (rw [if_neg (by decide +kernel)]; exact ⟨rfl, rfl⟩))
    (fun os started H enc _ => lifted os started H enc)
theorem proved : Rows.TaskChecksSaid := over
#print axioms proved
end Go.Proofs.Ytcheokfoilcdoaa.taskChecks
namespace Go.Proofs.Ytcheokfoilcdoaa
/-- The row, under a short name, for the claim. -/
theorem taskChecks_holds : Rows.TaskChecksSaid := taskChecks.proved
end Go.Proofs.Ytcheokfoilcdoaa
