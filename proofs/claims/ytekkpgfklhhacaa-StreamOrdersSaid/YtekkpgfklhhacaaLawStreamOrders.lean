/- The row 'StreamOrders': the program answers true at every input that may be, and leaves the input as it was. -/
import Derived.Test.YtekkpgfklhhacaaRows
import Derived.Test.YtekkpgfklhhacaaR6
import Derived.WalkKit
import Derived.ProofKit
import Derived.OpenShut
import Derived.ShutString
import Derived.ChangeOld
import Derived.Below
import Derived.SizedLaws
namespace Go.Proofs.Ytekkpgfklhhacaa.streamOrders
open Go.ChangeShapes Go.WideShapes Go.ChangeAt Go.RowKit Go.Proofs.Vl
open Go.ChangeMaps (open_string shut_string)
set_option linter.all false
theorem own : ownKnob Try.prog.godebug = none := by kernel_rfl
theorem laidOut : laidOutB Try.prog = true := by kernel_rfl
set_option maxRecDepth 100000 in
set_option maxHeartbeats 4000000 in
theorem lifted (os : Os) (started : os.Started) (H : Type) (enc : TypeId × Value → H) :
    ReturnsInHanded {} Try.checked os 7 .any (Rows.streamOrdersSpec.pre6 enc Try.prog Try.f7 Rows.streamOrdersRow.domain false) (Rows.streamOrdersSpec.post enc Try.prog Try.f7 false true false false) := by
  refine returnsInHanded_of_change_sized (C := Try.checked) own started (by kernel_rfl) Try.func7
    (ChangeSpec.witness6 (enc := enc) (C := Try.checked) false ⟨#[], #[.slice none 0 0, .slice none 0 0, .slice none 0 0], []⟩ 8 (by kernel_rfl) (by kernel_rfl) (by kernel_rfl) (by kernel_rfl)) ?_
  intro W base args ds gs before hval0 hW hcnd hsz0 _
  have hval : ∀ (j : Nat) t v, Try.f7.params[j]? = some t → args[j]? = some v → Value.okWide Try.prog W .any base t v := hval0
  have hW' := hW
  obtain ⟨p, q, hA0, hV, rfl, hfz, hnd⟩ := hW
  have hA : DataW.TrodAll enc Try.prog W 0 (fun _ => true) true Try.f7.params.toList args.toList ds p := hA0
  rw [Try.params7] at hA hval
  obtain ⟨v0, vs0, d0, ds0, p0, q0, hargs, rfl, rfl, h0, r0⟩ := trodAll_cons hA
  obtain ⟨v1, vs1, d1, ds1, p1, q1, rfl, rfl, rfl, h1, r1⟩ := trodAll_cons r0
  obtain ⟨v2, vs2, d2, ds2, p2, q2, rfl, rfl, rfl, h2, r2⟩ := trodAll_cons r1
  obtain ⟨rfl, rfl, rfl⟩ := trodAll_nil r2
  obtain rfl : args = #[v0, v1, v2] := by cases args; simp_all
  obtain ⟨rfl, rfl⟩ := trodVars_none hV
  have k0 := h0
  have lt0 : ∀ x ∈ p0, x.block < W.heap.size := by obtain ⟨m, hm⟩ := k0; exact DataW.trod_lt m _ _ _ hm
  obtain ⟨a0, R0, w0⟩ : ∃ l : List (Int), RepP W (Elder W) (.fro (l.map (pvI .i64))) v0 ∧ (l.length ≤ maxLen ∧ ∀ x ∈ l, (fun x => (Lit.int .i64 x).wf = true) x) := by
    obtain ⟨fuel, hf⟩ := h0
    obtain ⟨l, hl, hok⟩ := (Opens.slice (α := Int) (f := pvI .i64) (ok := fun x => (Lit.int .i64 x).wf = true) (sz := 1) Try.underlying37 (by kernel_rfl) (fun _ => rfl) (by decide) (Opens.int Try.underlying2)) hf
    obtain ⟨A', L', c', rfl⟩ := okWide_slice Try.underlying37 (hval 0 37 v0 rfl rfl)
    simp only [Value.cells] at hl
    cases hl with
    | cons h1 h2 => exact ⟨l, h1, hok⟩
  have k1 := h1
  have lt1 : ∀ x ∈ p1, x.block < W.heap.size := by obtain ⟨m, hm⟩ := k1; exact DataW.trod_lt m _ _ _ hm
  obtain ⟨a1, R1, w1⟩ : ∃ l : List (Sp), RepP W (Elder W) (.fro (l.map (spP))) v1 ∧ (l.length ≤ maxLen ∧ ∀ x ∈ l, (SpOk) x) := by
    obtain ⟨fuel, hf⟩ := h1
    obtain ⟨l, hl, hok⟩ := (Opens.slice (α := Sp) (f := spP) (ok := SpOk) (sz := 5) Try.underlying45 (by kernel_rfl) (fun _ => rfl) (by decide) (opSp)) hf
    obtain ⟨A', L', c', rfl⟩ := okWide_slice Try.underlying45 (hval 1 45 v1 rfl rfl)
    simp only [Value.cells] at hl
    cases hl with
    | cons h1 h2 => exact ⟨l, h1, hok⟩
  have k2 := h2
  have lt2 : ∀ x ∈ p2, x.block < W.heap.size := by obtain ⟨m, hm⟩ := k2; exact DataW.trod_lt m _ _ _ hm
  obtain ⟨a2, R2, w2⟩ : ∃ l : List (Raw), RepP W (Elder W) (.fro (l.map (rawP))) v2 ∧ (l.length ≤ maxLen ∧ ∀ x ∈ l, (RawOk) x) := by
    obtain ⟨fuel, hf⟩ := h2
    obtain ⟨l, hl, hok⟩ := (Opens.slice (α := Raw) (f := rawP) (ok := RawOk) (sz := 5) Try.underlying46 (by kernel_rfl) (fun _ => rfl) (by decide) (opRaw)) hf
    obtain ⟨A', L', c', rfl⟩ := okWide_slice Try.underlying46 (hval 2 46 v2 rfl rfl)
    simp only [Value.cells] at hl
    cases hl with
    | cons h1 h2 => exact ⟨l, h1, hok⟩
  clear hA0 hval0 hsz0
  refine (AC.top (sorders_ac _ a0 a1 a2 w0.1 w1.1 w2.1 (fun r hr => (w2.2 r hr).c)) (.cons R0 (.cons R1 (.cons R2 .nil)))).mono fun e W' ⟨he, bel⟩ => ?_
  subst he
  exact ⟨_, rfl, _, _, _, [], _, [], hW', trodAll_mk1 (shut_bool Try.underlying4 _), (trodAll_cons_mk (Below.trod laidOut (by kernel_rfl) (of_decide_eq_true (by kernel_rfl)) k0 bel lt0) (trodAll_cons_mk (Below.trod laidOut (by kernel_rfl) (of_decide_eq_true (by kernel_rfl)) k1 bel lt1) (trodAll_cons_mk (Below.trod laidOut (by kernel_rfl) (of_decide_eq_true (by kernel_rfl)) k2 bel lt2) trodAll_mk0))), rfl, bel.frame _, fun h => by cases h⟩
theorem over : Rows.streamOrdersRow.holds Try.pinned (OpenSpec.ofChange Rows.streamOrdersSpec) :=
  OpenClaim.holds_of_wide 7 Try.f7 rfl rfl rfl rfl rfl rfl rfl ⟨rfl, rfl, rfl, rfl, rfl⟩ rfl rfl rfl rfl rfl (by kernel_rfl) Try.func7 (by kernel_rfl)
    (of_decide_eq_true (by kernel_rfl)) (by unfold Func.isWrapper; first | (rw [if_pos (by decide +kernel)]; kernel_rfl) | (rw [if_neg (by decide +kernel)]; exact ⟨rfl, rfl⟩))
    (fun os started H enc _ => lifted os started H enc)
theorem proved : Rows.StreamOrdersSaid := over
#print axioms proved
end Go.Proofs.Ytekkpgfklhhacaa.streamOrders
namespace Go.Proofs.Ytekkpgfklhhacaa
/-- The row, under a short name, for the claim. -/
theorem streamOrders_holds : Rows.StreamOrdersSaid := streamOrders.proved
end Go.Proofs.Ytekkpgfklhhacaa
