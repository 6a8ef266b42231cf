-- Laid by wip/printx.py, over the print of the kit.
import Derived.Test.YthhojifpogghlaaRows
import Derived.Test.YthhojifpogghlaaPChainsx11
import Derived.Test.YthhojifpogghlaaOpn
import Derived.Test.YthhojifpogghlaaPureNumChains
import Derived.WalkKit
import Derived.ProofKit
import Derived.OpenShut
import Derived.ShutString
import Derived.ChangeOld
import Derived.Below
import Derived.SizedLaws
namespace Go.Proofs.Ythhojifpogghlaa.numChains
open Go.ChangeShapes Go.WideShapes Go.ChangeAt Go.RowKit Go.Proofs.Ythhojifpogghlaa.PChains Go.Proofs.YthhojifpogghlaaW.PrintWords
open Go.ChangeMaps (open_string shut_string)
set_option linter.unusedVariables false
theorem own : ownKnob Try.prog.godebug = none := by kernel_rfl
theorem laidOut : laidOutB Try.prog = true := by kernel_rfl
set_option maxRecDepth 100000 in
set_option maxHeartbeats 4000000 in
theorem lifted (os : Os) (started : os.Started) (H : Type) (enc : TypeId × Value → H) :
    ReturnsInHanded {} Try.checked os 10 .any (Rows.numChainsSpec.pre6 enc Try.prog Try.f10 Rows.numChainsRow.domain false) (Rows.numChainsSpec.post enc Try.prog Try.f10 false true false false) := by
  refine returnsInHanded_of_change_sized (C := Try.checked) own started (by kernel_rfl) Try.func10
    (ChangeSpec.witness6 (enc := enc) (C := Try.checked) false ⟨#[], #[.agg #[.int .u64 0, .int .u64 0, .int .u64 0], .int .u64 0, .int .u64 0], []⟩ 8 (by kernel_rfl) (by kernel_rfl) (by kernel_rfl) (by kernel_rfl)) ?_
  intro W base args ds gs before hval0 hW hcnd hsz0 _
  have hval : ∀ (j : Nat) t v, Try.f10.params[j]? = some t → args[j]? = some v → Value.okWide Try.prog W .any base t v := hval0
  have hW' := hW
  obtain ⟨p, q, hA0, hV, rfl, hfz, hnd⟩ := hW
  have hA : DataW.TrodAll enc Try.prog W 0 (fun _ => true) true Try.f10.params.toList args.toList ds p := hA0
  rw [Try.params10] at hA hval
  obtain ⟨v0, vs0, d0, ds0, p0, q0, hargs, rfl, rfl, h0, r0⟩ := trodAll_cons hA
  obtain ⟨v1, vs1, d1, ds1, p1, q1, rfl, rfl, rfl, h1, r1⟩ := trodAll_cons r0
  obtain ⟨v2, vs2, d2, ds2, p2, q2, rfl, rfl, rfl, h2, r2⟩ := trodAll_cons r1
  obtain ⟨rfl, rfl, rfl⟩ := trodAll_nil r2
  obtain rfl : args = #[v0, v1, v2] := by cases args; simp_all
  obtain ⟨rfl, rfl⟩ := trodVars_none hV
  have k0 := h0
  have lt0 : ∀ x ∈ p0, x.block < W.heap.size := by obtain ⟨m, hm⟩ := k0; exact DataW.trod_lt m _ _ _ hm
  obtain ⟨cs0, rfl, _⟩ := Rw.okWide_array Try.underlying42 (hval 0 42 v0 rfl rfl)
  obtain ⟨x0, hcs0, w0⟩ : ∃ x_ : S42, cs0.toList = [.int .u64 x_.f0, .int .u64 x_.f1, .int .u64 x_.f2] ∧ ((Lit.int .u64 x_.f0).wf = true ∧ (Lit.int .u64 x_.f1).wf = true ∧ (Lit.int .u64 x_.f2).wf = true) := by
    obtain ⟨fuel, hf⟩ := h0
    obtain ⟨l, hK, hok⟩ := o42 hf
    exact ⟨l, k42_open hK, hok⟩
  obtain rfl : cs0 = #[.int .u64 x0.f0, .int .u64 x0.f1, .int .u64 x0.f2] := by rw [← Array.toArray_toList (xs := cs0), hcs0]
  obtain ⟨a1, rfl, rfl, rfl, w1⟩ := open_int Try.underlying22 (hval 1 22 v1 rfl rfl) h1
  obtain ⟨a2, rfl, rfl, rfl, w2⟩ := open_int Try.underlying22 (hval 2 22 v2 rfl rfl) h2
  clear hA0 hval0 hsz0
  refine (cadencylaw01_NumChains.walk Pure.NumChains x0.f0 x0.f1 x0.f2 a1 a2 W w0.1 w0.2.1 w0.2.2 w1 w2).mono fun e W' ⟨he, bel⟩ => ?_
  subst he
  exact ⟨_, rfl, _, _, _, [], _, [], hW', trodAll_mk1 (shut_bool Try.underlying4 _), (trodAll_cons_mk (Below.trod laidOut (by kernel_rfl) (of_decide_eq_true (by kernel_rfl)) k0 bel lt0) (trodAll_cons_mk (shut_int Try.underlying22 w1) (trodAll_cons_mk (shut_int Try.underlying22 w2) trodAll_mk0))), rfl, bel.frame _, fun h => by cases h⟩
theorem over : Rows.numChainsRow.holds Try.pinned (OpenSpec.ofChange Rows.numChainsSpec) :=
  OpenClaim.holds_of_wide 10 Try.f10 rfl rfl rfl rfl rfl rfl rfl ⟨rfl, rfl, rfl, rfl, rfl⟩ rfl rfl rfl rfl rfl (by kernel_rfl) Try.func10 (by kernel_rfl)
    (of_decide_eq_true (by kernel_rfl)) (by unfold Func.isWrapper; first | (rw [if_pos (by decide +kernel)]; kernel_rfl) | (rw [if_neg (by decide +kernel)]; exact ⟨rfl, rfl⟩))
    (fun os started H enc _ => lifted os started H enc)
theorem proved : Rows.NumChainsSaid := over
#print axioms proved
end Go.Proofs.Ythhojifpogghlaa.numChains
namespace Go.Proofs.Ythhojifpogghlaa
/-- The row, under a short name, for the claim. -/
theorem numChains_holds : Rows.NumChainsSaid := numChains.proved
end Go.Proofs.Ythhojifpogghlaa
