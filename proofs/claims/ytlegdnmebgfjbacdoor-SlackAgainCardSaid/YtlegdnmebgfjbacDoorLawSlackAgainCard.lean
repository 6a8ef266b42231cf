/- The row 'SlackAgain': the program answers true at every input that may be, and leaves the input as it was. -/
import Derived.Test.YtlegdnmebgfjbacDoorRows
import Derived.Test.YtlegdnmebgfjbacDoorWI
import Derived.WalkKit
import Derived.ProofKit
import Derived.OpenShut
import Derived.ShutString
import Derived.ChangeOld
import Derived.Below
import Derived.SizedLaws
import Derived.LaidMore
import Derived.Stop.Joined
import Derived.SevenTiedAt
import Derived.Test.YtlegdnmebgfjbacDoorTie
import Derived.Test.YtlegdnmebgfjbacDoorCards
namespace Go.Proofs.YtlegdnmebgfjbacDoor.slackAgain
open Go.ChangeShapes Go.WideShapes Go.ChangeAt Go.RowKit Go.Proofs.Vl
open Go.ChangeMaps (open_string shut_string)
set_option linter.all false
theorem own : ownKnob Tryd.prog.godebug = none := by kernel_rfl
theorem laidOut : laidOutB Tryd.prog = true := by kernel_rfl
set_option maxRecDepth 100000 in
set_option maxHeartbeats 4000000 in
theorem lifted (os : Os) (started : os.Started) (H : Type) (enc : TypeId × Value → H) :
    ReturnsInHanded {} Tryd.checked os 4 .any (fun w args => (Rows.slackAgainSpec.pre enc Tryd.prog Tryd.f4 [] false w args ∧ laidMetH Tryd.prog laidL w) ∧ sizedMet enc Tryd.prog Tryd.f4 (OpenSpec.ofChange Rows.slackAgainSpec) false w args) (Rows.slackAgainSpec.post enc Tryd.prog Tryd.f4 false true false false) := by
  refine returnsInHanded_of_change_and (C := Tryd.checked) (X := fun w _ => laidMetH Tryd.prog laidL w) (fun _ _ _ hh h => h.of_heap hh) own started (by kernel_rfl) Tryd.func4
    (ChangeSpec.witness_shaped (enc := enc) (C := Tryd.checked) (os := os) (X := fun w _ => laidMetH Tryd.prog laidL w) false (World.doorLaid Tryd.prog 400 os) #[.slice none 0 0, .agg #[.int .i64 0, .int .i64 0]] 8 rfl (World.shaped_of_RefB (by kernel_rfl) (by kernel_rfl)) (by kernel_rfl) (by kernel_rfl) (by kernel_rfl) (door_met os _)) ?_
  intro W base args ds gs before hval0 hW hcnd hsz0 hL _
  have hval : ∀ (j : Nat) t v, Tryd.f4.params[j]? = some t → args[j]? = some v → Value.okWide Tryd.prog W .any base t v := hval0
  have hW' := hW
  obtain ⟨p, q, hA0, hV, rfl, hfz, hnd⟩ := hW
  have hA : DataW.TrodAll enc Tryd.prog W 0 (fun _ => true) true Tryd.f4.params.toList args.toList ds p := hA0
  rw [Tryd.params4] at hA hval
  obtain ⟨v0, vs0, d0, ds0, p0, q0, hargs, rfl, rfl, h0, r0⟩ := trodAll_cons hA
  obtain ⟨v1, vs1, d1, ds1, p1, q1, rfl, rfl, rfl, h1, r1⟩ := trodAll_cons r0
  obtain ⟨rfl, rfl, rfl⟩ := trodAll_nil r1
  obtain rfl : args = #[v0, v1] := by cases args; simp_all
  obtain ⟨rfl, rfl⟩ := trodVars_none hV
  have k0 := h0
  have lt0 : ∀ x ∈ p0, x.block < W.heap.size := by obtain ⟨m, hm⟩ := k0; exact DataW.trod_lt m _ _ _ hm
  obtain ⟨a0, R0, w0⟩ : ∃ l : List (Sp), RepP W (Elder W) (.fro (l.map (spP))) v0 ∧ (l.length ≤ maxLen ∧ ∀ x ∈ l, (SpOk) x) := by
    obtain ⟨fuel, hf⟩ := h0
    obtain ⟨l, hl, hok⟩ := (Opens.slice (α := Sp) (f := spP) (ok := SpOk) (sz := 5) Tryd.underlying22 (by kernel_rfl) (fun _ => rfl) (by decide) (opSp)) hf
    obtain ⟨A', L', c', rfl⟩ := okWide_slice Tryd.underlying22 (hval 0 22 v0 rfl rfl)
    simp only [Value.cells] at hl
    cases hl with
    | cons h1 h2 => exact ⟨l, h1, hok⟩
  have k1 := h1
  have lt1 : ∀ x ∈ p1, x.block < W.heap.size := by obtain ⟨m, hm⟩ := k1; exact DataW.trod_lt m _ _ _ hm
  obtain ⟨a1, R1, w1⟩ : ∃ l : List Int, RepA W (Elder W) (fun _ => none) (.pag ((intsP) l)) v1 ∧ (IntsOk 2) l := by
    obtain ⟨fuel, hf⟩ := h1
    obtain ⟨l, hl, hok⟩ := (opInts Tryd.underlying33 (by kernel_rfl) (by kernel_rfl) : Opens _ _ (intsP) (IntsOk 2)) hf
    obtain ⟨cs, rfl⟩ := okWide_agg (by rfl) (hval 1 33 v1 rfl rfl)
    exact ⟨l, ⟨cs.toList, by simp, hl⟩, hok⟩
  clear hA0 hval0 hsz0
  refine (AC.topG (sagain_top a0 a1 w0.1 w1.1) (.cons R0 (.cons R1 .nil)) (door_glob hL)).mono fun e W' ⟨he, bel⟩ => ?_
  subst he
  exact ⟨_, rfl, _, _, _, [], _, [], hW', trodAll_mk1 (shut_bool Tryd.underlying4 _), (trodAll_cons_mk (Below.trod laidOut (by kernel_rfl) (of_decide_eq_true (by kernel_rfl)) k0 bel lt0) (trodAll_cons_mk (Below.trod laidOut (by kernel_rfl) (of_decide_eq_true (by kernel_rfl)) k1 bel lt1) trodAll_mk0)), rfl, bel.frame _, fun h => by cases h⟩
theorem over : Rows.slackAgainRow.holds Tryd.pinned (OpenSpec.ofChange Rows.slackAgainSpec) :=
  OpenClaim.holds_of_wide 4 Tryd.f4 rfl rfl rfl rfl rfl rfl rfl ⟨rfl, rfl, rfl, rfl, rfl⟩ rfl rfl rfl rfl rfl (by kernel_rfl) Tryd.func4 (by kernel_rfl)
    (of_decide_eq_true (by kernel_rfl)) (by unfold Func.isWrapper; first | (rw [if_pos (by decide +kernel)]; kernel_rfl) | (rw [if_neg (by decide +kernel)]; exact ⟨rfl, rfl⟩))
    (fun os started H enc _ => lifted os started H enc)
theorem proved : Rows.SlackAgainSaid := over
theorem card_holds : Rows.SlackAgainCardSaid :=
  Claim7.holds_tied_plain_at .later [] [.data] true (true, "a2ebfa5a06738449f23a68ebbfde7995c6d3e9839c03da3e34d1db9596557748") false
    proved (fun _ h => by cases h) (by kernel_rfl) (fun _ h => by cases h) slackAgain_row_tie rfl ⟨rfl, rfl⟩ (by kernel_rfl) rfl
    (fun f fn hf hfn => by
      obtain rfl : f = 4 := Option.some.inj ((show Tryd.prog.funcNamed "cadency/cadencylaw22.SlackAgain" = some 4 by kernel_rfl).symm.trans hf) |>.symm
      obtain rfl : fn = Tryd.f4 := (Option.some.inj (Tryd.func4.symm.trans hfn)).symm
      exact ⟨by kernel_rfl, fun j t ht => by
        rw [Tryd.params4] at ht
        have hm : t ∈ [22, 33] := by simpa using Array.mem_of_getElem? ht
        have hall : ([22, 33].all fun u => !Tryd.prog.wantsStandIn u) = true := by kernel_rfl
        exact (show Tryd.prog.wantsStandIn t = false by simpa using List.all_eq_true.1 hall t hm)⟩)
    (by kernel_rfl)
#print axioms card_holds
end Go.Proofs.YtlegdnmebgfjbacDoor.slackAgain
namespace Go.Proofs.YtlegdnmebgfjbacDoor
/-- The tied card, under a short name, for the claim. -/
theorem slackAgainCard_holds : Rows.SlackAgainCardSaid := slackAgain.card_holds
end Go.Proofs.YtlegdnmebgfjbacDoor
