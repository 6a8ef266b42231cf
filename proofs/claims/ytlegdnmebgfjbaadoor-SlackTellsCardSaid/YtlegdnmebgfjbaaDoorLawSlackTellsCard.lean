/- The row 'SlackTells': the program answers true at every input that may be, and leaves the input as it was. -/
import Derived.Test.YtlegdnmebgfjbaaDoorRows
import Derived.Test.YtlegdnmebgfjbaaDoorWN
import Derived.WalkKit
import Derived.ProofKit
import Derived.OpenShut
import Derived.ShutString
import Derived.ChangeOld
import Derived.Below
import Derived.SizedLaws
import Derived.LaidMore
import Derived.Stop.Joined
import Derived.SevenTiedAt
import Derived.Test.YtlegdnmebgfjbaaDoorTie
import Derived.Test.YtlegdnmebgfjbaaDoorCards
namespace Go.Proofs.YtlegdnmebgfjbaaDoor.slackTells
open Go.ChangeShapes Go.WideShapes Go.ChangeAt Go.RowKit Go.Proofs.Vl
open Go.ChangeMaps (open_string shut_string)
set_option linter.all false
theorem own : ownKnob Tryd.prog.godebug = none := by kernel_rfl
theorem laidOut : laidOutB Tryd.prog = true := by kernel_rfl
set_option maxRecDepth 100000 in
set_option maxHeartbeats 4000000 in
theorem lifted (os : Os) (started : os.Started) (H : Type) (enc : TypeId × Value → H) :
    ReturnsInHanded {} Tryd.checked os 4 .any (fun w args => (Rows.slackTellsSpec.pre enc Tryd.prog Tryd.f4 [] false w args ∧ laidMetH Tryd.prog laidL w) ∧ sizedMet enc Tryd.prog Tryd.f4 (OpenSpec.ofChange Rows.slackTellsSpec) false w args) (Rows.slackTellsSpec.post enc Tryd.prog Tryd.f4 false true false false) := by
  refine returnsInHanded_of_change_and (C := Tryd.checked) (X := fun w _ => laidMetH Tryd.prog laidL w) (fun _ _ _ hh h => h.of_heap hh) own started (by kernel_rfl) Tryd.func4
    (ChangeSpec.witness_shaped (enc := enc) (C := Tryd.checked) (os := os) (X := fun w _ => laidMetH Tryd.prog laidL w) false (World.doorLaid Tryd.prog 400 os) #[.slice none 0 0, .slice none 0 0, .int .i64 0] 8 rfl (World.shaped_of_RefB (by kernel_rfl) (by kernel_rfl)) (by kernel_rfl) (by kernel_rfl) (by kernel_rfl) (door_met os _)) ?_
  intro W base args ds gs before hval0 hW hcnd hsz0 hL _
  have hval : ∀ (j : Nat) t v, Tryd.f4.params[j]? = some t → args[j]? = some v → Value.okWide Tryd.prog W .any base t v := hval0
  have hW' := hW
  obtain ⟨p, q, hA0, hV, rfl, hfz, hnd⟩ := hW
  have hA : DataW.TrodAll enc Tryd.prog W 0 (fun _ => true) true Tryd.f4.params.toList args.toList ds p := hA0
  rw [Tryd.params4] at hA hval
  obtain ⟨v0, vs0, d0, ds0, p0, q0, hargs, rfl, rfl, h0, r0⟩ := trodAll_cons hA
  obtain ⟨v1, vs1, d1, ds1, p1, q1, rfl, rfl, rfl, h1, r1⟩ := trodAll_cons r0
  obtain ⟨v2, vs2, d2, ds2, p2, q2, rfl, rfl, rfl, h2, r2⟩ := trodAll_cons r1
  obtain ⟨rfl, rfl, rfl⟩ := trodAll_nil r2
  obtain rfl : args = #[v0, v1, v2] := by cases args; simp_all
  obtain ⟨rfl, rfl⟩ := trodVars_none hV
  have k0 := h0
  have lt0 : ∀ x ∈ p0, x.block < W.heap.size := by obtain ⟨m, hm⟩ := k0; exact DataW.trod_lt m _ _ _ hm
  obtain ⟨a0, R0, w0⟩ : ∃ l : List (Sp), RepP W (Elder W) (.fro (l.map (spP))) v0 ∧ (l.length ≤ maxLen ∧ ∀ x ∈ l, (SpOk) x) := by
    obtain ⟨fuel, hf⟩ := h0
    obtain ⟨l, hl, hok⟩ := (Opens.slice (α := Sp) (f := spP) (ok := SpOk) (sz := 5) Tryd.underlying23 (by kernel_rfl) (fun _ => rfl) (by decide) (opSp)) hf
    obtain ⟨A', L', c', rfl⟩ := okWide_slice Tryd.underlying23 (hval 0 23 v0 rfl rfl)
    simp only [Value.cells] at hl
    cases hl with
    | cons h1 h2 => exact ⟨l, h1, hok⟩
  have k1 := h1
  have lt1 : ∀ x ∈ p1, x.block < W.heap.size := by obtain ⟨m, hm⟩ := k1; exact DataW.trod_lt m _ _ _ hm
  obtain ⟨a1, R1, w1⟩ : ∃ l : List (Tk), RepP W (Elder W) (.fro (l.map (tkP))) v1 ∧ (l.length ≤ maxLen ∧ ∀ x ∈ l, (TkOk) x) := by
    obtain ⟨fuel, hf⟩ := h1
    obtain ⟨l, hl, hok⟩ := (Opens.slice (α := Tk) (f := tkP) (ok := TkOk) (sz := 7) Tryd.underlying24 (by kernel_rfl) (fun _ => rfl) (by decide) (opTk)) hf
    obtain ⟨A', L', c', rfl⟩ := okWide_slice Tryd.underlying24 (hval 1 24 v1 rfl rfl)
    simp only [Value.cells] at hl
    cases hl with
    | cons h1 h2 => exact ⟨l, h1, hok⟩
  obtain ⟨a2, rfl, rfl, rfl, w2⟩ := open_int Tryd.underlying3 (hval 2 3 v2 rfl rfl) h2
  clear hA0 hval0 hsz0
  refine (AC.topG (stells_ac a0 a1 a2 w0.1 w1.1 (fun t ht => (w1.2 t ht).nm)) (.cons R0 (.cons R1 (.cons (RepP.s _ rfl) .nil))) (door_glob hL)).mono fun e W' ⟨he, bel⟩ => ?_
  subst he
  exact ⟨_, rfl, _, _, _, [], _, [], hW', trodAll_mk1 (shut_bool Tryd.underlying4 _), (trodAll_cons_mk (Below.trod laidOut (by kernel_rfl) (of_decide_eq_true (by kernel_rfl)) k0 bel lt0) (trodAll_cons_mk (Below.trod laidOut (by kernel_rfl) (of_decide_eq_true (by kernel_rfl)) k1 bel lt1) (trodAll_cons_mk (shut_int Tryd.underlying3 w2) trodAll_mk0))), rfl, bel.frame _, fun h => by cases h⟩
theorem over : Rows.slackTellsRow.holds Tryd.pinned (OpenSpec.ofChange Rows.slackTellsSpec) :=
  OpenClaim.holds_of_wide 4 Tryd.f4 rfl rfl rfl rfl rfl rfl rfl ⟨rfl, rfl, rfl, rfl, rfl⟩ rfl rfl rfl rfl rfl (by kernel_rfl) Tryd.func4 (by kernel_rfl)
    (of_decide_eq_true (by kernel_rfl)) (by unfold Func.isWrapper; first | (rw [if_pos (by decide +kernel)]; kernel_rfl) | (rw [if_neg (by decide +kernel)]; exact ⟨rfl, rfl⟩))
    (fun os started H enc _ => lifted os started H enc)
theorem proved : Rows.SlackTellsSaid := over
theorem card_holds : Rows.SlackTellsCardSaid :=
  Claim7.holds_tied_plain_at .later [] [.data] true (true, "dccc50f4ef974f344463667f32beb55518ab37aaec4aedc9077b59caf3212992") false
    proved (fun _ h => by cases h) (by kernel_rfl) (fun _ h => by cases h) slackTells_row_tie rfl ⟨rfl, rfl⟩ (by kernel_rfl) rfl
    (fun f fn hf hfn => by
      obtain rfl : f = 4 := Option.some.inj ((show Tryd.prog.funcNamed "cadency/cadencylaw22.SlackTells" = some 4 by kernel_rfl).symm.trans hf) |>.symm
      obtain rfl : fn = Tryd.f4 := (Option.some.inj (Tryd.func4.symm.trans hfn)).symm
      exact ⟨by kernel_rfl, fun j t ht => by
        rw [Tryd.params4] at ht
        have hm : t ∈ [23, 24, 3] := by simpa using Array.mem_of_getElem? ht
        have hall : ([23, 24, 3].all fun u => !Tryd.prog.wantsStandIn u) = true := by kernel_rfl
        exact (show Tryd.prog.wantsStandIn t = false by simpa using List.all_eq_true.1 hall t hm)⟩)
    (by kernel_rfl)
#print axioms card_holds
end Go.Proofs.YtlegdnmebgfjbaaDoor.slackTells
namespace Go.Proofs.YtlegdnmebgfjbaaDoor
/-- The tied card, under a short name, for the claim. -/
theorem slackTellsCard_holds : Rows.SlackTellsCardSaid := slackTells.card_holds
end Go.Proofs.YtlegdnmebgfjbaaDoor
