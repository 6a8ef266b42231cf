-- Laid by wip/printx.py, over the print of the kit.
import Derived.Test.YthhojifpogghlaaPChainsx0
import Derived.Test.YthhojifpogghlaaPChainsx4
import Derived.Test.YthhojifpogghlaaPChainsx6
import Derived.Test.YthhojifpogghlaaPChainsx7
import Derived.Test.YthhojifpogghlaaPChainsx9
import Derived.Test.YthhojifpogghlaaPChainsx10
namespace Go.Proofs.Ythhojifpogghlaa.PChains
open Go.RowKit Go.Proofs.YthhojifpogghlaaW.PrintWords Go.Proofs.YthhojifpogghlaaW.PrintLast Go.Proofs.YthhojifpogghlaaW.PrintMore
attribute [local go_sem] max2_int min2_int max_two min_two max_three min_three max_four min_four   -- for this text's walks alone
set_option linter.unusedVariables false
set_option linter.unusedSimpArgs false

/-! ### cadencylaw01_NumChains: function 10 -/
def cadencylaw01_NumChains.f (k : Nat) (a0_0 : Int) (a0_1 : Int) (a0_2 : Int) (a1 : Int) (a2 : Int) : Option (Bool) := (cadencylaw01_awake.f k).bind fun t125 => ((num_Add.f (a0_1 / 8796093022208) (a0_2 / 8796093022208)).bind fun bt126 => ((num_Mul.f (a0_0 / 8796093022208) bt126.1).bind fun bt128 => ((num_Mul.f (a0_0 / 8796093022208) (a0_1 / 8796093022208)).bind fun bt130 => ((num_Mul.f (a0_0 / 8796093022208) (a0_2 / 8796093022208)).bind fun bt132 => ((num_Mul.f bt130.1 (a0_2 / 8796093022208)).bind fun bt134 => ((num_Times.f (a0_1 / 8796093022208) (a0_2 / 8796093022208)).bind fun t136 => ((num_Mul.f (a0_0 / 8796093022208) t136).bind fun bt137 => (if t125 = true then (if bt126.2 = true then (if bt128.2 = true then (if bt130.2 = true then (if bt132.2 = true then (if bt134.2 = true then (if bt137.2 = true then (if bt128.1 = (IntKind.u64.wrap (bt130.1 + bt132.1)) then (if bt134.1 = bt137.1 then ((num_Sum.f k a1 (([a2] : List Int))).bind fun t142 => (if t142 ≥ a1 then ((num_Sum.f k a1 (([a2] : List Int))).bind fun t146 => (if t146 ≥ a2 then (if a1 = 0 then (some true) else ((num_Times.f a1 a2).bind fun t147 => (some (decide (t147 ≥ a2))))) else (none))) else (none))) else (none)) else (none)) else (none)) else (none)) else (none)) else (none)) else (none)) else (none)) else (none)))))))))
theorem cadencylaw01_NumChains.mono : ∀ a0 a1 a2 a3 a4 k, LeO (cadencylaw01_NumChains.f k a0 a1 a2 a3 a4) (cadencylaw01_NumChains.f (k + 1) a0 a1 a2 a3 a4) := by
  intro a0 a1 a2 a3 a4 k
  unfold cadencylaw01_NumChains.f
  repeat' first
      | (with_reducible exact cadencylaw01_awake.mono _)
      | (with_reducible exact num_Sum.mono _ _ _)
      | (with_reducible exact LeO.refl _)
      | (with_reducible exact LeO.none _)
      | (with_reducible refine LeO.ite ?_ ?_)
      | (with_reducible refine LeO.bind ?_ (fun _ => ?_))
      | exact cadencylaw01_awake.mono _
      | exact num_Sum.mono _ _ _
      | exact LeO.none _
      | refine LeO.ite ?_ ?_
      | refine LeO.bind ?_ (fun _ => ?_)
set_option maxHeartbeats 8000000 in
set_option maxRecDepth 100000 in
theorem cadencylaw01_NumChains.calls (k : Nat) (a0_0 : Int) (a0_1 : Int) (a0_2 : Int) (a1 : Int) (a2 : Int) (r : Bool) (w : World) (h : cadencylaw01_NumChains.f k a0_0 a0_1 a0_2 a1 a2 = some r) :
    Calls Try.prog 10 #[.agg #[.int .u64 a0_0, .int .u64 a0_1, .int .u64 a0_2], .int .u64 a1, .int .u64 a2] w fun e w' => e = .returned (.bool r) ∧ Below w.heap.size w w' := by
  have hu42 := Try.underlying42
  have HB := Aside0.mk (Below.refl w.heap.size w)
  have H : ((cadencylaw01_awake.f k).bind fun t125 => ((num_Add.f (a0_1 / 8796093022208) (a0_2 / 8796093022208)).bind fun bt126 => ((num_Mul.f (a0_0 / 8796093022208) bt126.1).bind fun bt128 => ((num_Mul.f (a0_0 / 8796093022208) (a0_1 / 8796093022208)).bind fun bt130 => ((num_Mul.f (a0_0 / 8796093022208) (a0_2 / 8796093022208)).bind fun bt132 => ((num_Mul.f bt130.1 (a0_2 / 8796093022208)).bind fun bt134 => ((num_Times.f (a0_1 / 8796093022208) (a0_2 / 8796093022208)).bind fun t136 => ((num_Mul.f (a0_0 / 8796093022208) t136).bind fun bt137 => (if t125 = true then (if bt126.2 = true then (if bt128.2 = true then (if bt130.2 = true then (if bt132.2 = true then (if bt134.2 = true then (if bt137.2 = true then (if bt128.1 = (IntKind.u64.wrap (bt130.1 + bt132.1)) then (if bt134.1 = bt137.1 then ((num_Sum.f k a1 (([a2] : List Int))).bind fun t142 => (if t142 ≥ a1 then ((num_Sum.f k a1 (([a2] : List Int))).bind fun t146 => (if t146 ≥ a2 then (if a1 = 0 then (some true) else ((num_Times.f a1 a2).bind fun t147 => (some (decide (t147 ≥ a2))))) else (none))) else (none))) else (none)) else (none)) else (none)) else (none)) else (none)) else (none)) else (none)) else (none)) else (none)))))))))) = some r := h
  clear h
  replace H := Option.bind_eq_some_iff.mp H
  obtain ⟨t125, A40, H⟩ := H
  replace H : ((num_Add.f (a0_1 / 8796093022208) (a0_2 / 8796093022208)).bind fun bt126 => ((num_Mul.f (a0_0 / 8796093022208) bt126.1).bind fun bt128 => ((num_Mul.f (a0_0 / 8796093022208) (a0_1 / 8796093022208)).bind fun bt130 => ((num_Mul.f (a0_0 / 8796093022208) (a0_2 / 8796093022208)).bind fun bt132 => ((num_Mul.f bt130.1 (a0_2 / 8796093022208)).bind fun bt134 => ((num_Times.f (a0_1 / 8796093022208) (a0_2 / 8796093022208)).bind fun t136 => ((num_Mul.f (a0_0 / 8796093022208) t136).bind fun bt137 => (if t125 = true then (if bt126.2 = true then (if bt128.2 = true then (if bt130.2 = true then (if bt132.2 = true then (if bt134.2 = true then (if bt137.2 = true then (if bt128.1 = (IntKind.u64.wrap (bt130.1 + bt132.1)) then (if bt134.1 = bt137.1 then ((num_Sum.f k a1 (([a2] : List Int))).bind fun t142 => (if t142 ≥ a1 then ((num_Sum.f k a1 (([a2] : List Int))).bind fun t146 => (if t146 ≥ a2 then (if a1 = 0 then (some true) else ((num_Times.f a1 a2).bind fun t147 => (some (decide (t147 ≥ a2))))) else (none))) else (none))) else (none)) else (none)) else (none)) else (none)) else (none)) else (none)) else (none)) else (none)) else (none))))))))) = some r := H
  have A4 := Aside0.mk A40
  clear A40
  replace H := Option.bind_eq_some_iff.mp H
  obtain ⟨⟨t126, t127⟩, A50, H⟩ := H
  replace H : ((num_Mul.f (a0_0 / 8796093022208) t126).bind fun bt128 => ((num_Mul.f (a0_0 / 8796093022208) (a0_1 / 8796093022208)).bind fun bt130 => ((num_Mul.f (a0_0 / 8796093022208) (a0_2 / 8796093022208)).bind fun bt132 => ((num_Mul.f bt130.1 (a0_2 / 8796093022208)).bind fun bt134 => ((num_Times.f (a0_1 / 8796093022208) (a0_2 / 8796093022208)).bind fun t136 => ((num_Mul.f (a0_0 / 8796093022208) t136).bind fun bt137 => (if t125 = true then (if t127 = true then (if bt128.2 = true then (if bt130.2 = true then (if bt132.2 = true then (if bt134.2 = true then (if bt137.2 = true then (if bt128.1 = (IntKind.u64.wrap (bt130.1 + bt132.1)) then (if bt134.1 = bt137.1 then ((num_Sum.f k a1 (([a2] : List Int))).bind fun t142 => (if t142 ≥ a1 then ((num_Sum.f k a1 (([a2] : List Int))).bind fun t146 => (if t146 ≥ a2 then (if a1 = 0 then (some true) else ((num_Times.f a1 a2).bind fun t147 => (some (decide (t147 ≥ a2))))) else (none))) else (none))) else (none)) else (none)) else (none)) else (none)) else (none)) else (none)) else (none)) else (none)) else (none)))))))) = some r := H
  have A5 := Aside0.mk A50
  clear A50
  replace H := Option.bind_eq_some_iff.mp H
  obtain ⟨⟨t128, t129⟩, A60, H⟩ := H
  replace H : ((num_Mul.f (a0_0 / 8796093022208) (a0_1 / 8796093022208)).bind fun bt130 => ((num_Mul.f (a0_0 / 8796093022208) (a0_2 / 8796093022208)).bind fun bt132 => ((num_Mul.f bt130.1 (a0_2 / 8796093022208)).bind fun bt134 => ((num_Times.f (a0_1 / 8796093022208) (a0_2 / 8796093022208)).bind fun t136 => ((num_Mul.f (a0_0 / 8796093022208) t136).bind fun bt137 => (if t125 = true then (if t127 = true then (if t129 = true then (if bt130.2 = true then (if bt132.2 = true then (if bt134.2 = true then (if bt137.2 = true then (if t128 = (IntKind.u64.wrap (bt130.1 + bt132.1)) then (if bt134.1 = bt137.1 then ((num_Sum.f k a1 (([a2] : List Int))).bind fun t142 => (if t142 ≥ a1 then ((num_Sum.f k a1 (([a2] : List Int))).bind fun t146 => (if t146 ≥ a2 then (if a1 = 0 then (some true) else ((num_Times.f a1 a2).bind fun t147 => (some (decide (t147 ≥ a2))))) else (none))) else (none))) else (none)) else (none)) else (none)) else (none)) else (none)) else (none)) else (none)) else (none)) else (none))))))) = some r := H
  have A6 := Aside0.mk A60
  clear A60
  replace H := Option.bind_eq_some_iff.mp H
  obtain ⟨⟨t130, t131⟩, A70, H⟩ := H
  replace H : ((num_Mul.f (a0_0 / 8796093022208) (a0_2 / 8796093022208)).bind fun bt132 => ((num_Mul.f t130 (a0_2 / 8796093022208)).bind fun bt134 => ((num_Times.f (a0_1 / 8796093022208) (a0_2 / 8796093022208)).bind fun t136 => ((num_Mul.f (a0_0 / 8796093022208) t136).bind fun bt137 => (if t125 = true then (if t127 = true then (if t129 = true then (if t131 = true then (if bt132.2 = true then (if bt134.2 = true then (if bt137.2 = true then (if t128 = (IntKind.u64.wrap (t130 + bt132.1)) then (if bt134.1 = bt137.1 then ((num_Sum.f k a1 (([a2] : List Int))).bind fun t142 => (if t142 ≥ a1 then ((num_Sum.f k a1 (([a2] : List Int))).bind fun t146 => (if t146 ≥ a2 then (if a1 = 0 then (some true) else ((num_Times.f a1 a2).bind fun t147 => (some (decide (t147 ≥ a2))))) else (none))) else (none))) else (none)) else (none)) else (none)) else (none)) else (none)) else (none)) else (none)) else (none)) else (none)))))) = some r := H
  have A7 := Aside0.mk A70
  clear A70
  replace H := Option.bind_eq_some_iff.mp H
  obtain ⟨⟨t132, t133⟩, A80, H⟩ := H
  replace H : ((num_Mul.f t130 (a0_2 / 8796093022208)).bind fun bt134 => ((num_Times.f (a0_1 / 8796093022208) (a0_2 / 8796093022208)).bind fun t136 => ((num_Mul.f (a0_0 / 8796093022208) t136).bind fun bt137 => (if t125 = true then (if t127 = true then (if t129 = true then (if t131 = true then (if t133 = true then (if bt134.2 = true then (if bt137.2 = true then (if t128 = (IntKind.u64.wrap (t130 + t132)) then (if bt134.1 = bt137.1 then ((num_Sum.f k a1 (([a2] : List Int))).bind fun t142 => (if t142 ≥ a1 then ((num_Sum.f k a1 (([a2] : List Int))).bind fun t146 => (if t146 ≥ a2 then (if a1 = 0 then (some true) else ((num_Times.f a1 a2).bind fun t147 => (some (decide (t147 ≥ a2))))) else (none))) else (none))) else (none)) else (none)) else (none)) else (none)) else (none)) else (none)) else (none)) else (none)) else (none))))) = some r := H
  have A8 := Aside0.mk A80
  clear A80
  replace H := Option.bind_eq_some_iff.mp H
  obtain ⟨⟨t134, t135⟩, A90, H⟩ := H
  replace H : ((num_Times.f (a0_1 / 8796093022208) (a0_2 / 8796093022208)).bind fun t136 => ((num_Mul.f (a0_0 / 8796093022208) t136).bind fun bt137 => (if t125 = true then (if t127 = true then (if t129 = true then (if t131 = true then (if t133 = true then (if t135 = true then (if bt137.2 = true then (if t128 = (IntKind.u64.wrap (t130 + t132)) then (if t134 = bt137.1 then ((num_Sum.f k a1 (([a2] : List Int))).bind fun t142 => (if t142 ≥ a1 then ((num_Sum.f k a1 (([a2] : List Int))).bind fun t146 => (if t146 ≥ a2 then (if a1 = 0 then (some true) else ((num_Times.f a1 a2).bind fun t147 => (some (decide (t147 ≥ a2))))) else (none))) else (none))) else (none)) else (none)) else (none)) else (none)) else (none)) else (none)) else (none)) else (none)) else (none)))) = some r := H
  have A9 := Aside0.mk A90
  clear A90
  replace H := Option.bind_eq_some_iff.mp H
  obtain ⟨t136, A100, H⟩ := H
  replace H : ((num_Mul.f (a0_0 / 8796093022208) t136).bind fun bt137 => (if t125 = true then (if t127 = true then (if t129 = true then (if t131 = true then (if t133 = true then (if t135 = true then (if bt137.2 = true then (if t128 = (IntKind.u64.wrap (t130 + t132)) then (if t134 = bt137.1 then ((num_Sum.f k a1 (([a2] : List Int))).bind fun t142 => (if t142 ≥ a1 then ((num_Sum.f k a1 (([a2] : List Int))).bind fun t146 => (if t146 ≥ a2 then (if a1 = 0 then (some true) else ((num_Times.f a1 a2).bind fun t147 => (some (decide (t147 ≥ a2))))) else (none))) else (none))) else (none)) else (none)) else (none)) else (none)) else (none)) else (none)) else (none)) else (none)) else (none))) = some r := H
  have A10 := Aside0.mk A100
  clear A100
  replace H := Option.bind_eq_some_iff.mp H
  obtain ⟨⟨t137, t138⟩, A110, H⟩ := H
  replace H : (if t125 = true then (if t127 = true then (if t129 = true then (if t131 = true then (if t133 = true then (if t135 = true then (if t138 = true then (if t128 = (IntKind.u64.wrap (t130 + t132)) then (if t134 = t137 then ((num_Sum.f k a1 (([a2] : List Int))).bind fun t142 => (if t142 ≥ a1 then ((num_Sum.f k a1 (([a2] : List Int))).bind fun t146 => (if t146 ≥ a2 then (if a1 = 0 then (some true) else ((num_Times.f a1 a2).bind fun t147 => (some (decide (t147 ≥ a2))))) else (none))) else (none))) else (none)) else (none)) else (none)) else (none)) else (none)) else (none)) else (none)) else (none)) else (none)) = some r := H
  have A11 := Aside0.mk A110
  clear A110
  by_cases c12 : t125 = true
  · subst c12
    have H1 : (if t127 = true then (if t129 = true then (if t131 = true then (if t133 = true then (if t135 = true then (if t138 = true then (if t128 = (IntKind.u64.wrap (t130 + t132)) then (if t134 = t137 then ((num_Sum.f k a1 (([a2] : List Int))).bind fun t142 => (if t142 ≥ a1 then ((num_Sum.f k a1 (([a2] : List Int))).bind fun t146 => (if t146 ≥ a2 then (if a1 = 0 then (some true) else ((num_Times.f a1 a2).bind fun t147 => (some (decide (t147 ≥ a2))))) else (none))) else (none))) else (none)) else (none)) else (none)) else (none)) else (none)) else (none)) else (none)) else (none)) = some r := by rw [if_pos rfl] at H; exact H
    clear H
    have H := H1
    clear H1
    by_cases c13 : t127 = true
    · subst c13
      have H1 : (if t129 = true then (if t131 = true then (if t133 = true then (if t135 = true then (if t138 = true then (if t128 = (IntKind.u64.wrap (t130 + t132)) then (if t134 = t137 then ((num_Sum.f k a1 (([a2] : List Int))).bind fun t142 => (if t142 ≥ a1 then ((num_Sum.f k a1 (([a2] : List Int))).bind fun t146 => (if t146 ≥ a2 then (if a1 = 0 then (some true) else ((num_Times.f a1 a2).bind fun t147 => (some (decide (t147 ≥ a2))))) else (none))) else (none))) else (none)) else (none)) else (none)) else (none)) else (none)) else (none)) else (none)) = some r := by rw [if_pos rfl] at H; exact H
      clear H
      have H := H1
      clear H1
      by_cases c14 : t129 = true
      · subst c14
        have H1 : (if t131 = true then (if t133 = true then (if t135 = true then (if t138 = true then (if t128 = (IntKind.u64.wrap (t130 + t132)) then (if t134 = t137 then ((num_Sum.f k a1 (([a2] : List Int))).bind fun t142 => (if t142 ≥ a1 then ((num_Sum.f k a1 (([a2] : List Int))).bind fun t146 => (if t146 ≥ a2 then (if a1 = 0 then (some true) else ((num_Times.f a1 a2).bind fun t147 => (some (decide (t147 ≥ a2))))) else (none))) else (none))) else (none)) else (none)) else (none)) else (none)) else (none)) else (none)) = some r := by rw [if_pos rfl] at H; exact H
        clear H
        have H := H1
        clear H1
        by_cases c15 : t131 = true
        · subst c15
          have H1 : (if t133 = true then (if t135 = true then (if t138 = true then (if t128 = (IntKind.u64.wrap (t130 + t132)) then (if t134 = t137 then ((num_Sum.f k a1 (([a2] : List Int))).bind fun t142 => (if t142 ≥ a1 then ((num_Sum.f k a1 (([a2] : List Int))).bind fun t146 => (if t146 ≥ a2 then (if a1 = 0 then (some true) else ((num_Times.f a1 a2).bind fun t147 => (some (decide (t147 ≥ a2))))) else (none))) else (none))) else (none)) else (none)) else (none)) else (none)) else (none)) = some r := by rw [if_pos rfl] at H; exact H
          clear H
          have H := H1
          clear H1
          by_cases c16 : t133 = true
          · subst c16
            have H1 : (if t135 = true then (if t138 = true then (if t128 = (IntKind.u64.wrap (t130 + t132)) then (if t134 = t137 then ((num_Sum.f k a1 (([a2] : List Int))).bind fun t142 => (if t142 ≥ a1 then ((num_Sum.f k a1 (([a2] : List Int))).bind fun t146 => (if t146 ≥ a2 then (if a1 = 0 then (some true) else ((num_Times.f a1 a2).bind fun t147 => (some (decide (t147 ≥ a2))))) else (none))) else (none))) else (none)) else (none)) else (none)) else (none)) = some r := by rw [if_pos rfl] at H; exact H
            clear H
            have H := H1
            clear H1
            by_cases c17 : t135 = true
            · subst c17
              have H1 : (if t138 = true then (if t128 = (IntKind.u64.wrap (t130 + t132)) then (if t134 = t137 then ((num_Sum.f k a1 (([a2] : List Int))).bind fun t142 => (if t142 ≥ a1 then ((num_Sum.f k a1 (([a2] : List Int))).bind fun t146 => (if t146 ≥ a2 then (if a1 = 0 then (some true) else ((num_Times.f a1 a2).bind fun t147 => (some (decide (t147 ≥ a2))))) else (none))) else (none))) else (none)) else (none)) else (none)) = some r := by rw [if_pos rfl] at H; exact H
              clear H
              have H := H1
              clear H1
              by_cases c18 : t138 = true
              · subst c18
                have H1 : (if t128 = (IntKind.u64.wrap (t130 + t132)) then (if t134 = t137 then ((num_Sum.f k a1 (([a2] : List Int))).bind fun t142 => (if t142 ≥ a1 then ((num_Sum.f k a1 (([a2] : List Int))).bind fun t146 => (if t146 ≥ a2 then (if a1 = 0 then (some true) else ((num_Times.f a1 a2).bind fun t147 => (some (decide (t147 ≥ a2))))) else (none))) else (none))) else (none)) else (none)) = some r := by rw [if_pos rfl] at H; exact H
                clear H
                have H := H1
                clear H1
                by_cases c19 : t128 = (IntKind.u64.wrap (t130 + t132))
                · rw [if_pos c19] at H
                  have c19b0 : (t128 == (IntKind.u64.wrap (t130 + t132))) = true := beq_iff_eq.mpr c19
                  have c19b1 : (t128 != (IntKind.u64.wrap (t130 + t132))) = false := bne_eq_false_iff_eq.mpr c19
                  clear c19
                  by_cases c20 : t134 = t137
                  · rw [if_pos c20] at H
                    have c20b0 : (t134 == t137) = true := beq_iff_eq.mpr c20
                    have c20b1 : (t134 != t137) = false := bne_eq_false_iff_eq.mpr c20
                    clear c20
                    obtain ⟨y139, hy139⟩ : ∃ y_ : List Int, y_ = (([a2] : List Int)) := ⟨_, rfl⟩
                    replace H : ((num_Sum.f k a1 y139).bind fun t142 => (if t142 ≥ a1 then ((num_Sum.f k a1 (([a2] : List Int))).bind fun t146 => (if t146 ≥ a2 then (if a1 = 0 then (some true) else ((num_Times.f a1 a2).bind fun t147 => (some (decide (t147 ≥ a2))))) else (none))) else (none))) = some r := by first | (rw [hy139]; with_reducible exact H) | (have H2_ := (Option.bind_some _ _).symm.trans H; rw [hy139]; with_reducible exact H2_) | (have H2_ := (Option.bind_some _ _).symm.trans H; with_reducible exact H2_) | with_reducible exact H | (rw [hy139]; exact H) | exact H
                    have Ny139 := Aside0.mk hy139
                    clear hy139
                    replace H := Option.bind_eq_some_iff.mp H
                    obtain ⟨t142, A210, H⟩ := H
                    replace H : (if t142 ≥ a1 then ((num_Sum.f k a1 (([a2] : List Int))).bind fun t146 => (if t146 ≥ a2 then (if a1 = 0 then (some true) else ((num_Times.f a1 a2).bind fun t147 => (some (decide (t147 ≥ a2))))) else (none))) else (none)) = some r := H
                    have A21 := Aside0.mk A210
                    clear A210
                    by_cases c22 : t142 ≥ a1
                    · rw [if_pos c22] at H
                      have c22b0 : decide (a1 ≤ t142) = true := decide_eq_true c22
                      clear c22
                      obtain ⟨y143, hy143⟩ : ∃ y_ : List Int, y_ = (([a2] : List Int)) := ⟨_, rfl⟩
                      replace H : ((num_Sum.f k a1 y143).bind fun t146 => (if t146 ≥ a2 then (if a1 = 0 then (some true) else ((num_Times.f a1 a2).bind fun t147 => (some (decide (t147 ≥ a2))))) else (none))) = some r := by first | (rw [hy143]; with_reducible exact H) | (have H2_ := (Option.bind_some _ _).symm.trans H; rw [hy143]; with_reducible exact H2_) | (have H2_ := (Option.bind_some _ _).symm.trans H; with_reducible exact H2_) | with_reducible exact H | (rw [hy143]; exact H) | exact H
                      have Ny143 := Aside0.mk hy143
                      clear hy143
                      replace H := Option.bind_eq_some_iff.mp H
                      obtain ⟨t146, A230, H⟩ := H
                      replace H : (if t146 ≥ a2 then (if a1 = 0 then (some true) else ((num_Times.f a1 a2).bind fun t147 => (some (decide (t147 ≥ a2))))) else (none)) = some r := H
                      have A23 := Aside0.mk A230
                      clear A230
                      by_cases c24 : t146 ≥ a2
                      · rw [if_pos c24] at H
                        have c24b0 : decide (a2 ≤ t146) = true := decide_eq_true c24
                        clear c24
                        by_cases c25 : a1 = 0
                        · rw [if_pos c25] at H
                          have c25b0 : (a1 == 0) = true := beq_iff_eq.mpr c25
                          have c25b1 : (a1 != 0) = false := bne_eq_false_iff_eq.mpr c25
                          clear c25
                          obtain rfl := Option.some.inj H
                          go_enter Try.func10, Try.ntmps10
                          go_wp2_with (first | ((with_reducible refine gate_dst (N := 3) rfl ?_); (try (refine gate_guard (by rfl) ?_; dsimp only)); refine box_event ?hg (N := 3) ?hd (cs := #[.int .u64 a0_0, .int .u64 a0_1, .int .u64 a0_2]) (t := 42) ?hr ?_; (case hd => rfl); (case hg => rfl); (case hr => first | (go_simp; done) | (go_simp; rfl)); intro gb124 hg w26 hbox hb; have n0_ := Aside0.mk (below_step (by repeat (first | (with_reducible first | exact HB.out | apply below_alloc | apply pw_below_drewN | apply below_drew1) | exact HB.out)) hb); have n1_ := Aside0.mk (hbox); have n2_ := Aside0.mk ((by rw [hg]; exact (below_size (by repeat (first | (with_reducible first | exact HB.out | apply below_alloc | apply pw_below_drewN | apply below_drew1) | exact HB.out))) : w.heap.size ≤ gb124)); have n3_ := Aside0.mk ((by rw [hg]; exact (below_size (by repeat (first | (with_reducible first | exact HB.out | apply below_alloc | apply pw_below_drewN | apply below_drew1) | exact HB.out))) : w.heap.size ≤ gb124)); clear HB; have HB := n0_; have BK124 := n1_; have GW124 := n2_; have GE124 := n3_; clear n0_ n1_ n2_ n3_; clear hb hbox hg) | ((with_reducible refine gate_callee (f := 11) rfl ?_); refine goesL_ (some 23) rfl rfl Try.func11 (by kernel_rfl) rfl #[] rfl (by (try simp only [List.map_toArray, List.map_cons, List.map_nil]); first | done | rfl | (simp only [List.length_drop, List.length_take]; rfl)) ?_; (with_reducible refine (cadencylaw01_awake.calls k  true _ A4.out).mono ?_); rintro e w27 ⟨rfl, hb⟩; refine ⟨_, rfl, ?_⟩; have n0_ := Aside0.mk (blk_below (g := gb124) (o := .cells #[.int .u64 a0_0, .int .u64 a0_1, .int .u64 a0_2] 42 (0, 0)) (by (with_reducible repeat (first | refine blk_drewN ?_ _ | refine blk_drew ?_ | refine blk_alloc ?_ _)); exact BK124.out) hb); have n1_ := Aside0.mk (below_step (by repeat (first | (with_reducible first | exact HB.out | apply below_alloc | apply pw_below_drewN | apply below_drew1 | refine below_set ?_ GE124.out) | exact HB.out)) hb); clear BK124; clear HB; have BK124 := n0_; have HB := n1_; clear n0_ n1_; (try clear hb); (try clear hb2); (try clear hk); (try clear hi); have hcz28_0 : w27.cell? ⟨gb124, 0, none⟩ = some (.int .u64 a0_0) := (blk_cell BK124.out 0).trans rfl; have hcz28_1 : w27.cell? ⟨gb124, 1, none⟩ = some (.int .u64 a0_1) := (blk_cell BK124.out 1).trans rfl; have hcz28_2 : w27.cell? ⟨gb124, 2, none⟩ = some (.int .u64 a0_2) := (blk_cell BK124.out 2).trans rfl; have hfz28_0 := blk_frozen BK124.out 0; have hfz28_1 := blk_frozen BK124.out 1; have hfz28_2 := blk_frozen BK124.out 2) | ((with_reducible refine gate_callee (f := 22) rfl ?_); refine goesL_ (some 36) rfl rfl Try.func22 (by kernel_rfl) rfl #[.int .u64 (a0_1 / 8796093022208), .int .u64 (a0_2 / 8796093022208)] rfl (by (try simp only [List.map_toArray, List.map_cons, List.map_nil]); first | done | rfl | (simp only [List.length_drop, List.length_take]; rfl)) ?_; (with_reducible refine (num_Add.calls (a0_1 / 8796093022208) (a0_2 / 8796093022208) t126 true _ A5.out).mono ?_); rintro e w' ⟨rfl, ⟨nd, rfl⟩⟩; refine ⟨_, rfl, ?_⟩) | ((with_reducible refine gate_callee (f := 23) rfl ?_); refine goesL_ (some 42) rfl rfl Try.func23 (by kernel_rfl) rfl #[.int .u64 (a0_0 / 8796093022208), .int .u64 t126] rfl (by (try simp only [List.map_toArray, List.map_cons, List.map_nil]); first | done | rfl | (simp only [List.length_drop, List.length_take]; rfl)) ?_; (with_reducible refine (num_Mul.calls (a0_0 / 8796093022208) t126 t128 true _ A6.out).mono ?_); rintro e w' ⟨rfl, ⟨nd, rfl⟩⟩; refine ⟨_, rfl, ?_⟩) | ((with_reducible refine gate_callee (f := 23) rfl ?_); refine goesL_ (some 48) rfl rfl Try.func23 (by kernel_rfl) rfl #[.int .u64 (a0_0 / 8796093022208), .int .u64 (a0_1 / 8796093022208)] rfl (by (try simp only [List.map_toArray, List.map_cons, List.map_nil]); first | done | rfl | (simp only [List.length_drop, List.length_take]; rfl)) ?_; (with_reducible refine (num_Mul.calls (a0_0 / 8796093022208) (a0_1 / 8796093022208) t130 true _ A7.out).mono ?_); rintro e w' ⟨rfl, ⟨nd, rfl⟩⟩; refine ⟨_, rfl, ?_⟩) | ((with_reducible refine gate_callee (f := 23) rfl ?_); refine goesL_ (some 54) rfl rfl Try.func23 (by kernel_rfl) rfl #[.int .u64 (a0_0 / 8796093022208), .int .u64 (a0_2 / 8796093022208)] rfl (by (try simp only [List.map_toArray, List.map_cons, List.map_nil]); first | done | rfl | (simp only [List.length_drop, List.length_take]; rfl)) ?_; (with_reducible refine (num_Mul.calls (a0_0 / 8796093022208) (a0_2 / 8796093022208) t132 true _ A8.out).mono ?_); rintro e w' ⟨rfl, ⟨nd, rfl⟩⟩; refine ⟨_, rfl, ?_⟩) | ((with_reducible refine gate_callee (f := 23) rfl ?_); refine goesL_ (some 60) rfl rfl Try.func23 (by kernel_rfl) rfl #[.int .u64 t130, .int .u64 (a0_2 / 8796093022208)] rfl (by (try simp only [List.map_toArray, List.map_cons, List.map_nil]); first | done | rfl | (simp only [List.length_drop, List.length_take]; rfl)) ?_; (with_reducible refine (num_Mul.calls t130 (a0_2 / 8796093022208) t134 true _ A9.out).mono ?_); rintro e w' ⟨rfl, ⟨nd, rfl⟩⟩; refine ⟨_, rfl, ?_⟩) | ((with_reducible refine gate_callee (f := 24) rfl ?_); refine goesL_ (some 67) rfl rfl Try.func24 (by kernel_rfl) rfl #[.int .u64 (a0_1 / 8796093022208), .int .u64 (a0_2 / 8796093022208)] rfl (by (try simp only [List.map_toArray, List.map_cons, List.map_nil]); first | done | rfl | (simp only [List.length_drop, List.length_take]; rfl)) ?_; (with_reducible refine (num_Times.calls (a0_1 / 8796093022208) (a0_2 / 8796093022208) t136 _ A10.out).mono ?_); rintro e w' ⟨rfl, ⟨nd, rfl⟩⟩; refine ⟨_, rfl, ?_⟩) | ((with_reducible refine gate_callee (f := 23) rfl ?_); refine goesL_ (some 68) rfl rfl Try.func23 (by kernel_rfl) rfl #[.int .u64 (a0_0 / 8796093022208), .int .u64 t136] rfl (by (try simp only [List.map_toArray, List.map_cons, List.map_nil]); first | done | rfl | (simp only [List.length_drop, List.length_take]; rfl)) ?_; (with_reducible refine (num_Mul.calls (a0_0 / 8796093022208) t136 t137 true _ A11.out).mono ?_); rintro e w' ⟨rfl, ⟨nd, rfl⟩⟩; refine ⟨_, rfl, ?_⟩) | ((with_reducible refine gate_dst (N := 105) rfl ?_); (try (refine gate_guard (by rfl) ?_; dsimp only)); refine Kd.R_lit (Kd.int .u64) _ 22 ?hg (N := 105) ?hd (xs := ([a2] : List Int)) (inner := [.int .u64 a2]) (ok := fun _ => True) (okp := fun _ => True) ?hr ?hp (fun _ hk => hk) trivial (Below.refl _ _) (Nat.le_refl _) (by simp) ?_; (case hd => rfl); (case hg => rfl); (case hr => first | (go_simp; done) | (go_simp; rfl)); (case hp => exact (Reps.one (show Kd.M (Kd.int .u64) _ _ _ a2 [.int .u64 a2] from rfl) (Reps.none _ _))); intro v140 w29 ho30 hb hg_ hnew_; clear hg_ hnew_; (first | rw [← Ny139.out] at ho30 | (simp only [Int.reduceToNat] at ho30; rw [← Ny139.out] at ho30)); have n0_ := Aside0.mk (Kd.R_lower ho30 (below_size (by repeat (first | (with_reducible first | exact HB.out | apply below_alloc | apply pw_below_drewN | apply below_drew1 | refine below_set ?_ GE124.out) | exact HB.out)))); have n1_ := Aside0.mk (blk_below (g := gb124) (o := .cells #[.int .u64 a0_0, .int .u64 a0_1, .int .u64 a0_2] 42 (0, 0)) (by (with_reducible repeat (first | refine blk_drewN ?_ _ | refine blk_drew ?_ | refine blk_alloc ?_ _)); exact BK124.out) hb); have n2_ := Aside0.mk (below_step (by repeat (first | (with_reducible first | exact HB.out | apply below_alloc | apply pw_below_drewN | apply below_drew1 | refine below_set ?_ GE124.out) | exact HB.out)) hb); clear BK124; clear HB; have HO141 := n0_; have BK124 := n1_; have HB := n2_; clear n0_ n1_ n2_; clear hb ho30; obtain ⟨Ao31, co31, eo31⟩ := Kd.R_slice HO141.out; subst eo31) | (go_at_call 17; (with_reducible refine (num_Sum.calls k a1 _ _ y139 t142 _ ?side1 ?side2 A21.out).mono ?_); (case side1 => repeat (first | exact (Kd.R_reads' HO141.out).2.2 | (with_reducible refine Kd.C_alloc ?_ _) | (with_reducible refine Kd.C_drewN ?_ _) | (with_reducible refine Kd.C_drew ?_))); (case side2 => exact (Kd.R_reads' HO141.out).2.1); rintro e w' ⟨rfl, ⟨nd, rfl⟩⟩) | ((with_reducible refine gate_dst (N := 113) rfl ?_); (try (refine gate_guard (by rfl) ?_; dsimp only)); refine Kd.R_lit (Kd.int .u64) _ 22 ?hg (N := 113) ?hd (xs := ([a2] : List Int)) (inner := [.int .u64 a2]) (ok := fun _ => True) (okp := fun _ => True) ?hr ?hp (fun _ hk => hk) trivial (Below.refl _ _) (Nat.le_refl _) (by simp) ?_; (case hd => rfl); (case hg => rfl); (case hr => first | (go_simp; done) | (go_simp; rfl)); (case hp => exact (Reps.one (show Kd.M (Kd.int .u64) _ _ _ a2 [.int .u64 a2] from rfl) (Reps.none _ _))); intro v144 w32 ho33 hb hg_ hnew_; clear hg_ hnew_; (first | rw [← Ny143.out] at ho33 | (simp only [Int.reduceToNat] at ho33; rw [← Ny143.out] at ho33)); have n0_ := Aside0.mk (Kd.R_elder' (by (with_reducible repeat (first | apply Kd.R_alloc | apply Kd.R_drewN | apply Kd.R_drew)); exact HO141.out) (Kd.R_base ho33) hb); have n1_ := Aside0.mk (Kd.R_lower (Kd.R_new' ho33 (Kd.R_lt (by (with_reducible repeat (first | apply Kd.R_alloc | apply Kd.R_drewN | apply Kd.R_drew)); exact HO141.out))) (below_size (by repeat (first | (with_reducible first | exact HB.out | apply below_alloc | apply pw_below_drewN | apply below_drew1 | refine below_set ?_ GE124.out) | exact HB.out)))); have n2_ := Aside0.mk (blk_below (g := gb124) (o := .cells #[.int .u64 a0_0, .int .u64 a0_1, .int .u64 a0_2] 42 (0, 0)) (by (with_reducible repeat (first | refine blk_drewN ?_ _ | refine blk_drew ?_ | refine blk_alloc ?_ _)); exact BK124.out) hb); have n3_ := Aside0.mk (below_step (by repeat (first | (with_reducible first | exact HB.out | apply below_alloc | apply pw_below_drewN | apply below_drew1 | refine below_set ?_ GE124.out) | exact HB.out)) hb); clear HO141; clear BK124; clear HB; have HO141 := n0_; have HO145 := n1_; have BK124 := n2_; have HB := n3_; clear n0_ n1_ n2_ n3_; clear hb ho33; obtain ⟨Ao34, co34, eo34⟩ := Kd.R_slice HO145.out; subst eo34) | (go_at_call 17; (with_reducible refine (num_Sum.calls k a1 _ _ y143 t146 _ ?side1 ?side2 A23.out).mono ?_); (case side1 => repeat (first | exact (Kd.R_reads' HO145.out).2.2 | (with_reducible refine Kd.C_alloc ?_ _) | (with_reducible refine Kd.C_drewN ?_ _) | (with_reducible refine Kd.C_drew ?_))); (case side2 => exact (Kd.R_reads' HO145.out).2.1); rintro e w' ⟨rfl, ⟨nd, rfl⟩⟩))
                          go_ret
                          exact ⟨by first | rfl | (simp [errW_none, errW_some] <;> rfl) | (simp [*, errW_none, errW_some] <;> rfl), by repeat (first | (with_reducible first | exact HB.out | apply below_alloc | apply pw_below_drewN | apply below_drew1 | refine below_set ?_ GE124.out) | exact HB.out)⟩
                        · rw [if_neg c25] at H
                          have c25b0 : (a1 == 0) = false := beq_eq_false_iff_ne.mpr c25
                          have c25b1 : (a1 != 0) = true := bne_iff_ne.mpr c25
                          replace H := Option.bind_eq_some_iff.mp H
                          obtain ⟨t147, A350, H⟩ := H
                          replace H : (some (decide (t147 ≥ a2))) = some r := H
                          have A35 := Aside0.mk A350
                          clear A350
                          obtain rfl := Option.some.inj H
                          go_enter Try.func10, Try.ntmps10
                          go_wp2_with (first | ((with_reducible refine gate_dst (N := 3) rfl ?_); (try (refine gate_guard (by rfl) ?_; dsimp only)); refine box_event ?hg (N := 3) ?hd (cs := #[.int .u64 a0_0, .int .u64 a0_1, .int .u64 a0_2]) (t := 42) ?hr ?_; (case hd => rfl); (case hg => rfl); (case hr => first | (go_simp; done) | (go_simp; rfl)); intro gb124 hg w36 hbox hb; have n0_ := Aside0.mk (below_step (by repeat (first | (with_reducible first | exact HB.out | apply below_alloc | apply pw_below_drewN | apply below_drew1) | exact HB.out)) hb); have n1_ := Aside0.mk (hbox); have n2_ := Aside0.mk ((by rw [hg]; exact (below_size (by repeat (first | (with_reducible first | exact HB.out | apply below_alloc | apply pw_below_drewN | apply below_drew1) | exact HB.out))) : w.heap.size ≤ gb124)); have n3_ := Aside0.mk ((by rw [hg]; exact (below_size (by repeat (first | (with_reducible first | exact HB.out | apply below_alloc | apply pw_below_drewN | apply below_drew1) | exact HB.out))) : w.heap.size ≤ gb124)); clear HB; have HB := n0_; have BK124 := n1_; have GW124 := n2_; have GE124 := n3_; clear n0_ n1_ n2_ n3_; clear hb hbox hg) | ((with_reducible refine gate_callee (f := 11) rfl ?_); refine goesL_ (some 23) rfl rfl Try.func11 (by kernel_rfl) rfl #[] rfl (by (try simp only [List.map_toArray, List.map_cons, List.map_nil]); first | done | rfl | (simp only [List.length_drop, List.length_take]; rfl)) ?_; (with_reducible refine (cadencylaw01_awake.calls k  true _ A4.out).mono ?_); rintro e w37 ⟨rfl, hb⟩; refine ⟨_, rfl, ?_⟩; have n0_ := Aside0.mk (blk_below (g := gb124) (o := .cells #[.int .u64 a0_0, .int .u64 a0_1, .int .u64 a0_2] 42 (0, 0)) (by (with_reducible repeat (first | refine blk_drewN ?_ _ | refine blk_drew ?_ | refine blk_alloc ?_ _)); exact BK124.out) hb); have n1_ := Aside0.mk (below_step (by repeat (first | (with_reducible first | exact HB.out | apply below_alloc | apply pw_below_drewN | apply below_drew1 | refine below_set ?_ GE124.out) | exact HB.out)) hb); clear BK124; clear HB; have BK124 := n0_; have HB := n1_; clear n0_ n1_; (try clear hb); (try clear hb2); (try clear hk); (try clear hi); have hcz38_0 : w37.cell? ⟨gb124, 0, none⟩ = some (.int .u64 a0_0) := (blk_cell BK124.out 0).trans rfl; have hcz38_1 : w37.cell? ⟨gb124, 1, none⟩ = some (.int .u64 a0_1) := (blk_cell BK124.out 1).trans rfl; have hcz38_2 : w37.cell? ⟨gb124, 2, none⟩ = some (.int .u64 a0_2) := (blk_cell BK124.out 2).trans rfl; have hfz38_0 := blk_frozen BK124.out 0; have hfz38_1 := blk_frozen BK124.out 1; have hfz38_2 := blk_frozen BK124.out 2) | ((with_reducible refine gate_callee (f := 22) rfl ?_); refine goesL_ (some 36) rfl rfl Try.func22 (by kernel_rfl) rfl #[.int .u64 (a0_1 / 8796093022208), .int .u64 (a0_2 / 8796093022208)] rfl (by (try simp only [List.map_toArray, List.map_cons, List.map_nil]); first | done | rfl | (simp only [List.length_drop, List.length_take]; rfl)) ?_; (with_reducible refine (num_Add.calls (a0_1 / 8796093022208) (a0_2 / 8796093022208) t126 true _ A5.out).mono ?_); rintro e w' ⟨rfl, ⟨nd, rfl⟩⟩; refine ⟨_, rfl, ?_⟩) | ((with_reducible refine gate_callee (f := 23) rfl ?_); refine goesL_ (some 42) rfl rfl Try.func23 (by kernel_rfl) rfl #[.int .u64 (a0_0 / 8796093022208), .int .u64 t126] rfl (by (try simp only [List.map_toArray, List.map_cons, List.map_nil]); first | done | rfl | (simp only [List.length_drop, List.length_take]; rfl)) ?_; (with_reducible refine (num_Mul.calls (a0_0 / 8796093022208) t126 t128 true _ A6.out).mono ?_); rintro e w' ⟨rfl, ⟨nd, rfl⟩⟩; refine ⟨_, rfl, ?_⟩) | ((with_reducible refine gate_callee (f := 23) rfl ?_); refine goesL_ (some 48) rfl rfl Try.func23 (by kernel_rfl) rfl #[.int .u64 (a0_0 / 8796093022208), .int .u64 (a0_1 / 8796093022208)] rfl (by (try simp only [List.map_toArray, List.map_cons, List.map_nil]); first | done | rfl | (simp only [List.length_drop, List.length_take]; rfl)) ?_; (with_reducible refine (num_Mul.calls (a0_0 / 8796093022208) (a0_1 / 8796093022208) t130 true _ A7.out).mono ?_); rintro e w' ⟨rfl, ⟨nd, rfl⟩⟩; refine ⟨_, rfl, ?_⟩) | ((with_reducible refine gate_callee (f := 23) rfl ?_); refine goesL_ (some 54) rfl rfl Try.func23 (by kernel_rfl) rfl #[.int .u64 (a0_0 / 8796093022208), .int .u64 (a0_2 / 8796093022208)] rfl (by (try simp only [List.map_toArray, List.map_cons, List.map_nil]); first | done | rfl | (simp only [List.length_drop, List.length_take]; rfl)) ?_; (with_reducible refine (num_Mul.calls (a0_0 / 8796093022208) (a0_2 / 8796093022208) t132 true _ A8.out).mono ?_); rintro e w' ⟨rfl, ⟨nd, rfl⟩⟩; refine ⟨_, rfl, ?_⟩) | ((with_reducible refine gate_callee (f := 23) rfl ?_); refine goesL_ (some 60) rfl rfl Try.func23 (by kernel_rfl) rfl #[.int .u64 t130, .int .u64 (a0_2 / 8796093022208)] rfl (by (try simp only [List.map_toArray, List.map_cons, List.map_nil]); first | done | rfl | (simp only [List.length_drop, List.length_take]; rfl)) ?_; (with_reducible refine (num_Mul.calls t130 (a0_2 / 8796093022208) t134 true _ A9.out).mono ?_); rintro e w' ⟨rfl, ⟨nd, rfl⟩⟩; refine ⟨_, rfl, ?_⟩) | ((with_reducible refine gate_callee (f := 24) rfl ?_); refine goesL_ (some 67) rfl rfl Try.func24 (by kernel_rfl) rfl #[.int .u64 (a0_1 / 8796093022208), .int .u64 (a0_2 / 8796093022208)] rfl (by (try simp only [List.map_toArray, List.map_cons, List.map_nil]); first | done | rfl | (simp only [List.length_drop, List.length_take]; rfl)) ?_; (with_reducible refine (num_Times.calls (a0_1 / 8796093022208) (a0_2 / 8796093022208) t136 _ A10.out).mono ?_); rintro e w' ⟨rfl, ⟨nd, rfl⟩⟩; refine ⟨_, rfl, ?_⟩) | ((with_reducible refine gate_callee (f := 23) rfl ?_); refine goesL_ (some 68) rfl rfl Try.func23 (by kernel_rfl) rfl #[.int .u64 (a0_0 / 8796093022208), .int .u64 t136] rfl (by (try simp only [List.map_toArray, List.map_cons, List.map_nil]); first | done | rfl | (simp only [List.length_drop, List.length_take]; rfl)) ?_; (with_reducible refine (num_Mul.calls (a0_0 / 8796093022208) t136 t137 true _ A11.out).mono ?_); rintro e w' ⟨rfl, ⟨nd, rfl⟩⟩; refine ⟨_, rfl, ?_⟩) | ((with_reducible refine gate_dst (N := 105) rfl ?_); (try (refine gate_guard (by rfl) ?_; dsimp only)); refine Kd.R_lit (Kd.int .u64) _ 22 ?hg (N := 105) ?hd (xs := ([a2] : List Int)) (inner := [.int .u64 a2]) (ok := fun _ => True) (okp := fun _ => True) ?hr ?hp (fun _ hk => hk) trivial (Below.refl _ _) (Nat.le_refl _) (by simp) ?_; (case hd => rfl); (case hg => rfl); (case hr => first | (go_simp; done) | (go_simp; rfl)); (case hp => exact (Reps.one (show Kd.M (Kd.int .u64) _ _ _ a2 [.int .u64 a2] from rfl) (Reps.none _ _))); intro v140 w39 ho40 hb hg_ hnew_; clear hg_ hnew_; (first | rw [← Ny139.out] at ho40 | (simp only [Int.reduceToNat] at ho40; rw [← Ny139.out] at ho40)); have n0_ := Aside0.mk (Kd.R_lower ho40 (below_size (by repeat (first | (with_reducible first | exact HB.out | apply below_alloc | apply pw_below_drewN | apply below_drew1 | refine below_set ?_ GE124.out) | exact HB.out)))); have n1_ := Aside0.mk (blk_below (g := gb124) (o := .cells #[.int .u64 a0_0, .int .u64 a0_1, .int .u64 a0_2] 42 (0, 0)) (by (with_reducible repeat (first | refine blk_drewN ?_ _ | refine blk_drew ?_ | refine blk_alloc ?_ _)); exact BK124.out) hb); have n2_ := Aside0.mk (below_step (by repeat (first | (with_reducible first | exact HB.out | apply below_alloc | apply pw_below_drewN | apply below_drew1 | refine below_set ?_ GE124.out) | exact HB.out)) hb); clear BK124; clear HB; have HO141 := n0_; have BK124 := n1_; have HB := n2_; clear n0_ n1_ n2_; clear hb ho40; obtain ⟨Ao41, co41, eo41⟩ := Kd.R_slice HO141.out; subst eo41) | (go_at_call 17; (with_reducible refine (num_Sum.calls k a1 _ _ y139 t142 _ ?side1 ?side2 A21.out).mono ?_); (case side1 => repeat (first | exact (Kd.R_reads' HO141.out).2.2 | (with_reducible refine Kd.C_alloc ?_ _) | (with_reducible refine Kd.C_drewN ?_ _) | (with_reducible refine Kd.C_drew ?_))); (case side2 => exact (Kd.R_reads' HO141.out).2.1); rintro e w' ⟨rfl, ⟨nd, rfl⟩⟩) | ((with_reducible refine gate_dst (N := 113) rfl ?_); (try (refine gate_guard (by rfl) ?_; dsimp only)); refine Kd.R_lit (Kd.int .u64) _ 22 ?hg (N := 113) ?hd (xs := ([a2] : List Int)) (inner := [.int .u64 a2]) (ok := fun _ => True) (okp := fun _ => True) ?hr ?hp (fun _ hk => hk) trivial (Below.refl _ _) (Nat.le_refl _) (by simp) ?_; (case hd => rfl); (case hg => rfl); (case hr => first | (go_simp; done) | (go_simp; rfl)); (case hp => exact (Reps.one (show Kd.M (Kd.int .u64) _ _ _ a2 [.int .u64 a2] from rfl) (Reps.none _ _))); intro v144 w42 ho43 hb hg_ hnew_; clear hg_ hnew_; (first | rw [← Ny143.out] at ho43 | (simp only [Int.reduceToNat] at ho43; rw [← Ny143.out] at ho43)); have n0_ := Aside0.mk (Kd.R_elder' (by (with_reducible repeat (first | apply Kd.R_alloc | apply Kd.R_drewN | apply Kd.R_drew)); exact HO141.out) (Kd.R_base ho43) hb); have n1_ := Aside0.mk (Kd.R_lower (Kd.R_new' ho43 (Kd.R_lt (by (with_reducible repeat (first | apply Kd.R_alloc | apply Kd.R_drewN | apply Kd.R_drew)); exact HO141.out))) (below_size (by repeat (first | (with_reducible first | exact HB.out | apply below_alloc | apply pw_below_drewN | apply below_drew1 | refine below_set ?_ GE124.out) | exact HB.out)))); have n2_ := Aside0.mk (blk_below (g := gb124) (o := .cells #[.int .u64 a0_0, .int .u64 a0_1, .int .u64 a0_2] 42 (0, 0)) (by (with_reducible repeat (first | refine blk_drewN ?_ _ | refine blk_drew ?_ | refine blk_alloc ?_ _)); exact BK124.out) hb); have n3_ := Aside0.mk (below_step (by repeat (first | (with_reducible first | exact HB.out | apply below_alloc | apply pw_below_drewN | apply below_drew1 | refine below_set ?_ GE124.out) | exact HB.out)) hb); clear HO141; clear BK124; clear HB; have HO141 := n0_; have HO145 := n1_; have BK124 := n2_; have HB := n3_; clear n0_ n1_ n2_ n3_; clear hb ho43; obtain ⟨Ao44, co44, eo44⟩ := Kd.R_slice HO145.out; subst eo44) | (go_at_call 17; (with_reducible refine (num_Sum.calls k a1 _ _ y143 t146 _ ?side1 ?side2 A23.out).mono ?_); (case side1 => repeat (first | exact (Kd.R_reads' HO145.out).2.2 | (with_reducible refine Kd.C_alloc ?_ _) | (with_reducible refine Kd.C_drewN ?_ _) | (with_reducible refine Kd.C_drew ?_))); (case side2 => exact (Kd.R_reads' HO145.out).2.1); rintro e w' ⟨rfl, ⟨nd, rfl⟩⟩) | (go_at_call 24; (with_reducible refine (num_Times.calls a1 a2 t147 _ A35.out).mono ?_); rintro e w' ⟨rfl, ⟨nd, rfl⟩⟩))
                          go_ret
                          exact ⟨by first | rfl | (simp [errW_none, errW_some] <;> rfl) | (simp [*, errW_none, errW_some] <;> rfl), by repeat (first | (with_reducible first | exact HB.out | apply below_alloc | apply pw_below_drewN | apply below_drew1 | refine below_set ?_ GE124.out) | exact HB.out)⟩
                      · rw [if_neg c24] at H
                        exact absurd H (by simp)
                    · rw [if_neg c22] at H
                      exact absurd H (by simp)
                  · rw [if_neg c20] at H
                    exact absurd H (by simp)
                · rw [if_neg c19] at H
                  exact absurd H (by simp)
              · replace c18 := Bool.eq_false_iff.mpr c18
                subst c18
                have H1 : (none) = some r := by rw [if_neg (show ¬ (false = true) by decide)] at H; exact H
                clear H
                have H := H1
                clear H1
                exact absurd H (by simp)
            · replace c17 := Bool.eq_false_iff.mpr c17
              subst c17
              have H1 : (none) = some r := by rw [if_neg (show ¬ (false = true) by decide)] at H; exact H
              clear H
              have H := H1
              clear H1
              exact absurd H (by simp)
          · replace c16 := Bool.eq_false_iff.mpr c16
            subst c16
            have H1 : (none) = some r := by rw [if_neg (show ¬ (false = true) by decide)] at H; exact H
            clear H
            have H := H1
            clear H1
            exact absurd H (by simp)
        · replace c15 := Bool.eq_false_iff.mpr c15
          subst c15
          have H1 : (none) = some r := by rw [if_neg (show ¬ (false = true) by decide)] at H; exact H
          clear H
          have H := H1
          clear H1
          exact absurd H (by simp)
      · replace c14 := Bool.eq_false_iff.mpr c14
        subst c14
        have H1 : (none) = some r := by rw [if_neg (show ¬ (false = true) by decide)] at H; exact H
        clear H
        have H := H1
        clear H1
        exact absurd H (by simp)
    · replace c13 := Bool.eq_false_iff.mpr c13
      subst c13
      have H1 : (none) = some r := by rw [if_neg (show ¬ (false = true) by decide)] at H; exact H
      clear H
      have H := H1
      clear H1
      exact absurd H (by simp)
  · replace c12 := Bool.eq_false_iff.mpr c12
    subst c12
    have H1 : (none) = some r := by rw [if_neg (show ¬ (false = true) by decide)] at H; exact H
    clear H
    have H := H1
    clear H1
    exact absurd H (by simp)

/-- THE ONE PURE STATEMENT of cadencylaw01_NumChains: yours. -/
def cadencylaw01_NumChains.Pure : Prop := ∀ (a0_0 : Int) (a0_1 : Int) (a0_2 : Int) (a1 : Int) (a2 : Int), (Lit.int .u64 a0_0).wf = true → (Lit.int .u64 a0_1).wf = true → (Lit.int .u64 a0_2).wf = true → (Lit.int .u64 a1).wf = true → (Lit.int .u64 a2).wf = true → ∃ k, cadencylaw01_NumChains.f k a0_0 a0_1 a0_2 a1 a2 = some true
theorem cadencylaw01_NumChains.walk (P : cadencylaw01_NumChains.Pure) (a0_0 : Int) (a0_1 : Int) (a0_2 : Int) (a1 : Int) (a2 : Int) (w : World) (w0_0 : (Lit.int .u64 a0_0).wf = true) (w0_1 : (Lit.int .u64 a0_1).wf = true) (w0_2 : (Lit.int .u64 a0_2).wf = true) (w1 : (Lit.int .u64 a1).wf = true) (w2 : (Lit.int .u64 a2).wf = true) :
    Calls Try.prog 10 #[.agg #[.int .u64 a0_0, .int .u64 a0_1, .int .u64 a0_2], .int .u64 a1, .int .u64 a2] w fun e w' => e = .returned (.bool true) ∧ Below w.heap.size w w' := by
  obtain ⟨k, h⟩ := P a0_0 a0_1 a0_2 a1 a2 w0_0 w0_1 w0_2 w1 w2
  refine (cadencylaw01_NumChains.calls k a0_0 a0_1 a0_2 a1 a2 true w  h).mono ?_
  rintro e w' ⟨rfl, hd⟩
  exact ⟨rfl, hd⟩

end Go.Proofs.Ythhojifpogghlaa.PChains
