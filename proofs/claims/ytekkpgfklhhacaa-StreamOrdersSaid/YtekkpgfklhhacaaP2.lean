/- Rows that are merged. -/
import Derived.Test.YtekkpgfklhhacaaP1
import Derived.Test.YtekkpgfklhhacaaE2
set_option linter.all false
namespace Go.Proofs.Vl
section
variable {α : Type}
/-- The row, of the first i, whose first thing goes ahead. -/
def bestF (lt : α → α → Bool) (left : List (List α)) : Nat → Option Nat
  | 0 => none
  | i + 1 => match left[i]? with
    | some (a :: _) => match bestF lt left i with
      | none => some i
      | some b => match left[b]? with
        | some (c :: _) => if lt a c then some i else some b
        | _ => some b
    | _ => bestF lt left i
theorem bestF_some {lt : α → α → Bool} {left : List (List α)} : ∀ {i b : Nat}, bestF lt left i = some b → b < i ∧ ∃ a r, left[b]? = some (a :: r)
  | 0, b, h => by cases h
  | i + 1, b, h => by
    rw [bestF] at h
    split at h
    · rename_i a r ha
      split at h
      · cases h; exact ⟨by omega, a, r, ha⟩
      · rename_i c hc
        have ih := bestF_some hc
        split at h
        · split at h
          · cases h; exact ⟨by omega, a, r, ha⟩
          · cases h; exact ⟨by omega, ih.2⟩
        · cases h; exact ⟨by omega, ih.2⟩
    · have ih := bestF_some h
      exact ⟨by omega, ih.2⟩
theorem bestF_none {lt : α → α → Bool} {left : List (List α)} : ∀ {i : Nat}, bestF lt left i = none → ∀ j, j < i → ∀ r, left[j]? = some r → r = []
  | 0, _, j, hj, _, _ => by omega
  | i + 1, h, j, hj, r, hr => by
    rw [bestF] at h
    split at h
    · split at h
      · cases h
      · split at h
        · split at h <;> cases h
        · cases h
    · rename_i hne
      by_cases e : j = i
      · subst e
        cases r with
        | nil => rfl
        | cons a r => exact (hne a r hr).elim
      · exact bestF_none h j (by omega) r hr
def stepM (lt : α → α → Bool) (left : List (List α)) : Option (α × List (List α)) := match bestF lt left left.length with
  | none => none
  | some b => match left[b]? with
    | some (a :: r) => some (a, left.set b r)
    | _ => none
def mrgF (lt : α → α → Bool) : Nat → List (List α) → List α
  | 0, _ => []
  | n + 1, left => match stepM lt left with
    | none => []
    | some (x, l) => x :: mrgF lt n l
def sumL (left : List (List α)) : Nat := (left.map List.length).sum
def mrgL (lt : α → α → Bool) (rows : List (List α)) : List α := mrgF lt (sumL rows) rows
theorem sumL_set {r : List α} {a : α} : ∀ {left : List (List α)} {b : Nat}, left[b]? = some (a :: r) → sumL (left.set b r) + 1 = sumL left
  | [], b, h => by simp at h
  | l :: left, 0, h => by
    simp only [List.getElem?_cons_zero, Option.some.injEq] at h
    subst h
    simp [sumL]; omega
  | l :: left, b + 1, h => by
    have := sumL_set (left := left) (b := b) (by simpa using h)
    simp only [sumL, List.set_cons_succ, List.map_cons, List.sum_cons] at this ⊢
    omega
theorem step_none {lt : α → α → Bool} {left : List (List α)} (h : stepM lt left = none) (n : Nat) : mrgF lt n left = [] := by
  cases n with
  | zero => rfl
  | succ n => rw [mrgF, h]
theorem step_of {lt : α → α → Bool} {left : List (List α)} {b : Nat} {a : α} {r : List α} (h : bestF lt left left.length = some b) (hb : left[b]? = some (a :: r)) : stepM lt left = some (a, left.set b r) := by
  unfold stepM; rw [h]; dsimp only; rw [hb]
theorem step_no {lt : α → α → Bool} {left : List (List α)} (h : bestF lt left left.length = none) : stepM lt left = none := by
  unfold stepM; rw [h]
theorem mrg_cons {lt : α → α → Bool} {left : List (List α)} {b : Nat} {a : α} {r : List α} (h : bestF lt left left.length = some b) (hb : left[b]? = some (a :: r)) : mrgF lt (sumL left) left = a :: mrgF lt (sumL (left.set b r)) (left.set b r) := by
  rw [← sumL_set hb, mrgF, step_of h hb]
end
end Go.Proofs.Vl
