/- Sorting by insertion, as a function on rows. -/
import Derived.Test.YtkgajiddcljdjaaVC
set_option linter.all false
namespace Go.Proofs.Vl
open Go Go.RowKit
/-- One more, put into a row that is told from its end on. -/
def insR (c : Int → Int → Int) (x : Int) : List Int → List Int
  | [] => [x]
  | b :: r => if c x b < 0 then b :: insR c x r else x :: b :: r
def sortR (c : Int → Int → Int) (l : List Int) : List Int := l.foldl (fun r x => insR c x r) []
def sortL (c : Int → Int → Int) (l : List Int) : List Int := (sortR c l).reverse
theorem insR_perm (c : Int → Int → Int) (x : Int) : ∀ r, (insR c x r).Perm (x :: r)
  | [] => .refl _
  | b :: r => by
    unfold insR
    split
    · exact ((insR_perm c x r).cons b).trans (.swap x b r)
    · exact .refl _
theorem sortR_snoc (c : Int → Int → Int) (l : List Int) (x : Int) : sortR c (l ++ [x]) = insR c x (sortR c l) := by unfold sortR; rw [List.foldl_append]; rfl
theorem sortR_perm (c : Int → Int → Int) (l : List Int) : (sortR c l).Perm l := by
  suffices ∀ (l r : List Int), (l.foldl (fun r x => insR c x r) r).Perm (r ++ l) from this l []
  intro l
  induction l with
  | nil => intro r; simp
  | cons x l ih =>
    intro r
    rw [List.foldl_cons]
    refine (ih _).trans (((insR_perm c x r).append_right l).trans ?_)
    rw [List.cons_append]
    exact List.perm_middle.symm
theorem sortL_perm (c : Int → Int → Int) (l : List Int) : (sortL c l).Perm l := (List.reverse_perm _).trans (sortR_perm c l)
theorem sortL_len (c : Int → Int → Int) (l : List Int) : (sortL c l).length = l.length := (sortL_perm c l).length_eq
theorem sortR_len (c : Int → Int → Int) (l : List Int) : (sortR c l).length = l.length := (sortR_perm c l).length_eq
/-- Two neighbours changed. -/
theorem swap_at (A C : List Int) (b x : Int) : (((A ++ b :: x :: C).set (A.length + 1) b).set A.length x) = A ++ x :: b :: C := by
  rw [List.set_append_right _ _ (by omega), Nat.add_sub_cancel_left]
  show (A ++ b :: b :: C).set A.length x = _
  rw [List.set_append_right _ _ (Nat.le_refl _), Nat.sub_self]; rfl
theorem at_0 (A C : List Int) (b x : Int) : (A ++ b :: x :: C)[A.length]? = some b := by simp
theorem at_1 (A C : List Int) (b x : Int) : (A ++ b :: x :: C)[A.length + 1]? = some x := by
  rw [List.getElem?_append_right (by omega), Nat.add_sub_cancel_left]; rfl
end Go.Proofs.Vl
