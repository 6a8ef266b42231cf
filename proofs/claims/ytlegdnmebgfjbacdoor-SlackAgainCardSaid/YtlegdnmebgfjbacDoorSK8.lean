/- The reference's first token (package cadencyref03), and Word. -/
import Derived.Test.YtlegdnmebgfjbacDoorSK7
set_option linter.all false
set_option maxRecDepth 2000
set_option maxHeartbeats 8000000
namespace Go.Proofs.Vl
open Go Go.RowKit
attribute [local irreducible] AWp OpTo Run DL Val UN DR AC Le thn inb nog
def goesR (c : Int) : Bool := letR c || digB c || c == 46 || c == 45
abbrev tokP (kd at_ : Int) (tx : ByteArray) (n : Int) : List PV := [.s (.int .i64 kd), .s (.int .i64 at_), .s (.string tx), .s (.int .i64 n)]
theorem longN_at (p : Int → Bool) (l : List Int) (j : Nat) (h : j < l.length) : longN p (l.drop j) = if p l[j] then longN p (l.drop (j + 1)) + 1 else 0 := by
  rw [List.drop_eq_getElem_cons h]; rfl
theorem let_same : ∀ n : Fin 256, letB (n.val : Int) = letR (n.val : Int) := by decide +kernel
theorem goes_same : ∀ n : Fin 256, goesB (n.val : Int) = goesR (n.val : Int) := by decide +kernel
theorem letB_R {c : Int} (h : 0 ≤ c ∧ c < 256) : letB c = letR c := by
  have := let_same ⟨c.toNat, by omega⟩
  rwa [show ((c.toNat : Nat) : Int) = c by omega] at this
theorem goesB_R {c : Int} (h : 0 ≤ c ∧ c < 256) : goesB c = goesR c := by
  have := goes_same ⟨c.toNat, by omega⟩
  rwa [show ((c.toNat : Nat) : Int) = c by omega] at this
theorem longN_same : ∀ (l : List Int), (∀ c ∈ l, 0 ≤ c ∧ c < 256) → longN goesB l = longN goesR l
  | [], _ => rfl
  | c :: r, h => by
    unfold longN
    rw [goesB_R (h c List.mem_cons_self), longN_same r fun x hx => h x (List.mem_cons_of_mem _ hx)]
theorem wordB_at : ∀ (l : List Int) (h : 0 < l.length), wordB l = (letB l[0] && longN goesB l == l.length)
  | [], h => by simp at h
  | c :: r, h => rfl
end Go.Proofs.Vl
