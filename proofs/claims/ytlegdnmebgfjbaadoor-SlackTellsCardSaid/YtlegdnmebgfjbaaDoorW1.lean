/- Chapters 14 and 22: the bound, and how much more there could be, as plain Lean. -/
import Derived.Test.YtlegdnmebgfjbaaDoorSD11
set_option linter.all false
set_option maxRecDepth 2000
set_option maxHeartbeats 8000000
namespace Go.Proofs.Vl
open Go Go.RowKit
attribute [local irreducible] AWp OpTo Run DL Val UN DR AC Le thn inb nog
theorem satN_mono {a b : Nat} (h : a ≤ b) : satN a ≤ satN b := by unfold satN; omega
theorem ceilN_mono14 {a a' : Nat} (b : Nat) (h : a ≤ a') : ceilN a b ≤ ceilN a' b := by
  unfold ceilN
  rcases Nat.eq_zero_or_pos b with rfl | hb
  · simp; split <;> split <;> omega
  have h1 := Nat.div_add_mod a b
  have h2 := Nat.div_add_mod a' b
  have h3 := Nat.div_le_div_right (c := b) h
  rcases Nat.lt_or_ge (a / b) (a' / b) with h4 | h4
  · split <;> split <;> omega
  · have h5 : a / b = a' / b := by omega
    rw [h5] at h1
    split <;> split <;> omega
theorem oftN_mono (t : Tk) {w w' : Nat} (h : w ≤ w') : oftN t w ≤ oftN t w' := ceilN_mono14 _ (satN_mono (by omega))
theorem stepH_mono (t : Tk) {w w' a a' : Nat} (h : w ≤ w') (h' : a ≤ a') : stepH w a t ≤ stepH w' a' t :=
  satN_mono (Nat.add_le_add h' (satN_mono (Nat.mul_le_mul_right _ (oftN_mono t h))))
theorem hghF_mono (p : Int) {w w' : Nat} (h : w ≤ w') : ∀ (l : List Tk) (a a' : Nat), a ≤ a' →
    l.foldl (fun a t => if decide (t.p < p) then stepH w a t else a) a ≤ l.foldl (fun a t => if decide (t.p < p) then stepH w' a t else a) a'
  | [], _, _, ha => ha
  | t :: l, a, a', ha => by
    rw [List.foldl_cons, List.foldl_cons]
    refine hghF_mono p h l _ _ ?_
    split
    · exact stepH_mono t h ha
    · exact ha
theorem hghA_mono (l : List Tk) (i : Int) {w w' : Nat} (h : w ≤ w') : hghA l i w ≤ hghA l i w' := by
  unfold hghA
  by_cases h0 : w = 0
  · rw [if_pos h0]; exact Nat.zero_le _
  · rw [if_neg h0, if_neg (show ¬ w' = 0 by omega)]
    split
    · exact hghF_mono _ h l 0 0 (Nat.le_refl _)
    · exact Nat.le_refl _
theorem needA_mono (l : List Tk) (i : Int) (w w' : Nat) (h : w ≤ w') : needA l i w ≤ needA l i w' := by
  unfold needA
  split
  · exact satN_mono (Nat.add_le_add_left (hghA_mono l i h) _)
  · exact Nat.le_refl _
theorem needA_lt (l : List Tk) (i : Int) (w : Nat) : needA l i w < 18446744073709551616 := by
  unfold needA
  split
  · exact satN_lt _
  · decide
/-- How it is reckoned. -/
def chF (N : Nat → Nat) (most : Nat) : Nat → Nat → List Nat
  | 0, w => [w]
  | f + 1, w => w :: (if w ≤ most ∧ N w ≠ w then chF N most f (N w) else [])
theorem chF_zero (N : Nat → Nat) (most : Nat) : ∀ f w, (chF N most f w)[0]? = some w
  | 0, _ => rfl
  | _ + 1, _ => rfl
theorem chF_spec {N : Nat → Nat} {most : Nat} (hm : ∀ a b, a ≤ b → N a ≤ N b) : ∀ f w, w ≤ N w → most < w + f → ∀ j x, (chF N most f w)[j]? = some x →
    x ≤ N x ∧ (if x ≤ most ∧ N x ≠ x then (chF N most f w)[j + 1]? = some (N x) else j + 1 = (chF N most f w).length)
  | 0, w, h1, h2, j, x, hj => by
    cases j with
    | zero => cases hj; exact ⟨h1, by rw [if_neg (by omega)]; rfl⟩
    | succ j => cases hj
  | f + 1, w, h1, h2, j, x, hj => by
    unfold chF at hj ⊢
    by_cases c : w ≤ most ∧ N w ≠ w
    · rw [if_pos c] at hj ⊢
      cases j with
      | zero =>
        cases hj
        refine ⟨h1, ?_⟩
        rw [if_pos c, List.getElem?_cons_succ]
        exact chF_zero N most f (N w)
      | succ j =>
        rw [List.getElem?_cons_succ] at hj
        have := chF_spec hm f (N w) (hm _ _ h1) (by omega) j x hj
        refine ⟨this.1, ?_⟩
        have h3 := this.2
        split
        · rename_i h; rw [if_pos h] at h3; rw [List.getElem?_cons_succ]; exact h3
        · rename_i h; rw [if_neg h] at h3; rw [List.length_cons, h3]
    · rw [if_neg c] at hj ⊢
      cases j with
      | zero => cases hj; exact ⟨h1, by rw [if_neg c]; rfl⟩
      | succ j => cases hj
theorem chF_le {N : Nat → Nat} {most b : Nat} (hm : ∀ a b, a ≤ b → N a ≤ N b) (hb : N b ≤ b) : ∀ f w, w ≤ b → ∀ x ∈ chF N most f w, x ≤ b
  | 0, w, h, x, hx => by
    unfold chF at hx
    rw [List.mem_singleton] at hx; omega
  | f + 1, w, h, x, hx => by
    unfold chF at hx
    rcases List.mem_cons.1 hx with rfl | hx
    · exact h
    · split at hx
      · exact chF_le hm hb f (N w) (Nat.le_trans (hm _ _ h) hb) x hx
      · cases hx
def lastN (l : List Nat) : Nat := l.getLastD 0
theorem lastN_at {l : List Nat} (h : 0 < l.length) : l[l.length - 1]? = some (lastN l) := by
  unfold lastN
  rw [← List.getLast?_eq_getElem?, List.getLastD_eq_getLast?]
  cases h2 : l.getLast? with
  | none => rw [List.getLast?_eq_none_iff] at h2; subst h2; cases h
  | some x => rfl
theorem end_iff {N : Nat → Nat} {most : Nat} (hm : ∀ a b, a ≤ b → N a ≤ N b) : lastN (chF N most (most + 1) (N 0)) ≤ most ↔ ∃ w, w ≤ most ∧ N w ≤ w := by
  have h0 : 0 < (chF N most (most + 1) (N 0)).length := by
    have := chF_zero N most (most + 1) (N 0)
    exact (List.getElem?_eq_some_iff.1 this).1
  have hl := lastN_at h0
  constructor
  · intro h
    have h2 := (chF_spec hm (most + 1) (N 0) (hm _ _ (Nat.zero_le _)) (by omega) _ _ hl).2
    split at h2
    · have := (List.getElem?_eq_some_iff.1 h2).1; omega
    · rename_i h3
      exact ⟨_, h, by have : N (lastN (chF N most (most + 1) (N 0))) = lastN (chF N most (most + 1) (N 0)) := Classical.byContradiction fun h4 => h3 ⟨h, h4⟩
                      omega⟩
  · rintro ⟨w, h1, h2⟩
    exact Nat.le_trans (chF_le hm h2 _ _ (Nat.le_trans (hm 0 w (Nat.zero_le _)) h2) _ (List.mem_of_getElem? hl)) h1
def djA (l : List Tk) (i : Int) : Nat := match l[i.toNat]? with
  | some t => (t.d - t.j).toNat
  | none => 0
def jA (l : List Tk) (i : Int) : Int := match l[i.toNat]? with
  | some t => t.j
  | none => 0
def eL (l : List Tk) (i : Int) : List Nat := if isB l i then chF (needA l i) (djA l i) (djA l i + 1) (needA l i 0) else []
def fitA (l : List Tk) (i : Int) : Bool := decide (lastN (eL l i) ≤ djA l i)
def bdR (l : List Tk) (i : Int) : Int := if isB l i && fitA l i then (lastN (eL l i) : Int) + jA l i else 0
def bdE (l : List Tk) (i : Int) : Int := if isB l i then if fitA l i then 0 else 16 else 1
def testsB (l : List Tk) : Bool := decide ((allI l).2 = 0) && (List.range l.length).all fun (i : Nat) => fitA l (i : Int)
theorem fitA_iff {l : List Tk} {i : Int} (h : isB l i = true) : fitA l i = true ↔ ∃ w, w ≤ djA l i ∧ needA l i w ≤ w := by
  unfold fitA eL
  rw [if_pos h, decide_eq_true_eq]
  exact end_iff (needA_mono l i)
/-- The least number that is so, between two. -/
def lsF (so : Int → Bool) : Nat → Int → Int → Int
  | 0, _, h => h
  | f + 1, lo, h => if lo = h then h else if so (lo + (h - lo) / 2) then lsF so f lo (lo + (h - lo) / 2) else lsF so f (lo + (h - lo) / 2 + 1) h
theorem lsF_spec (so : Int → Bool) (l0 : Int) : ∀ (f : Nat) (lo h : Int), lo ≤ h → h - lo < 2 ^ f → so h = true → (lo = l0 ∨ so (lo - 1) = false) → l0 ≤ lo →
    l0 ≤ lsF so f lo h ∧ lsF so f lo h ≤ h ∧ so (lsF so f lo h) = true ∧ (lsF so f lo h = l0 ∨ so (lsF so f lo h - 1) = false)
  | 0, lo, h, h1, h2, h3, h4, h5 => by
    obtain rfl : lo = h := by simp at h2; omega
    exact ⟨h5, Int.le_refl _, h3, h4⟩
  | f + 1, lo, h, h1, h2, h3, h4, h5 => by
    unfold lsF
    split
    · rename_i e; subst e; exact ⟨h5, Int.le_refl _, h3, h4⟩
    · have hp : (2 : Int) ^ (f + 1) = 2 * 2 ^ f := by rw [Int.pow_succ]; omega
      rw [hp] at h2
      split
      · rename_i hs
        have := lsF_spec so l0 f lo (lo + (h - lo) / 2) (by omega) (by omega) hs h4 h5
        exact ⟨this.1, by omega, this.2.2⟩
      · rename_i hs
        exact lsF_spec so l0 f (lo + (h - lo) / 2 + 1) h (by omega) (by omega) h3 (.inr (by rw [Int.add_sub_cancel]; simpa using hs)) (by omega)
def leN (so : Int → Bool) (lo hi : Int) : Int := if lo ≤ hi ∧ so hi = true then lsF so 64 lo hi else 0
def leB (so : Int → Bool) (lo hi : Int) : Bool := decide (lo ≤ hi) && so hi
/-- A task changed. -/
def upT (l : List Tk) (i : Nat) (g : Tk → Tk) : List Tk := match l[i]? with
  | some t => l.set i (g t)
  | none => l
theorem upT_at {l : List Tk} {i : Nat} (h : i < l.length) (g : Tk → Tk) : upT l i g = l.set i (g l[i]) := by
  unfold upT; rw [List.getElem?_eq_getElem h]
def sC (n : Int) (t : Tk) : Tk := { t with c := n }
def sQ (n : Int) (t : Tk) : Tk := { t with q := n }
def sJ (n : Int) (t : Tk) : Tk := { t with j := n }
def sT (n : Int) (t : Tk) : Tk := { t with t := n }
def mayE (l : List Tk) (i : Int) : Int := if isB l i then if testsB l then 0 else 16 else 1
/-- What is told by halves. -/
def msO (l : List Tk) (i : Nat) (g : Int → Tk → Tk) (n : Int) : Bool := !testsB (upT l i (g n))
def msN (l : List Tk) (i : Int) (lo hi : Int) (g : Int → Tk → Tk) : Int :=
  if mayE l i = 0 then if leB (msO l i.toNat g) lo hi then leN (msO l i.toNat g) lo hi - 1 else hi else 0
def prN (l : List Tk) (i : Int) (hi : Int) : Int := if mayE l i = 0 then leN (fun n => testsB (upT l i.toNat (sT n))) 1 hi else 0
