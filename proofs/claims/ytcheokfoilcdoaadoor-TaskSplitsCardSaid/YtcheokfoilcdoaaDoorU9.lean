/- How often a task may come, and what sets that are fine say. -/
import Derived.Test.YtcheokfoilcdoaaDoorU8
set_option linter.all false
set_option maxRecDepth 2000
set_option maxHeartbeats 8000000
namespace Go.Proofs.Vl
open Go Go.RowKit
attribute [local irreducible] AWp OpTo Run DL Val UN DR AC Le thn inb nog
attribute [local irreducible] els nxO
theorem range_filter (n : Nat) (q : Nat → Bool) : ∀ N, n ≤ N → (List.range N).filter (fun j => decide (j < n) && q j) = (List.range n).filter q := by
  intro N
  induction N with
  | zero => intro h; obtain rfl : n = 0 := by omega
            rfl
  | succ N ih =>
    intro h
    by_cases h2 : n = N + 1
    · subst h2
      refine List.filter_congr fun j hj => ?_
      have := List.mem_range.1 hj
      simp [this]
    · rw [List.range_succ, List.filter_append, ih (by omega)]
      have : ¬ N < n := by omega
      simp [this]
def pick (l : List Tk) (p : Tk → Bool) (n : Nat) : List Nat := (List.range n).filter fun k => l[k]?.any p
theorem els_bits (l : List Tk) (p : Tk → Bool) (h : l.length ≤ 1024) : els (bitsN l p l.length) = pick l p l.length := by
  unfold els pick
  rw [← range_filter l.length _ 1024 h]
  refine List.filter_congr fun j hj => ?_
  have := List.mem_range.1 hj
  rw [bitsN_bit]; simp [this]
/-- One more, of a task told by its place. -/
def atK {α : Type} (l : List Tk) (h : α → Tk → α) (a : α) (k : Nat) : α := match l[k]? with
  | some t => h a t
  | none => a
theorem pick_fold {α : Type} (l : List Tk) (p : Tk → Bool) (h : α → Tk → α) (a : α) (n : Nat) (hn : n ≤ l.length) : (pick l p n).foldl (atK l h) a = (l.take n).foldl (fun a t => if p t then h a t else a) a := by
  induction n with
  | zero => simp [pick]
  | succ n ih =>
    have hj : n < l.length := by omega
    rw [List.take_succ_eq_append_getElem hj, List.foldl_append, ← ih (by omega)]
    unfold pick
    rw [List.range_succ, List.filter_append, List.foldl_append]
    have e : l[n]?.any p = p l[n] := by rw [List.getElem?_eq_getElem hj]; rfl
    cases hp : p l[n] with
    | true =>
      have : [n].filter (fun k => l[k]?.any p) = [n] := by simp [e, hp]
      rw [this]
      simp only [List.foldl_cons, List.foldl_nil, hp, if_true]
      unfold atK
      rw [List.getElem?_eq_getElem hj]
    | false =>
      have : [n].filter (fun k => l[k]?.any p) = [] := by simp [e, hp]
      rw [this]
      simp [hp]
theorem fold_bits {α : Type} (l : List Tk) (p : Tk → Bool) (h : α → Tk → α) (a : α) (hl : l.length ≤ 1024) : (els (bitsN l p l.length)).foldl (atK l h) a = l.foldl (fun a t => if p t then h a t else a) a := by
  rw [els_bits l p hl, pick_fold l p h a l.length (Nat.le_refl _), List.take_length]
theorem bits_at {l : List Tk} {p : Tk → Bool} (hl : l.length ≤ 1024) {i : Nat} (hi : i < (els (bitsN l p l.length)).length) : ∃ h : (els (bitsN l p l.length))[i] < l.length, p l[(els (bitsN l p l.length))[i]] = true := by
  have := List.getElem_mem hi
  generalize (els (bitsN l p l.length))[i] = k at *
  rw [els_bits l p hl] at this
  unfold pick at this
  obtain ⟨h1, h2⟩ := List.mem_filter.1 this
  have h3 := List.mem_range.1 h1
  refine ⟨h3, ?_⟩
  rw [List.getElem?_eq_getElem h3] at h2
  exact h2
