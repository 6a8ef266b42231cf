/- The reference's Check answers as the program's. -/
import Derived.Test.YtlegdnmebgfjbacDoorSK8
set_option linter.all false
set_option maxRecDepth 2000
set_option maxHeartbeats 8000000
namespace Go.Proofs.Vl
open Go Go.RowKit
attribute [local irreducible] AWp OpTo Run DL Val UN DR AC Le thn inb nog
theorem foldl_min4 (c t d q : Int) : decide (([t, d, q].foldl (fun a b => if b < a then b else a) c) > 0) = (decide (c > 0) && decide (t > 0) && decide (d > 0) && decide (q > 0)) := by
  rw [Bool.eq_iff_iff]
  simp only [List.foldl, decide_eq_true_eq, Bool.and_eq_true]
  split <;> split <;> split <;> omega
def ariP (n : Nat) (c t d j q p : Int) : Prop := n ≤ 32 ∧ 1 ≤ c ∧ c ≤ 2147483647 ∧ 1 ≤ t ∧ t ≤ 2147483647 ∧ 1 ≤ d ∧ d ≤ 2147483647 ∧ 1 ≤ q ∧ q ≤ 2147483647 ∧ 0 ≤ j ∧ j ≤ 2147483647 ∧ 1 ≤ p ∧ p ≤ 1048576
theorem rng_iff (nm : ByteArray) (c t d j q p : Int) : rngB nm c t d j q p = true ↔ wordB (bys nm) = true ∧ ariP nm.size c t d j q p := by
  unfold rngB
  rw [foldl_min4]
  unfold wiB ariP
  simp only [Bool.and_eq_true, decide_eq_true_eq]
  constructor
  · intro h; refine ⟨h.1.1.1.1.1.1.1.1.1, ?_⟩; omega
  · intro h; refine ⟨⟨⟨⟨⟨⟨⟨⟨⟨h.1, ?_⟩, ?_⟩, ?_⟩, ?_⟩, ?_⟩, ?_⟩, ?_⟩, ?_⟩, ?_⟩ <;> omega
theorem chk_no {nm : ByteArray} {c t d j q p : Int} (h : ¬ ariP nm.size c t d j q p) : chkI nm c t d j q p = 11 := by
  unfold chkI; rw [if_neg (fun x => h ((rng_iff ..).1 x).2)]
theorem chk_fit {nm : ByteArray} {c t d j q p : Int} (hw : wordB (bys nm) = true) (h : ariP nm.size c t d j q p) : chkI nm c t d j q p = if q ≤ c ∧ c + j ≤ d ∧ d ≤ t then 0 else 12 := by
  unfold chkI; rw [if_pos ((rng_iff ..).2 ⟨hw, h⟩)]
  unfold ariP at h
  have e : fitB c t d j q = decide (q ≤ c ∧ c + j ≤ d ∧ d ≤ t) := by
    unfold fitB; rw [wrap_id (by omega) (by omega), Bool.eq_iff_iff]; simp only [Bool.and_eq_true, decide_eq_true_eq]; omega
  rw [e]
  by_cases g : q ≤ c ∧ c + j ≤ d ∧ d ≤ t <;> simp [g]
end Go.Proofs.Vl
