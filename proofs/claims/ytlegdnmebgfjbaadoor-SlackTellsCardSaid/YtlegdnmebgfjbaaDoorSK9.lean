/- The reference's Check answers as the program's. -/
import Derived.Test.YtlegdnmebgfjbaaDoorSK8
set_option linter.all false
set_option maxRecDepth 2000
set_option maxHeartbeats 8000000
namespace Go.Proofs.Vl
open Go Go.RowKit
attribute [local irreducible] AWp OpTo Run DL Val UN DR AC Le thn inb nog
theorem foldl_min4 (c t d q : Int) : decide (([t, d, q].foldl (fun a b => if b < a then b else a) c) > 0) = (decide (c > 0) && decide (t > 0) && decide (d > 0) && decide (q > 0)) := by
  rw [Bool.eq_iff_iff]
  simp only [List.foldl, decide_eq_true_eq, Bool.and_eq_true]
  split <;> split <;> split <;> omega
def ariP (n : Nat) (c t d j q p : Int) : Prop := n ≤ 32 ∧ 1 ≤ c ∧ c ≤ 2147483647 ∧ 1 ≤ t ∧ t ≤ 2147483647 ∧ 1 ≤ d ∧ d ≤ 2147483647 ∧ 1 ≤ q ∧ q ≤ 2147483647 ∧ 0 ≤ j ∧ j ≤ 2147483647 ∧ 1 ≤ p ∧ p ≤ 1048576
theorem rng_iff (nm : ByteArray) (c t d j q p : Int) : rngB nm c t d j q p = true ↔ wordB (bys nm) = true ∧ ariP nm.size c t d j q p := by
  unfold rngB
  rw [foldl_min4]
  unfold wiB ariP
  simp only [Bool.and_eq_true, decide_eq_true_eq]
  constructor
  · intro h; refine ⟨h.1.1.1.1.1.1.1.1.1, ?_⟩; omega
  · intro h; refine ⟨⟨⟨⟨⟨⟨⟨⟨⟨h.1, ?_⟩, ?_⟩, ?_⟩, ?_⟩, ?_⟩, ?_⟩, ?_⟩, ?_⟩, ?_⟩ <;> omega
theorem chk_no {nm : ByteArray} {c t d j q p : Int} (h : ¬ ariP nm.size c t d j q p) : chkI nm c t d j q p = 11 := by
  unfold chkI; rw [if_neg (fun x => h ((rng_iff ..).1 x).2)]
theorem chk_fit {nm : ByteArray} {c t d j q p : Int} (hw : wordB (bys nm) = true) (h : ariP nm.size c t d j q p) : chkI nm c t d j q p = if q ≤ c ∧ c + j ≤ d ∧ d ≤ t then 0 else 12 := by
  unfold chkI; rw [if_pos ((rng_iff ..).2 ⟨hw, h⟩)]
  unfold ariP at h
  have e : fitB c t d j q = decide (q ≤ c ∧ c + j ≤ d ∧ d ≤ t) := by
    unfold fitB; rw [wrap_id (by omega) (by omega), Bool.eq_iff_iff]; simp only [Bool.and_eq_true, decide_eq_true_eq]; omega
  rw [e]
  by_cases g : q ≤ c ∧ c + j ≤ d ∧ d ≤ t <;> simp [g]
theorem checkR_ac (G) (nm : ByteArray) (hs : nm.size ≤ maxLen) (c t d j q p : Int) : AC Tryd.prog G 40 [.pag (tk nm c t d j q p)] [] (fun r _ => r = vi (chkI nm c t d j q p)) := by
  refine AC.body' Tryd.func40 Tryd.ntmps40 rfl ?_
  intro cx hd hG
  refine nrmL (k := ?_)
  repeat refine w1 (k := ?_)
  have hm : nm.size ≤ 9223372036854775807 := hs
  obtain ⟨w, hw⟩ : ∃ w, w = wordB (bys nm) := ⟨_, rfl⟩
  refine callN (hc := by exact wordR_ac _ nm hs) (h := ?_)
  repeat refine w1 (k := ?_)
  rw [← hw]
  cases w
  · simp only [Bool.not_false]
    repeat refine w1 (k := ?_)
    refine ⟨[.c _], .cons (.tmp rfl) .nil, ?_⟩
    simp only [tupOf, TV.av, chkI, rngB, ← hw, Bool.false_and]
    rfl
  · simp only [Bool.not_true]
    repeat refine w1 (k := ?_)
    first | refine bothTN (h1 := fun h1 => ?_) (h0 := fun h1 => ?_) | refine bothFN (h1 := fun h1 => ?_) (h0 := fun h1 => ?_)
    all_goals repeat refine w1 (k := ?_)
    ·
      refine callN (hc := by exact inR_ac _ _ _ _) (h := ?_)
      repeat refine w1 (k := ?_)
      first | refine bothTN (h1 := fun h2 => ?_) (h0 := fun h2 => ?_) | refine bothFN (h1 := fun h2 => ?_) (h0 := fun h2 => ?_)
      all_goals repeat refine w1 (k := ?_)
      ·
        refine callN (hc := by exact inR_ac _ _ _ _) (h := ?_)
        repeat refine w1 (k := ?_)
        first | refine bothTN (h1 := fun h3 => ?_) (h0 := fun h3 => ?_) | refine bothFN (h1 := fun h3 => ?_) (h0 := fun h3 => ?_)
        all_goals repeat refine w1 (k := ?_)
        ·
          refine callN (hc := by exact inR_ac _ _ _ _) (h := ?_)
          repeat refine w1 (k := ?_)
          first | refine bothTN (h1 := fun h4 => ?_) (h0 := fun h4 => ?_) | refine bothFN (h1 := fun h4 => ?_) (h0 := fun h4 => ?_)
          all_goals repeat refine w1 (k := ?_)
          ·
            refine callN (hc := by exact inR_ac _ _ _ _) (h := ?_)
            repeat refine w1 (k := ?_)
            first | refine bothTN (h1 := fun h5 => ?_) (h0 := fun h5 => ?_) | refine bothFN (h1 := fun h5 => ?_) (h0 := fun h5 => ?_)
            all_goals repeat refine w1 (k := ?_)
            ·
              refine callN (hc := by exact inR_ac _ _ _ _) (h := ?_)
              repeat refine w1 (k := ?_)
              first | refine bothTN (h1 := fun h6 => ?_) (h0 := fun h6 => ?_) | refine bothFN (h1 := fun h6 => ?_) (h0 := fun h6 => ?_)
              all_goals repeat refine w1 (k := ?_)
              ·
                first | refine bothTN (h1 := fun h7 => ?_) (h0 := fun h7 => ?_) | refine bothFN (h1 := fun h7 => ?_) (h0 := fun h7 => ?_)
                all_goals repeat refine w1 (k := ?_)
                ·
                  refine condN (h1 := fun h8 => ?_) (h0 := fun h8 => ?_)
                  ·
                    repeat refine w1 (k := ?_)
                    refine ⟨[.c _], .cons (.tmp rfl) .nil, ?_⟩
                    rw [chk_no (by unfold ariP; omega)]
                    rfl
                  ·
                    repeat refine w1 (k := ?_)
                    have ha : ariP nm.size c t d j q p := by unfold ariP; omega
                    have hf := chk_fit hw.symm ha
                    iterate 3 (all_goals (try ((first | refine bothTN (h1 := fun h => ?_) (h0 := fun h => ?_) | refine bothFN (h1 := fun h => ?_) (h0 := fun h => ?_) | refine condN (h1 := fun h => ?_) (h0 := fun h => ?_)) <;> (repeat refine w1 (k := ?_)))))
                    all_goals refine ⟨[.c _], .cons (.tmp rfl) .nil, ?_⟩
                    all_goals rw [hf]
                    all_goals first | rw [if_pos (by omega)]; rfl | rw [if_neg (by omega)]; rfl
                ·
                  refine ⟨[.c _], .cons (.tmp rfl) .nil, ?_⟩
                  rw [chk_no (by unfold ariP; omega)]
                  rfl
              ·
                refine ⟨[.c _], .cons (.tmp rfl) .nil, ?_⟩
                rw [chk_no (by unfold ariP; omega)]
                rfl
            ·
              refine ⟨[.c _], .cons (.tmp rfl) .nil, ?_⟩
              rw [chk_no (by unfold ariP; omega)]
              rfl
          ·
            refine ⟨[.c _], .cons (.tmp rfl) .nil, ?_⟩
            rw [chk_no (by unfold ariP; omega)]
            rfl
        ·
          refine ⟨[.c _], .cons (.tmp rfl) .nil, ?_⟩
          rw [chk_no (by unfold ariP; omega)]
          rfl
      ·
        refine ⟨[.c _], .cons (.tmp rfl) .nil, ?_⟩
        rw [chk_no (by unfold ariP; omega)]
        rfl
    ·
      refine ⟨[.c _], .cons (.tmp rfl) .nil, ?_⟩
      rw [chk_no (by unfold ariP; omega)]
      rfl
end Go.Proofs.Vl
