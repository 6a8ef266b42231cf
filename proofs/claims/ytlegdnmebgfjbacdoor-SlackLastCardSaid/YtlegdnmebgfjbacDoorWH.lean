/- Chapter 22: SlackLast. -/
import Derived.Test.YtlegdnmebgfjbacDoorWD
set_option linter.all false
set_option maxRecDepth 2000
set_option maxHeartbeats 8000000
namespace Go.Proofs.Vl
open Go Go.RowKit
attribute [local irreducible] AWp OpTo Run DL Val UN DR AC Le thn inb nog
theorem slast_ac (sp : List Sp) (x : Int) (hl : sp.length ≤ maxLen) : AC Tryd.prog GL 3 [fro spP sp, vi x] [] (fun r _ => r = vb true) := by
  refine AC.body' Tryd.func3 Tryd.ntmps3 rfl ?_
  intro cx hd hG
  refine nrmL (k := ?_)
  repeat refine w1 (k := ?_)
  obtain ⟨w0, fz0, β0, df, G0⟩ := cx
  obtain rfl : G0 = GL := hG
  refine callN (hc := by exact awake22_ac) (h := ?_)
  repeat refine w1 (k := ?_)
  refine OpTo.callO (by rfl) (by rfl) (by rfl) (by rfl) (set_ac _ sp 4 x hl (by decide) (by decide)) ?_
  rintro r os' ⟨rfl, hf⟩
  refine ⟨_, .row rfl hf (tkP_ok _ _) (by decide) rfl, ?_⟩
  have s1 := set_b sp 4 x hl (by decide)
  have hSn := set_nm2 sp 4 x
  have s5 := set_is sp 4 x hl ⟨by decide, by decide⟩
  generalize setL sp 4 x = S at s1 hSn s5 ⊢
  have hSm : S.length ≤ maxLen := by rw [maxLen]; omega
  refine nrm (k := ?_)
  repeat refine w1 (k := ?_)
  first | refine zA 19 (h := ?_) | refine zO 19 (h := ?_) | refine zL 19 (h := ?_) | refine zL3 19 (h := ?_)
  refine nrm (k := ?_)
  repeat refine w1 (k := ?_)
  have g := emod_b x (S.length : Int) (by omega)
  obtain ⟨k, ek⟩ := Int.eq_ofNat_of_zero_le g.1
  have hkS : k < S.length := by omega
  have hb := s5 k hkS
  refine callN (hc := by exact rest22_ac _ x (S.length : Int) (by omega) (by omega)) (h := ?_)
  repeat refine w1 (k := ?_)
  rw [ek]
  repeat refine w1 (k := ?_)
  have hmy : mayE S (k : Int) = if testsB S then 0 else 16 := by unfold mayE; rw [if_pos hb]
  have hw0 := work_ac S (k : Int) hSn hSm
  have hw1 := section_ac S (k : Int) hSn hSm
  have hw2 := late_ac S (k : Int) hSn hSm
  have hw3 := period_ac S (k : Int) hSn hSm
  cases hT : testsB S with
  | false =>
    rw [hT, if_neg (by simp)] at hmy
    have h16 : mayE S (k : Int) ≠ 0 := by rw [hmy]; decide
    have hz : ∀ lo hi g, msN S (k : Int) lo hi g = 0 := fun lo hi g => by unfold msN; rw [if_neg h16]
    have hz2 : ∀ hi, prN S (k : Int) hi = 0 := fun hi => by unfold prN; rw [if_neg h16]
    rw [hmy, hz] at hw0 hw1 hw2
    rw [hmy, hz2] at hw3
    refine callN (hc := by exact hw0) (h := ?_)
    repeat refine w1 (k := ?_)
    refine callN (hc := by exact hw1) (h := ?_)
    repeat refine w1 (k := ?_)
    refine callN (hc := by exact hw2) (h := ?_)
    repeat refine w1 (k := ?_)
    refine callN (hc := by exact hw3) (h := ?_)
    repeat refine w1 (k := ?_)
    repeat refine w1 (k := ?_)
    exact ⟨[.c _], .cons (.tmp rfl) .nil, rfl⟩
  | true =>
    rw [hT, if_pos rfl] at hmy
    have m0 := mo_spec hkS hmy 0 ⟨by decide, by decide⟩
    have m1 := mo_spec hkS hmy 1 ⟨by decide, by decide⟩
    have m2 := mo_spec hkS hmy 2 ⟨by decide, by decide⟩
    have m3 := mo_spec hkS hmy 3 ⟨by decide, by decide⟩
    rw [show moN S (k : Int) 0 = msN S (k : Int) (atT S (k : Int)).c (atT S (k : Int)).d sC from rfl] at m0
    rw [show moN S (k : Int) 1 = msN S (k : Int) (atT S (k : Int)).q (atT S (k : Int)).c sQ from rfl] at m1
    rw [show moN S (k : Int) 2 = msN S (k : Int) (atT S (k : Int)).j (atT S (k : Int)).d sJ from rfl] at m2
    rw [show moN S (k : Int) 3 = prN S (k : Int) (atT S (k : Int)).t from rfl] at m3
    rw [hmy] at hw0 hw1 hw2 hw3
    generalize msN S (k : Int) (atT S (k : Int)).c (atT S (k : Int)).d sC = c at *
    generalize msN S (k : Int) (atT S (k : Int)).q (atT S (k : Int)).c sQ = q at *
    generalize msN S (k : Int) (atT S (k : Int)).j (atT S (k : Int)).d sJ = j at *
    generalize prN S (k : Int) (atT S (k : Int)).t = t at *
    obtain ⟨hc, ht, hd, hj, hq, hp⟩ := (is_spec hb).2.1 _ (List.getElem_mem hkS)
    obtain ⟨f1, f2, f3⟩ := is_fits hb _ (List.getElem_mem hkS)
    have u0 : c + S[k].j ≤ S[k].d := (up_fits hkS m0.1).2.1
    have u1 : q ≤ S[k].c := (up_fits hkS m1.1).2.2.2
    have u2 : S[k].c + j ≤ S[k].d := (up_fits hkS m2.1).2.1
    have u3 : S[k].d ≤ t := (up_fits hkS m3.1).2.2.1
    have l0 : 0 ≤ (c - S[k].c) * 1 := m0.2.2.1
    have l1 : 0 ≤ (q - S[k].q) * 1 := m1.2.2.1
    have l2 : 0 ≤ (j - S[k].j) * 1 := m2.2.2.1
    have l3 : 0 ≤ (t - S[k].t) * (-1) := m3.2.2.1
    have d0 : decide (c ≥ S[k].c) = true := decide_eq_true (by omega)
    have d1 : decide (c ≤ S[k].d - S[k].j) = true := decide_eq_true (by omega)
    have d2 : decide (q ≥ S[k].q) = true := decide_eq_true (by omega)
    have d3 : decide (q ≤ S[k].c) = true := decide_eq_true (by omega)
    have d4 : decide (j ≥ S[k].j) = true := decide_eq_true (by omega)
    have d5 : decide (j ≤ S[k].d - S[k].c) = true := decide_eq_true (by omega)
    have d6 : decide (t ≤ S[k].t) = true := decide_eq_true (by omega)
    have d7 : decide (t ≥ S[k].d) = true := decide_eq_true (by omega)
    have z0 : ((0 : Int) == 0) = true := rfl
    refine callN (hc := by exact hw0) (h := ?_)
    repeat refine w1 (k := ?_)
    refine callN (hc := by exact hw1) (h := ?_)
    repeat refine w1 (k := ?_)
    refine callN (hc := by exact hw2) (h := ?_)
    repeat refine w1 (k := ?_)
    refine callN (hc := by exact hw3) (h := ?_)
    repeat refine w1 (k := ?_)
    repeat refine w1 (k := ?_)
    simp only [z0, d0, cond_true]
    repeat refine w1 (k := ?_)
    simp only [z0, d1, cond_true]
    repeat refine w1 (k := ?_)
    simp only [z0, d2, cond_true]
    repeat refine w1 (k := ?_)
    simp only [z0, d3, cond_true]
    repeat refine w1 (k := ?_)
    simp only [z0, d4, cond_true]
    repeat refine w1 (k := ?_)
    simp only [z0, d5, cond_true]
    repeat refine w1 (k := ?_)
    simp only [z0, d6, cond_true]
    repeat refine w1 (k := ?_)
    simp only [z0, d7, cond_true]
    repeat refine w1 (k := ?_)
    try simp only [z0, d0, d1, d2, d3, d4, d5, d6, d7, cond_true]
    exact ⟨[.c _], .cons (.tmp rfl) .nil, rfl⟩
