/- Chapter 22: SlackAgain. -/
import Derived.Test.YtlegdnmebgfjbacDoorWF
set_option linter.all false
set_option maxRecDepth 2000
set_option maxHeartbeats 8000000
namespace Go.Proofs.Vl
open Go Go.RowKit
attribute [local irreducible] AWp OpTo Run DL Val UN DR AC Le thn inb nog
/-- Where a number is what is told, nothing more is told of it. -/
theorem again {l : List Tk} {k : Nat} (hk : k < l.length) (hm : mayE l (k : Int) = 0) (which : Int) (hw : 0 ≤ which ∧ which < 4) (hml : mayE (upT l k (gW which (moN l (k : Int) which))) (k : Int) = 0) :
    moN (upT l k (gW which (moN l (k : Int) which))) (k : Int) which = moN l (k : Int) which := by
  obtain ⟨hb, ht⟩ := may_iff.1 hm
  obtain ⟨a1, a2, a3, a4, a5⟩ := mo_spec hk hm which hw
  have hbt := fun n m (h1 : testsB (upT l k (gW which n)) = true) => betw hk hb which hw n m h1
  generalize moN l (k : Int) which = n at *
  have hk2 : k < (upT l k (gW which n)).length := by rw [upT_len]; exact hk
  have hat : (upT l k (gW which n))[k] = gW which n l[k] := by simp only [upT_at hk, List.getElem_set_self]
  have hup : ∀ m, upT (upT l k (gW which n)) k (gW which m) = upT l k (gW which m) := fun m => by
    rw [upT_at hk2, hat]
    simp only [upT_at hk, List.set_set]
    have : gW which m (gW which n l[k]) = gW which m l[k] := by unfold gW; split <;> (try split) <;> (try split) <;> rfl
    rw [this]
  obtain ⟨b1, b2, b3, b4, b5⟩ := mo_spec hk2 hml which hw
  rw [hat] at b3
  have hf : fldT which (gW which n l[k]) = n := by
    obtain rfl | rfl | rfl | rfl : which = 0 ∨ which = 1 ∨ which = 2 ∨ which = 3 := by omega
    all_goals rfl
  rw [hf] at b3
  generalize moN (upT l k (gW which n)) (k : Int) which = v at *
  rw [hup] at b1 b2
  by_cases h3 : which = 3
  · rw [show stpW which = -1 by unfold stpW; rw [if_pos h3]] at *
    by_cases hne : v = n
    · exact hne
    · have := hbt v (n + -1) b1 (by rw [if_pos h3]; omega)
      rw [this] at a2; cases a2
  · rw [show stpW which = 1 by unfold stpW; rw [if_neg h3]] at *
    by_cases hne : v = n
    · exact hne
    · have := hbt v (n + 1) b1 (by rw [if_neg h3]; omega)
      rw [this] at a2; cases a2
theorem sagain_ac (sp : List Sp) (x y : Int) (hl : sp.length ≤ maxLen) : AC Tryd.prog GL 4 [fro spP sp, .pag (intsP [x, y])] [] (fun r _ => r = vb true) := by
  refine AC.body' Tryd.func4 Tryd.ntmps4 rfl ?_
  intro cx hd hG
  refine nrmL (k := ?_)
  repeat refine w1 (k := ?_)
  obtain ⟨w0, fz0, β0, df, G0⟩ := cx
  obtain rfl : G0 = GL := hG
  refine callN (hc := by exact awake22_ac) (h := ?_)
  repeat refine w1 (k := ?_)
  refine OpTo.callO (by rfl) (by rfl) (by rfl) (by rfl) (set_ac _ sp 4 x hl (by decide) (by decide)) ?_
  rintro r os' ⟨rfl, hf⟩
  refine ⟨_, .row rfl hf (tkP_ok _ _) (by decide) rfl, ?_⟩
  have s1 := set_b sp 4 x hl (by decide)
  have hSn := set_nm2 sp 4 x
  have s5 := set_is sp 4 x hl ⟨by decide, by decide⟩
  generalize setL sp 4 x = S at s1 hSn s5 ⊢
  have hSm : S.length ≤ maxLen := by rw [maxLen]; omega
  refine nrm (k := ?_)
  repeat refine w1 (k := ?_)
  first | refine zA 17 (h := ?_) | refine zO 17 (h := ?_) | refine zL 17 (h := ?_) | refine zL3 17 (h := ?_)
  refine nrm (k := ?_)
  repeat refine w1 (k := ?_)
  have g := emod_b x (S.length : Int) (by omega)
  obtain ⟨k, ek⟩ := Int.eq_ofNat_of_zero_le g.1
  have hkS : k < S.length := by omega
  have gy := emod_b y 4 (by decide)
  have hb := s5 k hkS
  refine callN (hc := by exact rest22_ac _ x (S.length : Int) (by omega) (by omega)) (h := ?_)
  repeat refine w1 (k := ?_)
  rw [ek]
  repeat refine w1 (k := ?_)
  refine callN (hc := by exact rest22_ac _ y 4 (by decide) (by decide)) (h := ?_)
  repeat refine w1 (k := ?_)
  repeat refine w1 (k := ?_)
  have hmy : mayE S (k : Int) = if testsB S then 0 else 16 := by unfold mayE; rw [if_pos hb]
  refine callN (hc := by exact more_ac S (k : Int) (y % 4) hSn hSm) (h := ?_)
  repeat refine w1 (k := ?_)
  cases hT : testsB S with
  | false =>
    rw [hmy, hT, if_neg (by simp)]
    have hm0 : moN S (k : Int) (y % 4) = 0 := by
      have h16 : mayE S (k : Int) ≠ 0 := by rw [hmy, hT]; decide
      unfold moN msN prN
      rw [if_neg h16, if_neg h16, if_neg h16, if_neg h16]
      split <;> (try split) <;> (try split) <;> rfl
    rw [hm0]
    repeat refine w1 (k := ?_)
    exact ⟨[.c _], .cons (.tmp rfl) .nil, rfl⟩
  | true =>
    rw [hT, if_pos rfl] at hmy
    obtain ⟨m1, m2, m3, m4, m5⟩ := mo_spec hkS hmy (y % 4) gy
    have hk2 : k < (upT S k (gW (y % 4) (moN S (k : Int) (y % 4)))).length := by rw [upT_len]; exact hkS
    have hml : mayE (upT S k (gW (y % 4) (moN S (k : Int) (y % 4)))) (k : Int) = 0 := may_iff.2 ⟨tests_is m1 hk2, m1⟩
    have hag := again hkS hmy (y % 4) gy hml
    have hmo := more_ac (upT S k (gW (y % 4) (moN S (k : Int) (y % 4)))) (k : Int) (y % 4) (up_nm hSn k _ _) (by rw [upT_len]; exact hSm)
    rw [hag, hml] at hmo
    have hwi := with22_ac GL S k hkS (y % 4) (moN S (k : Int) (y % 4)) (by omega)
    rw [hmy]
    generalize moN S (k : Int) (y % 4) = n at *
    repeat refine w1 (k := ?_)
    refine callRowN (hc := by exact hwi ) (hso := by exact  tkP_ok _ _) (h := ?_)
    refine nrm (k := ?_)
    repeat refine w1 (k := ?_)
    refine callN (ha := congrArg (fun z => [z, vi (k : Int), vi (y % 4)]) (frz_ownL (k := 45) (xs := (upT S k (gW (y % 4) n)).map tkP) rfl (List.length_map tkP).symm)) (hc := by exact hmo) (h := ?_)
    repeat refine w1 (k := ?_)
    simp only [beq_self_eq_true]
    repeat refine w1 (k := ?_)
    exact ⟨[.c _], .cons (.tmp rfl) .nil, rfl⟩
theorem sagain_top (sp : List Sp) (q : List Int) (hl : sp.length ≤ maxLen) (hq : q.length = 2) : AC Tryd.prog GL 4 [fro spP sp, .pag (intsP q)] [] (fun r _ => r = vb true) := by
  obtain ⟨x, y, rfl⟩ : ∃ x y, q = [x, y] := by
    match q, hq with
    | [x, y], _ => exact ⟨x, y, rfl⟩
  exact sagain_ac sp x y hl
