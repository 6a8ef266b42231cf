/- TaskUrgent. -/
import Derived.Test.YtcheokfoilcdoaaDoorU10
set_option linter.all false
set_option maxRecDepth 2000
set_option maxHeartbeats 8000000
namespace Go.Proofs.Vl
open Go Go.RowKit
attribute [local irreducible] AWp OpTo Run DL Val UN DR AC Le thn inb nog
attribute [local irreducible] els nxO
theorem pvI_ok {k : IntKind} (l : List Int) : ∀ cs ∈ l.map (pvI k), ∀ x ∈ cs, pvOk false x = true := by
  intro cs hcs x hx
  obtain ⟨a, _, rfl⟩ := List.mem_map.1 hcs
  simp only [pvI, List.mem_singleton] at hx
  subst hx
  rfl
theorem urgent_ac (l : List Tk) (i : Int) (hl : l.length ≤ 8) (hi64 : ok64 i) : AC Tryd.prog GL 7 [fro tkP l, vi i] [] (fun r _ => r = vb true) := by
  refine AC.body' Tryd.func7 Tryd.ntmps7 rfl ?_
  intro cx hd hG
  refine nrmL (k := ?_)
  repeat refine w1 (k := ?_)
  obtain ⟨w0, fz0, β0, df, G0⟩ := cx
  obtain rfl : G0 = GL := hG
  have hm : l.length ≤ maxLen := by rw [maxLen]; omega
  have hol := ordL_len l
  obtain ⟨hi1, hi2⟩ := hi64
  refine callN (hc := by exact higherA_ac _ l i hm) (h := ?_)
  repeat refine w1 (k := ?_)
  refine callN (hc := by exact lowerA_ac _ l i hm) (h := ?_)
  repeat refine w1 (k := ?_)
  have hd1 : (((ordL l).length : Int) != (l.length : Int)) = false := by rw [hol]; simp
  have hrk : ∀ (j : Nat) (hj : j < l.length), ∃ h : rankL l j < (ordL l).length, (ordL l)[rankL l j] = (j : Int) := fun j hj => ordL_rank l j hj
  generalize ho : ordL l = o at *
  by_cases h0 : 0 ≤ i
  ·
    obtain ⟨k, rfl⟩ := Int.eq_ofNat_of_zero_le h0
    by_cases hk : k < l.length
    ·
      have pk := pAtI_nat l k hk
      have hat : isAt l (k : Int) = true := by unfold isAt; simp [hk]
      refine callRowN (hc := by exact order_ac _ l (by omega) ) (hso := by exact  pvI_ok _) (h := ?_)
      rw [ho]
      repeat refine w1 (k := ?_)
      rw [List.length_map, hd1, show decide ((k : Int) < (l.length : Int)) = true from decide_eq_true (by omega)]
      repeat refine w1 (k := ?_)
      first | refine zA 21 (h := ?_) | refine zO 21 (h := ?_) | refine zL 21 (h := ?_) | refine zL3 21 (h := ?_)
      refine nrm (k := ?_)
      refine loopN [(4, 1), (12, 2), (35, 62)] (α := Nat) (fun j => [(9, vi ((l.take j).countP (hiF l (k : Int)) : Nat)), (10, vi ((l.take j).countP (loF l (k : Int)) : Nat)), (11, vi (j : Int))]) (fun j => [(5, .pcells 31 (setP (bitsN l (hiF l (k : Int)) l.length))), (6, .pcells 31 (setP (bitsN l (loF l (k : Int)) l.length)))]) (fun j => l.length - j) (fun j => j ≤ l.length) (x0 := 0) (h0 := by first | omega | simp | (refine ⟨?_, ?_⟩ <;> first | omega | simp)) (hr := ?_)
      intro j hI
      refine nrmL (k := ?_)
      repeat refine w1 (k := ?_)
      refine condN (h1 := fun h => ?_) (h0 := fun h => ?_)
      ·
        have hj : j < l.length := by omega
        obtain ⟨hr1, hr2⟩ := hrk j hj
        have q1 : (l.take j).countP (hiF l (k : Int)) ≤ (l.take j).length := List.countP_le_length
        have q2 : (l.take j).countP (loF l (k : Int)) ≤ (l.take j).length := List.countP_le_length
        have q3 : (l.take j).length = j := by simp; omega
        repeat refine w1 (k := ?_)
        by_cases c1 : l[j].p < l[k].p
        ·
          have e1 : hiF l (k : Int) l[j] = true := by unfold hiF; rw [hat, pk]; simp [c1]
          have e2 : loF l (k : Int) l[j] = false := by unfold loF; rw [hat, pk]; simp; omega
          rw [show decide (l[j].p < l[k].p) = true from decide_eq_true c1]
          repeat refine w1 (k := ?_)
          rw [show decide (l[j].p > l[k].p) = false from decide_eq_false (by omega)]
          have t1 := cnt_take l (hiF l (k : Int)) j hj
          have t2 := cnt_take l (loF l (k : Int)) j hj
          rw [e1] at t1
          rw [e2] at t2
          simp only [if_true, Bool.false_eq_true, if_false] at t1 t2
          repeat refine w1 (k := ?_)
          refine callN (hc := by exact has_ac _ _ (j : Int)) (h := ?_)
          repeat refine w1 (k := ?_)
          rw [has_bits l (hiF l (k : Int)) j hj (by omega), e1]
          first | refine ofN (hv := by exact Val.boolB Tryd.underlying4 rfl rfl rfl rfl rfl) (h := ?_) | refine dlN (hv := by exact Val.boolB Tryd.underlying4 rfl rfl rfl rfl rfl) (h := ?_) | refine dlgN (hv := by exact Val.boolB Tryd.underlying4 rfl rfl rfl rfl rfl) (h := ?_) | refine ofN (hv := by exact Val.boolB Tryd.underlying4 rfl rfl rfl rfl rfl) (h := ?_)
          repeat refine w1 (k := ?_)
          refine callN (hc := by exact has_ac _ _ (j : Int)) (h := ?_)
          repeat refine w1 (k := ?_)
          rw [has_bits l (loF l (k : Int)) j hj (by omega), e2]
          first | refine ofN (hv := by exact Val.boolB Tryd.underlying4 rfl rfl rfl rfl rfl) (h := ?_) | refine dlN (hv := by exact Val.boolB Tryd.underlying4 rfl rfl rfl rfl rfl) (h := ?_) | refine dlgN (hv := by exact Val.boolB Tryd.underlying4 rfl rfl rfl rfl rfl) (h := ?_) | refine ofN (hv := by exact Val.boolB Tryd.underlying4 rfl rfl rfl rfl rfl) (h := ?_)
          repeat refine w1 (k := ?_)
          refine callN (hc := by exact rank_ac _ l j hj (by omega)) (h := ?_)
          repeat refine w1 (k := ?_)
          rw [hr2]
          simp only [bne_self_eq_false]
          repeat refine w1 (k := ?_)
          rw [show ((l.take j).countP (hiF l (k : Int)) : Int) + 1 = (((l.take (j + 1)).countP (hiF l (k : Int)) : Nat) : Int) by omega, show ((l.take j).countP (loF l (k : Int)) : Int) = (((l.take (j + 1)).countP (loF l (k : Int)) : Nat) : Int) by omega]
          refine ⟨j + 1, by omega, by first | omega | (refine ⟨?_, ?_⟩ <;> omega), frg⟩
        ·
          rw [show decide (l[j].p < l[k].p) = false from decide_eq_false c1]
          have e1 : hiF l (k : Int) l[j] = false := by unfold hiF; rw [hat, pk]; simp; omega
          by_cases c2 : l[j].p > l[k].p
          ·
            have e2 : loF l (k : Int) l[j] = true := by unfold loF; rw [hat, pk]; simp; omega
            repeat refine w1 (k := ?_)
            rw [show decide (l[j].p > l[k].p) = true from decide_eq_true c2]
            have t1 := cnt_take l (hiF l (k : Int)) j hj
            have t2 := cnt_take l (loF l (k : Int)) j hj
            rw [e1] at t1
            rw [e2] at t2
            simp only [if_true, Bool.false_eq_true, if_false] at t1 t2
            repeat refine w1 (k := ?_)
            refine callN (hc := by exact has_ac _ _ (j : Int)) (h := ?_)
            repeat refine w1 (k := ?_)
            rw [has_bits l (hiF l (k : Int)) j hj (by omega), e1]
            first | refine ofN (hv := by exact Val.boolB Tryd.underlying4 rfl rfl rfl rfl rfl) (h := ?_) | refine dlN (hv := by exact Val.boolB Tryd.underlying4 rfl rfl rfl rfl rfl) (h := ?_) | refine dlgN (hv := by exact Val.boolB Tryd.underlying4 rfl rfl rfl rfl rfl) (h := ?_) | refine ofN (hv := by exact Val.boolB Tryd.underlying4 rfl rfl rfl rfl rfl) (h := ?_)
            repeat refine w1 (k := ?_)
            refine callN (hc := by exact has_ac _ _ (j : Int)) (h := ?_)
            repeat refine w1 (k := ?_)
            rw [has_bits l (loF l (k : Int)) j hj (by omega), e2]
            first | refine ofN (hv := by exact Val.boolB Tryd.underlying4 rfl rfl rfl rfl rfl) (h := ?_) | refine dlN (hv := by exact Val.boolB Tryd.underlying4 rfl rfl rfl rfl rfl) (h := ?_) | refine dlgN (hv := by exact Val.boolB Tryd.underlying4 rfl rfl rfl rfl rfl) (h := ?_) | refine ofN (hv := by exact Val.boolB Tryd.underlying4 rfl rfl rfl rfl rfl) (h := ?_)
            repeat refine w1 (k := ?_)
            refine callN (hc := by exact rank_ac _ l j hj (by omega)) (h := ?_)
            repeat refine w1 (k := ?_)
            rw [hr2]
            simp only [bne_self_eq_false]
            repeat refine w1 (k := ?_)
            rw [show ((l.take j).countP (hiF l (k : Int)) : Int) = (((l.take (j + 1)).countP (hiF l (k : Int)) : Nat) : Int) by omega, show ((l.take j).countP (loF l (k : Int)) : Int) + 1 = (((l.take (j + 1)).countP (loF l (k : Int)) : Nat) : Int) by omega]
            refine ⟨j + 1, by omega, by first | omega | (refine ⟨?_, ?_⟩ <;> omega), frg⟩
          ·
            have e2 : loF l (k : Int) l[j] = false := by unfold loF; rw [hat, pk]; simp; omega
            repeat refine w1 (k := ?_)
            rw [show decide (l[j].p > l[k].p) = false from decide_eq_false c2]
            have t1 := cnt_take l (hiF l (k : Int)) j hj
            have t2 := cnt_take l (loF l (k : Int)) j hj
            rw [e1] at t1
            rw [e2] at t2
            simp only [if_true, Bool.false_eq_true, if_false] at t1 t2
            repeat refine w1 (k := ?_)
            refine callN (hc := by exact has_ac _ _ (j : Int)) (h := ?_)
            repeat refine w1 (k := ?_)
            rw [has_bits l (hiF l (k : Int)) j hj (by omega), e1]
            first | refine ofN (hv := by exact Val.boolB Tryd.underlying4 rfl rfl rfl rfl rfl) (h := ?_) | refine dlN (hv := by exact Val.boolB Tryd.underlying4 rfl rfl rfl rfl rfl) (h := ?_) | refine dlgN (hv := by exact Val.boolB Tryd.underlying4 rfl rfl rfl rfl rfl) (h := ?_) | refine ofN (hv := by exact Val.boolB Tryd.underlying4 rfl rfl rfl rfl rfl) (h := ?_)
            repeat refine w1 (k := ?_)
            refine callN (hc := by exact has_ac _ _ (j : Int)) (h := ?_)
            repeat refine w1 (k := ?_)
            rw [has_bits l (loF l (k : Int)) j hj (by omega), e2]
            first | refine ofN (hv := by exact Val.boolB Tryd.underlying4 rfl rfl rfl rfl rfl) (h := ?_) | refine dlN (hv := by exact Val.boolB Tryd.underlying4 rfl rfl rfl rfl rfl) (h := ?_) | refine dlgN (hv := by exact Val.boolB Tryd.underlying4 rfl rfl rfl rfl rfl) (h := ?_) | refine ofN (hv := by exact Val.boolB Tryd.underlying4 rfl rfl rfl rfl rfl) (h := ?_)
            repeat refine w1 (k := ?_)
            refine callN (hc := by exact rank_ac _ l j hj (by omega)) (h := ?_)
            repeat refine w1 (k := ?_)
            rw [hr2]
            simp only [bne_self_eq_false]
            repeat refine w1 (k := ?_)
            rw [show ((l.take j).countP (hiF l (k : Int)) : Int) = (((l.take (j + 1)).countP (hiF l (k : Int)) : Nat) : Int) by omega, show ((l.take j).countP (loF l (k : Int)) : Int) = (((l.take (j + 1)).countP (loF l (k : Int)) : Nat) : Int) by omega]
            refine ⟨j + 1, by omega, by first | omega | (refine ⟨?_, ?_⟩ <;> omega), frg⟩
      ·
        repeat refine w1 (k := ?_)
        rw [List.take_of_length_le (show l.length ≤ j by omega)]
        refine callN (hc := by exact mlen_ac _) (h := ?_)
        repeat refine w1 (k := ?_)
        rw [len_bits l (hiF l (k : Int)) (by omega), beq_self_eq_true]
        repeat refine w1 (k := ?_)
        refine callN (hc := by exact mlen_ac _) (h := ?_)
        repeat refine w1 (k := ?_)
        rw [len_bits l (loF l (k : Int)) (by omega), beq_self_eq_true]
        repeat refine w1 (k := ?_)
        exact ⟨[.c _], .cons (.tmp rfl) .nil, rfl⟩
    ·
      have hat : isAt l (k : Int) = false := by unfold isAt; simp [hk]
      refine callRowN (hc := by exact order_ac _ l (by omega) ) (hso := by exact  pvI_ok _) (h := ?_)
      rw [ho]
      repeat refine w1 (k := ?_)
      rw [List.length_map, hd1, show decide ((k : Int) < (l.length : Int)) = false from decide_eq_false (by omega)]
      repeat refine w1 (k := ?_)
      first | refine zA 21 (h := ?_) | refine zO 21 (h := ?_) | refine zL 21 (h := ?_) | refine zL3 21 (h := ?_)
      refine nrm (k := ?_)
      refine loopN [(4, 1), (12, 2), (35, 62)] (α := Nat) (fun j => [(9, vi ((l.take j).countP (hiF l (k : Int)) : Nat)), (10, vi ((l.take j).countP (loF l (k : Int)) : Nat)), (11, vi (j : Int))]) (fun j => [(5, .pcells 31 (setP (bitsN l (hiF l (k : Int)) l.length))), (6, .pcells 31 (setP (bitsN l (loF l (k : Int)) l.length)))]) (fun j => l.length - j) (fun j => j ≤ l.length) (x0 := 0) (h0 := by first | omega | simp | (refine ⟨?_, ?_⟩ <;> first | omega | simp)) (hr := ?_)
      intro j hI
      refine nrmL (k := ?_)
      repeat refine w1 (k := ?_)
      refine condN (h1 := fun h => ?_) (h0 := fun h => ?_)
      ·
        have hj : j < l.length := by omega
        obtain ⟨hr1, hr2⟩ := hrk j hj
        have q1 : (l.take j).countP (hiF l (k : Int)) ≤ (l.take j).length := List.countP_le_length
        have q2 : (l.take j).countP (loF l (k : Int)) ≤ (l.take j).length := List.countP_le_length
        have q3 : (l.take j).length = j := by simp; omega
        repeat refine w1 (k := ?_)
        have e1 : hiF l (k : Int) l[j] = false := by unfold hiF; rw [hat]; rfl
        have e2 : loF l (k : Int) l[j] = false := by unfold loF; rw [hat]; rfl
        have t1 := cnt_take l (hiF l (k : Int)) j hj
        have t2 := cnt_take l (loF l (k : Int)) j hj
        rw [e1] at t1
        rw [e2] at t2
        simp only [if_true, Bool.false_eq_true, if_false] at t1 t2
        repeat refine w1 (k := ?_)
        refine callN (hc := by exact has_ac _ _ (j : Int)) (h := ?_)
        repeat refine w1 (k := ?_)
        rw [has_bits l (hiF l (k : Int)) j hj (by omega), e1]
        first | refine ofN (hv := by exact Val.boolB Tryd.underlying4 rfl rfl rfl rfl rfl) (h := ?_) | refine dlN (hv := by exact Val.boolB Tryd.underlying4 rfl rfl rfl rfl rfl) (h := ?_) | refine dlgN (hv := by exact Val.boolB Tryd.underlying4 rfl rfl rfl rfl rfl) (h := ?_) | refine ofN (hv := by exact Val.boolB Tryd.underlying4 rfl rfl rfl rfl rfl) (h := ?_)
        repeat refine w1 (k := ?_)
        refine callN (hc := by exact has_ac _ _ (j : Int)) (h := ?_)
        repeat refine w1 (k := ?_)
        rw [has_bits l (loF l (k : Int)) j hj (by omega), e2]
        first | refine ofN (hv := by exact Val.boolB Tryd.underlying4 rfl rfl rfl rfl rfl) (h := ?_) | refine dlN (hv := by exact Val.boolB Tryd.underlying4 rfl rfl rfl rfl rfl) (h := ?_) | refine dlgN (hv := by exact Val.boolB Tryd.underlying4 rfl rfl rfl rfl rfl) (h := ?_) | refine ofN (hv := by exact Val.boolB Tryd.underlying4 rfl rfl rfl rfl rfl) (h := ?_)
        repeat refine w1 (k := ?_)
        refine callN (hc := by exact rank_ac _ l j hj (by omega)) (h := ?_)
        repeat refine w1 (k := ?_)
        rw [hr2]
        simp only [bne_self_eq_false]
        repeat refine w1 (k := ?_)
        rw [show ((l.take j).countP (hiF l (k : Int)) : Int) = (((l.take (j + 1)).countP (hiF l (k : Int)) : Nat) : Int) by omega, show ((l.take j).countP (loF l (k : Int)) : Int) = (((l.take (j + 1)).countP (loF l (k : Int)) : Nat) : Int) by omega]
        refine ⟨j + 1, by omega, by first | omega | (refine ⟨?_, ?_⟩ <;> omega), frg⟩
      ·
        repeat refine w1 (k := ?_)
        rw [List.take_of_length_le (show l.length ≤ j by omega)]
        refine callN (hc := by exact mlen_ac _) (h := ?_)
        repeat refine w1 (k := ?_)
        rw [len_bits l (hiF l (k : Int)) (by omega), beq_self_eq_true]
        repeat refine w1 (k := ?_)
        refine callN (hc := by exact mlen_ac _) (h := ?_)
        repeat refine w1 (k := ?_)
        rw [len_bits l (loF l (k : Int)) (by omega), beq_self_eq_true]
        repeat refine w1 (k := ?_)
        exact ⟨[.c _], .cons (.tmp rfl) .nil, rfl⟩
  ·
    have hat : isAt l i = false := by unfold isAt; simp [h0]
    refine callRowN (hc := by exact order_ac _ l (by omega) ) (hso := by exact  pvI_ok _) (h := ?_)
    rw [ho]
    repeat refine w1 (k := ?_)
    rw [List.length_map, hd1]
    repeat refine w1 (k := ?_)
    first | refine zA 21 (h := ?_) | refine zO 21 (h := ?_) | refine zL 21 (h := ?_) | refine zL3 21 (h := ?_)
    refine nrm (k := ?_)
    refine loopN [(4, 1), (12, 2), (35, 62)] (α := Nat) (fun j => [(9, vi ((l.take j).countP (hiF l i) : Nat)), (10, vi ((l.take j).countP (loF l i) : Nat)), (11, vi (j : Int))]) (fun j => [(5, .pcells 31 (setP (bitsN l (hiF l i) l.length))), (6, .pcells 31 (setP (bitsN l (loF l i) l.length)))]) (fun j => l.length - j) (fun j => j ≤ l.length) (x0 := 0) (h0 := by first | omega | simp | (refine ⟨?_, ?_⟩ <;> first | omega | simp)) (hr := ?_)
    intro j hI
    refine nrmL (k := ?_)
    repeat refine w1 (k := ?_)
    refine condN (h1 := fun h => ?_) (h0 := fun h => ?_)
    ·
      have hj : j < l.length := by omega
      obtain ⟨hr1, hr2⟩ := hrk j hj
      have q1 : (l.take j).countP (hiF l i) ≤ (l.take j).length := List.countP_le_length
      have q2 : (l.take j).countP (loF l i) ≤ (l.take j).length := List.countP_le_length
      have q3 : (l.take j).length = j := by simp; omega
      repeat refine w1 (k := ?_)
      have e1 : hiF l i l[j] = false := by unfold hiF; rw [hat]; rfl
      have e2 : loF l i l[j] = false := by unfold loF; rw [hat]; rfl
      have t1 := cnt_take l (hiF l i) j hj
      have t2 := cnt_take l (loF l i) j hj
      rw [e1] at t1
      rw [e2] at t2
      simp only [if_true, Bool.false_eq_true, if_false] at t1 t2
      repeat refine w1 (k := ?_)
      refine callN (hc := by exact has_ac _ _ (j : Int)) (h := ?_)
      repeat refine w1 (k := ?_)
      rw [has_bits l (hiF l i) j hj (by omega), e1]
      first | refine ofN (hv := by exact Val.boolB Tryd.underlying4 rfl rfl rfl rfl rfl) (h := ?_) | refine dlN (hv := by exact Val.boolB Tryd.underlying4 rfl rfl rfl rfl rfl) (h := ?_) | refine dlgN (hv := by exact Val.boolB Tryd.underlying4 rfl rfl rfl rfl rfl) (h := ?_) | refine ofN (hv := by exact Val.boolB Tryd.underlying4 rfl rfl rfl rfl rfl) (h := ?_)
      repeat refine w1 (k := ?_)
      refine callN (hc := by exact has_ac _ _ (j : Int)) (h := ?_)
      repeat refine w1 (k := ?_)
      rw [has_bits l (loF l i) j hj (by omega), e2]
      first | refine ofN (hv := by exact Val.boolB Tryd.underlying4 rfl rfl rfl rfl rfl) (h := ?_) | refine dlN (hv := by exact Val.boolB Tryd.underlying4 rfl rfl rfl rfl rfl) (h := ?_) | refine dlgN (hv := by exact Val.boolB Tryd.underlying4 rfl rfl rfl rfl rfl) (h := ?_) | refine ofN (hv := by exact Val.boolB Tryd.underlying4 rfl rfl rfl rfl rfl) (h := ?_)
      repeat refine w1 (k := ?_)
      refine callN (hc := by exact rank_ac _ l j hj (by omega)) (h := ?_)
      repeat refine w1 (k := ?_)
      rw [hr2]
      simp only [bne_self_eq_false]
      repeat refine w1 (k := ?_)
      rw [show ((l.take j).countP (hiF l i) : Int) = (((l.take (j + 1)).countP (hiF l i) : Nat) : Int) by omega, show ((l.take j).countP (loF l i) : Int) = (((l.take (j + 1)).countP (loF l i) : Nat) : Int) by omega]
      refine ⟨j + 1, by omega, by first | omega | (refine ⟨?_, ?_⟩ <;> omega), frg⟩
    ·
      repeat refine w1 (k := ?_)
      rw [List.take_of_length_le (show l.length ≤ j by omega)]
      refine callN (hc := by exact mlen_ac _) (h := ?_)
      repeat refine w1 (k := ?_)
      rw [len_bits l (hiF l i) (by omega), beq_self_eq_true]
      repeat refine w1 (k := ?_)
      refine callN (hc := by exact mlen_ac _) (h := ?_)
      repeat refine w1 (k := ?_)
      rw [len_bits l (loF l i) (by omega), beq_self_eq_true]
      repeat refine w1 (k := ?_)
      exact ⟨[.c _], .cons (.tmp rfl) .nil, rfl⟩
