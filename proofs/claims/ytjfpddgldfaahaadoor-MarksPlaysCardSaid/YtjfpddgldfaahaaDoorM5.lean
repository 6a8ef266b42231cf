/- The chapter's example; what a row of numbers makes. -/
import Derived.Test.YtjfpddgldfaahaaDoorM4
import Derived.Test.YtjfpddgldfaahaaDoorV29
set_option linter.all false
set_option maxHeartbeats 8000000
namespace Go.Proofs.Vl
open Go Go.RowKit
attribute [local irreducible] AWp OpTo Run DL Val UN DR AC Le thn inb nog
attribute [local irreducible] els nxO
theorem aw_of : ofL [3, 70, 3, -1] = 1180591620717411303432 := by decide +kernel
theorem aw_first : (els 1180591620717411303432)[0]? = some 3 := by decide +kernel
theorem aw_next : nxO 1180591620717411303432 (fromN 3) = some 70 := by decide +kernel
theorem aw_len : (els 1180591620717411303432).length = 2 := by decide +kernel
theorem awake_ac : AC Tryd.prog GL 9 [] [] (fun r _ => r = vb true) := by
  refine AC.body' Tryd.func9 Tryd.ntmps9 rfl ?_
  intro cx hd hG
  refine nrmL (k := ?_)
  repeat refine w1 (k := ?_)
  obtain ⟨w0, fz0, β0, df, G0⟩ := cx
  obtain rfl : G0 = GL := hG
  refine litA (pvI .i64) [3, 70, 3, -1] (h := ?_)
  repeat refine w1 (k := ?_)
  refine callN (hc := by exact of_ac _ [3, 70, 3, -1] (by decide)) (h := ?_)
  repeat refine w1 (k := ?_)
  rw [aw_of]
  refine callN (hc := by exact first_ac _) (h := ?_)
  repeat refine w1 (k := ?_)
  rw [aw_first]
  repeat refine w1 (k := ?_)
  refine callN (hc := by exact next_ac _ 3 (by decide)) (h := ?_)
  repeat refine w1 (k := ?_)
  rw [aw_next]
  repeat refine w1 (k := ?_)
  refine callN (hc := by exact len_ac _) (h := ?_)
  repeat refine w1 (k := ?_)
  rw [aw_len]
  repeat refine w1 (k := ?_)
  exact ⟨[.c _], .cons (.tmp rfl) .nil, rfl⟩
theorem bit_eq (s n : Nat) : (bits BinOp.and IntKind.u64 ((wd s (n / 64) / 2 ^ (n % 64) : Nat) : Int) 1 == 1) = s.testBit n := by
  have hlt : wd s (n / 64) / 2 ^ (n % 64) < M64 := Nat.lt_of_le_of_lt (Nat.div_le_self _ _) (wd_lt _ _)
  have h := bits_and_u64_nat (wd s (n / 64) / 2 ^ (n % 64)) 1 hlt (by decide)
  have h2 := wd_bit s (n / 64) (n % 64)
  rw [show 64 * (n / 64) + n % 64 = n by omega, Nat.testBit_eq_decide_div_mod_eq] at h2
  rw [show ((1 : Nat) : Int) = 1 from rfl] at h
  rw [h, Nat.and_one_is_mod]
  have h3 : n % 64 < 64 := by omega
  simp only [h3, decide_true, Bool.true_and] at h2
  rw [← h2]
  generalize wd s (n / 64) / 2 ^ (n % 64) = x
  rcases Nat.mod_two_eq_zero_or_one x with h | h <;> rw [h] <;> rfl
theorem has_ac (G) (s : Nat) (n : Int) : AC Tryd.prog G 32 [.pag (setP s), vi n] [] (fun r _ => r = vb (inB n && s.testBit n.toNat)) := by
  refine AC.body' Tryd.func32 Tryd.ntmps32 rfl ?_
  intro cx hd hG
  refine nrmL (k := ?_)
  repeat refine w1 (k := ?_)
  refine callN (hc := by exact in_ac _ _) (h := ?_)
  repeat refine w1 (k := ?_)
  first | refine bothTN (h1 := fun h => ?_) (h0 := fun h => ?_) | refine bothFN (h1 := fun h => ?_) (h0 := fun h => ?_)
  all_goals repeat refine w1 (k := ?_)
  ·
    have hn : 0 ≤ n ∧ n < 1024 := by simp [inB] at h; omega
    obtain ⟨n, rfl⟩ := Int.eq_ofNat_of_zero_le hn.1
    have hn2 : n < 1024 := by omega
    repeat refine w1 (k := ?_)
    rw [shr6]
    repeat refine w1 (k := ?_)
    rw [sz24]
    first | refine ofN (hv := by exact Val.ld1 rfl rfl rfl (setP_at s _ (by omega))) (h := ?_) | refine dlN (hv := by exact Val.ld1 rfl rfl rfl (setP_at s _ (by omega))) (h := ?_) | refine dlgN (hv := by exact Val.ld1 rfl rfl rfl (setP_at s _ (by omega))) (h := ?_) | refine ofN (hv := by exact Val.ld1 rfl rfl rfl (setP_at s _ (by omega))) (h := ?_)
    repeat refine w1 (k := ?_)
    rw [and63 n hn2]
    repeat refine w1 (k := ?_)
    rw [shrN _ _ (by omega)]
    repeat refine w1 (k := ?_)
    rw [bit_eq]
    refine ⟨[.c _], .cons (.tmp rfl) .nil, ?_⟩
    rw [h]; rfl
  ·
    repeat refine w1 (k := ?_)
    refine ⟨[.c _], .cons (.tmp rfl) .nil, ?_⟩
    rw [h]; rfl
/-- Each number as it stands, and by its lowest 10 bits. -/
def someL (l : List Int) : List Int := (l.take 40).flatMap fun x => [x, x % 1024]
theorem someL_len (l : List Int) : (someL l).length ≤ 80 := by
  unfold someL
  rw [List.length_flatMap]
  have : ((l.take 40).map fun x : Int => [x, x % 1024].length).sum = 2 * (l.take 40).length := by
    induction l.take 40 with
    | nil => rfl
    | cons a l ih => rw [List.map_cons, List.sum_cons, ih]; simp only [List.length_cons, List.length_nil]; omega
  rw [this, List.length_take]; omega
theorem and1023 (n : Int) : bits .and .i64 n 1023 = n % 1024 := by
  have h63 : (BitVec.ofInt 64 1023).toNat = 2 ^ 10 - 1 := by decide
  have key : (BitVec.ofInt 64 n &&& BitVec.ofInt 64 1023).toNat = (n % ((2 ^ 64 : Nat) : Int)).toNat % 2 ^ 10 := by
    rw [BitVec.toNat_and, BitVec.toNat_ofInt, h63, Nat.and_two_pow_sub_one_eq_mod]
  show IntKind.i64.wrap ((BitVec.ofInt 64 n &&& BitVec.ofInt 64 1023).toNat : Nat) = n % 1024
  rw [key, IntKind.wrap_i64]
  omega
theorem someL_succ (l : List Int) (i : Nat) (h : i < l.length) (h2 : i < 40) : (l.take (i + 1)).flatMap (fun x => [x, x % 1024]) = (l.take i).flatMap (fun x => [x, x % 1024]) ++ [l[i], l[i] % 1024] := by
  rw [List.take_succ_eq_append_getElem h, List.flatMap_append]; simp
def someI (l : List Int) (i : Nat) : List Int := (l.take i).flatMap fun x => [x, x % 1024]
theorem someI_len (l : List Int) (i : Nat) : (someI l i).length ≤ 2 * i := by
  unfold someI
  rw [List.length_flatMap]
  have : ((l.take i).map fun x : Int => [x, x % 1024].length).sum = 2 * (l.take i).length := by
    induction l.take i with
    | nil => rfl
    | cons a l ih => rw [List.map_cons, List.sum_cons, ih]; simp only [List.length_cons, List.length_nil]; omega
  rw [this, List.length_take]; omega
theorem some_ac (G) (l : List Int) (hl : l.length ≤ maxLen) : AC Tryd.prog G 12 [.c (.p (.fro (l.map (pvI .i64))))] [] (fun r os => r = .c (.own 26 1 (someL l).length) ∧ find os 26 = some (.row 3 1 ((someL l).map (pvI .i64)))) := by
  refine AC.body' Tryd.func12 Tryd.ntmps12 rfl ?_
  intro cx hd hG
  refine nrmL (k := ?_)
  repeat refine w1 (k := ?_)
  have hl2 := hl
  rw [maxLen] at hl2
  refine seedA 3 26 1 3 (h := ?_)
  refine loopN [(5, 22)] (α := Nat) (fun i => [(3, .c (.own 26 1 (someI l i).length)), (4, vi (i : Int))]) (fun i => [(26, .row 3 1 ((someI l i).map (pvI .i64)))]) (fun i => 40 - i) (fun i => i ≤ l.length ∧ i ≤ 40) (x0 := 0) (h0 := by exact ⟨by omega, by omega⟩) (hr := ?_)
  intro i hI
  refine nrmL (k := ?_)
  have hsl := someI_len l i
  repeat refine w1 (k := ?_)
  first | refine bothTN (h1 := fun h => ?_) (h0 := fun h => ?_) | refine bothFN (h1 := fun h => ?_) (h0 := fun h => ?_)
  all_goals repeat refine w1 (k := ?_)
  ·
    refine condN (h1 := fun h4 => ?_) (h0 := fun h4 => ?_)
    ·
      have hj : i < l.length := by omega
      repeat refine w1 (k := ?_)
      (first | refine DL.takeT 0 rfl (by decide +kernel) rfl (Val.shr rfl rfl rfl rfl (by omega)) ?_ | refine DL.takeT 0 rfl (by decide +kernel) rfl (Val.addI rfl rfl rfl rfl ⟨by omega, by omega⟩) ?_ | refine DL.takeT 0 rfl (by decide +kernel) rfl (Val.ev2 rfl) ?_ | refine DL.takeT 0 rfl (by decide +kernel) rfl (Val.ev rfl) ?_ | refine DL.takeT 0 rfl (by decide +kernel) rfl (Val.ixON rfl rfl rfl rfl rfl (by omega) (by omega) (by intro _; rfl)) ?_ | refine DL.takeT 0 rfl (by decide +kernel) rfl (Val.ixN rfl rfl rfl rfl rfl (by omega) (by intro _; rfl)) ?_)
      refine nrm (k := ?_)
      (first | refine DL.takeT 0 rfl (by decide +kernel) rfl (Val.shr rfl rfl rfl rfl (by omega)) ?_ | refine DL.takeT 0 rfl (by decide +kernel) rfl (Val.addI rfl rfl rfl rfl ⟨by omega, by omega⟩) ?_ | refine DL.takeT 0 rfl (by decide +kernel) rfl (Val.ev2 rfl) ?_ | refine DL.takeT 0 rfl (by decide +kernel) rfl (Val.ev rfl) ?_ | refine DL.takeT 0 rfl (by decide +kernel) rfl (Val.ixON rfl rfl rfl rfl rfl (by omega) (by omega) (by intro _; rfl)) ?_ | refine DL.takeT 0 rfl (by decide +kernel) rfl (Val.ixN rfl rfl rfl rfl rfl (by omega) (by intro _; rfl)) ?_)
      refine nrm (k := ?_)
      (first | refine DL.takeT 0 rfl (by decide +kernel) rfl (Val.shr rfl rfl rfl rfl (by omega)) ?_ | refine DL.takeT 0 rfl (by decide +kernel) rfl (Val.addI rfl rfl rfl rfl ⟨by omega, by omega⟩) ?_ | refine DL.takeT 0 rfl (by decide +kernel) rfl (Val.ev2 rfl) ?_ | refine DL.takeT 0 rfl (by decide +kernel) rfl (Val.ev rfl) ?_ | refine DL.takeT 0 rfl (by decide +kernel) rfl (Val.ixON rfl rfl rfl rfl rfl (by omega) (by omega) (by intro _; rfl)) ?_ | refine DL.takeT 0 rfl (by decide +kernel) rfl (Val.ixN rfl rfl rfl rfl rfl (by omega) (by intro _; rfl)) ?_)
      refine nrm (k := ?_)
      (first | refine DL.takeT 0 rfl (by decide +kernel) rfl (Val.shr rfl rfl rfl rfl (by omega)) ?_ | refine DL.takeT 0 rfl (by decide +kernel) rfl (Val.addI rfl rfl rfl rfl ⟨by omega, by omega⟩) ?_ | refine DL.takeT 0 rfl (by decide +kernel) rfl (Val.ev2 rfl) ?_ | refine DL.takeT 0 rfl (by decide +kernel) rfl (Val.ev rfl) ?_ | refine DL.takeT 0 rfl (by decide +kernel) rfl (Val.ixON rfl rfl rfl rfl rfl (by omega) (by omega) (by intro _; rfl)) ?_ | refine DL.takeT 0 rfl (by decide +kernel) rfl (Val.ixN rfl rfl rfl rfl rfl (by omega) (by intro _; rfl)) ?_)
      refine nrm (k := ?_)
      (first | refine DL.takeT 0 rfl (by decide +kernel) rfl (Val.shr rfl rfl rfl rfl (by omega)) ?_ | refine DL.takeT 0 rfl (by decide +kernel) rfl (Val.addI rfl rfl rfl rfl ⟨by omega, by omega⟩) ?_ | refine DL.takeT 0 rfl (by decide +kernel) rfl (Val.ev2 rfl) ?_ | refine DL.takeT 0 rfl (by decide +kernel) rfl (Val.ev rfl) ?_ | refine DL.takeT 0 rfl (by decide +kernel) rfl (Val.ixON rfl rfl rfl rfl rfl (by omega) (by omega) (by intro _; rfl)) ?_ | refine DL.takeT 0 rfl (by decide +kernel) rfl (Val.ixN rfl rfl rfl rfl rfl (by omega) (by intro _; rfl)) ?_)
      refine nrm (k := ?_)
      (first | refine DL.takeT 0 rfl (by decide +kernel) rfl (Val.shr rfl rfl rfl rfl (by omega)) ?_ | refine DL.takeT 0 rfl (by decide +kernel) rfl (Val.addI rfl rfl rfl rfl ⟨by omega, by omega⟩) ?_ | refine DL.takeT 0 rfl (by decide +kernel) rfl (Val.ev2 rfl) ?_ | refine DL.takeT 0 rfl (by decide +kernel) rfl (Val.ev rfl) ?_ | refine DL.takeT 0 rfl (by decide +kernel) rfl (Val.ixON rfl rfl rfl rfl rfl (by omega) (by omega) (by intro _; rfl)) ?_ | refine DL.takeT 0 rfl (by decide +kernel) rfl (Val.ixN rfl rfl rfl rfl rfl (by omega) (by intro _; rfl)) ?_)
      refine nrm (k := ?_)
      (first | refine DL.takeT 0 rfl (by decide +kernel) rfl (Val.shr rfl rfl rfl rfl (by omega)) ?_ | refine DL.takeT 0 rfl (by decide +kernel) rfl (Val.addI rfl rfl rfl rfl ⟨by omega, by omega⟩) ?_ | refine DL.takeT 0 rfl (by decide +kernel) rfl (Val.ev2 rfl) ?_ | refine DL.takeT 0 rfl (by decide +kernel) rfl (Val.ev rfl) ?_ | refine DL.takeT 0 rfl (by decide +kernel) rfl (Val.ixON rfl rfl rfl rfl rfl (by omega) (by omega) (by intro _; rfl)) ?_ | refine DL.takeT 0 rfl (by decide +kernel) rfl (Val.ixN rfl rfl rfl rfl rfl (by omega) (by intro _; rfl)) ?_)
      refine nrm (k := ?_)
      (first | refine DL.takeT 0 rfl (by decide +kernel) rfl (Val.shr rfl rfl rfl rfl (by omega)) ?_ | refine DL.takeT 0 rfl (by decide +kernel) rfl (Val.addI rfl rfl rfl rfl ⟨by omega, by omega⟩) ?_ | refine DL.takeT 0 rfl (by decide +kernel) rfl (Val.ev2 rfl) ?_ | refine DL.takeT 0 rfl (by decide +kernel) rfl (Val.ev rfl) ?_ | refine DL.takeT 0 rfl (by decide +kernel) rfl (Val.ixON rfl rfl rfl rfl rfl (by omega) (by omega) (by intro _; rfl)) ?_ | refine DL.takeT 0 rfl (by decide +kernel) rfl (Val.ixN rfl rfl rfl rfl rfl (by omega) (by intro _; rfl)) ?_)
      refine nrm (k := ?_)
      (first | refine DL.takeT 0 rfl (by decide +kernel) rfl (Val.shr rfl rfl rfl rfl (by omega)) ?_ | refine DL.takeT 0 rfl (by decide +kernel) rfl (Val.addI rfl rfl rfl rfl ⟨by omega, by omega⟩) ?_ | refine DL.takeT 0 rfl (by decide +kernel) rfl (Val.ev2 rfl) ?_ | refine DL.takeT 0 rfl (by decide +kernel) rfl (Val.ev rfl) ?_ | refine DL.takeT 0 rfl (by decide +kernel) rfl (Val.ixON rfl rfl rfl rfl rfl (by omega) (by omega) (by intro _; rfl)) ?_ | refine DL.takeT 0 rfl (by decide +kernel) rfl (Val.ixN rfl rfl rfl rfl rfl (by omega) (by intro _; rfl)) ?_)
      refine nrm (k := ?_)
      rw [and1023]
      repeat refine w1 (k := ?_)
      refine litA (pvI .i64) [l[i], l[i] % 1024] (h := ?_)
      repeat refine w1 (k := ?_)
      refine appA 26 8 (pvI .i64) (someI l i) [l[i], l[i] % 1024] (hb := by simp; omega) (hm := by simp; omega) (h := ?_)
      repeat refine w1 (k := ?_)
      rw [show someI l i ++ [l[i], l[i] % 1024] = someI l (i + 1) from (someL_succ l i hj (by omega)).symm]
      refine ⟨i + 1, by omega, by first | omega | (refine ⟨?_, ?_⟩ <;> omega), frg⟩
    ·
      repeat refine w1 (k := ?_)
      have : i = 40 := by omega
      subst this
      exact ⟨[.c _], .cons (.tmp rfl) .nil, rfl, rfl⟩
  ·
    repeat refine w1 (k := ?_)
    have e : someI l i = someL l := by unfold someI someL; rw [List.take_of_length_le (by omega), List.take_of_length_le (by omega)]
    rw [e]
    exact ⟨[.c _], .cons (.tmp rfl) .nil, rfl, rfl⟩
