/- Chapter 22: SlackEdge. -/
import Derived.Test.YtlegdnmebgfjbabDoorWF
set_option linter.all false
set_option maxRecDepth 2000
set_option maxHeartbeats 8000000
namespace Go.Proofs.Vl
open Go Go.RowKit
attribute [local irreducible] AWp OpTo Run DL Val UN DR AC Le thn inb nog
theorem and10 (n : Int) : bits .and .i64 n 1023 = n % 1024 := by
  have h63 : (BitVec.ofInt 64 1023).toNat = 2 ^ 10 - 1 := by decide
  have key : (BitVec.ofInt 64 n &&& BitVec.ofInt 64 1023).toNat = (n % ((2 ^ 64 : Nat) : Int)).toNat % 2 ^ 10 := by
    rw [BitVec.toNat_and, BitVec.toNat_ofInt, h63, Nat.and_two_pow_sub_one_eq_mod]
  show IntKind.i64.wrap ((BitVec.ofInt 64 n &&& BitVec.ofInt 64 1023).toNat : Nat) = n % 1024
  rw [key, IntKind.wrap_i64]
  omega
theorem sedge_ac (sp : List Sp) (x y z : Int) (hl : sp.length ≤ maxLen) : AC Tryd.prog GL 3 [fro spP sp, .pag (intsP [x, y, z])] [] (fun r _ => r = vb true) := by
  refine AC.body' Tryd.func3 Tryd.ntmps3 rfl ?_
  intro cx hd hG
  refine nrmL (k := ?_)
  repeat refine w1 (k := ?_)
  obtain ⟨w0, fz0, β0, df, G0⟩ := cx
  obtain rfl : G0 = GL := hG
  refine callN (hc := by exact awake22_ac) (h := ?_)
  repeat refine w1 (k := ?_)
  refine OpTo.callO (by rfl) (by rfl) (by rfl) (by rfl) (set_ac _ sp 5 x hl (by decide) (by decide)) ?_
  rintro r os' ⟨rfl, hf⟩
  refine ⟨_, .row rfl hf (tkP_ok _ _) (by decide) rfl, ?_⟩
  have s1 := set_b sp 5 x hl (by decide)
  have hSn := set_nm2 sp 5 x
  have s5 := set_is sp 5 x hl ⟨by decide, by decide⟩
  generalize setL sp 5 x = S at s1 hSn s5 ⊢
  have hSm : S.length ≤ maxLen := by rw [maxLen]; omega
  refine nrm (k := ?_)
  repeat refine w1 (k := ?_)
  first | refine zA 19 (h := ?_) | refine zO 19 (h := ?_) | refine zL 19 (h := ?_) | refine zL3 19 (h := ?_)
  refine nrm (k := ?_)
  repeat refine w1 (k := ?_)
  have g := emod_b x (S.length : Int) (by omega)
  obtain ⟨k, ek⟩ := Int.eq_ofNat_of_zero_le g.1
  have hkS : k < S.length := by omega
  have gy := emod_b y 4 (by decide)
  have hb := s5 k hkS
  refine callN (hc := by exact rest22_ac _ x (S.length : Int) (by omega) (by omega)) (h := ?_)
  repeat refine w1 (k := ?_)
  rw [ek]
  repeat refine w1 (k := ?_)
  refine callN (hc := by exact rest22_ac _ y 4 (by decide) (by decide)) (h := ?_)
  repeat refine w1 (k := ?_)
  repeat refine w1 (k := ?_)
  refine OpTo.of (x := .pag [.s (.int .i64 S[k].c), .s (.int .i64 S[k].q), .s (.int .i64 S[k].j), .s (.int .i64 S[k].t)]) (by exact Val.buildAP (parts := [(0, .tmp 32), (1, .tmp 37), (2, .tmp 42), (3, .tmp 47)]) (zc := List.replicate 4 (.int .i64 0)) (sz := 1) (by kernel_rfl) rfl rfl rfl) ?_
  refine nrm (k := ?_)
  repeat refine w1 (k := ?_)
  have hfl : ([PV.s (.int .i64 S[k].c), .s (.int .i64 S[k].q), .s (.int .i64 S[k].j), .s (.int .i64 S[k].t)])[(y % 4).toNat]? = some (.s (.int .i64 (fldT (y % 4) S[k]))) := by
    obtain e | e | e | e : y % 4 = 0 ∨ y % 4 = 1 ∨ y % 4 = 2 ∨ y % 4 = 3 := by omega
    all_goals rw [e]; rfl
  refine OpTo.of (x := .c (.p (.s (.int .i64 (fldT (y % 4) S[k]))))) (by exact Val.idxP (L := 4) (E := 2) Tryd.underlying30 (by kernel_rfl) (by kernel_rfl) rfl rfl rfl rfl gy.1 (by omega) hfl) ?_
  refine nrm (k := ?_)
  repeat refine w1 (k := ?_)
  have hmy : mayE S (k : Int) = if testsB S then 0 else 16 := by unfold mayE; rw [if_pos hb]
  refine callN (hc := by exact more_ac S (k : Int) (y % 4) hSn hSm) (h := ?_)
  repeat refine w1 (k := ?_)
  cases hT : testsB S with
  | false =>
    rw [hmy, hT, if_neg (by simp)]
    have hm0 : moN S (k : Int) (y % 4) = 0 := by
      have h16 : mayE S (k : Int) ≠ 0 := by rw [hmy, hT]; decide
      unfold moN msN prN
      rw [if_neg h16, if_neg h16, if_neg h16, if_neg h16]
      split <;> (try split) <;> (try split) <;> rfl
    rw [hm0]
    repeat refine w1 (k := ?_)
    refine callN (hc := by exact tests_ac S hSn hSm) (h := ?_)
    repeat refine w1 (k := ?_)
    rw [hT]
    repeat refine w1 (k := ?_)
    exact ⟨[.c _], .cons (.tmp rfl) .nil, rfl⟩
  | true =>
    rw [hT, if_pos rfl] at hmy
    obtain ⟨m1, m2, m3, m4, m5⟩ := mo_spec hkS hmy (y % 4) gy
    have hfb : 0 ≤ fldT (y % 4) S[k] ∧ fldT (y % 4) S[k] ≤ 2147483647 := by
      obtain ⟨hc, ht, hd, hj, hq, hp⟩ := (is_spec hb).2.1 _ (List.getElem_mem hkS)
      unfold fldT
      split
      · omega
      · split
        · omega
        · split <;> omega
    rw [hmy]
    generalize hN : moN S (k : Int) (y % 4) = n at *
    generalize hU : fldT (y % 4) S[k] = u at *
    repeat refine w1 (k := ?_)
    refine condN (h1 := fun h3 => ?_) (h0 := fun h3 => ?_)
    ·
      rw [show stpW (y % 4) = -1 by unfold stpW; rw [if_pos h3]] at m2 m3
      have hbt : ∀ m, n ≤ m → m ≤ u → testsB (upT S k (gW (y % 4) m)) = true := fun m a b => betw hkS hb (y % 4) gy n m m1 (by rw [if_pos h3, hU]; exact ⟨a, b⟩)
      repeat refine w1 (k := ?_)
      rw [and10]
      first | refine ofN (hv := by exact Val.rem rfl rfl rfl rfl (by omega)) (h := ?_) | refine dlN (hv := by exact Val.rem rfl rfl rfl rfl (by omega)) (h := ?_) | refine dlgN (hv := by exact Val.rem rfl rfl rfl rfl (by omega)) (h := ?_) | refine ofN (hv := by exact Val.rem rfl rfl rfl rfl (by omega)) (h := ?_)
      obtain ⟨r, er⟩ : ∃ r, r = (z % 1024).tmod ((n - u) * -1 + 1) := ⟨_, rfl⟩
      have hr : 0 ≤ r ∧ r ≤ (n - u) * -1 := by
        have z0 := Int.emod_nonneg z (show (1024 : Int) ≠ 0 by decide)
        have q1 := Int.tmod_nonneg ((n - u) * -1 + 1) z0
        have q2 := Int.tmod_lt_of_pos (z % 1024) (show 0 < (n - u) * -1 + 1 by omega)
        rw [← er] at q1 q2
        exact ⟨q1, by omega⟩
      rw [← er]
      repeat refine w1 (k := ?_)
      refine callRowN (hc := by exact with22_ac _ S k hkS (y % 4) n (by omega) ) (hso := by exact  tkP_ok _ _) (h := ?_)
      refine nrm (k := ?_)
      repeat refine w1 (k := ?_)
      refine callN (ha := congrArg (fun z => [z]) (frz_ownL (k := 99) (xs := (upT S k (gW (y % 4) n)).map tkP) rfl (List.length_map tkP).symm)) (hc := by exact tests_ac _ (up_nm hSn k _ _) (by rw [upT_len]; exact hSm)) (h := ?_)
      rw [m1]
      repeat refine w1 (k := ?_)
      refine callRowN (hc := by exact with22_ac _ S k hkS (y % 4) (n + (-1)) (by omega) ) (hso := by exact  tkP_ok _ _) (h := ?_)
      refine nrm (k := ?_)
      repeat refine w1 (k := ?_)
      refine callN (ha := congrArg (fun z => [z]) (frz_ownL (k := 109) (xs := (upT S k (gW (y % 4) (n + (-1)))).map tkP) rfl (List.length_map tkP).symm)) (hc := by exact tests_ac _ (up_nm hSn k _ _) (by rw [upT_len]; exact hSm)) (h := ?_)
      rw [m2]
      repeat refine w1 (k := ?_)
      refine callRowN (hc := by exact with22_ac _ S k hkS (y % 4) (u + -1 * r) (by omega) ) (hso := by exact  tkP_ok _ _) (h := ?_)
      refine nrm (k := ?_)
      repeat refine w1 (k := ?_)
      refine callN (ha := congrArg (fun z => [z]) (frz_ownL (k := 118) (xs := (upT S k (gW (y % 4) (u + -1 * r))).map tkP) rfl (List.length_map tkP).symm)) (hc := by exact tests_ac _ (up_nm hSn k _ _) (by rw [upT_len]; exact hSm)) (h := ?_)
      rw [hbt (u + -1 * r) (by omega) (by omega)]
      repeat refine w1 (k := ?_)
      exact ⟨[.c _], .cons (.tmp rfl) .nil, rfl⟩
    ·
      rw [show stpW (y % 4) = 1 by unfold stpW; rw [if_neg h3]] at m2 m3
      have hbt : ∀ m, u ≤ m → m ≤ n → testsB (upT S k (gW (y % 4) m)) = true := fun m a b => betw hkS hb (y % 4) gy n m m1 (by rw [if_neg h3, hU]; exact ⟨a, b⟩)
      repeat refine w1 (k := ?_)
      rw [and10]
      first | refine ofN (hv := by exact Val.rem rfl rfl rfl rfl (by omega)) (h := ?_) | refine dlN (hv := by exact Val.rem rfl rfl rfl rfl (by omega)) (h := ?_) | refine dlgN (hv := by exact Val.rem rfl rfl rfl rfl (by omega)) (h := ?_) | refine ofN (hv := by exact Val.rem rfl rfl rfl rfl (by omega)) (h := ?_)
      obtain ⟨r, er⟩ : ∃ r, r = (z % 1024).tmod ((n - u) * 1 + 1) := ⟨_, rfl⟩
      have hr : 0 ≤ r ∧ r ≤ (n - u) * 1 := by
        have z0 := Int.emod_nonneg z (show (1024 : Int) ≠ 0 by decide)
        have q1 := Int.tmod_nonneg ((n - u) * 1 + 1) z0
        have q2 := Int.tmod_lt_of_pos (z % 1024) (show 0 < (n - u) * 1 + 1 by omega)
        rw [← er] at q1 q2
        exact ⟨q1, by omega⟩
      rw [← er]
      repeat refine w1 (k := ?_)
      refine callRowN (hc := by exact with22_ac _ S k hkS (y % 4) n (by omega) ) (hso := by exact  tkP_ok _ _) (h := ?_)
      refine nrm (k := ?_)
      repeat refine w1 (k := ?_)
      refine callN (ha := congrArg (fun z => [z]) (frz_ownL (k := 99) (xs := (upT S k (gW (y % 4) n)).map tkP) rfl (List.length_map tkP).symm)) (hc := by exact tests_ac _ (up_nm hSn k _ _) (by rw [upT_len]; exact hSm)) (h := ?_)
      rw [m1]
      repeat refine w1 (k := ?_)
      refine callRowN (hc := by exact with22_ac _ S k hkS (y % 4) (n + 1) (by omega) ) (hso := by exact  tkP_ok _ _) (h := ?_)
      refine nrm (k := ?_)
      repeat refine w1 (k := ?_)
      refine callN (ha := congrArg (fun z => [z]) (frz_ownL (k := 109) (xs := (upT S k (gW (y % 4) (n + 1))).map tkP) rfl (List.length_map tkP).symm)) (hc := by exact tests_ac _ (up_nm hSn k _ _) (by rw [upT_len]; exact hSm)) (h := ?_)
      rw [m2]
      repeat refine w1 (k := ?_)
      refine callRowN (hc := by exact with22_ac _ S k hkS (y % 4) (u + 1 * r) (by omega) ) (hso := by exact  tkP_ok _ _) (h := ?_)
      refine nrm (k := ?_)
      repeat refine w1 (k := ?_)
      refine callN (ha := congrArg (fun z => [z]) (frz_ownL (k := 118) (xs := (upT S k (gW (y % 4) (u + 1 * r))).map tkP) rfl (List.length_map tkP).symm)) (hc := by exact tests_ac _ (up_nm hSn k _ _) (by rw [upT_len]; exact hSm)) (h := ?_)
      rw [hbt (u + 1 * r) (by omega) (by omega)]
      repeat refine w1 (k := ?_)
      exact ⟨[.c _], .cons (.tmp rfl) .nil, rfl⟩
theorem sedge_top (sp : List Sp) (q : List Int) (hl : sp.length ≤ maxLen) (hq : q.length = 3) : AC Tryd.prog GL 3 [fro spP sp, .pag (intsP q)] [] (fun r _ => r = vb true) := by
  obtain ⟨x, y, z, rfl⟩ : ∃ x y z, q = [x, y, z] := by
    match q, hq with
    | [x, y, z], _ => exact ⟨x, y, z, rfl⟩
  exact sedge_ac sp x y z hl
