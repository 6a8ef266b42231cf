/- The row 'LoadScales', by values. -/
import Derived.Test.YtjpmbklfaoejmaaDoorA2
import Derived.Test.YtjpmbklfaoejmaaDoorH0
set_option linter.all false
set_option maxHeartbeats 8000000
namespace Go.Proofs.Vl
open Go Go.RowKit
attribute [local irreducible] AWp OpTo Run DL Val UN DR AC Le thn inb nog
theorem and20 (n : Int) : Go.bits .and .i64 n 1048575 = n % 1048576 := by
  have h : (BitVec.ofInt 64 1048575).toNat = 2 ^ 20 - 1 := by decide
  have key : (BitVec.ofInt 64 n &&& BitVec.ofInt 64 1048575).toNat = (n % ((2 ^ 64 : Nat) : Int)).toNat % 2 ^ 20 := by
    rw [BitVec.toNat_and, BitVec.toNat_ofInt, h, Nat.and_two_pow_sub_one_eq_mod]
  show IntKind.i64.wrap ((BitVec.ofInt 64 n &&& BitVec.ofInt 64 1048575).toNat : Nat) = n % 1048576
  rw [key, IntKind.wrap_i64]
  omega
theorem set12_pos (sp : List Sp) (q : Int) (hl : sp.length ≤ maxLen) (most : Int) (hm : 1 ≤ most) : 0 < (setL sp most q).length := by
  have := (sp0_len sp q hl).1
  simp [setL]; omega
theorem sc_mul {t : Tk} (h : small t) (k : Nat) (h2 : k ≤ 1048576) : (0 ≤ t.c * (k : Int) ∧ t.c * (k : Int) ≤ 4194304) ∧ 0 ≤ t.t * (k : Int) ∧ t.t * (k : Int) ≤ 20971520 := by
  obtain ⟨a1, a2, a3, a4⟩ := h
  refine ⟨⟨Int.mul_nonneg (by omega) (by omega), ?_⟩, Int.mul_nonneg (by omega) (by omega), ?_⟩
  · exact Int.le_trans (Int.mul_le_mul a2 (show (k : Int) ≤ 1048576 by omega) (by omega) (by decide)) (by decide)
  · exact Int.le_trans (Int.mul_le_mul a4 (show (k : Int) ≤ 1048576 by omega) (by omega) (by decide)) (by decide)
theorem sc_ok {l : List Tk} (h : ∀ t ∈ l, small t) {k : Nat} (h2 : k ≤ 1048576) : ∀ t ∈ l.map (scT k), tOk t := by
  intro u hu
  obtain ⟨t, ht, rfl⟩ := List.mem_map.1 hu
  have := sc_mul (h t ht) k h2
  exact ⟨⟨by show _ ≤ t.c * (k : Int); omega, by show t.c * (k : Int) < _; omega⟩, by show _ ≤ t.t * (k : Int); omega, by show t.t * (k : Int) < _; omega⟩
theorem map_snoc {l : List Tk} {k j : Nat} (hj : j < l.length) : (l.take j).map (scT k) ++ [scT k l[j]] = (l.take (j + 1)).map (scT k) := by
  rw [List.take_succ_eq_append_getElem hj, List.map_append]; rfl
theorem scales_top (sp : List Sp) (n m : Int) (hl : sp.length ≤ maxLen) : AC Tryd.prog GL 7 [fro spP sp, vi n, vi m] [] (fun r _ => r = vb true) := by
  refine AC.body' Tryd.func7 Tryd.ntmps7 rfl ?_
  intro cx hd hG
  refine nrmL (k := ?_)
  repeat refine w1 (k := ?_)
  obtain ⟨w0, fz0, β0, df, G0⟩ := cx
  obtain rfl : G0 = GL := hG
  refine callN (hc := by exact awake_ac) (h := ?_)
  repeat refine w1 (k := ?_)
  refine OpTo.callO (by rfl) (by rfl) (by rfl) (by rfl) (set_ac _ sp 5 n hl (by decide) (by decide)) ?_
  rintro r os' ⟨rfl, hf⟩
  refine ⟨_, .row rfl hf (tkP_ok _ _) (by decide) rfl, ?_⟩
  have s1 := set12_len sp 5 n
  have s2 := set12_ok sp 5 n
  have s3 := set12_pos sp n hl 5 (by decide)
  generalize setL sp 5 n = s at s1 s2 s3 ⊢
  have s1 : s.length ≤ 5 := s1
  refine nrm (k := ?_)
  repeat refine w1 (k := ?_)
  first | refine zA 23 (h := ?_) | refine zO 23 (h := ?_) | refine zL 23 (h := ?_) | refine zL3 23 (h := ?_)
  rw [and20]
  have k1 := Int.emod_nonneg m (show (1048576 : Int) ≠ 0 by decide)
  have k2 := Int.emod_lt_of_pos m (show (0 : Int) < 1048576 by decide)
  repeat refine w1 (k := ?_)
  obtain ⟨k, hk⟩ : ∃ k : Nat, (k : Int) = 1 + m % 1048576 := ⟨(1 + m % 1048576).toNat, by omega⟩
  rw [← hk]
  have hk1 : 0 < k ∧ k ≤ 1048576 := by omega
  clear k1 k2 hk
  rw [show IntKind.i64.wrap (k : Int) = (k : Int) by rw [IntKind.wrap_i64]; omega]
  refine seedA 10 50 7 35 (h := ?_)
  refine loopN [(27, 24)] (α := Nat) (fun j => [(10, .c (.own 50 7 ((s.take j).map (scT k)).length)), (11, vi j)]) (fun j => [(50, .row 35 7 (((s.take j).map (scT k)).map tkP))]) (fun j => s.length - j) (fun j => j ≤ s.length) (x0 := 0) (h0 := by first | omega | simp | (refine ⟨?_, ?_⟩ <;> first | omega | simp)) (hr := ?_)
  intro j hI
  refine nrmL (k := ?_)
  repeat refine w1 (k := ?_)
  refine condN (h1 := fun h => ?_) (h0 := fun h => ?_)
  ·
    have hj : j < s.length := by omega
    obtain ⟨⟨c1, c2⟩, c3, c4⟩ := sc_mul (s2 _ (List.getElem_mem hj)) k hk1.2
    repeat refine w1 (k := ?_)
    (first | refine DL.takeT 0 rfl (by decide +kernel) rfl (Val.mulI rfl rfl rfl rfl ⟨by omega, by omega⟩) ?_ | refine DL.takeT 0 rfl (by decide +kernel) rfl (Val.ev2 rfl) ?_ | refine DL.takeT 0 rfl (by decide +kernel) rfl (Val.ixN rfl rfl rfl rfl rfl (by omega) (by intro _; rfl)) ?_ | refine DL.takeT 0 rfl (by decide +kernel) rfl (Val.buildP rfl rfl rfl rfl) ?_)
    refine nrm (k := ?_)
    (first | refine DL.takeT 0 rfl (by decide +kernel) rfl (Val.mulI rfl rfl rfl rfl ⟨by omega, by omega⟩) ?_ | refine DL.takeT 0 rfl (by decide +kernel) rfl (Val.ev2 rfl) ?_ | refine DL.takeT 0 rfl (by decide +kernel) rfl (Val.ixN rfl rfl rfl rfl rfl (by omega) (by intro _; rfl)) ?_ | refine DL.takeT 0 rfl (by decide +kernel) rfl (Val.buildP rfl rfl rfl rfl) ?_)
    refine nrm (k := ?_)
    (first | refine DL.takeT 0 rfl (by decide +kernel) rfl (Val.mulI rfl rfl rfl rfl ⟨by omega, by omega⟩) ?_ | refine DL.takeT 0 rfl (by decide +kernel) rfl (Val.ev2 rfl) ?_ | refine DL.takeT 0 rfl (by decide +kernel) rfl (Val.ixN rfl rfl rfl rfl rfl (by omega) (by intro _; rfl)) ?_ | refine DL.takeT 0 rfl (by decide +kernel) rfl (Val.buildP rfl rfl rfl rfl) ?_)
    refine nrm (k := ?_)
    (first | refine DL.takeT 0 rfl (by decide +kernel) rfl (Val.mulI rfl rfl rfl rfl ⟨by omega, by omega⟩) ?_ | refine DL.takeT 0 rfl (by decide +kernel) rfl (Val.ev2 rfl) ?_ | refine DL.takeT 0 rfl (by decide +kernel) rfl (Val.ixN rfl rfl rfl rfl rfl (by omega) (by intro _; rfl)) ?_ | refine DL.takeT 0 rfl (by decide +kernel) rfl (Val.buildP rfl rfl rfl rfl) ?_)
    refine nrm (k := ?_)
    (first | refine DL.takeT 0 rfl (by decide +kernel) rfl (Val.mulI rfl rfl rfl rfl ⟨by omega, by omega⟩) ?_ | refine DL.takeT 0 rfl (by decide +kernel) rfl (Val.ev2 rfl) ?_ | refine DL.takeT 0 rfl (by decide +kernel) rfl (Val.ixN rfl rfl rfl rfl rfl (by omega) (by intro _; rfl)) ?_ | refine DL.takeT 0 rfl (by decide +kernel) rfl (Val.buildP rfl rfl rfl rfl) ?_)
    refine nrm (k := ?_)
    (first | refine DL.takeT 0 rfl (by decide +kernel) rfl (Val.mulI rfl rfl rfl rfl ⟨by omega, by omega⟩) ?_ | refine DL.takeT 0 rfl (by decide +kernel) rfl (Val.ev2 rfl) ?_ | refine DL.takeT 0 rfl (by decide +kernel) rfl (Val.ixN rfl rfl rfl rfl rfl (by omega) (by intro _; rfl)) ?_ | refine DL.takeT 0 rfl (by decide +kernel) rfl (Val.buildP rfl rfl rfl rfl) ?_)
    refine nrm (k := ?_)
    (first | refine DL.takeT 0 rfl (by decide +kernel) rfl (Val.mulI rfl rfl rfl rfl ⟨by omega, by omega⟩) ?_ | refine DL.takeT 0 rfl (by decide +kernel) rfl (Val.ev2 rfl) ?_ | refine DL.takeT 0 rfl (by decide +kernel) rfl (Val.ixN rfl rfl rfl rfl rfl (by omega) (by intro _; rfl)) ?_ | refine DL.takeT 0 rfl (by decide +kernel) rfl (Val.buildP rfl rfl rfl rfl) ?_)
    refine nrm (k := ?_)
    (first | refine DL.takeT 0 rfl (by decide +kernel) rfl (Val.mulI rfl rfl rfl rfl ⟨by omega, by omega⟩) ?_ | refine DL.takeT 0 rfl (by decide +kernel) rfl (Val.ev2 rfl) ?_ | refine DL.takeT 0 rfl (by decide +kernel) rfl (Val.ixN rfl rfl rfl rfl rfl (by omega) (by intro _; rfl)) ?_ | refine DL.takeT 0 rfl (by decide +kernel) rfl (Val.buildP rfl rfl rfl rfl) ?_)
    refine nrm (k := ?_)
    (first | refine DL.takeT 0 rfl (by decide +kernel) rfl (Val.mulI rfl rfl rfl rfl ⟨by omega, by omega⟩) ?_ | refine DL.takeT 0 rfl (by decide +kernel) rfl (Val.ev2 rfl) ?_ | refine DL.takeT 0 rfl (by decide +kernel) rfl (Val.ixN rfl rfl rfl rfl rfl (by omega) (by intro _; rfl)) ?_ | refine DL.takeT 0 rfl (by decide +kernel) rfl (Val.buildP rfl rfl rfl rfl) ?_)
    refine nrm (k := ?_)
    (first | refine DL.takeT 0 rfl (by decide +kernel) rfl (Val.mulI rfl rfl rfl rfl ⟨by omega, by omega⟩) ?_ | refine DL.takeT 0 rfl (by decide +kernel) rfl (Val.ev2 rfl) ?_ | refine DL.takeT 0 rfl (by decide +kernel) rfl (Val.ixN rfl rfl rfl rfl rfl (by omega) (by intro _; rfl)) ?_ | refine DL.takeT 0 rfl (by decide +kernel) rfl (Val.buildP rfl rfl rfl rfl) ?_)
    refine nrm (k := ?_)
    (first | refine DL.takeT 0 rfl (by decide +kernel) rfl (Val.mulI rfl rfl rfl rfl ⟨by omega, by omega⟩) ?_ | refine DL.takeT 0 rfl (by decide +kernel) rfl (Val.ev2 rfl) ?_ | refine DL.takeT 0 rfl (by decide +kernel) rfl (Val.ixN rfl rfl rfl rfl rfl (by omega) (by intro _; rfl)) ?_ | refine DL.takeT 0 rfl (by decide +kernel) rfl (Val.buildP rfl rfl rfl rfl) ?_)
    refine nrm (k := ?_)
    (first | refine DL.takeT 0 rfl (by decide +kernel) rfl (Val.mulI rfl rfl rfl rfl ⟨by omega, by omega⟩) ?_ | refine DL.takeT 0 rfl (by decide +kernel) rfl (Val.ev2 rfl) ?_ | refine DL.takeT 0 rfl (by decide +kernel) rfl (Val.ixN rfl rfl rfl rfl rfl (by omega) (by intro _; rfl)) ?_ | refine DL.takeT 0 rfl (by decide +kernel) rfl (Val.buildP rfl rfl rfl rfl) ?_)
    refine nrm (k := ?_)
    (first | refine DL.takeT 0 rfl (by decide +kernel) rfl (Val.mulI rfl rfl rfl rfl ⟨by omega, by omega⟩) ?_ | refine DL.takeT 0 rfl (by decide +kernel) rfl (Val.ev2 rfl) ?_ | refine DL.takeT 0 rfl (by decide +kernel) rfl (Val.ixN rfl rfl rfl rfl rfl (by omega) (by intro _; rfl)) ?_ | refine DL.takeT 0 rfl (by decide +kernel) rfl (Val.buildP rfl rfl rfl rfl) ?_)
    refine nrm (k := ?_)
    (first | refine DL.takeT 0 rfl (by decide +kernel) rfl (Val.mulI rfl rfl rfl rfl ⟨by omega, by omega⟩) ?_ | refine DL.takeT 0 rfl (by decide +kernel) rfl (Val.ev2 rfl) ?_ | refine DL.takeT 0 rfl (by decide +kernel) rfl (Val.ixN rfl rfl rfl rfl rfl (by omega) (by intro _; rfl)) ?_ | refine DL.takeT 0 rfl (by decide +kernel) rfl (Val.buildP rfl rfl rfl rfl) ?_)
    refine nrm (k := ?_)
    repeat refine w1 (k := ?_)
    refine litA tkP [scT k s[j]] (h := ?_)
    repeat refine w1 (k := ?_)
    have hlj : ((s.take j).map (scT (k : Int))).length = j := by simp; omega
    refine appA 50 64 tkP ((s.take j).map (scT (k : Int))) [scT k s[j]] (hb := by rw [hlj]; simp; omega) (hm := by rw [hlj]; simp; omega) (h := ?_)
    rw [map_snoc hj]
    repeat refine w1 (k := ?_)
    refine ⟨j + 1, by omega, by first | omega | (refine ⟨?_, ?_⟩ <;> omega), frg⟩
  ·
    have hj : j = s.length := by omega
    subst hj
    rw [List.take_length]
    obtain ⟨f, _, e1, f1⟩ := smF_small s2 (by omega)
    have e2 := smF_scale (l := s) s2 (k := k) hk1.1
    obtain ⟨p, p1, p2, p3⟩ := perL_scale s2 s3 (by omega) hk1.1 hk1.2
    have q1 := sc_ok s2 hk1.2
    rw [e1] at e2
    have hlm : (s.map (scT (k : Int))).length ≤ maxLen := by rw [List.length_map, maxLen]; omega
    generalize s.map (scT (k : Int)) = u at *
    have hls : s.length ≤ maxLen := by rw [maxLen]; omega
    repeat refine w1 (k := ?_)
    first | refine zA 50 (h := ?_) | refine zO 50 (h := ?_) | refine zL 50 (h := ?_) | refine zL3 50 (h := ?_)
    refine callN (hc := by exact sum_ac s hls (fun t ht => set12_tok (s2 t ht))) (h := ?_)
    repeat refine w1 (k := ?_)
    rw [e1]
    dsimp only
    refine callN (hc := by exact sum_ac u hlm q1) (h := ?_)
    repeat refine w1 (k := ?_)
    rw [e2]
    dsimp only
    refine callN (hc := by exact period_ac _ s hls (fun t ht => set12_tok (s2 t ht))) (h := ?_)
    repeat refine w1 (k := ?_)
    rw [p1]
    dsimp only [Option.getD_some, Option.isSome_some]
    refine callN (hc := by exact period_ac _ u hlm q1) (h := ?_)
    repeat refine w1 (k := ?_)
    rw [p2]
    dsimp only [Option.getD_some, Option.isSome_some]
    obtain ⟨g1, g2⟩ := mul_c p k p3
    repeat refine w1 (k := ?_)
    first | refine ofN (hv := by exact Val.eqL rfl rfl rfl rfl) (h := ?_) | refine dlN (hv := by exact Val.eqL rfl rfl rfl rfl) (h := ?_) | refine dlgN (hv := by exact Val.eqL rfl rfl rfl rfl) (h := ?_) | refine ofN (hv := by exact Val.eqL rfl rfl rfl rfl) (h := ?_)
    rw [decide_eq_true rfl, Int.natCast_mul]
    repeat refine w1 (k := ?_)
    simp only [beq_self_eq_true, cond_true]
    repeat refine w1 (k := ?_)
    refine ⟨[.c _], .cons (.tmp rfl) .nil, ?_⟩
    rfl
end Go.Proofs.Vl
