/- Chapters 14 and 22: the document's answer. -/
import Derived.Test.YtlegdnmebgfjbaaDoorWF
set_option linter.all false
set_option maxRecDepth 2000
set_option maxHeartbeats 8000000
namespace Go.Proofs.Vl
open Go Go.RowKit
attribute [local irreducible] AWp OpTo Run DL Val UN DR AC Le thn inb nog
theorem need_pos {l : List Tk} {k : Nat} (hk : k < l.length) (hb : isB l (k : Int) = true) (w : Nat) : 1 ≤ needA l (k : Int) w := by
  obtain ⟨hc, _, _, _, _, _⟩ := (is_spec hb).2.1 _ (List.getElem_mem hk)
  unfold needA
  rw [if_pos hb, cAt_nat l k hk]
  show 1 ≤ satN (satN (l[k].c.toNat + (blkA l (k : Int)).toNat) + hghA l (k : Int) w)
  unfold satN
  omega
theorem fit_pos {l : List Tk} {k : Nat} (hk : k < l.length) (hb : isB l (k : Int) = true) : fitA l (k : Int) = true ↔ ∃ w, 1 ≤ w ∧ w ≤ djA l (k : Int) ∧ needA l (k : Int) w ≤ w := by
  rw [fitA_iff hb]
  constructor
  · rintro ⟨w, h1, h2⟩
    have := need_pos hk hb w
    exact ⟨w, by omega, h1, h2⟩
  · rintro ⟨w, _, h1, h2⟩
    exact ⟨w, h1, h2⟩
theorem rbound_ac (G) (l : List Tk) (i : Int) (hl : ∀ t ∈ l, t.nm.size ≤ maxLen) (hn : l.length ≤ maxLen) : AC Tryd.prog G 41 [fro tkP l, vi i] [] (fun r _ => ∃ R : Int, r = .pag [.s (.int .i64 R), .s (.int .i64 (bdE l i))]) := by
  refine AC.body' Tryd.func41 Tryd.ntmps41 rfl ?_
  intro cx hd hG
  refine nrmL (k := ?_)
  repeat refine w1 (k := ?_)
  obtain ⟨w0, fz0, β0, df, G0⟩ := cx
  obtain rfl : G0 = G := hG
  refine callN (hc := by exact ris_ac _ l i hl hn) (h := ?_)
  repeat refine w1 (k := ?_)
  unfold bdE
  cases hb : isB l i with
  | false =>
    rw [Bool.not_false]
    repeat refine w1 (k := ?_)
    exact ⟨[.pag _], .cons (.ldN (n := 2) rfl rfl rfl (Nat.le_refl _)) .nil, _, rfl⟩
  | true =>
    rw [Bool.not_true]
    obtain ⟨f1, f2, k, rfl, f3⟩ := is_spec hb
    obtain ⟨hc, ht, hd, hj, hq, hp⟩ := f2 _ (List.getElem_mem f3)
    obtain ⟨z1, z2, z3⟩ := is_fits hb _ (List.getElem_mem f3)
    have hdj : djA l (k : Int) = (l[k].d - l[k].j).toNat := by unfold djA; rw [Int.toNat_natCast, List.getElem?_eq_getElem f3]
    have hfp := fit_pos f3 hb
    obtain ⟨mo, hmo⟩ : ∃ mo : Nat, mo = djA l (k : Int) := ⟨_, rfl⟩
    rw [← hmo] at hfp
    repeat refine w1 (k := ?_)
    rw [show (AV.c (.p (.s (Value.int IntKind.i64 1)))) = vi ((1 : Nat) : Int) from rfl]
    refine loopN [(13, 31)] (α := Nat) (fun w => [(6, vi (w : Int))]) (fun w => [(4, .pcells 70 [.s (.int .i64 0), .s (.int .i64 0)])]) (fun w => mo + 1 - w) (fun w => 1 ≤ w ∧ w ≤ mo + 1 ∧ ∀ v, 1 ≤ v → v < w → ¬ needA l (k : Int) v ≤ v) (x0 := 1) (h0 := by exact ⟨by omega, by omega, fun v a b => by omega⟩) (hr := ?_)
    intro w hI
    refine nrmL (k := ?_)
    obtain ⟨hI1, hI2, hI3⟩ := hI
    repeat refine w1 (k := ?_)
    refine condN (h1 := fun h1 => ?_) (h0 := fun h1 => ?_)
    ·
      have hw : w ≤ mo := by omega
      repeat refine w1 (k := ?_)
      refine callN (hc := by exact rneed_ac _ l (k : Int) w (by omega) hl hn) (h := ?_)
      repeat refine w1 (k := ?_)
      have hnl := needA_lt l (k : Int) w
      repeat refine w1 (k := ?_)
      refine condN (h1 := fun h2 => ?_) (h0 := fun h2 => ?_)
      ·
        have hft : fitA l (k : Int) = true := hfp.2 ⟨w, hI1, hw, by omega⟩
        rw [hft]
        repeat refine w1 (k := ?_)
        exact ⟨[.pag _], .cons (.ldN (n := 2) rfl rfl rfl (Nat.le_refl _)) .nil, _, rfl⟩
      ·
        repeat refine w1 (k := ?_)
        refine ⟨w + 1, by omega, by refine ⟨by omega, by omega, fun v a b => ?_⟩; by_cases e : v = w; subst e; omega; exact hI3 v a (by omega), frg⟩
    ·
      have hw : w = mo + 1 := by omega
      have hnf : fitA l (k : Int) = false := by
        cases hf : fitA l (k : Int) with
        | false => rfl
        | true =>
          obtain ⟨v, v1, v2, v3⟩ := hfp.1 hf
          exact absurd v3 (hI3 v v1 (by omega))
      rw [hnf]
      repeat refine w1 (k := ?_)
      exact ⟨[.pag _], .cons (.ldN (n := 2) rfl rfl rfl (Nat.le_refl _)) .nil, _, rfl⟩
theorem rtests_ac (G) (l : List Tk) (hl : ∀ t ∈ l, t.nm.size ≤ maxLen) (hn : l.length ≤ maxLen) : AC Tryd.prog G 37 [fro tkP l] [] (fun r _ => r = vb (testsB l)) := by
  refine AC.body' Tryd.func37 Tryd.ntmps37 rfl ?_
  intro cx hd hG
  refine nrmL (k := ?_)
  repeat refine w1 (k := ?_)
  obtain ⟨w0, fz0, β0, df, G0⟩ := cx
  obtain rfl : G0 = G := hG
  have h0 : l.length ≤ 9223372036854775807 := by unfold maxLen at hn; omega
  refine loopN [(2, 1), (4, 11)] (α := Nat) (fun j => [(3, vi (j : Int))]) (fun j => []) (fun j => l.length - j) (fun j => j ≤ l.length ∧ ∀ i : Nat, i < j → bdE l (i : Int) = 0) (x0 := 0) (h0 := by exact ⟨Nat.zero_le _, fun i h => by omega⟩) (hr := ?_)
  intro j hI
  refine nrmL (k := ?_)
  obtain ⟨hI1, hI2⟩ := hI
  repeat refine w1 (k := ?_)
  try simp only [List.length_map]
  refine condN (h1 := fun h1 => ?_) (h0 := fun h1 => ?_)
  ·
    have hj : j < l.length := by omega
    repeat refine w1 (k := ?_)
    refine OpTo.callO (by rfl) (by rfl) (by rfl) (by rfl) (rbound_ac _ l (j : Int) hl hn) ?_
    rintro r os' ⟨R, rfl⟩
    refine ⟨_, .val rfl, ?_⟩
    refine nrm (k := ?_)
    repeat refine w1 (k := ?_)
    first | refine ofN (hv := by exact Val.fldV rfl rfl rfl rfl rfl) (h := ?_) | refine dlN (hv := by exact Val.fldV rfl rfl rfl rfl rfl) (h := ?_) | refine dlgN (hv := by exact Val.fldV rfl rfl rfl rfl rfl) (h := ?_) | refine ofN (hv := by exact Val.fldV rfl rfl rfl rfl rfl) (h := ?_)
    repeat refine w1 (k := ?_)
    by_cases he : bdE l (j : Int) = 0
    ·
      rw [he]
      repeat refine w1 (k := ?_)
      refine ⟨j + 1, by omega, by refine ⟨by omega, fun v a => ?_⟩; by_cases e : v = j; subst e; exact he; exact hI2 v (by omega), frg⟩
    ·
      have ht : testsB l = false := by
        cases ht : testsB l with
        | false => rfl
        | true =>
          have b1 := tests_is ht hj
          have b2 := tests_fit ht hj
          exact absurd (by unfold bdE; rw [if_pos b1, if_pos b2]) he
      rw [show (bdE l (j : Int) != 0) = true from by rw [bne_iff_ne]; exact he, ht]
      repeat refine w1 (k := ?_)
      exact ⟨[.c _], .cons (.tmp rfl) .nil, rfl⟩
  ·
    repeat refine w1 (k := ?_)
    have : j = l.length := by omega
    subst this
    refine callN (hc := by exact allR_ac _ l hl hn) (h := ?_)
    repeat refine w1 (k := ?_)
    first | refine ofN (hv := by exact Val.fldV rfl rfl rfl rfl rfl) (h := ?_) | refine dlN (hv := by exact Val.fldV rfl rfl rfl rfl rfl) (h := ?_) | refine dlgN (hv := by exact Val.fldV rfl rfl rfl rfl rfl) (h := ?_) | refine ofN (hv := by exact Val.fldV rfl rfl rfl rfl rfl) (h := ?_)
    repeat refine w1 (k := ?_)
    have hte : ((allI l).2 == 0) = testsB l := by
      by_cases h : (allI l).2 = 0
      · rw [h]
        have : testsB l = true := by
          unfold testsB
          simp only [Bool.and_eq_true, decide_eq_true_eq, List.all_eq_true]
          refine ⟨h, fun i hi => ?_⟩
          have hi := List.mem_range.1 hi
          have hz := hI2 i hi
          unfold bdE at hz
          rw [if_pos (is_in h hi)] at hz
          cases hf : fitA l (i : Int) with
          | true => rfl
          | false => rw [hf] at hz; cases hz
        rw [this]; rfl
      · have : testsB l = false := by unfold testsB; rw [decide_eq_false h]; rfl
        rw [this, beq_eq_false_iff_ne]; exact h
    try rw [hte]
    exact ⟨[.c _], .cons (.tmp rfl) .nil, rfl⟩
theorem rfine_ac (G) (l : List Tk) (hl : ∀ t ∈ l, t.nm.size ≤ maxLen) (hn : l.length ≤ maxLen) : AC Tryd.prog G 28 [fro tkP l] [] (fun r _ => r = vb (testsB l)) := by
  refine AC.body' Tryd.func28 Tryd.ntmps28 rfl ?_
  intro cx hd hG
  refine nrmL (k := ?_)
  repeat refine w1 (k := ?_)
  obtain ⟨w0, fz0, β0, df, G0⟩ := cx
  obtain rfl : G0 = G := hG
  refine callN (hc := by exact allR_ac _ l hl hn) (h := ?_)
  repeat refine w1 (k := ?_)
  first | refine ofN (hv := by exact Val.fldV rfl rfl rfl rfl rfl) (h := ?_) | refine dlN (hv := by exact Val.fldV rfl rfl rfl rfl rfl) (h := ?_) | refine dlgN (hv := by exact Val.fldV rfl rfl rfl rfl rfl) (h := ?_) | refine ofN (hv := by exact Val.fldV rfl rfl rfl rfl rfl) (h := ?_)
  repeat refine w1 (k := ?_)
  by_cases h : (allI l).2 = 0
  ·
    rw [show ((allI l).2 == 0) = true from by rw [beq_iff_eq]; exact h]
    repeat refine w1 (k := ?_)
    refine callN (hc := by exact rtests_ac _ l hl hn) (h := ?_)
    repeat refine w1 (k := ?_)
    repeat refine w1 (k := ?_)
    exact ⟨[.c _], .cons (.tmp rfl) .nil, rfl⟩
  ·
    rw [show ((allI l).2 == 0) = false from by rw [beq_eq_false_iff_ne]; exact h]
    repeat refine w1 (k := ?_)
    rw [show testsB l = false by unfold testsB; rw [decide_eq_false h]; rfl]
    exact ⟨[.c _], .cons (.tmp rfl) .nil, rfl⟩
