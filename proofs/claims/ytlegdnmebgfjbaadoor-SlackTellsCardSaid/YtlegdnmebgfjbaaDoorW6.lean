/- Chapter 22: halves: the least number that is so, asked of a function that may change what it has captured. -/
import Derived.Test.YtlegdnmebgfjbaaDoorW5
set_option linter.all false
set_option maxRecDepth 2000
set_option maxHeartbeats 8000000
namespace Go.Proofs.Vl
open Go Go.RowKit
attribute [local irreducible] AWp OpTo Run DL Val UN DR AC Le thn inb nog
theorem wrap_half {a b : Int} (ha : ok64 a) (hb : ok64 b) (h : a ≤ b) : IntKind.u64.wrap (IntKind.i64.wrap (b - a)) = b - a := by
  unfold ok64 at ha hb
  rw [IntKind.wrap_u64, IntKind.wrap_i64]
  omega
theorem half_id {a b : Int} (ha : ok64 a) (hb : ok64 b) (h : a ≤ b) : IntKind.i64.wrap (a + IntKind.i64.wrap (IntKind.u64.wrap ((IntKind.u64.wrap (IntKind.i64.wrap (b - a))).tdiv 2))) = a + (b - a) / 2 := by
  rw [wrap_half ha hb h]
  unfold ok64 at ha hb
  rw [Int.tdiv_eq_ediv_of_nonneg (by omega), show IntKind.u64.wrap ((b - a) / 2) = (b - a) / 2 by rw [IntKind.wrap_u64]; omega, show IntKind.i64.wrap ((b - a) / 2) = (b - a) / 2 by rw [IntKind.wrap_i64]; omega, show IntKind.i64.wrap (a + (b - a) / 2) = a + (b - a) / 2 by rw [IntKind.wrap_i64]; omega]
theorem least_ac (G) (fS : Nat) (hfS : isFn Tryd.prog fS = true) (caps : List Cap) (hcap : caps.all capOk = true) {σ : Type} (os : σ → List (Nat × Ob)) (hback : ∀ s, dnO [] (lend (os s)) = os s) (step : σ → Int → σ) (so : Int → Bool)
    (lo hi : Int) (h1 : ok64 lo) (h2 : ok64 hi)
    (hc : ∀ s n, lo ≤ n → n ≤ hi → AC Tryd.prog G fS (vi n :: caps.map Cap.av) (lend (os s)) (fun r os' => r = vb (so n) ∧ os' = lend (os (step s n))))
    (Inv : Nat → σ → Prop) (hst : ∀ k s n, lo ≤ n → n ≤ hi → Inv k s → Inv (k + 1) (step s n)) (s0 : σ) (h0 : Inv 0 s0) :
    AC Tryd.prog G 10 [vi lo, vi hi, .c (.fn fS caps)] (os s0) (fun r os' => r = .tup [ti (leN so lo hi), .c (.p (.s (.bool (leB so lo hi))))] ∧ ∃ k s, k ≤ 66 ∧ Inv k s ∧ os' = os s) := by
  refine AC.body' Tryd.func10 Tryd.ntmps10 rfl ?_
  intro cx hd hG
  refine nrmL (k := ?_)
  repeat refine w1 (k := ?_)
  obtain ⟨w0, fz0, β0, df, G0⟩ := cx
  obtain rfl : G0 = G := hG
  unfold leN leB
  first | refine bothTN (h1 := fun h3 => ?_) (h0 := fun h3 => ?_) | refine bothFN (h1 := fun h3 => ?_) (h0 := fun h3 => ?_)
  all_goals repeat refine w1 (k := ?_)
  ·
    rw [decide_eq_true h3]
    refine OpTo.callF [] (hc s0 hi h3 (Int.le_refl _)) rfl rfl hcap rfl hfS rfl rfl rfl rfl ?_
    rintro r os' ⟨rfl, rfl⟩
    rw [hback]
    simp only [lend, Ob.up, AV.up, TV.up, CV.up, Cap.up, Nat.reduceAdd, dnO, kdn, look, lookB, Ob.dn, AV.dn, TV.dn, CV.dn, capDn, List.map, Nat.reduceLeDiff, Nat.reduceSub, if_true, if_false, ite_true, ite_false, Option.map_some]
    refine nrm (k := ?_)
    repeat refine w1 (k := ?_)
    have hi1 := hst 0 s0 hi h3 (Int.le_refl _) h0
    generalize step s0 hi = s1 at *
    cases hso : so hi with
    | false =>
      rw [Bool.not_false]
      repeat refine w1 (k := ?_)
      rw [if_neg (fun h => by cases h.2)]
      exact ⟨[.c _, .c _], .cons (.tmp rfl) (.cons (.tmp rfl) .nil), rfl, 1, s1, by omega, hi1, rfl⟩
    | true =>
      rw [Bool.not_true, if_pos ⟨h3, rfl⟩]
      repeat refine w1 (k := ?_)
      have hpw : hi - lo < 2 ^ 64 := by unfold ok64 at h1 h2; omega
      refine loopN [(8, 1), (18, 17)] (α := Int × Int × Nat × σ) (fun x => [(0, vi x.1), (1, vi x.2.1)]) (fun x =>  os x.2.2.2) (fun x => (x.2.1 - x.1).toNat) (fun x => lo ≤ x.1 ∧ x.1 ≤ x.2.1 ∧ x.2.1 ≤ hi ∧ x.2.2.1 ≤ 64 ∧ x.2.1 - x.1 < 2 ^ x.2.2.1 ∧ Inv (65 - x.2.2.1) x.2.2.2 ∧ lsF so x.2.2.1 x.1 x.2.1 = lsF so 64 lo hi) (x0 := (lo, hi, 64, s1)) (h0 := by exact ⟨Int.le_refl _, h3, Int.le_refl _, Nat.le_refl _, hpw, hi1, rfl⟩) (hr := ?_)
      intro x hI
      refine nrmL (k := ?_)
      obtain ⟨a, b, f, s⟩ := x
      dsimp only at hI
      obtain ⟨i1, i2, i3, i4, i5, i6, i7⟩ := hI
      have ha : ok64 a := by unfold ok64 at h1 h2 ⊢; omega
      have hb : ok64 b := by unfold ok64 at h1 h2 ⊢; omega
      repeat refine w1 (k := ?_)
      refine condN (h1 := fun h4 => ?_) (h0 := fun h4 => ?_)
      ·
        repeat refine w1 (k := ?_)
        have hr : b = lsF so 64 lo hi := by rw [← i7, h4]; cases f <;> simp [lsF]
        rw [hr]
        exact ⟨[.c _, .c _], .cons (.tmp rfl) (.cons (.tmp rfl) .nil), rfl, _, s, by omega, i6, rfl⟩
      ·
        repeat refine w1 (k := ?_)
        rw [half_id ha hb i2]
        cases f with
        | zero => simp at i5; omega
        | succ f =>
          have hp : (2 : Int) ^ (f + 1) = 2 * 2 ^ f := by rw [Int.pow_succ]; omega
          rw [hp] at i5
          have hls : lsF so (f + 1) a b = if so (a + (b - a) / 2) then lsF so f a (a + (b - a) / 2) else lsF so f (a + (b - a) / 2 + 1) b := by
            rw [lsF, if_neg h4]
          rw [hls] at i7
          have hi2 := hst _ s (a + (b - a) / 2) (by omega) (by omega) i6
          rw [show 65 - (f + 1) + 1 = 65 - f by omega] at hi2
          have hcm := hc s (a + (b - a) / 2) (by omega) (by omega)
          have hm1 : lo ≤ a + (b - a) / 2 ∧ a + (b - a) / 2 ≤ hi := by omega
          have hm2 : a ≤ a + (b - a) / 2 ∧ a + (b - a) / 2 < b := by omega
          have hm3 : a + (b - a) / 2 - a < 2 ^ f ∧ b - (a + (b - a) / 2 + 1) < 2 ^ f := by omega
          generalize a + (b - a) / 2 = m at *
          have hm4 : -9223372036854775808 ≤ m ∧ m + 1 < 9223372036854775808 := by unfold ok64 at ha hb; omega
          refine OpTo.callF [] hcm rfl rfl hcap rfl hfS rfl rfl rfl rfl ?_
          rintro r os' ⟨rfl, rfl⟩
          rw [hback]
          simp only [lend, Ob.up, AV.up, TV.up, CV.up, Cap.up, Nat.reduceAdd, dnO, kdn, look, lookB, Ob.dn, AV.dn, TV.dn, CV.dn, capDn, List.map, Nat.reduceLeDiff, Nat.reduceSub, if_true, if_false, ite_true, ite_false, Option.map_some]
          refine nrm (k := ?_)
          repeat refine w1 (k := ?_)
          generalize step s m = s2 at *
          cases hsm : so m with
          | true =>
            rw [hsm, if_pos rfl] at i7
            repeat refine w1 (k := ?_)
            refine ⟨(a, m, f, s2), by dsimp only; omega, by dsimp only; exact ⟨i1, hm2.1, by omega, by omega, hm3.1, hi2, i7⟩, frg⟩
          | false =>
            rw [hsm, if_neg (by simp)] at i7
            repeat refine w1 (k := ?_)
            refine ⟨(m + 1, b, f, s2), by dsimp only; omega, by dsimp only; exact ⟨by omega, by omega, i3, by omega, hm3.2, hi2, i7⟩, frg⟩
  ·
    repeat refine w1 (k := ?_)
    rw [if_neg (fun h => by omega), decide_eq_false (show ¬ lo ≤ hi by omega)]
    exact ⟨[.c _, .c _], .cons (.tmp rfl) (.cons (.tmp rfl) .nil), rfl, 0, s0, by omega, h0, rfl⟩
