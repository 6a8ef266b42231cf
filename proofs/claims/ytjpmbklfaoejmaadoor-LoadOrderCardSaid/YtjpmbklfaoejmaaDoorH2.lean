/- The references' sums of loads and multiples of periods. -/
import Derived.Test.YtjpmbklfaoejmaaDoorH0
set_option linter.all false
set_option maxHeartbeats 8000000
namespace Go.Proofs.Vl
open Go Go.RowKit
attribute [local irreducible] AWp OpTo Run DL Val UN DR AC Le thn inb nog
theorem rform_ac (G) (n d : Nat) (hn : n < 18446744073709551616) (hdd : d < 18446744073709551616) (h0 : 0 < d) : AC Tryd.prog G 40 [vn n, vn d] [] (fun r _ => r = .pag (ldP (fm n d))) := by
  refine AC.body' Tryd.func40 Tryd.ntmps40 rfl ?_
  intro cx hd hG
  refine nrmL (k := ?_)
  repeat refine w1 (k := ?_)
  refine callN (hc := by exact rgcd_ac d _ n d (Nat.le_refl _) hn hdd) (h := ?_)
  repeat refine w1 (k := ?_)
  have g : 0 < Nat.gcd n d := Nat.gcd_pos_of_pos_right n h0
  repeat refine w1 (k := ?_)
  refine ⟨[.pag _], .cons (.ldF rfl rfl rfl rfl) .nil, ?_⟩
  rfl
theorem rof_ac (G) (t : Tk) (hc : i64 t.c) (ht : i64 t.t) : AC Tryd.prog G 30 [.pag (tkP t)] [] (fun r _ => r = .pag (ldP (tkF t))) := by
  refine AC.body' Tryd.func30 Tryd.ntmps30 rfl ?_
  intro cx hd hG
  refine nrmL (k := ?_)
  repeat refine w1 (k := ?_)
  first | refine bothTN (h1 := fun h1 => ?_) (h0 := fun h1 => ?_) | refine bothFN (h1 := fun h1 => ?_) (h0 := fun h1 => ?_)
  all_goals repeat refine w1 (k := ?_)
  ·
    refine condN (h1 := fun h2 => ?_) (h0 := fun h2 => ?_)
    ·
      repeat refine w1 (k := ?_)
      refine ⟨[.pag _], .cons (.ldF rfl rfl rfl rfl) .nil, ?_⟩
      rw [tkF, ofF, if_pos (by omega)]; rfl
    ·
      obtain ⟨nm, c, t, d, j, q, p⟩ := t
      dsimp only at *
      obtain ⟨c, rfl⟩ := Int.eq_ofNat_of_zero_le (show 0 ≤ c by omega)
      obtain ⟨t, rfl⟩ := Int.eq_ofNat_of_zero_le (show 0 ≤ t by omega)
      obtain ⟨hc1, hc2⟩ := hc
      obtain ⟨ht1, ht2⟩ := ht
      repeat refine w1 (k := ?_)
      refine callN (hc := by exact rform_ac _ c t (by omega) (by omega) (by omega)) (h := ?_)
      repeat refine w1 (k := ?_)
      refine ⟨[.pag _], .cons (.ldF rfl rfl rfl rfl) .nil, ?_⟩
      rw [tkF, ofF, if_neg (by dsimp only; omega)]; rfl
  ·
    refine ⟨[.pag _], .cons (.ldF rfl rfl rfl rfl) .nil, ?_⟩
    rw [tkF, ofF, if_pos (by omega)]; rfl
/-- A load and an error. -/
def gotP (f : Nat × Nat) (e : Int) : List PV := [.s (.int .u64 (f.1 : Int)), .s (.int .u64 (f.2 : Int)), .s (.int .i64 e)]
theorem okN_nat (n : Nat) : ∃ m : Nat, okN n = (m : Int) ∧ m < 18446744073709551616 ∧ (okB n = true → m = n) := by
  by_cases h : n < 18446744073709551616
  · exact ⟨n, by rw [okN, if_pos h], h, fun _ => rfl⟩
  · exact ⟨0, by rw [okN, if_neg h]; rfl, by decide, fun g => absurd (of_decide_eq_true g) h⟩
theorem radd12_ac (G) (a b : Nat × Nat) (ha : lOk a) (hb : lOk b) (ha0 : 0 < a.2) (hb0 : 0 < b.2) : AC Tryd.prog G 38 [.pag (ldP a), .pag (ldP b)] [] (fun r _ => r = .pag (gotP (adF a b) (if adB a b then 0 else 17))) := by
  refine AC.body' Tryd.func38 Tryd.ntmps38 rfl ?_
  intro cx hd hG
  refine nrmL (k := ?_)
  repeat refine w1 (k := ?_)
  refine callN (hc := by exact rlcm_ac _ a.2 b.2 ha.2 hb.2) (h := ?_)
  repeat refine w1 (k := ?_)
  obtain ⟨g1, g2⟩ := lcN_pos ha0 hb0
  rw [g1, g2]
  repeat refine w1 (k := ?_)
  cases q1 : okB (Nat.lcm a.2 b.2)
  ·
    repeat refine w1 (k := ?_)
    refine ⟨[.pag _], .cons (.ldF rfl rfl rfl rfl) .nil, ?_⟩
    rw [adF, show adB a b = false by rw [adB, q1]; rfl]; rfl
  ·
    obtain ⟨e1, k1⟩ := okB_t q1
    rw [e1]
    repeat refine w1 (k := ?_)
    rw [show ((Nat.lcm a.2 b.2 : Nat) : Int) / (a.2 : Int) = ((Nat.lcm a.2 b.2 / a.2 : Nat) : Int) from rfl]
    refine DL.two 0 1 rfl rfl (by decide +kernel) rfl rfl ?_ ?_
    ·
      refine callN (hc := by exact rmul_ac _ a.1 (Nat.lcm a.2 b.2 / a.2) ha.1 (Nat.lt_of_le_of_lt (Nat.div_le_self _ _) k1)) (h := ?_)
      repeat refine w1 (k := ?_)
      rw [show a.1 * (Nat.lcm a.2 b.2 / a.2) = sx a b from rfl]
      repeat refine w1 (k := ?_)
      rw [show ((Nat.lcm a.2 b.2 : Nat) : Int) / (b.2 : Int) = ((Nat.lcm a.2 b.2 / b.2 : Nat) : Int) from rfl]
      refine DL.two 0 1 rfl rfl (by decide +kernel) rfl rfl ?_ ?_
      ·
        refine callN (hc := by exact rmul_ac _ b.1 (Nat.lcm a.2 b.2 / b.2) hb.1 (Nat.lt_of_le_of_lt (Nat.div_le_self _ _) k1)) (h := ?_)
        repeat refine w1 (k := ?_)
        rw [show b.1 * (Nat.lcm a.2 b.2 / b.2) = sy a b from rfl]
        repeat refine w1 (k := ?_)
        obtain ⟨m1, f1, l1, u1⟩ := okN_nat (sx a b)
        obtain ⟨m2, f2, l2, u2⟩ := okN_nat (sy a b)
        rw [f1, f2]
        refine callN (hc := by exact radd_ac _ m1 m2 l1 l2) (h := ?_)
        repeat refine w1 (k := ?_)
        repeat refine w1 (k := ?_)
        cases q2 : okB (sx a b)
        ·
          repeat refine w1 (k := ?_)
          refine ⟨[.pag _], .cons (.ldF rfl rfl rfl rfl) .nil, ?_⟩
          rw [adF, show adB a b = false by rw [adB]; simp only [*, Bool.false_and, Bool.true_and]]; rfl
        ·
          repeat refine w1 (k := ?_)
          cases q3 : okB (sy a b)
          ·
            repeat refine w1 (k := ?_)
            refine ⟨[.pag _], .cons (.ldF rfl rfl rfl rfl) .nil, ?_⟩
            rw [adF, show adB a b = false by rw [adB]; simp only [*, Bool.false_and, Bool.true_and]]; rfl
          ·
            obtain rfl := u1 q2
            obtain rfl := u2 q3
            repeat refine w1 (k := ?_)
            cases q4 : okB (sx a b + sy a b)
            ·
              repeat refine w1 (k := ?_)
              refine ⟨[.pag _], .cons (.ldF rfl rfl rfl rfl) .nil, ?_⟩
              rw [adF, show adB a b = false by rw [adB]; simp only [*, Bool.false_and, Bool.true_and]]; rfl
            ·
              obtain ⟨e4, k4⟩ := okB_t q4
              rw [e4]
              repeat refine w1 (k := ?_)
              refine callN (hc := by exact rform_ac _ (sx a b + sy a b) (Nat.lcm a.2 b.2) k4 k1 (Nat.lcm_pos ha0 hb0)) (h := ?_)
              repeat refine w1 (k := ?_)
              refine ⟨[.pag _], .cons (.ldF rfl rfl rfl rfl) .nil, ?_⟩
              rw [adF, show adB a b = true by rw [adB]; simp only [*, Bool.and_true, Bool.true_and]]; rfl
      ·
        repeat refine w1 (k := ?_)
        refine callN (hc := by exact rmul_ac _ b.1 (Nat.lcm a.2 b.2 / b.2) hb.1 (Nat.lt_of_le_of_lt (Nat.div_le_self _ _) k1)) (h := ?_)
        repeat refine w1 (k := ?_)
        rw [show b.1 * (Nat.lcm a.2 b.2 / b.2) = sy a b from rfl]
        repeat refine w1 (k := ?_)
        obtain ⟨m1, f1, l1, u1⟩ := okN_nat (sx a b)
        obtain ⟨m2, f2, l2, u2⟩ := okN_nat (sy a b)
        rw [f1, f2]
        refine callN (hc := by exact radd_ac _ m1 m2 l1 l2) (h := ?_)
        repeat refine w1 (k := ?_)
        repeat refine w1 (k := ?_)
        cases q2 : okB (sx a b)
        ·
          repeat refine w1 (k := ?_)
          refine ⟨[.pag _], .cons (.ldF rfl rfl rfl rfl) .nil, ?_⟩
          rw [adF, show adB a b = false by rw [adB]; simp only [*, Bool.false_and, Bool.true_and]]; rfl
        ·
          repeat refine w1 (k := ?_)
          cases q3 : okB (sy a b)
          ·
            repeat refine w1 (k := ?_)
            refine ⟨[.pag _], .cons (.ldF rfl rfl rfl rfl) .nil, ?_⟩
            rw [adF, show adB a b = false by rw [adB]; simp only [*, Bool.false_and, Bool.true_and]]; rfl
          ·
            obtain rfl := u1 q2
            obtain rfl := u2 q3
            repeat refine w1 (k := ?_)
            cases q4 : okB (sx a b + sy a b)
            ·
              repeat refine w1 (k := ?_)
              refine ⟨[.pag _], .cons (.ldF rfl rfl rfl rfl) .nil, ?_⟩
              rw [adF, show adB a b = false by rw [adB]; simp only [*, Bool.false_and, Bool.true_and]]; rfl
            ·
              obtain ⟨e4, k4⟩ := okB_t q4
              rw [e4]
              repeat refine w1 (k := ?_)
              refine callN (hc := by exact rform_ac _ (sx a b + sy a b) (Nat.lcm a.2 b.2) k4 k1 (Nat.lcm_pos ha0 hb0)) (h := ?_)
              repeat refine w1 (k := ?_)
              refine ⟨[.pag _], .cons (.ldF rfl rfl rfl rfl) .nil, ?_⟩
              rw [adF, show adB a b = true by rw [adB]; simp only [*, Bool.and_true, Bool.true_and]]; rfl
    ·
      repeat refine w1 (k := ?_)
      refine callN (hc := by exact rmul_ac _ a.1 (Nat.lcm a.2 b.2 / a.2) ha.1 (Nat.lt_of_le_of_lt (Nat.div_le_self _ _) k1)) (h := ?_)
      repeat refine w1 (k := ?_)
      rw [show a.1 * (Nat.lcm a.2 b.2 / a.2) = sx a b from rfl]
      repeat refine w1 (k := ?_)
      rw [show ((Nat.lcm a.2 b.2 : Nat) : Int) / (b.2 : Int) = ((Nat.lcm a.2 b.2 / b.2 : Nat) : Int) from rfl]
      refine DL.two 0 1 rfl rfl (by decide +kernel) rfl rfl ?_ ?_
      ·
        refine callN (hc := by exact rmul_ac _ b.1 (Nat.lcm a.2 b.2 / b.2) hb.1 (Nat.lt_of_le_of_lt (Nat.div_le_self _ _) k1)) (h := ?_)
        repeat refine w1 (k := ?_)
        rw [show b.1 * (Nat.lcm a.2 b.2 / b.2) = sy a b from rfl]
        repeat refine w1 (k := ?_)
        obtain ⟨m1, f1, l1, u1⟩ := okN_nat (sx a b)
        obtain ⟨m2, f2, l2, u2⟩ := okN_nat (sy a b)
        rw [f1, f2]
        refine callN (hc := by exact radd_ac _ m1 m2 l1 l2) (h := ?_)
        repeat refine w1 (k := ?_)
        repeat refine w1 (k := ?_)
        cases q2 : okB (sx a b)
        ·
          repeat refine w1 (k := ?_)
          refine ⟨[.pag _], .cons (.ldF rfl rfl rfl rfl) .nil, ?_⟩
          rw [adF, show adB a b = false by rw [adB]; simp only [*, Bool.false_and, Bool.true_and]]; rfl
        ·
          repeat refine w1 (k := ?_)
          cases q3 : okB (sy a b)
          ·
            repeat refine w1 (k := ?_)
            refine ⟨[.pag _], .cons (.ldF rfl rfl rfl rfl) .nil, ?_⟩
            rw [adF, show adB a b = false by rw [adB]; simp only [*, Bool.false_and, Bool.true_and]]; rfl
          ·
            obtain rfl := u1 q2
            obtain rfl := u2 q3
            repeat refine w1 (k := ?_)
            cases q4 : okB (sx a b + sy a b)
            ·
              repeat refine w1 (k := ?_)
              refine ⟨[.pag _], .cons (.ldF rfl rfl rfl rfl) .nil, ?_⟩
              rw [adF, show adB a b = false by rw [adB]; simp only [*, Bool.false_and, Bool.true_and]]; rfl
            ·
              obtain ⟨e4, k4⟩ := okB_t q4
              rw [e4]
              repeat refine w1 (k := ?_)
              refine callN (hc := by exact rform_ac _ (sx a b + sy a b) (Nat.lcm a.2 b.2) k4 k1 (Nat.lcm_pos ha0 hb0)) (h := ?_)
              repeat refine w1 (k := ?_)
              refine ⟨[.pag _], .cons (.ldF rfl rfl rfl rfl) .nil, ?_⟩
              rw [adF, show adB a b = true by rw [adB]; simp only [*, Bool.and_true, Bool.true_and]]; rfl
      ·
        repeat refine w1 (k := ?_)
        refine callN (hc := by exact rmul_ac _ b.1 (Nat.lcm a.2 b.2 / b.2) hb.1 (Nat.lt_of_le_of_lt (Nat.div_le_self _ _) k1)) (h := ?_)
        repeat refine w1 (k := ?_)
        rw [show b.1 * (Nat.lcm a.2 b.2 / b.2) = sy a b from rfl]
        repeat refine w1 (k := ?_)
        obtain ⟨m1, f1, l1, u1⟩ := okN_nat (sx a b)
        obtain ⟨m2, f2, l2, u2⟩ := okN_nat (sy a b)
        rw [f1, f2]
        refine callN (hc := by exact radd_ac _ m1 m2 l1 l2) (h := ?_)
        repeat refine w1 (k := ?_)
        repeat refine w1 (k := ?_)
        cases q2 : okB (sx a b)
        ·
          repeat refine w1 (k := ?_)
          refine ⟨[.pag _], .cons (.ldF rfl rfl rfl rfl) .nil, ?_⟩
          rw [adF, show adB a b = false by rw [adB]; simp only [*, Bool.false_and, Bool.true_and]]; rfl
        ·
          repeat refine w1 (k := ?_)
          cases q3 : okB (sy a b)
          ·
            repeat refine w1 (k := ?_)
            refine ⟨[.pag _], .cons (.ldF rfl rfl rfl rfl) .nil, ?_⟩
            rw [adF, show adB a b = false by rw [adB]; simp only [*, Bool.false_and, Bool.true_and]]; rfl
          ·
            obtain rfl := u1 q2
            obtain rfl := u2 q3
            repeat refine w1 (k := ?_)
            cases q4 : okB (sx a b + sy a b)
            ·
              repeat refine w1 (k := ?_)
              refine ⟨[.pag _], .cons (.ldF rfl rfl rfl rfl) .nil, ?_⟩
              rw [adF, show adB a b = false by rw [adB]; simp only [*, Bool.false_and, Bool.true_and]]; rfl
            ·
              obtain ⟨e4, k4⟩ := okB_t q4
              rw [e4]
              repeat refine w1 (k := ?_)
              refine callN (hc := by exact rform_ac _ (sx a b + sy a b) (Nat.lcm a.2 b.2) k4 k1 (Nat.lcm_pos ha0 hb0)) (h := ?_)
              repeat refine w1 (k := ?_)
              refine ⟨[.pag _], .cons (.ldF rfl rfl rfl rfl) .nil, ?_⟩
              rw [adF, show adB a b = true by rw [adB]; simp only [*, Bool.and_true, Bool.true_and]]; rfl
theorem rsum12_ac (G) (l : List Tk) (hl : l.length ≤ maxLen) (ho : ∀ t ∈ l, tOk t) : AC Tryd.prog G 27 [fro tkP l] [] (fun r _ => r = .pag (gotP (smF l).1 (smF l).2)) := by
  refine AC.body' Tryd.func27 Tryd.ntmps27 rfl ?_
  intro cx hd hG
  refine nrmL (k := ?_)
  repeat refine w1 (k := ?_)
  have hl2 := hl
  rw [maxLen] at hl2
  refine cutIN [(4, 38)] (α := Unit) (fun u => []) (fun u => [(2, .pcells 60 (gotP (0, 0) 0)), (3, .pcells 60 (gotP (0, 1) 0))]) (fun u => l.any badB = false) ?_ (fun u hI => ?_)
  ·
    refine loopN [(8, 14)] (α := Nat) (fun j => [(4, vi j)]) (fun j => [(2, .pcells 60 (gotP (0, 0) 0)), (3, .pcells 60 (gotP (0, 1) 0))]) (fun j => l.length - j) (fun j => j ≤ l.length ∧ (l.take j).any badB = false) (x0 := 0) (h0 := by first | omega | simp | (refine ⟨?_, ?_⟩ <;> first | omega | simp)) (hr := ?_)
    intro j hI
    refine nrmL (k := ?_)
    repeat refine w1 (k := ?_)
    refine condN (h1 := fun h => ?_) (h0 := fun h => ?_)
    ·
      have hj : j < l.length := by omega
      repeat refine w1 (k := ?_)
      refine callN (hc := by exact rof_ac _ l[j] (ho _ (List.getElem_mem _)).1 (ho _ (List.getElem_mem _)).2) (h := ?_)
      repeat refine w1 (k := ?_)
      first | refine ofN (hv := by exact Val.eqL (b := (0, 0)) rfl rfl rfl rfl) (h := ?_) | refine dlN (hv := by exact Val.eqL (b := (0, 0)) rfl rfl rfl rfl) (h := ?_) | refine dlgN (hv := by exact Val.eqL (b := (0, 0)) rfl rfl rfl rfl) (h := ?_) | refine ofN (hv := by exact Val.eqL (b := (0, 0)) rfl rfl rfl rfl) (h := ?_)
      repeat refine w1 (k := ?_)
      by_cases hb : tkF l[j] = (0, 0)
      ·
        rw [decide_eq_true hb]
        repeat refine w1 (k := ?_)
        refine ⟨[.pag _], .cons (.ldF rfl rfl rfl rfl) .nil, ?_⟩
        rw [smF, if_pos (any_yes hj (decide_eq_true hb))]; rfl
      ·
        rw [decide_eq_false hb]
        repeat refine w1 (k := ?_)
        refine ⟨j + 1, by omega, by exact ⟨by omega, any_take hj hI.2 (decide_eq_false hb)⟩, frg⟩
    ·
      have hj : j = l.length := by omega
      repeat refine w1 (k := ?_)
      refine ⟨(), by rw [hj, List.take_length] at hI; exact hI.2, frg⟩
  have hI0 := hI
  clear hI
  refine nrmL (k := ?_)
  repeat refine w1 (k := ?_)
  refine cutIN [(4, 38)] (α := Nat × Nat) (fun a => []) (fun a => [(2, .pcells 60 (gotP (0, 0) 0)), (3, .pcells 60 (gotP a 0))]) (fun a => sumF (0, 1) l = some a) ?_ (fun a hI => ?_)
  ·
    refine nrmL (k := ?_)
    refine loopN [(22, 18)] (α := Nat × (Nat × Nat)) (fun x => [(5, vi x.1)]) (fun x => [(2, .pcells 60 (gotP (0, 0) 0)), (3, .pcells 60 (gotP x.2 0))]) (fun x => l.length - x.1) (fun x => x.1 ≤ l.length ∧ lOk x.2 ∧ 0 < x.2.2 ∧ sumF (0, 1) l = sumF x.2 (l.drop x.1)) (x0 := (0, (0, 1))) (h0 := by exact ⟨by omega, ⟨by decide, by decide⟩, by decide, rfl⟩) (hr := ?_)
    intro x hI
    refine nrmL (k := ?_)
    obtain ⟨j, a⟩ := x
    dsimp only at hI ⊢
    obtain ⟨b1, b2, b3, b4⟩ := hI
    repeat refine w1 (k := ?_)
    refine condN (h1 := fun h => ?_) (h0 := fun h => ?_)
    ·
      have hj : j < l.length := by omega
      have ht := ho _ (List.getElem_mem hj)
      have hp := tkF_pos (any_get hI0 hj)
      repeat refine w1 (k := ?_)
      refine DL.take (x := .pag (ldP a)) 0 rfl (by decide +kernel) rfl (Val.ldN (n := 2) (cs := gotP a 0) (by kernel_rfl) rfl rfl (show 2 ≤ 3 by decide)) ?_
      refine nrm (k := ?_)
      repeat refine w1 (k := ?_)
      refine callN (hc := by exact rof_ac _ l[j] ht.1 ht.2) (h := ?_)
      repeat refine w1 (k := ?_)
      refine callN (hc := by exact radd12_ac _ a (tkF l[j]) b2 (tkF_ok ht) b3 hp) (h := ?_)
      repeat refine w1 (k := ?_)
      rw [sumF_step hj] at b4
      cases hb : adB a (tkF l[j])
      ·
        repeat refine w1 (k := ?_)
        refine ⟨[.pag _], .cons (.ldF rfl rfl rfl rfl) .nil, ?_⟩
        rw [hb, if_neg (by decide)] at b4
        rw [show smF l = ((0, 0), 17) by rw [smF, if_neg (by rw [hI0]; decide), b4], adF, hb]; rfl
      ·
        repeat refine w1 (k := ?_)
        rw [hb, if_pos rfl] at b4
        have hk := adF_ok hb b3 hp
        refine ⟨(j + 1, adF a (tkF l[j])), by omega, by exact ⟨by dsimp only; omega, hk.1, hk.2, b4⟩, frg⟩
    ·
      have hj : j = l.length := by omega
      repeat refine w1 (k := ?_)
      refine ⟨a, by rw [hj, List.drop_length] at b4; exact b4, frg⟩
  refine nrmL (k := ?_)
  repeat refine w1 (k := ?_)
  refine ⟨[.pag _], .cons (.ldF rfl rfl rfl rfl) .nil, ?_⟩
  rw [smF, if_neg (by rw [hI0]; decide), hI]; rfl
theorem rperiod_ac (G) (l : List Tk) (hl : l.length ≤ maxLen) (ho : ∀ t ∈ l, tOk t) : AC Tryd.prog G 29 [fro tkP l] [] (fun r _ => r = .pag (numP (((perL l).getD 0 : Nat) : Int) (perL l).isSome)) := by
  refine AC.body' Tryd.func29 Tryd.ntmps29 rfl ?_
  intro cx hd hG
  refine nrmL (k := ?_)
  repeat refine w1 (k := ?_)
  have hl2 := hl
  rw [maxLen] at hl2
  refine cutIN [(4, 35)] (α := Unit) (fun u => []) (fun u => [(2, .pcells 65 (numP 0 false)), (3, .pcells 65 (numP 1 true))]) (fun u => l.all per1 = true) ?_ (fun u hI => ?_)
  ·
    refine loopN [(7, 13)] (α := Nat) (fun j => [(4, vi j)]) (fun j => [(2, .pcells 65 (numP 0 false)), (3, .pcells 65 (numP 1 true))]) (fun j => l.length - j) (fun j => j ≤ l.length ∧ (l.take j).all per1 = true) (x0 := 0) (h0 := by first | omega | simp | (refine ⟨?_, ?_⟩ <;> first | omega | simp)) (hr := ?_)
    intro j hI
    refine nrmL (k := ?_)
    repeat refine w1 (k := ?_)
    refine condN (h1 := fun h => ?_) (h0 := fun h => ?_)
    ·
      have hj : j < l.length := by omega
      repeat refine w1 (k := ?_)
      refine condN (h1 := fun h2 => ?_) (h0 := fun h2 => ?_)
      ·
        repeat refine w1 (k := ?_)
        refine ⟨[.pag _], .cons (.ldF rfl rfl rfl rfl) .nil, ?_⟩
        rw [perL, if_neg (fun g => by have := of_decide_eq_true (List.all_eq_true.1 g _ (List.getElem_mem hj)); omega)]; rfl
      ·
        repeat refine w1 (k := ?_)
        refine ⟨j + 1, by omega, by exact ⟨by omega, by rw [all_take hj, hI.2, per1, decide_eq_true (by omega)]; rfl⟩, frg⟩
    ·
      have hj : j = l.length := by omega
      repeat refine w1 (k := ?_)
      refine ⟨(), by rw [hj, List.take_length] at hI; exact hI.2, frg⟩
  have hI0 := hI
  clear hI
  refine nrmL (k := ?_)
  repeat refine w1 (k := ?_)
  refine cutIN [(4, 35)] (α := Nat × Bool) (fun y => []) (fun y => [(2, .pcells 65 (numP 0 false)), (3, .pcells 65 (numP y.1 y.2))]) (fun y => (y.2 = true → perL l = some y.1) ∧ (y.2 = false → perL l = none ∧ y.1 = 0)) ?_ (fun y hI => ?_)
  ·
    refine nrmL (k := ?_)
    refine loopN [(20, 17)] (α := Nat × Nat × Bool) (fun x => [(5, vi x.1)]) (fun x => [(2, .pcells 65 (numP 0 false)), (3, .pcells 65 (numP x.2.1 x.2.2))]) (fun x => l.length - x.1) (fun x => x.1 ≤ l.length ∧ x.2.1 < 18446744073709551616 ∧ (x.2.2 = true → 0 < x.2.1 ∧ perL l = perF x.2.1 (l.drop x.1)) ∧ (x.2.2 = false → perL l = none ∧ x.2.1 = 0)) (x0 := (0, 1, true)) (h0 := by exact ⟨by omega, by decide, fun h => ⟨by decide, by rw [perL, if_pos hI0]; rfl⟩, fun h => by (cases h)⟩) (hr := ?_)
    intro x hI
    refine nrmL (k := ?_)
    obtain ⟨j, a, b⟩ := x
    dsimp only at hI ⊢
    obtain ⟨b1, b2, b3, b4⟩ := hI
    repeat refine w1 (k := ?_)
    refine condN (h1 := fun h => ?_) (h0 := fun h => ?_)
    ·
      have hj : j < l.length := by omega
      cases b
      ·
        repeat refine w1 (k := ?_)
        refine ⟨(j + 1, a, false), by omega, by exact ⟨by dsimp only; omega, b2, fun h => by (cases h), fun _ => b4 rfl⟩, frg⟩
      ·
        obtain ⟨c1, c3⟩ := b3 rfl
        have ht := ho _ (List.getElem_mem hj)
        have hp : 1 ≤ l[j].t := by have := List.all_eq_true.1 hI0 _ (List.getElem_mem hj); exact of_decide_eq_true this
        obtain ⟨m, hm⟩ := Int.eq_ofNat_of_zero_le (show 0 ≤ l[j].t by omega)
        have hm2 := ht.2.2
        repeat refine w1 (k := ?_)
        rw [hm]
        repeat refine w1 (k := ?_)
        refine callN (hc := by exact rlcm_ac _ a m b2 (by omega)) (h := ?_)
        repeat refine w1 (k := ?_)
        obtain ⟨g1, g2⟩ := lcN_pos c1 (show 0 < m by omega)
        rw [g1, g2]
        repeat refine w1 (k := ?_)
        rw [perF_step hj, hm, Int.toNat_natCast] at c3
        cases hb : okB (Nat.lcm a m)
        ·
          rw [hb, if_neg (by decide)] at c3
          rw [show okN (Nat.lcm a m) = ((0 : Nat) : Int) by rw [okN, if_neg (of_decide_eq_false hb)]; rfl]
          refine ⟨(j + 1, 0, false), by omega, by exact ⟨by dsimp only; omega, by dsimp only; omega, fun h => by (cases h), fun _ => ⟨c3, rfl⟩⟩, frg⟩
        ·
          rw [hb, if_pos rfl] at c3
          obtain ⟨e1, e2⟩ := okB_t hb
          rw [e1]
          refine ⟨(j + 1, Nat.lcm a m, true), by omega, by exact ⟨by dsimp only; omega, e2, fun _ => ⟨Nat.lcm_pos c1 (by omega), c3⟩, fun h => by (cases h)⟩, frg⟩
    ·
      have hj : j = l.length := by omega
      repeat refine w1 (k := ?_)
      refine ⟨(a, b), by exact ⟨fun h => by have := (b3 h).2; rw [hj, List.drop_length] at this; exact this, b4⟩, frg⟩
  refine nrmL (k := ?_)
  obtain ⟨a, c⟩ := y
  dsimp only at hI ⊢
  obtain ⟨h1, h2⟩ := hI
  repeat refine w1 (k := ?_)
  refine ⟨[.pag _], .cons (.ldF rfl rfl rfl rfl) .nil, ?_⟩
  cases c
  · obtain ⟨k1, rfl⟩ := h2 rfl
    rw [k1]; rfl
  · rw [h1 rfl]; rfl
theorem over_ac (l : List Tk) (hl : l.length ≤ maxLen) (ho : ∀ t ∈ l, tOk t) : AC Tryd.prog GL 28 [fro tkP l] [] (fun r _ => r = .tup [tb (decide (((smF l).1.1 : Int) > ((smF l).1.2 : Int))), .c (.p (.s (.int .i64 (smF l).2)))]) := by
  refine AC.body' Tryd.func28 Tryd.ntmps28 rfl ?_
  intro cx hd hG
  refine nrmL (k := ?_)
  repeat refine w1 (k := ?_)
  obtain ⟨w0, fz0, β0, df, G0⟩ := cx
  obtain rfl : G0 = GL := hG
  refine callN (hc := by exact sum_ac l hl ho) (h := ?_)
  repeat refine w1 (k := ?_)
  refine ⟨[.c _, .c _], .cons (.tmp rfl) (.cons (.tmp rfl) .nil), ?_⟩
  rfl
end Go.Proofs.Vl
