/- What divides two numbers of 32 bits divides their greatest common divisor, which divides both; the least common multiple is divided by both, and, times the divisor, is their product: the law NumDivides answers true at every input. -/
import Derived.Test.YthhojifpogghlaaPAllx13
import Derived.Test.YthhojifpogghlaaLema
namespace Go.Proofs.Ythhojifpogghlaa.Pure
open Go.RowKit Go.Proofs.Ythhojifpogghlaa.PAll Go.Proofs.YthhojifpogghlaaW.PrintWords Go.Proofs.YthhojifpogghlaaW.PrintLast
open Go.Proofs.Ythhojifpogghlaa.Lema

theorem NumDivides : cadencylaw01_NumDivides.Pure := by
  intro a0 a1 a2 h0 h1 h2
  obtain ⟨h0, h0'⟩ := wf_u64 h0
  obtain ⟨h1, h1'⟩ := wf_u64 h1
  obtain ⟨h2, h2'⟩ := wf_u64 h2
  obtain ⟨x, hx⟩ : ∃ x : Nat, a0 / 4294967296 = x := ⟨(a0 / 4294967296).toNat, by omega⟩
  obtain ⟨y, hy⟩ : ∃ x : Nat, a1 / 4294967296 = x := ⟨(a1 / 4294967296).toNat, by omega⟩
  obtain ⟨d, hd⟩ : ∃ x : Nat, IntKind.u64.wrap (a2 / 281474976710656 + 1) = x := ⟨(a2 / 281474976710656 + 1).toNat, by rw [IntKind.wrap_u64]; omega⟩
  have hd0 : 0 < d := by rw [IntKind.wrap_u64] at hd; omega
  have bx : x < 4294967296 := by omega
  have by_ : y < 4294967296 := by omega
  refine ⟨6, ?_⟩
  unfold cadencylaw01_NumDivides.f
  rw [awake_at 6 (by omega), hx, hy, hd, gcd64 x y (by omega) (by omega), lcm64 x y (by omega) (by omega) 5]
  simp only [Option.bind_some]
  clear hx hy hd
  by_cases hz : x = 0 ∨ y = 0
  · rw [if_pos hz]
    simp only [Option.bind_some]
    have hg : ((Nat.gcd x y : Nat) : Int) = IntKind.u64.wrap ((x : Int) + (y : Int)) := by
      rw [IntKind.wrap_u64]
      rcases hz with rfl | rfl
      · rw [Nat.gcd_zero_left]; omega
      · rw [Nat.gcd_zero_right]; omega
    have e : cadencylaw01_NumDivides.j0 6 true x y d ((Nat.gcd x y : Nat) : Int) 0 false true = some true := by
      simp only [cadencylaw01_NumDivides.j0]
      rw [if_pos hg]
      rfl
    by_cases hx0 : x = 0
    · rw [if_pos (by omega)]
      exact e
    · rw [if_neg (by omega)]
      have hy0 : y = 0 := by omega
      have : ((y : Int) == 0) = true := by simpa using hy0
      rw [this]
      exact e
  · rw [if_neg hz]
    have hx0 : x ≠ 0 := fun h => hz (.inl h)
    have hy0 : y ≠ 0 := fun h => hz (.inr h)
    have : ((y : Int) == 0) = false := by simpa using hy0
    rw [this]
    obtain ⟨u, hu⟩ := Nat.gcd_dvd_left x y
    obtain ⟨v, hv⟩ := Nat.gcd_dvd_right x y
    have hdx : d ∣ Nat.gcd x y → d ∣ x := fun h => Nat.dvd_trans h (Nat.gcd_dvd_left x y)
    have hdy : d ∣ Nat.gcd x y → d ∣ y := fun h => Nat.dvd_trans h (Nat.gcd_dvd_right x y)
    have hdg : d ∣ x → d ∣ y → d ∣ Nat.gcd x y := fun h h' => Nat.dvd_gcd h h'
    have hgx : Nat.gcd x y ≤ x := Nat.gcd_le_left _ (by omega)
    have hg0 : 0 < Nat.gcd x y := Nat.gcd_pos_of_pos_left _ (by omega)
    generalize Nat.gcd x y = g at *
    have hxg : x / g = u := by rw [hu]; exact Nat.mul_div_cancel_left u hg0
    have hu1 : u ≤ x := by rw [← hxg]; exact Nat.div_le_self _ _
    have hm : u * y < 18446744073709551616 := by
      have : u * y ≤ 4294967295 * 4294967295 := Nat.mul_le_mul (by omega) (by omega)
      omega
    have hv1 : v ≤ y := by rw [hv]; exact Nat.le_mul_of_pos_left v hg0
    rw [hxg, if_pos hm]
    have m1 : u * y = x * v := by rw [hu, hv, Nat.mul_left_comm, Nat.mul_assoc]
    have e1 : x % g = 0 := by rw [hu]; exact Nat.mul_mod_right g u
    have e2 : y % g = 0 := by rw [hv]; exact Nat.mul_mod_right g v
    have e3 : u * y % x = 0 := by rw [m1]; exact Nat.mul_mod_right x v
    have e4 : u * y % y = 0 := Nat.mul_mod_left u y
    have e5 : u * y / x = v := by rw [m1]; exact Nat.mul_div_cancel_left v (by omega)
    have e6 : v * g = y := by rw [hv, Nat.mul_comm]
    simp only [Option.bind_some]
    rw [if_neg (show ¬ (x : Int) = 0 by omega)]
    simp only [cadencylaw01_NumDivides.j0, tmodN, tdivN, e1, e2, e3, e4, e5]
    rw [wrapN v (by omega), ← Int.natCast_mul, e6, wrapN y (by omega)]
    have q0 : ¬ (g : Int) = 0 := by omega
    have q1 : ¬ (x : Int) = 0 := by omega
    have q2 : ¬ (y : Int) = 0 := by omega
    have q3 : ¬ (d : Int) = 0 := by omega
    have key : ∀ a : Nat, (((a % d : Nat) : Int) == 0) = decide (d ∣ a) := by
      intro a
      rw [Bool.eq_iff_iff]
      simp only [beq_iff_eq, decide_eq_true_eq, Nat.dvd_iff_mod_eq_zero]
      omega
    have k1 : ((x % d : Nat) : Int) = 0 ↔ d ∣ x := by rw [Nat.dvd_iff_mod_eq_zero]; omega
    simp only [show ((0 : Nat) : Int) = 0 from rfl, if_true, if_false, Bool.false_eq_true, q0, q1, q2, q3, key]
    by_cases hdx' : d ∣ x
    · rw [if_pos (k1.2 hdx')]
      congr 1
      by_cases hdy' : d ∣ y
      · have := hdg hdx' hdy'
        simp [hdy', this]
      · have : ¬ d ∣ g := fun h => hdy' (hdy h)
        simp [hdy', this]
    · rw [if_neg (fun h => hdx' (k1.1 h))]
      have : ¬ d ∣ g := fun h => hdx' (hdx h)
      simp [this]

end Go.Proofs.Ythhojifpogghlaa.Pure
