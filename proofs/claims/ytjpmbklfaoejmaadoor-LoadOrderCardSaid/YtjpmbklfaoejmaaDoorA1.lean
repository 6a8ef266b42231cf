/- Sums of small loads: what they come to. -/
import Derived.Test.YtjpmbklfaoejmaaDoorG9
set_option linter.all false
namespace Go.Proofs.Vl
theorem fm_mul (n d : Nat) : (fm n d).1 * d = n * (fm n d).2 := by
  show n / Nat.gcd n d * d = n * (d / Nat.gcd n d)
  rw [Nat.div_mul_right_comm (Nat.gcd_dvd_left n d), Nat.mul_div_assoc n (Nat.gcd_dvd_right n d)]
theorem ad_key {a b : Nat × Nat} (ha0 : 0 < a.2) (hb0 : 0 < b.2) (h : adB a b = true) : (adF a b).1 * (a.2 * b.2) = (a.1 * b.2 + b.1 * a.2) * (adF a b).2 := by
  rw [adF, if_pos h]
  have k1 := fm_mul (sx a b + sy a b) (Nat.lcm a.2 b.2)
  have hD : 0 < Nat.lcm a.2 b.2 := Nat.lcm_pos ha0 hb0
  have ka : Nat.lcm a.2 b.2 / a.2 * a.2 = Nat.lcm a.2 b.2 := Nat.div_mul_cancel (Nat.dvd_lcm_left _ _)
  have kb : Nat.lcm a.2 b.2 / b.2 * b.2 = Nat.lcm a.2 b.2 := Nat.div_mul_cancel (Nat.dvd_lcm_right _ _)
  unfold sx sy at *
  generalize Nat.lcm a.2 b.2 / a.2 = u at *
  generalize Nat.lcm a.2 b.2 / b.2 = v at *
  generalize Nat.lcm a.2 b.2 = D at *
  generalize fm (a.1 * u + b.1 * v) D = F at *
  obtain ⟨a1, a2⟩ := a
  obtain ⟨b1, b2⟩ := b
  obtain ⟨F1, F2⟩ := F
  dsimp only at *
  refine Nat.eq_of_mul_eq_mul_right hD ?_
  calc F1 * (a2 * b2) * D = F1 * D * (a2 * b2) := by rw [Nat.mul_right_comm]
    _ = (a1 * u + b1 * v) * F2 * (a2 * b2) := by rw [k1]
    _ = (a1 * (u * a2) * b2 + b1 * (v * b2) * a2) * F2 := by
      simp only [Nat.add_mul]
      congr 1 <;> simp only [Nat.mul_assoc, Nat.mul_comm, Nat.mul_left_comm]
    _ = (a1 * D * b2 + b1 * D * a2) * F2 := by rw [ka, kb]
    _ = (a1 * b2 + b1 * a2) * F2 * D := by
      simp only [Nat.add_mul]
      congr 1 <;> simp only [Nat.mul_assoc, Nat.mul_comm, Nat.mul_left_comm]
/-- A load of a small denominator that is at most k. -/
def fin (k : Nat) (a : Nat × Nat) : Prop := 0 < a.2 ∧ a.2 ∣ 232792560 ∧ a.1 ≤ k * a.2
theorem fin_le {k : Nat} {a : Nat × Nat} (h : fin k a) : a.2 ≤ 232792560 := Nat.le_of_dvd (by decide) h.2.1
theorem fin_ok {k : Nat} {a : Nat × Nat} (h : fin k a) (hk : k ≤ 1000) : lOk a ∧ a.1 ≤ 232792560000 := by
  have h1 := fin_le h
  have h2 : k * a.2 ≤ 1000 * 232792560 := Nat.mul_le_mul hk h1
  have h3 := h.2.2
  exact ⟨⟨by omega, by omega⟩, by omega⟩
theorem fm_fin {n d k : Nat} (hd : 0 < d) (hL : d ∣ 232792560) (hn : n ≤ k * d) : fin k (fm n d) := by
  refine ⟨fm_pos hd, Nat.dvd_trans (Nat.div_dvd_of_dvd (Nat.gcd_dvd_right n d)) hL, ?_⟩
  show n / Nat.gcd n d ≤ k * (d / Nat.gcd n d)
  rw [← Nat.mul_div_assoc k (Nat.gcd_dvd_right n d)]
  exact Nat.div_le_div_right hn
theorem dvd20 : ∀ m, m < 21 → 0 < m → m ∣ 232792560 := by decide
def small (t : Tk) : Prop := 1 ≤ t.c ∧ t.c ≤ 4 ∧ 1 ≤ t.t ∧ t.t ≤ 20
theorem tkF_eq {t : Tk} (h : small t) : tkF t = fm t.c.toNat t.t.toNat := by
  obtain ⟨h1, h2, h3, h4⟩ := h
  rw [tkF, ofF, if_neg (by omega)]
theorem tkF_fin {t : Tk} (h : small t) : fin 4 (tkF t) := by
  rw [tkF_eq h]
  obtain ⟨h1, h2, h3, h4⟩ := h
  exact fm_fin (by omega) (dvd20 _ (by omega) (by omega)) (by omega)
theorem small_bad {t : Tk} (h : small t) : badB t = false := by
  refine decide_eq_false fun e => ?_
  have := (tkF_fin h).1
  rw [e] at this
  exact absurd this (by decide)
theorem small_any {l : List Tk} (h : ∀ t ∈ l, small t) : l.any badB = false := by
  rw [List.any_eq_false]; intro t ht; rw [small_bad (h t ht)]; decide
theorem ad_fin {a b : Nat × Nat} {k : Nat} (ha : fin k a) (hb : fin 4 b) (hk : k ≤ 1000) : adB a b = true ∧ fin (k + 4) (adF a b) := by
  obtain ⟨a0, a1, a2⟩ := ha
  obtain ⟨b0, b1, b2⟩ := hb
  have hD : Nat.lcm a.2 b.2 ∣ 232792560 := Nat.lcm_dvd a1 b1
  have hD0 : 0 < Nat.lcm a.2 b.2 := Nat.lcm_pos a0 b0
  have hDl := Nat.le_of_dvd (by decide) hD
  have ka : Nat.lcm a.2 b.2 / a.2 * a.2 = Nat.lcm a.2 b.2 := Nat.div_mul_cancel (Nat.dvd_lcm_left _ _)
  have kb : Nat.lcm a.2 b.2 / b.2 * b.2 = Nat.lcm a.2 b.2 := Nat.div_mul_cancel (Nat.dvd_lcm_right _ _)
  have hx : sx a b ≤ k * Nat.lcm a.2 b.2 := by
    calc sx a b ≤ k * a.2 * (Nat.lcm a.2 b.2 / a.2) := Nat.mul_le_mul_right _ a2
      _ = k * (Nat.lcm a.2 b.2 / a.2 * a.2) := by rw [Nat.mul_assoc, Nat.mul_comm a.2]
      _ = _ := by rw [ka]
  have hy : sy a b ≤ 4 * Nat.lcm a.2 b.2 := by
    calc sy a b ≤ 4 * b.2 * (Nat.lcm a.2 b.2 / b.2) := Nat.mul_le_mul_right _ b2
      _ = 4 * (Nat.lcm a.2 b.2 / b.2 * b.2) := by rw [Nat.mul_assoc, Nat.mul_comm b.2]
      _ = _ := by rw [kb]
  have hs : sx a b + sy a b ≤ (k + 4) * Nat.lcm a.2 b.2 := by rw [Nat.add_mul]; omega
  have hm : k * Nat.lcm a.2 b.2 ≤ 1000 * 232792560 := Nat.mul_le_mul hk hDl
  have hB : adB a b = true := by
    unfold adB okB
    rw [decide_eq_true (show Nat.lcm a.2 b.2 < _ by omega), decide_eq_true (show sx a b < _ by omega), decide_eq_true (show sy a b < _ by omega), decide_eq_true (show sx a b + sy a b < _ by omega)]
    rfl
  refine ⟨hB, ?_⟩
  rw [adF, if_pos hB]
  exact fm_fin hD0 hD hs
theorem sumF_fin : ∀ (l : List Tk) (a : Nat × Nat) (k : Nat), fin k a → (∀ t ∈ l, small t) → k + 4 * l.length ≤ 1000 → ∃ f, sumF a l = some f ∧ fin (k + 4 * l.length) f
  | [], a, k, h, _, _ => ⟨a, rfl, h⟩
  | t :: l, a, k, h, hl, hk => by
    rw [List.length_cons] at hk ⊢
    obtain ⟨h1, h2⟩ := ad_fin h (tkF_fin (hl t List.mem_cons_self)) (by omega)
    obtain ⟨f, h3, h4⟩ := sumF_fin l _ (k + 4) h2 (fun u hu => hl u (List.mem_cons_of_mem _ hu)) (by omega)
    refine ⟨f, ?_, ?_⟩
    · unfold sumF; rw [if_pos h1]; exact h3
    · rw [show k + 4 * (l.length + 1) = k + 4 + 4 * l.length by omega]; exact h4
theorem sumF_snoc : ∀ (l : List Tk) (a : Nat × Nat) (t : Tk), sumF a (l ++ [t]) = (sumF a l).bind fun b => if adB b (tkF t) then some (adF b (tkF t)) else none
  | [], a, t => rfl
  | u :: l, a, t => by
    show (if adB a (tkF u) then sumF (adF a (tkF u)) (l ++ [t]) else none) = (if adB a (tkF u) then sumF (adF a (tkF u)) l else none).bind _
    split
    · exact sumF_snoc l _ t
    · rfl
theorem fin0 : fin 0 (0, 1) := ⟨by decide, by decide, by decide⟩
theorem smF_small {l : List Tk} (h : ∀ t ∈ l, small t) (hk : l.length ≤ 100) : ∃ f, sumF (0, 1) l = some f ∧ smF l = (f, 0) ∧ fin (4 * l.length) f := by
  obtain ⟨f, h1, h2⟩ := sumF_fin l (0, 1) 0 fin0 h (by omega)
  refine ⟨f, h1, ?_, by rw [Nat.zero_add] at h2; exact h2⟩
  rw [smF, if_neg (by rw [small_any h]; decide), h1]
end Go.Proofs.Vl
