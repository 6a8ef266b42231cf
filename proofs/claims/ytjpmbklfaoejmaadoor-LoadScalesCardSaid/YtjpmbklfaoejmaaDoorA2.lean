/- Multiples of scaled periods; sums of scaled loads. -/
import Derived.Test.YtjpmbklfaoejmaaDoorA1
import Derived.Test.YtjpmbklfaoejmaaDoorH1
set_option linter.all false
namespace Go.Proofs.Vl
/-- A task scaled, as LoadScales makes it: it has no name. -/
def scT (k : Int) (t : Tk) : Tk := ⟨⟨#[]⟩, t.c * k, t.t * k, 0, 0, 0, 0⟩
theorem fm_scale (n d k : Nat) (hk : 0 < k) : fm (n * k) (d * k) = fm n d := by
  unfold fm
  rw [Nat.gcd_mul_right, Nat.mul_div_mul_right _ _ hk, Nat.mul_div_mul_right _ _ hk]
theorem tkF_scale {t : Tk} (h : small t) {k : Nat} (hk : 0 < k) : tkF (scT k t) = tkF t := by
  rw [tkF_eq h]
  obtain ⟨h1, h2, h3, h4⟩ := h
  obtain ⟨c, hc⟩ := Int.eq_ofNat_of_zero_le (show 0 ≤ t.c by omega)
  obtain ⟨d, hd⟩ := Int.eq_ofNat_of_zero_le (show 0 ≤ t.t by omega)
  have e1 : t.c * (k : Int) = ((c * k : Nat) : Int) := by rw [hc, Int.natCast_mul]
  have e2 : t.t * (k : Int) = ((d * k : Nat) : Int) := by rw [hd, Int.natCast_mul]
  have p : 0 < d * k := Nat.mul_pos (by omega) hk
  show ofF (t.c * (k : Int)) (t.t * (k : Int)) = _
  rw [ofF, e1, e2, if_neg (by omega), hc, hd, Int.toNat_natCast, Int.toNat_natCast, Int.toNat_natCast, Int.toNat_natCast, fm_scale _ _ _ hk]
theorem sumF_congr : ∀ (l : List Tk) (g : Tk → Tk) (a : Nat × Nat), (∀ t ∈ l, tkF (g t) = tkF t) → sumF a (l.map g) = sumF a l
  | [], _, _, _ => rfl
  | t :: l, g, a, h => by
    have e := h t List.mem_cons_self
    show (if adB a (tkF (g t)) then sumF (adF a (tkF (g t))) (l.map g) else none) = (if adB a (tkF t) then sumF (adF a (tkF t)) l else none)
    rw [e, sumF_congr l g _ (fun u hu => h u (List.mem_cons_of_mem _ hu))]
theorem smF_scale {l : List Tk} (h : ∀ t ∈ l, small t) {k : Nat} (hk : 0 < k) : smF (l.map (scT k)) = smF l := by
  have hs : ∀ t ∈ l, tkF (scT k t) = tkF t := fun t ht => tkF_scale (h t ht) hk
  have e : (l.map (scT k)).any badB = l.any badB := by
    rw [List.any_map]
    rw [Bool.eq_iff_iff]
    simp only [List.any_eq_true]
    exact ⟨fun ⟨t, ht, hb⟩ => ⟨t, ht, by simpa [badB, hs t ht] using hb⟩, fun ⟨t, ht, hb⟩ => ⟨t, ht, by simpa [badB, hs t ht] using hb⟩⟩
  rw [smF, smF, e, sumF_congr l _ _ hs]
/-- The multiples of scaled periods: from a start that is scaled. -/
theorem perF_scale : ∀ (l : List Tk) (a k q : Nat), 0 < k → k ≤ 1048576 → 0 < a → a ≤ q → (∀ t ∈ l, small t) → q * 20 ^ l.length < 17592186044416 → ∃ p, perF a l = some p ∧ perF (a * k) (l.map (scT k)) = some (p * k) ∧ 0 < p ∧ p < 17592186044416
  | [], a, k, q, _, _, h0, h1, _, h3 => ⟨a, rfl, rfl, h0, by simp at h3; omega⟩
  | t :: l, a, k, q, hk, hk2, h0, h1, h2, h3 => by
    obtain ⟨_, _, p1, p2⟩ := h2 t List.mem_cons_self
    have hm : Nat.lcm a t.t.toNat ≤ q * 20 := by
      refine Nat.le_trans (Nat.le_of_dvd (Nat.mul_pos h0 (by omega)) (Nat.lcm_dvd (Nat.dvd_mul_right _ _) (Nat.dvd_mul_left _ _))) (Nat.mul_le_mul h1 (by omega))
    have e : q * 20 * 20 ^ l.length = q * 20 ^ (t :: l).length := by rw [List.length_cons, Nat.pow_succ, Nat.mul_assoc, Nat.mul_comm 20]
    have hb : Nat.lcm a t.t.toNat < 17592186044416 := by
      have h4 : q * 20 ≤ q * 20 * 20 ^ l.length := Nat.le_mul_of_pos_right _ (Nat.pow_pos (by decide))
      omega
    obtain ⟨d, hd⟩ := Int.eq_ofNat_of_zero_le (show 0 ≤ t.t by omega)
    have e2 : (scT k t).t.toNat = d * k := by show (t.t * (k : Int)).toNat = _; rw [hd, ← Int.natCast_mul, Int.toNat_natCast]
    have e3 : Nat.lcm (a * k) (d * k) = Nat.lcm a d * k := Nat.lcm_mul_right _ _ _
    rw [hd, Int.toNat_natCast] at hb hm
    have hb2 : Nat.lcm a d * k ≤ 17592186044416 * 1048576 := Nat.mul_le_mul (Nat.le_of_lt hb) hk2
    have hb3 : Nat.lcm a d * k < 18446744073709551616 := by
      refine Nat.lt_of_lt_of_le ((Nat.mul_lt_mul_right hk).2 hb) ?_
      exact Nat.mul_le_mul_left _ hk2
    obtain ⟨p, h5, h6, h7, h8⟩ := perF_scale l (Nat.lcm a d) k (q * 20) hk hk2 (Nat.lcm_pos h0 (by omega)) hm (fun u hu => h2 u (List.mem_cons_of_mem _ hu)) (by rw [e]; exact h3)
    refine ⟨p, ?_, ?_, h7, h8⟩
    · unfold perF
      rw [hd, Int.toNat_natCast, if_pos (show okB _ = true from decide_eq_true (by omega))]
      exact h5
    · rw [List.map_cons]
      unfold perF
      rw [e2, e3, if_pos (show okB _ = true from decide_eq_true hb3)]
      exact h6
theorem perF_one {t : Tk} {l : List Tk} {k : Nat} (hk : 0 < k) (h : small t) : perF 1 ((t :: l).map (scT k)) = perF k ((t :: l).map (scT k)) := by
  obtain ⟨h1, h2, h3, h4⟩ := h
  obtain ⟨d, hd⟩ := Int.eq_ofNat_of_zero_le (show 0 ≤ t.t by omega)
  have e2 : (scT k t).t.toNat = d * k := by show (t.t * (k : Int)).toNat = _; rw [hd, ← Int.natCast_mul, Int.toNat_natCast]
  rw [List.map_cons]
  unfold perF
  rw [e2, Nat.lcm_one_left, Nat.lcm_eq_right (Nat.dvd_mul_left k d)]
theorem perL_scale {l : List Tk} (h : ∀ t ∈ l, small t) (h0 : 0 < l.length) (h6 : l.length ≤ 6) {k : Nat} (hk : 0 < k) (hk2 : k ≤ 1048576) : ∃ p, perL l = some p ∧ perL (l.map (scT k)) = some (p * k) ∧ p * k < 18446744073709551616 := by
  obtain ⟨p, h1, h2, h3, h4⟩ := perF_scale l 1 k 1 hk hk2 (by decide) (by decide) h (Nat.lt_of_le_of_lt (Nat.mul_le_mul_left 1 (Nat.pow_le_pow_right (by decide) h6)) (by decide))
  have a1 : l.all per1 = true := by rw [List.all_eq_true]; intro t ht; exact decide_eq_true (h t ht).2.2.1
  have a2 : (l.map (scT k)).all per1 = true := by
    rw [List.all_eq_true]; intro u hu
    obtain ⟨t, ht, rfl⟩ := List.mem_map.1 hu
    refine decide_eq_true ?_
    have := (h t ht).2.2.1
    show 1 ≤ t.t * (k : Int)
    have h5 : 0 < t.t * (k : Int) := Int.mul_pos (by omega) (by omega)
    omega
  refine ⟨p, by rw [perL, if_pos a1]; exact h1, ?_, ?_⟩
  · rw [perL, if_pos a2]
    cases l with
    | nil => simp at h0
    | cons t l => rw [perF_one hk (h t List.mem_cons_self)]; rw [Nat.one_mul] at h2; exact h2
  · refine Nat.lt_of_lt_of_le ((Nat.mul_lt_mul_right hk).2 h4) ?_
    exact Nat.mul_le_mul_left _ hk2
end Go.Proofs.Vl
