/- Demands without ends, as sums. -/
import Derived.Test.YtlegdnmebgfjbaaDoorSD14
set_option linter.all false
set_option maxHeartbeats 1000000
namespace Go.Proofs.Vl
open Go Go.RowKit
def hs (f : Tk → Nat) : List Tk → Nat
  | [] => 0
  | t :: l => f t + hs f l
theorem hs_le {f g : Tk → Nat} : ∀ {l : List Tk}, (∀ t ∈ l, f t ≤ g t) → hs f l ≤ hs g l
  | [], _ => Nat.le_refl _
  | t :: l, h => Nat.add_le_add (h t List.mem_cons_self) (hs_le fun u hu => h u (List.mem_cons_of_mem _ hu))
theorem hs_congr {f g : Tk → Nat} : ∀ {l : List Tk}, (∀ t ∈ l, f t = g t) → hs f l = hs g l
  | [], _ => rfl
  | t :: l, h => by rw [hs, hs, h t List.mem_cons_self, hs_congr fun u hu => h u (List.mem_cons_of_mem _ hu)]
theorem hs_add {f g : Tk → Nat} : ∀ (l : List Tk), hs (fun t => f t + g t) l = hs f l + hs g l
  | [] => rfl
  | t :: l => by rw [hs, hs, hs, hs_add l]; omega
theorem hs_mul {f : Tk → Nat} (k : Nat) : ∀ (l : List Tk), hs (fun t => f t * k) l = hs f l * k
  | [] => by simp [hs]
  | t :: l => by rw [hs, hs, hs_mul k l, Nat.add_mul]
theorem hs_b {f : Tk → Nat} {B : Nat} : ∀ {l : List Tk}, (∀ t ∈ l, f t ≤ B) → hs f l ≤ l.length * B
  | [], _ => Nat.zero_le _
  | t :: l, h => by
    have h1 := h t List.mem_cons_self
    have h2 := hs_b (l := l) fun u hu => h u (List.mem_cons_of_mem _ hu)
    rw [hs, List.length_cons, Nat.add_mul]; omega
theorem hs_map {f : Tk → Nat} (g : Tk → Tk) : ∀ (l : List Tk), hs f (l.map g) = hs (fun t => f (g t)) l
  | [] => rfl
  | t :: l => by rw [List.map_cons, hs, hs, hs_map g l]
theorem hs_take {f : Tk → Nat} : ∀ (l : List Tk) (j : Nat) (h : j < l.length), hs f (l.take (j + 1)) = hs f (l.take j) + f l[j]
  | [], _, h => by simp at h
  | t :: l, 0, _ => by simp [hs]
  | t :: l, j + 1, h => by
    have h2 : j < l.length := by simpa using h
    rw [List.take_succ_cons, List.take_succ_cons, hs, hs, hs_take l j h2, List.getElem_cons_succ]; omega
/-- What a task's jobs need of so many ticks. -/
def terN (t : Tk) (w : Nat) : Nat := ceilN (w + t.j.toNat) t.t.toNat * t.c.toNat
def ifp (p : Int) (f : Tk → Nat) (t : Tk) : Nat := if t.p < p then f t else 0
theorem hgh_sum (p : Int) (w B : Nat) : ∀ (l : List Tk) (a : Nat), (∀ t ∈ l, w + t.j.toNat < 18446744073709551615 ∧ terN t w ≤ B) → a + l.length * B < 18446744073709551615 →
    l.foldl (fun a t => if decide (t.p < p) then stepH w a t else a) a = a + hs (ifp p (fun t => terN t w)) l
  | [], a, _, _ => rfl
  | t :: l, a, h, hb => by
    obtain ⟨h1, h2⟩ := h t List.mem_cons_self
    rw [List.length_cons, Nat.add_mul] at hb
    have e : stepH w a t = a + terN t w := by
      unfold stepH oftN
      have e1 : satN (w + t.j.toNat) = w + t.j.toNat := by unfold satN; omega
      rw [e1]
      show satN (a + satN (terN t w)) = _
      unfold satN; omega
    rw [List.foldl_cons, hs, ifp]
    by_cases hp : t.p < p
    · rw [if_pos (by simpa using hp), if_pos hp, e, hgh_sum p w B l _ (fun u hu => h u (List.mem_cons_of_mem _ hu)) (by omega)]; omega
    · rw [if_neg (by simpa using hp), if_neg hp, hgh_sum p w B l _ (fun u hu => h u (List.mem_cons_of_mem _ hu)) (by omega)]; omega
theorem ceilN_le (a b : Nat) : ceilN a b ≤ a := by
  unfold ceilN
  by_cases h0 : b = 0
  · subst h0
    simp only [Nat.div_zero, Nat.mod_zero]
    split <;> omega
  split
  · rename_i h
    have : b ≠ 1 := by intro e; subst e; simp [Nat.mod_one] at h
    have : a / b ≤ a / 2 := Nat.div_le_div_left (by omega) (by decide)
    have : a ≠ 0 := by intro e; subst e; simp at h
    omega
  · have := Nat.div_le_self a b; omega
theorem ceilN_mono {a a' : Nat} (b : Nat) (h : a ≤ a') : ceilN a b ≤ ceilN a' b := by
  by_cases h0 : b = 0
  · subst h0; unfold ceilN; simp only [Nat.div_zero, Nat.mod_zero]; split <;> split <;> omega
  unfold ceilN
  have h1 := Nat.div_le_div_right (c := b) h
  have h2 := Nat.div_add_mod a b
  have h3 := Nat.div_add_mod a' b
  have h4 := Nat.mod_lt a (show 0 < b by omega)
  have h5 := Nat.mod_lt a' (show 0 < b by omega)
  by_cases he : a / b = a' / b
  · rw [he] at h2 ⊢
    split <;> split <;> omega
  · split <;> split <;> omega
theorem ceilN_succ (a b : Nat) (hb : 0 < b) : ceilN (a + 1) b ≤ ceilN a b + 1 := by
  unfold ceilN
  have h1 : (a + 1) / b ≤ a / b + 1 := by
    have := Nat.div_le_div_right (c := b) (show a + 1 ≤ a + b by omega)
    rwa [Nat.add_div_right _ hb] at this
  have h2 := Nat.div_add_mod a b
  have h3 := Nat.div_add_mod (a + 1) b
  have h4 := Nat.mod_lt a hb
  have h5 := Nat.mod_lt (a + 1) hb
  by_cases he : (a + 1) / b = a / b + 1
  · have h6 : b * ((a + 1) / b) = b * (a / b) + b := by rw [he, Nat.mul_add, Nat.mul_one]
    have : (a + 1) % b = 0 := by omega
    rw [this]; simp; omega
  · split <;> split <;> omega
theorem ceilN_scale (a b k : Nat) (hk : 0 < k) : ceilN (a * k) (b * k) = ceilN a b := by
  unfold ceilN
  rw [Nat.mul_div_mul_right _ _ hk, Nat.mul_mod_mul_right]
  by_cases h : a % b > 0
  · rw [if_pos h, if_pos (Nat.mul_pos h hk)]
  · have : a % b = 0 := by omega
    rw [this]; simp
theorem ceilN_one {a b : Nat} (h0 : 0 < a) (h : a ≤ b) : ceilN a b = 1 := by
  unfold ceilN
  rcases Nat.lt_or_ge a b with h1 | h1
  · rw [Nat.div_eq_of_lt h1, Nat.mod_eq_of_lt h1, if_pos h0]
  · obtain rfl : a = b := by omega
    rw [Nat.div_self h0, Nat.mod_self]; rfl
/-- More, for a set by numbers. -/
structure Sml (t : Tk) : Prop where
  hc : 1 ≤ t.c ∧ t.c ≤ 4
  ht : 1 ≤ t.t ∧ t.t ≤ 20
  hd : t.c + t.j ≤ t.d ∧ t.d ≤ t.t
  hj : 0 ≤ t.j
  hq : 1 ≤ t.q ∧ t.q ≤ t.c
  hp : 1 ≤ t.p ∧ t.p ≤ 6
theorem set_sml (l : List Sp) (most turn : Int) (hl : l.length ≤ maxLen) (hm : 1 ≤ most ∧ most ≤ 6) : ∀ t ∈ setL l most turn, Sml t := by
  intro t h
  obtain ⟨i, hi, rfl⟩ := List.getElem_of_mem h
  obtain ⟨s, es⟩ := set_at l most turn i hi
  rw [es]
  have hb := set_b l most turn hl hm.1
  have h1 := emod_b s.c 4 (by decide)
  have h2 := emod_b s.d 11 (by decide)
  have h3 := emod_b s.t 7 (by decide)
  have h4 := emod_b s.q (1 + s.c % 4) (by omega)
  have h5 := emod_b s.j (1 + s.c % 4 + s.d % 11 - (1 + s.c % 4) + 1) (by omega)
  have h6 := pv_b (setL l most turn).length turn ⟨hb.1, by omega⟩ i
  exact ⟨by simp only [mkT]; omega, by simp only [mkT]; omega, by simp only [mkT]; omega, by simp only [mkT]; omega, by simp only [mkT]; omega, h6⟩
def terW (w : Nat) (t : Tk) : Nat := if w = 0 then 0 else terN t w
theorem terN_b {t : Tk} (h : Sml t) {w : Nat} (hw : w ≤ 1099511627776) : w + t.j.toNat < 18446744073709551615 ∧ terN t w ≤ 4398046511184 := by
  obtain ⟨hc, ht, hd, hj, _, _⟩ := h
  refine ⟨by omega, ?_⟩
  have h1 := ceilN_le (w + t.j.toNat) t.t.toNat
  have h2 : terN t w ≤ (w + t.j.toNat) * 4 := Nat.mul_le_mul h1 (by omega)
  omega
/-- The work ahead, of a set by numbers. -/
theorem hgh_set {s : List Tk} (h : ∀ t ∈ s, Sml t) (hn : s.length ≤ 6) {k : Nat} (hk : k < s.length) (hi : isB s (k : Int) = true) {w : Nat} (hw : w ≤ 1099511627776) : hghA s (k : Int) w = hs (ifp s[k].p (terW w)) s := by
  unfold hghA
  by_cases h0 : w = 0
  · subst h0
    rw [if_pos rfl]
    have : ∀ l : List Tk, hs (ifp s[k].p (terW 0)) l = 0 := by
      intro l
      induction l with
      | nil => rfl
      | cons t l ih =>
        have e : ifp s[k].p (terW 0) t = 0 := by unfold ifp terW; simp
        rw [hs, ih, e]
    exact (this s).symm
  · rw [if_neg h0, if_pos hi, pAt_nat s k hk, hghI, hgh_sum _ w 4398046511184 s 0 (fun t ht => terN_b (h t ht) hw) (by have := Nat.mul_le_mul_right 4398046511184 hn; omega), Nat.zero_add]
    exact hs_congr fun t ht => by unfold ifp terW; rw [if_neg h0]
theorem hgh_set_b {s : List Tk} (h : ∀ t ∈ s, Sml t) (hn : s.length ≤ 6) (p : Int) {w : Nat} (hw : w ≤ 1099511627776) : hs (ifp p (terW w)) s ≤ 26388279067104 := by
  have := hs_b (f := ifp p (terW w)) (B := 4398046511184) (l := s) fun t ht => by
    unfold ifp terW
    have := (terN_b (h t ht) hw).2
    split
    · split
      · omega
      · exact this
    · omega
  have : s.length * 4398046511184 ≤ 6 * 4398046511184 := Nat.mul_le_mul_right _ hn
  omega
theorem need_set {s : List Tk} (h : ∀ t ∈ s, Sml t) (hn : s.length ≤ 6) {k : Nat} (hk : k < s.length) (hi : isB s (k : Int) = true) {w : Nat} (hw : w ≤ 1099511627776) : needA s (k : Int) w = s[k].c.toNat + (blkA s (k : Int)).toNat + hs (ifp s[k].p (terW w)) s := by
  unfold needA
  rw [if_pos hi, cAt_nat s k hk, hgh_set h hn hk hi hw]
  have hb := blkA_b s (k : Int)
  have hh := hgh_set_b h hn s[k].p hw
  have hc := (h _ (List.getElem_mem hk)).hc
  show satN (satN (s[k].c.toNat + (blkA s (k : Int)).toNat) + hs (ifp s[k].p (terW w)) s) = _
  unfold satN
  omega
theorem terW_grow {t : Tk} (h : Sml t) (w : Nat) : terW w t ≤ terW (w + 1) t ∧ terW (w + 1) t ≤ terW w t + t.c.toNat := by
  obtain ⟨hc, ht, hd, hj, _, _⟩ := h
  unfold terW
  rw [if_neg (show ¬ w + 1 = 0 by omega)]
  by_cases h0 : w = 0
  · subst h0
    rw [if_pos rfl]
    refine ⟨Nat.zero_le _, ?_⟩
    unfold terN
    rw [ceilN_one (by omega) (by omega)]; omega
  · rw [if_neg h0]
    unfold terN
    refine ⟨Nat.mul_le_mul_right _ (ceilN_mono _ (by omega)), ?_⟩
    have h1 := ceilN_succ (w + t.j.toNat) t.t.toNat (by omega)
    rw [show w + 1 + t.j.toNat = w + t.j.toNat + 1 by omega]
    have := Nat.mul_le_mul_right t.c.toNat h1
    rw [Nat.add_mul] at this; omega
theorem hgh_grow {s : List Tk} (h : ∀ t ∈ s, Sml t) (p : Int) (w : Nat) : hs (ifp p (terW w)) s ≤ hs (ifp p (terW (w + 1))) s ∧ hs (ifp p (terW (w + 1))) s ≤ hs (ifp p (terW w)) s + hs (ifp p (fun t => t.c.toNat)) s := by
  refine ⟨hs_le fun t ht => ?_, ?_⟩
  · unfold ifp; have := (terW_grow (h t ht) w).1; split <;> omega
  · rw [← hs_add]
    refine hs_le fun t ht => ?_
    unfold ifp; have := (terW_grow (h t ht) w).2; split <;> omega
end Go.Proofs.Vl
