/- Sums and multiples do not hang on the order. -/
import Derived.Test.YtjpmbklfaoejmaaDoorA1
set_option linter.all false
namespace Go.Proofs.Vl
theorem foldl_last {α β : Type} {f : β → α → β} (hf : ∀ a b c, f (f a b) c = f (f a c) b) : ∀ (l : List α) (a : β) (b : α), l.foldl f (f a b) = f (l.foldl f a) b
  | [], _, _ => rfl
  | t :: l, a, b => by rw [List.foldl_cons, List.foldl_cons, hf, foldl_last hf l]
theorem foldl_rev {α β : Type} {f : β → α → β} (hf : ∀ a b c, f (f a b) c = f (f a c) b) : ∀ (l : List α) (a : β), l.reverse.foldl f a = l.foldl f a
  | [], _ => rfl
  | t :: l, a => by rw [List.reverse_cons, List.foldl_append, foldl_rev hf l, List.foldl_cons, List.foldl_cons, List.foldl_nil, foldl_last hf]
def opl (a b : Nat × Nat) : Nat × Nat := (a.1 * b.2 + b.1 * a.2, a.2 * b.2)
theorem opl_comm (a b c : Nat × Nat) : opl (opl a b) c = opl (opl a c) b := by
  unfold opl
  dsimp only
  refine Prod.ext ?_ ?_
  · dsimp only
    simp only [Nat.add_mul]
    have e1 : a.1 * b.2 * c.2 = a.1 * c.2 * b.2 := Nat.mul_right_comm _ _ _
    have e2 : b.1 * a.2 * c.2 = b.1 * (a.2 * c.2) := Nat.mul_assoc _ _ _
    have e3 : c.1 * (a.2 * b.2) = c.1 * a.2 * b.2 := (Nat.mul_assoc _ _ _).symm
    omega
  · dsimp only
    exact Nat.mul_right_comm _ _ _
def sumU (a : Nat × Nat) (l : List Tk) : Nat × Nat := l.foldl (fun a t => opl a (tkF t)) a
theorem sumU_rev (a : Nat × Nat) (l : List Tk) : sumU a l.reverse = sumU a l := foldl_rev (fun a b c => opl_comm a (tkF b) (tkF c)) l a
/-- Two pairs tell one number. -/
def like (a b : Nat × Nat) : Prop := a.1 * b.2 = b.1 * a.2
theorem like_trans {a b c : Nat × Nat} (hb : 0 < b.2) (h1 : like a b) (h2 : like b c) : like a c := by
  unfold like at *
  refine Nat.eq_of_mul_eq_mul_right hb ?_
  calc a.1 * c.2 * b.2 = a.1 * b.2 * c.2 := Nat.mul_right_comm _ _ _
    _ = b.1 * a.2 * c.2 := by rw [h1]
    _ = b.1 * c.2 * a.2 := Nat.mul_right_comm _ _ _
    _ = c.1 * b.2 * a.2 := by rw [h2]
    _ = c.1 * a.2 * b.2 := Nat.mul_right_comm _ _ _
theorem like_opl {a b t : Nat × Nat} (h : like a b) : like (opl a t) (opl b t) := by
  unfold like opl at *
  dsimp only
  have e1 : a.1 * t.2 * (b.2 * t.2) = b.1 * t.2 * (a.2 * t.2) := by
    calc a.1 * t.2 * (b.2 * t.2) = a.1 * b.2 * (t.2 * t.2) := by simp only [Nat.mul_assoc, Nat.mul_comm, Nat.mul_left_comm]
      _ = b.1 * a.2 * (t.2 * t.2) := by rw [h]
      _ = b.1 * t.2 * (a.2 * t.2) := by simp only [Nat.mul_assoc, Nat.mul_comm, Nat.mul_left_comm]
  have e2 : t.1 * a.2 * (b.2 * t.2) = t.1 * b.2 * (a.2 * t.2) := by simp only [Nat.mul_assoc, Nat.mul_comm, Nat.mul_left_comm]
  rw [Nat.add_mul, Nat.add_mul, e1, e2]
theorem ad_like {a b : Nat × Nat} (ha0 : 0 < a.2) (hb0 : 0 < b.2) (h : adB a b = true) : like (adF a b) (opl a b) := ad_key ha0 hb0 h
def cop (a : Nat × Nat) : Prop := Nat.gcd a.1 a.2 = 1
theorem cop01 : cop (0, 1) := (rfl : Nat.gcd 0 1 = 1)
theorem fm_cop {n d : Nat} (hd : 0 < d) : cop (fm n d) := by
  unfold cop fm
  exact Nat.coprime_div_gcd_div_gcd (Nat.gcd_pos_of_pos_right n hd)
theorem sumF_like : ∀ (l : List Tk) (a c f : Nat × Nat), 0 < a.2 → 0 < c.2 → cop a → like a c → (∀ t ∈ l, badB t = false) → sumF a l = some f → like f (sumU c l) ∧ cop f ∧ 0 < f.2 ∧ 0 < (sumU c l).2
  | [], a, c, f, h0, hc, hcp, h, _, hs => by cases hs; exact ⟨h, hcp, h0, hc⟩
  | t :: l, a, c, f, h0, hc, hcp, h, hb, hs => by
    have ht := tkF_pos (hb t List.mem_cons_self)
    unfold sumF at hs
    split at hs
    · rename_i g
      have k := adF_ok g h0 ht
      have hcop : cop (adF a (tkF t)) := by rw [adF, if_pos g]; exact fm_cop (Nat.lcm_pos h0 ht)
      have hl : like (adF a (tkF t)) (opl c (tkF t)) := like_trans (b := opl a (tkF t)) (Nat.mul_pos h0 ht) (ad_like h0 ht g) (like_opl h)
      exact sumF_like l _ (opl c (tkF t)) f k.2 (Nat.mul_pos hc ht) hcop hl (fun u hu => hb u (List.mem_cons_of_mem _ hu)) hs
    · cases hs
theorem cop_eq {a b : Nat × Nat} (ha : cop a) (hb : cop b) (a0 : 0 < a.2) (h : like a b) : a = b := by
  unfold cop like at *
  have d1 : a.2 ∣ b.2 := by
    have : a.2 ∣ a.1 * b.2 := ⟨b.1, by rw [h, Nat.mul_comm]⟩
    exact Nat.Coprime.dvd_of_dvd_mul_left (show Nat.gcd a.2 a.1 = 1 by rw [Nat.gcd_comm]; exact ha) this
  have d2 : b.2 ∣ a.2 := by
    have : b.2 ∣ b.1 * a.2 := ⟨a.1, by rw [← h, Nat.mul_comm]⟩
    exact Nat.Coprime.dvd_of_dvd_mul_left (show Nat.gcd b.2 b.1 = 1 by rw [Nat.gcd_comm]; exact hb) this
  have e := Nat.dvd_antisymm d1 d2
  refine Prod.ext ?_ e
  rw [← e] at h
  exact Nat.eq_of_mul_eq_mul_right a0 h
theorem smF_rev (l : List Tk) (h1 : (smF l).2 = 0) (h2 : (smF l.reverse).2 = 0) : (smF l).1 = (smF l.reverse).1 := by
  have key : ∀ l : List Tk, (smF l).2 = 0 → (∀ t ∈ l, badB t = false) ∧ sumF (0, 1) l = some (smF l).1 := by
    intro l h
    unfold smF at h ⊢
    split
    · rename_i g; rw [if_pos g] at h; cases h
    · rename_i g
      rw [if_neg g] at h
      refine ⟨fun t ht => ?_, ?_⟩
      · have : l.any badB = false := by simpa using g
        rw [List.any_eq_false] at this
        exact Bool.eq_false_iff.2 (this t ht)
      · cases hs : sumF (0, 1) l with
        | none => rw [hs] at h; cases h
        | some a => rfl
  obtain ⟨a1, a2⟩ := key l h1
  obtain ⟨b1, b2⟩ := key _ h2
  have c1 := sumF_like l (0, 1) (0, 1) _ (by decide) (by decide) cop01 (show like (0, 1) (0, 1) from rfl) a1 a2
  have c2 := sumF_like _ (0, 1) (0, 1) _ (by decide) (by decide) cop01 (show like (0, 1) (0, 1) from rfl) b1 b2
  rw [sumU_rev] at c2
  exact cop_eq c1.2.1 c2.2.1 c1.2.2.1 (like_trans c1.2.2.2 c1.1 (show like _ _ from c2.1.symm))
theorem smF_one (l : List Tk) : ((smF l).2 == 1) = l.any badB := by
  unfold smF
  split
  · rename_i g; rw [g]; rfl
  · rename_i g
    rw [Bool.eq_false_iff.2 g]
    cases sumF (0, 1) l <;> rfl
def lcL (a : Nat) (l : List Tk) : Nat := l.foldl (fun a t => Nat.lcm a t.t.toNat) a
theorem lcm_rc (a b c : Nat) : Nat.lcm (Nat.lcm a b) c = Nat.lcm (Nat.lcm a c) b := by
  rw [Nat.lcm_assoc, Nat.lcm_comm b c, ← Nat.lcm_assoc]
theorem lcL_rev (a : Nat) (l : List Tk) : lcL a l.reverse = lcL a l := foldl_rev (fun a b c => lcm_rc a b.t.toNat c.t.toNat) l a
theorem lcL_ge : ∀ (l : List Tk) (a : Nat), 0 < a → (∀ t ∈ l, 1 ≤ t.t) → a ≤ lcL a l
  | [], _, _, _ => Nat.le_refl _
  | t :: l, a, h, hl => by
    have ht := hl t List.mem_cons_self
    have hp : 0 < Nat.lcm a t.t.toNat := Nat.lcm_pos h (by omega)
    exact Nat.le_trans (Nat.le_of_dvd hp (Nat.dvd_lcm_left _ _)) (lcL_ge l _ hp fun u hu => hl u (List.mem_cons_of_mem _ hu))
theorem perF_eq : ∀ (l : List Tk) (a : Nat), 0 < a → a < 18446744073709551616 → (∀ t ∈ l, 1 ≤ t.t) → perF a l = if lcL a l < 18446744073709551616 then some (lcL a l) else none
  | [], a, _, h, _ => by show some a = _; rw [if_pos (show lcL a [] < _ from h)]; rfl
  | t :: l, a, h0, h, hl => by
    have ht := hl t List.mem_cons_self
    have hp : 0 < Nat.lcm a t.t.toNat := Nat.lcm_pos h0 (by omega)
    have hl2 : ∀ u ∈ l, 1 ≤ u.t := fun u hu => hl u (List.mem_cons_of_mem _ hu)
    have hge := lcL_ge l _ hp hl2
    show (if okB (Nat.lcm a t.t.toNat) then perF (Nat.lcm a t.t.toNat) l else none) = if lcL (Nat.lcm a t.t.toNat) l < _ then some (lcL (Nat.lcm a t.t.toNat) l) else none
    by_cases g : Nat.lcm a t.t.toNat < 18446744073709551616
    · rw [if_pos (show okB _ = true from decide_eq_true g)]
      exact perF_eq l _ hp g hl2
    · rw [if_neg (show ¬ okB _ = true from fun e => g (of_decide_eq_true e)), if_neg (by omega)]
theorem perL_rev (l : List Tk) : perL l.reverse = perL l := by
  unfold perL
  rw [List.all_reverse]
  split
  · rename_i g
    have hl : ∀ t ∈ l, 1 ≤ t.t := fun t ht => of_decide_eq_true (List.all_eq_true.1 g t ht)
    rw [perF_eq _ _ (by decide) (by decide) (fun t ht => hl t (List.mem_reverse.1 ht)), perF_eq _ _ (by decide) (by decide) hl, lcL_rev]
  · rfl
theorem any_rev (l : List Tk) : l.reverse.any badB = l.any badB := List.any_reverse
end Go.Proofs.Vl
