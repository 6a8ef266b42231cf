/- Two numbers beside one another, changed, make one swap more, or one less; the order turned round has all others: the law OrderSwaps answers true at every input. -/
import Derived.Test.YtkgajiddcljdjaaPAllx17
import Derived.Test.YtkgajiddcljdjaaLema
namespace Go.Proofs.Ytkgajiddcljdjaa.Pure
open Go.RowKit Go.Proofs.Ytkgajiddcljdjaa.PAll Go.Proofs.YtkgajiddcljdjaaW.PrintWords Go.Proofs.YtkgajiddcljdjaaW.PrintLast Go.Proofs.YtkgajiddcljdjaaW.PrintMore
open Go.Proofs.Ytkgajiddcljdjaa.Lema
set_option linter.all false
namespace Swaps
theorem count_two (x : Int) : ∀ l : List Int, x ∉ l → l.countP (fun y => decide (y < x)) + l.countP (fun y => decide (y > x)) = l.length
  | [], _ => rfl
  | y :: l, h => by
    have ih := count_two x l (fun hx => h (List.mem_cons_of_mem _ hx))
    have hne : x ≠ y := fun e => h (by rw [e]; exact List.mem_cons_self)
    rw [List.countP_cons, List.countP_cons, List.length_cons]
    simp only [gt_iff_lt] at ih ⊢
    by_cases hlt : y < x
    · simp only [hlt, decide_true, if_true, show ¬ x < y by omega, decide_false, Bool.false_eq_true, if_false]; omega
    · simp only [hlt, decide_false, Bool.false_eq_true, if_false, show x < y by omega, decide_true, if_true]; omega
theorem inv_round : ∀ l : List Int, l.Nodup → 2 * (inv l + inv l.reverse) = l.length * (l.length - 1)
  | [], _ => rfl
  | x :: l, h => by
    have hn := List.nodup_cons.1 h
    have ih := inv_round l hn.2
    have hc := count_two x l hn.1
    rw [List.reverse_cons, inv_snoc, inv, List.countP_reverse, List.length_cons]
    cases l with
    | nil => rfl
    | cons y t =>
      simp only [List.length_cons, Nat.add_sub_cancel] at *
      rw [Nat.succ_mul (t.length + 1) (t.length + 1), Nat.mul_succ (t.length + 1) t.length]
      generalize (t.length + 1) * t.length = z at *
      omega
theorem inv_swap (a b : Int) (h : a ≠ b) : ∀ p s : List Int, (inv (p ++ b :: a :: s) : Int) = inv (p ++ a :: b :: s) + (if a > b then -1 else 1)
  | [], s => by
    simp only [List.nil_append, inv, List.countP_cons]
    by_cases hlt : a > b
    · simp only [hlt, if_true, show ¬ a < b by omega, decide_true, decide_false, Bool.false_eq_true, if_false]; push_cast; omega
    · simp only [hlt, if_false, show a < b by omega, decide_true, decide_false, Bool.false_eq_true, if_true]; push_cast; omega
  | x :: p, s => by
    have ih := inv_swap a b h p s
    simp only [List.cons_append, inv, List.countP_append, List.countP_cons]
    push_cast
    omega
theorem back_loop (x2 : Int) (x7 : Bool) (x8 : Int) (l : List Int) (x10 : Int) (r : Bool) (h : Ev fun k => cadencylaw18_OrderSwaps.l0 k x2 x7 x8 l x10 l.reverse (-1) = some r) (hl : l.length < 1000000) : ∀ m : Nat, m ≤ l.length → Ev fun k => cadencylaw18_OrderSwaps.l0 k x2 x7 x8 l x10 (l.drop m).reverse ((m : Int) - 1) = some r := by
  intro m
  induction m with
  | zero =>
    intro _
    rw [List.drop_zero]
    exact h
  | succ m ih =>
    intro hm
    refine (ih (by omega)).step fun k h => ?_
    rw [show ((m + 1 : Nat) : Int) - 1 = (m : Int) by omega, cadencylaw18_OrderSwaps.l0, if_pos (by omega), if_pos (by omega), if_pos (by omega), if_pos (by rw [List.length_reverse, List.length_drop]; omega), rdN, w64 _ (by omega)]
    rw [drop_at l m (by omega), List.reverse_cons] at h
    exact h
theorem last (b : Int) (n i : Nat) (p q : List Int) (vp vq vr : Nat) (hn : n = p.length) (hn2 : n ≤ 20) (hi : b % ((n : Int) - 1) = (i : Int)) (hin : i + 1 < p.length) (hq : q = (p.set i (p.getD (i + 1) 0)).set (i + 1) (p.getD i 0)) (hb1 : vp ≤ 400) (hb2 : vr ≤ 400)
    (hsw : (vq : Int) = vp + (if p.getD i 0 > p.getD (i + 1) 0 then -1 else 1)) (hd : wrap64 (Int.tdiv (wrap64 ((n : Int) * ((n : Int) - 1))) 2) = ((vp + vr : Nat) : Int))
    (h2 : Ev fun k => order_Swaps.f k q = some ((vq : Int), true)) (h3 : Ev fun k => order_Swaps.f k p.reverse = some ((vr : Int), true)) : Ev fun k => cadencylaw18_OrderSwaps.l0 k b true n p vp p.reverse (-1) = some true := by
  refine (h2.and h3).step fun k h => ?_
  obtain ⟨h2, h3⟩ := h
  rw [cadencylaw18_OrderSwaps.l0, if_neg (by omega), h3, Option.bind_some]
  rw [w64 ((n : Int) - 1) (by omega), rest_f _ _ (by omega) (by omega), hi, Option.bind_some]
  rw [if_pos (by omega), if_pos (by omega), w64s _ (by omega), if_pos (by omega), if_pos (by omega), rdN, rdN, Int.toNat_natCast, Int.toNat_natCast, ← hq, h2, hd]
  clear h2 h3 hd hi hq
  have e1 : wrap64 ((vp : Int) + (vr : Int)) = ((vp + vr : Nat) : Int) := by rw [w64 _ (by omega)]; omega
  have e0 : (((vp + vr : Nat) : Int) == ((vp + vr : Nat) : Int)) = true := beq_self_eq_true _
  by_cases hgt : p.getD i 0 > p.getD (i + 1) 0
  · rw [if_pos hgt] at hsw
    have e2 : wrap64 ((vp : Int) + (-1)) = (vq : Int) := by rw [w64 _ (by omega)]; omega
    rw [if_pos hgt, Option.bind_some, if_pos rfl, e2, if_pos rfl, e1, e0]
  · rw [if_neg hgt] at hsw
    have e2 : wrap64 ((vp : Int) + 1) = (vq : Int) := by rw [w64 _ (by omega)]; omega
    rw [if_neg hgt, Option.bind_some, if_pos rfl, e2, if_pos rfl, e1, e0]
theorem whole (k : Nat) (t p : List Int) (a b : Int) (n n' vp : Nat) (hn : a % 19 = (n' : Int)) (hnn : n = n' + 2) (hn2 : n' ≤ 20) (h1 : cadencylaw18_awake.f k = some true) (h2 : cadencyref18_Made.f k n t = some p) (h3 : order_Swaps.f k p = some ((vp : Int), true))
    (h4 : cadencylaw18_OrderSwaps.l0 k b true n p vp [] ((n : Int) - 1) = some true) : cadencylaw18_OrderSwaps.f k t a b = some true := by
  have e : wrap64 (2 + (n' : Int)) = (n : Int) := by rw [w64 _ (by omega)]; omega
  have e2 : wrap64 ((n : Int) - 1) = (n : Int) - 1 := w64 _ (by omega)
  rw [cadencylaw18_OrderSwaps.f, h1, Option.bind_some, rest_f _ _ (by omega) (by omega), hn, Option.bind_some, e, h2, Option.bind_some, h3, Option.bind_some, e2]
  exact h4
end Swaps
open Swaps
theorem OrderSwaps : cadencylaw18_OrderSwaps.Pure := by
  intro t a b hl hl2 hw ha hb
  have hn0 := Int.emod_nonneg a (show (19 : Int) ≠ 0 by omega)
  have hn1 := Int.emod_lt_of_pos a (show (0 : Int) < 19 by omega)
  obtain ⟨n', hn⟩ := Int.eq_ofNat_of_zero_le hn0
  obtain ⟨n, hnn⟩ : ∃ n : Nat, n = n' + 2 := ⟨_, rfl⟩
  obtain ⟨p, hp, hm⟩ := made_f n (by omega) t
  have hpl : p.length = n := by rw [hp.length_eq, first_len]
  have hok : Ok p := ok_perm hp.symm (first_ok n)
  have hi0 := Int.emod_nonneg b (show ((n : Int) - 1) ≠ 0 by omega)
  have hi1 := Int.emod_lt_of_pos b (show (0 : Int) < (n : Int) - 1 by omega)
  obtain ⟨i, hi⟩ := Int.eq_ofNat_of_zero_le hi0
  have hin : i + 1 < p.length := by omega
  -- the order, changed
  have e0 : p = p.take i ++ p.getD i 0 :: p.getD (i + 1) 0 :: p.drop (i + 2) := by
    rw [← drop_at p (i + 1) hin, ← drop_at p i (by omega), List.take_append_drop]
  have hne : p.getD i 0 ≠ p.getD (i + 1) 0 := by
    have h1 := hok.1
    rw [e0] at h1
    have h2 := (List.nodup_append.1 h1).2.1
    intro e
    rw [e] at h2
    exact (List.nodup_cons.1 h2).1 List.mem_cons_self
  obtain ⟨q, hq⟩ : ∃ q : List Int, q = (p.set i (p.getD (i + 1) 0)).set (i + 1) (p.getD i 0) := ⟨_, rfl⟩
  have e1 : q = p.take i ++ p.getD (i + 1) 0 :: p.getD i 0 :: p.drop (i + 2) := by
    have hx : (p.take i).length = i := by rw [List.length_take]; omega
    rw [hq]
    generalize p.getD i 0 = x at *
    generalize p.getD (i + 1) 0 = y at *
    generalize p.take i = u at *
    generalize p.drop (i + 2) = v at *
    subst e0
    rw [List.set_append_right _ _ (by omega), hx, Nat.sub_self, List.set_cons_zero, List.set_append_right _ _ (by omega), hx, show i + 1 - i = 1 by omega]
    rfl
  have hperm : p.Perm q := by
    rw [e1]
    conv => lhs; rw [e0]
    exact List.Perm.append_left _ (List.Perm.swap _ _ _)
  have hokq : Ok q := ok_perm hperm hok
  have hrev : Ok p.reverse := ok_perm (List.reverse_perm p).symm hok
  have hround := inv_round p hok.1
  have hsw := inv_swap _ _ hne (p.take i) (p.drop (i + 2))
  rw [← e0, ← e1] at hsw
  have hb1 : inv p ≤ p.length * p.length := inv_le p
  have hb2 : inv p.reverse ≤ p.reverse.length * p.reverse.length := inv_le _
  have hb3 : p.length * p.length ≤ 20 * 20 := Nat.mul_le_mul (by omega) (by omega)
  rw [List.length_reverse] at hb2
  have hdiv : wrap64 (Int.tdiv (wrap64 ((n : Int) * (wrap64 ((n : Int) - 1)))) 2) = ((inv p + inv p.reverse : Nat) : Int) := by
    have e : (n : Int) * ((n : Int) - 1) = ((p.length * (p.length - 1) : Nat) : Int) := by
      rw [hpl, Int.natCast_mul, Int.natCast_sub (by omega)]; rfl
    have hle : p.length * (p.length - 1) ≤ p.length * p.length := Nat.mul_le_mul_left _ (by omega)
    have e2 : wrap64 ((n : Int) * (wrap64 ((n : Int) - 1))) = ((p.length * (p.length - 1) : Nat) : Int) := by rw [w64 ((n : Int) - 1) (by omega), e, w64 _ (by omega)]
    have e3 : Int.tdiv ((2 * (inv p + inv p.reverse) : Nat) : Int) 2 = ((inv p + inv p.reverse : Nat) : Int) := by rw [Int.tdiv_eq_ediv_of_nonneg (by omega)]; omega
    rw [e2, ← hround, e3, w64 _ (by omega)]
  have Q1 : Ev fun k => order_Swaps.f k p = some ((inv p : Int), true) := (swaps_f p (by omega)).imp fun k h => by rw [h, show okb p = true from decide_eq_true hok]; rfl
  have Q2 : Ev fun k => order_Swaps.f k q = some ((inv q : Int), true) := (swaps_f q (by rw [← hperm.length_eq]; omega)).imp fun k h => by rw [h, show okb q = true from decide_eq_true hokq]; rfl
  have Q3 : Ev fun k => order_Swaps.f k p.reverse = some ((inv p.reverse : Int), true) := (swaps_f p.reverse (by rw [List.length_reverse]; omega)).imp fun k h => by rw [h, show okb p.reverse = true from decide_eq_true hrev]; rfl
  have hd2 := hdiv
  rw [w64 ((n : Int) - 1) (by omega)] at hd2
  have LAST := last b n i p q (inv p) (inv q) (inv p.reverse) hpl.symm (by omega) hi hin hq (by omega) (by omega) hsw hd2 Q2 Q3
  have ALL := back_loop b true n p (inv p) true LAST (by omega) n (by omega)
  rw [List.drop_of_length_le (by omega)] at ALL
  obtain ⟨k, h1, h2, h3, h4⟩ := (awake.and (hm.and (Q1.and ALL))).ex
  refine ⟨k, ?_⟩
  exact whole k t p a b n n' (inv p) hn hnn (by omega) h1 h2 h3 h4
end Go.Proofs.Ytkgajiddcljdjaa.Pure
