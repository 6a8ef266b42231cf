/- An order is told of its rank, and its rank of it: the law OrderBack answers true at every input. -/
import Derived.Test.YtkgajiddcljdjaaPAllx9
import Derived.Test.YtkgajiddcljdjaaLema
namespace Go.Proofs.Ytkgajiddcljdjaa.Pure
open Go.RowKit Go.Proofs.Ytkgajiddcljdjaa.PAll Go.Proofs.YtkgajiddcljdjaaW.PrintWords Go.Proofs.YtkgajiddcljdjaaW.PrintLast Go.Proofs.YtkgajiddcljdjaaW.PrintMore
open Go.Proofs.Ytkgajiddcljdjaa.Lema
set_option linter.all false
namespace Back
/-! ### digits -/
def fac : Nat → Int
  | 0 => 1
  | n + 1 => fac n * ((n : Int) + 1)
theorem fac_pos : ∀ n, 0 < fac n
  | 0 => by decide
  | n + 1 => Int.mul_pos (fac_pos n) (by omega)
theorem fac_20 (n : Nat) (h : n ≤ 20) : fac n ≤ 2432902008176640000 := by
  have : ∀ n : Fin 21, fac n.val ≤ 2432902008176640000 := by decide +kernel
  exact this ⟨n, by omega⟩
def V : List Int → Int
  | [] => 0
  | d :: ds => d * fac ds.length + V ds
def Good : List Int → Prop
  | [] => True
  | d :: ds => 0 ≤ d ∧ d ≤ (ds.length : Int) ∧ Good ds
theorem V_nn : ∀ D, Good D → 0 ≤ V D
  | [], _ => Int.le_refl _
  | d :: ds, h => Int.add_nonneg (Int.mul_nonneg h.1 (Int.le_of_lt (fac_pos _))) (V_nn ds h.2.2)
theorem V_lt : ∀ D, Good D → V D < fac D.length
  | [], _ => by decide
  | d :: ds, h => by
    have ih := V_lt ds h.2.2
    have h1 : d * fac ds.length ≤ (ds.length : Int) * fac ds.length := Int.mul_le_mul_of_nonneg_right h.2.1 (Int.le_of_lt (fac_pos _))
    rw [V, List.length_cons, fac, Int.mul_add, Int.mul_one, Int.mul_comm (fac ds.length)]
    omega
theorem dig_V : ∀ (D : List Int) (c : Int), Good D → order_Unrank.dig D.length (V D + fac D.length * c) = (D, c)
  | [], c, _ => by simp [order_Unrank.dig, V, fac]
  | d :: ds, c, h => by
    have e : V (d :: ds) + fac (d :: ds).length * c = V ds + fac ds.length * (d + ((ds.length : Int) + 1) * c) := by
      rw [V, List.length_cons, fac, Int.mul_assoc (fac ds.length), Int.mul_add (fac ds.length) d, Int.mul_comm d]; omega
    have hd := h.2.1
    have hd0 := h.1
    rw [e, List.length_cons, order_Unrank.dig, dig_V ds _ h.2.2]
    have h1 : (d + ((ds.length : Int) + 1) * c) % ((ds.length : Int) + 1) = d := by
      rw [Int.add_mul_emod_self_left]; exact Int.emod_eq_of_lt hd0 (by omega)
    have h2 : (d + ((ds.length : Int) + 1) * c) / ((ds.length : Int) + 1) = c := by
      rw [Int.add_mul_ediv_left _ _ (by omega), Int.ediv_eq_zero_of_lt hd0 (by omega), Int.zero_add]
    simp only [h1, h2]
theorem dig_sum (r : Int) : ∀ n, V (order_Unrank.dig n r).1 + fac n * (order_Unrank.dig n r).2 = r
  | 0 => by simp [order_Unrank.dig, V, fac]
  | n + 1 => by
    have ih := dig_sum r n
    have hl := order_Unrank.dig_len r n
    rw [order_Unrank.dig, V, hl, fac]
    generalize (order_Unrank.dig n r).2 = q at *
    have e := Int.emod_add_mul_ediv q ((n : Int) + 1)
    rw [Int.mul_assoc, Int.mul_comm (q % _)]
    have e2 : fac n * (q % ((n : Int) + 1)) + fac n * (((n : Int) + 1) * (q / ((n : Int) + 1))) = fac n * q := by rw [← Int.mul_add, e]
    dsimp only
    omega
theorem dig_good (r : Int) : ∀ n, Good (order_Unrank.dig n r).1
  | 0 => trivial
  | n + 1 => by
    have hl := order_Unrank.dig_len r n
    refine ⟨Int.emod_nonneg _ (by omega), ?_, dig_good r n⟩
    have := Int.emod_lt_of_pos (order_Unrank.dig n r).2 (show (0 : Int) < (n : Int) + 1 by omega)
    show (order_Unrank.dig n r).2 % ((n : Int) + 1) ≤ ((order_Unrank.dig n r).1.length : Int)
    rw [hl]; omega
theorem dig_low (r : Int) (n : Nat) (h0 : 0 ≤ r) (h : r < fac n) : (order_Unrank.dig n r).2 = 0 := by
  have e := dig_sum r n
  have v := V_lt _ (dig_good r n)
  have v0 := V_nn _ (dig_good r n)
  have q0 := (order_Unrank.dig_nn r h0 n).1
  have hf := fac_pos n
  by_cases hq : (order_Unrank.dig n r).2 = 0
  · exact hq
  · have : fac n * 1 ≤ fac n * (order_Unrank.dig n r).2 := Int.mul_le_mul_of_nonneg_left (by omega) (Int.le_of_lt hf)
    omega
theorem dig_high (r : Int) (n : Nat) (h0 : 0 ≤ r) (h : fac n ≤ r) : 0 < (order_Unrank.dig n r).2 := by
  have e := dig_sum r n
  have v := V_lt _ (dig_good r n)
  rw [order_Unrank.dig_len] at v
  have q0 := (order_Unrank.dig_nn r h0 n).1
  by_cases hq : (order_Unrank.dig n r).2 = 0
  · rw [hq, Int.mul_zero] at e; omega
  · omega

/-! ### what digits pick -/
def pk : List Nat → List Int → List Int
  | _, [] => []
  | F, d :: ds => match F[d.toNat]? with
    | none => pk F ds
    | some x => (x : Int) :: pk (F.filter (· != x)) ds
def free (u : List Bool) (i m : Nat) : List Nat := (List.range' i m).filter (fun x => !u.getD x false)
theorem pick_free (u : List Bool) : ∀ (m i : Nat) (d : Int), 0 ≤ d → order_Unrank.pick u m i d = (free u i m)[d.toNat]?
  | 0, _, _, _ => by simp [order_Unrank.pick, free]
  | m + 1, i, d, h => by
    rw [order_Unrank.pick, free, List.range'_succ, List.filter_cons]
    by_cases hu : u.getD i false = true
    · rw [if_pos hu, if_neg (show ¬ (!u.getD i false) = true by rw [hu]; decide)]
      exact pick_free u m (i + 1) d h
    · rw [if_neg hu, if_pos (show (!u.getD i false) = true by rw [Bool.eq_false_iff.mpr hu]; decide)]
      by_cases hd : d = 0
      · subst hd; rw [if_pos rfl]; rfl
      · obtain ⟨e, rfl⟩ := Int.eq_ofNat_of_zero_le h
        obtain ⟨e', rfl⟩ : ∃ e', e = e' + 1 := ⟨e - 1, by omega⟩
        rw [if_neg hd, pick_free u m (i + 1) _ (by omega), show (((e' + 1 : Nat) : Int) - 1).toNat = e' by omega, Int.toNat_natCast, List.getElem?_cons_succ]
        rfl
theorem free_set (u : List Bool) (n x : Nat) (hx : x < u.length) : free (u.set x true) 0 n = (free u 0 n).filter (· != x) := by
  rw [free, free, List.filter_filter]
  refine List.filter_congr fun y _ => ?_
  by_cases h : x = y
  · subst h; simp [hx]
  · have : (u.set x true).getD y false = u.getD y false := by simp [h]
    rw [this]
    have h2 : (y != x) = true := by simpa using fun e => h e.symm
    rw [h2, Bool.true_and]
theorem free_lt (u : List Bool) (n x d : Nat) (h : (free u 0 n)[d]? = some x) : x < n := by
  have := List.mem_of_getElem? h
  rw [free, List.mem_filter, List.mem_range'_1] at this
  omega
theorem picks_pk (n : Nat) : ∀ (D : List Int) (u : List Bool), n ≤ u.length → Good D → order_Unrank.picks n u D = pk (free u 0 n) D
  | [], _, _, _ => by simp [order_Unrank.picks, pk]
  | d :: ds, u, hu, h => by
    rw [order_Unrank.picks, pk, pick_free u n 0 d h.1]
    cases he : (free u 0 n)[d.toNat]? with
    | none => exact picks_pk n ds u hu h.2.2
    | some x =>
      have hx := free_lt u n x _ he
      show (x : Int) :: order_Unrank.picks n (u.set x true) ds = (x : Int) :: pk ((free u 0 n).filter (· != x)) ds
      rw [picks_pk n ds (u.set x true) (by simpa using hu) h.2.2, free_set u n x (by omega)]

/-! ### an order's digits -/
def leh : List Int → List Int
  | [] => []
  | x :: xs => (xs.countP (fun y => decide (y < x)) : Int) :: leh xs
theorem leh_len : ∀ l, (leh l).length = l.length
  | [] => rfl
  | _ :: xs => by rw [leh, List.length_cons, List.length_cons, leh_len xs]
theorem leh_good : ∀ l, Good (leh l)
  | [] => trivial
  | x :: xs => ⟨by omega, by rw [leh_len]; exact Int.ofNat_le.2 List.countP_le_length, leh_good xs⟩
abbrev Up (F : List Nat) : Prop := F.Pairwise (· < ·)
def cast (F : List Nat) : List Int := F.map (fun i : Nat => (i : Int))
theorem up_nodup {F : List Nat} (h : Up F) : F.Nodup := h.imp fun h e => by omega
theorem up_count : ∀ (F : List Nat) (d x : Nat), Up F → F[d]? = some x → (cast F).countP (fun y => decide (y < (x : Int))) = d
  | [], _, _, _, h => by simp at h
  | y :: F, 0, x, hu, h => by
    obtain rfl : y = x := by simpa using h
    refine List.countP_eq_zero.2 fun z hz => ?_
    obtain ⟨w, hw, rfl⟩ := List.mem_map.1 hz
    rcases List.mem_cons.1 hw with rfl | hw
    · simp
    · have := (List.pairwise_cons.1 hu).1 w hw; simp; omega
  | y :: F, d + 1, x, hu, h => by
    rw [List.getElem?_cons_succ] at h
    have hm := List.mem_of_getElem? h
    have hlt := (List.pairwise_cons.1 hu).1 x hm
    have ih := up_count F d x (List.pairwise_cons.1 hu).2 h
    show ((y : Int) :: cast F).countP _ = d + 1
    rw [List.countP_cons, ih, if_pos (by simpa using hlt)]
theorem out_perm {F : List Nat} {x : Nat} (h : Up F) (hx : x ∈ F) : F.Perm (x :: F.filter (· != x)) := by
  rw [← (up_nodup h).erase_eq_filter x]
  exact List.perm_cons_erase hx
theorem pk_leh : ∀ (D : List Int) (F : List Nat), Up F → Good D → D.length = F.length → (pk F D).Perm (cast F) ∧ leh (pk F D) = D
  | [], F, _, _, hl => by
    have : F = [] := List.eq_nil_of_length_eq_zero hl.symm
    subst this
    exact ⟨List.Perm.refl _, rfl⟩
  | d :: ds, F, hu, hg, hl => by
    obtain ⟨e, he⟩ := Int.eq_ofNat_of_zero_le hg.1
    have hd := hg.2.1
    rw [List.length_cons] at hl
    have hlt : e < F.length := by omega
    have hx : F[e]? = some F[e] := List.getElem?_eq_getElem hlt
    generalize F[e] = x at hx
    have hp := out_perm hu (List.mem_of_getElem? hx)
    have hpl := hp.length_eq
    rw [List.length_cons] at hpl
    obtain ⟨i1, i2⟩ := pk_leh ds (F.filter (· != x)) (hu.filter _) hg.2.2 (by omega)
    have hpc : (cast F).Perm ((x : Int) :: cast (F.filter (· != x))) := hp.map _
    have e1 : pk F (d :: ds) = (x : Int) :: pk (F.filter (· != x)) ds := by
      rw [pk, he, Int.toNat_natCast, hx]
    rw [e1]
    refine ⟨(List.Perm.cons _ i1).trans hpc.symm, ?_⟩
    rw [leh, i2, i1.countP_eq]
    have c := up_count F e x hu hx
    rw [hpc.countP_eq, List.countP_cons, if_neg (by simp)] at c
    rw [he, ← c]; rfl
theorem leh_pk : ∀ (p : List Int) (F : List Nat), Up F → p.Perm (cast F) → pk F (leh p) = p
  | [], F, _, _ => by simp [leh, pk]
  | y :: xs, F, hu, hp => by
    obtain ⟨x, hxF, rfl⟩ := List.mem_map.1 (hp.mem_iff.1 List.mem_cons_self)
    obtain ⟨d, hd, hdx⟩ := List.mem_iff_getElem.1 hxF
    have hx : F[d]? = some x := by rw [List.getElem?_eq_getElem hd, hdx]
    have c := up_count F d x hu hx
    have c2 := hp.countP_eq (fun y => decide (y < (x : Int)))
    rw [List.countP_cons, if_neg (by simp), c] at c2
    have hpc : (cast F).Perm ((x : Int) :: cast (F.filter (· != x))) := (out_perm hu hxF).map _
    have hp2 : xs.Perm (cast (F.filter (· != x))) := (List.perm_cons _).1 (hp.trans hpc)
    rw [leh, pk, show (xs.countP (fun y => decide (y < (x : Int))) : Int) = (d : Int) by omega, Int.toNat_natCast, hx]
    show (x : Int) :: pk (F.filter (· != x)) (leh xs) = (x : Int) :: xs
    rw [leh_pk xs _ (hu.filter _) hp2]

/-! ### ranks are sums of digits -/
theorem leh_drop (l : List Int) (j : Nat) (h : j < l.length) : leh (l.drop j) = (lessN l j : Int) :: leh (l.drop (j + 1)) := by rw [drop_at l j h, leh, lessN]
theorem rk_val (l : List Int) (hl : l.length ≤ 20) : ∀ (n j : Nat) (r : Int), n + j = l.length → 0 ≤ r → r * fac n + V (leh (l.drop j)) < 4611686018427387904 → rk l n j r = r * fac n + V (leh (l.drop j)) := by
  intro n
  induction n with
  | zero =>
    intro j r hj h0 hb
    rw [rk, List.drop_of_length_le (by omega)]
    simp [fac, leh, V]
  | succ n ih =>
    intro j r hj h0 hb
    have hlen : (leh (l.drop (j + 1))).length = n := by rw [leh_len, List.length_drop]; omega
    have e : r * fac (n + 1) + V (leh (l.drop j)) = (r * ((n : Int) + 1) + lessN l j) * fac n + V (leh (l.drop (j + 1))) := by
      rw [leh_drop l j (by omega), V, hlen, fac, Int.add_mul, Int.mul_comm (fac n), Int.mul_assoc]; omega
    have v0 := V_nn _ (leh_good (l.drop (j + 1)))
    have hr : 0 ≤ r * ((n : Int) + 1) := Int.mul_nonneg h0 (by omega)
    have hs : (r * ((n : Int) + 1) + lessN l j) * 1 ≤ (r * ((n : Int) + 1) + lessN l j) * fac n := Int.mul_le_mul_of_nonneg_left (fac_pos n) (by omega)
    have hm : (l.length : Int) - (j : Int) = (n : Int) + 1 := by omega
    rw [e] at hb ⊢
    rw [rk, hm, w64 ((n : Int) + 1) (by omega), w64 (r * ((n : Int) + 1)) (by omega), w64 _ (by omega)]
    exact ih (j + 1) _ (by omega) (by omega) hb
theorem rank_val (l : List Int) (hl : l.length ≤ 20) : rank l = V (leh l) := by
  have h1 := V_lt _ (leh_good l)
  have h2 := fac_20 l.length hl
  rw [leh_len] at h1
  have := rk_val l hl l.length 0 0 (by omega) (Int.le_refl _) (by rw [List.drop_zero]; omega)
  rw [List.drop_zero, Int.zero_mul, Int.zero_add] at this
  exact this
theorem free_all (n : Nat) (h : n ≤ 20) : free (List.replicate 20 false) 0 n = List.range n := by
  rw [free, List.range_eq_range', List.filter_eq_self]
  intro x hx
  rw [List.mem_range'_1] at hx
  have : (List.replicate 20 false).getD x false = false := by rw [List.getD_eq_getElem?_getD, List.getElem?_replicate]; split <;> rfl
  rw [this]
  rfl
theorem up_range (n : Nat) : Up (List.range n) := List.pairwise_lt_range
/-- What stands at a rank. -/
def at_ (n : Nat) (r : Int) : List Int := pk (List.range n) (order_Unrank.dig n r).1
theorem unrank_f (n : Nat) (h : n ≤ 20) (r : Int) (hr : -9223372036854775808 ≤ r ∧ r < 9223372036854775808) : order_Unrank.f n r = some (if 0 ≤ r ∧ r < fac n then (at_ n r, true) else ([], false)) := by
  rw [order_Unrank.f, if_pos ⟨by omega, by omega, by omega, by omega⟩]
  by_cases h0 : 0 ≤ r
  · rw [if_neg (by omega), Int.toNat_natCast]
    by_cases h1 : r < fac n
    · rw [if_neg (show ¬ 0 < (order_Unrank.dig n r).2 by rw [dig_low r n h0 h1]; omega), if_pos (show 0 ≤ r ∧ r < fac n from ⟨h0, h1⟩), picks_pk n _ _ (by rw [List.length_replicate]; omega) (dig_good r n), free_all n h]
      rfl
    · rw [if_pos (dig_high r n h0 (by omega)), if_neg (show ¬ (0 ≤ r ∧ r < fac n) from fun hh => h1 hh.2)]
  · rw [if_pos (by omega), if_neg (fun hh => h0 hh.1)]
theorem at_perm (n : Nat) (r : Int) : (at_ n r).Perm (first n) ∧ leh (at_ n r) = (order_Unrank.dig n r).1 :=
  pk_leh _ _ (up_range n) (dig_good r n) (by rw [order_Unrank.dig_len, List.length_range])
theorem at_rank (n : Nat) (h : n ≤ 20) (r : Int) (h0 : 0 ≤ r) (h1 : r < fac n) : rank (at_ n r) = r := by
  obtain ⟨hp, hl⟩ := at_perm n r
  rw [rank_val _ (by rw [hp.length_eq, first_len]; exact h), hl]
  have e := dig_sum r n
  rw [dig_low r n h0 h1, Int.mul_zero, Int.add_zero] at e
  exact e
theorem rank_at (n : Nat) (h : n ≤ 20) (p : List Int) (hp : p.Perm (first n)) : at_ n (rank p) = p ∧ 0 ≤ rank p ∧ rank p < fac n := by
  have hl : p.length = n := by rw [hp.length_eq, first_len]
  have hg := leh_good p
  have e := dig_V (leh p) 0 hg
  rw [Int.mul_zero, Int.add_zero, leh_len, hl] at e
  rw [rank_val p (by omega), at_, e]
  have hv := V_lt _ hg
  rw [leh_len, hl] at hv
  exact ⟨leh_pk p _ (up_range n) hp, V_nn _ hg, hv⟩
theorem rank_ok (l : List Int) (n : Nat) (h : n ≤ 20) (hp : l.Perm (first n)) : Ev fun k => order_Rank.f k l = some (rank l, true) := by
  have hl : l.length = n := by rw [hp.length_eq, first_len]
  have hv : okb l = true := decide_eq_true (ok_perm hp.symm (first_ok n))
  exact (rank_f l (by omega)).imp fun k hk => by rw [hk, if_neg (by rw [hv]; simp; omega)]
theorem valid_ok (l : List Int) (n : Nat) (h : n ≤ 20) (hp : l.Perm (first n)) : Ev fun k => order_Valid.f k l = some true := by
  have hl : l.length = n := by rw [hp.length_eq, first_len]
  have hv : okb l = true := decide_eq_true (ok_perm hp.symm (first_ok n))
  exact (valid_f l (by omega)).imp fun k hk => by rw [hk, hv]
theorem same_loop (p : List Int) (hp : p.length < 1000000) : ∀ n j : Nat, n + j = p.length → Ev fun k => cadencyref18_Same.l0 k p p (j : Int) = some true := by
  intro n
  induction n with
  | zero =>
    intro j hj
    exact Ev.one fun k => by rw [cadencyref18_Same.l0, if_neg (by omega)]
  | succ n ih =>
    intro j hj
    refine (ih (j + 1) (by omega)).step fun k h => ?_
    rw [cadencyref18_Same.l0, if_pos (by omega), if_pos (by omega), if_pos (by omega), if_pos rfl, w64s _ (by omega)]
    exact h
theorem same_f (p : List Int) (hp : p.length < 1000000) : Ev fun k => cadencyref18_Same.f k p p = some true := (same_loop p hp p.length 0 (by omega)).imp fun k h => by rw [cadencyref18_Same.f, if_pos rfl]; exact h

/-! ### the law -/
theorem last (k : Nat) (x2 : Int) (n : Nat) (M i y r : Int) (x : List Int) (z : List Int) (one : Bool) (hi : ¬ i ≤ (n : Int)) (hM : M ≠ 0) (hr : Int.tmod (wrap64 ((Int.tmod x2 M) + M)) M = r)
    (h1 : order_Unrank.f n x2 = some (x, one)) (h2 : order_Unrank.f n r = some (z, true)) (h3 : order_Rank.f k z = some (r, true)) (h4 : order_Unrank.f 21 0 = some ([], false)) (h5 : order_Valid.f k z = some true)
    (h6 : one = true → order_Rank.f k x = some (x2, true)) (h7 : one = decide (0 ≤ x2 ∧ x2 < M)) : cadencylaw18_OrderBack.l0 (k + 1) x2 true n true true true M i = some true := by
  rw [cadencylaw18_OrderBack.l0, if_neg hi, h1, Option.bind_some, if_neg hM, hr, h2, Option.bind_some, h3, Option.bind_some, h4, Option.bind_some]
  dsimp only
  by_cases g : one = true
  · have g2 := h6 g
    subst g
    have g3 : 0 ≤ x2 ∧ x2 < M := of_decide_eq_true h7.symm
    rw [if_pos rfl, g2, Option.bind_some, if_pos rfl, if_pos rfl, if_pos rfl, if_pos rfl, if_pos rfl, if_pos rfl, if_pos g3.1, if_pos (by rw [decide_eq_true g3.2]; rfl), if_pos rfl, if_pos rfl, if_pos rfl, if_neg Bool.false_ne_true, h5, Option.bind_some]
  · obtain rfl : one = false := Bool.eq_false_iff.mpr g
    have g3 : ¬ (0 ≤ x2 ∧ x2 < M) := of_decide_eq_false h7.symm
    rw [if_neg Bool.false_ne_true, if_pos rfl, if_pos rfl, if_pos rfl, if_pos rfl]
    by_cases g4 : x2 ≥ 0
    · rw [if_pos g4, if_pos (by rw [decide_eq_false (fun h => g3 ⟨g4, h⟩)]; rfl), if_pos rfl, if_pos rfl, if_pos rfl, if_neg Bool.false_ne_true, h5, Option.bind_some]
    · rw [if_neg g4, if_pos (show (false == false) = true from rfl), if_pos rfl, if_pos rfl, if_pos rfl, if_neg Bool.false_ne_true, h5, Option.bind_some]
theorem most_loop (x2 : Int) (n : Nat) (hn : n ≤ 20) (h : ∀ i : Int, ¬ i ≤ (n : Int) → Ev fun k => cadencylaw18_OrderBack.l0 k x2 true n true true true (fac n) i = some true) : ∀ m i : Nat, i + m = n → Ev fun k => cadencylaw18_OrderBack.l0 k x2 true n true true true (fac i) ((i + 1 : Nat) : Int) = some true := by
  intro m
  induction m with
  | zero =>
    intro i hi
    have : i = n := by omega
    subst this
    exact h _ (by omega)
  | succ m ih =>
    intro i hi
    have h1 := fac_20 (i + 1) (by omega)
    have h2 := fac_pos (i + 1)
    refine (ih (i + 1) (by omega)).step fun k hk => ?_
    rw [cadencylaw18_OrderBack.l0, if_pos (by omega)]
    have e : fac i * ((i + 1 : Nat) : Int) = fac (i + 1) := by rw [fac]; push_cast; rfl
    rw [e, w64 _ (by omega), w64s _ (by omega)]
    exact hk
theorem whole (k : Nat) (t p : List Int) (a b r : Int) (n : Nat) (hn : a % 21 = (n : Int)) (h1 : cadencylaw18_awake.f k = some true) (h2 : cadencyref18_Made.f k n t = some p) (h3 : order_Rank.f k p = some (r, true)) (h4 : order_Unrank.f n r = some (p, true)) (h5 : cadencyref18_Same.f k p p = some true)
    (h6 : cadencylaw18_OrderBack.l0 k b true n true true true 1 2 = some true) : cadencylaw18_OrderBack.f k t a b = some true := by
  rw [cadencylaw18_OrderBack.f, h1, Option.bind_some, rest_f _ _ (by omega) (by omega), hn, Option.bind_some, h2, Option.bind_some, h3, Option.bind_some, h4, Option.bind_some, h5, Option.bind_some]
  exact h6
end Back
open Back
theorem OrderBack : cadencylaw18_OrderBack.Pure := by
  intro t a b hl hl2 hw ha hb
  have hb := wf_i64 hb
  have hn0 := Int.emod_nonneg a (show (21 : Int) ≠ 0 by omega)
  have hn1 := Int.emod_lt_of_pos a (show (0 : Int) < 21 by omega)
  obtain ⟨n, hn⟩ := Int.eq_ofNat_of_zero_le hn0
  have hn20 : n ≤ 20 := by omega
  obtain ⟨p, hp, hm⟩ := made_f n (by omega) t
  have hpl : p.length = n := by rw [hp.length_eq, first_len]
  obtain ⟨hat, hr0, hr1⟩ := rank_at n hn20 p hp
  have hf0 := fac_pos n
  have hf1 := fac_20 n hn20
  have hU : order_Unrank.f n (rank p) = some (p, true) := by rw [unrank_f n hn20 _ (by omega), if_pos ⟨hr0, hr1⟩, hat]
  have hq0 := Int.emod_nonneg b (show fac n ≠ 0 by omega)
  have hq1 := Int.emod_lt_of_pos b hf0
  have hz : order_Unrank.f n (b % fac n) = some (at_ n (b % fac n), true) := by rw [unrank_f n hn20 _ (by omega), if_pos ⟨hq0, hq1⟩]
  have hzp := (at_perm n (b % fac n)).1
  have hzr := at_rank n hn20 _ hq0 hq1
  have h21 : order_Unrank.f 21 0 = some ([], false) := by rw [order_Unrank.f, if_pos ⟨by omega, by omega, by omega, by omega⟩, if_pos (by omega)]
  have LAST : ∀ i : Int, ¬ i ≤ (n : Int) → Ev fun k => cadencylaw18_OrderBack.l0 k b true n true true true (fac n) i = some true := by
    intro i hi
    by_cases g : 0 ≤ b ∧ b < fac n
    · have hx := at_perm n b
      have hxr := at_rank n hn20 b g.1 g.2
      refine ((rank_ok _ n hn20 hzp).and ((valid_ok _ n hn20 hzp).and (rank_ok _ n hn20 hx.1))).step fun k h => ?_
      obtain ⟨h3, h5, h6⟩ := h
      rw [hzr] at h3
      rw [hxr] at h6
      exact last k b n (fac n) i 0 (b % fac n) (at_ n b) (at_ n (b % fac n)) true hi (by omega) (rest_at _ _ hf0 (by omega)) (by rw [unrank_f n hn20 b hb, if_pos g]) hz h3 h21 h5 (fun _ => h6) (decide_eq_true g).symm
    · refine ((rank_ok _ n hn20 hzp).and (valid_ok _ n hn20 hzp)).step fun k h => ?_
      obtain ⟨h3, h5⟩ := h
      rw [hzr] at h3
      exact last k b n (fac n) i 0 (b % fac n) [] (at_ n (b % fac n)) false hi (by omega) (rest_at _ _ hf0 (by omega)) (by rw [unrank_f n hn20 b hb, if_neg g]) hz h3 h21 h5 (fun h => absurd h Bool.false_ne_true) (decide_eq_false g).symm
  have ALL : Ev fun k => cadencylaw18_OrderBack.l0 k b true n true true true 1 2 = some true := by
    by_cases g : n = 0
    · subst g
      exact LAST 2 (by omega)
    · exact most_loop b n hn20 LAST (n - 1) 1 (by omega)
  obtain ⟨k, h1, h2, h3, h5, h6⟩ := (awake.and (hm.and ((rank_ok p n hn20 hp).and ((same_f p (by omega)).and ALL)))).ex
  exact ⟨k, whole k t p a b (rank p) n hn h1 h2 h3 hU h5 h6⟩
end Go.Proofs.Ytkgajiddcljdjaa.Pure
