/- The row 'LoadAdds', by values. -/
import Derived.Test.YtjpmbklfaoejmaaDoorA2
set_option linter.all false
set_option maxHeartbeats 8000000
namespace Go.Proofs.Vl
open Go Go.RowKit
attribute [local irreducible] AWp OpTo Run DL Val UN DR AC Le thn inb nog
theorem set12_pos (sp : List Sp) (q : Int) (hl : sp.length ≤ maxLen) (most : Int) (hm : 1 ≤ most) : 0 < (setL sp most q).length := by
  have := (sp0_len sp q hl).1
  simp [setL]; omega
theorem set12_ct (sp : List Sp) (most q : Int) : ∀ t ∈ setL sp most q, t.c ≤ t.t := by
  intro t h
  obtain ⟨i, hi, rfl⟩ := List.getElem_of_mem h
  simp only [setL, List.getElem_mapIdx, mkT]
  omega
theorem cmp_eq {a b : Nat × Nat} (ha : 0 < a.2) (hb : 0 < b.2) (h : a.1 * b.2 = b.1 * a.2) : cmpN a b = 0 := by
  unfold cmpN; rw [if_neg (by omega), if_neg (by omega), if_neg (by omega)]
theorem cmp_le {a b : Nat × Nat} (h : a.1 * b.2 ≤ b.1 * a.2) : cmpN a b ≤ 0 := by
  unfold cmpN; repeat' split
  all_goals omega
theorem cmp_lt {a b : Nat × Nat} (ha : 0 < a.2) (hb : 0 < b.2) (h : a.1 * b.2 < b.1 * a.2) : cmpN a b = -1 := by
  unfold cmpN; rw [if_neg (by omega), if_pos h]
/-- What the law asks of a sum, the part without its last, and the last. -/
theorem adds_law {l : List Tk} {t : Tk} (h : ∀ u ∈ l ++ [t], small u) (hn : l.length ≤ 5) (hct : t.c ≤ t.t) :
    ∃ p o f : Nat × Nat, smF l = (p, 0) ∧ tkF t = o ∧ smF (l ++ [t]) = (f, 0) ∧ fin 20 p ∧ fin 4 o ∧ fin 24 f ∧ o.2 ≤ 20 ∧ o.2 ∣ t.t.toNat ∧
      cmpN f (p.1 * o.2 + o.1 * p.2, p.2 * o.2) = 0 ∧ cmpN o (1, 1) ≤ 0 ∧ cmpN p f = -1 := by
  have hl : ∀ u ∈ l, small u := fun u hu => h u (List.mem_append_left _ hu)
  have ht : small t := h t (List.mem_append_right _ List.mem_cons_self)
  obtain ⟨p, p1, p2, p3⟩ := smF_small hl (by omega)
  have o3 := tkF_fin ht
  have p4 : fin 20 p := ⟨p3.1, p3.2.1, Nat.le_trans p3.2.2 (Nat.mul_le_mul_right _ (by omega))⟩
  obtain ⟨a1, a2⟩ := ad_fin p4 o3 (by omega)
  have key := ad_key p4.1 o3.1 a1
  have f1 : smF (l ++ [t]) = (adF p (tkF t), 0) := by
    rw [smF, if_neg (by rw [small_any h]; decide), sumF_snoc, p1, Option.bind_some, if_pos a1]
  have ho : (tkF t).2 ≤ 20 ∧ (tkF t).2 ∣ t.t.toNat ∧ (tkF t).1 ≤ (tkF t).2 ∧ 0 < (tkF t).1 := by
    rw [tkF_eq ht]
    obtain ⟨h1, h2, h3, h4⟩ := ht
    have hd : Nat.gcd t.c.toNat t.t.toNat ∣ t.t.toNat := Nat.gcd_dvd_right _ _
    refine ⟨?_, Nat.div_dvd_of_dvd hd, Nat.div_le_div_right (by omega), ?_⟩
    · exact Nat.le_trans (Nat.div_le_self _ _) (by omega)
    · exact Nat.div_pos (Nat.le_of_dvd (by omega) (Nat.gcd_dvd_left _ _)) (Nat.gcd_pos_of_pos_left _ (by omega))
  refine ⟨p, tkF t, adF p (tkF t), p2, rfl, f1, p4, o3, a2, ho.1, ho.2.1, ?_, ?_, ?_⟩
  · exact cmp_eq a2.1 (Nat.mul_pos p4.1 o3.1) key
  · refine cmp_le ?_
    dsimp only
    have := ho.2.2.1
    omega
  · refine cmp_lt p4.1 a2.1 ?_
    obtain ⟨p1', p2'⟩ := p
    generalize tkF t = o at *
    obtain ⟨o1, o2⟩ := o
    generalize adF (p1', p2') (o1, o2) = f at *
    obtain ⟨f1', f2'⟩ := f
    have q1 : 0 < p2' := p4.1
    have q2 : 0 < o2 := o3.1
    have q3 : 0 < f2' := a2.1
    have q4 : 0 < o1 := ho.2.2.2
    dsimp only at key ⊢
    refine Nat.lt_of_mul_lt_mul_right (a := o2) ?_
    have e : f1' * p2' * o2 = p1' * f2' * o2 + o1 * p2' * f2' := by
      rw [Nat.mul_assoc, key, Nat.add_mul, Nat.mul_right_comm p1']
    rw [e]
    have : 0 < o1 * p2' * f2' := Nat.mul_pos (Nat.mul_pos q4 q1) q3
    omega
theorem adds_top (sp : List Sp) (n : Int) (hl : sp.length ≤ maxLen) : AC Tryd.prog GL 4 [fro spP sp, vi n] [] (fun r _ => r = vb true) := by
  refine AC.body' Tryd.func4 Tryd.ntmps4 rfl ?_
  intro cx hd hG
  refine nrmL (k := ?_)
  repeat refine w1 (k := ?_)
  obtain ⟨w0, fz0, β0, df, G0⟩ := cx
  obtain rfl : G0 = GL := hG
  refine callN (hc := by exact awake_ac) (h := ?_)
  repeat refine w1 (k := ?_)
  refine OpTo.callO (by rfl) (by rfl) (by rfl) (by rfl) (set_ac _ sp 6 n hl (by decide) (by decide)) ?_
  rintro r os' ⟨rfl, hf⟩
  refine ⟨_, .row rfl hf (tkP_ok _ _) (by decide) rfl, ?_⟩
  have s1 := set12_len sp 6 n
  have s2 := set12_ok sp 6 n
  have s3 := set12_pos sp n hl 6 (by decide)
  have s4 := set12_ct sp 6 n
  generalize setL sp 6 n = s at s1 s2 s3 s4 ⊢
  have s1 : s.length ≤ 6 := s1
  refine nrm (k := ?_)
  repeat refine w1 (k := ?_)
  first | refine zA 18 (h := ?_) | refine zO 18 (h := ?_) | refine zL 18 (h := ?_) | refine zL3 18 (h := ?_)
  obtain ⟨l, t, rfl⟩ : ∃ l t, s = l ++ [t] := ⟨s.dropLast, s.getLast (by intro h; rw [h] at s3; simp at s3), (List.dropLast_concat_getLast _).symm⟩
  rw [List.length_append, List.length_singleton] at s1 s3
  obtain ⟨p, o, f, e1, e2, e3, p1, o1, f1, o2, o3, c1, c2, c3⟩ := adds_law s2 (by omega) (s4 t (List.mem_append_right _ List.mem_cons_self))
  have hlen2 : (l ++ [t]).length = l.length + 1 := by simp
  have hlen : ((l ++ [t]).length : Int) = (l.length : Int) + 1 := by rw [hlen2]; rfl
  have hlen3 : (((l ++ [t]).map tkP).length : Int) = (l.length : Int) + 1 := by rw [List.length_map]; exact hlen
  rw [hlen, Int.add_sub_cancel]
  repeat refine w1 (k := ?_)
  rw [show (l ++ [t])[l.length] = t by simp]
  refine callN (hc := by exact sum_ac (l ++ [t]) (by rw [maxLen]; omega) (fun t ht => set12_tok (s2 t ht))) (h := ?_)
  repeat refine w1 (k := ?_)
  rw [e3]
  dsimp only
  repeat refine w1 (k := ?_)
  rw [hlen3, Int.add_sub_cancel]
  repeat refine w1 (k := ?_)
  first | refine ofN (hv := by exact Val.cutN (f := tkP) (l := l ++ [t]) (a := 0) (b := l.length) rfl rfl rfl Bnd.no (Bnd.at (v := (l.length : Int)) (k := .i64) rfl rfl (by omega)) (by omega) (by omega) (fun _ => rfl)) (h := ?_) | refine dlN (hv := by exact Val.cutN (f := tkP) (l := l ++ [t]) (a := 0) (b := l.length) rfl rfl rfl Bnd.no (Bnd.at (v := (l.length : Int)) (k := .i64) rfl rfl (by omega)) (by omega) (by omega) (fun _ => rfl)) (h := ?_) | refine dlgN (hv := by exact Val.cutN (f := tkP) (l := l ++ [t]) (a := 0) (b := l.length) rfl rfl rfl Bnd.no (Bnd.at (v := (l.length : Int)) (k := .i64) rfl rfl (by omega)) (by omega) (by omega) (fun _ => rfl)) (h := ?_) | refine ofN (hv := by exact Val.cutN (f := tkP) (l := l ++ [t]) (a := 0) (b := l.length) rfl rfl rfl Bnd.no (Bnd.at (v := (l.length : Int)) (k := .i64) rfl rfl (by omega)) (by omega) (by omega) (fun _ => rfl)) (h := ?_)
  rw [show (l ++ [t]).take l.length = l by simp]
  repeat refine w1 (k := ?_)
  refine callN (hc := by exact sum_ac l (by rw [maxLen]; omega) (fun u hu => set12_tok (s2 u (List.mem_append_left _ hu)))) (h := ?_)
  repeat refine w1 (k := ?_)
  rw [e1]
  dsimp only
  repeat refine w1 (k := ?_)
  have ht := s2 t (List.mem_append_right _ List.mem_cons_self)
  refine callN (hc := by exact of_ac t (set12_tok ht).1 (set12_tok ht).2) (h := ?_)
  repeat refine w1 (k := ?_)
  rw [show ofF t.c t.t = o from e2]
  have n1 := p1.1
  have n2 := o1.1
  have n3 := f1.1
  have m1 := fin_ok p1 (by decide)
  have m2 := fin_le p1
  have m3 := fin_ok f1 (by decide)
  have m4 := fin_ok o1 (by decide)
  have m5 : o.1 ≤ 80 := by have := o1.2.2; omega
  have b1 : p.1 * o.2 ≤ 232792560000 * 20 := Nat.mul_le_mul m1.2 o2
  have b2 : o.1 * p.2 ≤ 80 * 232792560 := Nat.mul_le_mul m5 m2
  have b3 : p.2 * o.2 ≤ 232792560 * 20 := Nat.mul_le_mul m2 o2
  have d1 := mul_c p.1 o.2 (by omega)
  have d2 := mul_c o.1 p.2 (by omega)
  have d3 := mul_c p.2 o.2 (by omega)
  have d4 : (p.1 : Int) * (o.2 : Int) + (o.1 : Int) * (p.2 : Int) < 18446744073709551616 := by
    rw [mulN, mulN]; omega
  repeat refine w1 (k := ?_)
  rw [mulN p.1 o.2, mulN o.1 p.2, mulN p.2 o.2, addN]
  refine callN (hc := by exact cmp_ac _ f (p.1 * o.2 + o.1 * p.2, p.2 * o.2) m3.1 ⟨by dsimp only; omega, by dsimp only; omega⟩) (h := ?_)
  repeat refine w1 (k := ?_)
  rw [c1]
  repeat refine w1 (k := ?_)
  refine callN (hc := by exact cmp_ac _ o (1, 1) m4.1 ⟨by decide, by decide⟩) (h := ?_)
  repeat refine w1 (k := ?_)
  refine callN (hc := by exact cmp_ac _ p f m1.1 m3.1) (h := ?_)
  repeat refine w1 (k := ?_)
  rw [c3]
  obtain ⟨T, hT⟩ := Int.eq_ofNat_of_zero_le (show 0 ≤ t.t by omega)
  rw [hT, Int.toNat_natCast] at o3
  have ht2 := ht.2.2.2
  repeat refine w1 (k := ?_)
  rw [hT]
  repeat refine w1 (k := ?_)
  rw [show (T : Int) % (o.2 : Int) = ((T % o.2 : Nat) : Int) from rfl, Nat.mod_eq_zero_of_dvd o3]
  repeat refine w1 (k := ?_)
  refine ⟨[.c _], .cons (.tmp rfl) .nil, ?_⟩
  rfl
end Go.Proofs.Vl
