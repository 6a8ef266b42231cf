/- Chapter 22: what needs less is fine too. -/
import Derived.Test.YtlegdnmebgfjbaaDoorWD
set_option linter.all false
set_option maxRecDepth 2000
set_option maxHeartbeats 8000000
namespace Go.Proofs.Vl
open Go Go.RowKit
attribute [local irreducible] AWp OpTo Run DL Val UN DR AC Le thn inb nog
structure leT (t t' : Tk) : Prop where
  p : t.p = t'.p
  d : t.d = t'.d
  c : t.c ≤ t'.c
  q : t.q ≤ t'.q
  j : t.j ≤ t'.j
  t : t'.t ≤ t.t
  t1 : 1 ≤ t'.t
theorem leT.refl {t : Tk} (h : 1 ≤ t.t) : leT t t := ⟨rfl, rfl, Int.le_refl _, Int.le_refl _, Int.le_refl _, Int.le_refl _, h⟩
theorem ceilN_anti (a : Nat) {b b' : Nat} (h1 : 1 ≤ b') (h : b' ≤ b) : ceilN a b ≤ ceilN a b' := by
  have e1 := Nat.div_add_mod a b
  have e2 := Nat.div_add_mod a b'
  have l1 := Nat.mod_lt a (show 0 < b by omega)
  have l2 := Nat.mod_lt a (show 0 < b' by omega)
  unfold ceilN
  have h3 : a / b ≤ a / b' := Nat.div_le_div_left h (by omega)
  rcases Nat.lt_or_ge (a / b) (a / b') with h4 | h4
  · split <;> split <;> omega
  · have h5 : a / b = a / b' := by omega
    by_cases h6 : a % b' > 0
    · rw [if_pos h6]; split <;> omega
    · have h7 : a % b' = 0 := by omega
      rw [h7] at e2
      have h8 : b' * (a / b') ≤ b * (a / b) := by rw [h5]; exact Nat.mul_le_mul_right _ h
      have h9 : a % b = 0 := by omega
      rw [if_neg (show ¬ a % b > 0 by omega), if_neg h6]; omega
theorem oft_le {t t' : Tk} (h : leT t t') (w : Nat) : oftN t w ≤ oftN t' w := by
  unfold oftN
  refine Nat.le_trans (ceilN_mono14 _ (satN_mono (show w + t.j.toNat ≤ w + t'.j.toNat from ?_))) (ceilN_anti _ ?_ ?_)
  · have := h.j; omega
  · have := h.t1; omega
  · have := h.t; omega
theorem stepH_le {t t' : Tk} (h : leT t t') (w : Nat) {a a' : Nat} (ha : a ≤ a') : stepH w a t ≤ stepH w a' t' :=
  satN_mono (Nat.add_le_add ha (satN_mono (Nat.mul_le_mul (oft_le h w) (by have := h.c; omega))))
theorem hgh_le (p : Int) (w : Nat) : ∀ {l l' : List Tk}, All2 leT l l' → ∀ a a' : Nat, a ≤ a' →
    l.foldl (fun a t => if decide (t.p < p) then stepH w a t else a) a ≤ l'.foldl (fun a t => if decide (t.p < p) then stepH w a t else a) a'
  | _, _, .nil, _, _, ha => ha
  | _, _, .cons h t, a, a', ha => by
    rw [List.foldl_cons, List.foldl_cons]
    refine hgh_le p w t _ _ ?_
    rw [h.p]
    split
    · exact stepH_le h w ha
    · exact ha
theorem blk_le (p : Int) : ∀ {l l' : List Tk}, All2 leT l l' → ∀ a a' : Int, a ≤ a' →
    l.foldl (fun a t => if decide (t.p > p) then mxI a (t.q - 1) else a) a ≤ l'.foldl (fun a t => if decide (t.p > p) then mxI a (t.q - 1) else a) a'
  | _, _, .nil, _, _, ha => ha
  | _, _, .cons h t, a, a', ha => by
    rw [List.foldl_cons, List.foldl_cons]
    refine blk_le p t _ _ ?_
    rw [h.p]
    split
    · have := h.q; unfold mxI; split <;> split <;> omega
    · exact ha
theorem all2_at {l l' : List Tk} (h : All2 leT l l') : ∀ i : Nat, (l[i]? = none ∧ l'[i]? = none) ∨ ∃ t t', l[i]? = some t ∧ l'[i]? = some t' ∧ leT t t' := by
  induction h with
  | nil => exact fun i => .inl ⟨by simp, by simp⟩
  | cons h _ ih =>
    intro i
    cases i with
    | zero => exact .inr ⟨_, _, rfl, rfl, h⟩
    | succ i => simpa using ih i
theorem need_le {l l' : List Tk} (h : All2 leT l l') (i : Int) (w : Nat) (hb : isB l i = true) (hb' : isB l' i = true) : needA l i w ≤ needA l' i w := by
  have hp : pAt l i = pAt l' i := by
    unfold pAt
    rcases all2_at h i.toNat with ⟨e1, e2⟩ | ⟨t, t', e1, e2, e3⟩
    · rw [e1, e2]
    · rw [e1, e2]; exact e3.p
  have hc : cAt l i ≤ cAt l' i := by
    unfold cAt
    rcases all2_at h i.toNat with ⟨e1, e2⟩ | ⟨t, t', e1, e2, e3⟩
    · rw [e1, e2]; exact Nat.le_refl _
    · rw [e1, e2]; have := e3.c; dsimp only; omega
  have hk : blkA l i ≤ blkA l' i := by
    unfold blkA blkI
    rw [if_pos hb, if_pos hb', hp]
    exact blk_le _ h 0 0 (Int.le_refl _)
  have hh : hghA l i w ≤ hghA l' i w := by
    unfold hghA hghI
    split
    · exact Nat.le_refl _
    · try rw [if_pos hb, if_pos hb']
      rw [hp]
      exact hgh_le _ w h 0 0 (Nat.le_refl _)
  unfold needA
  rw [if_pos hb, if_pos hb']
  exact satN_mono (Nat.add_le_add (satN_mono (Nat.add_le_add hc (by omega))) hh)
theorem fit_le {l l' : List Tk} (h : All2 leT l l') (i : Int) (hb : isB l i = true) (hb' : isB l' i = true) (hf : fitA l' i = true) : fitA l i = true := by
  obtain ⟨w, h1, h2⟩ := (fitA_iff hb').1 hf
  refine (fitA_iff hb).2 ⟨w, ?_, Nat.le_trans (need_le h i w hb hb') h2⟩
  refine Nat.le_trans h1 ?_
  unfold djA
  rcases all2_at h i.toNat with ⟨e1, e2⟩ | ⟨t, t', e1, e2, e3⟩
  · rw [e1, e2]; exact Nat.le_refl _
  · rw [e1, e2]; have := e3.d; have := e3.j; dsimp only; omega
theorem all2_len {l l' : List Tk} (h : All2 leT l l') : l.length = l'.length := by
  induction h with
  | nil => rfl
  | cons _ _ ih => simp [ih]
theorem tests_le {l l' : List Tk} (h : All2 leT l l') (hc : (allI l).2 = 0) (ht : testsB l' = true) : testsB l = true := by
  have hlen := all2_len h
  unfold testsB
  simp only [Bool.and_eq_true, decide_eq_true_eq, List.all_eq_true]
  refine ⟨hc, fun i hi => ?_⟩
  have hi := List.mem_range.1 hi
  exact fit_le h _ (is_in hc hi) (tests_is ht (by omega)) (tests_fit ht (by omega))
theorem all2_set {x y : Tk} (h : leT x y) : ∀ (l : List Tk) (k : Nat), (∀ t ∈ l, 1 ≤ t.t) → All2 leT (l.set k x) (l.set k y)
  | [], _, _ => .nil
  | t :: r, 0, hl => .cons h (all2_refl r fun u hu => hl u (List.mem_cons_of_mem _ hu))
  | t :: r, k + 1, hl => .cons (leT.refl (hl t List.mem_cons_self)) (all2_set h r k fun u hu => hl u (List.mem_cons_of_mem _ hu))
where
  all2_refl : ∀ (l : List Tk), (∀ t ∈ l, 1 ≤ t.t) → All2 leT l l
  | [], _ => .nil
  | t :: r, hl => .cons (leT.refl (hl t List.mem_cons_self)) (all2_refl r fun u hu => hl u (List.mem_cons_of_mem _ hu))
/-- What is between is fine. -/
theorem betw {l : List Tk} {k : Nat} (hk : k < l.length) (hb : isB l (k : Int) = true) (which : Int) (hw : 0 ≤ which ∧ which < 4) (n m : Int) (hn : testsB (upT l k (gW which n)) = true)
    (hm : if which = 3 then n ≤ m ∧ m ≤ fldT which l[k] else fldT which l[k] ≤ m ∧ m ≤ n) : testsB (upT l k (gW which m)) = true := by
  obtain ⟨hc, ht, hd, hj, hq, hp⟩ := (is_spec hb).2.1 _ (List.getElem_mem hk)
  obtain ⟨f1, f2, f3⟩ := is_fits hb _ (List.getElem_mem hk)
  have hfine := (is_spec hb).2.1
  have hck : chkT l[k] = 0 := by
    have h1 : (allI l).2 = 0 := by
      unfold isB at hb
      simp only [Bool.and_eq_true, decide_eq_true_eq] at hb
      exact hb.1.1
    unfold allI at h1
    by_cases h4 : l.length = 0 ∨ 1024 < l.length
    · rw [if_pos h4] at h1; cases h1
    · rw [if_neg h4] at h1
      exact ((goAll_fine l [] h1).1 _ (List.getElem_mem hk)).1
  obtain ⟨w1, w2⟩ := chk_word hck
  have hall : (allI l).2 = 0 := by
    unfold isB at hb
    simp only [Bool.and_eq_true, decide_eq_true_eq] at hb
    exact hb.1.1
  have key : ∀ x y : Tk, x.nm = l[k].nm → x.p = l[k].p → leT x y → (ariP x.nm.size x.c x.t x.d x.j x.q x.p ∧ x.q ≤ x.c ∧ x.c + x.j ≤ x.d ∧ x.d ≤ x.t) → testsB (upT l k (fun _ => y)) = true → testsB (upT l k (fun _ => x)) = true := fun x y hnm hpp hle hx hy => by
    have hcx : chkT x = 0 := chk_of (by rw [hnm]; exact w1) hx.1 hx.2
    refine tests_le (l' := upT l k (fun _ => y)) ?_ ?_ hy
    · rw [upT_at hk, upT_at hk]; exact all2_set hle l k fun t ht => (hfine t ht).ht.1
    · rw [allI_congr (upT_kT hk (g := fun _ => x) (by unfold kT; rw [hcx, hck, hnm, hpp]))]; exact hall
  have hup : ∀ g : Tk → Tk, upT l k g = upT l k (fun _ => g l[k]) := fun g => by rw [upT_at hk, upT_at hk]
  obtain ⟨g1, g2, g3, g4⟩ := up_fits hk hn
  obtain ⟨gc, gt, gd, gj, gq, gp⟩ := g1
  rw [hup] at hn ⊢
  unfold ariP at w2
  obtain rfl | rfl | rfl | rfl : which = 0 ∨ which = 1 ∨ which = 2 ∨ which = 3 := by omega
  · rw [if_neg (by decide)] at hm
    change l[k].c ≤ m ∧ m ≤ n at hm
    change 1 ≤ n ∧ n ≤ 2147483647 at gc
    change n + l[k].j ≤ l[k].d at g2
    change testsB (upT l k (fun _ => sC n l[k])) = true at hn
    refine key (sC m l[k]) (sC n l[k]) rfl rfl ⟨rfl, rfl, hm.2, Int.le_refl _, Int.le_refl _, Int.le_refl _, ht.1⟩ ?_ hn
    show ariP l[k].nm.size m l[k].t l[k].d l[k].j l[k].q l[k].p ∧ l[k].q ≤ m ∧ m + l[k].j ≤ l[k].d ∧ l[k].d ≤ l[k].t
    unfold ariP; omega
  · rw [if_neg (by decide)] at hm
    change l[k].q ≤ m ∧ m ≤ n at hm
    change n ≤ l[k].c at g4
    change testsB (upT l k (fun _ => sQ n l[k])) = true at hn
    refine key (sQ m l[k]) (sQ n l[k]) rfl rfl ⟨rfl, rfl, Int.le_refl _, hm.2, Int.le_refl _, Int.le_refl _, ht.1⟩ ?_ hn
    show ariP l[k].nm.size l[k].c l[k].t l[k].d l[k].j m l[k].p ∧ m ≤ l[k].c ∧ l[k].c + l[k].j ≤ l[k].d ∧ l[k].d ≤ l[k].t
    unfold ariP; omega
  · rw [if_neg (by decide)] at hm
    change l[k].j ≤ m ∧ m ≤ n at hm
    change l[k].c + n ≤ l[k].d at g2
    change testsB (upT l k (fun _ => sJ n l[k])) = true at hn
    refine key (sJ m l[k]) (sJ n l[k]) rfl rfl ⟨rfl, rfl, Int.le_refl _, Int.le_refl _, hm.2, Int.le_refl _, ht.1⟩ ?_ hn
    show ariP l[k].nm.size l[k].c l[k].t l[k].d m l[k].q l[k].p ∧ l[k].q ≤ l[k].c ∧ l[k].c + m ≤ l[k].d ∧ l[k].d ≤ l[k].t
    unfold ariP; omega
  · rw [if_pos rfl] at hm
    change n ≤ m ∧ m ≤ l[k].t at hm
    change 1 ≤ n ∧ n ≤ 2147483647 at gt
    change l[k].d ≤ n at g3
    change testsB (upT l k (fun _ => sT n l[k])) = true at hn
    refine key (sT m l[k]) (sT n l[k]) rfl rfl ⟨rfl, rfl, Int.le_refl _, Int.le_refl _, Int.le_refl _, hm.1, gt.1⟩ ?_ hn
    show ariP l[k].nm.size l[k].c m l[k].d l[k].j l[k].q l[k].p ∧ l[k].q ≤ l[k].c ∧ l[k].c + l[k].j ≤ l[k].d ∧ l[k].d ≤ m
    unfold ariP; omega
