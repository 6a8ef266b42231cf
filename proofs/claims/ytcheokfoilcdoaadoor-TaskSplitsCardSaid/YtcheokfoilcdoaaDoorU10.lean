/- Orders are told by ranks; tasks more, and less, urgent, whatever the place. -/
import Derived.Test.YtcheokfoilcdoaaDoorU9
import Derived.Test.YtcheokfoilcdoaaDoorS3
import Derived.Test.YtcheokfoilcdoaaDoorK4
set_option linter.all false
set_option maxRecDepth 2000
set_option maxHeartbeats 8000000
namespace Go.Proofs.Vl
open Go Go.RowKit
attribute [local irreducible] AWp OpTo Run DL Val UN DR AC Le thn inb nog
attribute [local irreducible] els nxO
/-! ### Stable sorting, by numbers -/
def lexL (p : Int → Int) (x y : Int) : Prop := p x < p y ∨ (p x = p y ∧ x < y)
instance (p : Int → Int) (x y : Int) : Decidable (lexL p x y) := by unfold lexL; infer_instance
theorem ins_pw (p : Int → Int) (x : Int) : ∀ r : List Int, (∀ b ∈ r, b < x) → r.Pairwise (fun a b => lexL p b a) → (insR (fun x y => cmpI (p x) (p y)) x r).Pairwise (fun a b => lexL p b a)
  | [], _, _ => by unfold insR; exact List.pairwise_singleton _ _
  | b :: r, h, hp => by
    obtain ⟨h1, h2⟩ := List.pairwise_cons.1 hp
    unfold insR
    by_cases hc : cmpI (p x) (p b) < 0
    · rw [if_pos hc]
      have hlt : p x < p b := by unfold cmpI at hc; split at hc <;> (try split at hc) <;> omega
      refine List.pairwise_cons.2 ⟨fun z hz => ?_, ins_pw p x r (fun z hz => h z (List.mem_cons_of_mem _ hz)) h2⟩
      rcases List.mem_cons.1 ((insR_perm _ x r).mem_iff.1 hz) with rfl | hz
      · exact .inl hlt
      · exact h1 z hz
    · rw [if_neg hc]
      have hge : p b ≤ p x := by
        unfold cmpI at hc
        by_cases hl : p x < p b
        · rw [if_pos hl] at hc; exact absurd (by decide) hc
        · omega
      have hb := h b List.mem_cons_self
      refine List.pairwise_cons.2 ⟨fun z hz => ?_, hp⟩
      rcases List.mem_cons.1 hz with rfl | hz
      · unfold lexL; omega
      · have := h1 z hz
        unfold lexL at this ⊢
        omega
theorem sort_pw (p : Int → Int) (n : Nat) : (sortR (fun x y => cmpI (p x) (p y)) (idL n)).Pairwise (fun a b => lexL p b a) := by
  induction n with
  | zero => exact .nil
  | succ n ih =>
    have e : idL (n + 1) = idL n ++ [(n : Int)] := by unfold idL; rw [List.range_succ, List.map_append]; rfl
    rw [e, sortR_snoc]
    refine ins_pw p _ _ (fun b hb => ?_) ih
    obtain ⟨k, rfl, hk⟩ := idL_mem ((sortR_perm _ _).mem_iff.1 hb)
    omega
theorem count_at {α : Type} {lt : α → α → Bool} (hirr : ∀ a, lt a a = false) (hasy : ∀ a b, lt a b = true → lt b a = false) : ∀ (L : List α), L.Pairwise (fun a b => lt a b = true) → ∀ i (h : i < L.length), L.countP (fun z => lt z L[i]) = i
  | [], _, i, h => by simp at h
  | a :: L, hp, i, h => by
    obtain ⟨h1, h2⟩ := List.pairwise_cons.1 hp
    cases i with
    | zero =>
      simp only [List.getElem_cons_zero]
      rw [List.countP_cons, hirr a]
      have : L.countP (fun z => lt z a) = 0 := List.countP_eq_zero.2 fun z hz => by rw [hasy a z (h1 z hz)]; simp
      simp [this]
    | succ i =>
      have hi : i < L.length := by simpa using h
      simp only [List.getElem_cons_succ]
      rw [List.countP_cons, count_at hirr hasy L h2 i hi, h1 _ (List.getElem_mem hi)]; simp
def rankL (l : List Tk) (k : Nat) : Nat := (List.range l.length).countP fun (j : Nat) => decide (lexL (pAtI l) (j : Int) (k : Int))
theorem ordL_len (l : List Tk) : (ordL l).length = l.length := by unfold ordL; rw [sortL_len, idL_len]
theorem ordL_rank (l : List Tk) (k : Nat) (hk : k < l.length) : ∃ h : rankL l k < (ordL l).length, (ordL l)[rankL l k] = (k : Int) := by
  have hpw : (ordL l).Pairwise (fun a b => decide (lexL (pAtI l) a b) = true) := by
    unfold ordL sortL
    rw [List.pairwise_reverse]
    exact (sort_pw (pAtI l) l.length).imp fun h => by simpa using h
  have hm : (k : Int) ∈ ordL l := (sortL_perm _ _).mem_iff.2 (List.mem_map.2 ⟨k, List.mem_range.2 hk, rfl⟩)
  obtain ⟨i, hi, he⟩ := List.getElem_of_mem hm
  have hc := count_at (lt := fun a b => decide (lexL (pAtI l) a b)) (fun a => by simp [lexL]) (fun a b h => by
    simp only [decide_eq_true_eq, decide_eq_false_iff_not] at h ⊢
    unfold lexL at h ⊢; omega) (ordL l) hpw i hi
  rw [he] at hc
  have hc2 : rankL l k = i := by
    rw [← hc]
    have : (ordL l).countP (fun z => decide (lexL (pAtI l) z (k : Int))) = (idL l.length).countP (fun z => decide (lexL (pAtI l) z (k : Int))) := (sortL_perm _ _).countP_eq _
    rw [this]
    unfold rankL idL
    rw [List.countP_map]; rfl
  subst hc2
  exact ⟨hi, he⟩
/-! ### The reference's rank -/
def rkT (l : List Tk) (k n : Nat) : Nat := (List.range n).countP fun (j : Nat) => decide (lexL (pAtI l) (j : Int) (k : Int))
theorem rkT_succ (l : List Tk) (k n : Nat) : rkT l k (n + 1) = rkT l k n + if lexL (pAtI l) (n : Int) (k : Int) then 1 else 0 := by
  unfold rkT; rw [List.range_succ, List.countP_append, List.countP_singleton]
  by_cases h : lexL (pAtI l) (n : Int) (k : Int) <;> simp [h]
theorem rkT_le (l : List Tk) (k n : Nat) : rkT l k n ≤ n := by unfold rkT; exact Nat.le_trans List.countP_le_length (by simp)
theorem rank_ac (G) (l : List Tk) (k : Nat) (hk : k < l.length) (hl : l.length ≤ 1000) : AC Tryd.prog G 19 [fro tkP l, vi (k : Int)] [] (fun r _ => r = vi (rankL l k : Nat)) := by
  refine AC.body' Tryd.func19 Tryd.ntmps19 rfl ?_
  intro cx hd hG
  refine nrmL (k := ?_)
  repeat refine w1 (k := ?_)
  refine loopN [(7, 37)] (α := Nat) (fun j => [(5, vi (rkT l k j : Nat)), (6, vi (j : Int))]) (fun j => []) (fun j => l.length - j) (fun j => j ≤ l.length) (x0 := 0) (h0 := by first | omega | simp | (refine ⟨?_, ?_⟩ <;> first | omega | simp)) (hr := ?_)
  intro j hI
  refine nrmL (k := ?_)
  have hle := rkT_le l k j
  repeat refine w1 (k := ?_)
  refine condN (h1 := fun h => ?_) (h0 := fun h => ?_)
  ·
    have hj : j < l.length := by omega
    have e := rkT_succ l k j
    have p1 := pAtI_nat l j hj
    have p2 := pAtI_nat l k hk
    have hlex : lexL (pAtI l) (j : Int) (k : Int) ↔ (l[j].p < l[k].p ∨ (l[j].p = l[k].p ∧ (j : Int) < (k : Int))) := by unfold lexL; rw [p1, p2]
    repeat refine w1 (k := ?_)
    by_cases c1 : l[j].p < l[k].p
    ·
      rw [show decide (l[j].p < l[k].p) = true from decide_eq_true c1]
      rw [if_pos (hlex.2 (.inl c1))] at e
      repeat refine w1 (k := ?_)
      rw [show ((rkT l k j : Nat) : Int) + 1 = ((rkT l k (j + 1) : Nat) : Int) by omega]
      refine ⟨j + 1, by omega, by first | omega | (refine ⟨?_, ?_⟩ <;> omega), frg⟩
    ·
      rw [show decide (l[j].p < l[k].p) = false from decide_eq_false c1]
      repeat refine w1 (k := ?_)
      by_cases c2 : l[j].p = l[k].p
      ·
        rw [show (l[j].p == l[k].p) = true from by simpa using c2]
        repeat refine w1 (k := ?_)
        by_cases c3 : (j : Int) < (k : Int)
        ·
          rw [show decide ((j : Int) < (k : Int)) = true from decide_eq_true c3]
          rw [if_pos (hlex.2 (.inr ⟨c2, c3⟩))] at e
          repeat refine w1 (k := ?_)
          rw [show ((rkT l k j : Nat) : Int) + 1 = ((rkT l k (j + 1) : Nat) : Int) by omega]
          refine ⟨j + 1, by omega, by first | omega | (refine ⟨?_, ?_⟩ <;> omega), frg⟩
        ·
          rw [show decide ((j : Int) < (k : Int)) = false from decide_eq_false c3]
          rw [if_neg (fun h => by rcases hlex.1 h with h | h <;> omega)] at e
          repeat refine w1 (k := ?_)
          rw [show rkT l k j = rkT l k (j + 1) by omega]
          refine ⟨j + 1, by omega, by first | omega | (refine ⟨?_, ?_⟩ <;> omega), frg⟩
      ·
        rw [show (l[j].p == l[k].p) = false from by simpa using c2]
        rw [if_neg (fun h => by rcases hlex.1 h with h | h <;> omega)] at e
        repeat refine w1 (k := ?_)
        rw [show rkT l k j = rkT l k (j + 1) by omega]
        refine ⟨j + 1, by omega, by first | omega | (refine ⟨?_, ?_⟩ <;> omega), frg⟩
  ·
    repeat refine w1 (k := ?_)
    have : j = l.length := by omega
    subst this
    exact ⟨[.c _], .cons (.tmp rfl) .nil, rfl⟩
/-! ### Whatever the place -/
theorem bitsN_no (l : List Tk) (n : Nat) : bitsN l (fun _ => false) n = 0 := by
  induction n with
  | zero => rfl
  | succ n ih => rw [bitsN, if_neg (by cases l[n]? <;> simp), ih]
theorem those0_ac (G) (l : List Tk) (i : Int) (f : Nat) (c1 c2 : List PV) (h : i < 0 ∨ (l.length : Int) ≤ i) (hl : l.length ≤ maxLen) :
    AC Tryd.prog G 20 [fro tkP l, vi i, .c (.fn f [.fz c1, .fz c2])] [] (fun r _ => r = .pag (setP 0)) := by
  refine AC.body' Tryd.func20 Tryd.ntmps20 rfl ?_
  intro cx hd hG
  refine nrmL (k := ?_)
  repeat refine w1 (k := ?_)
  have hm : l.length ≤ 9223372036854775807 := hl
  first | refine bothTN (h1 := fun h1 => ?_) (h0 := fun h1 => ?_) | refine bothFN (h1 := fun h1 => ?_) (h0 := fun h1 => ?_)
  all_goals repeat refine w1 (k := ?_)
  ·
    refine condN (h1 := fun h2 => ?_) (h0 := fun h2 => ?_)
    ·
      repeat refine w1 (k := ?_)
      exact ⟨[.pag _], .cons (.ldF rfl rfl rfl rfl) .nil, rfl⟩
    · omega
  ·
    repeat refine w1 (k := ?_)
    exact ⟨[.pag _], .cons (.ldF rfl rfl rfl rfl) .nil, rfl⟩
/-- Which are less, or more, urgent than the one at a place. -/
def isAt (l : List Tk) (i : Int) : Bool := decide (i ≥ 0) && decide (i < (l.length : Int))
def loF (l : List Tk) (i : Int) (t : Tk) : Bool := isAt l i && decide (t.p > pAtI l i)
def hiF (l : List Tk) (i : Int) (t : Tk) : Bool := isAt l i && decide (t.p < pAtI l i)
theorem lowerA_ac (G) (l : List Tk) (i : Int) (hl : l.length ≤ maxLen) : AC Tryd.prog G 10 [fro tkP l, vi i] [] (fun r _ => r = .pag (setP (bitsN l (loF l i) l.length))) := by
  by_cases hv : 0 ≤ i ∧ i < l.length
  ·
    obtain ⟨k, rfl⟩ := Int.eq_ofNat_of_zero_le hv.1
    have hk : k < l.length := by omega
    have e : loF l (k : Int) = fun t => decide (t.p > l[k].p) := by
      funext t; unfold loF isAt; rw [pAtI_nat l k hk]; simp [hk]
    rw [e]
    exact lower_ac G l k hk hl
  ·
    have e : loF l i = fun _ => false := by
      funext t; unfold loF isAt
      by_cases h0 : i ≥ 0
      · have : ¬ i < (l.length : Int) := fun h => hv ⟨h0, h⟩
        simp [this]
      · simp [h0]
    rw [e, bitsN_no]
    refine AC.body' Tryd.func10 Tryd.ntmps10 rfl ?_
    intro cx hd hG
    refine nrmL (k := ?_)
    repeat refine w1 (k := ?_)
    repeat refine w1 (k := ?_)
    first | refine zbA 2 (h := ?_) | refine zbO 2 (h := ?_)
    first | refine zbA 3 (h := ?_) | refine zbO 3 (h := ?_)
    refine callN (hc := by exact those0_ac _ l i 22 _ _ (by omega) hl) (h := ?_)
    repeat refine w1 (k := ?_)
    exact ⟨[.pag _], .cons (.ldF rfl rfl rfl rfl) .nil, rfl⟩
theorem higherA_ac (G) (l : List Tk) (i : Int) (hl : l.length ≤ maxLen) : AC Tryd.prog G 9 [fro tkP l, vi i] [] (fun r _ => r = .pag (setP (bitsN l (hiF l i) l.length))) := by
  by_cases hv : 0 ≤ i ∧ i < l.length
  ·
    obtain ⟨k, rfl⟩ := Int.eq_ofNat_of_zero_le hv.1
    have hk : k < l.length := by omega
    have e : hiF l (k : Int) = fun t => decide (t.p < l[k].p) := by
      funext t; unfold hiF isAt; rw [pAtI_nat l k hk]; simp [hk]
    rw [e]
    exact higher_ac G l k hk hl
  ·
    have e : hiF l i = fun _ => false := by
      funext t; unfold hiF isAt
      by_cases h0 : i ≥ 0
      · have : ¬ i < (l.length : Int) := fun h => hv ⟨h0, h⟩
        simp [this]
      · simp [h0]
    rw [e, bitsN_no]
    refine AC.body' Tryd.func9 Tryd.ntmps9 rfl ?_
    intro cx hd hG
    refine nrmL (k := ?_)
    repeat refine w1 (k := ?_)
    repeat refine w1 (k := ?_)
    first | refine zbA 2 (h := ?_) | refine zbO 2 (h := ?_)
    first | refine zbA 3 (h := ?_) | refine zbO 3 (h := ?_)
    refine callN (hc := by exact those0_ac _ l i 21 _ _ (by omega) hl) (h := ?_)
    repeat refine w1 (k := ?_)
    exact ⟨[.pag _], .cons (.ldF rfl rfl rfl rfl) .nil, rfl⟩
theorem pick_len (l : List Tk) (p : Tk → Bool) (n : Nat) (hn : n ≤ l.length) : (pick l p n).length = (l.take n).countP p := by
  induction n with
  | zero => simp [pick]
  | succ n ih =>
    have hj : n < l.length := by omega
    rw [List.take_succ_eq_append_getElem hj, List.countP_append, ← ih (by omega)]
    unfold pick
    rw [List.range_succ, List.filter_append, List.length_append]
    have e : l[n]?.any p = p l[n] := by rw [List.getElem?_eq_getElem hj]; rfl
    cases hp : p l[n] <;> simp [e, hp]
theorem len_bits (l : List Tk) (p : Tk → Bool) (h : l.length ≤ 1024) : (els (bitsN l p l.length)).length = l.countP p := by
  rw [els_bits l p h, pick_len l p l.length (Nat.le_refl _), List.take_length]
theorem has_bits (l : List Tk) (p : Tk → Bool) (k : Nat) (hk : k < l.length) (h : l.length ≤ 1024) : (inB (k : Int) && (bitsN l p l.length).testBit (k : Int).toNat) = p l[k] := by
  rw [Int.toNat_natCast, bitsN_bit, List.getElem?_eq_getElem hk]
  have : inB (k : Int) = true := by simp [inB]; omega
  have h2 : k < 1024 := by omega
  rw [this]; simp [hk, h2]
theorem cnt_take (l : List Tk) (p : Tk → Bool) (j : Nat) (h : j < l.length) : (l.take (j + 1)).countP p = (l.take j).countP p + if p l[j] then 1 else 0 := by
  rw [List.take_succ_eq_append_getElem h, List.countP_append, List.countP_singleton]
