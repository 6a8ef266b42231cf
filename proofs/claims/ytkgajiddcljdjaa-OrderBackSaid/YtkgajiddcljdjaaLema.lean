import Derived.Test.YtkgajiddcljdjaaPAllx
/- Plain facts on the printed functions of package order: what they answer. -/
namespace Go.Proofs.Ytkgajiddcljdjaa.Lema
open Go.RowKit Go.Proofs.Ytkgajiddcljdjaa.PAll Go.Proofs.YtkgajiddcljdjaaW.PrintWords Go.Proofs.YtkgajiddcljdjaaW.PrintLast Go.Proofs.YtkgajiddcljdjaaW.PrintMore

/-- So from some number of rounds on. -/
def Ev (P : Nat → Prop) : Prop := ∃ K, ∀ k, K ≤ k → P k
theorem Ev.imp {P Q : Nat → Prop} (h : Ev P) (f : ∀ k, P k → Q k) : Ev Q := h.elim fun K h => ⟨K, fun k hk => f k (h k hk)⟩
theorem Ev.step {P Q : Nat → Prop} (h : Ev P) (f : ∀ k, P k → Q (k + 1)) : Ev Q := h.elim fun K h => ⟨K + 1, fun k hk => by
  obtain ⟨j, rfl⟩ : ∃ j, k = j + 1 := ⟨k - 1, by omega⟩
  exact f j (h j (by omega))⟩
theorem Ev.and {P Q : Nat → Prop} (h : Ev P) (g : Ev Q) : Ev fun k => P k ∧ Q k := by
  obtain ⟨K, h⟩ := h
  obtain ⟨L, g⟩ := g
  exact ⟨max K L, fun k hk => ⟨h k (by omega), g k (by omega)⟩⟩
theorem Ev.of {P : Nat → Prop} (h : ∀ k, P k) : Ev P := ⟨0, fun k _ => h k⟩
theorem Ev.one {P : Nat → Prop} (h : ∀ k, P (k + 1)) : Ev P := Ev.step (P := fun _ => True) ⟨0, fun _ _ => trivial⟩ fun k _ => h k
theorem Ev.ex {P : Nat → Prop} (h : Ev P) : ∃ k, P k := h.elim fun K h => ⟨K, h K (Nat.le_refl _)⟩

theorem rdN (l : List Int) (i : Nat) : rd l (i : Int) = l.getD i 0 := by simp [rd]
theorem w64 (n : Int) (h : -9223372036854775808 ≤ n ∧ n < 9223372036854775808) : wrap64 n = n := by unfold wrap64; omega
theorem w64s (j : Nat) (h : j < 4611686018427387904) : wrap64 ((j : Int) + 1) = ((j + 1 : Nat) : Int) := by rw [w64 _ (by omega)]; push_cast; rfl
theorem drop_at (l : List Int) (j : Nat) (h : j < l.length) : l.drop j = l.getD j 0 :: l.drop (j + 1) := by
  rw [List.drop_eq_getElem_cons h]; simp [h]
theorem take_at (l : List Int) (j : Nat) (h : j < l.length) : l.take (j + 1) = l.take j ++ [l.getD j 0] := by
  rw [List.take_add_one]; simp [h]
theorem mem_at (l : List Int) (j : Nat) (h : j < l.length) : l.getD j 0 ∈ l := by
  have := List.getElem_mem h; simp [h]

/-! ### how many are less, behind -/
def lessN (l : List Int) (i : Nat) : Nat := (l.drop (i + 1)).countP (fun x => decide (x < l.getD i 0))
theorem less_loop (l L : List Int) (i : Nat) (hi : i < l.length) : ∀ n j c : Nat, n + j = L.length → c + n + L.length < 4611686018427387904 →
    Ev fun k => order_less.l0 k l i c L L.length j = some ((c + (L.drop j).countP (fun x => decide (x < l.getD i 0)) : Nat) : Int) := by
  intro n
  induction n with
  | zero =>
    intro j c hj hc
    refine Ev.one fun k => ?_
    rw [order_less.l0, if_neg (by omega), List.drop_of_length_le (by omega)]
    rfl
  | succ n ih =>
    intro j c hj hc
    have hd := drop_at L j (by omega)
    by_cases hlt : L.getD j 0 < l.getD i 0
    · refine (ih (j + 1) (c + 1) (by omega) (by omega)).step fun k h => ?_
      rw [order_less.l0, if_pos (by omega), if_pos (by omega), if_pos (by omega), if_pos (by omega), if_pos (by omega), rdN, rdN, if_pos hlt, w64s _ (by omega), w64s _ (by omega), h, hd, List.countP_cons, if_pos (by simpa using hlt)]
      congr 2; omega
    · refine (ih (j + 1) c (by omega) (by omega)).step fun k h => ?_
      rw [order_less.l0, if_pos (by omega), if_pos (by omega), if_pos (by omega), if_pos (by omega), if_pos (by omega), rdN, rdN, if_neg hlt, w64s _ (by omega), h, hd, List.countP_cons, if_neg (by simpa using hlt)]
      rfl
theorem less_f (l : List Int) (i : Nat) (hi : i < l.length) (hl : l.length < 1000000) : Ev fun k => order_less.f k l i = some (lessN l i : Int) := by
  have := less_loop l (l.drop (i + 1)) i hi (l.drop (i + 1)).length 0 0 (by omega) (by rw [List.length_drop]; omega)
  refine this.imp fun k h => ?_
  rw [order_less.f, w64s _ (by omega), if_pos (by omega), if_pos (by omega)]
  simp only [Int.toNat_natCast, List.drop_zero, Nat.zero_add] at h ⊢
  exact h
theorem lessN_le (l : List Int) (i : Nat) : lessN l i ≤ l.length := Nat.le_trans List.countP_le_length (by rw [List.length_drop]; omega)

/-! ### orders -/
def Ok (l : List Int) : Prop := l.Nodup ∧ ∀ x ∈ l, 0 ≤ x ∧ x < (l.length : Int)
instance (l : List Int) : Decidable (Ok l) := inferInstanceAs (Decidable (_ ∧ _))
def okb (l : List Int) : Bool := decide (Ok l)
def Upto (l : List Int) (j : Nat) : Prop := (l.take j).Nodup ∧ ∀ x ∈ l.take j, 0 ≤ x ∧ x < (l.length : Int)
theorem okb_not {l : List Int} {x : Int} (hx : x ∈ l) (h : x < 0 ∨ (l.length : Int) ≤ x) : okb l = false := decide_eq_false fun ho => by have := ho.2 x hx; omega
theorem okb_twice {l : List Int} {j : Nat} (hj : j < l.length) (h : l.getD j 0 ∈ l.take j) : okb l = false := by
  refine decide_eq_false fun ho => ?_
  have h1 := ho.1
  rw [← List.take_append_drop j l, drop_at l j hj] at h1
  have := (List.nodup_append.1 h1).2.2 _ h _ List.mem_cons_self
  exact this rfl
theorem Upto.next {l : List Int} {j : Nat} (h : Upto l j) (hj : j < l.length) (h0 : 0 ≤ l.getD j 0) (h1 : l.getD j 0 < (l.length : Int)) (hn : l.getD j 0 ∉ l.take j) : Upto l (j + 1) := by
  rw [Upto, take_at l j hj]
  refine ⟨List.nodup_append.2 ⟨h.1, by simp, fun a ha b hb => ?_⟩, fun x hx => ?_⟩
  · rw [List.mem_singleton] at hb; rintro rfl; rw [hb] at ha; exact hn ha
  · rcases List.mem_append.1 hx with hx | hx
    · exact h.2 x hx
    · rw [List.mem_singleton] at hx; subst hx; exact ⟨h0, h1⟩
theorem Upto.all {l : List Int} (h : Upto l l.length) : okb l = true := by
  refine decide_eq_true ?_
  rw [Upto, List.take_length] at h
  exact h
theorem Upto.zero (l : List Int) : Upto l 0 := ⟨by simp, by simp⟩
theorem valid_loop (l : List Int) (hl : l.length < 1000000) : ∀ (n j : Nat) (t : List Bool), n + j = l.length → t.length = l.length → (∀ m : Nat, m < l.length → (t.getD m false = true ↔ (m : Int) ∈ l.take j)) → Upto l j →
    Ev fun k => order_Valid.l0 k l t l l.length j = some (okb l) := by
  intro n
  induction n with
  | zero =>
    intro j t hj ht hm hu
    refine Ev.one fun k => ?_
    have : j = l.length := by omega
    subst this
    rw [order_Valid.l0, if_neg (by omega), hu.all]
  | succ n ih =>
    intro j t hj ht hm hu
    have hmem := mem_at l j (by omega)
    by_cases h0 : l.getD j 0 < 0
    · refine Ev.one fun k => ?_
      rw [order_Valid.l0, if_pos (by omega), if_pos (by omega), if_pos (by omega), rdN, if_pos h0, okb_not hmem (.inl h0)]
    · by_cases h1 : l.getD j 0 ≥ (l.length : Int)
      · refine Ev.one fun k => ?_
        rw [order_Valid.l0, if_pos (by omega), if_pos (by omega), if_pos (by omega), rdN, if_neg h0, if_pos h1, okb_not hmem (.inr h1)]
      · obtain ⟨x, hx⟩ := Int.eq_ofNat_of_zero_le (show 0 ≤ l.getD j 0 by omega)
        have hxl : x < l.length := by omega
        by_cases h2 : t.getD x false = true
        · refine Ev.one fun k => ?_
          have := (hm x hxl).1 h2
          rw [order_Valid.l0, if_pos (by omega), if_pos (by omega), if_pos (by omega), rdN, if_neg h0, if_neg h1, if_pos (by omega), if_pos (by omega), hx, if_pos (by simpa [rdOf] using h2), okb_twice (j := j) (by omega) (by rw [hx]; exact this)]
        · have hn : l.getD j 0 ∉ l.take j := fun hh => h2 ((hm x hxl).2 (by rw [← hx]; exact hh))
          refine (ih (j + 1) (t.set x true) (by omega) (by simpa using ht) ?_ (hu.next (by omega) (by omega) (by omega) hn)).step fun k h => ?_
          · intro m hml
            rw [take_at l j (by omega), List.mem_append, List.mem_singleton, hx]
            by_cases hmx : x = m
            · subst hmx; simp [ht, hxl]
            · rw [← hm m hml]
              have : (t.set x true).getD m false = t.getD m false := by simp [hmx]
              rw [this]
              constructor
              · exact .inl
              · rintro (h | h)
                · exact h
                · omega
          · rw [order_Valid.l0, if_pos (by omega), if_pos (by omega), if_pos (by omega), rdN, if_neg h0, if_neg h1, if_pos (by omega), if_pos (by omega), hx, if_neg (by simpa [rdOf] using h2), Int.toNat_natCast, w64s _ (by omega), h]
theorem valid_f (l : List Int) (hl : l.length < 1000000) : Ev fun k => order_Valid.f k l = some (okb l) := by
  refine (valid_loop l hl l.length 0 (List.replicate l.length false) (by omega) (by simp) (fun m hm => by simp [hm]) (Upto.zero l)).imp fun k h => ?_
  rw [order_Valid.f, if_pos (by omega), if_pos (by omega), Int.toNat_natCast]
  exact h
theorem rvalid_in (l : List Int) (hl : l.length < 1000000) (j : Nat) (hj : j < l.length) (h0 : ¬ l.getD j 0 < 0) (h1 : ¬ l.getD j 0 ≥ (l.length : Int)) (hu : Upto l j)
    (nx : Upto l (j + 1) → Ev fun k => cadencyref18_Valid.l0 k l ((j + 1 : Nat) : Int) = some (okb l)) : ∀ n m : Nat, n + m = j → (∀ i, i < m → l.getD i 0 ≠ l.getD j 0) → Ev fun k => cadencyref18_Valid.l1 k l j m = some (okb l) := by
  intro n
  induction n with
  | zero =>
    intro m hm hne
    have hn : l.getD j 0 ∉ l.take j := by
      intro hmem
      obtain ⟨i, hi, he⟩ := List.mem_iff_getElem.1 hmem
      rw [List.length_take] at hi
      rw [List.getElem_take] at he
      exact hne i (by omega) (by rw [← he]; simp [show i < l.length by omega])
    refine (nx (hu.next hj (by omega) (by omega) hn)).step fun k h => ?_
    rw [cadencyref18_Valid.l1, if_neg (by omega), w64s _ (by omega), h]
  | succ n ih =>
    intro m hm hne
    by_cases he : l.getD m 0 = l.getD j 0
    · refine Ev.one fun k => ?_
      have hin : l.getD j 0 ∈ l.take j := by
        rw [← he]
        have := List.getElem_mem (l := l.take j) (n := m) (by rw [List.length_take]; omega)
        rw [List.getElem_take] at this
        simpa [show m < l.length by omega] using this
      rw [cadencyref18_Valid.l1, if_pos (by omega), if_pos (by omega), if_pos (by omega), if_pos (by omega), if_pos (by omega), rdN, rdN, if_pos he, okb_twice hj hin]
    · refine (ih (m + 1) (by omega) (fun i hi => ?_)).step fun k h => ?_
      · by_cases hi2 : i = m
        · subst hi2; exact he
        · exact hne i (by omega)
      · rw [cadencyref18_Valid.l1, if_pos (by omega), if_pos (by omega), if_pos (by omega), if_pos (by omega), if_pos (by omega), rdN, rdN, if_neg he, w64s _ (by omega), h]
theorem rvalid_loop (l : List Int) (hl : l.length < 1000000) : ∀ n j : Nat, n + j = l.length → Upto l j → Ev fun k => cadencyref18_Valid.l0 k l (j : Int) = some (okb l) := by
  intro n
  induction n with
  | zero =>
    intro j hj hu
    have : j = l.length := by omega
    subst this
    refine Ev.one fun k => ?_
    rw [cadencyref18_Valid.l0, if_neg (by omega), hu.all]
  | succ n ih =>
    intro j hj hu
    have hmem := mem_at l j (by omega)
    by_cases h0 : l.getD j 0 < 0
    · refine Ev.one fun k => ?_
      rw [cadencyref18_Valid.l0, if_pos (by omega), if_pos (by omega), rdN, if_pos h0, okb_not hmem (.inl h0)]
    · by_cases h1 : l.getD j 0 ≥ (l.length : Int)
      · refine Ev.one fun k => ?_
        rw [cadencyref18_Valid.l0, if_pos (by omega), if_pos (by omega), rdN, if_neg h0, if_pos h1, okb_not hmem (.inr h1)]
      · refine (rvalid_in l hl j (by omega) h0 h1 hu (fun hu' => ih (j + 1) (by omega) hu') j 0 (by omega) (fun i hi => by omega)).step fun k h => ?_
        rw [cadencyref18_Valid.l0, if_pos (by omega), if_pos (by omega), rdN, if_neg h0, if_neg h1]
        exact h
theorem rvalid_f (l : List Int) (hl : l.length < 1000000) : Ev fun k => cadencyref18_Valid.f k l = some (okb l) := rvalid_loop l hl l.length 0 (by omega) (Upto.zero l)

/-! ### ranks -/
def rk (l : List Int) : Nat → Nat → Int → Int
  | 0, _, r => r
  | n + 1, j, r => rk l n (j + 1) (wrap64 (wrap64 (r * wrap64 ((l.length : Int) - j)) + lessN l j))
def rank (l : List Int) : Int := rk l l.length 0 0
theorem rank_loop (l : List Int) (hl : l.length < 1000000) : ∀ (n j : Nat) (r : Int), n + j = l.length → Ev fun k => order_Rank.l0 k l r l.length j = some (rk l n j r, true) := by
  intro n
  induction n with
  | zero =>
    intro j r hj
    refine Ev.one fun k => ?_
    rw [order_Rank.l0, if_neg (by omega), rk]
  | succ n ih =>
    intro j r hj
    refine ((less_f l j (by omega) hl).and (ih (j + 1) (wrap64 (wrap64 (r * wrap64 ((l.length : Int) - j)) + lessN l j)) (by omega))).step fun k h => ?_
    rw [order_Rank.l0, if_pos (by omega), h.1, rk, w64s _ (by omega)]
    exact h.2
theorem rank_f (l : List Int) (hl : l.length < 1000000) : Ev fun k => order_Rank.f k l = some (if 20 < l.length ∨ okb l = false then (0, false) else (rank l, true)) := by
  by_cases h20 : 20 < l.length
  · refine Ev.of fun k => ?_
    rw [order_Rank.f, if_pos (by omega), if_pos (.inl h20)]
  · cases hv : okb l with
    | false =>
      refine (valid_f l hl).imp fun k h => ?_
      rw [order_Rank.f, if_neg (by omega), h, hv, if_pos (.inr rfl)]
      rfl
    | true =>
      refine ((valid_f l hl).and (rank_loop l hl l.length 0 0 (by omega))).imp fun k h => ?_
      rw [order_Rank.f, if_neg (by omega), h.1, hv, if_neg (by simp; omega)]
      exact h.2
theorem rrank_in (l : List Int) (hl : l.length < 1000000) (j : Nat) (hj : j < l.length) (r q : Int) : ∀ n m c : Nat, n + m = l.length → c + n < 1000000 → 
    (Ev fun k => cadencyref18_Rank.l0 k l (wrap64 (wrap64 (r * wrap64 ((l.length : Int) - j)) + (c + (l.drop m).countP (fun x => decide (x < l.getD j 0)) : Nat))) ((j + 1 : Nat) : Int) = some q) → Ev fun k => cadencyref18_Rank.l1 k l r j c m = some q := by
  intro n
  induction n with
  | zero =>
    intro m c hm hc h
    refine h.step fun k h => ?_
    rw [cadencyref18_Rank.l1, if_neg (by omega), w64s _ (by omega)]
    rw [List.drop_of_length_le (by omega)] at h
    exact h
  | succ n ih =>
    intro m c hm hc h
    have hd := drop_at l m (by omega)
    by_cases hlt : l.getD m 0 < l.getD j 0
    · refine (ih (m + 1) (c + 1) (by omega) (by omega) (h.imp fun k h => ?_)).step fun k h => ?_
      · rw [hd, List.countP_cons, if_pos (by simpa using hlt)] at h
        rw [← h]; congr 4; omega
      · rw [cadencyref18_Rank.l1, if_pos (by omega), if_pos (by omega), if_pos (by omega), if_pos (by omega), rdN, rdN, if_pos hlt, w64s _ (by omega), w64s _ (by omega), h]
    · refine (ih (m + 1) c (by omega) (by omega) (h.imp fun k h => ?_)).step fun k h => ?_
      · rw [hd, List.countP_cons, if_neg (by simpa using hlt)] at h
        exact h
      · rw [cadencyref18_Rank.l1, if_pos (by omega), if_pos (by omega), if_pos (by omega), if_pos (by omega), rdN, rdN, if_neg hlt, w64s _ (by omega), h]
theorem rrank_loop (l : List Int) (hl : l.length < 500000) : ∀ (n j : Nat) (r : Int), n + j = l.length → Ev fun k => cadencyref18_Rank.l0 k l r (j : Int) = some (rk l n j r) := by
  intro n
  induction n with
  | zero =>
    intro j r hj
    refine Ev.one fun k => ?_
    rw [cadencyref18_Rank.l0, if_neg (by omega), rk]
  | succ n ih =>
    intro j r hj
    refine (rrank_in l (by omega) j (by omega) r (rk l (n + 1) j r) (l.length - (j + 1)) (j + 1) 0 (by omega) (by omega) ((ih (j + 1) (wrap64 (wrap64 (r * wrap64 ((l.length : Int) - j)) + lessN l j)) (by omega)).imp fun k h => ?_)).step fun k h => ?_
    · rw [Nat.zero_add, rk]; exact h
    · rw [cadencyref18_Rank.l0, if_pos (by omega), w64s _ (by omega)]; exact h
theorem rrank_f (l : List Int) (hl : l.length < 500000) : Ev fun k => cadencyref18_Rank.f k l = some (rank l) := rrank_loop l hl l.length 0 0 (by omega)

/-! ### swaps -/
def inv : List Int → Nat
  | [] => 0
  | x :: xs => xs.countP (fun y => decide (y < x)) + inv xs
theorem inv_le : ∀ l : List Int, inv l ≤ l.length * l.length
  | [] => Nat.le_refl _
  | x :: xs => by
    have := inv_le xs
    have h2 : xs.countP (fun y => decide (y < x)) ≤ xs.length := List.countP_le_length
    rw [inv, List.length_cons, Nat.succ_mul, Nat.mul_succ]; omega
theorem inv_snoc (x : Int) : ∀ l : List Int, inv (l ++ [x]) = inv l + l.countP (fun y => decide (y > x))
  | [] => rfl
  | y :: l => by
    rw [List.cons_append, inv, inv_snoc x l, inv, List.countP_append, List.countP_cons, List.countP_cons, List.countP_nil]
    by_cases h : x < y
    · simp only [h, gt_iff_lt, decide_true, if_true]; omega
    · simp only [h, gt_iff_lt, decide_false, Bool.false_eq_true, if_false]; omega
theorem inv_drop (l : List Int) (j : Nat) (h : j < l.length) : inv (l.drop j) = lessN l j + inv (l.drop (j + 1)) := by rw [drop_at l j h, inv, lessN]
theorem swaps_loop (l : List Int) (hl : l.length ≤ 1024) : ∀ n j c : Nat, n + j = l.length → c + n * 1024 < 4611686018427387904 → Ev fun k => order_Swaps.l0 k l c l.length j = some (((c + inv (l.drop j) : Nat) : Int), true) := by
  intro n
  induction n with
  | zero =>
    intro j c hj hc
    refine Ev.one fun k => ?_
    rw [order_Swaps.l0, if_neg (by omega), List.drop_of_length_le (by omega)]
    rfl
  | succ n ih =>
    intro j c hj hc
    have hle := lessN_le l j
    refine ((less_f l j (by omega) (by omega)).and (ih (j + 1) (c + lessN l j) (by omega) (by omega))).step fun k h => ?_
    rw [order_Swaps.l0, if_pos (by omega), h.1]
    show order_Swaps.l0 k l (wrap64 ((c : Int) + (lessN l j : Int))) l.length (wrap64 ((j : Int) + 1)) = _
    rw [w64s _ (by omega), w64 _ (by omega), ← Int.natCast_add, h.2, inv_drop l j (by omega), Nat.add_assoc]
theorem swaps_f (l : List Int) (hl : l.length ≤ 1024) : Ev fun k => order_Swaps.f k l = some (if okb l then ((inv l : Int), true) else (0, false)) := by
  cases hv : okb l with
  | false =>
    refine (valid_f l (by omega)).imp fun k h => ?_
    rw [order_Swaps.f, if_neg (by omega), h, hv]
    rfl
  | true =>
    refine ((valid_f l (by omega)).and (swaps_loop l hl l.length 0 0 (by omega) (by omega))).imp fun k h => ?_
    rw [order_Swaps.f, if_neg (by omega), h.1, hv]
    have := h.2
    rw [List.drop_zero, Nat.zero_add] at this
    exact this
theorem rswaps_in (l : List Int) (hl : l.length ≤ 1024) (j : Nat) (hj : j < l.length) (q : Int) : ∀ n m c : Nat, n + m = j → c + n < 4611686018427387904 →
    (Ev fun k => cadencyref18_Swaps.l0 k l ((c + ((l.take j).drop m).countP (fun x => decide (x > l.getD j 0)) : Nat) : Int) ((j + 1 : Nat) : Int) = some q) → Ev fun k => cadencyref18_Swaps.l1 k l c j m = some q := by
  intro n
  induction n with
  | zero =>
    intro m c hm hc h
    refine h.step fun k h => ?_
    rw [cadencyref18_Swaps.l1, if_neg (by omega), w64s _ (by omega)]
    rw [List.drop_of_length_le (by rw [List.length_take]; omega)] at h
    exact h
  | succ n ih =>
    intro m c hm hc h
    have hd := drop_at (l.take j) m (by rw [List.length_take]; omega)
    have hg : (l.take j).getD m 0 = l.getD m 0 := by simp [show m < j by omega]
    rw [hg] at hd
    by_cases hlt : l.getD m 0 > l.getD j 0
    · refine (ih (m + 1) (c + 1) (by omega) (by omega) (h.imp fun k h => ?_)).step fun k h => ?_
      · rw [hd, List.countP_cons, if_pos (by simpa using hlt)] at h
        rw [← h]; congr 2; omega
      · rw [cadencyref18_Swaps.l1, if_pos (by omega), if_pos (by omega), if_pos (by omega), if_pos (by omega), if_pos (by omega), rdN, rdN, if_pos hlt, w64s _ (by omega), w64s _ (by omega), h]
    · refine (ih (m + 1) c (by omega) (by omega) (h.imp fun k h => ?_)).step fun k h => ?_
      · rw [hd, List.countP_cons, if_neg (by simpa using hlt)] at h
        exact h
      · rw [cadencyref18_Swaps.l1, if_pos (by omega), if_pos (by omega), if_pos (by omega), if_pos (by omega), if_pos (by omega), rdN, rdN, if_neg hlt, w64s _ (by omega), h]
theorem rswaps_loop (l : List Int) (hl : l.length ≤ 1024) : ∀ n j : Nat, n + j = l.length → Ev fun k => cadencyref18_Swaps.l0 k l (inv (l.take j) : Nat) (j : Int) = some (inv l : Int) := by
  intro n
  induction n with
  | zero =>
    intro j hj
    refine Ev.one fun k => ?_
    rw [cadencyref18_Swaps.l0, if_neg (by omega), List.take_of_length_le (by omega)]
  | succ n ih =>
    intro j hj
    have hi := inv_le (l.take j)
    have hm : (l.take j).length * (l.take j).length ≤ 1024 * 1024 := Nat.mul_le_mul (by rw [List.length_take]; omega) (by rw [List.length_take]; omega)
    refine (rswaps_in l hl j (by omega) (inv l) j 0 (inv (l.take j)) (by omega) (by omega) ((ih (j + 1) (by omega)).imp fun k h => ?_)).step fun k h => ?_
    · rw [take_at l j (by omega), inv_snoc] at h
      rw [List.drop_zero]; exact h
    · rw [cadencyref18_Swaps.l0, if_pos (by omega)]; exact h
theorem rswaps_f (l : List Int) (hl : l.length ≤ 1024) : Ev fun k => cadencyref18_Swaps.f k l = some (inv l : Int) := by
  have := rswaps_loop l hl l.length 0 (by omega)
  rw [List.take_zero] at this
  exact this

/-! ### orders made by numbers -/
theorem rest_at (a b : Int) (hb : 0 < b) (hb2 : b < 4611686018427387904) : Int.tmod (wrap64 (Int.tmod a b + b)) b = a % b := by
  have h1 : Int.tmod a b < b := Int.tmod_lt_of_pos a hb
  have h2 : -b < Int.tmod a b := by have := Int.lt_tmod_of_pos a hb; omega
  have e := Int.mul_tdiv_add_tmod a b
  rw [w64 _ (by omega), Int.tmod_eq_emod_of_nonneg (by omega), Int.add_emod_right]
  have : Int.tmod a b = a + b * (-(Int.tdiv a b)) := by rw [Int.mul_neg]; omega
  rw [this, Int.add_mul_emod_self_left]
theorem rest_f (a b : Int) (hb : 0 < b) (hb2 : b < 4611686018427387904) : cadencylaw18_rest.f a b = some (a % b) := by
  rw [cadencylaw18_rest.f, if_neg (by omega), rest_at a b hb hb2]
theorem awake : Ev fun k => cadencylaw18_awake.f k = some true := ⟨20, fun k hk => at_rounds cadencylaw18_awake.mono hk (show cadencylaw18_awake.f 20 = some true by decide +kernel)⟩
theorem tells_f (l : List Int) (hl : l.length ≤ 1024) : Ev fun k => cadencylaw18_tells.f k l = some true := by
  refine ((rvalid_f l (by omega)).and ((rank_f l (by omega)).and ((swaps_f l hl).and ((valid_f l (by omega)).and ((rrank_f l (by omega)).and (rswaps_f l hl)))))).imp fun k h => ?_
  obtain ⟨h1, h2, h3, h4, h5, h6⟩ := h
  rw [cadencylaw18_tells.f, h1, h2, h3, h4]
  generalize okb l = b at *
  generalize rank l = r at *
  generalize inv l = v at *
  by_cases h20 : 20 < l.length
  · have hd : decide ((l.length : Int) ≤ 20) = false := decide_eq_false (by omega)
    cases b <;> simp [h20, h5, h6, hd] <;> omega
  · have hd : decide ((l.length : Int) ≤ 20) = true := decide_eq_true (by omega)
    cases b <;> simp [h20, h5, h6, hd] <;> omega
theorem few_loop (l : List Int) : ∀ n j : Nat, n + j = 9 → ∀ o : List Int, o.length ≤ j → ∃ r : List Int, r.length ≤ 9 ∧ Ev fun k => cadencylaw18_few.l0 k l o (j : Int) = some r := by
  intro n
  induction n with
  | zero =>
    intro j hj o ho
    refine ⟨o, by omega, Ev.one fun k => ?_⟩
    rw [cadencylaw18_few.l0]
    by_cases h : (j : Int) < (l.length : Int)
    · rw [if_pos h, if_neg (by omega)]
    · rw [if_neg h]
  | succ n ih =>
    intro j hj o ho
    by_cases h : (j : Int) < (l.length : Int)
    · by_cases h8 : (j : Int) < 8
      · obtain ⟨r, hr, he⟩ := ih (j + 1) (by omega) (o ++ [wrap64 (rd l j % 9 - 1)]) (by simp; omega)
        refine ⟨r, hr, he.step fun k h' => ?_⟩
        rw [cadencylaw18_few.l0, if_pos h, if_pos h8, if_pos (by omega), rest_f _ _ (by omega) (by omega)]
        show (if o.length < 17592186044416 then _ else _) = _
        rw [if_pos (by omega), w64s _ (by omega)]
        exact h'
      · refine ⟨o, by omega, Ev.one fun k => ?_⟩
        rw [cadencylaw18_few.l0, if_pos h, if_neg h8]
    · refine ⟨o, by omega, Ev.one fun k => ?_⟩
      rw [cadencylaw18_few.l0, if_neg h]
theorem few_f (l : List Int) : ∃ r : List Int, r.length ≤ 9 ∧ Ev fun k => cadencylaw18_few.f k l = some r := few_loop l 9 0 rfl [] (Nat.le_refl _)

/-- The first whole numbers. -/
def first (n : Nat) : List Int := (List.range n).map (fun i : Nat => (i : Int))
theorem first_len (n : Nat) : (first n).length = n := by simp [first]
theorem first_succ (n : Nat) : first (n + 1) = first n ++ [(n : Int)] := by simp [first, List.range_succ]
theorem first_ok (n : Nat) : Ok (first n) := by
  refine ⟨?_, fun x hx => ?_⟩
  · refine List.Pairwise.map _ ?_ List.nodup_range
    intro a b h e; exact h (by omega)
  · obtain ⟨i, hi, rfl⟩ := List.mem_map.1 hx
    have := List.mem_range.1 hi
    rw [first_len]; omega
theorem ok_perm {a b : List Int} (p : a.Perm b) (h : Ok a) : Ok b := ⟨p.nodup h.1, fun x hx => by have := h.2 x (p.mem_iff.2 hx); rwa [p.length_eq] at this⟩
theorem cut_perm (l : List Int) (c : Nat) (h : c < l.length) : (l.getD c 0 :: (l.take c ++ l.drop (c + 1))).Perm l := by
  have e : l = l.take c ++ l.getD c 0 :: l.drop (c + 1) := by rw [← drop_at l c h, List.take_append_drop]
  conv => rhs; rw [e]
  exact List.perm_middle.symm
theorem made_take (o left : List Int) (c n : Nat) (h : c < left.length) (hp : (o ++ left).Perm (first n)) : ((o ++ [left.getD c 0]) ++ (left.take c ++ left.drop (c + 1))).Perm (first n) := by
  refine List.Perm.trans ?_ hp
  rw [List.append_assoc]
  exact List.Perm.append_left o (cut_perm left c h)
theorem made_loop (n : Nat) (hn : n < 1000000) (t : List Int) : ∀ (m j : Nat) (left o : List Int), m + j = n → left.length = m → o.length = j → (o ++ left).Perm (first n) → ∃ r, r.Perm (first n) ∧ Ev fun k => cadencyref18_Made.l1 k n t left o (j : Int) = some r := by
  intro m
  induction m with
  | zero =>
    intro j left o hj hl ho hp
    have : left = [] := List.eq_nil_of_length_eq_zero hl
    subst this
    rw [List.append_nil] at hp
    refine ⟨o, hp, Ev.one fun k => ?_⟩
    rw [cadencyref18_Made.l1, if_neg (by omega)]
  | succ m ih =>
    intro j left o hj hl ho hp
    have go (c : Nat) (hc : c < left.length) := ih (j + 1) (left.take c ++ left.drop (c + 1)) (o ++ [left.getD c 0]) (by omega) (by rw [List.length_append, List.length_take, List.length_drop]; omega) (by simp; omega) (made_take o left c n hc hp)
    by_cases ht : (j : Int) < (t.length : Int)
    · have hr0 := Int.emod_nonneg (rd t (j : Int)) (show (left.length : Int) ≠ 0 by omega)
      have hr1 := Int.emod_lt_of_pos (rd t (j : Int)) (show 0 < (left.length : Int) by omega)
      obtain ⟨c, hc⟩ := Int.eq_ofNat_of_zero_le hr0
      obtain ⟨r, hr, he⟩ := go c (by omega)
      refine ⟨r, hr, he.step fun k h => ?_⟩
      rw [cadencyref18_Made.l1, if_pos (by omega), if_pos ht, if_pos (by omega), if_neg (by omega), rest_at _ _ (by omega) (by omega), hc, if_pos (by omega), if_pos (by omega), if_pos (by omega)]
      simp only [Option.bind_some, w64s c (by omega), w64s j (by omega), Int.toNat_natCast, List.nil_append, rdN]
      rw [if_pos (by omega), if_pos (by rw [List.length_take, List.length_nil]; omega), if_pos (by omega), if_pos (by omega), if_pos (by rw [List.length_take, List.length_drop]; omega)]
      exact h
    · obtain ⟨r, hr, he⟩ := go 0 (by omega)
      refine ⟨r, hr, he.step fun k h => ?_⟩
      rw [cadencyref18_Made.l1, if_pos (by omega), if_neg ht, if_pos (by omega), if_pos (by omega)]
      simp only [Option.bind_some, w64s j (by omega), List.nil_append]
      rw [if_pos (by omega), if_pos (by rw [List.length_take, List.length_nil]; omega), if_pos (by omega), if_pos (by rw [List.length_take, List.length_drop]; omega)]
      exact h
theorem made_fill (n : Nat) (hn : n < 1000000) (t : List Int) (r : List Int) (h : Ev fun k => cadencyref18_Made.l1 k n t (first n) [] ((0 : Nat) : Int) = some r) : ∀ m j : Nat, m + j = n → Ev fun k => cadencyref18_Made.l0 k n t (first j) (j : Int) = some r := by
  intro m
  induction m with
  | zero =>
    intro j hj
    have : j = n := by omega
    subst this
    refine h.step fun k h => ?_
    rw [cadencyref18_Made.l0, if_neg (by omega)]
    exact h
  | succ m ih =>
    intro j hj
    refine (ih (j + 1) (by omega)).step fun k h => ?_
    rw [cadencyref18_Made.l0, if_pos (by omega), if_pos (by rw [first_len]; omega), w64s _ (by omega), ← first_succ]
    exact h
theorem made_f (n : Nat) (hn : n < 1000000) (t : List Int) : ∃ r, r.Perm (first n) ∧ Ev fun k => cadencyref18_Made.f k n t = some r := by
  obtain ⟨r, hp, he⟩ := made_loop n hn t n 0 (first n) [] (by omega) (first_len n) rfl (List.Perm.refl _)
  exact ⟨r, hp, made_fill n hn t r he n 0 (by omega)⟩
theorem wf_i64 {a : Int} (h : (Lit.int .i64 a).wf = true) : -9223372036854775808 ≤ a ∧ a < 9223372036854775808 := by
  have h1 : IntKind.i64.min = -9223372036854775808 := rfl
  have h2 : IntKind.i64.max = 9223372036854775807 := rfl
  simp only [Lit.wf, Bool.and_eq_true, decide_eq_true_eq] at h
  omega
end Go.Proofs.Ytkgajiddcljdjaa.Lema
