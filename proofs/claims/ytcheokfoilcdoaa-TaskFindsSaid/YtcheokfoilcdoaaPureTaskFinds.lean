/- A task is found by its name, at its first place; names that are none's are not found: the law TaskFinds answers true at every input. -/
import Derived.Test.YtcheokfoilcdoaaPAllx7
namespace Go.Proofs.Ytcheokfoilcdoaa.Pure
open Go.RowKit Go.Proofs.Ytcheokfoilcdoaa.PAll Go.Proofs.YtcheokfoilcdoaaW.PrintWords Go.Proofs.YtcheokfoilcdoaaW.PrintLast Go.Proofs.YtcheokfoilcdoaaW.PrintMore
set_option linter.all false
namespace Finds
def Ev (P : Nat → Prop) : Prop := ∃ K, ∀ k, K ≤ k → P k
theorem Ev.imp {P Q : Nat → Prop} (h : Ev P) (f : ∀ k, P k → Q k) : Ev Q := h.elim fun K h => ⟨K, fun k hk => f k (h k hk)⟩
theorem Ev.step {P Q : Nat → Prop} (h : Ev P) (f : ∀ k, P k → Q (k + 1)) : Ev Q := h.elim fun K h => ⟨K + 1, fun k hk => by
  obtain ⟨j, rfl⟩ : ∃ j, k = j + 1 := ⟨k - 1, by omega⟩
  exact f j (h j (by omega))⟩
theorem Ev.and {P Q : Nat → Prop} (h : Ev P) (g : Ev Q) : Ev fun k => P k ∧ Q k := by
  obtain ⟨K, h⟩ := h
  obtain ⟨L, g⟩ := g
  exact ⟨max K L, fun k hk => ⟨h k (by omega), g k (by omega)⟩⟩
theorem Ev.one {P : Nat → Prop} (h : ∀ k, P (k + 1)) : Ev P := Ev.step (P := fun _ => True) ⟨0, fun _ _ => trivial⟩ fun k _ => h k
theorem Ev.ex {P : Nat → Prop} (h : Ev P) : ∃ k, P k := h.elim fun K h => ⟨K, h K (Nat.le_refl _)⟩
theorem w64 (n : Int) (h : -9223372036854775808 ≤ n ∧ n < 9223372036854775808) : wrap64 n = n := by unfold wrap64; omega
theorem w64s (j : Nat) (h : j < 4611686018427387904) : wrap64 ((j : Int) + 1) = ((j + 1 : Nat) : Int) := by rw [w64 _ (by omega)]; push_cast; rfl
theorem rest_at (a b : Int) (hb : 0 < b) (hb2 : b < 4611686018427387904) : Int.tmod (wrap64 (Int.tmod a b + b)) b = a % b := by
  have h1 : Int.tmod a b < b := Int.tmod_lt_of_pos a hb
  have h2 : -b < Int.tmod a b := by have := Int.lt_tmod_of_pos a hb; omega
  have e := Int.mul_tdiv_add_tmod a b
  rw [w64 _ (by omega), Int.tmod_eq_emod_of_nonneg (by omega), Int.add_emod_right]
  have : Int.tmod a b = a + b * (-(Int.tdiv a b)) := by rw [Int.mul_neg]; omega
  rw [this, Int.add_mul_emod_self_left]
theorem rest_f (a b : Int) (hb : 0 < b) (hb2 : b < 4611686018427387904) : ∃ r, cadencyref04_rest.f a b = some r ∧ 0 ≤ r ∧ r < b :=
  ⟨a % b, by rw [cadencyref04_rest.f, if_neg (by omega), rest_at a b hb hb2], Int.emod_nonneg _ (by omega), Int.emod_lt_of_pos _ hb⟩

/-! ### to find -/
abbrev nm (l : List S26) (j : Nat) : List UInt8 := (rd_T26 l (j : Int)).f0.toList
def fd (l : List S26) (s : List UInt8) : Nat → Nat → Int × Bool
  | 0, _ => (0, false)
  | n + 1, j => if nm l j = s then ((j : Int), true) else fd l s n (j + 1)
theorem find_loop (l : List S26) (hl : l.length < 1000000) (s : ByteArray) : ∀ n j : Nat, n + j = l.length → Ev fun k => task_Find.l0 k s l l.length j = some (fd l s.toList n j) := by
  intro n
  induction n with
  | zero =>
    intro j hj
    exact Ev.one fun k => by rw [task_Find.l0, if_neg (by omega), fd]
  | succ n ih =>
    intro j hj
    by_cases h : nm l j = s.toList
    · exact Ev.one fun k => by rw [task_Find.l0, if_pos (by omega), if_pos (by omega), if_pos (by omega), if_pos h, fd, if_pos h]
    · refine (ih (j + 1) (by omega)).step fun k hk => ?_
      rw [task_Find.l0, if_pos (by omega), if_pos (by omega), if_pos (by omega), if_neg h, fd, if_neg h, w64s _ (by omega), hk]
theorem find_f (l : List S26) (hl : l.length < 1000000) (s : ByteArray) : Ev fun k => task_Find.f k l s = some (fd l s.toList l.length 0) := find_loop l hl s l.length 0 (by omega)
theorem fd_hit (l : List S26) (s : List UInt8) (i : Nat) (hi : nm l i = s) : ∀ n j : Nat, j ≤ i → i < j + n → (∀ m, j ≤ m → m < i → nm l m ≠ s) → fd l s n j = ((i : Int), true)
  | 0, j, h1, h2, _ => by omega
  | n + 1, j, h1, h2, h => by
    rw [fd]
    by_cases e : j = i
    · subst e; rw [if_pos hi]
    · rw [if_neg (h j (Nat.le_refl _) (by omega))]
      exact fd_hit l s i hi n (j + 1) (by omega) (by omega) fun m hm => h m (by omega)
theorem fd_none (l : List S26) (s : List UInt8) : ∀ n j : Nat, (∀ m, j ≤ m → m < j + n → nm l m ≠ s) → fd l s n j = (0, false)
  | 0, _, _ => rfl
  | n + 1, j, h => by
    rw [fd, if_neg (h j (Nat.le_refl _) (by omega))]
    exact fd_none l s n (j + 1) fun m hm hm2 => h m (by omega) (by omega)
theorem fd_some (l : List S26) (s : List UInt8) (i : Nat) (hi : nm l i = s) : ∀ n j : Nat, j ≤ i → i < j + n → ∃ q : Nat, fd l s n j = ((q : Int), true) ∧ q ≤ i ∧ nm l q = s
  | 0, j, h1, h2 => by omega
  | n + 1, j, h1, h2 => by
    rw [fd]
    by_cases e : nm l j = s
    · exact ⟨j, by rw [if_pos e], h1, e⟩
    · rw [if_neg e]
      have : j ≠ i := fun h => e (h ▸ hi)
      exact fd_some l s i hi n (j + 1) (by omega) (by omega)
theorem finds_loop (l : List S26) (hl : l.length < 1000000) (s : ByteArray) (at_ : Int) (ok : Bool) (hf : fd l s.toList l.length 0 = (at_, ok)) : ∀ n j : Nat, n + j = l.length → (∀ m, m < j → nm l m ≠ s.toList) → Ev fun k => cadencylaw04_finds.l0 k l s at_ ok j = some true := by
  intro n
  induction n with
  | zero =>
    intro j hj hn
    rw [fd_none l s.toList l.length 0 fun m _ hm => hn m (by omega)] at hf
    obtain ⟨rfl, rfl⟩ := Prod.mk.inj hf
    exact Ev.one fun k => by rw [cadencylaw04_finds.l0, if_neg (by omega), if_neg Bool.false_ne_true]; rfl
  | succ n ih =>
    intro j hj hn
    by_cases h : nm l j = s.toList
    · rw [fd_hit l s.toList j h l.length 0 (by omega) (by omega) fun m _ hm => hn m hm] at hf
      obtain ⟨rfl, rfl⟩ := Prod.mk.inj hf
      exact Ev.one fun k => by rw [cadencylaw04_finds.l0, if_pos (by omega), if_pos (by omega), if_pos h, if_pos rfl, beq_self_eq_true]
    · obtain ⟨q, hq, hqj, hqn⟩ := fd_some l (nm l j) j rfl l.length 0 (by omega) (by omega)
      refine ((find_f l hl (rd_T26 l (j : Int)).f0).and (ih (j + 1) (by omega) fun m hm => ?_)).step fun k hk => ?_
      · by_cases e : m = j
        · subst e; exact h
        · exact hn m (by omega)
      · rw [cadencylaw04_finds.l0, if_pos (by omega), if_pos (by omega), if_neg h, hk.1, hq, Option.bind_some, if_pos rfl, if_neg (by dsimp only; omega), if_pos (by dsimp only; omega), if_pos (by dsimp only; omega), if_pos hqn, w64s _ (by omega)]
        exact hk.2
theorem finds_f (l : List S26) (hl : l.length < 1000000) (s : ByteArray) : Ev fun k => cadencylaw04_finds.f k l s = some true := by
  refine ((find_f l hl s).and (finds_loop l hl s _ _ rfl l.length 0 (by omega) (fun m hm => by omega))).imp fun k hk => ?_
  rw [cadencylaw04_finds.f, hk.1, Option.bind_some]
  exact hk.2

/-! ### a set is made -/
theorem turns_f (n c : Int) : ∃ r, cadencyref04_turns.f n c = some r := by
  rw [cadencyref04_turns.f]
  by_cases h : n > 2
  · obtain ⟨r, hr, _⟩ := rest_f (wrap64 (Int.tdiv c n)) 2 (by omega) (by omega)
    rw [if_pos h, if_neg (by omega), hr, Option.bind_some]
    by_cases e : r = 1
    · exact ⟨_, by rw [if_pos e]⟩
    · exact ⟨_, by rw [if_neg e]⟩
  · exact ⟨_, by rw [if_neg h]⟩
theorem set_end (c : Int) : ∀ (n j : Nat) (o : List S26), n + j = o.length → o.length ≤ 8 → ∃ r : List S26, r.length ≤ 8 ∧ Ev fun k => cadencyref04_Set.l1 k c o o.length j = some r := by
  intro n
  induction n with
  | zero =>
    intro j o hj ho
    exact ⟨o, ho, Ev.one fun k => by rw [cadencyref04_Set.l1, if_neg (by omega)]⟩
  | succ n ih =>
    intro j o hj ho
    obtain ⟨t, ht⟩ := turns_f (o.length : Int) c
    obtain ⟨q, hq, _⟩ := rest_f c (o.length : Int) (by omega) (by omega)
    obtain ⟨r, hr, he⟩ := ih (j + 1) (o.set j ⟨(rd_T26 o j).f0, (rd_T26 o j).f1, (rd_T26 o j).f2, (rd_T26 o j).f3, (rd_T26 o j).f4, (rd_T26 o j).f5, wrap64 (1 + (Int.tmod (wrap64 ((wrap64 ((j : Int) * t)) + q)) (o.length : Int)))⟩) (by rw [List.length_set]; omega) (by rw [List.length_set]; exact ho)
    refine ⟨r, hr, he.step fun k hk => ?_⟩
    rw [List.length_set] at hk
    rw [cadencyref04_Set.l1, if_pos (by omega), ht, Option.bind_some, hq, Option.bind_some, if_neg (by omega), if_pos (by omega), if_pos (by omega), w64s _ (by omega)]
    exact hk
theorem set_loop (l : List S51) (c : Int) : ∀ (n j : Nat) (o : List S26), n + j = 8 → o.length = j → ∃ r : List S26, r.length ≤ 8 ∧ Ev fun k => cadencyref04_Set.l0 k l 8 c o j = some r := by
  have last (j : Nat) (o : List S26) (ho : o.length ≤ 8) (h : ¬ (j : Int) < (l.length : Int) ∨ ¬ (j : Int) < 8) : ∃ r : List S26, r.length ≤ 8 ∧ Ev fun k => cadencyref04_Set.l0 k l 8 c o j = some r := by
    obtain ⟨r, hr, he⟩ := set_end c o.length 0 o (by omega) ho
    refine ⟨r, hr, he.step fun k hk => ?_⟩
    rw [cadencyref04_Set.l0]
    by_cases h1 : (j : Int) < (l.length : Int)
    · rw [if_pos h1, if_neg (by omega)]; exact hk
    · rw [if_neg h1]; exact hk
  intro n
  induction n with
  | zero => intro j o hj ho; exact last j o (by omega) (.inr (by omega))
  | succ n ih =>
    intro j o hj ho
    by_cases h1 : (j : Int) < (l.length : Int)
    · obtain ⟨a, ha, a0, a1⟩ := rest_f (rd_T51 l (j : Int)).f0 4 (by omega) (by omega)
      obtain ⟨b, hb, b0, b1⟩ := rest_f (rd_T51 l (j : Int)).f1 11 (by omega) (by omega)
      have e1 : wrap64 (1 + a) = 1 + a := w64 _ (by omega)
      have e2 : wrap64 (1 + a + b) = 1 + a + b := w64 _ (by omega)
      have e3 : wrap64 (1 + a + b - (1 + a)) = b := by rw [w64 _ (by omega)]; omega
      have e4 : wrap64 (b + 1) = b + 1 := w64 _ (by omega)
      obtain ⟨d, hd, _, _⟩ := rest_f (rd_T51 l (j : Int)).f2 (b + 1) (by omega) (by omega)
      obtain ⟨e, he, _, _⟩ := rest_f (rd_T51 l (j : Int)).f4 7 (by omega) (by omega)
      obtain ⟨g, hg, _, _⟩ := rest_f (rd_T51 l (j : Int)).f3 (1 + a) (by omega) (by omega)
      obtain ⟨r, hr, hk⟩ := ih (j + 1) (o ++ [⟨(⟨#[116]⟩ : ByteArray) ++ (strOfNums [(wrap64 (97 + (j : Int))) % 256]), 1 + a, wrap64 (1 + a + b + e), 1 + a + b, d, wrap64 (1 + g), 0⟩]) (by omega) (by simp; omega)
      refine ⟨r, hr, hk.step fun k hk => ?_⟩
      rw [cadencyref04_Set.l0, if_pos h1, if_pos (by omega), if_pos (by omega), ha, Option.bind_some, hb, Option.bind_some, e1, e2, e3, e4, hd, Option.bind_some, he, Option.bind_some, hg, Option.bind_some, Option.bind_some, if_pos (by rw [strOfNums_size, List.length_singleton]; omega), if_pos (by omega), w64s _ (by omega)]
      exact hk
    · exact last j o (by omega) (.inl h1)
theorem set_f (l : List S51) (c : Int) : ∃ r : List S26, r.length ≤ 8 ∧ Ev fun k => cadencyref04_Set.f k l 8 c = some r := by
  by_cases h : (l.length : Int) = 0
  · obtain ⟨r, hr, he⟩ := set_loop [⟨c, 0, 0, 0, 0⟩] c 8 0 [] rfl rfl
    exact ⟨r, hr, he.imp fun k hk => by rw [cadencyref04_Set.f, if_pos h]; exact hk⟩
  · obtain ⟨r, hr, he⟩ := set_loop l c 8 0 [] rfl rfl
    exact ⟨r, hr, he.imp fun k hk => by rw [cadencyref04_Set.f, if_neg h]; exact hk⟩
theorem awake : cadencylaw04_awake.f = some true := by decide +kernel
theorem one (k : Nat) (l : List S26) (l1 : List S51) (s : ByteArray) (r : List S26) (hl : ¬ (l.length : Int) > 6) (h0 : cadencyref04_Set.f k l1 8 (s.size : Int) = some r) (h1 : cadencylaw04_finds.f k l s = some true) (h2 : cadencylaw04_finds.f k r s = some true) (h3 : cadencylaw04_finds.f k r (⟨#[116, 98]⟩ : ByteArray) = some true) (h4 : cadencylaw04_finds.f k l (⟨#[]⟩ : ByteArray) = some true) : cadencylaw04_TaskFinds.f k l l1 s = some true := by
  rw [cadencylaw04_TaskFinds.f, awake, Option.bind_some, if_neg hl, h0, Option.bind_some, if_pos rfl, h1, Option.bind_some, if_pos rfl, h2, Option.bind_some, if_pos rfl, h3, Option.bind_some, if_pos rfl, h4, Option.bind_some]
theorem two (k : Nat) (l t : List S26) (ht : l.take 6 = t) (l1 : List S51) (s : ByteArray) (r : List S26) (hl : (l.length : Int) > 6) (h0 : cadencyref04_Set.f k l1 8 (s.size : Int) = some r) (h1 : cadencylaw04_finds.f k t s = some true) (h2 : cadencylaw04_finds.f k r s = some true) (h3 : cadencylaw04_finds.f k r (⟨#[116, 98]⟩ : ByteArray) = some true) (h4 : cadencylaw04_finds.f k t (⟨#[]⟩ : ByteArray) = some true) : cadencylaw04_TaskFinds.f k l l1 s = some true := by
  rw [cadencylaw04_TaskFinds.f, awake, Option.bind_some, if_pos hl, if_pos (by omega), Option.bind_some, ht, h0, Option.bind_some, if_pos rfl, h1, Option.bind_some, if_pos rfl, h2, Option.bind_some, if_pos rfl, h3, Option.bind_some, if_pos rfl, h4, Option.bind_some]
end Finds
open Finds
theorem TaskFinds : cadencylaw04_TaskFinds.Pure := by
  intro l l1 s h1 h2 h3
  obtain ⟨r, hr, he⟩ := set_f l1 (s.size : Int)
  by_cases hl : (l.length : Int) > 6
  · have ht : (l.take 6).length ≤ 6 := by rw [List.length_take]; omega
    obtain ⟨k, g0, g1, g2, g3, g4⟩ := (he.and ((finds_f (l.take 6) (by omega) s).and ((finds_f r (by omega) s).and ((finds_f r (by omega) ⟨#[116, 98]⟩).and (finds_f (l.take 6) (by omega) ⟨#[]⟩))))).ex
    exact ⟨k, two k l _ rfl l1 s r hl g0 g1 g2 g3 g4⟩
  · obtain ⟨k, g0, g1, g2, g3, g4⟩ := (he.and ((finds_f l (by omega) s).and ((finds_f r (by omega) s).and ((finds_f r (by omega) ⟨#[116, 98]⟩).and (finds_f l (by omega) ⟨#[]⟩))))).ex
    exact ⟨k, one k l l1 s r hl g0 g1 g2 g3 g4⟩
end Go.Proofs.Ytcheokfoilcdoaa.Pure
