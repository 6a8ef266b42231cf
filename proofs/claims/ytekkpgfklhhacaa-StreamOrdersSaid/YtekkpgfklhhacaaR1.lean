/- The document's order, places, next release. -/
import Derived.Test.YtekkpgfklhhacaaQ2
import Derived.Test.YtekkpgfklhhacaaQ0
set_option linter.all false
set_option maxRecDepth 2000
set_option maxHeartbeats 8000000
namespace Go.Proofs.Vl
open Go Go.RowKit
attribute [local irreducible] AWp OpTo Run DL Val UN DR AC Le thn inb nog
theorem count_at {α : Type} {lt : α → α → Bool} (hirr : ∀ a, lt a a = false) (hasy : ∀ a b, lt a b = true → lt b a = false) : ∀ (L : List α), L.Pairwise (fun a b => lt a b = true) → ∀ i (h : i < L.length), L.countP (fun z => lt z L[i]) = i
  | [], _, i, h => by simp at h
  | a :: L, hp, i, h => by
    obtain ⟨h1, h2⟩ := List.pairwise_cons.1 hp
    cases i with
    | zero =>
      simp only [List.getElem_cons_zero]
      rw [List.countP_cons, hirr a]
      have : L.countP (fun z => lt z a) = 0 := List.countP_eq_zero.2 fun z hz => by rw [hasy a z (h1 z hz)]; simp
      simp [this]
    | succ i =>
      have hi : i < L.length := by simpa using h
      simp only [List.getElem_cons_succ]
      rw [List.countP_cons, count_at hirr hasy L h2 i hi, h1 _ (List.getElem_mem hi)]; simp
def rankL (l : List Jb) (k : Nat) : Nat := (List.range l.length).countP fun (j : Nat) => decide (lexL (pAtI l) (j : Int) (k : Int))
theorem ordL_len (l : List Jb) : (ordL l).length = l.length := by unfold ordL; rw [sortL_len, idL_len]
theorem ordL_rank (l : List Jb) (k : Nat) (hk : k < l.length) : ∃ h : rankL l k < (ordL l).length, (ordL l)[rankL l k] = (k : Int) := by
  have hpw : (ordL l).Pairwise (fun a b => decide (lexL (pAtI l) a b) = true) := by
    unfold ordL sortL
    rw [List.pairwise_reverse]
    exact (sort_pw (pAtI l) l.length).imp fun h => by simpa using h
  have hm : (k : Int) ∈ ordL l := (sortL_perm _ _).mem_iff.2 (List.mem_map.2 ⟨k, List.mem_range.2 hk, rfl⟩)
  obtain ⟨i, hi, he⟩ := List.getElem_of_mem hm
  have hc := count_at (lt := fun a b => decide (lexL (pAtI l) a b)) (fun a => by simp [lexL]) (fun a b h => by
    simp only [decide_eq_true_eq, decide_eq_false_iff_not] at h ⊢
    unfold lexL at h ⊢; omega) (ordL l) hpw i hi
  rw [he] at hc
  have hc2 : rankL l k = i := by
    rw [← hc]
    have : (ordL l).countP (fun z => decide (lexL (pAtI l) z (k : Int))) = (idL l.length).countP (fun z => decide (lexL (pAtI l) z (k : Int))) := (sortL_perm _ _).countP_eq _
    rw [this]
    unfold rankL idL
    rw [List.countP_map]; rfl
  subst hc2
  exact ⟨hi, he⟩
def rkT (l : List Jb) (k n : Nat) : Nat := (List.range n).countP fun (j : Nat) => decide (lexL (pAtI l) (j : Int) (k : Int))
theorem rkT_succ (l : List Jb) (k n : Nat) : rkT l k (n + 1) = rkT l k n + if lexL (pAtI l) (n : Int) (k : Int) then 1 else 0 := by
  unfold rkT; rw [List.range_succ, List.countP_append, List.countP_singleton]
  by_cases h : lexL (pAtI l) (n : Int) (k : Int) <;> simp [h]
theorem rkT_le (l : List Jb) (k n : Nat) : rkT l k n ≤ n := by unfold rkT; exact Nat.le_trans List.countP_le_length (by simp)
theorem ordL_at (l : List Jb) (i : Nat) (hi : i < (ordL l).length) : ∃ k : Nat, k < l.length ∧ (ordL l)[i] = (k : Int) ∧ rankL l k = i := by
  have hm : (ordL l)[i] ∈ idL l.length := (sortL_perm _ _).mem_iff.1 (List.getElem_mem hi)
  obtain ⟨k, he, hk⟩ := idL_mem hm
  refine ⟨k, hk, he, ?_⟩
  have hpw : (ordL l).Pairwise (fun a b => decide (lexL (pAtI l) a b) = true) := by
    unfold ordL sortL
    rw [List.pairwise_reverse]
    exact (sort_pw (pAtI l) l.length).imp fun h => by simpa using h
  have hc := count_at (lt := fun a b => decide (lexL (pAtI l) a b)) (fun a => by simp [lexL]) (fun a b h => by
    simp only [decide_eq_true_eq, decide_eq_false_iff_not] at h ⊢
    unfold lexL at h ⊢; omega) (ordL l) hpw i hi
  rw [he] at hc
  rw [← hc]
  have : (ordL l).countP (fun z => decide (lexL (pAtI l) z (k : Int))) = (idL l.length).countP (fun z => decide (lexL (pAtI l) z (k : Int))) := (sortL_perm _ _).countP_eq _
  rw [this]
  unfold rankL idL
  rw [List.countP_map]; rfl
theorem same09_ac (G) (a : List Int) (ha : a.length ≤ 1000) : AC Try.prog G 31 [fro (pvI .i64) a, fro (pvI .i64) a] [] (fun r _ => r = vb true) := by
  refine AC.body' Try.func31 Try.ntmps31 rfl ?_
  intro cx hd hG
  refine nrmL (k := ?_)
  repeat refine w1 (k := ?_)
  refine condN (h1 := fun h0 => ?_) (h0 := fun h0 => ?_)
  ·
    exact (h0 trivial).elim
  repeat refine w1 (k := ?_)
  refine loopN [(4, 1), (11, 15)] (α := Nat) (fun i => [(5, vi (i : Int))]) (fun i => []) (fun i => a.length - i) (fun i => i ≤ a.length) (x0 := 0) (h0 := by first | omega | simp | (refine ⟨?_, ?_⟩ <;> first | omega | simp)) (hr := ?_)
  intro i hI
  refine nrmL (k := ?_)
  repeat refine w1 (k := ?_)
  refine condN (h1 := fun h => ?_) (h0 := fun h => ?_)
  ·
    have hi : i < a.length := by omega
    repeat refine w1 (k := ?_)
    refine condN (h1 := fun h1 => ?_) (h0 := fun h1 => ?_)
    ·
      exact (h1 trivial).elim
    ·
      repeat refine w1 (k := ?_)
      refine ⟨i + 1, by omega, by first | omega | (refine ⟨?_, ?_⟩ <;> omega), frg⟩
  ·
    repeat refine w1 (k := ?_)
    exact ⟨[.c _], .cons (.tmp rfl) .nil, rfl⟩
theorem orderR_ac (G) (l : List Jb) (hl : l.length ≤ 16) : AC Try.prog G 32 [fro jbP l] [] (fun r os => r = .c (.own 9 1 (ordL l).length) ∧ find os 9 = some (.row 3 1 ((ordL l).map (pvI .i64)))) := by
  refine AC.body' Try.func32 Try.ntmps32 rfl ?_
  intro cx hd hG
  refine nrmL (k := ?_)
  repeat refine w1 (k := ?_)
  obtain ⟨w0, fz0, β0, df, G0⟩ := cx
  obtain rfl : G0 = G := hG
  have hol := ordL_len l
  rw [List.length_map]
  refine OpTo.makeN (sz := 1) (by_ := 8) (pvI .i64) (0 : Int) l.length rfl rfl (by decide) (by decide) (.inl rfl) rfl rfl rfl rfl rfl (Int.le_refl _) (by omega) (by omega) (by decide) rfl rfl ?_
  refine nrm (k := ?_)
  repeat refine w1 (k := ?_)
  refine loopN [(5, 2), (10, 47)] (α := Nat × List Int) (fun y => [(4, vi (y.1 : Int))]) (fun y => [(9, .row 3 1 (y.2.map (pvI .i64)))]) (fun y => l.length - y.1) (fun y => y.1 ≤ l.length ∧ y.2.length = l.length ∧ ∀ k, k < y.1 → y.2[rankL l k]? = some (k : Int)) (x0 := (0, List.replicate l.length 0)) (h0 := by exact ⟨Nat.zero_le _, by simp, fun k h => by cases h⟩) (hr := ?_)
  intro y hI
  refine nrmL (k := ?_)
  obtain ⟨k, out⟩ := y
  obtain ⟨g1, g2, g3⟩ := hI
  dsimp only at g1 g2 g3
  repeat refine w1 (k := ?_)
  refine condN (h1 := fun hk0 => ?_) (h0 := fun hk0 => ?_)
  ·
    have hk : k < l.length := by omega
    obtain ⟨hr1, hr2⟩ := ordL_rank l k hk
    repeat refine w1 (k := ?_)
    refine cutIN [(6, 1), (16, 37)] (α := Unit) (fun u => [(5, vi (rankL l k : Nat))]) (fun u => [(9, .row 3 1 (out.map (pvI .i64)))]) (fun u => True) ?_ (fun u hI => ?_)
    ·
      refine loopN [(16, 37)] (α := Nat) (fun j => [(5, vi (rkT l k j : Nat)), (6, vi (j : Int))]) (fun j => [(9, .row 3 1 (out.map (pvI .i64)))]) (fun j => l.length - j) (fun j => j ≤ l.length) (x0 := 0) (h0 := by first | omega | simp | (refine ⟨?_, ?_⟩ <;> first | omega | simp)) (hr := ?_)
      intro j hI
      refine nrmL (k := ?_)
      have hle := rkT_le l k j
      repeat refine w1 (k := ?_)
      refine condN (h1 := fun h => ?_) (h0 := fun h => ?_)
      ·
        have hj : j < l.length := by omega
        have e := rkT_succ l k j
        have p1 := pAtI_nat l j hj
        have p2 := pAtI_nat l k hk
        have hlex : lexL (pAtI l) (j : Int) (k : Int) ↔ (l[j].r < l[k].r ∨ (l[j].r = l[k].r ∧ (j : Int) < (k : Int))) := by unfold lexL; rw [p1, p2]
        repeat refine w1 (k := ?_)
        by_cases c1 : l[j].r < l[k].r
        ·
          rw [show decide (l[j].r < l[k].r) = true from decide_eq_true c1]
          rw [if_pos (hlex.2 (.inl c1))] at e
          repeat refine w1 (k := ?_)
          rw [show ((rkT l k j : Nat) : Int) + 1 = ((rkT l k (j + 1) : Nat) : Int) by omega]
          refine ⟨j + 1, by omega, by first | omega | (refine ⟨?_, ?_⟩ <;> omega), frg⟩
        ·
          rw [show decide (l[j].r < l[k].r) = false from decide_eq_false c1]
          repeat refine w1 (k := ?_)
          by_cases c2 : l[j].r = l[k].r
          ·
            rw [show (l[j].r == l[k].r) = true from by simpa using c2]
            repeat refine w1 (k := ?_)
            by_cases c3 : (j : Int) < (k : Int)
            ·
              rw [show decide ((j : Int) < (k : Int)) = true from decide_eq_true c3]
              rw [if_pos (hlex.2 (.inr ⟨c2, c3⟩))] at e
              repeat refine w1 (k := ?_)
              rw [show ((rkT l k j : Nat) : Int) + 1 = ((rkT l k (j + 1) : Nat) : Int) by omega]
              refine ⟨j + 1, by omega, by first | omega | (refine ⟨?_, ?_⟩ <;> omega), frg⟩
            ·
              rw [show decide ((j : Int) < (k : Int)) = false from decide_eq_false c3]
              rw [if_neg (fun h => by rcases hlex.1 h with h | h <;> omega)] at e
              repeat refine w1 (k := ?_)
              rw [show rkT l k j = rkT l k (j + 1) by omega]
              refine ⟨j + 1, by omega, by first | omega | (refine ⟨?_, ?_⟩ <;> omega), frg⟩
          ·
            rw [show (l[j].r == l[k].r) = false from by simpa using c2]
            rw [if_neg (fun h => by rcases hlex.1 h with h | h <;> omega)] at e
            repeat refine w1 (k := ?_)
            rw [show rkT l k j = rkT l k (j + 1) by omega]
            refine ⟨j + 1, by omega, by first | omega | (refine ⟨?_, ?_⟩ <;> omega), frg⟩
      ·
        repeat refine w1 (k := ?_)
        have : j = l.length := by omega
        subst this
        refine ⟨(), by first | rfl | omega | trivial | (refine ⟨?_, ?_⟩ <;> first | rfl | omega), frg⟩
    refine nrmL (k := ?_)
    repeat refine w1 (k := ?_)
    refine OpTo.stRN (sz := 1) (j := rankL l k) (c := 0) (f := pvI .i64) (l := out) (k : Int) rfl rfl rfl (by omega) rfl rfl (by kernel_rfl) (Nat.le_refl _) rfl ?_
    refine nrm (k := ?_)
    repeat refine w1 (k := ?_)
    have g4 : ∀ q, q < k + 1 → (out.set (rankL l k) (k : Int))[rankL l q]? = some (q : Int) := fun q hq => by
      by_cases e : q = k
      · subst e; rw [List.getElem?_set_self (by omega)]
      · obtain ⟨hr3, hr4⟩ := ordL_rank l q (by omega)
        rw [List.getElem?_set_ne (fun h => e (by have : (ordL l)[rankL l k] = (ordL l)[rankL l q] := by simp only [h]
                                                 rw [hr2, hr4] at this; omega))]
        exact g3 q (by omega)
    refine ⟨(k + 1, out.set (rankL l k) (k : Int)), by dsimp only; omega, by exact ⟨by dsimp only; omega, by simp [g2], g4⟩, frg⟩
  ·
    repeat refine w1 (k := ?_)
    have : k = l.length := by omega
    subst this
    have e : out = ordL l := by
      refine List.ext_getElem (by omega) fun j h1 h2 => ?_
      obtain ⟨k, hk, e1, e2⟩ := ordL_at l j h2
      have := g3 k hk
      rw [e2, List.getElem?_eq_getElem h1] at this
      rw [e1]; exact Option.some.inj this
    subst e
    rw [← hol]
    exact ⟨[.c _], .cons (.tmp rfl) .nil, rfl, rfl⟩
def atN (l : List Jb) (t : Int) (n : Nat) : List Nat := (List.range n).filter fun i => l[i]?.any fun j => decide (j.r = t)
def atI (l : List Jb) (t : Int) (n : Nat) : List Int := (atN l t n).map fun (i : Nat) => (i : Int)
theorem atI_succ (l : List Jb) (t : Int) (n : Nat) (h : n < l.length) : atI l t (n + 1) = if l[n].r = t then atI l t n ++ [(n : Int)] else atI l t n := by
  unfold atI atN
  rw [List.range_succ, List.filter_append]
  simp only [List.filter_cons, List.filter_nil, List.getElem?_eq_getElem h, Option.any_some, decide_eq_true_eq]
  split <;> simp
theorem at_ac (G) (l : List Jb) (t : Int) (hl : l.length ≤ 1000) : AC Try.prog G 33 [fro jbP l, vi t] [] (fun r os => r = .c (.own 55 1 (atI l t l.length).length) ∧ find os 55 = some (.row 3 1 ((atI l t l.length).map (pvI .i64)))) := by
  refine AC.body' Try.func33 Try.ntmps33 rfl ?_
  intro cx hd hG
  refine nrmL (k := ?_)
  repeat refine w1 (k := ?_)
  refine seedA 5 55 1 3 (h := ?_)
  rw [show (Ob.row 3 1 []) = Ob.row 3 1 ((atI l t 0).map (pvI .i64)) from rfl]
  refine loopN [(7, 17)] (α := Nat) (fun i => [(5, .c (.own 55 1 (atI l t i).length)), (6, vi (i : Int))]) (fun i => [(55, .row 3 1 ((atI l t i).map (pvI .i64)))]) (fun i => l.length - i) (fun i => i ≤ l.length) (x0 := 0) (h0 := by first | omega | simp | (refine ⟨?_, ?_⟩ <;> first | omega | simp)) (hr := ?_)
  intro i hI
  refine nrmL (k := ?_)
  repeat refine w1 (k := ?_)
  refine condN (h1 := fun h => ?_) (h0 := fun h => ?_)
  ·
    have hi : i < l.length := by omega
    have hs := atI_succ l t i hi
    have hle : (atI l t i).length ≤ i := by unfold atI atN; rw [List.length_map]; exact Nat.le_trans (List.length_filter_le _ _) (by simp)
    repeat refine w1 (k := ?_)
    refine condN (h1 := fun h2 => ?_) (h0 := fun h2 => ?_)
    ·
      rw [if_pos h2] at hs
      repeat refine w1 (k := ?_)
      refine litA (pvI .i64) [(i : Int)] (h := ?_)
      repeat refine w1 (k := ?_)
      refine appA 55 8 (pvI .i64) (atI l t i) [(i : Int)] (hb := by simp; omega) (hm := by simp; omega) (h := ?_)
      repeat refine w1 (k := ?_)
      rw [← hs]
      refine ⟨i + 1, by omega, by first | omega | (refine ⟨?_, ?_⟩ <;> omega), frg⟩
    ·
      rw [if_neg h2] at hs
      repeat refine w1 (k := ?_)
      rw [← hs]
      refine ⟨i + 1, by omega, by first | omega | (refine ⟨?_, ?_⟩ <;> omega), frg⟩
  ·
    repeat refine w1 (k := ?_)
    have : i = l.length := by omega
    subst this
    exact ⟨[.c _], .cons (.tmp rfl) .nil, rfl, rfl⟩
