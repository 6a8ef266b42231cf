/- StreamParts. -/
import Derived.Test.YtekkpgfklhhacaaP5
set_option linter.all false
set_option maxRecDepth 2000
set_option maxHeartbeats 8000000
namespace Go.Proofs.Vl
open Go Go.RowKit
attribute [local irreducible] AWp OpTo Run DL Val UN DR AC Le thn inb nog
theorem plcN_mem {l : List Jb} {t : Int} {n : Nat} {x : Nat} (h : x ∈ plcN l t n) : x < n ∧ ∃ hx : x < l.length, l[x].k = t := by
  unfold plcN at h
  obtain ⟨h1, h2⟩ := List.mem_filter.1 h
  refine ⟨List.mem_range.1 h1, ?_⟩
  cases hx : l[x]? with
  | none => rw [hx] at h2; cases h2
  | some j =>
    obtain ⟨g1, g2⟩ := List.getElem?_eq_some_iff.1 hx
    rw [hx] at h2
    exact ⟨g1, by rw [g2]; simpa using h2⟩
theorem plcN_pw (l : List Jb) (t : Int) (n : Nat) : (plcN l t n).Pairwise (· < ·) := List.Pairwise.filter _ List.pairwise_lt_range
theorem plcI_at {l : List Jb} {t : Int} {i : Nat} (h : i < (plcI l t l.length).length) : ∃ x : Nat, (plcI l t l.length)[i] = (x : Int) ∧ ∃ hx : x < l.length, l[x].k = t := by
  have hi : i < (plcN l t l.length).length := by unfold plcI at h; simpa using h
  refine ⟨(plcN l t l.length)[i], by simp [plcI], ?_⟩
  exact (plcN_mem (List.getElem_mem hi)).2
theorem plcI_lt {l : List Jb} {t : Int} {i : Nat} (h : i + 1 < (plcI l t l.length).length) : (plcI l t l.length)[i] < (plcI l t l.length)[i + 1] := by
  have hi : i + 1 < (plcN l t l.length).length := by unfold plcI at h; simpa using h
  have := List.pairwise_iff_getElem.1 (plcN_pw l t l.length) i (i + 1) (by omega) hi (by omega)
  simp only [plcI, List.getElem_map]
  omega
theorem plcI_len (l : List Jb) (t : Int) : ∀ n, n ≤ l.length → (plcI l t n).length = (l.take n).countP fun j => decide (j.k = t)
  | 0, _ => by simp [plcI, plcN]
  | n + 1, h => by
    have hn : n < l.length := h
    rw [plcI_succ l t n hn, List.take_succ_eq_append_getElem hn, List.countP_append, ← plcI_len l t n (by omega), List.countP_singleton]
    split <;> simp_all
theorem cnt_lt (j : Nat) : ∀ l : List Jb, (∀ b ∈ l, 0 ≤ b.k) → l.countP (fun b => decide (b.k < (j : Int))) = l.countP (fun b => decide (b.k < (j : Int) - 1)) + l.countP (fun b => decide (b.k = (j : Int) - 1))
  | [], _ => rfl
  | b :: l, h => by
    have ih := cnt_lt j l (fun x hx => h x (List.mem_cons_of_mem _ hx))
    simp only [List.countP_cons, ih, decide_eq_true_eq]
    by_cases h1 : b.k < (j : Int) - 1
    · rw [if_pos (by omega), if_pos h1, if_neg (by omega)]; omega
    · by_cases h2 : b.k = (j : Int) - 1
      · rw [if_pos (by omega), if_neg h1, if_pos h2]; omega
      · rw [if_neg (by omega), if_neg h1, if_neg h2]; omega
theorem sparts_ac (G) (l : List Int) (t : Int) (hl : l.length ≤ maxLen) : AC Try.prog G 6 [fro (pvI .i64) l, vi t] [] (fun r _ => r = vb true) := by
  refine AC.body' Try.func6 Try.ntmps6 rfl ?_
  intro cx hd hG
  refine nrmL (k := ?_)
  repeat refine w1 (k := ?_)
  obtain ⟨w0, fz0, β0, df, G0⟩ := cx
  obtain rfl : G0 = G := hG
  refine callN (hc := by exact awake09_ac _) (h := ?_)
  repeat refine w1 (k := ?_)
  refine callRowN (hc := by exact few_ac _ l hl ) (hso := by exact  jbP_ok _ (few_c l)) (h := ?_)
  have hk := few_k l
  have hm := few_len l
  generalize fewJ l = m at hk hm ⊢
  refine nrm (k := ?_)
  repeat refine w1 (k := ?_)
  first | refine zA 13 (h := ?_) | refine zO 13 (h := ?_) | refine zL 13 (h := ?_) | refine zL3 13 (h := ?_)
  refine nrm (k := ?_)
  repeat refine w1 (k := ?_)
  have c0 : m.countP (fun b => decide (b.k < ((0 : Nat) : Int) - 1)) = 0 := List.countP_eq_zero.2 fun b hb => by have := hk b hb; simp; omega
  refine loopN [(4, 1), (9, 2), (14, 59)] (α := Nat × Nat × Int) (fun y => [(7, vi (y.2.1 : Int)), (8, vi y.2.2)]) (fun y => []) (fun y => 5 - y.1) (fun y => y.1 ≤ 5 ∧ y.2.1 = m.countP (fun b => decide (b.k < (y.1 : Int) - 1)) ∧ y.2.2 = (y.1 : Int) - 1) (x0 := (0, 0, -1)) (h0 := by exact ⟨by decide, c0.symm, rfl⟩) (hr := ?_)
  intro y hI
  refine nrmL (k := ?_)
  obtain ⟨j, s, u⟩ := y
  obtain ⟨h1, h2, h3⟩ := hI
  dsimp only at h1 h2 h3
  repeat refine w1 (k := ?_)
  refine condN (h1 := fun h => ?_) (h0 := fun h => ?_)
  ·
    have hs := cnt_lt j m (fun b hb => (hk b hb).1)
    have hle : m.countP (fun b => decide (b.k < (j : Int) - 1)) ≤ 16 := Nat.le_trans List.countP_le_length hm
    have hlen := plcI_len m u m.length (Nat.le_refl _)
    rw [List.take_length] at hlen
    have hof := of_ac G0 m u (by omega)
    obtain ⟨p, hp⟩ : ∃ p, p = plcI m u m.length := ⟨_, rfl⟩
    rw [← hp] at hof hlen
    have hpa : ∀ i (h : i < p.length), ∃ x : Nat, p[i] = (x : Int) ∧ ∃ hx : x < m.length, m[x].k = u := by subst hp; exact fun i h => plcI_at h
    have hpl : ∀ i (h : i + 1 < p.length), p[i] < p[i + 1] := by subst hp; exact fun i h => plcI_lt h
    have hple : p.length ≤ 16 := by rw [hlen]; exact Nat.le_trans List.countP_le_length hm
    repeat refine w1 (k := ?_)
    refine callRowN (hc := by exact hof ) (hso := by exact  pvI_ok _) (h := ?_)
    refine nrm (k := ?_)
    repeat refine w1 (k := ?_)
    first | refine zA 20 (h := ?_) | refine zO 20 (h := ?_) | refine zL 20 (h := ?_) | refine zL3 20 (h := ?_)
    refine nrm (k := ?_)
    repeat refine w1 (k := ?_)
    refine loopN [(4, 1), (21, 48)] (α := Nat) (fun i => [(10, vi (i : Int))]) (fun i => []) (fun i => p.length - i) (fun i => i ≤ p.length) (x0 := 0) (h0 := by first | omega | simp | (refine ⟨?_, ?_⟩ <;> first | omega | simp)) (hr := ?_)
    intro i hI
    refine nrmL (k := ?_)
    repeat refine w1 (k := ?_)
    refine condN (h1 := fun g => ?_) (h0 := fun g => ?_)
    ·
      have hi : i < p.length := by omega
      obtain ⟨x, hx1, hx2, hx3⟩ := hpa i hi
      have x0 : decide ((x : Int) < 0) = false := decide_eq_false (by omega)
      have xl : decide ((x : Int) ≥ (m.length : Int)) = false := decide_eq_false (by omega)
      repeat refine w1 (k := ?_)
      simp only [hx1, x0]
      repeat refine w1 (k := ?_)
      simp only [hx1, List.length_map, xl]
      repeat refine w1 (k := ?_)
      simp only [hx1]
      repeat refine w1 (k := ?_)
      simp only [hx3, bne_self_eq_false]
      repeat refine w1 (k := ?_)
      by_cases i0 : i = 0
      ·
        rw [show decide ((i : Int) > 0) = false from decide_eq_false (by omega)]
        repeat refine w1 (k := ?_)
        refine ⟨i + 1, by omega, by first | omega | (refine ⟨?_, ?_⟩ <;> omega), frg⟩
      ·
        obtain ⟨k, rfl⟩ : ∃ k, i = k + 1 := ⟨i - 1, by omega⟩
        have hlt := hpl k hi
        have im : ((k + 1 : Nat) : Int) - 1 = (k : Int) := by omega
        rw [show decide (((k + 1 : Nat) : Int) > 0) = true from decide_eq_true (by omega)]
        repeat refine w1 (k := ?_)
        simp only [im]
        repeat refine w1 (k := ?_)
        simp only [show decide (p[k] ≥ p[k + 1]) = false from decide_eq_false (by omega)]
        repeat refine w1 (k := ?_)
        refine ⟨k + 1 + 1, by omega, by first | omega | (refine ⟨?_, ?_⟩ <;> omega), frg⟩
    ·
      repeat refine w1 (k := ?_)
      simp only [List.length_map]
      repeat refine w1 (k := ?_)
      have e : s + p.length = m.countP (fun b => decide (b.k < ((j + 1 : Nat) : Int) - 1)) := by
        rw [show ((j + 1 : Nat) : Int) - 1 = (j : Int) by omega, hs, ← h2, hlen, h3]
      rw [show IntKind.i64.wrap ((s : Int) + (p.length : Int)) = (s : Int) + (p.length : Int) from wrap_id (by omega) (by omega)]
      refine ⟨(j + 1, s + p.length, u + 1), by dsimp only; omega, by exact ⟨by dsimp only; omega, e, by dsimp only; omega⟩, ?_⟩
      dsimp only
      rw [Int.natCast_add]
      exact frg
  ·
    have hj : j = 5 := by omega
    subst hj
    have hse : s = m.length := by
      rw [h2]
      exact List.countP_eq_length.2 fun b hb => by have := hk b hb; simp; omega
    rw [hse]
    repeat refine w1 (k := ?_)
    simp only [List.length_map, beq_self_eq_true]
    repeat refine w1 (k := ?_)
    by_cases h0 : t < 0
    ·
      rw [show decide (t ≥ 0) = false from decide_eq_false (by omega)]
      repeat refine w1 (k := ?_)
      have hof := of_ac G0 m t (by omega)
      have e0 : plcI m t m.length = [] := by
        refine List.eq_nil_of_length_eq_zero ?_
        rw [plcI_len m t m.length (Nat.le_refl _), List.take_length]
        exact List.countP_eq_zero.2 fun b hb => by have := hk b hb; simp; omega
      rw [e0] at hof
      refine callRowN (hc := by exact hof ) (hso := by exact  pvI_ok _) (h := ?_)
      refine nrm (k := ?_)
      repeat refine w1 (k := ?_)
      exact ⟨[.c _], .cons (.tmp rfl) .nil, rfl⟩
    · by_cases h9 : t < 3
      ·
        rw [show decide (t ≥ 0) = true from decide_eq_true (by omega)]
        repeat refine w1 (k := ?_)
        exact ⟨[.c _], .cons (.tmp rfl) .nil, rfl⟩
      ·
        rw [show decide (t ≥ 0) = true from decide_eq_true (by omega)]
        repeat refine w1 (k := ?_)
        have hof := of_ac G0 m t (by omega)
        have e0 : plcI m t m.length = [] := by
          refine List.eq_nil_of_length_eq_zero ?_
          rw [plcI_len m t m.length (Nat.le_refl _), List.take_length]
          exact List.countP_eq_zero.2 fun b hb => by have := hk b hb; simp; omega
        rw [e0] at hof
        refine callRowN (hc := by exact hof ) (hso := by exact  pvI_ok _) (h := ?_)
        refine nrm (k := ?_)
        repeat refine w1 (k := ?_)
        exact ⟨[.c _], .cons (.tmp rfl) .nil, rfl⟩
