/- StreamParts. -/
import Derived.Test.YtekkpgfklhhacaaP4
set_option linter.all false
set_option maxRecDepth 2000
set_option maxHeartbeats 8000000
namespace Go.Proofs.Vl
open Go Go.RowKit
attribute [local irreducible] AWp OpTo Run DL Val UN DR AC Le thn inb nog
def mkJ (i : Nat) (r : Int) : Jb := ⟨(i : Int) % 3, 0, if i % 2 = 0 then r % 8 else r, 0, .s (.slice none 0 0)⟩
def fewJ (l : List Int) : List Jb := (l.take 16).mapIdx mkJ
theorem jbP_ok {m : Bool} (l : List Jb) (h : ∀ j ∈ l, j.c = .s (.slice none 0 0)) : ∀ cs ∈ l.map jbP, ∀ x ∈ cs, pvOk m x = true := by
  intro cs hc x hx
  obtain ⟨t, ht, rfl⟩ := List.mem_map.1 hc
  simp only [jbP, h t ht, List.mem_cons, List.not_mem_nil, or_false] at hx
  rcases hx with rfl | rfl | rfl | rfl | rfl <;> simp [pvOk, PV.solid]
theorem few_c (l : List Int) : ∀ j ∈ fewJ l, j.c = .s (.slice none 0 0) := by
  intro j hj
  obtain ⟨i, hi, rfl⟩ := List.getElem_of_mem hj
  simp [fewJ, mkJ]
theorem few_k (l : List Int) : ∀ j ∈ fewJ l, 0 ≤ j.k ∧ j.k < 3 := by
  intro j hj
  obtain ⟨i, hi, rfl⟩ := List.getElem_of_mem hj
  simp only [fewJ, List.getElem_mapIdx, mkJ]
  omega
theorem few_len (l : List Int) : (fewJ l).length ≤ 16 := by simp [fewJ]; omega
theorem few_ac (G) (l : List Int) (hl : l.length ≤ maxLen) : AC Try.prog G 15 [fro (pvI .i64) l] [] (fun r os => r = .c (.own 33 5 (fewJ l).length) ∧ find os 33 = some (.row 43 5 ((fewJ l).map jbP))) := by
  refine AC.body' Try.func15 Try.ntmps15 rfl ?_
  intro cx hd hG
  refine nrmL (k := ?_)
  repeat refine w1 (k := ?_)
  obtain ⟨m, hm⟩ : ∃ m, m = fewJ l := ⟨_, rfl⟩
  have hml : m.length = min 16 l.length := by rw [hm, fewJ, List.length_mapIdx, List.length_take]
  rw [← hm]
  refine seedA 3 33 5 43 (h := ?_)
  refine loopN [(5, 29)] (α := Nat) (fun i => [(3, .c (.own 33 5 (m.take i).length)), (4, vi (i : Int))]) (fun i => [(33, .row 43 5 ((m.take i).map jbP))]) (fun i => 16 - i) (fun i => i ≤ m.length) (x0 := 0) (h0 := by first | omega | simp | (refine ⟨?_, ?_⟩ <;> first | omega | simp)) (hr := ?_)
  intro i hI
  refine nrmL (k := ?_)
  repeat refine w1 (k := ?_)
  first | refine bothTN (h1 := fun h => ?_) (h0 := fun h => ?_) | refine bothFN (h1 := fun h => ?_) (h0 := fun h => ?_)
  all_goals repeat refine w1 (k := ?_)
  ·
    refine condN (h1 := fun h2 => ?_) (h0 := fun h2 => ?_)
    ·
      have hi : i < l.length := by omega
      have him : i < m.length := by omega
      have eg : m[i] = mkJ i l[i] := by subst hm; simp [fewJ]
      repeat refine w1 (k := ?_)
      refine cutNN [(23, 4)] (α := Unit) (fun u => [(5, vi (mkJ i l[i]).r)]) (fun u => [(33, .row 43 5 ((m.take i).map jbP))]) (fun u => True) ?_ (fun u hI => ?_)
      ·
        refine condN (h1 := fun h3 => ?_) (h0 := fun h3 => ?_)
        ·
          have h4 : (mkJ i l[i]).r = l[i] % 8 := by simp [mkJ]; omega
          repeat refine w1 (k := ?_)
          rw [rest_w l[i] 8 (by decide) (by decide), ← h4]
          refine ⟨(), by first | rfl | omega | trivial | (refine ⟨?_, ?_⟩ <;> first | rfl | omega), frg⟩
        ·
          have h4 : (mkJ i l[i]).r = l[i] := by simp [mkJ]; omega
          repeat refine w1 (k := ?_)
          rw [h4]
          refine ⟨(), by first | rfl | omega | trivial | (refine ⟨?_, ?_⟩ <;> first | rfl | omega), frg⟩
      refine nrmL (k := ?_)
      repeat refine w1 (k := ?_)
      refine litA jbP [mkJ i l[i]] (h := ?_)
      repeat refine w1 (k := ?_)
      have hl2 : (m.take i).length = i := by simp; omega
      refine appA 33 56 jbP (m.take i) [mkJ i l[i]] (hb := by rw [hl2]; simp; omega) (hm := by rw [hl2]; simp; omega) (h := ?_)
      repeat refine w1 (k := ?_)
      rw [show m.take i ++ [mkJ i l[i]] = m.take (i + 1) by rw [List.take_succ_eq_append_getElem him, eg]]
      refine ⟨i + 1, by omega, by first | omega | (refine ⟨?_, ?_⟩ <;> omega), frg⟩
    ·
      repeat refine w1 (k := ?_)
      have : i = m.length := by omega
      subst this
      rw [List.take_length]
      exact ⟨[.c _], .cons (.tmp rfl) .nil, rfl, rfl⟩
  ·
    repeat refine w1 (k := ?_)
    have : i = m.length := by omega
    subst this
    rw [List.take_length]
    exact ⟨[.c _], .cons (.tmp rfl) .nil, rfl, rfl⟩
def plcN (l : List Jb) (t : Int) (n : Nat) : List Nat := (List.range n).filter fun i => l[i]?.any fun j => decide (j.k = t)
def plcI (l : List Jb) (t : Int) (n : Nat) : List Int := (plcN l t n).map fun (i : Nat) => (i : Int)
theorem plcI_succ (l : List Jb) (t : Int) (n : Nat) (h : n < l.length) : plcI l t (n + 1) = if l[n].k = t then plcI l t n ++ [(n : Int)] else plcI l t n := by
  unfold plcI plcN
  rw [List.range_succ, List.filter_append]
  simp only [List.filter_cons, List.filter_nil, List.getElem?_eq_getElem h, Option.any_some, decide_eq_true_eq]
  split <;> simp
theorem of_ac (G) (l : List Jb) (t : Int) (hl : l.length ≤ 1000) : AC Try.prog G 16 [fro jbP l, vi t] [] (fun r os => r = .c (.own 55 1 (plcI l t l.length).length) ∧ find os 55 = some (.row 3 1 ((plcI l t l.length).map (pvI .i64)))) := by
  refine AC.body' Try.func16 Try.ntmps16 rfl ?_
  intro cx hd hG
  refine nrmL (k := ?_)
  repeat refine w1 (k := ?_)
  refine seedA 5 55 1 3 (h := ?_)
  rw [show (Ob.row 3 1 []) = Ob.row 3 1 ((plcI l t 0).map (pvI .i64)) from rfl]
  refine loopN [(6, 2), (11, 13)] (α := Nat) (fun i => [(5, .c (.own 55 1 (plcI l t i).length)), (10, vi (i : Int))]) (fun i => [(55, .row 3 1 ((plcI l t i).map (pvI .i64)))]) (fun i => l.length - i) (fun i => i ≤ l.length) (x0 := 0) (h0 := by first | omega | simp | (refine ⟨?_, ?_⟩ <;> first | omega | simp)) (hr := ?_)
  intro i hI
  refine nrmL (k := ?_)
  repeat refine w1 (k := ?_)
  refine condN (h1 := fun h => ?_) (h0 := fun h => ?_)
  ·
    have hi : i < l.length := by omega
    have hs := plcI_succ l t i hi
    have hle : (plcI l t i).length ≤ i := by unfold plcI plcN; rw [List.length_map]; exact Nat.le_trans (List.length_filter_le _ _) (by simp)
    repeat refine w1 (k := ?_)
    refine condN (h1 := fun h2 => ?_) (h0 := fun h2 => ?_)
    ·
      rw [if_pos h2] at hs
      repeat refine w1 (k := ?_)
      refine litA (pvI .i64) [(i : Int)] (h := ?_)
      repeat refine w1 (k := ?_)
      refine appA 55 8 (pvI .i64) (plcI l t i) [(i : Int)] (hb := by simp; omega) (hm := by simp; omega) (h := ?_)
      repeat refine w1 (k := ?_)
      rw [← hs]
      refine ⟨i + 1, by omega, by first | omega | (refine ⟨?_, ?_⟩ <;> omega), frg⟩
    ·
      rw [if_neg h2] at hs
      repeat refine w1 (k := ?_)
      rw [← hs]
      refine ⟨i + 1, by omega, by first | omega | (refine ⟨?_, ?_⟩ <;> omega), frg⟩
  ·
    repeat refine w1 (k := ?_)
    have : i = l.length := by omega
    subst this
    exact ⟨[.c _], .cons (.tmp rfl) .nil, rfl, rfl⟩
