/- Rows of things out of rows of numbers. -/
import Derived.Test.YtekkpgfklhhacaaP7
set_option linter.all false
set_option maxRecDepth 2000
set_option maxHeartbeats 8000000
namespace Go.Proofs.Vl
open Go Go.RowKit
attribute [local irreducible] AWp OpTo Run DL Val UN DR AC Le thn inb nog
theorem rest09_ac (G) (a b : Int) (hb : 0 < b) (hb2 : b < 4611686018427387904) : AC Try.prog G 14 [vi a, vi b] [] (fun r _ => r = vi (a % b)) := by
  refine AC.body' Try.func14 Try.ntmps14 rfl ?_
  intro cx hd hG
  refine nrmL (k := ?_)
  repeat refine w1 (k := ?_)
  first | refine ofN (hv := by exact Val.rem rfl rfl rfl rfl (by omega)) (h := ?_) | refine dlN (hv := by exact Val.rem rfl rfl rfl rfl (by omega)) (h := ?_) | refine dlgN (hv := by exact Val.rem rfl rfl rfl rfl (by omega)) (h := ?_) | refine ofN (hv := by exact Val.rem rfl rfl rfl rfl (by omega)) (h := ?_)
  repeat refine w1 (k := ?_)
  first | refine ofN (hv := by exact Val.rem rfl rfl rfl rfl (by omega)) (h := ?_) | refine dlN (hv := by exact Val.rem rfl rfl rfl rfl (by omega)) (h := ?_) | refine dlgN (hv := by exact Val.rem rfl rfl rfl rfl (by omega)) (h := ?_) | refine ofN (hv := by exact Val.rem rfl rfl rfl rfl (by omega)) (h := ?_)
  repeat refine w1 (k := ?_)
  refine ⟨[.c _], .cons (.tmp rfl) .nil, ?_⟩
  rw [rest_w a b hb hb2]
  rfl
def lessF : Nat := 13
theorem lessT_ac (G) (a b : It) : AC Try.prog G 13 [.pag (itP a), .pag (itP b)] [] (fun r _ => r = vb (ltT a b)) := by
  refine AC.body' Try.func13 Try.ntmps13 rfl ?_
  intro cx hd hG
  refine nrmL (k := ?_)
  repeat refine w1 (k := ?_)
  exact ⟨[.c _], .cons (.tmp rfl) .nil, rfl⟩
theorem items_ac (G) (rows : List (List Int)) (s : Bool) (hl : rows.length ≤ maxLen) (hr : ∀ r ∈ rows, r.length ≤ maxLen) : AC Try.prog G 11 [fro (slP (pvI .i64)) rows, vb s] [] (fun r os => r = .c (.own 55 1 (itms s rows).length) ∧ find os 55 = some (.row 34 1 ((itms s rows).map (slP itP)))) := by
  refine AC.body' Try.func11 Try.ntmps11 rfl ?_
  intro cx hd hG
  refine nrmL (k := ?_)
  repeat refine w1 (k := ?_)
  obtain ⟨w0, fz0, β0, df, G0⟩ := cx
  obtain rfl : G0 = G := hG
  obtain ⟨m, hm⟩ : ∃ m, m = itms s rows := ⟨_, rfl⟩
  have hml : m.length = min 8 rows.length := by rw [hm, itms, List.length_mapIdx, List.length_take]
  rw [← hm]
  refine seedA 5 55 1 34 (h := ?_)
  refine loopN [(7, 55)] (α := Nat) (fun i => [(5, .c (.own 55 1 (m.take i).length)), (6, vi (i : Int))]) (fun i => [(55, .row 34 1 ((m.take i).map (slP itP)))]) (fun i => 8 - i) (fun i => i ≤ m.length) (x0 := 0) (h0 := by first | omega | simp | (refine ⟨?_, ?_⟩ <;> first | omega | simp)) (hr := ?_)
  intro i hI
  refine nrmL (k := ?_)
  repeat refine w1 (k := ?_)
  first | refine bothTN (h1 := fun h => ?_) (h0 := fun h => ?_) | refine bothFN (h1 := fun h => ?_) (h0 := fun h => ?_)
  all_goals repeat refine w1 (k := ?_)
  ·
    refine condN (h1 := fun h2 => ?_) (h0 := fun h2 => ?_)
    ·
      have hi : i < rows.length := by omega
      have him : i < m.length := by omega
      have eg : m[i] = itmG s i 0 0 (rows[i].take 8) := by subst hm; simp [itms, itmR]
      have hri := hr _ (List.getElem_mem hi)
      obtain ⟨r, hrr⟩ : ∃ r, r = rows[i].take 8 := ⟨_, rfl⟩
      have hrl : r.length = min 8 rows[i].length := by rw [hrr, List.length_take]
      rw [← hrr] at eg
      repeat refine w1 (k := ?_)
      refine seedA 7 7 2 32 (h := ?_)
      refine cutIN [(8, 3), (21, 37)] (α := Unit) (fun u => [(7, .c (.own 7 2 m[i].length))]) (fun u => [(55, .row 34 1 ((m.take i).map (slP itP))), (7, .row 32 2 (m[i].map itP))]) (fun u => True) ?_ (fun u hI => ?_)
      ·
        refine loopN [(10, 1), (21, 37)] (α := Nat × Int × List It) (fun y => [(7, .c (.own 7 2 y.2.2.length)), (8, vi y.2.1), (9, vi (y.1 : Int))]) (fun y => [(55, .row 34 1 ((m.take i).map (slP itP))), (7, .row 32 2 (y.2.2.map itP))]) (fun y => 8 - y.1) (fun y => y.1 ≤ r.length ∧ 0 ≤ y.2.1 ∧ y.2.1 ≤ 4 * (y.1 : Int) ∧ y.2.2.length = y.1 ∧ y.2.2 ++ itmG s i y.1 y.2.1 (r.drop y.1) = m[i]) (x0 := (0, 0, [])) (h0 := by exact ⟨Nat.zero_le _, by decide, by decide, rfl, by rw [eg]; rfl⟩) (hr := ?_)
        intro y hI
        refine nrmL (k := ?_)
        obtain ⟨k, key, l⟩ := y
        obtain ⟨g1, g2, g3, g4, g5⟩ := hI
        dsimp only at g1 g2 g3 g4 g5
        repeat refine w1 (k := ?_)
        simp only [List.length_map]
        repeat refine w1 (k := ?_)
        first | refine bothTN (h1 := fun p1 => ?_) (h0 := fun p1 => ?_) | refine bothFN (h1 := fun p1 => ?_) (h0 := fun p1 => ?_)
        all_goals repeat refine w1 (k := ?_)
        ·
          refine condN (h1 := fun p2 => ?_) (h0 := fun p2 => ?_)
          ·
            have hk : k < rows[i].length := by omega
            have hkr : k < r.length := by omega
            have er : r[k] = rows[i][k] := by subst hrr; rw [List.getElem_take]
            rw [List.drop_eq_getElem_cons hkr, itmG, er] at g5
            have b1 := Int.emod_nonneg rows[i][k] (show (5 : Int) ≠ 0 by decide)
            have b2 := Int.emod_lt_of_pos rows[i][k] (show (0 : Int) < 5 by decide)
            repeat refine w1 (k := ?_)
            refine callN (hc := by exact rest09_ac _ _ 5 (by decide) (by decide)) (h := ?_)
            repeat refine w1 (k := ?_)
            generalize rows[i][k] = x at *
            have kb : 0 ≤ keyT s key x ∧ keyT s key x ≤ 4 * ((k : Int) + 1) := by unfold keyT; split <;> omega
            refine cutNN [(48, 1)] (α := Unit) (fun u => [(8, vi (keyT s key x))]) (fun u => [(55, .row 34 1 ((m.take i).map (slP itP))), (7, .row 32 2 (l.map itP))]) (fun u => True) ?_ (fun u hI => ?_)
            ·
              cases s with
              | false =>
                repeat refine w1 (k := ?_)
                refine ⟨(), by first | rfl | omega | trivial | (refine ⟨?_, ?_⟩ <;> first | rfl | omega), frg⟩
              | true =>
                repeat refine w1 (k := ?_)
                refine ⟨(), by first | rfl | omega | trivial | (refine ⟨?_, ?_⟩ <;> first | rfl | omega), frg⟩
            refine nrmL (k := ?_)
            repeat refine w1 (k := ?_)
            refine litA itP [⟨keyT s key x, 10 * (i : Int) + k⟩] (h := ?_)
            repeat refine w1 (k := ?_)
            refine appA 7 16 itP l [⟨keyT s key x, 10 * (i : Int) + k⟩] (hb := by simp; omega) (hm := by simp; omega) (h := ?_)
            repeat refine w1 (k := ?_)
            refine ⟨(k + 1, keyT s key x, l ++ [⟨keyT s key x, 10 * (i : Int) + k⟩]), by dsimp only; omega, by exact ⟨hkr, kb.1, by dsimp only; omega, by simp [g4], by rw [List.append_assoc]; exact g5⟩, frg⟩
          ·
            repeat refine w1 (k := ?_)
            have : k = r.length := by omega
            subst this
            rw [List.drop_length, itmG, List.append_nil] at g5
            subst g5
            refine ⟨(), by first | rfl | omega | trivial | (refine ⟨?_, ?_⟩ <;> first | rfl | omega), frg⟩
        ·
          repeat refine w1 (k := ?_)
          have : k = r.length := by omega
          subst this
          rw [List.drop_length, itmG, List.append_nil] at g5
          subst g5
          refine ⟨(), by first | rfl | omega | trivial | (refine ⟨?_, ?_⟩ <;> first | rfl | omega), frg⟩
      refine nrmL (k := ?_)
      repeat refine w1 (k := ?_)
      first | refine zA 7 (h := ?_) | refine zO 7 (h := ?_) | refine zL 7 (h := ?_) | refine zL3 7 (h := ?_)
      rw [show min i m.length = (m.take i).length by simp]
      refine nrm (k := ?_)
      repeat refine w1 (k := ?_)
      refine litA (slP itP) [m[i]] (h := ?_)
      repeat refine w1 (k := ?_)
      have hl2 : (m.take i).length = i := by simp; omega
      refine appA 55 24 (slP itP) (m.take i) [m[i]] (hb := by rw [hl2]; simp; omega) (hm := by rw [hl2]; simp; omega) (h := ?_)
      repeat refine w1 (k := ?_)
      rw [show m.take i ++ [m[i]] = m.take (i + 1) by rw [List.take_succ_eq_append_getElem him]]
      refine ⟨i + 1, by omega, by first | omega | (refine ⟨?_, ?_⟩ <;> omega), frg⟩
    ·
      repeat refine w1 (k := ?_)
      have : i = m.length := by omega
      subst this
      rw [List.take_length]
      exact ⟨[.c _], .cons (.tmp rfl) .nil, rfl, rfl⟩
  ·
    repeat refine w1 (k := ?_)
    have : i = m.length := by omega
    subst this
    rw [List.take_length]
    exact ⟨[.c _], .cons (.tmp rfl) .nil, rfl, rfl⟩
