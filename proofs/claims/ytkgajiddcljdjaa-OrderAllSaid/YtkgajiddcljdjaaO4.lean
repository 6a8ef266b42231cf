/- Chapter 18: orders that are made; tasks by an order. -/
import Derived.Test.YtkgajiddcljdjaaO3
set_option linter.all false
set_option maxRecDepth 2000
set_option maxHeartbeats 8000000
namespace Go.Proofs.Vl
open Go Go.RowKit
attribute [local irreducible] AWp OpTo Run DL Val UN DR AC Le thn inb nog
theorem made_ac (G) (n : Nat) (ts : List Int) (hn : n ≤ 20) (ht : ts.length ≤ maxLen) : AC Try.prog G 10 [vi (n : Int), fro (pvI .i64) ts] [] (fun r os => ∃ p : List Int, p.Perm (idL n) ∧ r = .c (.own 7 1 p.length) ∧ find os 7 = some (.row 3 1 (p.map (pvI .i64)))) := by
  refine AC.body' Try.func10 Try.ntmps10 rfl ?_
  intro cx hd hG
  refine nrmL (k := ?_)
  repeat refine w1 (k := ?_)
  obtain ⟨w0, fz0, β0, df, G0⟩ := cx
  obtain rfl : G0 = G := hG
  refine seedA 5 5 1 3 (h := ?_)
  refine loopN [(10, 9)] (α := Nat) (fun i => [(5, .c (.own 5 1 (idL i).length)), (6, vi (i : Int))]) (fun i => [(5, .row 3 1 ((idL i).map (pvI .i64)))]) (fun i => n - i) (fun i => i ≤ n) (x0 := 0) (h0 := by first | omega | simp | (refine ⟨?_, ?_⟩ <;> first | omega | simp)) (hr := ?_)
  intro i hI
  refine nrmL (k := ?_)
  repeat refine w1 (k := ?_)
  refine condN (h1 := fun h => ?_) (h0 := fun h => ?_)
  ·
    have hl := idL_len i
    repeat refine w1 (k := ?_)
    refine litA (pvI .i64) [(i : Int)] (h := ?_)
    repeat refine w1 (k := ?_)
    refine appA 5 8 (pvI .i64) (idL i) [(i : Int)] (hb := by rw [hl]; simp; omega) (hm := by rw [hl]; simp; omega) (h := ?_)
    repeat refine w1 (k := ?_)
    rw [show idL i ++ [(i : Int)] = idL (i + 1) by unfold idL; rw [List.range_succ, List.map_append]; rfl]
    refine ⟨i + 1, by omega, by first | omega | (refine ⟨?_, ?_⟩ <;> omega), frg⟩
  ·
    repeat refine w1 (k := ?_)
    have : i = n := by omega
    subst this
    first | refine zA 5 (h := ?_) | refine zO 5 (h := ?_) | refine zL 5 (h := ?_) | refine zL3 5 (h := ?_)
    repeat refine w1 (k := ?_)
    refine seedA 7 7 1 3 (h := ?_)
    refine loopN [(9, 1), (19, 39)] (α := Nat × List Int × List Int) (fun y => [(5, fro (pvI .i64) y.2.1), (7, .c (.own 7 1 y.2.2.length)), (8, vi (y.1 : Int))]) (fun y => [(7, .row 3 1 (y.2.2.map (pvI .i64)))]) (fun y => i - y.1) (fun y => y.2.1.length + y.1 = i ∧ (y.2.2 ++ y.2.1).Perm (idL i) ∧ y.2.2.length = y.1) (x0 := (0, idL i, [])) (h0 := by exact ⟨by simp [idL_len], by simp, rfl⟩) (hr := ?_)
    intro y hI
    refine nrmL (k := ?_)
    obtain ⟨j, L, O⟩ := y
    obtain ⟨h1, h2, h3⟩ := hI
    dsimp only at h1 h2 h3
    repeat refine w1 (k := ?_)
    refine condN (h1 := fun hj => ?_) (h0 := fun hj => ?_)
    ·
      have hL : 0 < L.length := by omega
      have hL2 : L.length ≤ 20 := by omega
      repeat refine w1 (k := ?_)
      refine cutNN [(24, 17)] (α := Nat) (fun k => [(9, vi (k : Int))]) (fun k => [(7, .row 3 1 (O.map (pvI .i64)))]) (fun k => k < L.length) ?_ (fun k hI => ?_)
      ·
        refine condN (h1 := fun h4 => ?_) (h0 := fun h4 => ?_)
        ·
          have h5 : j < ts.length := by omega
          repeat refine w1 (k := ?_)
          simp only [List.length_map]
          first | refine ofN (hv := by exact Val.rem rfl rfl rfl rfl (by omega)) (h := ?_) | refine dlN (hv := by exact Val.rem rfl rfl rfl rfl (by omega)) (h := ?_) | refine dlgN (hv := by exact Val.rem rfl rfl rfl rfl (by omega)) (h := ?_) | refine ofN (hv := by exact Val.rem rfl rfl rfl rfl (by omega)) (h := ?_)
          repeat refine w1 (k := ?_)
          simp only [List.length_map]
          first | refine ofN (hv := by exact Val.rem rfl rfl rfl rfl (by omega)) (h := ?_) | refine dlN (hv := by exact Val.rem rfl rfl rfl rfl (by omega)) (h := ?_) | refine dlgN (hv := by exact Val.rem rfl rfl rfl rfl (by omega)) (h := ?_) | refine ofN (hv := by exact Val.rem rfl rfl rfl rfl (by omega)) (h := ?_)
          rw [rest_w ts[j] L.length (by omega) (by omega)]
          have g1 := Int.emod_nonneg ts[j] (show (L.length : Int) ≠ 0 by omega)
          have g2 := Int.emod_lt_of_pos ts[j] (show (0 : Int) < L.length by omega)
          obtain ⟨k, hk⟩ := Int.eq_ofNat_of_zero_le g1
          rw [hk]
          repeat refine w1 (k := ?_)
          refine ⟨k, by first | rfl | omega | trivial | (refine ⟨?_, ?_⟩ <;> first | rfl | omega), frg⟩
        ·
          repeat refine w1 (k := ?_)
          refine ⟨0, by first | rfl | omega | trivial | (refine ⟨?_, ?_⟩ <;> first | rfl | omega), frg⟩
      rename_i k
      refine nrmL (k := ?_)
      repeat refine w1 (k := ?_)
      refine litA (pvI .i64) [L[k]] (h := ?_)
      repeat refine w1 (k := ?_)
      refine appA 7 8 (pvI .i64) O [L[k]] (hb := by simp; omega) (hm := by simp; omega) (h := ?_)
      obtain ⟨O', hO⟩ : ∃ O', O' = O ++ [L[k]] := ⟨_, rfl⟩
      rw [← hO]
      repeat refine w1 (k := ?_)
      refine DL.takeT 1 rfl (by decide +kernel) rfl (Val.move rfl) ?_
      refine nrm (k := ?_)
      refine DL.takeT 1 rfl (by decide +kernel) rfl (Val.move rfl) ?_
      refine nrm (k := ?_)
      refine DL.takeT 1 rfl (by decide +kernel) rfl (Val.cutN (f := pvI .i64) (l := L) (a := 0) (b := k) rfl rfl rfl Bnd.no (Bnd.at (v := (k : Int)) (k := .i64) rfl rfl (by omega)) (by omega) (by omega) (fun _ => rfl)) ?_
      refine nrm (k := ?_)
      refine DL.takeT 2 rfl (by decide +kernel) rfl (Val.move rfl) ?_
      refine nrm (k := ?_)
      refine DL.takeT 2 rfl (by decide +kernel) rfl (Val.move rfl) ?_
      refine nrm (k := ?_)
      refine DL.takeT 2 rfl (by decide +kernel) rfl (Val.addI rfl rfl rfl rfl ⟨by omega, by omega⟩) ?_
      refine nrm (k := ?_)
      refine DL.takeT 2 rfl (by decide +kernel) rfl (Val.cutN (f := pvI .i64) (l := L) (a := k + 1) (b := L.length) rfl rfl rfl (Bnd.at (v := (k : Int) + 1) (k := .i64) rfl rfl (by omega)) (.inl ⟨rfl, by simp⟩) (by omega) (by omega) (fun _ => rfl)) ?_
      refine nrm (k := ?_)
      repeat refine w1 (k := ?_)
      refine litA (pvI .i64) [] (h := ?_)
      repeat refine w1 (k := ?_)
      refine appA 48 8 (pvI .i64) [] (L.take k) (hb := by simp; omega) (hm := by simp; omega) (h := ?_)
      repeat refine w1 (k := ?_)
      refine appA 48 8 (pvI .i64) ([] ++ L.take k) ((L.take L.length).drop (k + 1)) (hb := by simp; omega) (hm := by simp; omega) (h := ?_)
      repeat refine w1 (k := ?_)
      first | refine zA 48 (h := ?_) | refine zO 48 (h := ?_) | refine zL 48 (h := ?_) | refine zL3 48 (h := ?_)
      simp only [show ((7 : Nat) == 48) = false from rfl, show ((46 : Nat) == 48) = false from rfl, cond_false]
      have e1 : (L.take k ++ (L.take L.length).drop (k + 1)).length + (j + 1) = i := by simp; omega
      have e2 : (O' ++ (L.take k ++ (L.take L.length).drop (k + 1))).Perm (idL i) := by
        rw [hO]
        refine List.Perm.trans ?_ h2
        rw [List.take_length, List.append_assoc]
        refine List.Perm.append_left O ?_
        have : L.take k ++ L[k] :: L.drop (k + 1) = L := by rw [← List.drop_eq_getElem_cons hI, List.take_append_drop]
        refine List.Perm.trans ?_ (List.Perm.of_eq this)
        exact (List.perm_middle (l₁ := L.take k)).symm
      refine ⟨(j + 1, L.take k ++ (L.take L.length).drop (k + 1), O'), by omega, by exact ⟨e1, e2, by simp [hO, h3]⟩, frg⟩
    ·
      repeat refine w1 (k := ?_)
      have : L = [] := List.eq_nil_of_length_eq_zero (by omega)
      subst this
      exact ⟨[.c _], .cons (.tmp rfl) .nil, O, by simpa using h2, rfl, rfl⟩
