/- TaskMany answers true. -/
import Derived.Test.YtcheokfoilcdoaaK15
set_option linter.all false
set_option maxHeartbeats 8000000
namespace Go.Proofs.Vl
open Go Go.RowKit
attribute [local irreducible] AWp OpTo Run DL Val UN DR AC Le thn inb nog
theorem max_n (a b : Nat) : (if (b : Int) > (a : Int) then (b : Int) else (a : Int)) = ((max a b : Nat) : Int) := by split <;> omega
theorem min_n (a b : Nat) : (if (b : Int) < (a : Int) then (b : Int) else (a : Int)) = ((min a b : Nat) : Int) := by split <;> omega
theorem many_nm (n : Nat) : ∀ t ∈ many n, t.nm.size ≤ maxLen := by
  intro t h
  obtain ⟨i, hi, rfl⟩ := List.getElem_of_mem h
  rw [many_at, mkM_size]; decide
theorem range_snoc (n j : Nat) : (List.range j).map (mkM n) ++ [mkM n j] = (List.range (j + 1)).map (mkM n) := by rw [List.range_succ, List.map_append]; rfl
theorem many_ac (G) (mn q0 q1 q2 : Int) : AC Try.prog G 6 [vi mn, .pag [.s (.int .i64 q0), .s (.int .i64 q1), .s (.int .i64 q2)]] [] (fun r _ => r = vb true) := by
  refine AC.body' Try.func6 Try.ntmps6 rfl ?_
  intro cx hd hG
  refine nrmL (k := ?_)
  repeat refine w1 (k := ?_)
  refine callN (hc := by exact awake_ac _) (h := ?_)
  repeat refine w1 (k := ?_)
  have m0 := Int.emod_nonneg mn (show (11 : Int) ≠ 0 by decide)
  have m1 := Int.emod_lt_of_pos mn (show (0 : Int) < 11 by decide)
  refine callN (hc := by exact rest_ac _ mn 11 (by decide) (by decide)) (h := ?_)
  repeat refine w1 (k := ?_)
  obtain ⟨n, hn⟩ : ∃ n : Nat, (n : Int) = 1020 + mn % 11 := ⟨(1020 + mn % 11).toNat, by omega⟩
  rw [← hn]
  have hn1 : 1020 ≤ n ∧ n ≤ 1030 := by omega
  refine seedA 7 46 7 26 (h := ?_)
  refine loopN [(19, 28)] (α := Nat) (fun j => [(7, .c (.own 46 7 ((List.range j).map (mkM n)).length)), (8, vi j)]) (fun j => [(3, .pcells 39 [.s (.int .i64 q0), .s (.int .i64 q1), .s (.int .i64 q2)]), (46, .row 26 7 (((List.range j).map (mkM n)).map tkP))]) (fun j => n - j) (fun j => j ≤ n) (x0 := 0) (h0 := by first | omega | simp | (refine ⟨?_, ?_⟩ <;> first | omega | simp)) (hr := ?_)
  intro j hI
  refine nrmL (k := ?_)
  repeat refine w1 (k := ?_)
  refine condN (h1 := fun h => ?_) (h0 := fun h => ?_)
  ·
    repeat refine w1 (k := ?_)
    refine litA (pvI .u8) [97 + (j : Int) % 26, 97 + (j : Int) / 26 % 26, 97 + (j : Int) / 676] (h := ?_)
    repeat refine w1 (k := ?_)
    first | refine ofN (hv := by exact Val.convBS (l := [97 + (j : Int) % 26, 97 + (j : Int) / 26 % 26, 97 + (j : Int) / 676]) rfl rfl rfl (by simp)) (h := ?_) | refine dlN (hv := by exact Val.convBS (l := [97 + (j : Int) % 26, 97 + (j : Int) / 26 % 26, 97 + (j : Int) / 676]) rfl rfl rfl (by simp)) (h := ?_) | refine dlgN (hv := by exact Val.convBS (l := [97 + (j : Int) % 26, 97 + (j : Int) / 26 % 26, 97 + (j : Int) / 676]) rfl rfl rfl (by simp)) (h := ?_) | refine ofN (hv := by exact Val.convBS (l := [97 + (j : Int) % 26, 97 + (j : Int) / 26 % 26, 97 + (j : Int) / 676]) rfl rfl rfl (by simp)) (h := ?_)
    repeat refine w1 (k := ?_)
    first | refine ofN (hv := by exact Val.strAdd rfl rfl rfl rfl (by rw [bsOf_size]; show 1 + 3 ≤ _; omega)) (h := ?_) | refine dlN (hv := by exact Val.strAdd rfl rfl rfl rfl (by rw [bsOf_size]; show 1 + 3 ≤ _; omega)) (h := ?_) | refine dlgN (hv := by exact Val.strAdd rfl rfl rfl rfl (by rw [bsOf_size]; show 1 + 3 ≤ _; omega)) (h := ?_) | refine ofN (hv := by exact Val.strAdd rfl rfl rfl rfl (by rw [bsOf_size]; show 1 + 3 ≤ _; omega)) (h := ?_)
    rw [show (⟨#[110]⟩ : ByteArray) ++ bsOf [97 + (j : Int) % 26, 97 + (j : Int) / 26 % 26, 97 + (j : Int) / 676] = (mkM n j).nm from bsOf_app [110] _]
    repeat refine w1 (k := ?_)
    refine litA tkP [mkM n j] (h := ?_)
    repeat refine w1 (k := ?_)
    have hlj : ((List.range j).map (mkM n)).length = j := by simp
    refine appA 46 64 tkP ((List.range j).map (mkM n)) [mkM n j] (hb := by rw [hlj]; simp; omega) (hm := by rw [hlj]; simp; omega) (h := ?_)
    rw [range_snoc]
    repeat refine w1 (k := ?_)
    refine ⟨j + 1, by omega, by first | omega | (refine ⟨?_, ?_⟩ <;> omega), frg⟩
  ·
    have : j = n := by omega
    subst this
    repeat refine w1 (k := ?_)
    refine callN (args := [fro tkP (many j)]) (ha := by simp [St.op, gt, Vl.frz, elems, find, many]) (hc := by exact all_ac _ (many j) (many_nm j) (by rw [many_len]; simp [maxLen]; omega)) (h := ?_)
    repeat refine w1 (k := ?_)
    refine condN (h1 := fun hb => ?_) (h0 := fun hb => ?_)
    ·
      rw [many_big j (by omega)]
      repeat refine w1 (k := ?_)
      refine ⟨[.c _], .cons (.tmp rfl) .nil, ?_⟩
      rfl
    ·
      rw [many_fine j (by omega) (by omega)]
      repeat refine w1 (k := ?_)
      obtain ⟨a, ha⟩ : ∃ a : Nat, (a : Int) = q0 % j := ⟨(q0 % j).toNat, by have := Int.emod_nonneg q0 (show (j : Int) ≠ 0 by omega); omega⟩
      obtain ⟨b, hbb⟩ : ∃ b : Nat, (b : Int) = q1 % j := ⟨(q1 % j).toNat, by have := Int.emod_nonneg q1 (show (j : Int) ≠ 0 by omega); omega⟩
      have ha1 : a < j := by have := Int.emod_lt_of_pos q0 (show (0 : Int) < j by omega); omega
      have hb1 : b < j := by have := Int.emod_lt_of_pos q1 (show (0 : Int) < j by omega); omega
      refine callN (hc := by exact rest_ac _ q0 j (by omega) (by omega)) (h := ?_)
      repeat refine w1 (k := ?_)
      rw [← ha]
      refine callN (hc := by exact rest_ac _ q1 j (by omega) (by omega)) (h := ?_)
      repeat refine w1 (k := ?_)
      rw [← hbb]
      rw [show (List.range j).map (mkM j) = many j from rfl, many_len]
      have hM : max a b < (many j).length := by rw [many_len]; omega
      have hm : min a b < (many j).length := by rw [many_len]; omega
      have hset : ∀ t : Tk, (t = { mkM j (max a b) with nm := (mkM j (min a b)).nm } ∨ t = { mkM j (max a b) with p := (mkM j (min a b)).p }) → ((many j).set (max a b) t).length = j ∧ (∀ u ∈ (many j).set (max a b) t, u.nm.size ≤ maxLen) ∧ allI ((many j).set (max a b) t) = if a = b then ((j : Int), 0) else (((max a b : Nat) : Int), 13) := by
        intro t ht
        refine ⟨by simp [many], ?_, ?_⟩
        · intro u hu
          rcases List.mem_or_eq_of_mem_set hu with hu | rfl
          · exact many_nm j u hu
          · rcases ht with rfl | rfl
            · show (mkM j (min a b)).nm.size ≤ maxLen; rw [mkM_size]; decide
            · show (mkM j (max a b)).nm.size ≤ maxLen; rw [mkM_size]; decide
        · by_cases e : a = b
          · subst e
            rw [if_pos rfl]
            have : t = (many j)[max a a] := by
              rw [many_at]
              rcases ht with rfl | rfl <;> simp
            rw [this, List.set_getElem_self, many_fine j (by omega) (by omega)]
          · rw [if_neg e]
            exact many_dup j (max a b) (min a b) (by omega) (by omega) (by omega) t ht
      refine cutNN [(48, 1), (75, 26)] (α := List Tk) (fun l' => []) (fun l' => [(3, .pcells 39 [.s (.int .i64 q0), .s (.int .i64 q1), .s (.int .i64 q2)]), (46, .row 26 7 (l'.map tkP))]) (fun l' => l'.length = j ∧ (∀ t ∈ l', t.nm.size ≤ maxLen) ∧ allI l' = if a = b then ((j : Int), 0) else (((max a b : Nat) : Int), 13)) ?_ (fun l' hI => ?_)
      ·
        refine condN (h1 := fun hq => ?_) (h0 := fun hq => ?_)
        ·
          repeat refine w1 (k := ?_)
          rw [max_n, min_n]
          repeat refine w1 (k := ?_)
          first | refine ofN (hv := by exact Val.ldR (f := tkP) (l := many j) (.s (.string (many j)[min a b].nm)) rfl rfl rfl rfl hm rfl) (h := ?_) | refine dlN (hv := by exact Val.ldR (f := tkP) (l := many j) (.s (.string (many j)[min a b].nm)) rfl rfl rfl rfl hm rfl) (h := ?_) | refine dlgN (hv := by exact Val.ldR (f := tkP) (l := many j) (.s (.string (many j)[min a b].nm)) rfl rfl rfl rfl hm rfl) (h := ?_) | refine ofN (hv := by exact Val.ldR (f := tkP) (l := many j) (.s (.string (many j)[min a b].nm)) rfl rfl rfl rfl hm rfl) (h := ?_)
          repeat refine w1 (k := ?_)
          refine stA (({ (many j)[max a b] with nm := (many j)[min a b].nm } : Tk)) (by exact hM) (h := ?_)
          repeat refine w1 (k := ?_)
          refine ⟨(many j).set (max a b) ({ (many j)[max a b] with nm := (many j)[min a b].nm } : Tk), by exact hset _ (.inl (by rw [many_at, many_at])), frg⟩
        ·
          repeat refine w1 (k := ?_)
          rw [max_n, min_n]
          repeat refine w1 (k := ?_)
          first | refine ofN (hv := by exact Val.ldR (f := tkP) (l := many j) (.s (.int .i64 (many j)[min a b].p)) rfl rfl rfl rfl hm rfl) (h := ?_) | refine dlN (hv := by exact Val.ldR (f := tkP) (l := many j) (.s (.int .i64 (many j)[min a b].p)) rfl rfl rfl rfl hm rfl) (h := ?_) | refine dlgN (hv := by exact Val.ldR (f := tkP) (l := many j) (.s (.int .i64 (many j)[min a b].p)) rfl rfl rfl rfl hm rfl) (h := ?_) | refine ofN (hv := by exact Val.ldR (f := tkP) (l := many j) (.s (.int .i64 (many j)[min a b].p)) rfl rfl rfl rfl hm rfl) (h := ?_)
          repeat refine w1 (k := ?_)
          refine stA (({ (many j)[max a b] with p := (many j)[min a b].p } : Tk)) (by exact hM) (h := ?_)
          repeat refine w1 (k := ?_)
          refine ⟨(many j).set (max a b) ({ (many j)[max a b] with p := (many j)[min a b].p } : Tk), by exact hset _ (.inr (by rw [many_at, many_at])), frg⟩
      refine nrmL (k := ?_)
      obtain ⟨l1, l2, l3⟩ := hI
      repeat refine w1 (k := ?_)
      refine callN (args := [fro tkP l']) (ha := by simp [St.op, gt, Vl.frz, elems, find, l1]) (hc := by exact all_ac _ l' l2 (by rw [l1]; simp [maxLen]; omega)) (h := ?_)
      rw [l3]
      repeat refine w1 (k := ?_)
      refine condN (h1 := fun e => ?_) (h0 := fun e => ?_)
      ·
        have e' : a = b := by omega
        rw [if_pos e']
        repeat refine w1 (k := ?_)
        simp only [beq_self_eq_true, cond_true]
        repeat refine w1 (k := ?_)
        refine ⟨[.c _], .cons (.tmp rfl) .nil, ?_⟩
        simp only [tupOf, TV.av, beq_self_eq_true]
      ·
        have e' : ¬ a = b := by omega
        rw [if_neg e']
        repeat refine w1 (k := ?_)
        simp only [beq_self_eq_true, cond_true]
        repeat refine w1 (k := ?_)
        refine ⟨[.c _], .cons (.tmp rfl) .nil, ?_⟩
        rw [max_n]
        simp only [tupOf, TV.av, beq_self_eq_true]
theorem many_top (mn : Int) (q : List Int) (hq : IntsOk 3 q) : AC Try.prog (fun _ => none) 6 [vi mn, .pag (intsP q)] [] (fun r _ => r = vb true) := by
  obtain ⟨a, b, c, rfl⟩ := three_ hq.1
  exact many_ac _ mn a b c
end Go.Proofs.Vl
