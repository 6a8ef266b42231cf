/- MarksSame. -/
import Derived.Test.YtjfpddgldfaahaaDoorM14
set_option linter.all false
set_option maxHeartbeats 8000000
namespace Go.Proofs.Vl
open Go Go.RowKit
attribute [local irreducible] AWp OpTo Run DL Val UN DR AC Le thn inb nog
attribute [local irreducible] els nxO
theorem wth_bit (s : Nat) (n : Int) (j : Nat) : (wth s n).testBit j = (s.testBit j || (inB n && decide (n.toNat = j))) := by
  unfold wth
  cases h : inB n with
  | true => rw [if_pos rfl, Nat.testBit_or, Nat.testBit_two_pow]; rfl
  | false => simp
theorem ofL_bit (l : List Int) (j : Nat) : (ofL l).testBit j = l.any fun n => inB n && decide (n.toNat = j) := by
  unfold ofL
  suffices ∀ (l : List Int) s, (l.foldl wth s).testBit j = (s.testBit j || l.any fun n => inB n && decide (n.toNat = j)) by rw [this]; simp
  intro l
  induction l with
  | nil => intro s; simp
  | cons a l ih => intro s; rw [List.foldl_cons, ih, wth_bit, List.any_cons, Bool.or_assoc]
/-- Put from the last one on, twice each. -/
def dnL : List Int → Nat
  | [] => 0
  | x :: l => wth (wth (dnL l) x) x
theorem dnL_bit (l : List Int) (j : Nat) : (dnL l).testBit j = l.any fun n => inB n && decide (n.toNat = j) := by
  induction l with
  | nil => simp [dnL]
  | cons a l ih =>
    rw [dnL, wth_bit, wth_bit, ih, List.any_cons]
    cases (inB a && decide (a.toNat = j)) <;> simp
theorem dnL_ofL (l : List Int) : dnL l = ofL l := Nat.eq_of_testBit_eq fun j => by rw [dnL_bit, ofL_bit]
def lowL (l : List Int) : List Int := (l.take 40).map (· % 1024)
theorem lowL_len (l : List Int) : (lowL l).length = min 40 l.length := by simp [lowL]
theorem lowL_at (l : List Int) (i : Nat) (h1 : i < l.length) (h2 : i < 40) : (lowL l)[i]? = some (l[i] % 1024) := by
  simp [lowL, h1, h2]
theorem ofL_step (xs : List Int) (i : Nat) (x : Int) (h : xs[i]? = some x) : wth (ofL (xs.take i)) x = ofL (xs.take (i + 1)) := by
  obtain ⟨hi, rfl⟩ := List.getElem?_eq_some_iff.1 h
  rw [List.take_succ_eq_append_getElem hi]; unfold ofL; rw [List.foldl_append]; rfl
theorem dnL_step (xs : List Int) (i : Nat) (x : Int) (h : xs[i]? = some x) : wth (wth (dnL (xs.drop (i + 1))) x) x = dnL (xs.drop i) := by
  obtain ⟨hi, rfl⟩ := List.getElem?_eq_some_iff.1 h
  rw [List.drop_eq_getElem_cons hi]; rfl
theorem marksSame_ac (l : List Int) (hl : l.length ≤ maxLen) : AC Tryd.prog GL 3 [.c (.p (.fro (l.map (pvI .i64))))] [] (fun r _ => r = vb true) := by
  refine AC.body' Tryd.func3 Tryd.ntmps3 rfl ?_
  intro cx hd hG
  refine nrmL (k := ?_)
  repeat refine w1 (k := ?_)
  obtain ⟨w0, fz0, β0, df, G0⟩ := cx
  obtain rfl : G0 = GL := hG
  have hl2 := hl
  rw [maxLen] at hl2
  have hxl := lowL_len l
  refine callN (hc := by exact awake_ac) (h := ?_)
  repeat refine w1 (k := ?_)
  first | refine ofN (hv := by exact Val.build0) (h := ?_) | refine dlN (hv := by exact Val.build0) (h := ?_) | refine dlgN (hv := by exact Val.build0) (h := ?_) | refine ofN (hv := by exact Val.build0) (h := ?_)
  repeat refine w1 (k := ?_)
  first | refine ofN (hv := by exact Val.build0) (h := ?_) | refine dlN (hv := by exact Val.build0) (h := ?_) | refine dlgN (hv := by exact Val.build0) (h := ?_) | refine ofN (hv := by exact Val.build0) (h := ?_)
  repeat refine w1 (k := ?_)
  rw [show Ob.pcells 26 (setP 0) = .pcells 26 (setP (ofL ((lowL l).take 0))) by rw [List.take_zero]; rfl]
  refine cutIN [(6, 1)] (α := Unit) (fun u => []) (fun u => [(4, .pcells 26 (setP (ofL (lowL l)))), (5, .pcells 26 (setP (dnL ((lowL l).drop (lowL l).length))))]) (fun u => True) ?_ (fun u hI => ?_)
  ·
    refine loopN [(12, 17)] (α := Nat) (fun i => [(6, vi (i : Int))]) (fun i => [(4, .pcells 26 (setP (ofL ((lowL l).take i)))), (5, .pcells 26 (setP (ofL ((lowL l).take 0))))]) (fun i => 40 - i) (fun i => i ≤ (lowL l).length) (x0 := 0) (h0 := by first | omega | simp | (refine ⟨?_, ?_⟩ <;> first | omega | simp)) (hr := ?_)
    intro i hI
    refine nrmL (k := ?_)
    have ed : setP (ofL []) = setP (dnL ((lowL l).drop (lowL l).length)) := by rw [List.drop_length]; rfl
    repeat refine w1 (k := ?_)
    first | refine bothTN (h1 := fun h => ?_) (h0 := fun h => ?_) | refine bothFN (h1 := fun h => ?_) (h0 := fun h => ?_)
    all_goals repeat refine w1 (k := ?_)
    ·
      refine condN (h1 := fun h4 => ?_) (h0 := fun h4 => ?_)
      ·
        have hj : i < l.length := by omega
        repeat refine w1 (k := ?_)
        rw [and1023]
        have e1 := lowL_at l i hj (by omega)
        refine callN (hc := by exact with_ac _ (ofL ((lowL l).take i)) (l[i] % 1024)) (h := ?_)
        repeat refine w1 (k := ?_)
        rw [ofL_step _ _ _ e1]
        refine ⟨i + 1, by omega, by first | omega | (refine ⟨?_, ?_⟩ <;> omega), frg⟩
      ·
        repeat refine w1 (k := ?_)
        rw [ed, List.take_of_length_le (by omega)]
        refine ⟨(), by trivial, frg⟩
    ·
      repeat refine w1 (k := ?_)
      rw [ed, List.take_of_length_le (by omega)]
      refine ⟨(), by trivial, frg⟩
  ·
    refine nrmL (k := ?_)
    repeat refine w1 (k := ?_)
    rw [List.length_map, show ((if 40 < (l.length : Int) then 40 else (l.length : Int)) - 1) = ((lowL l).length : Int) - 1 by rw [hxl]; split <;> omega]
    refine loopN [(33, 17)] (α := Nat) (fun i => [(7, vi ((i : Int) - 1))]) (fun i => [(4, .pcells 26 (setP (ofL (lowL l)))), (5, .pcells 26 (setP (dnL ((lowL l).drop i))))]) (fun i => i) (fun i => i ≤ (lowL l).length) (x0 := (lowL l).length) (h0 := by first | omega | simp | (refine ⟨?_, ?_⟩ <;> first | omega | simp)) (hr := ?_)
    intro i hI
    refine nrmL (k := ?_)
    repeat refine w1 (k := ?_)
    refine condN (h1 := fun h => ?_) (h0 := fun h => ?_)
    ·
      obtain ⟨i, rfl⟩ : ∃ m, i = m + 1 := ⟨i - 1, by omega⟩
      rw [show ((i + 1 : Nat) : Int) - 1 = (i : Int) by omega]
      have hj : i < l.length := by omega
      repeat refine w1 (k := ?_)
      rw [and1023]
      have e1 := lowL_at l i hj (by omega)
      refine callN (hc := by exact with_ac _ (dnL ((lowL l).drop (i + 1))) (l[i] % 1024)) (h := ?_)
      repeat refine w1 (k := ?_)
      refine callN (hc := by exact with_ac _ (wth (dnL ((lowL l).drop (i + 1))) (l[i] % 1024)) (l[i] % 1024)) (h := ?_)
      repeat refine w1 (k := ?_)
      rw [dnL_step _ _ _ e1]
      refine ⟨i, by omega, by first | omega | (refine ⟨?_, ?_⟩ <;> omega), frg⟩
    ·
      repeat refine w1 (k := ?_)
      have : i = 0 := by omega
      subst this
      rw [List.drop_zero, dnL_ofL]
      have hs := ofL_lt (lowL l)
      generalize ofL (lowL l) = s at *
      repeat refine w1 (k := ?_)
      refine OpTo.insS Tryd.underlying28 rfl rfl rfl rfl rfl rfl rfl ?_
      refine nrm (k := ?_)
      repeat refine w1 (k := ?_)
      first | refine ofN (hv := by exact Val.eqS hs hs rfl rfl rfl rfl) (h := ?_) | refine dlN (hv := by exact Val.eqS hs hs rfl rfl rfl rfl) (h := ?_) | refine dlgN (hv := by exact Val.eqS hs hs rfl rfl rfl rfl) (h := ?_) | refine ofN (hv := by exact Val.eqS hs hs rfl rfl rfl rfl) (h := ?_)
      rw [decide_eq_true rfl]
      repeat refine w1 (k := ?_)
      first | refine ofN (hv := by exact Val.lkS hs Tryd.underlying28 rfl rfl rfl rfl rfl rfl) (h := ?_) | refine dlN (hv := by exact Val.lkS hs Tryd.underlying28 rfl rfl rfl rfl rfl rfl) (h := ?_) | refine dlgN (hv := by exact Val.lkS hs Tryd.underlying28 rfl rfl rfl rfl rfl rfl) (h := ?_) | refine ofN (hv := by exact Val.lkS hs Tryd.underlying28 rfl rfl rfl rfl rfl rfl) (h := ?_)
      repeat refine w1 (k := ?_)
      exact ⟨[.c _], .cons (.tmp rfl) .nil, rfl⟩
