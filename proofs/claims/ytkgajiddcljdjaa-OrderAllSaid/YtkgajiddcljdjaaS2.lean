/- slices.SortStableFunc of rows of numbers, below 20 of them. -/
import Derived.Test.YtkgajiddcljdjaaS1
import Derived.Test.YtkgajiddcljdjaaProg
set_option linter.all false
set_option maxRecDepth 2000
set_option maxHeartbeats 8000000
namespace Go.Proofs.Vl
open Go Go.RowKit
attribute [local irreducible] AWp OpTo Run DL Val UN DR AC Le thn inb nog
def SK : Nat := 3000007
theorem inser_ac (G) (f : Nat) (hf : isFn Try.prog f = true) (cs : List PV) (c : Int → Int → Int) (l : List Int) (hn : l.length ≤ 1000) (hc : ∀ x ∈ l, ∀ y ∈ l, AC Try.prog G f [vi x, vi y, .c (.eptr cs)] [] (fun r _ => r = vi (c x y))) :
    AC Try.prog G 42 [.c (.own 3000007 1 l.length), vi 0, vi (l.length : Int), .c (.fn f [.fz cs])] [(3000007, .row 3 1 (l.map (pvI .i64)))] (fun r os' => r = .tup [] ∧ os' = [(3000007, .row 3 1 ((sortL c l).map (pvI .i64)))]) := by
  refine AC.body' Try.func42 Try.ntmps42 rfl ?_
  intro cx hd hG
  refine nrmL (k := ?_)
  repeat refine w1 (k := ?_)
  obtain ⟨w0, fz0, β0, df, G0⟩ := cx
  obtain rfl : G0 = G := hG
  by_cases h0 : l.length ≤ 1
  ·
    have e : sortL c l = l := by
      match l, h0 with
      | [], _ => rfl
      | [a], _ => rfl
    refine loopN [(9, 1), (12, 41)] (α := Unit) (fun u => [(8, vi 1)]) (fun u => [(3000007, .row 3 1 (l.map (pvI .i64)))]) (fun u => 0) (fun u => True) (x0 := ()) (h0 := by first | omega | simp | (refine ⟨?_, ?_⟩ <;> first | omega | simp)) (hr := ?_)
    intro u hI
    refine nrmL (k := ?_)
    repeat refine w1 (k := ?_)
    rw [e]
    exact ⟨[], .nil, rfl, rfl⟩
  ·
    have e0 : l = (sortR c (l.take 1)).reverse ++ l.drop 1 := by
      cases l with
      | nil => simp at h0
      | cons a l => rfl
    rw [show Ob.row 3 1 (l.map (pvI .i64)) = .row 3 1 (((sortR c (l.take 1)).reverse ++ l.drop 1).map (pvI .i64)) by rw [← e0]]
    refine loopN [(9, 1), (12, 41)] (α := Nat) (fun i => [(8, vi (i : Int))]) (fun i => [(3000007, .row 3 1 (((sortR c (l.take i)).reverse ++ l.drop i).map (pvI .i64)))]) (fun i => l.length - i) (fun i => 1 ≤ i ∧ i ≤ l.length) (x0 := 1) (h0 := by first | omega | simp | (refine ⟨?_, ?_⟩ <;> first | omega | simp)) (hr := ?_)
    intro i hI
    refine nrmL (k := ?_)
    repeat refine w1 (k := ?_)
    refine condN (h1 := fun h => ?_) (h0 := fun h => ?_)
    ·
      have hi : i < l.length := by omega
      obtain ⟨x, hx⟩ : ∃ x, x = l[i] := ⟨_, rfl⟩
      have hxl : x ∈ l := by rw [hx]; exact List.getElem_mem hi
      have hsn : sortR c (l.take (i + 1)) = insR c x (sortR c (l.take i)) := by rw [List.take_succ_eq_append_getElem hi, sortR_snoc, hx]
      have hlen := sortR_len c (l.take i)
      have hil : (l.take i).length = i := by simp; omega
      repeat refine w1 (k := ?_)
      rw [show (sortR c (l.take i)).reverse ++ l.drop i = (sortR c (l.take i)).reverse ++ x :: (([] : List Int).reverse ++ l.drop (i + 1)) by rw [List.drop_eq_getElem_cons hi, hx]; rfl]
      refine loopN [(18, 35)] (α := Nat × List Int × List Int) (fun y => [(9, vi (y.1 : Int))]) (fun y => [(3000007, .row 3 1 ((y.2.1.reverse ++ x :: (y.2.2.reverse ++ l.drop (i + 1))).map (pvI .i64)))]) (fun y => y.1) (fun y => y.2.2 ++ insR c x y.2.1 = sortR c (l.take (i + 1)) ∧ (∀ z ∈ y.2.1, z ∈ l) ∧ y.2.1.length + y.2.2.length = i ∧ y.2.1.length = y.1) (x0 := (i, sortR c (l.take i), [])) (h0 := by exact ⟨by rw [hsn]; rfl, fun z hz => List.mem_of_mem_take ((sortR_perm c (l.take i)).mem_iff.1 hz), by simp; omega, by simp; omega⟩) (hr := ?_)
      intro y hI
      refine nrmL (k := ?_)
      obtain ⟨j, A, B⟩ := y
      dsimp only at hI ⊢
      obtain ⟨i1, i2, i3, i4⟩ := hI
      cases A with
      | nil =>
        obtain rfl : j = 0 := by simpa using i4.symm
        repeat refine w1 (k := ?_)
        rw [show ([] : List Int).reverse ++ x :: (B.reverse ++ l.drop (i + 1)) = (sortR c (l.take (i + 1))).reverse ++ l.drop (i + 1) by rw [← i1]; simp [insR]]
        refine ⟨i + 1, by omega, by first | omega | (refine ⟨?_, ?_⟩ <;> omega), frg⟩
      | cons b A =>
        have hb := i2 b List.mem_cons_self
        rw [show (b :: A).reverse ++ x :: (B.reverse ++ l.drop (i + 1)) = A.reverse ++ b :: x :: (B.reverse ++ l.drop (i + 1)) by simp]
        have l1 : (A.reverse ++ b :: x :: (B.reverse ++ l.drop (i + 1))).length = l.length := by simp at i3 ⊢; omega
        obtain ⟨j0, hj0⟩ : ∃ j0, j0 = A.reverse.length := ⟨_, rfl⟩
        obtain rfl : j = j0 + 1 := by simp at i4 hj0; omega
        have m0 := at_0 A.reverse (B.reverse ++ l.drop (i + 1)) b x
        have m1 := at_1 A.reverse (B.reverse ++ l.drop (i + 1)) b x
        have sw := swap_at A.reverse (B.reverse ++ l.drop (i + 1)) b x
        have l2 : j0 + 1 < l.length := by simp at i3 hj0; omega
        rw [← hj0] at m0 m1 sw
        generalize hM : A.reverse ++ b :: x :: (B.reverse ++ l.drop (i + 1)) = M at *
        have hj1 : j0 + 1 < M.length := by omega
        have hj2 : j0 < M.length := by omega
        have g1 : (pvI .i64 M[j0 + 1])[0]? = some (.s (.int .i64 x)) := by rw [(List.getElem?_eq_some_iff.1 m1).2]; rfl
        have g0 : (pvI .i64 M[j0])[0]? = some (.s (.int .i64 b)) := by rw [(List.getElem?_eq_some_iff.1 m0).2]; rfl
        repeat refine w1 (k := ?_)
        rw [show decide (((j0 + 1 : Nat) : Int) > 0) = true from decide_eq_true (by omega)]
        repeat refine w1 (k := ?_)
        first | refine ofN (hv := by exact Val.ldR (j := j0 + 1) (c := 0) (.s (.int .i64 x)) rfl rfl rfl rfl hj1 g1) (h := ?_) | refine dlN (hv := by exact Val.ldR (j := j0 + 1) (c := 0) (.s (.int .i64 x)) rfl rfl rfl rfl hj1 g1) (h := ?_) | refine dlgN (hv := by exact Val.ldR (j := j0 + 1) (c := 0) (.s (.int .i64 x)) rfl rfl rfl rfl hj1 g1) (h := ?_) | refine ofN (hv := by exact Val.ldR (j := j0 + 1) (c := 0) (.s (.int .i64 x)) rfl rfl rfl rfl hj1 g1) (h := ?_)
        repeat refine w1 (k := ?_)
        rw [show ((j0 + 1 : Nat) : Int) - 1 = (j0 : Int) by omega]
        repeat refine w1 (k := ?_)
        first | refine ofN (hv := by exact Val.ldR (j := j0) (c := 0) (.s (.int .i64 b)) rfl rfl rfl rfl hj2 g0) (h := ?_) | refine dlN (hv := by exact Val.ldR (j := j0) (c := 0) (.s (.int .i64 b)) rfl rfl rfl rfl hj2 g0) (h := ?_) | refine dlgN (hv := by exact Val.ldR (j := j0) (c := 0) (.s (.int .i64 b)) rfl rfl rfl rfl hj2 g0) (h := ?_) | refine ofN (hv := by exact Val.ldR (j := j0) (c := 0) (.s (.int .i64 b)) rfl rfl rfl rfl hj2 g0) (h := ?_)
        repeat refine w1 (k := ?_)
        refine callCN (hf := hf) (hc := by exact hc x hxl b hb) (h := ?_)
        refine nrm (k := ?_)
        repeat refine w1 (k := ?_)
        refine condN (h1 := fun h5 => ?_) (h0 := fun h5 => ?_)
        ·
          repeat refine w1 (k := ?_)
          refine DL.takeT 0 rfl (by decide +kernel) rfl (Val.move rfl) ?_
          refine nrm (k := ?_)
          refine DL.takeT 0 rfl (by decide +kernel) rfl (Val.move rfl) ?_
          refine nrm (k := ?_)
          refine DL.takeT 0 rfl (by decide +kernel) rfl (Val.subI rfl rfl rfl rfl ⟨by omega, by omega⟩) ?_
          refine nrm (k := ?_)
          rw [show ((j0 + 1 : Nat) : Int) - 1 = (j0 : Int) by omega]
          refine DL.takeT 0 rfl (by decide +kernel) rfl (Val.subI rfl rfl rfl rfl ⟨by omega, by omega⟩) ?_
          refine nrm (k := ?_)
          rw [show ((j0 + 1 : Nat) : Int) - 1 = (j0 : Int) by omega]
          refine DL.takeT 0 rfl (by decide +kernel) rfl (Val.ixON rfl rfl rfl rfl rfl (by omega)) ?_
          refine nrm (k := ?_)
          refine DL.takeT 0 rfl (by decide +kernel) rfl (Val.ldR (j := j0) (c := 0) (.s (.int .i64 b)) rfl rfl rfl rfl hj2 g0) ?_
          refine nrm (k := ?_)
          refine DL.takeT 0 rfl (by decide +kernel) rfl (Val.move rfl) ?_
          refine nrm (k := ?_)
          refine DL.takeT 0 rfl (by decide +kernel) rfl (Val.move rfl) ?_
          refine nrm (k := ?_)
          refine DL.takeT 0 rfl (by decide +kernel) rfl (Val.ixON rfl rfl rfl rfl rfl (by omega)) ?_
          refine nrm (k := ?_)
          refine DL.takeT 0 rfl (by decide +kernel) rfl (Val.ldR (j := j0 + 1) (c := 0) (.s (.int .i64 x)) rfl rfl rfl rfl hj1 g1) ?_
          refine nrm (k := ?_)
          refine DL.takeT 0 rfl (by decide +kernel) rfl (Val.ixON rfl rfl rfl rfl rfl (by omega)) ?_
          refine nrm (k := ?_)
          repeat refine w1 (k := ?_)
          refine OpTo.stRN (sz := 1) (j := j0 + 1) (c := 0) (f := pvI .i64) (l := M) b rfl rfl rfl hj1 rfl rfl (by kernel_rfl) (Nat.le_refl _) rfl ?_
          refine nrm (k := ?_)
          repeat refine w1 (k := ?_)
          refine OpTo.stRN (sz := 1) (j := j0) (c := 0) (f := pvI .i64) (l := M.set (j0 + 1) b) x rfl rfl rfl (by rw [List.length_set]; exact hj2) rfl rfl (by kernel_rfl) (Nat.le_refl _) rfl ?_
          refine nrm (k := ?_)
          rw [sw]
          repeat refine w1 (k := ?_)
          rw [show ((j0 + 1 : Nat) : Int) - 1 = (j0 : Int) by omega]
          have e : B ++ b :: insR c x A = sortR c (l.take (i + 1)) := by rw [← i1, insR, if_pos h5]
          rw [show A.reverse ++ x :: b :: (B.reverse ++ l.drop (i + 1)) = A.reverse ++ x :: ((B ++ [b]).reverse ++ l.drop (i + 1)) by simp]
          refine ⟨(j0, A, B ++ [b]), by omega, by exact ⟨by dsimp only; rw [← e]; simp, fun z hz => i2 z (List.mem_cons_of_mem _ hz), by simp at i3 ⊢; omega, by simp at hj0 ⊢; omega⟩, frg⟩
        ·
          repeat refine w1 (k := ?_)
          have e : (sortR c (l.take (i + 1))).reverse ++ l.drop (i + 1) = M := by
            rw [← i1, insR, if_neg (by omega), ← hM]; simp
          rw [← e]
          refine ⟨i + 1, by omega, by first | omega | (refine ⟨?_, ?_⟩ <;> omega), frg⟩
    ·
      repeat refine w1 (k := ?_)
      have : i = l.length := by omega
      subst this
      rw [List.take_length, List.drop_length, List.append_nil]
      exact ⟨[], .nil, rfl, rfl⟩
