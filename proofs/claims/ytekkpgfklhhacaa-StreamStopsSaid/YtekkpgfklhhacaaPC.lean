/- StreamSorted. -/
import Derived.Test.YtekkpgfklhhacaaPB
set_option linter.all false
set_option maxRecDepth 2000
set_option maxHeartbeats 8000000
namespace Go.Proofs.Vl
open Go Go.RowKit
attribute [local irreducible] AWp OpTo Run DL Val UN DR AC Le thn inb nog
theorem opSl : Opens Try.prog 40 (slP (pvI .i64)) (fun l => l.length ≤ maxLen ∧ ∀ x ∈ l, (Lit.int .i64 x).wf = true) :=
  Opens.slice (sz := 1) Try.underlying40 (by kernel_rfl) (fun _ => rfl) (by decide) (Opens.int Try.underlying3)
theorem sumL_take {α : Type} (l : List (List α)) (i : Nat) (h : i < l.length) : sumL (l.take (i + 1)) = sumL (l.take i) + l[i].length := by
  rw [List.take_succ_eq_append_getElem h, sumL, List.map_append, List.sum_append, sumL]
  simp only [List.map_cons, List.map_nil, List.sum_cons, List.sum_nil, Nat.add_zero]
theorem ssorted_ac (G) (rows : List (List Int)) (hl : rows.length ≤ maxLen) (hr : ∀ r ∈ rows, r.length ≤ maxLen) : AC Try.prog G 4 [fro (slP (pvI .i64)) rows] [] (fun r _ => r = vb true) := by
  refine AC.bodyM Try.func4 Try.ntmps4 rfl ?_
  intro cx hd hG hrd hml hbs
  obtain ⟨w0, fz0, β0, df, G0, rd, rr, ml, bs⟩ := cx
  dsimp only at hd hG hrd hml hbs
  subst hd hG hrd hml hbs
  refine nrmL (k := ?_)
  repeat refine w1 (k := ?_)
  refine callN (hc := by exact awake09_ac _) (h := ?_)
  repeat refine w1 (k := ?_)
  have hn : (itms true rows).length ≤ 8 := by simp [itms]; omega
  have hm : ∀ l ∈ itms true rows, l.length ≤ 1000 := fun l h => by
    obtain ⟨j, hj, rfl⟩ := List.getElem_of_mem h
    obtain ⟨xs, h1, h2⟩ := itms_at (List.getElem?_eq_getElem hj)
    rw [h2, itmG_len]; omega
  have hkey := itms_key rows
  have hRw := itms_rw rows
  refine OpTo.callAO (by rfl) (by rfl) (by rfl) (by rfl) (items_ac _ rows true hl hr) ?_
  rintro r os' ⟨rfl, hf⟩
  refine ⟨_, .row rfl hf (slP_ok _ _ _ rfl) (by decide) rfl, ?_⟩
  generalize itms true rows = R at *
  refine nrm (k := ?_)
  repeat refine w1 (k := ?_)
  first | refine zA 13 (h := ?_) | refine zO 13 (h := ?_) | refine zL 13 (h := ?_) | refine zL3 13 (h := ?_)
  refine nrm (k := ?_)
  repeat refine w1 (k := ?_)
  have hit := mergeT_it G0 lessF rfl ltT (fun a c => lessT_ac G0 a c) R (by omega) hm
  have hpw := mrg_pw _ R rfl hRw
  have hML := mrg_len (lt := ltT) _ R rfl
  change (mrgL ltT R).Pairwise Lx at hpw
  change (mrgL ltT R).length = _ at hML
  generalize mrgL ltT R = M at hkey hit hpw hML
  refine callAN (hc := by exact mergeT_ac _ lessF R) (h := ?_)
  refine nrm (k := ?_)
  repeat refine w1 (k := ?_)
  first | refine ofN (hv := by exact Val.fnNil rfl rfl Try.underlying29) (h := ?_) | refine dlN (hv := by exact Val.fnNil rfl rfl Try.underlying29) (h := ?_) | refine dlgN (hv := by exact Val.fnNil rfl rfl Try.underlying29) (h := ?_) | refine ofN (hv := by exact Val.fnNil rfl rfl Try.underlying29) (h := ?_)
  repeat refine w1 (k := ?_)
  have hsum := sumL_le 1000 hm
  refine loopN [(18, 13)] (α := Nat) (fun i => [(6, vi (sumL (R.take i) : Nat)), (7, vi (i : Int))]) (fun i => [(2, .pcells 4 [.s (.bool false)])]) (fun i => R.length - i) (fun i => i ≤ R.length) (x0 := 0) (h0 := by first | omega | simp | (refine ⟨?_, ?_⟩ <;> first | omega | simp)) (hr := ?_)
  intro i hI
  refine nrmL (k := ?_)
  repeat refine w1 (k := ?_)
  refine condN (h1 := fun h => ?_) (h0 := fun h => ?_)
  ·
    have hi : i < R.length := by omega
    have hri := hm _ (List.getElem_mem hi)
    have hst := sumL_take R i hi
    have hsb := sumL_le 1000 (left := R.take i) (fun l h => hm l (List.mem_of_mem_take h))
    have htl : (R.take i).length = i := by simp; omega
    rw [htl] at hsb
    repeat refine w1 (k := ?_)
    simp only [List.length_map]
    repeat refine w1 (k := ?_)
    rw [show IntKind.i64.wrap ((sumL (R.take i) : Int) + (R[i].length : Int)) = ((sumL (R.take (i + 1)) : Nat) : Int) by rw [hst]; exact wrap_id (by omega) (by omega)]
    refine ⟨i + 1, by omega, by first | omega | (refine ⟨?_, ?_⟩ <;> omega), frg⟩
  ·
    repeat refine w1 (k := ?_)
    have : i = R.length := by omega
    subst this
    rw [List.take_length, ← hML]
    refine cutIN [] (α := It) (fun u => []) (fun u => [(2, .pcells 4 [.s (.bool false)]), (8, .pcells 32 (itP u)), (9, .pcells 3 [.s (.int .i64 (M.length : Int))])]) (fun u => True) ?_ (fun u hI => ?_)
    ·
      refine AWp.rangeF (α := Nat × It) (fun y => [(2, .pcells 4 [.s (.bool false)]), (8, .pcells 32 (itP y.2)), (9, .pcells 3 [.s (.int .i64 (y.1 : Int))])]) (fun i y => y.1 = i ∧ ∀ h : i < M.length, Lx y.2 M[i]) (0, ⟨-1, 0⟩) 0 [] (by first | rfl | assumption) (by first | rfl | assumption) (by first | rfl | assumption) rfl rfl rfl rfl (hit) (by simp [yT, YV.len]) (by decide) (.inl (by simp [yT])) (.inl rfl) (fun _ => rfl) (by exact ⟨rfl, fun h => .inl (by have := hkey _ (List.getElem_mem h); show (-1 : Int) < _; omega)⟩) (by intro k o; (try dsimp only []); repeat (first | exact id | exact find_none | refine find_keep ?_ | refine find_skip rfl ?_)) ?_ ?_
      ·
        intro cx' sv i y x hG' hd' hy hI
        obtain ⟨hi, rfl⟩ := yT_get hy
        obtain ⟨n, last⟩ := x
        obtain ⟨hI1, hI2⟩ := hI
        dsimp only at hI1 hI2
        subst hI1
        have hL := hI2 hi
        have hnx : ∀ h : n + 1 < M.length, Lx M[n] M[n + 1] := fun h => List.pairwise_iff_getElem.1 hpw n (n + 1) hi h (by omega)
        refine rst0 (k := ?_)
        repeat refine w1 (k := ?_)
        simp only [show ((SV : Nat) == 10) = false from rfl, cond_false]
        refine nrm (k := ?_)
        try simp only [show ((SV : Nat) == 10) = false from rfl, cond_false]
        refine ⟨by first | rfl | trivial, by first | rfl | trivial, fun cx'' hG2 hd2 => ?_⟩
        obtain ⟨w0, fz0, β0, df, G0, rd, rr, ml, bs⟩ := cx''
        dsimp only at hG2 hd2
        subst hG2 hd2
        generalize M[n] = x at hL hnx ⊢
        rcases hL with hL | ⟨hL1, hL2⟩
        ·
          repeat refine w1 (k := ?_)
          exact ⟨(n + 1, x), ⟨rfl, hnx⟩, (by intro k o; (try dsimp only []); repeat (first | exact id | exact find_none | refine find_keep ?_ | refine find_skip rfl ?_)), rfl⟩
        ·
          repeat refine w1 (k := ?_)
          exact ⟨(n + 1, x), ⟨rfl, hnx⟩, (by intro k o; (try dsimp only []); repeat (first | exact id | exact find_none | refine find_keep ?_ | refine find_skip rfl ?_)), rfl⟩
      ·
        rintro ⟨n, u⟩ ⟨hn1, _⟩
        dsimp only at hn1
        subst hn1
        rw [yT_len]
        repeat refine w1 (k := ?_)
        refine ⟨u, by first | rfl | omega | trivial | (refine ⟨?_, ?_⟩ <;> first | rfl | omega), frg⟩
    refine nrmL (k := ?_)
    repeat refine w1 (k := ?_)
    simp only [beq_self_eq_true]
    exact ⟨rfl, [.c _], .cons (.ld1 rfl rfl rfl rfl) .nil, rfl⟩
