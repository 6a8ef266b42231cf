/- Chapter 22: the document's answer: all values tried. -/
import Derived.Test.YtlegdnmebgfjbaaDoorWL
set_option linter.all false
set_option maxRecDepth 2000
set_option maxHeartbeats 8000000
namespace Go.Proofs.Vl
open Go Go.RowKit
attribute [local irreducible] AWp OpTo Run DL Val UN DR AC Le thn inb nog
def bstF (f : Int → Bool) (w3 : Bool) : Nat → Int
  | 0 => -1
  | n + 1 => if f (n : Int) && (w3 || decide (bstF f w3 n < 0)) then (n : Int) else bstF f w3 n
theorem bst_hi {f : Int → Bool} {r : Nat} (h1 : f (r : Int) = true) (h2 : ∀ m : Nat, r < m → f (m : Int) = false) : ∀ N, r < N → bstF f true N = (r : Int)
  | 0, h => by omega
  | N + 1, h => by
    unfold bstF
    by_cases e : N = r
    · subst e; rw [h1]; rfl
    · rw [h2 N (by omega)]; exact bst_hi h1 h2 N (by omega)
theorem bst_lo {f : Int → Bool} {r : Nat} (h1 : f (r : Int) = true) (h2 : ∀ m : Nat, m < r → f (m : Int) = false) : ∀ N, (N ≤ r → bstF f false N = -1) ∧ (r < N → bstF f false N = (r : Int))
  | 0 => ⟨fun _ => rfl, fun h => by omega⟩
  | N + 1 => by
    obtain ⟨g1, g2⟩ := bst_lo h1 h2 N
    refine ⟨fun h => ?_, fun h => ?_⟩
    · unfold bstF; rw [h2 N (by omega)]; exact g1 (by omega)
    · unfold bstF
      by_cases e : N = r
      · subst e; rw [g1 (Nat.le_refl _), h1]; rfl
      · rw [g2 (by omega), decide_eq_false (show ¬ (r : Int) < 0 by omega)]; simp
theorem mo_best {l : List Tk} {k : Nat} (hk : k < l.length) (hm : mayE l (k : Int) = 0) (which : Int) (hw : 0 ≤ which ∧ which < 4) :
    bstF (fun m => testsB (upT l k (gW which m))) (decide (which < 3)) (l[k].t.toNat + 1) = moN l (k : Int) which := by
  obtain ⟨hb, ht⟩ := may_iff.1 hm
  obtain ⟨a1, a2, a3, a4, a5⟩ := mo_spec hk hm which hw
  have hbt := fun n m (h1 : testsB (upT l k (gW which n)) = true) => betw hk hb which hw n m h1
  obtain ⟨hc, h1t, hd, hj, hq, hp⟩ := (is_spec hb).2.1 _ (List.getElem_mem hk)
  have huf := fun n (h : testsB (upT l k (gW which n)) = true) => up_fits hk h
  obtain ⟨u1, u2, u3, u4⟩ := huf _ a1
  obtain ⟨uc, ut, ud, uj, uq, up⟩ := u1
  generalize moN l (k : Int) which = n at *
  obtain ⟨r, rfl⟩ := Int.eq_ofNat_of_zero_le a4
  have hle : r ≤ l[k].t.toNat := by
    obtain rfl | rfl | rfl | rfl : which = 0 ∨ which = 1 ∨ which = 2 ∨ which = 3 := by omega
    · change (r : Int) + l[k].j ≤ l[k].d at u2
      change l[k].d ≤ l[k].t at u3
      omega
    · change (r : Int) ≤ l[k].c at u4
      change l[k].c + l[k].j ≤ l[k].d at u2
      change l[k].d ≤ l[k].t at u3
      omega
    · change l[k].c + (r : Int) ≤ l[k].d at u2
      change l[k].d ≤ l[k].t at u3
      omega
    · change 0 ≤ ((r : Int) - l[k].t) * (-1) at a3
      omega
  by_cases h3 : which = 3
  · rw [decide_eq_false (show ¬ which < 3 by omega)]
    rw [show stpW which = -1 by unfold stpW; rw [if_pos h3]] at a2 a3
    refine (bst_lo (f := fun m => testsB (upT l k (gW which m))) a1 (fun m hm => ?_) _).2 (by omega)
    cases hf : testsB (upT l k (gW which (m : Int))) with
    | false => rfl
    | true =>
      have := hbt (m : Int) ((r : Int) + -1) hf (by rw [if_pos h3]; omega)
      rw [this] at a2; cases a2
  · rw [decide_eq_true (show which < 3 by omega)]
    rw [show stpW which = 1 by unfold stpW; rw [if_neg h3]] at a2 a3
    refine bst_hi (f := fun m => testsB (upT l k (gW which m))) a1 (fun m hm => ?_) _ (by omega)
    cases hf : testsB (upT l k (gW which (m : Int))) with
    | false => rfl
    | true =>
      have := hbt (m : Int) ((r : Int) + 1) hf (by rw [if_neg h3]; omega)
      rw [this] at a2; cases a2
theorem moN_no {l : List Tk} {i : Int} (h : mayE l i ≠ 0) (which : Int) : moN l i which = 0 := by
  unfold moN msN prN
  rw [if_neg h, if_neg h, if_neg h, if_neg h]
  split <;> (try split) <;> (try split) <;> rfl
theorem rmost_ac (G) (l : List Tk) (i which : Int) (hw : 0 ≤ which ∧ which < 4) (hl : ∀ t ∈ l, t.nm.size ≤ maxLen) (hn : l.length ≤ maxLen) : AC Tryd.prog G 17 [fro tkP l, vi i, vi which] [] (fun r _ => r = .pag [.s (.int .i64 (moN l i which)), .s (.int .i64 (mayE l i))]) := by
  refine AC.body' Tryd.func17 Tryd.ntmps17 rfl ?_
  intro cx hd hG
  refine nrmL (k := ?_)
  repeat refine w1 (k := ?_)
  obtain ⟨w0, fz0, β0, df, G0⟩ := cx
  obtain rfl : G0 = G := hG
  refine callN (hc := by exact ris_ac _ l i hl hn) (h := ?_)
  repeat refine w1 (k := ?_)
  cases hb : isB l i with
  | false =>
    rw [Bool.not_false]
    have h1 : mayE l i = 1 := by unfold mayE; rw [hb]; rfl
    rw [moN_no (by rw [h1]; decide) which, h1]
    repeat refine w1 (k := ?_)
    exact ⟨[.pag _], .cons (.ldN (n := 2) rfl rfl rfl (Nat.le_refl _)) .nil, rfl⟩
  | true =>
    rw [Bool.not_true]
    obtain ⟨f1, f2, k, rfl, f3⟩ := is_spec hb
    have hmy : mayE l (k : Int) = if testsB l then 0 else 16 := by unfold mayE; rw [if_pos hb]
    repeat refine w1 (k := ?_)
    refine callN (hc := by exact rfine_ac _ l hl hn) (h := ?_)
    repeat refine w1 (k := ?_)
    cases hT : testsB l with
    | false =>
      rw [Bool.not_false]
      rw [hT, if_neg (by simp)] at hmy
      rw [moN_no (by rw [hmy]; decide) which, hmy]
      repeat refine w1 (k := ?_)
      exact ⟨[.pag _], .cons (.ldN (n := 2) rfl rfl rfl (Nat.le_refl _)) .nil, rfl⟩
    | true =>
      rw [Bool.not_true]
      rw [hT, if_pos rfl] at hmy
      rw [← mo_best f3 hmy which hw, hmy]
      obtain ⟨hc, ht, hd, hj, hq, hp⟩ := f2 _ (List.getElem_mem f3)
      obtain ⟨f, hf⟩ : ∃ f : Int → Bool, f = fun m => testsB (upT l k (gW which m)) := ⟨_, rfl⟩
      obtain ⟨D, hD⟩ : ∃ D : Bool, D = decide (which < 3) := ⟨_, rfl⟩
      rw [← hf, ← hD]
      repeat refine w1 (k := ?_)
      rw [show (PV.s (Value.int IntKind.i64 (-1))) = .s (.int .i64 (bstF f D 0)) from rfl, show (AV.c (.p (.s (Value.int IntKind.i64 0)))) = vi ((0 : Nat) : Int) from rfl]
      refine loopN [(11, 1), (24, 27)] (α := Nat) (fun n => [(10, vi (n : Int))]) (fun n => [(6, .pcells 46 [.s (.int .i64 0), .s (.int .i64 0)]), (9, .pcells 46 [.s (.int .i64 (bstF f D n)), .s (.int .i64 0)])]) (fun n => l[k].t.toNat + 1 - n) (fun n => n ≤ l[k].t.toNat + 1) (x0 := 0) (h0 := by first | omega | simp | (refine ⟨?_, ?_⟩ <;> first | omega | simp)) (hr := ?_)
      intro n hI
      refine nrmL (k := ?_)
      repeat refine w1 (k := ?_)
      refine condN (h1 := fun h1 => ?_) (h0 := fun h1 => ?_)
      ·
        have hnt : n ≤ l[k].t.toNat := by omega
        repeat refine w1 (k := ?_)
        refine callRowN (hc := by exact with22_ac _ l k f3 which (n : Int) (by omega) ) (hso := by exact  tkP_ok _ _) (h := ?_)
        refine nrm (k := ?_)
        repeat refine w1 (k := ?_)
        refine callN (ha := congrArg (fun z => [z]) (frz_ownL (k := 37) (xs := (upT l k (gW which (n : Int))).map tkP) rfl (List.length_map tkP).symm)) (hc := by exact rfine_ac _ _ (up_nm hl k _ _) (by rw [upT_len]; exact hn)) (h := ?_)
        have hfn : testsB (upT l k (gW which (n : Int))) = f (n : Int) := by rw [hf]
        rw [hfn]
        have hst : bstF f D (n + 1) = if f (n : Int) && (D || decide (bstF f D n < 0)) then (n : Int) else bstF f D n := rfl
        generalize hB : bstF f D n = B at *
        cases hfv : f (n : Int) with
        | false =>
          have e : bstF f D (n + 1) = B := by rw [hst, hfv]; rfl
          repeat refine w1 (k := ?_)
          refine ⟨n + 1, by omega, by first | omega | (refine ⟨?_, ?_⟩ <;> omega), ?_⟩
          rw [e]
          exact frg
        | true =>
          repeat refine w1 (k := ?_)
          by_cases h3 : which < 3
          ·
            have e : bstF f D (n + 1) = (n : Int) := by rw [hst, hfv, hD, decide_eq_true h3]; rfl
            rw [decide_eq_true h3]
            repeat refine w1 (k := ?_)
            refine ⟨n + 1, by omega, by first | omega | (refine ⟨?_, ?_⟩ <;> omega), ?_⟩
            rw [e]
            exact frg
          ·
            rw [decide_eq_false h3]
            repeat refine w1 (k := ?_)
            by_cases h4 : B < 0
            ·
              have e : bstF f D (n + 1) = (n : Int) := by rw [hst, hfv, hD, decide_eq_true h4]; simp
              rw [decide_eq_true h4]
              repeat refine w1 (k := ?_)
              refine ⟨n + 1, by omega, by first | omega | (refine ⟨?_, ?_⟩ <;> omega), ?_⟩
              rw [e]
              exact frg
            ·
              have e : bstF f D (n + 1) = B := by rw [hst, hfv, hD, decide_eq_false h4, decide_eq_false h3]; rfl
              rw [decide_eq_false h4]
              repeat refine w1 (k := ?_)
              refine ⟨n + 1, by omega, by first | omega | (refine ⟨?_, ?_⟩ <;> omega), ?_⟩
              rw [e]
              exact frg
      ·
        repeat refine w1 (k := ?_)
        have : n = l[k].t.toNat + 1 := by omega
        subst this
        exact ⟨[.pag _], .cons (.ldN (n := 2) rfl rfl rfl (Nat.le_refl _)) .nil, rfl⟩
