/- Chapter 22: SlackLeast. -/
import Derived.Test.YtlegdnmebgfjbaaDoorWJ
set_option linter.all false
set_option maxRecDepth 2000
set_option maxHeartbeats 8000000
namespace Go.Proofs.Vl
open Go Go.RowKit
attribute [local irreducible] AWp OpTo Run DL Val UN DR AC Le thn inb nog
def soF : Nat := 11
def ak (D : Nat) (from_ lo hi m : Int) (v : Value) : List (Nat × Ob) := [(17 + D, .pcells 34 [.s (.int .i64 from_), .s (.int .i64 lo), .s (.int .i64 hi), .s (.int .i64 m), .s (.bool false)]), (60 + D, .sav [.c (.ptr (17 + D) 0)] [v])]
theorem so_ac (G) (from_ lo hi m n : Int) (v : Value) (h1 : lo ≤ n) (h2 : n ≤ hi) : AC Tryd.prog G soF [.c (.ptr 2000017 0), vi n] (ak 2000000 from_ lo hi m v) (fun r os' => r = vb (decide (n ≥ from_)) ∧ os' = ak 2000000 from_ lo hi (IntKind.i64.wrap (m + 1)) v) := by
  unfold ak
  simp only [Nat.reduceAdd]
  refine AC.body' Tryd.func11 Tryd.ntmps11 rfl ?_
  intro cx hd hG
  refine nrmL (k := ?_)
  repeat refine w1 (k := ?_)
  first | refine ofN (hv := by exact Val.nilC rfl rfl) (h := ?_) | refine dlN (hv := by exact Val.nilC rfl rfl) (h := ?_) | refine dlgN (hv := by exact Val.nilC rfl rfl) (h := ?_) | refine ofN (hv := by exact Val.nilC rfl rfl) (h := ?_)
  repeat refine w1 (k := ?_)
  first | refine ofN (hv := by exact Val.nilC rfl rfl) (h := ?_) | refine dlN (hv := by exact Val.nilC rfl rfl) (h := ?_) | refine dlgN (hv := by exact Val.nilC rfl rfl) (h := ?_) | refine ofN (hv := by exact Val.nilC rfl rfl) (h := ?_)
  repeat refine w1 (k := ?_)
  first | refine ofN (hv := by exact Val.nilC rfl rfl) (h := ?_) | refine dlN (hv := by exact Val.nilC rfl rfl) (h := ?_) | refine dlgN (hv := by exact Val.nilC rfl rfl) (h := ?_) | refine ofN (hv := by exact Val.nilC rfl rfl) (h := ?_)
  repeat refine w1 (k := ?_)
  first | refine ofN (hv := by exact Val.nilC rfl rfl) (h := ?_) | refine dlN (hv := by exact Val.nilC rfl rfl) (h := ?_) | refine dlgN (hv := by exact Val.nilC rfl rfl) (h := ?_) | refine ofN (hv := by exact Val.nilC rfl rfl) (h := ?_)
  repeat refine w1 (k := ?_)
  first | refine ofN (hv := by exact Val.nilC rfl rfl) (h := ?_) | refine dlN (hv := by exact Val.nilC rfl rfl) (h := ?_) | refine dlgN (hv := by exact Val.nilC rfl rfl) (h := ?_) | refine ofN (hv := by exact Val.nilC rfl rfl) (h := ?_)
  repeat refine w1 (k := ?_)
  first | refine ofN (hv := by exact Val.nilC rfl rfl) (h := ?_) | refine dlN (hv := by exact Val.nilC rfl rfl) (h := ?_) | refine dlgN (hv := by exact Val.nilC rfl rfl) (h := ?_) | refine ofN (hv := by exact Val.nilC rfl rfl) (h := ?_)
  repeat refine w1 (k := ?_)
  first | refine ofN (hv := by exact Val.nilC rfl rfl) (h := ?_) | refine dlN (hv := by exact Val.nilC rfl rfl) (h := ?_) | refine dlgN (hv := by exact Val.nilC rfl rfl) (h := ?_) | refine ofN (hv := by exact Val.nilC rfl rfl) (h := ?_)
  repeat refine w1 (k := ?_)
  rw [show decide (n > hi) = false from decide_eq_false (by omega)]
  exact ⟨[.c _], .cons (.tmp rfl) .nil, rfl, rfl⟩
theorem ls_max (from_ lo hi : Int) (h1 : ok64 lo) (h2 : ok64 hi) (hle : lo ≤ hi) (hf : from_ ≤ hi) : leN (fun n => decide (n ≥ from_)) lo hi = if lo < from_ then from_ else lo := by
  unfold leN
  rw [if_pos ⟨hle, decide_eq_true hf⟩]
  have := lsF_spec (fun n => decide (n ≥ from_)) lo 64 lo hi hle (by unfold ok64 at h1 h2; omega) (decide_eq_true hf) (.inl rfl) (Int.le_refl _)
  generalize lsF (fun n => decide (n ≥ from_)) 64 lo hi = r at *
  obtain ⟨s1, s2, s3, s4⟩ := this
  have s3 : r ≥ from_ := of_decide_eq_true s3
  rcases s4 with s4 | s4
  · subst s4; split <;> omega
  · have s4 : ¬ r - 1 ≥ from_ := of_decide_eq_false s4
    split <;> omega
theorem leastL_ac (lo hi from_ : Int) (h1 : ok64 lo) (h2 : ok64 hi) (h3 : ok64 from_) : AC Tryd.prog GL 5 [vi lo, vi hi, vi from_] [] (fun r _ => r = vb true) := by
  refine AC.body' Tryd.func5 Tryd.ntmps5 rfl ?_
  intro cx hd hG
  refine nrmL (k := ?_)
  repeat refine w1 (k := ?_)
  obtain ⟨w0, fz0, β0, df, G0⟩ := cx
  obtain rfl : G0 = GL := hG
  refine callN (hc := by exact awake22_ac) (h := ?_)
  repeat refine w1 (k := ?_)
  repeat refine w1 (k := ?_)
  refine OpTo.fnB (ks := 60) rfl rfl ?_
  intro v
  have hls := least_gen GL (.s (.func (.func soF) #[v] #[])) (os := fun (m : Int) => ak 1000000 from_ lo hi m v) (fun m _ => IntKind.i64.wrap (m + 1)) (fun n => decide (n ≥ from_)) lo hi h1 h2 (fun m n a b cx st g x dst ats ty pos af gd K hG hob hg hgo hx hxo hK => by
      have := so_ac cx.G from_ lo hi m n v a b
      refine OpTo.callB (xs := [x]) (ks := 1000060) (z := .c (.ptr 1000017 0)) [] this hg hgo (by rw [hob]; rfl) (by rw [hob]; rfl) rfl (by simp [okOps, hxo]) (by simp only [List.map, hx]; rfl) rfl rfl ?_
      rintro r os' ⟨rfl, rfl⟩
      exact hK) (fun k m => k ≤ 1000 → m = (k : Int)) (fun k m n _ _ h hk => by
      rw [h (by omega), IntKind.wrap_i64]; omega) 0 (fun _ => rfl)
  refine nrm (k := ?_)
  repeat refine w1 (k := ?_)
  refine OpTo.callR [] hls (by rfl) (by rfl) (by rfl) (by rfl) (by rfl) (by rfl) ?_
  rintro r os' ⟨rfl, kk, m, hk, hI, rfl⟩
  rw [show dnO [] (ak 1000000 from_ lo hi m v) = [(17, .pcells 34 [.s (.int .i64 from_), .s (.int .i64 lo), .s (.int .i64 hi), .s (.int .i64 m), .s (.bool false)]), (60, .sav [.c (.ptr 17 0)] [v])] from rfl]
  have hm := hI (by omega)
  simp only [lend, Ob.up, AV.up, TV.up, CV.up, Cap.up, Nat.reduceAdd, dnO, kdn, look, lookB, Ob.dn, AV.dn, TV.dn, CV.dn, capDn, List.map, Nat.reduceLeDiff, Nat.reduceSub, if_true, if_false, ite_true, ite_false, Option.map_some]
  have hkm : m ≤ 130 := by omega
  by_cases hle : lo ≤ hi
  ·
    by_cases hf : from_ ≤ hi
    ·
      rw [ls_max from_ lo hi h1 h2 hle hf, show leB (fun n => decide (n ≥ from_)) lo hi = true by unfold leB; rw [decide_eq_true hle]; exact decide_eq_true hf]
      refine nrm (k := ?_)
      repeat refine w1 (k := ?_)
      rw [decide_eq_true hf]
      repeat refine w1 (k := ?_)
      first | refine ofN (hv := by exact Val.boolB Tryd.underlying4 rfl rfl rfl rfl rfl) (h := ?_) | refine dlN (hv := by exact Val.boolB Tryd.underlying4 rfl rfl rfl rfl rfl) (h := ?_) | refine dlgN (hv := by exact Val.boolB Tryd.underlying4 rfl rfl rfl rfl rfl) (h := ?_) | refine ofN (hv := by exact Val.boolB Tryd.underlying4 rfl rfl rfl rfl rfl) (h := ?_)
      repeat refine w1 (k := ?_)
      first | refine ofN (hv := by exact Val.nilC rfl rfl) (h := ?_) | refine dlN (hv := by exact Val.nilC rfl rfl) (h := ?_) | refine dlgN (hv := by exact Val.nilC rfl rfl) (h := ?_) | refine ofN (hv := by exact Val.nilC rfl rfl) (h := ?_)
      repeat refine w1 (k := ?_)
      first | refine ofN (hv := by exact Val.nilC rfl rfl) (h := ?_) | refine dlN (hv := by exact Val.nilC rfl rfl) (h := ?_) | refine dlgN (hv := by exact Val.nilC rfl rfl) (h := ?_) | refine ofN (hv := by exact Val.nilC rfl rfl) (h := ?_)
      repeat refine w1 (k := ?_)
      simp only [gt_iff_lt, beq_self_eq_true]
      repeat refine w1 (k := ?_)
      exact ⟨[.c _], .cons (.tmp rfl) .nil, rfl⟩
    ·
      rw [show leN (fun n => decide (n ≥ from_)) lo hi = 0 by unfold leN; rw [if_neg (fun h => hf (of_decide_eq_true h.2))], show leB (fun n => decide (n ≥ from_)) lo hi = false by unfold leB; show (decide (lo ≤ hi) && decide (hi ≥ from_)) = false; rw [decide_eq_false (show ¬ hi ≥ from_ from hf), Bool.and_false]]
      refine nrm (k := ?_)
      repeat refine w1 (k := ?_)
      rw [decide_eq_false hf]
      repeat refine w1 (k := ?_)
      first | refine ofN (hv := by exact Val.boolB Tryd.underlying4 rfl rfl rfl rfl rfl) (h := ?_) | refine dlN (hv := by exact Val.boolB Tryd.underlying4 rfl rfl rfl rfl rfl) (h := ?_) | refine dlgN (hv := by exact Val.boolB Tryd.underlying4 rfl rfl rfl rfl rfl) (h := ?_) | refine ofN (hv := by exact Val.boolB Tryd.underlying4 rfl rfl rfl rfl rfl) (h := ?_)
      repeat refine w1 (k := ?_)
      first | refine ofN (hv := by exact Val.nilC rfl rfl) (h := ?_) | refine dlN (hv := by exact Val.nilC rfl rfl) (h := ?_) | refine dlgN (hv := by exact Val.nilC rfl rfl) (h := ?_) | refine ofN (hv := by exact Val.nilC rfl rfl) (h := ?_)
      repeat refine w1 (k := ?_)
      first | refine ofN (hv := by exact Val.nilC rfl rfl) (h := ?_) | refine dlN (hv := by exact Val.nilC rfl rfl) (h := ?_) | refine dlgN (hv := by exact Val.nilC rfl rfl) (h := ?_) | refine ofN (hv := by exact Val.nilC rfl rfl) (h := ?_)
      repeat refine w1 (k := ?_)
      exact ⟨[.c _], .cons (.tmp rfl) .nil, rfl⟩
  ·
    rw [show leN (fun n => decide (n ≥ from_)) lo hi = 0 by unfold leN; rw [if_neg (fun h => hle h.1)], show leB (fun n => decide (n ≥ from_)) lo hi = false by unfold leB; rw [decide_eq_false hle]; rfl]
    refine nrm (k := ?_)
    repeat refine w1 (k := ?_)
    first | refine ofN (hv := by exact Val.boolB Tryd.underlying4 rfl rfl rfl rfl rfl) (h := ?_) | refine dlN (hv := by exact Val.boolB Tryd.underlying4 rfl rfl rfl rfl rfl) (h := ?_) | refine dlgN (hv := by exact Val.boolB Tryd.underlying4 rfl rfl rfl rfl rfl) (h := ?_) | refine ofN (hv := by exact Val.boolB Tryd.underlying4 rfl rfl rfl rfl rfl) (h := ?_)
    repeat refine w1 (k := ?_)
    first | refine ofN (hv := by exact Val.nilC rfl rfl) (h := ?_) | refine dlN (hv := by exact Val.nilC rfl rfl) (h := ?_) | refine dlgN (hv := by exact Val.nilC rfl rfl) (h := ?_) | refine ofN (hv := by exact Val.nilC rfl rfl) (h := ?_)
    repeat refine w1 (k := ?_)
    first | refine ofN (hv := by exact Val.nilC rfl rfl) (h := ?_) | refine dlN (hv := by exact Val.nilC rfl rfl) (h := ?_) | refine dlgN (hv := by exact Val.nilC rfl rfl) (h := ?_) | refine ofN (hv := by exact Val.nilC rfl rfl) (h := ?_)
    repeat refine w1 (k := ?_)
    exact ⟨[.c _], .cons (.tmp rfl) .nil, rfl⟩
theorem tm100 (x : Int) : ok64 (x.tmod 100) := by
  have h1 : -100 < x.tmod 100 := Int.lt_tmod_of_pos x (by decide)
  have h2 : x.tmod 100 < 100 := Int.tmod_lt_of_pos x (by decide)
  unfold ok64; omega
theorem sleast_ac (a b c : Int) (h1 : ok64 a) (h2 : ok64 b) (h3 : ok64 c) : AC Tryd.prog GL 3 [vi a, vi b, vi c] [] (fun r _ => r = vb true) := by
  refine AC.body' Tryd.func3 Tryd.ntmps3 rfl ?_
  intro cx hd hG
  refine nrmL (k := ?_)
  repeat refine w1 (k := ?_)
  obtain ⟨w0, fz0, β0, df, G0⟩ := cx
  obtain rfl : G0 = GL := hG
  refine callN (hc := by exact leastL_ac a b c h1 h2 h3) (h := ?_)
  repeat refine w1 (k := ?_)
  repeat refine w1 (k := ?_)
  refine callN (hc := by exact leastL_ac (a.tmod 100) (b.tmod 100) (c.tmod 100) (tm100 a) (tm100 b) (tm100 c)) (h := ?_)
  repeat refine w1 (k := ?_)
  repeat refine w1 (k := ?_)
  exact ⟨[.c _], .cons (.tmp rfl) .nil, rfl⟩
