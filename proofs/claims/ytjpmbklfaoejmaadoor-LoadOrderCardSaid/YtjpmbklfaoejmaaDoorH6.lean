/- Sums against the references'; the row 'LoadSums', by values. -/
import Derived.Test.YtjpmbklfaoejmaaDoorH3
set_option linter.all false
set_option maxHeartbeats 8000000
namespace Go.Proofs.Vl
open Go Go.RowKit
attribute [local irreducible] AWp OpTo Run DL Val UN DR AC Le thn inb nog
theorem smF_err {l : List Tk} (h : (smF l).2 ≠ 0) : (smF l).1 = (0, 0) := by
  unfold smF at h ⊢
  split
  · rfl
  · rename_i g
    rw [if_neg g] at h
    cases hs : sumF (0, 1) l with
    | none => rfl
    | some a => rw [hs] at h; exact absurd rfl h
theorem sums_ac (l : List Tk) (hl : l.length ≤ maxLen) (ho : ∀ t ∈ l, tOk t) : AC Tryd.prog GL 19 [fro tkP l] [] (fun r _ => r = vb true) := by
  refine AC.body' Tryd.func19 Tryd.ntmps19 rfl ?_
  intro cx hd hG
  refine nrmL (k := ?_)
  repeat refine w1 (k := ?_)
  obtain ⟨w0, fz0, β0, df, G0⟩ := cx
  obtain rfl : G0 = GL := hG
  have hl2 := hl
  rw [maxLen] at hl2
  refine callN (hc := by exact sum_ac l hl ho) (h := ?_)
  repeat refine w1 (k := ?_)
  refine callN (hc := by exact rsum12_ac _ l hl ho) (h := ?_)
  repeat refine w1 (k := ?_)
  refine callN (hc := by exact over_ac l hl ho) (h := ?_)
  repeat refine w1 (k := ?_)
  refine callN (hc := by exact period_ac _ l hl ho) (h := ?_)
  repeat refine w1 (k := ?_)
  refine callN (hc := by exact rperiod_ac _ l hl ho) (h := ?_)
  repeat refine w1 (k := ?_)
  have he := @smF_err l
  generalize smF l = g at he ⊢
  obtain ⟨f, e⟩ := g
  dsimp only at he ⊢
  generalize (perL l).isSome = pb at *
  generalize (perL l).getD 0 = pn at *
  refine loopN [(2, 1), (31, 17)] (α := Nat) (fun j => [(11, vi j)]) (fun j => [(3, .pcells 24 (ldP f)), (5, .pcells 60 (gotP f e)), (10, .pcells 65 (numP pn pb))]) (fun j => l.length - j) (fun j => j ≤ l.length) (x0 := 0) (h0 := by first | omega | simp | (refine ⟨?_, ?_⟩ <;> first | omega | simp)) (hr := ?_)
  intro j hI
  refine nrmL (k := ?_)
  repeat refine w1 (k := ?_)
  refine condN (h1 := fun h => ?_) (h0 := fun h => ?_)
  ·
    have hj : j < l.length := by omega
    have ht := ho _ (List.getElem_mem hj)
    repeat refine w1 (k := ?_)
    refine callN (hc := by exact of_ac l[j] ht.1 ht.2) (h := ?_)
    repeat refine w1 (k := ?_)
    refine callN (hc := by exact rof_ac _ l[j] ht.1 ht.2) (h := ?_)
    repeat refine w1 (k := ?_)
    first | refine ofN (hv := by exact Val.neL rfl rfl rfl rfl) (h := ?_) | refine dlN (hv := by exact Val.neL rfl rfl rfl rfl) (h := ?_) | refine dlgN (hv := by exact Val.neL rfl rfl rfl rfl) (h := ?_) | refine ofN (hv := by exact Val.neL rfl rfl rfl rfl) (h := ?_)
    rw [show (!decide (ofF l[j].c l[j].t = tkF l[j])) = false by rw [decide_eq_true (show ofF l[j].c l[j].t = tkF l[j] from rfl)]; rfl]
    repeat refine w1 (k := ?_)
    refine ⟨j + 1, by omega, by first | omega | (refine ⟨?_, ?_⟩ <;> omega), frg⟩
  ·
    repeat refine w1 (k := ?_)
    refine OpTo.of (x := .pag (ldP f)) (Val.ldN (n := 2) (cs := gotP f e) (by kernel_rfl) rfl rfl (show 2 ≤ 3 by decide)) ?_
    refine nrm (k := ?_)
    refine Run.cons rfl ?_
    first | refine ofN (hv := by exact Val.eqL rfl rfl rfl rfl) (h := ?_) | refine dlN (hv := by exact Val.eqL rfl rfl rfl rfl) (h := ?_) | refine dlgN (hv := by exact Val.eqL rfl rfl rfl rfl) (h := ?_) | refine ofN (hv := by exact Val.eqL rfl rfl rfl rfl) (h := ?_)
    rw [decide_eq_true rfl]
    repeat refine w1 (k := ?_)
    by_cases h0 : e = 0
    ·
      subst h0
      simp only [beq_self_eq_true, cond_true]
      repeat refine w1 (k := ?_)
      first | refine ofN (hv := by exact Val.eqB Tryd.underlying4 rfl rfl rfl rfl) (h := ?_) | refine dlN (hv := by exact Val.eqB Tryd.underlying4 rfl rfl rfl rfl) (h := ?_) | refine dlgN (hv := by exact Val.eqB Tryd.underlying4 rfl rfl rfl rfl) (h := ?_) | refine ofN (hv := by exact Val.eqB Tryd.underlying4 rfl rfl rfl rfl) (h := ?_)
      simp only [beq_self_eq_true, cond_true]
      repeat refine w1 (k := ?_)
      simp only [beq_self_eq_true, cond_true]
      repeat refine w1 (k := ?_)
      first | refine ofN (hv := by exact Val.eqB Tryd.underlying4 rfl rfl rfl rfl) (h := ?_) | refine dlN (hv := by exact Val.eqB Tryd.underlying4 rfl rfl rfl rfl) (h := ?_) | refine dlgN (hv := by exact Val.eqB Tryd.underlying4 rfl rfl rfl rfl) (h := ?_) | refine ofN (hv := by exact Val.eqB Tryd.underlying4 rfl rfl rfl rfl) (h := ?_)
      simp only [beq_self_eq_true, cond_true]
      repeat refine w1 (k := ?_)
      refine ⟨[.c _], .cons (.tmp rfl) .nil, ?_⟩
      rfl
    ·
      have hf := he h0
      subst hf
      simp only [beq_self_eq_true, cond_true]
      repeat refine w1 (k := ?_)
      simp only [beq_self_eq_true, cond_true]
      repeat refine w1 (k := ?_)
      first | refine ofN (hv := by exact Val.eqB Tryd.underlying4 rfl rfl rfl rfl) (h := ?_) | refine dlN (hv := by exact Val.eqB Tryd.underlying4 rfl rfl rfl rfl) (h := ?_) | refine dlgN (hv := by exact Val.eqB Tryd.underlying4 rfl rfl rfl rfl) (h := ?_) | refine ofN (hv := by exact Val.eqB Tryd.underlying4 rfl rfl rfl rfl) (h := ?_)
      rw [show (decide (((0 : Nat) : Int) > ((0 : Nat) : Int)) == false) = true by decide]
      repeat refine w1 (k := ?_)
      simp only [beq_self_eq_true, cond_true]
      repeat refine w1 (k := ?_)
      first | refine ofN (hv := by exact Val.eqB Tryd.underlying4 rfl rfl rfl rfl) (h := ?_) | refine dlN (hv := by exact Val.eqB Tryd.underlying4 rfl rfl rfl rfl) (h := ?_) | refine dlgN (hv := by exact Val.eqB Tryd.underlying4 rfl rfl rfl rfl) (h := ?_) | refine ofN (hv := by exact Val.eqB Tryd.underlying4 rfl rfl rfl rfl) (h := ?_)
      simp only [beq_self_eq_true, cond_true]
      repeat refine w1 (k := ?_)
      refine ⟨[.c _], .cons (.tmp rfl) .nil, ?_⟩
      rfl
theorem row_ac {G} {sp : List Sp} {q : Int} (hl : sp.length ≤ maxLen) : AC Tryd.prog G 13 [fro spP sp, vi 8, vi q] [] (fun r os => ∃ ts : List Tk, (∀ t ∈ ts, tOk t) ∧ ts.length ≤ maxLen ∧ r = .c (.own 88 7 ts.length) ∧ find os 88 = some (.row 35 7 (ts.map tkP))) :=
  (set_ac _ sp 8 q hl (by decide) (by decide)).mono fun r os ⟨h1, h2⟩ => ⟨_, fun t ht => set12_tok (set12_ok sp 8 q t ht), Nat.le_trans (set12_len sp 8 q) (by decide), h1, h2⟩
theorem sums_top (sp : List Sp) (ns : List Int) (n : Int) (hl : sp.length ≤ maxLen) (hn : ns.length ≤ maxLen) (ho : ∀ x ∈ ns, i64 x) : AC Tryd.prog GL 8 [fro spP sp, fro (pvI .i64) ns, vi n] [] (fun r _ => r = vb true) := by
  refine AC.body' Tryd.func8 Tryd.ntmps8 rfl ?_
  intro cx hd hG
  refine nrmL (k := ?_)
  repeat refine w1 (k := ?_)
  obtain ⟨w0, fz0, β0, df, G0⟩ := cx
  obtain rfl : G0 = GL := hG
  refine callN (hc := by exact awake_ac) (h := ?_)
  repeat refine w1 (k := ?_)
  refine OpTo.callO (by rfl) (by rfl) (by rfl) (by rfl) (row_ac hl) ?_
  rintro r os' ⟨ts, t1, t2, rfl, hf⟩
  refine ⟨_, .row rfl hf (tkP_ok _ _) (by decide) rfl, ?_⟩
  refine nrm (k := ?_)
  repeat refine w1 (k := ?_)
  first | refine zA 13 (h := ?_) | refine zO 13 (h := ?_) | refine zL 13 (h := ?_) | refine zL3 13 (h := ?_)
  refine callN (hc := by exact sums_ac ts t2 t1) (h := ?_)
  repeat refine w1 (k := ?_)
  refine OpTo.callO (by rfl) (by rfl) (by rfl) (by rfl) (tasks_ac _ ns n hn ho) ?_
  rintro r os' ⟨us, u1, u2, rfl, hg⟩
  refine ⟨_, .row rfl hg (tkP_ok _ _) (by decide) rfl, ?_⟩
  refine nrm (k := ?_)
  repeat refine w1 (k := ?_)
  first | refine zA 19 (h := ?_) | refine zO 19 (h := ?_) | refine zL 19 (h := ?_) | refine zL3 19 (h := ?_)
  refine callN (hc := by exact sums_ac us (by rw [maxLen]; omega) u1) (h := ?_)
  repeat refine w1 (k := ?_)
  refine OpTo.callO (by rfl) (by rfl) (by rfl) (by rfl) (tasks_ac _ ns 40 hn ho) ?_
  rintro r os' ⟨vs, v1, v2, rfl, hk⟩
  refine ⟨_, .row rfl hk (tkP_ok _ _) (by decide) rfl, ?_⟩
  refine nrm (k := ?_)
  repeat refine w1 (k := ?_)
  first | refine zA 24 (h := ?_) | refine zO 24 (h := ?_) | refine zL 24 (h := ?_) | refine zL3 24 (h := ?_)
  refine callN (hc := by exact sums_ac vs (by rw [maxLen]; omega) v1) (h := ?_)
  repeat refine w1 (k := ?_)
  refine callN (hc := by exact sums_ac [] (by rw [maxLen]; simp) (fun t ht => by cases ht)) (h := ?_)
  repeat refine w1 (k := ?_)
  refine ⟨[.c _], .cons (.tmp rfl) .nil, ?_⟩
  rfl
end Go.Proofs.Vl
