/- The row 'LoadOrder', by values. -/
import Derived.Test.YtjpmbklfaoejmaaDoorA3
import Derived.Test.YtjpmbklfaoejmaaDoorH6
set_option linter.all false
set_option maxHeartbeats 8000000
namespace Go.Proofs.Vl
open Go Go.RowKit
attribute [local irreducible] AWp OpTo Run DL Val UN DR AC Le thn inb nog
theorem rev_snoc {l : List Tk} {i : Nat} (hi : i < l.length) : (l.drop (i + 1)).reverse ++ [l[i]] = (l.drop i).reverse := by
  rw [List.drop_eq_getElem_cons hi, List.reverse_cons]
theorem order_ac (l : List Tk) (hl : l.length ≤ 100) (ho : ∀ t ∈ l, tOk t) : AC Tryd.prog GL 16 [fro tkP l] [] (fun r _ => r = vb true) := by
  have hlt : ((l.map tkP).length : Int) = (l.length : Int) := by rw [List.length_map]
  refine AC.body' Tryd.func16 Tryd.ntmps16 rfl ?_
  intro cx hd hG
  refine nrmL (k := ?_)
  repeat refine w1 (k := ?_)
  obtain ⟨w0, fz0, β0, df, G0⟩ := cx
  obtain rfl : G0 = GL := hG
  have hlm : l.length ≤ maxLen := by rw [maxLen]; omega
  have hrm : l.reverse.length ≤ maxLen := by rw [List.length_reverse]; exact hlm
  have hro : ∀ t ∈ l.reverse, tOk t := fun t ht => ho t (List.mem_reverse.1 ht)
  rw [hlt]
  refine seedA 3 26 7 35 (h := ?_)
  refine loopN [(16, 11)] (α := Nat × List Tk) (fun x => [(3, .c (.own 26 7 x.2.length)), (4, vi ((x.1 : Int) - 1))]) (fun x => [(26, .row 35 7 (x.2.map tkP))]) (fun x => x.1) (fun x => x.1 ≤ l.length ∧ x.2 = (l.drop x.1).reverse) (x0 := (l.length, [])) (h0 := by exact ⟨by dsimp only; omega, by simp⟩) (hr := ?_)
  intro x hI
  refine nrmL (k := ?_)
  obtain ⟨i, ts⟩ := x
  dsimp only at hI ⊢
  obtain ⟨h1, h2⟩ := hI
  repeat refine w1 (k := ?_)
  refine condN (h1 := fun h => ?_) (h0 := fun h => ?_)
  ·
    obtain ⟨i, rfl⟩ : ∃ k, i = k + 1 := ⟨i - 1, by omega⟩
    have hj : i < l.length := by omega
    rw [show ((i + 1 : Nat) : Int) - 1 = (i : Int) by omega]
    repeat refine w1 (k := ?_)
    refine litA tkP [l[i]] (h := ?_)
    repeat refine w1 (k := ?_)
    have htl : ts.length ≤ 100 := by rw [h2, List.length_reverse, List.length_drop]; omega
    refine appA 26 64 tkP ts [l[i]] (hb := by simp; omega) (hm := by simp; omega) (h := ?_)
    repeat refine w1 (k := ?_)
    refine ⟨(i, ts ++ [l[i]]), by omega, by exact ⟨by dsimp only; omega, by rw [h2]; exact rev_snoc hj⟩, frg⟩
  ·
    obtain rfl : i = 0 := by omega
    rw [List.drop_zero] at h2
    subst h2
    repeat refine w1 (k := ?_)
    first | refine zA 26 (h := ?_) | refine zO 26 (h := ?_) | refine zL 26 (h := ?_) | refine zL3 26 (h := ?_)
    have r1 := smF_rev l
    have r2 := smF_one l
    have r3 := smF_one l.reverse
    rw [any_rev] at r3
    have r4 := perL_rev l
    refine callN (hc := by exact sum_ac l hlm ho) (h := ?_)
    repeat refine w1 (k := ?_)
    refine callN (hc := by exact sum_ac l.reverse hrm hro) (h := ?_)
    repeat refine w1 (k := ?_)
    refine callN (hc := by exact period_ac _ l hlm ho) (h := ?_)
    repeat refine w1 (k := ?_)
    refine callN (hc := by exact period_ac _ l.reverse hrm hro) (h := ?_)
    repeat refine w1 (k := ?_)
    rw [r4]
    generalize (perL l).isSome = pb
    generalize (perL l).getD 0 = pn
    generalize smF l = g at *
    generalize smF l.reverse = g2 at *
    obtain ⟨f, e⟩ := g
    obtain ⟨f2, e2⟩ := g2
    dsimp only at *
    generalize l.any badB = bb at *
    by_cases h0 : e = 0
    ·
      by_cases h3 : e2 = 0
      ·
        obtain rfl := r1 h0 h3
        repeat refine w1 (k := ?_)
        first | refine ofN (hv := by exact Val.eqL rfl rfl rfl rfl) (h := ?_) | refine dlN (hv := by exact Val.eqL rfl rfl rfl rfl) (h := ?_) | refine dlgN (hv := by exact Val.eqL rfl rfl rfl rfl) (h := ?_) | refine ofN (hv := by exact Val.eqL rfl rfl rfl rfl) (h := ?_)
        rw [decide_eq_true rfl]
        repeat refine w1 (k := ?_)
        first | refine ofN (hv := by exact Val.eqB Tryd.underlying4 rfl rfl rfl rfl) (h := ?_) | refine dlN (hv := by exact Val.eqB Tryd.underlying4 rfl rfl rfl rfl) (h := ?_) | refine dlgN (hv := by exact Val.eqB Tryd.underlying4 rfl rfl rfl rfl) (h := ?_) | refine ofN (hv := by exact Val.eqB Tryd.underlying4 rfl rfl rfl rfl) (h := ?_)
        rw [r2, r3]
        simp only [beq_self_eq_true, cond_true]
        repeat refine w1 (k := ?_)
        simp only [beq_self_eq_true, cond_true]
        repeat refine w1 (k := ?_)
        first | refine ofN (hv := by exact Val.eqB Tryd.underlying4 rfl rfl rfl rfl) (h := ?_) | refine dlN (hv := by exact Val.eqB Tryd.underlying4 rfl rfl rfl rfl) (h := ?_) | refine dlgN (hv := by exact Val.eqB Tryd.underlying4 rfl rfl rfl rfl) (h := ?_) | refine ofN (hv := by exact Val.eqB Tryd.underlying4 rfl rfl rfl rfl) (h := ?_)
        simp only [beq_self_eq_true, cond_true]
        repeat refine w1 (k := ?_)
        refine ⟨[.c _], .cons (.tmp rfl) .nil, ?_⟩
        rfl
      ·
        repeat refine w1 (k := ?_)
        first | refine ofN (hv := by exact Val.eqB Tryd.underlying4 rfl rfl rfl rfl) (h := ?_) | refine dlN (hv := by exact Val.eqB Tryd.underlying4 rfl rfl rfl rfl) (h := ?_) | refine dlgN (hv := by exact Val.eqB Tryd.underlying4 rfl rfl rfl rfl) (h := ?_) | refine ofN (hv := by exact Val.eqB Tryd.underlying4 rfl rfl rfl rfl) (h := ?_)
        rw [r2, r3]
        simp only [beq_self_eq_true, cond_true]
        repeat refine w1 (k := ?_)
        simp only [beq_self_eq_true, cond_true]
        repeat refine w1 (k := ?_)
        first | refine ofN (hv := by exact Val.eqB Tryd.underlying4 rfl rfl rfl rfl) (h := ?_) | refine dlN (hv := by exact Val.eqB Tryd.underlying4 rfl rfl rfl rfl) (h := ?_) | refine dlgN (hv := by exact Val.eqB Tryd.underlying4 rfl rfl rfl rfl) (h := ?_) | refine ofN (hv := by exact Val.eqB Tryd.underlying4 rfl rfl rfl rfl) (h := ?_)
        simp only [beq_self_eq_true, cond_true]
        repeat refine w1 (k := ?_)
        refine ⟨[.c _], .cons (.tmp rfl) .nil, ?_⟩
        rfl
    ·
      repeat refine w1 (k := ?_)
      first | refine ofN (hv := by exact Val.eqB Tryd.underlying4 rfl rfl rfl rfl) (h := ?_) | refine dlN (hv := by exact Val.eqB Tryd.underlying4 rfl rfl rfl rfl) (h := ?_) | refine dlgN (hv := by exact Val.eqB Tryd.underlying4 rfl rfl rfl rfl) (h := ?_) | refine ofN (hv := by exact Val.eqB Tryd.underlying4 rfl rfl rfl rfl) (h := ?_)
      rw [r2, r3]
      simp only [beq_self_eq_true, cond_true]
      repeat refine w1 (k := ?_)
      simp only [beq_self_eq_true, cond_true]
      repeat refine w1 (k := ?_)
      first | refine ofN (hv := by exact Val.eqB Tryd.underlying4 rfl rfl rfl rfl) (h := ?_) | refine dlN (hv := by exact Val.eqB Tryd.underlying4 rfl rfl rfl rfl) (h := ?_) | refine dlgN (hv := by exact Val.eqB Tryd.underlying4 rfl rfl rfl rfl) (h := ?_) | refine ofN (hv := by exact Val.eqB Tryd.underlying4 rfl rfl rfl rfl) (h := ?_)
      simp only [beq_self_eq_true, cond_true]
      repeat refine w1 (k := ?_)
      refine ⟨[.c _], .cons (.tmp rfl) .nil, ?_⟩
      rfl
theorem row1_ac {G} {sp : List Sp} {q : Int} (hl : sp.length ≤ maxLen) : AC Tryd.prog G 13 [fro spP sp, vi 8, vi q] [] (fun r os => ∃ ts : List Tk, (∀ t ∈ ts, tOk t) ∧ ts.length ≤ 100 ∧ r = .c (.own 88 7 ts.length) ∧ find os 88 = some (.row 35 7 (ts.map tkP))) :=
  (set_ac _ sp 8 q hl (by decide) (by decide)).mono fun r os ⟨h1, h2⟩ => ⟨_, fun t ht => set12_tok (set12_ok sp 8 q t ht), Nat.le_trans (set12_len sp 8 q) (by decide), h1, h2⟩
theorem order_top (sp : List Sp) (ns : List Int) (hl : sp.length ≤ maxLen) (hn : ns.length ≤ maxLen) (ho : ∀ x ∈ ns, i64 x) : AC Tryd.prog GL 5 [fro spP sp, fro (pvI .i64) ns] [] (fun r _ => r = vb true) := by
  refine AC.body' Tryd.func5 Tryd.ntmps5 rfl ?_
  intro cx hd hG
  refine nrmL (k := ?_)
  repeat refine w1 (k := ?_)
  obtain ⟨w0, fz0, β0, df, G0⟩ := cx
  obtain rfl : G0 = GL := hG
  refine callN (hc := by exact awake_ac) (h := ?_)
  repeat refine w1 (k := ?_)
  refine OpTo.callO (by rfl) (by rfl) (by rfl) (by rfl) (row1_ac hl) ?_
  rintro r os' ⟨ts, t1, t2, rfl, hf⟩
  refine ⟨_, .row rfl hf (tkP_ok _ _) (by decide) rfl, ?_⟩
  refine nrm (k := ?_)
  repeat refine w1 (k := ?_)
  first | refine zA 10 (h := ?_) | refine zO 10 (h := ?_) | refine zL 10 (h := ?_) | refine zL3 10 (h := ?_)
  refine callN (hc := by exact order_ac ts t2 t1) (h := ?_)
  repeat refine w1 (k := ?_)
  refine OpTo.callO (by rfl) (by rfl) (by rfl) (by rfl) (tasks_ac _ ns 44 hn ho) ?_
  rintro r os' ⟨us, u1, u2, rfl, hg⟩
  refine ⟨_, .row rfl hg (tkP_ok _ _) (by decide) rfl, ?_⟩
  refine nrm (k := ?_)
  repeat refine w1 (k := ?_)
  first | refine zA 15 (h := ?_) | refine zO 15 (h := ?_) | refine zL 15 (h := ?_) | refine zL3 15 (h := ?_)
  refine callN (hc := by exact order_ac us (by omega) u1) (h := ?_)
  repeat refine w1 (k := ?_)
  refine ⟨[.c _], .cons (.tmp rfl) .nil, ?_⟩
  rfl
end Go.Proofs.Vl
