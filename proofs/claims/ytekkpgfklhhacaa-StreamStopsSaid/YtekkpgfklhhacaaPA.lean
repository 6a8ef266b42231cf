/- The document's merge. -/
import Derived.Test.YtekkpgfklhhacaaP8
set_option linter.all false
set_option maxRecDepth 2000
set_option maxHeartbeats 8000000
namespace Go.Proofs.Vl
open Go Go.RowKit
attribute [local irreducible] AWp OpTo Run DL Val UN DR AC Le thn inb nog
def pvNn (n : Nat) : List PV := [.s (.int .i64 (n : Int))]
theorem sumL_le {α : Type} (n : Nat) : ∀ {left : List (List α)}, (∀ l ∈ left, l.length ≤ n) → sumL left ≤ left.length * n
  | [], _ => Nat.zero_le _
  | l :: left, h => by
    have ih := sumL_le n (left := left) (fun q hq => h q (List.mem_cons_of_mem _ hq))
    have := h l List.mem_cons_self
    simp only [sumL, List.map_cons, List.sum_cons, List.length_cons, Nat.succ_mul] at ih ⊢
    omega
structure Dr (rows left : List (List It)) (ats : List Nat) : Prop where
  l1 : left.length = rows.length
  l2 : ats.length = rows.length
  at_ : ∀ (i : Nat) (h : i < rows.length), left[i]'(by omega) = rows[i].drop (ats[i]'(by omega)) ∧ ats[i]'(by omega) ≤ rows[i].length
theorem Dr.set {rows left : List (List It)} {ats : List Nat} (h : Dr rows left ats) {b : Nat} {c : It} {r : List It} (hb : b < rows.length) (hl : left[b]? = some (c :: r)) : Dr rows (left.set b r) (ats.set b (ats[b]'(by have := h.l2; omega) + 1)) := by
  have h1 := h.l1
  have h2 := h.l2
  refine ⟨by simp [h1], by simp [h2], fun i hi => ?_⟩
  by_cases e : b = i
  · subst e
    obtain ⟨g1, g2⟩ := h.at_ b hb
    obtain ⟨g3, g4⟩ := List.getElem?_eq_some_iff.1 hl
    rw [g4] at g1
    have hlt : ats[b] < rows[b].length := by
      refine Nat.lt_of_not_le fun hk => ?_
      rw [List.drop_eq_nil_of_le hk] at g1; cases g1
    rw [List.drop_eq_getElem_cons hlt] at g1
    simp only [List.getElem_set_self]
    exact ⟨(List.cons.inj g1).2, hlt⟩
  · simp only [List.getElem_set_ne e]
    exact h.at_ i hi
theorem refm_ac (G) (rows : List (List It)) (hr : rows.length ≤ 1000) (hl : ∀ l ∈ rows, l.length ≤ 1000) : AC Try.prog G 26 [fro (slP itP) rows] [] (fun r os => r = .c (.own 44 2 (mrgL ltT rows).length) ∧ find os 44 = some (.row 32 2 ((mrgL ltT rows).map itP))) := by
  refine AC.body' Try.func26 Try.ntmps26 rfl ?_
  intro cx hd hG
  refine nrmL (k := ?_)
  repeat refine w1 (k := ?_)
  obtain ⟨w0, fz0, β0, df, G0⟩ := cx
  obtain rfl : G0 = G := hG
  rw [List.length_map]
  refine OpTo.makeN (sz := 1) (by_ := 8) pvNn (0 : Nat) rows.length rfl rfl (by decide) (by decide) (.inl rfl) rfl rfl rfl rfl rfl (Int.le_refl _) (by omega) (by omega) (by decide) rfl rfl ?_
  refine nrm (k := ?_)
  repeat refine w1 (k := ?_)
  refine seedA 4 44 2 32 (h := ?_)
  have hsum : (mrgL ltT rows).length ≤ 1000000 := by
    unfold mrgL
    rw [mrg_len _ _ rfl]
    exact Nat.le_trans (sumL_le 1000 hl) (Nat.mul_le_mul_right 1000 hr)
  refine loopN [(2, 1), (5, 2), (10, 68)] (α := List (List It) × List Nat × List It) (fun y => [(4, .c (.own 44 2 y.2.2.length))]) (fun y => [(9, .row 3 1 (y.2.1.map pvNn)), (44, .row 32 2 (y.2.2.map itP))]) (fun y => sumL y.1) (fun y => Dr rows y.1 y.2.1 ∧ y.2.2 ++ mrgF ltT (sumL y.1) y.1 = mrgL ltT rows) (x0 := (rows, List.replicate rows.length 0, [])) (h0 := by exact ⟨⟨rfl, by simp, fun i hi => by simp⟩, rfl⟩) (hr := ?_)
  intro y hI
  refine nrmL (k := ?_)
  obtain ⟨left, ats, out⟩ := y
  obtain ⟨hD, h3⟩ := hI
  dsimp only at hD h3
  have l1 := hD.l1
  have l2 := hD.l2
  have hol : out.length ≤ 1000000 := by
    have := congrArg List.length h3
    rw [List.length_append] at this; omega
  repeat refine w1 (k := ?_)
  refine loopN [(10, 46)] (α := Nat) (fun k => [(5, vi (bI (bestF ltT left k))), (6, vi (k : Int))]) (fun k => [(9, .row 3 1 (ats.map pvNn)), (44, .row 32 2 (out.map itP))]) (fun k => rows.length - k) (fun k => k ≤ rows.length) (x0 := 0) (h0 := by first | omega | simp | (refine ⟨?_, ?_⟩ <;> first | omega | simp)) (hr := ?_)
  intro k hI
  refine nrmL (k := ?_)
  repeat refine w1 (k := ?_)
  refine condN (h1 := fun h => ?_) (h0 := fun h => ?_)
  ·
    have hk : k < rows.length := by omega
    have hka : k < ats.length := by omega
    have hkl : k < left.length := by omega
    obtain ⟨d1, d2⟩ := hD.at_ k hk
    have hrk := hl _ (List.getElem_mem hk)
    repeat refine w1 (k := ?_)
    first | refine ofN (hv := by exact Val.ldR (j := k) (c := 0) (.s (.int .i64 (ats[k] : Int))) rfl rfl rfl rfl hka rfl) (h := ?_) | refine dlN (hv := by exact Val.ldR (j := k) (c := 0) (.s (.int .i64 (ats[k] : Int))) rfl rfl rfl rfl hka rfl) (h := ?_) | refine dlgN (hv := by exact Val.ldR (j := k) (c := 0) (.s (.int .i64 (ats[k] : Int))) rfl rfl rfl rfl hka rfl) (h := ?_) | refine ofN (hv := by exact Val.ldR (j := k) (c := 0) (.s (.int .i64 (ats[k] : Int))) rfl rfl rfl rfl hka rfl) (h := ?_)
    repeat refine w1 (k := ?_)
    simp only [List.length_map]
    repeat refine w1 (k := ?_)
    by_cases c : ats[k] < rows[k].length
    ·
      rw [show decide ((ats[k] : Int) < (rows[k].length : Int)) = true from decide_eq_true (by omega)]
      rw [List.drop_eq_getElem_cons c] at d1
      cases hb : bestF ltT left k with
      | none =>
        have e : bestF ltT left (k + 1) = some k := by rw [bestF, List.getElem?_eq_getElem hkl, d1]; dsimp only; rw [hb]
        dsimp only [bI]
        repeat refine w1 (k := ?_)
        refine ⟨k + 1, by omega, by first | omega | (refine ⟨?_, ?_⟩ <;> omega), ?_⟩
        rw [e]
        exact frg
      | some b =>
        obtain ⟨g1, c, r2, g2⟩ := bestF_some hb
        have e : bestF ltT left (k + 1) = if ltT rows[k][ats[k]] c then some k else some b := by rw [bestF, List.getElem?_eq_getElem hkl, d1]; dsimp only; rw [hb]; dsimp only; rw [g2]
        have hbr : b < rows.length := by omega
        have hba : b < ats.length := by omega
        obtain ⟨d3, d4⟩ := hD.at_ b hbr
        obtain ⟨g3, g4⟩ := List.getElem?_eq_some_iff.1 g2
        rw [g4] at d3
        have hlt : ats[b] < rows[b].length := by
          refine Nat.lt_of_not_le fun hk => ?_
          rw [List.drop_eq_nil_of_le hk] at d3; cases d3
        rw [List.drop_eq_getElem_cons hlt] at d3
        have hc := (List.cons.inj d3).1
        dsimp only [bI]
        repeat refine w1 (k := ?_)
        rw [show decide ((b : Int) < 0) = false from decide_eq_false (by omega)]
        repeat refine w1 (k := ?_)
        first | refine ofN (hv := by exact Val.ldR (j := k) (c := 0) (.s (.int .i64 (ats[k] : Int))) rfl rfl rfl rfl hka rfl) (h := ?_) | refine dlN (hv := by exact Val.ldR (j := k) (c := 0) (.s (.int .i64 (ats[k] : Int))) rfl rfl rfl rfl hka rfl) (h := ?_) | refine dlgN (hv := by exact Val.ldR (j := k) (c := 0) (.s (.int .i64 (ats[k] : Int))) rfl rfl rfl rfl hka rfl) (h := ?_) | refine ofN (hv := by exact Val.ldR (j := k) (c := 0) (.s (.int .i64 (ats[k] : Int))) rfl rfl rfl rfl hka rfl) (h := ?_)
        repeat refine w1 (k := ?_)
        first | refine ofN (hv := by exact Val.ldR (j := b) (c := 0) (.s (.int .i64 (ats[b] : Int))) rfl rfl rfl rfl hba rfl) (h := ?_) | refine dlN (hv := by exact Val.ldR (j := b) (c := 0) (.s (.int .i64 (ats[b] : Int))) rfl rfl rfl rfl hba rfl) (h := ?_) | refine dlgN (hv := by exact Val.ldR (j := b) (c := 0) (.s (.int .i64 (ats[b] : Int))) rfl rfl rfl rfl hba rfl) (h := ?_) | refine ofN (hv := by exact Val.ldR (j := b) (c := 0) (.s (.int .i64 (ats[b] : Int))) rfl rfl rfl rfl hba rfl) (h := ?_)
        repeat refine w1 (k := ?_)
        refine condN (h1 := fun hac => ?_) (h0 := fun hac => ?_)
        ·
          rw [if_pos (by rw [hc]; exact decide_eq_true hac)] at e
          repeat refine w1 (k := ?_)
          refine ⟨k + 1, by omega, by first | omega | (refine ⟨?_, ?_⟩ <;> omega), ?_⟩
          rw [e]
          exact frg
        ·
          rw [if_neg (by rw [hc]; simp only [ltT, decide_eq_true_eq]; omega)] at e
          repeat refine w1 (k := ?_)
          refine ⟨k + 1, by omega, by first | omega | (refine ⟨?_, ?_⟩ <;> omega), ?_⟩
          rw [e]
          exact frg
    ·
      rw [show decide ((ats[k] : Int) < (rows[k].length : Int)) = false from decide_eq_false (by omega)]
      have e : bestF ltT left (k + 1) = bestF ltT left k := by
        rw [bestF, List.getElem?_eq_getElem hkl, d1, List.drop_eq_nil_of_le (by omega)]
      repeat refine w1 (k := ?_)
      refine ⟨k + 1, by omega, by first | omega | (refine ⟨?_, ?_⟩ <;> omega), ?_⟩
      rw [e]
      exact frg
  ·
    repeat refine w1 (k := ?_)
    have hkl : k = left.length := by omega
    subst hkl
    cases hb : bestF ltT left left.length with
    | none =>
      dsimp only [bI]
      repeat refine w1 (k := ?_)
      rw [step_none (step_no hb), List.append_nil] at h3
      rw [← h3]
      exact ⟨[.c _], .cons (.tmp rfl) .nil, rfl, rfl⟩
    | some b =>
      obtain ⟨g1, c, r2, g2⟩ := bestF_some hb
      have hbr : b < rows.length := by omega
      have hba : b < ats.length := by omega
      obtain ⟨d3, d4⟩ := hD.at_ b hbr
      obtain ⟨g3, g4⟩ := List.getElem?_eq_some_iff.1 g2
      rw [g4] at d3
      have hrb := hl _ (List.getElem_mem hbr)
      have hlt : ats[b] < rows[b].length := by
        refine Nat.lt_of_not_le fun hk => ?_
        rw [List.drop_eq_nil_of_le hk] at d3; cases d3
      rw [List.drop_eq_getElem_cons hlt] at d3
      have hc := (List.cons.inj d3).1
      rw [mrg_cons hb g2] at h3
      have hs := sumL_set g2
      have hD2 := hD.set hbr g2
      dsimp only [bI]
      repeat refine w1 (k := ?_)
      (first | refine DL.takeT 0 rfl (by decide +kernel) rfl (Val.move rfl) ?_ | refine DL.takeT 0 rfl (by decide +kernel) rfl (Val.ixON rfl rfl rfl rfl rfl (by omega)) ?_ | refine DL.takeT 0 rfl (by decide +kernel) rfl (Val.ixN rfl rfl rfl rfl rfl (by omega) (by intro _; rfl)) ?_ | refine DL.takeT 0 rfl (by decide +kernel) rfl (Val.ldF rfl rfl rfl rfl) ?_ | refine DL.takeT 0 rfl (by decide +kernel) rfl (Val.ev2 rfl) ?_)
      refine nrm (k := ?_)
      (first | refine DL.takeT 0 rfl (by decide +kernel) rfl (Val.move rfl) ?_ | refine DL.takeT 0 rfl (by decide +kernel) rfl (Val.ixON rfl rfl rfl rfl rfl (by omega)) ?_ | refine DL.takeT 0 rfl (by decide +kernel) rfl (Val.ixN rfl rfl rfl rfl rfl (by omega) (by intro _; rfl)) ?_ | refine DL.takeT 0 rfl (by decide +kernel) rfl (Val.ldF rfl rfl rfl rfl) ?_ | refine DL.takeT 0 rfl (by decide +kernel) rfl (Val.ev2 rfl) ?_)
      refine nrm (k := ?_)
      (first | refine DL.takeT 0 rfl (by decide +kernel) rfl (Val.move rfl) ?_ | refine DL.takeT 0 rfl (by decide +kernel) rfl (Val.ixON rfl rfl rfl rfl rfl (by omega)) ?_ | refine DL.takeT 0 rfl (by decide +kernel) rfl (Val.ixN rfl rfl rfl rfl rfl (by omega) (by intro _; rfl)) ?_ | refine DL.takeT 0 rfl (by decide +kernel) rfl (Val.ldF rfl rfl rfl rfl) ?_ | refine DL.takeT 0 rfl (by decide +kernel) rfl (Val.ev2 rfl) ?_)
      refine nrm (k := ?_)
      (first | refine DL.takeT 0 rfl (by decide +kernel) rfl (Val.move rfl) ?_ | refine DL.takeT 0 rfl (by decide +kernel) rfl (Val.ixON rfl rfl rfl rfl rfl (by omega)) ?_ | refine DL.takeT 0 rfl (by decide +kernel) rfl (Val.ixN rfl rfl rfl rfl rfl (by omega) (by intro _; rfl)) ?_ | refine DL.takeT 0 rfl (by decide +kernel) rfl (Val.ldF rfl rfl rfl rfl) ?_ | refine DL.takeT 0 rfl (by decide +kernel) rfl (Val.ev2 rfl) ?_)
      refine nrm (k := ?_)
      (first | refine DL.takeT 0 rfl (by decide +kernel) rfl (Val.move rfl) ?_ | refine DL.takeT 0 rfl (by decide +kernel) rfl (Val.ixON rfl rfl rfl rfl rfl (by omega)) ?_ | refine DL.takeT 0 rfl (by decide +kernel) rfl (Val.ixN rfl rfl rfl rfl rfl (by omega) (by intro _; rfl)) ?_ | refine DL.takeT 0 rfl (by decide +kernel) rfl (Val.ldF rfl rfl rfl rfl) ?_ | refine DL.takeT 0 rfl (by decide +kernel) rfl (Val.ev2 rfl) ?_)
      refine nrm (k := ?_)
      (first | refine DL.takeT 0 rfl (by decide +kernel) rfl (Val.move rfl) ?_ | refine DL.takeT 0 rfl (by decide +kernel) rfl (Val.ixON rfl rfl rfl rfl rfl (by omega)) ?_ | refine DL.takeT 0 rfl (by decide +kernel) rfl (Val.ixN rfl rfl rfl rfl rfl (by omega) (by intro _; rfl)) ?_ | refine DL.takeT 0 rfl (by decide +kernel) rfl (Val.ldF rfl rfl rfl rfl) ?_ | refine DL.takeT 0 rfl (by decide +kernel) rfl (Val.ev2 rfl) ?_)
      refine nrm (k := ?_)
      (first | refine DL.takeT 0 rfl (by decide +kernel) rfl (Val.move rfl) ?_ | refine DL.takeT 0 rfl (by decide +kernel) rfl (Val.ixON rfl rfl rfl rfl rfl (by omega)) ?_ | refine DL.takeT 0 rfl (by decide +kernel) rfl (Val.ixN rfl rfl rfl rfl rfl (by omega) (by intro _; rfl)) ?_ | refine DL.takeT 0 rfl (by decide +kernel) rfl (Val.ldF rfl rfl rfl rfl) ?_ | refine DL.takeT 0 rfl (by decide +kernel) rfl (Val.ev2 rfl) ?_)
      refine nrm (k := ?_)
      refine DL.takeT 0 rfl (by decide +kernel) rfl (Val.ldR (j := b) (c := 0) (f := pvNn) (l := ats) (.s (.int .i64 (ats[b] : Int))) rfl rfl rfl rfl hba rfl) ?_
      refine nrm (k := ?_)
      (first | refine DL.takeT 0 rfl (by decide +kernel) rfl (Val.move rfl) ?_ | refine DL.takeT 0 rfl (by decide +kernel) rfl (Val.ixON rfl rfl rfl rfl rfl (by omega)) ?_ | refine DL.takeT 0 rfl (by decide +kernel) rfl (Val.ixN rfl rfl rfl rfl rfl (by omega) (by intro _; rfl)) ?_ | refine DL.takeT 0 rfl (by decide +kernel) rfl (Val.ldF rfl rfl rfl rfl) ?_ | refine DL.takeT 0 rfl (by decide +kernel) rfl (Val.ev2 rfl) ?_)
      refine nrm (k := ?_)
      (first | refine DL.takeT 0 rfl (by decide +kernel) rfl (Val.move rfl) ?_ | refine DL.takeT 0 rfl (by decide +kernel) rfl (Val.ixON rfl rfl rfl rfl rfl (by omega)) ?_ | refine DL.takeT 0 rfl (by decide +kernel) rfl (Val.ixN rfl rfl rfl rfl rfl (by omega) (by intro _; rfl)) ?_ | refine DL.takeT 0 rfl (by decide +kernel) rfl (Val.ldF rfl rfl rfl rfl) ?_ | refine DL.takeT 0 rfl (by decide +kernel) rfl (Val.ev2 rfl) ?_)
      refine nrm (k := ?_)
      repeat refine w1 (k := ?_)
      rw [← hc]
      refine litA itP [c] (h := ?_)
      repeat refine w1 (k := ?_)
      refine appA 44 16 itP out [c] (hb := by simp; omega) (hm := by simp; omega) (h := ?_)
      repeat refine w1 (k := ?_)
      first | refine ofN (hv := by exact Val.ldR (j := b) (c := 0) (.s (.int .i64 (ats[b] : Int))) rfl rfl rfl rfl hba rfl) (h := ?_) | refine dlN (hv := by exact Val.ldR (j := b) (c := 0) (.s (.int .i64 (ats[b] : Int))) rfl rfl rfl rfl hba rfl) (h := ?_) | refine dlgN (hv := by exact Val.ldR (j := b) (c := 0) (.s (.int .i64 (ats[b] : Int))) rfl rfl rfl rfl hba rfl) (h := ?_) | refine ofN (hv := by exact Val.ldR (j := b) (c := 0) (.s (.int .i64 (ats[b] : Int))) rfl rfl rfl rfl hba rfl) (h := ?_)
      repeat refine w1 (k := ?_)
      refine OpTo.stRN (sz := 1) (j := b) (c := 0) (f := pvNn) (l := ats) (ats[b] + 1) rfl rfl rfl hba rfl rfl (by kernel_rfl) (Nat.le_refl _) rfl ?_
      refine nrm (k := ?_)
      repeat refine w1 (k := ?_)
      refine ⟨(left.set b r2, ats.set b (ats[b] + 1), out ++ [c]), by dsimp only; omega, by exact ⟨hD2, by dsimp only; rw [List.append_assoc]; exact h3⟩, frg⟩
