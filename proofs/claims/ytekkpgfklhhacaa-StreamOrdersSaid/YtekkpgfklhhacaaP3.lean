/- stream.Merge of numbers. -/
import Derived.Test.YtekkpgfklhhacaaP2
set_option linter.all false
set_option maxRecDepth 2000
set_option maxHeartbeats 8000000
namespace Go.Proofs.Vl
open Go Go.RowKit
attribute [local irreducible] AWp OpTo Run DL Val UN DR AC Le thn inb nog
def slP {α : Type} (f : α → List PV) (l : List α) : List PV := [.fro (l.map f)]
theorem slP_ok {α : Type} (f : α → List PV) (rows : List (List α)) (m : Bool) (h : m = true) : ∀ cs ∈ rows.map (slP f), ∀ x ∈ cs, pvOk m x = true := by
  subst h; intro cs _ x _; rfl
theorem cloneI_ac (G) (rows : List (List Int)) (hl : rows.length ≤ 1000) : AC Try.prog G 41 [fro (slP (pvI .i64)) rows] [] (fun r os => r = .c (.own 5 1 rows.length) ∧ find os 5 = some (.row 40 1 (rows.map (slP (pvI .i64))))) := by
  refine AC.body' Try.func41 Try.ntmps41 rfl ?_
  intro cx hd hG
  refine nrmL (k := ?_)
  repeat refine w1 (k := ?_)
  refine OpTo.nilS rfl rfl Try.underlying22 fun b hb => ?_
  refine nrm (k := ?_)
  cases b
  ·
    repeat refine w1 (k := ?_)
    refine litA (slP (pvI .i64)) [] (h := ?_)
    repeat refine w1 (k := ?_)
    refine appA 5 24 (slP (pvI .i64)) [] rows (h := ?_)
    repeat refine w1 (k := ?_)
    exact ⟨[.c _], .cons (.tmp rfl) .nil, rfl, rfl⟩
  ·
    have h0 : rows = [] := by
      cases rows with
      | nil => rfl
      | cons a l => cases hb (by simp)
    subst h0
    first | ((iterate 2 (refine w1 (k := ?_))); refine seedA 2 5 1 40 (h := ?_); (repeat (refine w1 (k := ?_))); exact ⟨[.c _], .cons (.tmp rfl) .nil, rfl, rfl⟩) | ((iterate 3 (refine w1 (k := ?_))); refine seedA 2 5 1 40 (h := ?_); (repeat (refine w1 (k := ?_))); exact ⟨[.c _], .cons (.tmp rfl) .nil, rfl, rfl⟩) | ((iterate 4 (refine w1 (k := ?_))); refine seedA 2 5 1 40 (h := ?_); (repeat (refine w1 (k := ?_))); exact ⟨[.c _], .cons (.tmp rfl) .nil, rfl, rfl⟩) | ((iterate 5 (refine w1 (k := ?_))); refine seedA 2 5 1 40 (h := ?_); (repeat (refine w1 (k := ?_))); exact ⟨[.c _], .cons (.tmp rfl) .nil, rfl, rfl⟩) | ((iterate 6 (refine w1 (k := ?_))); refine seedA 2 5 1 40 (h := ?_); (repeat (refine w1 (k := ?_))); exact ⟨[.c _], .cons (.tmp rfl) .nil, rfl, rfl⟩) | ((iterate 7 (refine w1 (k := ?_))); refine seedA 2 5 1 40 (h := ?_); (repeat (refine w1 (k := ?_))); exact ⟨[.c _], .cons (.tmp rfl) .nil, rfl, rfl⟩) | ((iterate 8 (refine w1 (k := ?_))); refine seedA 2 5 1 40 (h := ?_); (repeat (refine w1 (k := ?_))); exact ⟨[.c _], .cons (.tmp rfl) .nil, rfl, rfl⟩) | ((iterate 9 (refine w1 (k := ?_))); refine seedA 2 5 1 40 (h := ?_); (repeat (refine w1 (k := ?_))); exact ⟨[.c _], .cons (.tmp rfl) .nil, rfl, rfl⟩) | ((iterate 10 (refine w1 (k := ?_))); refine seedA 2 5 1 40 (h := ?_); (repeat (refine w1 (k := ?_))); exact ⟨[.c _], .cons (.tmp rfl) .nil, rfl, rfl⟩) | ((iterate 11 (refine w1 (k := ?_))); refine seedA 2 5 1 40 (h := ?_); (repeat (refine w1 (k := ?_))); exact ⟨[.c _], .cons (.tmp rfl) .nil, rfl, rfl⟩) | ((iterate 12 (refine w1 (k := ?_))); refine seedA 2 5 1 40 (h := ?_); (repeat (refine w1 (k := ?_))); exact ⟨[.c _], .cons (.tmp rfl) .nil, rfl, rfl⟩) | ((iterate 13 (refine w1 (k := ?_))); refine seedA 2 5 1 40 (h := ?_); (repeat (refine w1 (k := ?_))); exact ⟨[.c _], .cons (.tmp rfl) .nil, rfl, rfl⟩)
def mgI : Nat := 40
theorem mergeI_ac (G) (f : Nat) (rows : List (List Int)) : AC Try.prog G 23 [.c (.fn f []), fro (slP (pvI .i64)) rows] [] (fun r _ => r = .c (.fn mgI [.fz [.fro (rows.map (slP (pvI .i64)))], .fz [fnv f]])) := by
  refine AC.body' Try.func23 Try.ntmps23 rfl ?_
  intro cx hd hG
  refine nrmL (k := ?_)
  refine AWp.weak (Le.slot 0 rfl (fnv_of f)) ?_
  refine nrmL (k := ?_)
  first | ((iterate 4 (refine w1 (k := ?_))); (first | refine zbA 3 (h := ?_) | refine zbO 3 (h := ?_)); (first | refine zbA 2 (h := ?_) | refine zbO 2 (h := ?_)); (repeat (refine w1 (k := ?_))); exact ⟨[.c _], .cons (.tmp rfl) .nil, rfl⟩) | ((iterate 5 (refine w1 (k := ?_))); (first | refine zbA 3 (h := ?_) | refine zbO 3 (h := ?_)); (first | refine zbA 2 (h := ?_) | refine zbO 2 (h := ?_)); (repeat (refine w1 (k := ?_))); exact ⟨[.c _], .cons (.tmp rfl) .nil, rfl⟩) | ((iterate 6 (refine w1 (k := ?_))); (first | refine zbA 3 (h := ?_) | refine zbO 3 (h := ?_)); (first | refine zbA 2 (h := ?_) | refine zbO 2 (h := ?_)); (repeat (refine w1 (k := ?_))); exact ⟨[.c _], .cons (.tmp rfl) .nil, rfl⟩) | ((iterate 7 (refine w1 (k := ?_))); (first | refine zbA 3 (h := ?_) | refine zbO 3 (h := ?_)); (first | refine zbA 2 (h := ?_) | refine zbO 2 (h := ?_)); (repeat (refine w1 (k := ?_))); exact ⟨[.c _], .cons (.tmp rfl) .nil, rfl⟩) | ((iterate 8 (refine w1 (k := ?_))); (first | refine zbA 3 (h := ?_) | refine zbO 3 (h := ?_)); (first | refine zbA 2 (h := ?_) | refine zbO 2 (h := ?_)); (repeat (refine w1 (k := ?_))); exact ⟨[.c _], .cons (.tmp rfl) .nil, rfl⟩) | ((iterate 9 (refine w1 (k := ?_))); (first | refine zbA 3 (h := ?_) | refine zbO 3 (h := ?_)); (first | refine zbA 2 (h := ?_) | refine zbO 2 (h := ?_)); (repeat (refine w1 (k := ?_))); exact ⟨[.c _], .cons (.tmp rfl) .nil, rfl⟩) | ((iterate 10 (refine w1 (k := ?_))); (first | refine zbA 3 (h := ?_) | refine zbO 3 (h := ?_)); (first | refine zbA 2 (h := ?_) | refine zbO 2 (h := ?_)); (repeat (refine w1 (k := ?_))); exact ⟨[.c _], .cons (.tmp rfl) .nil, rfl⟩) | ((iterate 11 (refine w1 (k := ?_))); (first | refine zbA 3 (h := ?_) | refine zbO 3 (h := ?_)); (first | refine zbA 2 (h := ?_) | refine zbO 2 (h := ?_)); (repeat (refine w1 (k := ?_))); exact ⟨[.c _], .cons (.tmp rfl) .nil, rfl⟩) | ((iterate 12 (refine w1 (k := ?_))); (first | refine zbA 3 (h := ?_) | refine zbO 3 (h := ?_)); (first | refine zbA 2 (h := ?_) | refine zbO 2 (h := ?_)); (repeat (refine w1 (k := ?_))); exact ⟨[.c _], .cons (.tmp rfl) .nil, rfl⟩) | ((iterate 13 (refine w1 (k := ?_))); (first | refine zbA 3 (h := ?_) | refine zbO 3 (h := ?_)); (first | refine zbA 2 (h := ?_) | refine zbO 2 (h := ?_)); (repeat (refine w1 (k := ?_))); exact ⟨[.c _], .cons (.tmp rfl) .nil, rfl⟩)
def yI (l : List Int) : List YV := l.map fun (m : Int) => ⟨[vi m], none⟩
theorem yI_len (l : List Int) : (yI l).length = l.length := by simp [yI]
theorem yI_at (l : List Int) (i : Nat) (h : i < l.length) : (yI l)[i]? = some ⟨[vi l[i]], none⟩ := by simp [yI, h]
theorem yI_get {l : List Int} {i : Nat} {y : YV} (h : (yI l)[i]? = some y) : ∃ hi : i < l.length, y = ⟨[vi l[i]], none⟩ := by
  have hi : i < l.length := by have := (List.getElem?_eq_some_iff.1 h).1; rwa [yI_len] at this
  rw [yI_at l i hi] at h
  exact ⟨hi, (Option.some.inj h).symm⟩
theorem sl_at {α : Type} (f : α → List PV) (left : List (List α)) (b : Nat) (h : b < left.length) : (slP f left[b])[0]? = some (.fro (left[b].map f)) := rfl
def bI : Option Nat → Int
  | none => -1
  | some b => b
theorem mergeI_it (G) (f : Nat) (hf : isFn Try.prog f = true) (lt : Int → Int → Bool) (hlt : ∀ a c, AC Try.prog G f [vi a, vi c] [] (fun r _ => r = vb (lt a c))) (rows : List (List Int)) (hr : rows.length ≤ 1000) (hl : ∀ l ∈ rows, l.length ≤ 1000) : IC Try.prog G mgI [.c (.eptr [.fro (rows.map (slP (pvI .i64)))]), .c (.eptr [fnv f])] (yI (mrgL lt rows)) := by
  unfold IC
  refine GC.body Try.func40 Try.ntmps40 rfl (fun _ => rfl) ?_
  intro cx l J Jx hd hG hrd hml hbs hrr hR
  obtain ⟨w0, fz0, β0, df, G0, rd, rr, ml, bs⟩ := cx
  dsimp only at hd hG hrd hml hbs hrr hR
  subst hd hG hrd hml hbs hrr
  refine nrmL (k := ?_)
  repeat refine w1 (k := ?_)
  refine OpTo.callAO (by rfl) (by rfl) (by rfl) (by rfl) (cloneI_ac _ rows hr) ?_
  rintro r os' ⟨rfl, hfo⟩
  refine ⟨_, .row rfl hfo (slP_ok _ _ _ rfl) (by decide) rfl, ?_⟩
  refine nrm (k := ?_)
  simp only [show ((TK : Nat) == 9) = false from rfl, cond_false]
  repeat refine w1 (k := ?_)
  refine loopN [(5, 3), (10, 50)] (α := Nat × List (List Int)) (fun y => [(4, .c (.own 9 1 rows.length))]) (fun y => [(TK, .tok fz0 (J y.1)), (9, .row 40 1 (y.2.map (slP (pvI .i64))))]) (fun y => sumL y.2) (fun y => y.2.length = rows.length ∧ (∀ l ∈ y.2, l.length ≤ 1000) ∧ mrgF lt (sumL y.2) y.2 = (mrgL lt rows).drop y.1 ∧ y.1 ≤ (mrgL lt rows).length) (x0 := (0, rows)) (h0 := by exact ⟨rfl, hl, rfl, Nat.zero_le _⟩) (hr := ?_)
  intro y hI
  refine nrmL (k := ?_)
  obtain ⟨i, left⟩ := y
  obtain ⟨h1, h2, h3, h4⟩ := hI
  dsimp only at h1 h2 h3 h4
  rw [← h1]
  have h5 : left.length ≤ 1000 := by omega
  repeat refine w1 (k := ?_)
  refine loopN [(6, 2), (13, 26)] (α := Nat) (fun k => [(5, vi (bI (bestF lt left k))), (12, vi (k : Int))]) (fun k => [(TK, .tok fz0 (J i)), (9, .row 40 1 (left.map (slP (pvI .i64))))]) (fun k => left.length - k) (fun k => k ≤ left.length) (x0 := 0) (h0 := by first | omega | simp | (refine ⟨?_, ?_⟩ <;> first | omega | simp)) (hr := ?_)
  intro k hI
  refine nrmL (k := ?_)
  repeat refine w1 (k := ?_)
  refine condN (h1 := fun h => ?_) (h0 := fun h => ?_)
  ·
    have hk : k < left.length := by omega
    repeat refine w1 (k := ?_)
    first | refine ofN (hv := by exact Val.ldR (j := k) (c := 0) (.fro (left[k].map (pvI .i64))) rfl rfl rfl rfl hk (sl_at _ left k hk)) (h := ?_) | refine dlN (hv := by exact Val.ldR (j := k) (c := 0) (.fro (left[k].map (pvI .i64))) rfl rfl rfl rfl hk (sl_at _ left k hk)) (h := ?_) | refine dlgN (hv := by exact Val.ldR (j := k) (c := 0) (.fro (left[k].map (pvI .i64))) rfl rfl rfl rfl hk (sl_at _ left k hk)) (h := ?_) | refine ofN (hv := by exact Val.ldR (j := k) (c := 0) (.fro (left[k].map (pvI .i64))) rfl rfl rfl rfl hk (sl_at _ left k hk)) (h := ?_)
    have hlk := h2 _ (List.getElem_mem hk)
    obtain ⟨x, hx⟩ : ∃ x, x = left[k] := ⟨_, rfl⟩
    rcases x with _ | ⟨a, r⟩
    ·
      have e : bestF lt left (k + 1) = bestF lt left k := by rw [bestF, List.getElem?_eq_getElem hk, ← hx]
      have e0 : decide (((left[k].map (pvI .i64)).length : Int) > 0) = false := by rw [← hx]; rfl
      repeat refine w1 (k := ?_)
      simp only [e0]
      repeat refine w1 (k := ?_)
      refine ⟨k + 1, by omega, by first | omega | (refine ⟨?_, ?_⟩ <;> omega), ?_⟩
      rw [e]
      exact frg
    ·
      have hl0 : 0 < left[k].length := by rw [← hx]; simp
      have ha : left[k][0] = a := by simp only [← hx]; rfl
      have e0 : decide (((left[k].map (pvI .i64)).length : Int) > 0) = true := decide_eq_true (by rw [List.length_map]; omega)
      repeat refine w1 (k := ?_)
      simp only [e0]
      cases hb : bestF lt left k with
      | none =>
        have e : bestF lt left (k + 1) = some k := by rw [bestF, List.getElem?_eq_getElem hk, ← hx]; dsimp only; rw [hb]
        dsimp only [bI]
        repeat refine w1 (k := ?_)
        refine ⟨k + 1, by omega, by first | omega | (refine ⟨?_, ?_⟩ <;> omega), ?_⟩
        rw [e]
        exact frg
      | some b =>
        obtain ⟨g1, c, r2, g2⟩ := bestF_some hb
        have e : bestF lt left (k + 1) = if lt a c then some k else some b := by rw [bestF, List.getElem?_eq_getElem hk, ← hx]; dsimp only; rw [hb]; dsimp only; rw [g2]
        obtain ⟨hb1, hb2⟩ := List.getElem?_eq_some_iff.1 g2
        have hl1 : 0 < left[b].length := by rw [hb2]; simp
        have hc : left[b][0] = c := by simp only [hb2]; rfl
        dsimp only [bI]
        repeat refine w1 (k := ?_)
        rw [show decide ((b : Int) < 0) = false from decide_eq_false (by omega)]
        repeat refine w1 (k := ?_)
        first | refine ofN (hv := by exact Val.ldR (j := b) (c := 0) (.fro (left[b].map (pvI .i64))) rfl rfl rfl rfl hb1 (sl_at _ left b hb1)) (h := ?_) | refine dlN (hv := by exact Val.ldR (j := b) (c := 0) (.fro (left[b].map (pvI .i64))) rfl rfl rfl rfl hb1 (sl_at _ left b hb1)) (h := ?_) | refine dlgN (hv := by exact Val.ldR (j := b) (c := 0) (.fro (left[b].map (pvI .i64))) rfl rfl rfl rfl hb1 (sl_at _ left b hb1)) (h := ?_) | refine ofN (hv := by exact Val.ldR (j := b) (c := 0) (.fro (left[b].map (pvI .i64))) rfl rfl rfl rfl hb1 (sl_at _ left b hb1)) (h := ?_)
        repeat refine w1 (k := ?_)
        refine OpTo.weak (Le.slot 24 rfl (of_fnv f)) ?_
        refine nrm (k := ?_)
        refine callVN (hf := hf) (hc := by exact hlt _ _) (h := ?_)
        repeat refine w1 (k := ?_)
        rw [ha, hc]
        cases hac : lt a c
        ·
          rw [hac] at e
          repeat refine w1 (k := ?_)
          refine ⟨k + 1, by omega, by first | omega | (refine ⟨?_, ?_⟩ <;> omega), ?_⟩
          rw [e]
          exact frg
        ·
          rw [hac] at e
          repeat refine w1 (k := ?_)
          refine ⟨k + 1, by omega, by first | omega | (refine ⟨?_, ?_⟩ <;> omega), ?_⟩
          rw [e]
          exact frg
  ·
    repeat refine w1 (k := ?_)
    have hkl : k = left.length := by omega
    subst hkl
    cases hb : bestF lt left left.length with
    | none =>
      dsimp only [bI]
      repeat refine w1 (k := ?_)
      rw [step_none (step_no hb)] at h3
      have hi : i = (mrgL lt rows).length := by
        have := congrArg List.length h3
        simp at this; omega
      refine ⟨[], .nil, rfl, rfl, .inl ⟨trivial, ?_⟩⟩
      rw [yI_len, ← hi]; rfl
    | some b =>
      obtain ⟨g1, a, r, g2⟩ := bestF_some hb
      obtain ⟨hb1, hb2⟩ := List.getElem?_eq_some_iff.1 g2
      have hl1 : 0 < left[b].length := by rw [hb2]; simp
      have ha : left[b][0] = a := by simp only [hb2]; rfl
      have hlb := h2 _ (List.getElem_mem hb1)
      rw [mrg_cons hb g2] at h3
      have hi : i < (mrgL lt rows).length := by
        refine Nat.lt_of_not_le fun hk => ?_
        rw [List.drop_eq_nil_of_le hk] at h3; cases h3
      rw [List.drop_eq_getElem_cons hi] at h3
      obtain ⟨h31, h32⟩ := List.cons.inj h3
      dsimp only [bI]
      repeat refine w1 (k := ?_)
      first | refine bothTN (h1 := fun hz => ?_) (h0 := fun hz => ?_) | refine bothFN (h1 := fun hz => ?_) (h0 := fun hz => ?_)
      all_goals repeat refine w1 (k := ?_)
      rotate_left
      · exact absurd (of_decide_eq_true hz) (by omega)
      first | refine ofN (hv := by exact Val.ldR (j := b) (c := 0) (.fro (left[b].map (pvI .i64))) rfl rfl rfl rfl hb1 (sl_at _ left b hb1)) (h := ?_) | refine dlN (hv := by exact Val.ldR (j := b) (c := 0) (.fro (left[b].map (pvI .i64))) rfl rfl rfl rfl hb1 (sl_at _ left b hb1)) (h := ?_) | refine dlgN (hv := by exact Val.ldR (j := b) (c := 0) (.fro (left[b].map (pvI .i64))) rfl rfl rfl rfl hb1 (sl_at _ left b hb1)) (h := ?_) | refine ofN (hv := by exact Val.ldR (j := b) (c := 0) (.fro (left[b].map (pvI .i64))) rfl rfl rfl rfl hb1 (sl_at _ left b hb1)) (h := ?_)
      repeat refine w1 (k := ?_)
      rw [ha, h31]
      refine OpTo.yield (i := i) (y := ⟨[vi (mrgL lt rows)[i]], none⟩) hR (yI_at _ _ hi) rfl rfl rfl rfl rfl rfl rfl rfl rfl rfl ?_ ?_
      ·
        refine nrm (k := ?_)
        simp only [beq_self_eq_true, cond_true]
        repeat refine w1 (k := ?_)
        first | refine ofN (hv := by exact Val.ldR (j := b) (c := 0) (.fro (left[b].map (pvI .i64))) rfl rfl rfl rfl hb1 (sl_at _ left b hb1)) (h := ?_) | refine dlN (hv := by exact Val.ldR (j := b) (c := 0) (.fro (left[b].map (pvI .i64))) rfl rfl rfl rfl hb1 (sl_at _ left b hb1)) (h := ?_) | refine dlgN (hv := by exact Val.ldR (j := b) (c := 0) (.fro (left[b].map (pvI .i64))) rfl rfl rfl rfl hb1 (sl_at _ left b hb1)) (h := ?_) | refine ofN (hv := by exact Val.ldR (j := b) (c := 0) (.fro (left[b].map (pvI .i64))) rfl rfl rfl rfl hb1 (sl_at _ left b hb1)) (h := ?_)
        repeat refine w1 (k := ?_)
        first | refine ofN (hv := by exact Val.cutN (f := pvI .i64) (l := left[b]) (a := 1) (b := left[b].length) rfl rfl rfl (Bnd.at (v := 1) (k := .i64) rfl rfl (by decide)) (.inl ⟨rfl, rfl⟩) (by omega) (by omega) (fun _ => rfl)) (h := ?_) | refine dlN (hv := by exact Val.cutN (f := pvI .i64) (l := left[b]) (a := 1) (b := left[b].length) rfl rfl rfl (Bnd.at (v := 1) (k := .i64) rfl rfl (by decide)) (.inl ⟨rfl, rfl⟩) (by omega) (by omega) (fun _ => rfl)) (h := ?_) | refine dlgN (hv := by exact Val.cutN (f := pvI .i64) (l := left[b]) (a := 1) (b := left[b].length) rfl rfl rfl (Bnd.at (v := 1) (k := .i64) rfl rfl (by decide)) (.inl ⟨rfl, rfl⟩) (by omega) (by omega) (fun _ => rfl)) (h := ?_) | refine ofN (hv := by exact Val.cutN (f := pvI .i64) (l := left[b]) (a := 1) (b := left[b].length) rfl rfl rfl (Bnd.at (v := 1) (k := .i64) rfl rfl (by decide)) (.inl ⟨rfl, rfl⟩) (by omega) (by omega) (fun _ => rfl)) (h := ?_)
        rw [List.take_length, show left[b].drop 1 = r by rw [hb2]; rfl]
        repeat refine w1 (k := ?_)
        refine OpTo.stRN (sz := 1) (j := b) (c := 0) (f := slP (pvI .i64)) (l := left) r rfl rfl rfl hb1 rfl rfl (by kernel_rfl) (Nat.le_refl _) rfl ?_
        refine nrm (k := ?_)
        repeat refine w1 (k := ?_)
        have hs := sumL_set g2
        have hm : ∀ l ∈ left.set b r, l.length ≤ 1000 := fun l hl => by
          rcases List.mem_or_eq_of_mem_set hl with h | rfl
          · exact h2 l h
          · rw [hb2] at hlb; simp at hlb; omega
        simp only [show ((TK : Nat) == 9) = false from rfl, cond_false]
        refine ⟨(i + 1, left.set b r), by dsimp only; omega, by exact ⟨by simp, hm, h32, hi⟩, frg⟩
      ·
        refine nrm (k := ?_)
        simp only [beq_self_eq_true, cond_true]
        repeat refine w1 (k := ?_)
        exact ⟨[], .nil, rfl, rfl, .inr ⟨trivial, rfl⟩⟩
