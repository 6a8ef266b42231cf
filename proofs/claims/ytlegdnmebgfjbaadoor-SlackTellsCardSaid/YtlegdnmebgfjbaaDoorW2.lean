/- Chapter 14: the bound, walked. -/
import Derived.Test.YtlegdnmebgfjbaaDoorW1
set_option linter.all false
set_option maxRecDepth 2000
set_option maxHeartbeats 8000000
namespace Go.Proofs.Vl
open Go Go.RowKit
attribute [local irreducible] AWp OpTo Run DL Val UN DR AC Le thn inb nog
theorem is14_ac (G) (l : List Tk) (i : Int) (hl : ∀ t ∈ l, t.nm.size ≤ maxLen) (hn : l.length ≤ maxLen) : AC Tryd.prog G 47 [fro tkP l, vi i] [] (fun r _ => r = vb (isB l i)) := by
  refine AC.body' Tryd.func47 Tryd.ntmps47 rfl ?_
  intro cx hd hG
  refine nrmL (k := ?_)
  repeat refine w1 (k := ?_)
  refine callN (hc := by exact all_ac _ l hl hn) (h := ?_)
  repeat refine w1 (k := ?_)
  unfold isB
  first | refine bothTN (h1 := fun h1 => ?_) (h0 := fun h1 => ?_) | refine bothFN (h1 := fun h1 => ?_) (h0 := fun h1 => ?_)
  all_goals repeat refine w1 (k := ?_)
  ·
    first | refine bothTN (h1 := fun h2 => ?_) (h0 := fun h2 => ?_) | refine bothFN (h1 := fun h2 => ?_) (h0 := fun h2 => ?_)
    all_goals repeat refine w1 (k := ?_)
    ·
      refine ⟨[.c _], .cons (.tmp rfl) .nil, ?_⟩
      rw [decide_eq_true (show (allI l).2 = 0 by omega), decide_eq_true (show i ≥ 0 by omega)]
      simp only [List.length_map]; rfl
    ·
      refine ⟨[.c _], .cons (.tmp rfl) .nil, ?_⟩
      rw [decide_eq_false (show ¬ i ≥ 0 by omega), Bool.and_false]; rfl
  ·
    refine ⟨[.c _], .cons (.tmp rfl) .nil, ?_⟩
    rw [decide_eq_false (show ¬ (allI l).2 = 0 by omega)]; rfl
theorem chk_fits {t : Tk} (h : chkT t = 0) : t.c + t.j ≤ t.d ∧ t.d ≤ t.t ∧ t.q ≤ t.c := by
  obtain ⟨hc, ht, hd, hj, hq, hp⟩ := chk_fine h
  unfold chkT chkI at h
  split at h
  · split at h
    · rename_i h2
      unfold fitB at h2
      simp only [Bool.and_eq_true, decide_eq_true_eq] at h2
      rw [show IntKind.i64.wrap (t.c + t.j) = t.c + t.j from wrap_id (by omega) (by omega)] at h2
      exact ⟨h2.1.2, h2.2, h2.1.1⟩
    · cases h
  · cases h
theorem is_fits {l : List Tk} {i : Int} (h : isB l i = true) : ∀ t ∈ l, t.c + t.j ≤ t.d ∧ t.d ≤ t.t ∧ t.q ≤ t.c := by
  unfold isB at h
  simp only [Bool.and_eq_true, decide_eq_true_eq] at h
  obtain ⟨⟨h1, h2⟩, h3⟩ := h
  unfold allI at h1
  by_cases h4 : l.length = 0 ∨ 1024 < l.length
  · rw [if_pos h4] at h1; cases h1
  · rw [if_neg h4] at h1
    obtain ⟨g1, _⟩ := goAll_fine l [] h1
    exact fun t ht => chk_fits (g1 t ht).1
def yW (l : List Nat) : List YV := l.map fun (m : Nat) => ⟨[vn m], none⟩
theorem yW_len (l : List Nat) : (yW l).length = l.length := by simp [yW]
theorem yW_at {l : List Nat} {i m : Nat} (h : l[i]? = some m) : (yW l)[i]? = some ⟨[vn m], none⟩ := by simp [yW, h]
theorem yW_get {l : List Nat} {i : Nat} {y : YV} (h : (yW l)[i]? = some y) : ∃ hi : i < l.length, y = ⟨[vn l[i]], none⟩ := by
  have hi : i < l.length := by have := (List.getElem?_eq_some_iff.1 h).1; rwa [yW_len] at this
  rw [yW_at (List.getElem?_eq_getElem hi)] at h
  exact ⟨hi, (Option.some.inj h).symm⟩
def eaF : Nat := 55
theorem each_ac (G) (l : List Tk) (i : Int) : AC Tryd.prog G 48 [fro tkP l, vi i] [] (fun r _ => r = .c (.fn eaF [.fz [.fro (l.map tkP)], .fz [.s (.int .i64 i)]])) := by
  refine AC.body' Tryd.func48 Tryd.ntmps48 rfl ?_
  intro cx hd hG
  refine nrmL (k := ?_)
  first | ((iterate 2 (refine w1 (k := ?_))); (first | refine zbA 2 (h := ?_) | refine zbO 2 (h := ?_)); (first | refine zbA 3 (h := ?_) | refine zbO 3 (h := ?_)); (repeat (refine w1 (k := ?_))); exact ⟨[.c _], .cons (.tmp rfl) .nil, rfl⟩) | ((iterate 3 (refine w1 (k := ?_))); (first | refine zbA 2 (h := ?_) | refine zbO 2 (h := ?_)); (first | refine zbA 3 (h := ?_) | refine zbO 3 (h := ?_)); (repeat (refine w1 (k := ?_))); exact ⟨[.c _], .cons (.tmp rfl) .nil, rfl⟩) | ((iterate 4 (refine w1 (k := ?_))); (first | refine zbA 2 (h := ?_) | refine zbO 2 (h := ?_)); (first | refine zbA 3 (h := ?_) | refine zbO 3 (h := ?_)); (repeat (refine w1 (k := ?_))); exact ⟨[.c _], .cons (.tmp rfl) .nil, rfl⟩) | ((iterate 5 (refine w1 (k := ?_))); (first | refine zbA 2 (h := ?_) | refine zbO 2 (h := ?_)); (first | refine zbA 3 (h := ?_) | refine zbO 3 (h := ?_)); (repeat (refine w1 (k := ?_))); exact ⟨[.c _], .cons (.tmp rfl) .nil, rfl⟩) | ((iterate 6 (refine w1 (k := ?_))); (first | refine zbA 2 (h := ?_) | refine zbO 2 (h := ?_)); (first | refine zbA 3 (h := ?_) | refine zbO 3 (h := ?_)); (repeat (refine w1 (k := ?_))); exact ⟨[.c _], .cons (.tmp rfl) .nil, rfl⟩) | ((iterate 7 (refine w1 (k := ?_))); (first | refine zbA 2 (h := ?_) | refine zbO 2 (h := ?_)); (first | refine zbA 3 (h := ?_) | refine zbO 3 (h := ?_)); (repeat (refine w1 (k := ?_))); exact ⟨[.c _], .cons (.tmp rfl) .nil, rfl⟩) | ((iterate 8 (refine w1 (k := ?_))); (first | refine zbA 2 (h := ?_) | refine zbO 2 (h := ?_)); (first | refine zbA 3 (h := ?_) | refine zbO 3 (h := ?_)); (repeat (refine w1 (k := ?_))); exact ⟨[.c _], .cons (.tmp rfl) .nil, rfl⟩)
theorem each_it (l : List Tk) (i : Int) (hl : ∀ t ∈ l, t.nm.size ≤ maxLen) (hn : l.length ≤ maxLen) : IC Tryd.prog GL eaF [.c (.eptr [.fro (l.map tkP)]), .c (.eptr [.s (.int .i64 i)])] (yW (eL l i)) := by
  unfold IC
  refine GC.body Tryd.func55 Tryd.ntmps55 rfl (fun _ => rfl) ?_
  intro cx l' J Jx hd hG hrd hml hbs hrr hR
  obtain ⟨w0, fz0, β0, df, G0, rd, rr, ml, bs⟩ := cx
  dsimp only at hd hG hrd hml hbs hrr hR
  subst hd hG hrd hml hbs hrr
  refine nrmL (k := ?_)
  repeat refine w1 (k := ?_)
  refine callN (hc := by exact is14_ac _ l i hl hn) (h := ?_)
  repeat refine w1 (k := ?_)
  cases hb : isB l i with
  | false =>
    rw [Bool.not_false]
    repeat refine w1 (k := ?_)
    refine ⟨[], .nil, rfl, rfl, .inl ⟨trivial, ?_⟩⟩
    rw [yW_len, show eL l i = [] by unfold eL; rw [hb]; rfl]; rfl
  | true =>
    rw [Bool.not_true]
    obtain ⟨f1, f2, k, rfl, f3⟩ := is_spec hb
    obtain ⟨hc, ht, hd, hj, hq, hp⟩ := f2 _ (List.getElem_mem f3)
    obtain ⟨z1, z2, z3⟩ := is_fits hb _ (List.getElem_mem f3)
    repeat refine w1 (k := ?_)
    have hdj : djA l (k : Int) = (l[k].d - l[k].j).toNat := by unfold djA; rw [Int.toNat_natCast, List.getElem?_eq_getElem f3]
    obtain ⟨mo, hmo⟩ : ∃ mo : Nat, mo = djA l (k : Int) := ⟨_, rfl⟩
    rw [show l[k].d - l[k].j = (mo : Int) by omega]
    have hne := need_ac l (k : Int) 0 (by decide) hl hn
    refine callN (hc := by exact hne) (h := ?_)
    repeat refine w1 (k := ?_)
    have hnd := fun w hw => need_ac l (k : Int) w hw hl hn
    have hmn := needA_mono l (k : Int)
    have hlt := needA_lt l (k : Int)
    have hel : eL l (k : Int) = chF (needA l (k : Int)) mo (mo + 1) (needA l (k : Int) 0) := by unfold eL; rw [if_pos hb, hmo]
    have hsp := chF_spec hmn (most := mo) (mo + 1) (needA l (k : Int) 0) (hmn _ _ (Nat.zero_le _)) (by omega)
    have hz := chF_zero (needA l (k : Int)) mo (mo + 1) (needA l (k : Int) 0)
    rw [← hel] at hsp hz
    generalize eL l (k : Int) = L at *
    generalize hN : needA l (k : Int) = N at *
    have hmo2 : mo < 2147483648 := by omega
    refine loopN [(6, 1), (26, 16)] (α := Nat × Nat) (fun x => [(5, vn x.2)]) (fun x => [(TK, .tok fz0 (J x.1))]) (fun x => L.length - x.1) (fun x => L[x.1]? = some x.2) (x0 := (0, N 0)) (h0 := by exact hz) (hr := ?_)
    intro x hI
    refine nrmL (k := ?_)
    obtain ⟨j, w⟩ := x
    dsimp only at hI
    obtain ⟨hj1, hj2⟩ := List.getElem?_eq_some_iff.1 hI
    obtain ⟨hs1, hs2⟩ := hsp j w hI
    have hw : w < 18446744073709551616 := by have := hlt w; omega
    repeat refine w1 (k := ?_)
    refine OpTo.yield (i := j) (y := ⟨[vn w], none⟩) hR (yW_at hI) rfl rfl rfl rfl rfl rfl rfl rfl rfl rfl ?_ ?_
    ·
      simp only [upd, beq_self_eq_true, Nat.reduceBEq, cond_false, cond_true]
      refine nrm (k := ?_)
      repeat refine w1 (k := ?_)
      by_cases hle : w ≤ mo
      ·
        rw [show decide ((w : Int) ≤ (mo : Int)) = true from decide_eq_true (by omega)]
        repeat refine w1 (k := ?_)
        have hnw := hnd w hw
        refine callN (hc := by exact hnw) (h := ?_)
        repeat refine w1 (k := ?_)
        by_cases heq : N w = w
        ·
          rw [if_neg (fun h => h.2 heq)] at hs2
          rw [show ((N w : Int) == (w : Int)) = true from by rw [beq_iff_eq]; omega]
          repeat refine w1 (k := ?_)
          refine ⟨[], .nil, rfl, rfl, .inl ⟨trivial, ?_⟩⟩
          rw [yW_len, ← hs2]; rfl
        ·
          rw [if_pos ⟨hle, heq⟩] at hs2
          rw [show ((N w : Int) == (w : Int)) = false from by rw [beq_eq_false_iff_ne]; omega]
          repeat refine w1 (k := ?_)
          refine ⟨(j + 1, N w), by omega, by exact hs2, frg⟩
      ·
        rw [if_neg (fun h => hle h.1)] at hs2
        rw [show decide ((w : Int) ≤ (mo : Int)) = false from decide_eq_false (by omega)]
        repeat refine w1 (k := ?_)
        refine ⟨[], .nil, rfl, rfl, .inl ⟨trivial, ?_⟩⟩
        rw [yW_len, ← hs2]; rfl
    ·
      simp only [upd, beq_self_eq_true, Nat.reduceBEq, cond_false, cond_true]
      refine nrm (k := ?_)
      repeat refine w1 (k := ?_)
      exact ⟨[], .nil, rfl, rfl, .inr ⟨trivial, rfl⟩⟩
