/- Chapter 22: Work, Section, Late; Period. -/
import Derived.Test.YtlegdnmebgfjbaaDoorW8
set_option linter.all false
set_option maxRecDepth 2000
set_option maxHeartbeats 8000000
namespace Go.Proofs.Vl
open Go Go.RowKit
attribute [local irreducible] AWp OpTo Run DL Val UN DR AC Le thn inb nog
theorem at_in {l : List Tk} {k : Nat} (h : k < l.length) : atT l (k : Int) = l[k] := by unfold atT; rw [if_neg (by omega), Int.toNat_natCast, List.getElem?_eq_getElem h]; rfl
theorem at_is {l : List Tk} {i : Int} (hb : isB l i = true) : ∃ (k : Nat) (h : k < l.length), i = (k : Int) ∧ atT l i = l[k] ∧ Fine l[k] ∧ l[k].c + l[k].j ≤ l[k].d ∧ l[k].d ≤ l[k].t ∧ l[k].q ≤ l[k].c := by
  obtain ⟨f1, f2, k, rfl, f3⟩ := is_spec hb
  exact ⟨k, f3, rfl, at_in f3, f2 _ (List.getElem_mem f3), is_fits hb _ (List.getElem_mem f3)⟩
theorem work_ac (l : List Tk) (i : Int) (hl : ∀ t ∈ l, t.nm.size ≤ maxLen) (hn : l.length ≤ maxLen) : AC Tryd.prog GL 12 [fro tkP l, vi i] [] (fun r _ => r = .tup [ti (msN l i (atT l i).c (atT l i).d sC), ti (mayE l i)]) := by
  have hms := most_ac 20 rfl sC (fun _ _ => rfl) (fun _ _ _ => rfl) setC_ac l i (atT l i).c (atT l i).d (fun hb h => by
      obtain ⟨k, hk, rfl, e, _⟩ := at_is hb
      rw [e]; simp only [Int.toNat_natCast]; rfl) (fun hb => by
      obtain ⟨k, hk, rfl, e, hF, _⟩ := at_is hb
      obtain ⟨hc, ht, hd, hj, hq, hp⟩ := hF
      rw [e]; unfold ok64; omega) (fun hb => by
      obtain ⟨k, hk, rfl, e, hF, _⟩ := at_is hb
      obtain ⟨hc, ht, hd, hj, hq, hp⟩ := hF
      rw [e]; unfold ok64; omega) (fun hb => by
      obtain ⟨k, hk, rfl, e, hF, _⟩ := at_is hb
      obtain ⟨hc, ht, hd, hj, hq, hp⟩ := hF
      rw [e]; omega) hl hn
  refine AC.body' Tryd.func12 Tryd.ntmps12 rfl ?_
  intro cx hd hG
  refine nrmL (k := ?_)
  repeat refine w1 (k := ?_)
  obtain ⟨w0, fz0, β0, df, G0⟩ := cx
  obtain rfl : G0 = GL := hG
  refine callN (hc := by exact at_ac _ l i hn) (h := ?_)
  repeat refine w1 (k := ?_)
  repeat refine w1 (k := ?_)
  refine callN (hc := by exact hms) (h := ?_)
  repeat refine w1 (k := ?_)
  repeat refine w1 (k := ?_)
  exact ⟨[.c _, .c _], .cons (.tmp rfl) (.cons (.tmp rfl) .nil), rfl⟩
theorem section_ac (l : List Tk) (i : Int) (hl : ∀ t ∈ l, t.nm.size ≤ maxLen) (hn : l.length ≤ maxLen) : AC Tryd.prog GL 25 [fro tkP l, vi i] [] (fun r _ => r = .tup [ti (msN l i (atT l i).q (atT l i).c sQ), ti (mayE l i)]) := by
  have hms := most_ac 34 rfl sQ (fun _ _ => rfl) (fun _ _ _ => rfl) setQ_ac l i (atT l i).q (atT l i).c (fun hb h => by
      obtain ⟨k, hk, rfl, e, _⟩ := at_is hb
      rw [e]; simp only [Int.toNat_natCast]; rfl) (fun hb => by
      obtain ⟨k, hk, rfl, e, hF, _⟩ := at_is hb
      obtain ⟨hc, ht, hd, hj, hq, hp⟩ := hF
      rw [e]; unfold ok64; omega) (fun hb => by
      obtain ⟨k, hk, rfl, e, hF, _⟩ := at_is hb
      obtain ⟨hc, ht, hd, hj, hq, hp⟩ := hF
      rw [e]; unfold ok64; omega) (fun hb => by
      obtain ⟨k, hk, rfl, e, hF, _⟩ := at_is hb
      obtain ⟨hc, ht, hd, hj, hq, hp⟩ := hF
      rw [e]; omega) hl hn
  refine AC.body' Tryd.func25 Tryd.ntmps25 rfl ?_
  intro cx hd hG
  refine nrmL (k := ?_)
  repeat refine w1 (k := ?_)
  obtain ⟨w0, fz0, β0, df, G0⟩ := cx
  obtain rfl : G0 = GL := hG
  refine callN (hc := by exact at_ac _ l i hn) (h := ?_)
  repeat refine w1 (k := ?_)
  repeat refine w1 (k := ?_)
  refine callN (hc := by exact hms) (h := ?_)
  repeat refine w1 (k := ?_)
  repeat refine w1 (k := ?_)
  exact ⟨[.c _, .c _], .cons (.tmp rfl) (.cons (.tmp rfl) .nil), rfl⟩
theorem late_ac (l : List Tk) (i : Int) (hl : ∀ t ∈ l, t.nm.size ≤ maxLen) (hn : l.length ≤ maxLen) : AC Tryd.prog GL 26 [fro tkP l, vi i] [] (fun r _ => r = .tup [ti (msN l i (atT l i).j (atT l i).d sJ), ti (mayE l i)]) := by
  have hms := most_ac 35 rfl sJ (fun _ _ => rfl) (fun _ _ _ => rfl) setJ_ac l i (atT l i).j (atT l i).d (fun hb h => by
      obtain ⟨k, hk, rfl, e, _⟩ := at_is hb
      rw [e]; simp only [Int.toNat_natCast]; rfl) (fun hb => by
      obtain ⟨k, hk, rfl, e, hF, _⟩ := at_is hb
      obtain ⟨hc, ht, hd, hj, hq, hp⟩ := hF
      rw [e]; unfold ok64; omega) (fun hb => by
      obtain ⟨k, hk, rfl, e, hF, _⟩ := at_is hb
      obtain ⟨hc, ht, hd, hj, hq, hp⟩ := hF
      rw [e]; unfold ok64; omega) (fun hb => by
      obtain ⟨k, hk, rfl, e, hF, _⟩ := at_is hb
      obtain ⟨hc, ht, hd, hj, hq, hp⟩ := hF
      rw [e]; omega) hl hn
  refine AC.body' Tryd.func26 Tryd.ntmps26 rfl ?_
  intro cx hd hG
  refine nrmL (k := ?_)
  repeat refine w1 (k := ?_)
  obtain ⟨w0, fz0, β0, df, G0⟩ := cx
  obtain rfl : G0 = GL := hG
  refine callN (hc := by exact at_ac _ l i hn) (h := ?_)
  repeat refine w1 (k := ?_)
  repeat refine w1 (k := ?_)
  refine callN (hc := by exact hms) (h := ?_)
  repeat refine w1 (k := ?_)
  repeat refine w1 (k := ?_)
  exact ⟨[.c _, .c _], .cons (.tmp rfl) (.cons (.tmp rfl) .nil), rfl⟩
