/- Chapter 22: a set with one number of one task another one. -/
import Derived.Test.YtlegdnmebgfjbaaDoorWC
set_option linter.all false
set_option maxRecDepth 2000
set_option maxHeartbeats 8000000
namespace Go.Proofs.Vl
open Go Go.RowKit
attribute [local irreducible] AWp OpTo Run DL Val UN DR AC Le thn inb nog
theorem gW_nm (w n : Int) (t : Tk) : (gW w n t).nm = t.nm := by unfold gW; split <;> (try split) <;> (try split) <;> rfl
theorem up_nm {l : List Tk} (h : ∀ t ∈ l, t.nm.size ≤ maxLen) (k : Nat) (w n : Int) : ∀ t ∈ upT l k (gW w n), t.nm.size ≤ maxLen := by
  intro t ht
  unfold upT at ht
  split at ht
  · rename_i u hu
    rcases List.mem_or_eq_of_mem_set ht with h2 | h2
    · exact h t h2
    · subst h2; rw [gW_nm]; exact h u (List.mem_of_getElem? hu)
  · exact h t ht
theorem with22_ac (G) (l : List Tk) (k : Nat) (hk : k < l.length) (which n : Int) (hl : l.length ≤ 2000) : AC Tryd.prog G 29 [fro tkP l, vi (k : Int), vi which, vi n] [] (fun r os => r = .c (.own 10 7 (upT l k (gW which n)).length) ∧ find os 10 = some (.row 27 7 ((upT l k (gW which n)).map tkP))) := by
  refine AC.body' Tryd.func29 Tryd.ntmps29 rfl ?_
  intro cx hd hG
  refine nrmL (k := ?_)
  repeat refine w1 (k := ?_)
  obtain ⟨w0, fz0, β0, df, G0⟩ := cx
  obtain rfl : G0 = G := hG
  rw [upT_len, upT_at hk]
  unfold gW
  refine litA tkP [] (h := ?_)
  repeat refine w1 (k := ?_)
  refine appA 10 64 tkP [] l (h := ?_)
  repeat refine w1 (k := ?_)
  refine condN (h1 := fun h0 => ?_) (h0 := fun h0 => ?_)
  ·
    subst h0
    repeat refine w1 (k := ?_)
    try rw [show Tryd.prog.types[27].size = 7 by kernel_rfl]
    refine OpTo.stRN (sz := 7) (j := k) (c := 1) (f := tkP) (l := [] ++ l) (sC n l[k]) rfl rfl rfl hk rfl rfl (by kernel_rfl) (Nat.le_of_ble_eq_true rfl) rfl ?_
    refine nrm (k := ?_)
    repeat refine w1 (k := ?_)
    exact ⟨[.c _], .cons (.tmp rfl) .nil, rfl, rfl⟩
  ·
    rw [if_neg h0]
    repeat refine w1 (k := ?_)
    refine condN (h1 := fun h1 => ?_) (h0 := fun h1 => ?_)
    ·
      subst h1
      repeat refine w1 (k := ?_)
      try rw [show Tryd.prog.types[27].size = 7 by kernel_rfl]
      refine OpTo.stRN (sz := 7) (j := k) (c := 5) (f := tkP) (l := [] ++ l) (sQ n l[k]) rfl rfl rfl hk rfl rfl (by kernel_rfl) (Nat.le_of_ble_eq_true rfl) rfl ?_
      refine nrm (k := ?_)
      repeat refine w1 (k := ?_)
      exact ⟨[.c _], .cons (.tmp rfl) .nil, rfl, rfl⟩
    ·
      rw [if_neg h1]
      repeat refine w1 (k := ?_)
      refine condN (h1 := fun h2 => ?_) (h0 := fun h2 => ?_)
      ·
        subst h2
        repeat refine w1 (k := ?_)
        try rw [show Tryd.prog.types[27].size = 7 by kernel_rfl]
        refine OpTo.stRN (sz := 7) (j := k) (c := 4) (f := tkP) (l := [] ++ l) (sJ n l[k]) rfl rfl rfl hk rfl rfl (by kernel_rfl) (Nat.le_of_ble_eq_true rfl) rfl ?_
        refine nrm (k := ?_)
        repeat refine w1 (k := ?_)
        exact ⟨[.c _], .cons (.tmp rfl) .nil, rfl, rfl⟩
      ·
        rw [if_neg h2]
        repeat refine w1 (k := ?_)
        try rw [show Tryd.prog.types[27].size = 7 by kernel_rfl]
        refine OpTo.stRN (sz := 7) (j := k) (c := 2) (f := tkP) (l := [] ++ l) (sT n l[k]) rfl rfl rfl hk rfl rfl (by kernel_rfl) (Nat.le_of_ble_eq_true rfl) rfl ?_
        refine nrm (k := ?_)
        repeat refine w1 (k := ?_)
        exact ⟨[.c _], .cons (.tmp rfl) .nil, rfl, rfl⟩
