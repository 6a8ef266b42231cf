/- The reference's CheckAll. -/
import Derived.Test.YtlegdnmebgfjbaaDoorSK10
set_option linter.all false
set_option maxRecDepth 2000
set_option maxHeartbeats 8000000
namespace Go.Proofs.Vl
open Go Go.RowKit
attribute [local irreducible] AWp OpTo Run DL Val UN DR AC Le thn inb nog
abbrev gotP (at_ e : Int) : List PV := [.s (.int .i64 at_), .s (.int .i64 e)]
theorem allR_ac (G) (l : List Tk) (hl : ∀ t ∈ l, t.nm.size ≤ maxLen) (hn : l.length ≤ maxLen) : AC Tryd.prog G 36 [fro tkP l] [] (fun r _ => r = .pag (gotP (allI l).1 (allI l).2)) := by
  refine AC.body' Tryd.func36 Tryd.ntmps36 rfl ?_
  intro cx hd hG
  refine nrmL (k := ?_)
  repeat refine w1 (k := ?_)
  have hm : l.length ≤ 9223372036854775807 := hn
  first | refine bothTN (h1 := fun h1 => ?_) (h0 := fun h1 => ?_) | refine bothFN (h1 := fun h1 => ?_) (h0 := fun h1 => ?_)
  all_goals repeat refine w1 (k := ?_)
  ·
    refine condN (h1 := fun h2 => ?_) (h0 := fun h2 => ?_)
    ·
      repeat refine w1 (k := ?_)
      refine ⟨[.pag _], .cons (.ldF rfl rfl rfl rfl) .nil, ?_⟩
      rw [allI, if_pos (by omega)]; rfl
    ·
      repeat refine w1 (k := ?_)
      refine loopN [(4, 2), (15, 47)] (α := Nat) (fun j => [(3, vi j)]) (fun j => [(2, .pcells 64 (gotP 0 0))]) (fun j => l.length - j) (fun j => j ≤ l.length ∧ goAll (l.take j) (l.drop j) = allI l) (x0 := 0) (h0 := by exact ⟨Nat.zero_le _, by rw [allI, if_neg (by omega)]; rfl⟩) (hr := ?_)
      intro j hI
      refine nrmL (k := ?_)
      obtain ⟨i1, i2⟩ := hI
      repeat refine w1 (k := ?_)
      refine condN (h1 := fun h3 => ?_) (h0 := fun h3 => ?_)
      · have hj : j < l.length := by omega
        rw [goAll_at l j hj] at i2
        repeat refine w1 (k := ?_)
        refine callN (hc := by exact checkRT_ac _ _ (hl _ (List.getElem_mem hj))) (h := ?_)
        repeat refine w1 (k := ?_)
        refine condN (h1 := fun h4 => ?_) (h0 := fun h4 => ?_)
        ·
          repeat refine w1 (k := ?_)
          refine ⟨[.pag _], .cons (.ldF rfl rfl rfl rfl) .nil, ?_⟩
          rw [← i2, if_neg h4]; rfl
        ·
          repeat refine w1 (k := ?_)
          refine loopN [(31, 31)] (α := Nat) (fun k => [(5, vi k)]) (fun k => [(2, .pcells 64 (gotP 0 0))]) (fun k => j - k) (fun k => k ≤ j ∧ ∀ u ∈ l.take k, u.nm ≠ l[j].nm ∧ u.p ≠ l[j].p) (x0 := 0) (h0 := by exact ⟨Nat.zero_le _, fun u h => by simp at h⟩) (hr := ?_)
          intro k hI
          refine nrmL (k := ?_)
          obtain ⟨b1, b2⟩ := hI
          repeat refine w1 (k := ?_)
          refine condN (h1 := fun h5 => ?_) (h0 := fun h5 => ?_)
          · have hk : k < l.length := by omega
            have hm2 : l[k] ∈ l.take j := by rw [List.mem_take_iff_getElem]; exact ⟨k, by omega, rfl⟩
            repeat refine w1 (k := ?_)
            rw [str_beq']
            cases hb : decide (l[k].nm = l[j].nm)
            ·
              repeat refine w1 (k := ?_)
              refine condN (h1 := fun h6 => ?_) (h0 := fun h6 => ?_)
              ·
                rw [if_pos h4, if_pos (List.any_eq_true.2 ⟨l[k], hm2, by simp [*]⟩)] at i2
                repeat refine w1 (k := ?_)
                refine ⟨[.pag _], .cons (.ldF rfl rfl rfl rfl) .nil, ?_⟩
                rw [← i2]; rfl
              ·
                have hb : l[k].nm ≠ l[j].nm := by simpa using hb
                repeat refine w1 (k := ?_)
                have b3 : ∀ u ∈ l.take (k + 1), u.nm ≠ l[j].nm ∧ u.p ≠ l[j].p := by
                  intro u hu
                  rw [List.take_succ_eq_append_getElem hk] at hu
                  rcases List.mem_append.1 hu with h | h
                  · exact b2 u h
                  · obtain rfl := List.mem_singleton.1 h; exact ⟨hb, h6⟩
                refine ⟨k + 1, by omega, by exact ⟨by omega, b3⟩, frg⟩
            ·
              have hb : l[k].nm = l[j].nm := by simpa using hb
              rw [if_pos h4, if_pos (List.any_eq_true.2 ⟨l[k], hm2, by simp [*]⟩)] at i2
              repeat refine w1 (k := ?_)
              refine ⟨[.pag _], .cons (.ldF rfl rfl rfl rfl) .nil, ?_⟩
              rw [← i2]; rfl
          · have : k = j := by omega
            subst this
            have hany : ¬ (l.take k).any (fun u => decide (u.nm = l[k].nm) || decide (u.p = l[k].p)) = true := by
              intro h
              obtain ⟨u, hu, he⟩ := List.any_eq_true.1 h
              simp only [Bool.or_eq_true, decide_eq_true_eq] at he
              exact he.elim (b2 u hu).1 (b2 u hu).2
            rw [if_pos h4, if_neg hany] at i2
            repeat refine w1 (k := ?_)
            refine ⟨k + 1, by omega, by exact ⟨by omega, i2⟩, frg⟩
      ·
        repeat refine w1 (k := ?_)
        refine ⟨[.pag _], .cons (.ldF rfl rfl rfl rfl) .nil, ?_⟩
        rw [List.drop_of_length_le (by omega), goAll] at i2
        rw [← i2, List.length_take, Nat.min_eq_right (by omega), List.length_map]; rfl
  ·
    refine ⟨[.pag _], .cons (.ldF rfl rfl rfl rfl) .nil, ?_⟩
    rw [allI, if_pos (by omega)]; rfl
end Go.Proofs.Vl
