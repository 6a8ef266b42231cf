/- Tasks out of raw numbers; sums against the references'; the row 'LoadSums', by values. -/
import Derived.Test.YtjpmbklfaoejmaaDoorH2
set_option linter.all false
set_option maxHeartbeats 8000000
namespace Go.Proofs.Vl
open Go Go.RowKit
attribute [local irreducible] AWp OpTo Run DL Val UN DR AC Le thn inb nog
theorem shr_i64 (a k : Int) (ha : i64 a) : ∃ x : Int, i64 x ∧ a.fdiv (2 ^ (min k.toNat IntKind.i64.bits)) = x := by
  refine ⟨_, ?_, rfl⟩
  generalize hp : (2 : Int) ^ (min k.toNat IntKind.i64.bits) = p
  have h0 : 0 < p := by rw [← hp]; exact Int.pow_pos (by decide)
  rw [Int.fdiv_eq_ediv_of_nonneg _ (Int.le_of_lt h0)]
  obtain ⟨h1, h2⟩ := ha
  constructor
  · refine Int.le_ediv_of_mul_le h0 ?_
    have : -9223372036854775808 * p ≤ -9223372036854775808 := by omega
    omega
  · refine Int.lt_of_le_of_lt ?_ (show (9223372036854775807 : Int) < 9223372036854775808 by decide)
    refine Int.le_trans (Int.ediv_le_ediv h0 (show a ≤ 9223372036854775807 by omega)) (Int.ediv_le_self _ (by decide))
def tkO (c t : Int) : Tk := ⟨⟨#[]⟩, c, t, 0, 0, 0, 0⟩
theorem tasks_ac (G) (ns : List Int) (n : Int) (hl : ns.length ≤ maxLen) (ho : ∀ x ∈ ns, i64 x) : AC Tryd.prog G 17 [fro (pvI .i64) ns, vi n] [] (fun r os => ∃ ts : List Tk, (∀ t ∈ ts, tOk t) ∧ ts.length ≤ 6 ∧ r = .c (.own 38 7 ts.length) ∧ find os 38 = some (.row 35 7 (ts.map tkP))) := by
  refine AC.body' Tryd.func17 Tryd.ntmps17 rfl ?_
  intro cx hd hG
  refine nrmL (k := ?_)
  repeat refine w1 (k := ?_)
  have hl2 := hl
  rw [maxLen] at hl2
  refine seedA 5 38 7 35 (h := ?_)
  refine loopN [(7, 32)] (α := Nat × List Tk) (fun x => [(5, .c (.own 38 7 x.2.length)), (6, vi ((2 * x.1 : Nat) : Int))]) (fun x => [(38, .row 35 7 (x.2.map tkP))]) (fun x => 7 - x.1) (fun x => x.2.length = x.1 ∧ x.1 ≤ 6 ∧ ∀ t ∈ x.2, tOk t) (x0 := (0, [])) (h0 := by exact ⟨rfl, by decide, fun t h => by cases h⟩) (hr := ?_)
  intro x hI
  refine nrmL (k := ?_)
  obtain ⟨j, ts⟩ := x
  dsimp only at hI ⊢
  obtain ⟨h1, h2, h3⟩ := hI
  have n1 := Int.emod_nonneg n (show (64 : Int) ≠ 0 by decide)
  have n2 := Int.emod_lt_of_pos n (show (0 : Int) < 64 by decide)
  repeat refine w1 (k := ?_)
  first | refine bothTN (h1 := fun h => ?_) (h0 := fun h => ?_) | refine bothFN (h1 := fun h => ?_) (h0 := fun h => ?_)
  all_goals repeat refine w1 (k := ?_)
  ·
    refine condN (h1 := fun h4 => ?_) (h0 := fun h4 => ?_)
    ·
      have hj : 2 * j + 1 < ns.length := by omega
      have hj2 : 2 * j < ns.length := by omega
      repeat refine w1 (k := ?_)
      obtain ⟨x1, g1, ex1⟩ := shr_i64 ns[2 * j] (n % 64) (ho _ (List.getElem_mem hj2))
      obtain ⟨x2, g2, ex2⟩ := shr_i64 ns[2 * j + 1] (n % 64) (ho _ (List.getElem_mem hj))
      have hts : ∀ t ∈ ts ++ [tkO x1 x2], tOk t := by
        intro t ht
        rcases List.mem_append.1 ht with ht | ht
        · exact h3 t ht
        · obtain rfl := List.mem_singleton.1 ht; exact ⟨g1, g2⟩
      have hw : IntKind.u64.wrap (n % 64) = n % 64 := by rw [IntKind.wrap_u64]; omega
      (first | refine DL.takeT 0 rfl (by decide +kernel) rfl (Val.shr rfl rfl rfl rfl (by omega)) ?_ | refine DL.takeT 0 rfl (by decide +kernel) rfl (Val.addI rfl rfl rfl rfl ⟨by omega, by omega⟩) ?_ | refine DL.takeT 0 rfl (by decide +kernel) rfl (Val.ev2 rfl) ?_ | refine DL.takeT 0 rfl (by decide +kernel) rfl (Val.ev rfl) ?_ | refine DL.takeT 0 rfl (by decide +kernel) rfl (Val.ixON rfl rfl rfl rfl rfl (by omega) (by omega) (by intro _; rfl)) ?_ | refine DL.takeT 0 rfl (by decide +kernel) rfl (Val.ixN rfl rfl rfl rfl rfl (by omega) (by intro _; rfl)) ?_)
      refine nrm (k := ?_)
      (first | refine DL.takeT 0 rfl (by decide +kernel) rfl (Val.shr rfl rfl rfl rfl (by omega)) ?_ | refine DL.takeT 0 rfl (by decide +kernel) rfl (Val.addI rfl rfl rfl rfl ⟨by omega, by omega⟩) ?_ | refine DL.takeT 0 rfl (by decide +kernel) rfl (Val.ev2 rfl) ?_ | refine DL.takeT 0 rfl (by decide +kernel) rfl (Val.ev rfl) ?_ | refine DL.takeT 0 rfl (by decide +kernel) rfl (Val.ixON rfl rfl rfl rfl rfl (by omega) (by omega) (by intro _; rfl)) ?_ | refine DL.takeT 0 rfl (by decide +kernel) rfl (Val.ixN rfl rfl rfl rfl rfl (by omega) (by intro _; rfl)) ?_)
      refine nrm (k := ?_)
      (first | refine DL.takeT 0 rfl (by decide +kernel) rfl (Val.shr rfl rfl rfl rfl (by omega)) ?_ | refine DL.takeT 0 rfl (by decide +kernel) rfl (Val.addI rfl rfl rfl rfl ⟨by omega, by omega⟩) ?_ | refine DL.takeT 0 rfl (by decide +kernel) rfl (Val.ev2 rfl) ?_ | refine DL.takeT 0 rfl (by decide +kernel) rfl (Val.ev rfl) ?_ | refine DL.takeT 0 rfl (by decide +kernel) rfl (Val.ixON rfl rfl rfl rfl rfl (by omega) (by omega) (by intro _; rfl)) ?_ | refine DL.takeT 0 rfl (by decide +kernel) rfl (Val.ixN rfl rfl rfl rfl rfl (by omega) (by intro _; rfl)) ?_)
      refine nrm (k := ?_)
      (first | refine DL.takeT 0 rfl (by decide +kernel) rfl (Val.shr rfl rfl rfl rfl (by omega)) ?_ | refine DL.takeT 0 rfl (by decide +kernel) rfl (Val.addI rfl rfl rfl rfl ⟨by omega, by omega⟩) ?_ | refine DL.takeT 0 rfl (by decide +kernel) rfl (Val.ev2 rfl) ?_ | refine DL.takeT 0 rfl (by decide +kernel) rfl (Val.ev rfl) ?_ | refine DL.takeT 0 rfl (by decide +kernel) rfl (Val.ixON rfl rfl rfl rfl rfl (by omega) (by omega) (by intro _; rfl)) ?_ | refine DL.takeT 0 rfl (by decide +kernel) rfl (Val.ixN rfl rfl rfl rfl rfl (by omega) (by intro _; rfl)) ?_)
      refine nrm (k := ?_)
      (first | refine DL.takeT 0 rfl (by decide +kernel) rfl (Val.shr rfl rfl rfl rfl (by omega)) ?_ | refine DL.takeT 0 rfl (by decide +kernel) rfl (Val.addI rfl rfl rfl rfl ⟨by omega, by omega⟩) ?_ | refine DL.takeT 0 rfl (by decide +kernel) rfl (Val.ev2 rfl) ?_ | refine DL.takeT 0 rfl (by decide +kernel) rfl (Val.ev rfl) ?_ | refine DL.takeT 0 rfl (by decide +kernel) rfl (Val.ixON rfl rfl rfl rfl rfl (by omega) (by omega) (by intro _; rfl)) ?_ | refine DL.takeT 0 rfl (by decide +kernel) rfl (Val.ixN rfl rfl rfl rfl rfl (by omega) (by intro _; rfl)) ?_)
      refine nrm (k := ?_)
      (first | refine DL.takeT 0 rfl (by decide +kernel) rfl (Val.shr rfl rfl rfl rfl (by omega)) ?_ | refine DL.takeT 0 rfl (by decide +kernel) rfl (Val.addI rfl rfl rfl rfl ⟨by omega, by omega⟩) ?_ | refine DL.takeT 0 rfl (by decide +kernel) rfl (Val.ev2 rfl) ?_ | refine DL.takeT 0 rfl (by decide +kernel) rfl (Val.ev rfl) ?_ | refine DL.takeT 0 rfl (by decide +kernel) rfl (Val.ixON rfl rfl rfl rfl rfl (by omega) (by omega) (by intro _; rfl)) ?_ | refine DL.takeT 0 rfl (by decide +kernel) rfl (Val.ixN rfl rfl rfl rfl rfl (by omega) (by intro _; rfl)) ?_)
      refine nrm (k := ?_)
      rw [i64_and63]
      (first | refine DL.takeT 0 rfl (by decide +kernel) rfl (Val.shr rfl rfl rfl rfl (by omega)) ?_ | refine DL.takeT 0 rfl (by decide +kernel) rfl (Val.addI rfl rfl rfl rfl ⟨by omega, by omega⟩) ?_ | refine DL.takeT 0 rfl (by decide +kernel) rfl (Val.ev2 rfl) ?_ | refine DL.takeT 0 rfl (by decide +kernel) rfl (Val.ev rfl) ?_ | refine DL.takeT 0 rfl (by decide +kernel) rfl (Val.ixON rfl rfl rfl rfl rfl (by omega) (by omega) (by intro _; rfl)) ?_ | refine DL.takeT 0 rfl (by decide +kernel) rfl (Val.ixN rfl rfl rfl rfl rfl (by omega) (by intro _; rfl)) ?_)
      refine nrm (k := ?_)
      rw [hw]
      (first | refine DL.takeT 0 rfl (by decide +kernel) rfl (Val.shr rfl rfl rfl rfl (by omega)) ?_ | refine DL.takeT 0 rfl (by decide +kernel) rfl (Val.addI rfl rfl rfl rfl ⟨by omega, by omega⟩) ?_ | refine DL.takeT 0 rfl (by decide +kernel) rfl (Val.ev2 rfl) ?_ | refine DL.takeT 0 rfl (by decide +kernel) rfl (Val.ev rfl) ?_ | refine DL.takeT 0 rfl (by decide +kernel) rfl (Val.ixON rfl rfl rfl rfl rfl (by omega) (by omega) (by intro _; rfl)) ?_ | refine DL.takeT 0 rfl (by decide +kernel) rfl (Val.ixN rfl rfl rfl rfl rfl (by omega) (by intro _; rfl)) ?_)
      refine nrm (k := ?_)
      rw [ex1]
      (first | refine DL.takeT 0 rfl (by decide +kernel) rfl (Val.shr rfl rfl rfl rfl (by omega)) ?_ | refine DL.takeT 0 rfl (by decide +kernel) rfl (Val.addI rfl rfl rfl rfl ⟨by omega, by omega⟩) ?_ | refine DL.takeT 0 rfl (by decide +kernel) rfl (Val.ev2 rfl) ?_ | refine DL.takeT 0 rfl (by decide +kernel) rfl (Val.ev rfl) ?_ | refine DL.takeT 0 rfl (by decide +kernel) rfl (Val.ixON rfl rfl rfl rfl rfl (by omega) (by omega) (by intro _; rfl)) ?_ | refine DL.takeT 0 rfl (by decide +kernel) rfl (Val.ixN rfl rfl rfl rfl rfl (by omega) (by intro _; rfl)) ?_)
      refine nrm (k := ?_)
      (first | refine DL.takeT 0 rfl (by decide +kernel) rfl (Val.shr rfl rfl rfl rfl (by omega)) ?_ | refine DL.takeT 0 rfl (by decide +kernel) rfl (Val.addI rfl rfl rfl rfl ⟨by omega, by omega⟩) ?_ | refine DL.takeT 0 rfl (by decide +kernel) rfl (Val.ev2 rfl) ?_ | refine DL.takeT 0 rfl (by decide +kernel) rfl (Val.ev rfl) ?_ | refine DL.takeT 0 rfl (by decide +kernel) rfl (Val.ixON rfl rfl rfl rfl rfl (by omega) (by omega) (by intro _; rfl)) ?_ | refine DL.takeT 0 rfl (by decide +kernel) rfl (Val.ixN rfl rfl rfl rfl rfl (by omega) (by intro _; rfl)) ?_)
      refine nrm (k := ?_)
      (first | refine DL.takeT 0 rfl (by decide +kernel) rfl (Val.shr rfl rfl rfl rfl (by omega)) ?_ | refine DL.takeT 0 rfl (by decide +kernel) rfl (Val.addI rfl rfl rfl rfl ⟨by omega, by omega⟩) ?_ | refine DL.takeT 0 rfl (by decide +kernel) rfl (Val.ev2 rfl) ?_ | refine DL.takeT 0 rfl (by decide +kernel) rfl (Val.ev rfl) ?_ | refine DL.takeT 0 rfl (by decide +kernel) rfl (Val.ixON rfl rfl rfl rfl rfl (by omega) (by omega) (by intro _; rfl)) ?_ | refine DL.takeT 0 rfl (by decide +kernel) rfl (Val.ixN rfl rfl rfl rfl rfl (by omega) (by intro _; rfl)) ?_)
      refine nrm (k := ?_)
      refine DL.takeT 0 rfl (by decide +kernel) rfl (Val.ixZ (j := 2 * j + 1) rfl rfl rfl rfl rfl (by omega) (by omega) (by intro _; rfl)) ?_
      refine nrm (k := ?_)
      (first | refine DL.takeT 0 rfl (by decide +kernel) rfl (Val.shr rfl rfl rfl rfl (by omega)) ?_ | refine DL.takeT 0 rfl (by decide +kernel) rfl (Val.addI rfl rfl rfl rfl ⟨by omega, by omega⟩) ?_ | refine DL.takeT 0 rfl (by decide +kernel) rfl (Val.ev2 rfl) ?_ | refine DL.takeT 0 rfl (by decide +kernel) rfl (Val.ev rfl) ?_ | refine DL.takeT 0 rfl (by decide +kernel) rfl (Val.ixON rfl rfl rfl rfl rfl (by omega) (by omega) (by intro _; rfl)) ?_ | refine DL.takeT 0 rfl (by decide +kernel) rfl (Val.ixN rfl rfl rfl rfl rfl (by omega) (by intro _; rfl)) ?_)
      refine nrm (k := ?_)
      (first | refine DL.takeT 0 rfl (by decide +kernel) rfl (Val.shr rfl rfl rfl rfl (by omega)) ?_ | refine DL.takeT 0 rfl (by decide +kernel) rfl (Val.addI rfl rfl rfl rfl ⟨by omega, by omega⟩) ?_ | refine DL.takeT 0 rfl (by decide +kernel) rfl (Val.ev2 rfl) ?_ | refine DL.takeT 0 rfl (by decide +kernel) rfl (Val.ev rfl) ?_ | refine DL.takeT 0 rfl (by decide +kernel) rfl (Val.ixON rfl rfl rfl rfl rfl (by omega) (by omega) (by intro _; rfl)) ?_ | refine DL.takeT 0 rfl (by decide +kernel) rfl (Val.ixN rfl rfl rfl rfl rfl (by omega) (by intro _; rfl)) ?_)
      refine nrm (k := ?_)
      (first | refine DL.takeT 0 rfl (by decide +kernel) rfl (Val.shr rfl rfl rfl rfl (by omega)) ?_ | refine DL.takeT 0 rfl (by decide +kernel) rfl (Val.addI rfl rfl rfl rfl ⟨by omega, by omega⟩) ?_ | refine DL.takeT 0 rfl (by decide +kernel) rfl (Val.ev2 rfl) ?_ | refine DL.takeT 0 rfl (by decide +kernel) rfl (Val.ev rfl) ?_ | refine DL.takeT 0 rfl (by decide +kernel) rfl (Val.ixON rfl rfl rfl rfl rfl (by omega) (by omega) (by intro _; rfl)) ?_ | refine DL.takeT 0 rfl (by decide +kernel) rfl (Val.ixN rfl rfl rfl rfl rfl (by omega) (by intro _; rfl)) ?_)
      refine nrm (k := ?_)
      rw [i64_and63]
      (first | refine DL.takeT 0 rfl (by decide +kernel) rfl (Val.shr rfl rfl rfl rfl (by omega)) ?_ | refine DL.takeT 0 rfl (by decide +kernel) rfl (Val.addI rfl rfl rfl rfl ⟨by omega, by omega⟩) ?_ | refine DL.takeT 0 rfl (by decide +kernel) rfl (Val.ev2 rfl) ?_ | refine DL.takeT 0 rfl (by decide +kernel) rfl (Val.ev rfl) ?_ | refine DL.takeT 0 rfl (by decide +kernel) rfl (Val.ixON rfl rfl rfl rfl rfl (by omega) (by omega) (by intro _; rfl)) ?_ | refine DL.takeT 0 rfl (by decide +kernel) rfl (Val.ixN rfl rfl rfl rfl rfl (by omega) (by intro _; rfl)) ?_)
      refine nrm (k := ?_)
      rw [hw]
      (first | refine DL.takeT 0 rfl (by decide +kernel) rfl (Val.shr rfl rfl rfl rfl (by omega)) ?_ | refine DL.takeT 0 rfl (by decide +kernel) rfl (Val.addI rfl rfl rfl rfl ⟨by omega, by omega⟩) ?_ | refine DL.takeT 0 rfl (by decide +kernel) rfl (Val.ev2 rfl) ?_ | refine DL.takeT 0 rfl (by decide +kernel) rfl (Val.ev rfl) ?_ | refine DL.takeT 0 rfl (by decide +kernel) rfl (Val.ixON rfl rfl rfl rfl rfl (by omega) (by omega) (by intro _; rfl)) ?_ | refine DL.takeT 0 rfl (by decide +kernel) rfl (Val.ixN rfl rfl rfl rfl rfl (by omega) (by intro _; rfl)) ?_)
      refine nrm (k := ?_)
      rw [ex2]
      repeat refine w1 (k := ?_)
      refine litA tkP [tkO x1 x2] (h := ?_)
      repeat refine w1 (k := ?_)
      refine appA 38 64 tkP ts [tkO x1 x2] (hb := by simp; omega) (hm := by simp; omega) (h := ?_)
      repeat refine w1 (k := ?_)
      refine ⟨(j + 1, ts ++ [tkO x1 x2]), by omega, by exact ⟨by simp [h1], by dsimp only; omega, hts⟩, frg⟩
    ·
      repeat refine w1 (k := ?_)
      refine ⟨[.c _], .cons (.tmp rfl) .nil, ts, h3, by omega, rfl, rfl⟩
  ·
    repeat refine w1 (k := ?_)
    refine ⟨[.c _], .cons (.tmp rfl) .nil, ts, h3, by omega, rfl, rfl⟩
end Go.Proofs.Vl
