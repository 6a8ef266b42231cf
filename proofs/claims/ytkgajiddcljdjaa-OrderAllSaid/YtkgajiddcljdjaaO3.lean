/- Chapter 18: rows that are made, clones, tasks by an order. -/
import Derived.Test.YtkgajiddcljdjaaO2
import Derived.Test.YtkgajiddcljdjaaE1
set_option linter.all false
set_option maxRecDepth 2000
set_option maxHeartbeats 8000000
namespace Go.Proofs.Vl
open Go Go.RowKit
attribute [local irreducible] AWp OpTo Run DL Val UN DR AC Le thn inb nog
def fewI (l : List Int) : List Int := (l.take 8).map fun x => x % 9 - 1
theorem few_ac (G) (l : List Int) (hl : l.length ≤ maxLen) : AC Try.prog G 16 [fro (pvI .i64) l] [] (fun r os => r = .c (.own 33 1 (fewI l).length) ∧ find os 33 = some (.row 3 1 ((fewI l).map (pvI .i64)))) := by
  refine AC.body' Try.func16 Try.ntmps16 rfl ?_
  intro cx hd hG
  refine nrmL (k := ?_)
  repeat refine w1 (k := ?_)
  obtain ⟨m, hm⟩ : ∃ m, m = l.take 8 := ⟨_, rfl⟩
  have hml : m.length = min 8 l.length := by rw [hm, List.length_take]
  have e8 : fewI l = m.map fun x => x % 9 - 1 := by rw [fewI, hm]
  rw [e8]
  refine seedA 3 33 1 3 (h := ?_)
  refine loopN [(5, 19)] (α := Nat) (fun i => [(3, .c (.own 33 1 ((m.take i).map fun x => x % 9 - 1).length)), (4, vi (i : Int))]) (fun i => [(33, .row 3 1 (((m.take i).map fun x => x % 9 - 1).map (pvI .i64)))]) (fun i => 8 - i) (fun i => i ≤ m.length) (x0 := 0) (h0 := by first | omega | simp | (refine ⟨?_, ?_⟩ <;> first | omega | simp)) (hr := ?_)
  intro i hI
  refine nrmL (k := ?_)
  repeat refine w1 (k := ?_)
  first | refine bothTN (h1 := fun h => ?_) (h0 := fun h => ?_) | refine bothFN (h1 := fun h => ?_) (h0 := fun h => ?_)
  all_goals repeat refine w1 (k := ?_)
  ·
    refine condN (h1 := fun h2 => ?_) (h0 := fun h2 => ?_)
    ·
      have hi : i < l.length := by omega
      have him : i < m.length := by omega
      have eg : l[i] = m[i] := by subst hm; rw [List.getElem_take]
      have b := Int.emod_nonneg l[i] (show (9 : Int) ≠ 0 by decide)
      have b2 := Int.emod_lt_of_pos l[i] (show (0 : Int) < 9 by decide)
      repeat refine w1 (k := ?_)
      refine callN (hc := by exact rest18_ac _ _ 9 (by decide) (by decide)) (h := ?_)
      repeat refine w1 (k := ?_)
      refine litA (pvI .i64) [l[i] % 9 - 1] (h := ?_)
      repeat refine w1 (k := ?_)
      have hl2 : ((m.take i).map fun x => x % 9 - 1).length = i := by simp; omega
      refine appA 33 8 (pvI .i64) ((m.take i).map fun x => x % 9 - 1) [l[i] % 9 - 1] (hb := by rw [hl2]; simp; omega) (hm := by rw [hl2]; simp; omega) (h := ?_)
      repeat refine w1 (k := ?_)
      rw [show (m.take i).map (fun x => x % 9 - 1) ++ [l[i] % 9 - 1] = (m.take (i + 1)).map fun x => x % 9 - 1 by rw [List.take_succ_eq_append_getElem him, List.map_append, eg]; rfl]
      refine ⟨i + 1, by omega, by first | omega | (refine ⟨?_, ?_⟩ <;> omega), frg⟩
    ·
      repeat refine w1 (k := ?_)
      have : i = m.length := by omega
      subst this
      rw [List.take_length]
      exact ⟨[.c _], .cons (.tmp rfl) .nil, rfl, rfl⟩
  ·
    repeat refine w1 (k := ?_)
    have : i = m.length := by omega
    subst this
    rw [List.take_length]
    exact ⟨[.c _], .cons (.tmp rfl) .nil, rfl, rfl⟩
theorem same18_ac (G) (a : List Int) (ha : a.length ≤ 1000) : AC Try.prog G 13 [fro (pvI .i64) a, fro (pvI .i64) a] [] (fun r _ => r = vb true) := by
  refine AC.body' Try.func13 Try.ntmps13 rfl ?_
  intro cx hd hG
  refine nrmL (k := ?_)
  repeat refine w1 (k := ?_)
  refine condN (h1 := fun h0 => ?_) (h0 := fun h0 => ?_)
  ·
    exact (h0 trivial).elim
  repeat refine w1 (k := ?_)
  refine loopN [(4, 1), (11, 15)] (α := Nat) (fun i => [(5, vi (i : Int))]) (fun i => []) (fun i => a.length - i) (fun i => i ≤ a.length) (x0 := 0) (h0 := by first | omega | simp | (refine ⟨?_, ?_⟩ <;> first | omega | simp)) (hr := ?_)
  intro i hI
  refine nrmL (k := ?_)
  repeat refine w1 (k := ?_)
  refine condN (h1 := fun h => ?_) (h0 := fun h => ?_)
  ·
    have hi : i < a.length := by omega
    repeat refine w1 (k := ?_)
    refine condN (h1 := fun h1 => ?_) (h0 := fun h1 => ?_)
    ·
      exact (h1 trivial).elim
    ·
      repeat refine w1 (k := ?_)
      refine ⟨i + 1, by omega, by first | omega | (refine ⟨?_, ?_⟩ <;> omega), frg⟩
  ·
    repeat refine w1 (k := ?_)
    exact ⟨[.c _], .cons (.tmp rfl) .nil, rfl⟩
def tkV (t : Tk) : List Value := [.string t.nm, .int .i64 t.c, .int .i64 t.t, .int .i64 t.d, .int .i64 t.j, .int .i64 t.q, .int .i64 t.p]
def qTk : List (String × TypeId × Nat) := [("Name", 9, 0), ("C", 2, 1), ("T", 2, 2), ("D", 2, 3), ("J", 2, 4), ("Q", 2, 5), ("P", 3, 6)]
theorem tkV_refl (t : Tk) : qeq (tkV t) (tkV t) qTk = true := by
  have : (t.nm == t.nm) = true := by rw [beq_toListBytes]; simp
  simp [qeq, tkV, qTk, veq, this]
theorem same05_ac (G) (a : List Tk) (ha : a.length ≤ 1000) : AC Try.prog G 24 [fro tkP a, fro tkP a] [] (fun r _ => r = vb true) := by
  refine AC.body' Try.func24 Try.ntmps24 rfl ?_
  intro cx hd hG
  refine nrmL (k := ?_)
  repeat refine w1 (k := ?_)
  refine condN (h1 := fun h0 => ?_) (h0 := fun h0 => ?_)
  ·
    exact (h0 trivial).elim
  repeat refine w1 (k := ?_)
  refine loopN [(4, 1), (11, 15)] (α := Nat) (fun i => [(5, vi (i : Int))]) (fun i => []) (fun i => a.length - i) (fun i => i ≤ a.length) (x0 := 0) (h0 := by first | omega | simp | (refine ⟨?_, ?_⟩ <;> first | omega | simp)) (hr := ?_)
  intro i hI
  refine nrmL (k := ?_)
  repeat refine w1 (k := ?_)
  refine condN (h1 := fun h => ?_) (h0 := fun h => ?_)
  ·
    have hi : i < a.length := by omega
    repeat refine w1 (k := ?_)
    first | refine ofN (hv := by exact Val.neG (vs := tkV a[i]) (us := tkV a[i]) qTk true rfl rfl rfl rfl (by kernel_rfl) (by kernel_rfl) (by kernel_rfl) (by kernel_rfl) (by kernel_rfl) (tkV_refl _)) (h := ?_) | refine dlN (hv := by exact Val.neG (vs := tkV a[i]) (us := tkV a[i]) qTk true rfl rfl rfl rfl (by kernel_rfl) (by kernel_rfl) (by kernel_rfl) (by kernel_rfl) (by kernel_rfl) (tkV_refl _)) (h := ?_) | refine dlgN (hv := by exact Val.neG (vs := tkV a[i]) (us := tkV a[i]) qTk true rfl rfl rfl rfl (by kernel_rfl) (by kernel_rfl) (by kernel_rfl) (by kernel_rfl) (by kernel_rfl) (tkV_refl _)) (h := ?_) | refine ofN (hv := by exact Val.neG (vs := tkV a[i]) (us := tkV a[i]) qTk true rfl rfl rfl rfl (by kernel_rfl) (by kernel_rfl) (by kernel_rfl) (by kernel_rfl) (by kernel_rfl) (tkV_refl _)) (h := ?_)
    repeat refine w1 (k := ?_)
    refine ⟨i + 1, by omega, by first | omega | (refine ⟨?_, ?_⟩ <;> omega), frg⟩
  ·
    repeat refine w1 (k := ?_)
    exact ⟨[.c _], .cons (.tmp rfl) .nil, rfl⟩
theorem clone_ac (G) (l : List Tk) (hl : l.length ≤ 1000) : AC Try.prog G 35 [fro tkP l] [] (fun r os => r = .c (.own 5 7 l.length) ∧ find os 5 = some (.row 66 7 (l.map tkP))) := by
  refine AC.body' Try.func35 Try.ntmps35 rfl ?_
  intro cx hd hG
  refine nrmL (k := ?_)
  repeat refine w1 (k := ?_)
  refine OpTo.nilS rfl rfl Try.underlying46 fun b hb => ?_
  refine nrm (k := ?_)
  cases b
  ·
    repeat refine w1 (k := ?_)
    refine litA tkP [] (h := ?_)
    repeat refine w1 (k := ?_)
    refine appA 5 64 tkP [] l (h := ?_)
    repeat refine w1 (k := ?_)
    exact ⟨[.c _], .cons (.tmp rfl) .nil, rfl, rfl⟩
  ·
    have h0 : l = [] := by
      cases l with
      | nil => rfl
      | cons a l => cases hb (by simp)
    subst h0
    first | ((iterate 2 (refine w1 (k := ?_))); refine seedA 2 5 7 66 (h := ?_); (repeat (refine w1 (k := ?_))); exact ⟨[.c _], .cons (.tmp rfl) .nil, rfl, rfl⟩) | ((iterate 3 (refine w1 (k := ?_))); refine seedA 2 5 7 66 (h := ?_); (repeat (refine w1 (k := ?_))); exact ⟨[.c _], .cons (.tmp rfl) .nil, rfl, rfl⟩) | ((iterate 4 (refine w1 (k := ?_))); refine seedA 2 5 7 66 (h := ?_); (repeat (refine w1 (k := ?_))); exact ⟨[.c _], .cons (.tmp rfl) .nil, rfl, rfl⟩) | ((iterate 5 (refine w1 (k := ?_))); refine seedA 2 5 7 66 (h := ?_); (repeat (refine w1 (k := ?_))); exact ⟨[.c _], .cons (.tmp rfl) .nil, rfl, rfl⟩) | ((iterate 6 (refine w1 (k := ?_))); refine seedA 2 5 7 66 (h := ?_); (repeat (refine w1 (k := ?_))); exact ⟨[.c _], .cons (.tmp rfl) .nil, rfl, rfl⟩) | ((iterate 7 (refine w1 (k := ?_))); refine seedA 2 5 7 66 (h := ?_); (repeat (refine w1 (k := ?_))); exact ⟨[.c _], .cons (.tmp rfl) .nil, rfl, rfl⟩) | ((iterate 8 (refine w1 (k := ?_))); refine seedA 2 5 7 66 (h := ?_); (repeat (refine w1 (k := ?_))); exact ⟨[.c _], .cons (.tmp rfl) .nil, rfl, rfl⟩) | ((iterate 9 (refine w1 (k := ?_))); refine seedA 2 5 7 66 (h := ?_); (repeat (refine w1 (k := ?_))); exact ⟨[.c _], .cons (.tmp rfl) .nil, rfl, rfl⟩) | ((iterate 10 (refine w1 (k := ?_))); refine seedA 2 5 7 66 (h := ?_); (repeat (refine w1 (k := ?_))); exact ⟨[.c _], .cons (.tmp rfl) .nil, rfl, rfl⟩) | ((iterate 11 (refine w1 (k := ?_))); refine seedA 2 5 7 66 (h := ?_); (repeat (refine w1 (k := ?_))); exact ⟨[.c _], .cons (.tmp rfl) .nil, rfl, rfl⟩) | ((iterate 12 (refine w1 (k := ?_))); refine seedA 2 5 7 66 (h := ?_); (repeat (refine w1 (k := ?_))); exact ⟨[.c _], .cons (.tmp rfl) .nil, rfl, rfl⟩) | ((iterate 13 (refine w1 (k := ?_))); refine seedA 2 5 7 66 (h := ?_); (repeat (refine w1 (k := ?_))); exact ⟨[.c _], .cons (.tmp rfl) .nil, rfl, rfl⟩)
