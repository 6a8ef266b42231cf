/- Sets with one field another one; both checks beside one another. -/
import Derived.Test.YtcheokfoilcdoaaK11
import Derived.Test.YtcheokfoilcdoaaK4
set_option linter.all false
set_option maxHeartbeats 8000000
namespace Go.Proofs.Vl
open Go Go.RowKit
attribute [local irreducible] AWp OpTo Run DL Val UN DR AC Le thn inb nog
def turnT (t : Tk) (how n : Int) (nm0 : ByteArray) : Tk :=
  if how = 0 then { t with c := n } else if how = 1 then { t with t := n } else if how = 2 then { t with d := n } else if how = 3 then { t with j := n } else if how = 4 then { t with q := n } else if how = 5 then { t with p := n } else { t with nm := nm0 }
theorem checks_ac (G) (l : List Tk) (hl : ∀ t ∈ l, t.nm.size ≤ maxLen) (hn : l.length ≤ maxLen) : AC Try.prog G 13 [fro tkP l] [] (fun r _ => r = vb true) := by
  refine AC.body' Try.func13 Try.ntmps13 rfl ?_
  intro cx hd hG
  refine nrmL (k := ?_)
  repeat refine w1 (k := ?_)
  have hm : l.length ≤ 9223372036854775807 := hn
  refine callN (hc := by exact all_ac _ l hl hn) (h := ?_)
  repeat refine w1 (k := ?_)
  refine callN (hc := by exact allR_ac _ l hl hn) (h := ?_)
  repeat refine w1 (k := ?_)
  refine loopN [(2, 1), (14, 17)] (α := Nat) (fun j => [(6, vi j)]) (fun j => [(5, .pcells 55 (gotP (allI l).1 (allI l).2))]) (fun j => l.length - j) (fun j => j ≤ l.length) (x0 := 0) (h0 := by first | omega | simp | (refine ⟨?_, ?_⟩ <;> first | omega | simp)) (hr := ?_)
  intro j hI
  refine nrmL (k := ?_)
  repeat refine w1 (k := ?_)
  refine condN (h1 := fun h => ?_) (h0 := fun h => ?_)
  · have hj : j < l.length := by omega
    repeat refine w1 (k := ?_)
    refine callN (hc := by exact checkT_ac _ _ (hl _ (List.getElem_mem hj))) (h := ?_)
    repeat refine w1 (k := ?_)
    refine callN (hc := by exact checkRT_ac _ _ (hl _ (List.getElem_mem hj))) (h := ?_)
    repeat refine w1 (k := ?_)
    simp only [bne_self_eq_false]
    repeat refine w1 (k := ?_)
    refine ⟨j + 1, by omega, by first | omega | (refine ⟨?_, ?_⟩ <;> omega), frg⟩
  ·
    repeat refine w1 (k := ?_)
    simp only [beq_self_eq_true, cond_true]
    repeat refine w1 (k := ?_)
    simp only [beq_self_eq_true, cond_true]
    repeat refine w1 (k := ?_)
    refine ⟨[.c _], .cons (.tmp rfl) .nil, ?_⟩
    rfl
def turnL (l : List Tk) (at_ how n : Int) : List Tk :=
  let i := (at_ % l.length).toNat
  match l with
  | [] => []
  | t0 :: r => (t0 :: r).set i (turnT ((t0 :: r).getD i t0) (how % 7) n t0.nm)
theorem turnL_eq {l : List Tk} {a0 : Tk} {r0 : List Tk} (he : l = a0 :: r0) {at_ how n : Int} {i : Nat} (hi : (i : Int) = at_ % l.length) (hil : i < l.length) : turnL l at_ how n = l.set i (turnT l[i] (how % 7) n a0.nm) := by
  subst he
  have : (at_ % ((a0 :: r0).length : Int)).toNat = i := by omega
  simp only [turnL, this, List.getD_eq_getElem?_getD, List.getElem?_eq_getElem hil, Option.getD_some]
theorem turned_ac (G) (l : List Tk) (a0 : Tk) (r0 : List Tk) (he : l = a0 :: r0) (at_ how n : Int) (hn : l.length ≤ maxLen) (h0 : l.length < 1000000) : AC Try.prog G 12 [fro tkP l, vi at_, vi how, vi n] [] (fun r os => r = .c (.own 11 7 (turnL l at_ how n).length) ∧ find os 11 = some (.row 26 7 ((turnL l at_ how n).map tkP))) := by
  refine AC.body' Try.func12 Try.ntmps12 rfl ?_
  intro cx hd hG
  refine nrmL (k := ?_)
  repeat refine w1 (k := ?_)
  have hm : l.length ≤ 9223372036854775807 := hn
  have hp : 0 < l.length := by rw [he]; simp
  refine litA tkP [] (h := ?_)
  repeat refine w1 (k := ?_)
  refine appA 11 64 tkP [] l (h := ?_)
  repeat refine w1 (k := ?_)
  obtain ⟨i, hi⟩ : ∃ i : Nat, (i : Int) = at_ % l.length := ⟨(at_ % l.length).toNat, by have := Int.emod_nonneg at_ (show (l.length : Int) ≠ 0 by omega); omega⟩
  have hil : i < l.length := by have := Int.emod_lt_of_pos at_ (show (0 : Int) < l.length by omega); omega
  refine OpTo.callO (by rfl) (by rfl) (by rfl) (by rfl) (rest_ac _ at_ l.length (by omega) (by omega)) ?_
  rintro r os' rfl
  refine ⟨_, .val rfl, ?_⟩
  rw [← hi]
  refine nrm (k := ?_)
  repeat refine w1 (k := ?_)
  refine callN (hc := by exact rest_ac _ _ 7 (by decide) (by decide)) (h := ?_)
  repeat refine w1 (k := ?_)
  refine condN (h1 := fun g0 => ?_) (h0 := fun g0 => ?_)
  ·
    repeat refine w1 (k := ?_)
    have ht : turnT l[i] (how % 7) n a0.nm = { l[i] with c := n } := by simp [turnT, g0]
    refine stA ({ l[i] with c := n }) (by exact hil) (h := ?_)
    repeat refine w1 (k := ?_)
    refine ⟨[.c _], .cons (.tmp rfl) .nil, ?_⟩
    rw [turnL_eq he hi hil, ht]
    exact ⟨by rw [List.length_set]; rfl, rfl⟩
  repeat refine w1 (k := ?_)
  refine condN (h1 := fun g1 => ?_) (h0 := fun g1 => ?_)
  ·
    repeat refine w1 (k := ?_)
    have ht : turnT l[i] (how % 7) n a0.nm = { l[i] with t := n } := by simp [turnT, g0, g1]
    refine stA ({ l[i] with t := n }) (by exact hil) (h := ?_)
    repeat refine w1 (k := ?_)
    refine ⟨[.c _], .cons (.tmp rfl) .nil, ?_⟩
    rw [turnL_eq he hi hil, ht]
    exact ⟨by rw [List.length_set]; rfl, rfl⟩
  repeat refine w1 (k := ?_)
  refine condN (h1 := fun g2 => ?_) (h0 := fun g2 => ?_)
  ·
    repeat refine w1 (k := ?_)
    have ht : turnT l[i] (how % 7) n a0.nm = { l[i] with d := n } := by simp [turnT, g0, g1, g2]
    refine stA ({ l[i] with d := n }) (by exact hil) (h := ?_)
    repeat refine w1 (k := ?_)
    refine ⟨[.c _], .cons (.tmp rfl) .nil, ?_⟩
    rw [turnL_eq he hi hil, ht]
    exact ⟨by rw [List.length_set]; rfl, rfl⟩
  repeat refine w1 (k := ?_)
  refine condN (h1 := fun g3 => ?_) (h0 := fun g3 => ?_)
  ·
    repeat refine w1 (k := ?_)
    have ht : turnT l[i] (how % 7) n a0.nm = { l[i] with j := n } := by simp [turnT, g0, g1, g2, g3]
    refine stA ({ l[i] with j := n }) (by exact hil) (h := ?_)
    repeat refine w1 (k := ?_)
    refine ⟨[.c _], .cons (.tmp rfl) .nil, ?_⟩
    rw [turnL_eq he hi hil, ht]
    exact ⟨by rw [List.length_set]; rfl, rfl⟩
  repeat refine w1 (k := ?_)
  refine condN (h1 := fun g4 => ?_) (h0 := fun g4 => ?_)
  ·
    repeat refine w1 (k := ?_)
    have ht : turnT l[i] (how % 7) n a0.nm = { l[i] with q := n } := by simp [turnT, g0, g1, g2, g3, g4]
    refine stA ({ l[i] with q := n }) (by exact hil) (h := ?_)
    repeat refine w1 (k := ?_)
    refine ⟨[.c _], .cons (.tmp rfl) .nil, ?_⟩
    rw [turnL_eq he hi hil, ht]
    exact ⟨by rw [List.length_set]; rfl, rfl⟩
  repeat refine w1 (k := ?_)
  refine condN (h1 := fun g5 => ?_) (h0 := fun g5 => ?_)
  ·
    repeat refine w1 (k := ?_)
    have ht : turnT l[i] (how % 7) n a0.nm = { l[i] with p := n } := by simp [turnT, g0, g1, g2, g3, g4, g5]
    refine stA ({ l[i] with p := n }) (by exact hil) (h := ?_)
    repeat refine w1 (k := ?_)
    refine ⟨[.c _], .cons (.tmp rfl) .nil, ?_⟩
    rw [turnL_eq he hi hil, ht]
    exact ⟨by rw [List.length_set]; rfl, rfl⟩
  repeat refine w1 (k := ?_)
  have ht : turnT l[i] (how % 7) n a0.nm = { l[i] with nm := a0.nm } := by simp [turnT, g0, g1, g2, g3, g4, g5]
  first | refine ofN (hv := by exact Val.ldR (f := tkP) (l := l) (.s (.string a0.nm)) rfl rfl rfl rfl hp (by subst he; rfl)) (h := ?_) | refine dlN (hv := by exact Val.ldR (f := tkP) (l := l) (.s (.string a0.nm)) rfl rfl rfl rfl hp (by subst he; rfl)) (h := ?_) | refine dlgN (hv := by exact Val.ldR (f := tkP) (l := l) (.s (.string a0.nm)) rfl rfl rfl rfl hp (by subst he; rfl)) (h := ?_) | refine ofN (hv := by exact Val.ldR (f := tkP) (l := l) (.s (.string a0.nm)) rfl rfl rfl rfl hp (by subst he; rfl)) (h := ?_)
  repeat refine w1 (k := ?_)
  refine stA ({ l[i] with nm := a0.nm }) (by exact hil) (h := ?_)
  repeat refine w1 (k := ?_)
  refine ⟨[.c _], .cons (.tmp rfl) .nil, ?_⟩
  rw [turnL_eq he hi hil, ht]
  exact ⟨by rw [List.length_set]; rfl, rfl⟩
end Go.Proofs.Vl
