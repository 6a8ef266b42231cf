/- Chapter 18: the rank of an order; the chapter's example. -/
import Derived.Test.YtkgajiddcljdjaaO5
set_option linter.all false
set_option maxRecDepth 2000
set_option maxHeartbeats 8000000
namespace Go.Proofs.Vl
open Go Go.RowKit
attribute [local irreducible] AWp OpTo Run DL Val UN DR AC Le thn inb nog
def lessN (p : List Int) (k : Nat) : Nat := match p[k]? with
  | some y => (p.drop (k + 1)).countP fun x => decide (x < y)
  | none => 0
def rkT (p : List Int) : Nat → Nat
  | 0 => 0
  | i + 1 => rkT p i * (p.length - i) + lessN p i
theorem lessN_le (p : List Int) (k : Nat) : lessN p k ≤ p.length - (k + 1) := by
  unfold lessN
  split
  · exact Nat.le_trans List.countP_le_length (by simp)
  · exact Nat.zero_le _
theorem rkT_lt (p : List Int) (hp : p.length ≤ 8) : ∀ i, i ≤ p.length → rkT p i < 8 ^ i
  | 0, _ => Nat.zero_lt_one
  | i + 1, h => by
    have ih := rkT_lt p hp i (by omega)
    have h1 := lessN_le p i
    have h2 : rkT p i * (p.length - i) ≤ rkT p i * 8 := Nat.mul_le_mul_left _ (by omega)
    rw [rkT, Nat.pow_succ]; omega
theorem rkT_b (p : List Int) (hp : p.length ≤ 8) (i : Nat) (h : i ≤ p.length) : rkT p i < 16777216 := by
  refine Nat.lt_of_lt_of_le (rkT_lt p hp i h) ?_
  exact Nat.le_trans (Nat.pow_le_pow_right (by decide) (show i ≤ 8 by omega)) (by decide)
theorem less_ac (G) (p : List Int) (k : Nat) (hk : k < p.length) (hp : p.length ≤ 1000) : AC Try.prog G 27 [fro (pvI .i64) p, vi (k : Int)] [] (fun r _ => r = vi (lessN p k : Nat)) := by
  refine AC.body' Try.func27 Try.ntmps27 rfl ?_
  intro cx hd hG
  refine nrmL (k := ?_)
  repeat refine w1 (k := ?_)
  obtain ⟨w0, fz0, β0, df, G0⟩ := cx
  obtain rfl : G0 = G := hG
  first | refine ofN (hv := by exact Val.cutN (f := pvI .i64) (l := p) (a := k + 1) (b := p.length) rfl rfl rfl (Bnd.at (v := (k : Int) + 1) (k := .i64) rfl rfl (by omega)) (.inl ⟨rfl, rfl⟩) (by omega) (by omega) (fun _ => rfl)) (h := ?_) | refine dlN (hv := by exact Val.cutN (f := pvI .i64) (l := p) (a := k + 1) (b := p.length) rfl rfl rfl (Bnd.at (v := (k : Int) + 1) (k := .i64) rfl rfl (by omega)) (.inl ⟨rfl, rfl⟩) (by omega) (by omega) (fun _ => rfl)) (h := ?_) | refine dlgN (hv := by exact Val.cutN (f := pvI .i64) (l := p) (a := k + 1) (b := p.length) rfl rfl rfl (Bnd.at (v := (k : Int) + 1) (k := .i64) rfl rfl (by omega)) (.inl ⟨rfl, rfl⟩) (by omega) (by omega) (fun _ => rfl)) (h := ?_) | refine ofN (hv := by exact Val.cutN (f := pvI .i64) (l := p) (a := k + 1) (b := p.length) rfl rfl rfl (Bnd.at (v := (k : Int) + 1) (k := .i64) rfl rfl (by omega)) (.inl ⟨rfl, rfl⟩) (by omega) (by omega) (fun _ => rfl)) (h := ?_)
  rw [List.take_length]
  have e : lessN p k = (p.drop (k + 1)).countP fun x => decide (x < p[k]) := by unfold lessN; rw [List.getElem?_eq_getElem hk]
  have hm : (p.drop (k + 1)).length = p.length - (k + 1) := List.length_drop
  generalize p.drop (k + 1) = m at *
  repeat refine w1 (k := ?_)
  simp only [List.length_map]
  refine loopN [(7, 1), (14, 12)] (α := Nat) (fun i => [(5, vi (((m.take i).countP fun x => decide (x < p[k]) : Nat) : Int)), (13, vi (i : Int))]) (fun i => []) (fun i => m.length - i) (fun i => i ≤ m.length) (x0 := 0) (h0 := by first | omega | simp | (refine ⟨?_, ?_⟩ <;> first | omega | simp)) (hr := ?_)
  intro i hI
  refine nrmL (k := ?_)
  repeat refine w1 (k := ?_)
  refine condN (h1 := fun h => ?_) (h0 := fun h => ?_)
  ·
    have hi : i < m.length := by omega
    have hs : (m.take (i + 1)).countP (fun x => decide (x < p[k])) = (m.take i).countP (fun x => decide (x < p[k])) + if m[i] < p[k] then 1 else 0 := by
      rw [List.take_succ_eq_append_getElem hi, List.countP_append, List.countP_singleton]; simp
    have hb : (m.take i).countP (fun x => decide (x < p[k])) ≤ m.length := Nat.le_trans List.countP_le_length (by simp; omega)
    repeat refine w1 (k := ?_)
    refine condN (h1 := fun h2 => ?_) (h0 := fun h2 => ?_)
    ·
      rw [if_pos h2] at hs
      repeat refine w1 (k := ?_)
      rw [show ((((m.take i).countP fun x => decide (x < p[k]) : Nat) : Int) + 1) = (((m.take (i + 1)).countP fun x => decide (x < p[k]) : Nat) : Int) by rw [hs]; simp]
      refine ⟨i + 1, by omega, by first | omega | (refine ⟨?_, ?_⟩ <;> omega), frg⟩
    ·
      rw [if_neg (by omega)] at hs
      simp only [Nat.add_zero] at hs
      repeat refine w1 (k := ?_)
      rw [← hs]
      refine ⟨i + 1, by omega, by first | omega | (refine ⟨?_, ?_⟩ <;> omega), frg⟩
  ·
    repeat refine w1 (k := ?_)
    have : i = m.length := by omega
    subst this
    rw [List.take_length, ← e]
    exact ⟨[.c _], .cons (.tmp rfl) .nil, rfl⟩
theorem rank_ac (G) (p : List Int) (hp : p.length ≤ 8) (hv : vB p = true) : AC Try.prog G 11 [fro (pvI .i64) p] [] (fun r _ => r = .tup [.c (.p (.s (.int .i64 (rkT p p.length : Nat)))), .c (.p (.s (.bool true)))]) := by
  refine AC.body' Try.func11 Try.ntmps11 rfl ?_
  intro cx hd hG
  refine nrmL (k := ?_)
  repeat refine w1 (k := ?_)
  obtain ⟨w0, fz0, β0, df, G0⟩ := cx
  obtain rfl : G0 = G := hG
  simp only [List.length_map]
  repeat refine w1 (k := ?_)
  refine callN (hc := by exact valid_ac _ p (by omega)) (h := ?_)
  repeat refine w1 (k := ?_)
  rw [hv]
  repeat refine w1 (k := ?_)
  simp only [List.length_map]
  refine loopN [(5, 1), (17, 13)] (α := Nat) (fun i => [(4, vi (rkT p i : Nat)), (16, vi (i : Int))]) (fun i => []) (fun i => p.length - i) (fun i => i ≤ p.length) (x0 := 0) (h0 := by first | omega | simp | (refine ⟨?_, ?_⟩ <;> first | omega | simp)) (hr := ?_)
  intro i hI
  refine nrmL (k := ?_)
  repeat refine w1 (k := ?_)
  refine condN (h1 := fun h => ?_) (h0 := fun h => ?_)
  ·
    have hi : i < p.length := by omega
    have hb := rkT_b p hp i hI
    have hb2 := rkT_b p hp (i + 1) hi
    have hb3 := lessN_le p i
    rw [rkT] at hb2
    have hm : 0 ≤ (rkT p i : Int) * ((p.length : Int) - i) ∧ (rkT p i : Int) * ((p.length : Int) - i) < 16777216 := by
      rw [show (p.length : Int) - i = ((p.length - i : Nat) : Int) by omega, ← Int.natCast_mul]; omega
    repeat refine w1 (k := ?_)
    simp only [List.length_map]
    repeat refine w1 (k := ?_)
    refine callN (hc := by exact less_ac _ p i hi (by omega)) (h := ?_)
    repeat refine w1 (k := ?_)
    rw [show IntKind.i64.wrap (IntKind.i64.wrap ((rkT p i : Int) * IntKind.i64.wrap ((p.length : Int) - i)) + (lessN p i : Int)) = ((rkT p (i + 1) : Nat) : Int) by
      rw [show IntKind.i64.wrap ((p.length : Int) - i) = (p.length : Int) - i from wrap_id (by omega) (by omega), show IntKind.i64.wrap ((rkT p i : Int) * ((p.length : Int) - i)) = (rkT p i : Int) * ((p.length : Int) - i) from wrap_id (by omega) (by omega), wrap_id (by omega) (by omega), rkT, Int.natCast_add, Int.natCast_mul, show ((p.length - i : Nat) : Int) = (p.length : Int) - i by omega]]
    refine ⟨i + 1, by omega, by first | omega | (refine ⟨?_, ?_⟩ <;> omega), frg⟩
  ·
    repeat refine w1 (k := ?_)
    have : i = p.length := by omega
    subst this
    exact ⟨[.c _, .c _], .cons (.tmp rfl) (.cons (.tmp rfl) .nil), rfl⟩
