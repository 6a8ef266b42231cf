/- The least common multiple of the periods; the row 'LoadPeriod', by values. -/
import Derived.Test.YtjpmbklfaoejmaaDoorG8
set_option linter.all false
set_option maxHeartbeats 8000000
namespace Go.Proofs.Vl
open Go Go.RowKit
attribute [local irreducible] AWp OpTo Run DL Val UN DR AC Le thn inb nog
theorem set12_len (l : List Sp) (most turn : Int) : (setL l most turn).length ≤ most.toNat := by simp [setL]; omega
theorem set12_ok (l : List Sp) (most turn : Int) : ∀ t ∈ setL l most turn, 1 ≤ t.c ∧ t.c ≤ 4 ∧ 1 ≤ t.t ∧ t.t ≤ 20 := by
  intro t h
  obtain ⟨i, hi, rfl⟩ := List.getElem_of_mem h
  simp only [setL, List.getElem_mapIdx, mkT]
  omega
theorem set12_tok {t : Tk} (h : 1 ≤ t.c ∧ t.c ≤ 4 ∧ 1 ≤ t.t ∧ t.t ≤ 20) : tOk t := ⟨⟨by omega, by omega⟩, by omega, by omega⟩
def per1 (t : Tk) : Bool := decide (1 ≤ t.t)
def perF : Nat → List Tk → Option Nat
  | a, [] => some a
  | a, t :: l => if okB (Nat.lcm a t.t.toNat) then perF (Nat.lcm a t.t.toNat) l else none
def perL (l : List Tk) : Option Nat := if l.all per1 then perF 1 l else none
theorem perF_step {a : Nat} {l : List Tk} {j : Nat} (hj : j < l.length) : perF a (l.drop j) = if okB (Nat.lcm a l[j].t.toNat) then perF (Nat.lcm a l[j].t.toNat) (l.drop (j + 1)) else none := by
  rw [List.drop_eq_getElem_cons hj]; rfl
theorem all_take {l : List Tk} {j : Nat} (hj : j < l.length) : (l.take (j + 1)).all per1 = ((l.take j).all per1 && per1 l[j]) := by
  rw [List.take_succ_eq_append_getElem hj, List.all_append]; simp
theorem period_ac (G) (l : List Tk) (hl : l.length ≤ maxLen) (ho : ∀ t ∈ l, tOk t) : AC Tryd.prog G 18 [fro tkP l] [] (fun r _ => r = .tup [tu (((perL l).getD 0 : Nat) : Int), tb (perL l).isSome]) := by
  refine AC.body' Tryd.func18 Tryd.ntmps18 rfl ?_
  intro cx hd hG
  refine nrmL (k := ?_)
  repeat refine w1 (k := ?_)
  have hl2 := hl
  rw [maxLen] at hl2
  refine cutIN [(6, 37)] (α := Bool) (fun b => [(4, vn 1), (5, vb b)]) (fun b => []) (fun b => b = l.all per1) ?_ (fun b hI => ?_)
  ·
    refine loopN [(7, 1), (13, 10)] (α := Nat × Bool) (fun x => [(5, vb x.2), (12, vi x.1)]) (fun x => []) (fun x => l.length - x.1) (fun x => x.1 ≤ l.length ∧ x.2 = (l.take x.1).all per1) (x0 := (0, true)) (h0 := by exact ⟨by omega, rfl⟩) (hr := ?_)
    intro x hI
    refine nrmL (k := ?_)
    obtain ⟨j, b⟩ := x
    dsimp only at hI ⊢
    obtain ⟨h1, h2⟩ := hI
    repeat refine w1 (k := ?_)
    refine condN (h1 := fun h => ?_) (h0 := fun h => ?_)
    ·
      have hj : j < l.length := by omega
      have e := all_take hj
      rw [← h2] at e
      cases b
      ·
        repeat refine w1 (k := ?_)
        refine ⟨(j + 1, false), by omega, by exact ⟨by dsimp only; omega, by rw [e]; rfl⟩, frg⟩
      ·
        repeat refine w1 (k := ?_)
        refine ⟨(j + 1, decide (l[j].t ≥ 1)), by omega, by exact ⟨by dsimp only; omega, by rw [e]; rfl⟩, frg⟩
    ·
      have hj : j = l.length := by omega
      repeat refine w1 (k := ?_)
      refine ⟨b, by rw [h2, hj, List.take_length], frg⟩
  have hI0 := hI
  clear hI
  refine nrmL (k := ?_)
  repeat refine w1 (k := ?_)
  refine cutIN [(6, 37)] (α := Nat × Bool) (fun y => [(4, vn y.1), (5, vb y.2)]) (fun y => []) (fun y => (y.2 = true → perL l = some y.1) ∧ (y.2 = false → perL l = none)) ?_ (fun y hI => ?_)
  ·
    refine nrmL (k := ?_)
    refine loopN [(9, 1), (26, 13)] (α := Nat × Nat × Bool) (fun x => [(4, vn x.2.1), (5, vb x.2.2), (25, vi x.1)]) (fun x => []) (fun x => l.length - x.1) (fun x => x.1 ≤ l.length ∧ x.2.1 < 18446744073709551616 ∧ (x.2.2 = true → 0 < x.2.1 ∧ l.all per1 = true ∧ perL l = perF x.2.1 (l.drop x.1)) ∧ (x.2.2 = false → perL l = none)) (x0 := (0, 1, b)) (h0 := by exact ⟨by omega, by dsimp only; omega, fun h => ⟨by dsimp only; omega, by rw [← hI0]; exact h, by rw [perL, if_pos (by rw [← hI0]; exact h)]; rfl⟩, fun h => by rw [perL, if_neg (by rw [← hI0]; dsimp only at h; rw [h]; decide)]⟩) (hr := ?_)
    intro x hI
    refine nrmL (k := ?_)
    obtain ⟨j, a, b⟩ := x
    dsimp only at hI ⊢
    obtain ⟨b1, b2, b3, b4⟩ := hI
    repeat refine w1 (k := ?_)
    refine condN (h1 := fun h => ?_) (h0 := fun h => ?_)
    ·
      have hj : j < l.length := by omega
      cases b
      ·
        repeat refine w1 (k := ?_)
        refine ⟨(j + 1, a, false), by omega, by exact ⟨by dsimp only; omega, b2, fun h => by (cases h), fun _ => b4 rfl⟩, frg⟩
      ·
        obtain ⟨c1, c2, c3⟩ := b3 rfl
        have ht := ho _ (List.getElem_mem hj)
        have hp : 1 ≤ l[j].t := by have := List.all_eq_true.1 c2 _ (List.getElem_mem hj); exact of_decide_eq_true this
        obtain ⟨m, hm⟩ := Int.eq_ofNat_of_zero_le (show 0 ≤ l[j].t by omega)
        have hm2 := ht.2.2
        repeat refine w1 (k := ?_)
        rw [hm]
        repeat refine w1 (k := ?_)
        refine callN (hc := by exact lcm_ac _ a m b2 (by omega)) (h := ?_)
        repeat refine w1 (k := ?_)
        obtain ⟨g1, g2⟩ := lcN_pos c1 (show 0 < m by omega)
        rw [g1, g2]
        repeat refine w1 (k := ?_)
        rw [perF_step hj, hm, Int.toNat_natCast] at c3
        cases hb : okB (Nat.lcm a m)
        ·
          rw [hb, if_neg (by decide)] at c3
          rw [show okN (Nat.lcm a m) = ((0 : Nat) : Int) by rw [okN, if_neg (of_decide_eq_false hb)]; rfl]
          refine ⟨(j + 1, 0, false), by omega, by exact ⟨by dsimp only; omega, by dsimp only; omega, fun h => by (cases h), fun _ => c3⟩, frg⟩
        ·
          rw [hb, if_pos rfl] at c3
          obtain ⟨e1, e2⟩ := okB_t hb
          rw [e1]
          refine ⟨(j + 1, Nat.lcm a m, true), by omega, by exact ⟨by dsimp only; omega, e2, fun _ => ⟨Nat.lcm_pos c1 (by omega), c2, c3⟩, fun h => by (cases h)⟩, frg⟩
    ·
      have hj : j = l.length := by omega
      repeat refine w1 (k := ?_)
      refine ⟨(a, b), by exact ⟨fun h => by have := (b3 h).2.2; rw [hj, List.drop_length] at this; exact this, b4⟩, frg⟩
  refine nrmL (k := ?_)
  obtain ⟨a, c⟩ := y
  dsimp only at hI ⊢
  obtain ⟨h1, h2⟩ := hI
  cases c
  ·
    repeat refine w1 (k := ?_)
    refine ⟨[.c _, .c _], .cons (.tmp rfl) (.cons (.tmp rfl) .nil), ?_⟩
    rw [h2 rfl]; rfl
  ·
    repeat refine w1 (k := ?_)
    refine ⟨[.c _, .c _], .cons (.tmp rfl) (.cons (.tmp rfl) .nil), ?_⟩
    rw [h1 rfl]; rfl
end Go.Proofs.Vl
