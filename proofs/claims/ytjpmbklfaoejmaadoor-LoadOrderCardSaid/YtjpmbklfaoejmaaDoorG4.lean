/- Sums of loads (package load). -/
import Derived.Test.YtjpmbklfaoejmaaDoorG5
set_option linter.all false
set_option maxHeartbeats 8000000
namespace Go.Proofs.Vl
open Go Go.RowKit
attribute [local irreducible] AWp OpTo Run DL Val UN DR AC Le thn inb nog
def tOk (t : Tk) : Prop := i64 t.c ∧ i64 t.t
def tkF (t : Tk) : Nat × Nat := ofF t.c t.t
def badB (t : Tk) : Bool := decide (tkF t = (0, 0))
theorem tkF_ok {t : Tk} (h : tOk t) : lOk (tkF t) := by
  obtain ⟨⟨h1, h2⟩, h3, h4⟩ := h
  unfold tkF ofF
  split
  · exact ⟨by decide, by decide⟩
  · exact fm_ok (by omega) (by omega)
theorem tkF_pos {t : Tk} (h : badB t = false) : 0 < (tkF t).2 := by
  have h := of_decide_eq_false h
  unfold tkF ofF at h ⊢
  split
  · rename_i g; rw [if_pos g] at h; exact absurd rfl h
  · exact fm_pos (by omega)
theorem adF_ok {a b : Nat × Nat} (h : adB a b = true) (ha : 0 < a.2) (hb : 0 < b.2) : lOk (adF a b) ∧ 0 < (adF a b).2 := by
  rw [adF, if_pos h]
  unfold adB at h
  simp only [Bool.and_eq_true] at h
  obtain ⟨h1, _, _, h4⟩ := h
  exact ⟨fm_ok (okB_t h4).2 (okB_t h1).2, fm_pos (Nat.lcm_pos ha hb)⟩
/-- The sum from a start on: none when a step does not fit. -/
def sumF : Nat × Nat → List Tk → Option (Nat × Nat)
  | a, [] => some a
  | a, t :: l => if adB a (tkF t) then sumF (adF a (tkF t)) l else none
def smF (l : List Tk) : (Nat × Nat) × Int := if l.any badB then ((0, 0), 1) else match sumF (0, 1) l with
  | some a => (a, 0)
  | none => ((0, 0), 17)
theorem any_take {l : List Tk} {j : Nat} (hj : j < l.length) (h : (l.take j).any badB = false) (h2 : badB l[j] = false) : (l.take (j + 1)).any badB = false := by
  rw [List.take_succ_eq_append_getElem hj, List.any_append, h]; simp [h2]
theorem any_get {l : List Tk} (h : l.any badB = false) {j : Nat} (hj : j < l.length) : badB l[j] = false := by
  rw [List.any_eq_false] at h
  exact Bool.eq_false_iff.2 (h _ (List.getElem_mem hj))
theorem any_yes {l : List Tk} {j : Nat} (hj : j < l.length) (h2 : badB l[j] = true) : l.any badB = true := List.any_eq_true.2 ⟨_, List.getElem_mem hj, h2⟩
theorem sumF_step {a : Nat × Nat} {l : List Tk} {j : Nat} (hj : j < l.length) : sumF a (l.drop j) = if adB a (tkF l[j]) then sumF (adF a (tkF l[j])) (l.drop (j + 1)) else none := by
  rw [List.drop_eq_getElem_cons hj]; rfl
theorem sum_ac (l : List Tk) (hl : l.length ≤ maxLen) (ho : ∀ t ∈ l, tOk t) : AC Tryd.prog GL 14 [fro tkP l] [] (fun r _ => r = .tup [.pag (ldP (smF l).1), .c (.p (.s (.int .i64 (smF l).2)))]) := by
  refine AC.body' Tryd.func14 Tryd.ntmps14 rfl ?_
  intro cx hd hG
  refine nrmL (k := ?_)
  repeat refine w1 (k := ?_)
  obtain ⟨w0, fz0, β0, df, G0⟩ := cx
  obtain rfl : G0 = GL := hG
  have hl2 := hl
  rw [maxLen] at hl2
  refine cutIN [(3, 1), (5, 37)] (α := Unit) (fun u => []) (fun u => [(2, .pcells 24 (ldP (0, 0)))]) (fun u => l.any badB = false) ?_ (fun u hI => ?_)
  ·
    refine loopN [(3, 1), (5, 1), (13, 9)] (α := Nat) (fun j => [(12, vi j)]) (fun j => [(2, .pcells 24 (ldP (0, 0)))]) (fun j => l.length - j) (fun j => j ≤ l.length ∧ (l.take j).any badB = false) (x0 := 0) (h0 := by first | omega | simp | (refine ⟨?_, ?_⟩ <;> first | omega | simp)) (hr := ?_)
    intro j hI
    refine nrmL (k := ?_)
    repeat refine w1 (k := ?_)
    refine condN (h1 := fun h => ?_) (h0 := fun h => ?_)
    ·
      have hj : j < l.length := by omega
      repeat refine w1 (k := ?_)
      refine callN (hc := by exact of_ac l[j] (ho _ (List.getElem_mem _)).1 (ho _ (List.getElem_mem _)).2) (h := ?_)
      repeat refine w1 (k := ?_)
      first | refine ofN (hv := by exact Val.eqL rfl rfl rfl rfl) (h := ?_) | refine dlN (hv := by exact Val.eqL rfl rfl rfl rfl) (h := ?_) | refine dlgN (hv := by exact Val.eqL rfl rfl rfl rfl) (h := ?_) | refine ofN (hv := by exact Val.eqL rfl rfl rfl rfl) (h := ?_)
      repeat refine w1 (k := ?_)
      by_cases hb : ofF l[j].c l[j].t = (0, 0)
      ·
        rw [decide_eq_true hb]
        repeat refine w1 (k := ?_)
        refine ⟨[.pag _, .c _], .cons (.ldF rfl rfl rfl rfl) (.cons (.tmp rfl) .nil), ?_⟩
        rw [smF, if_pos (any_yes hj (decide_eq_true hb))]; rfl
      ·
        rw [decide_eq_false hb]
        repeat refine w1 (k := ?_)
        refine ⟨j + 1, by omega, by exact ⟨by omega, any_take hj hI.2 (decide_eq_false hb)⟩, frg⟩
    ·
      have hj : j = l.length := by omega
      repeat refine w1 (k := ?_)
      refine ⟨(), by rw [hj, List.take_length] at hI; exact hI.2, frg⟩
  have hI0 := hI
  clear hI
  refine nrmL (k := ?_)
  repeat refine w1 (k := ?_)
  refine cutIN [(3, 1), (5, 1), (7, 35)] (α := Nat × Nat) (fun a => []) (fun a => [(2, .pcells 24 (ldP (0, 0))), (6, .pcells 24 (ldP a))]) (fun a => sumF (0, 1) l = some a) ?_ (fun a hI => ?_)
  ·
    refine nrmL (k := ?_)
    refine loopN [(3, 1), (7, 1), (9, 1), (26, 14)] (α := Nat × (Nat × Nat)) (fun x => [(25, vi x.1)]) (fun x => [(2, .pcells 24 (ldP (0, 0))), (6, .pcells 24 (ldP x.2))]) (fun x => l.length - x.1) (fun x => x.1 ≤ l.length ∧ lOk x.2 ∧ 0 < x.2.2 ∧ sumF (0, 1) l = sumF x.2 (l.drop x.1)) (x0 := (0, (0, 1))) (h0 := by exact ⟨by omega, ⟨by decide, by decide⟩, by decide, rfl⟩) (hr := ?_)
    intro x hI
    refine nrmL (k := ?_)
    obtain ⟨j, a⟩ := x
    dsimp only at hI ⊢
    obtain ⟨b1, b2, b3, b4⟩ := hI
    repeat refine w1 (k := ?_)
    refine condN (h1 := fun h => ?_) (h0 := fun h => ?_)
    ·
      have hj : j < l.length := by omega
      have ht := ho _ (List.getElem_mem hj)
      have hp := tkF_pos (any_get hI0 hj)
      repeat refine w1 (k := ?_)
      refine callN (hc := by exact of_ac l[j] ht.1 ht.2) (h := ?_)
      repeat refine w1 (k := ?_)
      refine callN (hc := by exact add24_ac a (tkF l[j]) b2 (tkF_ok ht) b3 hp) (h := ?_)
      repeat refine w1 (k := ?_)
      refine DL.take 0 rfl (by decide +kernel) rfl (Val.extract rfl rfl rfl) ?_
      repeat refine w1 (k := ?_)
      rw [sumF_step hj] at b4
      cases hb : adB a (tkF l[j])
      ·
        repeat refine w1 (k := ?_)
        refine ⟨[.pag _, .c _], .cons (.ldF rfl rfl rfl rfl) (.cons (.tmp rfl) .nil), ?_⟩
        rw [hb, if_neg (by decide)] at b4
        rw [smF, if_neg (by rw [hI0]; decide), b4]; rfl
      ·
        repeat refine w1 (k := ?_)
        rw [hb, if_pos rfl] at b4
        have hk := adF_ok hb b3 hp
        refine ⟨(j + 1, adF a (tkF l[j])), by omega, by exact ⟨by dsimp only; omega, hk.1, hk.2, b4⟩, frg⟩
    ·
      have hj : j = l.length := by omega
      repeat refine w1 (k := ?_)
      refine ⟨a, by rw [hj, List.drop_length] at b4; exact b4, frg⟩
  refine nrmL (k := ?_)
  repeat refine w1 (k := ?_)
  refine ⟨[.pag _, .c _], .cons (.ldF rfl rfl rfl rfl) (.cons (.tmp rfl) .nil), ?_⟩
  rw [smF, if_neg (by rw [hI0]; decide), hI]; rfl
end Go.Proofs.Vl
