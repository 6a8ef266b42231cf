/- Chapter 18: an order is one; its rank. -/
import Derived.Test.YtkgajiddcljdjaaO1
set_option linter.all false
set_option maxRecDepth 2000
set_option maxHeartbeats 8000000
namespace Go.Proofs.Vl
open Go Go.RowKit
attribute [local irreducible] AWp OpTo Run DL Val UN DR AC Le thn inb nog
def pvBl (b : Bool) : List PV := [.s (.bool b)]
/-- Each number is one of n, and none stands twice. -/
def vSt (n : Nat) : List Bool → List Int → Bool
  | _, [] => true
  | bs, x :: xs => if 0 ≤ x ∧ x < n ∧ bs[x.toNat]? = some false then vSt n (bs.set x.toNat true) xs else false
def vB (p : List Int) : Bool := vSt p.length (List.replicate p.length false) p
theorem valid_ac (G) (p : List Int) (hl : p.length ≤ 1000) : AC Try.prog G 14 [fro (pvI .i64) p] [] (fun r _ => r = vb (vB p)) := by
  refine AC.body' Try.func14 Try.ntmps14 rfl ?_
  intro cx hd hG
  refine nrmL (k := ?_)
  repeat refine w1 (k := ?_)
  obtain ⟨w0, fz0, β0, df, G0⟩ := cx
  obtain rfl : G0 = G := hG
  rw [List.length_map]
  refine OpTo.makeN (sz := 1) (by_ := 1) pvBl false p.length rfl rfl (by decide) (by decide) (.inl rfl) rfl rfl rfl rfl rfl (Int.le_refl _) (by omega) (by omega) (by decide) rfl rfl ?_
  refine nrm (k := ?_)
  repeat refine w1 (k := ?_)
  refine loopN [(2, 1), (5, 1), (12, 21)] (α := Nat × List Bool) (fun y => [(11, vi (y.1 : Int))]) (fun y => [(8, .row 4 1 (y.2.map pvBl))]) (fun y => p.length - y.1) (fun y => y.1 ≤ p.length ∧ y.2.length = p.length ∧ vSt p.length y.2 (p.drop y.1) = vB p) (x0 := (0, List.replicate p.length false)) (h0 := by exact ⟨Nat.zero_le _, by simp, rfl⟩) (hr := ?_)
  intro y hI
  refine nrmL (k := ?_)
  obtain ⟨i, bs⟩ := y
  obtain ⟨h1, h2, h3⟩ := hI
  dsimp only at h1 h2 h3
  repeat refine w1 (k := ?_)
  refine condN (h1 := fun h => ?_) (h0 := fun h => ?_)
  ·
    have hi : i < p.length := by omega
    rw [List.drop_eq_getElem_cons hi, vSt] at h3
    obtain ⟨x, hx⟩ : ∃ x, x = p[i] := ⟨_, rfl⟩
    rw [← hx] at h3
    by_cases c1 : x < 0
    ·
      rw [if_neg (by omega)] at h3
      repeat refine w1 (k := ?_)
      exact ⟨[.c _], .cons (.tmp rfl) .nil, by rw [← h3]; rfl⟩
    · by_cases c2 : (p.length : Int) ≤ x
      ·
        rw [if_neg (by omega)] at h3
        repeat refine w1 (k := ?_)
        exact ⟨[.c _], .cons (.tmp rfl) .nil, by rw [← h3]; rfl⟩
      ·
        obtain ⟨k, rfl⟩ := Int.eq_ofNat_of_zero_le (show 0 ≤ x by omega)
        have hk : k < p.length := by omega
        have hk2 : k < bs.length := by omega
        rw [Int.toNat_natCast, List.getElem?_eq_getElem hk2] at h3
        have hz : (pvBl bs[k])[0]? = some (.s (.bool bs[k])) := rfl
        repeat refine w1 (k := ?_)
        simp only [← hx]
        repeat refine w1 (k := ?_)
        first | refine ofN (hv := by exact Val.ldR (j := k) (c := 0) (.s (.bool bs[k])) rfl rfl rfl rfl hk2 hz) (h := ?_) | refine dlN (hv := by exact Val.ldR (j := k) (c := 0) (.s (.bool bs[k])) rfl rfl rfl rfl hk2 hz) (h := ?_) | refine dlgN (hv := by exact Val.ldR (j := k) (c := 0) (.s (.bool bs[k])) rfl rfl rfl rfl hk2 hz) (h := ?_) | refine ofN (hv := by exact Val.ldR (j := k) (c := 0) (.s (.bool bs[k])) rfl rfl rfl rfl hk2 hz) (h := ?_)
        cases hb : bs[k]
        ·
          rw [hb, if_pos ⟨by omega, by omega, rfl⟩] at h3
          repeat refine w1 (k := ?_)
          refine OpTo.stRN (sz := 1) (j := k) (c := 0) (f := pvBl) (l := bs) true rfl rfl rfl hk2 rfl rfl (by kernel_rfl) (Nat.le_refl _) rfl ?_
          refine nrm (k := ?_)
          repeat refine w1 (k := ?_)
          refine ⟨(i + 1, bs.set k true), by omega, by exact ⟨by dsimp only; omega, by simp [h2], h3⟩, frg⟩
        ·
          rw [if_neg (by rw [hb]; rintro ⟨_, _, h⟩; cases h)] at h3
          repeat refine w1 (k := ?_)
          exact ⟨[.c _], .cons (.tmp rfl) .nil, by rw [← h3]; rfl⟩
  ·
    have : i = p.length := by omega
    subst this
    rw [List.drop_length, vSt] at h3
    repeat refine w1 (k := ?_)
    exact ⟨[.c _], .cons (.tmp rfl) .nil, by rw [← h3]; rfl⟩
