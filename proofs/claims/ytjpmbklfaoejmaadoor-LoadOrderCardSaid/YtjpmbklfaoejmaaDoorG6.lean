/- The reference's comparison; the law's helpers awake, rest, compares. -/
import Derived.Test.YtjpmbklfaoejmaaDoorG4
import Derived.Laws.Bits128
set_option linter.all false
set_option maxHeartbeats 8000000
namespace Go.Proofs.Vl
open Go Go.RowKit
attribute [local irreducible] AWp OpTo Run DL Val UN DR AC Le thn inb nog
theorem rcmp_ac : ∀ (n : Nat) (G) (a b : Nat × Nat), a.2 + b.2 ≤ n → lOk a → lOk b → AC Tryd.prog G 21 [.pag (ldP a), .pag (ldP b)] [] (fun r _ => r = vi (cmpN a b)) := by
  intro n
  induction n with
  | zero =>
    intro G a b hn ha hb
    obtain ⟨an, ad⟩ := a
    obtain ⟨bn, bd⟩ := b
    dsimp only at hn
    obtain rfl : ad = 0 := by omega
    refine AC.body' Tryd.func21 Tryd.ntmps21 rfl ?_
    intro cx hd hG
    refine nrmL (k := ?_)
    repeat refine w1 (k := ?_)
    refine ⟨[.c _], .cons (.tmp rfl) .nil, ?_⟩
    rw [cmpN, if_pos (.inl rfl)]; rfl
  | succ n ih =>
    intro G a b hn ha hb
    obtain ⟨an, ad⟩ := a
    obtain ⟨bn, bd⟩ := b
    obtain ⟨ha1, ha2⟩ := ha
    obtain ⟨hb1, hb2⟩ := hb
    dsimp only at ha1 ha2 hb1 hb2 hn
    refine AC.body' Tryd.func21 Tryd.ntmps21 rfl ?_
    intro cx hd hG
    refine nrmL (k := ?_)
    repeat refine w1 (k := ?_)
    first | refine bothTN (h1 := fun h1 => ?_) (h0 := fun h1 => ?_) | refine bothFN (h1 := fun h1 => ?_) (h0 := fun h1 => ?_)
    all_goals repeat refine w1 (k := ?_)
    ·
      refine condN (h1 := fun h2 => ?_) (h0 := fun h2 => ?_)
      ·
        repeat refine w1 (k := ?_)
        refine ⟨[.c _], .cons (.tmp rfl) .nil, ?_⟩
        rw [cmpN, if_pos (by omega)]; rfl
      ·
        have p1 : 0 < ad := by omega
        have p2 : 0 < bd := by omega
        repeat refine w1 (k := ?_)
        rw [show (an : Int) / (ad : Int) = ((an / ad : Nat) : Int) from rfl, show (bn : Int) / (bd : Int) = ((bn / bd : Nat) : Int) from rfl]
        repeat refine w1 (k := ?_)
        refine condN (h1 := fun h3 => ?_) (h0 := fun h3 => ?_)
        ·
          repeat refine w1 (k := ?_)
          refine condN (h1 := fun h4 => ?_) (h0 := fun h4 => ?_)
          ·
            repeat refine w1 (k := ?_)
            refine ⟨[.c _], .cons (.tmp rfl) .nil, ?_⟩
            have := lt_floor (a := an) (c := bn) p1 p2 (by omega)
            rw [cmpN, if_neg (by omega), if_pos this]; rfl
          ·
            repeat refine w1 (k := ?_)
            refine ⟨[.c _], .cons (.tmp rfl) .nil, ?_⟩
            have := lt_floor (a := bn) (c := an) p2 p1 (by omega)
            rw [cmpN, if_neg (by omega), if_neg (by dsimp only; omega), if_pos this]; rfl
        ·
          obtain ⟨e1, e2⟩ := eq_floor (a := an) (b := ad) (c := bn) (d := bd) (by omega)
          have m1 := Nat.mod_lt an p1
          have m2 := Nat.mod_lt bn p2
          repeat refine w1 (k := ?_)
          rw [show (an : Int) % (ad : Int) = ((an % ad : Nat) : Int) from rfl, show (bn : Int) % (bd : Int) = ((bn % bd : Nat) : Int) from rfl]
          first | refine bothTN (h1 := fun g1 => ?_) (h0 := fun g1 => ?_) | refine bothFN (h1 := fun g1 => ?_) (h0 := fun g1 => ?_)
          all_goals repeat refine w1 (k := ?_)
          ·
            refine condN (h1 := fun g2 => ?_) (h0 := fun g2 => ?_)
            ·
              repeat refine w1 (k := ?_)
              refine ⟨[.c _], .cons (.tmp rfl) .nil, ?_⟩
              have z : bn % bd * ad = 0 := by rw [show bn % bd = 0 by omega, Nat.zero_mul]
              have z2 : 0 < an % ad * bd := Nat.mul_pos (by omega) p2
              rw [cmpN, if_neg (by omega), if_neg (by dsimp only; omega), if_pos (by dsimp only; omega)]; rfl
            ·
              repeat refine w1 (k := ?_)
              refine callN (hc := by exact ih _ (bd, bn % bd) (ad, an % ad) (by dsimp only; omega) ⟨hb2, by dsimp only; omega⟩ ⟨ha2, by dsimp only; omega⟩) (h := ?_)
              repeat refine w1 (k := ?_)
              refine ⟨[.c _], .cons (.tmp rfl) .nil, ?_⟩
              refine congrArg vi ?_
              unfold cmpN
              dsimp only
              rw [Nat.mul_comm bd, Nat.mul_comm ad]
              repeat' split
              all_goals omega
          ·
            repeat refine w1 (k := ?_)
            refine condN (h1 := fun g3 => ?_) (h0 := fun g3 => ?_)
            ·
              repeat refine w1 (k := ?_)
              refine ⟨[.c _], .cons (.tmp rfl) .nil, ?_⟩
              have z : bn % bd * ad = 0 := by rw [show bn % bd = 0 by omega, Nat.zero_mul]
              have z2 : an % ad * bd = 0 := by rw [show an % ad = 0 by omega, Nat.zero_mul]
              rw [cmpN, if_neg (by omega), if_neg (by dsimp only; omega), if_neg (by dsimp only; omega)]; rfl
            ·
              repeat refine w1 (k := ?_)
              refine ⟨[.c _], .cons (.tmp rfl) .nil, ?_⟩
              have z : 0 < bn % bd * ad := Nat.mul_pos (by omega) p1
              have z2 : an % ad * bd = 0 := by rw [show an % ad = 0 by omega, Nat.zero_mul]
              rw [cmpN, if_neg (by omega), if_pos (by dsimp only; omega)]; rfl
    ·
      refine ⟨[.c _], .cons (.tmp rfl) .nil, ?_⟩
      rw [cmpN, if_pos (by omega)]; rfl
theorem rest12_ac (G) (a b : Int) (hb : 0 < b) (hb2 : b < 4611686018427387904) : AC Tryd.prog G 10 [vi a, vi b] [] (fun r _ => r = vi (a % b)) := by
  refine AC.body' Tryd.func10 Tryd.ntmps10 rfl ?_
  intro cx hd hG
  refine nrmL (k := ?_)
  repeat refine w1 (k := ?_)
  first | refine ofN (hv := by exact Val.rem rfl rfl rfl rfl (by omega)) (h := ?_) | refine dlN (hv := by exact Val.rem rfl rfl rfl rfl (by omega)) (h := ?_) | refine dlgN (hv := by exact Val.rem rfl rfl rfl rfl (by omega)) (h := ?_) | refine ofN (hv := by exact Val.rem rfl rfl rfl rfl (by omega)) (h := ?_)
  repeat refine w1 (k := ?_)
  first | refine ofN (hv := by exact Val.rem rfl rfl rfl rfl (by omega)) (h := ?_) | refine dlN (hv := by exact Val.rem rfl rfl rfl rfl (by omega)) (h := ?_) | refine dlgN (hv := by exact Val.rem rfl rfl rfl rfl (by omega)) (h := ?_) | refine ofN (hv := by exact Val.rem rfl rfl rfl rfl (by omega)) (h := ?_)
  repeat refine w1 (k := ?_)
  refine ⟨[.c _], .cons (.tmp rfl) .nil, ?_⟩
  rw [rest_w a b hb hb2]
  rfl
theorem cmp_b (a b : Nat × Nat) : -1 ≤ cmpN a b ∧ cmpN a b ≤ 1 := by
  unfold cmpN; repeat' split
  all_goals omega
theorem cmp_neg (a b : Nat × Nat) : cmpN b a = 0 - cmpN a b := by
  unfold cmpN; repeat' split
  all_goals omega
theorem compares_ac (G) (a b : Nat × Nat) (ha : lOk a) (hb : lOk b) : AC Tryd.prog G 12 [.pag (ldP a), .pag (ldP b)] [] (fun r _ => r = vb true) := by
  refine AC.body' Tryd.func12 Tryd.ntmps12 rfl ?_
  intro cx hd hG
  refine nrmL (k := ?_)
  repeat refine w1 (k := ?_)
  have h := cmp_b a b
  refine callN (hc := by exact cmp_ac _ a b ha hb) (h := ?_)
  repeat refine w1 (k := ?_)
  refine callN (hc := by exact rcmp_ac _ _ a b (Nat.le_refl _) ha hb) (h := ?_)
  repeat refine w1 (k := ?_)
  simp only [beq_self_eq_true, cond_true]
  repeat refine w1 (k := ?_)
  refine callN (hc := by exact cmp_ac _ b a hb ha) (h := ?_)
  repeat refine w1 (k := ?_)
  rw [cmp_neg a b]
  simp only [beq_self_eq_true, cond_true]
  repeat refine w1 (k := ?_)
  refine ⟨[.c _], .cons (.tmp rfl) .nil, ?_⟩
  rfl
def awL : List Tk := [⟨⟨#[]⟩, 1, 4, 0, 0, 0, 0⟩, ⟨⟨#[]⟩, 2, 6, 0, 0, 0, 0⟩]
theorem awake_ac : AC Tryd.prog GL 9 [] [] (fun r _ => r = vb true) := by
  refine AC.body' Tryd.func9 Tryd.ntmps9 rfl ?_
  intro cx hd hG
  refine nrmL (k := ?_)
  repeat refine w1 (k := ?_)
  obtain ⟨w0, fz0, β0, df, G0⟩ := cx
  obtain rfl : G0 = GL := hG
  refine litA tkP [⟨⟨#[]⟩, 1, 4, 0, 0, 0, 0⟩, ⟨⟨#[]⟩, 2, 6, 0, 0, 0, 0⟩] (h := ?_)
  repeat refine w1 (k := ?_)
  first | refine zA 6 (h := ?_) | refine zO 6 (h := ?_) | refine zL 6 (h := ?_) | refine zL3 6 (h := ?_)
  refine callN (hc := by exact sum_ac awL (Nat.le_of_ble_eq_true rfl) (by intro t ht; simp [awL] at ht; rcases ht with rfl | rfl <;> exact ⟨⟨by decide, by decide⟩, by decide, by decide⟩)) (h := ?_)
  repeat refine w1 (k := ?_)
  rw [show smF awL = ((7, 12), 0) by decide +kernel]
  repeat refine w1 (k := ?_)
  first | refine ofN (hv := by exact Val.eqL (b := (7, 12)) rfl rfl rfl rfl) (h := ?_) | refine dlN (hv := by exact Val.eqL (b := (7, 12)) rfl rfl rfl rfl) (h := ?_) | refine dlgN (hv := by exact Val.eqL (b := (7, 12)) rfl rfl rfl rfl) (h := ?_) | refine ofN (hv := by exact Val.eqL (b := (7, 12)) rfl rfl rfl rfl) (h := ?_)
  repeat refine w1 (k := ?_)
  refine ⟨[.c _], .cons (.tmp rfl) .nil, ?_⟩
  rfl
end Go.Proofs.Vl
