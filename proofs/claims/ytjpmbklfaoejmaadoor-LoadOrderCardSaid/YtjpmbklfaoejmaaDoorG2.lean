/- Loads: their form, of a task, compared (package load). -/
import Derived.Test.YtjpmbklfaoejmaaDoorG1
set_option linter.all false
set_option maxHeartbeats 8000000
namespace Go.Proofs.Vl
open Go Go.RowKit
attribute [local irreducible] AWp OpTo Run DL Val UN DR AC Le thn inb nog
def ldP (f : Nat × Nat) : List PV := [.s (.int .u64 (f.1 : Int)), .s (.int .u64 (f.2 : Int))]
/-- The package variables load.none and load.nothing. -/
def GL : Nat → Option (List PV)
  | 0 => some (ldP (0, 0))
  | 1 => some (ldP (0, 1))
  | _ => none
def fm (n d : Nat) : Nat × Nat := (n / Nat.gcd n d, d / Nat.gcd n d)
def lOk (f : Nat × Nat) : Prop := f.1 < 18446744073709551616 ∧ f.2 < 18446744073709551616
theorem fm_ok {n d : Nat} (hn : n < 18446744073709551616) (hd : d < 18446744073709551616) : lOk (fm n d) := ⟨Nat.lt_of_le_of_lt (Nat.div_le_self _ _) hn, Nat.lt_of_le_of_lt (Nat.div_le_self _ _) hd⟩
theorem fm_pos {n d : Nat} (hd : 0 < d) : 0 < (fm n d).2 := Nat.div_pos (Nat.le_of_dvd hd (Nat.gcd_dvd_right n d)) (Nat.gcd_pos_of_pos_right n hd)
theorem form_ac (G) (n d : Nat) (hn : n < 18446744073709551616) (hdd : d < 18446744073709551616) (h0 : 0 < d) : AC Tryd.prog G 25 [vn n, vn d] [] (fun r _ => r = .pag (ldP (fm n d))) := by
  refine AC.body' Tryd.func25 Tryd.ntmps25 rfl ?_
  intro cx hd hG
  refine nrmL (k := ?_)
  repeat refine w1 (k := ?_)
  refine callN (hc := by exact gcd_ac _ n d hn hdd) (h := ?_)
  repeat refine w1 (k := ?_)
  have g : 0 < Nat.gcd n d := Nat.gcd_pos_of_pos_right n h0
  repeat refine w1 (k := ?_)
  refine ⟨[.pag _], .cons (.ldF rfl rfl rfl rfl) .nil, ?_⟩
  rfl
def ofF (c t : Int) : Nat × Nat := if c < 0 ∨ t < 1 then (0, 0) else fm c.toNat t.toNat
def i64 (c : Int) : Prop := -9223372036854775808 ≤ c ∧ c < 9223372036854775808
theorem of_ac (t : Tk) (hc : i64 t.c) (ht : i64 t.t) : AC Tryd.prog GL 15 [.pag (tkP t)] [] (fun r _ => r = .pag (ldP (ofF t.c t.t))) := by
  refine AC.body' Tryd.func15 Tryd.ntmps15 rfl ?_
  intro cx hd hG
  refine nrmL (k := ?_)
  repeat refine w1 (k := ?_)
  obtain ⟨w0, fz0, β0, df, G0⟩ := cx
  obtain rfl : G0 = GL := hG
  first | refine bothTN (h1 := fun h1 => ?_) (h0 := fun h1 => ?_) | refine bothFN (h1 := fun h1 => ?_) (h0 := fun h1 => ?_)
  all_goals repeat refine w1 (k := ?_)
  ·
    refine condN (h1 := fun h2 => ?_) (h0 := fun h2 => ?_)
    ·
      repeat refine w1 (k := ?_)
      refine ⟨[.pag _], .cons (.ldF rfl rfl rfl rfl) .nil, ?_⟩
      rw [ofF, if_pos (by omega)]; rfl
    ·
      obtain ⟨nm, c, t, d, j, q, p⟩ := t
      dsimp only at *
      obtain ⟨c, rfl⟩ := Int.eq_ofNat_of_zero_le (show 0 ≤ c by omega)
      obtain ⟨t, rfl⟩ := Int.eq_ofNat_of_zero_le (show 0 ≤ t by omega)
      obtain ⟨hc1, hc2⟩ := hc
      obtain ⟨ht1, ht2⟩ := ht
      repeat refine w1 (k := ?_)
      refine callN (hc := by exact form_ac _ c t (by omega) (by omega) (by omega)) (h := ?_)
      repeat refine w1 (k := ?_)
      refine ⟨[.pag _], .cons (.ldF rfl rfl rfl rfl) .nil, ?_⟩
      rw [ofF, if_neg (by omega)]; rfl
  ·
    refine ⟨[.pag _], .cons (.ldF rfl rfl rfl rfl) .nil, ?_⟩
    rw [ofF, if_pos (by omega)]; rfl
def cmpN (a b : Nat × Nat) : Int := if a.2 = 0 ∨ b.2 = 0 then 0 else if a.1 * b.2 < b.1 * a.2 then -1 else if b.1 * a.2 < a.1 * b.2 then 1 else 0
theorem cmp_ac (G) (a b : Nat × Nat) (ha : lOk a) (hb : lOk b) : AC Tryd.prog G 11 [.pag (ldP a), .pag (ldP b)] [] (fun r _ => r = vi (cmpN a b)) := by
  obtain ⟨an, ad⟩ := a
  obtain ⟨bn, bd⟩ := b
  obtain ⟨ha1, ha2⟩ := ha
  obtain ⟨hb1, hb2⟩ := hb
  dsimp only at ha1 ha2 hb1 hb2
  refine AC.body' Tryd.func11 Tryd.ntmps11 rfl ?_
  intro cx hd hG
  refine nrmL (k := ?_)
  repeat refine w1 (k := ?_)
  first | refine bothTN (h1 := fun h1 => ?_) (h0 := fun h1 => ?_) | refine bothFN (h1 := fun h1 => ?_) (h0 := fun h1 => ?_)
  all_goals repeat refine w1 (k := ?_)
  ·
    refine condN (h1 := fun h2 => ?_) (h0 := fun h2 => ?_)
    ·
      repeat refine w1 (k := ?_)
      refine ⟨[.c _], .cons (.tmp rfl) .nil, ?_⟩
      rw [cmpN, if_pos (by omega)]; rfl
    ·
      repeat refine w1 (k := ?_)
      refine callN (hc := by exact mul64_ac _ an bd ha1 hb2) (h := ?_)
      repeat refine w1 (k := ?_)
      refine callN (hc := by exact mul64_ac _ bn ad hb1 ha2) (h := ?_)
      repeat refine w1 (k := ?_)
      iterate 8 (all_goals (try ((first | refine bothTN (h1 := fun h => ?_) (h0 := fun h => ?_) | refine bothFN (h1 := fun h => ?_) (h0 := fun h => ?_) | refine condN (h1 := fun h => ?_) (h0 := fun h => ?_)) <;> (repeat refine w1 (k := ?_)))))
      all_goals refine ⟨[.c _], .cons (.tmp rfl) .nil, ?_⟩
      all_goals refine congrArg vi ?_
      all_goals unfold cmpN
      all_goals dsimp only
      all_goals generalize an * bd = p at *
      all_goals generalize bn * ad = q at *
      all_goals repeat' split
      all_goals omega
  ·
    refine ⟨[.c _], .cons (.tmp rfl) .nil, ?_⟩
    rw [cmpN, if_pos (by omega)]; rfl
/-- What the references' comparison comes to: floors first, then the rests turned about. -/
theorem lt_floor {a b c d : Nat} (hb : 0 < b) (hd : 0 < d) (h : a / b < c / d) : a * d < c * b := by
  have h1 : a < (c / d) * b := Nat.lt_of_lt_of_le ((Nat.div_lt_iff_lt_mul hb).1 (Nat.lt_succ_self _)) (Nat.mul_le_mul_right _ h)
  have h2 : (c / d) * d ≤ c := Nat.div_mul_le_self c d
  calc a * d < (c / d) * b * d := (Nat.mul_lt_mul_right hd).2 h1
    _ = (c / d) * d * b := by rw [Nat.mul_assoc, Nat.mul_comm b d, ← Nat.mul_assoc]
    _ ≤ c * b := Nat.mul_le_mul_right _ h2
theorem eq_floor {a b c d : Nat} (h : a / b = c / d) : (a * d < c * b ↔ a % b * d < c % d * b) ∧ (c * b < a * d ↔ c % d * b < a % b * d) := by
  have h1 := Nat.div_add_mod a b
  have h2 := Nat.div_add_mod c d
  rw [← h] at h2
  have e1 : a * d = b * (a / b) * d + a % b * d := by rw [← Nat.add_mul, h1]
  have e2 : c * b = d * (a / b) * b + c % d * b := by rw [← Nat.add_mul, h2]
  have e3 : d * (a / b) * b = b * (a / b) * d := by rw [Nat.mul_assoc, Nat.mul_comm (a / b) b, Nat.mul_comm d]
  rw [e1, e2, e3]
  omega
end Go.Proofs.Vl
