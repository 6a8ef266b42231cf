-- Laid by wip/printx.py, over the print of the kit.
import Derived.Test.YthhojifpogghlaaPChainsx0
namespace Go.Proofs.Ythhojifpogghlaa.PChains
open Go.RowKit Go.Proofs.YthhojifpogghlaaW.PrintWords Go.Proofs.YthhojifpogghlaaW.PrintLast Go.Proofs.YthhojifpogghlaaW.PrintMore
attribute [local go_sem] max2_int min2_int max_two min_two max_three min_three max_four min_four   -- for this text's walks alone
set_option linter.unusedVariables false
set_option linter.unusedSimpArgs false

/-! ### num_Gcd: function 14 -/
def num_Gcd.f (a0 a1 : Int) : Option Int := if 0 ≤ a0 ∧ a0 < 18446744073709551616 ∧ 0 ≤ a1 ∧ a1 < 18446744073709551616 then some ((Nat.gcd a0.toNat a1.toNat : Nat) : Int) else none
def num_Gcd.Rel (g : Nat) (w : World) (a b : Value) (wr : World) : Prop := ∃ x y : Nat, a = .int .u64 x ∧ b = .int .u64 y ∧ x < 18446744073709551616 ∧ y < 18446744073709551616 ∧ Nat.gcd x y = g ∧ Drawn0 w wr
set_option maxHeartbeats 8000000 in
theorem num_Gcd.calls (a0 : Int) (a1 : Int) (r : Int) (w : World) (h : num_Gcd.f a0 a1 = some r) :
    Calls Try.prog 14 #[.int .u64 a0, .int .u64 a1] w fun e w' => e = .returned (.int .u64 r) ∧ Drawn0 w w' := by
  unfold num_Gcd.f at h
  split at h
  · rename_i hr
    obtain ⟨g, hg⟩ : ∃ g, Nat.gcd a0.toNat a1.toNat = g := ⟨_, rfl⟩
    rw [hg] at h
    injection h with h
    obtain ⟨x, rfl⟩ := Int.eq_ofNat_of_zero_le hr.1
    obtain ⟨y, rfl⟩ := Int.eq_ofNat_of_zero_le hr.2.2.1
    simp only [Int.toNat_natCast] at hg
    have hs : num_Gcd.Rel g w (.int .u64 x) (.int .u64 y) w := ⟨x, y, rfl, rfl, by omega, by omega, hg, Drawn0.refl w⟩
    have HS := Lib.hid hs
    subst h
    clear hs hg hr
    go_enter Try.func14, Try.ntmps14
    go_wp2
    go_step3
    go_wp2
    go_step3
    go_wp2
    go_loopw [0, 1] (fun a b wr => num_Gcd.Rel g w a b wr) (fun _ b _ => (intOf b).toNat)
    case atStart => exact HS.out
    case round =>
      clear HS
      obtain ⟨x, y, rfl, rfl, hx, hy, hgg, hD⟩ := hrel
      have HG := Lib.hid hgg
      have HD := Lib.hid hD
      clear hgg hD
      by_cases h0 : y = 0
      · subst h0
        go_wp2
        rw [Exit.noGoto_ret]
        go_ret
        have e := HG.out
        rw [Nat.gcd_zero_right] at e
        exact ⟨congrArg (fun n : Nat => Ending.returned (.int .u64 (n : Int))) e, HD.out⟩
      · have hb : ((y : Int) == 0) = false := by simpa using h0
        go_wp2
        go_quiet (fail)
        go_wp2
        go_roundw
        case rel =>
          refine ⟨y, x % y, rfl, by go_num, hy, Nat.lt_trans (Nat.mod_lt _ (by omega)) hy, ?_, HD.out.step _⟩
          rw [← HG.out, Nat.gcd_comm x y]
          exact (Nat.gcd_rec y x).symm ▸ Nat.gcd_comm _ _
        case measure =>
          have := Nat.mod_lt x (y := y) (by omega)
          simp [intOf]
          omega
  · cases h

/-! ### bits_Mul64: function 41 -/
def bits_Mul64.f (a0 a1 : Int) : Option (Int × Int) := if 0 ≤ a0 ∧ a0 < 18446744073709551616 ∧ 0 ≤ a1 ∧ a1 < 18446744073709551616 then some (((a0.toNat * a1.toNat / 18446744073709551616 : Nat) : Int), ((a0.toNat * a1.toNat % 18446744073709551616 : Nat) : Int)) else none
theorem bits_Mul64.maskN (a : Nat) (ha : a < 18446744073709551616) : Go.bits .and .u64 (a : Int) 4294967295 = ((a % 4294967296 : Nat) : Int) := by
  have h := bits_and_u64_nat a 4294967295 ha (by omega)
  have e : a &&& 4294967295 = a % 4294967296 := Nat.and_two_pow_sub_one_eq_mod a 32
  rw [e] at h
  exact h
theorem bits_Mul64.divN (a : Nat) : (a : Int) / 4294967296 = ((a / 4294967296 : Nat) : Int) := by omega
theorem bits_Mul64.mulN (a b : Nat) : (a : Int) * (b : Int) = ((a * b : Nat) : Int) := (Int.natCast_mul a b).symm
theorem bits_Mul64.addN (a b : Nat) : (a : Int) + (b : Int) = ((a + b : Nat) : Int) := (Int.natCast_add a b).symm
theorem bits_Mul64.wrapN (a : Nat) (ha : a < 18446744073709551616) : IntKind.u64.wrap (a : Int) = (a : Int) := by rw [IntKind.wrap_u64]; omega
theorem bits_Mul64.wrapM (a : Nat) : IntKind.u64.wrap (a : Int) = ((a % 18446744073709551616 : Nat) : Int) := by rw [IntKind.wrap_u64]; omega
set_option maxHeartbeats 8000000 in
theorem bits_Mul64.nat (x y : Nat) (hx : x < 18446744073709551616) (hy : y < 18446744073709551616) (w : World) :
    Calls Try.prog 41 #[.int .u64 x, .int .u64 y] w fun e w' => e = .returned (.tuple #[.int .u64 ((x * y / 18446744073709551616 : Nat) : Int), .int .u64 ((x * y % 18446744073709551616 : Nat) : Int)]) ∧ w' = w := by
  obtain ⟨bd, bt, bw, hhi⟩ := Lib.mul64_hi x y hx hy
  have ba := Lib.half_mul_le (a := x / 4294967296) (b := y / 4294967296) (by omega) (by omega)
  have bb := Lib.half_mul_le (a := x / 4294967296) (b := y % 4294967296) (by omega) (by omega)
  have bc := Lib.half_mul_le (a := x % 4294967296) (b := y / 4294967296) (by omega) (by omega)
  have ba' : x / 4294967296 * (y / 4294967296) < 18446744073709551616 := by omega
  have bb' : x / 4294967296 * (y % 4294967296) < 18446744073709551616 := by omega
  have bc' : x % 4294967296 * (y / 4294967296) < 18446744073709551616 := by omega
  have bh1 : x / 4294967296 * (y / 4294967296) + (x / 4294967296 * (y % 4294967296) + x % 4294967296 * (y % 4294967296) / 4294967296) / 4294967296 < 18446744073709551616 := by omega
  have bh : x / 4294967296 * (y / 4294967296) + (x / 4294967296 * (y % 4294967296) + x % 4294967296 * (y % 4294967296) / 4294967296) / 4294967296 + ((x / 4294967296 * (y % 4294967296) + x % 4294967296 * (y % 4294967296) / 4294967296) % 4294967296 + x % 4294967296 * (y / 4294967296)) / 4294967296 < 18446744073709551616 := by omega
  go_enter Try.func41, Try.ntmps41
  go_wp2
  simp only [bits_Mul64.maskN x hx, bits_Mul64.maskN y hy, bits_Mul64.divN, bits_Mul64.mulN, bits_Mul64.addN, bits_Mul64.wrapN _ bd, bits_Mul64.wrapN _ bb', bits_Mul64.wrapN _ bt, bits_Mul64.maskN _ bt, bits_Mul64.wrapN _ bc', bits_Mul64.wrapN _ bw, bits_Mul64.wrapN _ ba', bits_Mul64.wrapN _ bh1, bits_Mul64.wrapN _ bh, bits_Mul64.wrapM (x * y)]
  rw [hhi]
  go_ret2
  exact ⟨rfl, rfl⟩
theorem bits_Mul64.calls (a0 : Int) (a1 : Int) (r1 : Int) (r2 : Int) (w : World) (h : bits_Mul64.f a0 a1 = some (r1, r2)) :
    Calls Try.prog 41 #[.int .u64 a0, .int .u64 a1] w fun e w' => e = .returned (.tuple #[.int .u64 r1, .int .u64 r2]) ∧ Drawn0 w w' := by
  unfold bits_Mul64.f at h
  split at h
  · rename_i hr
    obtain ⟨x, rfl⟩ := Int.eq_ofNat_of_zero_le hr.1
    obtain ⟨y, rfl⟩ := Int.eq_ofNat_of_zero_le hr.2.2.1
    simp only [Int.toNat_natCast] at h
    injection h with h
    injection h with h1 h2
    subst h1 h2
    exact (bits_Mul64.nat x y (by omega) (by omega) w).mono fun e w' hh => ⟨hh.1, ⟨0, hh.2⟩⟩
  · cases h

end Go.Proofs.Ythhojifpogghlaa.PChains
