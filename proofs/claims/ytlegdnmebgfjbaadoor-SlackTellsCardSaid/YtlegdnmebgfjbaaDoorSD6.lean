/- Sums, products, divisors and multiples of words (packages num, cadencyref01). -/
import Derived.Test.YtlegdnmebgfjbaaDoorT2
import Derived.Test.YtlegdnmebgfjbaaDoorVC
import Derived.Lib.Mul64
import Derived.Laws.Bits64b
import Derived.Laws.Externs
set_option linter.all false
set_option maxRecDepth 2000
set_option maxHeartbeats 8000000
namespace Go.Proofs.Vl
open Go Go.RowKit
attribute [local irreducible] AWp OpTo Run DL Val UN DR AC Le thn inb nog
def okN (n : Nat) : Int := if n < 18446744073709551616 then (n : Int) else 0
def okB (n : Nat) : Bool := decide (n < 18446744073709551616)
abbrev vn (n : Nat) : AV := vu (n : Int)
theorem maskN (a : Nat) (ha : a < 18446744073709551616) : Go.bits .and .u64 (a : Int) 4294967295 = ((a % 4294967296 : Nat) : Int) := by
  have h := bits_and_u64_nat a 4294967295 ha (by omega)
  have e : a &&& 4294967295 = a % 4294967296 := Nat.and_two_pow_sub_one_eq_mod a 32
  rw [e] at h
  exact h
theorem divN (a : Nat) : (a : Int) / 4294967296 = ((a / 4294967296 : Nat) : Int) := by omega
theorem mulN (a b : Nat) : (a : Int) * (b : Int) = ((a * b : Nat) : Int) := (Int.natCast_mul a b).symm
theorem addN (a b : Nat) : (a : Int) + (b : Int) = ((a + b : Nat) : Int) := (Int.natCast_add a b).symm
theorem wrapN (a : Nat) (ha : a < 18446744073709551616) : IntKind.u64.wrap (a : Int) = (a : Int) := by rw [IntKind.wrap_u64]; omega
theorem wrapM (a : Nat) : IntKind.u64.wrap (a : Int) = ((a % 18446744073709551616 : Nat) : Int) := by rw [IntKind.wrap_u64]; omega
theorem mul64_nat (x y : Nat) (hx : x < 18446744073709551616) (hy : y < 18446744073709551616) (w : World) :
    Calls Tryd.prog 90 #[.int .u64 x, .int .u64 y] w fun e w' => e = .returned (.tuple #[.int .u64 ((x * y / 18446744073709551616 : Nat) : Int), .int .u64 ((x * y % 18446744073709551616 : Nat) : Int)]) ∧ w' = w := by
  obtain ⟨bd, bt, bw, hhi⟩ := Lib.mul64_hi x y hx hy
  have ba := Lib.half_mul_le (a := x / 4294967296) (b := y / 4294967296) (by omega) (by omega)
  have bb := Lib.half_mul_le (a := x / 4294967296) (b := y % 4294967296) (by omega) (by omega)
  have bc := Lib.half_mul_le (a := x % 4294967296) (b := y / 4294967296) (by omega) (by omega)
  have ba' : x / 4294967296 * (y / 4294967296) < 18446744073709551616 := by omega
  have bb' : x / 4294967296 * (y % 4294967296) < 18446744073709551616 := by omega
  have bc' : x % 4294967296 * (y / 4294967296) < 18446744073709551616 := by omega
  have bh1 : x / 4294967296 * (y / 4294967296) + (x / 4294967296 * (y % 4294967296) + x % 4294967296 * (y % 4294967296) / 4294967296) / 4294967296 < 18446744073709551616 := by omega
  have bh : x / 4294967296 * (y / 4294967296) + (x / 4294967296 * (y % 4294967296) + x % 4294967296 * (y % 4294967296) / 4294967296) / 4294967296 + ((x / 4294967296 * (y % 4294967296) + x % 4294967296 * (y % 4294967296) / 4294967296) % 4294967296 + x % 4294967296 * (y / 4294967296)) / 4294967296 < 18446744073709551616 := by omega
  go_enter Tryd.func90, Tryd.ntmps90
  go_wp2
  simp only [maskN x hx, maskN y hy, divN, mulN, addN, wrapN _ bd, wrapN _ bb', wrapN _ bt, maskN _ bt, wrapN _ bc', wrapN _ bw, wrapN _ ba', wrapN _ bh1, wrapN _ bh, wrapM (x * y)]
  rw [hhi]
  go_ret2
  exact ⟨rfl, rfl⟩
theorem mul64_ac (G) (x y : Nat) (hx : x < 18446744073709551616) (hy : y < 18446744073709551616) : AC Tryd.prog G 90 [vn x, vn y] [] (fun r _ => r = .tup [tu ((x * y / 18446744073709551616 : Nat) : Int), tu ((x * y % 18446744073709551616 : Nat) : Int)]) :=
  AC.ofCalls (vs := [.int .u64 (x : Int), .int .u64 (y : Int)]) (v := .tuple #[.int .u64 ((x * y / 18446744073709551616 : Nat) : Int), .int .u64 ((x * y % 18446744073709551616 : Nat) : Int)])
    (fun w fz β => ⟨[.int .u64 ((x * y / 18446744073709551616 : Nat) : Int), .int .u64 ((x * y % 18446744073709551616 : Nat) : Int)], rfl, .cons (RepP.s _ rfl) (.cons (RepP.s _ rfl) .nil)⟩)
    (fun w => (mul64_nat x y hx hy w).mono fun e w' h => ⟨h.1, by rw [h.2]; exact Below.refl _ _⟩)
theorem ok_div (n : Nat) : (n / 18446744073709551616 = 0) ↔ n < 18446744073709551616 := by omega
theorem mul_ac (G) (x y : Nat) (hx : x < 18446744073709551616) (hy : y < 18446744073709551616) : AC Tryd.prog G 85 [vn x, vn y] [] (fun r _ => r = .tup [tu (okN (x * y)), tb (okB (x * y))]) := by
  refine AC.body' Tryd.func85 Tryd.ntmps85 rfl ?_
  intro cx hd hG
  refine nrmL (k := ?_)
  repeat refine w1 (k := ?_)
  refine callN (hc := by exact mul64_ac _ x y hx hy) (h := ?_)
  repeat refine w1 (k := ?_)
  refine condN (h1 := fun h => ?_) (h0 := fun h => ?_)
  ·
    repeat refine w1 (k := ?_)
    refine ⟨[.c _, .c _], .cons (.tmp rfl) (.cons (.tmp rfl) .nil), ?_⟩
    rw [okN, okB, if_neg (by omega), decide_eq_false (by omega)]; rfl
  ·
    repeat refine w1 (k := ?_)
    refine ⟨[.c _, .c _], .cons (.tmp rfl) (.cons (.tmp rfl) .nil), ?_⟩
    have hb : x * y < 18446744073709551616 := by omega
    rw [okN, okB, if_pos hb, decide_eq_true hb, Nat.mod_eq_of_lt hb]; rfl
theorem add_run (x y : Nat) (hx : x < 18446744073709551616) (hy : y < 18446744073709551616) (w : World) : (callFunc 78 #[.int .u64 (x : Int), .int .u64 (y : Int), .int .u64 0]).run Tryd.prog w = .ok (.value (.tuple #[.int .u64 (((x : Int) + y) % 18446744073709551616), .int .u64 (((x : Int) + y) / 18446744073709551616)])) w := by
  rw [run_callFunc_extern Tryd.func78 (by kernel_rfl) (by kernel_rfl) (by kernel_rfl) (e := add64Entry) (by kernel_rfl), run_add64 x y 0 (by omega) (by omega) (by omega) (by omega)]
  simp only [Result.andThen, Int.add_zero]
theorem tup2 (x y : Int) : ∀ w fz β, RepA w fz β (.tup [tu x, tu y]) (.tuple #[.int .u64 x, .int .u64 y]) := fun w fz β => ⟨[.int .u64 x, .int .u64 y], rfl, .cons (RepP.s _ rfl) (.cons (RepP.s _ rfl) .nil)⟩
theorem add_ac (G) (x y : Nat) (hx : x < 18446744073709551616) (hy : y < 18446744073709551616) : AC Tryd.prog G 72 [vn x, vn y] [] (fun r _ => r = .tup [tu (okN (x + y)), tb (okB (x + y))]) := by
  refine AC.body' Tryd.func72 Tryd.ntmps72 rfl ?_
  intro cx hd hG
  refine nrmL (k := ?_)
  repeat refine w1 (k := ?_)
  first | refine ofN (hv := by exact Val.ext (vs := [.int .u64 (x : Int), .int .u64 (y : Int), .int .u64 0]) rfl rfl (tup2 _ _) (add_run x y hx hy)) (h := ?_) | refine dlN (hv := by exact Val.ext (vs := [.int .u64 (x : Int), .int .u64 (y : Int), .int .u64 0]) rfl rfl (tup2 _ _) (add_run x y hx hy)) (h := ?_) | refine dlgN (hv := by exact Val.ext (vs := [.int .u64 (x : Int), .int .u64 (y : Int), .int .u64 0]) rfl rfl (tup2 _ _) (add_run x y hx hy)) (h := ?_) | refine ofN (hv := by exact Val.ext (vs := [.int .u64 (x : Int), .int .u64 (y : Int), .int .u64 0]) rfl rfl (tup2 _ _) (add_run x y hx hy)) (h := ?_)
  repeat refine w1 (k := ?_)
  refine condN (h1 := fun h => ?_) (h0 := fun h => ?_)
  ·
    repeat refine w1 (k := ?_)
    refine ⟨[.c _, .c _], .cons (.tmp rfl) (.cons (.tmp rfl) .nil), ?_⟩
    rw [okN, okB, if_neg (by omega), decide_eq_false (by omega)]; rfl
  ·
    repeat refine w1 (k := ?_)
    refine ⟨[.c _, .c _], .cons (.tmp rfl) (.cons (.tmp rfl) .nil), ?_⟩
    have hb : x + y < 18446744073709551616 := by omega
    rw [okN, okB, if_pos hb, decide_eq_true hb, Int.emod_eq_of_lt (by omega) (by omega)]; rfl
/-! ### The references' -/
abbrev numP (n : Int) (b : Bool) : List PV := [.s (.int .u64 n), .s (.bool b)]
theorem mul_c (x y : Nat) (h : x * y < 18446744073709551616) : 0 ≤ (x : Int) * (y : Int) ∧ (x : Int) * (y : Int) < 18446744073709551616 := by rw [← Int.natCast_mul]; omega
theorem rmul_ac (G) (x y : Nat) (hx : x < 18446744073709551616) (hy : y < 18446744073709551616) : AC Tryd.prog G 71 [vn x, vn y] [] (fun r _ => r = .pag (numP (okN (x * y)) (okB (x * y)))) := by
  refine AC.body' Tryd.func71 Tryd.ntmps71 rfl ?_
  intro cx hd hG
  refine nrmL (k := ?_)
  repeat refine w1 (k := ?_)
  by_cases hy0 : y = 0
  ·
    subst hy0
    repeat refine w1 (k := ?_)
    refine ⟨[.pag _], .cons (.ldF rfl rfl rfl rfl) .nil, ?_⟩
    rfl
  by_cases hb : x * y < 18446744073709551616
  ·
    have hc := mul_c x y hb
    have h3 : x ≤ 18446744073709551615 / y := (Nat.le_div_iff_mul_le (by omega)).2 (by omega)
    have h4 : (x : Int) ≤ 18446744073709551615 / (y : Int) := by
      rw [show (18446744073709551615 : Int) / (y : Int) = ((18446744073709551615 / y : Nat) : Int) from rfl]; omega
    repeat refine w1 (k := ?_)
    refine ⟨[.pag _], .cons (.ldF rfl rfl rfl rfl) .nil, ?_⟩
    rw [okN, okB, if_pos hb, decide_eq_true hb, Int.natCast_mul]; rfl
  ·
    have h3 : ¬ x ≤ 18446744073709551615 / y := fun h => hb (by have := (Nat.le_div_iff_mul_le (by omega)).1 h; omega)
    have h4 : ¬ (x : Int) ≤ 18446744073709551615 / (y : Int) := by
      rw [show (18446744073709551615 : Int) / (y : Int) = ((18446744073709551615 / y : Nat) : Int) from rfl]; omega
    repeat refine w1 (k := ?_)
    refine ⟨[.pag _], .cons (.ldF rfl rfl rfl rfl) .nil, ?_⟩
    rw [okN, okB, if_neg hb, decide_eq_false hb]; rfl
theorem radd_ac (G) (x y : Nat) (hx : x < 18446744073709551616) (hy : y < 18446744073709551616) : AC Tryd.prog G 69 [vn x, vn y] [] (fun r _ => r = .pag (numP (okN (x + y)) (okB (x + y)))) := by
  refine AC.body' Tryd.func69 Tryd.ntmps69 rfl ?_
  intro cx hd hG
  refine nrmL (k := ?_)
  repeat refine w1 (k := ?_)
  refine condN (h1 := fun h => ?_) (h0 := fun h => ?_)
  ·
    repeat refine w1 (k := ?_)
    refine ⟨[.pag _], .cons (.ldF rfl rfl rfl rfl) .nil, ?_⟩
    rw [okN, okB, if_neg (by omega), decide_eq_false (by omega)]; rfl
  ·
    repeat refine w1 (k := ?_)
    refine ⟨[.pag _], .cons (.ldF rfl rfl rfl rfl) .nil, ?_⟩
    have hb : x + y < 18446744073709551616 := by omega
    rw [okN, okB, if_pos hb, decide_eq_true hb, Int.natCast_add]; rfl
end Go.Proofs.Vl
