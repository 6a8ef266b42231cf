-- Laid by wip/printx.py, over the print of the kit.
import Derived.Test.YthhojifpogghlaaPAllx0
import Derived.Test.YthhojifpogghlaaPAllx8
import Derived.Test.YthhojifpogghlaaPAllx23
import Derived.Test.YthhojifpogghlaaPAllx24
namespace Go.Proofs.Ythhojifpogghlaa.PAll
open Go.RowKit Go.Proofs.YthhojifpogghlaaW.PrintWords Go.Proofs.YthhojifpogghlaaW.PrintLast Go.Proofs.YthhojifpogghlaaW.PrintMore
attribute [local go_sem] max2_int min2_int max_two min_two max_three min_three max_four min_four   -- for this text's walks alone
set_option linter.unusedVariables false
set_option linter.unusedSimpArgs false

/-! ### cadencylaw01_fits: function 20 -/
def cadencylaw01_fits.f (a0 : Int) : Option Bool := if -9223372036854775808 ≤ a0 ∧ a0 < 9223372036854775808 then some true else none
theorem cadencylaw01_fits.yes_int8 (n : Int) (h0 : -128 ≤ n) (h1 : n ≤ 127) : num_Fit_int8.f n = some (n, true) := by
  unfold num_Fit_int8.f
  try simp only [IntKind.wrap, IntKind.bits, IntKind.signed, wrap64, wrap32]
  rw [if_pos (by first | omega | (simp; omega))]
  congr 2
  first | omega | (simp; omega)
theorem cadencylaw01_fits.no_int8 (n : Int) (h0 : -9223372036854775808 ≤ n) (h1 : n < 9223372036854775808) (h : n < -128 ∨ 127 < n) : num_Fit_int8.f n = some (0, false) := by
  unfold num_Fit_int8.f
  try simp only [IntKind.wrap, IntKind.bits, IntKind.signed, wrap64, wrap32]
  rw [if_neg (by first | omega | (simp; omega))]
theorem cadencylaw01_fits.yes_int16 (n : Int) (h0 : -32768 ≤ n) (h1 : n ≤ 32767) : num_Fit_int16.f n = some (n, true) := by
  unfold num_Fit_int16.f
  try simp only [IntKind.wrap, IntKind.bits, IntKind.signed, wrap64, wrap32]
  rw [if_pos (by first | omega | (simp; omega))]
  congr 2
  first | omega | (simp; omega)
theorem cadencylaw01_fits.no_int16 (n : Int) (h0 : -9223372036854775808 ≤ n) (h1 : n < 9223372036854775808) (h : n < -32768 ∨ 32767 < n) : num_Fit_int16.f n = some (0, false) := by
  unfold num_Fit_int16.f
  try simp only [IntKind.wrap, IntKind.bits, IntKind.signed, wrap64, wrap32]
  rw [if_neg (by first | omega | (simp; omega))]
theorem cadencylaw01_fits.yes_int32 (n : Int) (h0 : -2147483648 ≤ n) (h1 : n ≤ 2147483647) : num_Fit_int32.f n = some (n, true) := by
  unfold num_Fit_int32.f
  try simp only [IntKind.wrap, IntKind.bits, IntKind.signed, wrap64, wrap32]
  rw [if_pos (by first | omega | (simp; omega))]
  congr 2
  first | omega | (simp; omega)
theorem cadencylaw01_fits.no_int32 (n : Int) (h0 : -9223372036854775808 ≤ n) (h1 : n < 9223372036854775808) (h : n < -2147483648 ∨ 2147483647 < n) : num_Fit_int32.f n = some (0, false) := by
  unfold num_Fit_int32.f
  try simp only [IntKind.wrap, IntKind.bits, IntKind.signed, wrap64, wrap32]
  rw [if_neg (by first | omega | (simp; omega))]
theorem cadencylaw01_fits.yes_uint8 (n : Int) (h0 : 0 ≤ n) (h1 : n ≤ 255) : num_Fit_uint8.f n = some (n, true) := by
  unfold num_Fit_uint8.f
  try simp only [IntKind.wrap, IntKind.bits, IntKind.signed, wrap64, wrap32]
  rw [if_pos (by first | omega | (simp; omega))]
  congr 2
  first | omega | (simp; omega)
theorem cadencylaw01_fits.no_uint8 (n : Int) (h0 : -9223372036854775808 ≤ n) (h1 : n < 9223372036854775808) (h : n < 0 ∨ 255 < n) : num_Fit_uint8.f n = some (0, false) := by
  unfold num_Fit_uint8.f
  try simp only [IntKind.wrap, IntKind.bits, IntKind.signed, wrap64, wrap32]
  rw [if_neg (by first | omega | (simp; omega))]
theorem cadencylaw01_fits.yes_uint16 (n : Int) (h0 : 0 ≤ n) (h1 : n ≤ 65535) : num_Fit_uint16.f n = some (n, true) := by
  unfold num_Fit_uint16.f
  try simp only [IntKind.wrap, IntKind.bits, IntKind.signed, wrap64, wrap32]
  rw [if_pos (by first | omega | (simp; omega))]
  congr 2
  first | omega | (simp; omega)
theorem cadencylaw01_fits.no_uint16 (n : Int) (h0 : -9223372036854775808 ≤ n) (h1 : n < 9223372036854775808) (h : n < 0 ∨ 65535 < n) : num_Fit_uint16.f n = some (0, false) := by
  unfold num_Fit_uint16.f
  try simp only [IntKind.wrap, IntKind.bits, IntKind.signed, wrap64, wrap32]
  rw [if_neg (by first | omega | (simp; omega))]
theorem cadencylaw01_fits.yes_uint32 (n : Int) (h0 : 0 ≤ n) (h1 : n ≤ 4294967295) : num_Fit_uint32.f n = some (n, true) := by
  unfold num_Fit_uint32.f
  try simp only [IntKind.wrap, IntKind.bits, IntKind.signed, wrap64, wrap32]
  rw [if_pos (by first | omega | (simp; omega))]
  congr 2
  first | omega | (simp; omega)
theorem cadencylaw01_fits.no_uint32 (n : Int) (h0 : -9223372036854775808 ≤ n) (h1 : n < 9223372036854775808) (h : n < 0 ∨ 4294967295 < n) : num_Fit_uint32.f n = some (0, false) := by
  unfold num_Fit_uint32.f
  try simp only [IntKind.wrap, IntKind.bits, IntKind.signed, wrap64, wrap32]
  rw [if_neg (by first | omega | (simp; omega))]
set_option maxHeartbeats 8000000 in
set_option maxRecDepth 100000 in
theorem cadencylaw01_fits.case0 (n : Int) (w : World) (h0 : -9223372036854775808 ≤ n) (h1 : n < 9223372036854775808) (k0 : n < -2147483648) :
    Calls Try.prog 20 #[.int .i64 n] w fun e w' => e = .returned (.bool true) ∧ Drawn0 w w' := by
  have hf0 := cadencylaw01_fits.no_int8 n h0 h1 (by omega)
  have hf1 := cadencylaw01_fits.no_int16 n h0 h1 (by omega)
  have hf2 := cadencylaw01_fits.no_int32 n h0 h1 (by omega)
  have hf3 := cadencylaw01_fits.no_uint8 n h0 h1 (by omega)
  have hf4 := cadencylaw01_fits.no_uint16 n h0 h1 (by omega)
  have hf5 := cadencylaw01_fits.no_uint32 n h0 h1 (by omega)
  go_enter Try.func20, Try.ntmps20
  go_wp2_with (first | (go_at_call 25; refine (num_Fit_int8.calls n 0 false _ hf0).mono ?_; rintro e w' ⟨rfl, ⟨nd0, rfl⟩⟩) | (go_at_call 31; refine (num_Fit_int16.calls n 0 false _ hf1).mono ?_; rintro e w' ⟨rfl, ⟨nd1, rfl⟩⟩) | (go_at_call 32; refine (num_Fit_int32.calls n 0 false _ hf2).mono ?_; rintro e w' ⟨rfl, ⟨nd2, rfl⟩⟩) | (go_at_call 33; refine (num_Fit_uint8.calls n 0 false _ hf3).mono ?_; rintro e w' ⟨rfl, ⟨nd3, rfl⟩⟩) | (go_at_call 34; refine (num_Fit_uint16.calls n 0 false _ hf4).mono ?_; rintro e w' ⟨rfl, ⟨nd4, rfl⟩⟩) | (go_at_call 35; refine (num_Fit_uint32.calls n 0 false _ hf5).mono ?_; rintro e w' ⟨rfl, ⟨nd5, rfl⟩⟩) | (go_at_call 36; go_in) | (go_at_call 37; go_in))
  go_ret
  exact ⟨by first | rfl | (simp; done) | (simp; omega), ⟨⟨_, rfl⟩⟩⟩
set_option maxHeartbeats 8000000 in
set_option maxRecDepth 100000 in
theorem cadencylaw01_fits.case1 (n : Int) (w : World) (h0 : -9223372036854775808 ≤ n) (h1 : n < 9223372036854775808) (k0 : -2147483648 ≤ n) (k1 : n < -32768) :
    Calls Try.prog 20 #[.int .i64 n] w fun e w' => e = .returned (.bool true) ∧ Drawn0 w w' := by
  have hf0 := cadencylaw01_fits.no_int8 n h0 h1 (by omega)
  have hf1 := cadencylaw01_fits.no_int16 n h0 h1 (by omega)
  have hf2 := cadencylaw01_fits.yes_int32 n (by omega) (by omega)
  have hf3 := cadencylaw01_fits.no_uint8 n h0 h1 (by omega)
  have hf4 := cadencylaw01_fits.no_uint16 n h0 h1 (by omega)
  have hf5 := cadencylaw01_fits.no_uint32 n h0 h1 (by omega)
  go_enter Try.func20, Try.ntmps20
  go_wp2_with (first | (go_at_call 25; refine (num_Fit_int8.calls n 0 false _ hf0).mono ?_; rintro e w' ⟨rfl, ⟨nd0, rfl⟩⟩) | (go_at_call 31; refine (num_Fit_int16.calls n 0 false _ hf1).mono ?_; rintro e w' ⟨rfl, ⟨nd1, rfl⟩⟩) | (go_at_call 32; refine (num_Fit_int32.calls n n true _ hf2).mono ?_; rintro e w' ⟨rfl, ⟨nd2, rfl⟩⟩) | (go_at_call 33; refine (num_Fit_uint8.calls n 0 false _ hf3).mono ?_; rintro e w' ⟨rfl, ⟨nd3, rfl⟩⟩) | (go_at_call 34; refine (num_Fit_uint16.calls n 0 false _ hf4).mono ?_; rintro e w' ⟨rfl, ⟨nd4, rfl⟩⟩) | (go_at_call 35; refine (num_Fit_uint32.calls n 0 false _ hf5).mono ?_; rintro e w' ⟨rfl, ⟨nd5, rfl⟩⟩) | (go_at_call 36; go_in) | (go_at_call 37; go_in))
  go_ret
  exact ⟨by first | rfl | (simp; done) | (simp; omega), ⟨⟨_, rfl⟩⟩⟩
set_option maxHeartbeats 8000000 in
set_option maxRecDepth 100000 in
theorem cadencylaw01_fits.case2 (n : Int) (w : World) (h0 : -9223372036854775808 ≤ n) (h1 : n < 9223372036854775808) (k0 : -32768 ≤ n) (k1 : n < -128) :
    Calls Try.prog 20 #[.int .i64 n] w fun e w' => e = .returned (.bool true) ∧ Drawn0 w w' := by
  have hf0 := cadencylaw01_fits.no_int8 n h0 h1 (by omega)
  have hf1 := cadencylaw01_fits.yes_int16 n (by omega) (by omega)
  have hf2 := cadencylaw01_fits.yes_int32 n (by omega) (by omega)
  have hf3 := cadencylaw01_fits.no_uint8 n h0 h1 (by omega)
  have hf4 := cadencylaw01_fits.no_uint16 n h0 h1 (by omega)
  have hf5 := cadencylaw01_fits.no_uint32 n h0 h1 (by omega)
  go_enter Try.func20, Try.ntmps20
  go_wp2_with (first | (go_at_call 25; refine (num_Fit_int8.calls n 0 false _ hf0).mono ?_; rintro e w' ⟨rfl, ⟨nd0, rfl⟩⟩) | (go_at_call 31; refine (num_Fit_int16.calls n n true _ hf1).mono ?_; rintro e w' ⟨rfl, ⟨nd1, rfl⟩⟩) | (go_at_call 32; refine (num_Fit_int32.calls n n true _ hf2).mono ?_; rintro e w' ⟨rfl, ⟨nd2, rfl⟩⟩) | (go_at_call 33; refine (num_Fit_uint8.calls n 0 false _ hf3).mono ?_; rintro e w' ⟨rfl, ⟨nd3, rfl⟩⟩) | (go_at_call 34; refine (num_Fit_uint16.calls n 0 false _ hf4).mono ?_; rintro e w' ⟨rfl, ⟨nd4, rfl⟩⟩) | (go_at_call 35; refine (num_Fit_uint32.calls n 0 false _ hf5).mono ?_; rintro e w' ⟨rfl, ⟨nd5, rfl⟩⟩) | (go_at_call 36; go_in) | (go_at_call 37; go_in))
  go_ret
  exact ⟨by first | rfl | (simp; done) | (simp; omega), ⟨⟨_, rfl⟩⟩⟩
set_option maxHeartbeats 8000000 in
set_option maxRecDepth 100000 in
theorem cadencylaw01_fits.case3 (n : Int) (w : World) (h0 : -9223372036854775808 ≤ n) (h1 : n < 9223372036854775808) (k0 : -128 ≤ n) (k1 : n < 0) :
    Calls Try.prog 20 #[.int .i64 n] w fun e w' => e = .returned (.bool true) ∧ Drawn0 w w' := by
  have hf0 := cadencylaw01_fits.yes_int8 n (by omega) (by omega)
  have hf1 := cadencylaw01_fits.yes_int16 n (by omega) (by omega)
  have hf2 := cadencylaw01_fits.yes_int32 n (by omega) (by omega)
  have hf3 := cadencylaw01_fits.no_uint8 n h0 h1 (by omega)
  have hf4 := cadencylaw01_fits.no_uint16 n h0 h1 (by omega)
  have hf5 := cadencylaw01_fits.no_uint32 n h0 h1 (by omega)
  go_enter Try.func20, Try.ntmps20
  go_wp2_with (first | (go_at_call 25; refine (num_Fit_int8.calls n n true _ hf0).mono ?_; rintro e w' ⟨rfl, ⟨nd0, rfl⟩⟩) | (go_at_call 31; refine (num_Fit_int16.calls n n true _ hf1).mono ?_; rintro e w' ⟨rfl, ⟨nd1, rfl⟩⟩) | (go_at_call 32; refine (num_Fit_int32.calls n n true _ hf2).mono ?_; rintro e w' ⟨rfl, ⟨nd2, rfl⟩⟩) | (go_at_call 33; refine (num_Fit_uint8.calls n 0 false _ hf3).mono ?_; rintro e w' ⟨rfl, ⟨nd3, rfl⟩⟩) | (go_at_call 34; refine (num_Fit_uint16.calls n 0 false _ hf4).mono ?_; rintro e w' ⟨rfl, ⟨nd4, rfl⟩⟩) | (go_at_call 35; refine (num_Fit_uint32.calls n 0 false _ hf5).mono ?_; rintro e w' ⟨rfl, ⟨nd5, rfl⟩⟩) | (go_at_call 36; go_in) | (go_at_call 37; go_in))
  go_ret
  exact ⟨by first | rfl | (simp; done) | (simp; omega), ⟨⟨_, rfl⟩⟩⟩
set_option maxHeartbeats 8000000 in
set_option maxRecDepth 100000 in
theorem cadencylaw01_fits.case4 (n : Int) (w : World) (h0 : -9223372036854775808 ≤ n) (h1 : n < 9223372036854775808) (k0 : 0 ≤ n) (k1 : n ≤ 127) :
    Calls Try.prog 20 #[.int .i64 n] w fun e w' => e = .returned (.bool true) ∧ Drawn0 w w' := by
  have hf0 := cadencylaw01_fits.yes_int8 n (by omega) (by omega)
  have hf1 := cadencylaw01_fits.yes_int16 n (by omega) (by omega)
  have hf2 := cadencylaw01_fits.yes_int32 n (by omega) (by omega)
  have hf3 := cadencylaw01_fits.yes_uint8 n (by omega) (by omega)
  have hf4 := cadencylaw01_fits.yes_uint16 n (by omega) (by omega)
  have hf5 := cadencylaw01_fits.yes_uint32 n (by omega) (by omega)
  go_enter Try.func20, Try.ntmps20
  go_wp2_with (first | (go_at_call 25; refine (num_Fit_int8.calls n n true _ hf0).mono ?_; rintro e w' ⟨rfl, ⟨nd0, rfl⟩⟩) | (go_at_call 31; refine (num_Fit_int16.calls n n true _ hf1).mono ?_; rintro e w' ⟨rfl, ⟨nd1, rfl⟩⟩) | (go_at_call 32; refine (num_Fit_int32.calls n n true _ hf2).mono ?_; rintro e w' ⟨rfl, ⟨nd2, rfl⟩⟩) | (go_at_call 33; refine (num_Fit_uint8.calls n n true _ hf3).mono ?_; rintro e w' ⟨rfl, ⟨nd3, rfl⟩⟩) | (go_at_call 34; refine (num_Fit_uint16.calls n n true _ hf4).mono ?_; rintro e w' ⟨rfl, ⟨nd4, rfl⟩⟩) | (go_at_call 35; refine (num_Fit_uint32.calls n n true _ hf5).mono ?_; rintro e w' ⟨rfl, ⟨nd5, rfl⟩⟩) | (go_at_call 36; go_in) | (go_at_call 37; go_in))
  go_ret
  exact ⟨by first | rfl | (simp; done) | (simp; omega), ⟨⟨_, rfl⟩⟩⟩
set_option maxHeartbeats 8000000 in
set_option maxRecDepth 100000 in
theorem cadencylaw01_fits.case5 (n : Int) (w : World) (h0 : -9223372036854775808 ≤ n) (h1 : n < 9223372036854775808) (k0 : 127 < n) (k1 : n ≤ 255) :
    Calls Try.prog 20 #[.int .i64 n] w fun e w' => e = .returned (.bool true) ∧ Drawn0 w w' := by
  have hf0 := cadencylaw01_fits.no_int8 n h0 h1 (by omega)
  have hf1 := cadencylaw01_fits.yes_int16 n (by omega) (by omega)
  have hf2 := cadencylaw01_fits.yes_int32 n (by omega) (by omega)
  have hf3 := cadencylaw01_fits.yes_uint8 n (by omega) (by omega)
  have hf4 := cadencylaw01_fits.yes_uint16 n (by omega) (by omega)
  have hf5 := cadencylaw01_fits.yes_uint32 n (by omega) (by omega)
  go_enter Try.func20, Try.ntmps20
  go_wp2_with (first | (go_at_call 25; refine (num_Fit_int8.calls n 0 false _ hf0).mono ?_; rintro e w' ⟨rfl, ⟨nd0, rfl⟩⟩) | (go_at_call 31; refine (num_Fit_int16.calls n n true _ hf1).mono ?_; rintro e w' ⟨rfl, ⟨nd1, rfl⟩⟩) | (go_at_call 32; refine (num_Fit_int32.calls n n true _ hf2).mono ?_; rintro e w' ⟨rfl, ⟨nd2, rfl⟩⟩) | (go_at_call 33; refine (num_Fit_uint8.calls n n true _ hf3).mono ?_; rintro e w' ⟨rfl, ⟨nd3, rfl⟩⟩) | (go_at_call 34; refine (num_Fit_uint16.calls n n true _ hf4).mono ?_; rintro e w' ⟨rfl, ⟨nd4, rfl⟩⟩) | (go_at_call 35; refine (num_Fit_uint32.calls n n true _ hf5).mono ?_; rintro e w' ⟨rfl, ⟨nd5, rfl⟩⟩) | (go_at_call 36; go_in) | (go_at_call 37; go_in))
  go_ret
  exact ⟨by first | rfl | (simp; done) | (simp; omega), ⟨⟨_, rfl⟩⟩⟩
set_option maxHeartbeats 8000000 in
set_option maxRecDepth 100000 in
theorem cadencylaw01_fits.case6 (n : Int) (w : World) (h0 : -9223372036854775808 ≤ n) (h1 : n < 9223372036854775808) (k0 : 255 < n) (k1 : n ≤ 32767) :
    Calls Try.prog 20 #[.int .i64 n] w fun e w' => e = .returned (.bool true) ∧ Drawn0 w w' := by
  have hf0 := cadencylaw01_fits.no_int8 n h0 h1 (by omega)
  have hf1 := cadencylaw01_fits.yes_int16 n (by omega) (by omega)
  have hf2 := cadencylaw01_fits.yes_int32 n (by omega) (by omega)
  have hf3 := cadencylaw01_fits.no_uint8 n h0 h1 (by omega)
  have hf4 := cadencylaw01_fits.yes_uint16 n (by omega) (by omega)
  have hf5 := cadencylaw01_fits.yes_uint32 n (by omega) (by omega)
  go_enter Try.func20, Try.ntmps20
  go_wp2_with (first | (go_at_call 25; refine (num_Fit_int8.calls n 0 false _ hf0).mono ?_; rintro e w' ⟨rfl, ⟨nd0, rfl⟩⟩) | (go_at_call 31; refine (num_Fit_int16.calls n n true _ hf1).mono ?_; rintro e w' ⟨rfl, ⟨nd1, rfl⟩⟩) | (go_at_call 32; refine (num_Fit_int32.calls n n true _ hf2).mono ?_; rintro e w' ⟨rfl, ⟨nd2, rfl⟩⟩) | (go_at_call 33; refine (num_Fit_uint8.calls n 0 false _ hf3).mono ?_; rintro e w' ⟨rfl, ⟨nd3, rfl⟩⟩) | (go_at_call 34; refine (num_Fit_uint16.calls n n true _ hf4).mono ?_; rintro e w' ⟨rfl, ⟨nd4, rfl⟩⟩) | (go_at_call 35; refine (num_Fit_uint32.calls n n true _ hf5).mono ?_; rintro e w' ⟨rfl, ⟨nd5, rfl⟩⟩) | (go_at_call 36; go_in) | (go_at_call 37; go_in))
  go_ret
  exact ⟨by first | rfl | (simp; done) | (simp; omega), ⟨⟨_, rfl⟩⟩⟩
set_option maxHeartbeats 8000000 in
set_option maxRecDepth 100000 in
theorem cadencylaw01_fits.case7 (n : Int) (w : World) (h0 : -9223372036854775808 ≤ n) (h1 : n < 9223372036854775808) (k0 : 32767 < n) (k1 : n ≤ 65535) :
    Calls Try.prog 20 #[.int .i64 n] w fun e w' => e = .returned (.bool true) ∧ Drawn0 w w' := by
  have hf0 := cadencylaw01_fits.no_int8 n h0 h1 (by omega)
  have hf1 := cadencylaw01_fits.no_int16 n h0 h1 (by omega)
  have hf2 := cadencylaw01_fits.yes_int32 n (by omega) (by omega)
  have hf3 := cadencylaw01_fits.no_uint8 n h0 h1 (by omega)
  have hf4 := cadencylaw01_fits.yes_uint16 n (by omega) (by omega)
  have hf5 := cadencylaw01_fits.yes_uint32 n (by omega) (by omega)
  go_enter Try.func20, Try.ntmps20
  go_wp2_with (first | (go_at_call 25; refine (num_Fit_int8.calls n 0 false _ hf0).mono ?_; rintro e w' ⟨rfl, ⟨nd0, rfl⟩⟩) | (go_at_call 31; refine (num_Fit_int16.calls n 0 false _ hf1).mono ?_; rintro e w' ⟨rfl, ⟨nd1, rfl⟩⟩) | (go_at_call 32; refine (num_Fit_int32.calls n n true _ hf2).mono ?_; rintro e w' ⟨rfl, ⟨nd2, rfl⟩⟩) | (go_at_call 33; refine (num_Fit_uint8.calls n 0 false _ hf3).mono ?_; rintro e w' ⟨rfl, ⟨nd3, rfl⟩⟩) | (go_at_call 34; refine (num_Fit_uint16.calls n n true _ hf4).mono ?_; rintro e w' ⟨rfl, ⟨nd4, rfl⟩⟩) | (go_at_call 35; refine (num_Fit_uint32.calls n n true _ hf5).mono ?_; rintro e w' ⟨rfl, ⟨nd5, rfl⟩⟩) | (go_at_call 36; go_in) | (go_at_call 37; go_in))
  go_ret
  exact ⟨by first | rfl | (simp; done) | (simp; omega), ⟨⟨_, rfl⟩⟩⟩
set_option maxHeartbeats 8000000 in
set_option maxRecDepth 100000 in
theorem cadencylaw01_fits.case8 (n : Int) (w : World) (h0 : -9223372036854775808 ≤ n) (h1 : n < 9223372036854775808) (k0 : 65535 < n) (k1 : n ≤ 2147483647) :
    Calls Try.prog 20 #[.int .i64 n] w fun e w' => e = .returned (.bool true) ∧ Drawn0 w w' := by
  have hf0 := cadencylaw01_fits.no_int8 n h0 h1 (by omega)
  have hf1 := cadencylaw01_fits.no_int16 n h0 h1 (by omega)
  have hf2 := cadencylaw01_fits.yes_int32 n (by omega) (by omega)
  have hf3 := cadencylaw01_fits.no_uint8 n h0 h1 (by omega)
  have hf4 := cadencylaw01_fits.no_uint16 n h0 h1 (by omega)
  have hf5 := cadencylaw01_fits.yes_uint32 n (by omega) (by omega)
  go_enter Try.func20, Try.ntmps20
  go_wp2_with (first | (go_at_call 25; refine (num_Fit_int8.calls n 0 false _ hf0).mono ?_; rintro e w' ⟨rfl, ⟨nd0, rfl⟩⟩) | (go_at_call 31; refine (num_Fit_int16.calls n 0 false _ hf1).mono ?_; rintro e w' ⟨rfl, ⟨nd1, rfl⟩⟩) | (go_at_call 32; refine (num_Fit_int32.calls n n true _ hf2).mono ?_; rintro e w' ⟨rfl, ⟨nd2, rfl⟩⟩) | (go_at_call 33; refine (num_Fit_uint8.calls n 0 false _ hf3).mono ?_; rintro e w' ⟨rfl, ⟨nd3, rfl⟩⟩) | (go_at_call 34; refine (num_Fit_uint16.calls n 0 false _ hf4).mono ?_; rintro e w' ⟨rfl, ⟨nd4, rfl⟩⟩) | (go_at_call 35; refine (num_Fit_uint32.calls n n true _ hf5).mono ?_; rintro e w' ⟨rfl, ⟨nd5, rfl⟩⟩) | (go_at_call 36; go_in) | (go_at_call 37; go_in))
  go_ret
  exact ⟨by first | rfl | (simp; done) | (simp; omega), ⟨⟨_, rfl⟩⟩⟩
set_option maxHeartbeats 8000000 in
set_option maxRecDepth 100000 in
theorem cadencylaw01_fits.case9 (n : Int) (w : World) (h0 : -9223372036854775808 ≤ n) (h1 : n < 9223372036854775808) (k0 : 2147483647 < n) (k1 : n ≤ 4294967295) :
    Calls Try.prog 20 #[.int .i64 n] w fun e w' => e = .returned (.bool true) ∧ Drawn0 w w' := by
  have hf0 := cadencylaw01_fits.no_int8 n h0 h1 (by omega)
  have hf1 := cadencylaw01_fits.no_int16 n h0 h1 (by omega)
  have hf2 := cadencylaw01_fits.no_int32 n h0 h1 (by omega)
  have hf3 := cadencylaw01_fits.no_uint8 n h0 h1 (by omega)
  have hf4 := cadencylaw01_fits.no_uint16 n h0 h1 (by omega)
  have hf5 := cadencylaw01_fits.yes_uint32 n (by omega) (by omega)
  go_enter Try.func20, Try.ntmps20
  go_wp2_with (first | (go_at_call 25; refine (num_Fit_int8.calls n 0 false _ hf0).mono ?_; rintro e w' ⟨rfl, ⟨nd0, rfl⟩⟩) | (go_at_call 31; refine (num_Fit_int16.calls n 0 false _ hf1).mono ?_; rintro e w' ⟨rfl, ⟨nd1, rfl⟩⟩) | (go_at_call 32; refine (num_Fit_int32.calls n 0 false _ hf2).mono ?_; rintro e w' ⟨rfl, ⟨nd2, rfl⟩⟩) | (go_at_call 33; refine (num_Fit_uint8.calls n 0 false _ hf3).mono ?_; rintro e w' ⟨rfl, ⟨nd3, rfl⟩⟩) | (go_at_call 34; refine (num_Fit_uint16.calls n 0 false _ hf4).mono ?_; rintro e w' ⟨rfl, ⟨nd4, rfl⟩⟩) | (go_at_call 35; refine (num_Fit_uint32.calls n n true _ hf5).mono ?_; rintro e w' ⟨rfl, ⟨nd5, rfl⟩⟩) | (go_at_call 36; go_in) | (go_at_call 37; go_in))
  go_ret
  exact ⟨by first | rfl | (simp; done) | (simp; omega), ⟨⟨_, rfl⟩⟩⟩
set_option maxHeartbeats 8000000 in
set_option maxRecDepth 100000 in
theorem cadencylaw01_fits.case10 (n : Int) (w : World) (h0 : -9223372036854775808 ≤ n) (h1 : n < 9223372036854775808) (k0 : 4294967295 < n) :
    Calls Try.prog 20 #[.int .i64 n] w fun e w' => e = .returned (.bool true) ∧ Drawn0 w w' := by
  have hf0 := cadencylaw01_fits.no_int8 n h0 h1 (by omega)
  have hf1 := cadencylaw01_fits.no_int16 n h0 h1 (by omega)
  have hf2 := cadencylaw01_fits.no_int32 n h0 h1 (by omega)
  have hf3 := cadencylaw01_fits.no_uint8 n h0 h1 (by omega)
  have hf4 := cadencylaw01_fits.no_uint16 n h0 h1 (by omega)
  have hf5 := cadencylaw01_fits.no_uint32 n h0 h1 (by omega)
  go_enter Try.func20, Try.ntmps20
  go_wp2_with (first | (go_at_call 25; refine (num_Fit_int8.calls n 0 false _ hf0).mono ?_; rintro e w' ⟨rfl, ⟨nd0, rfl⟩⟩) | (go_at_call 31; refine (num_Fit_int16.calls n 0 false _ hf1).mono ?_; rintro e w' ⟨rfl, ⟨nd1, rfl⟩⟩) | (go_at_call 32; refine (num_Fit_int32.calls n 0 false _ hf2).mono ?_; rintro e w' ⟨rfl, ⟨nd2, rfl⟩⟩) | (go_at_call 33; refine (num_Fit_uint8.calls n 0 false _ hf3).mono ?_; rintro e w' ⟨rfl, ⟨nd3, rfl⟩⟩) | (go_at_call 34; refine (num_Fit_uint16.calls n 0 false _ hf4).mono ?_; rintro e w' ⟨rfl, ⟨nd4, rfl⟩⟩) | (go_at_call 35; refine (num_Fit_uint32.calls n 0 false _ hf5).mono ?_; rintro e w' ⟨rfl, ⟨nd5, rfl⟩⟩) | (go_at_call 36; go_in) | (go_at_call 37; go_in))
  go_ret
  exact ⟨by first | rfl | (simp; done) | (simp; omega), ⟨⟨_, rfl⟩⟩⟩
theorem cadencylaw01_fits.calls (a0 : Int) (r : Bool) (w : World) (h : cadencylaw01_fits.f a0 = some r) :
    Calls Try.prog 20 #[.int .i64 a0] w fun e w' => e = .returned (.bool r) ∧ Drawn0 w w' := by
  unfold cadencylaw01_fits.f at h
  split at h
  · rename_i hr
    injection h with h
    subst h
    obtain ⟨h0, h1⟩ := hr
    by_cases c0 : a0 < -2147483648
    · exact cadencylaw01_fits.case0 a0 w h0 h1 (by omega) 
    by_cases c1 : a0 < -32768
    · exact cadencylaw01_fits.case1 a0 w h0 h1 (by omega) (by omega) 
    by_cases c2 : a0 < -128
    · exact cadencylaw01_fits.case2 a0 w h0 h1 (by omega) (by omega) 
    by_cases c3 : a0 < 0
    · exact cadencylaw01_fits.case3 a0 w h0 h1 (by omega) (by omega) 
    by_cases c4 : a0 ≤ 127
    · exact cadencylaw01_fits.case4 a0 w h0 h1 (by omega) (by omega) 
    by_cases c5 : a0 ≤ 255
    · exact cadencylaw01_fits.case5 a0 w h0 h1 (by omega) (by omega) 
    by_cases c6 : a0 ≤ 32767
    · exact cadencylaw01_fits.case6 a0 w h0 h1 (by omega) (by omega) 
    by_cases c7 : a0 ≤ 65535
    · exact cadencylaw01_fits.case7 a0 w h0 h1 (by omega) (by omega) 
    by_cases c8 : a0 ≤ 2147483647
    · exact cadencylaw01_fits.case8 a0 w h0 h1 (by omega) (by omega) 
    by_cases c9 : a0 ≤ 4294967295
    · exact cadencylaw01_fits.case9 a0 w h0 h1 (by omega) (by omega) 
    exact cadencylaw01_fits.case10 a0 w h0 h1 (by omega)
  · cases h

end Go.Proofs.Ythhojifpogghlaa.PAll
