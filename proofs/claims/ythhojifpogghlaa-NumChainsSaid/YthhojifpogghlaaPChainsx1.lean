-- Laid by wip/printx.py, over the print of the kit.
import Derived.Test.YthhojifpogghlaaPChainsx0
namespace Go.Proofs.Ythhojifpogghlaa.PChains
open Go.RowKit Go.Proofs.YthhojifpogghlaaW.PrintWords Go.Proofs.YthhojifpogghlaaW.PrintLast Go.Proofs.YthhojifpogghlaaW.PrintMore
attribute [local go_sem] max2_int min2_int max_two min_two max_three min_three max_four min_four   -- for this text's walks alone
set_option linter.unusedVariables false
set_option linter.unusedSimpArgs false

/-! ### bits_LeadingZeros64: function 26 -/
def bits_LeadingZeros64.f (a0 : Int) : Option Int := if 0 ≤ a0 ∧ a0 < 18446744073709551616 then some (64 - (Lib.bitLen a0.toNat : Int)) else none
theorem bits_LeadingZeros64.tab_fin : ∀ n : Fin 256, ∀ h : n.val < Lib.len8tab.size, Lib.len8tab[n.val].toNat = Lib.bitLen n.val := by decide +kernel
theorem bits_LeadingZeros64.tab_at (i : Int) (h0 : 0 ≤ i) (h1 : i < 256) (h : i.toNat < Lib.len8tab.size) : wrap64 (Lib.len8tab[i.toNat].toNat : Int) = (Lib.bitLen i.toNat : Int) := by
  rw [bits_LeadingZeros64.tab_fin ⟨i.toNat, by omega⟩ h]
  have := Lib.bitLen_le8 ⟨i.toNat, by omega⟩
  simp only at this ⊢
  unfold wrap64
  omega
set_option maxHeartbeats 8000000 in
set_option maxRecDepth 100000 in
theorem bits_LeadingZeros64.len (x : Int) (w : World) (h0 : 0 ≤ x) (h1 : x ≤ 18446744073709551615) :
    Calls Try.prog 42 #[.int .u64 x] w fun e w' => e = .returned (.int .i64 (Lib.bitLen x.toNat)) ∧ w' = w := by
  have hsz := Lib.len8tab_size
  go_enter Try.func42, Try.ntmps42
  go_wp2
  all_goals go_ret
  all_goals (refine ⟨congrArg Ending.returned (congrArg (Value.int IntKind.i64) ?_), rfl⟩)
  all_goals (rw [bits_LeadingZeros64.tab_at _ (by omega) (by omega)])
  all_goals (have l := Lib.bitLen_le x.toNat 64 (by omega) (by omega))
  all_goals first
    | (have e : (x / 4294967296 / 65536 / 256).toNat = x.toNat / 72057594037927936 := by omega
       have s := Lib.bitLen_shift56 x.toNat (by omega) (by omega)
       rw [e]
       unfold wrap64
       omega)
    | (have e : (x / 4294967296 / 65536).toNat = x.toNat / 281474976710656 := by omega
       have s := Lib.bitLen_shift48 x.toNat (by omega) (by omega)
       rw [e]
       unfold wrap64
       omega)
    | (have e : (x / 4294967296 / 256).toNat = x.toNat / 1099511627776 := by omega
       have s := Lib.bitLen_shift40 x.toNat (by omega) (by omega)
       rw [e]
       unfold wrap64
       omega)
    | (have e : (x / 4294967296).toNat = x.toNat / 4294967296 := by omega
       have s := Lib.bitLen_shift32 x.toNat (by omega) (by omega)
       rw [e]
       unfold wrap64
       omega)
    | (have e : (x / 65536 / 256).toNat = x.toNat / 16777216 := by omega
       have s := Lib.bitLen_shift24 x.toNat (by omega) (by omega)
       rw [e]
       unfold wrap64
       omega)
    | (have e : (x / 65536).toNat = x.toNat / 65536 := by omega
       have s := Lib.bitLen_shift16 x.toNat (by omega) (by omega)
       rw [e]
       unfold wrap64
       omega)
    | (have e : (x / 256).toNat = x.toNat / 256 := by omega
       have s := Lib.bitLen_shift8 x.toNat (by omega) (by omega)
       rw [e]
       unfold wrap64
       omega)
    | (unfold wrap64; omega)
set_option maxHeartbeats 8000000 in
theorem bits_LeadingZeros64.calls (a0 : Int) (r : Int) (w : World) (h : bits_LeadingZeros64.f a0 = some r) :
    Calls Try.prog 26 #[.int .u64 a0] w fun e w' => e = .returned (.int .i64 r) ∧ Drawn0 w w' := by
  unfold bits_LeadingZeros64.f at h
  split at h
  · rename_i hr
    injection h with h
    have c := fun W => bits_LeadingZeros64.len a0 W hr.1 (by omega)
    have hb : Lib.bitLen a0.toNat ≤ 64 := Lib.bitLen_le _ 64 (by omega) (by omega)
    generalize Lib.bitLen a0.toNat = b at *
    subst h
    clear hr
    go_enter Try.func26, Try.ntmps26
    go_wp2_with fail
    refine (c _).mono ?_
    rintro e w' ⟨rfl, rfl⟩
    clear c
    go_wp2
    go_ret
    exact ⟨rfl, ⟨⟨0, rfl⟩⟩⟩
  · cases h

end Go.Proofs.Ythhojifpogghlaa.PChains
