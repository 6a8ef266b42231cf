/- DemandTells. -/
import Derived.Test.YtlegdnmebgfjbaaDoorSD12
set_option linter.all false
set_option maxRecDepth 2000
set_option maxHeartbeats 8000000
namespace Go.Proofs.Vl
open Go Go.RowKit
attribute [local irreducible] AWp OpTo Run DL Val UN DR AC Le thn inb nog
attribute [local irreducible] els nxO
theorem set_len (l : List Sp) (most turn : Int) : (setL l most turn).length = min most.toNat (sp0 l turn).length := by simp [setL]
theorem set_nm (l : List Sp) (most turn : Int) : ∀ t ∈ setL l most turn, t.nm.size = 2 := by
  intro t h
  obtain ⟨i, hi, rfl⟩ := List.getElem_of_mem h
  simp only [setL, List.getElem_mapIdx, mkT]
  rw [bsOf_size]; rfl
theorem set_nm2 (l : List Sp) (most turn : Int) : ∀ t ∈ setL l most turn, t.nm.size ≤ maxLen := fun t ht => by rw [set_nm l most turn t ht]; decide
theorem set_b (l : List Sp) (most turn : Int) (hl : l.length ≤ maxLen) (hm : 1 ≤ most) : 1 ≤ (setL l most turn).length ∧ ((setL l most turn).length : Int) ≤ most := by
  have := set_len l most turn
  have := (sp0_len l turn hl).1
  omega
theorem emod_b (a b : Int) (h : 0 < b) : 0 ≤ a % b ∧ a % b < b := ⟨Int.emod_nonneg a (by omega), Int.emod_lt_of_pos a h⟩
theorem mkT_small (i : Nat) (s : Sp) (p : Int) : Small { mkT i s with p := p } := by
  have h1 := emod_b s.c 4 (by decide)
  have h2 := emod_b s.d 11 (by decide)
  have h3 := emod_b s.t 7 (by decide)
  have h4 := emod_b s.q (1 + s.c % 4) (by omega)
  have h5 := emod_b s.j (1 + s.c % 4 + s.d % 11 - (1 + s.c % 4) + 1) (by omega)
  exact ⟨by simp only [mkT]; omega, by simp only [mkT]; omega, by simp only [mkT]; omega, by simp only [mkT]; omega, by simp only [mkT]; omega⟩
theorem set_small (l : List Sp) (most turn : Int) : ∀ t ∈ setL l most turn, Small t := by
  intro t h
  obtain ⟨i, hi, rfl⟩ := List.getElem_of_mem h
  simp only [setL, List.getElem_mapIdx]
  exact mkT_small _ _ _
theorem and6 (w : Nat) (hw : w < 18446744073709551616) : bits .and .u64 (w : Int) 63 = ((w % 64 : Nat) : Int) := by
  have h := bits_and_u64_nat w 63 hw (by omega)
  have e : w &&& 63 = w % 64 := Nat.and_two_pow_sub_one_eq_mod w 6
  rw [e] at h
  exact h
theorem shr24 (n : Nat) : ((n : Int).fdiv (2 ^ min 24 IntKind.u64.bits)) = ((n / 16777216 : Nat) : Int) := by
  rw [show min 24 IntKind.u64.bits = 24 from rfl, Int.fdiv_eq_ediv_of_nonneg _ (by decide)]; rfl
abbrev arP (x : Int × Nat) : List PV := [.s (.int .i64 x.1), .s (.int .u64 (x.2 : Int))]
theorem bigL_nm {l : List Tk} (n : Int) (h : ∀ t ∈ l, t.nm.size ≤ maxLen) : ∀ t ∈ bigL l n, t.nm.size ≤ maxLen := by
  intro t ht
  obtain ⟨u, hu, rfl⟩ := List.mem_map.1 ht
  exact h u hu
theorem bigL_len (l : List Tk) (n : Int) : (bigL l n).length = l.length := by simp [bigL]
