/- The laws' helpers: awake, rest, tells, great. -/
import Derived.Test.YtacgfbdeobmiaaaDoorD11
set_option linter.all false
set_option maxRecDepth 2000
set_option maxHeartbeats 8000000
namespace Go.Proofs.Vl
open Go Go.RowKit
attribute [local irreducible] AWp OpTo Run DL Val UN DR AC Le thn inb nog
attribute [local irreducible] els nxO
theorem rest13_ac (G) (a b : Int) (hb : 0 < b) (hb2 : b < 4611686018427387904) : AC Tryd.prog G 11 [vi a, vi b] [] (fun r _ => r = vi (a % b)) := by
  refine AC.body' Tryd.func11 Tryd.ntmps11 rfl ?_
  intro cx hd hG
  refine nrmL (k := ?_)
  repeat refine w1 (k := ?_)
  first | refine ofN (hv := by exact Val.rem rfl rfl rfl rfl (by omega)) (h := ?_) | refine dlN (hv := by exact Val.rem rfl rfl rfl rfl (by omega)) (h := ?_) | refine dlgN (hv := by exact Val.rem rfl rfl rfl rfl (by omega)) (h := ?_) | refine ofN (hv := by exact Val.rem rfl rfl rfl rfl (by omega)) (h := ?_)
  repeat refine w1 (k := ?_)
  first | refine ofN (hv := by exact Val.rem rfl rfl rfl rfl (by omega)) (h := ?_) | refine dlN (hv := by exact Val.rem rfl rfl rfl rfl (by omega)) (h := ?_) | refine dlgN (hv := by exact Val.rem rfl rfl rfl rfl (by omega)) (h := ?_) | refine ofN (hv := by exact Val.rem rfl rfl rfl rfl (by omega)) (h := ?_)
  repeat refine w1 (k := ?_)
  refine ⟨[.c _], .cons (.tmp rfl) .nil, ?_⟩
  rw [rest_w a b hb hb2]
  rfl
theorem tells_ac (l : List Tk) (i : Int) (w : Nat) (hw : w < 18446744073709551616) (hl : ∀ t ∈ l, t.nm.size ≤ maxLen) (hn : l.length ≤ maxLen) : AC Tryd.prog GL 12 [fro tkP l, vi i, vn w] [] (fun r _ => r = vb true) := by
  refine AC.body' Tryd.func12 Tryd.ntmps12 rfl ?_
  intro cx hd hG
  refine nrmL (k := ?_)
  repeat refine w1 (k := ?_)
  obtain ⟨w0, fz0, β0, df, G0⟩ := cx
  obtain rfl : G0 = GL := hG
  refine callN (hc := by exact block_ac l i hl hn) (h := ?_)
  repeat refine w1 (k := ?_)
  refine callN (hc := by exact rblock_ac _ l i hl hn) (h := ?_)
  repeat refine w1 (k := ?_)
  simp only [beq_self_eq_true]
  repeat refine w1 (k := ?_)
  refine callN (hc := by exact higherD_ac l i w hw hl hn) (h := ?_)
  repeat refine w1 (k := ?_)
  refine callN (hc := by exact rhigher_ac _ l i w hw hl hn) (h := ?_)
  repeat refine w1 (k := ?_)
  simp only [beq_self_eq_true]
  repeat refine w1 (k := ?_)
  refine callN (hc := by exact need_ac l i w hw hl hn) (h := ?_)
  repeat refine w1 (k := ?_)
  refine callN (hc := by exact rneed_ac _ l i w hw hl hn) (h := ?_)
  repeat refine w1 (k := ?_)
  simp only [beq_self_eq_true]
  repeat refine w1 (k := ?_)
  exact ⟨[.c _], .cons (.tmp rfl) .nil, rfl⟩
abbrev aw3 : List Tk := [⟨⟨#[97]⟩, 1, 4, 4, 0, 1, 1⟩, ⟨⟨#[98]⟩, 2, 9, 9, 0, 1, 2⟩, ⟨⟨#[99]⟩, 3, 20, 20, 0, 3, 3⟩]
theorem aw_b : blkA aw3 1 = 2 := by decide +kernel
theorem aw_h : hghA aw3 1 5 = 2 := by decide +kernel
theorem aw_n : needA aw3 1 5 = 6 := by decide +kernel
theorem aw_nm : ∀ t ∈ aw3, t.nm.size ≤ maxLen := by
  intro t h
  simp only [aw3, List.mem_cons, List.not_mem_nil, or_false] at h
  rcases h with rfl | rfl | rfl <;> exact (by decide : 1 ≤ 2 ^ 63 - 1)
theorem awake_ac : AC Tryd.prog GL 9 [] [] (fun r _ => r = vb true) := by
  refine AC.body' Tryd.func9 Tryd.ntmps9 rfl ?_
  intro cx hd hG
  refine nrmL (k := ?_)
  repeat refine w1 (k := ?_)
  obtain ⟨w0, fz0, β0, df, G0⟩ := cx
  obtain rfl : G0 = GL := hG
  refine litA tkP aw3 (h := ?_)
  repeat refine w1 (k := ?_)
  refine callN (hc := by exact block_ac aw3 1 aw_nm (by simp [maxLen])) (h := ?_)
  repeat refine w1 (k := ?_)
  rw [aw_b]
  repeat refine w1 (k := ?_)
  refine callN (hc := by exact higherD_ac aw3 1 5 (by decide) aw_nm (by simp [maxLen])) (h := ?_)
  repeat refine w1 (k := ?_)
  rw [aw_h]
  repeat refine w1 (k := ?_)
  refine callN (hc := by exact need_ac aw3 1 5 (by decide) aw_nm (by simp [maxLen])) (h := ?_)
  repeat refine w1 (k := ?_)
  rw [aw_n]
  repeat refine w1 (k := ?_)
  exact ⟨[.c _], .cons (.tmp rfl) .nil, rfl⟩
theorem and25 (n : Int) : bits .and .i64 n 33554431 = n % 33554432 := by
  have h63 : (BitVec.ofInt 64 33554431).toNat = 2 ^ 25 - 1 := by decide
  have key : (BitVec.ofInt 64 n &&& BitVec.ofInt 64 33554431).toNat = (n % ((2 ^ 64 : Nat) : Int)).toNat % 2 ^ 25 := by
    rw [BitVec.toNat_and, BitVec.toNat_ofInt, h63, Nat.and_two_pow_sub_one_eq_mod]
  show IntKind.i64.wrap ((BitVec.ofInt 64 n &&& BitVec.ofInt 64 33554431).toNat : Nat) = n % 33554432
  rw [key, IntKind.wrap_i64]
  omega
def bigT (k : Int) (t : Tk) : Tk := ⟨t.nm, t.c * k, t.t * k, t.d * k, t.j * k, t.q * k, t.p⟩
def bigL (l : List Tk) (n : Int) : List Tk := l.map (bigT (1 + n % 33554432))
structure Small (t : Tk) : Prop where
  hc : 0 ≤ t.c ∧ t.c ≤ 100
  ht : 0 ≤ t.t ∧ t.t ≤ 100
  hd : 0 ≤ t.d ∧ t.d ≤ 100
  hj : 0 ≤ t.j ∧ t.j ≤ 100
  hq : 0 ≤ t.q ∧ t.q ≤ 100
theorem mul_b {a k : Int} (h : 0 ≤ a ∧ a ≤ 100) (h1 : 1 ≤ k) (h2 : k ≤ 33554432) : 0 ≤ a * k ∧ a * k ≤ 3355443200 :=
  ⟨Int.mul_nonneg h.1 (by omega), Int.le_trans (Int.mul_le_mul h.2 h2 (by omega) (by decide)) (by decide)⟩
theorem great_ac (G) (l : List Tk) (n : Int) (hs : ∀ t ∈ l, Small t) (hn : l.length ≤ 1000) : AC Tryd.prog G 13 [fro tkP l, vi n] [] (fun r os => r = .c (.own 50 7 (bigL l n).length) ∧ find os 50 = some (.row 36 7 ((bigL l n).map tkP))) := by
  refine AC.body' Tryd.func13 Tryd.ntmps13 rfl ?_
  intro cx hd hG
  refine nrmL (k := ?_)
  repeat refine w1 (k := ?_)
  rw [and25]
  obtain ⟨k, hk⟩ : ∃ k, k = 1 + n % 33554432 := ⟨_, rfl⟩
  have hk1 : 1 ≤ k ∧ k ≤ 33554432 := by omega
  have hb : bigL l n = l.map (bigT k) := by rw [bigL, ← hk]
  repeat refine w1 (k := ?_)
  rw [← hk, hb, show IntKind.i64.wrap k = k from wrap_id (by omega) (by omega)]
  refine seedA 6 50 7 36 (h := ?_)
  refine loopN [(8, 1), (12, 39)] (α := Nat) (fun j => [(6, .c (.own 50 7 ((l.take j).map (bigT k)).length)), (7, vi (j : Int))]) (fun j => [(50, .row 36 7 (((l.take j).map (bigT k)).map tkP))]) (fun j => l.length - j) (fun j => j ≤ l.length) (x0 := 0) (h0 := by first | omega | simp | (refine ⟨?_, ?_⟩ <;> first | omega | simp)) (hr := ?_)
  intro j hI
  refine nrmL (k := ?_)
  repeat refine w1 (k := ?_)
  refine condN (h1 := fun h => ?_) (h0 := fun h => ?_)
  ·
    have hj : j < l.length := by omega
    obtain ⟨c, t, d, jj, q⟩ := hs _ (List.getElem_mem hj)
    have bc := mul_b c hk1.1 hk1.2
    have bt := mul_b t hk1.1 hk1.2
    have bd := mul_b d hk1.1 hk1.2
    have bj := mul_b jj hk1.1 hk1.2
    have bq := mul_b q hk1.1 hk1.2
    repeat refine w1 (k := ?_)
    refine litA tkP [bigT k l[j]] (h := ?_)
    repeat refine w1 (k := ?_)
    have hl2 : ((l.take j).map (bigT k)).length = j := by simp; omega
    refine appA 50 64 tkP ((l.take j).map (bigT k)) [bigT k l[j]] (hb := by rw [hl2]; simp; omega) (hm := by rw [hl2]; simp; omega) (h := ?_)
    repeat refine w1 (k := ?_)
    rw [show (l.take j).map (bigT k) ++ [bigT k l[j]] = (l.take (j + 1)).map (bigT k) by rw [List.take_succ_eq_append_getElem hj, List.map_append]; rfl]
    refine ⟨j + 1, by omega, by first | omega | (refine ⟨?_, ?_⟩ <;> omega), frg⟩
  ·
    repeat refine w1 (k := ?_)
    have : j = l.length := by omega
    subst this
    rw [List.take_length]
    exact ⟨[.c _], .cons (.tmp rfl) .nil, rfl, rfl⟩
