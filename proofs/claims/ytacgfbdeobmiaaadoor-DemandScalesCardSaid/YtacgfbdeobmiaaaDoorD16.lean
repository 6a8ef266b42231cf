/- DemandGrows. -/
import Derived.Test.YtacgfbdeobmiaaaDoorD15
set_option linter.all false
set_option maxRecDepth 2000
set_option maxHeartbeats 8000000
namespace Go.Proofs.Vl
open Go Go.RowKit
attribute [local irreducible] AWp OpTo Run DL Val UN DR AC Le thn inb nog
attribute [local irreducible] els nxO
theorem and40 (w : Nat) (hw : w < 18446744073709551616) : bits .and .u64 (w : Int) 1099511627775 = ((w % 1099511627776 : Nat) : Int) := by
  have h := bits_and_u64_nat w 1099511627775 hw (by omega)
  have e : w &&& 1099511627775 = w % 1099511627776 := Nat.and_two_pow_sub_one_eq_mod w 40
  rw [e] at h
  exact h
def cN1 (t : Tk) : Nat := t.c.toNat
def cN2 (t : Tk) : Nat := (t.c * 2).toNat
theorem cN_dbl {s : List Tk} (h : ∀ t ∈ s, Sml t) (p : Int) : hs (ifp p cN2) s = hs (ifp p cN1) s * 2 := by
  rw [← hs_mul]
  exact hs_congr fun t ht => by have := (h t ht).hc; unfold ifp cN1 cN2; split <;> omega
theorem cN1_b {s : List Tk} (h : ∀ t ∈ s, Sml t) (p : Int) : hs (ifp p cN1) s ≤ s.length * 4 := hs_b fun t ht => by have := (h t ht).hc; unfold ifp cN1; split <;> omega
theorem cN2_b {s : List Tk} (h : ∀ t ∈ s, Sml t) (p : Int) : hs (ifp p cN2) s ≤ s.length * 8 := hs_b fun t ht => by have := (h t ht).hc; unfold ifp cN2; split <;> omega
theorem wrapU (n : Nat) (h : n < 18446744073709551615) : IntKind.u64.wrap ((n : Int) + 1) = ((n + 1 : Nat) : Int) := by rw [IntKind.wrap_u64]; omega
theorem dgrows_ac (sp : List Sp) (n : Int) (w : Nat) (hl : sp.length ≤ maxLen) (hw : w < 18446744073709551616) : AC Tryd.prog GL 4 [fro spP sp, vi n, vn w] [] (fun r _ => r = vb true) := by
  refine AC.body' Tryd.func4 Tryd.ntmps4 rfl ?_
  intro cx hd hG
  refine nrmL (k := ?_)
  repeat refine w1 (k := ?_)
  obtain ⟨w0, fz0, β0, df, G0⟩ := cx
  obtain rfl : G0 = GL := hG
  refine callN (hc := by exact awake_ac) (h := ?_)
  repeat refine w1 (k := ?_)
  refine OpTo.callO (by rfl) (by rfl) (by rfl) (by rfl) (set_ac _ sp 6 n hl (by decide) (by decide)) ?_
  rintro r os' ⟨rfl, hf⟩
  refine ⟨_, .row rfl hf (tkP_ok _ _) (by decide) rfl, ?_⟩
  have s1 := set_b sp 6 n hl (by decide)
  have s2 := set_nm2 sp 6 n
  have s4 := set_sml sp 6 n hl ⟨by decide, by decide⟩
  have s5 := set_is sp 6 n hl ⟨by decide, by decide⟩
  generalize setL sp 6 n = s at s1 s2 s4 s5 ⊢
  have s3 : s.length ≤ maxLen := by rw [maxLen]; omega
  refine nrm (k := ?_)
  repeat refine w1 (k := ?_)
  first | refine zA 20 (h := ?_) | refine zO 20 (h := ?_) | refine zL 20 (h := ?_) | refine zL3 20 (h := ?_)
  refine nrm (k := ?_)
  repeat refine w1 (k := ?_)
  refine callN (hc := by exact rest13_ac _ _ _ (by omega) (by omega)) (h := ?_)
  repeat refine w1 (k := ?_)
  have g := emod_b n (s.length : Int) (by omega)
  generalize n % (s.length : Int) = i at *
  obtain ⟨k, rfl⟩ := Int.eq_ofNat_of_zero_le g.1
  have hk : k < s.length := by omega
  have hi := s5 k hk
  rw [and40 w hw]
  have hv : w % 1099511627776 < 1099511627776 := Nat.mod_lt _ (by decide)
  generalize w % 1099511627776 = v at *
  have e0 := need_set s4 (by omega) hk hi (w := v) (by omega)
  have e1 := need_set s4 (by omega) hk hi (w := v + 1) (by omega)
  have ez := need_set s4 (by omega) hk hi (w := 0) (by omega)
  have hg : hs (ifp s[k].p (terW v)) s ≤ hs (ifp s[k].p (terW (v + 1))) s ∧ hs (ifp s[k].p (terW (v + 1))) s ≤ hs (ifp s[k].p (terW v)) s + hs (ifp s[k].p cN1) s := hgh_grow s4 s[k].p v
  have hz : hs (ifp s[k].p (terW 0)) s = 0 := by
    have : hs (ifp s[k].p (terW 0)) s ≤ s.length * 0 := hs_b fun t ht => by unfold ifp terW; simp
    omega
  have hb := blkA_b s (k : Int)
  have hB := hgh_set_b s4 (by omega) s[k].p (w := v + 1) (by omega)
  have hcc := (s4 _ (List.getElem_mem hk)).hc
  refine callN (hc := by exact need_ac s (k : Int) v (by omega) s2 s3) (h := ?_)
  repeat refine w1 (k := ?_)
  rw [show (v : Int) + 1 = ((v + 1 : Nat) : Int) from rfl]
  refine callN (hc := by exact need_ac s (k : Int) (v + 1) (by omega) s2 s3) (h := ?_)
  repeat refine w1 (k := ?_)
  have hc2 := cN_dbl s4 s[k].p
  have hcb := cN1_b s4 s[k].p
  refine cutIN [(15, 1), (36, 34)] (α := Unit) (fun u => [(13, vn (hs (ifp s[k].p cN1) s)), (14, vn (hs (ifp s[k].p cN2) s))]) (fun u => []) (fun u => True) ?_ (fun u hI => ?_)
  ·
    refine loopN [(36, 34)] (α := Nat) (fun j => [(13, vn (hs (ifp s[k].p cN1) (s.take j))), (14, vn (hs (ifp s[k].p cN2) (s.take j))), (15, vi (j : Int))]) (fun j => []) (fun j => s.length - j) (fun j => j ≤ s.length) (x0 := 0) (h0 := by first | omega | simp | (refine ⟨?_, ?_⟩ <;> first | omega | simp)) (hr := ?_)
    intro j hI
    refine nrmL (k := ?_)
    repeat refine w1 (k := ?_)
    refine condN (h1 := fun h => ?_) (h0 := fun h => ?_)
    ·
      have hj : j < s.length := by omega
      have hc := (s4 _ (List.getElem_mem hj)).hc
      have t1 := hs_take (f := ifp s[k].p cN1) s j hj
      have t2 := hs_take (f := ifp s[k].p cN2) s j hj
      have b1 := cN1_b (s := s.take j) (fun t ht => s4 t (List.mem_of_mem_take ht)) s[k].p
      have b2 := cN2_b (s := s.take j) (fun t ht => s4 t (List.mem_of_mem_take ht)) s[k].p
      have b3 : (s.take j).length = j := by simp; omega
      rw [b3] at b1 b2
      repeat refine w1 (k := ?_)
      refine condN (h1 := fun h2 => ?_) (h0 := fun h2 => ?_)
      ·
        rw [show ifp s[k].p cN1 s[j] = s[j].c.toNat from if_pos h2] at t1
        rw [show ifp s[k].p cN2 s[j] = (s[j].c * 2).toNat from if_pos h2] at t2
        repeat refine w1 (k := ?_)
        rw [show ((hs (ifp s[k].p cN1) (s.take j) : Nat) : Int) + s[j].c = ((hs (ifp s[k].p cN1) (s.take (j + 1)) : Nat) : Int) by omega, show ((hs (ifp s[k].p cN2) (s.take j) : Nat) : Int) + s[j].c * 2 = ((hs (ifp s[k].p cN2) (s.take (j + 1)) : Nat) : Int) by omega]
        refine ⟨j + 1, by omega, by first | omega | (refine ⟨?_, ?_⟩ <;> omega), frg⟩
      ·
        rw [show ifp s[k].p cN1 s[j] = 0 from if_neg (by omega)] at t1
        rw [show ifp s[k].p cN2 s[j] = 0 from if_neg (by omega)] at t2
        repeat refine w1 (k := ?_)
        rw [show hs (ifp s[k].p cN1) (s.take j) = hs (ifp s[k].p cN1) (s.take (j + 1)) by omega, show hs (ifp s[k].p cN2) (s.take j) = hs (ifp s[k].p cN2) (s.take (j + 1)) by omega]
        refine ⟨j + 1, by omega, by first | omega | (refine ⟨?_, ?_⟩ <;> omega), frg⟩
    ·
      repeat refine w1 (k := ?_)
      rw [List.take_of_length_le (show s.length ≤ j by omega)]
      refine ⟨(), by trivial, frg⟩
  ·
    refine nrmL (k := ?_)
    repeat refine w1 (k := ?_)
    refine callN (hc := by exact need_ac s (k : Int) 0 (by omega) s2 s3) (h := ?_)
    repeat refine w1 (k := ?_)
    rw [show decide (((needA s (k : Int) v : Nat) : Int) ≤ ((needA s (k : Int) (v + 1) : Nat) : Int)) = true from decide_eq_true (by omega)]
    repeat refine w1 (k := ?_)
    rw [show decide (((needA s (k : Int) (v + 1) : Nat) : Int) ≤ ((needA s (k : Int) v : Nat) : Int) + if ((hs (ifp s[k].p cN2) s : Nat) : Int) > ((hs (ifp s[k].p cN1) s : Nat) : Int) then ((hs (ifp s[k].p cN2) s : Nat) : Int) else ((hs (ifp s[k].p cN1) s : Nat) : Int)) = true from decide_eq_true (by split <;> omega)]
    repeat refine w1 (k := ?_)
    refine callN (hc := by exact block_ac s (k : Int) s2 s3) (h := ?_)
    repeat refine w1 (k := ?_)
    rw [show (((needA s (k : Int) 0 : Nat) : Int) == s[k].c + blkA s (k : Int)) = true by rw [beq_iff_eq]; omega]
    repeat refine w1 (k := ?_)
    rw [show decide (((needA s (k : Int) v : Nat) : Int) ≥ ((needA s (k : Int) 0 : Nat) : Int)) = true from decide_eq_true (by omega)]
    repeat refine w1 (k := ?_)
    exact ⟨[.c _], .cons (.tmp rfl) .nil, rfl⟩
theorem dgrows_top (sp : List Sp) (n w : Int) (hl : sp.length ≤ maxLen) (hw : 0 ≤ w ∧ w < 18446744073709551616) : AC Tryd.prog GL 4 [fro spP sp, vi n, vu w] [] (fun r _ => r = vb true) := by
  obtain ⟨w, rfl⟩ := Int.eq_ofNat_of_zero_le hw.1
  exact dgrows_ac sp n w hl (by omega)
