/- DemandParts. -/
import Derived.Test.YtacgfbdeobmiaaaDoorD16
set_option linter.all false
set_option maxRecDepth 2000
set_option maxHeartbeats 8000000
namespace Go.Proofs.Vl
open Go Go.RowKit
attribute [local irreducible] AWp OpTo Run DL Val UN DR AC Le thn inb nog
attribute [local irreducible] els nxO
theorem chk_all {l : List Tk} (h : (allI l).2 = 0) : ∀ t ∈ l, chkT t = 0 := by
  unfold allI at h
  by_cases h4 : l.length = 0 ∨ 1024 < l.length
  · rw [if_pos h4] at h; cases h
  · rw [if_neg h4] at h
    exact fun t ht => ((goAll_fine l [] h).1 t ht).1
/-- Of two tasks that are fine, and not alike. -/
theorem pair_is {a b : Tk} (ha : chkT a = 0) (hb : chkT b = 0) (hn : a.nm ≠ b.nm) (hp : a.p ≠ b.p) : isB [a, b] ((1 : Nat) : Int) = true := by
  have : allI [a, b] = (([a, b].length : Int), 0) := all_fine [a, b] (by simp) (by simp) fun i hi => by
    match i, hi with
    | 0, _ => exact ⟨ha, fun j hj h => absurd h (Nat.not_lt_zero j)⟩
    | 1, _ =>
      refine ⟨hb, fun j hj h => ?_⟩
      obtain rfl : j = 0 := by omega
      exact ⟨hn, hp⟩
  unfold isB
  rw [this]; simp
theorem pair_hgh {a b : Tk} (ha : Sml a) (hb : Sml b) (hi : isB [a, b] ((1 : Nat) : Int) = true) {w : Nat} (hw : w ≤ 1099511627776) : hghA [a, b] ((1 : Nat) : Int) w = ifp b.p (terW w) a := by
  rw [hgh_set (s := [a, b]) (fun t ht => by rcases List.mem_cons.1 ht with rfl | ht; exact ha; obtain rfl := List.mem_singleton.1 ht; exact hb) (by simp) (k := 1) (by simp) hi hw]
  show ifp b.p (terW w) a + (ifp b.p (terW w) b + 0) = _
  have : ifp b.p (terW w) b = 0 := by unfold ifp; simp
  omega
theorem dparts_ac (sp : List Sp) (n : Int) (w : Nat) (hl : sp.length ≤ maxLen) (hw : w < 18446744073709551616) : AC Tryd.prog GL 7 [fro spP sp, vi n, vn w] [] (fun r _ => r = vb true) := by
  refine AC.body' Tryd.func7 Tryd.ntmps7 rfl ?_
  intro cx hd hG
  refine nrmL (k := ?_)
  repeat refine w1 (k := ?_)
  obtain ⟨w0, fz0, β0, df, G0⟩ := cx
  obtain rfl : G0 = GL := hG
  refine callN (hc := by exact awake_ac) (h := ?_)
  repeat refine w1 (k := ?_)
  refine OpTo.callO (by rfl) (by rfl) (by rfl) (by rfl) (set_ac _ sp 6 n hl (by decide) (by decide)) ?_
  rintro r os' ⟨rfl, hf⟩
  refine ⟨_, .row rfl hf (tkP_ok _ _) (by decide) rfl, ?_⟩
  have s1 := set_b sp 6 n hl (by decide)
  have s2 := set_nm2 sp 6 n
  have s4 := set_sml sp 6 n hl ⟨by decide, by decide⟩
  have s5 := set_is sp 6 n hl ⟨by decide, by decide⟩
  obtain ⟨s6, s7⟩ := set_fine sp 6 n hl ⟨by decide, by decide⟩
  generalize setL sp 6 n = s at s1 s2 s4 s5 s6 s7 ⊢
  have s8 := chk_all (by rw [s6])
  have s3 : s.length ≤ maxLen := by rw [maxLen]; omega
  refine nrm (k := ?_)
  repeat refine w1 (k := ?_)
  first | refine zA 16 (h := ?_) | refine zO 16 (h := ?_) | refine zL 16 (h := ?_) | refine zL3 16 (h := ?_)
  refine nrm (k := ?_)
  repeat refine w1 (k := ?_)
  refine callN (hc := by exact rest13_ac _ _ _ (by omega) (by omega)) (h := ?_)
  repeat refine w1 (k := ?_)
  have g := emod_b n (s.length : Int) (by omega)
  generalize n % (s.length : Int) = i at *
  obtain ⟨k, rfl⟩ := Int.eq_ofNat_of_zero_le g.1
  have hk : k < s.length := by omega
  have hi := s5 k hk
  rw [and40 w hw]
  have hv : w % 1099511627776 < 1099511627776 := Nat.mod_lt _ (by decide)
  generalize w % 1099511627776 = v at *
  have e0 := hgh_set s4 (by omega) hk hi (w := v) (by omega)
  have hB := hgh_set_b s4 (by omega) s[k].p (w := v) (by omega)
  refine cutIN [(12, 1), (23, 22)] (α := Unit) (fun u => [(11, vn (hs (ifp s[k].p (terW v)) s))]) (fun u => []) (fun u => True) ?_ (fun u hI => ?_)
  ·
    refine loopN [(23, 22)] (α := Nat) (fun j => [(11, vn (hs (ifp s[k].p (terW v)) (s.take j))), (12, vi (j : Int))]) (fun j => []) (fun j => s.length - j) (fun j => j ≤ s.length) (x0 := 0) (h0 := by first | omega | simp | (refine ⟨?_, ?_⟩ <;> first | omega | simp)) (hr := ?_)
    intro j hI
    refine nrmL (k := ?_)
    repeat refine w1 (k := ?_)
    refine condN (h1 := fun h => ?_) (h0 := fun h => ?_)
    ·
      have hj : j < s.length := by omega
      have t1 := hs_take (f := ifp s[k].p (terW v)) s j hj
      have hBj := hgh_set_b (s := s.take (j + 1)) (fun t ht => s4 t (List.mem_of_mem_take ht)) (by simp; omega) s[k].p (w := v) (by omega)
      repeat refine w1 (k := ?_)
      refine condN (h1 := fun h2 => ?_) (h0 := fun h2 => ?_)
      ·
        obtain ⟨d1, d2⟩ := s7 j k hj hk (by omega)
        have hp := pair_is (s8 _ (List.getElem_mem hj)) (s8 _ (List.getElem_mem hk)) d2 d1
        have hh := pair_hgh (s4 _ (List.getElem_mem hj)) (s4 _ (List.getElem_mem hk)) hp (w := v) (by omega)
        repeat refine w1 (k := ?_)
        refine litA tkP [s[j], s[k]] (h := ?_)
        repeat refine w1 (k := ?_)
        refine callN (hc := by exact higherD_ac [s[j], s[k]] 1 v (by omega) (by intro t ht; rcases List.mem_cons.1 ht with rfl | ht; exact s2 _ (List.getElem_mem hj); obtain rfl := List.mem_singleton.1 ht; exact s2 _ (List.getElem_mem hk)) (by simp [maxLen])) (h := ?_)
        repeat refine w1 (k := ?_)
        rw [show hghA [s[j], s[k]] 1 v = ifp s[k].p (terW v) s[j] from hh]
        repeat refine w1 (k := ?_)
        rw [show ((hs (ifp s[k].p (terW v)) (s.take j) : Nat) : Int) + ((ifp s[k].p (terW v) s[j] : Nat) : Int) = ((hs (ifp s[k].p (terW v)) (s.take (j + 1)) : Nat) : Int) by omega, wrapN _ (by omega)]
        refine ⟨j + 1, by omega, by first | omega | (refine ⟨?_, ?_⟩ <;> omega), frg⟩
      ·
        obtain rfl : j = k := by omega
        have : ifp s[j].p (terW v) s[j] = 0 := by unfold ifp; simp
        repeat refine w1 (k := ?_)
        rw [show hs (ifp s[j].p (terW v)) (s.take j) = hs (ifp s[j].p (terW v)) (s.take (j + 1)) by omega]
        refine ⟨j + 1, by omega, by first | omega | (refine ⟨?_, ?_⟩ <;> omega), frg⟩
    ·
      repeat refine w1 (k := ?_)
      rw [List.take_of_length_le (show s.length ≤ j by omega)]
      refine ⟨(), by trivial, frg⟩
  ·
    refine nrmL (k := ?_)
    repeat refine w1 (k := ?_)
    refine callN (hc := by exact higherD_ac s (k : Int) v (by omega) s2 s3) (h := ?_)
    repeat refine w1 (k := ?_)
    rw [e0, beq_self_eq_true]
    repeat refine w1 (k := ?_)
    exact ⟨[.c _], .cons (.tmp rfl) .nil, rfl⟩
theorem dparts_top (sp : List Sp) (n w : Int) (hl : sp.length ≤ maxLen) (hw : 0 ≤ w ∧ w < 18446744073709551616) : AC Tryd.prog GL 7 [fro spP sp, vi n, vu w] [] (fun r _ => r = vb true) := by
  obtain ⟨w, rfl⟩ := Int.eq_ofNat_of_zero_le hw.1
  exact dparts_ac sp n w hl (by omega)
