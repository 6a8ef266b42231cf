/- StreamStops. -/
import Derived.Test.YtekkpgfklhhacaaPC
import Derived.Test.YtekkpgfklhhacaaE3
set_option linter.all false
set_option maxRecDepth 2000
set_option maxHeartbeats 8000000
namespace Go.Proofs.Vl
open Go Go.RowKit
attribute [local irreducible] AWp OpTo Run DL Val UN DR AC Le thn inb nog
theorem sstops_ac (G) (rows : List (List Int)) (many : Int) (hl : rows.length ≤ maxLen) (hr : ∀ r ∈ rows, r.length ≤ maxLen) : AC Try.prog G 5 [fro (slP (pvI .i64)) rows, vi many] [] (fun r _ => r = vb true) := by
  refine AC.bodyM Try.func5 Try.ntmps5 rfl ?_
  intro cx hd hG hrd hml hbs
  obtain ⟨w0, fz0, β0, df, G0, rd, rr, ml, bs⟩ := cx
  dsimp only at hd hG hrd hml hbs
  subst hd hG hrd hml hbs
  refine nrmL (k := ?_)
  repeat refine w1 (k := ?_)
  refine callN (hc := by exact awake09_ac _) (h := ?_)
  repeat refine w1 (k := ?_)
  have hn : (itms false rows).length ≤ 8 := by simp [itms]; omega
  have hm : ∀ l ∈ itms false rows, l.length ≤ 1000 := fun l h => by
    obtain ⟨j, hj, rfl⟩ := List.getElem_of_mem h
    obtain ⟨xs, h1, h2⟩ := itms_at (List.getElem?_eq_getElem hj)
    rw [h2, itmG_len]; omega
  refine OpTo.callAO (by rfl) (by rfl) (by rfl) (by rfl) (items_ac _ rows false hl hr) ?_
  rintro r os' ⟨rfl, hf⟩
  refine ⟨_, .row rfl hf (slP_ok _ _ _ rfl) (by decide) rfl, ?_⟩
  generalize itms false rows = R at *
  refine nrm (k := ?_)
  repeat refine w1 (k := ?_)
  first | refine zA 15 (h := ?_) | refine zO 15 (h := ?_) | refine zL 15 (h := ?_) | refine zL3 15 (h := ?_)
  refine nrm (k := ?_)
  repeat refine w1 (k := ?_)
  have hit := mergeT_it G0 lessF rfl ltT (fun a c => lessT_ac G0 a c) R (by omega) hm
  have hsum := sumL_le 1000 hm
  have hML := mrg_len (lt := ltT) _ R rfl
  change (mrgL ltT R).length = _ at hML
  generalize mrgL ltT R = M at hit hML
  refine callAN (hc := by exact mergeT_ac _ lessF R) (h := ?_)
  refine nrm (k := ?_)
  repeat refine w1 (k := ?_)
  first | refine ofN (hv := by exact Val.fnNil rfl rfl Try.underlying29) (h := ?_) | refine dlN (hv := by exact Val.fnNil rfl rfl Try.underlying29) (h := ?_) | refine dlgN (hv := by exact Val.fnNil rfl rfl Try.underlying29) (h := ?_) | refine ofN (hv := by exact Val.fnNil rfl rfl Try.underlying29) (h := ?_)
  repeat refine w1 (k := ?_)
  refine AWp.weak (Le.seedBox 8 88 2 32 34 rfl (by decide) (by decide) rfl) ?_
  refine nrmL (k := ?_)
  refine cutIN [] (α := Unit) (fun u => []) (fun u => [(4, .pcells 4 [.s (.bool false)]), (8, .cells 34 [.own 88 2 M.length]), (88, .row 32 2 (M.map itP))]) (fun u => True) ?_ (fun u hI => ?_)
  ·
    refine AWp.rangeF (α := Nat) (fun n => [(4, .pcells 4 [.s (.bool false)]), (8, .cells 34 [.own 88 2 (M.take n).length]), (88, .row 32 2 ((M.take n).map itP))]) (fun i n => n = i) 0 0 [] (by first | rfl | assumption) (by first | rfl | assumption) (by first | rfl | assumption) rfl rfl rfl rfl (hit) (by simp [yT, YV.len]) (by decide) (.inl (by simp [yT])) (.inl rfl) (fun _ => rfl) (by rfl) (by intro k o; (try dsimp only []); repeat (first | exact id | exact find_none | refine find_keep ?_ | refine find_skip rfl ?_)) ?_ ?_
    ·
      intro cx' sv i y n hG' hd' hy hI
      obtain ⟨hi, rfl⟩ := yT_get hy
      obtain rfl := hI
      refine rst0 (k := ?_)
      repeat refine w1 (k := ?_)
      simp only [show ((SV : Nat) == 9) = false from rfl, cond_false]
      refine nrm (k := ?_)
      try simp only [show ((SV : Nat) == 9) = false from rfl, cond_false]
      refine ⟨by first | rfl | trivial, by first | rfl | trivial, fun cx'' hG2 hd2 => ?_⟩
      obtain ⟨w0, fz0, β0, df, G0, rd, rr, ml, bs⟩ := cx''
      dsimp only at hG2 hd2
      subst hG2 hd2
      have hb : (M.take n).length ≤ 8000 := by simp; omega
      repeat refine w1 (k := ?_)
      try simp only [show ((SV : Nat) == 9) = false from rfl, show ((SV : Nat) == 8) = false from rfl, show ((SV : Nat) == 88) = false from rfl, show ((SV : Nat) == 24) = false from rfl, show ((SV : Nat) == 12) = false from rfl, show ((SV : Nat) == 11) = false from rfl, Bool.false_or, Bool.or_self, Bool.or_false, cond_false]
      refine litA itP [M[n]] (h := ?_)
      try simp only [show ((SV : Nat) == 9) = false from rfl, show ((SV : Nat) == 8) = false from rfl, show ((SV : Nat) == 88) = false from rfl, show ((SV : Nat) == 24) = false from rfl, show ((SV : Nat) == 12) = false from rfl, show ((SV : Nat) == 11) = false from rfl, Bool.false_or, Bool.or_self, Bool.or_false, cond_false]
      repeat refine w1 (k := ?_)
      try simp only [show ((SV : Nat) == 9) = false from rfl, show ((SV : Nat) == 8) = false from rfl, show ((SV : Nat) == 88) = false from rfl, show ((SV : Nat) == 24) = false from rfl, show ((SV : Nat) == 12) = false from rfl, show ((SV : Nat) == 11) = false from rfl, Bool.false_or, Bool.or_self, Bool.or_false, cond_false]
      refine appA 88 16 itP (M.take n) [M[n]] (hb := by simp; omega) (hm := by simp; omega) (h := ?_)
      rw [show M.take n ++ [M[n]] = M.take (n + 1) by rw [List.take_succ_eq_append_getElem hi]]
      try simp only [show ((SV : Nat) == 9) = false from rfl, show ((SV : Nat) == 8) = false from rfl, show ((SV : Nat) == 88) = false from rfl, show ((SV : Nat) == 24) = false from rfl, show ((SV : Nat) == 12) = false from rfl, show ((SV : Nat) == 11) = false from rfl, Bool.false_or, Bool.or_self, Bool.or_false, cond_false]
      repeat refine w1 (k := ?_)
      try simp only [show ((SV : Nat) == 9) = false from rfl, show ((SV : Nat) == 8) = false from rfl, show ((SV : Nat) == 88) = false from rfl, show ((SV : Nat) == 24) = false from rfl, show ((SV : Nat) == 12) = false from rfl, show ((SV : Nat) == 11) = false from rfl, Bool.false_or, Bool.or_self, Bool.or_false, cond_false]
      refine OpTo.stC (ys := [.own 88 2 (M.take (n + 1)).length]) rfl rfl rfl rfl rfl (by kernel_rfl) (Nat.le_refl _) ?_
      refine nrm (k := ?_)
      try simp only [show ((SV : Nat) == 9) = false from rfl, show ((SV : Nat) == 8) = false from rfl, show ((SV : Nat) == 88) = false from rfl, show ((SV : Nat) == 24) = false from rfl, show ((SV : Nat) == 12) = false from rfl, show ((SV : Nat) == 11) = false from rfl, Bool.false_or, Bool.or_self, Bool.or_false, cond_false]
      repeat refine w1 (k := ?_)
      try simp only [show ((SV : Nat) == 9) = false from rfl, show ((SV : Nat) == 8) = false from rfl, show ((SV : Nat) == 88) = false from rfl, show ((SV : Nat) == 24) = false from rfl, show ((SV : Nat) == 12) = false from rfl, show ((SV : Nat) == 11) = false from rfl, Bool.false_or, Bool.or_self, Bool.or_false, cond_false]
      exact ⟨n + 1, rfl, (by intro k o; (try dsimp only []); repeat (first | exact id | exact find_none | refine find_keep ?_ | refine find_skip rfl ?_)), rfl⟩
    ·
      rintro n rfl
      rw [yT_len, List.take_length]
      repeat refine w1 (k := ?_)
      refine ⟨(), by first | rfl | omega | trivial | (refine ⟨?_, ?_⟩ <;> first | rfl | omega), frg⟩
  refine nrmL (k := ?_)
  first | refine zA 88 (h := ?_) | refine zO 88 (h := ?_) | refine zL 88 (h := ?_) | refine zL3 88 (h := ?_)
  refine nrmL (k := ?_)
  try simp only [show ((SV : Nat) == 9) = false from rfl, show ((SV : Nat) == 8) = false from rfl, show ((SV : Nat) == 88) = false from rfl, show ((SV : Nat) == 24) = false from rfl, show ((SV : Nat) == 12) = false from rfl, show ((SV : Nat) == 11) = false from rfl, Bool.false_or, Bool.or_self, Bool.or_false, cond_false]
  refine AWp.weak (Le.toP 8 34 (.fro (M.map itP)) rfl) ?_
  refine nrmL (k := ?_)
  try simp only [show ((SV : Nat) == 9) = false from rfl, show ((SV : Nat) == 8) = false from rfl, show ((SV : Nat) == 88) = false from rfl, show ((SV : Nat) == 24) = false from rfl, show ((SV : Nat) == 12) = false from rfl, show ((SV : Nat) == 11) = false from rfl, Bool.false_or, Bool.or_self, Bool.or_false, cond_false]
  repeat refine w1 (k := ?_)
  have k0 := Int.emod_nonneg many (show (20 : Int) ≠ 0 by decide)
  have k1 := Int.emod_lt_of_pos many (show (0 : Int) < 20 by decide)
  refine callN (hc := by exact rest09_ac _ many 20 (by decide) (by decide)) (h := ?_)
  repeat refine w1 (k := ?_)
  obtain ⟨kn, hk⟩ := Int.eq_ofNat_of_zero_le k0
  rw [hk]
  try simp only [show ((SV : Nat) == 9) = false from rfl, show ((SV : Nat) == 8) = false from rfl, show ((SV : Nat) == 88) = false from rfl, show ((SV : Nat) == 24) = false from rfl, show ((SV : Nat) == 12) = false from rfl, show ((SV : Nat) == 11) = false from rfl, Bool.false_or, Bool.or_self, Bool.or_false, cond_false]
  refine cutIN [] (α := Nat) (fun g => []) (fun g => [(4, .pcells 4 [.s (.bool false)]), (8, .pcells 34 [.fro (M.map itP)]), (10, .pcells 3 [.s (.int .i64 (kn : Int))]), (11, .pcells 3 [.s (.int .i64 (g : Int))])]) (fun g => g = min kn M.length) ?_ (fun g hI => ?_)
  ·
    refine AWp.rangeF (α := Nat) (fun n => [(4, .pcells 4 [.s (.bool false)]), (8, .pcells 34 [.fro (M.map itP)]), (10, .pcells 3 [.s (.int .i64 (kn : Int))]), (11, .pcells 3 [.s (.int .i64 (n : Int))])]) (fun i n => n = i ∧ i ≤ kn) 0 0 [] (by first | rfl | assumption) (by first | rfl | assumption) (by first | rfl | assumption) rfl rfl rfl rfl (hit) (by simp [yT, YV.len]) (by decide) (.inl (by simp [yT])) (.inl rfl) (fun _ => rfl) (by exact ⟨rfl, by omega⟩) (by intro k o; (try dsimp only []); repeat (first | exact id | exact find_none | refine find_keep ?_ | refine find_skip rfl ?_)) ?_ ?_
    ·
      intro cx' sv i y n hG' hd' hy hI
      obtain ⟨hi, rfl⟩ := yT_get hy
      obtain ⟨rfl, hI2⟩ := hI
      refine rst0 (k := ?_)
      repeat refine w1 (k := ?_)
      simp only [show ((SV : Nat) == 12) = false from rfl, cond_false]
      refine nrm (k := ?_)
      try simp only [show ((SV : Nat) == 12) = false from rfl, cond_false]
      refine ⟨by first | rfl | trivial, by first | rfl | trivial, fun cx'' hG2 hd2 => ?_⟩
      obtain ⟨w0, fz0, β0, df, G0, rd, rr, ml, bs⟩ := cx''
      dsimp only at hG2 hd2
      subst hG2 hd2
      repeat refine w1 (k := ?_)
      refine condN (h1 := fun h => ?_) (h0 := fun h => ?_)
      ·
        repeat refine w1 (k := ?_)
        refine ⟨?_, rfl, rfl⟩
        refine rend (k := ?_)
        repeat refine w1 (k := ?_)
        try simp only [show ((SV : Nat) == 9) = false from rfl, show ((SV : Nat) == 8) = false from rfl, show ((SV : Nat) == 88) = false from rfl, show ((SV : Nat) == 24) = false from rfl, show ((SV : Nat) == 12) = false from rfl, show ((SV : Nat) == 11) = false from rfl, Bool.false_or, Bool.or_self, Bool.or_false, cond_false]
        refine ⟨n, by omega, frg⟩
      ·
        repeat refine w1 (k := ?_)
        simp only [List.length_map, show decide ((n : Int) ≥ (M.length : Int)) = false from decide_eq_false (by omega)]
        repeat refine w1 (k := ?_)
        first | refine ofN (hv := by exact Val.neG (vs := itV M[n]) (us := itV M[n]) qIt true rfl rfl rfl rfl (by kernel_rfl) (by kernel_rfl) (by kernel_rfl) (by kernel_rfl) (by kernel_rfl) (itV_refl _)) (h := ?_) | refine dlN (hv := by exact Val.neG (vs := itV M[n]) (us := itV M[n]) qIt true rfl rfl rfl rfl (by kernel_rfl) (by kernel_rfl) (by kernel_rfl) (by kernel_rfl) (by kernel_rfl) (itV_refl _)) (h := ?_) | refine dlgN (hv := by exact Val.neG (vs := itV M[n]) (us := itV M[n]) qIt true rfl rfl rfl rfl (by kernel_rfl) (by kernel_rfl) (by kernel_rfl) (by kernel_rfl) (by kernel_rfl) (itV_refl _)) (h := ?_) | refine ofN (hv := by exact Val.neG (vs := itV M[n]) (us := itV M[n]) qIt true rfl rfl rfl rfl (by kernel_rfl) (by kernel_rfl) (by kernel_rfl) (by kernel_rfl) (by kernel_rfl) (itV_refl _)) (h := ?_)
        repeat refine w1 (k := ?_)
        exact ⟨n + 1, ⟨rfl, by omega⟩, (by intro k o; (try dsimp only []); repeat (first | exact id | exact find_none | refine find_keep ?_ | refine find_skip rfl ?_)), rfl⟩
    ·
      rintro n ⟨rfl, hk2⟩
      rw [yT_len] at hk2 ⊢
      repeat refine w1 (k := ?_)
      refine ⟨M.length, by omega, frg⟩
  refine nrmL (k := ?_)
  repeat refine w1 (k := ?_)
  simp only [List.length_map]
  rw [show ((g : Int) == if (M.length : Int) < (kn : Int) then (M.length : Int) else (kn : Int)) = true by subst hI; rw [beq_iff_eq]; split <;> omega]
  exact ⟨rfl, [.c _], .cons (.ld1 rfl rfl rfl rfl) .nil, rfl⟩
