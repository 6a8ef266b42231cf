/- Orders of jobs. -/
import Derived.Test.YtekkpgfklhhacaaR2
set_option linter.all false
set_option maxRecDepth 2000
set_option maxHeartbeats 8000000
namespace Go.Proofs.Vl
open Go Go.RowKit
attribute [local irreducible] AWp OpTo Run DL Val UN DR AC Le thn inb nog
theorem orders_ac (G) (m : List Jb) (t : Int) (hm : m.length ≤ 16) : AC Try.prog G 18 [fro jbP m, vi t] [] (fun r _ => r = vb true) := by
  refine AC.bodyM Try.func18 Try.ntmps18 rfl ?_
  intro cx hd hG hrd hml hbs
  obtain ⟨w0, fz0, β0, df, G0, rd, rr, ml, bs⟩ := cx
  dsimp only at hd hG hrd hml hbs
  subst hd hG hrd hml hbs
  refine nrmL (k := ?_)
  repeat refine w1 (k := ?_)
  have hol := ordL_len m
  refine callRowN (hc := by exact order_ac _ m (by omega) ) (hso := by exact  pvI_ok _) (h := ?_)
  refine nrm (k := ?_)
  repeat refine w1 (k := ?_)
  refine callRowN (hc := by exact orderR_ac _ m hm ) (hso := by exact  pvI_ok _) (h := ?_)
  refine nrm (k := ?_)
  repeat refine w1 (k := ?_)
  first | refine zA 19 (h := ?_) | refine zO 19 (h := ?_) | refine zL 19 (h := ?_) | refine zL3 19 (h := ?_)
  refine nrm (k := ?_)
  try simp only [beq_self_eq_true, Bool.true_and, cond_true]
  first | refine zA 21 (h := ?_) | refine zO 21 (h := ?_) | refine zL 21 (h := ?_) | refine zL3 21 (h := ?_)
  refine nrm (k := ?_)
  try simp only [beq_self_eq_true, Bool.true_and, cond_true]
  refine callN (hc := by exact same09_ac _ (ordL m) (by omega)) (h := ?_)
  repeat refine w1 (k := ?_)
  refine callAN (hc := by exact each_ac _ m) (h := ?_)
  refine nrm (k := ?_)
  repeat refine w1 (k := ?_)
  first | refine ofN (hv := by exact Val.fnNil rfl rfl Try.underlying54) (h := ?_) | refine dlN (hv := by exact Val.fnNil rfl rfl Try.underlying54) (h := ?_) | refine dlgN (hv := by exact Val.fnNil rfl rfl Try.underlying54) (h := ?_) | refine ofN (hv := by exact Val.fnNil rfl rfl Try.underlying54) (h := ?_)
  repeat refine w1 (k := ?_)
  have hpw := eachL_pw m
  have hit := each_it G0 m hm
  have hea := each_at m
  have hsum := each_sum m
  generalize hR : eachL m = R at hpw hit hea hsum
  refine cutIN [] (α := Unit) (fun u => []) (fun u => [(2, .pcells 38 [.fro (m.map jbP)]), (4, .pcells 4 [.s (.bool false)]), (7, .pcells 3 [.s (.int .i64 (m.length : Int))])]) (fun u => True) ?_ (fun u hI => ?_)
  ·
    refine AWp.rangeF (α := Nat × Int) (fun y => [(2, .pcells 38 [.fro (m.map jbP)]), (4, .pcells 4 [.s (.bool false)]), (7, .pcells 3 [.s (.int .i64 (y.1 : Int))]), (8, .pcells 2 [.s (.int .i64 y.2)])]) (fun i y => y.1 = ((R.take i).map fun g => g.2.length).sum ∧ ((i = 0 ∧ y.1 = 0) ∨ ∃ (j : Nat) (h : j < R.length), i = j + 1 ∧ y.2 = R[j].1)) (0, -9223372036854775808) 90 [] (by first | rfl | assumption) (by first | rfl | assumption) (by first | rfl | assumption) rfl rfl rfl rfl hit (fun y hy => by obtain ⟨g, _, rfl⟩ := List.mem_map.1 hy; rfl) (by decide) (.inr (fun _ => rfl)) (.inl rfl) (fun _ => rfl) ⟨rfl, .inl ⟨rfl, rfl⟩⟩ (by intro k o; (try dsimp only []); repeat (first | exact id | exact find_none | refine find_keep ?_ | refine find_skip rfl ?_)) ?_ ?_
    ·
      intro cx' sv i y x hG' hd' hy hI
      obtain ⟨hi, rfl⟩ := yE_get hy
      obtain ⟨many, last⟩ := x
      obtain ⟨hI1, hI2⟩ := hI
      dsimp only at hI1 hI2
      obtain ⟨ha1, ha2⟩ := hea _ (List.getElem_mem hi)
      have hst : ((R.take (i + 1)).map fun g => g.2.length).sum = many + R[i].2.length := by
        rw [List.take_succ_eq_append_getElem hi, List.map_append, List.sum_append, hI1]; simp
      have hle : ((R.take (i + 1)).map fun g => g.2.length).sum ≤ 16 := by
        have e : ((R.map fun g => g.2.length).sum) = ((R.take (i + 1)).map fun g => g.2.length).sum + ((R.drop (i + 1)).map fun g => g.2.length).sum := by
          rw [← List.sum_append, ← List.map_append, List.take_append_drop]
        omega
      have hne : 0 < R[i].2.length := List.length_pos_iff.2 ha2
      have hlast : many = 0 ∨ last < R[i].1 := by
        rcases hI2 with ⟨_, h0⟩ | ⟨j, hj, rfl, rfl⟩
        · exact .inl h0
        · exact .inr (List.pairwise_iff_getElem.1 hpw j (j + 1) hj hi (by omega))
      refine rst0 (k := ?_)
      repeat refine w1 (k := ?_)
      refine ⟨by first | rfl | trivial, by first | rfl | trivial, fun cx'' hG2 hd2 => ?_⟩
      obtain ⟨w0, fz0, β0, df, G0, rd, rr, ml, bs⟩ := cx''
      dsimp only at hG2 hd2
      subst hG2 hd2
      have hat := at_ac G0 m R[i].1 (by omega)
      rw [← ha1] at hat
      generalize hg : R[i] = g at *
      obtain ⟨r, p⟩ := g
      dsimp only at hat hne hst hlast ⊢
      have hp16 : p.length ≤ 16 := by omega
      repeat refine w1 (k := ?_)
      first | refine zA 90 (h := ?_) | refine zO 90 (h := ?_) | refine zL 90 (h := ?_) | refine zL3 90 (h := ?_)
      refine nrm (k := ?_)
      try simp only [beq_self_eq_true, Bool.true_and, cond_true]
      refine callRowN (hc := by exact hat ) (hso := by exact  pvI_ok _) (h := ?_)
      refine nrm (k := ?_)
      try simp only [show ((SV : Nat) == 37) = false from rfl, show ((SV : Nat) == 90) = false from rfl, show ((SV : Nat) == 14) = false from rfl, show ((90 : Nat) == 37) = false from rfl, show ((90 : Nat) == 14) = false from rfl, Bool.false_or, Bool.or_self, Bool.or_false, cond_false]
      repeat refine w1 (k := ?_)
      try simp only [show ((SV : Nat) == 37) = false from rfl, show ((SV : Nat) == 90) = false from rfl, show ((SV : Nat) == 14) = false from rfl, show ((90 : Nat) == 37) = false from rfl, show ((90 : Nat) == 14) = false from rfl, Bool.false_or, Bool.or_self, Bool.or_false, cond_false]
      first | refine zA 37 (h := ?_) | refine zO 37 (h := ?_) | refine zL 37 (h := ?_) | refine zL3 37 (h := ?_)
      refine nrm (k := ?_)
      try simp only [beq_self_eq_true, Bool.true_and, cond_true]
      try simp only [show ((SV : Nat) == 37) = false from rfl, show ((SV : Nat) == 90) = false from rfl, show ((SV : Nat) == 14) = false from rfl, show ((90 : Nat) == 37) = false from rfl, show ((90 : Nat) == 14) = false from rfl, Bool.false_or, Bool.or_self, Bool.or_false, cond_false]
      refine callN (hc := by exact same09_ac _ p (by omega)) (h := ?_)
      repeat refine w1 (k := ?_)
      simp only [List.length_map, show ((p.length : Int) == 0) = false from by rw [beq_eq_false_iff_ne]; omega]
      repeat refine w1 (k := ?_)
      try simp only [show ((SV : Nat) == 37) = false from rfl, show ((SV : Nat) == 90) = false from rfl, show ((SV : Nat) == 14) = false from rfl, show ((90 : Nat) == 37) = false from rfl, show ((90 : Nat) == 14) = false from rfl, Bool.false_or, Bool.or_self, Bool.or_false, cond_false]
      rcases Nat.eq_zero_or_pos many with h0 | h0
      ·
        rw [show decide ((many : Int) > 0) = false from decide_eq_false (by omega)]
        repeat refine w1 (k := ?_)
        simp only [List.length_map]
        repeat refine w1 (k := ?_)
        refine callN (hc := by exact next_ac _ m r hm) (h := ?_)
        repeat refine w1 (k := ?_)
        refine callN (hc := by exact nextR_ac _ m r (by omega)) (h := ?_)
        repeat refine w1 (k := ?_)
        generalize nxtE m r = o
        repeat refine w1 (k := ?_)
        try simp only [show ((SV : Nat) == 37) = false from rfl, show ((SV : Nat) == 90) = false from rfl, show ((SV : Nat) == 14) = false from rfl, show ((90 : Nat) == 37) = false from rfl, show ((90 : Nat) == 14) = false from rfl, Bool.false_or, Bool.or_self, Bool.or_false, cond_false]
        repeat refine w1 (k := ?_)
        simp only [bne_self_eq_false]
        repeat refine w1 (k := ?_)
        first | refine ofN (hv := by exact Val.boolB (u := o.isSome) (v := o.isSome) (z := false) Try.underlying4 (by simp [boolOp]) rfl rfl rfl rfl) (h := ?_) | refine dlN (hv := by exact Val.boolB (u := o.isSome) (v := o.isSome) (z := false) Try.underlying4 (by simp [boolOp]) rfl rfl rfl rfl) (h := ?_) | refine dlgN (hv := by exact Val.boolB (u := o.isSome) (v := o.isSome) (z := false) Try.underlying4 (by simp [boolOp]) rfl rfl rfl rfl) (h := ?_) | refine ofN (hv := by exact Val.boolB (u := o.isSome) (v := o.isSome) (z := false) Try.underlying4 (by simp [boolOp]) rfl rfl rfl rfl) (h := ?_)
        repeat refine w1 (k := ?_)
        rw [show IntKind.i64.wrap ((many : Int) + (p.length : Int)) = ((many + p.length : Nat) : Int) by rw [wrap_id (by omega) (by omega)]; omega]
        exact ⟨(many + p.length, r), ⟨hst.symm, .inr ⟨i, hi, rfl, by rw [hg]⟩⟩, (by intro k o; (try dsimp only []); repeat (first | exact id | exact find_none | refine find_keep ?_ | refine find_skip rfl ?_)), rfl⟩
      ·
        rw [show decide ((many : Int) > 0) = true from decide_eq_true (by omega)]
        repeat refine w1 (k := ?_)
        simp only [show decide (r ≤ last) = false from decide_eq_false (by omega)]
        repeat refine w1 (k := ?_)
        simp only [List.length_map]
        repeat refine w1 (k := ?_)
        refine callN (hc := by exact next_ac _ m r hm) (h := ?_)
        repeat refine w1 (k := ?_)
        refine callN (hc := by exact nextR_ac _ m r (by omega)) (h := ?_)
        repeat refine w1 (k := ?_)
        generalize nxtE m r = o
        repeat refine w1 (k := ?_)
        try simp only [show ((SV : Nat) == 37) = false from rfl, show ((SV : Nat) == 90) = false from rfl, show ((SV : Nat) == 14) = false from rfl, show ((90 : Nat) == 37) = false from rfl, show ((90 : Nat) == 14) = false from rfl, Bool.false_or, Bool.or_self, Bool.or_false, cond_false]
        repeat refine w1 (k := ?_)
        simp only [bne_self_eq_false]
        repeat refine w1 (k := ?_)
        first | refine ofN (hv := by exact Val.boolB (u := o.isSome) (v := o.isSome) (z := false) Try.underlying4 (by simp [boolOp]) rfl rfl rfl rfl) (h := ?_) | refine dlN (hv := by exact Val.boolB (u := o.isSome) (v := o.isSome) (z := false) Try.underlying4 (by simp [boolOp]) rfl rfl rfl rfl) (h := ?_) | refine dlgN (hv := by exact Val.boolB (u := o.isSome) (v := o.isSome) (z := false) Try.underlying4 (by simp [boolOp]) rfl rfl rfl rfl) (h := ?_) | refine ofN (hv := by exact Val.boolB (u := o.isSome) (v := o.isSome) (z := false) Try.underlying4 (by simp [boolOp]) rfl rfl rfl rfl) (h := ?_)
        repeat refine w1 (k := ?_)
        rw [show IntKind.i64.wrap ((many : Int) + (p.length : Int)) = ((many + p.length : Nat) : Int) by rw [wrap_id (by omega) (by omega)]; omega]
        exact ⟨(many + p.length, r), ⟨hst.symm, .inr ⟨i, hi, rfl, by rw [hg]⟩⟩, (by intro k o; (try dsimp only []); repeat (first | exact id | exact find_none | refine find_keep ?_ | refine find_skip rfl ?_)), rfl⟩
    ·
      rintro ⟨many, last⟩ ⟨hI1, _⟩
      dsimp only at hI1
      rw [yE_len, List.take_length, hsum] at hI1
      subst hI1
      repeat refine w1 (k := ?_)
      refine ⟨(), by first | rfl | omega | trivial | (refine ⟨?_, ?_⟩ <;> first | rfl | omega), frg⟩
  refine nrmL (k := ?_)
  repeat refine w1 (k := ?_)
  refine callN (hc := by exact next_ac _ m t hm) (h := ?_)
  repeat refine w1 (k := ?_)
  refine callN (hc := by exact nextR_ac _ m t (by omega)) (h := ?_)
  repeat refine w1 (k := ?_)
  generalize nxtE m t = o
  repeat refine w1 (k := ?_)
  simp only [List.length_map, beq_self_eq_true]
  repeat refine w1 (k := ?_)
  simp only [beq_self_eq_true]
  repeat refine w1 (k := ?_)
  first | refine ofN (hv := by exact Val.boolB (u := o.isSome) (v := o.isSome) (z := true) Try.underlying4 (by simp [boolOp]) rfl rfl rfl rfl) (h := ?_) | refine dlN (hv := by exact Val.boolB (u := o.isSome) (v := o.isSome) (z := true) Try.underlying4 (by simp [boolOp]) rfl rfl rfl rfl) (h := ?_) | refine dlgN (hv := by exact Val.boolB (u := o.isSome) (v := o.isSome) (z := true) Try.underlying4 (by simp [boolOp]) rfl rfl rfl rfl) (h := ?_) | refine ofN (hv := by exact Val.boolB (u := o.isSome) (v := o.isSome) (z := true) Try.underlying4 (by simp [boolOp]) rfl rfl rfl rfl) (h := ?_)
  repeat refine w1 (k := ?_)
  exact ⟨rfl, [.c _], .cons (.ld1 rfl rfl rfl rfl) .nil, rfl⟩
