/- Chapter 18: OrderAll. -/
import Derived.Test.YtkgajiddcljdjaaO15
set_option linter.all false
set_option maxRecDepth 2000
set_option maxHeartbeats 8000000
namespace Go.Proofs.Vl
open Go Go.RowKit
attribute [local irreducible] AWp OpTo Run DL Val UN DR AC Le thn inb nog
theorem frz_ownL {st : St} {k sz n : Nat} {T : TypeId} {xs : List (List PV)} (h : find st.objs k = some (.row T sz xs)) (hn : n = xs.length) : frz st (.c (.own k sz n)) = .c (.p (.fro xs)) := by
  subst hn
  simp [frz, elems, h]
theorem sl_at {α : Type} (f : α → List PV) (left : List (List α)) (b : Nat) (h : b < left.length) : (slP f left[b])[0]? = some (.fro (left[b].map f)) := rfl
theorem fnd_ok : ∀ k, k < 7 → (match fnd k with | none => decide (k = 0) | some p => decide (0 < k) && decide (p.length = k) && decide (p[0]? = some ((k : Int) - 1))) = true := by decide +kernel
theorem oall_top (G) (a b : Int) : AC Try.prog G 6 [vi a, vi b] [] (fun r _ => r = vb true) := by
  refine AC.bodyM Try.func6 Try.ntmps6 rfl ?_
  intro cx hd hG hrd hml hbs
  obtain ⟨w0, fz0, β0, df, G0, rd, rr, ml, bs⟩ := cx
  dsimp only at hd hG hrd hml hbs
  subst hd hG hrd hml hbs
  have k0 := Int.emod_nonneg a (show (7 : Int) ≠ 0 by decide)
  have k1 := Int.emod_lt_of_pos a (show (0 : Int) < 7 by decide)
  have m0 := Int.emod_nonneg b (show (30 : Int) ≠ 0 by decide)
  have m1 := Int.emod_lt_of_pos b (show (0 : Int) < 30 by decide)
  refine nrmL (k := ?_)
  repeat refine w1 (k := ?_)
  refine callN (hc := by exact awake18_ac _) (h := ?_)
  repeat refine w1 (k := ?_)
  refine callN (hc := by exact rest18_ac _ a 7 (by decide) (by decide)) (h := ?_)
  repeat refine w1 (k := ?_)
  obtain ⟨n, hk⟩ := Int.eq_ofNat_of_zero_le k0
  obtain ⟨t, ht⟩ := Int.eq_ofNat_of_zero_le m0
  rw [hk]
  have hn : n ≤ 6 := by omega
  have ht2 : t < 30 := by omega
  refine OpTo.callAO (by rfl) (by rfl) (by rfl) (by rfl) (refAll_ac _ n hn) ?_
  rintro r os' ⟨rfl, hf⟩
  refine ⟨_, .row rfl hf (slP_ok _ _ _ rfl) (by decide) rfl, ?_⟩
  refine nrm (k := ?_)
  repeat refine w1 (k := ?_)
  first | refine zA 23 (h := ?_) | refine zO 23 (h := ?_) | refine zL 23 (h := ?_) | refine zL3 23 (h := ?_)
  refine nrm (k := ?_)
  repeat refine w1 (k := ?_)
  refine callAN (hc := by exact oall_ac _ (n : Int)) (h := ?_)
  refine nrm (k := ?_)
  repeat refine w1 (k := ?_)
  refine callAN (hc := by exact oall_ac _ (-1 - (n : Int))) (h := ?_)
  refine nrm (k := ?_)
  repeat refine w1 (k := ?_)
  first | refine ofN (hv := by exact Val.fnNil rfl rfl Try.underlying41) (h := ?_) | refine dlN (hv := by exact Val.fnNil rfl rfl Try.underlying41) (h := ?_) | refine dlgN (hv := by exact Val.fnNil rfl rfl Try.underlying41) (h := ?_) | refine ofN (hv := by exact Val.fnNil rfl rfl Try.underlying41) (h := ?_)
  repeat refine w1 (k := ?_)
  first | refine ofN (hv := by exact Val.fnNil rfl rfl Try.underlying41) (h := ?_) | refine dlN (hv := by exact Val.fnNil rfl rfl Try.underlying41) (h := ?_) | refine dlgN (hv := by exact Val.fnNil rfl rfl Try.underlying41) (h := ?_) | refine ofN (hv := by exact Val.fnNil rfl rfl Try.underlying41) (h := ?_)
  repeat refine w1 (k := ?_)
  have hit := oall_it G0 n (by omega)
  rw [frL_eq n (by omega)] at hit
  have hrl := (allR_b n (by omega)).1
  have hat := @allR_at n
  have hfnd := fnd_ok n (by omega)
  have hfc := find_ac G0 n hn
  unfold fndP at hfc
  generalize fnd n = o at *
  generalize allR n = R at *
  refine cutIN [] (α := Unit) (fun u => []) (fun u => [(4, .pcells 4 [.s (.bool false)]), (7, .pcells 38 [.fro (R.map (slP (pvI .i64)))]), (10, .pcells 3 [.s (.int .i64 (R.length : Int))])]) (fun u => True) ?_ (fun u hI => ?_)
  ·
    refine AWp.rangeF (α := Nat) (fun m => [(4, .pcells 4 [.s (.bool false)]), (7, .pcells 38 [.fro (R.map (slP (pvI .i64)))]), (10, .pcells 3 [.s (.int .i64 (m : Int))])]) (fun i m => m = i) 0 90 [] (by first | rfl | assumption) (by first | rfl | assumption) (by first | rfl | assumption) rfl rfl rfl rfl hit (fun y hy => by obtain ⟨g, _, rfl⟩ := List.mem_map.1 hy; rfl) (by decide) (.inr (fun _ => rfl)) (.inl rfl) (fun _ => rfl) rfl (by intro k o; (try dsimp only []); repeat (first | exact id | exact find_none | refine find_keep ?_ | refine find_skip rfl ?_)) ?_ ?_
    ·
      intro cx' sv i y m hG' hd' hy hI
      obtain ⟨hi, rfl⟩ := yP_get hy
      obtain rfl := hI
      obtain ⟨l1, l2, l3⟩ := hat hn hi
      refine rst0 (k := ?_)
      repeat refine w1 (k := ?_)
      try simp only [upd, show ((SV : Nat) == 90) = false from rfl, show ((SV : Nat) == 4) = false from rfl, show ((SV : Nat) == 7) = false from rfl, show ((SV : Nat) == 10) = false from rfl, show ((SV : Nat) == 17) = false from rfl, show ((SV : Nat) == 18) = false from rfl, Bool.false_or, Bool.or_self, Bool.or_false, Nat.reduceBEq, cond_false, cond_true]
      refine nrm (k := ?_)
      repeat refine w1 (k := ?_)
      refine ⟨by first | rfl | trivial, by first | rfl | trivial, fun cx'' hG2 hd2 => ?_⟩
      obtain ⟨w0, fz0, β0, df, G0, rd, rr, ml, bs⟩ := cx''
      dsimp only at hG2 hd2
      subst hG2 hd2
      repeat refine w1 (k := ?_)
      try simp only [upd, show ((SV : Nat) == 90) = false from rfl, show ((SV : Nat) == 4) = false from rfl, show ((SV : Nat) == 7) = false from rfl, show ((SV : Nat) == 10) = false from rfl, show ((SV : Nat) == 17) = false from rfl, show ((SV : Nat) == 18) = false from rfl, Bool.false_or, Bool.or_self, Bool.or_false, Nat.reduceBEq, cond_false, cond_true]
      refine nrm (k := ?_)
      refine callN (ha := congrArg (fun z => [z]) (frz_ownL (k := 90) (xs := R[m].map (pvI .i64)) rfl rfl)) (hc := by exact rank_ac _ R[m] (by omega) l2) (h := ?_)
      repeat refine w1 (k := ?_)
      rw [l3]
      try simp only [upd, show ((SV : Nat) == 90) = false from rfl, show ((SV : Nat) == 4) = false from rfl, show ((SV : Nat) == 7) = false from rfl, show ((SV : Nat) == 10) = false from rfl, show ((SV : Nat) == 17) = false from rfl, show ((SV : Nat) == 18) = false from rfl, Bool.false_or, Bool.or_self, Bool.or_false, Nat.reduceBEq, cond_false, cond_true]
      refine nrm (k := ?_)
      repeat refine w1 (k := ?_)
      simp only [Bool.not_true, cond_false, bne_self_eq_false]
      repeat refine w1 (k := ?_)
      refine callN (ha := congrArg (fun z => [z, fro (pvI .i64) R[m]]) (frz_ownL (k := 90) (xs := R[m].map (pvI .i64)) rfl rfl)) (hc := by exact same18_ac _ R[m] (by omega)) (h := ?_)
      repeat refine w1 (k := ?_)
      simp only [List.length_map]
      rcases Nat.eq_zero_or_pos n with h0 | h0
      ·
        rw [show decide ((R[m].length : Int) > 0) = false from decide_eq_false (by omega)]
        repeat refine w1 (k := ?_)
        exact ⟨m + 1, rfl, (by intro k o; (try dsimp only []); repeat (first | exact id | exact find_none | refine find_keep ?_ | refine find_skip rfl ?_)), rfl⟩
      ·
        rw [show decide ((R[m].length : Int) > 0) = true from decide_eq_true (by omega)]
        repeat refine w1 (k := ?_)
        refine OpTo.stRN (sz := 1) (j := 0) (c := 0) (f := pvI .i64) (l := R[m]) (9 : Int) rfl rfl rfl (by omega) rfl rfl (by kernel_rfl) (Nat.le_refl _) rfl ?_
        refine nrm (k := ?_)
        repeat refine w1 (k := ?_)
        exact ⟨m + 1, rfl, (by intro k o; (try dsimp only []); repeat (first | exact id | exact find_none | refine find_keep ?_ | refine find_skip rfl ?_)), rfl⟩
    ·
      rintro m rfl
      rw [yP_len]
      repeat refine w1 (k := ?_)
      refine ⟨(), by first | rfl | omega | trivial | (refine ⟨?_, ?_⟩ <;> first | rfl | omega), frg⟩
  refine nrmL (k := ?_)
  repeat refine w1 (k := ?_)
  cases o with
  | none =>
    have h0 : n = 0 := of_decide_eq_true hfnd
    refine callAN (hc := by exact hfc) (h := ?_)
    refine nrm (k := ?_)
    repeat refine w1 (k := ?_)
    rw [show decide ((n : Int) > 0) = false from decide_eq_false (by omega)]
    dsimp only [Option.isSome]
    first | refine ofN (hv := by exact Val.boolB Try.underlying4 rfl rfl rfl rfl rfl) (h := ?_) | refine dlN (hv := by exact Val.boolB Try.underlying4 rfl rfl rfl rfl rfl) (h := ?_) | refine dlgN (hv := by exact Val.boolB Try.underlying4 rfl rfl rfl rfl rfl) (h := ?_) | refine ofN (hv := by exact Val.boolB Try.underlying4 rfl rfl rfl rfl rfl) (h := ?_)
    repeat refine w1 (k := ?_)
    refine callN (hc := by exact rest18_ac _ b 30 (by decide) (by decide)) (h := ?_)
    repeat refine w1 (k := ?_)
    rw [ht]
    refine cutIN [] (α := Nat) (fun g => []) (fun g => [(4, .pcells 4 [.s (.bool false)]), (7, .pcells 38 [.fro (R.map (slP (pvI .i64)))]), (10, .pcells 3 [.s (.int .i64 (R.length : Int))]), (17, .pcells 3 [.s (.int .i64 (t : Int))]), (18, .pcells 3 [.s (.int .i64 (g : Int))])]) (fun g => g = min t R.length) ?_ (fun g hI => ?_)
    ·
      refine AWp.rangeF (α := Nat) (fun m => [(4, .pcells 4 [.s (.bool false)]), (7, .pcells 38 [.fro (R.map (slP (pvI .i64)))]), (10, .pcells 3 [.s (.int .i64 (R.length : Int))]), (17, .pcells 3 [.s (.int .i64 (t : Int))]), (18, .pcells 3 [.s (.int .i64 (m : Int))])]) (fun i m => m = i ∧ i ≤ t) 0 90 [] (by first | rfl | assumption) (by first | rfl | assumption) (by first | rfl | assumption) rfl rfl rfl rfl hit (fun y hy => by obtain ⟨g, _, rfl⟩ := List.mem_map.1 hy; rfl) (by decide) (.inr (fun _ => rfl)) (.inl rfl) (fun _ => rfl) ⟨rfl, by omega⟩ (by intro k o; (try dsimp only []); repeat (first | exact id | exact find_none | refine find_keep ?_ | refine find_skip rfl ?_)) ?_ ?_
      ·
        intro cx' sv i y m hG' hd' hy hI
        obtain ⟨hi, rfl⟩ := yP_get hy
        obtain ⟨rfl, hI2⟩ := hI
        refine rst0 (k := ?_)
        repeat refine w1 (k := ?_)
        try simp only [upd, show ((SV : Nat) == 90) = false from rfl, show ((SV : Nat) == 4) = false from rfl, show ((SV : Nat) == 7) = false from rfl, show ((SV : Nat) == 10) = false from rfl, show ((SV : Nat) == 17) = false from rfl, show ((SV : Nat) == 18) = false from rfl, Bool.false_or, Bool.or_self, Bool.or_false, Nat.reduceBEq, cond_false, cond_true]
        refine nrm (k := ?_)
        repeat refine w1 (k := ?_)
        refine ⟨by first | rfl | trivial, by first | rfl | trivial, fun cx'' hG2 hd2 => ?_⟩
        obtain ⟨w0, fz0, β0, df, G0, rd, rr, ml, bs⟩ := cx''
        dsimp only at hG2 hd2
        subst hG2 hd2
        repeat refine w1 (k := ?_)
        refine condN (h1 := fun h => ?_) (h0 := fun h => ?_)
        ·
          repeat refine w1 (k := ?_)
          refine ⟨?_, rfl, rfl⟩
          refine rend (k := ?_)
          repeat refine w1 (k := ?_)
          try simp only [upd, show ((SV : Nat) == 90) = false from rfl, show ((SV : Nat) == 4) = false from rfl, show ((SV : Nat) == 7) = false from rfl, show ((SV : Nat) == 10) = false from rfl, show ((SV : Nat) == 17) = false from rfl, show ((SV : Nat) == 18) = false from rfl, Bool.false_or, Bool.or_self, Bool.or_false, Nat.reduceBEq, cond_false, cond_true]
          refine nrm (k := ?_)
          refine ⟨m, by omega, frg⟩
        ·
          repeat refine w1 (k := ?_)
          exact ⟨m + 1, ⟨rfl, by omega⟩, (by intro k o; (try dsimp only []); repeat (first | exact id | exact find_none | refine find_keep ?_ | refine find_skip rfl ?_)), rfl⟩
      ·
        rintro m ⟨rfl, hk2⟩
        rw [yP_len] at hk2 ⊢
        repeat refine w1 (k := ?_)
        refine ⟨R.length, by omega, frg⟩
    refine nrmL (k := ?_)
    have hgm := hI
    repeat refine w1 (k := ?_)
    refine cutIN [] (α := Unit) (fun u => []) (fun u => [(4, .pcells 4 [.s (.bool false)]), (7, .pcells 38 [.fro (R.map (slP (pvI .i64)))]), (10, .pcells 3 [.s (.int .i64 (R.length : Int))]), (17, .pcells 3 [.s (.int .i64 (t : Int))]), (18, .pcells 3 [.s (.int .i64 (g : Int))])]) (fun u => True) ?_ (fun u hI => ?_)
    ·
      refine AWp.rangeF (α := Unit) (fun u => [(4, .pcells 4 [.s (.bool false)]), (7, .pcells 38 [.fro (R.map (slP (pvI .i64)))]), (10, .pcells 3 [.s (.int .i64 (R.length : Int))]), (17, .pcells 3 [.s (.int .i64 (t : Int))]), (18, .pcells 3 [.s (.int .i64 (g : Int))])]) (fun i u => True) () 90 [] (by first | rfl | assumption) (by first | rfl | assumption) (by first | rfl | assumption) rfl rfl rfl rfl (oall_no _ (-1 - (n : Int)) (by omega)) (fun y hy => by obtain ⟨g, _, rfl⟩ := List.mem_map.1 hy; rfl) (by decide) (.inr (fun _ => rfl)) (.inl rfl) (fun _ => rfl) trivial (by intro k o; (try dsimp only []); repeat (first | exact id | exact find_none | refine find_keep ?_ | refine find_skip rfl ?_)) ?_ ?_
      ·
        intro cx' sv i y m hG' hd' hy hI
        cases hy
      ·
        rintro m _
        repeat refine w1 (k := ?_)
        refine ⟨(), by first | rfl | omega | trivial | (refine ⟨?_, ?_⟩ <;> first | rfl | omega), frg⟩
    refine nrmL (k := ?_)
    repeat refine w1 (k := ?_)
    simp only [List.length_map, beq_self_eq_true]
    repeat refine w1 (k := ?_)
    rw [show ((g : Int) == if (R.length : Int) < (t : Int) then (R.length : Int) else (t : Int)) = true by subst hgm; rw [beq_iff_eq]; split <;> omega]
    exact ⟨rfl, [.c _], .cons (.ld1 rfl rfl rfl rfl) .nil, rfl⟩
  | some p =>
    have hp : 0 < n ∧ p.length = n ∧ p[0]? = some ((n : Int) - 1) := by
      dsimp only at hfnd
      simp only [Bool.and_eq_true, decide_eq_true_eq] at hfnd
      exact ⟨hfnd.1.1, hfnd.1.2, hfnd.2⟩
    refine callAN (hc := by exact hfc) (h := ?_)
    refine nrm (k := ?_)
    repeat refine w1 (k := ?_)
    rw [show decide ((n : Int) > 0) = true from decide_eq_true (by omega)]
    dsimp only [Option.isSome]
    first | refine ofN (hv := by exact Val.boolB Try.underlying4 rfl rfl rfl rfl rfl) (h := ?_) | refine dlN (hv := by exact Val.boolB Try.underlying4 rfl rfl rfl rfl rfl) (h := ?_) | refine dlgN (hv := by exact Val.boolB Try.underlying4 rfl rfl rfl rfl rfl) (h := ?_) | refine ofN (hv := by exact Val.boolB Try.underlying4 rfl rfl rfl rfl rfl) (h := ?_)
    repeat refine w1 (k := ?_)
    have e0 : p[0]'(by omega) = (n : Int) - 1 := by
      have := hp.2.2
      rw [List.getElem?_eq_getElem (by omega)] at this
      exact Option.some.inj this
    simp only [e0, bne_self_eq_false]
    repeat refine w1 (k := ?_)
    refine callN (hc := by exact rest18_ac _ b 30 (by decide) (by decide)) (h := ?_)
    repeat refine w1 (k := ?_)
    rw [ht]
    refine cutIN [] (α := Nat) (fun g => []) (fun g => [(4, .pcells 4 [.s (.bool false)]), (7, .pcells 38 [.fro (R.map (slP (pvI .i64)))]), (10, .pcells 3 [.s (.int .i64 (R.length : Int))]), (17, .pcells 3 [.s (.int .i64 (t : Int))]), (18, .pcells 3 [.s (.int .i64 (g : Int))])]) (fun g => g = min t R.length) ?_ (fun g hI => ?_)
    ·
      refine AWp.rangeF (α := Nat) (fun m => [(4, .pcells 4 [.s (.bool false)]), (7, .pcells 38 [.fro (R.map (slP (pvI .i64)))]), (10, .pcells 3 [.s (.int .i64 (R.length : Int))]), (17, .pcells 3 [.s (.int .i64 (t : Int))]), (18, .pcells 3 [.s (.int .i64 (m : Int))])]) (fun i m => m = i ∧ i ≤ t) 0 90 [] (by first | rfl | assumption) (by first | rfl | assumption) (by first | rfl | assumption) rfl rfl rfl rfl hit (fun y hy => by obtain ⟨g, _, rfl⟩ := List.mem_map.1 hy; rfl) (by decide) (.inr (fun _ => rfl)) (.inl rfl) (fun _ => rfl) ⟨rfl, by omega⟩ (by intro k o; (try dsimp only []); repeat (first | exact id | exact find_none | refine find_keep ?_ | refine find_skip rfl ?_)) ?_ ?_
      ·
        intro cx' sv i y m hG' hd' hy hI
        obtain ⟨hi, rfl⟩ := yP_get hy
        obtain ⟨rfl, hI2⟩ := hI
        refine rst0 (k := ?_)
        repeat refine w1 (k := ?_)
        try simp only [upd, show ((SV : Nat) == 90) = false from rfl, show ((SV : Nat) == 4) = false from rfl, show ((SV : Nat) == 7) = false from rfl, show ((SV : Nat) == 10) = false from rfl, show ((SV : Nat) == 17) = false from rfl, show ((SV : Nat) == 18) = false from rfl, Bool.false_or, Bool.or_self, Bool.or_false, Nat.reduceBEq, cond_false, cond_true]
        refine nrm (k := ?_)
        repeat refine w1 (k := ?_)
        refine ⟨by first | rfl | trivial, by first | rfl | trivial, fun cx'' hG2 hd2 => ?_⟩
        obtain ⟨w0, fz0, β0, df, G0, rd, rr, ml, bs⟩ := cx''
        dsimp only at hG2 hd2
        subst hG2 hd2
        repeat refine w1 (k := ?_)
        refine condN (h1 := fun h => ?_) (h0 := fun h => ?_)
        ·
          repeat refine w1 (k := ?_)
          refine ⟨?_, rfl, rfl⟩
          refine rend (k := ?_)
          repeat refine w1 (k := ?_)
          try simp only [upd, show ((SV : Nat) == 90) = false from rfl, show ((SV : Nat) == 4) = false from rfl, show ((SV : Nat) == 7) = false from rfl, show ((SV : Nat) == 10) = false from rfl, show ((SV : Nat) == 17) = false from rfl, show ((SV : Nat) == 18) = false from rfl, Bool.false_or, Bool.or_self, Bool.or_false, Nat.reduceBEq, cond_false, cond_true]
          refine nrm (k := ?_)
          refine ⟨m, by omega, frg⟩
        ·
          repeat refine w1 (k := ?_)
          exact ⟨m + 1, ⟨rfl, by omega⟩, (by intro k o; (try dsimp only []); repeat (first | exact id | exact find_none | refine find_keep ?_ | refine find_skip rfl ?_)), rfl⟩
      ·
        rintro m ⟨rfl, hk2⟩
        rw [yP_len] at hk2 ⊢
        repeat refine w1 (k := ?_)
        refine ⟨R.length, by omega, frg⟩
    refine nrmL (k := ?_)
    have hgm := hI
    repeat refine w1 (k := ?_)
    refine cutIN [] (α := Unit) (fun u => []) (fun u => [(4, .pcells 4 [.s (.bool false)]), (7, .pcells 38 [.fro (R.map (slP (pvI .i64)))]), (10, .pcells 3 [.s (.int .i64 (R.length : Int))]), (17, .pcells 3 [.s (.int .i64 (t : Int))]), (18, .pcells 3 [.s (.int .i64 (g : Int))])]) (fun u => True) ?_ (fun u hI => ?_)
    ·
      refine AWp.rangeF (α := Unit) (fun u => [(4, .pcells 4 [.s (.bool false)]), (7, .pcells 38 [.fro (R.map (slP (pvI .i64)))]), (10, .pcells 3 [.s (.int .i64 (R.length : Int))]), (17, .pcells 3 [.s (.int .i64 (t : Int))]), (18, .pcells 3 [.s (.int .i64 (g : Int))])]) (fun i u => True) () 90 [] (by first | rfl | assumption) (by first | rfl | assumption) (by first | rfl | assumption) rfl rfl rfl rfl (oall_no _ (-1 - (n : Int)) (by omega)) (fun y hy => by obtain ⟨g, _, rfl⟩ := List.mem_map.1 hy; rfl) (by decide) (.inr (fun _ => rfl)) (.inl rfl) (fun _ => rfl) trivial (by intro k o; (try dsimp only []); repeat (first | exact id | exact find_none | refine find_keep ?_ | refine find_skip rfl ?_)) ?_ ?_
      ·
        intro cx' sv i y m hG' hd' hy hI
        cases hy
      ·
        rintro m _
        repeat refine w1 (k := ?_)
        refine ⟨(), by first | rfl | omega | trivial | (refine ⟨?_, ?_⟩ <;> first | rfl | omega), frg⟩
    refine nrmL (k := ?_)
    repeat refine w1 (k := ?_)
    simp only [List.length_map, beq_self_eq_true]
    repeat refine w1 (k := ?_)
    rw [show ((g : Int) == if (R.length : Int) < (t : Int) then (R.length : Int) else (t : Int)) = true by subst hgm; rw [beq_iff_eq]; split <;> omega]
    exact ⟨rfl, [.c _], .cons (.ld1 rfl rfl rfl rfl) .nil, rfl⟩
