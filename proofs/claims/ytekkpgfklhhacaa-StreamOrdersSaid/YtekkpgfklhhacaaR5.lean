/- Jobs out of raw numbers: some are told. -/
import Derived.Test.YtekkpgfklhhacaaR4
import Derived.Test.YtekkpgfklhhacaaJK11
set_option linter.all false
set_option maxRecDepth 2000
set_option maxHeartbeats 8000000
namespace Go.Proofs.Vl
open Go Go.RowKit
attribute [local irreducible] AWp OpTo Run DL Val UN DR AC Le thn inb nog
theorem frz_own {st : St} {k sz n : Nat} {T : TypeId} {xs : List (List PV)} (hf : find st.objs k = some (.row T sz xs)) (hn : n = xs.length) : Vl.frz st (.c (.own k sz n)) = .c (.p (.fro xs)) := by
  simp [Vl.frz, elems, hf, hn]
theorem last_ac (G) (js : List Jb) (t : Int) (hj : js.length ≤ 1000) : AC Try.prog G 37 [fro jbP js, vi t] [] (fun r _ => ∃ k : Int, -1 ≤ k ∧ k < js.length ∧ r = vi k) := by
  refine AC.body' Try.func37 Try.ntmps37 rfl ?_
  intro cx hd hG
  refine nrmL (k := ?_)
  repeat refine w1 (k := ?_)
  obtain ⟨w0, fz0, β0, df, G0⟩ := cx
  obtain rfl : G0 = G := hG
  simp only [List.length_map]
  repeat refine w1 (k := ?_)
  rw [show IntKind.i64.wrap ((js.length : Int) - 1) = (js.length : Int) - 1 from wrap_id (by omega) (by omega)]
  refine loopN [(4, 1), (9, 12)] (α := Int) (fun x => [(5, vi x)]) (fun x => []) (fun x => (x + 1).toNat) (fun x => -1 ≤ x ∧ x < js.length) (x0 := (js.length : Int) - 1) (h0 := by first | omega | simp | (refine ⟨?_, ?_⟩ <;> first | omega | simp)) (hr := ?_)
  intro x hI
  refine nrmL (k := ?_)
  repeat refine w1 (k := ?_)
  refine condN (h1 := fun h => ?_) (h0 := fun h => ?_)
  ·
    obtain ⟨n, rfl⟩ := Int.eq_ofNat_of_zero_le h
    have hn : n < js.length := by omega
    repeat refine w1 (k := ?_)
    refine condN (h1 := fun h2 => ?_) (h0 := fun h2 => ?_)
    ·
      repeat refine w1 (k := ?_)
      exact ⟨[.c _], .cons (.tmp rfl) .nil, _, hI.1, hI.2, rfl⟩
    ·
      repeat refine w1 (k := ?_)
      refine ⟨(n : Int) - 1, by omega, by first | omega | (refine ⟨?_, ?_⟩ <;> omega), frg⟩
  ·
    repeat refine w1 (k := ?_)
    exact ⟨[.c _], .cons (.tmp rfl) .nil, -1, by decide, by omega, rfl⟩
theorem decode_ac (G) (s : List Tk) (raw : List Raw) (h1 : 1 ≤ s.length) (h2 : s.length ≤ 100) (hs : ∀ t ∈ s, t.nm.size ≤ maxLen ∧ 1 ≤ t.c ∧ t.c ≤ 1000 ∧ 0 ≤ t.j ∧ t.j ≤ 1000 ∧ 1 ≤ t.q ∧ t.q ≤ 1000) (hr : raw.length ≤ 12) (hc : ∀ r ∈ raw, r.c.length ≤ 5) : AC Try.prog G 19 [fro tkP s, fro rawP raw] [] (fun r os => ∃ js : List Jb, js.length ≤ 12 ∧ r = .c (.own 77 5 js.length) ∧ find os 77 = some (.row 43 5 (js.map jbP))) := by
  refine AC.body' Try.func19 Try.ntmps19 rfl ?_
  intro cx hd hG
  refine nrmL (k := ?_)
  repeat refine w1 (k := ?_)
  obtain ⟨w0, fz0, β0, df, G0⟩ := cx
  obtain rfl : G0 = G := hG
  refine callN (hc := by exact allR_ac _ s (fun t ht => (hs t ht).1) (by rw [maxLen]; omega)) (h := ?_)
  repeat refine w1 (k := ?_)
  first | refine ofN (hv := by exact Val.fldV rfl rfl rfl rfl rfl) (h := ?_) | refine dlN (hv := by exact Val.fldV rfl rfl rfl rfl rfl) (h := ?_) | refine dlgN (hv := by exact Val.fldV rfl rfl rfl rfl rfl) (h := ?_) | refine ofN (hv := by exact Val.fldV rfl rfl rfl rfl rfl) (h := ?_)
  generalize (allI s).2 = e
  generalize (allI s).1 = e1
  repeat refine w1 (k := ?_)
  refine condN (h1 := fun h => ?_) (h0 := fun h => ?_)
  ·
    first | ((iterate 2 (refine w1 (k := ?_))); refine seedA 4 77 5 43 (h := ?_); (repeat (refine w1 (k := ?_))); exact ⟨[.c _], .cons (.tmp rfl) .nil, [], by decide, rfl, rfl⟩) | ((iterate 3 (refine w1 (k := ?_))); refine seedA 4 77 5 43 (h := ?_); (repeat (refine w1 (k := ?_))); exact ⟨[.c _], .cons (.tmp rfl) .nil, [], by decide, rfl, rfl⟩) | ((iterate 4 (refine w1 (k := ?_))); refine seedA 4 77 5 43 (h := ?_); (repeat (refine w1 (k := ?_))); exact ⟨[.c _], .cons (.tmp rfl) .nil, [], by decide, rfl, rfl⟩) | ((iterate 5 (refine w1 (k := ?_))); refine seedA 4 77 5 43 (h := ?_); (repeat (refine w1 (k := ?_))); exact ⟨[.c _], .cons (.tmp rfl) .nil, [], by decide, rfl, rfl⟩) | ((iterate 6 (refine w1 (k := ?_))); refine seedA 4 77 5 43 (h := ?_); (repeat (refine w1 (k := ?_))); exact ⟨[.c _], .cons (.tmp rfl) .nil, [], by decide, rfl, rfl⟩) | ((iterate 7 (refine w1 (k := ?_))); refine seedA 4 77 5 43 (h := ?_); (repeat (refine w1 (k := ?_))); exact ⟨[.c _], .cons (.tmp rfl) .nil, [], by decide, rfl, rfl⟩) | ((iterate 8 (refine w1 (k := ?_))); refine seedA 4 77 5 43 (h := ?_); (repeat (refine w1 (k := ?_))); exact ⟨[.c _], .cons (.tmp rfl) .nil, [], by decide, rfl, rfl⟩) | ((iterate 9 (refine w1 (k := ?_))); refine seedA 4 77 5 43 (h := ?_); (repeat (refine w1 (k := ?_))); exact ⟨[.c _], .cons (.tmp rfl) .nil, [], by decide, rfl, rfl⟩)
  ·
    repeat refine w1 (k := ?_)
    refine seedA 5 77 5 43 (h := ?_)
    refine loopN [(7, 6), (17, 115)] (α := Nat × List Jb) (fun y => [(5, .c (.own 77 5 y.2.length)), (6, vi (y.1 : Int))]) (fun y => [(77, .row 43 5 (y.2.map jbP))]) (fun y => raw.length - y.1) (fun y => y.1 ≤ raw.length ∧ y.2.length = y.1) (x0 := (0, [])) (h0 := by exact ⟨Nat.zero_le _, rfl⟩) (hr := ?_)
    intro y hI
    refine nrmL (k := ?_)
    obtain ⟨i, js⟩ := y
    obtain ⟨g1, g2⟩ := hI
    dsimp only at g1 g2
    repeat refine w1 (k := ?_)
    first | refine bothTN (h1 := fun k1 => ?_) (h0 := fun k1 => ?_) | refine bothFN (h1 := fun k1 => ?_) (h0 := fun k1 => ?_)
    all_goals repeat refine w1 (k := ?_)
    ·
      have hi : i < raw.length := by omega
      have hci := hc _ (List.getElem_mem hi)
      repeat refine w1 (k := ?_)
      simp only [List.length_map]
      refine callN (hc := by exact rest8_ac _ _ (s.length : Int) (by omega) (by omega)) (h := ?_)
      repeat refine w1 (k := ?_)
      have a0 := Int.emod_nonneg raw[i].t (show (s.length : Int) ≠ 0 by omega)
      have a1 := Int.emod_lt_of_pos raw[i].t (show (0 : Int) < s.length by omega)
      obtain ⟨ka, hka⟩ := Int.eq_ofNat_of_zero_le a0
      rw [hka]
      have hkl : ka < s.length := by omega
      obtain ⟨_, t1, t2, t3, t4, t5, t6⟩ := hs _ (List.getElem_mem hkl)
      repeat refine w1 (k := ?_)
      refine callN (hc := by exact rest8_ac _ _ 1048576 (by decide) (by decide)) (h := ?_)
      repeat refine w1 (k := ?_)
      refine OpTo.callO (by rfl) (by rfl) (by show [Vl.frz _ (AV.c (.own 77 5 js.length)), _] = _; rw [frz_own (by rfl) (by simp)]; rfl) (by rfl) (last_ac _ js (ka : Int) (by omega)) ?_
      rintro r os' ⟨kl, q1, q2, rfl⟩
      refine ⟨_, .val rfl, ?_⟩
      refine nrm (k := ?_)
      repeat refine w1 (k := ?_)
      refine cutNN [(54, 12)] (α := Int) (fun a => []) (fun a => [(77, .row 43 5 (js.map jbP)), (7, .pcells 43 [.s (.int .i64 (ka : Int)), .s (.int .i64 a), .s (.int .i64 0), .s (.int .i64 0), .s (.slice none 0 0)]), (8, .pcells 71 (tkP s[ka]))]) (fun a => True) ?_ (fun a hI => ?_)
      ·
        refine condN (h1 := fun hk => ?_) (h0 := fun hk => ?_)
        ·
          obtain ⟨n, rfl⟩ := Int.eq_ofNat_of_zero_le hk
          have hn : n < js.length := by omega
          repeat refine w1 (k := ?_)
          first | refine ofN (hv := by exact Val.ldR (j := n) (c := 1) (.s (.int .i64 js[n].a)) rfl rfl rfl rfl hn rfl) (h := ?_) | refine dlN (hv := by exact Val.ldR (j := n) (c := 1) (.s (.int .i64 js[n].a)) rfl rfl rfl rfl hn rfl) (h := ?_) | refine dlgN (hv := by exact Val.ldR (j := n) (c := 1) (.s (.int .i64 js[n].a)) rfl rfl rfl rfl hn rfl) (h := ?_) | refine ofN (hv := by exact Val.ldR (j := n) (c := 1) (.s (.int .i64 js[n].a)) rfl rfl rfl rfl hn rfl) (h := ?_)
          repeat refine w1 (k := ?_)
          refine ⟨(IntKind.i64.wrap (IntKind.i64.wrap (raw[i].g % 1048576 + js[n].a) + s[ka].t)), by first | rfl | omega | trivial | (refine ⟨?_, ?_⟩ <;> first | rfl | omega), frg⟩
        ·
          repeat refine w1 (k := ?_)
          refine ⟨(raw[i].g % 1048576), by first | rfl | omega | trivial | (refine ⟨?_, ?_⟩ <;> first | rfl | omega), frg⟩
      refine nrmL (k := ?_)
      repeat refine w1 (k := ?_)
      refine callN (hc := by exact rest8_ac _ _ (s[ka].j + 1) (by omega) (by omega)) (h := ?_)
      repeat refine w1 (k := ?_)
      have c0 := Int.emod_nonneg raw[i].w (show s[ka].c ≠ 0 by omega)
      have c1 := Int.emod_lt_of_pos raw[i].w (show 0 < s[ka].c by omega)
      refine callN (hc := by exact rest8_ac _ _ s[ka].c (by omega) (by omega)) (h := ?_)
      repeat refine w1 (k := ?_)
      generalize IntKind.i64.wrap (a + raw[i].l % (s[ka].j + 1)) = rr
      generalize 1 + raw[i].w % s[ka].c = ww
      repeat refine w1 (k := ?_)
      refine cutIN [(10, 3), (91, 37)] (α := Jb) (fun j => []) (fun j => [(77, .row 43 5 (js.map jbP)), (7, .pcells 43 (jbP j)), (8, .pcells 71 (tkP s[ka]))]) (fun j => True) ?_ (fun j hI => ?_)
      ·
        refine AWp.weak (Le.seedF4 7 123 1 2 43 _ _ _ _ rfl (by decide) (by decide) rfl) ?_
        refine nrmL (k := ?_)
        refine loopN [(12, 1), (91, 37)] (α := Nat × Int × List Int) (fun y => [(10, vi y.2.1), (11, vi (y.1 : Int))]) (fun y => [(77, .row 43 5 (js.map jbP)), (7, .cells 43 [.p (.s (.int .i64 (ka : Int))), .p (.s (.int .i64 a)), .p (.s (.int .i64 rr)), .p (.s (.int .i64 ww)), .own 123 1 y.2.2.length]), (8, .pcells 71 (tkP s[ka])), (123, .row 2 1 (y.2.2.map (pvI .i64)))]) (fun y => raw[i].c.length - y.1) (fun y => y.1 ≤ raw[i].c.length ∧ y.2.2.length = y.1) (x0 := (0, ww, [])) (h0 := by exact ⟨Nat.zero_le _, rfl⟩) (hr := ?_)
        intro y hI
        refine nrmL (k := ?_)
        obtain ⟨q, left, cs⟩ := y
        obtain ⟨b1, b2⟩ := hI
        dsimp only at b1 b2
        repeat refine w1 (k := ?_)
        simp only [List.length_map]
        repeat refine w1 (k := ?_)
        first | refine bothTN (h1 := fun m1 => ?_) (h0 := fun m1 => ?_) | refine bothFN (h1 := fun m1 => ?_) (h0 := fun m1 => ?_)
        all_goals repeat refine w1 (k := ?_)
        ·
          refine condN (h1 := fun m2 => ?_) (h0 := fun m2 => ?_)
          ·
            have hq : q < raw[i].c.length := by omega
            repeat refine w1 (k := ?_)
            refine callN (hc := by exact rest8_ac _ _ (if left < s[ka].q then left else s[ka].q) (by split <;> omega) (by split <;> omega)) (h := ?_)
            repeat refine w1 (k := ?_)
            generalize IntKind.i64.wrap (1 + raw[i].c[q] % (if left < s[ka].q then left else s[ka].q)) = nv
            repeat refine w1 (k := ?_)
            refine litA (pvI .i64) [nv] (h := ?_)
            repeat refine w1 (k := ?_)
            refine appA 123 8 (pvI .i64) cs [nv] (hb := by simp; omega) (hm := by simp; omega) (h := ?_)
            have hc2 : (cs ++ [nv]).length = q + 1 := by simp [b2]
            generalize cs ++ [nv] = cs2 at hc2 ⊢
            repeat refine w1 (k := ?_)
            refine OpTo.stC (ys := [.own 123 1 cs2.length]) rfl rfl rfl rfl rfl (by kernel_rfl) (Nat.le_refl _) ?_
            refine nrm (k := ?_)
            repeat refine w1 (k := ?_)
            refine ⟨(q + 1, IntKind.i64.wrap (left - nv), cs2), by dsimp only; omega, by exact ⟨by dsimp only; omega, hc2⟩, frg⟩
          ·
            repeat refine w1 (k := ?_)
            first | refine zA 123 (h := ?_) | refine zO 123 (h := ?_) | refine zL 123 (h := ?_) | refine zL3 123 (h := ?_)
            try simp only [beq_self_eq_true, Bool.true_and, cond_true]
            refine ⟨⟨(ka : Int), a, rr, ww, .fro (cs.map (pvI .i64))⟩, trivial, Le.trans (Le.toP5 7 43 _ _ _ _ _ rfl) ?_⟩
            refine nrm (k := ?_)
            exact frg
        ·
          repeat refine w1 (k := ?_)
          first | refine zA 123 (h := ?_) | refine zO 123 (h := ?_) | refine zL 123 (h := ?_) | refine zL3 123 (h := ?_)
          try simp only [beq_self_eq_true, Bool.true_and, cond_true]
          refine ⟨⟨(ka : Int), a, rr, ww, .fro (cs.map (pvI .i64))⟩, trivial, Le.trans (Le.toP5 7 43 _ _ _ _ _ rfl) ?_⟩
          refine nrm (k := ?_)
          exact frg
      refine nrmL (k := ?_)
      repeat refine w1 (k := ?_)
      refine litA jbP [j] (h := ?_)
      repeat refine w1 (k := ?_)
      refine appA 77 56 jbP js [j] (hb := by simp; omega) (hm := by simp; omega) (h := ?_)
      repeat refine w1 (k := ?_)
      refine ⟨(i + 1, js ++ [j]), by dsimp only; omega, by exact ⟨by dsimp only; omega, by simp [g2]⟩, frg⟩
    ·
      repeat refine w1 (k := ?_)
      exact ⟨[.c _], .cons (.tmp rfl) .nil, js, by omega, rfl, rfl⟩
