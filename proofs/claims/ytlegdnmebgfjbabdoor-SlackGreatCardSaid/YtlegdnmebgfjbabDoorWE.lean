/- Chapter 22: SlackGreat. -/
import Derived.Test.YtlegdnmebgfjbabDoorWD
set_option linter.all false
set_option maxRecDepth 2000
set_option maxHeartbeats 8000000
namespace Go.Proofs.Vl
open Go Go.RowKit
attribute [local irreducible] AWp OpTo Run DL Val UN DR AC Le thn inb nog
def bg (K : Int) (t : Tk) : Tk := ⟨t.nm, t.c * K, t.t * K, t.d * K, t.j * K, t.q, t.p⟩
theorem bg_chk {t : Tk} (hs : Sml t) (h : chkT t = 0) {K : Int} (h1 : 1 ≤ K) (h2 : K ≤ 33554432) : chkT (bg K t) = 0 := by
  obtain ⟨hc, ht, hd, hj, hq, hp⟩ := hs
  obtain ⟨w1, w2⟩ := chk_word h
  unfold ariP at w2
  have k0 : 0 ≤ K := by omega
  have m1 : ∀ a : Int, 1 ≤ a → a ≤ 20 → 1 ≤ a * K ∧ a * K ≤ 671088640 := fun a ha hb => by
    have h3 := Int.mul_le_mul ha h1 (by decide) (by omega)
    have h4 := Int.mul_le_mul hb h2 (by omega) (by decide)
    omega
  have m2 : t.c * 1 ≤ t.c * K := Int.mul_le_mul_of_nonneg_left h1 (by omega)
  have m3 := Int.mul_le_mul_of_nonneg_right hd.1 k0
  have m4 := Int.mul_le_mul_of_nonneg_right hd.2 k0
  have m5 := Int.mul_nonneg hj k0
  rw [Int.add_mul] at m3
  have c1 := m1 t.c (by omega) (by omega)
  have c2 := m1 t.t (by omega) (by omega)
  have c3 := m1 t.d (by omega) (by omega)
  refine chk_of (t := bg K t) w1 ?_ ?_
  · show ariP t.nm.size (t.c * K) (t.t * K) (t.d * K) (t.j * K) t.q t.p
    unfold ariP; omega
  · show t.q ≤ t.c * K ∧ t.c * K + t.j * K ≤ t.d * K ∧ t.d * K ≤ t.t * K
    omega
theorem bg_is {s : List Tk} (hl : 1 ≤ s.length ∧ s.length ≤ 6) (h : ∀ t ∈ s, Sml t) (hc : ∀ t ∈ s, chkT t = 0) (hd : ∀ i j (hi : i < s.length) (hj : j < s.length), i ≠ j → s[i].p ≠ s[j].p ∧ s[i].nm ≠ s[j].nm) {K : Int} (h1 : 1 ≤ K) (h2 : K ≤ 33554432) (k : Nat) (hk : k < s.length) : isB (s.map (bg K)) (k : Int) = true := by
  have e : allI (s.map (bg K)) = (((s.map (bg K)).length : Int), 0) := all_fine _ (by simp; omega) (by simp; omega) fun i hi => by
    have hi' : i < s.length := by simpa using hi
    rw [List.getElem_map]
    refine ⟨bg_chk (h _ (List.getElem_mem hi')) (hc _ (List.getElem_mem hi')) h1 h2, fun j hj hji => ?_⟩
    have hj' : j < s.length := by simpa using hj
    rw [List.getElem_map]
    have := hd j i hj' hi' (by omega)
    exact ⟨this.2, this.1⟩
  unfold isB
  rw [e]
  simp; omega
theorem chk_all22 {l : List Tk} (h : (allI l).2 = 0) : ∀ t ∈ l, chkT t = 0 := by
  intro t ht
  unfold allI at h
  by_cases h4 : l.length = 0 ∨ 1024 < l.length
  · rw [if_pos h4] at h; cases h
  · rw [if_neg h4] at h
    exact ((goAll_fine l [] h).1 t ht).1
def midL (K : Int) (s : List Tk) (j : Nat) : List Tk := (s.take j).map (bg K) ++ s.drop j
theorem midL_len (K : Int) (s : List Tk) (j : Nat) (h : j ≤ s.length) : (midL K s j).length = s.length := by unfold midL; simp; omega
theorem midL_at (K : Int) (s : List Tk) (j : Nat) (h : j < s.length) (h' : j < (midL K s j).length) : (midL K s j)[j] = s[j] := by
  have e : (midL K s j)[j]? = some s[j] := by
    unfold midL
    rw [List.getElem?_append_right (by simp; omega)]
    simp [Nat.min_eq_left (Nat.le_of_lt h), List.getElem?_eq_getElem h]
  rw [List.getElem?_eq_getElem h'] at e
  exact Option.some.inj e
theorem midL_set (K : Int) (s : List Tk) (j : Nat) (h : j < s.length) : (midL K s j).set j (bg K s[j]) = midL K s (j + 1) := by
  unfold midL
  have hz : j - ((s.take j).map (bg K)).length = 0 := by simp; omega
  rw [List.set_append_right _ _ (by simp; omega), hz, List.drop_eq_getElem_cons h, List.set_cons_zero, List.take_succ_eq_append_getElem h, List.map_append, List.append_assoc]
  rfl
theorem sgreat_ac (sp : List Sp) (x y n : Int) (hl : sp.length ≤ maxLen) : AC Tryd.prog GL 4 [fro spP sp, .pag [.s (.int .i64 x), .s (.int .i64 y)], vi n] [] (fun r _ => r = vb true) := by
  refine AC.body' Tryd.func4 Tryd.ntmps4 rfl ?_
  intro cx hd hG
  refine nrmL (k := ?_)
  repeat refine w1 (k := ?_)
  obtain ⟨w0, fz0, β0, df, G0⟩ := cx
  obtain rfl : G0 = GL := hG
  refine callN (hc := by exact awake22_ac) (h := ?_)
  repeat refine w1 (k := ?_)
  refine OpTo.callO (by rfl) (by rfl) (by rfl) (by rfl) (set_ac _ sp 4 x hl (by decide) (by decide)) ?_
  rintro r os' ⟨rfl, hf⟩
  refine ⟨_, .row rfl hf (tkP_ok _ _) (by decide) rfl, ?_⟩
  have s1 := set_b sp 4 x hl (by decide)
  have s2 := set_nm2 sp 4 x
  have s4 := set_sml sp 4 x hl ⟨by decide, by decide⟩
  have s9 := set_small sp 4 x
  obtain ⟨s6, s7⟩ := set_fine sp 4 x hl ⟨by decide, by decide⟩
  generalize setL sp 4 x = s at s1 s2 s4 s6 s7 s9 ⊢
  have s8 := chk_all22 (by rw [s6])
  have s3 : s.length ≤ maxLen := by rw [maxLen]; omega
  refine nrm (k := ?_)
  repeat refine w1 (k := ?_)
  rw [and25]
  obtain ⟨K, hK⟩ : ∃ K, K = 1 + n % 33554432 := ⟨_, rfl⟩
  have hK1 : 1 ≤ K ∧ K ≤ 33554432 := by omega
  rw [← hK]
  repeat refine w1 (k := ?_)
  have hwK : IntKind.i64.wrap K = K := wrap_id (by omega) (by omega)
  simp only [hwK]
  rw [show s.map tkP = (midL K s 0).map tkP from rfl]
  refine loopN [(24, 50)] (α := Nat) (fun j => [(10, vi (j : Int))]) (fun j => [(4, .pcells 37 [.s (.int .i64 x), .s (.int .i64 y)]), (20, .row 29 7 ((midL K s j).map tkP))]) (fun j => s.length - j) (fun j => j ≤ s.length) (x0 := 0) (h0 := by first | omega | simp | (refine ⟨?_, ?_⟩ <;> first | omega | simp)) (hr := ?_)
  intro j hI
  refine nrmL (k := ?_)
  have hml := midL_len K s j hI
  repeat refine w1 (k := ?_)
  refine condN (h1 := fun h => ?_) (h0 := fun h => ?_)
  ·
    have hj : j < s.length := by omega
    have hjm : j < (midL K s j).length := by omega
    obtain ⟨c, t, d, jj, q⟩ := s9 _ (List.getElem_mem hj)
    have bc := mul_b c hK1.1 hK1.2
    have bt := mul_b t hK1.1 hK1.2
    have bd := mul_b d hK1.1 hK1.2
    have bj := mul_b jj hK1.1 hK1.2
    have hat := midL_at K s j hj hjm
    have hset := midL_set K s j hj
    generalize hT : s[j] = T at *
    try simp only [hwK]
    generalize hL : midL K s j = L at *
    repeat refine w1 (k := ?_)
    try rw [show Tryd.prog.types[29].size = 7 by kernel_rfl]
    first | refine ofN (hv := by exact Val.ldR (j := j) (c := 1) (.s (.int .i64 T.c)) rfl rfl rfl rfl hjm (by rw [hat]; rfl)) (h := ?_) | refine dlN (hv := by exact Val.ldR (j := j) (c := 1) (.s (.int .i64 T.c)) rfl rfl rfl rfl hjm (by rw [hat]; rfl)) (h := ?_) | refine dlgN (hv := by exact Val.ldR (j := j) (c := 1) (.s (.int .i64 T.c)) rfl rfl rfl rfl hjm (by rw [hat]; rfl)) (h := ?_) | refine ofN (hv := by exact Val.ldR (j := j) (c := 1) (.s (.int .i64 T.c)) rfl rfl rfl rfl hjm (by rw [hat]; rfl)) (h := ?_)
    repeat refine w1 (k := ?_)
    try rw [show Tryd.prog.types[29].size = 7 by kernel_rfl]
    refine OpTo.stRN (sz := 7) (j := j) (c := 1) (f := tkP) (l := L) ({ T with c := T.c * K }) rfl rfl rfl hjm rfl rfl (by kernel_rfl) (Nat.le_of_ble_eq_true rfl) (by rw [hat]; rfl) ?_
    obtain ⟨L1, e1⟩ : ∃ q, q = L.set j ({ T with c := T.c * K }) := ⟨_, rfl⟩
    rw [← e1]
    have hj1 : j < L1.length := by rw [e1, List.length_set]; exact hjm
    have hat1 : L1[j] = { T with c := T.c * K } := by simp only [e1, List.getElem_set_self]
    refine nrm (k := ?_)
    repeat refine w1 (k := ?_)
    try rw [show Tryd.prog.types[29].size = 7 by kernel_rfl]
    first | refine ofN (hv := by exact Val.ldR (j := j) (c := 2) (.s (.int .i64 T.t)) rfl rfl rfl rfl hj1 (by rw [hat1]; rfl)) (h := ?_) | refine dlN (hv := by exact Val.ldR (j := j) (c := 2) (.s (.int .i64 T.t)) rfl rfl rfl rfl hj1 (by rw [hat1]; rfl)) (h := ?_) | refine dlgN (hv := by exact Val.ldR (j := j) (c := 2) (.s (.int .i64 T.t)) rfl rfl rfl rfl hj1 (by rw [hat1]; rfl)) (h := ?_) | refine ofN (hv := by exact Val.ldR (j := j) (c := 2) (.s (.int .i64 T.t)) rfl rfl rfl rfl hj1 (by rw [hat1]; rfl)) (h := ?_)
    repeat refine w1 (k := ?_)
    try rw [show Tryd.prog.types[29].size = 7 by kernel_rfl]
    refine OpTo.stRN (sz := 7) (j := j) (c := 2) (f := tkP) (l := L1) ({ T with c := T.c * K, t := T.t * K }) rfl rfl rfl hj1 rfl rfl (by kernel_rfl) (Nat.le_of_ble_eq_true rfl) (by rw [hat1]; rfl) ?_
    obtain ⟨L2, e2⟩ : ∃ q, q = L1.set j ({ T with c := T.c * K, t := T.t * K }) := ⟨_, rfl⟩
    rw [← e2]
    have hj2 : j < L2.length := by rw [e2, List.length_set]; exact hj1
    have hat2 : L2[j] = { T with c := T.c * K, t := T.t * K } := by simp only [e2, List.getElem_set_self]
    refine nrm (k := ?_)
    repeat refine w1 (k := ?_)
    try rw [show Tryd.prog.types[29].size = 7 by kernel_rfl]
    first | refine ofN (hv := by exact Val.ldR (j := j) (c := 3) (.s (.int .i64 T.d)) rfl rfl rfl rfl hj2 (by rw [hat2]; rfl)) (h := ?_) | refine dlN (hv := by exact Val.ldR (j := j) (c := 3) (.s (.int .i64 T.d)) rfl rfl rfl rfl hj2 (by rw [hat2]; rfl)) (h := ?_) | refine dlgN (hv := by exact Val.ldR (j := j) (c := 3) (.s (.int .i64 T.d)) rfl rfl rfl rfl hj2 (by rw [hat2]; rfl)) (h := ?_) | refine ofN (hv := by exact Val.ldR (j := j) (c := 3) (.s (.int .i64 T.d)) rfl rfl rfl rfl hj2 (by rw [hat2]; rfl)) (h := ?_)
    repeat refine w1 (k := ?_)
    try rw [show Tryd.prog.types[29].size = 7 by kernel_rfl]
    refine OpTo.stRN (sz := 7) (j := j) (c := 3) (f := tkP) (l := L2) ({ T with c := T.c * K, t := T.t * K, d := T.d * K }) rfl rfl rfl hj2 rfl rfl (by kernel_rfl) (Nat.le_of_ble_eq_true rfl) (by rw [hat2]; rfl) ?_
    obtain ⟨L3, e3⟩ : ∃ q, q = L2.set j ({ T with c := T.c * K, t := T.t * K, d := T.d * K }) := ⟨_, rfl⟩
    rw [← e3]
    have hj3 : j < L3.length := by rw [e3, List.length_set]; exact hj2
    have hat3 : L3[j] = { T with c := T.c * K, t := T.t * K, d := T.d * K } := by simp only [e3, List.getElem_set_self]
    refine nrm (k := ?_)
    repeat refine w1 (k := ?_)
    try rw [show Tryd.prog.types[29].size = 7 by kernel_rfl]
    first | refine ofN (hv := by exact Val.ldR (j := j) (c := 4) (.s (.int .i64 T.j)) rfl rfl rfl rfl hj3 (by rw [hat3]; rfl)) (h := ?_) | refine dlN (hv := by exact Val.ldR (j := j) (c := 4) (.s (.int .i64 T.j)) rfl rfl rfl rfl hj3 (by rw [hat3]; rfl)) (h := ?_) | refine dlgN (hv := by exact Val.ldR (j := j) (c := 4) (.s (.int .i64 T.j)) rfl rfl rfl rfl hj3 (by rw [hat3]; rfl)) (h := ?_) | refine ofN (hv := by exact Val.ldR (j := j) (c := 4) (.s (.int .i64 T.j)) rfl rfl rfl rfl hj3 (by rw [hat3]; rfl)) (h := ?_)
    repeat refine w1 (k := ?_)
    try rw [show Tryd.prog.types[29].size = 7 by kernel_rfl]
    refine OpTo.stRN (sz := 7) (j := j) (c := 4) (f := tkP) (l := L3) ({ T with c := T.c * K, t := T.t * K, d := T.d * K, j := T.j * K }) rfl rfl rfl hj3 rfl rfl (by kernel_rfl) (Nat.le_of_ble_eq_true rfl) (by rw [hat3]; rfl) ?_
    obtain ⟨L4, e4⟩ : ∃ q, q = L3.set j ({ T with c := T.c * K, t := T.t * K, d := T.d * K, j := T.j * K }) := ⟨_, rfl⟩
    rw [← e4]
    have hj4 : j < L4.length := by rw [e4, List.length_set]; exact hj3
    have hat4 : L4[j] = { T with c := T.c * K, t := T.t * K, d := T.d * K, j := T.j * K } := by simp only [e4, List.getElem_set_self]
    refine nrm (k := ?_)
    have e5 : L4 = midL K s (j + 1) := by rw [← hset, e4, e3, e2, e1]; simp only [List.set_set]; rfl
    rw [e5]
    repeat refine w1 (k := ?_)
    refine ⟨j + 1, by omega, by first | omega | (refine ⟨?_, ?_⟩ <;> omega), frg⟩
  ·
    repeat refine w1 (k := ?_)
    have : j = s.length := by omega
    subst this
    rw [show midL K s s.length = s.map (bg K) by unfold midL; simp]
    first | refine zA 20 (h := ?_) | refine zO 20 (h := ?_) | refine zL 20 (h := ?_) | refine zL3 20 (h := ?_)
    refine nrm (k := ?_)
    repeat refine w1 (k := ?_)
    have g := emod_b x (s.length : Int) (by omega)
    obtain ⟨k, ek⟩ := Int.eq_ofNat_of_zero_le g.1
    have hk : k < s.length := by omega
    have gy := emod_b y 4 (by decide)
    have hSl : (s.map (bg K)).length = s.length := by simp
    have hb := bg_is ⟨s1.1, by omega⟩ s4 s8 s7 hK1.1 hK1.2 k hk
    have hSn : ∀ t ∈ s.map (bg K), t.nm.size ≤ maxLen := fun t ht => by
      obtain ⟨u, hu, rfl⟩ := List.mem_map.1 ht
      exact (s2 u hu : _)
    generalize hS : s.map (bg K) = S at *
    have hkS : k < S.length := by omega
    have hSm : S.length ≤ maxLen := by rw [maxLen]; omega
    rw [← hSl]
    refine callN (hc := by exact rest22_ac _ x (S.length : Int) (by omega) (by omega)) (h := ?_)
    repeat refine w1 (k := ?_)
    rw [hSl, ek]
    repeat refine w1 (k := ?_)
    refine callN (hc := by exact rest22_ac _ y 4 (by decide) (by decide)) (h := ?_)
    repeat refine w1 (k := ?_)
    refine callN (hc := by exact more_ac S (k : Int) (y % 4) hSn hSm) (h := ?_)
    repeat refine w1 (k := ?_)
    have hmy : mayE S (k : Int) = if testsB S then 0 else 16 := by unfold mayE; rw [if_pos hb]
    cases hT : testsB S with
    | false =>
      rw [hmy, hT, if_neg (by simp)]
      repeat refine w1 (k := ?_)
      refine callN (hc := by exact tests_ac S hSn hSm) (h := ?_)
      repeat refine w1 (k := ?_)
      rw [hT]
      repeat refine w1 (k := ?_)
      exact ⟨[.c _], .cons (.tmp rfl) .nil, rfl⟩
    | true =>
      rw [hT, if_pos rfl] at hmy
      obtain ⟨m1, m2, m3, m4, m5⟩ := mo_spec hkS hmy (y % 4) gy
      rw [hmy]
      repeat refine w1 (k := ?_)
      refine condN (h1 := fun h3 => ?_) (h0 := fun h3 => ?_)
      ·
        rw [show stpW (y % 4) = -1 by unfold stpW; rw [if_pos h3]] at m2
        repeat refine w1 (k := ?_)
        refine callRowN (hc := by exact with22_ac _ S k hkS (y % 4) (moN S (k : Int) (y % 4)) (by omega) ) (hso := by exact  tkP_ok _ _) (h := ?_)
        refine nrm (k := ?_)
        repeat refine w1 (k := ?_)
        refine callN (ha := congrArg (fun z => [z]) (frz_ownL (k := 109) (xs := (upT S k (gW (y % 4) (moN S (k : Int) (y % 4)))).map tkP) rfl (List.length_map tkP).symm)) (hc := by exact tests_ac _ (up_nm hSn k _ _) (by rw [upT_len]; exact hSm)) (h := ?_)
        rw [m1]
        repeat refine w1 (k := ?_)
        refine callRowN (hc := by exact with22_ac _ S k hkS (y % 4) (moN S (k : Int) (y % 4) + (-1)) (by omega) ) (hso := by exact  tkP_ok _ _) (h := ?_)
        refine nrm (k := ?_)
        repeat refine w1 (k := ?_)
        refine callN (ha := congrArg (fun z => [z]) (frz_ownL (k := 119) (xs := (upT S k (gW (y % 4) (moN S (k : Int) (y % 4) + (-1)))).map tkP) rfl (List.length_map tkP).symm)) (hc := by exact tests_ac _ (up_nm hSn k _ _) (by rw [upT_len]; exact hSm)) (h := ?_)
        rw [m2]
        repeat refine w1 (k := ?_)
        exact ⟨[.c _], .cons (.tmp rfl) .nil, rfl⟩
      ·
        rw [show stpW (y % 4) = 1 by unfold stpW; rw [if_neg h3]] at m2
        repeat refine w1 (k := ?_)
        refine callRowN (hc := by exact with22_ac _ S k hkS (y % 4) (moN S (k : Int) (y % 4)) (by omega) ) (hso := by exact  tkP_ok _ _) (h := ?_)
        refine nrm (k := ?_)
        repeat refine w1 (k := ?_)
        refine callN (ha := congrArg (fun z => [z]) (frz_ownL (k := 109) (xs := (upT S k (gW (y % 4) (moN S (k : Int) (y % 4)))).map tkP) rfl (List.length_map tkP).symm)) (hc := by exact tests_ac _ (up_nm hSn k _ _) (by rw [upT_len]; exact hSm)) (h := ?_)
        rw [m1]
        repeat refine w1 (k := ?_)
        refine callRowN (hc := by exact with22_ac _ S k hkS (y % 4) (moN S (k : Int) (y % 4) + 1) (by omega) ) (hso := by exact  tkP_ok _ _) (h := ?_)
        refine nrm (k := ?_)
        repeat refine w1 (k := ?_)
        refine callN (ha := congrArg (fun z => [z]) (frz_ownL (k := 119) (xs := (upT S k (gW (y % 4) (moN S (k : Int) (y % 4) + 1))).map tkP) rfl (List.length_map tkP).symm)) (hc := by exact tests_ac _ (up_nm hSn k _ _) (by rw [upT_len]; exact hSm)) (h := ?_)
        rw [m2]
        repeat refine w1 (k := ?_)
        exact ⟨[.c _], .cons (.tmp rfl) .nil, rfl⟩
theorem sgreat_top (sp : List Sp) (q : List Int) (n : Int) (hl : sp.length ≤ maxLen) (hq : q.length = 2) : AC Tryd.prog GL 4 [fro spP sp, .pag (intsP q), vi n] [] (fun r _ => r = vb true) := by
  obtain ⟨x, y, rfl⟩ : ∃ x y, q = [x, y] := by
    match q, hq with
    | [x, y], _ => exact ⟨x, y, rfl⟩
  exact sgreat_ac sp x y n hl
