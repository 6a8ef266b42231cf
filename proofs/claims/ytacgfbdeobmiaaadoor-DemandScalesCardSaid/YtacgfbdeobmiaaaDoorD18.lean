/- DemandUrgent. -/
import Derived.Test.YtacgfbdeobmiaaaDoorD17
set_option linter.all false
set_option maxRecDepth 2000
set_option maxHeartbeats 8000000
namespace Go.Proofs.Vl
open Go Go.RowKit
attribute [local irreducible] AWp OpTo Run DL Val UN DR AC Le thn inb nog
attribute [local irreducible] els nxO
theorem hs_zero {f : Tk → Nat} {l : List Tk} (h : ∀ t ∈ l, f t = 0) : hs f l = 0 := by
  have : hs f l ≤ l.length * 0 := hs_b fun t ht => by rw [h t ht]; exact Nat.le_refl _
  omega
theorem ifp_mono {p p' : Int} (h : p ≤ p') (f : Tk → Nat) (l : List Tk) : hs (ifp p f) l ≤ hs (ifp p' f) l := hs_le fun t _ => by
  unfold ifp; split
  · rw [if_pos (by omega)]; exact Nat.le_refl _
  · omega
theorem mxI_le {a b c d : Int} (h : a ≤ b) (h2 : c ≤ d) : mxI a c ≤ mxI b d := by unfold mxI; split <;> split <;> omega
theorem le_mxI (a c : Int) : a ≤ mxI a c := by unfold mxI; split <;> omega
theorem blkI_mono {p p' : Int} (h : p ≤ p') (l : List Tk) : blkI l p' ≤ blkI l p := by
  unfold blkI
  suffices ∀ (m : List Tk) (a b : Int), a ≤ b → m.foldl (fun a t => if decide (t.p > p') then mxI a (t.q - 1) else a) a ≤ m.foldl (fun a t => if decide (t.p > p) then mxI a (t.q - 1) else a) b from this l 0 0 (Int.le_refl _)
  intro m
  induction m with
  | nil => exact fun a b h => h
  | cons t m ih =>
    intro a b hab
    rw [List.foldl_cons, List.foldl_cons]
    refine ih _ _ ?_
    by_cases h1 : t.p > p'
    · rw [if_pos (by simpa using h1), if_pos (by have : t.p > p := by omega
                                                 simpa using this)]
      exact mxI_le hab (Int.le_refl _)
    · rw [if_neg (by simpa using h1)]
      split
      · exact Int.le_trans hab (le_mxI _ _)
      · exact hab
theorem blkI_zero {p : Int} {l : List Tk} (h : ∀ t ∈ l, t.p ≤ p) : blkI l p = 0 := by
  unfold blkI
  induction l with
  | nil => rfl
  | cons t m ih =>
    rw [List.foldl_cons, if_neg (by have := h t List.mem_cons_self; simp; omega)]
    exact ih fun u hu => h u (List.mem_cons_of_mem _ hu)
theorem all_take (l : List Tk) (f : Tk → Bool) (j : Nat) (h : j < l.length) : (l.take (j + 1)).all f = ((l.take j).all f && f l[j]) := by
  rw [List.take_succ_eq_append_getElem h, List.all_append]; simp
def geB (p : Int) (t : Tk) : Bool := decide (t.p ≥ p)
def leB (p : Int) (t : Tk) : Bool := decide (t.p ≤ p)
theorem durgent_ac (sp : List Sp) (x y : Int) (w : Nat) (hl : sp.length ≤ maxLen) (hw : w < 18446744073709551616) : AC Tryd.prog GL 5 [fro spP sp, .pag [.s (.int .i64 x), .s (.int .i64 y)], vn w] [] (fun r _ => r = vb true) := by
  refine AC.body' Tryd.func5 Tryd.ntmps5 rfl ?_
  intro cx hd hG
  refine nrmL (k := ?_)
  repeat refine w1 (k := ?_)
  obtain ⟨w0, fz0, β0, df, G0⟩ := cx
  obtain rfl : G0 = GL := hG
  refine callN (hc := by exact awake_ac) (h := ?_)
  repeat refine w1 (k := ?_)
  refine OpTo.callO (by rfl) (by rfl) (by rfl) (by rfl) (set_ac _ sp 6 x hl (by decide) (by decide)) ?_
  rintro r os' ⟨rfl, hf⟩
  refine ⟨_, .row rfl hf (tkP_ok _ _) (by decide) rfl, ?_⟩
  have s1 := set_b sp 6 x hl (by decide)
  have s2 := set_nm2 sp 6 x
  have s4 := set_sml sp 6 x hl ⟨by decide, by decide⟩
  have s5 := set_is sp 6 x hl ⟨by decide, by decide⟩
  generalize setL sp 6 x = s at s1 s2 s4 s5 ⊢
  have s3 : s.length ≤ maxLen := by rw [maxLen]; omega
  refine nrm (k := ?_)
  repeat refine w1 (k := ?_)
  first | refine zA 19 (h := ?_) | refine zO 19 (h := ?_) | refine zL 19 (h := ?_) | refine zL3 19 (h := ?_)
  refine nrm (k := ?_)
  repeat refine w1 (k := ?_)
  refine callN (hc := by exact rest13_ac _ _ _ (by omega) (by omega)) (h := ?_)
  repeat refine w1 (k := ?_)
  rw [List.length_map]
  refine callN (hc := by exact rest13_ac _ _ _ (by omega) (by omega)) (h := ?_)
  repeat refine w1 (k := ?_)
  have gx := emod_b x (s.length : Int) (by omega)
  have gy := emod_b y (s.length : Int) (by omega)
  obtain ⟨kx, ex⟩ := Int.eq_ofNat_of_zero_le gx.1
  obtain ⟨ky, ey⟩ := Int.eq_ofNat_of_zero_le gy.1
  rw [ex, ey]
  have hkx : kx < s.length := by omega
  have hky : ky < s.length := by omega
  repeat refine w1 (k := ?_)
  refine cutNN [(30, 21)] (α := Nat × Nat) (fun z => [(9, vi (z.1 : Int)), (10, vi (z.2 : Int))]) (fun z => []) (fun z => z.1 < s.length ∧ z.2 < s.length ∧ pAt s z.1 ≤ pAt s z.2) ?_ (fun z hI => ?_)
  ·
    have px := pAt_nat s kx hkx
    have py := pAt_nat s ky hky
    refine condN (h1 := fun h => ?_) (h0 := fun h => ?_)
    ·
      repeat refine w1 (k := ?_)
      rw [List.length_map]
      refine callN (hc := by exact rest13_ac _ _ _ (by omega) (by omega)) (h := ?_)
      repeat refine w1 (k := ?_)
      rw [List.length_map]
      refine callN (hc := by exact rest13_ac _ _ _ (by omega) (by omega)) (h := ?_)
      repeat refine w1 (k := ?_)
      rw [ex, ey]
      refine ⟨(ky, kx), by exact ⟨hky, hkx, by dsimp only; omega⟩, frg⟩
    ·
      repeat refine w1 (k := ?_)
      refine ⟨(kx, ky), by exact ⟨hkx, hky, by dsimp only; omega⟩, frg⟩
  ·
    obtain ⟨k, k'⟩ := z
    dsimp only at hI ⊢
    obtain ⟨hk, hk', hpp⟩ := hI
    rw [pAt_nat s k hk, pAt_nat s k' hk'] at hpp
    have hi := s5 k hk
    have hi' := s5 k' hk'
    refine nrmL (k := ?_)
    repeat refine w1 (k := ?_)
    rw [and40 w hw]
    have hv : w % 1099511627776 < 1099511627776 := Nat.mod_lt _ (by decide)
    generalize w % 1099511627776 = v at *
    refine loopN [(53, 34)] (α := Nat) (fun m => [(12, vb ((s.take m).all (geB s[k].p))), (13, vb ((s.take m).all (leB s[k'].p))), (14, vi (m : Int))]) (fun m => []) (fun m => s.length - m) (fun m => m ≤ s.length) (x0 := 0) (h0 := by first | omega | simp | (refine ⟨?_, ?_⟩ <;> first | omega | simp)) (hr := ?_)
    intro m hI
    refine nrmL (k := ?_)
    repeat refine w1 (k := ?_)
    refine condN (h1 := fun h => ?_) (h0 := fun h => ?_)
    ·
      have hm : m < s.length := by omega
      have a1 := all_take s (geB s[k].p) m hm
      have a2 := all_take s (leB s[k'].p) m hm
      cases h1 : (s.take m).all (geB s[k].p) with
      | true =>
        rw [h1, Bool.true_and] at a1
        cases h2 : (s.take m).all (leB s[k'].p) with
        | true =>
          rw [h2, Bool.true_and] at a2
          repeat refine w1 (k := ?_)
          refine ⟨m + 1, by omega, by first | omega | (refine ⟨?_, ?_⟩ <;> omega), ?_⟩
          rw [a1, a2]
          exact frg
        | false =>
          rw [h2, Bool.false_and] at a2
          repeat refine w1 (k := ?_)
          refine ⟨m + 1, by omega, by first | omega | (refine ⟨?_, ?_⟩ <;> omega), ?_⟩
          rw [a1, a2]
          exact frg
      | false =>
        rw [h1, Bool.false_and] at a1
        cases h2 : (s.take m).all (leB s[k'].p) with
        | true =>
          rw [h2, Bool.true_and] at a2
          repeat refine w1 (k := ?_)
          refine ⟨m + 1, by omega, by first | omega | (refine ⟨?_, ?_⟩ <;> omega), ?_⟩
          rw [a1, a2]
          exact frg
        | false =>
          rw [h2, Bool.false_and] at a2
          repeat refine w1 (k := ?_)
          refine ⟨m + 1, by omega, by first | omega | (refine ⟨?_, ?_⟩ <;> omega), ?_⟩
          rw [a1, a2]
          exact frg
    ·
      repeat refine w1 (k := ?_)
      rw [List.take_of_length_le (show s.length ≤ m by omega)]
      have e1 := hgh_set s4 (by omega) hk hi (w := v) (by omega)
      have e2 := hgh_set s4 (by omega) hk' hi' (w := v) (by omega)
      have g1 := ifp_mono hpp (terW v) s
      have e3 : blkA s (k : Int) = blkI s s[k].p := by unfold blkA; rw [if_pos hi, pAt_nat s k hk]
      have e4 : blkA s (k' : Int) = blkI s s[k'].p := by unfold blkA; rw [if_pos hi', pAt_nat s k' hk']
      have g2 := blkI_mono hpp s
      refine callN (hc := by exact higherD_ac s (k : Int) v (by omega) s2 s3) (h := ?_)
      repeat refine w1 (k := ?_)
      refine callN (hc := by exact higherD_ac s (k' : Int) v (by omega) s2 s3) (h := ?_)
      repeat refine w1 (k := ?_)
      refine callN (hc := by exact block_ac s (k : Int) s2 s3) (h := ?_)
      repeat refine w1 (k := ?_)
      refine callN (hc := by exact block_ac s (k' : Int) s2 s3) (h := ?_)
      repeat refine w1 (k := ?_)
      cases b1 : s.all (geB s[k].p) with
      | true =>
        have z1 : hghA s (k : Int) v = 0 := by
          rw [e1]
          refine hs_zero fun t ht => ?_
          have := List.all_eq_true.1 b1 t ht
          unfold geB at this
          unfold ifp
          rw [if_neg (by simpa using this)]
        repeat refine w1 (k := ?_)
        refine callN (hc := by exact higherD_ac s (k : Int) v (by omega) s2 s3) (h := ?_)
        repeat refine w1 (k := ?_)
        rw [z1]
        repeat refine w1 (k := ?_)
        cases b2 : s.all (leB s[k'].p) with
        | true =>
          have z2 : blkA s (k' : Int) = 0 := by
            rw [e4]
            refine blkI_zero fun t ht => ?_
            have := List.all_eq_true.1 b2 t ht
            unfold leB at this
            simpa using this
          repeat refine w1 (k := ?_)
          refine callN (hc := by exact block_ac s (k' : Int) s2 s3) (h := ?_)
          repeat refine w1 (k := ?_)
          rw [z2]
          repeat refine w1 (k := ?_)
          exact ⟨[.c _], .cons (.tmp rfl) .nil, rfl⟩
        | false =>
          repeat refine w1 (k := ?_)
          exact ⟨[.c _], .cons (.tmp rfl) .nil, rfl⟩
      | false =>
        repeat refine w1 (k := ?_)
        cases b2 : s.all (leB s[k'].p) with
        | true =>
          have z2 : blkA s (k' : Int) = 0 := by
            rw [e4]
            refine blkI_zero fun t ht => ?_
            have := List.all_eq_true.1 b2 t ht
            unfold leB at this
            simpa using this
          repeat refine w1 (k := ?_)
          refine callN (hc := by exact block_ac s (k' : Int) s2 s3) (h := ?_)
          repeat refine w1 (k := ?_)
          rw [z2]
          repeat refine w1 (k := ?_)
          exact ⟨[.c _], .cons (.tmp rfl) .nil, rfl⟩
        | false =>
          repeat refine w1 (k := ?_)
          exact ⟨[.c _], .cons (.tmp rfl) .nil, rfl⟩
theorem durgent_top (sp : List Sp) (q : List Int) (w : Int) (hl : sp.length ≤ maxLen) (hq : q.length = 2) (hw : 0 ≤ w ∧ w < 18446744073709551616) : AC Tryd.prog GL 5 [fro spP sp, .pag (intsP q), vu w] [] (fun r _ => r = vb true) := by
  obtain ⟨x, y, rfl⟩ := two_ hq
  obtain ⟨w, rfl⟩ := Int.eq_ofNat_of_zero_le hw.1
  exact durgent_ac sp x y w hl (by omega)
