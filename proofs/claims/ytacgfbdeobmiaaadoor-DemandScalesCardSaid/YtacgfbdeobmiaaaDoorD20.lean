/- DemandScales, walked. -/
import Derived.Test.YtacgfbdeobmiaaaDoorD19
set_option linter.all false
set_option maxRecDepth 2000
set_option maxHeartbeats 8000000
namespace Go.Proofs.Vl
open Go Go.RowKit
attribute [local irreducible] AWp OpTo Run DL Val UN DR AC Le thn inb nog
attribute [local irreducible] els nxO
theorem big_is {s : List Tk} (hl : 1 ≤ s.length ∧ s.length ≤ 6) (h : ∀ t ∈ s, Sml t) (hc : ∀ t ∈ s, chkT t = 0) (hd : ∀ i j (hi : i < s.length) (hj : j < s.length), i ≠ j → s[i].p ≠ s[j].p ∧ s[i].nm ≠ s[j].nm) {K : Int} (h1 : 1 ≤ K) (h2 : K ≤ 33554432) (k : Nat) (hk : k < s.length) : isB (s.map (bigT K)) (k : Int) = true := by
  have e : allI (s.map (bigT K)) = (((s.map (bigT K)).length : Int), 0) := all_fine _ (by simp; omega) (by simp; omega) fun i hi => by
    have hi' : i < s.length := by simpa using hi
    rw [List.getElem_map]
    refine ⟨big_chk (h _ (List.getElem_mem hi')) (hc _ (List.getElem_mem hi')) h1 h2, fun j hj hji => ?_⟩
    have hj' : j < s.length := by simpa using hj
    rw [List.getElem_map]
    have := hd j i hj' hi' (by omega)
    exact ⟨this.2, this.1⟩
  unfold isB
  rw [e]
  simp; omega
theorem dscales_ac (sp : List Sp) (x y n : Int) (hl : sp.length ≤ maxLen) : AC Tryd.prog GL 6 [fro spP sp, .pag [.s (.int .i64 x), .s (.int .i64 y)], vi n] [] (fun r _ => r = vb true) := by
  refine AC.body' Tryd.func6 Tryd.ntmps6 rfl ?_
  intro cx hd hG
  refine nrmL (k := ?_)
  repeat refine w1 (k := ?_)
  obtain ⟨w0, fz0, β0, df, G0⟩ := cx
  obtain rfl : G0 = GL := hG
  refine callN (hc := by exact awake_ac) (h := ?_)
  repeat refine w1 (k := ?_)
  refine OpTo.callO (by rfl) (by rfl) (by rfl) (by rfl) (set_ac _ sp 6 x hl (by decide) (by decide)) ?_
  rintro r os' ⟨rfl, hf⟩
  refine ⟨_, .row rfl hf (tkP_ok _ _) (by decide) rfl, ?_⟩
  have s1 := set_b sp 6 x hl (by decide)
  have s2 := set_nm2 sp 6 x
  have s4 := set_sml sp 6 x hl ⟨by decide, by decide⟩
  have s5 := set_is sp 6 x hl ⟨by decide, by decide⟩
  have s9 := set_small sp 6 x
  obtain ⟨s6, s7⟩ := set_fine sp 6 x hl ⟨by decide, by decide⟩
  generalize setL sp 6 x = s at s1 s2 s4 s5 s6 s7 s9 ⊢
  have s8 := chk_all (by rw [s6])
  have s3 : s.length ≤ maxLen := by rw [maxLen]; omega
  refine nrm (k := ?_)
  repeat refine w1 (k := ?_)
  first | refine zA 21 (h := ?_) | refine zO 21 (h := ?_) | refine zL 21 (h := ?_) | refine zL3 21 (h := ?_)
  refine nrm (k := ?_)
  repeat refine w1 (k := ?_)
  refine callN (hc := by exact rest13_ac _ _ _ (by omega) (by omega)) (h := ?_)
  repeat refine w1 (k := ?_)
  have g := emod_b x (s.length : Int) (by omega)
  obtain ⟨k, ek⟩ := Int.eq_ofNat_of_zero_le g.1
  rw [ek]
  have hk : k < s.length := by omega
  have hi := s5 k hk
  have gy := emod_b y 61 (by decide)
  repeat refine w1 (k := ?_)
  refine callN (hc := by exact rest13_ac _ y 61 (by omega) (by omega)) (h := ?_)
  repeat refine w1 (k := ?_)
  rw [and25]
  obtain ⟨K, eK⟩ := Int.eq_ofNat_of_zero_le (show 0 ≤ 1 + n % 33554432 by omega)
  have hK : 1 ≤ K ∧ K ≤ 33554432 := by omega
  obtain ⟨v, ev⟩ := Int.eq_ofNat_of_zero_le gy.1
  have hv : v ≤ 60 := by omega
  have hgr := great_ac GL s n s9 (by omega)
  have hbig : bigL s n = s.map (bigT (K : Int)) := by rw [bigL, eK]
  rw [hbig] at hgr
  have b1 : ∀ t ∈ s.map (bigT (K : Int)), t.nm.size ≤ maxLen := by rw [← hbig]; exact bigL_nm n s2
  have b2 : (s.map (bigT (K : Int))).length = s.length := by simp
  have hi' := big_is ⟨s1.1, by omega⟩ s4 s8 s7 (K := (K : Int)) (by omega) (by omega) k hk
  obtain ⟨e1, e2⟩ := big_hgh s4 (by omega) hk hi hK.1 hK.2 hi' hv
  have hk2 : k < (s.map (bigT (K : Int))).length := by rw [b2]; exact hk
  have hqs : ∀ t ∈ s, 1 ≤ t.q := fun t ht => (s4 t ht).hq.1
  have hqb : ∀ t ∈ s.map (bigT (K : Int)), 1 ≤ t.q := fun t ht => by
    obtain ⟨u, hu, rfl⟩ := List.mem_map.1 ht
    have := Int.mul_le_mul (hqs u hu) (show 1 ≤ (K : Int) by omega) (by decide) (by have := hqs u hu; omega)
    show 1 ≤ u.q * (K : Int)
    omega
  have e3 : blkA s (k : Int) = blkI s s[k].p := by unfold blkA; rw [if_pos hi, pAt_nat s k hk]
  have e4 : blkA (s.map (bigT (K : Int))) (k : Int) = blkI (s.map (bigT (K : Int))) s[k].p := by unfold blkA; rw [if_pos hi', pAt_nat _ k hk2]; simp [bigT]
  rw [(blk_qmx hqs s[k].p).1] at e3
  rw [(blk_qmx hqb s[k].p).1, qmx_big s s[k].p (K : Int) (by omega)] at e4
  have hqm := qmx_b s4 s[k].p
  have hqK := mul_b (a := qmx s s[k].p) (k := (K : Int)) ⟨hqm.1, by omega⟩ (by omega) (by omega)
  have hvK : v * K ≤ 60 * 33554432 := Nat.mul_le_mul hv hK.2
  have hhK : hghA s (k : Int) v * K ≤ 2400 * 33554432 := Nat.mul_le_mul e2 hK.2
  have hvK' : (v : Int) * (K : Int) = ((v * K : Nat) : Int) := (Int.natCast_mul v K).symm
  have hhK' : ((hghA s (k : Int) v : Nat) : Int) * (K : Int) = ((hghA s (k : Int) v * K : Nat) : Int) := (Int.natCast_mul _ K).symm
  rw [eK, show IntKind.i64.wrap (K : Int) = (K : Int) from wrap_id (by omega) (by omega), wrapN K (by omega), ev]
  refine callRowN (hc := by exact hgr ) (hso := by exact  tkP_ok _ _) (h := ?_)
  repeat refine w1 (k := ?_)
  first | refine zA 37 (h := ?_) | refine zO 37 (h := ?_) | refine zL 37 (h := ?_) | refine zL3 37 (h := ?_)
  refine nrm (k := ?_)
  repeat refine w1 (k := ?_)
  refine callN (hc := by exact block_ac s (k : Int) s2 s3) (h := ?_)
  repeat refine w1 (k := ?_)
  refine callN (hc := by exact block_ac (s.map (bigT (K : Int))) (k : Int) b1 (by omega)) (h := ?_)
  repeat refine w1 (k := ?_)
  refine cutIN [(16, 1), (44, 24)] (α := Unit) (fun u => [(15, vi (qmx s s[k].p))]) (fun u => [(4, .pcells 39 [.s (.int .i64 x), .s (.int .i64 y)])]) (fun u => True) ?_ (fun u hI => ?_)
  ·
    refine loopN [(44, 24)] (α := Nat) (fun j => [(15, vi (qmx (s.take j) s[k].p)), (16, vi (j : Int))]) (fun j => [(4, .pcells 39 [.s (.int .i64 x), .s (.int .i64 y)])]) (fun j => s.length - j) (fun j => j ≤ s.length) (x0 := 0) (h0 := by first | omega | simp | (refine ⟨?_, ?_⟩ <;> first | omega | simp)) (hr := ?_)
    intro j hI
    refine nrmL (k := ?_)
    repeat refine w1 (k := ?_)
    refine condN (h1 := fun h => ?_) (h0 := fun h => ?_)
    ·
      have hj : j < s.length := by omega
      have t1 := qmx_take s s[k].p j hj
      repeat refine w1 (k := ?_)
      refine condN (h1 := fun h2 => ?_) (h0 := fun h2 => ?_)
      ·
        rw [if_pos (by simpa using h2)] at t1
        repeat refine w1 (k := ?_)
        rw [show (if s[j].q > qmx (s.take j) s[k].p then s[j].q else qmx (s.take j) s[k].p) = qmx (s.take (j + 1)) s[k].p from t1.symm]
        refine ⟨j + 1, by omega, by first | omega | (refine ⟨?_, ?_⟩ <;> omega), frg⟩
      ·
        rw [if_neg (by simpa using h2)] at t1
        repeat refine w1 (k := ?_)
        rw [← t1]
        refine ⟨j + 1, by omega, by first | omega | (refine ⟨?_, ?_⟩ <;> omega), frg⟩
    ·
      repeat refine w1 (k := ?_)
      rw [List.take_of_length_le (show s.length ≤ j by omega)]
      refine ⟨(), by trivial, frg⟩
  ·
    refine nrmL (k := ?_)
    repeat refine w1 (k := ?_)
    rw [hvK']
    refine callN (hc := by exact higherD_ac (s.map (bigT (K : Int))) (k : Int) (v * K) (by omega) b1 (by omega)) (h := ?_)
    repeat refine w1 (k := ?_)
    rw [e1]
    refine callN (hc := by exact higherD_ac s (k : Int) v (by omega) s2 s3) (h := ?_)
    repeat refine w1 (k := ?_)
    refine ⟨[.c _], .cons (.tmp rfl) .nil, ?_⟩
    rw [e4, beq_self_eq_true]; rfl
theorem dscales_top (sp : List Sp) (q : List Int) (n : Int) (hl : sp.length ≤ maxLen) (hq : q.length = 2) : AC Tryd.prog GL 6 [fro spP sp, .pag (intsP q), vi n] [] (fun r _ => r = vb true) := by
  obtain ⟨x, y, rfl⟩ := two_ hq
  exact dscales_ac sp x y n hl
