/- TaskSplits. -/
import Derived.Test.YtcheokfoilcdoaaDoorU13
set_option linter.all false
set_option maxRecDepth 2000
set_option maxHeartbeats 8000000
namespace Go.Proofs.Vl
open Go Go.RowKit
attribute [local irreducible] AWp OpTo Run DL Val UN DR AC Le thn inb nog
attribute [local irreducible] els nxO
theorem splits_ac (sp : List Sp) (n : Int) (hl : sp.length ≤ maxLen) : AC Tryd.prog GL 4 [fro spP sp, vi n] [] (fun r _ => r = vb true) := by
  refine AC.body' Tryd.func4 Tryd.ntmps4 rfl ?_
  intro cx hd hG
  refine nrmL (k := ?_)
  repeat refine w1 (k := ?_)
  obtain ⟨w0, fz0, β0, df, G0⟩ := cx
  obtain rfl : G0 = GL := hG
  refine callN (hc := by exact awake_ac _) (h := ?_)
  repeat refine w1 (k := ?_)
  refine OpTo.callO (by rfl) (by rfl) (by rfl) (by rfl) (set_ac _ sp 8 n hl (by decide) (by decide)) ?_
  rintro r os' ⟨rfl, hf⟩
  refine ⟨_, .row rfl hf (tkP_ok _ _) (by decide) rfl, ?_⟩
  have s1 := set_b sp 8 n hl (by decide)
  have ap := set_apart sp n hl
  generalize setL sp 8 n = s at s1 ap ⊢
  have hm : s.length ≤ maxLen := by rw [maxLen]; omega
  refine nrm (k := ?_)
  repeat refine w1 (k := ?_)
  first | refine zA 15 (h := ?_) | refine zO 15 (h := ?_) | refine zL 15 (h := ?_) | refine zL3 15 (h := ?_)
  refine nrm (k := ?_)
  repeat refine w1 (k := ?_)
  refine callN (hc := by exact rest_ac _ _ _ (by omega) (by omega)) (h := ?_)
  repeat refine w1 (k := ?_)
  have g := emod_b n (s.length : Int) (by omega)
  obtain ⟨k, ek⟩ := Int.eq_ofNat_of_zero_le g.1
  rw [ek]
  have hk : k < s.length := by omega
  have hol := ordL_len s
  have pk := pAtI_nat s k hk
  have hat : isAt s (k : Int) = true := by unfold isAt; simp [hk]
  have eH : hiF s (k : Int) = fun t => decide (t.p < s[k].p) := by funext t; unfold hiF; rw [hat, pk]; simp
  have eL : loF s (k : Int) = fun t => decide (t.p > s[k].p) := by funext t; unfold loF; rw [hat, pk]; simp
  have hH := higherA_ac GL s (k : Int) hm
  have hL := lowerA_ac GL s (k : Int) hm
  rw [eH] at hH
  rw [eL] at hL
  repeat refine w1 (k := ?_)
  refine callN (hc := by exact hH) (h := ?_)
  repeat refine w1 (k := ?_)
  refine callN (hc := by exact hL) (h := ?_)
  repeat refine w1 (k := ?_)
  obtain ⟨hr1, hr2⟩ := ordL_rank s k hk
  have c1 := cntor_apart ap hk
  have c2 := cnt_apart ap hk
  have c3 := rank_apart ap hk
  have bH := bits_lt s (fun t => decide (t.p < s[k].p))
  have bL := bits_lt s (fun t => decide (t.p > s[k].p))
  have mb := minus_bits s (fun t => decide (t.p < s[k].p)) (fun t => decide (t.p > s[k].p)) (fun t h => by simp only [decide_eq_true_eq, decide_eq_false_iff_not] at h ⊢; omega)
  have ob := or_bits s (fun t => decide (t.p < s[k].p)) (fun t => decide (t.p > s[k].p))
  have hb := has_bits s (fun t => decide (t.p < s[k].p) || decide (t.p > s[k].p)) k hk (by omega)
  have lb := len_bits s (fun t => decide (t.p < s[k].p) || decide (t.p > s[k].p)) (by omega)
  have lh := len_bits s (fun t => decide (t.p < s[k].p)) (by omega)
  rw [← c3] at lh
  generalize bitsN s (fun t => decide (t.p < s[k].p)) s.length = H at *
  generalize bitsN s (fun t => decide (t.p > s[k].p)) s.length = L at *
  refine callRowN (hc := by exact order_ac _ s (by omega) ) (hso := by exact  pvI_ok _) (h := ?_)
  iterate 4 refine w1 (k := ?_)
  first | refine zA 27 (h := ?_) | refine zO 27 (h := ?_) | refine zL 27 (h := ?_) | refine zL3 27 (h := ?_)
  refine nrm (k := ?_)
  repeat refine w1 (k := ?_)
  simp only [List.length_map, hol, bne_self_eq_false]
  repeat refine w1 (k := ?_)
  refine callN (hc := by exact or_ac _ H L bL) (h := ?_)
  repeat refine w1 (k := ?_)
  refine callN (hc := by exact has_ac _ _ (k : Int)) (h := ?_)
  repeat refine w1 (k := ?_)
  rw [ob, hb, show (decide (s[k].p < s[k].p) || decide (s[k].p > s[k].p)) = false by simp]
  repeat refine w1 (k := ?_)
  simp only [List.length_map]
  refine DL.takeG 2 rfl (by decide +kernel) rfl rfl rfl (by first | with_reducible rfl | decide) (Val.subI rfl rfl rfl rfl ⟨by omega, by omega⟩) ?_
  refine nrm (k := ?_)
  repeat refine w1 (k := ?_)
  refine callN (hc := by exact or_ac _ H L bL) (h := ?_)
  repeat refine w1 (k := ?_)
  refine callN (hc := by exact mlen_ac _) (h := ?_)
  repeat refine w1 (k := ?_)
  rw [ob, lb, show (((s.countP (fun t => decide (t.p < s[k].p) || decide (t.p > s[k].p)) : Nat) : Int) != (s.length : Int) - 1) = false by rw [bne_eq_false_iff_eq]; omega]
  repeat refine w1 (k := ?_)
  repeat (first | (refine DL.takeG 0 rfl (by decide +kernel) rfl rfl rfl (by first | with_reducible rfl | decide) (Val.ldF rfl rfl rfl rfl) ?_; refine nrm (k := ?_)) | (refine DL.takeG 1 rfl (by decide +kernel) rfl rfl rfl (by first | with_reducible rfl | decide) (Val.ldF rfl rfl rfl rfl) ?_; refine nrm (k := ?_)) | (refine DL.takeG 2 rfl (by decide +kernel) rfl rfl rfl (by first | with_reducible rfl | decide) (Val.ldF rfl rfl rfl rfl) ?_; refine nrm (k := ?_)) | (refine DL.takeG 3 rfl (by decide +kernel) rfl rfl rfl (by first | with_reducible rfl | decide) (Val.ldF rfl rfl rfl rfl) ?_; refine nrm (k := ?_)) | (refine DL.takeG 4 rfl (by decide +kernel) rfl rfl rfl (by first | with_reducible rfl | decide) (Val.ldF rfl rfl rfl rfl) ?_; refine nrm (k := ?_)) | (refine DL.takeG 5 rfl (by decide +kernel) rfl rfl rfl (by first | with_reducible rfl | decide) (Val.ldF rfl rfl rfl rfl) ?_; refine nrm (k := ?_)) | (refine DL.takeG 6 rfl (by decide +kernel) rfl rfl rfl (by first | with_reducible rfl | decide) (Val.ldF rfl rfl rfl rfl) ?_; refine nrm (k := ?_)) | (refine DL.takeG 7 rfl (by decide +kernel) rfl rfl rfl (by first | with_reducible rfl | decide) (Val.ldF rfl rfl rfl rfl) ?_; refine nrm (k := ?_)) | (refine DL.takeG 8 rfl (by decide +kernel) rfl rfl rfl (by first | with_reducible rfl | decide) (Val.ldF rfl rfl rfl rfl) ?_; refine nrm (k := ?_)))
  repeat refine w1 (k := ?_)
  refine callN (hc := by exact minus_ac _ H L bL) (h := ?_)
  repeat refine w1 (k := ?_)
  rw [mb]
  first | refine ofN (hv := by exact Val.neS bH bH rfl rfl rfl rfl) (h := ?_) | refine dlN (hv := by exact Val.neS bH bH rfl rfl rfl rfl) (h := ?_) | refine dlgN (hv := by exact Val.neS bH bH rfl rfl rfl rfl) (h := ?_) | refine ofN (hv := by exact Val.neS bH bH rfl rfl rfl rfl) (h := ?_)
  rw [decide_eq_true rfl, Bool.not_true]
  repeat refine w1 (k := ?_)
  repeat (first | (refine DL.takeG 0 rfl (by decide +kernel) rfl rfl rfl (by first | with_reducible rfl | decide) (Val.ldF rfl rfl rfl rfl) ?_; refine nrm (k := ?_)) | (refine DL.takeG 1 rfl (by decide +kernel) rfl rfl rfl (by first | with_reducible rfl | decide) (Val.ldF rfl rfl rfl rfl) ?_; refine nrm (k := ?_)) | (refine DL.takeG 2 rfl (by decide +kernel) rfl rfl rfl (by first | with_reducible rfl | decide) (Val.ldF rfl rfl rfl rfl) ?_; refine nrm (k := ?_)) | (refine DL.takeG 3 rfl (by decide +kernel) rfl rfl rfl (by first | with_reducible rfl | decide) (Val.ldF rfl rfl rfl rfl) ?_; refine nrm (k := ?_)) | (refine DL.takeG 4 rfl (by decide +kernel) rfl rfl rfl (by first | with_reducible rfl | decide) (Val.ldF rfl rfl rfl rfl) ?_; refine nrm (k := ?_)) | (refine DL.takeG 5 rfl (by decide +kernel) rfl rfl rfl (by first | with_reducible rfl | decide) (Val.ldF rfl rfl rfl rfl) ?_; refine nrm (k := ?_)) | (refine DL.takeG 6 rfl (by decide +kernel) rfl rfl rfl (by first | with_reducible rfl | decide) (Val.ldF rfl rfl rfl rfl) ?_; refine nrm (k := ?_)) | (refine DL.takeG 7 rfl (by decide +kernel) rfl rfl rfl (by first | with_reducible rfl | decide) (Val.ldF rfl rfl rfl rfl) ?_; refine nrm (k := ?_)) | (refine DL.takeG 8 rfl (by decide +kernel) rfl rfl rfl (by first | with_reducible rfl | decide) (Val.ldF rfl rfl rfl rfl) ?_; refine nrm (k := ?_)))
  repeat refine w1 (k := ?_)
  have hr3 : (ordL s)[(els H).length]'(by omega) = (k : Int) := by simp only [lh]; exact hr2
  refine callN (hc := by exact mlen_ac _) (h := ?_)
  repeat refine w1 (k := ?_)
  rw [hr3]
  simp only [bne_self_eq_false]
  repeat refine w1 (k := ?_)
  refine loopN [(4, 1), (66, 73)] (α := Nat) (fun i => [(11, vi (i : Int))]) (fun i => [(8, .pcells 31 (setP H)), (9, .pcells 31 (setP L))]) (fun i => s.length - i) (fun i => 1 ≤ i ∧ i ≤ s.length) (x0 := 1) (h0 := by first | omega | simp | (refine ⟨?_, ?_⟩ <;> first | omega | simp)) (hr := ?_)
  intro i hI
  refine nrmL (k := ?_)
  repeat refine w1 (k := ?_)
  refine condN (h1 := fun h => ?_) (h0 := fun h => ?_)
  ·
    obtain ⟨i, rfl⟩ : ∃ m, i = m + 1 := ⟨i - 1, by omega⟩
    have hi1 : i + 1 < (ordL s).length := by omega
    have hi0 : i < (ordL s).length := by omega
    obtain ⟨b, hb1, hb2, hb3⟩ := ordL_at s (i + 1) hi1
    obtain ⟨a, ha1, ha2, ha3⟩ := ordL_at s i hi0
    have hlt := rank_lt ap ha1 hb1 (by omega)
    have d2 := cnt_apart ap ha1
    have d3 := rank_apart ap ha1
    have pa := pAtI_nat s a ha1
    have hata : isAt s (a : Int) = true := by unfold isAt; simp [ha1]
    have eLa : loF s (a : Int) = fun t => decide (t.p > s[a].p) := by funext t; unfold loF; rw [hata, pa]; simp
    have hLa := lowerA_ac GL s (a : Int) hm
    rw [eLa] at hLa
    have lla := len_bits s (fun t => decide (t.p > s[a].p)) (by omega)
    have b0 : decide ((b : Int) < 0) = false := decide_eq_false (by omega)
    have a0 : decide ((a : Int) < 0) = false := decide_eq_false (by omega)
    have bl : decide ((b : Int) ≥ (s.length : Int)) = false := decide_eq_false (by omega)
    have al : decide ((a : Int) ≥ (s.length : Int)) = false := decide_eq_false (by omega)
    have pl : decide (s[a].p ≥ s[b].p) = false := decide_eq_false (by omega)
    have im : ((i + 1 : Nat) : Int) - 1 = (i : Int) := by omega
    repeat refine w1 (k := ?_)
    simp only [hb2, b0]
    repeat refine w1 (k := ?_)
    simp only [hb2, List.length_map, bl]
    repeat refine w1 (k := ?_)
    simp only [im]
    repeat refine w1 (k := ?_)
    simp only [ha2, a0]
    repeat refine w1 (k := ?_)
    simp only [im]
    repeat refine w1 (k := ?_)
    simp only [ha2, List.length_map, al]
    repeat refine w1 (k := ?_)
    simp only [im]
    repeat refine w1 (k := ?_)
    simp only [ha2]
    repeat refine w1 (k := ?_)
    simp only [hb2]
    repeat refine w1 (k := ?_)
    simp only [pl]
    repeat refine w1 (k := ?_)
    simp only [im]
    repeat refine w1 (k := ?_)
    simp only [ha2]
    repeat refine w1 (k := ?_)
    simp only [List.length_map]
    refine DL.takeG 2 rfl (by decide +kernel) rfl rfl rfl (by first | with_reducible rfl | decide) (Val.subI rfl rfl rfl rfl ⟨by omega, by omega⟩) ?_
    refine nrm (k := ?_)
    repeat refine w1 (k := ?_)
    refine callN (hc := by exact hLa) (h := ?_)
    repeat refine w1 (k := ?_)
    refine callN (hc := by exact mlen_ac _) (h := ?_)
    repeat refine w1 (k := ?_)
    rw [lla, show (((s.countP (fun t => decide (t.p > s[a].p)) : Nat) : Int) != (s.length : Int) - ((i + 1 : Nat) : Int)) = false by rw [bne_eq_false_iff_eq]; omega]
    repeat refine w1 (k := ?_)
    refine ⟨i + 1 + 1, by omega, by first | omega | (refine ⟨?_, ?_⟩ <;> omega), frg⟩
  ·
    repeat refine w1 (k := ?_)
    exact ⟨[.c _], .cons (.tmp rfl) .nil, rfl⟩
