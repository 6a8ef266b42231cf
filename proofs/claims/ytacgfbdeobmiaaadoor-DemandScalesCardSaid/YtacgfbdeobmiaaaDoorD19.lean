/- DemandScales. -/
import Derived.Test.YtacgfbdeobmiaaaDoorD18
set_option linter.all false
set_option maxRecDepth 2000
set_option maxHeartbeats 8000000
namespace Go.Proofs.Vl
open Go Go.RowKit
attribute [local irreducible] AWp OpTo Run DL Val UN DR AC Le thn inb nog
attribute [local irreducible] els nxO
def qmx (l : List Tk) (p : Int) : Int := l.foldl (fun a t => if decide (t.p > p) then mxI a t.q else a) 0
theorem blk_qmx {l : List Tk} (h : ∀ t ∈ l, 1 ≤ t.q) (p : Int) : blkI l p = (if 0 > qmx l p - 1 then 0 else qmx l p - 1) ∧ 0 ≤ qmx l p := by
  unfold blkI qmx
  suffices ∀ (m : List Tk) (a b : Int), (∀ t ∈ m, 1 ≤ t.q) → 0 ≤ b → a = (if 0 > b - 1 then 0 else b - 1) → m.foldl (fun a t => if decide (t.p > p) then mxI a (t.q - 1) else a) a = (if 0 > m.foldl (fun a t => if decide (t.p > p) then mxI a t.q else a) b - 1 then 0 else m.foldl (fun a t => if decide (t.p > p) then mxI a t.q else a) b - 1) ∧ 0 ≤ m.foldl (fun a t => if decide (t.p > p) then mxI a t.q else a) b from this l 0 0 h (by decide) (by decide)
  intro m
  induction m with
  | nil => exact fun a b _ hb h => ⟨h, hb⟩
  | cons t m ih =>
    intro a b hm hb hab
    rw [List.foldl_cons, List.foldl_cons]
    have hq := hm t List.mem_cons_self
    refine ih _ _ (fun u hu => hm u (List.mem_cons_of_mem _ hu)) ?_ ?_
    · unfold mxI; split
      · split <;> omega
      · exact hb
    · by_cases hp : decide (t.p > p) = true
      · rw [if_pos hp, if_pos hp]
        unfold mxI
        split at hab <;> (repeat' split) <;> omega
      · rw [if_neg hp, if_neg hp]; exact hab
theorem qmx_big (l : List Tk) (p K : Int) (hK : 1 ≤ K) : qmx (l.map (bigT K)) p = qmx l p * K := by
  unfold qmx
  suffices ∀ (m : List Tk) (b : Int), (m.map (bigT K)).foldl (fun a t => if decide (t.p > p) then mxI a t.q else a) (b * K) = m.foldl (fun a t => if decide (t.p > p) then mxI a t.q else a) b * K by
    have := this l 0
    rwa [Int.zero_mul] at this
  intro m
  induction m with
  | nil => exact fun b => rfl
  | cons t m ih =>
    intro b
    rw [List.map_cons, List.foldl_cons, List.foldl_cons, ← ih]
    congr 1
    show (if decide (t.p > p) then mxI (b * K) (t.q * K) else b * K) = (if decide (t.p > p) then mxI b t.q else b) * K
    by_cases hp : decide (t.p > p) = true
    · rw [if_pos hp, if_pos hp]
      unfold mxI
      by_cases h : t.q > b
      · rw [if_pos h, if_pos (Int.mul_lt_mul_of_pos_right h (by omega))]
      · rw [if_neg h, if_neg]
        have := Int.mul_le_mul_of_nonneg_right (show t.q ≤ b by omega) (show 0 ≤ K by omega)
        omega
    · rw [if_neg hp, if_neg hp]
theorem qmx_b {l : List Tk} (h : ∀ t ∈ l, Sml t) (p : Int) : 0 ≤ qmx l p ∧ qmx l p ≤ 4 := by
  unfold qmx
  suffices ∀ (m : List Tk) (b : Int), (∀ t ∈ m, Sml t) → 0 ≤ b ∧ b ≤ 4 → 0 ≤ m.foldl (fun a t => if decide (t.p > p) then mxI a t.q else a) b ∧ m.foldl (fun a t => if decide (t.p > p) then mxI a t.q else a) b ≤ 4 from this l 0 h ⟨by decide, by decide⟩
  intro m
  induction m with
  | nil => exact fun b _ h => h
  | cons t m ih =>
    intro b hm hb
    rw [List.foldl_cons]
    have hq := (hm t List.mem_cons_self).hq
    have hc := (hm t List.mem_cons_self).hc
    refine ih _ (fun u hu => hm u (List.mem_cons_of_mem _ hu)) ?_
    unfold mxI
    split
    · split <;> omega
    · exact hb
theorem qmx_take (l : List Tk) (p : Int) (j : Nat) (h : j < l.length) : qmx (l.take (j + 1)) p = if decide (l[j].p > p) then mxI (qmx (l.take j) p) l[j].q else qmx (l.take j) p := by
  unfold qmx; rw [List.take_succ_eq_append_getElem h, List.foldl_append]; rfl
theorem big_chk {t : Tk} (hs : Sml t) (h : chkT t = 0) {K : Int} (h1 : 1 ≤ K) (h2 : K ≤ 33554432) : chkT (bigT K t) = 0 := by
  obtain ⟨hc, ht, hd, hj, hq, hp⟩ := hs
  have hw : wordB (bys t.nm) = true ∧ t.nm.size ≤ 32 := by
    unfold chkT chkI at h
    by_cases hr : rngB t.nm t.c t.t t.d t.j t.q t.p = true
    · have := (rng_iff ..).1 hr
      exact ⟨this.1, this.2.1⟩
    · rw [if_neg hr] at h; cases h
  have k0 : 0 ≤ K := by omega
  have m1 : ∀ a : Int, 1 ≤ a → a ≤ 20 → 1 ≤ a * K ∧ a * K ≤ 671088640 := fun a ha hb => by
    have h3 := Int.mul_le_mul ha h1 (by decide) (by omega)
    have h4 := Int.mul_le_mul hb h2 (by omega) (by decide)
    omega
  have m2 := Int.mul_le_mul_of_nonneg_right hq.2 k0
  have m3 := Int.mul_le_mul_of_nonneg_right hd.1 k0
  have m4 := Int.mul_le_mul_of_nonneg_right hd.2 k0
  have m5 := Int.mul_nonneg hj k0
  rw [Int.add_mul] at m3
  have c1 := m1 t.c (by omega) (by omega)
  have c2 := m1 t.t (by omega) (by omega)
  have c3 := m1 t.d (by omega) (by omega)
  have c4 := m1 t.q (by omega) (by omega)
  show chkI t.nm (t.c * K) (t.t * K) (t.d * K) (t.j * K) (t.q * K) t.p = 0
  rw [chk_fit hw.1 (by unfold ariP; omega), if_pos (by omega)]
theorem terN_big {t : Tk} (hs : Sml t) (w K : Nat) (hK : 1 ≤ K) : terN (bigT K t) (w * K) = terN t w * K := by
  obtain ⟨hc, ht, hd, hj, hq, hp⟩ := hs
  obtain ⟨c, ec⟩ := Int.eq_ofNat_of_zero_le (show 0 ≤ t.c by omega)
  obtain ⟨tt, et⟩ := Int.eq_ofNat_of_zero_le (show 0 ≤ t.t by omega)
  obtain ⟨j, ej⟩ := Int.eq_ofNat_of_zero_le hj
  unfold terN
  show ceilN (w * K + (t.j * (K : Int)).toNat) (t.t * (K : Int)).toNat * (t.c * (K : Int)).toNat = ceilN (w + t.j.toNat) t.t.toNat * t.c.toNat * K
  rw [ec, et, ej, ← Int.natCast_mul, ← Int.natCast_mul, ← Int.natCast_mul]
  simp only [Int.toNat_natCast]
  rw [← Nat.add_mul, ceilN_scale _ _ _ hK, Nat.mul_assoc]
theorem big_hgh {s : List Tk} (h : ∀ t ∈ s, Sml t) (hn : s.length ≤ 6) {k : Nat} (hk : k < s.length) (hi : isB s (k : Int) = true) {K : Nat} (hK : 1 ≤ K) (hK2 : K ≤ 33554432) (hi' : isB (s.map (bigT K)) (k : Int) = true) {w : Nat} (hw : w ≤ 60) : hghA (s.map (bigT K)) (k : Int) (w * K) = hghA s (k : Int) w * K ∧ hghA s (k : Int) w ≤ 2400 := by
  have hb : ∀ t ∈ s, terN t w ≤ 400 := fun t ht => by
    obtain ⟨hc, ht, hd, hj, hq, hp⟩ := h t ht
    have h1 := ceilN_le (w + t.j.toNat) t.t.toNat
    have h2 : terN t w ≤ (w + t.j.toNat) * 4 := Nat.mul_le_mul h1 (by omega)
    omega
  by_cases h0 : w = 0
  · subst h0
    unfold hghA
    rw [if_pos (by simp), if_pos rfl]; simp
  · have e1 : hghA s (k : Int) w = hs (ifp s[k].p (fun t => terN t w)) s := by
      unfold hghA
      rw [if_neg h0, if_pos hi, pAt_nat s k hk, hghI, hgh_sum _ w 400 s 0 (fun t ht => ⟨by have := (h t ht).hd; have := (h t ht).ht; have := (h t ht).hc; have := (h t ht).hj; omega, hb t ht⟩) (by have := Nat.mul_le_mul_right 400 hn; omega), Nat.zero_add]
    have hk2 : k < (s.map (bigT K)).length := by simpa using hk
    have hp : (s.map (bigT K))[k].p = s[k].p := by simp [bigT]
    have hwK : w * K ≤ 60 * 33554432 := Nat.mul_le_mul hw hK2
    have e2 : hghA (s.map (bigT K)) (k : Int) (w * K) = hs (ifp s[k].p (fun t => terN t (w * K))) (s.map (bigT K)) := by
      unfold hghA
      rw [if_neg (by have := Nat.mul_pos (show 0 < w by omega) (show 0 < K by omega); omega), if_pos hi', pAt_nat _ k hk2, hp, hghI, hgh_sum _ (w * K) 13421772800 (s.map (bigT K)) 0 (fun t ht => ?_) (by rw [List.length_map]; have := Nat.mul_le_mul_right 13421772800 hn; omega), Nat.zero_add]
      obtain ⟨u, hu, rfl⟩ := List.mem_map.1 ht
      refine ⟨?_, ?_⟩
      · obtain ⟨hc, ht, hd, hj, hq, hp⟩ := h u hu
        show w * K + (u.j * (K : Int)).toNat < _
        have := mul_b (a := u.j) (k := (K : Int)) ⟨hj, by omega⟩ (by omega) (by omega)
        omega
      · rw [terN_big (h u hu) w K hK]
        exact Nat.le_trans (Nat.mul_le_mul (hb u hu) hK2) (by decide)
    refine ⟨?_, ?_⟩
    · rw [e1, e2, hs_map, ← hs_mul]
      refine hs_congr fun t ht => ?_
      unfold ifp
      show (if (bigT K t).p < s[k].p then terN (bigT K t) (w * K) else 0) = _
      rw [terN_big (h t ht) w K hK]
      show (if t.p < s[k].p then terN t w * K else 0) = (if t.p < s[k].p then terN t w else 0) * K
      split <;> simp
    · rw [e1]
      have := hs_b (f := ifp s[k].p (fun t => terN t w)) (B := 400) (l := s) fun t ht => by
        have := hb t ht
        unfold ifp
        split
        · exact this
        · omega
      have := Nat.mul_le_mul_right 400 hn
      omega
