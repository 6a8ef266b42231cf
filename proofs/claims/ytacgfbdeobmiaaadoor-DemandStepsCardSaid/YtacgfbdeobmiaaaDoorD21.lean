/- Where more is needed: the plain law. -/
import Derived.Test.YtacgfbdeobmiaaaDoorD15
set_option linter.all false
set_option maxHeartbeats 1000000
namespace Go.Proofs.Vl
open Go Go.RowKit
theorem ceilN_ge (a b : Nat) (hb : 0 < b) : a ≤ ceilN a b * b := by
  unfold ceilN
  have h2 := Nat.div_add_mod a b
  have h4 := Nat.mod_lt a hb
  rw [Nat.mul_comm] at h2
  split
  · rw [Nat.add_mul]; omega
  · rw [Nat.add_zero]; omega
theorem ceilN_up (a b : Nat) (hb : 0 < b) : ceilN a b * b < a + b := by
  unfold ceilN
  have h2 := Nat.div_add_mod a b
  have h4 := Nat.mod_lt a hb
  rw [Nat.mul_comm] at h2
  split
  · rw [Nat.add_mul]; omega
  · rw [Nat.add_zero]; omega
theorem ceilN_fit {a b : Nat} (hb : 0 < b) : ceilN a b * b = a ↔ a % b = 0 := by
  constructor
  · intro h; rw [← h]; exact Nat.mul_mod_left _ _
  · intro h
    unfold ceilN
    have h2 := Nat.div_add_mod a b
    rw [Nat.mul_comm] at h2
    rw [if_neg (by omega), Nat.add_zero]; omega
theorem ceilN_next {a b : Nat} (hb : 0 < b) : ceilN a b < ceilN (a + 1) b ↔ a % b = 0 := by
  constructor
  · intro h
    refine Nat.eq_zero_of_not_pos fun hp => ?_
    have h1 := ceilN_ge a b hb
    have h2 : ceilN a b * b ≠ a := fun e => by rw [ceilN_fit hb] at e; omega
    have h3 := ceilN_up (a + 1) b hb
    have h4 : (ceilN a b + 1) * b ≤ ceilN (a + 1) b * b := Nat.mul_le_mul_right _ h
    rw [Nat.add_mul] at h4; omega
  · intro h
    rw [← ceilN_fit hb] at h
    refine Nat.lt_of_not_le fun hle => ?_
    have h1 := ceilN_ge (a + 1) b hb
    have := Nat.mul_le_mul_right b hle
    omega
/-- From a tick on, the next one behind which a task needs more. -/
def nxtN (t : Tk) (w : Nat) : Nat := if w = 0 then 0 else ceilN (w + t.j.toNat) t.t.toNat * t.t.toNat - t.j.toNat
theorem nxt_ge {t : Tk} (h : Sml t) (w : Nat) : w ≤ nxtN t w ∧ nxtN t w ≤ w + 20 := by
  obtain ⟨hc, ht, hd, hj, _, _⟩ := h
  unfold nxtN
  by_cases h0 : w = 0
  · rw [if_pos h0]; omega
  · rw [if_neg h0]
    have := ceilN_ge (w + t.j.toNat) t.t.toNat (by omega)
    have := ceilN_up (w + t.j.toNat) t.t.toNat (by omega)
    omega
theorem nxt_fix {t : Tk} (h : Sml t) {v : Nat} (hv : 0 < v) : nxtN t v = v ↔ (v + t.j.toNat) % t.t.toNat = 0 := by
  obtain ⟨hc, ht, hd, hj, _, _⟩ := h
  unfold nxtN
  rw [if_neg (by omega), ← ceilN_fit (show 0 < t.t.toNat by omega)]
  have := ceilN_ge (v + t.j.toNat) t.t.toNat (by omega)
  omega
theorem nxt_idem {t : Tk} (h : Sml t) (w : Nat) : nxtN t (nxtN t w) = nxtN t w := by
  by_cases h0 : w = 0
  · subst h0; rfl
  · have h1 := (nxt_ge h w).1
    rw [nxt_fix h (by omega)]
    obtain ⟨hc, ht, hd, hj, _, _⟩ := h
    have h2 := ceilN_ge (w + t.j.toNat) t.t.toNat (by omega)
    have e : nxtN t w + t.j.toNat = ceilN (w + t.j.toNat) t.t.toNat * t.t.toNat := by unfold nxtN; rw [if_neg h0]; omega
    rw [e]; exact Nat.mul_mod_left _ _
theorem nxt_least {t : Tk} (h : Sml t) {w m : Nat} (h1 : w ≤ m) (h2 : m < nxtN t w) : nxtN t m ≠ m := by
  by_cases h0 : w = 0
  · subst h0; exact absurd h2 (by unfold nxtN; simp)
  · intro e
    rw [nxt_fix h (by omega)] at e
    obtain ⟨hc, ht, hd, hj, _, _⟩ := h
    rw [← ceilN_fit (show 0 < t.t.toNat by omega)] at e
    have h3 := ceilN_mono t.t.toNat (show w + t.j.toNat ≤ m + t.j.toNat by omega)
    have h4 := Nat.mul_le_mul_right t.t.toNat h3
    unfold nxtN at h2
    rw [if_neg h0] at h2
    omega
theorem ter_step {t : Tk} (h : Sml t) (v : Nat) : terW v t < terW (v + 1) t ↔ nxtN t v = v := by
  by_cases h0 : v = 0
  · subst h0
    obtain ⟨hc, ht, hd, hj, _, _⟩ := h
    have e : terW (0 + 1) t = t.c.toNat := by
      unfold terW terN
      rw [if_neg (by omega), ceilN_one (by omega) (by omega)]; omega
    rw [e]
    unfold terW nxtN
    simp; omega
  · rw [nxt_fix h (by omega)]
    obtain ⟨hc, ht, hd, hj, _, _⟩ := h
    rw [← ceilN_next (show 0 < t.t.toNat by omega)]
    unfold terW terN
    rw [if_neg h0, if_neg (by omega), show v + 1 + t.j.toNat = v + t.j.toNat + 1 by omega]
    exact Nat.mul_lt_mul_right (by omega)
theorem hs_lt {f g : Tk → Nat} : ∀ {l : List Tk}, (∀ t ∈ l, f t ≤ g t) → (hs f l < hs g l ↔ ∃ t ∈ l, f t < g t)
  | [], _ => by simp [hs]
  | t :: l, h => by
    have h1 := h t List.mem_cons_self
    have h2 := hs_lt (l := l) fun u hu => h u (List.mem_cons_of_mem _ hu)
    have h3 := hs_le (l := l) fun u hu => h u (List.mem_cons_of_mem _ hu)
    rw [hs, hs]
    constructor
    · intro hl
      by_cases ht : f t < g t
      · exact ⟨t, List.mem_cons_self, ht⟩
      · obtain ⟨u, hu, hu2⟩ := h2.1 (by omega)
        exact ⟨u, List.mem_cons_of_mem _ hu, hu2⟩
    · rintro ⟨u, hu, hu2⟩
      rcases List.mem_cons.1 hu with rfl | hu
      · omega
      · have := h2.2 ⟨u, hu, hu2⟩; omega
/-- A tick at which more is needed than one tick ahead. -/
def stpB (s : List Tk) (i : Int) (v : Nat) : Bool := decide (1 ≤ v) && decide (hghA s i (v - 1) < hghA s i v)
def stpF (s : List Tk) (i : Int) (n : Nat) : List Nat := (List.range n).filter (stpB s i)
theorem stp_iff {s : List Tk} (h : ∀ t ∈ s, Sml t) (hn : s.length ≤ 6) {k : Nat} (hk : k < s.length) (hi : isB s (k : Int) = true) {v : Nat} (hv : v < 1099511627776) : stpB s (k : Int) (v + 1) = true ↔ ∃ t ∈ s, t.p < s[k].p ∧ nxtN t v = v := by
  unfold stpB
  rw [Nat.add_sub_cancel, hgh_set h hn hk hi (by omega), hgh_set h hn hk hi (by omega)]
  simp only [Bool.and_eq_true, decide_eq_true_eq]
  rw [hs_lt fun t ht => by unfold ifp; have := (terW_grow (h t ht) v).1; split <;> omega]
  constructor
  · rintro ⟨_, t, ht, h2⟩
    unfold ifp at h2
    by_cases hp : t.p < s[k].p
    · rw [if_pos hp, if_pos hp] at h2
      exact ⟨t, ht, hp, (ter_step (h t ht) v).1 h2⟩
    · rw [if_neg hp, if_neg hp] at h2; omega
  · rintro ⟨t, ht, hp, h2⟩
    refine ⟨by omega, t, ht, ?_⟩
    unfold ifp
    rw [if_pos hp, if_pos hp]
    exact (ter_step (h t ht) v).2 h2
theorem stp_none {s : List Tk} {i : Int} (h : isB s i = false) (n : Nat) : stpF s i n = [] := by
  unfold stpF
  refine List.filter_eq_nil_iff.2 fun v _ => ?_
  unfold stpB hghA
  rw [h]; simp
theorem stpF_succ (s : List Tk) (i : Int) (n : Nat) : stpF s i (n + 1) = stpF s i n ++ if stpB s i n then [n] else [] := by
  unfold stpF
  rw [List.range_succ, List.filter_append]
  congr 1
  cases h : stpB s i n <;> simp [h]
theorem stpF_at {s : List Tk} {i : Int} {v : Nat} (h : stpB s i v = true) : ∀ {n : Nat}, v < n → (stpF s i n)[(stpF s i v).length]? = some v
  | 0, hn => by omega
  | n + 1, hn => by
    rw [stpF_succ]
    by_cases e : v = n
    · subst e; rw [h]; simp
    · have ih := stpF_at h (n := n) (by omega)
      have := (List.getElem?_eq_some_iff.1 ih).1
      rw [List.getElem?_append_left this]; exact ih
theorem stpF_same {s : List Tk} {i : Int} {a : Nat} : ∀ {v : Nat}, a ≤ v → (∀ u, a ≤ u → u < v → stpB s i u = false) → stpF s i v = stpF s i a
  | 0, h, _ => by obtain rfl : a = 0 := by omega
                  rfl
  | v + 1, h, h2 => by
    by_cases e : a = v + 1
    · rw [e]
    · rw [stpF_succ, h2 v (by omega) (by omega), stpF_same (v := v) (by omega) fun u h3 h4 => h2 u h3 (by omega)]; simp
/-- The least of the next ones. -/
def stepM (w : Nat) (a : Nat × Bool) (t : Tk) : Nat × Bool := if !a.2 || decide (nxtN t w < a.1) then (nxtN t w, true) else a
theorem stepM_fold (w : Nat) (p : Int) : ∀ (l : List Tk) (a : Nat × Bool),
    let r := l.foldl (fun a t => if decide (t.p < p) then stepM w a t else a) a
    (r.2 = true ↔ a.2 = true ∨ ∃ t ∈ l, t.p < p) ∧ (a.2 = true → r.1 ≤ a.1) ∧ (∀ t ∈ l, t.p < p → r.1 ≤ nxtN t w) ∧ (r.2 = true → (a.2 = true ∧ r.1 = a.1) ∨ ∃ t ∈ l, t.p < p ∧ nxtN t w = r.1)
  | [], a => ⟨by simp, fun _ => Nat.le_refl _, fun t h => (by cases h), fun h => .inl ⟨h, rfl⟩⟩
  | t :: l, a => by
    intro r
    obtain ⟨h1, h2, h3, h4⟩ := stepM_fold w p l (if decide (t.p < p) then stepM w a t else a)
    have er : l.foldl (fun a t => if decide (t.p < p) then stepM w a t else a) (if decide (t.p < p) then stepM w a t else a) = r := rfl
    rw [er] at h1 h2 h3 h4
    by_cases hp : t.p < p
    · simp only [decide_eq_true hp, if_true] at h1 h2 h3 h4
      by_cases hc : (!a.2 || decide (nxtN t w < a.1)) = true
      · have e : stepM w a t = (nxtN t w, true) := by unfold stepM; rw [if_pos hc]
        rw [e] at h1 h2 h4
        refine ⟨by rw [h1]; simp [hp], fun ha => ?_, fun u hu hup => ?_, fun hr => ?_⟩
        · have := h2 rfl
          rw [ha] at hc; simp at hc; omega
        · rcases List.mem_cons.1 hu with rfl | hu
          · exact h2 rfl
          · exact h3 u hu hup
        · rcases h4 hr with ⟨_, h⟩ | ⟨u, hu, h⟩
          · exact .inr ⟨t, List.mem_cons_self, hp, h.symm⟩
          · exact .inr ⟨u, List.mem_cons_of_mem _ hu, h⟩
      · have e : stepM w a t = a := by unfold stepM; rw [if_neg hc]
        rw [e] at h1 h2 h4
        simp at hc
        obtain ⟨hc1, hc2⟩ := hc
        refine ⟨by rw [h1, hc1]; simp, h2, fun u hu hup => ?_, fun hr => ?_⟩
        · rcases List.mem_cons.1 hu with rfl | hu
          · have := h2 hc1; omega
          · exact h3 u hu hup
        · rcases h4 hr with h | ⟨u, hu, h⟩
          · exact .inl h
          · exact .inr ⟨u, List.mem_cons_of_mem _ hu, h⟩
    · simp only [decide_eq_false hp, Bool.false_eq_true, if_false] at h1 h2 h3 h4
      refine ⟨by rw [h1]; simp [hp], h2, fun u hu hup => ?_, fun hr => ?_⟩
      · rcases List.mem_cons.1 hu with rfl | hu
        · exact absurd hup hp
        · exact h3 u hu hup
      · rcases h4 hr with h | ⟨u, hu, h⟩
        · exact .inl h
        · exact .inr ⟨u, List.mem_cons_of_mem _ hu, h⟩
/-- What a round finds. -/
theorem step_round {s : List Tk} (h : ∀ t ∈ s, Sml t) (hn : s.length ≤ 6) {k : Nat} (hk : k < s.length) (hi : isB s (k : Int) = true) {w most : Nat} (hw : w ≤ most) (hm : most < 1000000) {r : Nat × Bool}
    (hr : r = s.foldl (fun a t => if decide (t.p < s[k].p) then stepM w a t else a) (0, false)) :
    r.1 < 1000100 ∧ (r.2 = false ∨ most < r.1 + 1 → (stpF s (k : Int) (w + 1)).length = (stpF s (k : Int) (most + 1)).length) ∧
    (r.2 = true → r.1 + 1 ≤ most → (stpF s (k : Int) (most + 1))[(stpF s (k : Int) (w + 1)).length]? = some (r.1 + 1) ∧ (stpF s (k : Int) (r.1 + 1 + 1)).length = (stpF s (k : Int) (w + 1)).length + 1) := by
  obtain ⟨h1, _, h3, h4⟩ := stepM_fold w s[k].p s (0, false)
  rw [← hr] at h1 h3 h4
  simp only [Bool.false_eq_true, false_or, false_and] at h1 h4
  have hno : ∀ u, w < u → u < r.1 + 1 → u ≤ most → stpB s (k : Int) u = false := fun u hu1 hu2 hu3 => by
    obtain ⟨v, rfl⟩ : ∃ v, u = v + 1 := ⟨u - 1, by omega⟩
    cases hb : stpB s (k : Int) (v + 1) with
    | false => rfl
    | true =>
      obtain ⟨t, ht, hp, hx⟩ := (stp_iff h hn hk hi (v := v) (by omega)).1 hb
      exact absurd hx (nxt_least (h t ht) (w := w) (by omega) (by have := h3 t ht hp; omega))
  have hno2 : r.2 = false → ∀ u, u ≤ most → stpB s (k : Int) u = false := fun hf u hu => by
    cases hb : stpB s (k : Int) u with
    | false => rfl
    | true =>
      cases u with
      | zero => simp [stpB] at hb
      | succ v =>
        obtain ⟨t, ht, hp, hx⟩ := (stp_iff h hn hk hi (v := v) (by omega)).1 hb
        rw [h1.2 ⟨t, ht, hp⟩] at hf; cases hf
  refine ⟨?_, fun hs => ?_, fun hs hle => ?_⟩
  · cases hb : r.2 with
    | true =>
      obtain ⟨t, ht, _, hx⟩ := h4 hb
      have := (nxt_ge (h t ht) w).2
      omega
    | false =>
      have : r.1 = 0 := by
        rw [hr] at hb ⊢
        have : ∀ l : List Tk, (∀ t ∈ l, ¬ t.p < s[k].p) → (l.foldl (fun a t => if decide (t.p < s[k].p) then stepM w a t else a) (0, false)) = (0, false) := by
          intro l
          induction l with
          | nil => intro _; rfl
          | cons t l ih =>
            intro hl
            rw [List.foldl_cons, if_neg (by simpa using hl t List.mem_cons_self)]
            exact ih fun u hu => hl u (List.mem_cons_of_mem _ hu)
        rw [this s fun t ht hp => by rw [← hr, h1.2 ⟨t, ht, hp⟩] at hb; cases hb]
      omega
  · rw [stpF_same (a := w + 1) (v := most + 1) (by omega)]
    intro u hu1 hu2
    rcases hs with hs | hs
    · exact hno2 hs u (by omega)
    · exact hno u (by omega) (by omega) (by omega)
  · obtain ⟨t, ht, hp, hx⟩ := h4 hs
    have hst : stpB s (k : Int) (r.1 + 1) = true := (stp_iff h hn hk hi (by omega)).2 ⟨t, ht, hp, by rw [← hx]; exact nxt_idem (h t ht) w⟩
    have hge := (nxt_ge (h t ht) w).1
    have hsame : stpF s (k : Int) (r.1 + 1) = stpF s (k : Int) (w + 1) := stpF_same (by omega) fun u hu1 hu2 => hno u (by omega) hu2 (by omega)
    refine ⟨?_, ?_⟩
    · rw [← hsame]; exact stpF_at hst (by omega)
    · rw [stpF_succ, hst, hsame]; simp
end Go.Proofs.Vl
