/- The row 'LoadPeriod', by values. -/
import Derived.Test.YtjpmbklfaoejmaaDoorG9
set_option linter.all false
set_option maxHeartbeats 8000000
namespace Go.Proofs.Vl
open Go Go.RowKit
attribute [local irreducible] AWp OpTo Run DL Val UN DR AC Le thn inb nog
theorem perF_dvd : ∀ (l : List Tk) (a p x : Nat), perF a l = some p → (p ∣ x ↔ a ∣ x ∧ ∀ t ∈ l, t.t.toNat ∣ x)
  | [], a, p, x, h => by cases h; simp
  | t :: l, a, p, x, h => by
    unfold perF at h
    split at h
    · rw [perF_dvd l _ p x h]
      constructor
      · rintro ⟨h1, h2⟩
        refine ⟨Nat.dvd_trans (Nat.dvd_lcm_left _ _) h1, fun u hu => ?_⟩
        rcases List.mem_cons.1 hu with rfl | hu
        · exact Nat.dvd_trans (Nat.dvd_lcm_right _ _) h1
        · exact h2 u hu
      · rintro ⟨h1, h2⟩
        exact ⟨Nat.lcm_dvd h1 (h2 t List.mem_cons_self), fun u hu => h2 u (List.mem_cons_of_mem _ hu)⟩
    · cases h
theorem perF_small : ∀ (l : List Tk) (a k : Nat), 0 < a → a ≤ k → (∀ t ∈ l, 1 ≤ t.t ∧ t.t ≤ 20) → k * 20 ^ l.length < 18446744073709551616 → ∃ p, perF a l = some p ∧ 0 < p ∧ p < 18446744073709551616
  | [], a, k, h0, h1, _, h3 => ⟨a, rfl, h0, by simp at h3; omega⟩
  | t :: l, a, k, h0, h1, h2, h3 => by
    obtain ⟨p1, p2⟩ := h2 t List.mem_cons_self
    have hm : Nat.lcm a t.t.toNat ≤ k * 20 := by
      refine Nat.le_trans (Nat.le_of_dvd (Nat.mul_pos h0 (by omega)) (Nat.lcm_dvd (Nat.dvd_mul_right _ _) (Nat.dvd_mul_left _ _))) (Nat.mul_le_mul h1 (by omega))
    have e : k * 20 * 20 ^ l.length = k * 20 ^ (t :: l).length := by rw [List.length_cons, Nat.pow_succ, Nat.mul_assoc, Nat.mul_comm 20]
    have hb : Nat.lcm a t.t.toNat < 18446744073709551616 := by
      have h4 : k * 20 ≤ k * 20 * 20 ^ l.length := Nat.le_mul_of_pos_right _ (Nat.pow_pos (by decide))
      omega
    unfold perF
    rw [if_pos (show okB _ = true from decide_eq_true hb)]
    exact perF_small l _ (k * 20) (Nat.lcm_pos h0 (by omega)) hm (fun u hu => h2 u (List.mem_cons_of_mem _ hu)) (by rw [e]; exact h3)
def dvB (l : List Tk) (x : Nat) : Bool := l.all fun t => decide (x % t.t.toNat = 0)
theorem dv_take {l : List Tk} {j x : Nat} (hj : j < l.length) : dvB (l.take (j + 1)) x = (dvB (l.take j) x && decide (x % l[j].t.toNat = 0)) := by
  unfold dvB
  rw [List.take_succ_eq_append_getElem hj, List.all_append]; simp
theorem dv_iff {l : List Tk} {p x : Nat} (h : perF 1 l = some p) : dvB l x = decide (x % p = 0) := by
  rw [Bool.eq_iff_iff]
  unfold dvB
  rw [List.all_eq_true, decide_eq_true_iff, ← Nat.dvd_iff_mod_eq_zero, perF_dvd l 1 p x h]
  simp only [decide_eq_true_iff, ← Nat.dvd_iff_mod_eq_zero]
  exact ⟨fun h => ⟨Nat.one_dvd _, h⟩, fun h => h.2⟩
theorem beqN (n : Nat) : ((n : Int) == 0) = decide (n = 0) := by rw [Bool.eq_iff_iff]; simp only [beq_iff_eq, decide_eq_true_eq]; omega
theorem period_top (sp : List Sp) (v : Int) (hl : sp.length ≤ maxLen) (h0 : 0 ≤ v) (hv : v < 18446744073709551616) : AC Tryd.prog GL 6 [fro spP sp, .c (.p (.s (.int .u64 v)))] [] (fun r _ => r = vb true) := by
  refine AC.body' Tryd.func6 Tryd.ntmps6 rfl ?_
  intro cx hd hG
  refine nrmL (k := ?_)
  repeat refine w1 (k := ?_)
  obtain ⟨w0, fz0, β0, df, G0⟩ := cx
  obtain rfl : G0 = GL := hG
  obtain ⟨v, rfl⟩ := Int.eq_ofNat_of_zero_le h0
  refine callN (hc := by exact awake_ac) (h := ?_)
  repeat refine w1 (k := ?_)
  generalize IntKind.i64.wrap (Go.bits BinOp.and IntKind.u64 v 63) = q
  refine OpTo.callO (by rfl) (by rfl) (by rfl) (by rfl) (set_ac _ sp 6 q hl (by decide) (by decide)) ?_
  rintro r os' ⟨rfl, hf⟩
  refine ⟨_, .row rfl hf (tkP_ok _ _) (by decide) rfl, ?_⟩
  have s1 := set12_len sp 6 q
  have s2 := set12_ok sp 6 q
  generalize setL sp 6 q = s at s1 s2 ⊢
  have s1 : s.length ≤ 6 := s1
  refine nrm (k := ?_)
  repeat refine w1 (k := ?_)
  first | refine zA 17 (h := ?_) | refine zO 17 (h := ?_) | refine zL 17 (h := ?_) | refine zL3 17 (h := ?_)
  refine callN (hc := by exact period_ac _ s (by rw [maxLen]; omega) (fun t ht => set12_tok (s2 t ht))) (h := ?_)
  repeat refine w1 (k := ?_)
  obtain ⟨p, p1, p2, p3⟩ := perF_small s 1 1 (by decide) (by decide) (fun t ht => ⟨(s2 t ht).2.2.1, (s2 t ht).2.2.2⟩) (Nat.lt_of_le_of_lt (Nat.mul_le_mul_left 1 (Nat.pow_le_pow_right (by decide) s1)) (by decide))
  have pe : perL s = some p := by
    rw [perL, if_pos]
    · exact p1
    · rw [List.all_eq_true]; intro t ht; exact decide_eq_true (s2 t ht).2.2.1
  rw [pe]
  dsimp only [Option.getD_some, Option.isSome_some]
  repeat refine w1 (k := ?_)
  rw [show (v : Int) % 1000 = ((v % 1000 : Nat) : Int) from rfl]
  have hx : v % 1000 < 1000 := Nat.mod_lt _ (by decide)
  generalize v % 1000 = x at hx ⊢
  refine cutIN [(4, 1), (11, 57)] (α := Bool) (fun b => [(10, vb b)]) (fun b => []) (fun b => b = dvB s x) ?_ (fun b hI => ?_)
  ·
    refine loopN [(4, 1), (31, 27)] (α := Nat × Bool) (fun y => [(10, vb y.2), (11, vi y.1)]) (fun y => []) (fun y => s.length - y.1) (fun y => y.1 ≤ s.length ∧ y.2 = dvB (s.take y.1) x) (x0 := (0, true)) (h0 := by exact ⟨by omega, rfl⟩) (hr := ?_)
    intro y hI
    refine nrmL (k := ?_)
    obtain ⟨j, b⟩ := y
    dsimp only at hI ⊢
    obtain ⟨h1, h2⟩ := hI
    repeat refine w1 (k := ?_)
    refine condN (h1 := fun h => ?_) (h0 := fun h => ?_)
    ·
      have hj : j < s.length := by omega
      have e := dv_take (x := x) hj
      rw [← h2] at e
      obtain ⟨_, _, t1, t2⟩ := s2 _ (List.getElem_mem hj)
      obtain ⟨m, hm⟩ := Int.eq_ofNat_of_zero_le (show 0 ≤ s[j].t by omega)
      rw [hm, Int.toNat_natCast] at e
      have hd2 : p % m = 0 := by
        have := ((perF_dvd s 1 p p p1).1 (Nat.dvd_refl p)).2 _ (List.getElem_mem hj)
        rw [hm, Int.toNat_natCast] at this
        exact Nat.mod_eq_zero_of_dvd this
      rw [hm] at t1 t2
      repeat refine w1 (k := ?_)
      rw [hm]
      repeat refine w1 (k := ?_)
      rw [show (p : Int) % (m : Int) = ((p % m : Nat) : Int) from rfl, hd2]
      repeat refine w1 (k := ?_)
      cases b
      ·
        repeat refine w1 (k := ?_)
        refine ⟨(j + 1, false), by omega, by exact ⟨by dsimp only; omega, by rw [e]; rfl⟩, frg⟩
      ·
        repeat refine w1 (k := ?_)
        rw [hm]
        repeat refine w1 (k := ?_)
        rw [show (x : Int) % (m : Int) = ((x % m : Nat) : Int) from rfl]
        repeat refine w1 (k := ?_)
        refine ⟨(j + 1, ((x % m : Nat) : Int) == 0), by omega, by exact ⟨by dsimp only; omega, by rw [e, beqN]; rfl⟩, frg⟩
    ·
      have hj : j = s.length := by omega
      repeat refine w1 (k := ?_)
      refine ⟨b, by rw [h2, hj, List.take_length], frg⟩
  refine nrmL (k := ?_)
  rw [dv_iff p1] at hI
  subst hI
  repeat refine w1 (k := ?_)
  rw [show (x : Int) % (p : Int) = ((x % p : Nat) : Int) from rfl]
  repeat refine w1 (k := ?_)
  rw [beqN]
  first | refine ofN (hv := by exact Val.eqB Tryd.underlying4 rfl rfl rfl rfl) (h := ?_) | refine dlN (hv := by exact Val.eqB Tryd.underlying4 rfl rfl rfl rfl) (h := ?_) | refine dlgN (hv := by exact Val.eqB Tryd.underlying4 rfl rfl rfl rfl) (h := ?_) | refine ofN (hv := by exact Val.eqB Tryd.underlying4 rfl rfl rfl rfl) (h := ?_)
  rw [beq_self_eq_true]
  repeat refine w1 (k := ?_)
  refine ⟨[.c _], .cons (.tmp rfl) .nil, ?_⟩
  rfl
end Go.Proofs.Vl
