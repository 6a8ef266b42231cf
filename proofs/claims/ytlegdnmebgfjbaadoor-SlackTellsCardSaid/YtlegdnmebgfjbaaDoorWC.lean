/- Chapter 22: what is told, as plain Lean: fine with it, and not with one more. -/
import Derived.Test.YtlegdnmebgfjbaaDoorWB
import Derived.Test.YtlegdnmebgfjbaaDoorSD15
set_option linter.all false
set_option maxRecDepth 2000
set_option maxHeartbeats 8000000
namespace Go.Proofs.Vl
open Go Go.RowKit
attribute [local irreducible] AWp OpTo Run DL Val UN DR AC Le thn inb nog
theorem chk_of {t : Tk} (hw : wordB (bys t.nm) = true) (hr : ariP t.nm.size t.c t.t t.d t.j t.q t.p) (hf : t.q ≤ t.c ∧ t.c + t.j ≤ t.d ∧ t.d ≤ t.t) : chkT t = 0 := by
  show chkI t.nm t.c t.t t.d t.j t.q t.p = 0
  rw [chk_fit hw hr, if_pos hf]
theorem chk_word {t : Tk} (h : chkT t = 0) : wordB (bys t.nm) = true ∧ ariP t.nm.size t.c t.t t.d t.j t.q t.p := by
  unfold chkT chkI at h
  by_cases hr : rngB t.nm t.c t.t t.d t.j t.q t.p = true
  · exact (rng_iff ..).1 hr
  · rw [if_neg hr] at h; cases h
def kT (t : Tk) : Int × ByteArray × Int := (chkT t, t.nm, t.p)
theorem goAll_congr : ∀ (l l' s s' : List Tk), l.map kT = l'.map kT → s.map kT = s'.map kT → goAll s l = goAll s' l'
  | [], [], s, s', _, h => by
    have : s.length = s'.length := by simpa using congrArg List.length h
    rw [goAll, goAll, this]
  | [], _ :: _, _, _, h, _ => by cases h
  | _ :: _, [], _, _, h, _ => by cases h
  | t :: r, t' :: r', s, s', h, h' => by
    rw [List.map_cons, List.map_cons, List.cons.injEq] at h
    obtain ⟨h1, h2⟩ := h
    have hlen : s.length = s'.length := by simpa using congrArg List.length h'
    have e1 : chkT t = chkT t' := congrArg (·.1) h1
    have e2 : t.nm = t'.nm := congrArg (·.2.1) h1
    have e3 : t.p = t'.p := congrArg (·.2.2) h1
    have ha : ∀ q : List Tk, q.any (fun u => decide (u.nm = t'.nm) || decide (u.p = t'.p)) = (q.map kT).any (fun u => decide (u.2.1 = t'.nm) || decide (u.2.2 = t'.p)) := fun q => by
      rw [List.any_map]; rfl
    rw [goAll, goAll, e1, e2, e3, hlen, ha s, ha s', h']
    split
    · split
      · rfl
      · exact goAll_congr r r' _ _ h2 (by rw [List.map_append, List.map_append, h']; simp [h1])
    · rfl
theorem allI_congr {l l' : List Tk} (h : l.map kT = l'.map kT) : allI l = allI l' := by
  have hlen : l.length = l'.length := by simpa using congrArg List.length h
  unfold allI
  rw [hlen, goAll_congr l l' [] [] h rfl]
theorem upT_len (l : List Tk) (k : Nat) (g : Tk → Tk) : (upT l k g).length = l.length := by
  unfold upT; split
  · exact List.length_set
  · rfl
theorem upT_kT {l : List Tk} {k : Nat} (hk : k < l.length) {g : Tk → Tk} (h : kT (g l[k]) = kT l[k]) : (upT l k g).map kT = l.map kT := by
  rw [upT_at hk, List.map_set, h]
  have hk' : k < (l.map kT).length := by simpa using hk
  have e : kT l[k] = (l.map kT)[k] := (List.getElem_map kT).symm
  rw [e]
  exact List.set_getElem_self hk'
theorem tests_all {l : List Tk} (h : testsB l = true) : (allI l).2 = 0 := by
  unfold testsB at h
  simp only [Bool.and_eq_true, decide_eq_true_eq] at h
  exact h.1
theorem tests_is {l : List Tk} (h : testsB l = true) {k : Nat} (hk : k < l.length) : isB l (k : Int) = true := is_in (tests_all h) hk
theorem tests_fit {l : List Tk} (h : testsB l = true) {k : Nat} (hk : k < l.length) : fitA l (k : Int) = true := by
  unfold testsB at h
  simp only [Bool.and_eq_true, decide_eq_true_eq, List.all_eq_true] at h
  exact h.2 k (List.mem_range.2 hk)
/-- A set that is fine with a task changed: that task may be. -/
theorem up_fits {l : List Tk} {k : Nat} (hk : k < l.length) {g : Tk → Tk} (h : testsB (upT l k g) = true) : Fine (g l[k]) ∧ (g l[k]).c + (g l[k]).j ≤ (g l[k]).d ∧ (g l[k]).d ≤ (g l[k]).t ∧ (g l[k]).q ≤ (g l[k]).c := by
  have hk2 : k < (upT l k g).length := by rw [upT_len]; exact hk
  have hb := tests_is h hk2
  have e : (upT l k g)[k] = g l[k] := by simp only [upT_at hk, List.getElem_set_self]
  have h1 := (is_spec hb).2.1 _ (List.getElem_mem hk2)
  have h2 := is_fits hb _ (List.getElem_mem hk2)
  rw [e] at h1 h2
  exact ⟨h1, h2⟩
theorem may_iff {l : List Tk} {i : Int} : mayE l i = 0 ↔ isB l i = true ∧ testsB l = true := by
  unfold mayE
  cases isB l i <;> cases testsB l <;> simp
theorem ms_spec {l : List Tk} {k : Nat} (hk : k < l.length) (hm : mayE l (k : Int) = 0) (g : Int → Tk → Tk) (lo hi : Int) (hlo : g lo l[k] = l[k]) (hle : lo ≤ hi) (hd : hi - lo < 2 ^ 64) (hov : testsB (upT l k (g (hi + 1))) = false) :
    lo ≤ msN l (k : Int) lo hi g ∧ msN l (k : Int) lo hi g ≤ hi ∧ testsB (upT l k (g (msN l (k : Int) lo hi g))) = true ∧ testsB (upT l k (g (msN l (k : Int) lo hi g + 1))) = false := by
  have h00 : upT l k (g lo) = l := by rw [upT_at hk, hlo]; exact List.set_getElem_self hk
  have ht := (may_iff.1 hm).2
  unfold msN
  rw [if_pos hm, Int.toNat_natCast]
  unfold leB
  rw [decide_eq_true hle, Bool.true_and]
  cases hs : msO l k g hi with
  | false =>
    rw [if_neg (by simp)]
    unfold msO at hs
    exact ⟨hle, Int.le_refl _, by simpa using hs, hov⟩
  | true =>
    rw [if_pos rfl]
    unfold leN
    rw [if_pos ⟨hle, hs⟩]
    obtain ⟨s1, s2, s3, s4⟩ := lsF_spec (msO l k g) lo 64 lo hi hle hd hs (.inl rfl) (Int.le_refl _)
    generalize lsF (msO l k g) 64 lo hi = r at *
    have hne : r ≠ lo := fun e => by
      subst e
      unfold msO at s3
      rw [h00, ht] at s3; cases s3
    rcases s4 with s4 | s4
    · exact absurd s4 hne
    · rw [Int.sub_add_cancel]
      unfold msO at s3 s4
      exact ⟨by omega, by omega, by simpa using s4, by simpa using s3⟩
theorem pr_spec {l : List Tk} {k : Nat} (hk : k < l.length) (hm : mayE l (k : Int) = 0) :
    1 ≤ prN l (k : Int) l[k].t ∧ prN l (k : Int) l[k].t ≤ l[k].t ∧ testsB (upT l k (sT (prN l (k : Int) l[k].t))) = true ∧ testsB (upT l k (sT (prN l (k : Int) l[k].t - 1))) = false := by
  have h00 : upT l k (sT l[k].t) = l := by rw [upT_at hk]; exact List.set_getElem_self hk
  obtain ⟨hb, ht⟩ := may_iff.1 hm
  obtain ⟨hc, h1t, hd, hj, hq, hp⟩ := (is_spec hb).2.1 _ (List.getElem_mem hk)
  unfold prN
  rw [if_pos hm, Int.toNat_natCast]
  unfold leN
  have hso : (fun n => testsB (upT l k (sT n))) l[k].t = true := by dsimp only; rw [h00]; exact ht
  rw [if_pos ⟨by omega, hso⟩]
  obtain ⟨s1, s2, s3, s4⟩ := lsF_spec (fun n => testsB (upT l k (sT n))) 1 64 1 l[k].t (by omega) (by omega) hso (.inl rfl) (Int.le_refl _)
  generalize lsF (fun n => testsB (upT l k (sT n))) 64 1 l[k].t = r at *
  refine ⟨s1, s2, s3, ?_⟩
  rcases s4 with rfl | s4
  · cases h : testsB (upT l k (sT (1 - 1))) with
    | false => rfl
    | true =>
      have := (up_fits hk h).1.ht
      exact absurd (show 1 ≤ (1 : Int) - 1 from this.1) (by decide)
  · exact s4
def gW (which n : Int) : Tk → Tk := if which = 0 then sC n else if which = 1 then sQ n else if which = 2 then sJ n else sT n
def fldT (which : Int) (t : Tk) : Int := if which = 0 then t.c else if which = 1 then t.q else if which = 2 then t.j else t.t
def stpW (which : Int) : Int := if which = 3 then -1 else 1
/-- Fine with what is told, and not with one more, or, of the period, one less. -/
theorem mo_spec {l : List Tk} {k : Nat} (hk : k < l.length) (hm : mayE l (k : Int) = 0) (which : Int) (hw : 0 ≤ which ∧ which < 4) :
    testsB (upT l k (gW which (moN l (k : Int) which))) = true ∧ testsB (upT l k (gW which (moN l (k : Int) which + stpW which))) = false ∧ 0 ≤ (moN l (k : Int) which - fldT which l[k]) * stpW which ∧ 0 ≤ moN l (k : Int) which ∧ moN l (k : Int) which ≤ 2147483647 := by
  have hb := (may_iff.1 hm).1
  obtain ⟨hc, ht, hd, hj, hq, hp⟩ := (is_spec hb).2.1 _ (List.getElem_mem hk)
  obtain ⟨f1, f2, f3⟩ := is_fits hb _ (List.getElem_mem hk)
  have e := at_in hk
  have nov : ∀ (g : Tk → Tk), (Fine (g l[k]) → (g l[k]).c + (g l[k]).j ≤ (g l[k]).d → (g l[k]).d ≤ (g l[k]).t → (g l[k]).q ≤ (g l[k]).c → False) → testsB (upT l k g) = false := fun g hg => by
    cases h : testsB (upT l k g) with
    | false => rfl
    | true => obtain ⟨a, b, c, d⟩ := up_fits hk h; exact (hg a b c d).elim
  have p64 : (2 : Int) ^ 64 = 18446744073709551616 := by decide
  obtain rfl | rfl | rfl | rfl : which = 0 ∨ which = 1 ∨ which = 2 ∨ which = 3 := by omega
  · have := ms_spec hk hm sC l[k].c l[k].d rfl (by omega) (by omega) (nov _ fun a b c d => by
      have b : l[k].d + 1 + l[k].j ≤ l[k].d := b
      omega)
    rw [← e] at this
    show testsB (upT l k (sC (msN l (k : Int) (atT l (k : Int)).c (atT l (k : Int)).d sC))) = true ∧ testsB (upT l k (sC (msN l (k : Int) (atT l (k : Int)).c (atT l (k : Int)).d sC + 1))) = false ∧ 0 ≤ (msN l (k : Int) (atT l (k : Int)).c (atT l (k : Int)).d sC - l[k].c) * 1 ∧ 0 ≤ msN l (k : Int) (atT l (k : Int)).c (atT l (k : Int)).d sC ∧ msN l (k : Int) (atT l (k : Int)).c (atT l (k : Int)).d sC ≤ 2147483647
    rw [e] at this ⊢
    exact ⟨this.2.2.1, this.2.2.2, by omega, by omega, by omega⟩
  · have := ms_spec hk hm sQ l[k].q l[k].c rfl (by omega) (by omega) (nov _ fun a b c d => by
      have d : l[k].c + 1 ≤ l[k].c := d
      omega)
    show testsB (upT l k (sQ (msN l (k : Int) (atT l (k : Int)).q (atT l (k : Int)).c sQ))) = true ∧ testsB (upT l k (sQ (msN l (k : Int) (atT l (k : Int)).q (atT l (k : Int)).c sQ + 1))) = false ∧ 0 ≤ (msN l (k : Int) (atT l (k : Int)).q (atT l (k : Int)).c sQ - l[k].q) * 1 ∧ 0 ≤ msN l (k : Int) (atT l (k : Int)).q (atT l (k : Int)).c sQ ∧ msN l (k : Int) (atT l (k : Int)).q (atT l (k : Int)).c sQ ≤ 2147483647
    rw [e]
    exact ⟨this.2.2.1, this.2.2.2, by omega, by omega, by omega⟩
  · have := ms_spec hk hm sJ l[k].j l[k].d rfl (by omega) (by omega) (nov _ fun a b c d => by
      have b : l[k].c + (l[k].d + 1) ≤ l[k].d := b
      omega)
    show testsB (upT l k (sJ (msN l (k : Int) (atT l (k : Int)).j (atT l (k : Int)).d sJ))) = true ∧ testsB (upT l k (sJ (msN l (k : Int) (atT l (k : Int)).j (atT l (k : Int)).d sJ + 1))) = false ∧ 0 ≤ (msN l (k : Int) (atT l (k : Int)).j (atT l (k : Int)).d sJ - l[k].j) * 1 ∧ 0 ≤ msN l (k : Int) (atT l (k : Int)).j (atT l (k : Int)).d sJ ∧ msN l (k : Int) (atT l (k : Int)).j (atT l (k : Int)).d sJ ≤ 2147483647
    rw [e]
    exact ⟨this.2.2.1, this.2.2.2, by omega, by omega, by omega⟩
  · have := pr_spec hk hm
    show testsB (upT l k (sT (prN l (k : Int) (atT l (k : Int)).t))) = true ∧ testsB (upT l k (sT (prN l (k : Int) (atT l (k : Int)).t + -1))) = false ∧ 0 ≤ (prN l (k : Int) (atT l (k : Int)).t - l[k].t) * (-1) ∧ 0 ≤ prN l (k : Int) (atT l (k : Int)).t ∧ prN l (k : Int) (atT l (k : Int)).t ≤ 2147483647
    rw [e]
    exact ⟨this.2.2.1, this.2.2.2, by omega, by omega, by omega⟩
