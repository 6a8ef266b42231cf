/- How often a task may come, and what sets that are fine say. -/
import Derived.Test.YtlegdnmebgfjbaaDoorSD8
set_option linter.all false
set_option maxRecDepth 2000
set_option maxHeartbeats 8000000
namespace Go.Proofs.Vl
open Go Go.RowKit
attribute [local irreducible] AWp OpTo Run DL Val UN DR AC Le thn inb nog
attribute [local irreducible] els nxO
def oftN (t : Tk) (w : Nat) : Nat := ceilN (satN (w + t.j.toNat)) t.t.toNat
theorem oft_ac (G) (t : Tk) (w : Nat) (hw : w < 18446744073709551616) (hj : 0 ≤ t.j ∧ t.j < 9223372036854775808) (ht : 1 ≤ t.t ∧ t.t < 9223372036854775808) : AC Tryd.prog G 77 [.pag (tkP t), vn w] [] (fun r _ => r = vn (oftN t w)) := by
  obtain ⟨nm, c, tt, d, j, q, p⟩ := t
  dsimp only at hj ht
  obtain ⟨j, rfl⟩ := Int.eq_ofNat_of_zero_le hj.1
  obtain ⟨tt, rfl⟩ := Int.eq_ofNat_of_zero_le (show 0 ≤ tt by omega)
  have hoft : oftN ⟨nm, c, (tt : Int), d, (j : Int), q, p⟩ w = ceilN (satN (w + j)) tt := rfl
  rw [hoft]
  have hs := satN_lt (w + j)
  refine AC.body' Tryd.func77 Tryd.ntmps77 rfl ?_
  intro cx hd hG
  refine nrmL (k := ?_)
  repeat refine w1 (k := ?_)
  refine DL.take 2 rfl (by decide +kernel) rfl (Val.convU rfl rfl rfl rfl ⟨by omega, by omega⟩) ?_
  refine nrm (k := ?_)
  repeat refine w1 (k := ?_)
  refine litA pvW [j] (h := ?_)
  repeat refine w1 (k := ?_)
  refine callN (hc := by exact nsum_ac _ w [j] hw (by intro y hy; obtain rfl := List.mem_singleton.1 hy; omega) (by simp [maxLen])) (h := ?_)
  repeat refine w1 (k := ?_)
  rw [show sumS w [j] = satN (w + j) from rfl]
  refine callN (hc := by exact ceil_ac _ (satN (w + j)) tt hs (by omega) (by omega)) (h := ?_)
  repeat refine w1 (k := ?_)
  exact ⟨[.c _], .cons (.tmp rfl) .nil, rfl⟩
theorem goAll_fine : ∀ (l seen : List Tk), (goAll seen l).2 = 0 → (∀ t ∈ l, chkT t = 0 ∧ ∀ u ∈ seen, u.p ≠ t.p) ∧ l.Pairwise (fun a b => a.p ≠ b.p)
  | [], seen, _ => ⟨fun t h => (by cases h), .nil⟩
  | t :: r, seen, h => by
    rw [goAll] at h
    by_cases h1 : chkT t = 0
    · rw [if_pos h1] at h
      by_cases h2 : seen.any (fun u => decide (u.nm = t.nm) || decide (u.p = t.p)) = true
      · rw [if_pos h2] at h; cases h
      · rw [if_neg h2] at h
        obtain ⟨g1, g2⟩ := goAll_fine r (seen ++ [t]) h
        refine ⟨fun u hu => ?_, List.pairwise_cons.2 ⟨fun u hu => ?_, g2⟩⟩
        · rcases List.mem_cons.1 hu with rfl | hu
          · refine ⟨h1, fun v hv e => h2 (List.any_eq_true.2 ⟨v, hv, by simp [e]⟩)⟩
          · exact ⟨(g1 u hu).1, fun v hv => (g1 u hu).2 v (List.mem_append_left _ hv)⟩
        · exact (g1 u hu).2 t (by simp)
    · rw [if_neg h1] at h; exact absurd h h1
structure Fine (t : Tk) : Prop where
  hc : 1 ≤ t.c ∧ t.c ≤ 2147483647
  ht : 1 ≤ t.t ∧ t.t ≤ 2147483647
  hd : 1 ≤ t.d ∧ t.d ≤ 2147483647
  hj : 0 ≤ t.j ∧ t.j ≤ 2147483647
  hq : 1 ≤ t.q ∧ t.q ≤ 2147483647
  hp : 1 ≤ t.p ∧ t.p ≤ 1048576
theorem chk_fine {t : Tk} (h : chkT t = 0) : Fine t := by
  by_cases h2 : ariP t.nm.size t.c t.t t.d t.j t.q t.p
  · unfold ariP at h2
    exact ⟨by omega, by omega, by omega, by omega, by omega, by omega⟩
  · unfold chkT at h
    rw [chk_no h2] at h; cases h
theorem is_spec {l : List Tk} {i : Int} (h : isB l i = true) : l.length ≤ 1024 ∧ (∀ t ∈ l, Fine t) ∧ ∃ k : Nat, i = k ∧ k < l.length := by
  unfold isB at h
  simp only [Bool.and_eq_true, decide_eq_true_eq] at h
  obtain ⟨⟨h1, h2⟩, h3⟩ := h
  unfold allI at h1
  by_cases h4 : l.length = 0 ∨ 1024 < l.length
  · rw [if_pos h4] at h1; cases h1
  · rw [if_neg h4] at h1
    obtain ⟨g1, _⟩ := goAll_fine l [] h1
    exact ⟨by omega, fun t ht => chk_fine (g1 t ht).1, i.toNat, by omega, by omega⟩
theorem range_filter (n : Nat) (q : Nat → Bool) : ∀ N, n ≤ N → (List.range N).filter (fun j => decide (j < n) && q j) = (List.range n).filter q := by
  intro N
  induction N with
  | zero => intro h; obtain rfl : n = 0 := by omega
            rfl
  | succ N ih =>
    intro h
    by_cases h2 : n = N + 1
    · subst h2
      refine List.filter_congr fun j hj => ?_
      have := List.mem_range.1 hj
      simp [this]
    · rw [List.range_succ, List.filter_append, ih (by omega)]
      have : ¬ N < n := by omega
      simp [this]
def pick (l : List Tk) (p : Tk → Bool) (n : Nat) : List Nat := (List.range n).filter fun k => l[k]?.any p
theorem els_bits (l : List Tk) (p : Tk → Bool) (h : l.length ≤ 1024) : els (bitsN l p l.length) = pick l p l.length := by
  unfold els pick
  rw [← range_filter l.length _ 1024 h]
  refine List.filter_congr fun j hj => ?_
  have := List.mem_range.1 hj
  rw [bitsN_bit]; simp [this]
/-- One more, of a task told by its place. -/
def atK {α : Type} (l : List Tk) (h : α → Tk → α) (a : α) (k : Nat) : α := match l[k]? with
  | some t => h a t
  | none => a
theorem pick_fold {α : Type} (l : List Tk) (p : Tk → Bool) (h : α → Tk → α) (a : α) (n : Nat) (hn : n ≤ l.length) : (pick l p n).foldl (atK l h) a = (l.take n).foldl (fun a t => if p t then h a t else a) a := by
  induction n with
  | zero => simp [pick]
  | succ n ih =>
    have hj : n < l.length := by omega
    rw [List.take_succ_eq_append_getElem hj, List.foldl_append, ← ih (by omega)]
    unfold pick
    rw [List.range_succ, List.filter_append, List.foldl_append]
    have e : l[n]?.any p = p l[n] := by rw [List.getElem?_eq_getElem hj]; rfl
    cases hp : p l[n] with
    | true =>
      have : [n].filter (fun k => l[k]?.any p) = [n] := by simp [e, hp]
      rw [this]
      simp only [List.foldl_cons, List.foldl_nil, hp, if_true]
      unfold atK
      rw [List.getElem?_eq_getElem hj]
    | false =>
      have : [n].filter (fun k => l[k]?.any p) = [] := by simp [e, hp]
      rw [this]
      simp [hp]
theorem fold_bits {α : Type} (l : List Tk) (p : Tk → Bool) (h : α → Tk → α) (a : α) (hl : l.length ≤ 1024) : (els (bitsN l p l.length)).foldl (atK l h) a = l.foldl (fun a t => if p t then h a t else a) a := by
  rw [els_bits l p hl, pick_fold l p h a l.length (Nat.le_refl _), List.take_length]
theorem bits_at {l : List Tk} {p : Tk → Bool} (hl : l.length ≤ 1024) {i : Nat} (hi : i < (els (bitsN l p l.length)).length) : ∃ h : (els (bitsN l p l.length))[i] < l.length, p l[(els (bitsN l p l.length))[i]] = true := by
  have := List.getElem_mem hi
  generalize (els (bitsN l p l.length))[i] = k at *
  rw [els_bits l p hl] at this
  unfold pick at this
  obtain ⟨h1, h2⟩ := List.mem_filter.1 this
  have h3 := List.mem_range.1 h1
  refine ⟨h3, ?_⟩
  rw [List.getElem?_eq_getElem h3] at h2
  exact h2
