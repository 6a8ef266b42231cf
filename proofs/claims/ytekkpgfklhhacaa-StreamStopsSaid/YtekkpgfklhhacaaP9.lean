/- What is merged out of rows in order is in order. -/
import Derived.Test.YtekkpgfklhhacaaP2
set_option linter.all false
namespace Go.Proofs.Vl
structure It where
  k : Int
  w : Int
def itP (a : It) : List PV := [.s (.int .i64 a.k), .s (.int .i64 a.w)]
def ltT (a b : It) : Bool := decide (a.k < b.k)
def keyT (s : Bool) (key x : Int) : Int := if s then key + x % 5 / 2 else x % 5
def itmG (s : Bool) (i : Nat) : Nat → Int → List Int → List It
  | _, _, [] => []
  | k, key, x :: xs => ⟨keyT s key x, 10 * (i : Int) + k⟩ :: itmG s i (k + 1) (keyT s key x) xs
def itmR (s : Bool) (i : Nat) (r : List Int) : List It := itmG s i 0 0 (r.take 8)
def itms (s : Bool) (rows : List (List Int)) : List (List It) := (rows.take 8).mapIdx (itmR s)
theorem itmG_len (s : Bool) (i : Nat) : ∀ (xs : List Int) (k : Nat) (key : Int), (itmG s i k key xs).length = xs.length
  | [], _, _ => rfl
  | x :: xs, k, key => by rw [itmG, List.length_cons, itmG_len s i xs, List.length_cons]
section
variable {α : Type} {lt : α → α → Bool}
theorem sumL_zero : ∀ {left : List (List α)}, (∀ (j : Nat) (r : List α), left[j]? = some r → r = []) → sumL left = 0
  | [], _ => rfl
  | l :: left, h => by
    have h1 := h 0 l rfl
    subst h1
    have := sumL_zero (left := left) (fun j r hr => h (j + 1) r hr)
    simpa [sumL] using this
theorem mrg_len : ∀ (n : Nat) (left : List (List α)), sumL left = n → (mrgF lt (sumL left) left).length = n
  | 0, left, h => by rw [h]; rfl
  | n + 1, left, h => by
    cases hb : bestF lt left left.length with
    | none =>
      have := sumL_zero (left := left) (fun j r hr => bestF_none hb j (List.getElem?_eq_some_iff.1 hr).1 r hr)
      omega
    | some b =>
      obtain ⟨g1, a, r, g2⟩ := bestF_some hb
      have hs := sumL_set g2
      rw [mrg_cons hb g2, List.length_cons, mrg_len n _ (by omega)]
theorem mrg_mem : ∀ (n : Nat) (left : List (List α)), sumL left = n → ∀ x ∈ mrgF lt (sumL left) left, ∃ (j : Nat) (r : List α), left[j]? = some r ∧ x ∈ r
  | 0, left, h, x, hx => by rw [h] at hx; cases hx
  | n + 1, left, h, x, hx => by
    cases hb : bestF lt left left.length with
    | none => rw [step_none (step_no hb)] at hx; cases hx
    | some b =>
      obtain ⟨g1, a, r, g2⟩ := bestF_some hb
      have hs := sumL_set g2
      rw [mrg_cons hb g2] at hx
      rcases List.mem_cons.1 hx with rfl | hx
      · exact ⟨b, _, g2, List.mem_cons_self⟩
      · obtain ⟨j, q, h1, h2⟩ := mrg_mem n _ (by omega) x hx
        by_cases e : b = j
        · subst e
          rw [List.getElem?_set_self (by exact g1)] at h1
          cases h1
          exact ⟨b, _, g2, List.mem_cons_of_mem _ h2⟩
        · rw [List.getElem?_set_ne e] at h1
          exact ⟨j, q, h1, h2⟩
end
/-- Ahead, by keys, and, of the same key, by which. -/
def Lx (a b : It) : Prop := a.k < b.k ∨ (a.k = b.k ∧ a.w < b.w)
theorem Lx.trans {a b c : It} (h : Lx a b) (h' : Lx b c) : Lx a c := by unfold Lx at *; omega
/-- Rows in order, the things of later rows later ones. -/
structure Rw (left : List (List It)) : Prop where
  pw : ∀ (j : Nat) (r : List It), left[j]? = some r → r.Pairwise Lx
  ap : ∀ (i j : Nat) (r q : List It), i < j → left[i]? = some r → left[j]? = some q → ∀ x ∈ r, ∀ y ∈ q, x.w < y.w
theorem best_min {left : List (List It)} (hR : Rw left) : ∀ {i b : Nat} {a : It} {r : List It}, bestF ltT left i = some b → left[b]? = some (a :: r) → ∀ j, j < i → j ≠ b → ∀ c q, left[j]? = some (c :: q) → Lx a c
  | 0, b, a, r, h, _, j, hj, _, _, _, _ => by omega
  | i + 1, b, a, r, h, hb, j, hj, hne, c, q, hc => by
    rw [bestF] at h
    split at h
    · rename_i a' r' hi
      split at h
      · rename_i hn
        cases h
        have := bestF_none hn j (by omega) _ hc
        cases this
      · rename_i b' hb'
        obtain ⟨g1, d, r2, g2⟩ := bestF_some hb'
        rw [g2] at h
        dsimp only at h
        split at h
        · rename_i hlt
          cases h
          rw [hi] at hb
          cases hb
          have hlt : a.k < d.k := by simpa [ltT] using hlt
          have had : Lx a d := .inl hlt
          by_cases e : j = b'
          · subst e; rw [g2] at hc; cases hc; exact had
          · exact had.trans (best_min hR hb' g2 j (by omega) e c q hc)
        · rename_i hlt
          cases h
          rw [g2] at hb
          cases hb
          by_cases e : j = i
          · subst e
            rw [hi] at hc
            cases hc
            have hw := hR.ap b j _ _ g1 g2 hi a List.mem_cons_self c List.mem_cons_self
            have hlt : ¬ c.k < a.k := by simpa [ltT] using hlt
            unfold Lx; omega
          · exact best_min hR hb' g2 j (by omega) hne c q hc
    · rename_i hno
      have g := bestF_some h
      by_cases e : j = i
      · subst e; exact (hno c q hc).elim
      · exact best_min hR h hb j (by omega) hne c q hc
theorem Rw.set {left : List (List It)} (hR : Rw left) {b : Nat} {a : It} {r : List It} (hb : left[b]? = some (a :: r)) : Rw (left.set b r) := by
  have hbl := (List.getElem?_eq_some_iff.1 hb).1
  have sub : ∀ (j : Nat) (q : List It), (left.set b r)[j]? = some q → ∃ q', left[j]? = some q' ∧ ∀ x ∈ q, x ∈ q' := fun j q hq => by
    by_cases e : b = j
    · subst e
      rw [List.getElem?_set_self hbl] at hq
      cases hq
      exact ⟨_, hb, fun x hx => List.mem_cons_of_mem _ hx⟩
    · rw [List.getElem?_set_ne e] at hq
      exact ⟨q, hq, fun x hx => hx⟩
  refine ⟨fun j q hq => ?_, fun i j q1 q2 hij h1 h2 x hx y hy => ?_⟩
  · by_cases e : b = j
    · subst e
      rw [List.getElem?_set_self hbl] at hq
      cases hq
      exact (List.pairwise_cons.1 (hR.pw b _ hb)).2
    · rw [List.getElem?_set_ne e] at hq
      exact hR.pw j q hq
  · obtain ⟨p1, e1, s1⟩ := sub i q1 h1
    obtain ⟨p2, e2, s2⟩ := sub j q2 h2
    exact hR.ap i j p1 p2 hij e1 e2 x (s1 x hx) y (s2 y hy)
theorem mrg_pw : ∀ (n : Nat) (left : List (List It)), sumL left = n → Rw left → (mrgF ltT (sumL left) left).Pairwise Lx
  | 0, left, h, _ => by rw [h]; exact List.Pairwise.nil
  | n + 1, left, h, hR => by
    cases hb : bestF ltT left left.length with
    | none => rw [step_none (step_no hb)]; exact List.Pairwise.nil
    | some b =>
      obtain ⟨g1, a, r, g2⟩ := bestF_some hb
      have hs := sumL_set g2
      rw [mrg_cons hb g2]
      refine List.pairwise_cons.2 ⟨fun y hy => ?_, mrg_pw n _ (by omega) (hR.set g2)⟩
      obtain ⟨j, q, h1, h2⟩ := mrg_mem n _ (by omega) y hy
      by_cases e : b = j
      · subst e
        rw [List.getElem?_set_self (by exact g1)] at h1
        cases h1
        exact (List.pairwise_cons.1 (hR.pw b _ g2)).1 y h2
      · rw [List.getElem?_set_ne e] at h1
        have hjl := (List.getElem?_eq_some_iff.1 h1).1
        cases q with
        | nil => cases h2
        | cons c q =>
          have hac := best_min hR hb g2 j hjl (fun e' => e e'.symm) c q h1
          rcases List.mem_cons.1 h2 with rfl | h2
          · exact hac
          · exact hac.trans ((List.pairwise_cons.1 (hR.pw j _ h1)).1 y h2)
theorem itmG_mem (s : Bool) (i : Nat) : ∀ (xs : List Int) (k : Nat) (key : Int), ∀ y ∈ itmG s i k key xs, 10 * (i : Int) + k ≤ y.w ∧ y.w < 10 * (i : Int) + k + xs.length
  | [], _, _, y, hy => by cases hy
  | x :: xs, k, key, y, hy => by
    rw [itmG] at hy
    rcases List.mem_cons.1 hy with rfl | hy
    · simp; omega
    · have := itmG_mem s i xs (k + 1) _ y hy
      simp at this ⊢; omega
theorem itmG_key (i : Nat) : ∀ (xs : List Int) (k : Nat) (key : Int), ∀ y ∈ itmG true i k key xs, key ≤ y.k
  | [], _, _, y, hy => by cases hy
  | x :: xs, k, key, y, hy => by
    rw [itmG] at hy
    have h5 := Int.emod_nonneg x (show (5 : Int) ≠ 0 by decide)
    have hk : key ≤ keyT true key x := by simp only [keyT, if_true]; omega
    rcases List.mem_cons.1 hy with rfl | hy
    · exact hk
    · exact Int.le_trans hk (itmG_key i xs (k + 1) _ y hy)
theorem itmG_pw (i : Nat) : ∀ (xs : List Int) (k : Nat) (key : Int), (itmG true i k key xs).Pairwise Lx
  | [], _, _ => List.Pairwise.nil
  | x :: xs, k, key => by
    rw [itmG]
    refine List.pairwise_cons.2 ⟨fun y hy => ?_, itmG_pw i xs (k + 1) _⟩
    have h1 := itmG_key i xs (k + 1) _ y hy
    have h2 := itmG_mem true i xs (k + 1) _ y hy
    unfold Lx
    dsimp only
    omega
theorem itms_at {s : Bool} {rows : List (List Int)} {j : Nat} {q : List It} (h : (itms s rows)[j]? = some q) : ∃ xs : List Int, xs.length ≤ 8 ∧ q = itmG s j 0 0 xs := by
  obtain ⟨h1, h2⟩ := List.getElem?_eq_some_iff.1 h
  refine ⟨((rows.take 8)[j]'(by simpa [itms] using h1)).take 8, by simp; omega, ?_⟩
  rw [← h2]
  simp [itms, itmR]
theorem itms_rw (rows : List (List Int)) : Rw (itms true rows) := by
  refine ⟨fun j q hq => ?_, fun i j q1 q2 hij h1 h2 x hx y hy => ?_⟩
  · obtain ⟨xs, _, rfl⟩ := itms_at hq
    exact itmG_pw j xs 0 0
  · obtain ⟨xs, l1, rfl⟩ := itms_at h1
    obtain ⟨ys, l2, rfl⟩ := itms_at h2
    have a1 := itmG_mem true i xs 0 0 x hx
    have a2 := itmG_mem true j ys 0 0 y hy
    omega
theorem itms_key (rows : List (List Int)) : ∀ x ∈ mrgL ltT (itms true rows), 0 ≤ x.k := by
  intro x hx
  obtain ⟨j, q, h1, h2⟩ := mrg_mem _ _ rfl x hx
  obtain ⟨xs, _, rfl⟩ := itms_at h1
  exact itmG_key j xs 0 0 x h2
end Go.Proofs.Vl
