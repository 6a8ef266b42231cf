/- Chapter 18: orders that are made are ones, and tasks' order tells them. -/
import Derived.Test.YtkgajiddcljdjaaO7
import Derived.Test.YtkgajiddcljdjaaS4
set_option linter.all false
set_option maxRecDepth 2000
set_option maxHeartbeats 8000000
namespace Go.Proofs.Vl
open Go Go.RowKit
attribute [local irreducible] AWp OpTo Run DL Val UN DR AC Le thn inb nog
theorem vSt_true (n : Nat) : ∀ (xs : List Int) (bs : List Bool), (∀ x ∈ xs, 0 ≤ x ∧ x < (n : Int)) → xs.Nodup → (∀ x ∈ xs, bs[x.toNat]? = some false) → vSt n bs xs = true
  | [], _, _, _, _ => rfl
  | x :: xs, bs, h1, h2, h3 => by
    obtain ⟨g1, g2⟩ := List.nodup_cons.1 h2
    have hx := h1 x List.mem_cons_self
    rw [vSt, if_pos ⟨hx.1, hx.2, h3 x List.mem_cons_self⟩]
    refine vSt_true n xs _ (fun y hy => h1 y (List.mem_cons_of_mem _ hy)) g2 fun y hy => ?_
    have hy1 := h1 y (List.mem_cons_of_mem _ hy)
    have hne : x ≠ y := fun e => g1 (e ▸ hy)
    rw [List.getElem?_set_ne (by omega)]
    exact h3 y (List.mem_cons_of_mem _ hy)
theorem idL_rng {n : Nat} {p : List Int} (hp : p.Perm (idL n)) : (∀ x ∈ p, 0 ≤ x ∧ x < (n : Int)) ∧ p.Nodup ∧ p.length = n := by
  refine ⟨fun x hx => ?_, hp.nodup_iff.2 (idL_nodup n), by rw [hp.length_eq, idL_len]⟩
  obtain ⟨k, rfl, hk⟩ := idL_mem (hp.mem_iff.1 hx)
  omega
theorem vB_perm {n : Nat} {p : List Int} (hp : p.Perm (idL n)) : vB p = true := by
  obtain ⟨h1, h2, h3⟩ := idL_rng hp
  unfold vB
  rw [h3]
  refine vSt_true n p _ h1 h2 fun x hx => ?_
  have := h1 x hx
  rw [List.getElem?_replicate, if_pos (by omega)]
theorem setPr_at (out : List Tk) (x v : Int) (m : Nat) : (setPr out x v)[m]? = if x.toNat = m then (out[m]?).map fun t => { t with p := v } else out[m]? := by
  unfold setPr
  split
  · rename_i t ht
    by_cases hm : x.toNat = m
    · subst hm
      rw [if_pos rfl, ht, List.getElem?_set_self (by exact (List.getElem?_eq_some_iff.1 ht).1)]; rfl
    · rw [if_neg hm, List.getElem?_set_ne hm]
  · rename_i ht
    by_cases hm : x.toNat = m
    · subst hm; rw [if_pos rfl, ht]; rfl
    · rw [if_neg hm]
theorem appG_no : ∀ (xs : List Int) (k : Nat) (out : List Tk) (m : Nat), (∀ x ∈ xs, x.toNat ≠ m) → (appG k out xs)[m]? = out[m]?
  | [], _, _, _, _ => rfl
  | x :: xs, k, out, m, h => by
    rw [appG, appG_no xs _ _ _ (fun y hy => h y (List.mem_cons_of_mem _ hy)), setPr_at, if_neg (h x List.mem_cons_self)]
theorem appG_at : ∀ (xs : List Int) (k : Nat) (out : List Tk), (∀ x ∈ xs, 0 ≤ x ∧ x < (out.length : Int)) → xs.Nodup → ∀ (j : Nat) (h : j < xs.length), ((appG k out xs)[xs[j].toNat]?).map (·.p) = some ((k + j + 1 : Nat) : Int)
  | [], _, _, _, _, j, h => by simp at h
  | x :: xs, k, out, h1, h2, j, h => by
    obtain ⟨g1, g2⟩ := List.nodup_cons.1 h2
    have hx := h1 x List.mem_cons_self
    have hr : ∀ y ∈ xs, 0 ≤ y ∧ y < (out.length : Int) := fun y hy => h1 y (List.mem_cons_of_mem _ hy)
    rw [appG]
    cases j with
    | zero =>
      rw [List.getElem_cons_zero, appG_no xs _ _ _ (fun y hy => by have := hr y hy; have : x ≠ y := fun e => g1 (e ▸ hy); omega), setPr_at, if_pos rfl, List.getElem?_eq_getElem (show x.toNat < out.length by omega)]
      simp
    | succ j =>
      rw [List.getElem_cons_succ, appG_at xs (k + 1) _ (by rw [setPr_len]; exact hr) g2 j (by simpa using h)]
      congr 1; omega
theorem order_app {l : List Tk} {p : List Int} (hp : p.Perm (idL l.length)) : ordL (appL l p) = p := by
  obtain ⟨h1, h2, h3⟩ := idL_rng hp
  have hl : (appL l p).length = l.length := appG_len _ _ _
  have hpw : p.Pairwise (fun a b => lexL (pAtI (appL l p)) a b) := by
    rw [List.pairwise_iff_getElem]
    intro i j hi hj hij
    have e : ∀ m (hm : m < p.length), pAtI (appL l p) p[m] = ((m + 1 : Nat) : Int) := fun m hm => by
      have := appG_at p 0 l h1 h2 m hm
      unfold pAtI appL
      cases hx : (appG 0 l p)[p[m].toNat]? with
      | none => rw [hx] at this; cases this
      | some t => rw [hx] at this; simp only [Option.map_some, Option.some.injEq] at this; dsimp only; rw [this]; congr 1; omega
    left
    rw [e i hi, e j hj]; omega
  refine eq_of_sorted (lex_asym _) ((ordL_perm _).trans ?_) (ordL_pw _) hpw
  rw [hl]; exact hp.symm
