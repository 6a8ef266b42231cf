/- What is sorted, and by what. -/
import Derived.Test.YtkgajiddcljdjaaS3
set_option linter.all false
set_option maxRecDepth 2000
set_option maxHeartbeats 8000000
namespace Go.Proofs.Vl
open Go Go.RowKit
attribute [local irreducible] AWp OpTo Run DL Val UN DR AC Le thn inb nog
def lexL (p : Int → Int) (x y : Int) : Prop := p x < p y ∨ (p x = p y ∧ x < y)
instance (p : Int → Int) (x y : Int) : Decidable (lexL p x y) := by unfold lexL; infer_instance
theorem ins_pw (p : Int → Int) (x : Int) : ∀ r : List Int, (∀ b ∈ r, b < x) → r.Pairwise (fun a b => lexL p b a) → (insR (fun x y => cmpI (p x) (p y)) x r).Pairwise (fun a b => lexL p b a)
  | [], _, _ => by unfold insR; exact List.pairwise_singleton _ _
  | b :: r, h, hp => by
    obtain ⟨h1, h2⟩ := List.pairwise_cons.1 hp
    unfold insR
    by_cases hc : cmpI (p x) (p b) < 0
    · rw [if_pos hc]
      have hlt : p x < p b := by unfold cmpI at hc; split at hc <;> (try split at hc) <;> omega
      refine List.pairwise_cons.2 ⟨fun z hz => ?_, ins_pw p x r (fun z hz => h z (List.mem_cons_of_mem _ hz)) h2⟩
      rcases List.mem_cons.1 ((insR_perm _ x r).mem_iff.1 hz) with rfl | hz
      · exact .inl hlt
      · exact h1 z hz
    · rw [if_neg hc]
      have hge : p b ≤ p x := by
        unfold cmpI at hc
        by_cases hl : p x < p b
        · rw [if_pos hl] at hc; exact absurd (by decide) hc
        · omega
      have hb := h b List.mem_cons_self
      refine List.pairwise_cons.2 ⟨fun z hz => ?_, hp⟩
      rcases List.mem_cons.1 hz with rfl | hz
      · unfold lexL; omega
      · have := h1 z hz
        unfold lexL at this ⊢
        omega
theorem sort_pw (p : Int → Int) (n : Nat) : (sortR (fun x y => cmpI (p x) (p y)) (idL n)).Pairwise (fun a b => lexL p b a) := by
  induction n with
  | zero => exact .nil
  | succ n ih =>
    have e : idL (n + 1) = idL n ++ [(n : Int)] := by unfold idL; rw [List.range_succ, List.map_append]; rfl
    rw [e, sortR_snoc]
    refine ins_pw p _ _ (fun b hb => ?_) ih
    obtain ⟨k, rfl, hk⟩ := idL_mem ((sortR_perm _ _).mem_iff.1 hb)
    omega
theorem eq_of_sorted {R : Int → Int → Prop} (asym : ∀ a b, R a b → ¬ R b a) : ∀ {A B : List Int}, A.Perm B → A.Pairwise R → B.Pairwise R → A = B
  | [], B, h, _, _ => (List.nil_perm.1 h).symm
  | a :: A, [], h, _, _ => absurd h.length_eq (by simp)
  | a :: A, b :: B, h, hA, hB => by
    obtain ⟨a1, a2⟩ := List.pairwise_cons.1 hA
    obtain ⟨b1, b2⟩ := List.pairwise_cons.1 hB
    have e : a = b := by
      rcases List.mem_cons.1 (h.mem_iff.1 List.mem_cons_self) with e | hb
      · exact e
      · rcases List.mem_cons.1 (h.mem_iff.2 List.mem_cons_self) with e | ha
        · exact e.symm
        · exact absurd (a1 _ ha) (asym _ _ (b1 _ hb))
    subst e
    rw [eq_of_sorted asym ((List.perm_cons a).1 h) a2 b2]
theorem lex_asym (p : Int → Int) (a b : Int) (h : lexL p a b) : ¬ lexL p b a := by unfold lexL at h ⊢; omega
theorem ordL_perm (l : List Tk) : (ordL l).Perm (idL l.length) := sortL_perm _ _
theorem ordL_pw (l : List Tk) : (ordL l).Pairwise (fun a b => lexL (pAtI l) a b) := by
  unfold ordL sortL
  rw [List.pairwise_reverse]
  exact sort_pw (pAtI l) l.length
theorem idL_nodup (n : Nat) : (idL n).Nodup := by
  unfold idL
  rw [List.nodup_iff_pairwise_ne, List.pairwise_map]
  exact List.Pairwise.imp (fun h => by omega) (List.nodup_iff_pairwise_ne.1 (List.nodup_range))
