/- StreamOrders. -/
import Derived.Test.YtekkpgfklhhacaaR5
set_option linter.all false
set_option maxRecDepth 2000
set_option maxHeartbeats 8000000
namespace Go.Proofs.Vl
open Go Go.RowKit
attribute [local irreducible] AWp OpTo Run DL Val UN DR AC Le thn inb nog
theorem set4_b (l : List Sp) (turn : Int) (hl : l.length ≤ maxLen) : 1 ≤ (setL l 4 turn).length ∧ (setL l 4 turn).length ≤ 4 := by
  have h := sp0_len l turn hl
  have e : (setL l 4 turn).length = min 4 (sp0 l turn).length := by simp [setL]
  omega
theorem set4_ok (l : List Sp) (turn : Int) : ∀ t ∈ setL l 4 turn, t.nm.size ≤ maxLen ∧ 1 ≤ t.c ∧ t.c ≤ 1000 ∧ 0 ≤ t.j ∧ t.j ≤ 1000 ∧ 1 ≤ t.q ∧ t.q ≤ 1000 := by
  intro t h
  obtain ⟨i, hi, rfl⟩ := List.getElem_of_mem h
  simp only [setL, List.getElem_mapIdx, mkT]
  generalize ((sp0 l turn).take (4 : Int).toNat)[i]'(by simpa [setL] using hi) = x
  have a1 := Int.emod_nonneg x.c (show (4 : Int) ≠ 0 by decide)
  have a2 := Int.emod_lt_of_pos x.c (show (0 : Int) < 4 by decide)
  have b1 := Int.emod_nonneg x.d (show (11 : Int) ≠ 0 by decide)
  have b2 := Int.emod_lt_of_pos x.d (show (0 : Int) < 11 by decide)
  have c1 := Int.emod_nonneg x.j (show (1 + x.c % 4 + x.d % 11 - (1 + x.c % 4) + 1 : Int) ≠ 0 by omega)
  have c2 := Int.emod_lt_of_pos x.j (show (0 : Int) < 1 + x.c % 4 + x.d % 11 - (1 + x.c % 4) + 1 by omega)
  have d1 := Int.emod_nonneg x.q (show (1 + x.c % 4 : Int) ≠ 0 by omega)
  have d2 := Int.emod_lt_of_pos x.q (show (0 : Int) < 1 + x.c % 4 by omega)
  exact ⟨by rw [bsOf_size]; show 2 ≤ maxLen; decide, by omega, by omega, by omega, by omega, by omega, by omega⟩
theorem sorders_ac (G) (l : List Int) (sp : List Sp) (raw : List Raw) (hl : l.length ≤ maxLen) (hs : sp.length ≤ maxLen) (hr : raw.length ≤ maxLen) (hc : ∀ r ∈ raw, r.c.length ≤ maxLen) : AC Try.prog G 7 [fro (pvI .i64) l, fro spP sp, fro rawP raw] [] (fun r _ => r = vb true) := by
  refine AC.body' Try.func7 Try.ntmps7 rfl ?_
  intro cx hd hG
  refine nrmL (k := ?_)
  repeat refine w1 (k := ?_)
  obtain ⟨w0, fz0, β0, df, G0⟩ := cx
  obtain rfl : G0 = G := hG
  refine callN (hc := by exact awake09_ac _) (h := ?_)
  repeat refine w1 (k := ?_)
  rw [List.length_map]
  refine callRowN (hc := by exact set_ac _ sp 4 raw.length hs (by decide) (by decide) ) (hso := by exact  tkP_ok _ _) (h := ?_)
  have s1 := set4_b sp raw.length hs
  have s2 := set4_ok sp raw.length
  generalize setL sp 4 raw.length = s at s1 s2 ⊢
  refine nrm (k := ?_)
  repeat refine w1 (k := ?_)
  first | refine zA 13 (h := ?_) | refine zO 13 (h := ?_) | refine zL 13 (h := ?_) | refine zL3 13 (h := ?_)
  refine nrm (k := ?_)
  repeat refine w1 (k := ?_)
  refine callRowN (hc := by exact few_ac _ l hl ) (hso := by exact  jbP_ok _ (few_c l)) (h := ?_)
  have f1 := few_len l
  generalize fewJ l = m at f1 ⊢
  refine nrm (k := ?_)
  repeat refine w1 (k := ?_)
  first | refine zA 17 (h := ?_) | refine zO 17 (h := ?_) | refine zL 17 (h := ?_) | refine zL3 17 (h := ?_)
  refine nrm (k := ?_)
  refine callN (hc := by exact orders_ac _ m 5 f1) (h := ?_)
  repeat refine w1 (k := ?_)
  have d1 : ((raw.take 12).map fR).length ≤ 12 := by simp; omega
  have d2 : ∀ r ∈ (raw.take 12).map fR, r.c.length ≤ 5 := fun r h => by
    obtain ⟨x, _, rfl⟩ := List.mem_map.1 h
    simp [fR]; omega
  refine OpTo.callAO (by rfl) (by rfl) (by rfl) (by rfl) (fewR_ac _ raw hr hc) ?_
  rintro r os' ⟨rfl, hf⟩
  refine ⟨_, .row rfl hf (rawP_ok rfl _) (by decide) rfl, ?_⟩
  generalize (raw.take 12).map fR = fr at d1 d2 ⊢
  refine nrm (k := ?_)
  repeat refine w1 (k := ?_)
  first | refine zA 23 (h := ?_) | refine zO 23 (h := ?_) | refine zL 23 (h := ?_) | refine zL3 23 (h := ?_)
  refine nrm (k := ?_)
  refine OpTo.callAO (by rfl) (by rfl) (by rfl) (by rfl) (decode_ac _ s fr s1.1 (by omega) s2 d1 d2) ?_
  rintro r os' ⟨js, hj, rfl, hf⟩
  refine ⟨_, .row rfl hf (fun cs _ x _ => rfl) (by decide) rfl, ?_⟩
  refine nrm (k := ?_)
  repeat refine w1 (k := ?_)
  first | refine zA 24 (h := ?_) | refine zO 24 (h := ?_) | refine zL 24 (h := ?_) | refine zL3 24 (h := ?_)
  refine nrm (k := ?_)
  refine callN (hc := by exact orders_ac _ js l.length (by omega)) (h := ?_)
  repeat refine w1 (k := ?_)
  refine callN (hc := by exact orders_ac _ [] 0 (by decide)) (h := ?_)
  repeat refine w1 (k := ?_)
  exact ⟨[.c _], .cons (.tmp rfl) .nil, rfl⟩
