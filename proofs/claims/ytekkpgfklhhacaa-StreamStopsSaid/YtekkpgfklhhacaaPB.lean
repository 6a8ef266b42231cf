/- StreamMerges. -/
import Derived.Test.YtekkpgfklhhacaaPA
set_option linter.all false
set_option maxRecDepth 2000
set_option maxHeartbeats 8000000
namespace Go.Proofs.Vl
open Go Go.RowKit
attribute [local irreducible] AWp OpTo Run DL Val UN DR AC Le thn inb nog
theorem itP_ok {m : Bool} (l : List It) : ∀ cs ∈ l.map itP, ∀ x ∈ cs, pvOk m x = true := by
  intro cs hc x hx
  obtain ⟨t, ht, rfl⟩ := List.mem_map.1 hc
  simp only [itP, List.mem_cons, List.not_mem_nil, or_false] at hx
  rcases hx with rfl | rfl <;> simp [pvOk, PV.solid]
def itV (a : It) : List Value := [.int .i64 a.k, .int .i64 a.w]
def qIt : List (String × TypeId × Nat) := [("Key", 3, 0), ("Which", 3, 1)]
theorem itV_refl (a : It) : qeq (itV a) (itV a) qIt = true := by simp [qeq, itV, qIt, veq]
theorem merges_ac (G) (rows : List (List It)) (hr : rows.length ≤ 1000) (hl : ∀ l ∈ rows, l.length ≤ 1000) : AC Try.prog G 10 [fro (slP itP) rows] [] (fun r _ => r = vb true) := by
  refine AC.bodyM Try.func10 Try.ntmps10 rfl ?_
  intro cx hd hG hrd hml hbs
  obtain ⟨w0, fz0, β0, df, G0, rd, rr, ml, bs⟩ := cx
  dsimp only at hd hG hrd hml hbs
  subst hd hG hrd hml hbs
  refine nrmL (k := ?_)
  repeat refine w1 (k := ?_)
  have hlen : (mrgL ltT rows).length ≤ 1000000 := by
    unfold mrgL
    rw [mrg_len _ _ rfl]
    exact Nat.le_trans (sumL_le 1000 hl) (Nat.mul_le_mul_right 1000 hr)
  have hit := mergeT_it G0 lessF rfl ltT (fun a c => lessT_ac G0 a c) rows hr hl
  refine callRowN (hc := by exact refm_ac _ rows hr hl ) (hso := by exact  itP_ok _) (h := ?_)
  generalize mrgL ltT rows = M at hlen hit ⊢
  refine nrm (k := ?_)
  repeat refine w1 (k := ?_)
  first | refine zA 8 (h := ?_) | refine zO 8 (h := ?_) | refine zL 8 (h := ?_) | refine zL3 8 (h := ?_)
  refine nrm (k := ?_)
  repeat refine w1 (k := ?_)
  refine callAN (hc := by exact mergeT_ac _ lessF rows) (h := ?_)
  refine nrm (k := ?_)
  repeat refine w1 (k := ?_)
  first | refine ofN (hv := by exact Val.fnNil rfl rfl Try.underlying29) (h := ?_) | refine dlN (hv := by exact Val.fnNil rfl rfl Try.underlying29) (h := ?_) | refine dlgN (hv := by exact Val.fnNil rfl rfl Try.underlying29) (h := ?_) | refine ofN (hv := by exact Val.fnNil rfl rfl Try.underlying29) (h := ?_)
  repeat refine w1 (k := ?_)
  refine cutIN [] (α := Unit) (fun u => []) (fun u => [(2, .pcells 4 [.s (.bool false)]), (3, .pcells 34 [.fro (M.map itP)]), (5, .pcells 3 [.s (.int .i64 (M.length : Int))])]) (fun u => True) ?_ (fun u hI => ?_)
  ·
    refine AWp.rangeF (α := Nat) (fun n => [(2, .pcells 4 [.s (.bool false)]), (3, .pcells 34 [.fro (M.map itP)]), (5, .pcells 3 [.s (.int .i64 (n : Int))])]) (fun i n => n = i) 0 0 [] (by first | rfl | assumption) (by first | rfl | assumption) (by first | rfl | assumption) rfl rfl rfl rfl (hit) (by simp [yT, YV.len]) (by decide) (.inl (by simp [yT])) (.inl rfl) (fun _ => rfl) (by rfl) (by intro k o; (try dsimp only []); repeat (first | exact id | exact find_none | refine find_keep ?_ | refine find_skip rfl ?_)) ?_ ?_
    ·
      intro cx' sv i y n hG' hd' hy hI
      obtain ⟨hi, rfl⟩ := yT_get hy
      obtain rfl := hI
      refine rst0 (k := ?_)
      repeat refine w1 (k := ?_)
      simp only [show ((SV : Nat) == 6) = false from rfl, cond_false]
      refine nrm (k := ?_)
      try simp only [show ((SV : Nat) == 6) = false from rfl, cond_false]
      refine ⟨by first | rfl | trivial, by first | rfl | trivial, fun cx'' hG2 hd2 => ?_⟩
      obtain ⟨w0, fz0, β0, df, G0, rd, rr, ml, bs⟩ := cx''
      dsimp only at hG2 hd2
      subst hG2 hd2
      repeat refine w1 (k := ?_)
      simp only [List.length_map, show decide ((n : Int) ≥ (M.length : Int)) = false from decide_eq_false (by omega)]
      repeat refine w1 (k := ?_)
      first | refine ofN (hv := by exact Val.neG (vs := itV M[n]) (us := itV M[n]) qIt true rfl rfl rfl rfl (by kernel_rfl) (by kernel_rfl) (by kernel_rfl) (by kernel_rfl) (by kernel_rfl) (itV_refl _)) (h := ?_) | refine dlN (hv := by exact Val.neG (vs := itV M[n]) (us := itV M[n]) qIt true rfl rfl rfl rfl (by kernel_rfl) (by kernel_rfl) (by kernel_rfl) (by kernel_rfl) (by kernel_rfl) (itV_refl _)) (h := ?_) | refine dlgN (hv := by exact Val.neG (vs := itV M[n]) (us := itV M[n]) qIt true rfl rfl rfl rfl (by kernel_rfl) (by kernel_rfl) (by kernel_rfl) (by kernel_rfl) (by kernel_rfl) (itV_refl _)) (h := ?_) | refine ofN (hv := by exact Val.neG (vs := itV M[n]) (us := itV M[n]) qIt true rfl rfl rfl rfl (by kernel_rfl) (by kernel_rfl) (by kernel_rfl) (by kernel_rfl) (by kernel_rfl) (itV_refl _)) (h := ?_)
      repeat refine w1 (k := ?_)
      exact ⟨n + 1, rfl, (by intro k o; (try dsimp only []); repeat (first | exact id | exact find_none | refine find_keep ?_ | refine find_skip rfl ?_)), rfl⟩
    ·
      rintro n rfl
      rw [yT_len]
      repeat refine w1 (k := ?_)
      refine ⟨(), by first | rfl | omega | trivial | (refine ⟨?_, ?_⟩ <;> first | rfl | omega), frg⟩
  refine nrmL (k := ?_)
  repeat refine w1 (k := ?_)
  simp only [List.length_map, beq_self_eq_true]
  exact ⟨rfl, [.c _], .cons (.ld1 rfl rfl rfl rfl) .nil, rfl⟩
theorem smerges_ac (G) (rows : List (List Int)) (hl : rows.length ≤ maxLen) (hr : ∀ r ∈ rows, r.length ≤ maxLen) : AC Try.prog G 3 [fro (slP (pvI .i64)) rows] [] (fun r _ => r = vb true) := by
  refine AC.body' Try.func3 Try.ntmps3 rfl ?_
  intro cx hd hG
  refine nrmL (k := ?_)
  repeat refine w1 (k := ?_)
  obtain ⟨w0, fz0, β0, df, G0⟩ := cx
  obtain rfl : G0 = G := hG
  refine callN (hc := by exact awake09_ac _) (h := ?_)
  repeat refine w1 (k := ?_)
  have hn : ∀ s : Bool, (itms s rows).length ≤ 1000 := fun s => by simp [itms]; omega
  have hm : ∀ s : Bool, ∀ l ∈ itms s rows, l.length ≤ 1000 := fun s l h => by
    obtain ⟨j, hj, rfl⟩ := List.getElem_of_mem h
    obtain ⟨xs, h1, h2⟩ := itms_at (List.getElem?_eq_getElem hj)
    rw [h2, itmG_len]; omega
  refine OpTo.callAO (by rfl) (by rfl) (by rfl) (by rfl) (items_ac _ rows false hl hr) ?_
  rintro r os' ⟨rfl, hf⟩
  refine ⟨_, .row rfl hf (slP_ok _ _ _ rfl) (by decide) rfl, ?_⟩
  refine nrm (k := ?_)
  repeat refine w1 (k := ?_)
  first | refine zA 8 (h := ?_) | refine zO 8 (h := ?_) | refine zL 8 (h := ?_) | refine zL3 8 (h := ?_)
  refine nrm (k := ?_)
  refine callN (hc := by exact merges_ac _ (itms false rows) (hn _) (hm _)) (h := ?_)
  repeat refine w1 (k := ?_)
  refine OpTo.callAO (by rfl) (by rfl) (by rfl) (by rfl) (items_ac _ rows true hl hr) ?_
  rintro r os' ⟨rfl, hf⟩
  refine ⟨_, .row rfl hf (slP_ok _ _ _ rfl) (by decide) rfl, ?_⟩
  refine nrm (k := ?_)
  repeat refine w1 (k := ?_)
  first | refine zA 13 (h := ?_) | refine zO 13 (h := ?_) | refine zL 13 (h := ?_) | refine zL3 13 (h := ?_)
  refine nrm (k := ?_)
  refine callN (hc := by exact merges_ac _ (itms true rows) (hn _) (hm _)) (h := ?_)
  repeat refine w1 (k := ?_)
  exact ⟨[.c _], .cons (.tmp rfl) .nil, rfl⟩
