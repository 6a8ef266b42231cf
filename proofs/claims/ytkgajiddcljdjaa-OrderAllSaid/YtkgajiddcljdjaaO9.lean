/- OrderApplies. -/
import Derived.Test.YtkgajiddcljdjaaO8
set_option linter.all false
set_option maxRecDepth 2000
set_option maxHeartbeats 8000000
namespace Go.Proofs.Vl
open Go Go.RowKit
attribute [local irreducible] AWp OpTo Run DL Val UN DR AC Le thn inb nog
theorem vSt_rng (n : Nat) : ∀ (xs : List Int) (bs : List Bool), vSt n bs xs = true → ∀ x ∈ xs, 0 ≤ x ∧ x < (n : Int)
  | [], _, _, x, hx => by cases hx
  | y :: xs, bs, h, x, hx => by
    rw [vSt] at h
    split at h
    · rename_i hy
      rcases List.mem_cons.1 hx with rfl | hx
      · exact ⟨hy.1, hy.2.1⟩
      · exact vSt_rng n xs _ h x hx
    · cases h
theorem set_b6 (l : List Sp) (turn : Int) (hl : l.length ≤ maxLen) : 1 ≤ (setL l 6 turn).length ∧ (setL l 6 turn).length ≤ 6 := by
  have h := sp0_len l turn hl
  have e : (setL l 6 turn).length = min 6 (sp0 l turn).length := by simp [setL]
  omega
theorem applies_ac (G) (sp : List Sp) (ts odd : List Int) (hl : sp.length ≤ maxLen) (ht : ts.length ≤ maxLen) (ho : odd.length ≤ maxLen) : AC Try.prog G 7 [fro spP sp, fro (pvI .i64) ts, fro (pvI .i64) odd] [] (fun r _ => r = vb true) := by
  refine AC.body' Try.func7 Try.ntmps7 rfl ?_
  intro cx hd hG
  refine nrmL (k := ?_)
  repeat refine w1 (k := ?_)
  obtain ⟨w0, fz0, β0, df, G0⟩ := cx
  obtain rfl : G0 = G := hG
  refine callN (hc := by exact awake18_ac _) (h := ?_)
  repeat refine w1 (k := ?_)
  rw [List.length_map]
  refine callRowN (hc := by exact set_ac _ sp 6 ts.length hl (by decide) (by decide) ) (hso := by exact  tkP_ok _ _) (h := ?_)
  have s1 := set_b6 sp ts.length hl
  generalize setL sp 6 ts.length = s at s1 ⊢
  refine nrm (k := ?_)
  repeat refine w1 (k := ?_)
  first | refine zA 26 (h := ?_) | refine zO 26 (h := ?_) | refine zL 26 (h := ?_) | refine zL3 26 (h := ?_)
  refine nrm (k := ?_)
  repeat refine w1 (k := ?_)
  refine OpTo.callO (by rfl) (by rfl) (by rfl) (by rfl) (made_ac _ s.length ts (by omega) ht) ?_
  rintro r os' ⟨p, hp, rfl, hf⟩
  refine ⟨_, .row rfl hf (pvI_ok _) (by decide) rfl, ?_⟩
  refine nrm (k := ?_)
  repeat refine w1 (k := ?_)
  first | refine zA 30 (h := ?_) | refine zO 30 (h := ?_) | refine zL 30 (h := ?_) | refine zL3 30 (h := ?_)
  refine nrm (k := ?_)
  repeat refine w1 (k := ?_)
  obtain ⟨p1, p2, p3⟩ := idL_rng hp
  have hv := vB_perm hp
  refine OpTo.callO (by rfl) (by rfl) (by rfl) (by rfl) (apply_ac _ s p (by omega) p3 hv p1) ?_
  rintro r os' ⟨rfl, hf2⟩
  refine ⟨_, .row2 rfl hf2 (tkP_ok _ _) (by intro z hz; simp only [List.mem_cons, List.not_mem_nil, or_false] at hz; subst hz; rfl) (by decide) rfl, ?_⟩
  have hx : (appL s p).length = s.length := appG_len _ _ _
  refine nrm (k := ?_)
  repeat refine w1 (k := ?_)
  first | refine zA 34 (h := ?_) | refine zO 34 (h := ?_) | refine zL 34 (h := ?_) | refine zL3 34 (h := ?_)
  refine nrm (k := ?_)
  repeat refine w1 (k := ?_)
  refine callRowN (hc := by exact applyR_ac _ s p (by omega) p3 p1 ) (hso := by exact  tkP_ok _ _) (h := ?_)
  refine nrm (k := ?_)
  repeat refine w1 (k := ?_)
  first | refine zA 40 (h := ?_) | refine zO 40 (h := ?_) | refine zL 40 (h := ?_) | refine zL3 40 (h := ?_)
  refine nrm (k := ?_)
  refine callN (hc := by exact same05_ac _ (appL s p) (by omega)) (h := ?_)
  repeat refine w1 (k := ?_)
  have ho2 := order_ac G0 (appL s p) (by omega)
  rw [order_app hp] at ho2
  refine callRowN (hc := by exact ho2 ) (hso := by exact  pvI_ok _) (h := ?_)
  refine nrm (k := ?_)
  repeat refine w1 (k := ?_)
  first | refine zA 43 (h := ?_) | refine zO 43 (h := ?_) | refine zL 43 (h := ?_) | refine zL3 43 (h := ?_)
  refine nrm (k := ?_)
  refine callN (hc := by exact same18_ac _ p (by omega)) (h := ?_)
  repeat refine w1 (k := ?_)
  refine callRowN (hc := by exact few_ac _ odd ho ) (hso := by exact  pvI_ok _) (h := ?_)
  have hq8 : (fewI odd).length ≤ 8 := by simp [fewI]; omega
  generalize fewI odd = q at hq8 ⊢
  refine nrm (k := ?_)
  repeat refine w1 (k := ?_)
  first | refine zA 47 (h := ?_) | refine zO 47 (h := ?_) | refine zL 47 (h := ?_) | refine zL3 47 (h := ?_)
  refine nrm (k := ?_)
  repeat refine w1 (k := ?_)
  by_cases c1 : q.length = s.length
  ·
    cases c2 : vB q
    ·
      refine callN (hc := by exact apply_no_ac _ s q (by omega) c1 c2) (h := ?_)
      repeat refine w1 (k := ?_)
      simp only [List.length_map, c1, beq_self_eq_true]
      repeat refine w1 (k := ?_)
      refine callN (hc := by exact valid_ac _ q (by omega)) (h := ?_)
      repeat refine w1 (k := ?_)
      rw [c2]
      repeat refine w1 (k := ?_)
      first | refine ofN (hv := by exact Val.cutN (f := pvI .i64) (l := p) (a := 1) (b := p.length) rfl rfl rfl (Bnd.at (v := 1) (k := .i64) rfl rfl (by decide)) (.inl ⟨rfl, rfl⟩) (by omega) (by omega) (fun _ => rfl)) (h := ?_) | refine dlN (hv := by exact Val.cutN (f := pvI .i64) (l := p) (a := 1) (b := p.length) rfl rfl rfl (Bnd.at (v := 1) (k := .i64) rfl rfl (by decide)) (.inl ⟨rfl, rfl⟩) (by omega) (by omega) (fun _ => rfl)) (h := ?_) | refine dlgN (hv := by exact Val.cutN (f := pvI .i64) (l := p) (a := 1) (b := p.length) rfl rfl rfl (Bnd.at (v := 1) (k := .i64) rfl rfl (by decide)) (.inl ⟨rfl, rfl⟩) (by omega) (by omega) (fun _ => rfl)) (h := ?_) | refine ofN (hv := by exact Val.cutN (f := pvI .i64) (l := p) (a := 1) (b := p.length) rfl rfl rfl (Bnd.at (v := 1) (k := .i64) rfl rfl (by decide)) (.inl ⟨rfl, rfl⟩) (by omega) (by omega) (fun _ => rfl)) (h := ?_)
      repeat refine w1 (k := ?_)
      refine callN (hc := by exact apply_len_ac _ s ((p.take p.length).drop 1) (by omega) (by simp; omega) (by simp; omega)) (h := ?_)
      repeat refine w1 (k := ?_)
      refine OpTo.callO (by rfl) (by rfl) (by rfl) (by rfl) (apply_ac _ [] [] (by decide) rfl (by decide) (by simp)) ?_
      rintro r os' ⟨rfl, hf3⟩
      refine ⟨_, .row2 rfl hf3 (tkP_ok _ _) (by intro z hz; simp only [List.mem_cons, List.not_mem_nil, or_false] at hz; subst hz; rfl) (by decide) rfl, ?_⟩
      refine nrm (k := ?_)
      repeat refine w1 (k := ?_)
      first | refine ofN (hv := by exact Val.boolB Try.underlying4 rfl rfl rfl rfl rfl) (h := ?_) | refine dlN (hv := by exact Val.boolB Try.underlying4 rfl rfl rfl rfl rfl) (h := ?_) | refine dlgN (hv := by exact Val.boolB Try.underlying4 rfl rfl rfl rfl rfl) (h := ?_) | refine ofN (hv := by exact Val.boolB Try.underlying4 rfl rfl rfl rfl rfl) (h := ?_)
      repeat refine w1 (k := ?_)
      exact ⟨[.c _], .cons (.tmp rfl) .nil, rfl⟩
    ·
      refine OpTo.callO (by rfl) (by rfl) (by rfl) (by rfl) (apply_ac _ s q (by omega) c1 c2 (by have := vSt_rng _ _ _ c2; rwa [c1] at this)) ?_
      rintro r os' ⟨rfl, hf4⟩
      refine ⟨_, .row2 rfl hf4 (tkP_ok _ _) (by intro z hz; simp only [List.mem_cons, List.not_mem_nil, or_false] at hz; subst hz; rfl) (by decide) rfl, ?_⟩
      refine nrm (k := ?_)
      repeat refine w1 (k := ?_)
      simp only [List.length_map, c1, beq_self_eq_true]
      repeat refine w1 (k := ?_)
      refine callN (hc := by exact valid_ac _ q (by omega)) (h := ?_)
      repeat refine w1 (k := ?_)
      rw [c2]
      repeat refine w1 (k := ?_)
      first | refine ofN (hv := by exact Val.cutN (f := pvI .i64) (l := p) (a := 1) (b := p.length) rfl rfl rfl (Bnd.at (v := 1) (k := .i64) rfl rfl (by decide)) (.inl ⟨rfl, rfl⟩) (by omega) (by omega) (fun _ => rfl)) (h := ?_) | refine dlN (hv := by exact Val.cutN (f := pvI .i64) (l := p) (a := 1) (b := p.length) rfl rfl rfl (Bnd.at (v := 1) (k := .i64) rfl rfl (by decide)) (.inl ⟨rfl, rfl⟩) (by omega) (by omega) (fun _ => rfl)) (h := ?_) | refine dlgN (hv := by exact Val.cutN (f := pvI .i64) (l := p) (a := 1) (b := p.length) rfl rfl rfl (Bnd.at (v := 1) (k := .i64) rfl rfl (by decide)) (.inl ⟨rfl, rfl⟩) (by omega) (by omega) (fun _ => rfl)) (h := ?_) | refine ofN (hv := by exact Val.cutN (f := pvI .i64) (l := p) (a := 1) (b := p.length) rfl rfl rfl (Bnd.at (v := 1) (k := .i64) rfl rfl (by decide)) (.inl ⟨rfl, rfl⟩) (by omega) (by omega) (fun _ => rfl)) (h := ?_)
      repeat refine w1 (k := ?_)
      refine callN (hc := by exact apply_len_ac _ s ((p.take p.length).drop 1) (by omega) (by simp; omega) (by simp; omega)) (h := ?_)
      repeat refine w1 (k := ?_)
      refine OpTo.callO (by rfl) (by rfl) (by rfl) (by rfl) (apply_ac _ [] [] (by decide) rfl (by decide) (by simp)) ?_
      rintro r os' ⟨rfl, hf3⟩
      refine ⟨_, .row2 rfl hf3 (tkP_ok _ _) (by intro z hz; simp only [List.mem_cons, List.not_mem_nil, or_false] at hz; subst hz; rfl) (by decide) rfl, ?_⟩
      refine nrm (k := ?_)
      repeat refine w1 (k := ?_)
      first | refine ofN (hv := by exact Val.boolB Try.underlying4 rfl rfl rfl rfl rfl) (h := ?_) | refine dlN (hv := by exact Val.boolB Try.underlying4 rfl rfl rfl rfl rfl) (h := ?_) | refine dlgN (hv := by exact Val.boolB Try.underlying4 rfl rfl rfl rfl rfl) (h := ?_) | refine ofN (hv := by exact Val.boolB Try.underlying4 rfl rfl rfl rfl rfl) (h := ?_)
      repeat refine w1 (k := ?_)
      exact ⟨[.c _], .cons (.tmp rfl) .nil, rfl⟩
  ·
    refine callN (hc := by exact apply_len_ac _ s q (by omega) c1 (by omega)) (h := ?_)
    repeat refine w1 (k := ?_)
    first | refine ofN (hv := by exact Val.cutN (f := pvI .i64) (l := p) (a := 1) (b := p.length) rfl rfl rfl (Bnd.at (v := 1) (k := .i64) rfl rfl (by decide)) (.inl ⟨rfl, rfl⟩) (by omega) (by omega) (fun _ => rfl)) (h := ?_) | refine dlN (hv := by exact Val.cutN (f := pvI .i64) (l := p) (a := 1) (b := p.length) rfl rfl rfl (Bnd.at (v := 1) (k := .i64) rfl rfl (by decide)) (.inl ⟨rfl, rfl⟩) (by omega) (by omega) (fun _ => rfl)) (h := ?_) | refine dlgN (hv := by exact Val.cutN (f := pvI .i64) (l := p) (a := 1) (b := p.length) rfl rfl rfl (Bnd.at (v := 1) (k := .i64) rfl rfl (by decide)) (.inl ⟨rfl, rfl⟩) (by omega) (by omega) (fun _ => rfl)) (h := ?_) | refine ofN (hv := by exact Val.cutN (f := pvI .i64) (l := p) (a := 1) (b := p.length) rfl rfl rfl (Bnd.at (v := 1) (k := .i64) rfl rfl (by decide)) (.inl ⟨rfl, rfl⟩) (by omega) (by omega) (fun _ => rfl)) (h := ?_)
    repeat refine w1 (k := ?_)
    refine callN (hc := by exact apply_len_ac _ s ((p.take p.length).drop 1) (by omega) (by simp; omega) (by simp; omega)) (h := ?_)
    repeat refine w1 (k := ?_)
    refine OpTo.callO (by rfl) (by rfl) (by rfl) (by rfl) (apply_ac _ [] [] (by decide) rfl (by decide) (by simp)) ?_
    rintro r os' ⟨rfl, hf3⟩
    refine ⟨_, .row2 rfl hf3 (tkP_ok _ _) (by intro z hz; simp only [List.mem_cons, List.not_mem_nil, or_false] at hz; subst hz; rfl) (by decide) rfl, ?_⟩
    refine nrm (k := ?_)
    repeat refine w1 (k := ?_)
    first | refine ofN (hv := by exact Val.boolB Try.underlying4 rfl rfl rfl rfl rfl) (h := ?_) | refine dlN (hv := by exact Val.boolB Try.underlying4 rfl rfl rfl rfl rfl) (h := ?_) | refine dlgN (hv := by exact Val.boolB Try.underlying4 rfl rfl rfl rfl rfl) (h := ?_) | refine ofN (hv := by exact Val.boolB Try.underlying4 rfl rfl rfl rfl rfl) (h := ?_)
    repeat refine w1 (k := ?_)
    exact ⟨[.c _], .cons (.tmp rfl) .nil, rfl⟩
