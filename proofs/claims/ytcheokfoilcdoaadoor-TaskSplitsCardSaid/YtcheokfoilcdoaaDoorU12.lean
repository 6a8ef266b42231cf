/- TaskUrgent's row. -/
import Derived.Test.YtcheokfoilcdoaaDoorU11
set_option linter.all false
set_option maxRecDepth 2000
set_option maxHeartbeats 8000000
namespace Go.Proofs.Vl
open Go Go.RowKit
attribute [local irreducible] AWp OpTo Run DL Val UN DR AC Le thn inb nog
attribute [local irreducible] els nxO
theorem set_len (l : List Sp) (most turn : Int) : (setL l most turn).length = min most.toNat (sp0 l turn).length := by simp [setL]
theorem set_b (l : List Sp) (most turn : Int) (hl : l.length ≤ maxLen) (hm : 1 ≤ most) : 1 ≤ (setL l most turn).length ∧ ((setL l most turn).length : Int) ≤ most := by
  have := set_len l most turn
  have := (sp0_len l turn hl).1
  omega
theorem emod_b (a b : Int) (h : 0 < b) : 0 ≤ a % b ∧ a % b < b := ⟨Int.emod_nonneg a (by omega), Int.emod_lt_of_pos a h⟩
theorem turgent_ac (raw : List Tk) (sp : List Sp) (n : Int) (hr : raw.length ≤ maxLen) (hl : sp.length ≤ maxLen) (hn : ok64 n) : AC Tryd.prog GL 3 [fro tkP raw, fro spP sp, vi n] [] (fun r _ => r = vb true) := by
  refine AC.body' Tryd.func3 Tryd.ntmps3 rfl ?_
  intro cx hd hG
  refine nrmL (k := ?_)
  repeat refine w1 (k := ?_)
  have hm : raw.length ≤ 9223372036854775807 := hr
  obtain ⟨w0, fz0, β0, df, G0⟩ := cx
  obtain rfl : G0 = GL := hG
  refine callN (hc := by exact awake_ac _) (h := ?_)
  repeat refine w1 (k := ?_)
  refine cutNN [(10, 5)] (α := List Tk) (fun rw => [(0, fro tkP rw)]) (fun rw => []) (fun rw => rw.length ≤ 6) ?_ (fun rw hI => ?_)
  ·
    refine condN (h1 := fun h => ?_) (h0 := fun h => ?_)
    ·
      repeat refine w1 (k := ?_)
      first | refine ofN (hv := by exact Val.cutN (f := tkP) (l := raw) (a := 0) (b := 6) rfl rfl rfl Bnd.no (Bnd.at (v := 6) (k := .i64) rfl rfl (by decide)) (by decide) (by omega) (fun _ => rfl)) (h := ?_) | refine dlN (hv := by exact Val.cutN (f := tkP) (l := raw) (a := 0) (b := 6) rfl rfl rfl Bnd.no (Bnd.at (v := 6) (k := .i64) rfl rfl (by decide)) (by decide) (by omega) (fun _ => rfl)) (h := ?_) | refine dlgN (hv := by exact Val.cutN (f := tkP) (l := raw) (a := 0) (b := 6) rfl rfl rfl Bnd.no (Bnd.at (v := 6) (k := .i64) rfl rfl (by decide)) (by decide) (by omega) (fun _ => rfl)) (h := ?_) | refine ofN (hv := by exact Val.cutN (f := tkP) (l := raw) (a := 0) (b := 6) rfl rfl rfl Bnd.no (Bnd.at (v := 6) (k := .i64) rfl rfl (by decide)) (by decide) (by omega) (fun _ => rfl)) (h := ?_)
      repeat refine w1 (k := ?_)
      refine ⟨(raw.take 6).drop 0, by simp; omega, frg⟩
    ·
      repeat refine w1 (k := ?_)
      refine ⟨raw, by omega, frg⟩
  refine nrmL (k := ?_)
  repeat refine w1 (k := ?_)
  refine OpTo.callO (by rfl) (by rfl) (by rfl) (by rfl) (set_ac _ sp 8 n hl (by decide) (by decide)) ?_
  rintro r os' ⟨rfl, hf⟩
  refine ⟨_, .row rfl hf (tkP_ok _ _) (by decide) rfl, ?_⟩
  have s1 := set_b sp 8 n hl (by decide)
  generalize setL sp 8 n = s at s1 ⊢
  refine nrm (k := ?_)
  repeat refine w1 (k := ?_)
  first | refine zA 17 (h := ?_) | refine zO 17 (h := ?_) | refine zL 17 (h := ?_) | refine zL3 17 (h := ?_)
  refine nrm (k := ?_)
  have g9 := emod_b n 9 (by decide)
  have g8 := emod_b n 8 (by decide)
  repeat refine w1 (k := ?_)
  refine callN (hc := by exact urgent_ac rw n (by omega) hn) (h := ?_)
  repeat refine w1 (k := ?_)
  refine callN (hc := by exact urgent_ac s n (by omega) hn) (h := ?_)
  repeat refine w1 (k := ?_)
  refine callN (hc := by exact rest_ac _ n 9 (by decide) (by decide)) (h := ?_)
  repeat refine w1 (k := ?_)
  refine callN (hc := by exact urgent_ac s (n % 9 - 1) (by omega) ⟨by omega, by omega⟩) (h := ?_)
  repeat refine w1 (k := ?_)
  refine callN (hc := by exact rest_ac _ n 8 (by decide) (by decide)) (h := ?_)
  repeat refine w1 (k := ?_)
  refine callN (hc := by exact urgent_ac rw (n % 8 - 1) (by omega) ⟨by omega, by omega⟩) (h := ?_)
  repeat refine w1 (k := ?_)
  exact ⟨[.c _], .cons (.tmp rfl) .nil, rfl⟩
