-- Laid by wip/printx.py: arguments opened.
import Derived.Test.YthhojifpogghlaaPChainsx0
import Derived.Test.YthhojifpogghlaaRw
namespace Go.Proofs.Ythhojifpogghlaa.PChains
open Go.RowKit Go.Proofs.YthhojifpogghlaaW.PrintWords
set_option linter.unusedSimpArgs false
set_option maxHeartbeats 4000000 in
theorem o42 : Rw.Opens Try.prog 42 k42 (fun x => ((Lit.int .u64 x.f0).wf = true ∧ (Lit.int .u64 x.f1).wf = true ∧ (Lit.int .u64 x.f2).wf = true)) := by
  intro H enc w base spare held fuel cs x h
  obtain ⟨xs, n, _, _, hl, hxl, hf⟩ := DataW.trod_array Try.underlying42 h
  have hcs : cs.length = 3 := hl.trans (by kernel_rfl)
  have hxs : xs.length = 3 := hxl
  obtain ⟨c0_, c1_, c2_, rfl⟩ := Rw.list3 hcs
  have g0 := (hf 0 (by omega)).trans (List.getElem?_eq_getElem (show 0 < xs.length by omega))
  (try dsimp only at g0)
  rw [show Try.prog.cellsOf 22 = 1 from by kernel_rfl] at g0
  simp only [Nat.zero_mul, Nat.one_mul, Nat.mul_one, Nat.reduceMul, List.drop_zero, List.drop_succ_cons, List.take_succ_cons, List.take_zero] at g0
  obtain ⟨a0_, k0_, o0_⟩ := (Rw.Opens.int Try.underlying22) g0
  have g1 := (hf 1 (by omega)).trans (List.getElem?_eq_getElem (show 1 < xs.length by omega))
  (try dsimp only at g1)
  rw [show Try.prog.cellsOf 22 = 1 from by kernel_rfl] at g1
  simp only [Nat.zero_mul, Nat.one_mul, Nat.mul_one, Nat.reduceMul, List.drop_zero, List.drop_succ_cons, List.take_succ_cons, List.take_zero] at g1
  obtain ⟨a1_, k1_, o1_⟩ := (Rw.Opens.int Try.underlying22) g1
  have g2 := (hf 2 (by omega)).trans (List.getElem?_eq_getElem (show 2 < xs.length by omega))
  (try dsimp only at g2)
  rw [show Try.prog.cellsOf 22 = 1 from by kernel_rfl] at g2
  simp only [Nat.zero_mul, Nat.one_mul, Nat.mul_one, Nat.reduceMul, List.drop_zero, List.drop_succ_cons, List.take_succ_cons, List.take_zero] at g2
  obtain ⟨a2_, k2_, o2_⟩ := (Rw.Opens.int Try.underlying22) g2
  exact ⟨⟨a0_, a1_, a2_⟩, ⟨[c0_], [c1_, c2_], rfl, k0_, ⟨[c1_], [c2_], rfl, k1_, k2_⟩⟩, ⟨o0_, o1_, o2_⟩⟩
end Go.Proofs.Ythhojifpogghlaa.PChains
