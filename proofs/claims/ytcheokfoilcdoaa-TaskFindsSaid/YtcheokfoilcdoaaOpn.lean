-- Laid by wip/printx.py: arguments opened.
import Derived.Test.YtcheokfoilcdoaaPAllx0
import Derived.Test.YtcheokfoilcdoaaRw
namespace Go.Proofs.Ytcheokfoilcdoaa.PAll
open Go.RowKit Go.Proofs.YtcheokfoilcdoaaW.PrintWords
set_option linter.unusedSimpArgs false
set_option maxHeartbeats 4000000 in
theorem o26 : Rw.Opens Try.prog 26 k26 (fun x => (x.f0.size ≤ maxLen ∧ (Lit.int .i64 x.f1).wf = true ∧ (Lit.int .i64 x.f2).wf = true ∧ (Lit.int .i64 x.f3).wf = true ∧ (Lit.int .i64 x.f4).wf = true ∧ (Lit.int .i64 x.f5).wf = true ∧ (Lit.int .i64 x.f6).wf = true)) := by
  intro H enc w base spare held fuel cs x h
  obtain ⟨xs, n, _, _, hl, hxl, hf⟩ := DataW.trod_struct Try.underlying26 h
  have hcs : cs.length = 7 := hl.trans (by kernel_rfl)
  have hxs : xs.length = 7 := hxl
  obtain ⟨c0_, c1_, c2_, c3_, c4_, c5_, c6_, rfl⟩ := Rw.list7 hcs
  have g0 := (hf 0 _ rfl).trans (List.getElem?_eq_getElem (show 0 < xs.length by omega))
  (try dsimp only at g0); (try simp only [List.getElem_toArray, List.getElem_cons_zero, List.getElem_cons_succ] at g0)
  rw [show Try.prog.cellsOf 9 = 1 from by kernel_rfl] at g0
  simp only [Nat.zero_mul, Nat.one_mul, Nat.mul_one, Nat.reduceMul, List.drop_zero, List.drop_succ_cons, List.take_succ_cons, List.take_zero] at g0
  obtain ⟨a0_, k0_, o0_⟩ := (Rw.Opens.string Try.underlying9) g0
  have g1 := (hf 1 _ rfl).trans (List.getElem?_eq_getElem (show 1 < xs.length by omega))
  (try dsimp only at g1); (try simp only [List.getElem_toArray, List.getElem_cons_zero, List.getElem_cons_succ] at g1)
  rw [show Try.prog.cellsOf 2 = 1 from by kernel_rfl] at g1
  simp only [Nat.zero_mul, Nat.one_mul, Nat.mul_one, Nat.reduceMul, List.drop_zero, List.drop_succ_cons, List.take_succ_cons, List.take_zero] at g1
  obtain ⟨a1_, k1_, o1_⟩ := (Rw.Opens.int Try.underlying2) g1
  have g2 := (hf 2 _ rfl).trans (List.getElem?_eq_getElem (show 2 < xs.length by omega))
  (try dsimp only at g2); (try simp only [List.getElem_toArray, List.getElem_cons_zero, List.getElem_cons_succ] at g2)
  rw [show Try.prog.cellsOf 2 = 1 from by kernel_rfl] at g2
  simp only [Nat.zero_mul, Nat.one_mul, Nat.mul_one, Nat.reduceMul, List.drop_zero, List.drop_succ_cons, List.take_succ_cons, List.take_zero] at g2
  obtain ⟨a2_, k2_, o2_⟩ := (Rw.Opens.int Try.underlying2) g2
  have g3 := (hf 3 _ rfl).trans (List.getElem?_eq_getElem (show 3 < xs.length by omega))
  (try dsimp only at g3); (try simp only [List.getElem_toArray, List.getElem_cons_zero, List.getElem_cons_succ] at g3)
  rw [show Try.prog.cellsOf 2 = 1 from by kernel_rfl] at g3
  simp only [Nat.zero_mul, Nat.one_mul, Nat.mul_one, Nat.reduceMul, List.drop_zero, List.drop_succ_cons, List.take_succ_cons, List.take_zero] at g3
  obtain ⟨a3_, k3_, o3_⟩ := (Rw.Opens.int Try.underlying2) g3
  have g4 := (hf 4 _ rfl).trans (List.getElem?_eq_getElem (show 4 < xs.length by omega))
  (try dsimp only at g4); (try simp only [List.getElem_toArray, List.getElem_cons_zero, List.getElem_cons_succ] at g4)
  rw [show Try.prog.cellsOf 2 = 1 from by kernel_rfl] at g4
  simp only [Nat.zero_mul, Nat.one_mul, Nat.mul_one, Nat.reduceMul, List.drop_zero, List.drop_succ_cons, List.take_succ_cons, List.take_zero] at g4
  obtain ⟨a4_, k4_, o4_⟩ := (Rw.Opens.int Try.underlying2) g4
  have g5 := (hf 5 _ rfl).trans (List.getElem?_eq_getElem (show 5 < xs.length by omega))
  (try dsimp only at g5); (try simp only [List.getElem_toArray, List.getElem_cons_zero, List.getElem_cons_succ] at g5)
  rw [show Try.prog.cellsOf 2 = 1 from by kernel_rfl] at g5
  simp only [Nat.zero_mul, Nat.one_mul, Nat.mul_one, Nat.reduceMul, List.drop_zero, List.drop_succ_cons, List.take_succ_cons, List.take_zero] at g5
  obtain ⟨a5_, k5_, o5_⟩ := (Rw.Opens.int Try.underlying2) g5
  have g6 := (hf 6 _ rfl).trans (List.getElem?_eq_getElem (show 6 < xs.length by omega))
  (try dsimp only at g6); (try simp only [List.getElem_toArray, List.getElem_cons_zero, List.getElem_cons_succ] at g6)
  rw [show Try.prog.cellsOf 3 = 1 from by kernel_rfl] at g6
  simp only [Nat.zero_mul, Nat.one_mul, Nat.mul_one, Nat.reduceMul, List.drop_zero, List.drop_succ_cons, List.take_succ_cons, List.take_zero] at g6
  obtain ⟨a6_, k6_, o6_⟩ := (Rw.Opens.int Try.underlying3) g6
  exact ⟨⟨a0_, a1_, a2_, a3_, a4_, a5_, a6_⟩, ⟨[c0_], [c1_, c2_, c3_, c4_, c5_, c6_], rfl, k0_, ⟨[c1_], [c2_, c3_, c4_, c5_, c6_], rfl, k1_, ⟨[c2_], [c3_, c4_, c5_, c6_], rfl, k2_, ⟨[c3_], [c4_, c5_, c6_], rfl, k3_, ⟨[c4_], [c5_, c6_], rfl, k4_, ⟨[c5_], [c6_], rfl, k5_, k6_⟩⟩⟩⟩⟩⟩, ⟨o0_, o1_, o2_, o3_, o4_, o5_, o6_⟩⟩
set_option maxHeartbeats 4000000 in
theorem o51 : Rw.Opens Try.prog 51 k51 (fun x => ((Lit.int .i64 x.f0).wf = true ∧ (Lit.int .i64 x.f1).wf = true ∧ (Lit.int .i64 x.f2).wf = true ∧ (Lit.int .i64 x.f3).wf = true ∧ (Lit.int .i64 x.f4).wf = true)) := by
  intro H enc w base spare held fuel cs x h
  obtain ⟨xs, n, _, _, hl, hxl, hf⟩ := DataW.trod_struct Try.underlying51 h
  have hcs : cs.length = 5 := hl.trans (by kernel_rfl)
  have hxs : xs.length = 5 := hxl
  obtain ⟨c0_, c1_, c2_, c3_, c4_, rfl⟩ := Rw.list5 hcs
  have g0 := (hf 0 _ rfl).trans (List.getElem?_eq_getElem (show 0 < xs.length by omega))
  (try dsimp only at g0); (try simp only [List.getElem_toArray, List.getElem_cons_zero, List.getElem_cons_succ] at g0)
  rw [show Try.prog.cellsOf 3 = 1 from by kernel_rfl] at g0
  simp only [Nat.zero_mul, Nat.one_mul, Nat.mul_one, Nat.reduceMul, List.drop_zero, List.drop_succ_cons, List.take_succ_cons, List.take_zero] at g0
  obtain ⟨a0_, k0_, o0_⟩ := (Rw.Opens.int Try.underlying3) g0
  have g1 := (hf 1 _ rfl).trans (List.getElem?_eq_getElem (show 1 < xs.length by omega))
  (try dsimp only at g1); (try simp only [List.getElem_toArray, List.getElem_cons_zero, List.getElem_cons_succ] at g1)
  rw [show Try.prog.cellsOf 3 = 1 from by kernel_rfl] at g1
  simp only [Nat.zero_mul, Nat.one_mul, Nat.mul_one, Nat.reduceMul, List.drop_zero, List.drop_succ_cons, List.take_succ_cons, List.take_zero] at g1
  obtain ⟨a1_, k1_, o1_⟩ := (Rw.Opens.int Try.underlying3) g1
  have g2 := (hf 2 _ rfl).trans (List.getElem?_eq_getElem (show 2 < xs.length by omega))
  (try dsimp only at g2); (try simp only [List.getElem_toArray, List.getElem_cons_zero, List.getElem_cons_succ] at g2)
  rw [show Try.prog.cellsOf 3 = 1 from by kernel_rfl] at g2
  simp only [Nat.zero_mul, Nat.one_mul, Nat.mul_one, Nat.reduceMul, List.drop_zero, List.drop_succ_cons, List.take_succ_cons, List.take_zero] at g2
  obtain ⟨a2_, k2_, o2_⟩ := (Rw.Opens.int Try.underlying3) g2
  have g3 := (hf 3 _ rfl).trans (List.getElem?_eq_getElem (show 3 < xs.length by omega))
  (try dsimp only at g3); (try simp only [List.getElem_toArray, List.getElem_cons_zero, List.getElem_cons_succ] at g3)
  rw [show Try.prog.cellsOf 3 = 1 from by kernel_rfl] at g3
  simp only [Nat.zero_mul, Nat.one_mul, Nat.mul_one, Nat.reduceMul, List.drop_zero, List.drop_succ_cons, List.take_succ_cons, List.take_zero] at g3
  obtain ⟨a3_, k3_, o3_⟩ := (Rw.Opens.int Try.underlying3) g3
  have g4 := (hf 4 _ rfl).trans (List.getElem?_eq_getElem (show 4 < xs.length by omega))
  (try dsimp only at g4); (try simp only [List.getElem_toArray, List.getElem_cons_zero, List.getElem_cons_succ] at g4)
  rw [show Try.prog.cellsOf 3 = 1 from by kernel_rfl] at g4
  simp only [Nat.zero_mul, Nat.one_mul, Nat.mul_one, Nat.reduceMul, List.drop_zero, List.drop_succ_cons, List.take_succ_cons, List.take_zero] at g4
  obtain ⟨a4_, k4_, o4_⟩ := (Rw.Opens.int Try.underlying3) g4
  exact ⟨⟨a0_, a1_, a2_, a3_, a4_⟩, ⟨[c0_], [c1_, c2_, c3_, c4_], rfl, k0_, ⟨[c1_], [c2_, c3_, c4_], rfl, k1_, ⟨[c2_], [c3_, c4_], rfl, k2_, ⟨[c3_], [c4_], rfl, k3_, k4_⟩⟩⟩⟩, ⟨o0_, o1_, o2_, o3_, o4_⟩⟩
end Go.Proofs.Ytcheokfoilcdoaa.PAll
