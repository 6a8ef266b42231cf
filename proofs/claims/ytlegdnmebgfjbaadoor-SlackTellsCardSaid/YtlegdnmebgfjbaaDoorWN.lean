/- Chapter 22: SlackTells. -/
import Derived.Test.YtlegdnmebgfjbaaDoorWM
set_option linter.all false
set_option maxRecDepth 2000
set_option maxHeartbeats 8000000
namespace Go.Proofs.Vl
open Go Go.RowKit
attribute [local irreducible] AWp OpTo Run DL Val UN DR AC Le thn inb nog
theorem tells22_ac (l : List Tk) (i : Int) (hl : ∀ t ∈ l, t.nm.size ≤ maxLen) (hn : l.length ≤ maxLen) : AC Tryd.prog GL 8 [fro tkP l, vi i] [] (fun r _ => r = vb true) := by
  refine AC.body' Tryd.func8 Tryd.ntmps8 rfl ?_
  intro cx hd hG
  refine nrmL (k := ?_)
  repeat refine w1 (k := ?_)
  obtain ⟨w0, fz0, β0, df, G0⟩ := cx
  obtain rfl : G0 = GL := hG
  refine loopN [(4, 1), (6, 28)] (α := Nat) (fun j => [(5, vi (j : Int))]) (fun j => []) (fun j => 4 - j) (fun j => j ≤ 4) (x0 := 0) (h0 := by first | omega | simp | (refine ⟨?_, ?_⟩ <;> first | omega | simp)) (hr := ?_)
  intro j hI
  refine nrmL (k := ?_)
  repeat refine w1 (k := ?_)
  refine condN (h1 := fun h1 => ?_) (h0 := fun h1 => ?_)
  ·
    repeat refine w1 (k := ?_)
    refine callN (hc := by exact more_ac l i (j : Int) hl hn) (h := ?_)
    repeat refine w1 (k := ?_)
    repeat refine w1 (k := ?_)
    refine callN (hc := by exact rmost_ac _ l i (j : Int) (by omega) hl hn) (h := ?_)
    repeat refine w1 (k := ?_)
    repeat refine w1 (k := ?_)
    simp only [bne_self_eq_false]
    repeat refine w1 (k := ?_)
    simp only [bne_self_eq_false]
    repeat refine w1 (k := ?_)
    refine ⟨j + 1, by omega, by first | omega | (refine ⟨?_, ?_⟩ <;> omega), frg⟩
  ·
    repeat refine w1 (k := ?_)
    exact ⟨[.c _], .cons (.tmp rfl) .nil, rfl⟩
def smT (t : Tk) : Tk := ⟨t.nm, t.c.tmod 20, t.t.tmod 20, t.d.tmod 20, t.j.tmod 20, t.q.tmod 20, t.p⟩
theorem stells_ac (sp : List Sp) (raw : List Tk) (i : Int) (hl : sp.length ≤ maxLen) (hr1 : raw.length ≤ maxLen) (hr2 : ∀ t ∈ raw, t.nm.size ≤ maxLen) : AC Tryd.prog GL 4 [fro spP sp, fro tkP raw, vi i] [] (fun r _ => r = vb true) := by
  refine AC.body' Tryd.func4 Tryd.ntmps4 rfl ?_
  intro cx hd hG
  refine nrmL (k := ?_)
  repeat refine w1 (k := ?_)
  obtain ⟨w0, fz0, β0, df, G0⟩ := cx
  obtain rfl : G0 = GL := hG
  refine callN (hc := by exact awake22_ac) (h := ?_)
  repeat refine w1 (k := ?_)
  repeat refine w1 (k := ?_)
  refine seedA 8 70 7 27 (h := ?_)
  refine cutIN [(9, 2), (13, 37)] (α := Nat) (fun m => [(8, .c (.own 70 7 ((raw.take m).map smT).length))]) (fun m => [(70, .row 27 7 (((raw.take m).map smT).map tkP))]) (fun m => m ≤ raw.length ∧ m ≤ 3) ?_ (fun m hI => ?_)
  ·
    refine loopN [(10, 1), (13, 37)] (α := Nat) (fun j => [(8, .c (.own 70 7 ((raw.take j).map smT).length)), (9, vi (j : Int))]) (fun j => [(70, .row 27 7 (((raw.take j).map smT).map tkP))]) (fun j => 3 - j) (fun j => j ≤ raw.length ∧ j ≤ 3) (x0 := 0) (h0 := by first | omega | simp | (refine ⟨?_, ?_⟩ <;> first | omega | simp)) (hr := ?_)
    intro j hI
    refine nrmL (k := ?_)
    obtain ⟨hI1, hI2⟩ := hI
    have hjl : ((raw.take j).map smT).length = j := by simp; omega
    repeat refine w1 (k := ?_)
    try rw [show (raw.map tkP).length = raw.length from List.length_map _]
    first | refine bothTN (h1 := fun h1 => ?_) (h0 := fun h1 => ?_) | refine bothFN (h1 := fun h1 => ?_) (h0 := fun h1 => ?_)
    all_goals repeat refine w1 (k := ?_)
    ·
      refine condN (h1 := fun h2 => ?_) (h0 := fun h2 => ?_)
      ·
        have hj : j < raw.length := by omega
        repeat refine w1 (k := ?_)
        refine litA tkP [smT raw[j]] (h := ?_)
        repeat refine w1 (k := ?_)
        refine appA 70 64 tkP ((raw.take j).map smT) [smT raw[j]] (hb := by rw [hjl]; simp; omega) (hm := by rw [hjl]; simp; omega) (h := ?_)
        rw [show (raw.take j).map smT ++ [smT raw[j]] = (raw.take (j + 1)).map smT by rw [List.take_succ_eq_append_getElem hj, List.map_append]; rfl]
        repeat refine w1 (k := ?_)
        refine ⟨j + 1, by omega, by first | omega | (refine ⟨?_, ?_⟩ <;> omega), frg⟩
      ·
        repeat refine w1 (k := ?_)
        refine ⟨j, by first | rfl | omega | trivial | (refine ⟨?_, ?_⟩ <;> first | rfl | omega), frg⟩
    ·
      repeat refine w1 (k := ?_)
      refine ⟨j, by first | rfl | omega | trivial | (refine ⟨?_, ?_⟩ <;> first | rfl | omega), frg⟩
  refine nrmL (k := ?_)
  obtain ⟨hI1, hI2⟩ := hI
  have hml : ((raw.take m).map smT).length = m := by simp; omega
  have hmn : ∀ t ∈ (raw.take m).map smT, t.nm.size ≤ maxLen := fun t ht => by
    obtain ⟨u, hu, rfl⟩ := List.mem_map.1 ht
    exact (hr2 u (List.mem_of_mem_take hu) : _)
  generalize (raw.take m).map smT = T at *
  have hTm : T.length ≤ maxLen := by rw [maxLen]; omega
  repeat refine w1 (k := ?_)
  refine OpTo.callO (by rfl) (by rfl) (by rfl) (by rfl) (set_ac _ sp 4 i hl (by decide) (by decide)) ?_
  rintro r os' ⟨rfl, hf⟩
  refine ⟨_, .row rfl hf (tkP_ok _ _) (by decide) rfl, ?_⟩
  have s1 := set_b sp 4 i hl (by decide)
  have hSn := set_nm2 sp 4 i
  generalize setL sp 4 i = S at s1 hSn ⊢
  have hSm : S.length ≤ maxLen := by rw [maxLen]; omega
  refine nrm (k := ?_)
  repeat refine w1 (k := ?_)
  have r1 := emod_b i ((S.length : Int) + 2) (by omega)
  have r5 := emod_b i 5 (by decide)
  refine callN (hc := by exact rest22_ac _ i ((S.length : Int) + 2) (by omega) (by omega)) (h := ?_)
  repeat refine w1 (k := ?_)
  repeat refine w1 (k := ?_)
  refine callN (ha := congrArg (fun z => [z, vi (i % ((S.length : Int) + 2) - 1)]) (frz_ownL (k := 52) (xs := S.map tkP) rfl (List.length_map tkP).symm)) (hc := by exact tells22_ac S _ hSn hSm) (h := ?_)
  repeat refine w1 (k := ?_)
  refine callN (hc := by exact rest22_ac _ i 5 (by decide) (by decide)) (h := ?_)
  repeat refine w1 (k := ?_)
  repeat refine w1 (k := ?_)
  refine callN (ha := congrArg (fun z => [z, vi (i % 5 - 1)]) (frz_ownL (k := 70) (xs := T.map tkP) rfl (List.length_map tkP).symm)) (hc := by exact tells22_ac T _ hmn hTm) (h := ?_)
  repeat refine w1 (k := ?_)
  refine callN (ha := congrArg (fun z => [z, vi i]) (frz_ownL (k := 52) (xs := S.map tkP) rfl (List.length_map tkP).symm)) (hc := by exact tells22_ac S _ hSn hSm) (h := ?_)
  repeat refine w1 (k := ?_)
  exact ⟨[.c _], .cons (.tmp rfl) .nil, rfl⟩
