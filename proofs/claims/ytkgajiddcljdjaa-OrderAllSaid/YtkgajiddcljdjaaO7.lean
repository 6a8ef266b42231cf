/- Chapter 18: its example. -/
import Derived.Test.YtkgajiddcljdjaaO6
set_option linter.all false
set_option maxRecDepth 2000
set_option maxHeartbeats 8000000
namespace Go.Proofs.Vl
open Go Go.RowKit
attribute [local irreducible] AWp OpTo Run DL Val UN DR AC Le thn inb nog
theorem pvI_ok {m : Bool} (l : List Int) : ∀ cs ∈ l.map (pvI .i64), ∀ x ∈ cs, pvOk m x = true := by
  intro cs h x hx
  obtain ⟨t, _, rfl⟩ := List.mem_map.1 h
  simp only [pvI, List.mem_cons, List.not_mem_nil, or_false] at hx
  subst hx
  simp [pvOk, PV.solid]
theorem Le.kill {cx : Cx} {st : St} (k : Nat) : Le cx st (st.kill k) := by
  unfold Le
  rintro a w ⟨fz, β, hs⟩
  exact ⟨fz, β, hs.kill k⟩
theorem unrank35_ac (G) : AC Try.prog G 12 [vi 3, vi 5] [] (fun r os => r = .tup [.c (.own 47 1 3), .c (.p (.s (.bool true)))] ∧ find os 47 = some (.row 3 1 ([2, 1, 0].map (pvI .i64)))) := by
  refine AC.body' Try.func12 Try.ntmps12 rfl ?_
  intro cx hd hG
  refine nrmL (k := ?_)
  repeat refine w1 (k := ?_)
  obtain ⟨w0, fz0, β0, df, G0⟩ := cx
  obtain rfl : G0 = G := hG
  refine OpTo.makeN (sz := 1) (by_ := 8) (pvI .i64) (0 : Int) 3 rfl rfl (by decide) (by decide) (.inl rfl) rfl rfl rfl rfl rfl (Int.le_refl _) (by omega) (by omega) (by decide) rfl rfl ?_
  refine nrm (k := ?_)
  repeat refine w1 (k := ?_)
  refine AWp.unroll 4 ?_
  repeat refine w1 (k := ?_)
  refine OpTo.stRN (sz := 1) (j := 2) (c := 0) (f := pvI .i64) (l := [0, 0, 0]) (0 : Int) rfl rfl rfl (by decide) rfl rfl (by kernel_rfl) (Nat.le_refl _) rfl ?_
  refine nrm (k := ?_)
  repeat refine w1 (k := ?_)
  refine OpTo.stRN (sz := 1) (j := 1) (c := 0) (f := pvI .i64) (l := [0, 0, 0]) (1 : Int) rfl rfl rfl (by decide) rfl rfl (by kernel_rfl) (Nat.le_refl _) rfl ?_
  refine nrm (k := ?_)
  repeat refine w1 (k := ?_)
  refine OpTo.stRN (sz := 1) (j := 0) (c := 0) (f := pvI .i64) (l := [0, 1, 0]) (2 : Int) rfl rfl rfl (by decide) rfl rfl (by kernel_rfl) (Nat.le_refl _) rfl ?_
  refine nrm (k := ?_)
  repeat refine w1 (k := ?_)
  refine OpTo.makeN (sz := 1) (by_ := 8) (pvI .i64) (0 : Int) 0 rfl rfl (by decide) (by decide) (.inl rfl) rfl rfl rfl rfl rfl (by decide) (by omega) (by omega) (by decide) rfl rfl ?_
  refine nrm (k := ?_)
  repeat refine w1 (k := ?_)
  refine AWp.unroll 4 ?_
  repeat refine w1 (k := ?_)
  refine AWp.unroll 4 ?_
  repeat refine w1 (k := ?_)
  refine litA (pvI .i64) [(2 : Int)] (h := ?_)
  repeat refine w1 (k := ?_)
  refine appA 47 8 (pvI .i64) [] [(2 : Int)] (hb := by decide) (hm := by decide) (h := ?_)
  repeat refine w1 (k := ?_)
  refine AWp.unroll 4 ?_
  repeat refine w1 (k := ?_)
  refine OpTo.weak (Le.kill 67) ?_
  refine nrm (k := ?_)
  refine litA (pvI .i64) [(1 : Int)] (h := ?_)
  repeat refine w1 (k := ?_)
  refine appA 47 8 (pvI .i64) [2] [(1 : Int)] (hb := by decide) (hm := by decide) (h := ?_)
  repeat refine w1 (k := ?_)
  refine AWp.unroll 4 ?_
  repeat refine w1 (k := ?_)
  refine OpTo.weak (Le.kill 67) ?_
  refine nrm (k := ?_)
  refine litA (pvI .i64) [(0 : Int)] (h := ?_)
  repeat refine w1 (k := ?_)
  refine appA 47 8 (pvI .i64) [2, 1] [(0 : Int)] (hb := by decide) (hm := by decide) (h := ?_)
  repeat refine w1 (k := ?_)
  exact ⟨[.c _, .c _], .cons (.tmp rfl) (.cons (.tmp rfl) .nil), rfl, rfl⟩
theorem awake18_ac (G) : AC Try.prog G 8 [] [] (fun r _ => r = vb true) := by
  refine AC.body' Try.func8 Try.ntmps8 rfl ?_
  intro cx hd hG
  refine nrmL (k := ?_)
  repeat refine w1 (k := ?_)
  obtain ⟨w0, fz0, β0, df, G0⟩ := cx
  obtain rfl : G0 = G := hG
  refine litA (pvI .i64) [2, 0, 1] (h := ?_)
  repeat refine w1 (k := ?_)
  refine callN (hc := by exact rank_ac _ [2, 0, 1] (by decide) (by decide)) (h := ?_)
  repeat refine w1 (k := ?_)
  rw [show rkT [2, 0, 1] 3 = 4 by decide]
  refine OpTo.callO (by rfl) (by rfl) (by rfl) (by rfl) (unrank35_ac _) ?_
  rintro r os' ⟨rfl, hf⟩
  refine ⟨_, .row2 rfl hf (pvI_ok _) (by intro z hz; simp only [List.mem_cons, List.not_mem_nil, or_false] at hz; subst hz; rfl) (by decide) rfl, ?_⟩
  refine nrm (k := ?_)
  repeat refine w1 (k := ?_)
  exact ⟨[.c _], .cons (.tmp rfl) .nil, rfl⟩
