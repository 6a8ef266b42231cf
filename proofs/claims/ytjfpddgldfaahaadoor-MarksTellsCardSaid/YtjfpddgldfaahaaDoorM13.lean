/- MarksTells. -/
import Derived.Test.YtjfpddgldfaahaaDoorM12
set_option linter.all false
set_option maxHeartbeats 8000000
namespace Go.Proofs.Vl
open Go Go.RowKit
attribute [local irreducible] AWp OpTo Run DL Val UN DR AC Le thn inb nog
attribute [local irreducible] els nxO boolsP
theorem bools_ok (s : Nat) : ∀ x ∈ boolsP s, pvOk false x = true := by
  intro x hx
  unfold boolsP boolsN at hx
  obtain ⟨a, _, rfl⟩ := List.mem_map.1 hx
  rfl
theorem marksTells_ac (l : List Int) (n : Int) (hl : l.length ≤ maxLen) (hn : ok64 n) : AC Tryd.prog GL 5 [.c (.p (.fro (l.map (pvI .i64)))), vi n] [] (fun r _ => r = vb true) := by
  refine AC.body' Tryd.func5 Tryd.ntmps5 rfl ?_
  intro cx hd hG
  refine nrmL (k := ?_)
  repeat refine w1 (k := ?_)
  obtain ⟨w0, fz0, β0, df, G0⟩ := cx
  obtain rfl : G0 = GL := hG
  obtain ⟨hn1, hn2⟩ := hn
  refine callN (hc := by exact awake_ac) (h := ?_)
  repeat refine w1 (k := ?_)
  refine callRowN (hc := by exact some_ac _ l hl ) (hso := by exact  pvI_ok _) (h := ?_)
  repeat refine w1 (k := ?_)
  first | refine zA 10 (h := ?_) | refine zO 10 (h := ?_) | refine zL 10 (h := ?_) | refine zL3 10 (h := ?_)
  have hsl := someL_len l
  refine callN (hc := by exact of_ac _ (someL l) (by omega)) (h := ?_)
  repeat refine w1 (k := ?_)
  refine callRowN (hc := by exact some_ac _ l hl ) (hso := by exact  pvI_ok _) (h := ?_)
  repeat refine w1 (k := ?_)
  first | refine zA 13 (h := ?_) | refine zO 13 (h := ?_) | refine zL 13 (h := ?_) | refine zL3 13 (h := ?_)
  refine nrm (k := ?_)
  refine OpTo.callO (by rfl) (by rfl) (by rfl) (by rfl) (rof_ac _ (someL l) (by omega)) ?_
  rintro r os' ⟨rfl, hf⟩
  refine ⟨_, .ptr rfl hf (bools_ok _) (by decide) rfl, ?_⟩
  refine nrm (k := ?_)
  have hs := ofL_lt (someL l)
  generalize ofL (someL l) = s at *
  repeat refine w1 (k := ?_)
  first | refine zbA 14 (h := ?_) | refine zbO 14 (h := ?_)
  repeat refine w1 (k := ?_)
  refine callN (hc := by exact looks_ac s hs) (h := ?_)
  repeat refine w1 (k := ?_)
  refine callN (hc := by exact asked_ac s n hn2) (h := ?_)
  repeat refine w1 (k := ?_)
  rw [and1023]
  refine callN (hc := by exact asked_ac s (n % 1024) (by omega)) (h := ?_)
  repeat refine w1 (k := ?_)
  exact ⟨[.c _], .cons (.tmp rfl) .nil, rfl⟩
