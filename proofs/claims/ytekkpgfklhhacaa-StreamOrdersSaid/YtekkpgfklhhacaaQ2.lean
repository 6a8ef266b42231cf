/- The next release. -/
import Derived.Test.YtekkpgfklhhacaaQ1
set_option linter.all false
set_option maxRecDepth 2000
set_option maxHeartbeats 8000000
namespace Go.Proofs.Vl
open Go Go.RowKit
attribute [local irreducible] AWp OpTo Run DL Val UN DR AC Le thn inb nog
def nxtE (m : List Jb) (t : Int) : Option Int := ((eachL m).find? fun g => decide (g.1 > t)).map fun g => g.1
theorem nxtE_no {m : List Jb} {t : Int} (h : ∀ j (hj : j < (eachL m).length), (eachL m)[j].1 ≤ t) : nxtE m t = none := by
  unfold nxtE
  rw [List.find?_eq_none.2 fun g hg => ?_]; rfl
  obtain ⟨j, hj, rfl⟩ := List.getElem_of_mem hg
  have := h j hj
  simp; omega
theorem nxtE_at {m : List Jb} {t : Int} {i : Nat} (hi : i < (eachL m).length) (h : ∀ j (hj : j < i), (eachL m)[j].1 ≤ t) (h2 : (eachL m)[i].1 > t) : nxtE m t = some (eachL m)[i].1 := by
  unfold nxtE
  rw [show (eachL m).find? (fun g => decide (g.1 > t)) = some (eachL m)[i] from ?_]; rfl
  rw [List.find?_eq_some_iff_getElem]
  refine ⟨by simpa using h2, i, hi, rfl, fun j hj => ?_⟩
  have := h j hj
  simp; omega
theorem next_ac (G) (m : List Jb) (t : Int) (hm : m.length ≤ 16) : AC Try.prog G 22 [fro jbP m, vi t] [] (fun r _ => r = .tup [.c (.p (.s (.int .i64 ((nxtE m t).getD 0)))), .c (.p (.s (.bool (nxtE m t).isSome)))]) := by
  refine AC.bodyM Try.func22 Try.ntmps22 rfl ?_
  intro cx hd hG hrd hml hbs
  obtain ⟨w0, fz0, β0, df, G0, rd, rr, ml, bs⟩ := cx
  dsimp only at hd hG hrd hml hbs
  subst hd hG hrd hml hbs
  refine nrmL (k := ?_)
  repeat refine w1 (k := ?_)
  refine callAN (hc := by exact each_ac _ m) (h := ?_)
  refine nrm (k := ?_)
  repeat refine w1 (k := ?_)
  refine cutIN [] (α := Unit) (fun u => []) (fun u => [(3, .pcells 2 [.s (.int .i64 t)]), (4, .pcells 2 [.s (.int .i64 0)]), (5, .pcells 4 [.s (.bool false)])]) (fun u => nxtE m t = none) ?_ (fun u hI => ?_)
  ·
    refine AWp.rangeF (α := Unit) (fun u => [(3, .pcells 2 [.s (.int .i64 t)]), (4, .pcells 2 [.s (.int .i64 0)]), (5, .pcells 4 [.s (.bool false)])]) (fun i u => ∀ j (hj : j < (eachL m).length), j < i → (eachL m)[j].1 ≤ t) () 30 [] (by first | rfl | assumption) (by first | rfl | assumption) (by first | rfl | assumption) rfl rfl rfl rfl (each_it _ m hm) (fun y hy => by obtain ⟨g, _, rfl⟩ := List.mem_map.1 hy; rfl) (by decide) (.inr (fun _ => rfl)) (.inl rfl) (fun _ => rfl) (by intro j _ h; omega) (by intro k o; (try dsimp only []); repeat (first | exact id | exact find_none | refine find_keep ?_ | refine find_skip rfl ?_)) ?_ ?_
    ·
      intro cx' sv i y n hG' hd' hy hI
      obtain ⟨hi, rfl⟩ := yE_get hy
      refine rst0 (k := ?_)
      repeat refine w1 (k := ?_)
      refine ⟨by first | rfl | trivial, by first | rfl | trivial, fun cx'' hG2 hd2 => ?_⟩
      obtain ⟨w0, fz0, β0, df, G0, rd, rr, ml, bs⟩ := cx''
      dsimp only at hG2 hd2
      subst hG2 hd2
      repeat refine w1 (k := ?_)
      refine condN (h1 := fun h => ?_) (h0 := fun h => ?_)
      ·
        repeat refine w1 (k := ?_)
        have e := nxtE_at hi (fun j hj => hI j (by omega) hj) h
        refine ⟨?_, rfl, rfl⟩
        refine rend (k := ?_)
        repeat refine w1 (k := ?_)
        rw [e]
        exact ⟨rfl, [.c _, .c _], .cons (.ld1 rfl rfl rfl rfl) (.cons (.ld1 rfl rfl rfl rfl) .nil), rfl⟩
      ·
        repeat refine w1 (k := ?_)
        exact ⟨(), fun j hj h2 => by by_cases e : j = i; subst e; omega; exact hI j hj (by omega), (by intro k o; (try dsimp only []); repeat (first | exact id | exact find_none | refine find_keep ?_ | refine find_skip rfl ?_)), rfl⟩
    ·
      rintro u hI
      rw [yE_len] at hI
      repeat refine w1 (k := ?_)
      refine ⟨(), by exact nxtE_no fun j hj => hI j hj hj, frg⟩
  refine nrmL (k := ?_)
  repeat refine w1 (k := ?_)
  rw [hI]
  exact ⟨rfl, [.c _, .c _], .cons (.ld1 rfl rfl rfl rfl) (.cons (.ld1 rfl rfl rfl rfl) .nil), rfl⟩
