/- Chapter 18: facts of all orders, by decision; the first one that is so. -/
import Derived.Test.YtkgajiddcljdjaaO14
set_option linter.all false
set_option maxRecDepth 2000
set_option maxHeartbeats 8000000
namespace Go.Proofs.Vl
open Go Go.RowKit
attribute [local irreducible] AWp OpTo Run DL Val UN DR AC Le thn inb nog
def zF : Nat → Bool := fun _ => false
theorem frL_eq : ∀ n, n < 7 → frL n n [] (fun _ => false) = allR n := by decide +kernel
def okR (n : Nat) : Bool := (allR n).zipIdx.all fun x => decide (x.1.length = n) && vB x.1 && decide (rkT x.1 x.1.length = x.2)
theorem okR_all : ∀ n, n < 7 → okR n = true := by decide +kernel
theorem allR_at {n i : Nat} (hn : n ≤ 6) (hi : i < (allR n).length) : (allR n)[i].length = n ∧ vB (allR n)[i] = true ∧ rkT (allR n)[i] (allR n)[i].length = i := by
  have := okR_all n (by omega)
  unfold okR at this
  rw [List.all_eq_true] at this
  have h := this ((allR n)[i], i) (by
    rw [List.mem_iff_getElem?]
    exact ⟨i, by rw [List.getElem?_zipIdx, List.getElem?_eq_getElem hi]; simp⟩)
  simp only [Bool.and_eq_true, decide_eq_true_eq] at h
  exact ⟨h.1.1, h.1.2, h.2⟩
def fnd (n : Nat) : Option (List Int) := (allR n).find? lastB
def fndP (n : Nat) : PV := match fnd n with | none => .s (.slice none 0 0) | some p => .fro (p.map (pvI .i64))
theorem fnd_none {n : Nat} (h : ∀ j (hj : j < (allR n).length), lastB (allR n)[j] = false) : fnd n = none := by
  unfold fnd
  rw [List.find?_eq_none.2 fun g hg => ?_]
  obtain ⟨j, hj, rfl⟩ := List.getElem_of_mem hg
  simp [h j hj]
theorem fnd_at {n i : Nat} (hi : i < (allR n).length) (h : ∀ j (hj : j < (allR n).length), j < i → lastB (allR n)[j] = false) (h2 : lastB (allR n)[i] = true) : fnd n = some (allR n)[i] := by
  unfold fnd
  rw [List.find?_eq_some_iff_getElem]
  refine ⟨h2, i, hi, rfl, fun j hj => ?_⟩
  simp [h j (by omega) hj]
theorem find_ac (G) (n : Nat) (hn : n ≤ 6) : AC Try.prog G 20 [vi (n : Int), .c (.fn laF [])] [] (fun r _ => r = .tup [.c (.p (fndP n)), .c (.p (.s (.bool (fnd n).isSome)))]) := by
  refine AC.bodyM Try.func20 Try.ntmps20 rfl ?_
  intro cx hd hG hrd hml hbs
  obtain ⟨w0, fz0, β0, df, G0, rd, rr, ml, bs⟩ := cx
  dsimp only at hd hG hrd hml hbs
  subst hd hG hrd hml hbs
  refine nrmL (k := ?_)
  refine AWp.weak (Le.slot 1 rfl (fnv_of laF)) ?_
  refine nrmL (k := ?_)
  repeat refine w1 (k := ?_)
  refine callAN (hc := by exact oall_ac _ (n : Int)) (h := ?_)
  refine nrm (k := ?_)
  repeat refine w1 (k := ?_)
  have hit := oall_it G0 n (by omega)
  rw [frL_eq n (by omega)] at hit
  have hat := @allR_at n
  have hno := @fnd_none n
  have hfa := @fnd_at n
  unfold fndP
  generalize fnd n = o at *
  generalize allR n = R at *
  refine cutIN [] (α := Unit) (fun u => []) (fun u => [(3, .pcells 31 [fnv laF]), (4, .pcells 22 [.s (.slice none 0 0)]), (5, .pcells 4 [.s (.bool false)])]) (fun u => o = none) ?_ (fun u hI => ?_)
  ·
    refine AWp.rangeF (α := Unit) (fun u => [(3, .pcells 31 [fnv laF]), (4, .pcells 22 [.s (.slice none 0 0)]), (5, .pcells 4 [.s (.bool false)])]) (fun i u => ∀ j (hj : j < R.length), j < i → lastB R[j] = false) () 90 [] (by first | rfl | assumption) (by first | rfl | assumption) (by first | rfl | assumption) rfl rfl rfl rfl hit (fun y hy => by obtain ⟨g, _, rfl⟩ := List.mem_map.1 hy; rfl) (by decide) (.inr (fun _ => rfl)) (.inl rfl) (fun _ => rfl) (by intro j _ h; omega) (by intro k o; (try dsimp only []); repeat (first | exact id | exact find_none | refine find_keep ?_ | refine find_skip rfl ?_)) ?_ ?_
    ·
      intro cx' sv i y u hG' hd' hy hI
      obtain ⟨hi, rfl⟩ := yP_get hy
      obtain ⟨l1, l2, l3⟩ := hat (by omega) hi
      refine rst0 (k := ?_)
      repeat refine w1 (k := ?_)
      try simp only [upd, show ((SV : Nat) == 90) = false from rfl, show ((SV : Nat) == 3) = false from rfl, show ((SV : Nat) == 4) = false from rfl, show ((SV : Nat) == 5) = false from rfl, Nat.reduceBEq, cond_false, cond_true]
      refine nrm (k := ?_)
      repeat refine w1 (k := ?_)
      refine ⟨by first | rfl | trivial, by first | rfl | trivial, fun cx'' hG2 hd2 => ?_⟩
      obtain ⟨w0, fz0, β0, df, G0, rd, rr, ml, bs⟩ := cx''
      dsimp only at hG2 hd2
      subst hG2 hd2
      repeat refine w1 (k := ?_)
      try simp only [upd, show ((SV : Nat) == 90) = false from rfl, show ((SV : Nat) == 3) = false from rfl, show ((SV : Nat) == 4) = false from rfl, show ((SV : Nat) == 5) = false from rfl, Nat.reduceBEq, cond_false, cond_true]
      refine nrm (k := ?_)
      first | refine zA 90 (h := ?_) | refine zO 90 (h := ?_) | refine zL 90 (h := ?_) | refine zL3 90 (h := ?_)
      refine nrm (k := ?_)
      try simp only [upd, show ((SV : Nat) == 90) = false from rfl, show ((SV : Nat) == 3) = false from rfl, show ((SV : Nat) == 4) = false from rfl, show ((SV : Nat) == 5) = false from rfl, Nat.reduceBEq, cond_false, cond_true]
      refine nrm (k := ?_)
      repeat refine w1 (k := ?_)
      refine OpTo.weak (Le.slot 10 rfl (of_fnv laF)) ?_
      refine nrm (k := ?_)
      refine callVN (hf := rfl) (hc := by exact last_ac _ R[i] (by omega)) (h := ?_)
      repeat refine w1 (k := ?_)
      cases hb : lastB R[i]
      ·
        repeat refine w1 (k := ?_)
        exact ⟨(), fun j hj h2 => by by_cases e : j = i; subst e; exact hb; exact hI j hj (by omega), (by intro k o; (try dsimp only []); repeat (first | exact id | exact find_none | refine find_keep ?_ | refine find_skip rfl ?_)), rfl⟩
      ·
        have e := hfa hi (fun j hj h => hI j hj h) hb
        repeat refine w1 (k := ?_)
        refine ⟨?_, rfl, rfl⟩
        refine rend (k := ?_)
        repeat refine w1 (k := ?_)
        rw [e]
        exact ⟨rfl, [.c _, .c _], .cons (.ld1 rfl rfl rfl rfl) (.cons (.ld1 rfl rfl rfl rfl) .nil), rfl⟩
    ·
      rintro u hI
      rw [yP_len] at hI
      repeat refine w1 (k := ?_)
      refine ⟨(), by exact hno fun j hj => hI j hj hj, frg⟩
  refine nrmL (k := ?_)
  repeat refine w1 (k := ?_)
  rw [hI]
  exact ⟨rfl, [.c _, .c _], .cons (.ld1 rfl rfl rfl rfl) (.cons (.ld1 rfl rfl rfl rfl) .nil), rfl⟩
