/- Chapter 14: the bound of a task, and of all. -/
import Derived.Test.YtlegdnmebgfjbaaDoorW2
set_option linter.all false
set_option maxRecDepth 2000
set_option maxHeartbeats 8000000
namespace Go.Proofs.Vl
open Go Go.RowKit
attribute [local irreducible] AWp OpTo Run DL Val UN DR AC Le thn inb nog
theorem lastN_take {l : List Nat} {n : Nat} (h : n < l.length) : lastN (l.take (n + 1)) = l[n] := by
  unfold lastN
  rw [List.take_succ_eq_append_getElem h]
  exact List.getLastD_concat
theorem bound_ac (l : List Tk) (i : Int) (hl : ∀ t ∈ l, t.nm.size ≤ maxLen) (hn : l.length ≤ maxLen) : AC Tryd.prog GL 39 [fro tkP l, vi i] [] (fun r _ => r = .tup [ti (bdR l i), ti (bdE l i)]) := by
  refine AC.bodyM Tryd.func39 Tryd.ntmps39 rfl ?_
  intro cx hd hG hrd hml hbs
  obtain ⟨w0, fz0, β0, df, G0, rd, rr, ml, bs⟩ := cx
  dsimp only at hd hG hrd hml hbs
  subst hd hG hrd hml hbs
  refine nrmL (k := ?_)
  repeat refine w1 (k := ?_)
  refine callN (hc := by exact is14_ac _ l i hl hn) (h := ?_)
  repeat refine w1 (k := ?_)
  unfold bdR bdE
  cases hb : isB l i with
  | false =>
    rw [Bool.not_false]
    repeat refine w1 (k := ?_)
    exact ⟨rfl, [.c _, .c _], .cons (.tmp rfl) (.cons (.tmp rfl) .nil), rfl⟩
  | true =>
    rw [Bool.not_true]
    obtain ⟨f1, f2, k, rfl, f3⟩ := is_spec hb
    obtain ⟨hc, ht, hd, hj, hq, hp⟩ := f2 _ (List.getElem_mem f3)
    obtain ⟨z1, z2, z3⟩ := is_fits hb _ (List.getElem_mem f3)
    have hdj : djA l (k : Int) = (l[k].d - l[k].j).toNat := by unfold djA; rw [Int.toNat_natCast, List.getElem?_eq_getElem f3]
    have hjA : jA l (k : Int) = l[k].j := by unfold jA; rw [Int.toNat_natCast, List.getElem?_eq_getElem f3]
    have hit := each_it l (k : Int) hl hn
    unfold fitA
    rw [hjA]
    obtain ⟨mo, hmo⟩ : ∃ mo : Nat, mo = djA l (k : Int) := ⟨_, rfl⟩
    rw [← hmo]
    repeat refine w1 (k := ?_)
    refine callAN (hc := by exact each_ac _ l (k : Int)) (h := ?_)
    refine nrm (k := ?_)
    repeat refine w1 (k := ?_)
    generalize eL l (k : Int) = L at *
    refine cutIN [] (α := Unit) (fun u => []) (fun u => [(6, .pcells 48 [.s (.int .u64 (lastN L : Nat))])]) (fun u => True) ?_ (fun u hI => ?_)
    ·
      refine AWp.rangeF (α := Nat) (fun n => [(6, .pcells 48 [.s (.int .u64 (lastN (L.take n) : Nat))])]) (fun i n => n = i) 0 0 [] (by first | rfl | assumption) (by first | rfl | assumption) (by first | rfl | assumption) rfl rfl rfl rfl (hit) (by simp [yW, YV.len]) (by decide) (.inl (by simp [yW])) (.inl rfl) (fun _ => rfl) (by rfl) (by intro k o; (try dsimp only []); repeat (first | exact id | exact find_none | refine find_keep ?_ | refine find_skip rfl ?_)) ?_ ?_
      ·
        intro cx' sv i y n hG' hd' hy hI
        obtain ⟨hi, rfl⟩ := yW_get hy
        obtain rfl := hI
        refine rst0 (k := ?_)
        repeat refine w1 (k := ?_)
        refine ⟨rfl, rfl, fun cx'' hG2 hd2 => ?_⟩
        repeat refine w1 (k := ?_)
        simp only [upd, show ((SV : Nat) == 6) = false from rfl, Nat.reduceBEq, cond_false, cond_true]
        refine nrm (k := ?_)
        repeat refine w1 (k := ?_)
        refine ⟨n + 1, rfl, ?_, rfl⟩
        simp only [lastN_take hi]
        exact (by intro k o; (try dsimp only []); repeat (first | exact id | exact find_none | refine find_keep ?_ | refine find_skip rfl ?_))
      ·
        rintro n rfl
        rw [yW_len, List.take_length]
        repeat refine w1 (k := ?_)
        refine ⟨(), by first | rfl | omega | trivial | (refine ⟨?_, ?_⟩ <;> first | rfl | omega), frg⟩
    refine nrmL (k := ?_)
    repeat refine w1 (k := ?_)
    by_cases hle : lastN L ≤ mo
    ·
      rw [show decide (((lastN L : Nat) : Int) > l[k].d - l[k].j) = false from decide_eq_false (by omega)]
      repeat refine w1 (k := ?_)
      rw [decide_eq_true hle]
      exact ⟨rfl, [.c _, .c _], .cons (.tmp rfl) (.cons (.tmp rfl) .nil), rfl⟩
    ·
      rw [show decide (((lastN L : Nat) : Int) > l[k].d - l[k].j) = true from decide_eq_true (by omega), decide_eq_false hle]
      repeat refine w1 (k := ?_)
      exact ⟨rfl, [.c _, .c _], .cons (.tmp rfl) (.cons (.tmp rfl) .nil), rfl⟩
