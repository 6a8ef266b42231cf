/- The rest of slices.SortStableFunc; cmp.Compare; task.Order. -/
import Derived.Test.YtkgajiddcljdjaaS2
import Derived.Test.YtkgajiddcljdjaaT2
set_option linter.all false
set_option maxRecDepth 2000
set_option maxHeartbeats 8000000
namespace Go.Proofs.Vl
open Go Go.RowKit
attribute [local irreducible] AWp OpTo Run DL Val UN DR AC Le thn inb nog
theorem stable_ac (G) (f : Nat) (hf : isFn Try.prog f = true) (cs : List PV) (c : Int → Int → Int) (l : List Int) (hn : l.length < 20) (hc : ∀ x ∈ l, ∀ y ∈ l, AC Try.prog G f [vi x, vi y, .c (.eptr cs)] [] (fun r _ => r = vi (c x y))) :
    AC Try.prog G 40 [.c (.own 2000007 1 l.length), vi (l.length : Int), .c (.fn f [.fz cs])] [(2000007, .row 3 1 (l.map (pvI .i64)))] (fun r os' => r = .tup [] ∧ os' = [(2000007, .row 3 1 ((sortL c l).map (pvI .i64)))]) := by
  refine AC.body' Try.func40 Try.ntmps40 rfl ?_
  intro cx hd hG
  refine nrmL (k := ?_)
  repeat refine w1 (k := ?_)
  obtain ⟨w0, fz0, β0, df, G0⟩ := cx
  obtain rfl : G0 = G := hG
  refine loopN [(11, 12)] (α := Unit) (fun u => [(7, vi 0), (8, vi 20)]) (fun u => [(2000007, .row 3 1 (l.map (pvI .i64)))]) (fun u => 0) (fun u => True) (x0 := ()) (h0 := by first | omega | simp | (refine ⟨?_, ?_⟩ <;> first | omega | simp)) (hr := ?_)
  intro u hI
  refine nrmL (k := ?_)
  repeat refine w1 (k := ?_)
  refine OpTo.callR [] (inser_ac _ f hf cs c l (by omega) hc) rfl (by rfl) (by rfl) (by rfl) rfl (by rfl) ?_
  rintro r os' ⟨rfl, rfl⟩
  dsimp only [lend, Ob.up, upd, Nat.reduceAdd, Nat.reduceBEq, cond_true, cond_false, AV.up, TV.up, CV.up, List.map]
  simp only [dnO, kdn, look, lookB, Ob.dn, AV.dn, TV.dn, CV.dn, capDn, List.map, Nat.reduceLeDiff, Nat.reduceSub, if_true, if_false, ite_true, ite_false, Option.map_some]
  refine nrm (k := ?_)
  have hsl := sortL_len c l
  repeat refine w1 (k := ?_)
  refine loopN [(7, 3), (28, 35)] (α := Unit) (fun u => [(6, vi 20)]) (fun u => [(2000007, .row 3 1 ((sortL c l).map (pvI .i64)))]) (fun u => 0) (fun u => True) (x0 := ()) (h0 := by first | omega | simp | (refine ⟨?_, ?_⟩ <;> first | omega | simp)) (hr := ?_)
  intro u hI
  refine nrmL (k := ?_)
  repeat refine w1 (k := ?_)
  exact ⟨[], .nil, rfl, rfl⟩
theorem sortS_ac (G) (f : Nat) (hf : isFn Try.prog f = true) (cs : List PV) (c : Int → Int → Int) (l : List Int) (hn : l.length < 20) (hc : ∀ x ∈ l, ∀ y ∈ l, AC Try.prog G f [vi x, vi y, .c (.eptr cs)] [] (fun r _ => r = vi (c x y))) :
    AC Try.prog G 36 [.c (.own 1000007 1 l.length), .c (.fn f [.fz cs])] [(1000007, .row 3 1 (l.map (pvI .i64)))] (fun r os' => r = .tup [] ∧ os' = [(1000007, .row 3 1 ((sortL c l).map (pvI .i64)))]) := by
  refine AC.body' Try.func36 Try.ntmps36 rfl ?_
  intro cx hd hG
  refine nrmL (k := ?_)
  repeat refine w1 (k := ?_)
  obtain ⟨w0, fz0, β0, df, G0⟩ := cx
  obtain rfl : G0 = G := hG
  refine OpTo.callR [] (stable_ac _ f hf cs c l hn hc) rfl (by rfl) (by rfl) (by rfl) rfl (by rfl) ?_
  rintro r os' ⟨rfl, rfl⟩
  dsimp only [lend, Ob.up, upd, Nat.reduceAdd, Nat.reduceBEq, cond_true, cond_false, AV.up, TV.up, CV.up, List.map]
  simp only [dnO, kdn, look, lookB, Ob.dn, AV.dn, TV.dn, CV.dn, capDn, List.map, Nat.reduceLeDiff, Nat.reduceSub, if_true, if_false, ite_true, ite_false, Option.map_some]
  refine nrm (k := ?_)
  repeat refine w1 (k := ?_)
  exact ⟨[], .nil, rfl, rfl⟩
theorem isnan_ac (G) (x : Int) : AC Try.prog G 41 [vi x] [] (fun r _ => r = vb false) := by
  refine AC.body' Try.func41 Try.ntmps41 rfl ?_
  intro cx hd hG
  refine nrmL (k := ?_)
  repeat refine w1 (k := ?_)
  refine ⟨[.c _], .cons (.tmp rfl) .nil, ?_⟩
  simp [tupOf, TV.av]
def cmpI (x y : Int) : Int := if x < y then -1 else if x > y then 1 else 0
theorem compare_ac (G) (x y : Int) : AC Try.prog G 38 [vi x, vi y] [] (fun r _ => r = vi (cmpI x y)) := by
  refine AC.body' Try.func38 Try.ntmps38 rfl ?_
  intro cx hd hG
  refine nrmL (k := ?_)
  repeat refine w1 (k := ?_)
  refine callN (hc := by exact isnan_ac _ x) (h := ?_)
  repeat refine w1 (k := ?_)
  refine callN (hc := by exact isnan_ac _ y) (h := ?_)
  repeat refine w1 (k := ?_)
  repeat refine w1 (k := ?_)
  refine condN (h1 := fun h => ?_) (h0 := fun h => ?_)
  ·
    repeat refine w1 (k := ?_)
    refine ⟨[.c _], .cons (.tmp rfl) .nil, ?_⟩
    rw [cmpI, if_pos h]; rfl
  ·
    repeat refine w1 (k := ?_)
    refine condN (h1 := fun h2 => ?_) (h0 := fun h2 => ?_)
    ·
      repeat refine w1 (k := ?_)
      refine ⟨[.c _], .cons (.tmp rfl) .nil, ?_⟩
      rw [cmpI, if_neg (by omega), if_pos (by omega)]; rfl
    ·
      repeat refine w1 (k := ?_)
      refine ⟨[.c _], .cons (.tmp rfl) .nil, ?_⟩
      rw [cmpI, if_neg (by omega), if_neg (by omega)]; rfl

def pAtI (l : List Tk) (i : Int) : Int := match l[i.toNat]? with
  | some t => t.p
  | none => 0
theorem pAtI_nat (l : List Tk) (i : Nat) (h : i < l.length) : pAtI l (i : Int) = l[i].p := by
  unfold pAtI; rw [Int.toNat_natCast, List.getElem?_eq_getElem h]
def ordC (l : List Tk) (x y : Int) : Int := cmpI (pAtI l x) (pAtI l y)
theorem ordC_ac (G) (l : List Tk) (hn : l.length ≤ maxLen) (x y : Nat) (hx : x < l.length) (hy : y < l.length) : AC Try.prog G 37 [vi (x : Int), vi (y : Int), .c (.eptr [.fro (l.map tkP)])] [] (fun r _ => r = vi (ordC l x y)) := by
  refine AC.body' Try.func37 Try.ntmps37 rfl ?_
  intro cx hd hG
  refine nrmL (k := ?_)
  repeat refine w1 (k := ?_)
  refine callN (hc := by exact compare_ac _ l[x].p l[y].p) (h := ?_)
  repeat refine w1 (k := ?_)
  refine ⟨[.c _], .cons (.tmp rfl) .nil, ?_⟩
  unfold ordC
  rw [pAtI_nat l x hx, pAtI_nat l y hy]; rfl
def idL (n : Nat) : List Int := (List.range n).map fun (i : Nat) => (i : Int)
theorem idL_len (n : Nat) : (idL n).length = n := by simp [idL]
theorem idL_mem {n : Nat} {x : Int} (h : x ∈ idL n) : ∃ k : Nat, x = k ∧ k < n := by
  obtain ⟨k, hk, rfl⟩ := List.mem_map.1 h
  exact ⟨k, rfl, List.mem_range.1 hk⟩
def filL (n i : Nat) : List Int := idL i ++ List.replicate (n - i) 0
theorem filL_len (n i : Nat) (h : i ≤ n) : (filL n i).length = n := by simp [filL, idL_len]; omega
theorem filL_set (n i : Nat) (h : i < n) : (filL n i).set i (i : Int) = filL n (i + 1) := by
  unfold filL
  rw [List.set_append_right _ _ (by rw [idL_len]; exact Nat.le_refl _), idL_len, Nat.sub_self]
  obtain ⟨k, hk⟩ : ∃ k, n - i = k + 1 := ⟨n - i - 1, by omega⟩
  rw [hk, show n - (i + 1) = k by omega, List.replicate_succ]
  show idL i ++ ((i : Int) :: List.replicate k 0) = _
  rw [show idL (i + 1) = idL i ++ [(i : Int)] by unfold idL; rw [List.range_succ, List.map_append]; rfl]
  simp
def ordL (l : List Tk) : List Int := sortL (ordC l) (idL l.length)
theorem order_ac (G) (l : List Tk) (hn : l.length < 20) : AC Try.prog G 26 [fro tkP l] [] (fun r os => r = .c (.own 7 1 (ordL l).length) ∧ find os 7 = some (.row 3 1 ((ordL l).map (pvI .i64)))) := by
  refine AC.body' Try.func26 Try.ntmps26 rfl ?_
  intro cx hd hG
  refine nrmL (k := ?_)
  repeat refine w1 (k := ?_)
  obtain ⟨w0, fz0, β0, df, G0⟩ := cx
  obtain rfl : G0 = G := hG
  have hm : l.length ≤ maxLen := by rw [maxLen]; omega
  repeat refine w1 (k := ?_)
  rw [List.length_map]
  refine OpTo.makeN (by_ := 8) (pvI .i64) (0 : Int) l.length rfl rfl (by decide) (by decide) (.inl rfl) rfl rfl rfl rfl rfl (Int.le_refl _) (by omega) (by omega) (by decide) rfl rfl ?_
  refine nrm (k := ?_)
  repeat refine w1 (k := ?_)
  rw [show List.replicate l.length (0 : Int) = filL l.length 0 by rw [filL]; rfl]
  refine loopN [(4, 1), (11, 7)] (α := Nat) (fun i => [(10, vi (i : Int))]) (fun i => [(1, .pcells 46 [.fro (l.map tkP)]), (7, .row 3 1 ((filL l.length i).map (pvI .i64)))]) (fun i => l.length - i) (fun i => i ≤ l.length) (x0 := 0) (h0 := by first | omega | simp | (refine ⟨?_, ?_⟩ <;> first | omega | simp)) (hr := ?_)
  intro i hI
  refine nrmL (k := ?_)
  have hfl := filL_len l.length i hI
  repeat refine w1 (k := ?_)
  refine condN (h1 := fun h => ?_) (h0 := fun h => ?_)
  ·
    have hi : i < l.length := by omega
    repeat refine w1 (k := ?_)
    refine OpTo.stRN (sz := 1) (j := i) (c := 0) (f := pvI .i64) (l := filL l.length i) (i : Int) rfl rfl rfl (by omega) rfl rfl (by kernel_rfl) (Nat.le_refl _) rfl ?_
    refine nrm (k := ?_)
    rw [filL_set l.length i hi]
    repeat refine w1 (k := ?_)
    refine ⟨i + 1, by omega, by first | omega | (refine ⟨?_, ?_⟩ <;> omega), frg⟩
  ·
    repeat refine w1 (k := ?_)
    have : i = l.length := by omega
    subst this
    rw [show filL l.length l.length = idL l.length by simp [filL]]
    first | refine zbA 1 (h := ?_) | refine zbO 1 (h := ?_)
    have hS := sortS_ac G0 37 rfl [.fro (l.map tkP)] (ordC l) (idL l.length) (by rw [idL_len]; exact hn) (fun x hx y hy => by obtain ⟨x, rfl, h1⟩ := idL_mem hx; obtain ⟨y, rfl, h2⟩ := idL_mem hy; exact ordC_ac G0 l hm x y h1 h2)
    rw [idL_len] at hS
    refine OpTo.callR [] hS rfl (by rfl) (by rfl) (by rfl) rfl (by rfl) ?_
    rintro r os' ⟨rfl, rfl⟩
    dsimp only [lend, Ob.up, upd, Nat.reduceAdd, Nat.reduceBEq, cond_true, cond_false, AV.up, TV.up, CV.up, List.map]
    simp only [dnO, kdn, look, lookB, Ob.dn, AV.dn, TV.dn, CV.dn, capDn, List.map, Nat.reduceLeDiff, Nat.reduceSub, if_true, if_false, ite_true, ite_false, Option.map_some]
    refine nrm (k := ?_)
    repeat refine w1 (k := ?_)
    have hol : (ordL l).length = l.length := by unfold ordL; rw [sortL_len, idL_len]
    rw [hol]
    exact ⟨[.c _], .cons (.tmp rfl) .nil, rfl, rfl⟩
