/- Two loads added (package load). -/
import Derived.Test.YtjpmbklfaoejmaaDoorG2
set_option linter.all false
set_option maxHeartbeats 8000000
namespace Go.Proofs.Vl
open Go Go.RowKit
attribute [local irreducible] AWp OpTo Run DL Val UN DR AC Le thn inb nog
theorem lcN_pos {a b : Nat} (ha : 0 < a) (hb : 0 < b) : lcN a b = okN (Nat.lcm a b) ∧ lcB a b = okB (Nat.lcm a b) := by
  rw [lcN, lcB, if_neg (by omega), if_neg (by omega)]; exact ⟨rfl, rfl⟩
def pu (n : Int) : List PV := [.s (.int .u64 n)]
def pb (b : Bool) : List PV := [.s (.bool b)]
abbrev blk (a b : Nat × Nat) (d x y s : Int) (o : Bool) (tl : List (Nat × Ob)) : List (Nat × Ob) :=
  (1000002, .pcells 24 (ldP a)) :: (1000003, .pcells 24 (ldP b)) :: (1000004, .pcells 24 (ldP (0, 0))) :: (1000006, .pcells 22 (pu d)) :: (1000007, .pcells 22 (pu x)) :: (1000008, .pcells 22 (pu y)) :: (1000009, .pcells 22 (pu s)) :: (1000010, .pcells 4 (pb o)) :: tl
theorem Val.idx1 {P : Program} {cx : Cx} {st : St} {dst : Option Tmp} {ty : TypeId} {pos : String} {af : Array Edge} {gd : Option (Nat × Bool)} {E : TypeId} {x y : Operand} {S : TypeId} {L : Nat} {k : IntKind} {i : Int} {cs : List CV} {z : CV} (hu : P.underlying S = some (.array L E)) (hT : tyI P E = some none) (hsz : (P.info? E).map (·.size) = some 1) (hx : st.op cx x = .agg cs) (hy : st.op cx y = .c (.p (.s (.int k i)))) (h1 : okOp x = true) (h2 : okOp y = true) (h0 : 0 ≤ i) (hl : i < L) (hz : cs[i.toNat]? = some z) :
    Val P cx true ⟨dst, .index S x y, ty, pos, af, gd⟩ st (.c z) := by
  unfold Val
  intro a w fz β hs
  have hX := hs.op x h1
  rw [hx] at hX
  obtain ⟨vs, e1, hr⟩ := hX
  have e2 := hs.eq hy h2
  obtain ⟨v, hv, hzv⟩ := hr.get hz
  refine ⟨v, hzv.2, fun w' hw => ?_⟩
  have hp := run_part1 (P := P) hT (vs := vs) (off := i.toNat) hv w'
  obtain ⟨ti, h3, h4⟩ := Option.map_eq_some_iff.1 hsz
  simp [execOp, e1, e2, Instr.index, asIntOf, run_underlying hu, h0, hl, sizeOf, typeInfo, h3, h4, hp]
theorem add1_ac (G) (a b : Nat × Nat) (d x y s : Int) (o : Bool) (tl) (ha : lOk a) (hb : lOk b) (ha0 : 0 < a.2) (hb0 : 0 < b.2) : AC Tryd.prog G 31 [.c (.ptr 1000002 0), .c (.ptr 1000003 0), .c (.ptr 1000006 0), .c (.ptr 1000010 0)] (blk a b d x y s o tl) (fun r os' => r = .tup [] ∧ os' = blk a b (okN (Nat.lcm a.2 b.2)) x y s (okB (Nat.lcm a.2 b.2)) tl) := by
  obtain ⟨h1, h2⟩ := lcN_pos ha0 hb0
  unfold blk
  refine AC.body' Tryd.func31 Tryd.ntmps31 rfl ?_
  intro cx hd hG
  refine nrmL (k := ?_)
  repeat refine w1 (k := ?_)
  refine callN (hc := by exact lcm_ac _ a.2 b.2 ha.2 hb.2) (h := ?_)
  repeat refine w1 (k := ?_)
  rw [h1, h2]
  repeat refine w1 (k := ?_)
  refine ⟨[], .nil, ?_⟩
  exact ⟨rfl, rfl⟩
theorem add2_ac (G) (a b : Nat × Nat) (d : Nat) (x y s : Int) (o : Bool) (tl) (ha : lOk a) (hdd : d < 18446744073709551616) (ha0 : 0 < a.2) : AC Tryd.prog G 32 [.c (.ptr 1000002 0), .c (.ptr 1000006 0), .c (.ptr 1000007 0), .c (.ptr 1000010 0)] (blk a b d x y s o tl) (fun r os' => r = .tup [] ∧ os' = blk a b d (okN (a.1 * (d / a.2))) y s (okB (a.1 * (d / a.2))) tl) := by
  unfold blk
  refine AC.body' Tryd.func32 Tryd.ntmps32 rfl ?_
  intro cx hd hG
  refine nrmL (k := ?_)
  repeat refine w1 (k := ?_)
  rw [show (d : Int) / (a.2 : Int) = ((d / a.2 : Nat) : Int) from rfl]
  refine callN (hc := by exact mul_ac _ a.1 (d / a.2) ha.1 (Nat.lt_of_le_of_lt (Nat.div_le_self _ _) hdd)) (h := ?_)
  repeat refine w1 (k := ?_)
  refine DL.take 0 rfl (by decide +kernel) rfl (Val.extract rfl rfl rfl) ?_
  repeat refine w1 (k := ?_)
  refine ⟨[], .nil, ?_⟩
  exact ⟨rfl, rfl⟩
theorem add3_ac (G) (a b : Nat × Nat) (d : Nat) (x y s : Int) (o : Bool) (tl) (hb : lOk b) (hdd : d < 18446744073709551616) (hb0 : 0 < b.2) : AC Tryd.prog G 34 [.c (.ptr 1000003 0), .c (.ptr 1000006 0), .c (.ptr 1000008 0), .c (.ptr 1000010 0)] (blk a b d x y s o tl) (fun r os' => r = .tup [] ∧ os' = blk a b d x (okN (b.1 * (d / b.2))) s (okB (b.1 * (d / b.2))) tl) := by
  unfold blk
  refine AC.body' Tryd.func34 Tryd.ntmps34 rfl ?_
  intro cx hd hG
  refine nrmL (k := ?_)
  repeat refine w1 (k := ?_)
  rw [show (d : Int) / (b.2 : Int) = ((d / b.2 : Nat) : Int) from rfl]
  refine callN (hc := by exact mul_ac _ b.1 (d / b.2) hb.1 (Nat.lt_of_le_of_lt (Nat.div_le_self _ _) hdd)) (h := ?_)
  repeat refine w1 (k := ?_)
  refine DL.take 0 rfl (by decide +kernel) rfl (Val.extract rfl rfl rfl) ?_
  repeat refine w1 (k := ?_)
  refine ⟨[], .nil, ?_⟩
  exact ⟨rfl, rfl⟩
theorem add4_ac (G) (a b : Nat × Nat) (d : Int) (x y : Nat) (s : Int) (o : Bool) (tl) (hx : x < 18446744073709551616) (hy : y < 18446744073709551616) : AC Tryd.prog G 35 [.c (.ptr 1000007 0), .c (.ptr 1000008 0), .c (.ptr 1000009 0), .c (.ptr 1000010 0)] (blk a b d x y s o tl) (fun r os' => r = .tup [] ∧ os' = blk a b d x y (okN (x + y)) (okB (x + y)) tl) := by
  unfold blk
  refine AC.body' Tryd.func35 Tryd.ntmps35 rfl ?_
  intro cx hd hG
  refine nrmL (k := ?_)
  repeat refine w1 (k := ?_)
  refine callN (hc := by exact add_ac _ x y hx hy) (h := ?_)
  repeat refine w1 (k := ?_)
  refine ⟨[], .nil, ?_⟩
  exact ⟨rfl, rfl⟩
/-- Numerators over the common divisor; whether all fits. -/
def sx (a b : Nat × Nat) : Nat := a.1 * (Nat.lcm a.2 b.2 / a.2)
def sy (a b : Nat × Nat) : Nat := b.1 * (Nat.lcm a.2 b.2 / b.2)
def adB (a b : Nat × Nat) : Bool := okB (Nat.lcm a.2 b.2) && (okB (sx a b) && (okB (sy a b) && okB (sx a b + sy a b)))
def adF (a b : Nat × Nat) : Nat × Nat := if adB a b then fm (sx a b + sy a b) (Nat.lcm a.2 b.2) else (0, 0)
theorem okB_t {n : Nat} (h : okB n = true) : okN n = (n : Int) ∧ n < 18446744073709551616 := by
  have := of_decide_eq_true h
  rw [okN, if_pos this]; exact ⟨rfl, this⟩
theorem add24_ac (a b : Nat × Nat) (ha : lOk a) (hb : lOk b) (ha0 : 0 < a.2) (hb0 : 0 < b.2) : AC Tryd.prog GL 24 [.pag (ldP a), .pag (ldP b)] [] (fun r _ => r = .tup [.pag (ldP (adF a b)), tb (adB a b)]) := by
  refine AC.body' Tryd.func24 Tryd.ntmps24 rfl ?_
  intro cx hd hG
  refine nrmL (k := ?_)
  repeat refine w1 (k := ?_)
  obtain ⟨w0, fz0, β0, df, G0⟩ := cx
  obtain rfl : G0 = GL := hG
  refine OpTo.of (Val.buildAC (sz := 1) rfl rfl rfl rfl) ?_
  dsimp only [splice, List.map, List.take, List.drop, List.length, Nat.reduceAdd, List.cons_append, List.nil_append]
  refine nrm (k := ?_)
  repeat refine w1 (k := ?_)
  refine AWp.unroll 5 ?_
  repeat refine w1 (k := ?_)
  first | refine ofN (hv := by exact Val.idx1 (L := 4) (E := 1) Tryd.underlying67 (by kernel_rfl) (by kernel_rfl) rfl rfl rfl rfl (by decide) (by decide) rfl) (h := ?_) | refine dlN (hv := by exact Val.idx1 (L := 4) (E := 1) Tryd.underlying67 (by kernel_rfl) (by kernel_rfl) rfl rfl rfl rfl (by decide) (by decide) rfl) (h := ?_) | refine dlgN (hv := by exact Val.idx1 (L := 4) (E := 1) Tryd.underlying67 (by kernel_rfl) (by kernel_rfl) rfl rfl rfl rfl (by decide) (by decide) rfl) (h := ?_) | refine ofN (hv := by exact Val.idx1 (L := 4) (E := 1) Tryd.underlying67 (by kernel_rfl) (by kernel_rfl) rfl rfl rfl rfl (by decide) (by decide) rfl) (h := ?_)
  repeat refine w1 (k := ?_)
  refine OpTo.callF [] (add1_ac _ a b 0 0 0 0 false _ ha hb ha0 hb0) (by rfl) (by rfl) (by rfl) (by rfl) (by rfl) (by rfl) (by rfl) (by rfl) (by rfl) ?_
  rintro r os' ⟨rfl, rfl⟩
  simp only [lend, Ob.up, AV.up, TV.up, CV.up, Cap.up, Nat.reduceAdd, dnO, kdn, look, lookB, Ob.dn, AV.dn, TV.dn, CV.dn, capDn, List.map, Nat.reduceLeDiff, Nat.reduceSub, if_true, if_false, ite_true, ite_false, Option.map_some]
  refine nrm (k := ?_)
  repeat refine w1 (k := ?_)
  cases q1 : okB (Nat.lcm a.2 b.2)
  ·
    repeat refine w1 (k := ?_)
    refine ⟨[.pag _, .c _], .cons (.ldF rfl rfl rfl rfl) (.cons (.tmp rfl) .nil), ?_⟩
    rw [adF, show adB a b = false by rw [adB]; simp only [*, Bool.false_and, Bool.true_and]]; rfl
  ·
    obtain ⟨e1, k1⟩ := okB_t q1
    rw [e1]
    repeat refine w1 (k := ?_)
    first | refine ofN (hv := by exact Val.idx1 (L := 4) (E := 1) Tryd.underlying67 (by kernel_rfl) (by kernel_rfl) rfl rfl rfl rfl (by decide) (by decide) rfl) (h := ?_) | refine dlN (hv := by exact Val.idx1 (L := 4) (E := 1) Tryd.underlying67 (by kernel_rfl) (by kernel_rfl) rfl rfl rfl rfl (by decide) (by decide) rfl) (h := ?_) | refine dlgN (hv := by exact Val.idx1 (L := 4) (E := 1) Tryd.underlying67 (by kernel_rfl) (by kernel_rfl) rfl rfl rfl rfl (by decide) (by decide) rfl) (h := ?_) | refine ofN (hv := by exact Val.idx1 (L := 4) (E := 1) Tryd.underlying67 (by kernel_rfl) (by kernel_rfl) rfl rfl rfl rfl (by decide) (by decide) rfl) (h := ?_)
    repeat refine w1 (k := ?_)
    refine OpTo.callF [] (add2_ac _ a b (Nat.lcm a.2 b.2) 0 0 0 true _ ha k1 ha0) (by rfl) (by rfl) (by rfl) (by rfl) (by rfl) (by rfl) (by rfl) (by rfl) (by rfl) ?_
    rintro r os' ⟨rfl, rfl⟩
    simp only [lend, Ob.up, AV.up, TV.up, CV.up, Cap.up, Nat.reduceAdd, dnO, kdn, look, lookB, Ob.dn, AV.dn, TV.dn, CV.dn, capDn, List.map, Nat.reduceLeDiff, Nat.reduceSub, if_true, if_false, ite_true, ite_false, Option.map_some]
    refine nrm (k := ?_)
    repeat refine w1 (k := ?_)
    rw [show a.1 * (Nat.lcm a.2 b.2 / a.2) = sx a b from rfl]
    cases q2 : okB (sx a b)
    ·
      repeat refine w1 (k := ?_)
      refine ⟨[.pag _, .c _], .cons (.ldF rfl rfl rfl rfl) (.cons (.tmp rfl) .nil), ?_⟩
      rw [adF, show adB a b = false by rw [adB]; simp only [*, Bool.false_and, Bool.true_and]]; rfl
    ·
      obtain ⟨e2, k2⟩ := okB_t q2
      rw [e2]
      repeat refine w1 (k := ?_)
      first | refine ofN (hv := by exact Val.idx1 (L := 4) (E := 1) Tryd.underlying67 (by kernel_rfl) (by kernel_rfl) rfl rfl rfl rfl (by decide) (by decide) rfl) (h := ?_) | refine dlN (hv := by exact Val.idx1 (L := 4) (E := 1) Tryd.underlying67 (by kernel_rfl) (by kernel_rfl) rfl rfl rfl rfl (by decide) (by decide) rfl) (h := ?_) | refine dlgN (hv := by exact Val.idx1 (L := 4) (E := 1) Tryd.underlying67 (by kernel_rfl) (by kernel_rfl) rfl rfl rfl rfl (by decide) (by decide) rfl) (h := ?_) | refine ofN (hv := by exact Val.idx1 (L := 4) (E := 1) Tryd.underlying67 (by kernel_rfl) (by kernel_rfl) rfl rfl rfl rfl (by decide) (by decide) rfl) (h := ?_)
      repeat refine w1 (k := ?_)
      refine OpTo.callF [] (add3_ac _ a b (Nat.lcm a.2 b.2) (sx a b) 0 0 true _ hb k1 hb0) (by rfl) (by rfl) (by rfl) (by rfl) (by rfl) (by rfl) (by rfl) (by rfl) (by rfl) ?_
      rintro r os' ⟨rfl, rfl⟩
      simp only [lend, Ob.up, AV.up, TV.up, CV.up, Cap.up, Nat.reduceAdd, dnO, kdn, look, lookB, Ob.dn, AV.dn, TV.dn, CV.dn, capDn, List.map, Nat.reduceLeDiff, Nat.reduceSub, if_true, if_false, ite_true, ite_false, Option.map_some]
      refine nrm (k := ?_)
      repeat refine w1 (k := ?_)
      rw [show b.1 * (Nat.lcm a.2 b.2 / b.2) = sy a b from rfl]
      cases q3 : okB (sy a b)
      ·
        repeat refine w1 (k := ?_)
        refine ⟨[.pag _, .c _], .cons (.ldF rfl rfl rfl rfl) (.cons (.tmp rfl) .nil), ?_⟩
        rw [adF, show adB a b = false by rw [adB]; simp only [*, Bool.false_and, Bool.true_and]]; rfl
      ·
        obtain ⟨e3, k3⟩ := okB_t q3
        rw [e3]
        repeat refine w1 (k := ?_)
        first | refine ofN (hv := by exact Val.idx1 (L := 4) (E := 1) Tryd.underlying67 (by kernel_rfl) (by kernel_rfl) rfl rfl rfl rfl (by decide) (by decide) rfl) (h := ?_) | refine dlN (hv := by exact Val.idx1 (L := 4) (E := 1) Tryd.underlying67 (by kernel_rfl) (by kernel_rfl) rfl rfl rfl rfl (by decide) (by decide) rfl) (h := ?_) | refine dlgN (hv := by exact Val.idx1 (L := 4) (E := 1) Tryd.underlying67 (by kernel_rfl) (by kernel_rfl) rfl rfl rfl rfl (by decide) (by decide) rfl) (h := ?_) | refine ofN (hv := by exact Val.idx1 (L := 4) (E := 1) Tryd.underlying67 (by kernel_rfl) (by kernel_rfl) rfl rfl rfl rfl (by decide) (by decide) rfl) (h := ?_)
        repeat refine w1 (k := ?_)
        refine OpTo.callF [] (add4_ac _ a b (Nat.lcm a.2 b.2) (sx a b) (sy a b) 0 true _ k2 k3) (by rfl) (by rfl) (by rfl) (by rfl) (by rfl) (by rfl) (by rfl) (by rfl) (by rfl) ?_
        rintro r os' ⟨rfl, rfl⟩
        simp only [lend, Ob.up, AV.up, TV.up, CV.up, Cap.up, Nat.reduceAdd, dnO, kdn, look, lookB, Ob.dn, AV.dn, TV.dn, CV.dn, capDn, List.map, Nat.reduceLeDiff, Nat.reduceSub, if_true, if_false, ite_true, ite_false, Option.map_some]
        refine nrm (k := ?_)
        repeat refine w1 (k := ?_)
        cases q4 : okB (sx a b + sy a b)
        ·
          repeat refine w1 (k := ?_)
          refine ⟨[.pag _, .c _], .cons (.ldF rfl rfl rfl rfl) (.cons (.tmp rfl) .nil), ?_⟩
          rw [adF, show adB a b = false by rw [adB]; simp only [*, Bool.false_and, Bool.true_and]]; rfl
        ·
          obtain ⟨e4, k4⟩ := okB_t q4
          rw [e4]
          repeat refine w1 (k := ?_)
          refine callN (hc := by exact form_ac _ (sx a b + sy a b) (Nat.lcm a.2 b.2) k4 k1 (Nat.lcm_pos ha0 hb0)) (h := ?_)
          repeat refine w1 (k := ?_)
          refine ⟨[.pag _, .c _], .cons (.ldF rfl rfl rfl rfl) (.cons (.tmp rfl) .nil), ?_⟩
          rw [adF, show adB a b = true by rw [adB]; simp only [*, Bool.and_true, Bool.true_and]]; rfl
end Go.Proofs.Vl
