/- Chapter 22: how much more, by halves. -/
import Derived.Test.YtlegdnmebgfjbaaDoorW6
set_option linter.all false
set_option maxRecDepth 2000
set_option maxHeartbeats 8000000
namespace Go.Proofs.Vl
open Go Go.RowKit
attribute [local irreducible] AWp OpTo Run DL Val UN DR AC Le thn inb nog
def os4 (fs k : Nat) (l : List Tk) : List (Nat × Ob) := [(4000006, .pcells 3 [.s (.int .i64 (k : Int))]), (4000009, .cells 52 [.fn fs []]), (4000024, .row 27 7 ((l).map tkP)), (4000013, .cells 24 [.own 4000024 7 l.length]), (4000014, .cells 37 [.fn 30 [.key 4000009, .key 4000013, .key 4000006]])]
def os3 (fs k : Nat) (l : List Tk) : List (Nat × Ob) := [(3000006, .pcells 3 [.s (.int .i64 (k : Int))]), (3000009, .cells 52 [.fn fs []]), (3000024, .row 27 7 ((l).map tkP)), (3000013, .cells 24 [.own 3000024 7 l.length]), (3000014, .cells 37 [.fn 30 [.key 3000009, .key 3000013, .key 3000006]])]
def os2 (fs k : Nat) (l : List Tk) : List (Nat × Ob) := [(2000006, .pcells 3 [.s (.int .i64 (k : Int))]), (2000009, .cells 52 [.fn fs []]), (2000024, .row 27 7 ((l).map tkP)), (2000013, .cells 24 [.own 2000024 7 l.length]), (2000014, .cells 37 [.fn 30 [.key 2000009, .key 2000013, .key 2000006]])]
def os1 (fs k : Nat) (l : List Tk) : List (Nat × Ob) := [(1000006, .pcells 3 [.s (.int .i64 (k : Int))]), (1000009, .cells 52 [.fn fs []]), (1000024, .row 27 7 ((l).map tkP)), (1000013, .cells 24 [.own 1000024 7 l.length]), (1000014, .cells 37 [.fn 30 [.key 1000009, .key 1000013, .key 1000006]])]
def os0 (fs k : Nat) (l : List Tk) : List (Nat × Ob) := [(6, .pcells 3 [.s (.int .i64 (k : Int))]), (9, .cells 52 [.fn fs []]), (24, .row 27 7 ((l).map tkP)), (13, .cells 24 [.own 24 7 l.length]), (14, .cells 37 [.fn 30 [.key 9, .key 13, .key 6]])]
theorem os_up (fs k : Nat) (l : List Tk) : lend (os0 fs k l) = os1 fs k l ∧ lend (os1 fs k l) = os2 fs k l ∧ lend (os2 fs k l) = os3 fs k l ∧ lend (os3 fs k l) = os4 fs k l := ⟨rfl, rfl, rfl, rfl⟩
theorem os_dn (fs k : Nat) (l : List Tk) : dnO [] (os1 fs k l) = os0 fs k l ∧ dnO [] (os2 fs k l) = os1 fs k l ∧ dnO [] (os3 fs k l) = os2 fs k l ∧ dnO [] (os4 fs k l) = os3 fs k l := ⟨rfl, rfl, rfl, rfl⟩
/-- A function that changes one number of a task that it is pointed at. -/
def Sets (fs : Nat) (g : Int → Tk → Tk) : Prop := ∀ (G) (k : Nat) (l : List Tk) (hk : k < l.length) (n : Int), AC Tryd.prog G fs [.c (.rptr 4000024 7 k 0), vi n] (os4 fs k l) (fun r os' => r = .tup [] ∧ os' = os4 fs k (l.set k (g n l[k])))
theorem setC_ac : Sets 20 sC := by
  intro G k l hk n
  unfold os4
  refine AC.body' Tryd.func20 Tryd.ntmps20 rfl ?_
  intro cx hd hG
  refine nrmL (k := ?_)
  repeat refine w1 (k := ?_)
  first | refine ofN (hv := by exact Val.nilC rfl rfl) (h := ?_) | refine dlN (hv := by exact Val.nilC rfl rfl) (h := ?_) | refine dlgN (hv := by exact Val.nilC rfl rfl) (h := ?_) | refine ofN (hv := by exact Val.nilC rfl rfl) (h := ?_)
  repeat refine w1 (k := ?_)
  refine OpTo.stRN (sz := 7) (j := k) (c := 1) (f := tkP) (l := l) (sC n l[k]) rfl rfl rfl hk rfl rfl (by kernel_rfl) (Nat.le_of_ble_eq_true rfl) rfl ?_
  refine nrm (k := ?_)
  repeat refine w1 (k := ?_)
  refine ⟨[], .nil, rfl, ?_⟩
  rw [List.length_set]
theorem setQ_ac : Sets 34 sQ := by
  intro G k l hk n
  unfold os4
  refine AC.body' Tryd.func34 Tryd.ntmps34 rfl ?_
  intro cx hd hG
  refine nrmL (k := ?_)
  repeat refine w1 (k := ?_)
  first | refine ofN (hv := by exact Val.nilC rfl rfl) (h := ?_) | refine dlN (hv := by exact Val.nilC rfl rfl) (h := ?_) | refine dlgN (hv := by exact Val.nilC rfl rfl) (h := ?_) | refine ofN (hv := by exact Val.nilC rfl rfl) (h := ?_)
  repeat refine w1 (k := ?_)
  refine OpTo.stRN (sz := 7) (j := k) (c := 5) (f := tkP) (l := l) (sQ n l[k]) rfl rfl rfl hk rfl rfl (by kernel_rfl) (Nat.le_of_ble_eq_true rfl) rfl ?_
  refine nrm (k := ?_)
  repeat refine w1 (k := ?_)
  refine ⟨[], .nil, rfl, ?_⟩
  rw [List.length_set]
theorem setJ_ac : Sets 35 sJ := by
  intro G k l hk n
  unfold os4
  refine AC.body' Tryd.func35 Tryd.ntmps35 rfl ?_
  intro cx hd hG
  refine nrmL (k := ?_)
  repeat refine w1 (k := ?_)
  first | refine ofN (hv := by exact Val.nilC rfl rfl) (h := ?_) | refine dlN (hv := by exact Val.nilC rfl rfl) (h := ?_) | refine dlgN (hv := by exact Val.nilC rfl rfl) (h := ?_) | refine ofN (hv := by exact Val.nilC rfl rfl) (h := ?_)
  repeat refine w1 (k := ?_)
  refine OpTo.stRN (sz := 7) (j := k) (c := 4) (f := tkP) (l := l) (sJ n l[k]) rfl rfl rfl hk rfl rfl (by kernel_rfl) (Nat.le_of_ble_eq_true rfl) rfl ?_
  refine nrm (k := ?_)
  repeat refine w1 (k := ?_)
  refine ⟨[], .nil, rfl, ?_⟩
  rw [List.length_set]
theorem AWp.dlW {P : Program} {cx : Cx} {st : St} {Q : Exit → St → Prop} {id : Nat} {l : List Oper} {ds : List (Option Tmp)} {rem : List (Nat × Oper)} (wr : List Nat) (hm : P.follows .mixedOrders = true := by kernel_rfl) (hsl : l.all noSel = true := by rfl) (hds : l.map (·.dst) = ds := by (dsimp only [List.map] <;> exact rfl)) (he : enum 0 l = rem := by (dsimp only [enum, Nat.reduceAdd] <;> exact rfl)) (h : DL P cx ds wr rem st (fun s => Q .normal s)) : AWp P cx (.region id l.toArray true) st Q := by
  subst he; exact AWp.dl wr hm hsl hds h
theorem frz_ownL {st : St} {k sz n : Nat} {T : TypeId} {xs : List (List PV)} (h : find st.objs k = some (.row T sz xs)) (hn : n = xs.length) : frz st (.c (.own k sz n)) = .c (.p (.fro xs)) := by
  subst hn
  simp [frz, elems, h]
/-- It is set, and asked. -/
theorem fine_ac (fs : Nat) (hfs : isFn Tryd.prog fs = true) (g : Int → Tk → Tk) (hg : ∀ n t, (g n t).nm = t.nm) (hset : Sets fs g) (k : Nat) (l : List Tk) (hk : k < l.length) (n : Int) (hl : ∀ t ∈ l, t.nm.size ≤ maxLen) (hn : l.length ≤ maxLen) :
    AC Tryd.prog GL 30 [vi n, .c (.ptr 3000009 0), .c (.ptr 3000013 0), .c (.ptr 3000006 0)] (os3 fs k l) (fun r os' => r = vb (testsB (l.set k (g n l[k]))) ∧ os' = os3 fs k (l.set k (g n l[k]))) := by
  have hl2 : ∀ t ∈ l.set k (g n l[k]), t.nm.size ≤ maxLen := fun t ht => by
    rcases List.mem_or_eq_of_mem_set ht with h | h
    · exact hl t h
    · subst h; rw [hg]; exact hl _ (List.getElem_mem hk)
  have hn2 : (l.set k (g n l[k])).length ≤ maxLen := by rw [List.length_set]; exact hn
  have hup := (os_up fs k l).2.2.2
  have hdn := (os_dn fs k (l.set k (g n l[k]))).2.2.2
  have hs4 := hset GL k l hk n
  unfold os3 at *
  refine AC.body' Tryd.func30 Tryd.ntmps30 rfl ?_
  intro cx hd hG
  obtain ⟨w0, fz0, β0, df, G0⟩ := cx
  obtain rfl : G0 = GL := hG
  refine nrmL (k := ?_)
  first | ((iterate 1 (refine w1 (k := ?_))); refine AWp.dlW [5] (h := ?_)) | ((iterate 2 (refine w1 (k := ?_))); refine AWp.dlW [5] (h := ?_)) | ((iterate 3 (refine w1 (k := ?_))); refine AWp.dlW [5] (h := ?_)) | ((iterate 4 (refine w1 (k := ?_))); refine AWp.dlW [5] (h := ?_)) | ((iterate 5 (refine w1 (k := ?_))); refine AWp.dlW [5] (h := ?_)) | ((iterate 6 (refine w1 (k := ?_))); refine AWp.dlW [5] (h := ?_)) | ((iterate 7 (refine w1 (k := ?_))); refine AWp.dlW [5] (h := ?_))
  refine nrm (k := ?_)
  repeat refine w1 (k := ?_)
  (first | refine DL.takeT 0 rfl (by decide +kernel) rfl (Val.move rfl) ?_ | refine DL.takeT 0 rfl (by decide +kernel) rfl (Val.ld1 rfl rfl rfl rfl) ?_ | refine DL.takeT 0 rfl (by decide +kernel) rfl (Val.ev2 rfl) ?_ | refine DL.takeT 0 rfl (by decide +kernel) rfl (Val.ev rfl) ?_ | refine DL.takeT 0 rfl (by decide +kernel) rfl (Val.ixON rfl rfl rfl rfl rfl hk) ?_)
  refine nrm (k := ?_)
  (first | refine DL.takeT 0 rfl (by decide +kernel) rfl (Val.move rfl) ?_ | refine DL.takeT 0 rfl (by decide +kernel) rfl (Val.ld1 rfl rfl rfl rfl) ?_ | refine DL.takeT 0 rfl (by decide +kernel) rfl (Val.ev2 rfl) ?_ | refine DL.takeT 0 rfl (by decide +kernel) rfl (Val.ev rfl) ?_ | refine DL.takeT 0 rfl (by decide +kernel) rfl (Val.ixON rfl rfl rfl rfl rfl hk) ?_)
  refine nrm (k := ?_)
  (first | refine DL.takeT 0 rfl (by decide +kernel) rfl (Val.move rfl) ?_ | refine DL.takeT 0 rfl (by decide +kernel) rfl (Val.ld1 rfl rfl rfl rfl) ?_ | refine DL.takeT 0 rfl (by decide +kernel) rfl (Val.ev2 rfl) ?_ | refine DL.takeT 0 rfl (by decide +kernel) rfl (Val.ev rfl) ?_ | refine DL.takeT 0 rfl (by decide +kernel) rfl (Val.ixON rfl rfl rfl rfl rfl hk) ?_)
  refine nrm (k := ?_)
  rw [show Tryd.prog.types[27].size = 7 by kernel_rfl]
  refine DL.one 0 rfl (by decide +kernel) rfl ?_
  refine nrm (k := ?_)
  rw [show (![5].contains 5) = false from rfl]
  refine OpTo.callF [] hs4 rfl rfl rfl hup hfs rfl rfl rfl rfl ?_
  rintro r os' ⟨rfl, rfl⟩
  rw [hdn]
  generalize l.set k (g n l[k]) = l2 at *
  dsimp only [AV.dn, List.map]
  refine nrm (k := ?_)
  repeat refine w1 (k := ?_)
  refine callN (ha := congrArg (fun z => [z]) (frz_ownL (k := 3000024) (xs := l2.map tkP) rfl (List.length_map tkP).symm)) (hc := by exact tests_ac l2 hl2 hn2) (h := ?_)
  repeat refine w1 (k := ?_)
  exact ⟨[.c _], .cons (.tmp rfl) .nil, rfl, rfl⟩
theorem notfine_ac (fs : Nat) (hfs : isFn Tryd.prog fs = true) (g : Int → Tk → Tk) (hg : ∀ n t, (g n t).nm = t.nm) (hset : Sets fs g) (k : Nat) (l : List Tk) (hk : k < l.length) (n : Int) (hl : ∀ t ∈ l, t.nm.size ≤ maxLen) (hn : l.length ≤ maxLen) :
    AC Tryd.prog GL 31 [vi n, .c (.ptr 2000014 0)] (os2 fs k l) (fun r os' => r = vb (!testsB (l.set k (g n l[k]))) ∧ os' = os2 fs k (l.set k (g n l[k]))) := by
  have hup := (os_up fs k l).2.2.1
  have hdn := (os_dn fs k (l.set k (g n l[k]))).2.2.1
  have hf := fine_ac fs hfs g hg hset k l hk n hl hn
  unfold os2 at *
  refine AC.body' Tryd.func31 Tryd.ntmps31 rfl ?_
  intro cx hd hG
  refine nrmL (k := ?_)
  repeat refine w1 (k := ?_)
  obtain ⟨w0, fz0, β0, df, G0⟩ := cx
  obtain rfl : G0 = GL := hG
  refine OpTo.callF [] hf rfl rfl rfl hup rfl rfl rfl rfl rfl ?_
  rintro r os' ⟨rfl, rfl⟩
  rw [hdn]
  generalize l.set k (g n l[k]) = l2 at *
  simp only [lend, Ob.up, AV.up, TV.up, CV.up, Cap.up, Nat.reduceAdd, dnO, kdn, look, lookB, Ob.dn, AV.dn, TV.dn, CV.dn, capDn, List.map, Nat.reduceLeDiff, Nat.reduceSub, if_true, if_false, ite_true, ite_false, Option.map_some]
  refine nrm (k := ?_)
  repeat refine w1 (k := ?_)
  exact ⟨[.c _], .cons (.tmp rfl) .nil, rfl, rfl⟩
