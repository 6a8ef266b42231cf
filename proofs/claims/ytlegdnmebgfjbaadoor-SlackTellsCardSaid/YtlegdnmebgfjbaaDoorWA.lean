/- Chapter 22: the least period. -/
import Derived.Test.YtlegdnmebgfjbaaDoorW9
set_option linter.all false
set_option maxRecDepth 2000
set_option maxHeartbeats 8000000
namespace Go.Proofs.Vl
open Go Go.RowKit
attribute [local irreducible] AWp OpTo Run DL Val UN DR AC Le thn inb nog
def ps2 (k : Nat) (l : List Tk) : List (Nat × Ob) := [(2000003, .pcells 3 [.s (.int .i64 (k : Int))]), (2000017, .row 27 7 ((l).map tkP)), (2000007, .cells 24 [.own 2000017 7 l.length])]
def ps1 (k : Nat) (l : List Tk) : List (Nat × Ob) := [(1000003, .pcells 3 [.s (.int .i64 (k : Int))]), (1000017, .row 27 7 ((l).map tkP)), (1000007, .cells 24 [.own 1000017 7 l.length])]
def ps0 (k : Nat) (l : List Tk) : List (Nat × Ob) := [(3, .pcells 3 [.s (.int .i64 (k : Int))]), (17, .row 27 7 ((l).map tkP)), (7, .cells 24 [.own 17 7 l.length])]
theorem ps_up (k : Nat) (l : List Tk) : lend (ps0 k l) = ps1 k l ∧ lend (ps1 k l) = ps2 k l := ⟨rfl, rfl⟩
theorem ps_dn (k : Nat) (l : List Tk) : dnO [] (ps1 k l) = ps0 k l ∧ dnO [] (ps2 k l) = ps1 k l := ⟨rfl, rfl⟩
theorem fineT_ac (k : Nat) (l : List Tk) (hk : k < l.length) (n : Int) (hl : ∀ t ∈ l, t.nm.size ≤ maxLen) (hn : l.length ≤ maxLen) :
    AC Tryd.prog GL 23 [vi n, .c (.ptr 2000007 0), .c (.ptr 2000003 0)] (ps2 k l) (fun r os' => r = vb (testsB (l.set k (sT n l[k]))) ∧ os' = ps2 k (l.set k (sT n l[k]))) := by
  have hl2 : ∀ t ∈ l.set k (sT n l[k]), t.nm.size ≤ maxLen := fun t ht => by
    rcases List.mem_or_eq_of_mem_set ht with h | h
    · exact hl t h
    · subst h; exact (hl l[k] (List.getElem_mem hk) : _)
  have hn2 : (l.set k (sT n l[k])).length ≤ maxLen := by rw [List.length_set]; exact hn
  have hlen : l.length = (l.set k (sT n l[k])).length := by rw [List.length_set]
  unfold ps2
  refine AC.body' Tryd.func23 Tryd.ntmps23 rfl ?_
  intro cx hd hG
  refine nrmL (k := ?_)
  repeat refine w1 (k := ?_)
  obtain ⟨w0, fz0, β0, df, G0⟩ := cx
  obtain rfl : G0 = GL := hG
  try rw [show Tryd.prog.types[27].size = 7 by kernel_rfl]
  refine OpTo.stRN (sz := 7) (j := k) (c := 2) (f := tkP) (l := l) (sT n l[k]) rfl rfl rfl hk rfl rfl (by kernel_rfl) (Nat.le_of_ble_eq_true rfl) rfl ?_
  rw [hlen]
  generalize l.set k (sT n l[k]) = l2 at *
  refine nrm (k := ?_)
  repeat refine w1 (k := ?_)
  refine callN (ha := congrArg (fun z => [z]) (frz_ownL (k := 2000017) (xs := l2.map tkP) rfl (List.length_map tkP).symm)) (hc := by exact tests_ac l2 hl2 hn2) (h := ?_)
  repeat refine w1 (k := ?_)
  exact ⟨[.c _], .cons (.tmp rfl) .nil, rfl, rfl⟩
theorem period_ac (l : List Tk) (i : Int) (hl : ∀ t ∈ l, t.nm.size ≤ maxLen) (hn : l.length ≤ maxLen) : AC Tryd.prog GL 13 [fro tkP l, vi i] [] (fun r _ => r = .tup [ti (prN l i (atT l i).t), ti (mayE l i)]) := by
  refine AC.body' Tryd.func13 Tryd.ntmps13 rfl ?_
  intro cx hd hG
  refine nrmL (k := ?_)
  repeat refine w1 (k := ?_)
  obtain ⟨w0, fz0, β0, df, G0⟩ := cx
  obtain rfl : G0 = GL := hG
  refine callN (hc := by exact may_ac l i hl hn) (h := ?_)
  repeat refine w1 (k := ?_)
  refine condN (h1 := fun h0 => ?_) (h0 := fun h0 => ?_)
  ·
    repeat refine w1 (k := ?_)
    rw [show prN l i (atT l i).t = 0 by unfold prN; rw [if_neg h0]]
    exact ⟨[.c _, .c _], .cons (.tmp rfl) (.cons (.tmp rfl) .nil), rfl⟩
  ·
    have hb : isB l i = true := by
      cases hb : isB l i with
      | true => rfl
      | false => unfold mayE at h0; rw [hb] at h0; cases h0
    rw [show prN l i (atT l i).t = leN (fun n => testsB (upT l i.toNat (sT n))) 1 (atT l i).t by unfold prN; rw [if_pos h0]]
    obtain ⟨k, f3, rfl, e, hF, _⟩ := at_is hb
    obtain ⟨hc, ht, hd, hj, hq, hp⟩ := hF
    have f1 := (is_spec hb).1
    rw [e]
    simp only [Int.toNat_natCast]
    have hup : ∀ m, upT l k (sT m) = l.set k (sT m l[k]) := fun m => upT_at f3 _
    have h00 : upT l k (sT l[k].t) = l := by rw [hup]; exact List.set_getElem_self f3
    have hlen : ∀ m, (upT l k (sT m)).length = l.length := fun m => by rw [hup, List.length_set]
    have hgt : ∀ m (h : k < (upT l k (sT m)).length), (upT l k (sT m))[k] = sT m l[k] := fun m h => by simp only [hup, List.getElem_set_self]
    have hss : ∀ m n (h : k < (upT l k (sT m)).length), (upT l k (sT m)).set k (sT n (upT l k (sT m))[k]) = upT l k (sT n) := fun m n h => by
      rw [hgt]; simp only [hup, List.set_set]; rfl
    have hnm : ∀ m, ∀ t ∈ upT l k (sT m), t.nm.size ≤ maxLen := fun m t ht => by
      rw [hup] at ht
      rcases List.mem_or_eq_of_mem_set ht with h | h
      · exact hl t h
      · subst h; exact (hl l[k] (List.getElem_mem f3) : _)
    have hls := least_ac GL 23 rfl [.key 1000007, .key 1000003] rfl (os := fun (m : Int) => ps1 k (upT l k (sT m))) (fun m => by
        rw [(ps_up k _).2]; exact (ps_dn k _).2) (fun _ n => n) (fun n => testsB (upT l k (sT n))) 1 l[k].t (by unfold ok64; omega) (by unfold ok64; omega) (fun m n _ _ => by
        have := fineT_ac k (upT l k (sT m)) (by rw [hlen]; exact f3) n (hnm m) (by rw [hlen]; exact hn)
        rw [hss] at this
        rw [(ps_up k _).2]
        exact AC.mono this (fun r o e => ⟨e.1, e.2.trans (ps_up k _).2.symm⟩)) (fun _ _ => True) (fun _ _ _ _ _ _ => trivial) l[k].t trivial
    rw [h00] at hls
    repeat refine w1 (k := ?_)
    refine callRowN (hc := by exact clone_ac _ l (by omega) ) (hso := by exact  tkP_ok _ _) (h := ?_)
    refine nrm (k := ?_)
    repeat refine w1 (k := ?_)
    refine OpTo.weak (Le.toC 7 24 [.s (.slice none 0 0)] rfl) ?_
    refine nrm (k := ?_)
    refine OpTo.stC (ys := [.own 17 7 l.length]) rfl rfl rfl rfl rfl (by kernel_rfl) (Nat.le_refl _) ?_
    refine nrm (k := ?_)
    repeat refine w1 (k := ?_)
    refine OpTo.callR [] hls (by exact (ps_up k l).1) (by rfl) (by rfl) (by rfl) (by rfl) (by rfl) ?_
    rintro r os' ⟨rfl, _, m, _, _, rfl⟩
    rw [(ps_dn k _).1]
    generalize upT l k (sT m) = l2
    unfold ps0
    simp only [lend, Ob.up, AV.up, TV.up, CV.up, Cap.up, Nat.reduceAdd, dnO, kdn, look, lookB, Ob.dn, AV.dn, TV.dn, CV.dn, capDn, List.map, Nat.reduceLeDiff, Nat.reduceSub, if_true, if_false, ite_true, ite_false, Option.map_some]
    refine nrm (k := ?_)
    repeat refine w1 (k := ?_)
    rw [h0]
    exact ⟨[.c _, .c _], .cons (.tmp rfl) (.cons (.tmp rfl) .nil), rfl⟩
