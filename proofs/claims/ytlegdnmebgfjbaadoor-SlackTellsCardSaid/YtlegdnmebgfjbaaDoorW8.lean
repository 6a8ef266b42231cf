/- Chapter 22: Work, Section, Late, Period. -/
import Derived.Test.YtlegdnmebgfjbaaDoorW7
set_option linter.all false
set_option maxRecDepth 2000
set_option maxHeartbeats 8000000
namespace Go.Proofs.Vl
open Go Go.RowKit
attribute [local irreducible] AWp OpTo Run DL Val UN DR AC Le thn inb nog
theorem set_len14 (l : List Tk) (k : Nat) (t : Tk) : (l.set k t).length = l.length := List.length_set
theorem most_ac (fs : Nat) (hfs : isFn Tryd.prog fs = true) (g : Int → Tk → Tk) (hg : ∀ n t, (g n t).nm = t.nm) (hgg : ∀ m n t, g n (g m t) = g n t) (hset : Sets fs g) (l : List Tk) (i lo hi : Int) (hlo : isB l i = true → ∀ (h : i.toNat < l.length), g lo l[i.toNat] = l[i.toNat]) (h1 : isB l i = true → ok64 lo) (h2 : isB l i = true → ok64 hi) (hmn : isB l i = true → -1000 ≤ lo)
    (hl : ∀ t ∈ l, t.nm.size ≤ maxLen) (hn : l.length ≤ maxLen) : AC Tryd.prog GL 19 [fro tkP l, vi i, vi lo, vi hi, .c (.fn fs [])] [] (fun r _ => r = .tup [ti (msN l i lo hi g), ti (mayE l i)]) := by
  refine AC.body' Tryd.func19 Tryd.ntmps19 rfl ?_
  intro cx hd hG
  refine nrmL (k := ?_)
  repeat refine w1 (k := ?_)
  obtain ⟨w0, fz0, β0, df, G0⟩ := cx
  obtain rfl : G0 = GL := hG
  refine callN (hc := by exact may_ac l i hl hn) (h := ?_)
  repeat refine w1 (k := ?_)
  refine condN (h1 := fun h0 => ?_) (h0 := fun h0 => ?_)
  ·
    repeat refine w1 (k := ?_)
    rw [show msN l i lo hi g = 0 by unfold msN; rw [if_neg h0]]
    exact ⟨[.c _, .c _], .cons (.tmp rfl) (.cons (.tmp rfl) .nil), rfl⟩
  ·
    have hb : isB l i = true := by
      cases hb : isB l i with
      | true => rfl
      | false => unfold mayE at h0; rw [hb] at h0; cases h0
    rw [show msN l i lo hi g = if leB (msO l i.toNat g) lo hi then leN (msO l i.toNat g) lo hi - 1 else hi by unfold msN; rw [if_pos h0]]
    obtain ⟨f1, f2, k, rfl, f3⟩ := is_spec hb
    have hlo := hlo hb (by rw [Int.toNat_natCast]; exact f3)
    simp only [Int.toNat_natCast] at hlo ⊢
    have h1 := h1 hb
    have h2 := h2 hb
    have hmn := hmn hb
    have hup : ∀ m, upT l k (g m) = l.set k (g m l[k]) := fun m => upT_at f3 _
    have h00 : upT l k (g lo) = l := by rw [hup, hlo]; exact List.set_getElem_self f3
    have hlen : ∀ m, (upT l k (g m)).length = l.length := fun m => by rw [hup, List.length_set]
    have hgt : ∀ m (h : k < (upT l k (g m)).length), (upT l k (g m))[k] = g m l[k] := fun m h => by simp only [hup, List.getElem_set_self]
    have hss : ∀ m n (h : k < (upT l k (g m)).length), (upT l k (g m)).set k (g n (upT l k (g m))[k]) = upT l k (g n) := fun m n h => by
      rw [hgt, hgg]; simp only [hup, List.set_set]
    have hnm : ∀ m, ∀ t ∈ upT l k (g m), t.nm.size ≤ maxLen := fun m t ht => by
      rw [hup] at ht
      rcases List.mem_or_eq_of_mem_set ht with h | h
      · exact hl t h
      · subst h; rw [hg]; exact hl _ (List.getElem_mem f3)
    have hls := least_ac GL 31 rfl [.key 1000014] rfl (os := fun (m : Int) => os1 fs k (upT l k (g m))) (fun m => by
        rw [(os_up fs k _).2.1]; exact (os_dn fs k _).2.1) (fun _ n => n) (msO l k g) lo hi h1 h2 (fun m n _ _ => by
        have := notfine_ac fs hfs g hg hset k (upT l k (g m)) (by rw [hlen]; exact f3) n (hnm m) (by rw [hlen]; exact hn)
        rw [hss] at this
        rw [(os_up fs k _).2.1]
        exact AC.mono this (fun r o e => ⟨e.1, e.2.trans (os_up fs k _).2.1.symm⟩)) (fun _ _ => True) (fun _ _ _ _ _ _ => trivial) lo trivial
    rw [h00] at hls
    repeat refine w1 (k := ?_)
    refine callRowN (hc := by exact clone_ac _ l (by omega) ) (hso := by exact  tkP_ok _ _) (h := ?_)
    refine nrm (k := ?_)
    repeat refine w1 (k := ?_)
    refine OpTo.weak (Le.toC 13 24 [.s (.slice none 0 0)] rfl) ?_
    refine nrm (k := ?_)
    refine OpTo.stC (ys := [.own 24 7 l.length]) rfl rfl rfl rfl rfl (by kernel_rfl) (Nat.le_refl _) ?_
    refine nrm (k := ?_)
    repeat refine w1 (k := ?_)
    refine OpTo.callR [] hls (by exact (os_up fs k l).1) (by rfl) (by rfl) (by rfl) (by rfl) (by rfl) ?_
    rintro r os' ⟨rfl, _, m, _, _, rfl⟩
    rw [(os_dn fs k _).1]
    generalize upT l k (g m) = l2
    unfold os0
    simp only [lend, Ob.up, AV.up, TV.up, CV.up, Cap.up, Nat.reduceAdd, dnO, kdn, look, lookB, Ob.dn, AV.dn, TV.dn, CV.dn, capDn, List.map, Nat.reduceLeDiff, Nat.reduceSub, if_true, if_false, ite_true, ite_false, Option.map_some]
    refine nrm (k := ?_)
    repeat refine w1 (k := ?_)
    cases hB : leB (msO l k g) lo hi with
    | false =>
      rw [Bool.not_false]
      repeat refine w1 (k := ?_)
      rw [h0]
      exact ⟨[.c _, .c _], .cons (.tmp rfl) (.cons (.tmp rfl) .nil), rfl⟩
    | true =>
      rw [Bool.not_true]
      have hle : lo ≤ hi ∧ msO l k g hi = true := by
        unfold leB at hB
        simpa using hB
      have hsp := lsF_spec (msO l k g) lo 64 lo hi hle.1 (by unfold ok64 at h1 h2; omega) hle.2 (.inl rfl) (Int.le_refl _)
      have hln : leN (msO l k g) lo hi = lsF (msO l k g) 64 lo hi := by unfold leN; rw [if_pos hle]
      rw [← hln] at hsp
      have hbb : -1000 ≤ leN (msO l k g) lo hi ∧ leN (msO l k g) lo hi < 9223372036854775808 := by unfold ok64 at h2; omega
      repeat refine w1 (k := ?_)
      rw [if_pos rfl, h0]
      exact ⟨[.c _, .c _], .cons (.tmp rfl) (.cons (.tmp rfl) .nil), rfl⟩
