/- MarksPlays. -/
import Derived.Test.YtjfpddgldfaahaaDoorM15
import Derived.Test.YtjfpddgldfaahaaDoorM12
set_option linter.all false
set_option maxHeartbeats 8000000
namespace Go.Proofs.Vl
open Go Go.RowKit
attribute [local irreducible] AWp OpTo Run DL Val UN DR AC Le thn inb nog
attribute [local irreducible] els nxO boolsP
structure Deed where
  k : Int
  n : Int
  raw : Bool
  l : List Int
def deedP (a : Deed) : List PV := [.s (.int .i64 a.k), .s (.int .i64 a.n), .s (.bool a.raw), .fro (a.l.map (pvI .i64))]
structure DeedOk (a : Deed) : Prop where
  k : (Lit.int .i64 a.k).wf = true
  n : (Lit.int .i64 a.n).wf = true
  l : a.l.length ≤ maxLen
theorem opDeed : Opens Tryd.prog 52 deedP DeedOk :=
  Opens.iso (Opens.struct (l := [(3, 1), (3, 1), (4, 1), (22, 1)]) Tryd.underlying52 (by kernel_rfl) (by kernel_rfl)
    (OpensFs.cons (Opens.int Tryd.underlying3) (OpensFs.cons (Opens.int Tryd.underlying3) (OpensFs.cons (Opens.bool Tryd.underlying4) (OpensFs.cons (Opens.slice (sz := 1) Tryd.underlying22 (by kernel_rfl) (fun _ => rfl) (by decide) (Opens.int Tryd.underlying3)) OpensFs.nil)))))
    (fun p => ⟨p.1, p.2.1, p.2.2.1, p.2.2.2.1⟩) (fun a _ => rfl) (fun a h => ⟨h.1, h.2.1, h.2.2.2.1.1⟩)
theorem foldW_bit (l : List Int) (s j : Nat) : (l.foldl wth s).testBit j = (s.testBit j || l.any fun n => inB n && decide (n.toNat = j)) := by
  induction l generalizing s with
  | nil => simp
  | cons a l ih => rw [List.foldl_cons, ih, wth_bit, List.any_cons, Bool.or_assoc]
theorem wout_bit (s : Nat) (n : Int) (j : Nat) : (wout s n).testBit j = (s.testBit j && !(inB n && decide (n.toNat = j))) := by
  unfold wout
  cases h : inB n with
  | true => rw [if_pos rfl, andN_bit, Nat.testBit_two_pow]; rfl
  | false => simp
theorem foldO_bit (l : List Int) (s j : Nat) : (l.foldl wout s).testBit j = (s.testBit j && !(l.any fun n => inB n && decide (n.toNat = j))) := by
  induction l generalizing s with
  | nil => simp
  | cons a l ih => rw [List.foldl_cons, ih, wout_bit, List.any_cons, Bool.not_or, Bool.and_assoc]
theorem or_fold (s : Nat) (l : List Int) : s ||| ofL l = l.foldl wth s := Nat.eq_of_testBit_eq fun j => by rw [Nat.testBit_or, ofL_bit, foldW_bit]
theorem out_fold (s : Nat) (l : List Int) : andN s (ofL l) = l.foldl wout s := Nat.eq_of_testBit_eq fun j => by rw [andN_bit, ofL_bit, foldO_bit]
def cutM (s i : Nat) : Nat := andN s (2 ^ i - 1)
theorem cutM_0 (s : Nat) : cutM s 0 = s := by unfold cutM; simp [andN_zero]
theorem cutM_bit (s i j : Nat) : (cutM s i).testBit j = (s.testBit j && !decide (j < i)) := by unfold cutM; rw [andN_bit, Nat.testBit_two_pow_sub_one]
theorem cutM_step (s i : Nat) (h : i < 1024) : wout (cutM s i) (i : Int) = cutM s (i + 1) := by
  refine Nat.eq_of_testBit_eq fun j => ?_
  have hb : inB (i : Int) = true := by simp [inB]; omega
  rw [wout_bit, cutM_bit, cutM_bit, hb, Int.toNat_natCast]
  by_cases h1 : i = j
  · subst h1; simp
  · by_cases h2 : j < i
    · have : j < i + 1 := by omega
      simp [h1, h2, this]
    · have : ¬ j < i + 1 := by omega
      simp [h1, h2, this]
theorem cutM_lt {s : Nat} (i : Nat) (h : s < TOP) : cutM s i < TOP := andN_lt _ h
theorem cutM_eq (s b : Nat) : andN s (2 ^ b - 1) = cutM s b := rfl
attribute [local irreducible] cutM
theorem belN_iff (n : Int) (j : Nat) : j < belN n ↔ (j : Int) < n ∧ j < 1024 := by unfold belN; omega
theorem foldW_lt {s : Nat} (h : s < TOP) (l : List Int) : l.foldl wth s < TOP := by rw [← or_fold]; exact or_lt h (ofL_lt l)
theorem foldO_lt {s : Nat} (h : s < TOP) (l : List Int) : l.foldl wout s < TOP := by rw [← out_fold]; exact andN_lt _ h
theorem fold_step {f : Nat → Int → Nat} (s : Nat) (l : List Int) (i : Nat) (h : i < l.length) : f ((l.take i).foldl f s) l[i] = (l.take (i + 1)).foldl f s := by
  rw [List.take_succ_eq_append_getElem h, List.foldl_append]; rfl
theorem lowN_lt {b N : Nat} (h : b ≤ N) : 2 ^ b - 1 < bigN N := by
  unfold bigN
  have := Nat.pow_le_pow_right (show 0 < 2 by decide) h
  have := Nat.two_pow_pos b
  omega
theorem low_lt (n : Int) : 2 ^ belN n - 1 < TOP := lowN_lt (belN_le n)
set_option maxRecDepth 20000 in
theorem marksPlays_ac (l : List Deed) (hl : l.length ≤ maxLen) (hk : ∀ a ∈ l, DeedOk a) : AC Tryd.prog GL 8 [.c (.p (.fro (l.map deedP)))] [] (fun r _ => r = vb true) := by
  refine AC.body' Tryd.func8 Tryd.ntmps8 rfl ?_
  intro cx hd hG
  refine nrmL (k := ?_)
  repeat refine w1 (k := ?_)
  obtain ⟨w0, fz0, β0, df, G0⟩ := cx
  obtain rfl : G0 = GL := hG
  have hl2 := hl
  rw [maxLen] at hl2
  refine callN (hc := by exact awake_ac) (h := ?_)
  repeat refine w1 (k := ?_)
  first | refine ofN (hv := by exact Val.build0) (h := ?_) | refine dlN (hv := by exact Val.build0) (h := ?_) | refine dlgN (hv := by exact Val.build0) (h := ?_) | refine ofN (hv := by exact Val.build0) (h := ?_)
  iterate 9 refine w1 (k := ?_)
  first | refine ofN (hv := by exact Val.build50) (h := ?_) | refine dlN (hv := by exact Val.build50) (h := ?_) | refine dlgN (hv := by exact Val.build50) (h := ?_) | refine ofN (hv := by exact Val.build50) (h := ?_)
  repeat refine w1 (k := ?_)
  refine loopN [(2, 1), (7, 7), (18, 102)] (α := Nat × Nat) (fun x => [(6, vi (x.1 : Int))]) (fun x => [(4, .pcells 26 (setP x.2)), (17, .pcells 50 (boolsP x.2))]) (fun x => 20 - x.1) (fun x => x.1 ≤ l.length ∧ x.2 < TOP) (x0 := (0, 0)) (h0 := by exact ⟨by omega, bigN_pos 1024⟩) (hr := ?_)
  intro x hI
  refine nrmL (k := ?_)
  obtain ⟨i, s⟩ := x
  obtain ⟨hi, hs⟩ := hI
  dsimp only at hi hs ⊢
  repeat refine w1 (k := ?_)
  first | refine bothTN (h1 := fun h => ?_) (h0 := fun h => ?_) | refine bothFN (h1 := fun h => ?_) (h0 := fun h => ?_)
  all_goals repeat refine w1 (k := ?_)
  ·
    refine condN (h1 := fun h4 => ?_) (h0 := fun h4 => ?_)
    ·
      have hj : i < l.length := by omega
      obtain ⟨hk1, hk2, hk3⟩ := hk _ (List.getElem_mem hj)
      repeat refine w1 (k := ?_)
      rw [and1023]
      refine cutNN [(34, 1), (36, 3)] (α := Int) (fun n => [(8, vi n)]) (fun n => [(4, .pcells 26 (setP s)), (17, .pcells 50 (boolsP s)), (7, .pcells 52 (deedP l[i]))]) (fun n => ok64 n) ?_ (fun n hI => ?_)
      ·
        have e1 := wfi hk2
        refine condN (h1 := fun h5 => ?_) (h0 := fun h5 => ?_)
        ·
          repeat refine w1 (k := ?_)
          refine ⟨l[i].n, by exact e1, frg⟩
        ·
          repeat refine w1 (k := ?_)
          refine ⟨l[i].n % 1024, by exact ⟨by omega, by omega⟩, frg⟩
      ·
        obtain ⟨hn1, hn2⟩ := hI
        refine nrmL (k := ?_)
        repeat refine w1 (k := ?_)
        refine callRowN (hc := by exact some_ac _ l[i].l hk3 ) (hso := by exact  pvI_ok _) (h := ?_)
        repeat refine w1 (k := ?_)
        first | refine zA 41 (h := ?_) | refine zO 41 (h := ?_) | refine zL 41 (h := ?_) | refine zL3 41 (h := ?_)
        repeat refine w1 (k := ?_)
        have hsl := someL_len l[i].l
        generalize someL l[i].l = m at *
        refine cutIN [(2, 1), (7, 7), (18, 102)] (α := Nat) (fun t => []) (fun t => [(4, .pcells 26 (setP t)), (17, .pcells 50 (boolsP t))]) (fun t => t < TOP) ?_ (fun t hI => ?_)
        ·
          refine condN (h1 := fun k0 => ?_) (h0 := fun k0 => ?_)
          ·
            repeat refine w1 (k := ?_)
            refine callN (hc := by exact with_ac _ s n) (h := ?_)
            repeat refine w1 (k := ?_)
            repeat refine w1 (k := ?_)
            refine OpTo.callR [] (put_ac _ s n true 1000017 _ (by rfl)) rfl (by rfl) (by rfl) (by rfl) rfl (by rfl) ?_
            rintro r os' ⟨rfl, rfl⟩
            dsimp only [lend, Ob.up, upd, Nat.reduceAdd, Nat.reduceBEq, cond_true, cond_false, AV.up, TV.up, CV.up, List.map]
            simp only [dnO, kdn, look, lookB, Ob.dn, AV.dn, TV.dn, CV.dn, capDn, List.map, Nat.reduceLeDiff, Nat.reduceSub, if_true, if_false, ite_true, ite_false, Option.map_some]
            refine nrm (k := ?_)
            rw [putN_wth]
            repeat refine w1 (k := ?_)
            refine ⟨wth s n, by exact wth_lt hs, frg⟩
          ·
            repeat refine w1 (k := ?_)
            refine condN (h1 := fun k1 => ?_) (h0 := fun k1 => ?_)
            ·
              repeat refine w1 (k := ?_)
              refine callN (hc := by exact without_ac _ s n) (h := ?_)
              repeat refine w1 (k := ?_)
              repeat refine w1 (k := ?_)
              refine OpTo.callR [] (put_ac _ s n false 1000017 _ (by rfl)) rfl (by rfl) (by rfl) (by rfl) rfl (by rfl) ?_
              rintro r os' ⟨rfl, rfl⟩
              dsimp only [lend, Ob.up, upd, Nat.reduceAdd, Nat.reduceBEq, cond_true, cond_false, AV.up, TV.up, CV.up, List.map]
              simp only [dnO, kdn, look, lookB, Ob.dn, AV.dn, TV.dn, CV.dn, capDn, List.map, Nat.reduceLeDiff, Nat.reduceSub, if_true, if_false, ite_true, ite_false, Option.map_some]
              refine nrm (k := ?_)
              rw [putN_wout]
              repeat refine w1 (k := ?_)
              refine ⟨wout s n, by exact wout_lt hs, frg⟩
            ·
              repeat refine w1 (k := ?_)
              refine condN (h1 := fun k2 => ?_) (h0 := fun k2 => ?_)
              ·
                repeat refine w1 (k := ?_)
                refine callN (hc := by exact of_ac _ m (by omega)) (h := ?_)
                repeat refine w1 (k := ?_)
                refine callN (hc := by exact or_ac _ s (ofL m) (ofL_lt m)) (h := ?_)
                repeat refine w1 (k := ?_)
                repeat refine w1 (k := ?_)
                rw [or_fold]
                refine loopN [(85, 12)] (α := Nat) (fun j => [(10, vi (j : Int))]) (fun j => [(4, .pcells 26 (setP (m.foldl wth s))), (17, .pcells 50 (boolsP ((m.take j).foldl wth s)))]) (fun j => m.length - j) (fun j => j ≤ m.length) (x0 := 0) (h0 := by first | omega | simp | (refine ⟨?_, ?_⟩ <;> first | omega | simp)) (hr := ?_)
                intro j hI
                refine nrmL (k := ?_)
                repeat refine w1 (k := ?_)
                refine condN (h1 := fun h6 => ?_) (h0 := fun h6 => ?_)
                ·
                  have hj2 : j < m.length := by omega
                  repeat refine w1 (k := ?_)
                  refine OpTo.callR [] (put_ac _ ((m.take j).foldl wth s) m[j] true 1000017 _ (by rfl)) rfl (by rfl) (by rfl) (by rfl) rfl (by rfl) ?_
                  rintro r os' ⟨rfl, rfl⟩
                  dsimp only [lend, Ob.up, upd, Nat.reduceAdd, Nat.reduceBEq, cond_true, cond_false, AV.up, TV.up, CV.up, List.map]
                  simp only [dnO, kdn, look, lookB, Ob.dn, AV.dn, TV.dn, CV.dn, capDn, List.map, Nat.reduceLeDiff, Nat.reduceSub, if_true, if_false, ite_true, ite_false, Option.map_some]
                  refine nrm (k := ?_)
                  rw [putN_wth, fold_step (f := wth) s m j hj2]
                  repeat refine w1 (k := ?_)
                  refine ⟨j + 1, by omega, by first | omega | (refine ⟨?_, ?_⟩ <;> omega), frg⟩
                ·
                  repeat refine w1 (k := ?_)
                  have : j = m.length := by omega
                  subst this
                  rw [List.take_length]
                  refine ⟨m.foldl wth s, by exact foldW_lt hs m, frg⟩
              ·
                repeat refine w1 (k := ?_)
                refine condN (h1 := fun k3 => ?_) (h0 := fun k3 => ?_)
                ·
                  repeat refine w1 (k := ?_)
                  refine callN (hc := by exact of_ac _ m (by omega)) (h := ?_)
                  repeat refine w1 (k := ?_)
                  refine callN (hc := by exact minus_ac _ s (ofL m) (ofL_lt m)) (h := ?_)
                  repeat refine w1 (k := ?_)
                  repeat refine w1 (k := ?_)
                  rw [out_fold]
                  refine loopN [(103, 12)] (α := Nat) (fun j => [(11, vi (j : Int))]) (fun j => [(4, .pcells 26 (setP (m.foldl wout s))), (17, .pcells 50 (boolsP ((m.take j).foldl wout s)))]) (fun j => m.length - j) (fun j => j ≤ m.length) (x0 := 0) (h0 := by first | omega | simp | (refine ⟨?_, ?_⟩ <;> first | omega | simp)) (hr := ?_)
                  intro j hI
                  refine nrmL (k := ?_)
                  repeat refine w1 (k := ?_)
                  refine condN (h1 := fun h6 => ?_) (h0 := fun h6 => ?_)
                  ·
                    have hj2 : j < m.length := by omega
                    repeat refine w1 (k := ?_)
                    refine OpTo.callR [] (put_ac _ ((m.take j).foldl wout s) m[j] false 1000017 _ (by rfl)) rfl (by rfl) (by rfl) (by rfl) rfl (by rfl) ?_
                    rintro r os' ⟨rfl, rfl⟩
                    dsimp only [lend, Ob.up, upd, Nat.reduceAdd, Nat.reduceBEq, cond_true, cond_false, AV.up, TV.up, CV.up, List.map]
                    simp only [dnO, kdn, look, lookB, Ob.dn, AV.dn, TV.dn, CV.dn, capDn, List.map, Nat.reduceLeDiff, Nat.reduceSub, if_true, if_false, ite_true, ite_false, Option.map_some]
                    refine nrm (k := ?_)
                    rw [putN_wout, fold_step (f := wout) s m j hj2]
                    repeat refine w1 (k := ?_)
                    refine ⟨j + 1, by omega, by first | omega | (refine ⟨?_, ?_⟩ <;> omega), frg⟩
                  ·
                    repeat refine w1 (k := ?_)
                    have : j = m.length := by omega
                    subst this
                    rw [List.take_length]
                    refine ⟨m.foldl wout s, by exact foldO_lt hs m, frg⟩
                ·
                  repeat refine w1 (k := ?_)
                  refine callN (hc := by exact below_ac _ n) (h := ?_)
                  repeat refine w1 (k := ?_)
                  refine callN (hc := by exact minus_ac _ s (2 ^ belN n - 1) (low_lt n)) (h := ?_)
                  repeat refine w1 (k := ?_)
                  repeat refine w1 (k := ?_)
                  rw [cutM_eq]
                  have hb := belN_iff n
                  have hble := belN_le n
                  generalize belN n = b at *
                  rw [show (AV.c (CV.p (PV.s (Value.int IntKind.i64 0)))) = vi (nI 0) by rw [nI_0], show boolsP s = boolsP (cutM s 0) by rw [cutM_0]]
                  refine loopN [(51, 12)] (α := Nat) (fun j => [(12, vi (nI j))]) (fun j => [(4, .pcells 26 (setP (cutM s b))), (17, .pcells 50 (boolsP (cutM s j)))]) (fun j => b - j) (fun j => j ≤ b) (x0 := 0) (h0 := by first | omega | simp | (refine ⟨?_, ?_⟩ <;> first | omega | simp)) (hr := ?_)
                  intro j hI
                  refine nrmL (k := ?_)
                  have en := nI_eq j
                  have hbj := hb j
                  repeat refine w1 (k := ?_)
                  first | refine bothTN (h1 := fun h6 => ?_) (h0 := fun h6 => ?_) | refine bothFN (h1 := fun h6 => ?_) (h0 := fun h6 => ?_)
                  all_goals repeat refine w1 (k := ?_)
                  ·
                    refine condN (h1 := fun h7 => ?_) (h0 := fun h7 => ?_)
                    ·
                      have hj2 : j < b := by omega
                      have hj3 : j < 1024 := by omega
                      repeat refine w1 (k := ?_)
                      rw [en]
                      refine OpTo.callR [] (put_ac _ (cutM s j) (j : Int) false 1000017 _ (by rfl)) rfl (by rfl) (by rfl) (by rfl) rfl (by rfl) ?_
                      rintro r os' ⟨rfl, rfl⟩
                      dsimp only [lend, Ob.up, upd, Nat.reduceAdd, Nat.reduceBEq, cond_true, cond_false, AV.up, TV.up, CV.up, List.map]
                      simp only [dnO, kdn, look, lookB, Ob.dn, AV.dn, TV.dn, CV.dn, capDn, List.map, Nat.reduceLeDiff, Nat.reduceSub, if_true, if_false, ite_true, ite_false, Option.map_some]
                      refine nrm (k := ?_)
                      rw [putN_wout, cutM_step s j hj3]
                      repeat refine w1 (k := ?_)
                      rw [nI_succ]
                      refine ⟨j + 1, by omega, by first | omega | (refine ⟨?_, ?_⟩ <;> omega), frg⟩
                    ·
                      repeat refine w1 (k := ?_)
                      have : j = b := by omega
                      subst this
                      refine ⟨cutM s j, by exact cutM_lt j hs, frg⟩
                  ·
                    repeat refine w1 (k := ?_)
                    have : j = b := by omega
                    subst this
                    refine ⟨cutM s j, by exact cutM_lt j hs, frg⟩
        ·
          refine nrmL (k := ?_)
          repeat refine w1 (k := ?_)
          refine callEN (hc := by exact looks_ac t hI) (h := ?_)
          refine nrm (k := ?_)
          repeat refine w1 (k := ?_)
          refine ⟨(i + 1, t), by omega, by exact ⟨by omega, hI⟩, frg⟩
    ·
      repeat refine w1 (k := ?_)
      exact ⟨[.c _], .cons (.tmp rfl) .nil, rfl⟩
  ·
    repeat refine w1 (k := ?_)
    exact ⟨[.c _], .cons (.tmp rfl) .nil, rfl⟩
