/- Where more is needed: the iterator. -/
import Derived.Test.YtacgfbdeobmiaaaDoorD22
set_option linter.all false
set_option maxRecDepth 2000
set_option maxHeartbeats 8000000
namespace Go.Proofs.Vl
open Go Go.RowKit
attribute [local irreducible] AWp OpTo Run DL Val UN DR AC Le thn inb nog
attribute [local irreducible] els nxO
def stF : Nat := 31
theorem steps_ac (G) (s : List Tk) (i : Int) (most : Nat) : AC Tryd.prog G 18 [fro tkP s, vi i, vn most] [] (fun r _ => r = .c (.fn stF [.fz [.fro (s.map tkP)], .fz [.s (.int .i64 i)], .fz [.s (.int .u64 (most : Int))]])) := by
  refine AC.body' Tryd.func18 Tryd.ntmps18 rfl ?_
  intro cx hd hG
  refine nrmL (k := ?_)
  first | ((iterate 3 (refine w1 (k := ?_))); (first | refine zbA 3 (h := ?_) | refine zbO 3 (h := ?_)); (first | refine zbA 4 (h := ?_) | refine zbO 4 (h := ?_)); (first | refine zbA 5 (h := ?_) | refine zbO 5 (h := ?_)); (repeat (refine w1 (k := ?_))); exact ⟨[.c _], .cons (.tmp rfl) .nil, rfl⟩) | ((iterate 4 (refine w1 (k := ?_))); (first | refine zbA 3 (h := ?_) | refine zbO 3 (h := ?_)); (first | refine zbA 4 (h := ?_) | refine zbO 4 (h := ?_)); (first | refine zbA 5 (h := ?_) | refine zbO 5 (h := ?_)); (repeat (refine w1 (k := ?_))); exact ⟨[.c _], .cons (.tmp rfl) .nil, rfl⟩) | ((iterate 5 (refine w1 (k := ?_))); (first | refine zbA 3 (h := ?_) | refine zbO 3 (h := ?_)); (first | refine zbA 4 (h := ?_) | refine zbO 4 (h := ?_)); (first | refine zbA 5 (h := ?_) | refine zbO 5 (h := ?_)); (repeat (refine w1 (k := ?_))); exact ⟨[.c _], .cons (.tmp rfl) .nil, rfl⟩) | ((iterate 6 (refine w1 (k := ?_))); (first | refine zbA 3 (h := ?_) | refine zbO 3 (h := ?_)); (first | refine zbA 4 (h := ?_) | refine zbO 4 (h := ?_)); (first | refine zbA 5 (h := ?_) | refine zbO 5 (h := ?_)); (repeat (refine w1 (k := ?_))); exact ⟨[.c _], .cons (.tmp rfl) .nil, rfl⟩) | ((iterate 7 (refine w1 (k := ?_))); (first | refine zbA 3 (h := ?_) | refine zbO 3 (h := ?_)); (first | refine zbA 4 (h := ?_) | refine zbO 4 (h := ?_)); (first | refine zbA 5 (h := ?_) | refine zbO 5 (h := ?_)); (repeat (refine w1 (k := ?_))); exact ⟨[.c _], .cons (.tmp rfl) .nil, rfl⟩) | ((iterate 8 (refine w1 (k := ?_))); (first | refine zbA 3 (h := ?_) | refine zbO 3 (h := ?_)); (first | refine zbA 4 (h := ?_) | refine zbO 4 (h := ?_)); (first | refine zbA 5 (h := ?_) | refine zbO 5 (h := ?_)); (repeat (refine w1 (k := ?_))); exact ⟨[.c _], .cons (.tmp rfl) .nil, rfl⟩) | ((iterate 9 (refine w1 (k := ?_))); (first | refine zbA 3 (h := ?_) | refine zbO 3 (h := ?_)); (first | refine zbA 4 (h := ?_) | refine zbO 4 (h := ?_)); (first | refine zbA 5 (h := ?_) | refine zbO 5 (h := ?_)); (repeat (refine w1 (k := ?_))); exact ⟨[.c _], .cons (.tmp rfl) .nil, rfl⟩) | ((iterate 10 (refine w1 (k := ?_))); (first | refine zbA 3 (h := ?_) | refine zbO 3 (h := ?_)); (first | refine zbA 4 (h := ?_) | refine zbO 4 (h := ?_)); (first | refine zbA 5 (h := ?_) | refine zbO 5 (h := ?_)); (repeat (refine w1 (k := ?_))); exact ⟨[.c _], .cons (.tmp rfl) .nil, rfl⟩) | ((iterate 11 (refine w1 (k := ?_))); (first | refine zbA 3 (h := ?_) | refine zbO 3 (h := ?_)); (first | refine zbA 4 (h := ?_) | refine zbO 4 (h := ?_)); (first | refine zbA 5 (h := ?_) | refine zbO 5 (h := ?_)); (repeat (refine w1 (k := ?_))); exact ⟨[.c _], .cons (.tmp rfl) .nil, rfl⟩) | ((iterate 12 (refine w1 (k := ?_))); (first | refine zbA 3 (h := ?_) | refine zbO 3 (h := ?_)); (first | refine zbA 4 (h := ?_) | refine zbO 4 (h := ?_)); (first | refine zbA 5 (h := ?_) | refine zbO 5 (h := ?_)); (repeat (refine w1 (k := ?_))); exact ⟨[.c _], .cons (.tmp rfl) .nil, rfl⟩) | ((iterate 13 (refine w1 (k := ?_))); (first | refine zbA 3 (h := ?_) | refine zbO 3 (h := ?_)); (first | refine zbA 4 (h := ?_) | refine zbO 4 (h := ?_)); (first | refine zbA 5 (h := ?_) | refine zbO 5 (h := ?_)); (repeat (refine w1 (k := ?_))); exact ⟨[.c _], .cons (.tmp rfl) .nil, rfl⟩) | ((iterate 14 (refine w1 (k := ?_))); (first | refine zbA 3 (h := ?_) | refine zbO 3 (h := ?_)); (first | refine zbA 4 (h := ?_) | refine zbO 4 (h := ?_)); (first | refine zbA 5 (h := ?_) | refine zbO 5 (h := ?_)); (repeat (refine w1 (k := ?_))); exact ⟨[.c _], .cons (.tmp rfl) .nil, rfl⟩) | ((iterate 15 (refine w1 (k := ?_))); (first | refine zbA 3 (h := ?_) | refine zbO 3 (h := ?_)); (first | refine zbA 4 (h := ?_) | refine zbO 4 (h := ?_)); (first | refine zbA 5 (h := ?_) | refine zbO 5 (h := ?_)); (repeat (refine w1 (k := ?_))); exact ⟨[.c _], .cons (.tmp rfl) .nil, rfl⟩)
def yW (l : List Nat) : List YV := l.map fun (m : Nat) => ⟨[vn m], none⟩
theorem yW_len (l : List Nat) : (yW l).length = l.length := by simp [yW]
theorem yW_at {l : List Nat} {i m : Nat} (h : l[i]? = some m) : (yW l)[i]? = some ⟨[vn m], none⟩ := by simp [yW, h]
theorem yW_get {l : List Nat} {i : Nat} {y : YV} (h : (yW l)[i]? = some y) : ∃ hi : i < l.length, y = ⟨[vn l[i]], none⟩ := by
  have hi : i < l.length := by have := (List.getElem?_eq_some_iff.1 h).1; rwa [yW_len] at this
  rw [yW_at (List.getElem?_eq_getElem hi)] at h
  exact ⟨hi, (Option.some.inj h).symm⟩
theorem stepM_b {s : List Tk} (h : ∀ t ∈ s, Sml t) {w : Nat} (hw : w < 1000) : ∀ (ks : List Nat) (a : Nat × Bool), a.1 < 2000 → (ks.foldl (atK s (stepM w)) a).1 < 2000
  | [], a, ha => ha
  | k :: ks, a, ha => by
    rw [List.foldl_cons]
    refine stepM_b h hw ks _ ?_
    unfold atK
    cases hk : s[k]? with
    | none => exact ha
    | some t =>
      dsimp only
      unfold stepM
      split
      · have := (nxt_ge (h t (List.mem_of_getElem? hk)) w).2
        dsimp only; omega
      · exact ha
theorem nxt_prog {t : Tk} (h : Sml t) {w : Nat} (hw : w < 1000) : oftN t w = ceilN (w + t.j.toNat) t.t.toNat ∧ satN (oftN t w * t.t.toNat) = ceilN (w + t.j.toNat) t.t.toNat * t.t.toNat ∧ t.j.toNat ≤ ceilN (w + t.j.toNat) t.t.toNat * t.t.toNat ∧ ceilN (w + t.j.toNat) t.t.toNat * t.t.toNat < 2000 := by
  obtain ⟨hc, ht, hd, hj, _, _⟩ := h
  have h1 := ceilN_ge (w + t.j.toNat) t.t.toNat (by omega)
  have h2 := ceilN_up (w + t.j.toNat) t.t.toNat (by omega)
  have e : oftN t w = ceilN (w + t.j.toNat) t.t.toNat := by unfold oftN; rw [show satN (w + t.j.toNat) = w + t.j.toNat by unfold satN; omega]
  rw [e]
  refine ⟨rfl, ?_, by omega, by omega⟩
  unfold satN; omega
theorem steps_it (s : List Tk) (i : Int) (most : Nat) (hm : most < 1000) (hs : ∀ t ∈ s, Sml t) (h6 : s.length ≤ 6) (hl : ∀ t ∈ s, t.nm.size ≤ maxLen) : IC Tryd.prog GL stF [.c (.eptr [.fro (s.map tkP)]), .c (.eptr [.s (.int .i64 i)]), .c (.eptr [.s (.int .u64 (most : Int))])] (yW (stpF s i (most + 1))) := by
  unfold IC
  refine GC.body Tryd.func31 Tryd.ntmps31 rfl (fun _ => rfl) ?_
  intro cx l J Jx hd hG hrd hml hbs hrr hR
  obtain ⟨w0, fz0, β0, df, G0, rd, rr, ml, bs⟩ := cx
  dsimp only at hd hG hrd hml hbs hrr hR
  subst hd hG hrd hml hbs hrr
  have hn : s.length ≤ maxLen := by rw [maxLen]; omega
  refine nrmL (k := ?_)
  repeat refine w1 (k := ?_)
  refine callN (hc := by exact is_ac _ s i hl hn) (h := ?_)
  repeat refine w1 (k := ?_)
  cases hb : isB s i with
  | false =>
    rw [Bool.not_false]
    repeat refine w1 (k := ?_)
    refine ⟨[], .nil, rfl, rfl, .inl ⟨trivial, ?_⟩⟩
    rw [yW_len, stp_none hb]; rfl
  | true =>
    rw [Bool.not_true]
    obtain ⟨f1, f2, k, rfl, f3⟩ := is_spec hb
    repeat refine w1 (k := ?_)
    refine callN (hc := by exact higher_ac _ s k f3 hn) (h := ?_)
    repeat refine w1 (k := ?_)
    repeat refine w1 (k := ?_)
    simp only [upd, beq_self_eq_true, show ((TK : Nat) == 5) = false from rfl, show ((TK : Nat) == 6) = false from rfl, show ((TK : Nat) == 7) = false from rfl, show ((TK : Nat) == 8) = false from rfl, Nat.reduceBEq, cond_false, cond_true]
    refine nrm (k := ?_)
    have h80 := stpF_len s (k : Int) (most + 1)
    have hel : ∀ a : Nat × Bool, ∀ w, (els (hiS s s[k].p)).foldl (atK s (stepM w)) a = s.foldl (fun a t => if decide (t.p < s[k].p) then stepM w a t else a) a := fun a w => fold_bits s _ _ _ f1
    have hat : ∀ {i : Nat} (hi : i < (els (hiS s s[k].p)).length), (els (hiS s s[k].p))[i] < s.length := fun hi => (bits_at f1 hi).1
    have hs1 : (stpF s (k : Int) 1).length = 0 := by
      have := stpF_len s (k : Int) 1
      have e : stpF s (k : Int) 1 = [] := List.filter_eq_nil_iff.2 fun v hv => by
        obtain rfl : v = 0 := by have := List.mem_range.1 hv; omega
        simp [stpB]
      rw [e]; rfl
    generalize hS : hiS s s[k].p = S at *
    rw [show (PV.s (Value.int IntKind.u64 0)) = PV.s (Value.int IntKind.u64 ((0 : Nat) : Int)) from rfl]
    refine loopN [(7, 2), (20, 3), (50, 16)] (α := Nat × Nat) (fun x => [(19, vi (x.1 : Int))]) (fun x => [(TK, .tok fz0 (J x.1)), (5, .pcells 24 [.s (.int .u64 (x.2 : Int))]), (6, .pcells 57 (setP S))]) (fun x => 2000 - x.1) (fun x => x.1 = (stpF s (k : Int) (x.2 + 1)).length ∧ x.2 ≤ most) (x0 := (0, 0)) (h0 := by exact ⟨hs1.symm, Nat.zero_le _⟩) (hr := ?_)
    intro x hI
    refine nrmL (k := ?_)
    obtain ⟨j, w⟩ := x
    obtain ⟨hI1, hI2⟩ := hI
    dsimp only at hI1 hI2
    have hj : j ≤ w + 1 := by have := stpF_len s (k : Int) (w + 1); omega
    repeat refine w1 (k := ?_)
    rw [show decide ((j : Int) < 4096) = true from decide_eq_true (by omega)]
    repeat refine w1 (k := ?_)
    refine callAN (hc := by exact mall_ac _ S) (h := ?_)
    refine nrm (k := ?_)
    repeat refine w1 (k := ?_)
    repeat refine w1 (k := ?_)
    have hr := step_round hs h6 f3 hb hI2 (by omega) (r := (els S).foldl (atK s (stepM w)) (0, false)) (hel _ _)
    refine AWp.rangeF (α := Nat) (fun n => [(5, .pcells 24 [.s (.int .u64 (w : Int))]), (6, .pcells 57 (setP S)), (7, .pcells 24 [.s (.int .u64 ((((els S).take n).foldl (atK s (stepM w)) (0, false)).1 : Nat))]), (8, .pcells 4 [.s (.bool (((els S).take n).foldl (atK s (stepM w)) (0, false)).2)])]) (fun i n => n = i) 0 0 [(TK, .tok fz0 (J j))] (by first | rfl | assumption) (by first | rfl | assumption) (by first | rfl | assumption) rfl rfl rfl rfl (mall_it S) (by simp [yN, YV.len]) (by decide) (.inl (by simp [yN])) (.inr ⟨_, _, rfl, rfl⟩) (fun _ => rfl) (by rfl) (by intro k o; (try dsimp only []); repeat (first | exact id | exact find_none | refine find_keep ?_ | refine find_skip rfl ?_)) ?_ ?_
    ·
      intro cx' sv i y n hG' hd' hy hI
      obtain ⟨hi, rfl⟩ := yN_get hy
      obtain rfl := hI
      have hk := hat hi
      have e : stepM w (((els S).take n).foldl (atK s (stepM w)) (0, false)) s[(els S)[n]] = ((els S).take (n + 1)).foldl (atK s (stepM w)) (0, false) := by
        rw [← fold_take (els S) (atK s (stepM w)) _ n hi, atK, List.getElem?_eq_getElem hk]
      have hb2 := stepM_b hs (show w < 1000 by omega) ((els S).take n) (0, false) (by decide)
      have ht := hs _ (List.getElem_mem hk)
      generalize hA : ((els S).take n).foldl (atK s (stepM w)) (0, false) = A at e hb2 ⊢
      generalize hT : s[(els S)[n]] = t at e ht
      refine rst0 (k := ?_)
      repeat refine w1 (k := ?_)
      refine ⟨rfl, rfl, fun cx'' hG2 hd2 => ?_⟩
      repeat refine w1 (k := ?_)
      simp only [upd, show ((SV : Nat) == 10) = false from rfl, show ((SV : Nat) == 7) = false from rfl, show ((SV : Nat) == 8) = false from rfl, Nat.reduceBEq, cond_false, cond_true]
      refine nrm (k := ?_)
      simp only [hT]
      obtain ⟨g1, g2, g3, g4⟩ := nxt_prog ht (show w < 1000 by omega)
      obtain ⟨hc, htt, _, hjj, _, _⟩ := ht
      obtain ⟨an, ab⟩ := A
      dsimp only at hb2
      refine condN (h1 := fun h => ?_) (h0 := fun h => ?_)
      ·
        repeat refine w1 (k := ?_)
        refine DL.take 1 rfl (by decide +kernel) rfl (Val.convU rfl rfl rfl rfl ⟨by omega, by omega⟩) ?_
        refine nrm (k := ?_)
        repeat refine w1 (k := ?_)
        refine DL.take 3 rfl (by decide +kernel) rfl (Val.convU rfl rfl rfl rfl ⟨by omega, by omega⟩) ?_
        refine nrm (k := ?_)
        repeat refine w1 (k := ?_)
        rw [show t.t = ((t.t.toNat : Nat) : Int) by omega, show t.j = ((t.j.toNat : Nat) : Int) by omega]
        refine callN (hc := by exact oft_ac _ t w (by omega) (by omega) (by omega)) (h := ?_)
        repeat refine w1 (k := ?_)
        refine callN (hc := by exact times_ac _ (oftN t w) t.t.toNat (oftN_lt htt.1) (by omega)) (h := ?_)
        repeat refine w1 (k := ?_)
        rw [g2]
        have hnx : nxtN t w = ceilN (w + t.j.toNat) t.t.toNat * t.t.toNat - t.j.toNat := by unfold nxtN; rw [if_neg (by omega)]
        generalize ceilN (w + t.j.toNat) t.t.toNat * t.t.toNat = X at g3 g4 hnx ⊢
        refine callAN (hc := by exact nsum_ac _ X [] (by omega) (fun y h => by cases h) (by simp [maxLen])) (h := ?_)
        refine nrm (k := ?_)
        repeat refine w1 (k := ?_)
        rw [show sumS X [] = X from rfl]
        repeat refine w1 (k := ?_)
        rw [show IntKind.u64.wrap ((X : Int) - ((t.j.toNat : Nat) : Int)) = ((nxtN t w : Nat) : Int) by rw [IntKind.wrap_u64]; omega]
        repeat refine w1 (k := ?_)
        cases ab with
        | false =>
          have e2 : ((els S).take (n + 1)).foldl (atK s (stepM w)) (0, false) = (nxtN t w, true) := by rw [← e]; rfl
          rw [Bool.not_false]
          repeat refine w1 (k := ?_)
          refine ⟨n + 1, rfl, ?_, rfl⟩
          simp only [e2]
          exact (by intro k o; (try dsimp only []); repeat (first | exact id | exact find_none | refine find_keep ?_ | refine find_skip rfl ?_))
        | true =>
          rw [Bool.not_true]
          repeat refine w1 (k := ?_)
          refine condN (h1 := fun h3 => ?_) (h0 := fun h3 => ?_)
          ·
            have e2 : ((els S).take (n + 1)).foldl (atK s (stepM w)) (0, false) = (nxtN t w, true) := by rw [← e]; unfold stepM; rw [if_pos]; simp; omega
            repeat refine w1 (k := ?_)
            refine ⟨n + 1, rfl, ?_, rfl⟩
            simp only [e2]
            exact (by intro k o; (try dsimp only []); repeat (first | exact id | exact find_none | refine find_keep ?_ | refine find_skip rfl ?_))
          ·
            have e2 : ((els S).take (n + 1)).foldl (atK s (stepM w)) (0, false) = (an, true) := by rw [← e]; unfold stepM; rw [if_neg]; simp; omega
            repeat refine w1 (k := ?_)
            refine ⟨n + 1, rfl, ?_, rfl⟩
            simp only [e2]
            exact (by intro k o; (try dsimp only []); repeat (first | exact id | exact find_none | refine find_keep ?_ | refine find_skip rfl ?_))
      ·
        have hnx : nxtN t w = 0 := by obtain rfl : w = 0 := by omega
                                      rfl
        rw [show (AV.c (.p (.s (Value.int IntKind.u64 0)))) = vn (nxtN t w) from by rw [hnx]; rfl]
        repeat refine w1 (k := ?_)
        cases ab with
        | false =>
          have e2 : ((els S).take (n + 1)).foldl (atK s (stepM w)) (0, false) = (nxtN t w, true) := by rw [← e]; rfl
          rw [Bool.not_false]
          repeat refine w1 (k := ?_)
          refine ⟨n + 1, rfl, ?_, rfl⟩
          simp only [e2]
          exact (by intro k o; (try dsimp only []); repeat (first | exact id | exact find_none | refine find_keep ?_ | refine find_skip rfl ?_))
        | true =>
          rw [Bool.not_true]
          repeat refine w1 (k := ?_)
          refine condN (h1 := fun h3 => ?_) (h0 := fun h3 => ?_)
          ·
            have e2 : ((els S).take (n + 1)).foldl (atK s (stepM w)) (0, false) = (nxtN t w, true) := by rw [← e]; unfold stepM; rw [if_pos]; simp; omega
            repeat refine w1 (k := ?_)
            refine ⟨n + 1, rfl, ?_, rfl⟩
            simp only [e2]
            exact (by intro k o; (try dsimp only []); repeat (first | exact id | exact find_none | refine find_keep ?_ | refine find_skip rfl ?_))
          ·
            have e2 : ((els S).take (n + 1)).foldl (atK s (stepM w)) (0, false) = (an, true) := by rw [← e]; unfold stepM; rw [if_neg]; simp; omega
            repeat refine w1 (k := ?_)
            refine ⟨n + 1, rfl, ?_, rfl⟩
            simp only [e2]
            exact (by intro k o; (try dsimp only []); repeat (first | exact id | exact find_none | refine find_keep ?_ | refine find_skip rfl ?_))
    ·
      rintro n rfl
      rw [yN_len]
      refine rend (k := ?_)
      repeat refine w1 (k := ?_)
      rw [List.take_length]
      simp only [upd, beq_self_eq_true, show ((TK : Nat) == 5) = false from rfl, show ((TK : Nat) == 6) = false from rfl, show ((TK : Nat) == 7) = false from rfl, show ((TK : Nat) == 8) = false from rfl, Nat.reduceBEq, cond_false, cond_true]
      refine nrm (k := ?_)
      generalize (els S).foldl (atK s (stepM w)) (0, false) = r at hr ⊢
      obtain ⟨hr1, hr2, hr3⟩ := hr
      obtain ⟨nx, sm⟩ := r
      dsimp only at hr1 hr2 hr3 ⊢
      cases sm with
      | false =>
        rw [Bool.not_false]
        repeat refine w1 (k := ?_)
        refine ⟨[], .nil, rfl, rfl, .inl ⟨trivial, ?_⟩⟩
        rw [yW_len, ← hr2 (.inl rfl), ← hI1]; rfl
      | true =>
        rw [Bool.not_true]
        rw [show IntKind.u64.wrap ((nx : Int) + 1) = ((nx + 1 : Nat) : Int) from by rw [IntKind.wrap_u64]; omega]
        repeat refine w1 (k := ?_)
        by_cases hle : nx + 1 ≤ most
        ·
          rw [show decide (((nx + 1 : Nat) : Int) > (most : Int)) = false from decide_eq_false (by omega)]
          obtain ⟨hr4, hr5⟩ := hr3 rfl hle
          rw [← hI1] at hr4 hr5
          repeat refine w1 (k := ?_)
          refine OpTo.yield (i := j) (y := ⟨[vn (nx + 1)], none⟩) hR (yW_at hr4) rfl rfl rfl rfl rfl rfl rfl rfl rfl rfl ?_ ?_
          ·
            simp only [upd, beq_self_eq_true, show ((TK : Nat) == 5) = false from rfl, show ((TK : Nat) == 6) = false from rfl, show ((TK : Nat) == 7) = false from rfl, show ((TK : Nat) == 8) = false from rfl, Nat.reduceBEq, cond_false, cond_true]
            refine nrm (k := ?_)
            repeat refine w1 (k := ?_)
            refine ⟨(j + 1, nx + 1), by omega, by exact ⟨hr5.symm, hle⟩, frg⟩
          ·
            simp only [upd, beq_self_eq_true, show ((TK : Nat) == 5) = false from rfl, show ((TK : Nat) == 6) = false from rfl, show ((TK : Nat) == 7) = false from rfl, show ((TK : Nat) == 8) = false from rfl, Nat.reduceBEq, cond_false, cond_true]
            refine nrm (k := ?_)
            repeat refine w1 (k := ?_)
            exact ⟨[], .nil, rfl, rfl, .inr ⟨trivial, rfl⟩⟩
        ·
          rw [show decide (((nx + 1 : Nat) : Int) > (most : Int)) = true from decide_eq_true (by omega)]
          repeat refine w1 (k := ?_)
          refine ⟨[], .nil, rfl, rfl, .inl ⟨trivial, ?_⟩⟩
          rw [yW_len, ← hr2 (.inr (by omega)), ← hI1]; rfl
