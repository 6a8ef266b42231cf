/- CheckAll, of the program and of the reference. -/
import Derived.Test.YtlegdnmebgfjbaaDoorSK9
import Derived.Test.YtlegdnmebgfjbaaDoorT1
set_option linter.all false
set_option maxRecDepth 2000
set_option maxHeartbeats 8000000
namespace Go.Proofs.Vl
open Go Go.RowKit
attribute [local irreducible] AWp OpTo Run DL Val UN DR AC Le thn inb nog
def chkT (t : Tk) : Int := chkI t.nm t.c t.t t.d t.j t.q t.p
theorem checkT_ac (G) (t : Tk) (hs : t.nm.size ≤ maxLen) : AC Tryd.prog G 38 [.pag (tkP t)] [] (fun r _ => r = vi (chkT t)) := check_ac G t.nm hs t.c t.t t.d t.j t.q t.p
theorem checkRT_ac (G) (t : Tk) (hs : t.nm.size ≤ maxLen) : AC Tryd.prog G 40 [.pag (tkP t)] [] (fun r _ => r = vi (chkT t)) := checkR_ac G t.nm hs t.c t.t t.d t.j t.q t.p
def goAll : List Tk → List Tk → Int × Int
  | seen, [] => (seen.length, 0)
  | seen, t :: r => if chkT t = 0 then (if seen.any (fun u => decide (u.nm = t.nm) || decide (u.p = t.p)) then (seen.length, 13) else goAll (seen ++ [t]) r) else (seen.length, chkT t)
def allI (l : List Tk) : Int × Int := if l.length = 0 ∨ 1024 < l.length then (0, 14) else goAll [] l
theorem goAll_at (l : List Tk) (j : Nat) (h : j < l.length) : goAll (l.take j) (l.drop j) = if chkT l[j] = 0 then (if (l.take j).any (fun u => decide (u.nm = l[j].nm) || decide (u.p = l[j].p)) then ((j : Int), 13) else goAll (l.take (j + 1)) (l.drop (j + 1))) else ((j : Int), chkT l[j]) := by
  rw [at_nat l j h, goAll, List.take_succ_eq_append_getElem h]
  have : (l.take j).length = j := by simp; omega
  rw [this]
theorem all_ac (G) (l : List Tk) (hl : ∀ t ∈ l, t.nm.size ≤ maxLen) (hn : l.length ≤ maxLen) : AC Tryd.prog G 32 [fro tkP l] [] (fun r _ => r = .tup [ti (allI l).1, ti (allI l).2]) := by
  refine AC.body' Tryd.func32 Tryd.ntmps32 rfl ?_
  intro cx hd hG
  refine nrmL (k := ?_)
  repeat refine w1 (k := ?_)
  have hm : l.length ≤ 9223372036854775807 := hn
  first | refine bothTN (h1 := fun h1 => ?_) (h0 := fun h1 => ?_) | refine bothFN (h1 := fun h1 => ?_) (h0 := fun h1 => ?_)
  all_goals repeat refine w1 (k := ?_)
  ·
    refine condN (h1 := fun h2 => ?_) (h0 := fun h2 => ?_)
    ·
      repeat refine w1 (k := ?_)
      refine ⟨[.c _, .c _], .cons (.tmp rfl) (.cons (.tmp rfl) .nil), ?_⟩
      rw [allI, if_pos (by omega)]; rfl
    ·
      repeat refine w1 (k := ?_)
      refine loopN [(2, 2), (6, 3), (22, 34)] (α := Nat × (List MapEntry × Nat) × (List MapEntry × Nat)) (fun x => [(21, vi x.1)]) (fun x => [(17, .mapo x.2.1.1 x.2.1.2), (18, .mapo x.2.2.1 x.2.2.2)]) (fun x => l.length - x.1) (fun x => x.1 ≤ l.length ∧ goAll (l.take x.1) (l.drop x.1) = allI l ∧ x.2.1.1.map (·.key) = ((l.take x.1).map (·.nm)).map Value.string ∧ (∀ e ∈ x.2.1.1, e.val = .int .i64 1) ∧ x.2.2.1.map (·.key) = ((l.take x.1).map (·.p)).map (Value.int .i64) ∧ (∀ e ∈ x.2.2.1, e.val = .int .i64 1)) (x0 := (0, ([], 0), ([], 0))) (h0 := by exact ⟨Nat.zero_le _, by rw [allI, if_neg (by omega)]; rfl, rfl, (fun e h => by cases h), rfl, (fun e h => by cases h)⟩) (hr := ?_)
      intro x hI
      refine nrmL (k := ?_)
      obtain ⟨j, ⟨es1, c1⟩, ⟨es2, c2⟩⟩ := x
      dsimp only at hI ⊢
      obtain ⟨i1, i2, i3, i4, i5, i6⟩ := hI
      repeat refine w1 (k := ?_)
      refine condN (h1 := fun h3 => ?_) (h0 := fun h3 => ?_)
      · have hj : j < l.length := by omega
        rw [goAll_at l j hj] at i2
        repeat refine w1 (k := ?_)
        refine callN (hc := by exact checkT_ac _ _ (hl _ (List.getElem_mem hj))) (h := ?_)
        repeat refine w1 (k := ?_)
        refine condN (h1 := fun h4 => ?_) (h0 := fun h4 => ?_)
        ·
          repeat refine w1 (k := ?_)
          refine ⟨[.c _, .c _], .cons (.tmp rfl) (.cons (.tmp rfl) .nil), ?_⟩
          rw [← i2, if_neg h4]; rfl
        ·
          have f1 := fn_keys Value.string same_str l[j].nm es1 ((l.take j).map (·.nm)) 0 i3
          have f2 := fn_keys (Value.int .i64) same_int l[j].p es2 ((l.take j).map (·.p)) 0 i5
          by_cases m1 : l[j].nm ∈ (l.take j).map (·.nm)
          ·
            have hany : (l.take j).any (fun u => decide (u.nm = l[j].nm) || decide (u.p = l[j].p)) = true := by
              obtain ⟨u, hu, he⟩ := List.mem_map.1 m1
              exact List.any_eq_true.2 ⟨u, hu, by simp [he]⟩
            repeat refine w1 (k := ?_)
            obtain ⟨k1, e1, g1, g2, g3⟩ := f1.2 m1
            rw [Nat.zero_add, i4 e1 g1] at g3
            have q1 : Instr.findNow .string (.string l[j].nm) (es1.modify k1 (fun e => { e with key := .string l[j].nm, val := .int .i64 (1 + 1) })) 0 = some (some (k1, .int .i64 (1 + 1))) := by
              have := fn_mod (self_str l[j].nm) (.int .i64 (1 + 1)) (.int .i64 1) (n := 0) (i := k1) (by rw [Nat.zero_add]; exact g3)
              rw [Nat.zero_add] at this; exact this
            first | refine ofN (hv := by exact Val.lookS rfl rfl rfl rfl rfl rfl rfl g3 rfl) (h := ?_) | refine dlN (hv := by exact Val.lookS rfl rfl rfl rfl rfl rfl rfl g3 rfl) (h := ?_) | refine dlgN (hv := by exact Val.lookS rfl rfl rfl rfl rfl rfl rfl g3 rfl) (h := ?_) | refine ofN (hv := by exact Val.lookS rfl rfl rfl rfl rfl rfl rfl g3 rfl) (h := ?_)
            repeat refine w1 (k := ?_)
            refine OpTo.updS rfl rfl rfl rfl rfl rfl rfl rfl rfl g3 ?_
            refine nrm (k := ?_)
            repeat refine w1 (k := ?_)
            by_cases m2 : l[j].p ∈ (l.take j).map (·.p)
            ·
              obtain ⟨k2, e2, u1, u2, u3⟩ := f2.2 m2
              rw [Nat.zero_add, i6 e2 u1] at u3
              have q2 : Instr.findNow (.int .i64) (.int .i64 l[j].p) (es2.modify k2 (fun e => { e with key := .int .i64 l[j].p, val := .int .i64 (1 + 1) })) 0 = some (some (k2, .int .i64 (1 + 1))) := by
                have := fn_mod (self_int (q := .i64) l[j].p) (.int .i64 (1 + 1)) (.int .i64 1) (n := 0) (i := k2) (by rw [Nat.zero_add]; exact u3)
                rw [Nat.zero_add] at this; exact this
              first | refine ofN (hv := by exact Val.lookS rfl rfl rfl rfl rfl rfl rfl u3 rfl) (h := ?_) | refine dlN (hv := by exact Val.lookS rfl rfl rfl rfl rfl rfl rfl u3 rfl) (h := ?_) | refine dlgN (hv := by exact Val.lookS rfl rfl rfl rfl rfl rfl rfl u3 rfl) (h := ?_) | refine ofN (hv := by exact Val.lookS rfl rfl rfl rfl rfl rfl rfl u3 rfl) (h := ?_)
              repeat refine w1 (k := ?_)
              refine OpTo.updS rfl rfl rfl rfl rfl rfl rfl rfl rfl u3 ?_
              refine nrm (k := ?_)
              repeat refine w1 (k := ?_)
              first | refine ofN (hv := by exact Val.lookS rfl rfl rfl rfl rfl rfl rfl q1 rfl) (h := ?_) | refine dlN (hv := by exact Val.lookS rfl rfl rfl rfl rfl rfl rfl q1 rfl) (h := ?_) | refine dlgN (hv := by exact Val.lookS rfl rfl rfl rfl rfl rfl rfl q1 rfl) (h := ?_) | refine ofN (hv := by exact Val.lookS rfl rfl rfl rfl rfl rfl rfl q1 rfl) (h := ?_)
              repeat refine w1 (k := ?_)
              refine ⟨[.c _, .c _], .cons (.tmp rfl) (.cons (.tmp rfl) .nil), ?_⟩
              rw [← i2, if_pos h4, if_pos hany]; rfl
            ·
              have q2 := fn_push (self_int (q := .i64) l[j].p) (.int .i64 (0 + 1)) c2 (f2.1 m2)
              first | refine ofN (hv := by exact Val.lookN rfl rfl rfl rfl rfl rfl rfl rfl (f2.1 m2)) (h := ?_) | refine dlN (hv := by exact Val.lookN rfl rfl rfl rfl rfl rfl rfl rfl (f2.1 m2)) (h := ?_) | refine dlgN (hv := by exact Val.lookN rfl rfl rfl rfl rfl rfl rfl rfl (f2.1 m2)) (h := ?_) | refine ofN (hv := by exact Val.lookN rfl rfl rfl rfl rfl rfl rfl rfl (f2.1 m2)) (h := ?_)
              repeat refine w1 (k := ?_)
              refine OpTo.updN rfl rfl rfl rfl rfl rfl rfl rfl rfl (f2.1 m2) ?_
              refine nrm (k := ?_)
              repeat refine w1 (k := ?_)
              first | refine ofN (hv := by exact Val.lookS rfl rfl rfl rfl rfl rfl rfl q1 rfl) (h := ?_) | refine dlN (hv := by exact Val.lookS rfl rfl rfl rfl rfl rfl rfl q1 rfl) (h := ?_) | refine dlgN (hv := by exact Val.lookS rfl rfl rfl rfl rfl rfl rfl q1 rfl) (h := ?_) | refine ofN (hv := by exact Val.lookS rfl rfl rfl rfl rfl rfl rfl q1 rfl) (h := ?_)
              repeat refine w1 (k := ?_)
              refine ⟨[.c _, .c _], .cons (.tmp rfl) (.cons (.tmp rfl) .nil), ?_⟩
              rw [← i2, if_pos h4, if_pos hany]; rfl
          ·
            repeat refine w1 (k := ?_)
            have q1 := fn_push (self_str l[j].nm) (.int .i64 (0 + 1)) c1 (f1.1 m1)
            first | refine ofN (hv := by exact Val.lookN rfl rfl rfl rfl rfl rfl rfl rfl (f1.1 m1)) (h := ?_) | refine dlN (hv := by exact Val.lookN rfl rfl rfl rfl rfl rfl rfl rfl (f1.1 m1)) (h := ?_) | refine dlgN (hv := by exact Val.lookN rfl rfl rfl rfl rfl rfl rfl rfl (f1.1 m1)) (h := ?_) | refine ofN (hv := by exact Val.lookN rfl rfl rfl rfl rfl rfl rfl rfl (f1.1 m1)) (h := ?_)
            repeat refine w1 (k := ?_)
            refine OpTo.updN rfl rfl rfl rfl rfl rfl rfl rfl rfl (f1.1 m1) ?_
            refine nrm (k := ?_)
            repeat refine w1 (k := ?_)
            by_cases m2 : l[j].p ∈ (l.take j).map (·.p)
            ·
              have hany : (l.take j).any (fun u => decide (u.nm = l[j].nm) || decide (u.p = l[j].p)) = true := by
                obtain ⟨u, hu, he⟩ := List.mem_map.1 m2
                exact List.any_eq_true.2 ⟨u, hu, by simp [he]⟩
              obtain ⟨k2, e2, u1, u2, u3⟩ := f2.2 m2
              rw [Nat.zero_add, i6 e2 u1] at u3
              have q2 : Instr.findNow (.int .i64) (.int .i64 l[j].p) (es2.modify k2 (fun e => { e with key := .int .i64 l[j].p, val := .int .i64 (1 + 1) })) 0 = some (some (k2, .int .i64 (1 + 1))) := by
                have := fn_mod (self_int (q := .i64) l[j].p) (.int .i64 (1 + 1)) (.int .i64 1) (n := 0) (i := k2) (by rw [Nat.zero_add]; exact u3)
                rw [Nat.zero_add] at this; exact this
              first | refine ofN (hv := by exact Val.lookS rfl rfl rfl rfl rfl rfl rfl u3 rfl) (h := ?_) | refine dlN (hv := by exact Val.lookS rfl rfl rfl rfl rfl rfl rfl u3 rfl) (h := ?_) | refine dlgN (hv := by exact Val.lookS rfl rfl rfl rfl rfl rfl rfl u3 rfl) (h := ?_) | refine ofN (hv := by exact Val.lookS rfl rfl rfl rfl rfl rfl rfl u3 rfl) (h := ?_)
              repeat refine w1 (k := ?_)
              refine OpTo.updS rfl rfl rfl rfl rfl rfl rfl rfl rfl u3 ?_
              refine nrm (k := ?_)
              repeat refine w1 (k := ?_)
              first | refine ofN (hv := by exact Val.lookS rfl rfl rfl rfl rfl rfl rfl q1 rfl) (h := ?_) | refine dlN (hv := by exact Val.lookS rfl rfl rfl rfl rfl rfl rfl q1 rfl) (h := ?_) | refine dlgN (hv := by exact Val.lookS rfl rfl rfl rfl rfl rfl rfl q1 rfl) (h := ?_) | refine ofN (hv := by exact Val.lookS rfl rfl rfl rfl rfl rfl rfl q1 rfl) (h := ?_)
              repeat refine w1 (k := ?_)
              first | refine ofN (hv := by exact Val.lookS rfl rfl rfl rfl rfl rfl rfl q2 rfl) (h := ?_) | refine dlN (hv := by exact Val.lookS rfl rfl rfl rfl rfl rfl rfl q2 rfl) (h := ?_) | refine dlgN (hv := by exact Val.lookS rfl rfl rfl rfl rfl rfl rfl q2 rfl) (h := ?_) | refine ofN (hv := by exact Val.lookS rfl rfl rfl rfl rfl rfl rfl q2 rfl) (h := ?_)
              repeat refine w1 (k := ?_)
              refine ⟨[.c _, .c _], .cons (.tmp rfl) (.cons (.tmp rfl) .nil), ?_⟩
              rw [← i2, if_pos h4, if_pos hany]; rfl
            ·
              have hany : ¬ (l.take j).any (fun u => decide (u.nm = l[j].nm) || decide (u.p = l[j].p)) = true := by
                intro h
                obtain ⟨u, hu, he⟩ := List.any_eq_true.1 h
                simp only [Bool.or_eq_true, decide_eq_true_eq] at he
                exact he.elim (fun h => m1 (h ▸ List.mem_map_of_mem hu)) (fun h => m2 (h ▸ List.mem_map_of_mem hu))
              rw [if_pos h4, if_neg hany] at i2
              have q2 := fn_push (self_int (q := .i64) l[j].p) (.int .i64 (0 + 1)) c2 (f2.1 m2)
              first | refine ofN (hv := by exact Val.lookN rfl rfl rfl rfl rfl rfl rfl rfl (f2.1 m2)) (h := ?_) | refine dlN (hv := by exact Val.lookN rfl rfl rfl rfl rfl rfl rfl rfl (f2.1 m2)) (h := ?_) | refine dlgN (hv := by exact Val.lookN rfl rfl rfl rfl rfl rfl rfl rfl (f2.1 m2)) (h := ?_) | refine ofN (hv := by exact Val.lookN rfl rfl rfl rfl rfl rfl rfl rfl (f2.1 m2)) (h := ?_)
              repeat refine w1 (k := ?_)
              refine OpTo.updN rfl rfl rfl rfl rfl rfl rfl rfl rfl (f2.1 m2) ?_
              refine nrm (k := ?_)
              repeat refine w1 (k := ?_)
              first | refine ofN (hv := by exact Val.lookS rfl rfl rfl rfl rfl rfl rfl q1 rfl) (h := ?_) | refine dlN (hv := by exact Val.lookS rfl rfl rfl rfl rfl rfl rfl q1 rfl) (h := ?_) | refine dlgN (hv := by exact Val.lookS rfl rfl rfl rfl rfl rfl rfl q1 rfl) (h := ?_) | refine ofN (hv := by exact Val.lookS rfl rfl rfl rfl rfl rfl rfl q1 rfl) (h := ?_)
              repeat refine w1 (k := ?_)
              first | refine ofN (hv := by exact Val.lookS rfl rfl rfl rfl rfl rfl rfl q2 rfl) (h := ?_) | refine dlN (hv := by exact Val.lookS rfl rfl rfl rfl rfl rfl rfl q2 rfl) (h := ?_) | refine dlgN (hv := by exact Val.lookS rfl rfl rfl rfl rfl rfl rfl q2 rfl) (h := ?_) | refine ofN (hv := by exact Val.lookS rfl rfl rfl rfl rfl rfl rfl q2 rfl) (h := ?_)
              repeat refine w1 (k := ?_)
              refine ⟨(j + 1, (es1 ++ [⟨.string l[j].nm, .int .i64 (0 + 1), c1⟩], c1 + 1), (es2 ++ [⟨.int .i64 l[j].p, .int .i64 (0 + 1), c2⟩], c2 + 1)), by dsimp only; omega, ?_, ?_⟩
              · dsimp only
                refine ⟨by omega, i2, ?_, ?_, ?_, ?_⟩
                · rw [List.map_append, i3, List.take_succ_eq_append_getElem hj, List.map_append, List.map_append]; rfl
                · intro e he
                  rcases List.mem_append.1 he with h | h
                  · exact i4 e h
                  · obtain rfl := List.mem_singleton.1 h; rfl
                · rw [List.map_append, i5, List.take_succ_eq_append_getElem hj, List.map_append, List.map_append]; rfl
                · intro e he
                  rcases List.mem_append.1 he with h | h
                  · exact i6 e h
                  · obtain rfl := List.mem_singleton.1 h; rfl
              · dsimp only
                refine nrmL (k := ?_)
                exact frg
      ·
        repeat refine w1 (k := ?_)
        refine ⟨[.c _, .c _], .cons (.tmp rfl) (.cons (.tmp rfl) .nil), ?_⟩
        rw [List.drop_of_length_le (by omega), goAll] at i2
        rw [← i2, List.length_take, Nat.min_eq_right (by omega), List.length_map]; rfl
  ·
    refine ⟨[.c _, .c _], .cons (.tmp rfl) (.cons (.tmp rfl) .nil), ?_⟩
    rw [allI, if_pos (by omega)]; rfl
end Go.Proofs.Vl
