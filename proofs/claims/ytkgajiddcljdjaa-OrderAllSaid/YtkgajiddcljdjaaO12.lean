/- Chapter 18: all orders that begin so. -/
import Derived.Test.YtkgajiddcljdjaaO11
set_option linter.all false
set_option maxRecDepth 2000
set_option maxHeartbeats 8000000
namespace Go.Proofs.Vl
open Go Go.RowKit
attribute [local irreducible] AWp OpTo Run DL Val UN DR AC Le thn inb nog
theorem cloneN_ac (G) (l : List Int) (hl : l.length ≤ 1000) : AC Try.prog G 39 [fro (pvI .i64) l] [] (fun r os => r = .c (.own 5 1 l.length) ∧ find os 5 = some (.row 3 1 (l.map (pvI .i64)))) := by
  refine AC.body' Try.func39 Try.ntmps39 rfl ?_
  intro cx hd hG
  refine nrmL (k := ?_)
  repeat refine w1 (k := ?_)
  refine OpTo.nilS rfl rfl Try.underlying22 fun b hb => ?_
  refine nrm (k := ?_)
  cases b
  ·
    repeat refine w1 (k := ?_)
    refine litA (pvI .i64) [] (h := ?_)
    repeat refine w1 (k := ?_)
    refine appA 5 8 (pvI .i64) [] l (h := ?_)
    repeat refine w1 (k := ?_)
    exact ⟨[.c _], .cons (.tmp rfl) .nil, rfl, rfl⟩
  ·
    have h0 : l = [] := by
      cases l with
      | nil => rfl
      | cons a l => cases hb (by simp)
    subst h0
    first | ((iterate 2 (refine w1 (k := ?_))); refine seedA 2 5 1 3 (h := ?_); (repeat (refine w1 (k := ?_))); exact ⟨[.c _], .cons (.tmp rfl) .nil, rfl, rfl⟩) | ((iterate 3 (refine w1 (k := ?_))); refine seedA 2 5 1 3 (h := ?_); (repeat (refine w1 (k := ?_))); exact ⟨[.c _], .cons (.tmp rfl) .nil, rfl, rfl⟩) | ((iterate 4 (refine w1 (k := ?_))); refine seedA 2 5 1 3 (h := ?_); (repeat (refine w1 (k := ?_))); exact ⟨[.c _], .cons (.tmp rfl) .nil, rfl, rfl⟩) | ((iterate 5 (refine w1 (k := ?_))); refine seedA 2 5 1 3 (h := ?_); (repeat (refine w1 (k := ?_))); exact ⟨[.c _], .cons (.tmp rfl) .nil, rfl, rfl⟩) | ((iterate 6 (refine w1 (k := ?_))); refine seedA 2 5 1 3 (h := ?_); (repeat (refine w1 (k := ?_))); exact ⟨[.c _], .cons (.tmp rfl) .nil, rfl, rfl⟩) | ((iterate 7 (refine w1 (k := ?_))); refine seedA 2 5 1 3 (h := ?_); (repeat (refine w1 (k := ?_))); exact ⟨[.c _], .cons (.tmp rfl) .nil, rfl, rfl⟩) | ((iterate 8 (refine w1 (k := ?_))); refine seedA 2 5 1 3 (h := ?_); (repeat (refine w1 (k := ?_))); exact ⟨[.c _], .cons (.tmp rfl) .nil, rfl, rfl⟩) | ((iterate 9 (refine w1 (k := ?_))); refine seedA 2 5 1 3 (h := ?_); (repeat (refine w1 (k := ?_))); exact ⟨[.c _], .cons (.tmp rfl) .nil, rfl, rfl⟩) | ((iterate 10 (refine w1 (k := ?_))); refine seedA 2 5 1 3 (h := ?_); (repeat (refine w1 (k := ?_))); exact ⟨[.c _], .cons (.tmp rfl) .nil, rfl, rfl⟩) | ((iterate 11 (refine w1 (k := ?_))); refine seedA 2 5 1 3 (h := ?_); (repeat (refine w1 (k := ?_))); exact ⟨[.c _], .cons (.tmp rfl) .nil, rfl, rfl⟩) | ((iterate 12 (refine w1 (k := ?_))); refine seedA 2 5 1 3 (h := ?_); (repeat (refine w1 (k := ?_))); exact ⟨[.c _], .cons (.tmp rfl) .nil, rfl, rfl⟩) | ((iterate 13 (refine w1 (k := ?_))); refine seedA 2 5 1 3 (h := ?_); (repeat (refine w1 (k := ?_))); exact ⟨[.c _], .cons (.tmp rfl) .nil, rfl, rfl⟩)
theorem pvI_solid (l : List Int) : ∀ cs ∈ l.map (pvI .i64), ∀ z ∈ cs, z.solid = true := by
  intro cs h x hx
  obtain ⟨t, _, rfl⟩ := List.mem_map.1 h
  simp only [pvI, List.mem_cons, List.not_mem_nil, or_false] at hx
  subst hx
  rfl
def cat {α : Type} (g : Nat → List α) (n : Nat) : List α := (List.range n).flatMap g
theorem cat_succ {α : Type} (g : Nat → List α) (n : Nat) : cat g (n + 1) = cat g n ++ g n := by unfold cat; rw [List.range_succ, List.flatMap_append]; simp
theorem cat_at {α : Type} (g : Nat → List α) {i k : Nat} {y : α} (h : (g i)[k]? = some y) : ∀ n, i < n → (cat g n)[(cat g i).length + k]? = some y
  | 0, hn => by omega
  | n + 1, hn => by
    rw [cat_succ]
    by_cases e : i = n
    · subst e; rw [List.getElem?_append_right (by omega), Nat.add_sub_cancel_left]; exact h
    · have ih := cat_at g h n (by omega)
      have := (List.getElem?_eq_some_iff.1 ih).1
      rw [List.getElem?_append_left this]; exact ih
def up8 (t : Nat → Bool) (i : Nat) : Nat → Bool := fun j => if j = i then true else t j
/-- All orders that begin so. -/
def frL (n : Nat) : Nat → List Int → (Nat → Bool) → List (List Int)
  | 0, a, _ => [a]
  | m + 1, a, t => cat (fun i => if t i then [] else frL n m (a ++ [(i : Int)]) (up8 t i)) n
def thP (t : Nat → Bool) : List PV := (List.range 8).map fun i => .s (.bool (t i))
theorem thP_at (t : Nat → Bool) (i : Nat) (h : i < 8) : ((thP t).drop i)[0]? = some (.s (.bool (t i))) := by
  unfold thP; simp [List.getElem?_range h]
theorem thP_len (t : Nat → Bool) : (thP t).length = 8 := by simp [thP]
theorem thP_up (t : Nat → Bool) (i : Nat) (h : i < 8) : splice (thP t) i [.s (.bool true)] = thP (up8 t i) := by
  have : i = 0 ∨ i = 1 ∨ i = 2 ∨ i = 3 ∨ i = 4 ∨ i = 5 ∨ i = 6 ∨ i = 7 := by omega
  rcases this with rfl | rfl | rfl | rfl | rfl | rfl | rfl | rfl <;> rfl
def yP (l : List (List Int)) : List YV := l.map fun p => ⟨[], some (3, 1, p.map (pvI .i64))⟩
theorem yP_len (l) : (yP l).length = l.length := by simp [yP]
theorem yP_at {l : List (List Int)} {i : Nat} {p : List Int} (h : l[i]? = some p) : (yP l)[i]? = some ⟨[], some (3, 1, p.map (pvI .i64))⟩ := by simp [yP, h]
theorem yP_get {l : List (List Int)} {i : Nat} {y : YV} (h : (yP l)[i]? = some y) : ∃ hi : i < l.length, y = ⟨[], some (3, 1, l[i].map (pvI .i64))⟩ := by
  have hi : i < l.length := by have := (List.getElem?_eq_some_iff.1 h).1; rwa [yP_len] at this
  rw [yP_at (List.getElem?_eq_getElem hi)] at h
  exact ⟨hi, (Option.some.inj h).symm⟩
theorem sz4 (x : Nat) : 0 + x * (Try.prog.types[4]'(by decide +kernel)).size = x := by
  have : (Try.prog.types[4]'(by decide +kernel)).size = 1 := by kernel_rfl
  rw [this]; omega
theorem from_gc (G) (n : Nat) (hn : n ≤ 8) : ∀ (m : Nat) (a : List Int) (t : Nat → Bool), a.length + m = n → GC Try.prog G 32 (fun l => [fro (pvI .i64) a, .pag (thP t), vi (n : Int), yv l]) (yP (frL n m a t)) (fun r => r = vb true) (fun r => r = vb false)
  | 0, a, t, hm => by
    refine GC.body Try.func32 Try.ntmps32 rfl (fun _ => rfl) ?_
    intro cx l J Jx hd hG hrd hml hbs hrr hR
    obtain ⟨w0, fz0, β0, df, G0, rd, rr, ml, bs⟩ := cx
    dsimp only at hd hG hrd hml hbs hrr hR
    subst hd hG hrd hml hbs hrr
    refine nrmL (k := ?_)
    repeat refine w1 (k := ?_)
    simp only [List.length_map, show ((a.length : Int) == (n : Int)) = true from by rw [beq_iff_eq]; omega]
    repeat refine w1 (k := ?_)
    refine callRowN (hc := by exact cloneN_ac _ a (by omega) ) (hso := by exact  pvI_ok _) (h := ?_)
    try dsimp only [yv]
    simp only [upd, beq_self_eq_true, show ((TK : Nat) == 5) = false from rfl, show ((TK : Nat) == 10) = false from rfl, show ((TK : Nat) == 17) = false from rfl, show ((TK : Nat) == 91) = false from rfl, show ((91 : Nat) == TK) = false from rfl, show ((TK : Nat) == 36) = false from rfl, show ((TK : Nat) == 37) = false from rfl, show ((TK : Nat) == 90) = false from rfl, show ((17 : Nat) == TK) = false from rfl, show ((5 : Nat) == TK) = false from rfl, Nat.reduceBEq, cond_false, cond_true]
    refine nrm (k := ?_)
    repeat refine w1 (k := ?_)
    refine OpTo.yieldR (i := 0) (k := 17) [] hR (yP_at rfl) rfl rfl rfl rfl rfl rfl rfl rfl (by rw [List.length_map]; rfl) rfl (pvI_solid _) (by decide) rfl rfl rfl rfl rfl ?_ ?_
    ·
      refine nrm (k := ?_)
      try dsimp only [yv]
      simp only [upd, beq_self_eq_true, show ((TK : Nat) == 5) = false from rfl, show ((TK : Nat) == 10) = false from rfl, show ((TK : Nat) == 17) = false from rfl, show ((TK : Nat) == 91) = false from rfl, show ((91 : Nat) == TK) = false from rfl, show ((TK : Nat) == 36) = false from rfl, show ((TK : Nat) == 37) = false from rfl, show ((TK : Nat) == 90) = false from rfl, show ((17 : Nat) == TK) = false from rfl, show ((5 : Nat) == TK) = false from rfl, Nat.reduceBEq, cond_false, cond_true]
      refine nrm (k := ?_)
      repeat refine w1 (k := ?_)
      exact ⟨[.c _], .cons (.tmp rfl) .nil, rfl, rfl, .inl ⟨rfl, rfl⟩⟩
    ·
      refine nrm (k := ?_)
      try dsimp only [yv]
      simp only [upd, beq_self_eq_true, show ((TK : Nat) == 5) = false from rfl, show ((TK : Nat) == 10) = false from rfl, show ((TK : Nat) == 17) = false from rfl, show ((TK : Nat) == 91) = false from rfl, show ((91 : Nat) == TK) = false from rfl, show ((TK : Nat) == 36) = false from rfl, show ((TK : Nat) == 37) = false from rfl, show ((TK : Nat) == 90) = false from rfl, show ((17 : Nat) == TK) = false from rfl, show ((5 : Nat) == TK) = false from rfl, Nat.reduceBEq, cond_false, cond_true]
      refine nrm (k := ?_)
      repeat refine w1 (k := ?_)
      exact ⟨[.c _], .cons (.tmp rfl) .nil, rfl, rfl, .inr ⟨rfl, rfl⟩⟩
  | m + 1, a, t, hm => by
    have ih := from_gc G n hn m
    refine GC.body Try.func32 Try.ntmps32 rfl (fun _ => rfl) ?_
    intro cx l J Jx hd hG hrd hml hbs hrr hR
    obtain ⟨w0, fz0, β0, df, G0, rd, rr, ml, bs⟩ := cx
    dsimp only at hd hG hrd hml hbs hrr hR
    subst hd hG hrd hml hbs hrr
    refine nrmL (k := ?_)
    repeat refine w1 (k := ?_)
    simp only [List.length_map, show ((a.length : Int) == (n : Int)) = false from by rw [beq_eq_false_iff_ne]; omega]
    repeat refine w1 (k := ?_)
    try dsimp only [yv]
    simp only [upd, beq_self_eq_true, show ((TK : Nat) == 5) = false from rfl, show ((TK : Nat) == 10) = false from rfl, show ((TK : Nat) == 17) = false from rfl, show ((TK : Nat) == 91) = false from rfl, show ((91 : Nat) == TK) = false from rfl, show ((TK : Nat) == 36) = false from rfl, show ((TK : Nat) == 37) = false from rfl, show ((TK : Nat) == 90) = false from rfl, show ((17 : Nat) == TK) = false from rfl, show ((5 : Nat) == TK) = false from rfl, Nat.reduceBEq, cond_false, cond_true]
    refine nrm (k := ?_)
    obtain ⟨g, hg⟩ : ∃ g : Nat → List (List Int), g = fun i => if t i then [] else frL n m (a ++ [(i : Int)]) (up8 t i) := ⟨_, rfl⟩
    have hfr : frL n (m + 1) a t = cat g n := by rw [frL, hg]
    rw [hfr] at hR ⊢
    refine loopN [(8, 3), (21, 23)] (α := Nat) (fun i => [(20, vi (i : Int))]) (fun i => [(TK, .tok fz0 (J (cat g i).length)), (5, .pcells 61 (thP t))]) (fun i => n - i) (fun i => i ≤ n) (x0 := 0) (h0 := by first | omega | simp | (refine ⟨?_, ?_⟩ <;> first | omega | simp)) (hr := ?_)
    intro i hI
    refine nrmL (k := ?_)
    repeat refine w1 (k := ?_)
    refine condN (h1 := fun h => ?_) (h0 := fun h => ?_)
    ·
      have hi : i < n := by omega
      have hs := cat_succ g i
      repeat refine w1 (k := ?_)
      rw [sz4]
      first | refine ofN (hv := by exact Val.ld1 rfl rfl rfl (thP_at t i (by omega))) (h := ?_) | refine dlN (hv := by exact Val.ld1 rfl rfl rfl (thP_at t i (by omega))) (h := ?_) | refine dlgN (hv := by exact Val.ld1 rfl rfl rfl (thP_at t i (by omega))) (h := ?_) | refine ofN (hv := by exact Val.ld1 rfl rfl rfl (thP_at t i (by omega))) (h := ?_)
      repeat refine w1 (k := ?_)
      cases hti : t i with
      | true =>
        have e : (cat g (i + 1)).length = (cat g i).length := by rw [hs, hg]; simp [hti]
        repeat refine w1 (k := ?_)
        rw [← e]
        refine ⟨i + 1, by omega, by first | omega | (refine ⟨?_, ?_⟩ <;> omega), frg⟩
      | false =>
        have e : g i = frL n m (a ++ [(i : Int)]) (up8 t i) := by rw [hg]; simp [hti]
        have hlen : (cat g (i + 1)).length = (cat g i).length + (frL n m (a ++ [(i : Int)]) (up8 t i)).length := by rw [hs, List.length_append, e]
        have hL : ∀ k y, (yP (frL n m (a ++ [(i : Int)]) (up8 t i)))[k]? = some y → (yP (cat g n))[(cat g i).length + k]? = some y := by
          intro k y hy
          obtain ⟨hk, rfl⟩ := yP_get hy
          exact yP_at (cat_at g (i := i) (by rw [e]; exact List.getElem?_eq_getElem hk) n hi)
        repeat refine w1 (k := ?_)
        try dsimp only [yv]
        simp only [upd, beq_self_eq_true, show ((TK : Nat) == 5) = false from rfl, show ((TK : Nat) == 10) = false from rfl, show ((TK : Nat) == 17) = false from rfl, show ((TK : Nat) == 91) = false from rfl, show ((91 : Nat) == TK) = false from rfl, show ((TK : Nat) == 36) = false from rfl, show ((TK : Nat) == 37) = false from rfl, show ((TK : Nat) == 90) = false from rfl, show ((17 : Nat) == TK) = false from rfl, show ((5 : Nat) == TK) = false from rfl, Nat.reduceBEq, cond_false, cond_true]
        refine nrm (k := ?_)
        repeat refine w1 (k := ?_)
        try rw [sz4]
        refine OpTo.stP rfl rfl rfl rfl rfl (by kernel_rfl) (by rw [thP_len]; simp only [List.length_cons, List.length_nil]; omega) ?_
        rw [thP_up _ _ (by omega)]
        try dsimp only [yv]
        simp only [upd, beq_self_eq_true, show ((TK : Nat) == 5) = false from rfl, show ((TK : Nat) == 10) = false from rfl, show ((TK : Nat) == 17) = false from rfl, show ((TK : Nat) == 91) = false from rfl, show ((91 : Nat) == TK) = false from rfl, show ((TK : Nat) == 36) = false from rfl, show ((TK : Nat) == 37) = false from rfl, show ((TK : Nat) == 90) = false from rfl, show ((17 : Nat) == TK) = false from rfl, show ((5 : Nat) == TK) = false from rfl, Nat.reduceBEq, cond_false, cond_true]
        refine nrm (k := ?_)
        first | refine AWp.dlW [8, 12] (h := ?_) | (refine w1 (k := ?_); refine AWp.dlW [8, 12] (h := ?_)) | (iterate 2 (refine w1 (k := ?_))); refine AWp.dlW [8, 12] (h := ?_) | (iterate 3 (refine w1 (k := ?_))); refine AWp.dlW [8, 12] (h := ?_) | (iterate 4 (refine w1 (k := ?_))); refine AWp.dlW [8, 12] (h := ?_) | (iterate 5 (refine w1 (k := ?_))); refine AWp.dlW [8, 12] (h := ?_) | (iterate 6 (refine w1 (k := ?_))); refine AWp.dlW [8, 12] (h := ?_)
        refine DL.takeT 0 rfl (by decide +kernel) rfl (Val.move rfl) ?_
        refine nrm (k := ?_)
        refine DL.takeT 0 rfl (by decide +kernel) rfl (Val.move rfl) ?_
        refine nrm (k := ?_)
        refine DL.takeT 0 rfl (by decide +kernel) rfl (Val.ev2 rfl) ?_
        refine nrm (k := ?_)
        refine DL.takeT 0 rfl (by decide +kernel) rfl (Val.move rfl) ?_
        refine nrm (k := ?_)
        refine DL.takeT 0 rfl (by decide +kernel) rfl (Val.ev2 rfl) ?_
        refine nrm (k := ?_)
        simp only [List.length_map]
        refine DL.takeX 0 rfl (by decide +kernel) rfl (cut3 (kk := 91) (xs := a.map (pvI .i64)) rfl (fun cs h => by obtain ⟨_, _, rfl⟩ := List.mem_map.1 h; rfl) rfl rfl rfl (by rw [List.length_map]; rfl) rfl (by rw [List.length_map]; rfl)) ?_
        rw [List.length_map]
        intro v0 hv0
        refine nrm (k := ?_)
        try dsimp only [yv]
        simp only [upd, beq_self_eq_true, show ((TK : Nat) == 5) = false from rfl, show ((TK : Nat) == 10) = false from rfl, show ((TK : Nat) == 17) = false from rfl, show ((TK : Nat) == 91) = false from rfl, show ((91 : Nat) == TK) = false from rfl, show ((TK : Nat) == 36) = false from rfl, show ((TK : Nat) == 37) = false from rfl, show ((TK : Nat) == 90) = false from rfl, show ((17 : Nat) == TK) = false from rfl, show ((5 : Nat) == TK) = false from rfl, Nat.reduceBEq, cond_false, cond_true]
        refine nrm (k := ?_)
        refine DL.takeT 0 rfl (by decide +kernel) rfl (Val.move rfl) ?_
        refine nrm (k := ?_)
        refine DL.takeT 3 rfl (by decide +kernel) rfl (Val.move rfl) ?_
        refine nrm (k := ?_)
        refine DL.takeT 3 rfl (by decide +kernel) rfl (Val.move rfl) ?_
        refine nrm (k := ?_)
        refine DL.two 0 2 rfl rfl (by decide +kernel) rfl rfl ?_ ?_
        ·
          refine litA (pvI .i64) [(i : Int)] (h := ?_)
          try dsimp only [yv]
          simp only [upd, beq_self_eq_true, show ((TK : Nat) == 5) = false from rfl, show ((TK : Nat) == 10) = false from rfl, show ((TK : Nat) == 17) = false from rfl, show ((TK : Nat) == 91) = false from rfl, show ((91 : Nat) == TK) = false from rfl, show ((TK : Nat) == 36) = false from rfl, show ((TK : Nat) == 37) = false from rfl, show ((TK : Nat) == 90) = false from rfl, show ((17 : Nat) == TK) = false from rfl, show ((5 : Nat) == TK) = false from rfl, Nat.reduceBEq, cond_false, cond_true]
          refine nrm (k := ?_)
          refine DL.two 0 1 rfl rfl (by decide +kernel) rfl rfl ?_ ?_
          ·
            refine OpTo.appCM (kk := 91) (d := 37) (E := 3) (z := .int .i64 0) (sz := 1) (by_ := 8) (pvI .i64) a [(i : Int)] (by rfl) (by rfl) (by decide) (by rfl) (by rfl) (by decide) (by rfl) hv0 (by rfl) (by rfl) (by simp) (fun _ => rfl) (by simp only [List.length_cons, List.length_nil]; omega) (by simp only [List.length_cons, List.length_nil, maxLen]; omega) ?_
            refine nrm (k := ?_)
            try dsimp only [yv]
            simp only [upd, beq_self_eq_true, show ((TK : Nat) == 5) = false from rfl, show ((TK : Nat) == 10) = false from rfl, show ((TK : Nat) == 17) = false from rfl, show ((TK : Nat) == 91) = false from rfl, show ((91 : Nat) == TK) = false from rfl, show ((TK : Nat) == 36) = false from rfl, show ((TK : Nat) == 37) = false from rfl, show ((TK : Nat) == 90) = false from rfl, show ((17 : Nat) == TK) = false from rfl, show ((5 : Nat) == TK) = false from rfl, Nat.reduceBEq, cond_false, cond_true]
            refine nrm (k := ?_)
            repeat refine w1 (k := ?_)
            first | refine zA 37 (h := ?_) | refine zO 37 (h := ?_) | refine zL 37 (h := ?_) | refine zL3 37 (h := ?_)
            try dsimp only [yv]
            simp only [upd, beq_self_eq_true, show ((TK : Nat) == 5) = false from rfl, show ((TK : Nat) == 10) = false from rfl, show ((TK : Nat) == 17) = false from rfl, show ((TK : Nat) == 91) = false from rfl, show ((91 : Nat) == TK) = false from rfl, show ((TK : Nat) == 36) = false from rfl, show ((TK : Nat) == 37) = false from rfl, show ((TK : Nat) == 90) = false from rfl, show ((17 : Nat) == TK) = false from rfl, show ((5 : Nat) == TK) = false from rfl, Nat.reduceBEq, cond_false, cond_true]
            refine nrm (k := ?_)
            refine OpTo.callG (i := (cat g i).length) (args := fun l => [fro (pvI .i64) (a ++ [(i : Int)]), .pag (thP (up8 t i)), vi (n : Int), yv l]) hR hL rfl rfl (ih (a ++ [(i : Int)]) (up8 t i) (by simp; omega)) (fun r h => by subst h; rfl) (fun r h => by subst h; rfl) rfl rfl rfl rfl rfl rfl ?_ ?_
            ·
              rintro r rfl
              rw [yP_len, ← hlen]
              refine nrm (k := ?_)
              try dsimp only [yv]
              simp only [upd, beq_self_eq_true, show ((TK : Nat) == 5) = false from rfl, show ((TK : Nat) == 10) = false from rfl, show ((TK : Nat) == 17) = false from rfl, show ((TK : Nat) == 91) = false from rfl, show ((91 : Nat) == TK) = false from rfl, show ((TK : Nat) == 36) = false from rfl, show ((TK : Nat) == 37) = false from rfl, show ((TK : Nat) == 90) = false from rfl, show ((17 : Nat) == TK) = false from rfl, show ((5 : Nat) == TK) = false from rfl, Nat.reduceBEq, cond_false, cond_true]
              refine nrm (k := ?_)
              repeat refine w1 (k := ?_)
              refine ⟨i + 1, by omega, by first | omega | (refine ⟨?_, ?_⟩ <;> omega), frg⟩
            ·
              rintro r rfl
              refine nrm (k := ?_)
              try dsimp only [yv]
              simp only [upd, beq_self_eq_true, show ((TK : Nat) == 5) = false from rfl, show ((TK : Nat) == 10) = false from rfl, show ((TK : Nat) == 17) = false from rfl, show ((TK : Nat) == 91) = false from rfl, show ((91 : Nat) == TK) = false from rfl, show ((TK : Nat) == 36) = false from rfl, show ((TK : Nat) == 37) = false from rfl, show ((TK : Nat) == 90) = false from rfl, show ((17 : Nat) == TK) = false from rfl, show ((5 : Nat) == TK) = false from rfl, Nat.reduceBEq, cond_false, cond_true]
              refine nrm (k := ?_)
              repeat refine w1 (k := ?_)
              exact ⟨[.c _], .cons (.tmp rfl) .nil, rfl, rfl, .inr ⟨rfl, rfl⟩⟩
          ·
            refine OpTo.of (Val.ldF rfl rfl rfl rfl) ?_
            refine nrm (k := ?_)
            repeat refine w1 (k := ?_)
            refine OpTo.appCM (kk := 91) (d := 37) (E := 3) (z := .int .i64 0) (sz := 1) (by_ := 8) (pvI .i64) a [(i : Int)] (by rfl) (by rfl) (by decide) (by rfl) (by rfl) (by decide) (by rfl) hv0 (by rfl) (by rfl) (by simp) (fun _ => rfl) (by simp only [List.length_cons, List.length_nil]; omega) (by simp only [List.length_cons, List.length_nil, maxLen]; omega) ?_
            refine nrm (k := ?_)
            try dsimp only [yv]
            simp only [upd, beq_self_eq_true, show ((TK : Nat) == 5) = false from rfl, show ((TK : Nat) == 10) = false from rfl, show ((TK : Nat) == 17) = false from rfl, show ((TK : Nat) == 91) = false from rfl, show ((91 : Nat) == TK) = false from rfl, show ((TK : Nat) == 36) = false from rfl, show ((TK : Nat) == 37) = false from rfl, show ((TK : Nat) == 90) = false from rfl, show ((17 : Nat) == TK) = false from rfl, show ((5 : Nat) == TK) = false from rfl, Nat.reduceBEq, cond_false, cond_true]
            refine nrm (k := ?_)
            repeat refine w1 (k := ?_)
            first | refine zA 37 (h := ?_) | refine zO 37 (h := ?_) | refine zL 37 (h := ?_) | refine zL3 37 (h := ?_)
            try dsimp only [yv]
            simp only [upd, beq_self_eq_true, show ((TK : Nat) == 5) = false from rfl, show ((TK : Nat) == 10) = false from rfl, show ((TK : Nat) == 17) = false from rfl, show ((TK : Nat) == 91) = false from rfl, show ((91 : Nat) == TK) = false from rfl, show ((TK : Nat) == 36) = false from rfl, show ((TK : Nat) == 37) = false from rfl, show ((TK : Nat) == 90) = false from rfl, show ((17 : Nat) == TK) = false from rfl, show ((5 : Nat) == TK) = false from rfl, Nat.reduceBEq, cond_false, cond_true]
            refine nrm (k := ?_)
            refine OpTo.callG (i := (cat g i).length) (args := fun l => [fro (pvI .i64) (a ++ [(i : Int)]), .pag (thP (up8 t i)), vi (n : Int), yv l]) hR hL rfl rfl (ih (a ++ [(i : Int)]) (up8 t i) (by simp; omega)) (fun r h => by subst h; rfl) (fun r h => by subst h; rfl) rfl rfl rfl rfl rfl rfl ?_ ?_
            ·
              rintro r rfl
              rw [yP_len, ← hlen]
              refine nrm (k := ?_)
              try dsimp only [yv]
              simp only [upd, beq_self_eq_true, show ((TK : Nat) == 5) = false from rfl, show ((TK : Nat) == 10) = false from rfl, show ((TK : Nat) == 17) = false from rfl, show ((TK : Nat) == 91) = false from rfl, show ((91 : Nat) == TK) = false from rfl, show ((TK : Nat) == 36) = false from rfl, show ((TK : Nat) == 37) = false from rfl, show ((TK : Nat) == 90) = false from rfl, show ((17 : Nat) == TK) = false from rfl, show ((5 : Nat) == TK) = false from rfl, Nat.reduceBEq, cond_false, cond_true]
              refine nrm (k := ?_)
              repeat refine w1 (k := ?_)
              refine ⟨i + 1, by omega, by first | omega | (refine ⟨?_, ?_⟩ <;> omega), frg⟩
            ·
              rintro r rfl
              refine nrm (k := ?_)
              try dsimp only [yv]
              simp only [upd, beq_self_eq_true, show ((TK : Nat) == 5) = false from rfl, show ((TK : Nat) == 10) = false from rfl, show ((TK : Nat) == 17) = false from rfl, show ((TK : Nat) == 91) = false from rfl, show ((91 : Nat) == TK) = false from rfl, show ((TK : Nat) == 36) = false from rfl, show ((TK : Nat) == 37) = false from rfl, show ((TK : Nat) == 90) = false from rfl, show ((17 : Nat) == TK) = false from rfl, show ((5 : Nat) == TK) = false from rfl, Nat.reduceBEq, cond_false, cond_true]
              refine nrm (k := ?_)
              repeat refine w1 (k := ?_)
              exact ⟨[.c _], .cons (.tmp rfl) .nil, rfl, rfl, .inr ⟨rfl, rfl⟩⟩
        ·
          refine OpTo.of (Val.ldF rfl rfl rfl rfl) ?_
          refine nrm (k := ?_)
          repeat refine w1 (k := ?_)
          refine litA (pvI .i64) [(i : Int)] (h := ?_)
          try dsimp only [yv]
          simp only [upd, beq_self_eq_true, show ((TK : Nat) == 5) = false from rfl, show ((TK : Nat) == 10) = false from rfl, show ((TK : Nat) == 17) = false from rfl, show ((TK : Nat) == 91) = false from rfl, show ((91 : Nat) == TK) = false from rfl, show ((TK : Nat) == 36) = false from rfl, show ((TK : Nat) == 37) = false from rfl, show ((TK : Nat) == 90) = false from rfl, show ((17 : Nat) == TK) = false from rfl, show ((5 : Nat) == TK) = false from rfl, Nat.reduceBEq, cond_false, cond_true]
          refine nrm (k := ?_)
          repeat refine w1 (k := ?_)
          refine OpTo.appCM (kk := 91) (d := 37) (E := 3) (z := .int .i64 0) (sz := 1) (by_ := 8) (pvI .i64) a [(i : Int)] (by rfl) (by rfl) (by decide) (by rfl) (by rfl) (by decide) (by rfl) hv0 (by rfl) (by rfl) (by simp) (fun _ => rfl) (by simp only [List.length_cons, List.length_nil]; omega) (by simp only [List.length_cons, List.length_nil, maxLen]; omega) ?_
          refine nrm (k := ?_)
          try dsimp only [yv]
          simp only [upd, beq_self_eq_true, show ((TK : Nat) == 5) = false from rfl, show ((TK : Nat) == 10) = false from rfl, show ((TK : Nat) == 17) = false from rfl, show ((TK : Nat) == 91) = false from rfl, show ((91 : Nat) == TK) = false from rfl, show ((TK : Nat) == 36) = false from rfl, show ((TK : Nat) == 37) = false from rfl, show ((TK : Nat) == 90) = false from rfl, show ((17 : Nat) == TK) = false from rfl, show ((5 : Nat) == TK) = false from rfl, Nat.reduceBEq, cond_false, cond_true]
          refine nrm (k := ?_)
          repeat refine w1 (k := ?_)
          first | refine zA 37 (h := ?_) | refine zO 37 (h := ?_) | refine zL 37 (h := ?_) | refine zL3 37 (h := ?_)
          try dsimp only [yv]
          simp only [upd, beq_self_eq_true, show ((TK : Nat) == 5) = false from rfl, show ((TK : Nat) == 10) = false from rfl, show ((TK : Nat) == 17) = false from rfl, show ((TK : Nat) == 91) = false from rfl, show ((91 : Nat) == TK) = false from rfl, show ((TK : Nat) == 36) = false from rfl, show ((TK : Nat) == 37) = false from rfl, show ((TK : Nat) == 90) = false from rfl, show ((17 : Nat) == TK) = false from rfl, show ((5 : Nat) == TK) = false from rfl, Nat.reduceBEq, cond_false, cond_true]
          refine nrm (k := ?_)
          refine OpTo.callG (i := (cat g i).length) (args := fun l => [fro (pvI .i64) (a ++ [(i : Int)]), .pag (thP (up8 t i)), vi (n : Int), yv l]) hR hL rfl rfl (ih (a ++ [(i : Int)]) (up8 t i) (by simp; omega)) (fun r h => by subst h; rfl) (fun r h => by subst h; rfl) rfl rfl rfl rfl rfl rfl ?_ ?_
          ·
            rintro r rfl
            rw [yP_len, ← hlen]
            refine nrm (k := ?_)
            try dsimp only [yv]
            simp only [upd, beq_self_eq_true, show ((TK : Nat) == 5) = false from rfl, show ((TK : Nat) == 10) = false from rfl, show ((TK : Nat) == 17) = false from rfl, show ((TK : Nat) == 91) = false from rfl, show ((91 : Nat) == TK) = false from rfl, show ((TK : Nat) == 36) = false from rfl, show ((TK : Nat) == 37) = false from rfl, show ((TK : Nat) == 90) = false from rfl, show ((17 : Nat) == TK) = false from rfl, show ((5 : Nat) == TK) = false from rfl, Nat.reduceBEq, cond_false, cond_true]
            refine nrm (k := ?_)
            repeat refine w1 (k := ?_)
            refine ⟨i + 1, by omega, by first | omega | (refine ⟨?_, ?_⟩ <;> omega), frg⟩
          ·
            rintro r rfl
            refine nrm (k := ?_)
            try dsimp only [yv]
            simp only [upd, beq_self_eq_true, show ((TK : Nat) == 5) = false from rfl, show ((TK : Nat) == 10) = false from rfl, show ((TK : Nat) == 17) = false from rfl, show ((TK : Nat) == 91) = false from rfl, show ((91 : Nat) == TK) = false from rfl, show ((TK : Nat) == 36) = false from rfl, show ((TK : Nat) == 37) = false from rfl, show ((TK : Nat) == 90) = false from rfl, show ((17 : Nat) == TK) = false from rfl, show ((5 : Nat) == TK) = false from rfl, Nat.reduceBEq, cond_false, cond_true]
            refine nrm (k := ?_)
            repeat refine w1 (k := ?_)
            exact ⟨[.c _], .cons (.tmp rfl) .nil, rfl, rfl, .inr ⟨rfl, rfl⟩⟩
    ·
      repeat refine w1 (k := ?_)
      have : i = n := by omega
      subst this
      exact ⟨[.c _], .cons (.tmp rfl) .nil, rfl, rfl, .inl ⟨rfl, by rw [yP_len]; rfl⟩⟩
