/- Groups of releases, and the document's next one. -/
import Derived.Test.YtekkpgfklhhacaaR1
import Derived.Test.YtekkpgfklhhacaaQ3
set_option linter.all false
set_option maxRecDepth 2000
set_option maxHeartbeats 8000000
namespace Go.Proofs.Vl
open Go Go.RowKit
attribute [local irreducible] AWp OpTo Run DL Val UN DR AC Le thn inb nog
theorem drop_gt {rel : Int → Int} {x : Int} {xs : List Int} (h : (x :: xs).Pairwise (fun a b => lexL rel a b)) : ∀ y ∈ (x :: xs).drop (preG rel (rel x) xs + 1), rel x < rel y := by
  intro y h1
  have hd := h.sublist (List.drop_sublist (preG rel (rel x) xs + 1) (x :: xs))
  rw [List.drop_succ_cons] at h1
  have hlt : preG rel (rel x) xs < xs.length := by
    refine Nat.lt_of_not_le fun hk => ?_
    rw [List.drop_eq_nil_of_le hk] at h1; cases h1
  have hat := preG_at rel (rel x) xs hlt
  rw [List.drop_succ_cons, List.drop_eq_getElem_cons hlt] at hd
  rw [List.drop_eq_getElem_cons hlt] at h1
  have hx := (List.pairwise_cons.1 h).1 _ (List.getElem_mem hlt)
  have hz := (List.pairwise_cons.1 hd).1
  unfold lexL at hx
  rcases List.mem_cons.1 h1 with rfl | h1
  · omega
  · have := hz y h1
    unfold lexL at this
    omega
theorem take_eq {rel : Int → Int} {x : Int} {xs : List Int} : ∀ y ∈ (x :: xs).take (preG rel (rel x) xs + 1), rel y = rel x := by
  intro y hy
  rw [List.take_succ_cons] at hy
  rcases List.mem_cons.1 hy with rfl | hy
  · rfl
  · obtain ⟨j, hj, rfl⟩ := List.getElem_of_mem hy
    rw [List.getElem_take]
    exact (preG_lt rel (rel x) xs j (by simp at hj; omega)).2
theorem eachG_flt (rel : Int → Int) : ∀ (n : Nat) (L : List Int), L.length ≤ n → L.Pairwise (fun a b => lexL rel a b) → ∀ g ∈ eachG rel n L, g.2 = L.filter (fun x => decide (rel x = g.1)) ∧ g.2 ≠ []
  | 0, L, _, _, g, hg => by cases hg
  | _ + 1, [], _, _, g, hg => by cases hg
  | n + 1, x :: xs, hn, h, g, hg => by
    rw [eachG] at hg
    have hgt := drop_gt h
    have hte := take_eq (rel := rel) (x := x) (xs := xs)
    have hd := h.sublist (List.drop_sublist (preG rel (rel x) xs + 1) (x :: xs))
    have hsp : x :: xs = (x :: xs).take (preG rel (rel x) xs + 1) ++ (x :: xs).drop (preG rel (rel x) xs + 1) := (List.take_append_drop _ _).symm
    rcases List.mem_cons.1 hg with rfl | hg
    · refine ⟨?_, by simp⟩
      dsimp only
      conv => rhs; rw [hsp, List.filter_append]
      rw [List.filter_eq_self.2 fun y hy => by simpa using hte y hy, List.filter_eq_nil_iff.2 fun y hy => by have := hgt y hy; simp; omega, List.append_nil]
    · obtain ⟨i1, i2⟩ := eachG_flt rel n _ (by simp at hn ⊢; omega) hd g hg
      refine ⟨?_, i2⟩
      obtain ⟨y, hy1, hy2⟩ := eachG_mem rel n _ g hg
      have hlt := hgt y hy1
      conv => rhs; rw [hsp, List.filter_append]
      rw [List.filter_eq_nil_iff.2 (fun z hz => by have := hte z hz; simp; omega), List.nil_append]
      exact i1
theorem eachG_sum (rel : Int → Int) : ∀ (n : Nat) (L : List Int), L.length ≤ n → ((eachG rel n L).map fun g => g.2.length).sum = L.length
  | 0, [], _ => rfl
  | _ + 1, [], _ => rfl
  | n + 1, x :: xs, hn => by
    rw [eachG, List.map_cons, List.sum_cons, eachG_sum rel n _ (by simp at hn ⊢; omega)]
    dsimp only
    have := preG_le rel (rel x) xs
    simp only [List.length_take, List.length_drop, List.length_cons]
    omega
theorem eachG_all (rel : Int → Int) : ∀ (n : Nat) (L : List Int), L.length ≤ n → ∀ x ∈ L, ∃ g ∈ eachG rel n L, g.1 = rel x
  | 0, L, hn, x, hx => by rw [List.eq_nil_of_length_eq_zero (Nat.le_zero.1 hn)] at hx; cases hx
  | _ + 1, [], _, x, hx => by cases hx
  | n + 1, y :: ys, hn, x, hx => by
    rw [eachG]
    rw [← List.take_append_drop (preG rel (rel y) ys + 1) (y :: ys)] at hx
    rcases List.mem_append.1 hx with hx | hx
    · exact ⟨_, List.mem_cons_self, (take_eq x hx).symm⟩
    · obtain ⟨g, h1, h2⟩ := eachG_all rel n _ (by simp at hn ⊢; omega) x hx
      exact ⟨g, List.mem_cons_of_mem _ h1, h2⟩
theorem atI_flt (m : List Jb) (t : Int) : atI m t m.length = (idL m.length).filter fun x => decide (pAtI m x = t) := by
  unfold atI atN idL
  rw [List.filter_map]
  congr 1
  refine List.filter_congr fun j hj => ?_
  have hj := List.mem_range.1 hj
  rw [List.getElem?_eq_getElem hj]
  show decide (m[j].r = t) = decide (pAtI m (j : Int) = t)
  rw [pAtI_nat m j hj]
theorem each_at (m : List Jb) : ∀ g ∈ eachL m, g.2 = atI m g.1 m.length ∧ g.2 ≠ [] := by
  intro g hg
  obtain ⟨h1, h2⟩ := eachG_flt _ _ _ (Nat.le_refl _) (ordL_pw m) g hg
  refine ⟨?_, h2⟩
  rw [h1, atI_flt]
  refine eq_of_sorted (R := fun a b => a < b) (fun a b h h' => by omega) ((ordL_perm m).filter _) ?_ ?_
  · have := (ordL_pw m).filter (fun x => decide (pAtI m x = g.1))
    refine List.Pairwise.imp_of_mem (fun {a b} ha hb h => ?_) this
    have ha := (List.mem_filter.1 ha).2
    have hb := (List.mem_filter.1 hb).2
    simp only [decide_eq_true_eq] at ha hb
    unfold lexL at h
    omega
  · refine List.Pairwise.filter _ ?_
    unfold idL
    rw [List.pairwise_map]
    exact List.pairwise_lt_range.imp fun h => by omega
theorem each_sum (m : List Jb) : ((eachL m).map fun g => g.2.length).sum = m.length := by
  unfold eachL
  rw [eachG_sum _ _ _ (Nat.le_refl _), ordL_len]
/-- The least one above, told of itself. -/
structure Chr (t : Int) (S : List Int) (o : Option Int) : Prop where
  no : o = none → ∀ r ∈ S, r ≤ t
  so : ∀ v, o = some v → v > t ∧ v ∈ S ∧ ∀ r ∈ S, r > t → v ≤ r
theorem Chr.uniq {t : Int} {S : List Int} {o o' : Option Int} (h : Chr t S o) (h' : Chr t S o') : o = o' := by
  cases o with
  | none =>
    cases o' with
    | none => rfl
    | some v => obtain ⟨a, b, _⟩ := h'.so v rfl; have := h.no rfl v b; omega
  | some u =>
    obtain ⟨a, b, c⟩ := h.so u rfl
    cases o' with
    | none => have := h'.no rfl u b; omega
    | some v =>
      obtain ⟨a', b', c'⟩ := h'.so v rfl
      have h1 := c v b' a'
      have h2 := c' u b a
      rw [show u = v by omega]
def nxS (t : Int) (o : Option Int) (r : Int) : Option Int := if r > t then (match o with | none => some r | some v => if r < v then some r else some v) else o
theorem Chr.step {t : Int} {S : List Int} {o : Option Int} (h : Chr t S o) (r : Int) : Chr t (S ++ [r]) (nxS t o r) := by
  unfold nxS
  by_cases hr : r > t
  · rw [if_pos hr]
    cases o with
    | none =>
      refine ⟨fun e => (by cases e), fun v e => ?_⟩
      cases e
      refine ⟨hr, by simp, fun q hq hq2 => ?_⟩
      rcases List.mem_append.1 hq with hq | hq
      · have := h.no rfl q hq; omega
      · simp at hq; omega
    | some u =>
      obtain ⟨a, b, c⟩ := h.so u rfl
      dsimp only
      split
      · refine ⟨fun e => (by cases e), fun v e => ?_⟩
        cases e
        refine ⟨hr, by simp, fun q hq hq2 => ?_⟩
        rcases List.mem_append.1 hq with hq | hq
        · have := c q hq hq2; omega
        · simp at hq; omega
      · refine ⟨fun e => (by cases e), fun v e => ?_⟩
        cases e
        refine ⟨a, List.mem_append_left _ b, fun q hq hq2 => ?_⟩
        rcases List.mem_append.1 hq with hq | hq
        · exact c q hq hq2
        · simp at hq; omega
  · rw [if_neg hr]
    refine ⟨fun e q hq => ?_, fun v e => ?_⟩
    · rcases List.mem_append.1 hq with hq | hq
      · exact h.no e q hq
      · simp at hq; omega
    · obtain ⟨a, b, c⟩ := h.so v e
      refine ⟨a, List.mem_append_left _ b, fun q hq hq2 => ?_⟩
      rcases List.mem_append.1 hq with hq | hq
      · exact c q hq hq2
      · simp at hq; omega
theorem nxtE_chr (m : List Jb) (t : Int) : Chr t (m.map fun j => j.r) (nxtE m t) := by
  have hmem : ∀ r ∈ m.map (fun j : Jb => j.r), ∃ g ∈ eachL m, g.1 = r := fun r hr => by
    obtain ⟨j, hj, rfl⟩ := List.mem_map.1 hr
    obtain ⟨k, hk, rfl⟩ := List.getElem_of_mem hj
    obtain ⟨g, h1, h2⟩ := eachG_all (pAtI m) _ (ordL m) (Nat.le_refl _) (k : Int) ((ordL_perm m).mem_iff.2 (List.mem_map.2 ⟨k, List.mem_range.2 hk, rfl⟩))
    exact ⟨g, h1, by rw [h2, pAtI_nat m k hk]⟩
  have hback : ∀ g ∈ eachL m, g.1 ∈ m.map (fun j : Jb => j.r) := fun g hg => by
    obtain ⟨x, h1, h2⟩ := eachG_mem _ _ _ g hg
    obtain ⟨k, rfl, hk⟩ := idL_mem ((ordL_perm m).mem_iff.1 h1)
    rw [← h2, pAtI_nat m k hk]
    exact List.mem_map.2 ⟨m[k], List.getElem_mem hk, rfl⟩
  have hpw := eachL_pw m
  unfold nxtE
  cases hf : (eachL m).find? (fun g => decide (g.1 > t)) with
  | none =>
    refine ⟨fun _ r hr => ?_, fun v e => by cases e⟩
    obtain ⟨g, h1, h2⟩ := hmem r hr
    have := List.find?_eq_none.1 hf g h1
    simp at this; omega
  | some g =>
    refine ⟨fun e => (by cases e), fun v e => ?_⟩
    cases e
    obtain ⟨h1, i, hi, h2, h3⟩ := List.find?_eq_some_iff_getElem.1 hf
    have h1 : g.1 > t := by simpa using h1
    refine ⟨h1, hback g (h2 ▸ List.getElem_mem hi), fun r hr hrt => ?_⟩
    show g.1 ≤ r
    obtain ⟨g', k1, k2⟩ := hmem r hr
    obtain ⟨q, hq, rfl⟩ := List.getElem_of_mem k1
    by_cases e : q < i
    · have := h3 q e; simp at this; omega
    · by_cases e2 : q = i
      · subst e2; rw [← k2, h2]; exact Int.le_refl _
      · have := List.pairwise_iff_getElem.1 hpw i q hi hq (by omega)
        rw [h2] at this; omega
def nxF (l : List Jb) (t : Int) (n : Nat) : Option Int := (l.take n).foldl (fun o j => nxS t o j.r) none
theorem nxF_succ (l : List Jb) (t : Int) (n : Nat) (h : n < l.length) : nxF l t (n + 1) = nxS t (nxF l t n) l[n].r := by
  unfold nxF; rw [List.take_succ_eq_append_getElem h, List.foldl_append]; rfl
theorem nxF_chr (l : List Jb) (t : Int) : ∀ n, n ≤ l.length → Chr t ((l.take n).map fun j => j.r) (nxF l t n)
  | 0, _ => ⟨fun _ r hr => by simp at hr, fun v e => by cases e⟩
  | n + 1, h => by
    rw [nxF_succ l t n h, List.take_succ_eq_append_getElem h, List.map_append]
    exact (nxF_chr l t n (by omega)).step _
theorem nxF_eq (l : List Jb) (t : Int) : nxF l t l.length = nxtE l t := by
  have := nxF_chr l t l.length (Nat.le_refl _)
  rw [List.take_length] at this
  exact this.uniq (nxtE_chr l t)
def gotO (o : Option Int) : List PV := [.s (.int .i64 (o.getD 0)), .s (.bool o.isSome)]
theorem nextR_ac (G) (l : List Jb) (t : Int) (hl : l.length ≤ 1000) : AC Try.prog G 34 [fro jbP l, vi t] [] (fun r _ => r = .pag (gotO (nxtE l t))) := by
  rw [← nxF_eq]
  refine AC.body' Try.func34 Try.ntmps34 rfl ?_
  intro cx hd hG
  refine nrmL (k := ?_)
  repeat refine w1 (k := ?_)
  obtain ⟨w0, fz0, β0, df, G0⟩ := cx
  obtain rfl : G0 = G := hG
  refine loopN [(7, 1), (9, 27)] (α := Nat) (fun n => [(6, vi (n : Int))]) (fun n => [(4, .pcells 75 (gotO none)), (5, .pcells 75 (gotO (nxF l t n)))]) (fun n => l.length - n) (fun n => n ≤ l.length) (x0 := 0) (h0 := by first | omega | simp | (refine ⟨?_, ?_⟩ <;> first | omega | simp)) (hr := ?_)
  intro n hI
  refine nrmL (k := ?_)
  repeat refine w1 (k := ?_)
  refine condN (h1 := fun h => ?_) (h0 := fun h => ?_)
  ·
    have hn : n < l.length := by omega
    have e := nxF_succ l t n hn
    unfold nxS at e
    by_cases c : l[n].r > t
    ·
      rw [if_pos c] at e
      cases ho : nxF l t n with
      | none =>
        rw [ho] at e
        dsimp only at e
        dsimp only [gotO, Option.getD_none, Option.isSome_none]
        repeat refine w1 (k := ?_)
        refine ⟨n + 1, by omega, by first | omega | (refine ⟨?_, ?_⟩ <;> omega), ?_⟩
        rw [e]
        exact frg
      | some v =>
        rw [ho] at e
        dsimp only at e
        dsimp only [gotO, Option.getD_some, Option.isSome_some]
        by_cases c2 : l[n].r < v
        ·
          rw [if_pos c2] at e
          repeat refine w1 (k := ?_)
          refine ⟨n + 1, by omega, by first | omega | (refine ⟨?_, ?_⟩ <;> omega), ?_⟩
          rw [e]
          exact frg
        ·
          rw [if_neg c2] at e
          repeat refine w1 (k := ?_)
          refine ⟨n + 1, by omega, by first | omega | (refine ⟨?_, ?_⟩ <;> omega), ?_⟩
          rw [e]
          exact frg
    ·
      rw [if_neg c] at e
      repeat refine w1 (k := ?_)
      refine ⟨n + 1, by omega, by first | omega | (refine ⟨?_, ?_⟩ <;> omega), ?_⟩
      rw [e]
      exact frg
  ·
    repeat refine w1 (k := ?_)
    have : n = l.length := by omega
    subst this
    exact ⟨[.pag _], .cons (.ldF rfl rfl rfl rfl) .nil, rfl⟩
