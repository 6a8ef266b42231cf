/- Releases, one by one. -/
import Derived.Test.YtekkpgfklhhacaaP5
import Derived.Test.YtekkpgfklhhacaaE4
set_option linter.all false
set_option maxRecDepth 2000
set_option maxHeartbeats 8000000
namespace Go.Proofs.Vl
open Go Go.RowKit
attribute [local irreducible] AWp OpTo Run DL Val UN DR AC Le thn inb nog
def preG (rel : Int → Int) (t : Int) : List Int → Nat
  | [] => 0
  | y :: ys => if rel y = t then preG rel t ys + 1 else 0
theorem preG_le (rel : Int → Int) (t : Int) : ∀ l, preG rel t l ≤ l.length
  | [] => Nat.le_refl _
  | y :: ys => by
    unfold preG
    split
    · have := preG_le rel t ys; simp; omega
    · exact Nat.zero_le _
theorem preG_lt (rel : Int → Int) (t : Int) : ∀ l (k : Nat), k < preG rel t l → ∃ h : k < l.length, rel l[k] = t
  | [], k, h => by cases h
  | y :: ys, k, h => by
    unfold preG at h
    split at h
    · rename_i e
      cases k with
      | zero => exact ⟨by simp, e⟩
      | succ k =>
        obtain ⟨h1, h2⟩ := preG_lt rel t ys k (by omega)
        exact ⟨by simpa using h1, by simpa using h2⟩
    · cases h
theorem preG_at (rel : Int → Int) (t : Int) : ∀ l (h : preG rel t l < l.length), rel (l[preG rel t l]) ≠ t
  | [], h => by simp [preG] at h
  | y :: ys, h => by
    by_cases e : rel y = t
    · have e2 : preG rel t (y :: ys) = preG rel t ys + 1 := by rw [preG, if_pos e]
      simp only [e2] at h ⊢
      simpa using preG_at rel t ys (by simpa using h)
    · have e2 : preG rel t (y :: ys) = 0 := by rw [preG, if_neg e]
      simp only [e2] at h ⊢
      exact e
def eachG (rel : Int → Int) : Nat → List Int → List (Int × List Int)
  | 0, _ => []
  | _ + 1, [] => []
  | n + 1, x :: xs => (rel x, (x :: xs).take (preG rel (rel x) xs + 1)) :: eachG rel n ((x :: xs).drop (preG rel (rel x) xs + 1))
theorem eachG_fuel (rel : Int → Int) : ∀ (n : Nat) (l : List Int), l.length ≤ n → eachG rel n l = eachG rel l.length l
  | 0, [], _ => rfl
  | n + 1, [], _ => rfl
  | n + 1, x :: xs, h => by
    have h2 : ((x :: xs).drop (preG rel (rel x) xs + 1)).length ≤ xs.length := by simp
    rw [List.length_cons, eachG, eachG, eachG_fuel rel n _ (by simp at h; omega), eachG_fuel rel xs.length _ h2]
theorem eachG_cons (rel : Int → Int) (x : Int) (xs : List Int) : eachG rel (x :: xs).length (x :: xs) = (rel x, (x :: xs).take (preG rel (rel x) xs + 1)) :: eachG rel ((x :: xs).drop (preG rel (rel x) xs + 1)).length ((x :: xs).drop (preG rel (rel x) xs + 1)) := by
  rw [List.length_cons, eachG, eachG_fuel rel xs.length _ (by simp)]
def eachL (m : List Jb) : List (Int × List Int) := eachG (pAtI m) (ordL m).length (ordL m)
def yE (l : List (Int × List Int)) : List YV := l.map fun g => ⟨[vi g.1], some (3, 1, g.2.map (pvI .i64))⟩
theorem yE_len (l) : (yE l).length = l.length := by simp [yE]
theorem yE_at (l : List (Int × List Int)) (i : Nat) (h : i < l.length) : (yE l)[i]? = some ⟨[vi l[i].1], some (3, 1, l[i].2.map (pvI .i64))⟩ := by simp [yE, h]
theorem yE_get {l : List (Int × List Int)} {i : Nat} {y : YV} (h : (yE l)[i]? = some y) : ∃ hi : i < l.length, y = ⟨[vi l[i].1], some (3, 1, l[i].2.map (pvI .i64))⟩ := by
  have hi : i < l.length := by have := (List.getElem?_eq_some_iff.1 h).1; rwa [yE_len] at this
  rw [yE_at l i hi] at h
  exact ⟨hi, (Option.some.inj h).symm⟩
theorem cloneN_ac (G) (l : List Int) (hl : l.length ≤ 1000) : AC Try.prog G 39 [fro (pvI .i64) l] [] (fun r os => r = .c (.own 5 1 l.length) ∧ find os 5 = some (.row 3 1 (l.map (pvI .i64)))) := by
  refine AC.body' Try.func39 Try.ntmps39 rfl ?_
  intro cx hd hG
  refine nrmL (k := ?_)
  repeat refine w1 (k := ?_)
  refine OpTo.nilS rfl rfl Try.underlying40 fun b hb => ?_
  refine nrm (k := ?_)
  cases b
  ·
    repeat refine w1 (k := ?_)
    refine litA (pvI .i64) [] (h := ?_)
    repeat refine w1 (k := ?_)
    refine appA 5 8 (pvI .i64) [] l (h := ?_)
    repeat refine w1 (k := ?_)
    exact ⟨[.c _], .cons (.tmp rfl) .nil, rfl, rfl⟩
  ·
    have h0 : l = [] := by
      cases l with
      | nil => rfl
      | cons a l => cases hb (by simp)
    subst h0
    first | ((iterate 2 (refine w1 (k := ?_))); refine seedA 2 5 1 3 (h := ?_); (repeat (refine w1 (k := ?_))); exact ⟨[.c _], .cons (.tmp rfl) .nil, rfl, rfl⟩) | ((iterate 3 (refine w1 (k := ?_))); refine seedA 2 5 1 3 (h := ?_); (repeat (refine w1 (k := ?_))); exact ⟨[.c _], .cons (.tmp rfl) .nil, rfl, rfl⟩) | ((iterate 4 (refine w1 (k := ?_))); refine seedA 2 5 1 3 (h := ?_); (repeat (refine w1 (k := ?_))); exact ⟨[.c _], .cons (.tmp rfl) .nil, rfl, rfl⟩) | ((iterate 5 (refine w1 (k := ?_))); refine seedA 2 5 1 3 (h := ?_); (repeat (refine w1 (k := ?_))); exact ⟨[.c _], .cons (.tmp rfl) .nil, rfl, rfl⟩) | ((iterate 6 (refine w1 (k := ?_))); refine seedA 2 5 1 3 (h := ?_); (repeat (refine w1 (k := ?_))); exact ⟨[.c _], .cons (.tmp rfl) .nil, rfl, rfl⟩) | ((iterate 7 (refine w1 (k := ?_))); refine seedA 2 5 1 3 (h := ?_); (repeat (refine w1 (k := ?_))); exact ⟨[.c _], .cons (.tmp rfl) .nil, rfl, rfl⟩) | ((iterate 8 (refine w1 (k := ?_))); refine seedA 2 5 1 3 (h := ?_); (repeat (refine w1 (k := ?_))); exact ⟨[.c _], .cons (.tmp rfl) .nil, rfl, rfl⟩) | ((iterate 9 (refine w1 (k := ?_))); refine seedA 2 5 1 3 (h := ?_); (repeat (refine w1 (k := ?_))); exact ⟨[.c _], .cons (.tmp rfl) .nil, rfl, rfl⟩) | ((iterate 10 (refine w1 (k := ?_))); refine seedA 2 5 1 3 (h := ?_); (repeat (refine w1 (k := ?_))); exact ⟨[.c _], .cons (.tmp rfl) .nil, rfl, rfl⟩) | ((iterate 11 (refine w1 (k := ?_))); refine seedA 2 5 1 3 (h := ?_); (repeat (refine w1 (k := ?_))); exact ⟨[.c _], .cons (.tmp rfl) .nil, rfl, rfl⟩) | ((iterate 12 (refine w1 (k := ?_))); refine seedA 2 5 1 3 (h := ?_); (repeat (refine w1 (k := ?_))); exact ⟨[.c _], .cons (.tmp rfl) .nil, rfl, rfl⟩) | ((iterate 13 (refine w1 (k := ?_))); refine seedA 2 5 1 3 (h := ?_); (repeat (refine w1 (k := ?_))); exact ⟨[.c _], .cons (.tmp rfl) .nil, rfl, rfl⟩)
def eaF : Nat := 38
theorem each_ac (G) (m : List Jb) : AC Try.prog G 21 [fro jbP m] [] (fun r _ => r = .c (.fn eaF [.fz [.fro (m.map jbP)]])) := by
  refine AC.body' Try.func21 Try.ntmps21 rfl ?_
  intro cx hd hG
  refine nrmL (k := ?_)
  iterate 5 refine w1 (k := ?_)
  first | refine zbA 1 (h := ?_) | refine zbO 1 (h := ?_)
  repeat refine w1 (k := ?_)
  exact ⟨[.c _], .cons (.tmp rfl) .nil, rfl⟩
theorem pvI_solid (l : List Int) : ∀ cs ∈ l.map (pvI .i64), ∀ z ∈ cs, z.solid = true := by
  intro cs h x hx
  obtain ⟨t, _, rfl⟩ := List.mem_map.1 h
  simp only [pvI, List.mem_cons, List.not_mem_nil, or_false] at hx
  subst hx
  rfl
theorem each_it (G) (m : List Jb) (hm : m.length ≤ 16) : IC Try.prog G eaF [.c (.eptr [.fro (m.map jbP)])] (yE (eachL m)) := by
  unfold IC
  refine GC.body Try.func38 Try.ntmps38 rfl (fun _ => rfl) ?_
  intro cx l J Jx hd hG hrd hml hbs hrr hR
  obtain ⟨w0, fz0, β0, df, G0, rd, rr, ml, bs⟩ := cx
  dsimp only at hd hG hrd hml hbs hrr hR
  subst hd hG hrd hml hbs hrr
  refine nrmL (k := ?_)
  repeat refine w1 (k := ?_)
  have hml2 : m.length ≤ maxLen := by rw [maxLen]; omega
  have hol : (ordL m).length = m.length := by unfold ordL; rw [sortL_len, idL_len]
  have hmem : ∀ x ∈ ordL m, ∃ k : Nat, x = k ∧ k < m.length := fun x hx => idL_mem ((sortL_perm _ _).mem_iff.1 hx)
  refine callRowN (hc := by exact order_ac _ m (by omega) ) (hso := by exact  pvI_ok _) (h := ?_)
  refine nrm (k := ?_)
  simp only [show ((TK : Nat) == 7) = false from rfl, cond_false]
  repeat refine w1 (k := ?_)
  first | refine zA 7 (h := ?_) | refine zO 7 (h := ?_) | refine zL 7 (h := ?_) | refine zL3 7 (h := ?_)
  dsimp only [yv]
  simp only [show ((TK : Nat) == 7) = false from rfl, cond_false]
  refine nrm (k := ?_)
  refine loopN [(4, 2), (8, 39)] (α := Nat × List Int) (fun y => [(3, fro (pvI .i64) y.2)]) (fun y => [(TK, .tok fz0 (J y.1))]) (fun y => y.2.length) (fun y => eachG (pAtI m) y.2.length y.2 = (eachL m).drop y.1 ∧ y.1 ≤ (eachL m).length ∧ (∀ x ∈ y.2, ∃ k : Nat, x = k ∧ k < m.length) ∧ y.2.length ≤ m.length) (x0 := (0, ordL m)) (h0 := by exact ⟨rfl, Nat.zero_le _, hmem, by rw [hol]; exact Nat.le_refl _⟩) (hr := ?_)
  intro y hI
  refine nrmL (k := ?_)
  obtain ⟨i, L⟩ := y
  obtain ⟨h1, h2, h3, h4⟩ := hI
  dsimp only at h1 h2 h3 h4
  repeat refine w1 (k := ?_)
  simp only [List.length_map]
  repeat refine w1 (k := ?_)
  refine condN (h1 := fun h => ?_) (h0 := fun h => ?_)
  ·
    obtain ⟨x, xs, hL⟩ : ∃ x xs, L = x :: xs := by
      cases L with
      | nil => simp at h
      | cons x xs => exact ⟨x, xs, rfl⟩
    have hL0 : 0 < L.length := by rw [hL]; simp
    obtain ⟨k0, hk0, hk1⟩ := h3 x (by rw [hL]; exact List.mem_cons_self)
    have hx0 : L[0] = (k0 : Int) := by simp only [hL]; exact hk0
    have hp0 : pAtI m x = m[k0].r := by rw [hk0]; exact pAtI_nat m k0 hk1
    rw [hL, eachG_cons, ← hL] at h1
    obtain ⟨K, hK⟩ : ∃ K, K = preG (pAtI m) (pAtI m x) xs + 1 := ⟨_, rfl⟩
    have hK1 : K ≤ L.length := by have := preG_le (pAtI m) (pAtI m x) xs; rw [hL]; simp; omega
    have hKlt : ∀ j (hj : j < K), ∃ h : j < L.length, pAtI m (L[j]) = pAtI m x := fun j hj => by
      subst hL
      cases j with
      | zero => exact ⟨by simp, rfl⟩
      | succ j =>
        obtain ⟨g1, g2⟩ := preG_lt (pAtI m) (pAtI m x) xs j (by omega)
        exact ⟨by simpa using g1, by simpa using g2⟩
    have hKat : ∀ (h : K < L.length), pAtI m (L[K]) ≠ pAtI m x := fun h => by
      subst hL hK
      simpa using preG_at (pAtI m) (pAtI m x) xs (by simpa using h)
    have hi : i < (eachL m).length := by
      refine Nat.lt_of_not_le fun hk => ?_
      rw [List.drop_eq_nil_of_le hk] at h1; cases h1
    rw [List.drop_eq_getElem_cons hi, ← hK] at h1
    obtain ⟨h5, h6⟩ := List.cons.inj h1
    have hy := yE_at (eachL m) i hi
    rw [← h5] at hy
    have hK0 : 1 ≤ K := by omega
    clear hK
    repeat refine w1 (k := ?_)
    simp only [hx0]
    repeat refine w1 (k := ?_)
    refine cutIN [(18, 18)] (α := Unit) (fun u => [(5, vi (K : Int))]) (fun u => [(TK, .tok fz0 (J i))]) (fun u => True) ?_ (fun u hI => ?_)
    ·
      refine loopN [(18, 18)] (α := Nat) (fun k => [(5, vi (k : Int))]) (fun k => [(TK, .tok fz0 (J i))]) (fun k => K - k) (fun k => 1 ≤ k ∧ k ≤ K) (x0 := 1) (h0 := by first | omega | simp | (refine ⟨?_, ?_⟩ <;> first | omega | simp)) (hr := ?_)
      intro k hI
      refine nrmL (k := ?_)
      repeat refine w1 (k := ?_)
      simp only [List.length_map]
      by_cases c : k < L.length
      ·
        obtain ⟨q, hq1, hq2⟩ := h3 _ (List.getElem_mem c)
        have hq3 := pAtI_nat m q hq2
        rw [show decide ((k : Int) < (L.length : Int)) = true from decide_eq_true (by omega)]
        repeat refine w1 (k := ?_)
        simp only [hq1]
        repeat refine w1 (k := ?_)
        by_cases c2 : k < K
        ·
          obtain ⟨_, g⟩ := hKlt k c2
          rw [hq1, hq3, hp0] at g
          simp only [g, beq_self_eq_true]
          repeat refine w1 (k := ?_)
          refine ⟨k + 1, by omega, by first | omega | (refine ⟨?_, ?_⟩ <;> omega), frg⟩
        ·
          have e : k = K := by omega
          subst e
          have g := hKat c
          rw [hq1, hq3, hp0] at g
          rw [show (m[q].r == m[k0].r) = false from beq_eq_false_iff_ne.2 g]
          repeat refine w1 (k := ?_)
          refine ⟨(), by first | rfl | omega | trivial | (refine ⟨?_, ?_⟩ <;> first | rfl | omega), frg⟩
      ·
        have e : k = K := by omega
        subst e
        rw [show decide ((k : Int) < (L.length : Int)) = false from decide_eq_false (by omega)]
        repeat refine w1 (k := ?_)
        refine ⟨(), by first | rfl | omega | trivial | (refine ⟨?_, ?_⟩ <;> first | rfl | omega), frg⟩
    refine nrmL (k := ?_)
    repeat refine w1 (k := ?_)
    first | refine ofN (hv := by exact Val.cutN (f := pvI .i64) (l := L) (a := 0) (b := K) rfl rfl rfl Bnd.no (Bnd.at (v := (K : Int)) (k := .i64) rfl rfl (by omega)) (by omega) (by omega) (fun _ => rfl)) (h := ?_) | refine dlN (hv := by exact Val.cutN (f := pvI .i64) (l := L) (a := 0) (b := K) rfl rfl rfl Bnd.no (Bnd.at (v := (K : Int)) (k := .i64) rfl rfl (by omega)) (by omega) (by omega) (fun _ => rfl)) (h := ?_) | refine dlgN (hv := by exact Val.cutN (f := pvI .i64) (l := L) (a := 0) (b := K) rfl rfl rfl Bnd.no (Bnd.at (v := (K : Int)) (k := .i64) rfl rfl (by omega)) (by omega) (by omega) (fun _ => rfl)) (h := ?_) | refine ofN (hv := by exact Val.cutN (f := pvI .i64) (l := L) (a := 0) (b := K) rfl rfl rfl Bnd.no (Bnd.at (v := (K : Int)) (k := .i64) rfl rfl (by omega)) (by omega) (by omega) (fun _ => rfl)) (h := ?_)
    repeat refine w1 (k := ?_)
    refine callRowN (hc := by exact cloneN_ac _ (L.take K) (by simp; omega) ) (hso := by exact  pvI_ok _) (h := ?_)
    refine nrm (k := ?_)
    simp only [show ((TK : Nat) == 41) = false from rfl, cond_false]
    repeat refine w1 (k := ?_)
    refine OpTo.yieldR (i := i) (k := 41) [.tmp 37] hR hy rfl rfl rfl rfl rfl rfl rfl rfl (by rw [List.length_map]; rfl) rfl ?_ (by decide) rfl rfl rfl (by rw [hp0]; rfl) rfl ?_ ?_
    ·
      exact pvI_solid _
    ·
      refine nrm (k := ?_)
      simp only [show ((TK : Nat) == 41) = false from rfl, show ((41 : Nat) == TK) = false from rfl, beq_self_eq_true, cond_false, cond_true]
      repeat refine w1 (k := ?_)
      first | refine ofN (hv := by exact Val.cutN (f := pvI .i64) (l := L) (a := K) (b := L.length) rfl rfl rfl (Bnd.at (v := (K : Int)) (k := .i64) rfl rfl (by omega)) (.inl ⟨rfl, rfl⟩) (by omega) (by omega) (fun _ => rfl)) (h := ?_) | refine dlN (hv := by exact Val.cutN (f := pvI .i64) (l := L) (a := K) (b := L.length) rfl rfl rfl (Bnd.at (v := (K : Int)) (k := .i64) rfl rfl (by omega)) (.inl ⟨rfl, rfl⟩) (by omega) (by omega) (fun _ => rfl)) (h := ?_) | refine dlgN (hv := by exact Val.cutN (f := pvI .i64) (l := L) (a := K) (b := L.length) rfl rfl rfl (Bnd.at (v := (K : Int)) (k := .i64) rfl rfl (by omega)) (.inl ⟨rfl, rfl⟩) (by omega) (by omega) (fun _ => rfl)) (h := ?_) | refine ofN (hv := by exact Val.cutN (f := pvI .i64) (l := L) (a := K) (b := L.length) rfl rfl rfl (Bnd.at (v := (K : Int)) (k := .i64) rfl rfl (by omega)) (.inl ⟨rfl, rfl⟩) (by omega) (by omega) (fun _ => rfl)) (h := ?_)
      rw [List.take_length]
      repeat refine w1 (k := ?_)
      have hdl : (L.drop K).length < L.length := by simp; omega
      refine ⟨(i + 1, L.drop K), by dsimp only; omega, by exact ⟨h6, hi, fun x hx => h3 x (List.mem_of_mem_drop hx), by dsimp only; omega⟩, frg⟩
    ·
      refine nrm (k := ?_)
      simp only [show ((TK : Nat) == 41) = false from rfl, show ((41 : Nat) == TK) = false from rfl, beq_self_eq_true, cond_false, cond_true]
      repeat refine w1 (k := ?_)
      exact ⟨[], .nil, rfl, rfl, .inr ⟨trivial, rfl⟩⟩
  ·
    have h0 : L = [] := List.eq_nil_of_length_eq_zero (by omega)
    subst h0
    repeat refine w1 (k := ?_)
    have hi : i = (eachL m).length := by
      have := congrArg List.length h1
      simp [eachG] at this; omega
    refine ⟨[], .nil, rfl, rfl, .inl ⟨trivial, ?_⟩⟩
    rw [yE_len, ← hi]; rfl
