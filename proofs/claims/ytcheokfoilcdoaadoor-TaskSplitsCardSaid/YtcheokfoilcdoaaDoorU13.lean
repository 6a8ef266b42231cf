/- Sets whose urgencies are all apart. -/
import Derived.Test.YtcheokfoilcdoaaDoorU12
set_option linter.all false
set_option maxRecDepth 2000
set_option maxHeartbeats 8000000
namespace Go.Proofs.Vl
open Go Go.RowKit
attribute [local irreducible] AWp OpTo Run DL Val UN DR AC Le thn inb nog
attribute [local irreducible] els nxO
theorem pv_inj8 (n : Nat) (turn : Int) (hn : 1 ≤ n ∧ n ≤ 8) (i j : Nat) (hi : i < n) (hj : j < n) (h : pvT n turn i = pvT n turn j) : i = j := by
  unfold pvT at h
  have hr := emod_b turn n (by omega)
  generalize turn % (n : Int) = r at *
  unfold turnsI at h
  have : n = 1 ∨ n = 2 ∨ n = 3 ∨ n = 4 ∨ n = 5 ∨ n = 6 ∨ n = 7 ∨ n = 8 := by omega
  split at h
  · rcases this with rfl | rfl | rfl | rfl | rfl | rfl | rfl | rfl <;> omega
  · rcases this with rfl | rfl | rfl | rfl | rfl | rfl | rfl | rfl <;> omega
def Apart (l : List Tk) : Prop := ∀ i j (hi : i < l.length) (hj : j < l.length), l[i].p = l[j].p → i = j
theorem set_apart (l : List Sp) (turn : Int) (hl : l.length ≤ maxLen) : Apart (setL l 8 turn) := by
  intro i j hi hj h
  have hb := set_b l 8 turn hl (by decide)
  have e : (setL l 8 turn).length = (((sp0 l turn).take (8 : Int).toNat).mapIdx mkT).length := by simp [setL]
  have at_ : ∀ k (hk : k < (setL l 8 turn).length), (setL l 8 turn)[k].p = pvT (setL l 8 turn).length turn k := fun k hk => by
    rw [e]; simp only [setL, List.getElem_mapIdx]
  rw [at_ i hi, at_ j hj] at h
  exact pv_inj8 _ turn ⟨hb.1, by omega⟩ i j hi hj h
theorem lex_apart {l : List Tk} (h : Apart l) {j k : Nat} (hj : j < l.length) (hk : k < l.length) : lexL (pAtI l) (j : Int) (k : Int) ↔ l[j].p < l[k].p := by
  unfold lexL
  rw [pAtI_nat l j hj, pAtI_nat l k hk]
  constructor
  · rintro (h1 | ⟨h1, h2⟩)
    · exact h1
    · have := h j k hj hk h1; omega
  · exact .inl
theorem rank_apart {l : List Tk} (h : Apart l) {k : Nat} (hk : k < l.length) : rankL l k = l.countP fun t => decide (t.p < l[k].p) := by
  have e := pick_len l (fun t => decide (t.p < l[k].p)) l.length (Nat.le_refl _)
  rw [List.take_length] at e
  rw [← e]
  unfold rankL pick
  rw [List.countP_eq_length_filter]
  congr 1
  refine List.filter_congr fun j hj => ?_
  have hj := List.mem_range.1 hj
  rw [List.getElem?_eq_getElem hj]
  show decide (lexL (pAtI l) (j : Int) (k : Int)) = decide (l[j].p < l[k].p)
  exact decide_eq_decide.2 (lex_apart h hj hk)
theorem apart_pw {l : List Tk} (h : Apart l) : l.Pairwise (fun a b => a.p ≠ b.p) := by
  rw [List.pairwise_iff_getElem]
  intro i j hi hj hij e
  have := h i j hi hj e; omega
theorem cnt1 : ∀ {l : List Tk}, l.Pairwise (fun a b => a.p ≠ b.p) → ∀ t ∈ l, l.countP (fun u => decide (u.p = t.p)) = 1
  | [], _, t, ht => by cases ht
  | a :: l, h, t, ht => by
    obtain ⟨h1, h2⟩ := List.pairwise_cons.1 h
    rw [List.countP_cons]
    rcases List.mem_cons.1 ht with rfl | ht
    · have : l.countP (fun u => decide (u.p = t.p)) = 0 := List.countP_eq_zero.2 fun u hu => by simpa using fun e => h1 u hu e.symm
      rw [this]; simp
    · rw [cnt1 h2 t ht, if_neg (by simpa using h1 t ht)]
theorem cnt3 (p : Int) : ∀ l : List Tk, l.countP (fun t => decide (t.p < p)) + l.countP (fun t => decide (t.p > p)) + l.countP (fun t => decide (t.p = p)) = l.length
  | [] => rfl
  | a :: l => by
    have := cnt3 p l
    simp only [List.countP_cons, List.length_cons, decide_eq_true_eq]
    by_cases h1 : a.p < p
    · have h2 : ¬ a.p > p := by omega
      have h3 : ¬ a.p = p := by omega
      simp only [h1, h2, h3, if_true, if_false]; omega
    · by_cases h2 : a.p > p
      · have h3 : ¬ a.p = p := by omega
        simp only [h1, h2, h3, if_true, if_false]; omega
      · have h3 : a.p = p := by omega
        have h4 : ¬ p < p := by omega
        have h5 : ¬ p > p := by omega
        simp only [h3, h4, h5, if_true, if_false]; omega
theorem cnt_apart {l : List Tk} (h : Apart l) {k : Nat} (hk : k < l.length) : l.countP (fun t => decide (t.p < l[k].p)) + l.countP (fun t => decide (t.p > l[k].p)) + 1 = l.length := by
  have h1 := cnt3 l[k].p l
  rw [cnt1 (apart_pw h) _ (List.getElem_mem hk)] at h1
  exact h1
theorem cntor_apart {l : List Tk} (h : Apart l) {k : Nat} (hk : k < l.length) : l.countP (fun t => decide (t.p < l[k].p) || decide (t.p > l[k].p)) + 1 = l.length := by
  rw [← cnt_apart h hk]
  congr 1
  generalize l[k].p = p
  clear hk h
  induction l with
  | nil => rfl
  | cons a l ih =>
    simp only [List.countP_cons, ih]
    by_cases h1 : a.p < p
    · have h2 : ¬ a.p > p := by omega
      simp [h1, h2]; omega
    · by_cases h2 : a.p > p
      · simp [h1, h2]; omega
      · simp [h1, h2]
theorem ordL_at (l : List Tk) (i : Nat) (hi : i < (ordL l).length) : ∃ k : Nat, k < l.length ∧ (ordL l)[i] = (k : Int) ∧ rankL l k = i := by
  have hm : (ordL l)[i] ∈ idL l.length := (sortL_perm _ _).mem_iff.1 (List.getElem_mem hi)
  obtain ⟨k, he, hk⟩ := idL_mem hm
  refine ⟨k, hk, he, ?_⟩
  have hpw : (ordL l).Pairwise (fun a b => decide (lexL (pAtI l) a b) = true) := by
    unfold ordL sortL
    rw [List.pairwise_reverse]
    exact (sort_pw (pAtI l) l.length).imp fun h => by simpa using h
  have hc := count_at (lt := fun a b => decide (lexL (pAtI l) a b)) (fun a => by simp [lexL]) (fun a b h => by
    simp only [decide_eq_true_eq, decide_eq_false_iff_not] at h ⊢
    unfold lexL at h ⊢; omega) (ordL l) hpw i hi
  rw [he] at hc
  rw [← hc]
  have : (ordL l).countP (fun z => decide (lexL (pAtI l) z (k : Int))) = (idL l.length).countP (fun z => decide (lexL (pAtI l) z (k : Int))) := (sortL_perm _ _).countP_eq _
  rw [this]
  unfold rankL idL
  rw [List.countP_map]; rfl
theorem rank_lt {l : List Tk} (h : Apart l) {a b : Nat} (ha : a < l.length) (hb : b < l.length) (hr : rankL l a < rankL l b) : l[a].p < l[b].p := by
  refine Int.lt_of_not_ge fun hge => ?_
  rw [rank_apart h ha, rank_apart h hb] at hr
  have : l.countP (fun t => decide (t.p < l[b].p)) ≤ l.countP (fun t => decide (t.p < l[a].p)) := List.countP_mono_left fun t _ ht => by
    simp only [decide_eq_true_eq] at ht ⊢; omega
  omega
theorem or_bits (l : List Tk) (f g : Tk → Bool) : bitsN l f l.length ||| bitsN l g l.length = bitsN l (fun t => f t || g t) l.length := by
  refine Nat.eq_of_testBit_eq fun j => ?_
  rw [Nat.testBit_or, bitsN_bit, bitsN_bit, bitsN_bit]
  cases l[j]? with
  | none => simp
  | some t => simp only [Option.any_some]; cases decide (j < l.length) <;> cases decide (j < 1024) <;> simp
theorem minus_bits (l : List Tk) (f g : Tk → Bool) (h : ∀ t, f t = true → g t = false) : andN (bitsN l f l.length) (bitsN l g l.length) = bitsN l f l.length := by
  refine Nat.eq_of_testBit_eq fun j => ?_
  rw [andN_bit, bitsN_bit, bitsN_bit]
  cases l[j]? with
  | none => simp
  | some t =>
    simp only [Option.any_some]
    cases hf : f t with
    | false => simp
    | true => rw [h t hf]; simp
theorem bits_lt (l : List Tk) (f : Tk → Bool) : bitsN l f l.length < TOP := by
  refine lt_of_bitsN (n := 1024) fun j hj => ?_
  rw [bitsN_bit]
  have : ¬ j < 1024 := by omega
  simp [this]
