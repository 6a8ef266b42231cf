/- Sets by numbers are fine. -/
import Derived.Test.YtlegdnmebgfjbaaDoorSD13
set_option linter.all false
set_option maxRecDepth 2000
set_option maxHeartbeats 8000000
namespace Go.Proofs.Vl
open Go Go.RowKit
attribute [local irreducible] AWp OpTo Run DL Val UN DR AC Le thn inb nog
theorem bys_bsOf (l : List Int) (h : ∀ x ∈ l, 0 ≤ x ∧ x < 256) : bys (bsOf l) = l := by
  unfold bys
  rw [bsOf_data]
  induction l with
  | nil => rfl
  | cons a l ih =>
    rw [List.map_cons, List.map_cons, ih (fun x hx => h x (List.mem_cons_of_mem _ hx))]
    have := h a List.mem_cons_self
    congr 1
    show (((UInt8.ofNat a.toNat).toNat : Nat) : Int) = a
    rw [UInt8.toNat_ofNat']
    omega
theorem letB_low {c : Int} (h : 97 ≤ c ∧ c ≤ 122) : letB c = true := by
  rw [letB_R ⟨by omega, by omega⟩]; unfold letR; simp [h.1, h.2]
theorem goesB_low {c : Int} (h : 97 ≤ c ∧ c ≤ 122) : goesB c = true := by
  unfold goesB; rw [letB_low h]; simp
theorem go_upto (l : List Tk) : ∀ k, k ≤ l.length → (∀ i (hi : i < l.length), i < k → chkT l[i] = 0 ∧ ∀ j (hj : j < l.length), j < i → l[j].nm ≠ l[i].nm ∧ l[j].p ≠ l[i].p) → goAll [] l = goAll (l.take k) (l.drop k)
  | 0, _, _ => by simp
  | k + 1, hk, h => by
    rw [go_upto l k (by omega) (fun i hi hik => h i hi (by omega)), goAll_at l k (by omega)]
    obtain ⟨h1, h2⟩ := h k (by omega) (by omega)
    rw [if_pos h1, if_neg]
    intro ha
    obtain ⟨u, hu, he⟩ := List.any_eq_true.1 ha
    obtain ⟨j, hj, rfl⟩ := List.mem_take_iff_getElem.1 hu
    simp only [Bool.or_eq_true, decide_eq_true_eq] at he
    have := h2 j (by omega) (by omega)
    exact he.elim this.1 this.2
theorem all_fine (l : List Tk) (h0 : 0 < l.length) (h1 : l.length ≤ 1024) (h : ∀ i (hi : i < l.length), chkT l[i] = 0 ∧ ∀ j (hj : j < l.length), j < i → l[j].nm ≠ l[i].nm ∧ l[j].p ≠ l[i].p) : allI l = ((l.length : Int), 0) := by
  unfold allI
  rw [if_neg (by omega), go_upto l l.length (Nat.le_refl _) (fun i hi _ => h i hi), List.drop_length, goAll, List.take_length]
theorem nm2_bys (i : Nat) (h : i < 26) : bys (bsOf [116, 97 + (i : Int)]) = [116, 97 + (i : Int)] := by
  refine bys_bsOf _ fun x hx => ?_
  simp only [List.mem_cons, List.not_mem_nil, or_false] at hx
  rcases hx with rfl | rfl <;> omega
theorem nm2_word (i : Nat) (h : i < 26) : wordB (bys (bsOf [116, 97 + (i : Int)])) = true := by
  rw [nm2_bys i h]
  show (letB 116 && longN goesB [116, 97 + (i : Int)] == 2) = true
  rw [letB_low ⟨by omega, by omega⟩]
  simp only [longN, goesB_low (c := 116) ⟨by omega, by omega⟩, goesB_low (c := 97 + (i : Int)) ⟨by omega, by omega⟩, if_true]
  rfl
theorem pv_inj (n : Nat) (turn : Int) (hn : 1 ≤ n ∧ n ≤ 6) (i j : Nat) (hi : i < n) (hj : j < n) (h : pvT n turn i = pvT n turn j) : i = j := by
  unfold pvT at h
  have hr := emod_b turn n (by omega)
  generalize turn % (n : Int) = r at *
  unfold turnsI at h
  have : n = 1 ∨ n = 2 ∨ n = 3 ∨ n = 4 ∨ n = 5 ∨ n = 6 := by omega
  split at h
  · rcases this with rfl | rfl | rfl | rfl | rfl | rfl <;> omega
  · rcases this with rfl | rfl | rfl | rfl | rfl | rfl <;> omega
theorem pv_b (n : Nat) (turn : Int) (hn : 1 ≤ n ∧ n ≤ 6) (i : Nat) : 1 ≤ pvT n turn i ∧ pvT n turn i ≤ 6 := by
  unfold pvT
  have := emod_b ((i : Int) * turnsI n turn + turn % n) n (by omega)
  omega
theorem mkT_chk (i : Nat) (s : Sp) (p : Int) (hi : i < 26) (hp : 1 ≤ p ∧ p ≤ 6) : chkT { mkT i s with p := p } = 0 := by
  have h1 := emod_b s.c 4 (by decide)
  have h2 := emod_b s.d 11 (by decide)
  have h3 := emod_b s.t 7 (by decide)
  have h4 := emod_b s.q (1 + s.c % 4) (by omega)
  have h5 := emod_b s.j (1 + s.c % 4 + s.d % 11 - (1 + s.c % 4) + 1) (by omega)
  unfold chkT
  have hs : (bsOf [116, 97 + (i : Int)]).size = 2 := by rw [bsOf_size]; rfl
  show chkI (bsOf [116, 97 + (i : Int)]) _ _ _ _ _ p = 0
  rw [chk_fit (nm2_word i hi) (by rw [hs]; unfold ariP; simp only [mkT]; omega)]
  rw [if_pos]
  simp only [mkT]
  omega
theorem set_at (l : List Sp) (most turn : Int) (i : Nat) (hi : i < (setL l most turn).length) : ∃ s, (setL l most turn)[i] = { mkT i s with p := pvT (setL l most turn).length turn i } := by
  have e : (setL l most turn).length = (((sp0 l turn).take most.toNat).mapIdx mkT).length := by simp [setL]
  rw [e]
  exact ⟨((sp0 l turn).take most.toNat)[i]'(by simpa [setL] using hi), by simp only [setL, List.getElem_mapIdx]⟩
theorem set_fine (l : List Sp) (most turn : Int) (hl : l.length ≤ maxLen) (hm : 1 ≤ most ∧ most ≤ 6) : allI (setL l most turn) = (((setL l most turn).length : Int), 0) ∧ ∀ i j (hi : i < (setL l most turn).length) (hj : j < (setL l most turn).length), i ≠ j → (setL l most turn)[i].p ≠ (setL l most turn)[j].p ∧ (setL l most turn)[i].nm ≠ (setL l most turn)[j].nm := by
  have hb := set_b l most turn hl hm.1
  have hd : ∀ i j (hi : i < (setL l most turn).length) (hj : j < (setL l most turn).length), i ≠ j → (setL l most turn)[i].p ≠ (setL l most turn)[j].p ∧ (setL l most turn)[i].nm ≠ (setL l most turn)[j].nm := by
    intro i j hi hj hij
    obtain ⟨s, es⟩ := set_at l most turn i hi
    obtain ⟨s', es'⟩ := set_at l most turn j hj
    rw [es, es']
    refine ⟨fun h => hij (pv_inj _ turn ⟨hb.1, by omega⟩ i j hi hj h), fun h => ?_⟩
    have h2 : bsOf [116, 97 + (i : Int)] = bsOf [116, 97 + (j : Int)] := h
    have h3 := congrArg bys h2
    rw [nm2_bys i (by omega), nm2_bys j (by omega)] at h3
    simp only [List.cons.injEq, and_true, true_and] at h3
    omega
  refine ⟨all_fine _ (by omega) (by omega) fun i hi => ⟨?_, fun j hj hji => ?_⟩, hd⟩
  · obtain ⟨s, es⟩ := set_at l most turn i hi
    rw [es]
    exact mkT_chk i s _ (by omega) (pv_b _ turn ⟨hb.1, by omega⟩ i)
  · obtain ⟨h1, h2⟩ := hd j i hj hi (by omega)
    exact ⟨h2, h1⟩
theorem set_is (l : List Sp) (most turn : Int) (hl : l.length ≤ maxLen) (hm : 1 ≤ most ∧ most ≤ 6) (k : Nat) (hk : k < (setL l most turn).length) : isB (setL l most turn) (k : Int) = true := by
  unfold isB
  rw [(set_fine l most turn hl hm).1]
  simp; omega
