/- Many tasks: what CheckAll answers of them. -/
import Derived.Test.YtcheokfoilcdoaaK12
import Derived.Test.YtcheokfoilcdoaaT2
set_option linter.all false
set_option maxHeartbeats 8000000
namespace Go.Proofs.Vl
open Go Go.RowKit
attribute [local irreducible] AWp OpTo Run DL Val UN DR AC Le thn inb nog
theorem bys_bsOf (l : List Int) (h : ∀ x ∈ l, 0 ≤ x ∧ x < 256) : bys (bsOf l) = l := by
  unfold bys
  rw [bsOf_data]
  induction l with
  | nil => rfl
  | cons a l ih =>
    rw [List.map_cons, List.map_cons, ih (fun x hx => h x (List.mem_cons_of_mem _ hx))]
    have := h a List.mem_cons_self
    congr 1
    show (((UInt8.ofNat a.toNat).toNat : Nat) : Int) = a
    rw [UInt8.toNat_ofNat']
    omega
def mkM (n i : Nat) : Tk := ⟨bsOf [110, 97 + (i : Int) % 26, 97 + (i : Int) / 26 % 26, 97 + (i : Int) / 676], 1, 1, 1, 0, 1, (n : Int) - i⟩
def many (n : Nat) : List Tk := (List.range n).map (mkM n)
theorem many_len (n : Nat) : (many n).length = n := by simp [many]
theorem many_at (n i : Nat) (h : i < (many n).length) : (many n)[i] = mkM n i := by simp [many]
theorem mkM_bys (n i : Nat) (h : i < 1030) : bys (mkM n i).nm = [110, 97 + (i : Int) % 26, 97 + (i : Int) / 26 % 26, 97 + (i : Int) / 676] := by
  refine bys_bsOf _ fun x hx => ?_
  simp only [List.mem_cons, List.not_mem_nil, or_false] at hx
  rcases hx with rfl | rfl | rfl | rfl <;> omega
theorem letB_low {c : Int} (h : 97 ≤ c ∧ c ≤ 122) : letB c = true := by
  rw [letB_R ⟨by omega, by omega⟩]; unfold letR; simp [h.1, h.2]
theorem goesB_low {c : Int} (h : 97 ≤ c ∧ c ≤ 122) : goesB c = true := by
  unfold goesB; rw [letB_low h]; simp
theorem mkM_word (n i : Nat) (h : i < 1030) : wordB (bys (mkM n i).nm) = true := by
  rw [mkM_bys n i h]
  show (letB 110 && longN goesB [110, 97 + (i : Int) % 26, 97 + (i : Int) / 26 % 26, 97 + (i : Int) / 676] == 4) = true
  rw [letB_low ⟨by omega, by omega⟩]
  simp only [longN, goesB_low (c := 110) ⟨by omega, by omega⟩, goesB_low (c := 97 + (i : Int) % 26) ⟨by omega, by omega⟩, goesB_low (c := 97 + (i : Int) / 26 % 26) ⟨by omega, by omega⟩, goesB_low (c := 97 + (i : Int) / 676) ⟨by omega, by omega⟩, if_true]
  rfl
theorem mkM_size (n i : Nat) : (mkM n i).nm.size = 4 := by show (bsOf _).size = 4; rw [bsOf_size]; rfl
theorem chk4 (nm : ByteArray) (p : Int) (hw : wordB (bys nm) = true) (hs : nm.size = 4) (h : 1 ≤ p ∧ p ≤ 1030) : chkT ⟨nm, 1, 1, 1, 0, 1, p⟩ = 0 := by
  unfold chkT
  rw [chk_fit hw (by rw [hs]; unfold ariP; dsimp only; omega)]
  dsimp only
  rw [if_pos (by omega)]
theorem mkM_ok (n i : Nat) (hn : n ≤ 1030) (h : i < n) : chkT (mkM n i) = 0 := chk4 _ _ (mkM_word n i (by omega)) (mkM_size n i) (by omega)
theorem mkM_inj (n i j : Nat) (hi : i < 1030) (hj : j < 1030) (h : (mkM n i).nm = (mkM n j).nm) : i = j := by
  have := congrArg bys h
  rw [mkM_bys n i hi, mkM_bys n j hj] at this
  simp only [List.cons.injEq, and_true, true_and] at this
  obtain ⟨h1, h2, h3⟩ := this
  omega
/-- Up to a place all is fine: so it goes on from there. -/
theorem go_upto (l : List Tk) : ∀ k, k ≤ l.length → (∀ i (hi : i < l.length), i < k → chkT l[i] = 0 ∧ ∀ j (hj : j < l.length), j < i → l[j].nm ≠ l[i].nm ∧ l[j].p ≠ l[i].p) → goAll [] l = goAll (l.take k) (l.drop k)
  | 0, _, _ => by simp
  | k + 1, hk, h => by
    rw [go_upto l k (by omega) (fun i hi hik => h i hi (by omega)), goAll_at l k (by omega)]
    obtain ⟨h1, h2⟩ := h k (by omega) (by omega)
    rw [if_pos h1, if_neg]
    intro ha
    obtain ⟨u, hu, he⟩ := List.any_eq_true.1 ha
    obtain ⟨j, hj, rfl⟩ := List.mem_take_iff_getElem.1 hu
    simp only [Bool.or_eq_true, decide_eq_true_eq] at he
    have := h2 j (by omega) (by omega)
    exact he.elim this.1 this.2
theorem all_fine (l : List Tk) (h0 : 0 < l.length) (h1 : l.length ≤ 1024) (h : ∀ i (hi : i < l.length), chkT l[i] = 0 ∧ ∀ j (hj : j < l.length), j < i → l[j].nm ≠ l[i].nm ∧ l[j].p ≠ l[i].p) : allI l = ((l.length : Int), 0) := by
  unfold allI
  rw [if_neg (by omega), go_upto l l.length (Nat.le_refl _) (fun i hi _ => h i hi), List.drop_length, goAll, List.take_length]
theorem all_dup (l : List Tk) (k m : Nat) (hk : k < l.length) (hm : m < k) (h1 : l.length ≤ 1024) (h : ∀ i (hi : i < l.length), i < k → chkT l[i] = 0 ∧ ∀ j (hj : j < l.length), j < i → l[j].nm ≠ l[i].nm ∧ l[j].p ≠ l[i].p) (hc : chkT l[k] = 0) (hd : l[m].nm = l[k].nm ∨ l[m].p = l[k].p) : allI l = ((k : Int), 13) := by
  unfold allI
  rw [if_neg (by omega), go_upto l k (by omega) h, goAll_at l k hk, if_pos hc, if_pos]
  refine List.any_eq_true.2 ⟨l[m], List.mem_take_iff_getElem.2 ⟨m, by omega, rfl⟩, ?_⟩
  simpa using hd
theorem many_d (n i j : Nat) (hn : n ≤ 1030) (hi : i < n) (hj : j < i) : (mkM n j).nm ≠ (mkM n i).nm ∧ (mkM n j).p ≠ (mkM n i).p := by
  refine ⟨fun h => ?_, fun h => ?_⟩
  · have := mkM_inj n j i (by omega) (by omega) h; omega
  · simp only [mkM] at h; omega
theorem many_fine (n : Nat) (h0 : 0 < n) (h1 : n ≤ 1024) : allI (many n) = ((n : Int), 0) := by
  rw [all_fine (many n) (by rw [many_len]; omega) (by rw [many_len]; omega), many_len]
  intro i hi
  rw [many_len] at hi
  rw [many_at]
  refine ⟨mkM_ok n i (by omega) hi, fun j hj hji => ?_⟩
  rw [many_at]
  exact many_d n i j (by omega) hi hji
theorem many_big (n : Nat) (h : 1024 < n) : allI (many n) = (0, 14) := by
  unfold allI; rw [many_len, if_pos (by omega)]
/-- One task's name, or urgency, is that of an earlier one. -/
theorem many_dup (n k m : Nat) (h1 : n ≤ 1024) (hk : k < n) (hm : m < k) (t : Tk) (ht : t = { mkM n k with nm := (mkM n m).nm } ∨ t = { mkM n k with p := (mkM n m).p }) : allI ((many n).set k t) = ((k : Int), 13) := by
  have hl : ((many n).set k t).length = n := by simp [many]
  have hat : ∀ i (hi : i < ((many n).set k t).length), i ≠ k → ((many n).set k t)[i] = mkM n i := by
    intro i hi hne
    rw [List.getElem_set_ne (by omega), many_at]
  have hkk : ((many n).set k t)[k]'(by omega) = t := by simp
  refine all_dup _ k m (by omega) hm (by omega) (fun i hi hik => ?_) ?_ ?_
  · rw [hat i hi (by omega)]
    refine ⟨mkM_ok n i (by omega) (by omega), fun j hj hji => ?_⟩
    rw [hat j hj (by omega)]
    exact many_d n i j (by omega) (by omega) hji
  · rw [hkk]
    rcases ht with rfl | rfl
    · exact chk4 _ _ (mkM_word n m (by omega)) (mkM_size n m) (by dsimp only [mkM]; omega)
    · exact chk4 _ _ (mkM_word n k (by omega)) (mkM_size n k) (by dsimp only [mkM]; omega)
  · rw [hkk, hat m (by omega) (by omega)]
    rcases ht with rfl | rfl
    · exact .inl rfl
    · exact .inr rfl
end Go.Proofs.Vl
