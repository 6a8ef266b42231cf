/- Chapter 18: the document's orders. -/
import Derived.Test.YtkgajiddcljdjaaO12
set_option linter.all false
set_option maxRecDepth 2000
set_option maxHeartbeats 8000000
namespace Go.Proofs.Vl
open Go Go.RowKit
attribute [local irreducible] AWp OpTo Run DL Val UN DR AC Le thn inb nog
def slP {α : Type} (f : α → List PV) (l : List α) : List PV := [.fro (l.map f)]
theorem slP_ok {α : Type} (f : α → List PV) (rows : List (List α)) (m : Bool) (h : m = true) : ∀ cs ∈ rows.map (slP f), ∀ x ∈ cs, pvOk m x = true := by
  intro cs hcs x hx
  obtain ⟨a, _, rfl⟩ := List.mem_map.1 hcs
  simp only [slP, List.mem_singleton] at hx
  subst hx; subst h; rfl
def shX (f x : Int) : Int := if x ≥ f then x + 1 else x
def shR (f : Int) (q : List Int) : List Int := f :: q.map (shX f)
def allR : Nat → List (List Int)
  | 0 => [[]]
  | n + 1 => cat (fun f => (allR n).map (shR (f : Int))) (n + 1)
theorem allR_b : ∀ n, n < 7 → (allR n).length ≤ 720 ∧ (allR n).all (fun q => decide (q.length = n) && q.all fun x => decide (0 ≤ x) && decide (x < 10)) = true := by decide +kernel
theorem refAll_ac (G) : ∀ n : Nat, n ≤ 6 → AC Try.prog G 18 [vi (n : Int)] [] (fun r os => r = .c (.own 13 1 (allR n).length) ∧ find os 13 = some (.row 22 1 ((allR n).map (slP (pvI .i64)))))
  | 0, _ => by
    refine AC.body' Try.func18 Try.ntmps18 rfl ?_
    intro cx hd hG
    refine nrmL (k := ?_)
    repeat refine w1 (k := ?_)
    refine litA (pvI .i64) [] (h := ?_)
    repeat refine w1 (k := ?_)
    first | refine zA 12 (h := ?_) | refine zO 12 (h := ?_) | refine zL 12 (h := ?_) | refine zL3 12 (h := ?_)
    refine litA (slP (pvI .i64)) [[]] (h := ?_)
    repeat refine w1 (k := ?_)
    exact ⟨[.c _], .cons (.tmp rfl) .nil, rfl, rfl⟩
  | n + 1, hn => by
    have ih := refAll_ac G n (by omega)
    obtain ⟨hb1, hb2⟩ := allR_b n (by omega)
    have hb3 : ∀ q ∈ allR n, q.length = n ∧ ∀ x ∈ q, 0 ≤ x ∧ x < 10 := fun q hq => by
      have := List.all_eq_true.1 hb2 q hq
      simp only [Bool.and_eq_true, decide_eq_true_eq, List.all_eq_true] at this
      exact this
    have hcl : ∀ f, (cat (fun f => (allR n).map (shR ((f : Nat) : Int))) f).length = f * (allR n).length := fun f => by
      induction f with
      | zero => simp [cat]
      | succ f ih => rw [cat_succ, List.length_append, ih, List.length_map, Nat.add_mul, Nat.one_mul]
    rw [show allR (n + 1) = cat (fun f => (allR n).map (shR ((f : Nat) : Int))) (n + 1) from rfl]
    obtain ⟨g, hg⟩ : ∃ g : Nat → List (List Int), g = fun f => (allR n).map (shR ((f : Nat) : Int)) := ⟨_, rfl⟩
    rw [← hg] at hcl ⊢
    have hgs : ∀ f, g f = (allR n).map (shR ((f : Nat) : Int)) := fun f => by rw [hg]
    generalize allR n = R at *
    refine AC.body' Try.func18 Try.ntmps18 rfl ?_
    intro cx hd hG
    refine nrmL (k := ?_)
    repeat refine w1 (k := ?_)
    obtain ⟨w0, fz0, β0, df, G0⟩ := cx
    obtain rfl : G0 = G := hG
    rw [show ((((n + 1 : Nat) : Int)) == 0) = false from by rw [beq_eq_false_iff_ne]; omega]
    repeat refine w1 (k := ?_)
    rw [show ((n + 1 : Nat) : Int) - 1 = (n : Int) by omega]
    refine OpTo.callAO (by rfl) (by rfl) (by rfl) (by rfl) ih ?_
    rintro r os' ⟨rfl, hf⟩
    refine ⟨_, .row rfl hf (slP_ok _ _ _ rfl) (by decide) rfl, ?_⟩
    refine nrm (k := ?_)
    repeat refine w1 (k := ?_)
    first | refine zA 16 (h := ?_) | refine zO 16 (h := ?_) | refine zL 16 (h := ?_) | refine zL3 16 (h := ?_)
    repeat refine w1 (k := ?_)
    refine seedA 3 13 1 22 (h := ?_)
    refine loopN [(6, 4), (17, 42)] (α := Nat) (fun f => [(3, .c (.own 13 1 (cat g f).length)), (5, vi (f : Int))]) (fun f => [(13, .row 22 1 ((cat g f).map (slP (pvI .i64))))]) (fun f => n + 1 - f) (fun f => f ≤ n + 1) (x0 := 0) (h0 := by first | omega | simp | (refine ⟨?_, ?_⟩ <;> first | omega | simp)) (hr := ?_)
    intro f hI
    refine nrmL (k := ?_)
    have hfl := hcl f
    repeat refine w1 (k := ?_)
    refine condN (h1 := fun h => ?_) (h0 := fun h => ?_)
    ·
      have hf : f < n + 1 := by omega
      have hs := cat_succ g f
      have hfb : f * R.length ≤ 6 * 720 := Nat.mul_le_mul (by omega) hb1
      repeat refine w1 (k := ?_)
      rw [show (CV.own 13 1 (cat g f).length) = CV.own 13 1 (cat g f ++ (R.take 0).map (shR ((f : Nat) : Int))).length from by simp, show (cat g f).map (slP (pvI .i64)) = (cat g f ++ (R.take 0).map (shR ((f : Nat) : Int))).map (slP (pvI .i64)) from by simp]
      refine loopN [(7, 3), (22, 37)] (α := Nat) (fun i => [(3, .c (.own 13 1 (cat g f ++ (R.take i).map (shR ((f : Nat) : Int))).length)), (6, vi (i : Int))]) (fun i => [(13, .row 22 1 ((cat g f ++ (R.take i).map (shR ((f : Nat) : Int))).map (slP (pvI .i64))))]) (fun i => R.length - i) (fun i => i ≤ R.length) (x0 := 0) (h0 := by first | omega | simp | (refine ⟨?_, ?_⟩ <;> first | omega | simp)) (hr := ?_)
      intro i hI
      refine nrmL (k := ?_)
      repeat refine w1 (k := ?_)
      simp only [List.length_map]
      refine condN (h1 := fun h2 => ?_) (h0 := fun h2 => ?_)
      ·
        have hi : i < R.length := by omega
        obtain ⟨q1, q2⟩ := hb3 _ (List.getElem_mem hi)
        repeat refine w1 (k := ?_)
        refine litA (pvI .i64) [(f : Int)] (h := ?_)
        repeat refine w1 (k := ?_)
        have hshl : ∀ k, k ≤ R[i].length → (shR (f : Int) (R[i].take k)).length = k + 1 := fun k hk => by simp [shR]; omega
        have hcf : (cat g f ++ (R.take i).map (shR ((f : Nat) : Int))).length ≤ 10000 := by rw [List.length_append, List.length_map, List.length_take]; omega
        rw [show [pvI .i64 (f : Int)] = (shR (f : Int) (R[i].take 0)).map (pvI .i64) from rfl]
        refine loopN [(9, 1), (29, 26)] (α := Nat) (fun k => [(7, .c (.own 29 1 (shR (f : Int) (R[i].take k)).length)), (8, vi (k : Int))]) (fun k => [(13, .row 22 1 ((cat g f ++ (R.take i).map (shR ((f : Nat) : Int))).map (slP (pvI .i64)))), (29, .row 3 1 ((shR (f : Int) (R[i].take k)).map (pvI .i64)))]) (fun k => R[i].length - k) (fun k => k ≤ R[i].length) (x0 := 0) (h0 := by first | omega | simp | (refine ⟨?_, ?_⟩ <;> first | omega | simp)) (hr := ?_)
        intro k hI
        refine nrmL (k := ?_)
        repeat refine w1 (k := ?_)
        simp only [List.length_map]
        refine condN (h1 := fun h3 => ?_) (h0 := fun h3 => ?_)
        ·
          have hk : k < R[i].length := by omega
          have q3 := q2 _ (List.getElem_mem hk)
          have hsl := hshl k hI
          have hnx : shR (f : Int) (R[i].take k) ++ [shX (f : Int) R[i][k]] = shR (f : Int) (R[i].take (k + 1)) := by
            unfold shR
            rw [List.take_succ_eq_append_getElem hk, List.map_append]; rfl
          repeat refine w1 (k := ?_)
          refine condN (h1 := fun h4 => ?_) (h0 := fun h4 => ?_)
          ·
            rw [show shX (f : Int) R[i][k] = R[i][k] + 1 from by unfold shX; rw [if_pos h4]] at hnx
            repeat refine w1 (k := ?_)
            refine litA (pvI .i64) [R[i][k] + 1] (h := ?_)
            repeat refine w1 (k := ?_)
            refine appA 29 8 (pvI .i64) (shR (f : Int) (R[i].take k)) [R[i][k] + 1] (hb := by simp only [List.length_cons, List.length_nil]; omega) (hm := by simp only [List.length_cons, List.length_nil]; omega) (h := ?_)
            rw [hnx]
            repeat refine w1 (k := ?_)
            refine ⟨k + 1, by omega, by first | omega | (refine ⟨?_, ?_⟩ <;> omega), frg⟩
          ·
            rw [show shX (f : Int) R[i][k] = R[i][k] from by unfold shX; rw [if_neg (by omega)]] at hnx
            repeat refine w1 (k := ?_)
            refine litA (pvI .i64) [R[i][k]] (h := ?_)
            repeat refine w1 (k := ?_)
            refine appA 29 8 (pvI .i64) (shR (f : Int) (R[i].take k)) [R[i][k]] (hb := by simp only [List.length_cons, List.length_nil]; omega) (hm := by simp only [List.length_cons, List.length_nil]; omega) (h := ?_)
            rw [hnx]
            repeat refine w1 (k := ?_)
            refine ⟨k + 1, by omega, by first | omega | (refine ⟨?_, ?_⟩ <;> omega), frg⟩
        ·
          repeat refine w1 (k := ?_)
          have : k = R[i].length := by omega
          subst this
          rw [List.take_length]
          have hnx : (cat g f ++ (R.take i).map (shR ((f : Nat) : Int))) ++ [shR (f : Int) R[i]] = cat g f ++ (R.take (i + 1)).map (shR ((f : Nat) : Int)) := by
            rw [List.take_succ_eq_append_getElem hi, List.map_append, List.append_assoc]; rfl
          generalize cat g f ++ (R.take i).map (shR ((f : Nat) : Int)) = C at *
          first | refine zA 29 (h := ?_) | refine zO 29 (h := ?_) | refine zL 29 (h := ?_) | refine zL3 29 (h := ?_)
          refine nrm (k := ?_)
          refine litA (slP (pvI .i64)) [shR (f : Int) R[i]] (h := ?_)
          repeat refine w1 (k := ?_)
          refine appA 13 24 (slP (pvI .i64)) C [shR (f : Int) R[i]] (hb := by simp; omega) (hm := by simp; omega) (h := ?_)
          rw [hnx]
          repeat refine w1 (k := ?_)
          refine ⟨i + 1, by omega, by first | omega | (refine ⟨?_, ?_⟩ <;> omega), frg⟩
      ·
        repeat refine w1 (k := ?_)
        have : i = R.length := by omega
        subst this
        rw [List.take_length, ← hgs, ← hs]
        refine ⟨f + 1, by omega, by first | omega | (refine ⟨?_, ?_⟩ <;> omega), frg⟩
    ·
      repeat refine w1 (k := ?_)
      have : f = n + 1 := by omega
      subst this
      exact ⟨[.c _], .cons (.tmp rfl) .nil, rfl, rfl⟩
