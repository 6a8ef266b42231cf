/- Which tasks are more urgent than one, and which less so. -/
import Derived.Test.YtlegdnmebgfjbaaDoorSD7
import Derived.Test.YtlegdnmebgfjbaaDoorSD5
import Derived.Test.YtlegdnmebgfjbaaDoorSK11
set_option linter.all false
set_option maxRecDepth 2000
set_option maxHeartbeats 8000000
namespace Go.Proofs.Vl
open Go Go.RowKit
attribute [local irreducible] AWp OpTo Run DL Val UN DR AC Le thn inb nog
attribute [local irreducible] els nxO
def bitsN (l : List Tk) (p : Tk → Bool) : Nat → Nat
  | 0 => 0
  | n + 1 => if (l[n]?.any p) then wth (bitsN l p n) (n : Int) else bitsN l p n
theorem wth_bitD (s : Nat) (n : Int) (j : Nat) : (wth s n).testBit j = (s.testBit j || (inB n && decide (n.toNat = j))) := by
  unfold wth
  cases h : inB n with
  | true => rw [if_pos rfl, Nat.testBit_or, Nat.testBit_two_pow]; rfl
  | false => simp
theorem bitsN_bit (l : List Tk) (p : Tk → Bool) (n j : Nat) : (bitsN l p n).testBit j = (decide (j < n) && decide (j < 1024) && l[j]?.any p) := by
  induction n with
  | zero => simp [bitsN]
  | succ n ih =>
    have key : (bitsN l p (n + 1)).testBit j = ((bitsN l p n).testBit j || (l[n]?.any p && decide (n < 1024) && decide (n = j))) := by
      rw [bitsN]
      cases h : l[n]?.any p with
      | true =>
        rw [if_pos rfl, wth_bitD]
        have : inB (n : Int) = decide (n < 1024) := by
          unfold inB
          by_cases h : n < 1024
          · have h2 : (n : Int) < 1024 := by omega
            simp [h, h2]
          · have h2 : ¬ (n : Int) < 1024 := by omega
            simp [h, h2]
        rw [this]; simp
      | false => simp
    rw [key, ih]
    by_cases h1 : n = j
    · subst h1
      cases h : l[n]?.any p <;> simp
    · by_cases h2 : j < n
      · have : j < n + 1 := by omega
        simp [h1, h2, this]
      · have : ¬ j < n + 1 := by omega
        simp [h1, h2, this]
theorem those_ac (G) (l : List Tk) (i : Int) (f : Nat) (hf : isFn Tryd.prog f = true) (p : Tk → Bool) (hc : ∀ t, AC Tryd.prog G f [.pag (tkP t), .c (.eptr [.fro (l.map tkP)]), .c (.eptr [.s (.int .i64 i)])] [] (fun r _ => r = vb (p t))) (h0 : 0 ≤ i) (hi : i < l.length) (hl : l.length ≤ maxLen) :
    AC Tryd.prog G 79 [fro tkP l, vi i, .c (.fn f [.fz [.fro (l.map tkP)], .fz [.s (.int .i64 i)]])] [] (fun r _ => r = .pag (setP (bitsN l p l.length))) := by
  refine AC.body' Tryd.func79 Tryd.ntmps79 rfl ?_
  intro cx hd hG
  refine nrmL (k := ?_)
  repeat refine w1 (k := ?_)
  have hm : l.length ≤ 9223372036854775807 := hl
  obtain ⟨w0, fz0, β0, df, G0⟩ := cx
  obtain rfl : G0 = G := hG
  repeat refine w1 (k := ?_)
  refine condN (h1 := fun hx => ?_) (h0 := fun hx => ?_)
  · omega
  repeat refine w1 (k := ?_)
  rw [show [PV.s (Value.int IntKind.u64 0), PV.s (Value.int IntKind.u64 0), PV.s (Value.int IntKind.u64 0), PV.s (Value.int IntKind.u64 0), PV.s (Value.int IntKind.u64 0), PV.s (Value.int IntKind.u64 0), PV.s (Value.int IntKind.u64 0), PV.s (Value.int IntKind.u64 0), PV.s (Value.int IntKind.u64 0), PV.s (Value.int IntKind.u64 0), PV.s (Value.int IntKind.u64 0), PV.s (Value.int IntKind.u64 0), PV.s (Value.int IntKind.u64 0), PV.s (Value.int IntKind.u64 0), PV.s (Value.int IntKind.u64 0), PV.s (Value.int IntKind.u64 0)] = setP (bitsN l p 0) from by rw [bitsN]; rfl]
  refine loopN [(8, 2), (22, 11)] (α := Nat) (fun j => [(21, vi (j : Int))]) (fun j => [(6, .pcells 100 (setP (bitsN l p 0))), (7, .pcells 100 (setP (bitsN l p j)))]) (fun j => l.length - j) (fun j => j ≤ l.length) (x0 := 0) (h0 := by first | omega | simp | (refine ⟨?_, ?_⟩ <;> first | omega | simp)) (hr := ?_)
  intro j hI
  refine nrmL (k := ?_)
  repeat refine w1 (k := ?_)
  refine condN (h1 := fun h => ?_) (h0 := fun h => ?_)
  ·
    have hj : j < l.length := by omega
    repeat refine w1 (k := ?_)
    refine callCN (hf := hf) (hc := by exact hc l[j]) (h := ?_)
    refine nrm (k := ?_)
    repeat refine w1 (k := ?_)
    refine condN (h1 := fun h2 => ?_) (h0 := fun h2 => ?_)
    ·
      repeat refine w1 (k := ?_)
      refine callN (hc := by exact with_ac _ _ _) (h := ?_)
      repeat refine w1 (k := ?_)
      rw [show wth (bitsN l p j) (j : Int) = bitsN l p (j + 1) by rw [bitsN, if_pos (by rw [List.getElem?_eq_getElem hj]; exact h2)]]
      repeat refine w1 (k := ?_)
      refine ⟨j + 1, by omega, by first | omega | (refine ⟨?_, ?_⟩ <;> omega), frg⟩
    ·
      repeat refine w1 (k := ?_)
      rw [show bitsN l p j = bitsN l p (j + 1) by rw [bitsN, if_neg (by rw [List.getElem?_eq_getElem hj]; simp [h2])]]
      refine ⟨j + 1, by omega, by first | omega | (refine ⟨?_, ?_⟩ <;> omega), frg⟩
  ·
    repeat refine w1 (k := ?_)
    have : j = l.length := by omega
    subst this
    exact ⟨[.pag _], .cons (.ldF rfl rfl rfl rfl) .nil, rfl⟩
theorem lowerC_ac (G) (l : List Tk) (i : Nat) (hi : i < l.length) (hl : l.length ≤ maxLen) (t : Tk) : AC Tryd.prog G 80 [.pag (tkP t), .c (.eptr [.fro (l.map tkP)]), .c (.eptr [.s (.int .i64 (i : Int))])] [] (fun r _ => r = vb (decide (t.p > l[i].p))) := by
  refine AC.body' Tryd.func80 Tryd.ntmps80 rfl ?_
  intro cx hd hG
  refine nrmL (k := ?_)
  repeat refine w1 (k := ?_)
  exact ⟨[.c _], .cons (.tmp rfl) .nil, rfl⟩
theorem higherC_ac (G) (l : List Tk) (i : Nat) (hi : i < l.length) (hl : l.length ≤ maxLen) (t : Tk) : AC Tryd.prog G 84 [.pag (tkP t), .c (.eptr [.fro (l.map tkP)]), .c (.eptr [.s (.int .i64 (i : Int))])] [] (fun r _ => r = vb (decide (t.p < l[i].p))) := by
  refine AC.body' Tryd.func84 Tryd.ntmps84 rfl ?_
  intro cx hd hG
  refine nrmL (k := ?_)
  repeat refine w1 (k := ?_)
  exact ⟨[.c _], .cons (.tmp rfl) .nil, rfl⟩
def loS (l : List Tk) (p : Int) : Nat := bitsN l (fun t => decide (t.p > p)) l.length
def hiS (l : List Tk) (p : Int) : Nat := bitsN l (fun t => decide (t.p < p)) l.length
theorem lower_ac (G) (l : List Tk) (i : Nat) (hi : i < l.length) (hl : l.length ≤ maxLen) : AC Tryd.prog G 73 [fro tkP l, vi (i : Int)] [] (fun r _ => r = .pag (setP (loS l l[i].p))) := by
  refine AC.body' Tryd.func73 Tryd.ntmps73 rfl ?_
  intro cx hd hG
  refine nrmL (k := ?_)
  repeat refine w1 (k := ?_)
  repeat refine w1 (k := ?_)
  first | refine zbA 2 (h := ?_) | refine zbO 2 (h := ?_)
  first | refine zbA 3 (h := ?_) | refine zbO 3 (h := ?_)
  refine callN (hc := by exact those_ac _ l (i : Int) 80 rfl _ (lowerC_ac _ l i hi hl) (by omega) (by omega) hl) (h := ?_)
  repeat refine w1 (k := ?_)
  exact ⟨[.pag _], .cons (.ldF rfl rfl rfl rfl) .nil, rfl⟩
theorem higher_ac (G) (l : List Tk) (i : Nat) (hi : i < l.length) (hl : l.length ≤ maxLen) : AC Tryd.prog G 75 [fro tkP l, vi (i : Int)] [] (fun r _ => r = .pag (setP (hiS l l[i].p))) := by
  refine AC.body' Tryd.func75 Tryd.ntmps75 rfl ?_
  intro cx hd hG
  refine nrmL (k := ?_)
  repeat refine w1 (k := ?_)
  repeat refine w1 (k := ?_)
  first | refine zbA 2 (h := ?_) | refine zbO 2 (h := ?_)
  first | refine zbA 3 (h := ?_) | refine zbO 3 (h := ?_)
  refine callN (hc := by exact those_ac _ l (i : Int) 84 rfl _ (higherC_ac _ l i hi hl) (by omega) (by omega) hl) (h := ?_)
  repeat refine w1 (k := ?_)
  exact ⟨[.pag _], .cons (.ldF rfl rfl rfl rfl) .nil, rfl⟩
def isB (l : List Tk) (i : Int) : Bool := decide ((allI l).2 = 0) && decide (i ≥ 0) && decide (i < (l.length : Int))
theorem is_ac (G) (l : List Tk) (i : Int) (hl : ∀ t ∈ l, t.nm.size ≤ maxLen) (hn : l.length ≤ maxLen) : AC Tryd.prog G 62 [fro tkP l, vi i] [] (fun r _ => r = vb (isB l i)) := by
  refine AC.body' Tryd.func62 Tryd.ntmps62 rfl ?_
  intro cx hd hG
  refine nrmL (k := ?_)
  repeat refine w1 (k := ?_)
  refine callN (hc := by exact all_ac _ l hl hn) (h := ?_)
  repeat refine w1 (k := ?_)
  unfold isB
  first | refine bothTN (h1 := fun h1 => ?_) (h0 := fun h1 => ?_) | refine bothFN (h1 := fun h1 => ?_) (h0 := fun h1 => ?_)
  all_goals repeat refine w1 (k := ?_)
  ·
    first | refine bothTN (h1 := fun h2 => ?_) (h0 := fun h2 => ?_) | refine bothFN (h1 := fun h2 => ?_) (h0 := fun h2 => ?_)
    all_goals repeat refine w1 (k := ?_)
    ·
      refine ⟨[.c _], .cons (.tmp rfl) .nil, ?_⟩
      rw [decide_eq_true (show (allI l).2 = 0 by omega), decide_eq_true (show i ≥ 0 by omega)]
      simp only [List.length_map]; rfl
    ·
      refine ⟨[.c _], .cons (.tmp rfl) .nil, ?_⟩
      rw [decide_eq_false (show ¬ i ≥ 0 by omega), Bool.and_false]; rfl
  ·
    refine ⟨[.c _], .cons (.tmp rfl) .nil, ?_⟩
    rw [decide_eq_false (show ¬ (allI l).2 = 0 by omega)]; rfl
theorem ris_ac (G) (l : List Tk) (i : Int) (hl : ∀ t ∈ l, t.nm.size ≤ maxLen) (hn : l.length ≤ maxLen) : AC Tryd.prog G 27 [fro tkP l, vi i] [] (fun r _ => r = vb (isB l i)) := by
  refine AC.body' Tryd.func27 Tryd.ntmps27 rfl ?_
  intro cx hd hG
  refine nrmL (k := ?_)
  repeat refine w1 (k := ?_)
  refine callN (hc := by exact allR_ac _ l hl hn) (h := ?_)
  repeat refine w1 (k := ?_)
  first | refine ofN (hv := by exact Val.fldV rfl rfl rfl rfl rfl) (h := ?_) | refine dlN (hv := by exact Val.fldV rfl rfl rfl rfl rfl) (h := ?_) | refine dlgN (hv := by exact Val.fldV rfl rfl rfl rfl rfl) (h := ?_) | refine ofN (hv := by exact Val.fldV rfl rfl rfl rfl rfl) (h := ?_)
  repeat refine w1 (k := ?_)
  unfold isB
  first | refine bothTN (h1 := fun h1 => ?_) (h0 := fun h1 => ?_) | refine bothFN (h1 := fun h1 => ?_) (h0 := fun h1 => ?_)
  all_goals repeat refine w1 (k := ?_)
  ·
    first | refine bothTN (h1 := fun h2 => ?_) (h0 := fun h2 => ?_) | refine bothFN (h1 := fun h2 => ?_) (h0 := fun h2 => ?_)
    all_goals repeat refine w1 (k := ?_)
    ·
      refine ⟨[.c _], .cons (.tmp rfl) .nil, ?_⟩
      rw [decide_eq_true (show (allI l).2 = 0 by omega), decide_eq_true (show i ≥ 0 by omega)]
      simp only [List.length_map]; rfl
    ·
      refine ⟨[.c _], .cons (.tmp rfl) .nil, ?_⟩
      rw [decide_eq_false (show ¬ i ≥ 0 by omega), Bool.and_false]; rfl
  ·
    refine ⟨[.c _], .cons (.tmp rfl) .nil, ?_⟩
    rw [decide_eq_false (show ¬ (allI l).2 = 0 by omega)]; rfl
