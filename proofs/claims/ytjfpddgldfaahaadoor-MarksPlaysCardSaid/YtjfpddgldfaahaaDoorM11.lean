/- The document's sets: rows of truths. -/
import Derived.Test.YtjfpddgldfaahaaDoorM10
import Derived.Test.YtjfpddgldfaahaaDoorV30
set_option linter.all false
set_option maxHeartbeats 8000000
namespace Go.Proofs.Vl
open Go Go.RowKit
attribute [local irreducible] AWp OpTo Run DL Val UN DR AC Le thn inb nog
attribute [local irreducible] els nxO
def boolsN (N s : Nat) : List PV := (List.range N).map fun i => .s (.bool (s.testBit i))
theorem boolsN_len (N s : Nat) : (boolsN N s).length = N := by simp [boolsN]
theorem boolsN_at (N s i : Nat) (h : i < N) : ((boolsN N s).drop i)[0]? = some (.s (.bool (s.testBit i))) := by
  rw [List.getElem?_drop, Nat.add_zero]; simp [boolsN, h]
def putN (s : Nat) (n : Int) (b : Bool) : Nat := if inB n then (if b then s ||| 2 ^ n.toNat else andN s (2 ^ n.toNat)) else s
theorem boolsN_set (N s s' n : Nat) (b : Bool) (h : n < N) (hs : ∀ j, s'.testBit j = if n = j then b else s.testBit j) : splice (boolsN N s) n [.s (.bool b)] = boolsN N s' := by
  rw [splice_one _ _ _ (by rw [boolsN_len]; exact h)]
  refine List.ext_getElem (by simp [boolsN_len]) fun j hj1 hj2 => ?_
  have a1 : ∀ t (h : j < (boolsN N t).length), (boolsN N t)[j] = .s (.bool (t.testBit j)) := fun t h => by simp [boolsN]
  rw [List.getElem_set, a1, a1, hs j]
  split <;> rfl
theorem putN_in {s : Nat} {n : Int} {b : Bool} (h : inB n = true) : putN s n b = if b then s ||| 2 ^ n.toNat else andN s (2 ^ n.toNat) := if_pos h
theorem put_bit (s n : Nat) (b : Bool) (h : inB (n : Int) = true) (j : Nat) : (putN s (n : Int) b).testBit j = if n = j then b else s.testBit j := by
  rw [putN_in h, Int.toNat_natCast]
  generalize hp : 2 ^ n = p
  cases b with
  | true =>
    simp only [if_true, Nat.testBit_or]
    rw [← hp, Nat.testBit_two_pow]
    by_cases e : n = j
    · simp [e]
    · simp [e]
  | false =>
    simp only [Bool.false_eq_true, if_false, andN_bit]
    rw [← hp, Nat.testBit_two_pow]
    by_cases e : n = j
    · simp [e]
    · simp [e]
def boolsP (s : Nat) : List PV := boolsN 1024 s
theorem boolsP_len (s : Nat) : (boolsP s).length = 1024 := boolsN_len 1024 s
theorem boolsP_at (s i : Nat) (h : i < 1024) : ((boolsP s).drop i)[0]? = some (.s (.bool (s.testBit i))) := boolsN_at 1024 s i h
theorem boolsP_set (s n : Nat) (b : Bool) (h : n < 1024) : splice (boolsP s) n [.s (.bool b)] = boolsP (putN s (n : Int) b) := boolsN_set 1024 s _ n b h (put_bit s n b (by simp [inB]; omega))
attribute [local irreducible] boolsP
theorem sz4 (x : Nat) : x * (Tryd.prog.types[4]'(by decide +kernel)).size = x := by
  have : (Tryd.prog.types[4]'(by decide +kernel)).size = 1 := by kernel_rfl
  rw [this, Nat.mul_one]
theorem upd_same {os : List (Nat × Ob)} {k : Nat} {o : Ob} (h : find os k = some o) : upd os k o = os := by
  induction os with
  | nil => cases h
  | cons x r ih =>
    obtain ⟨j, p⟩ := x
    rw [find_cons] at h
    rw [upd_cons]
    by_cases hj : j = k
    · rw [if_pos hj] at h ⊢; cases h; subst hj; rfl
    · rw [if_neg hj] at h ⊢; rw [ih h]
theorem putN_out {s : Nat} {n : Int} {b : Bool} (h : ¬ inB n = true) : putN s n b = s := if_neg h
theorem put_ac (G) (s : Nat) (n : Int) (b : Bool) (K : Nat) (os : List (Nat × Ob)) (hf : find os K = some (.pcells 50 (boolsP s))) : AC Tryd.prog G 23 [.c (.ptr K 0), vi n, vb b] os (fun r os' => r = .tup [] ∧ os' = upd os K (.pcells 50 (boolsP (putN s n b)))) := by
  refine AC.body' Tryd.func23 Tryd.ntmps23 rfl ?_
  intro cx hd hG
  refine nrmL (k := ?_)
  repeat refine w1 (k := ?_)
  first | refine bothTN (h1 := fun h1 => ?_) (h0 := fun h1 => ?_) | refine bothFN (h1 := fun h1 => ?_) (h0 := fun h1 => ?_)
  all_goals repeat refine w1 (k := ?_)
  ·
    refine condN (h1 := fun h2 => ?_) (h0 := fun h2 => ?_)
    ·
      obtain ⟨n, rfl⟩ := Int.eq_ofNat_of_zero_le (show 0 ≤ n by omega)
      have hn : n < 1024 := by omega
      repeat refine w1 (k := ?_)
      first | refine ofN (hv := by exact Val.nilC rfl rfl) (h := ?_) | refine dlN (hv := by exact Val.nilC rfl rfl) (h := ?_) | refine dlgN (hv := by exact Val.nilC rfl rfl) (h := ?_) | refine ofN (hv := by exact Val.nilC rfl rfl) (h := ?_)
      repeat refine w1 (k := ?_)
      simp only [sz4, Nat.zero_add, Nat.add_zero]
      refine OpTo.stP rfl rfl hf rfl rfl (by kernel_rfl) (by rw [boolsP_len]; simp only [List.length_cons, List.length_nil]; omega) ?_
      rw [boolsP_set _ _ _ hn]
      refine nrm (k := ?_)
      repeat refine w1 (k := ?_)
      exact ⟨[], .nil, rfl, rfl⟩
    ·
      repeat refine w1 (k := ?_)
      exact ⟨[], .nil, rfl, by rw [putN_out (by simp [inB]; omega), upd_same hf]⟩
  ·
    repeat refine w1 (k := ?_)
    exact ⟨[], .nil, rfl, by rw [putN_out (by simp [inB]; omega), upd_same hf]⟩
def rowI (s i : Nat) : List Nat := (List.range i).filter fun m => s.testBit m
theorem rowI_succ (s i : Nat) : rowI s (i + 1) = if s.testBit i then rowI s i ++ [i] else rowI s i := by
  unfold rowI
  rw [List.range_succ, List.filter_append]
  cases h : s.testBit i <;> simp [h]
theorem rowI_len (s i : Nat) : (rowI s i).length ≤ i := by unfold rowI; exact Nat.le_trans (List.length_filter_le _ _) (by simp)
theorem rowI_all (s : Nat) : rowI s 1024 = els s := by unfold rowI els; rfl
theorem rowI_0 (s : Nat) : rowI s 0 = [] := rfl
attribute [local irreducible] rowI
/-- A number, not opened. -/
def nI (i : Nat) : Int := (i : Int)
theorem nI_eq (i : Nat) : nI i = (i : Int) := rfl
theorem nI_succ (i : Nat) : (i : Int) + 1 = nI (i + 1) := rfl
theorem nI_0 : nI 0 = 0 := rfl
attribute [local irreducible] nI
abbrev pvN (m : Nat) : List PV := pvI .i64 (m : Int)
theorem pvN_ok (l : List Nat) : ∀ cs ∈ l.map pvN, ∀ x ∈ cs, pvOk false x = true := by
  intro cs hcs x hx
  obtain ⟨a, _, rfl⟩ := List.mem_map.1 hcs
  simp only [pvN, pvI, List.mem_singleton] at hx
  subst hx
  rfl
theorem row_ac (G) (s : Nat) : AC Tryd.prog G 29 [.c (.eptr (boolsP s))] [] (fun r os => r = .c (.own 18 1 (els s).length) ∧ find os 18 = some (.row 3 1 ((els s).map pvN))) := by
  refine AC.body' Tryd.func29 Tryd.ntmps29 rfl ?_
  intro cx hd hG
  refine nrmL (k := ?_)
  repeat refine w1 (k := ?_)
  refine seedA 3 18 1 3 (h := ?_)
  obtain ⟨N, hN⟩ : ∃ N, N = 1024 := ⟨_, rfl⟩
  rw [show (AV.c (CV.own 18 1 0)) = .c (.own 18 1 (rowI s 0).length) by rw [rowI_0]; rfl, show (Ob.row 3 1 []) = .row 3 1 ((rowI s 0).map pvN) by rw [rowI_0]; rfl, show (AV.c (CV.p (PV.s (Value.int IntKind.i64 0)))) = vi (nI 0) by rw [nI_0]]
  refine loopN [(5, 14)] (α := Nat) (fun i => [(3, .c (.own 18 1 (rowI s i).length)), (4, vi (nI i))]) (fun i => [(18, .row 3 1 ((rowI s i).map pvN))]) (fun i => N - i) (fun i => i ≤ N) (x0 := 0) (h0 := by first | omega | simp | (refine ⟨?_, ?_⟩ <;> first | omega | simp)) (hr := ?_)
  intro i hI
  refine nrmL (k := ?_)
  have hl := rowI_len s i
  have en := nI_eq i
  repeat refine w1 (k := ?_)
  refine condN (h1 := fun h => ?_) (h0 := fun h => ?_)
  ·
    have hi : i < 1024 := by omega
    rw [en]
    repeat refine w1 (k := ?_)
    first | refine ofN (hv := by exact Val.nilC rfl rfl) (h := ?_) | refine dlN (hv := by exact Val.nilC rfl rfl) (h := ?_) | refine dlgN (hv := by exact Val.nilC rfl rfl) (h := ?_) | refine ofN (hv := by exact Val.nilC rfl rfl) (h := ?_)
    repeat refine w1 (k := ?_)
    simp only [sz4, Nat.zero_add, Nat.add_zero, List.drop_zero]
    first | refine ofN (hv := by exact Val.ld1 rfl rfl rfl (boolsP_at s i hi)) (h := ?_) | refine dlN (hv := by exact Val.ld1 rfl rfl rfl (boolsP_at s i hi)) (h := ?_) | refine dlgN (hv := by exact Val.ld1 rfl rfl rfl (boolsP_at s i hi)) (h := ?_) | refine ofN (hv := by exact Val.ld1 rfl rfl rfl (boolsP_at s i hi)) (h := ?_)
    repeat refine w1 (k := ?_)
    refine condN (h1 := fun h2 => ?_) (h0 := fun h2 => ?_)
    ·
      repeat refine w1 (k := ?_)
      refine litA pvN [i] (h := ?_)
      repeat refine w1 (k := ?_)
      refine appA 18 8 pvN (rowI s i) [i] (hb := by simp; omega) (hm := by simp; omega) (h := ?_)
      repeat refine w1 (k := ?_)
      rw [show rowI s i ++ [i] = rowI s (i + 1) by rw [rowI_succ, h2]; rfl]
      rw [nI_succ]
      refine ⟨i + 1, by omega, by first | omega | (refine ⟨?_, ?_⟩ <;> omega), frg⟩
    ·
      repeat refine w1 (k := ?_)
      rw [show rowI s i = rowI s (i + 1) by rw [rowI_succ, h2]; rfl]
      rw [nI_succ]
      refine ⟨i + 1, by omega, by first | omega | (refine ⟨?_, ?_⟩ <;> omega), frg⟩
  ·
    repeat refine w1 (k := ?_)
    have : i = 1024 := by omega
    subst this
    rw [rowI_all]
    exact ⟨[.c _], .cons (.tmp rfl) .nil, rfl, rfl⟩
theorem rhas_ac (G) (s : Nat) (n : Int) : AC Tryd.prog G 33 [.c (.eptr (boolsP s)), vi n] [] (fun r _ => r = vb (inB n && s.testBit n.toNat)) := by
  refine AC.body' Tryd.func33 Tryd.ntmps33 rfl ?_
  intro cx hd hG
  refine nrmL (k := ?_)
  repeat refine w1 (k := ?_)
  first | refine bothTN (h1 := fun h1 => ?_) (h0 := fun h1 => ?_) | refine bothFN (h1 := fun h1 => ?_) (h0 := fun h1 => ?_)
  all_goals repeat refine w1 (k := ?_)
  ·
    first | refine bothTN (h1 := fun h2 => ?_) (h0 := fun h2 => ?_) | refine bothFN (h1 := fun h2 => ?_) (h0 := fun h2 => ?_)
    all_goals repeat refine w1 (k := ?_)
    ·
      obtain ⟨n, rfl⟩ := Int.eq_ofNat_of_zero_le (show 0 ≤ n by omega)
      have hn : n < 1024 := by omega
      repeat refine w1 (k := ?_)
      first | refine ofN (hv := by exact Val.nilC rfl rfl) (h := ?_) | refine dlN (hv := by exact Val.nilC rfl rfl) (h := ?_) | refine dlgN (hv := by exact Val.nilC rfl rfl) (h := ?_) | refine ofN (hv := by exact Val.nilC rfl rfl) (h := ?_)
      repeat refine w1 (k := ?_)
      simp only [sz4, Nat.zero_add, Nat.add_zero, List.drop_zero]
      first | refine ofN (hv := by exact Val.ld1 rfl rfl rfl (boolsP_at s n hn)) (h := ?_) | refine dlN (hv := by exact Val.ld1 rfl rfl rfl (boolsP_at s n hn)) (h := ?_) | refine dlgN (hv := by exact Val.ld1 rfl rfl rfl (boolsP_at s n hn)) (h := ?_) | refine ofN (hv := by exact Val.ld1 rfl rfl rfl (boolsP_at s n hn)) (h := ?_)
      repeat refine w1 (k := ?_)
      refine ⟨[.c _], .cons (.tmp rfl) .nil, ?_⟩
      rw [show inB (n : Int) = true by simp [inB]; omega]; rfl
    ·
      repeat refine w1 (k := ?_)
      refine ⟨[.c _], .cons (.tmp rfl) .nil, ?_⟩
      rw [show inB n = false by simp [inB]; omega]; rfl
  ·
    repeat refine w1 (k := ?_)
    refine ⟨[.c _], .cons (.tmp rfl) .nil, ?_⟩
    rw [show inB n = false by simp [inB]; omega]; rfl
/-- A set without the bits from a number on. -/
def loM (s i : Nat) : Nat := s % 2 ^ i
theorem loM_bit (s i j : Nat) : (loM s i).testBit j = (decide (j < i) && s.testBit j) := by unfold loM; rw [Nat.testBit_mod_two_pow]
theorem loM_0 (s : Nat) : loM s 0 = 0 := by unfold loM; simp [Nat.mod_one]
theorem loM_n (s N : Nat) (h : s < bigN N) : loM s N = s := by unfold loM; exact Nat.mod_eq_of_lt h
theorem loM_top (s : Nat) (h : s < TOP) : loM s 1024 = s := loM_n s 1024 h
theorem loM_on {s i : Nat} (h : s.testBit i = true) : loM s i ||| 2 ^ i = loM s (i + 1) := by
  refine Nat.eq_of_testBit_eq fun j => ?_
  rw [Nat.testBit_or, loM_bit, loM_bit, Nat.testBit_two_pow]
  by_cases e : i = j
  · subst e; simp [h]
  · by_cases h2 : j < i
    · have : j < i + 1 := by omega
      simp [e, h2, this]
    · have : ¬ j < i + 1 := by omega
      simp [e, h2, this]
theorem loM_off {s i : Nat} (h : s.testBit i = false) : loM s i = loM s (i + 1) := by
  refine Nat.eq_of_testBit_eq fun j => ?_
  rw [loM_bit, loM_bit]
  by_cases e : j = i
  · subst e; simp [h]
  · by_cases h2 : j < i
    · have : j < i + 1 := by omega
      simp [h2, this]
    · have : ¬ j < i + 1 := by omega
      simp [h2, this]
attribute [local irreducible] loM
theorem words_ac (G) (s : Nat) (hs : s < TOP) : AC Tryd.prog G 30 [.c (.eptr (boolsP s))] [] (fun r _ => r = .pag (setP s)) := by
  refine AC.body' Tryd.func30 Tryd.ntmps30 rfl ?_
  intro cx hd hG
  refine nrmL (k := ?_)
  repeat refine w1 (k := ?_)
  rw [show [PV.s (Value.int IntKind.u64 0), PV.s (Value.int IntKind.u64 0), PV.s (Value.int IntKind.u64 0), PV.s (Value.int IntKind.u64 0), PV.s (Value.int IntKind.u64 0), PV.s (Value.int IntKind.u64 0), PV.s (Value.int IntKind.u64 0), PV.s (Value.int IntKind.u64 0), PV.s (Value.int IntKind.u64 0), PV.s (Value.int IntKind.u64 0), PV.s (Value.int IntKind.u64 0), PV.s (Value.int IntKind.u64 0), PV.s (Value.int IntKind.u64 0), PV.s (Value.int IntKind.u64 0), PV.s (Value.int IntKind.u64 0), PV.s (Value.int IntKind.u64 0)] = setP (loM s 0) from by rw [loM_0]; rfl]
  obtain ⟨N, hN⟩ : ∃ N, N = 1024 := ⟨_, rfl⟩
  rw [show (AV.c (CV.p (PV.s (Value.int IntKind.i64 0)))) = vi (nI 0) by rw [nI_0]]
  refine loopN [(5, 22)] (α := Nat) (fun i => [(4, vi (nI i))]) (fun i => [(2, .pcells 25 (setP (loM s 0))), (3, .pcells 25 (setP (loM s i)))]) (fun i => N - i) (fun i => i ≤ N) (x0 := 0) (h0 := by first | omega | simp | (refine ⟨?_, ?_⟩ <;> first | omega | simp)) (hr := ?_)
  intro i hI
  refine nrmL (k := ?_)
  have en := nI_eq i
  repeat refine w1 (k := ?_)
  refine condN (h1 := fun h => ?_) (h0 := fun h => ?_)
  ·
    have hi : i < 1024 := by omega
    rw [en]
    repeat refine w1 (k := ?_)
    first | refine ofN (hv := by exact Val.nilC rfl rfl) (h := ?_) | refine dlN (hv := by exact Val.nilC rfl rfl) (h := ?_) | refine dlgN (hv := by exact Val.nilC rfl rfl) (h := ?_) | refine ofN (hv := by exact Val.nilC rfl rfl) (h := ?_)
    repeat refine w1 (k := ?_)
    simp only [sz4, Nat.zero_add, Nat.add_zero, List.drop_zero]
    first | refine ofN (hv := by exact Val.ld1 rfl rfl rfl (boolsP_at s i hi)) (h := ?_) | refine dlN (hv := by exact Val.ld1 rfl rfl rfl (boolsP_at s i hi)) (h := ?_) | refine dlgN (hv := by exact Val.ld1 rfl rfl rfl (boolsP_at s i hi)) (h := ?_) | refine ofN (hv := by exact Val.ld1 rfl rfl rfl (boolsP_at s i hi)) (h := ?_)
    repeat refine w1 (k := ?_)
    refine condN (h1 := fun h2 => ?_) (h0 := fun h2 => ?_)
    ·
      repeat refine w1 (k := ?_)
      rw [show (i : Int) / 64 = ((i / 64 : Nat) : Int) from rfl]
      have h64 : i / 64 < 16 := by omega
      repeat refine w1 (k := ?_)
      rw [sz24]
      first | refine ofN (hv := by exact Val.ld1 rfl rfl rfl (setP_at _ _ h64)) (h := ?_) | refine dlN (hv := by exact Val.ld1 rfl rfl rfl (setP_at _ _ h64)) (h := ?_) | refine dlgN (hv := by exact Val.ld1 rfl rfl rfl (setP_at _ _ h64)) (h := ?_) | refine ofN (hv := by exact Val.ld1 rfl rfl rfl (setP_at _ _ h64)) (h := ?_)
      repeat refine w1 (k := ?_)
      rw [show (i : Int) % 64 = ((i % 64 : Nat) : Int) from rfl, shl1 _ (by omega), bits_or_N _ _ (wd_lt _ _) (pow64 _ (by omega)), sz24]
      refine OpTo.stP rfl rfl rfl rfl rfl (by kernel_rfl) (by rw [setP_len]; simp only [List.length_cons, List.length_nil]; omega) ?_
      rw [setP_wth _ _ hi, loM_on h2]
      refine nrm (k := ?_)
      repeat refine w1 (k := ?_)
      rw [nI_succ]
      refine ⟨i + 1, by omega, by first | omega | (refine ⟨?_, ?_⟩ <;> omega), frg⟩
    ·
      repeat refine w1 (k := ?_)
      rw [loM_off h2]
      rw [nI_succ]
      refine ⟨i + 1, by omega, by first | omega | (refine ⟨?_, ?_⟩ <;> omega), frg⟩
  ·
    repeat refine w1 (k := ?_)
    have : i = 1024 := by omega
    subst this
    refine ⟨[.pag _], .cons (.ldF rfl rfl rfl rfl) .nil, ?_⟩
    rw [loM_top s hs]; rfl
theorem els_find (s : Nat) (n : Int) : (els s).find? (fun (m : Nat) => decide (n < (m : Int))) = nxO s (fromN n) := by
  rw [nxO_els]
  congr 1
  funext m
  apply decide_eq_decide.2
  unfold fromN
  omega
def oI (o : Option Nat) : Int := match o with
  | some m => (m : Int)
  | none => -1
theorem find_at (l : List Nat) (p : Nat → Bool) (j : Nat) (hj : j < l.length) (h : ∀ i (hi : i < l.length), i < j → p l[i] = false) (hp : p l[j] = true) : l.find? p = some l[j] := by
  induction l generalizing j with
  | nil => simp at hj
  | cons a l ih =>
    cases j with
    | zero => simp only [List.getElem_cons_zero] at hp ⊢; rw [List.find?_cons, hp]
    | succ j =>
      have h0 := h 0 (by simp) (by omega)
      simp only [List.getElem_cons_zero] at h0
      rw [List.find?_cons, h0]
      simp only [List.getElem_cons_succ] at hp ⊢
      exact ih j (by simpa using hj) (fun i hi hij => by have := h (i + 1) (by simpa using hi) (by omega); simpa using this) hp
theorem rnext_ac (G) (s : Nat) (n : Int) : AC Tryd.prog G 31 [.c (.eptr (boolsP s)), vi n] [] (fun r _ => r = vi (oI (nxO s (fromN n)))) := by
  refine AC.body' Tryd.func31 Tryd.ntmps31 rfl ?_
  intro cx hd hG
  refine nrmL (k := ?_)
  repeat refine w1 (k := ?_)
  refine callRowN (hc := by exact row_ac _ s ) (hso := by exact  pvN_ok _) (h := ?_)
  repeat refine w1 (k := ?_)
  have hlen := els_len s
  first | refine zA 8 (h := ?_) | refine zO 8 (h := ?_) | refine zL 8 (h := ?_) | refine zL3 8 (h := ?_)
  rw [← els_find]
  refine loopN [(4, 1), (9, 16)] (α := Nat) (fun j => [(6, vi (j : Int))]) (fun j => []) (fun j => (els s).length - j) (fun j => j ≤ (els s).length ∧ ∀ i (hi : i < (els s).length), i < j → decide (n < ((els s)[i] : Int)) = false) (x0 := 0) (h0 := by exact ⟨by omega, fun i hi h => by omega⟩) (hr := ?_)
  intro j hI
  refine nrmL (k := ?_)
  obtain ⟨hj1, hj2⟩ := hI
  repeat refine w1 (k := ?_)
  refine condN (h1 := fun h => ?_) (h0 := fun h => ?_)
  ·
    have hj : j < (els s).length := by omega
    repeat refine w1 (k := ?_)
    refine condN (h1 := fun h2 => ?_) (h0 := fun h2 => ?_)
    ·
      repeat refine w1 (k := ?_)
      refine ⟨[.c _], .cons (.tmp rfl) .nil, ?_⟩
      rw [find_at _ _ j hj hj2 (by simp; omega)]; rfl
    ·
      repeat refine w1 (k := ?_)
      have hn : ∀ i (hi : i < (els s).length), i < j + 1 → decide (n < ((els s)[i] : Int)) = false := by
        intro i hi hij
        rcases Nat.lt_or_ge i j with h3 | h3
        · exact hj2 i hi h3
        · obtain rfl : i = j := by omega
          simp; omega
      refine ⟨j + 1, by omega, by exact ⟨by omega, hn⟩, frg⟩
  ·
    repeat refine w1 (k := ?_)
    refine ⟨[.c _], .cons (.tmp rfl) .nil, ?_⟩
    rw [List.find?_eq_none.2 (fun m hm => by obtain ⟨i, hi, rfl⟩ := List.getElem_of_mem hm; have := hj2 i hi (by omega); simpa using this)]; rfl
def putL (l : List Int) : Nat := l.foldl (fun s n => putN s n true) 0
theorem putN_wth (s : Nat) (n : Int) : putN s n true = wth s n := by unfold putN wth; simp
theorem putN_wout (s : Nat) (n : Int) : putN s n false = wout s n := by unfold putN wout; simp
theorem boolsN_0 (N : Nat) : boolsN N 0 = (List.replicate N (Value.bool false)).map .s := by
  unfold boolsN
  refine List.ext_getElem (by simp) fun j h1 h2 => ?_
  simp
theorem bools_all (N : Nat) : (List.replicate N (Value.bool false)).all (·.oneCell') = true := by
  rw [List.all_eq_true]
  intro x hx
  rw [List.eq_of_mem_replicate hx]
  rfl
theorem Val.build50 {cx : Cx} {st : St} {dst : Option Tmp} {ty : TypeId} {pos : String} {af : Array Edge} {gd : Option (Nat × Bool)} : Val Tryd.prog cx true ⟨dst, .build 50 #[], ty, pos, af, gd⟩ st (.pag (boolsP 0)) := by
  have h : ∃ pl zc, plI Tryd.prog 50 = some (pl, zc) ∧ zc = List.replicate 1024 (.bool false) := by
    cases h : plI Tryd.prog 50 with
    | none => exact absurd h (by intro h; have : (plI Tryd.prog 50).isSome = true := by kernel_rfl
                                 rw [h] at this; cases this)
    | some q => exact ⟨q.1, q.2, rfl, by have : (plI Tryd.prog 50).map (·.2) = some (List.replicate 1024 (.bool false)) := by kernel_rfl
                                         rw [h] at this; exact Option.some.inj this⟩
  obtain ⟨pl, zc, h1, h2⟩ := h
  have e : boolsP 0 = zc.map .s := by rw [h2]; unfold boolsP; exact boolsN_0 1024
  rw [e]
  exact Val.buildP (parts := []) h1 (by rw [h2]; exact bools_all 1024) rfl rfl
theorem rof_ac (G) (l : List Int) (hl : l.length < 9223372036854775807) : AC Tryd.prog G 17 [.c (.p (.fro (l.map (pvI .i64))))] [] (fun r os => r = .c (.ptr 6 0) ∧ find os 6 = some (.pcells 50 (boolsP (ofL l)))) := by
  refine AC.body' Tryd.func17 Tryd.ntmps17 rfl ?_
  intro cx hd hG
  refine nrmL (k := ?_)
  iterate 9 refine w1 (k := ?_)
  first | refine ofN (hv := by exact Val.build50) (h := ?_) | refine dlN (hv := by exact Val.build50) (h := ?_) | refine dlgN (hv := by exact Val.build50) (h := ?_) | refine ofN (hv := by exact Val.build50) (h := ?_)
  repeat refine w1 (k := ?_)
  refine loopN [(7, 12)] (α := Nat) (fun i => [(4, vi (i : Int))]) (fun i => [(6, .pcells 50 (boolsP (ofL (l.take i))))]) (fun i => l.length - i) (fun i => i ≤ l.length) (x0 := 0) (h0 := by first | omega | simp | (refine ⟨?_, ?_⟩ <;> first | omega | simp)) (hr := ?_)
  intro i hI
  refine nrmL (k := ?_)
  repeat refine w1 (k := ?_)
  refine condN (h1 := fun h => ?_) (h0 := fun h => ?_)
  ·
    have hi : i < l.length := by omega
    repeat refine w1 (k := ?_)
    refine OpTo.callR [] (put_ac _ (ofL (l.take i)) l[i] true 1000006 _ (by rfl)) rfl (by rfl) (by rfl) (by rfl) rfl (by rfl) ?_
    rintro r os' ⟨rfl, rfl⟩
    dsimp only [lend, Ob.up, upd, Nat.reduceAdd, Nat.reduceBEq, cond_true, cond_false, AV.up, TV.up, CV.up, List.map]
    simp only [dnO, kdn, look, lookB, Ob.dn, AV.dn, TV.dn, CV.dn, capDn, List.map, Nat.reduceLeDiff, Nat.reduceSub, if_true, if_false, ite_true, ite_false, Option.map_some]
    refine nrm (k := ?_)
    rw [show putN (ofL (l.take i)) l[i] true = ofL (l.take (i + 1)) by rw [putN_wth, List.take_succ_eq_append_getElem hi]; unfold ofL; rw [List.foldl_append]; rfl]
    repeat refine w1 (k := ?_)
    refine ⟨i + 1, by omega, by first | omega | (refine ⟨?_, ?_⟩ <;> omega), frg⟩
  ·
    repeat refine w1 (k := ?_)
    have : i = l.length := by omega
    subst this
    rw [List.take_length]
    exact ⟨[.c _], .cons (.tmp rfl) .nil, rfl, rfl⟩
