/- Sets that are the same value; MarksSums. -/
import Derived.Test.YtjfpddgldfaahaaDoorM9
import Derived.Laws.StructEq
import Derived.ChangeKeysEq
set_option linter.all false
set_option maxHeartbeats 8000000
namespace Go.Proofs.Vl
open Go Go.RowKit
attribute [local irreducible] AWp OpTo Run DL Val UN DR AC Le thn inb nog
attribute [local irreducible] els nxO
theorem run_items {P : Program} {e : TypeId} {k : IntKind} (he : P.underlying e = some (.int k)) (hT : tyI P e = some none) (d : Nat) (w : World) (xs ys : List Int) : ∀ is : List Nat, (∀ i ∈ is, i < xs.length ∧ i < ys.length) →
    (Op.eqItems (d + 1) e 1 (xs.map fun n => Value.int k n).toArray (ys.map fun n => Value.int k n).toArray is).run P w = .ok (decide (∀ i ∈ is, xs[i]? = ys[i]?)) w
  | [], _ => by simp [Op.eqItems]
  | i :: is, h => by
    obtain ⟨h1, h2⟩ := h i List.mem_cons_self
    have ih := run_items he hT d w xs ys is (fun j hj => h j (List.mem_cons_of_mem _ hj))
    have q1 := run_part1 hT (vs := xs.map fun n => Value.int k n) (off := i * 1) (v := .int k xs[i]) (by simp [h1]) w
    have q2 := run_part1 hT (vs := ys.map fun n => Value.int k n) (off := i * 1) (v := .int k ys[i]) (by simp [h2]) w
    have r1 := run_equalIn_int w d e k k xs[i] ys[i] he
    unfold Op.eqItems
    rw [Sem.run_bind, q1, Result.andThen_ok, Sem.run_bind, q2, Result.andThen_ok, Sem.run_bind, r1, Result.andThen_ok]
    by_cases hx : xs[i] = ys[i]
    · rw [if_neg (by simp [hx]), ih]
      simp [h1, h2, hx]
    · rw [if_pos (by simp [hx])]
      simp [h1, h2, hx]
def wsI (s : Nat) : List Int := (List.range 16).map fun i => ((wd s i : Nat) : Int)
theorem setP_wsI (s : Nat) : setP s = (wsI s).map fun n => PV.s (.int .u64 n) := by simp [setP, wsI]
theorem wsI_len (s : Nat) : (wsI s).length = 16 := by simp [wsI]
theorem wsI_inj {a b : Nat} (ha : a < TOP) (hb : b < TOP) : wsI a = wsI b ↔ a = b :=
  ⟨fun h => setP_inj ha hb (by rw [setP_wsI, setP_wsI, h]), fun h => by rw [h]⟩
theorem rep_set {w : World} {fz β} {s : Nat} {v : Value} (h : RepA w fz β (.pag (setP s)) v) : v = .agg ((wsI s).map fun n => Value.int .u64 n).toArray := by
  obtain ⟨vs, rfl, h2⟩ := h
  rw [setP_wsI] at h2
  congr 2
  generalize wsI s = l at h2
  induction l generalizing vs with
  | nil => cases h2; rfl
  | cons a l ih => cases h2 with | cons p1 p2 => rw [RepP.eq p1, ih _ p2]; rfl
theorem run_eqSet (a b : Nat) (ha : a < TOP) (hb : b < TOP) (w : World) : (Op.equalIn 10000 26 (.agg ((wsI a).map fun n => Value.int .u64 n).toArray) (.agg ((wsI b).map fun n => Value.int .u64 n).toArray)).run Tryd.prog w = .ok (decide (a = b)) w := by
  obtain ⟨i, hi⟩ : ∃ i, Tryd.prog.info? 24 = some i := by
    cases h : Tryd.prog.info? 24 with
    | some i => exact ⟨i, rfl⟩
    | none => exact absurd h (by intro h; have : (Tryd.prog.info? 24).isSome = true := by kernel_rfl
                                 rw [h] at this; cases this)
  rw [show (10000 : Nat) = 9998 + 1 + 1 from rfl, run_equalIn_array (w := w) (9998 + 1) _ _ Tryd.underlying26 hi, show Tryd.prog.cellsOf 24 = 1 by kernel_rfl,
    run_items Tryd.underlying24 (by kernel_rfl) 9998 w (wsI a) (wsI b) (List.range 16) (fun j hj => by rw [wsI_len, wsI_len]; have := List.mem_range.1 hj; exact ⟨this, this⟩)]
  congr 1
  refine decide_eq_decide.2 (Iff.trans ?_ (wsI_inj ha hb))
  constructor
  · intro h
    refine List.ext_getElem? fun j => ?_
    by_cases hj : j < 16
    · exact h j (List.mem_range.2 hj)
    · rw [List.getElem?_eq_none (by rw [wsI_len]; omega), List.getElem?_eq_none (by rw [wsI_len]; omega)]
  · intro h j _; rw [h]
theorem Val.eqS {cx : Cx} {st : St} {dst : Option Tmp} {ty t2 : TypeId} {pos : String} {af : Array Edge} {gd : Option (Nat × Bool)} {x y : Operand} {a b : Nat} (ha : a < TOP) (hb : b < TOP) (hx : st.op cx x = .pag (setP a)) (hy : st.op cx y = .pag (setP b)) (h1 : okOp x = true) (h2 : okOp y = true) :
    Val Tryd.prog cx true ⟨dst, .binOp .eql 26 x y t2, ty, pos, af, gd⟩ st (vb (decide (a = b))) := by
  unfold Val
  intro ac w fz β hs
  have e1 := rep_set (hx ▸ hs.op x h1)
  have e2 := rep_set (hy ▸ hs.op y h2)
  refine ⟨.bool (decide (a = b)), RepP.s _ rfl, fun w' _ => ?_⟩
  simp only [execOp, Sem.run_bind, e1, e2]
  rw [run_eqGuard_agg w' .eql _ x y _ _ (by kernel_rfl)]
  simp only [Result.andThen_ok]
  rw [run_eql_struct, run_eqSet a b ha hb]
  rfl
theorem Val.neS {cx : Cx} {st : St} {dst : Option Tmp} {ty t2 : TypeId} {pos : String} {af : Array Edge} {gd : Option (Nat × Bool)} {x y : Operand} {a b : Nat} (ha : a < TOP) (hb : b < TOP) (hx : st.op cx x = .pag (setP a)) (hy : st.op cx y = .pag (setP b)) (h1 : okOp x = true) (h2 : okOp y = true) :
    Val Tryd.prog cx true ⟨dst, .binOp .neq 26 x y t2, ty, pos, af, gd⟩ st (vb (!decide (a = b))) := by
  unfold Val
  intro ac w fz β hs
  have e1 := rep_set (hx ▸ hs.op x h1)
  have e2 := rep_set (hy ▸ hs.op y h2)
  refine ⟨.bool (!decide (a = b)), RepP.s _ rfl, fun w' _ => ?_⟩
  simp only [execOp, Sem.run_bind, e1, e2]
  rw [run_eqGuard_agg w' .neq _ x y _ _ (by kernel_rfl)]
  simp only [Result.andThen_ok]
  rw [run_neq_struct, run_eqSet a b ha hb]
  rfl
theorem Val.build0 {cx : Cx} {st : St} {dst : Option Tmp} {ty : TypeId} {pos : String} {af : Array Edge} {gd : Option (Nat × Bool)} : Val Tryd.prog cx true ⟨dst, .build 26 #[], ty, pos, af, gd⟩ st (.pag (setP 0)) :=
  by exact Val.buildAP (parts := []) rfl rfl rfl rfl
/-! ### What two sets have, together -/
theorem count_split (p q : Nat → Bool) : ∀ n, (List.range n).countP (fun m => p m || q m) + (List.range n).countP (fun m => p m && q m) = (List.range n).countP p + (List.range n).countP q := by
  intro n
  induction n with
  | zero => rfl
  | succ n ih =>
    rw [List.range_succ]
    simp only [List.countP_append, List.countP_singleton]
    cases p n <;> cases q n <;> simp <;> omega
theorem els_count (s : Nat) : (els s).length = (List.range 1024).countP fun m => s.testBit m := by unfold els; rw [List.countP_eq_length_filter]
theorem els_both (s t : Nat) : (els (s ||| t)).length + (els (andN s (andN s t))).length = (els s).length + (els t).length := by
  simp only [els_count]
  rw [← count_split (fun m => s.testBit m) (fun m => t.testBit m) 1024]
  congr 2
  · funext m; rw [Nat.testBit_or]
  · funext m; rw [andN_bit, andN_bit]; cases s.testBit m <;> cases t.testBit m <;> rfl
theorem minus_or (s t : Nat) : andN s t ||| t = s ||| t := by
  refine Nat.eq_of_testBit_eq fun j => ?_
  rw [Nat.testBit_or, Nat.testBit_or, andN_bit]; cases s.testBit j <;> cases t.testBit j <;> rfl
theorem minus_self (s : Nat) : andN s s = 0 := by
  refine Nat.eq_of_testBit_eq fun j => ?_
  rw [andN_bit, Nat.zero_testBit]; cases s.testBit j <;> rfl
theorem both_comm (s t : Nat) : andN s (andN s t) = andN t (andN t s) := by
  refine Nat.eq_of_testBit_eq fun j => ?_
  simp only [andN_bit]; cases s.testBit j <;> cases t.testBit j <;> rfl
theorem marksSums_ac (l m : List Int) (hl : l.length ≤ maxLen) (hm : m.length ≤ maxLen) : AC Tryd.prog GL 7 [.c (.p (.fro (l.map (pvI .i64)))), .c (.p (.fro (m.map (pvI .i64))))] [] (fun r _ => r = vb true) := by
  refine AC.body' Tryd.func7 Tryd.ntmps7 rfl ?_
  intro cx hd hG
  refine nrmL (k := ?_)
  repeat refine w1 (k := ?_)
  obtain ⟨w0, fz0, β0, df, G0⟩ := cx
  obtain rfl : G0 = GL := hG
  refine callN (hc := by exact awake_ac) (h := ?_)
  repeat refine w1 (k := ?_)
  refine callRowN (hc := by exact some_ac _ l hl ) (hso := by exact  pvI_ok _) (h := ?_)
  repeat refine w1 (k := ?_)
  first | refine zA 11 (h := ?_) | refine zO 11 (h := ?_) | refine zL 11 (h := ?_) | refine zL3 11 (h := ?_)
  have hsl := someL_len l
  refine callN (hc := by exact of_ac _ (someL l) (by omega)) (h := ?_)
  repeat refine w1 (k := ?_)
  refine callRowN (hc := by exact some_ac _ m hm ) (hso := by exact  pvI_ok _) (h := ?_)
  repeat refine w1 (k := ?_)
  first | refine zA 14 (h := ?_) | refine zO 14 (h := ?_) | refine zL 14 (h := ?_) | refine zL3 14 (h := ?_)
  have hsm := someL_len m
  refine callN (hc := by exact of_ac _ (someL m) (by omega)) (h := ?_)
  repeat refine w1 (k := ?_)
  have hs := ofL_lt (someL l)
  have ht := ofL_lt (someL m)
  generalize ofL (someL l) = s at *
  generalize ofL (someL m) = t at *
  have hm1 := andN_lt t hs
  have hm2 := andN_lt (andN s t) hs
  repeat refine w1 (k := ?_)
  refine DL.two 0 2 rfl rfl (by decide +kernel) rfl rfl ?_ ?_
  ·
    refine callN (hc := by exact minus_ac _ s t ht) (h := ?_)
    repeat refine w1 (k := ?_)
    refine DL.two 0 1 rfl rfl (by decide +kernel) rfl rfl ?_ ?_
    ·
      refine callN (hc := by exact minus_ac _ s (andN s t) hm1) (h := ?_)
      repeat refine w1 (k := ?_)
      repeat refine w1 (k := ?_)
      repeat (first | (refine DL.takeG 0 rfl (by decide +kernel) rfl rfl rfl (by first | with_reducible rfl | decide) (Val.ldF rfl rfl rfl rfl) ?_; refine nrm (k := ?_)) | (refine DL.takeG 1 rfl (by decide +kernel) rfl rfl rfl (by first | with_reducible rfl | decide) (Val.ldF rfl rfl rfl rfl) ?_; refine nrm (k := ?_)) | (refine DL.takeG 2 rfl (by decide +kernel) rfl rfl rfl (by first | with_reducible rfl | decide) (Val.ldF rfl rfl rfl rfl) ?_; refine nrm (k := ?_)) | (refine DL.takeG 3 rfl (by decide +kernel) rfl rfl rfl (by first | with_reducible rfl | decide) (Val.ldF rfl rfl rfl rfl) ?_; refine nrm (k := ?_)) | (refine DL.takeG 4 rfl (by decide +kernel) rfl rfl rfl (by first | with_reducible rfl | decide) (Val.ldF rfl rfl rfl rfl) ?_; refine nrm (k := ?_)) | (refine DL.takeG 5 rfl (by decide +kernel) rfl rfl rfl (by first | with_reducible rfl | decide) (Val.ldF rfl rfl rfl rfl) ?_; refine nrm (k := ?_)) | (refine DL.takeG 6 rfl (by decide +kernel) rfl rfl rfl (by first | with_reducible rfl | decide) (Val.ldF rfl rfl rfl rfl) ?_; refine nrm (k := ?_)) | (refine DL.takeG 7 rfl (by decide +kernel) rfl rfl rfl (by first | with_reducible rfl | decide) (Val.ldF rfl rfl rfl rfl) ?_; refine nrm (k := ?_)) | (refine DL.takeG 8 rfl (by decide +kernel) rfl rfl rfl (by first | with_reducible rfl | decide) (Val.ldF rfl rfl rfl rfl) ?_; refine nrm (k := ?_)))
      repeat refine w1 (k := ?_)
      have q1 := els_len (s ||| t)
      have q2 := els_len (andN s (andN s t))
      have q3 := els_len s
      have q4 := els_len t
      have q5 := els_both s t
      refine callN (hc := by exact or_ac _ s t ht) (h := ?_)
      repeat refine w1 (k := ?_)
      refine callN (hc := by exact len_ac _) (h := ?_)
      repeat refine w1 (k := ?_)
      refine callN (hc := by exact len_ac _) (h := ?_)
      repeat refine w1 (k := ?_)
      refine callN (hc := by exact len_ac _) (h := ?_)
      repeat refine w1 (k := ?_)
      refine callN (hc := by exact len_ac _) (h := ?_)
      repeat refine w1 (k := ?_)
      rw [show (((els (s ||| t)).length : Int) + ((els (andN s (andN s t))).length : Int) == ((els s).length : Int) + ((els t).length : Int)) = true by rw [beq_iff_eq]; omega]
      repeat refine w1 (k := ?_)
      repeat (first | (refine DL.takeG 0 rfl (by decide +kernel) rfl rfl rfl (by first | with_reducible rfl | decide) (Val.ldF rfl rfl rfl rfl) ?_; refine nrm (k := ?_)) | (refine DL.takeG 1 rfl (by decide +kernel) rfl rfl rfl (by first | with_reducible rfl | decide) (Val.ldF rfl rfl rfl rfl) ?_; refine nrm (k := ?_)) | (refine DL.takeG 2 rfl (by decide +kernel) rfl rfl rfl (by first | with_reducible rfl | decide) (Val.ldF rfl rfl rfl rfl) ?_; refine nrm (k := ?_)) | (refine DL.takeG 3 rfl (by decide +kernel) rfl rfl rfl (by first | with_reducible rfl | decide) (Val.ldF rfl rfl rfl rfl) ?_; refine nrm (k := ?_)) | (refine DL.takeG 4 rfl (by decide +kernel) rfl rfl rfl (by first | with_reducible rfl | decide) (Val.ldF rfl rfl rfl rfl) ?_; refine nrm (k := ?_)) | (refine DL.takeG 5 rfl (by decide +kernel) rfl rfl rfl (by first | with_reducible rfl | decide) (Val.ldF rfl rfl rfl rfl) ?_; refine nrm (k := ?_)) | (refine DL.takeG 6 rfl (by decide +kernel) rfl rfl rfl (by first | with_reducible rfl | decide) (Val.ldF rfl rfl rfl rfl) ?_; refine nrm (k := ?_)) | (refine DL.takeG 7 rfl (by decide +kernel) rfl rfl rfl (by first | with_reducible rfl | decide) (Val.ldF rfl rfl rfl rfl) ?_; refine nrm (k := ?_)) | (refine DL.takeG 8 rfl (by decide +kernel) rfl rfl rfl (by first | with_reducible rfl | decide) (Val.ldF rfl rfl rfl rfl) ?_; refine nrm (k := ?_)))
      repeat refine w1 (k := ?_)
      refine callN (hc := by exact minus_ac _ s t ht) (h := ?_)
      repeat refine w1 (k := ?_)
      refine callN (hc := by exact or_ac _ (andN s t) t ht) (h := ?_)
      repeat refine w1 (k := ?_)
      refine callN (hc := by exact or_ac _ s t ht) (h := ?_)
      repeat refine w1 (k := ?_)
      first | refine ofN (hv := by exact Val.eqS (or_lt hm1 ht) (or_lt hs ht) rfl rfl rfl rfl) (h := ?_) | refine dlN (hv := by exact Val.eqS (or_lt hm1 ht) (or_lt hs ht) rfl rfl rfl rfl) (h := ?_) | refine dlgN (hv := by exact Val.eqS (or_lt hm1 ht) (or_lt hs ht) rfl rfl rfl rfl) (h := ?_) | refine ofN (hv := by exact Val.eqS (or_lt hm1 ht) (or_lt hs ht) rfl rfl rfl rfl) (h := ?_)
      rw [minus_or, decide_eq_true rfl]
      repeat refine w1 (k := ?_)
      repeat (first | (refine DL.takeG 0 rfl (by decide +kernel) rfl rfl rfl (by first | with_reducible rfl | decide) (Val.ldF rfl rfl rfl rfl) ?_; refine nrm (k := ?_)) | (refine DL.takeG 1 rfl (by decide +kernel) rfl rfl rfl (by first | with_reducible rfl | decide) (Val.ldF rfl rfl rfl rfl) ?_; refine nrm (k := ?_)) | (refine DL.takeG 2 rfl (by decide +kernel) rfl rfl rfl (by first | with_reducible rfl | decide) (Val.ldF rfl rfl rfl rfl) ?_; refine nrm (k := ?_)) | (refine DL.takeG 3 rfl (by decide +kernel) rfl rfl rfl (by first | with_reducible rfl | decide) (Val.ldF rfl rfl rfl rfl) ?_; refine nrm (k := ?_)) | (refine DL.takeG 4 rfl (by decide +kernel) rfl rfl rfl (by first | with_reducible rfl | decide) (Val.ldF rfl rfl rfl rfl) ?_; refine nrm (k := ?_)) | (refine DL.takeG 5 rfl (by decide +kernel) rfl rfl rfl (by first | with_reducible rfl | decide) (Val.ldF rfl rfl rfl rfl) ?_; refine nrm (k := ?_)) | (refine DL.takeG 6 rfl (by decide +kernel) rfl rfl rfl (by first | with_reducible rfl | decide) (Val.ldF rfl rfl rfl rfl) ?_; refine nrm (k := ?_)) | (refine DL.takeG 7 rfl (by decide +kernel) rfl rfl rfl (by first | with_reducible rfl | decide) (Val.ldF rfl rfl rfl rfl) ?_; refine nrm (k := ?_)) | (refine DL.takeG 8 rfl (by decide +kernel) rfl rfl rfl (by first | with_reducible rfl | decide) (Val.ldF rfl rfl rfl rfl) ?_; refine nrm (k := ?_)))
      repeat refine w1 (k := ?_)
      refine callN (hc := by exact or_ac _ s t ht) (h := ?_)
      repeat refine w1 (k := ?_)
      refine callN (hc := by exact or_ac _ t s hs) (h := ?_)
      repeat refine w1 (k := ?_)
      first | refine ofN (hv := by exact Val.eqS (or_lt hs ht) (or_lt ht hs) rfl rfl rfl rfl) (h := ?_) | refine dlN (hv := by exact Val.eqS (or_lt hs ht) (or_lt ht hs) rfl rfl rfl rfl) (h := ?_) | refine dlgN (hv := by exact Val.eqS (or_lt hs ht) (or_lt ht hs) rfl rfl rfl rfl) (h := ?_) | refine ofN (hv := by exact Val.eqS (or_lt hs ht) (or_lt ht hs) rfl rfl rfl rfl) (h := ?_)
      rw [Nat.or_comm t s, decide_eq_true rfl]
      repeat refine w1 (k := ?_)
      repeat (first | (refine DL.takeG 0 rfl (by decide +kernel) rfl rfl rfl (by first | with_reducible rfl | decide) (Val.ldF rfl rfl rfl rfl) ?_; refine nrm (k := ?_)) | (refine DL.takeG 1 rfl (by decide +kernel) rfl rfl rfl (by first | with_reducible rfl | decide) (Val.ldF rfl rfl rfl rfl) ?_; refine nrm (k := ?_)) | (refine DL.takeG 2 rfl (by decide +kernel) rfl rfl rfl (by first | with_reducible rfl | decide) (Val.ldF rfl rfl rfl rfl) ?_; refine nrm (k := ?_)) | (refine DL.takeG 3 rfl (by decide +kernel) rfl rfl rfl (by first | with_reducible rfl | decide) (Val.ldF rfl rfl rfl rfl) ?_; refine nrm (k := ?_)) | (refine DL.takeG 4 rfl (by decide +kernel) rfl rfl rfl (by first | with_reducible rfl | decide) (Val.ldF rfl rfl rfl rfl) ?_; refine nrm (k := ?_)) | (refine DL.takeG 5 rfl (by decide +kernel) rfl rfl rfl (by first | with_reducible rfl | decide) (Val.ldF rfl rfl rfl rfl) ?_; refine nrm (k := ?_)) | (refine DL.takeG 6 rfl (by decide +kernel) rfl rfl rfl (by first | with_reducible rfl | decide) (Val.ldF rfl rfl rfl rfl) ?_; refine nrm (k := ?_)) | (refine DL.takeG 7 rfl (by decide +kernel) rfl rfl rfl (by first | with_reducible rfl | decide) (Val.ldF rfl rfl rfl rfl) ?_; refine nrm (k := ?_)) | (refine DL.takeG 8 rfl (by decide +kernel) rfl rfl rfl (by first | with_reducible rfl | decide) (Val.ldF rfl rfl rfl rfl) ?_; refine nrm (k := ?_)))
      repeat refine w1 (k := ?_)
      refine DL.takeG 1 rfl (by decide +kernel) rfl rfl rfl (by first | with_reducible rfl | decide) Val.build0 ?_
      refine nrm (k := ?_)
      repeat refine w1 (k := ?_)
      refine callN (hc := by exact minus_ac _ s s hs) (h := ?_)
      repeat refine w1 (k := ?_)
      first | refine ofN (hv := by exact Val.eqS (b := 0) (andN_lt s hs) (bigN_pos 1024) rfl rfl rfl rfl) (h := ?_) | refine dlN (hv := by exact Val.eqS (b := 0) (andN_lt s hs) (bigN_pos 1024) rfl rfl rfl rfl) (h := ?_) | refine dlgN (hv := by exact Val.eqS (b := 0) (andN_lt s hs) (bigN_pos 1024) rfl rfl rfl rfl) (h := ?_) | refine ofN (hv := by exact Val.eqS (b := 0) (andN_lt s hs) (bigN_pos 1024) rfl rfl rfl rfl) (h := ?_)
      rw [minus_self, decide_eq_true rfl]
      repeat refine w1 (k := ?_)
      repeat (first | (refine DL.takeG 0 rfl (by decide +kernel) rfl rfl rfl (by first | with_reducible rfl | decide) (Val.ldF rfl rfl rfl rfl) ?_; refine nrm (k := ?_)) | (refine DL.takeG 1 rfl (by decide +kernel) rfl rfl rfl (by first | with_reducible rfl | decide) (Val.ldF rfl rfl rfl rfl) ?_; refine nrm (k := ?_)) | (refine DL.takeG 2 rfl (by decide +kernel) rfl rfl rfl (by first | with_reducible rfl | decide) (Val.ldF rfl rfl rfl rfl) ?_; refine nrm (k := ?_)) | (refine DL.takeG 3 rfl (by decide +kernel) rfl rfl rfl (by first | with_reducible rfl | decide) (Val.ldF rfl rfl rfl rfl) ?_; refine nrm (k := ?_)) | (refine DL.takeG 4 rfl (by decide +kernel) rfl rfl rfl (by first | with_reducible rfl | decide) (Val.ldF rfl rfl rfl rfl) ?_; refine nrm (k := ?_)) | (refine DL.takeG 5 rfl (by decide +kernel) rfl rfl rfl (by first | with_reducible rfl | decide) (Val.ldF rfl rfl rfl rfl) ?_; refine nrm (k := ?_)) | (refine DL.takeG 6 rfl (by decide +kernel) rfl rfl rfl (by first | with_reducible rfl | decide) (Val.ldF rfl rfl rfl rfl) ?_; refine nrm (k := ?_)) | (refine DL.takeG 7 rfl (by decide +kernel) rfl rfl rfl (by first | with_reducible rfl | decide) (Val.ldF rfl rfl rfl rfl) ?_; refine nrm (k := ?_)) | (refine DL.takeG 8 rfl (by decide +kernel) rfl rfl rfl (by first | with_reducible rfl | decide) (Val.ldF rfl rfl rfl rfl) ?_; refine nrm (k := ?_)))
      repeat refine w1 (k := ?_)
      refine callN (hc := by exact minus_ac _ t s hs) (h := ?_)
      repeat refine w1 (k := ?_)
      refine callN (hc := by exact minus_ac _ t (andN t s) (andN_lt s ht)) (h := ?_)
      repeat refine w1 (k := ?_)
      first | refine ofN (hv := by exact Val.eqS hm2 (andN_lt (andN t s) ht) rfl rfl rfl rfl) (h := ?_) | refine dlN (hv := by exact Val.eqS hm2 (andN_lt (andN t s) ht) rfl rfl rfl rfl) (h := ?_) | refine dlgN (hv := by exact Val.eqS hm2 (andN_lt (andN t s) ht) rfl rfl rfl rfl) (h := ?_) | refine ofN (hv := by exact Val.eqS hm2 (andN_lt (andN t s) ht) rfl rfl rfl rfl) (h := ?_)
      rw [both_comm s t, decide_eq_true rfl]
      repeat refine w1 (k := ?_)
      exact ⟨[.c _], .cons (.tmp rfl) .nil, rfl⟩
    ·
      repeat refine w1 (k := ?_)
      refine callN (hc := by exact minus_ac _ s (andN s t) hm1) (h := ?_)
      repeat refine w1 (k := ?_)
      repeat refine w1 (k := ?_)
      repeat (first | (refine DL.takeG 0 rfl (by decide +kernel) rfl rfl rfl (by first | with_reducible rfl | decide) (Val.ldF rfl rfl rfl rfl) ?_; refine nrm (k := ?_)) | (refine DL.takeG 1 rfl (by decide +kernel) rfl rfl rfl (by first | with_reducible rfl | decide) (Val.ldF rfl rfl rfl rfl) ?_; refine nrm (k := ?_)) | (refine DL.takeG 2 rfl (by decide +kernel) rfl rfl rfl (by first | with_reducible rfl | decide) (Val.ldF rfl rfl rfl rfl) ?_; refine nrm (k := ?_)) | (refine DL.takeG 3 rfl (by decide +kernel) rfl rfl rfl (by first | with_reducible rfl | decide) (Val.ldF rfl rfl rfl rfl) ?_; refine nrm (k := ?_)) | (refine DL.takeG 4 rfl (by decide +kernel) rfl rfl rfl (by first | with_reducible rfl | decide) (Val.ldF rfl rfl rfl rfl) ?_; refine nrm (k := ?_)) | (refine DL.takeG 5 rfl (by decide +kernel) rfl rfl rfl (by first | with_reducible rfl | decide) (Val.ldF rfl rfl rfl rfl) ?_; refine nrm (k := ?_)) | (refine DL.takeG 6 rfl (by decide +kernel) rfl rfl rfl (by first | with_reducible rfl | decide) (Val.ldF rfl rfl rfl rfl) ?_; refine nrm (k := ?_)) | (refine DL.takeG 7 rfl (by decide +kernel) rfl rfl rfl (by first | with_reducible rfl | decide) (Val.ldF rfl rfl rfl rfl) ?_; refine nrm (k := ?_)) | (refine DL.takeG 8 rfl (by decide +kernel) rfl rfl rfl (by first | with_reducible rfl | decide) (Val.ldF rfl rfl rfl rfl) ?_; refine nrm (k := ?_)))
      repeat refine w1 (k := ?_)
      have q1 := els_len (s ||| t)
      have q2 := els_len (andN s (andN s t))
      have q3 := els_len s
      have q4 := els_len t
      have q5 := els_both s t
      refine callN (hc := by exact or_ac _ s t ht) (h := ?_)
      repeat refine w1 (k := ?_)
      refine callN (hc := by exact len_ac _) (h := ?_)
      repeat refine w1 (k := ?_)
      refine callN (hc := by exact len_ac _) (h := ?_)
      repeat refine w1 (k := ?_)
      refine callN (hc := by exact len_ac _) (h := ?_)
      repeat refine w1 (k := ?_)
      refine callN (hc := by exact len_ac _) (h := ?_)
      repeat refine w1 (k := ?_)
      rw [show (((els (s ||| t)).length : Int) + ((els (andN s (andN s t))).length : Int) == ((els s).length : Int) + ((els t).length : Int)) = true by rw [beq_iff_eq]; omega]
      repeat refine w1 (k := ?_)
      repeat (first | (refine DL.takeG 0 rfl (by decide +kernel) rfl rfl rfl (by first | with_reducible rfl | decide) (Val.ldF rfl rfl rfl rfl) ?_; refine nrm (k := ?_)) | (refine DL.takeG 1 rfl (by decide +kernel) rfl rfl rfl (by first | with_reducible rfl | decide) (Val.ldF rfl rfl rfl rfl) ?_; refine nrm (k := ?_)) | (refine DL.takeG 2 rfl (by decide +kernel) rfl rfl rfl (by first | with_reducible rfl | decide) (Val.ldF rfl rfl rfl rfl) ?_; refine nrm (k := ?_)) | (refine DL.takeG 3 rfl (by decide +kernel) rfl rfl rfl (by first | with_reducible rfl | decide) (Val.ldF rfl rfl rfl rfl) ?_; refine nrm (k := ?_)) | (refine DL.takeG 4 rfl (by decide +kernel) rfl rfl rfl (by first | with_reducible rfl | decide) (Val.ldF rfl rfl rfl rfl) ?_; refine nrm (k := ?_)) | (refine DL.takeG 5 rfl (by decide +kernel) rfl rfl rfl (by first | with_reducible rfl | decide) (Val.ldF rfl rfl rfl rfl) ?_; refine nrm (k := ?_)) | (refine DL.takeG 6 rfl (by decide +kernel) rfl rfl rfl (by first | with_reducible rfl | decide) (Val.ldF rfl rfl rfl rfl) ?_; refine nrm (k := ?_)) | (refine DL.takeG 7 rfl (by decide +kernel) rfl rfl rfl (by first | with_reducible rfl | decide) (Val.ldF rfl rfl rfl rfl) ?_; refine nrm (k := ?_)) | (refine DL.takeG 8 rfl (by decide +kernel) rfl rfl rfl (by first | with_reducible rfl | decide) (Val.ldF rfl rfl rfl rfl) ?_; refine nrm (k := ?_)))
      repeat refine w1 (k := ?_)
      refine callN (hc := by exact minus_ac _ s t ht) (h := ?_)
      repeat refine w1 (k := ?_)
      refine callN (hc := by exact or_ac _ (andN s t) t ht) (h := ?_)
      repeat refine w1 (k := ?_)
      refine callN (hc := by exact or_ac _ s t ht) (h := ?_)
      repeat refine w1 (k := ?_)
      first | refine ofN (hv := by exact Val.eqS (or_lt hm1 ht) (or_lt hs ht) rfl rfl rfl rfl) (h := ?_) | refine dlN (hv := by exact Val.eqS (or_lt hm1 ht) (or_lt hs ht) rfl rfl rfl rfl) (h := ?_) | refine dlgN (hv := by exact Val.eqS (or_lt hm1 ht) (or_lt hs ht) rfl rfl rfl rfl) (h := ?_) | refine ofN (hv := by exact Val.eqS (or_lt hm1 ht) (or_lt hs ht) rfl rfl rfl rfl) (h := ?_)
      rw [minus_or, decide_eq_true rfl]
      repeat refine w1 (k := ?_)
      repeat (first | (refine DL.takeG 0 rfl (by decide +kernel) rfl rfl rfl (by first | with_reducible rfl | decide) (Val.ldF rfl rfl rfl rfl) ?_; refine nrm (k := ?_)) | (refine DL.takeG 1 rfl (by decide +kernel) rfl rfl rfl (by first | with_reducible rfl | decide) (Val.ldF rfl rfl rfl rfl) ?_; refine nrm (k := ?_)) | (refine DL.takeG 2 rfl (by decide +kernel) rfl rfl rfl (by first | with_reducible rfl | decide) (Val.ldF rfl rfl rfl rfl) ?_; refine nrm (k := ?_)) | (refine DL.takeG 3 rfl (by decide +kernel) rfl rfl rfl (by first | with_reducible rfl | decide) (Val.ldF rfl rfl rfl rfl) ?_; refine nrm (k := ?_)) | (refine DL.takeG 4 rfl (by decide +kernel) rfl rfl rfl (by first | with_reducible rfl | decide) (Val.ldF rfl rfl rfl rfl) ?_; refine nrm (k := ?_)) | (refine DL.takeG 5 rfl (by decide +kernel) rfl rfl rfl (by first | with_reducible rfl | decide) (Val.ldF rfl rfl rfl rfl) ?_; refine nrm (k := ?_)) | (refine DL.takeG 6 rfl (by decide +kernel) rfl rfl rfl (by first | with_reducible rfl | decide) (Val.ldF rfl rfl rfl rfl) ?_; refine nrm (k := ?_)) | (refine DL.takeG 7 rfl (by decide +kernel) rfl rfl rfl (by first | with_reducible rfl | decide) (Val.ldF rfl rfl rfl rfl) ?_; refine nrm (k := ?_)) | (refine DL.takeG 8 rfl (by decide +kernel) rfl rfl rfl (by first | with_reducible rfl | decide) (Val.ldF rfl rfl rfl rfl) ?_; refine nrm (k := ?_)))
      repeat refine w1 (k := ?_)
      refine callN (hc := by exact or_ac _ s t ht) (h := ?_)
      repeat refine w1 (k := ?_)
      refine callN (hc := by exact or_ac _ t s hs) (h := ?_)
      repeat refine w1 (k := ?_)
      first | refine ofN (hv := by exact Val.eqS (or_lt hs ht) (or_lt ht hs) rfl rfl rfl rfl) (h := ?_) | refine dlN (hv := by exact Val.eqS (or_lt hs ht) (or_lt ht hs) rfl rfl rfl rfl) (h := ?_) | refine dlgN (hv := by exact Val.eqS (or_lt hs ht) (or_lt ht hs) rfl rfl rfl rfl) (h := ?_) | refine ofN (hv := by exact Val.eqS (or_lt hs ht) (or_lt ht hs) rfl rfl rfl rfl) (h := ?_)
      rw [Nat.or_comm t s, decide_eq_true rfl]
      repeat refine w1 (k := ?_)
      repeat (first | (refine DL.takeG 0 rfl (by decide +kernel) rfl rfl rfl (by first | with_reducible rfl | decide) (Val.ldF rfl rfl rfl rfl) ?_; refine nrm (k := ?_)) | (refine DL.takeG 1 rfl (by decide +kernel) rfl rfl rfl (by first | with_reducible rfl | decide) (Val.ldF rfl rfl rfl rfl) ?_; refine nrm (k := ?_)) | (refine DL.takeG 2 rfl (by decide +kernel) rfl rfl rfl (by first | with_reducible rfl | decide) (Val.ldF rfl rfl rfl rfl) ?_; refine nrm (k := ?_)) | (refine DL.takeG 3 rfl (by decide +kernel) rfl rfl rfl (by first | with_reducible rfl | decide) (Val.ldF rfl rfl rfl rfl) ?_; refine nrm (k := ?_)) | (refine DL.takeG 4 rfl (by decide +kernel) rfl rfl rfl (by first | with_reducible rfl | decide) (Val.ldF rfl rfl rfl rfl) ?_; refine nrm (k := ?_)) | (refine DL.takeG 5 rfl (by decide +kernel) rfl rfl rfl (by first | with_reducible rfl | decide) (Val.ldF rfl rfl rfl rfl) ?_; refine nrm (k := ?_)) | (refine DL.takeG 6 rfl (by decide +kernel) rfl rfl rfl (by first | with_reducible rfl | decide) (Val.ldF rfl rfl rfl rfl) ?_; refine nrm (k := ?_)) | (refine DL.takeG 7 rfl (by decide +kernel) rfl rfl rfl (by first | with_reducible rfl | decide) (Val.ldF rfl rfl rfl rfl) ?_; refine nrm (k := ?_)) | (refine DL.takeG 8 rfl (by decide +kernel) rfl rfl rfl (by first | with_reducible rfl | decide) (Val.ldF rfl rfl rfl rfl) ?_; refine nrm (k := ?_)))
      repeat refine w1 (k := ?_)
      refine DL.takeG 1 rfl (by decide +kernel) rfl rfl rfl (by first | with_reducible rfl | decide) Val.build0 ?_
      refine nrm (k := ?_)
      repeat refine w1 (k := ?_)
      refine callN (hc := by exact minus_ac _ s s hs) (h := ?_)
      repeat refine w1 (k := ?_)
      first | refine ofN (hv := by exact Val.eqS (b := 0) (andN_lt s hs) (bigN_pos 1024) rfl rfl rfl rfl) (h := ?_) | refine dlN (hv := by exact Val.eqS (b := 0) (andN_lt s hs) (bigN_pos 1024) rfl rfl rfl rfl) (h := ?_) | refine dlgN (hv := by exact Val.eqS (b := 0) (andN_lt s hs) (bigN_pos 1024) rfl rfl rfl rfl) (h := ?_) | refine ofN (hv := by exact Val.eqS (b := 0) (andN_lt s hs) (bigN_pos 1024) rfl rfl rfl rfl) (h := ?_)
      rw [minus_self, decide_eq_true rfl]
      repeat refine w1 (k := ?_)
      repeat (first | (refine DL.takeG 0 rfl (by decide +kernel) rfl rfl rfl (by first | with_reducible rfl | decide) (Val.ldF rfl rfl rfl rfl) ?_; refine nrm (k := ?_)) | (refine DL.takeG 1 rfl (by decide +kernel) rfl rfl rfl (by first | with_reducible rfl | decide) (Val.ldF rfl rfl rfl rfl) ?_; refine nrm (k := ?_)) | (refine DL.takeG 2 rfl (by decide +kernel) rfl rfl rfl (by first | with_reducible rfl | decide) (Val.ldF rfl rfl rfl rfl) ?_; refine nrm (k := ?_)) | (refine DL.takeG 3 rfl (by decide +kernel) rfl rfl rfl (by first | with_reducible rfl | decide) (Val.ldF rfl rfl rfl rfl) ?_; refine nrm (k := ?_)) | (refine DL.takeG 4 rfl (by decide +kernel) rfl rfl rfl (by first | with_reducible rfl | decide) (Val.ldF rfl rfl rfl rfl) ?_; refine nrm (k := ?_)) | (refine DL.takeG 5 rfl (by decide +kernel) rfl rfl rfl (by first | with_reducible rfl | decide) (Val.ldF rfl rfl rfl rfl) ?_; refine nrm (k := ?_)) | (refine DL.takeG 6 rfl (by decide +kernel) rfl rfl rfl (by first | with_reducible rfl | decide) (Val.ldF rfl rfl rfl rfl) ?_; refine nrm (k := ?_)) | (refine DL.takeG 7 rfl (by decide +kernel) rfl rfl rfl (by first | with_reducible rfl | decide) (Val.ldF rfl rfl rfl rfl) ?_; refine nrm (k := ?_)) | (refine DL.takeG 8 rfl (by decide +kernel) rfl rfl rfl (by first | with_reducible rfl | decide) (Val.ldF rfl rfl rfl rfl) ?_; refine nrm (k := ?_)))
      repeat refine w1 (k := ?_)
      refine callN (hc := by exact minus_ac _ t s hs) (h := ?_)
      repeat refine w1 (k := ?_)
      refine callN (hc := by exact minus_ac _ t (andN t s) (andN_lt s ht)) (h := ?_)
      repeat refine w1 (k := ?_)
      first | refine ofN (hv := by exact Val.eqS hm2 (andN_lt (andN t s) ht) rfl rfl rfl rfl) (h := ?_) | refine dlN (hv := by exact Val.eqS hm2 (andN_lt (andN t s) ht) rfl rfl rfl rfl) (h := ?_) | refine dlgN (hv := by exact Val.eqS hm2 (andN_lt (andN t s) ht) rfl rfl rfl rfl) (h := ?_) | refine ofN (hv := by exact Val.eqS hm2 (andN_lt (andN t s) ht) rfl rfl rfl rfl) (h := ?_)
      rw [both_comm s t, decide_eq_true rfl]
      repeat refine w1 (k := ?_)
      exact ⟨[.c _], .cons (.tmp rfl) .nil, rfl⟩
  ·
    repeat refine w1 (k := ?_)
    refine callN (hc := by exact minus_ac _ s t ht) (h := ?_)
    repeat refine w1 (k := ?_)
    refine callN (hc := by exact minus_ac _ s (andN s t) hm1) (h := ?_)
    repeat refine w1 (k := ?_)
    repeat refine w1 (k := ?_)
    repeat (first | (refine DL.takeG 0 rfl (by decide +kernel) rfl rfl rfl (by first | with_reducible rfl | decide) (Val.ldF rfl rfl rfl rfl) ?_; refine nrm (k := ?_)) | (refine DL.takeG 1 rfl (by decide +kernel) rfl rfl rfl (by first | with_reducible rfl | decide) (Val.ldF rfl rfl rfl rfl) ?_; refine nrm (k := ?_)) | (refine DL.takeG 2 rfl (by decide +kernel) rfl rfl rfl (by first | with_reducible rfl | decide) (Val.ldF rfl rfl rfl rfl) ?_; refine nrm (k := ?_)) | (refine DL.takeG 3 rfl (by decide +kernel) rfl rfl rfl (by first | with_reducible rfl | decide) (Val.ldF rfl rfl rfl rfl) ?_; refine nrm (k := ?_)) | (refine DL.takeG 4 rfl (by decide +kernel) rfl rfl rfl (by first | with_reducible rfl | decide) (Val.ldF rfl rfl rfl rfl) ?_; refine nrm (k := ?_)) | (refine DL.takeG 5 rfl (by decide +kernel) rfl rfl rfl (by first | with_reducible rfl | decide) (Val.ldF rfl rfl rfl rfl) ?_; refine nrm (k := ?_)) | (refine DL.takeG 6 rfl (by decide +kernel) rfl rfl rfl (by first | with_reducible rfl | decide) (Val.ldF rfl rfl rfl rfl) ?_; refine nrm (k := ?_)) | (refine DL.takeG 7 rfl (by decide +kernel) rfl rfl rfl (by first | with_reducible rfl | decide) (Val.ldF rfl rfl rfl rfl) ?_; refine nrm (k := ?_)) | (refine DL.takeG 8 rfl (by decide +kernel) rfl rfl rfl (by first | with_reducible rfl | decide) (Val.ldF rfl rfl rfl rfl) ?_; refine nrm (k := ?_)))
    repeat refine w1 (k := ?_)
    have q1 := els_len (s ||| t)
    have q2 := els_len (andN s (andN s t))
    have q3 := els_len s
    have q4 := els_len t
    have q5 := els_both s t
    refine callN (hc := by exact or_ac _ s t ht) (h := ?_)
    repeat refine w1 (k := ?_)
    refine callN (hc := by exact len_ac _) (h := ?_)
    repeat refine w1 (k := ?_)
    refine callN (hc := by exact len_ac _) (h := ?_)
    repeat refine w1 (k := ?_)
    refine callN (hc := by exact len_ac _) (h := ?_)
    repeat refine w1 (k := ?_)
    refine callN (hc := by exact len_ac _) (h := ?_)
    repeat refine w1 (k := ?_)
    rw [show (((els (s ||| t)).length : Int) + ((els (andN s (andN s t))).length : Int) == ((els s).length : Int) + ((els t).length : Int)) = true by rw [beq_iff_eq]; omega]
    repeat refine w1 (k := ?_)
    repeat (first | (refine DL.takeG 0 rfl (by decide +kernel) rfl rfl rfl (by first | with_reducible rfl | decide) (Val.ldF rfl rfl rfl rfl) ?_; refine nrm (k := ?_)) | (refine DL.takeG 1 rfl (by decide +kernel) rfl rfl rfl (by first | with_reducible rfl | decide) (Val.ldF rfl rfl rfl rfl) ?_; refine nrm (k := ?_)) | (refine DL.takeG 2 rfl (by decide +kernel) rfl rfl rfl (by first | with_reducible rfl | decide) (Val.ldF rfl rfl rfl rfl) ?_; refine nrm (k := ?_)) | (refine DL.takeG 3 rfl (by decide +kernel) rfl rfl rfl (by first | with_reducible rfl | decide) (Val.ldF rfl rfl rfl rfl) ?_; refine nrm (k := ?_)) | (refine DL.takeG 4 rfl (by decide +kernel) rfl rfl rfl (by first | with_reducible rfl | decide) (Val.ldF rfl rfl rfl rfl) ?_; refine nrm (k := ?_)) | (refine DL.takeG 5 rfl (by decide +kernel) rfl rfl rfl (by first | with_reducible rfl | decide) (Val.ldF rfl rfl rfl rfl) ?_; refine nrm (k := ?_)) | (refine DL.takeG 6 rfl (by decide +kernel) rfl rfl rfl (by first | with_reducible rfl | decide) (Val.ldF rfl rfl rfl rfl) ?_; refine nrm (k := ?_)) | (refine DL.takeG 7 rfl (by decide +kernel) rfl rfl rfl (by first | with_reducible rfl | decide) (Val.ldF rfl rfl rfl rfl) ?_; refine nrm (k := ?_)) | (refine DL.takeG 8 rfl (by decide +kernel) rfl rfl rfl (by first | with_reducible rfl | decide) (Val.ldF rfl rfl rfl rfl) ?_; refine nrm (k := ?_)))
    repeat refine w1 (k := ?_)
    refine callN (hc := by exact minus_ac _ s t ht) (h := ?_)
    repeat refine w1 (k := ?_)
    refine callN (hc := by exact or_ac _ (andN s t) t ht) (h := ?_)
    repeat refine w1 (k := ?_)
    refine callN (hc := by exact or_ac _ s t ht) (h := ?_)
    repeat refine w1 (k := ?_)
    first | refine ofN (hv := by exact Val.eqS (or_lt hm1 ht) (or_lt hs ht) rfl rfl rfl rfl) (h := ?_) | refine dlN (hv := by exact Val.eqS (or_lt hm1 ht) (or_lt hs ht) rfl rfl rfl rfl) (h := ?_) | refine dlgN (hv := by exact Val.eqS (or_lt hm1 ht) (or_lt hs ht) rfl rfl rfl rfl) (h := ?_) | refine ofN (hv := by exact Val.eqS (or_lt hm1 ht) (or_lt hs ht) rfl rfl rfl rfl) (h := ?_)
    rw [minus_or, decide_eq_true rfl]
    repeat refine w1 (k := ?_)
    repeat (first | (refine DL.takeG 0 rfl (by decide +kernel) rfl rfl rfl (by first | with_reducible rfl | decide) (Val.ldF rfl rfl rfl rfl) ?_; refine nrm (k := ?_)) | (refine DL.takeG 1 rfl (by decide +kernel) rfl rfl rfl (by first | with_reducible rfl | decide) (Val.ldF rfl rfl rfl rfl) ?_; refine nrm (k := ?_)) | (refine DL.takeG 2 rfl (by decide +kernel) rfl rfl rfl (by first | with_reducible rfl | decide) (Val.ldF rfl rfl rfl rfl) ?_; refine nrm (k := ?_)) | (refine DL.takeG 3 rfl (by decide +kernel) rfl rfl rfl (by first | with_reducible rfl | decide) (Val.ldF rfl rfl rfl rfl) ?_; refine nrm (k := ?_)) | (refine DL.takeG 4 rfl (by decide +kernel) rfl rfl rfl (by first | with_reducible rfl | decide) (Val.ldF rfl rfl rfl rfl) ?_; refine nrm (k := ?_)) | (refine DL.takeG 5 rfl (by decide +kernel) rfl rfl rfl (by first | with_reducible rfl | decide) (Val.ldF rfl rfl rfl rfl) ?_; refine nrm (k := ?_)) | (refine DL.takeG 6 rfl (by decide +kernel) rfl rfl rfl (by first | with_reducible rfl | decide) (Val.ldF rfl rfl rfl rfl) ?_; refine nrm (k := ?_)) | (refine DL.takeG 7 rfl (by decide +kernel) rfl rfl rfl (by first | with_reducible rfl | decide) (Val.ldF rfl rfl rfl rfl) ?_; refine nrm (k := ?_)) | (refine DL.takeG 8 rfl (by decide +kernel) rfl rfl rfl (by first | with_reducible rfl | decide) (Val.ldF rfl rfl rfl rfl) ?_; refine nrm (k := ?_)))
    repeat refine w1 (k := ?_)
    refine callN (hc := by exact or_ac _ s t ht) (h := ?_)
    repeat refine w1 (k := ?_)
    refine callN (hc := by exact or_ac _ t s hs) (h := ?_)
    repeat refine w1 (k := ?_)
    first | refine ofN (hv := by exact Val.eqS (or_lt hs ht) (or_lt ht hs) rfl rfl rfl rfl) (h := ?_) | refine dlN (hv := by exact Val.eqS (or_lt hs ht) (or_lt ht hs) rfl rfl rfl rfl) (h := ?_) | refine dlgN (hv := by exact Val.eqS (or_lt hs ht) (or_lt ht hs) rfl rfl rfl rfl) (h := ?_) | refine ofN (hv := by exact Val.eqS (or_lt hs ht) (or_lt ht hs) rfl rfl rfl rfl) (h := ?_)
    rw [Nat.or_comm t s, decide_eq_true rfl]
    repeat refine w1 (k := ?_)
    repeat (first | (refine DL.takeG 0 rfl (by decide +kernel) rfl rfl rfl (by first | with_reducible rfl | decide) (Val.ldF rfl rfl rfl rfl) ?_; refine nrm (k := ?_)) | (refine DL.takeG 1 rfl (by decide +kernel) rfl rfl rfl (by first | with_reducible rfl | decide) (Val.ldF rfl rfl rfl rfl) ?_; refine nrm (k := ?_)) | (refine DL.takeG 2 rfl (by decide +kernel) rfl rfl rfl (by first | with_reducible rfl | decide) (Val.ldF rfl rfl rfl rfl) ?_; refine nrm (k := ?_)) | (refine DL.takeG 3 rfl (by decide +kernel) rfl rfl rfl (by first | with_reducible rfl | decide) (Val.ldF rfl rfl rfl rfl) ?_; refine nrm (k := ?_)) | (refine DL.takeG 4 rfl (by decide +kernel) rfl rfl rfl (by first | with_reducible rfl | decide) (Val.ldF rfl rfl rfl rfl) ?_; refine nrm (k := ?_)) | (refine DL.takeG 5 rfl (by decide +kernel) rfl rfl rfl (by first | with_reducible rfl | decide) (Val.ldF rfl rfl rfl rfl) ?_; refine nrm (k := ?_)) | (refine DL.takeG 6 rfl (by decide +kernel) rfl rfl rfl (by first | with_reducible rfl | decide) (Val.ldF rfl rfl rfl rfl) ?_; refine nrm (k := ?_)) | (refine DL.takeG 7 rfl (by decide +kernel) rfl rfl rfl (by first | with_reducible rfl | decide) (Val.ldF rfl rfl rfl rfl) ?_; refine nrm (k := ?_)) | (refine DL.takeG 8 rfl (by decide +kernel) rfl rfl rfl (by first | with_reducible rfl | decide) (Val.ldF rfl rfl rfl rfl) ?_; refine nrm (k := ?_)))
    repeat refine w1 (k := ?_)
    refine DL.takeG 1 rfl (by decide +kernel) rfl rfl rfl (by first | with_reducible rfl | decide) Val.build0 ?_
    refine nrm (k := ?_)
    repeat refine w1 (k := ?_)
    refine callN (hc := by exact minus_ac _ s s hs) (h := ?_)
    repeat refine w1 (k := ?_)
    first | refine ofN (hv := by exact Val.eqS (b := 0) (andN_lt s hs) (bigN_pos 1024) rfl rfl rfl rfl) (h := ?_) | refine dlN (hv := by exact Val.eqS (b := 0) (andN_lt s hs) (bigN_pos 1024) rfl rfl rfl rfl) (h := ?_) | refine dlgN (hv := by exact Val.eqS (b := 0) (andN_lt s hs) (bigN_pos 1024) rfl rfl rfl rfl) (h := ?_) | refine ofN (hv := by exact Val.eqS (b := 0) (andN_lt s hs) (bigN_pos 1024) rfl rfl rfl rfl) (h := ?_)
    rw [minus_self, decide_eq_true rfl]
    repeat refine w1 (k := ?_)
    repeat (first | (refine DL.takeG 0 rfl (by decide +kernel) rfl rfl rfl (by first | with_reducible rfl | decide) (Val.ldF rfl rfl rfl rfl) ?_; refine nrm (k := ?_)) | (refine DL.takeG 1 rfl (by decide +kernel) rfl rfl rfl (by first | with_reducible rfl | decide) (Val.ldF rfl rfl rfl rfl) ?_; refine nrm (k := ?_)) | (refine DL.takeG 2 rfl (by decide +kernel) rfl rfl rfl (by first | with_reducible rfl | decide) (Val.ldF rfl rfl rfl rfl) ?_; refine nrm (k := ?_)) | (refine DL.takeG 3 rfl (by decide +kernel) rfl rfl rfl (by first | with_reducible rfl | decide) (Val.ldF rfl rfl rfl rfl) ?_; refine nrm (k := ?_)) | (refine DL.takeG 4 rfl (by decide +kernel) rfl rfl rfl (by first | with_reducible rfl | decide) (Val.ldF rfl rfl rfl rfl) ?_; refine nrm (k := ?_)) | (refine DL.takeG 5 rfl (by decide +kernel) rfl rfl rfl (by first | with_reducible rfl | decide) (Val.ldF rfl rfl rfl rfl) ?_; refine nrm (k := ?_)) | (refine DL.takeG 6 rfl (by decide +kernel) rfl rfl rfl (by first | with_reducible rfl | decide) (Val.ldF rfl rfl rfl rfl) ?_; refine nrm (k := ?_)) | (refine DL.takeG 7 rfl (by decide +kernel) rfl rfl rfl (by first | with_reducible rfl | decide) (Val.ldF rfl rfl rfl rfl) ?_; refine nrm (k := ?_)) | (refine DL.takeG 8 rfl (by decide +kernel) rfl rfl rfl (by first | with_reducible rfl | decide) (Val.ldF rfl rfl rfl rfl) ?_; refine nrm (k := ?_)))
    repeat refine w1 (k := ?_)
    refine callN (hc := by exact minus_ac _ t s hs) (h := ?_)
    repeat refine w1 (k := ?_)
    refine callN (hc := by exact minus_ac _ t (andN t s) (andN_lt s ht)) (h := ?_)
    repeat refine w1 (k := ?_)
    first | refine ofN (hv := by exact Val.eqS hm2 (andN_lt (andN t s) ht) rfl rfl rfl rfl) (h := ?_) | refine dlN (hv := by exact Val.eqS hm2 (andN_lt (andN t s) ht) rfl rfl rfl rfl) (h := ?_) | refine dlgN (hv := by exact Val.eqS hm2 (andN_lt (andN t s) ht) rfl rfl rfl rfl) (h := ?_) | refine ofN (hv := by exact Val.eqS hm2 (andN_lt (andN t s) ht) rfl rfl rfl rfl) (h := ?_)
    rw [both_comm s t, decide_eq_true rfl]
    repeat refine w1 (k := ?_)
    exact ⟨[.c _], .cons (.tmp rfl) .nil, rfl⟩
