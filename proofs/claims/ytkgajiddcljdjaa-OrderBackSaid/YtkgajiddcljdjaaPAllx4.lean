-- Laid by wip/printx.py, over the print of the kit.
import Derived.Test.YtkgajiddcljdjaaPAllx0
namespace Go.Proofs.Ytkgajiddcljdjaa.PAll
open Go.RowKit Go.Proofs.YtkgajiddcljdjaaW.PrintWords Go.Proofs.YtkgajiddcljdjaaW.PrintLast Go.Proofs.YtkgajiddcljdjaaW.PrintMore
attribute [local go_sem] max2_int min2_int max_two min_two max_three min_three max_four min_four   -- for this text's walks alone
set_option linter.unusedVariables false
set_option linter.unusedSimpArgs false

/-! ### order_Unrank: function 12 -/
/-- The digits of a rank: of i things. -/
def order_Unrank.dig : Nat → Int → List Int × Int
  | 0, r => ([], r)
  | i + 1, r => (((order_Unrank.dig i r).2 % ((i : Int) + 1)) :: (order_Unrank.dig i r).1, (order_Unrank.dig i r).2 / ((i : Int) + 1))
/-- The place, from i on, of m places, that is chosen: d free ones are left out. -/
def order_Unrank.pick (u : List Bool) : Nat → Nat → Int → Option Nat
  | 0, _, _ => none
  | m + 1, i, d => if u.getD i false = true then order_Unrank.pick u m (i + 1) d else if d = 0 then some i else order_Unrank.pick u m (i + 1) (d - 1)
def order_Unrank.picks (n : Nat) : List Bool → List Int → List Int
  | _, [] => []
  | u, d :: ds => match order_Unrank.pick u n 0 d with
    | none => order_Unrank.picks n u ds
    | some i => (i : Int) :: order_Unrank.picks n (u.set i true) ds
def order_Unrank.f (a0 a1 : Int) : Option (List Int × Bool) :=
  if -9223372036854775808 ≤ a0 ∧ a0 ≤ 9223372036854775807 ∧ -9223372036854775808 ≤ a1 ∧ a1 ≤ 9223372036854775807 then
    if a0 < 0 ∨ 20 < a0 ∨ a1 < 0 then some ([], false)
    else if 0 < (order_Unrank.dig a0.toNat a1).2 then some ([], false)
    else some (order_Unrank.picks a0.toNat (List.replicate 20 false) (order_Unrank.dig a0.toNat a1).1, true)
  else none
def order_Unrank.ints (xs : List Int) : Array Value := (xs.map (Value.int .i64)).toArray
def order_Unrank.bools (xs : List Bool) : Array Value := (xs.map Value.bool).toArray
theorem order_Unrank.ints_at (xs : List Int) (j : Nat) (h : j < xs.length) : (order_Unrank.ints xs)[j]? = some (.int .i64 (xs.getD j 0)) := by simp [order_Unrank.ints, h]
theorem order_Unrank.bools_at (xs : List Bool) (j : Nat) (h : j < xs.length) : (order_Unrank.bools xs)[j]? = some (.bool (xs.getD j false)) := by simp [order_Unrank.bools, h]
theorem order_Unrank.ints_set (xs : List Int) (j : Nat) (x : Int) : (order_Unrank.ints xs).setIfInBounds j (.int .i64 x) = order_Unrank.ints (xs.set j x) := by simp [order_Unrank.ints, List.map_set]
theorem order_Unrank.bools_set (xs : List Bool) (j : Nat) (x : Bool) : (order_Unrank.bools xs).setIfInBounds j (.bool x) = order_Unrank.bools (xs.set j x) := by simp [order_Unrank.bools, List.map_set]
theorem order_Unrank.dig_len (a : Int) : ∀ i, (order_Unrank.dig i a).1.length = i
  | 0 => rfl
  | i + 1 => by simp [order_Unrank.dig, order_Unrank.dig_len a i]
theorem order_Unrank.dig_nn (a : Int) (h : 0 ≤ a) : ∀ i, 0 ≤ (order_Unrank.dig i a).2 ∧ (order_Unrank.dig i a).2 ≤ a
  | 0 => ⟨h, Int.le_refl _⟩
  | i + 1 => by
    have ih := order_Unrank.dig_nn a h i
    refine ⟨Int.ediv_nonneg ih.1 (by omega), Int.le_trans (Int.ediv_le_self _ ih.1) ih.2⟩
theorem order_Unrank.put_back (n i : Nat) (h : i < n) (l : List Int) (x : Int) : (List.replicate (n - i) 0 ++ l).set (n - 1 - i) x = List.replicate (n - (i + 1)) 0 ++ x :: l := by
  have e : n - i = (n - 1 - i) + 1 := by omega
  have e2 : n - (i + 1) = n - 1 - i := by omega
  rw [e, e2, List.replicate_succ', List.append_assoc, List.set_append_right _ _ (by simp)]
  simp
theorem order_Unrank.dig_small (a : Int) (h : 0 ≤ a) : ∀ i, ∀ d ∈ (order_Unrank.dig i a).1, 0 ≤ d ∧ d < i
  | 0, d, hd => by simp [order_Unrank.dig] at hd
  | i + 1, d, hd => by
    have ih := order_Unrank.dig_small a h i d
    have hn := order_Unrank.dig_nn a h i
    rcases List.mem_cons.1 hd with rfl | hd
    · exact ⟨Int.emod_nonneg _ (by omega), by have := Int.emod_lt_of_pos (order_Unrank.dig i a).2 (b := (i : Int) + 1) (by omega); push_cast; exact this⟩
    · have := ih hd; push_cast; omega
theorem order_Unrank.pick_go (u : List Bool) (n m : Nat) (h : m < n) (d : Int) : order_Unrank.pick u (n - m) m d = if u.getD m false = true then order_Unrank.pick u (n - (m + 1)) (m + 1) d else if d = 0 then some m else order_Unrank.pick u (n - (m + 1)) (m + 1) (d - 1) := by
  have e : n - m = (n - (m + 1)) + 1 := by omega
  rw [e, order_Unrank.pick]
theorem order_Unrank.drop_go (D : List Int) (j : Nat) (h : j < D.length) : D.drop j = D.getD j 0 :: D.drop (j + 1) := by
  rw [List.drop_eq_getElem_cons h]; simp [h]
def order_Unrank.Post (n : Nat) (a1 : Int) (w : World) (e : Ending) (w' : World) : Prop := ∃ r1 r2, order_Unrank.f n a1 = some (r1, r2) ∧ ∃ v0_ : Value, e = .returned (.tuple #[v0_, .bool r2]) ∧ Kd.R (Kd.int .i64) 3 w' w.heap.size (fun _ => True) v0_ r1 ∧ Below w.heap.size w w'
set_option maxHeartbeats 8000000 in
set_option maxRecDepth 100000 in
theorem order_Unrank.good (n : Nat) (a1 : Int) (w : World) (hn : n ≤ 20) (h0 : 0 ≤ a1) (h1 : a1 ≤ 9223372036854775807) :
    Calls Try.prog 12 #[.int .i64 (n : Int), .int .i64 a1] w (order_Unrank.Post n a1 w) := by
  have c1 : decide ((n : Int) < 0) = false := decide_eq_false (by omega)
  have c2 : decide (20 < (n : Int)) = false := decide_eq_false (by omega)
  have c3 : decide (a1 < 0) = false := decide_eq_false (by omega)
  have HB := Aside0.mk (Below.refl w.heap.size w)
  obtain ⟨i3, hi3, hz3⟩ := Option.map_eq_some_iff.1 info3
  have hz3a : i3.zero = some (.int .i64 0) := by injection hz3
  have hz3b : i3.size = 1 := by injection hz3 with _ e; injection e
  have hz3c : i3.bytes = 8 := by injection hz3 with _ e; injection e
  have hmk : ∀ W : World, (Instr.makeSlice 22 (.int .i64 (n : Int)) (.int .i64 (n : Int))).run Try.prog W = .ok (.slice (some ⟨W.heap.size, 0, none⟩) n n) (W.alloc (.cells (order_Unrank.ints (List.replicate n 0)) 3)) := by
    intro W
    have := run_make (P := Try.prog) W 22 3 i3 _ Try.underlying22 hi3 hz3a .i64 .i64 n n (by omega) (by omega) (by rw [hz3c]; omega) (by omega)
    rw [this, hz3b]
    have e : madeCells (Value.int .i64 0).cells (n * 1) = order_Unrank.ints (List.replicate n 0) := by
      apply Array.ext
      · simp [madeCells, order_Unrank.ints]
      · intro j h1 h2; simp [madeCells, order_Unrank.ints, Value.cells, Nat.mod_one]
    simp only [Int.toNat_natCast, e]
  have hmk0 : ∀ W : World, (Instr.makeSlice 22 (.int .i64 0) (.int .i64 (n : Int))).run Try.prog W = .ok (.slice (some ⟨W.heap.size, 0, none⟩) 0 n) (W.alloc (.cells (order_Unrank.ints (List.replicate n 0)) 3)) := by
    intro W
    have := run_make (P := Try.prog) W 22 3 i3 _ Try.underlying22 hi3 hz3a .i64 .i64 0 n (by omega) (by omega) (by rw [hz3c]; omega) (by omega)
    rw [this, hz3b]
    have e : madeCells (Value.int .i64 0).cells (n * 1) = order_Unrank.ints (List.replicate n 0) := by
      apply Array.ext
      · simp [madeCells, order_Unrank.ints]
      · intro j h1 h2; simp [madeCells, order_Unrank.ints, Value.cells, Nat.mod_one]
    simp only [Int.toNat_natCast, Int.toNat_zero, e]
  go_enter Try.func12, Try.ntmps12
  go_wp2_with (go_step3)
  go_loopg [1, 26] n (fun kq v1 v26 w' => ∃ i : Nat, Aside0 (kq + i = n) ∧ v26 = .int .i64 (i : Int) ∧ v1 = .int .i64 (order_Unrank.dig i a1).2 ∧ Aside0 (w'.heap[w.heap.size]? = some (.cells (order_Unrank.ints (List.replicate (n - i) 0 ++ (order_Unrank.dig i a1).1)) 3 (0, 0))) ∧ Aside0 (Below w.heap.size w w'))
  case atStart => exact ⟨0, ⟨rfl⟩, rfl, rfl, ⟨by simp only [Nat.sub_zero, order_Unrank.dig, List.append_nil]; exact blk_new _ _⟩, ⟨below_alloc HB.out _⟩⟩
  case round =>
    clear HB
    obtain ⟨i, HK, rfl, rfl, HD, HB⟩ := hrel
    by_cases c4 : (i : Int) < n
    · have c4b := decide_eq_true c4
      have w1 : IntKind.i64.wrap ((n : Int) - 1) = (n : Int) - 1 := by rw [IntKind.wrap_i64]; omega
      have w2 : IntKind.i64.wrap ((n : Int) - 1 - (i : Int)) = ((n - 1 - i : Nat) : Int) := by rw [IntKind.wrap_i64]; omega
      have w3 : IntKind.i64.wrap ((i : Int) + 1) = (i : Int) + 1 := by rw [IntKind.wrap_i64]; omega
      obtain ⟨hn0, hn1⟩ := order_Unrank.dig_nn a1 h0 i
      have hlen := order_Unrank.dig_len a1 i
      have hfr := blk_frozen HD.out (n - 1 - i)
      have hat := (blk_cell HD.out (n - 1 - i)).trans (order_Unrank.ints_at _ (n - 1 - i) (by simp [hlen]; omega))
      have em : (order_Unrank.dig i a1).2.tmod ((i : Int) + 1) = (order_Unrank.dig i a1).2 % ((i : Int) + 1) := Int.tmod_eq_emod_of_nonneg hn0
      have ed : (order_Unrank.dig i a1).2.tdiv ((i : Int) + 1) = (order_Unrank.dig i a1).2 / ((i : Int) + 1) := Int.tdiv_eq_ediv_of_nonneg hn0
      have hd1 : (order_Unrank.dig (i + 1) a1).2 = (order_Unrank.dig i a1).2 / ((i : Int) + 1) := rfl
      have hdn := order_Unrank.dig_nn a1 h0 (i + 1)
      have w4 : IntKind.i64.wrap ((order_Unrank.dig i a1).2 / ((i : Int) + 1)) = (order_Unrank.dig i a1).2 / ((i : Int) + 1) := by rw [IntKind.wrap_i64]; omega
      have hst := blk_put HD.out (n - 1 - i) (.int .i64 ((order_Unrank.dig i a1).2 % ((i : Int) + 1))) ((order_Unrank.ints_set _ _ _).trans (congrArg order_Unrank.ints (order_Unrank.put_back n i (by omega) _ _)))
      have HS := Aside0.mk hst
      clear hst
      go_wp2_with (go_step3)
      cases gk with
      | zero => exact absurd HK.out (by omega)
      | succ k1 =>
        go_roundg k1
        case measure => omega
        case rel => exact ⟨i + 1, ⟨by have := HK.out; omega⟩, by push_cast; rfl, rfl, HS, ⟨below_set HB.out (Nat.le_refl _)⟩⟩
    · have c4b := decide_eq_false c4
      have hin : i = n := by have := HK.out; omega
      subst hin
      have HD2 := HD.out
      rw [Nat.sub_self, List.replicate_zero, List.nil_append] at HD2
      clear HD
      obtain ⟨hn0, hn1⟩ := order_Unrank.dig_nn a1 h0 i
      by_cases c5 : 0 < (order_Unrank.dig i a1).2
      · have c5b := decide_eq_true c5
        go_wp2_with (go_step3)
        go_ret2
        refine ⟨[], false, ?_, _, rfl, Kd.R_nil _ _ _ _ _, HB.out⟩
        rw [order_Unrank.f, if_pos (by omega), if_neg (by omega), if_pos (by rw [Int.toNat_natCast]; exact c5)]
      · have c5b := decide_eq_false c5
        have hF : order_Unrank.f i a1 = some (order_Unrank.picks i (List.replicate 20 false) (order_Unrank.dig i a1).1, true) := by
          rw [order_Unrank.f, if_pos (by omega), if_neg (by omega), if_neg (by rw [Int.toNat_natCast]; exact c5)]; simp only [Int.toNat_natCast]
        have hlen := order_Unrank.dig_len a1 i
        have hsm := order_Unrank.dig_small a1 h0 i
        generalize (order_Unrank.dig i a1).1 = D at hF hlen hsm HD2
        generalize (order_Unrank.dig i a1).2 = z1 at c5 c5b hn0 hn1
        have hgd : w.heap.size < wr.heap.size := blk_lt HD2
        have HD := Aside0.mk HD2
        clear HD2 HK
        go_wp2_with (go_step3)
        have hT : ((wr.alloc (Obj.cells (order_Unrank.bools (List.replicate 20 false)) 56)).alloc (Obj.cells (order_Unrank.ints (List.replicate i 0)) 3)).heap[wr.heap.size]? = some (Obj.cells (order_Unrank.bools (List.replicate 20 false)) 56) := blk_alloc (blk_new _ _) _
        have hD : ((wr.alloc (Obj.cells (order_Unrank.bools (List.replicate 20 false)) 56)).alloc (Obj.cells (order_Unrank.ints (List.replicate i 0)) 3)).heap[w.heap.size]? = some (Obj.cells (order_Unrank.ints D) 3) := blk_alloc (blk_alloc HD.out _) _
        have hB : Below w.heap.size w ((wr.alloc (Obj.cells (order_Unrank.bools (List.replicate 20 false)) 56)).alloc (Obj.cells (order_Unrank.ints (List.replicate i 0)) 3)) := below_alloc (below_alloc HB.out _) _
        have hO : Kd.R (Kd.int .i64) 3 ((wr.alloc (Obj.cells (order_Unrank.bools (List.replicate 20 false)) 56)).alloc (Obj.cells (order_Unrank.ints (List.replicate i 0)) 3)) w.heap.size (fun k => k ≠ w.heap.size ∧ k ≠ wr.heap.size) (.slice (some ⟨wr.heap.size + 1, 0, none⟩) 0 i) [] := by
          refine ⟨fun k hk => ?_, [], ?_, ?_⟩
          · simp [Value.ownBlock] at hk; omega
          · have := World.ownsRow_made (base := w.heap.size) (size := 1) (e := 3) (wr.alloc (Obj.cells (order_Unrank.bools (List.replicate 20 false)) 56)) (order_Unrank.ints (List.replicate i 0)) i (by rw [World.size_alloc]; omega) (by simp [maxLen]; omega) (by simp [order_Unrank.ints])
            rw [World.size_alloc] at this
            exact this
          · constructor
            · rfl
            · intro j p hj; exact absurd hj (by simp)
        have HD := Aside0.mk hD
        have HT := Aside0.mk hT
        have HB := Aside0.mk hB
        have HO := Aside0.mk hO
        clear hD hT hB hO
        generalize hgt : wr.heap.size = gt at *
        go_loopg [9, 50] i (fun kq v9 v50 w' => ∃ (j : Nat) (u : List Bool) (o : List Int), Aside0 (kq + j = i) ∧ v50 = .int .i64 (j : Int) ∧ Aside0 (u.length = 20 ∧ o.length ≤ j) ∧ Aside0 (w'.heap[w.heap.size]? = some (.cells (order_Unrank.ints D) 3 (0, 0))) ∧ Aside0 (w'.heap[gt]? = some (.cells (order_Unrank.bools u) 56 (0, 0))) ∧ Aside0 (Kd.R (Kd.int .i64) 3 w' w.heap.size (fun k => k ≠ w.heap.size ∧ k ≠ gt) v9 o) ∧ Aside0 (o ++ order_Unrank.picks i u (D.drop j) = order_Unrank.picks i (List.replicate 20 false) D) ∧ Aside0 (Below w.heap.size w w'))
        case atStart => exact ⟨0, List.replicate 20 false, [], ⟨rfl⟩, rfl, ⟨by simp⟩, HD, HT, HO, ⟨rfl⟩, HB⟩
        case round =>
          clear HB HD HT HO
          obtain ⟨j, u, o, HK, rfl, HL, HD, HT, HO, HP, HB⟩ := hrel
          by_cases c6 : (j : Int) < i
          · have c6b := decide_eq_true c6
            obtain ⟨gq, hgq⟩ : ∃ q, gk = q + 1 := ⟨gk - 1, by have := HK.out; omega⟩
            subst hgq
            have hat := (blk_cell HD.out j).trans (order_Unrank.ints_at _ j (by omega))
            have hdj : D.drop j = D.getD j 0 :: D.drop (j + 1) := order_Unrank.drop_go D j (by omega)
            have hds := hsm (D.getD j 0) (List.mem_of_mem_drop (i := j) (by rw [hdj]; exact List.mem_cons_self))
            have HP2 := HP.out
            rw [hdj] at HP2
            generalize D.getD j 0 = d0 at *
            go_wp2_with (go_step3)
            go_loopg [9, 11, 55] i (fun kq v9 v11 v55 w' => ∃ (m : Nat) (d : Int), Aside0 (kq + m = i) ∧ v9 = u9 ∧ v55 = .int .i64 (m : Int) ∧ v11 = .int .i64 d ∧ Aside0 (0 ≤ d ∧ d ≤ 20) ∧ Aside0 (order_Unrank.pick u (i - m) m d = order_Unrank.pick u i 0 d0) ∧ Aside0 (w'.heap[w.heap.size]? = some (.cells (order_Unrank.ints D) 3 (0, 0))) ∧ Aside0 (w'.heap[gt]? = some (.cells (order_Unrank.bools u) 56 (0, 0))) ∧ Aside0 (Kd.R (Kd.int .i64) 3 w' w.heap.size (fun k => k ≠ w.heap.size ∧ k ≠ gt) u9 o) ∧ Aside0 (Below w.heap.size w w'))
            case atStart => exact ⟨0, d0, ⟨rfl⟩, rfl, rfl, rfl, ⟨by omega⟩, ⟨by rw [Nat.sub_zero]⟩, HD, HT, HO, HB⟩
            case round =>
              clear HD HT HO HB
              obtain ⟨m, d, HM, rfl, rfl, rfl, HE, HQ, HD, HT, HO, HB⟩ := hrel
              by_cases c7 : (m : Int) < i
              · have c7b := decide_eq_true c7
                obtain ⟨gr, hgr⟩ : ∃ q, gk = q + 1 := ⟨gk - 1, by have := HM.out; omega⟩
                subst hgr
                have hat2 := (blk_cell HT.out m).trans (order_Unrank.bools_at _ m (by have := HL.out; omega))
                have hfr2 := blk_frozen HT.out m
                have HQ2 := HQ.out
                rw [order_Unrank.pick_go u i m (by omega)] at HQ2
                have w5 : IntKind.i64.wrap ((m : Int) + 1) = (m : Int) + 1 := by rw [IntKind.wrap_i64]; omega
                have w6 : IntKind.i64.wrap ((j : Int) + 1) = (j : Int) + 1 := by rw [IntKind.wrap_i64]; omega
                have c20 : decide ((m : Int) < 20) = true := decide_eq_true (by omega)
                by_cases c8 : u.getD m false = true
                · rw [if_pos c8] at HQ2
                  rw [c8] at hat2
                  go_wp2_with (go_step3)
                  go_roundg gr
                  case measure => omega
                  case rel => exact ⟨m + 1, d, ⟨by have := HM.out; omega⟩, rfl, by push_cast; rfl, rfl, HE, ⟨HQ2⟩, HD, HT, HO, HB⟩
                · rw [if_neg c8] at HQ2
                  rw [Bool.eq_false_iff.mpr c8] at hat2
                  by_cases c9 : d = 0
                  · rw [if_pos c9] at HQ2
                    subst c9
                    have HTs := Aside0.mk (blk_put HT.out m (.bool true) (order_Unrank.bools_set u m true))
                    have HDs := Aside0.mk (blk_far HD.out (p := ⟨gt, m, none⟩) (by show w.heap.size ≠ gt; omega) (.bool true))
                    have HOs := Aside0.mk (Kd.R_set HO.out HT.out (by simp [Kd.int, Kd.scalar]) m (.bool true))
                    have HBs := Aside0.mk (below_set (j := m) (v := .bool true) HB.out (Nat.le_of_lt hgd))
                    have HNd := Aside0.mk (show some w.heap.size ≠ u9.ownBlock from fun h => (HO.out.1 _ h.symm).1 rfl)
                    have HNt := Aside0.mk (show some gt ≠ u9.ownBlock from fun h => (HO.out.1 _ h.symm).2 rfl)
                    clear HO HB HD HT
                    go_wp2_with (first | ((with_reducible refine gate_builtin (b := .append) (xs := #[.tmp 65, .tmp 67]) rfl ?_); at_builtin; refine Kd.R_append (Kd.int .i64) (w0 := w) w.heap.size rfl (.tmp 65) (.tmp 67) 22 3 (.int .i64 0) 8 rfl Try.underlying22 info3 rfl (by decide) (by omega) u9 o (m : Int) [.int .i64 (m : Int)] (fun k => k ≠ w.heap.size ∧ k ≠ gt) (fun _ => False) rfl (by first | rfl | (rw [World.size_setCell]; rfl) | (simp only [World.size_setCell]; rfl)) ?aP (fun _ hk => hk.elim) ?aF ?aO ?aB ?aS ?aL ?_; (case aP => exact rfl); (case aF => exact (fun k hk => ⟨by have := blk_lt HDs.out; omega, by have := blk_lt HTs.out; omega⟩)); (case aO => exact HOs.out); (case aB => exact HBs.out); (case aS => exact below_size HBs.out); (case aL => have := HL.out; omega); intro v130 w22 ho hb hg hat; have HO := Aside0.mk ho; have HB := Aside0.mk hb; have HD := Aside0.mk (blk_grown HDs.out hg HNd.out); have HT := Aside0.mk (blk_grown HTs.out hg HNt.out); clear ho hb hg hat) | go_step3)
                    have HP3 := HP2
                    rw [order_Unrank.picks, ← HQ2] at HP3
                    go_roundg gq
                    case measure => omega
                    case rel => exact ⟨j + 1, u.set m true, o ++ [(m : Int)], ⟨by have := HK.out; omega⟩, by push_cast; rfl, ⟨by have := HL.out; simp; omega⟩, HD, HT, HO, ⟨by rw [List.append_assoc]; exact HP3⟩, HB⟩
                  · rw [if_neg c9] at HQ2
                    have c9b : (d == 0) = false := beq_eq_false_iff_ne.mpr c9
                    have w7 : IntKind.i64.wrap (d - 1) = d - 1 := by rw [IntKind.wrap_i64]; have := HE.out; omega
                    go_wp2_with (go_step3)
                    go_roundg gr
                    case measure => omega
                    case rel => exact ⟨m + 1, d - 1, ⟨by have := HM.out; omega⟩, rfl, by push_cast; rfl, rfl, ⟨by have := HE.out; omega⟩, ⟨HQ2⟩, HD, HT, HO, HB⟩
              · have c7b := decide_eq_false c7
                have w6 : IntKind.i64.wrap ((j : Int) + 1) = (j : Int) + 1 := by rw [IntKind.wrap_i64]; omega
                go_wp2_with (go_step3)
                have HP3 := HP2
                have HQ2 := HQ.out
                rw [show i - m = 0 by omega, order_Unrank.pick] at HQ2
                rw [order_Unrank.picks, ← HQ2] at HP3
                go_roundg gq
                case measure => omega
                case rel => exact ⟨j + 1, u, o, ⟨by have := HK.out; omega⟩, by push_cast; rfl, ⟨by have := HL.out; omega⟩, HD, HT, HO, ⟨HP3⟩, HB⟩
          · have c6b := decide_eq_false c6
            have hji : j = i := by have := HK.out; omega
            subst hji
            go_wp2_with (go_step3)
            try go_ret2
            have hr := HP.out
            rw [List.drop_of_length_le (by omega), order_Unrank.picks, List.append_nil] at hr
            exact ⟨_, true, hF, u9, rfl, Kd.R_mono (hr ▸ HO.out) (fun _ _ => trivial), HB.out⟩
set_option maxHeartbeats 8000000 in
set_option maxRecDepth 100000 in
theorem order_Unrank.bad (a0 : Int) (a1 : Int) (w : World) (h : a0 < 0 ∨ 20 < a0 ∨ a1 < 0) :
    Calls Try.prog 12 #[.int .i64 a0, .int .i64 a1] w fun e w' => ∃ v0_ : Value, e = .returned (.tuple #[v0_, .bool false]) ∧ Kd.R (Kd.int .i64) 3 w' w.heap.size (fun _ => True) v0_ [] ∧ Below w.heap.size w w' := by
  by_cases h1 : a0 < 0
  · have c1 := decide_eq_true h1
    go_enter Try.func12, Try.ntmps12
    go_wp2_with (go_step3)
    (try rw [Exit.noGoto_ret])
    go_ret2
    exact ⟨_, rfl, Kd.R_nil _ _ _ _ _, Below.refl _ _⟩
  · have c1 := decide_eq_false h1
    by_cases h2 : 20 < a0
    · have c2 := decide_eq_true h2
      go_enter Try.func12, Try.ntmps12
      go_wp2_with (go_step3)
      (try rw [Exit.noGoto_ret])
      go_ret2
      exact ⟨_, rfl, Kd.R_nil _ _ _ _ _, Below.refl _ _⟩
    · have c2 := decide_eq_false h2
      have c3 : decide (a1 < 0) = true := decide_eq_true (by omega)
      go_enter Try.func12, Try.ntmps12
      go_wp2_with (go_step3)
      (try rw [Exit.noGoto_ret])
      go_ret2
      exact ⟨_, rfl, Kd.R_nil _ _ _ _ _, Below.refl _ _⟩
theorem order_Unrank.calls (a0 : Int) (a1 : Int) (r1 : List Int) (r2 : Bool) (w : World) (h : order_Unrank.f a0 a1 = some (r1, r2)) :
    Calls Try.prog 12 #[.int .i64 a0, .int .i64 a1] w fun e w' => ∃ v0_ : Value, e = .returned (.tuple #[v0_, .bool r2]) ∧ Kd.R (Kd.int .i64) 3 w' w.heap.size (fun _ => True) v0_ r1 ∧ Below w.heap.size w w' := by
  have hf := h
  rw [order_Unrank.f] at h
  by_cases hr : -9223372036854775808 ≤ a0 ∧ a0 ≤ 9223372036854775807 ∧ -9223372036854775808 ≤ a1 ∧ a1 ≤ 9223372036854775807
  · rw [if_pos hr] at h
    by_cases hb : a0 < 0 ∨ 20 < a0 ∨ a1 < 0
    · rw [if_pos hb] at h
      obtain ⟨rfl, rfl⟩ := Prod.mk.inj (Option.some.inj h)
      exact order_Unrank.bad a0 a1 w hb
    · obtain ⟨n, rfl⟩ := Int.eq_ofNat_of_zero_le (show 0 ≤ a0 by omega)
      refine (order_Unrank.good n a1 w (by omega) (by omega) (by omega)).mono ?_
      rintro e w' ⟨q1, q2, hq, v0, he, hR, hB⟩
      obtain ⟨rfl, rfl⟩ := Prod.mk.inj (Option.some.inj (hq.symm.trans hf))
      exact ⟨v0, he, hR, hB⟩
  · rw [if_neg hr] at h; exact absurd h (by simp)

end Go.Proofs.Ytkgajiddcljdjaa.PAll
