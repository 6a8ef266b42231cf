-- Laid by wip/printx.py, over the print of the kit.
import Derived.Test.YtcheokfoilcdoaaPAllx0
namespace Go.Proofs.Ytcheokfoilcdoaa.PAll
open Go.RowKit Go.Proofs.YtcheokfoilcdoaaW.PrintWords Go.Proofs.YtcheokfoilcdoaaW.PrintLast Go.Proofs.YtcheokfoilcdoaaW.PrintMore
attribute [local go_sem] max2_int min2_int max_two min_two max_three min_three max_four min_four   -- for this text's walks alone
set_option linter.unusedVariables false
set_option linter.unusedSimpArgs false

/-! ### task_Check: function 9 -/
def task_Check.letterB (c : Int) : Bool := (decide (97 ≤ bits BinOp.or IntKind.u8 c 32) && decide (bits BinOp.or IntKind.u8 c 32 ≤ 122)) || c == 95
def task_Check.digitB (c : Int) : Bool := decide (48 ≤ c) && decide (c ≤ 57)
def task_Check.goesB (c : Int) : Bool := c == 46 || c == 45 || task_Check.letterB c || task_Check.digitB c
set_option maxHeartbeats 8000000 in
theorem task_Check.letter (c : Int) (w : World) : Calls Try.prog 25 #[.int .u8 c] w (fun e w' => e = .returned (.bool (task_Check.letterB c)) ∧ w' = w) := by
  go_enter Try.func25, Try.ntmps25
  go_wp2
  all_goals first
    | (go_ret; refine ⟨?_, rfl⟩; simp_all [task_Check.letterB]; done)
    | (go_ret; refine ⟨?_, rfl⟩; simp [task_Check.letterB]; omega)
    | (go_ret; refine ⟨?_, rfl⟩; trace_state; sorry)
set_option maxHeartbeats 8000000 in
theorem task_Check.digit (c : Int) (w : World) : Calls Try.prog 30 #[.int .u8 c] w (fun e w' => e = .returned (.bool (task_Check.digitB c)) ∧ w' = w) := by
  go_enter Try.func30, Try.ntmps30
  go_wp2
  all_goals first
    | (go_ret; refine ⟨?_, rfl⟩; simp_all [task_Check.digitB]; done)
    | (go_ret; refine ⟨?_, rfl⟩; simp [task_Check.digitB]; omega)
    | (go_ret; refine ⟨?_, rfl⟩; trace_state; sorry)
set_option maxHeartbeats 8000000 in
theorem task_Check.goes (c : Int) (w : World) : Calls Try.prog 27 #[.int .u8 c] w (fun e w' => e = .returned (.bool (task_Check.goesB c)) ∧ w' = w) := by
  go_enter Try.func27, Try.ntmps27
  go_wp2_with (first | (go_at_call 25; refine (task_Check.letter c _).mono ?_; rintro e w' ⟨rfl, rfl⟩) | (go_at_call 30; refine (task_Check.digit c _).mono ?_; rintro e w' ⟨rfl, rfl⟩))
  all_goals first
    | (go_ret; refine ⟨?_, rfl⟩; simp_all [task_Check.goesB]; done)
    | (go_ret; refine ⟨?_, rfl⟩; trace_state; sorry)
    | (trace_state; sorry)
def task_Check.lg (s : ByteArray) : Nat → Nat → Nat
  | 0, i => i
  | m + 1, i => if task_Check.goesB (bt s (i : Int)) then task_Check.lg s m (i + 1) else i
set_option maxHeartbeats 8000000 in
set_option maxRecDepth 100000 in
theorem task_Check.long (s : ByteArray) (hs : s.size < 4611686018427387904) (w : World) : Calls Try.prog 26 #[.string s, .func (.func 27) #[] #[]] w (fun e w' => e = .returned (.int .i64 (task_Check.lg s s.size 0 : Nat)) ∧ w' = w) := by
  go_enter Try.func26, Try.ntmps26
  go_wp2_with (go_step3)
  go_loopg [5] s.size (fun kq v5 w' => ∃ (i : Nat), Aside0 (kq + i = s.size) ∧ v5 = .int .i64 (i : Int) ∧ Aside0 (task_Check.lg s kq i = task_Check.lg s s.size 0) ∧ w' = w)
  case atStart => exact ⟨0, ⟨rfl⟩, rfl, ⟨rfl⟩, rfl⟩
  case round =>
    obtain ⟨i, HK, rfl, HL, rfl⟩ := hrel
    by_cases c1 : (i : Int) < (s.size : Int)
    · have c1b := decide_eq_true c1
      obtain ⟨gr, hgr⟩ : ∃ q, gk = q + 1 := ⟨gk - 1, by have := HK.out; omega⟩
      subst hgr
      have HL2 := HL.out
      rw [task_Check.lg] at HL2
      have w1 : IntKind.i64.wrap ((i : Int) + 1) = (i : Int) + 1 := by rw [IntKind.wrap_i64]; omega
      have hb : (((s[i]'(by omega)).toNat : Nat) : Int) = bt s (i : Int) := bt_at s (i : Int) (by simpa using (show i < s.size by omega))
      by_cases c2 : task_Check.goesB (bt s (i : Int)) = true
      · rw [if_pos c2] at HL2
        go_wp2_with (first | (go_at_call 27; refine (task_Check.goes _ _).mono ?_; rintro e w' ⟨rfl, rfl⟩; (try rw [hb]); rw [c2]) | go_step3)
        go_roundg gr
        case measure => omega
        case rel => exact ⟨i + 1, ⟨by have := HK.out; omega⟩, by push_cast; rfl, ⟨HL2⟩, rfl⟩
      · rw [if_neg c2] at HL2
        replace c2 := Bool.eq_false_iff.mpr c2
        replace HL2 := Aside0.mk HL2
        go_wp2_with (first | (go_at_call 27; refine (task_Check.goes _ _).mono ?_; rintro e w' ⟨rfl, rfl⟩; (try rw [hb]); rw [c2]) | go_step3)
        (try rw [Exit.noGoto_ret])
        go_ret
        exact ⟨by rw [← HL2.out]; rfl, rfl⟩
    · have c1b := decide_eq_false c1
      have hi : gk = 0 := by have := HK.out; omega
      subst hi
      have HL2 := HL.out
      rw [task_Check.lg] at HL2
      go_wp2_with (first | go_step3)
      (try rw [Exit.noGoto_ret])
      go_ret
      exact ⟨by rw [← HL2]; rfl, rfl⟩
def task_Check.wordB (s : ByteArray) : Bool := !(s.size == 0) && (task_Check.letterB (bt s 0) && ((task_Check.lg s s.size 0 : Int) == (s.size : Int)))
theorem task_Check.bt0 (s : ByteArray) (h : 0 < s.size) : (((s[0]'h).toNat : Nat) : Int) = bt s 0 := bt_at s 0 h
set_option maxHeartbeats 8000000 in
set_option maxRecDepth 100000 in
theorem task_Check.word (s : ByteArray) (hs : s.size < 4611686018427387904) (w : World) : Calls Try.prog 17 #[.string s] w (fun e w' => e = .returned (.bool (task_Check.wordB s)) ∧ w' = w) := by
  by_cases c0 : s.toList = []
  · go_enter Try.func17, Try.ntmps17
    go_wp2_with (fail)
    all_goals go_ret
    all_goals exact ⟨by simp [task_Check.wordB, (toList_nil_iff_emptyBytes s).1 c0], rfl⟩
  · have hp : 0 < s.size := by
      rcases Nat.eq_zero_or_pos s.size with h | h
      · exact absurd ((toList_nil_iff_emptyBytes s).2 (by simpa using h)) c0
      · exact h
    have hb := task_Check.bt0 s hp
    go_enter Try.func17, Try.ntmps17
    go_wp2_with (first | (go_at_call 25; refine (task_Check.letter _ _).mono ?_; rintro e w' ⟨rfl, rfl⟩) | (go_at_call 26; refine (task_Check.long _ hs _).mono ?_; rintro e w' ⟨rfl, rfl⟩))
    all_goals go_ret
    all_goals refine ⟨?_, rfl⟩
    all_goals have h0 : s.toList.isEmpty = false := by cases h : s.toList with | nil => exact absurd h c0 | cons _ _ => rfl
    all_goals have h1 : (s.size == 0) = false := beq_eq_false_iff_ne.mpr (by omega)
    all_goals have hw : task_Check.wordB s = (task_Check.letterB (bt s 0) && ((task_Check.lg s s.size 0 : Int) == (s.size : Int))) := by rw [task_Check.wordB, h1]; rfl
    all_goals rw [hw]
    all_goals first | (simp_all; done) | (trace_state; sorry)
def task_Check.inB (n : Int) : Bool := decide (0 ≤ n) && decide (n ≤ 2147483647)
set_option maxHeartbeats 8000000 in
theorem task_Check.within (n : Int) (w : World) : Calls Try.prog 15 #[.int .i64 n] w (fun e w' => e = .returned (.bool (task_Check.inB n)) ∧ w' = w) := by
  go_enter Try.func15, Try.ntmps15
  go_wp2
  all_goals go_ret
  all_goals refine ⟨?_, rfl⟩
  all_goals first | (simp_all [task_Check.inB]; done) | (simp [task_Check.inB]; omega) | (trace_state; sorry)
def task_Check.fitsB (c t d j q : Int) : Bool := decide (q ≤ c) && (decide (wrap64 (c + j) ≤ d) && decide (d ≤ t))
def task_Check.cells7 (f0 : ByteArray) (f1 f2 f3 f4 f5 f6 : Int) : Array Value := #[.string f0, .int .i64 f1, .int .i64 f2, .int .i64 f3, .int .i64 f4, .int .i64 f5, .int .i64 f6]
set_option maxHeartbeats 8000000 in
theorem task_Check.fits (f0 : ByteArray) (f1 f2 f3 f4 f5 f6 : Int) (g : Nat) (w : World) (hg : w.heap[g]? = some (.cells (task_Check.cells7 f0 f1 f2 f3 f4 f5 f6) 26 (0, 0))) :
    Calls Try.prog 18 #[.pointer (some ⟨g, 0, none⟩)] w (fun e w' => e = .returned (.bool (task_Check.fitsB f1 f2 f3 f4 f5)) ∧ w' = w) := by
  have h1 : w.cell? ⟨g, 1, none⟩ = some (.int .i64 f1) := blk_cell hg 1
  have h2 : w.cell? ⟨g, 2, none⟩ = some (.int .i64 f2) := blk_cell hg 2
  have h3 : w.cell? ⟨g, 3, none⟩ = some (.int .i64 f3) := blk_cell hg 3
  have h4 : w.cell? ⟨g, 4, none⟩ = some (.int .i64 f4) := blk_cell hg 4
  have h5 : w.cell? ⟨g, 5, none⟩ = some (.int .i64 f5) := blk_cell hg 5
  clear hg
  go_enter Try.func18, Try.ntmps18
  go_wp2
  all_goals go_ret
  all_goals refine ⟨?_, rfl⟩
  all_goals first | (simp_all [task_Check.fitsB]; done) | (simp [task_Check.fitsB]; omega) | (trace_state; sorry)
def task_Check.m2 (a b : Int) : Int := if b < a then b else a
def task_Check.m4 (a b c d : Int) : Int := task_Check.m2 (task_Check.m2 (task_Check.m2 a b) c) d
theorem task_Check.min_m4 (ats : Array TypeId) (ty : TypeId) (a b c d : Int) : Builtin.min_ ats ty #[.int .i64 a, .int .i64 b, .int .i64 c, .int .i64 d] = pure (.int .i64 (task_Check.m4 a b c d)) := by
  rw [min_four]; simp only [min2_int, pure_bind]; rfl
attribute [local go_sem high] task_Check.min_m4
def task_Check.rangesB (f0 : ByteArray) (c t d j q p : Int) : Bool := task_Check.wordB f0 && (decide ((f0.size : Int) ≤ 32) && (decide (0 < task_Check.m4 c t d q) && (task_Check.inB c && (task_Check.inB t && (task_Check.inB d && (task_Check.inB q && (task_Check.inB j && (decide (1 ≤ p) && decide (p ≤ 1048576)))))))))
set_option maxHeartbeats 8000000 in
set_option maxRecDepth 100000 in
theorem task_Check.ranges (f0 : ByteArray) (f1 f2 f3 f4 f5 f6 : Int) (hs : f0.size < 4611686018427387904) (g gq : Nat) (w : World) (hg : w.heap[g]? = some (.cells (task_Check.cells7 f0 f1 f2 f3 f4 f5 f6) 26 (0, 0))) (hq : w.heap[gq]? = some (.cells #[.func (.func 15) #[] #[]] 44 (0, 0))) :
    Calls Try.prog 16 #[.pointer (some ⟨g, 0, none⟩), .pointer (some ⟨gq, 0, none⟩)] w (fun e w' => e = .returned (.bool (task_Check.rangesB f0 f1 f2 f3 f4 f5 f6)) ∧ w' = w) := by
  have h0 : w.cell? ⟨g, 0, none⟩ = some (.string f0) := blk_cell hg 0
  have h1 : w.cell? ⟨g, 1, none⟩ = some (.int .i64 f1) := blk_cell hg 1
  have h2 : w.cell? ⟨g, 2, none⟩ = some (.int .i64 f2) := blk_cell hg 2
  have h3 : w.cell? ⟨g, 3, none⟩ = some (.int .i64 f3) := blk_cell hg 3
  have h4 : w.cell? ⟨g, 4, none⟩ = some (.int .i64 f4) := blk_cell hg 4
  have h5 : w.cell? ⟨g, 5, none⟩ = some (.int .i64 f5) := blk_cell hg 5
  have h6 : w.cell? ⟨g, 6, none⟩ = some (.int .i64 f6) := blk_cell hg 6
  have h7 : w.cell? ⟨gq, 0, none⟩ = some (.func (.func 15) #[] #[]) := blk_cell hq 0
  clear hg hq
  cases b0 : task_Check.wordB f0 with
  | false =>
    go_enter Try.func16, Try.ntmps16
    go_wp2_with (first | (go_at_call 17; refine (task_Check.word _ hs _).mono ?_; rintro e w' ⟨rfl, rfl⟩; rw [b0]) | (go_at_call 15; refine (task_Check.within _ _).mono ?_; rintro e w' ⟨rfl, rfl⟩))
    all_goals go_ret
    all_goals exact ⟨by simp [task_Check.rangesB, b0], rfl⟩
  | true =>
    go_enter Try.func16, Try.ntmps16
    go_wp2_with (first | (go_at_call 17; refine (task_Check.word _ hs _).mono ?_; rintro e w' ⟨rfl, rfl⟩; rw [b0]) | (go_at_call 15; refine (task_Check.within _ _).mono ?_; rintro e w' ⟨rfl, rfl⟩))
    all_goals go_ret
    all_goals refine ⟨?_, rfl⟩
    all_goals first | (simp_all [task_Check.rangesB]; done) | (simp [task_Check.rangesB, *]; done) | (simp [task_Check.rangesB, *]; omega) | (simp [task_Check.rangesB, *]; intros; omega) | (simp [task_Check.rangesB, *]; trace_state; sorry)
theorem task_Check.u49 : Try.prog.underlying 49 = some (.array 2 48) := by kernel_rfl
theorem task_Check.i48 : (Try.prog.info? 48).map (fun i => i.size) = some 2 := by kernel_rfl
theorem task_Check.ix (A B : Value) (x y : Int) (W : World) (j : Int) (hj : j = 0 ∨ j = 1): (Instr.index 49 (.agg #[A, .int .i64 x, B, .int .i64 y]) (.int .i64 j)).run Try.prog W = .ok (if j = 0 then .agg #[A, .int .i64 x] else .agg #[B, .int .i64 y]) W := by
  obtain ⟨i, hi, hs⟩ := Option.map_eq_some_iff.1 task_Check.i48
  rcases hj with rfl | rfl
  · simp [Instr.index, run_underlying task_Check.u49, asIntOf, go_sem, sizeOf, typeInfo, hi, hs]
  · simp [Instr.index, run_underlying task_Check.u49, asIntOf, go_sem, sizeOf, typeInfo, hi, hs]
def task_Check.firstB (a b : Bool) : Int := if a then (if b then 0 else 12) else 11
set_option maxHeartbeats 8000000 in
set_option maxRecDepth 100000 in
theorem task_Check.firstC (f0 : ByteArray) (f1 f2 f3 f4 f5 f6 : Int) (hs : f0.size < 4611686018427387904) (g gq : Nat) (w : World) (hg : w.heap[g]? = some (.cells (task_Check.cells7 f0 f1 f2 f3 f4 f5 f6) 26 (0, 0))) (hq : w.heap[gq]? = some (.cells #[.func (.func 15) #[] #[]] 44 (0, 0))) :
    Calls Try.prog 19 #[.agg #[.func (.func 16) #[] #[.pointer (some ⟨g, 0, none⟩), .pointer (some ⟨gq, 0, none⟩)], .int .i64 11, .func (.func 18) #[] #[.pointer (some ⟨g, 0, none⟩)], .int .i64 12]] w
      (fun e w' => e = .returned (.int .i64 (task_Check.firstB (task_Check.rangesB f0 f1 f2 f3 f4 f5 f6) (task_Check.fitsB f1 f2 f3 f4 f5))) ∧ Below w.heap.size w w') := by
  have HG := Aside0.mk hg
  have HQ := Aside0.mk hq
  clear hg hq
  generalize hR : task_Check.rangesB f0 f1 f2 f3 f4 f5 f6 = R
  generalize hF : task_Check.fitsB f1 f2 f3 f4 f5 = F
  have hix0 := fun W => task_Check.ix (.func (.func 16) #[] #[.pointer (some ⟨g, 0, none⟩), .pointer (some ⟨gq, 0, none⟩)]) (.func (.func 18) #[] #[.pointer (some ⟨g, 0, none⟩)]) 11 12 W 0 (.inl rfl)
  have hix1 := fun W => task_Check.ix (.func (.func 16) #[] #[.pointer (some ⟨g, 0, none⟩), .pointer (some ⟨gq, 0, none⟩)]) (.func (.func 18) #[] #[.pointer (some ⟨g, 0, none⟩)]) 11 12 W 1 (.inr rfl)
  simp only [if_pos rfl, show ¬ (1 : Int) = 0 by omega, if_false, if_true] at hix0 hix1
  go_enter Try.func19, Try.ntmps19
  go_wp2_with (go_step3)
  go_loopg [3, 7] 2 (fun kq v3 v7 w' => ∃ i : Nat, Aside0 (kq + i = 2) ∧ v7 = .int .i64 (i : Int) ∧ v3 = .int .i64 0 ∧ Aside0 (1 ≤ i → R = true) ∧ Aside0 (2 ≤ i → F = true) ∧ Aside0 (Below w.heap.size w w'))
  case atStart => exact ⟨0, ⟨rfl⟩, rfl, rfl, ⟨fun h => by omega⟩, ⟨fun h => by omega⟩, ⟨by first | exact Below.refl _ _ | exact below_alloc (Below.refl _ _) _⟩⟩
  case round =>
    obtain ⟨i, HK, rfl, rfl, H1, H2, HB⟩ := hrel
    have hlt : i = 0 ∨ i = 1 ∨ i = 2 := by have := HK.out; omega
    have G := Aside0.mk (blk_below HG.out HB.out)
    have Q := Aside0.mk (blk_below HQ.out HB.out)
    rcases hlt with rfl | rfl | rfl
    · obtain ⟨gr, hgr⟩ : ∃ q, gk = q + 1 := ⟨gk - 1, by have := HK.out; omega⟩
      subst hgr
      cases R with
      | false =>
        go_wp2_with (first | (go_at_call 16; refine (task_Check.ranges f0 f1 f2 f3 f4 f5 f6 hs g gq _ (blk_alloc G.out _) (blk_alloc Q.out _)).mono ?_; rintro e w' ⟨rfl, rfl⟩; rw [hR]) | go_step3)
        (try rw [Exit.noGoto_ret])
        go_ret
        exact ⟨rfl, below_alloc HB.out _⟩
      | true =>
        go_wp2_with (first | (go_at_call 16; refine (task_Check.ranges f0 f1 f2 f3 f4 f5 f6 hs g gq _ (blk_alloc G.out _) (blk_alloc Q.out _)).mono ?_; rintro e w' ⟨rfl, rfl⟩; rw [hR]) | go_step3)
        go_roundg gr
        case measure => omega
        case rel => exact ⟨1, ⟨by have := HK.out; omega⟩, rfl, rfl, ⟨fun _ => by simp⟩, ⟨fun h => by omega⟩, ⟨below_alloc HB.out _⟩⟩
    · obtain ⟨gr, hgr⟩ : ∃ q, gk = q + 1 := ⟨gk - 1, by have := HK.out; omega⟩
      subst hgr
      have hR1 : R = true := H1.out (by omega)
      subst hR1
      cases F with
      | false =>
        go_wp2_with (first | (go_at_call 18; refine (task_Check.fits f0 f1 f2 f3 f4 f5 f6 g _ (blk_alloc G.out _)).mono ?_; rintro e w' ⟨rfl, rfl⟩; rw [hF]) | go_step3)
        (try rw [Exit.noGoto_ret])
        go_ret
        exact ⟨rfl, below_alloc HB.out _⟩
      | true =>
        go_wp2_with (first | (go_at_call 18; refine (task_Check.fits f0 f1 f2 f3 f4 f5 f6 g _ (blk_alloc G.out _)).mono ?_; rintro e w' ⟨rfl, rfl⟩; rw [hF]) | go_step3)
        go_roundg gr
        case measure => omega
        case rel => exact ⟨2, ⟨by have := HK.out; omega⟩, rfl, rfl, ⟨fun _ => by simp⟩, ⟨fun _ => by simp⟩, ⟨below_alloc HB.out _⟩⟩
    · have hR1 : R = true := H1.out (by omega)
      have hF1 : F = true := H2.out (by omega)
      subst hR1 hF1
      go_wp2_with (go_step3)
      (try rw [Exit.noGoto_ret])
      go_ret
      exact ⟨rfl, HB.out⟩
set_option maxHeartbeats 8000000 in
set_option maxRecDepth 100000 in
theorem task_Check.check0 (f0 : ByteArray) (f1 f2 f3 f4 f5 f6 : Int) (hs : f0.size < 4611686018427387904) (w : World) :
    Calls Try.prog 9 #[.agg #[.string f0, .int .i64 f1, .int .i64 f2, .int .i64 f3, .int .i64 f4, .int .i64 f5, .int .i64 f6]] w (fun e w' => e = .returned (.int .i64 (task_Check.firstB (task_Check.rangesB f0 f1 f2 f3 f4 f5 f6) (task_Check.fitsB f1 f2 f3 f4 f5))) ∧ Below w.heap.size w w') := by
  have hmf : ∀ (fn : Fn) (first cap : Array Value) (w : World), (Instr.makeFunc fn first cap).run Try.prog w = .ok (.func fn first cap) w := fun _ _ _ _ => rfl
  have HG := Aside0.mk (blk_alloc (blk_new w (.cells (task_Check.cells7 f0 f1 f2 f3 f4 f5 f6) 26 (0, 0))) (.cells #[.func (.func 15) #[] #[]] 44 (0, 0)))
  have HQ := Aside0.mk (blk_new (w.alloc (.cells (task_Check.cells7 f0 f1 f2 f3 f4 f5 f6) 26 (0, 0))) (.cells #[.func (.func 15) #[] #[]] 44 (0, 0)))
  rw [World.size_alloc] at HQ
  go_enter Try.func9, Try.ntmps9
  go_wp2_with (first | (go_at_call 19; refine (task_Check.firstC f0 f1 f2 f3 f4 f5 f6 hs w.heap.size (w.heap.size + 1) _ HG.out HQ.out).mono ?_; rintro e w' ⟨rfl, hb⟩; have HB := Aside0.mk hb; clear hb))
  go_ret
  refine ⟨rfl, ?_⟩
  exact below_step (below_alloc (below_alloc (Below.refl _ _) _) _) HB.out
def task_Check.f (a0_0 : ByteArray) (a0_1 a0_2 a0_3 a0_4 a0_5 a0_6 : Int) : Option Int := if a0_0.size < 4611686018427387904 then some (task_Check.firstB (task_Check.rangesB a0_0 a0_1 a0_2 a0_3 a0_4 a0_5 a0_6) (task_Check.fitsB a0_1 a0_2 a0_3 a0_4 a0_5)) else none
theorem task_Check.calls (a0_0 : ByteArray) (a0_1 a0_2 a0_3 a0_4 a0_5 a0_6 : Int) (r : Int) (w : World) (h : task_Check.f a0_0 a0_1 a0_2 a0_3 a0_4 a0_5 a0_6 = some r) :
    Calls Try.prog 9 #[.agg #[.string a0_0, .int .i64 a0_1, .int .i64 a0_2, .int .i64 a0_3, .int .i64 a0_4, .int .i64 a0_5, .int .i64 a0_6]] w fun e w' => e = .returned (.int .i64 r) ∧ Below w.heap.size w w' := by
  rw [task_Check.f] at h
  by_cases hs : a0_0.size < 4611686018427387904
  · rw [if_pos hs] at h
    obtain rfl := Option.some.inj h
    exact task_Check.check0 a0_0 a0_1 a0_2 a0_3 a0_4 a0_5 a0_6 hs w
  · rw [if_neg hs] at h; exact absurd h (by simp)

end Go.Proofs.Ytcheokfoilcdoaa.PAll
