-- Laid by wip/printx.py, over the print of the kit.
import Derived.Test.YtkgajiddcljdjaaPAllx0
import Derived.Test.YtkgajiddcljdjaaPAllx1
import Derived.Test.YtkgajiddcljdjaaPAllx3
import Derived.Test.YtkgajiddcljdjaaPAllx4
import Derived.Test.YtkgajiddcljdjaaPAllx5
import Derived.Test.YtkgajiddcljdjaaPAllx6
import Derived.Test.YtkgajiddcljdjaaPAllx7
import Derived.Test.YtkgajiddcljdjaaPAllx8
namespace Go.Proofs.Ytkgajiddcljdjaa.PAll
open Go.RowKit Go.Proofs.YtkgajiddcljdjaaW.PrintWords Go.Proofs.YtkgajiddcljdjaaW.PrintLast Go.Proofs.YtkgajiddcljdjaaW.PrintMore
attribute [local go_sem] max2_int min2_int max_two min_two max_three min_three max_four min_four   -- for this text's walks alone
set_option linter.unusedVariables false
set_option linter.unusedSimpArgs false

/-! ### cadencylaw18_OrderBack: function 3 -/
def cadencylaw18_OrderBack.l0 : Nat → Int → Bool → Int → Bool → Bool → Bool → Int → Int → Option (Bool)
  | 0, _, _, _, _, _, _, _, _ => none
  | k + 1, x2, x7, x8, x11, x13, x14, x15, x16 => if x16 ≤ x8 then (cadencylaw18_OrderBack.l0 k x2 x7 x8 x11 x13 x14 (wrap64 (x15 * x16)) (wrap64 (x16 + 1))) else ((order_Unrank.f x8 x2).bind fun bt184 => (if x15 = 0 then (none) else ((order_Unrank.f x8 (Int.tmod (wrap64 ((Int.tmod x2 x15) + x15)) x15)).bind fun bt188 => ((order_Rank.f k bt188.1).bind fun bt192 => ((order_Unrank.f 21 0).bind fun bt194 => (if bt184.2 = true then ((order_Rank.f k bt184.1).bind fun bt198 => (if bt198.2 = true then (if bt198.1 = x2 then (if x7 = true then (if x11 = true then (if x13 = true then (if x14 = true then (if x2 ≥ 0 then (if (bt184.2 == (decide (x2 < x15))) = true then (if bt188.2 = true then (if bt192.2 = true then (if bt192.1 = (Int.tmod (wrap64 ((Int.tmod x2 x15) + x15)) x15) then (if bt194.2 = true then (none) else ((order_Valid.f k bt188.1).bind fun t200 => (some t200))) else (none)) else (none)) else (none)) else (none)) else (if (bt184.2 == false) = true then (if bt188.2 = true then (if bt192.2 = true then (if bt192.1 = (Int.tmod (wrap64 ((Int.tmod x2 x15) + x15)) x15) then (if bt194.2 = true then (none) else ((order_Valid.f k bt188.1).bind fun t201 => (some t201))) else (none)) else (none)) else (none)) else (none))) else (none)) else (none)) else (none)) else (none)) else (none)) else (none))) else (if x7 = true then (if x11 = true then (if x13 = true then (if x14 = true then (if x2 ≥ 0 then (if (bt184.2 == (decide (x2 < x15))) = true then (if bt188.2 = true then (if bt192.2 = true then (if bt192.1 = (Int.tmod (wrap64 ((Int.tmod x2 x15) + x15)) x15) then (if bt194.2 = true then (none) else ((order_Valid.f k bt188.1).bind fun t202 => (some t202))) else (none)) else (none)) else (none)) else (none)) else (if (bt184.2 == false) = true then (if bt188.2 = true then (if bt192.2 = true then (if bt192.1 = (Int.tmod (wrap64 ((Int.tmod x2 x15) + x15)) x15) then (if bt194.2 = true then (none) else ((order_Valid.f k bt188.1).bind fun t203 => (some t203))) else (none)) else (none)) else (none)) else (none))) else (none)) else (none)) else (none)) else (none))))))))
def cadencylaw18_OrderBack.f (k : Nat) (l0 : List Int) (a1 : Int) (a2 : Int) : Option (Bool) := (cadencylaw18_awake.f k).bind fun t172 => ((cadencylaw18_rest.f a1 21).bind fun t173 => ((cadencyref18_Made.f k t173 l0).bind fun t174 => ((order_Rank.f k t174).bind fun bt177 => ((order_Unrank.f t173 bt177.1).bind fun bt179 => ((cadencyref18_Same.f k t174 bt179.1).bind fun t183 => (cadencylaw18_OrderBack.l0 k a2 t172 t173 bt177.2 bt179.2 t183 1 2))))))
theorem cadencylaw18_OrderBack.mono_l : ∀ k, (∀ y0 y1 y2 y3 y4 y5 y6 y7, LeO (cadencylaw18_OrderBack.l0 k y0 y1 y2 y3 y4 y5 y6 y7) (cadencylaw18_OrderBack.l0 (k + 1) y0 y1 y2 y3 y4 y5 y6 y7))
  | 0 => fun _ _ _ _ _ _ _ _ r h => by simp [cadencylaw18_OrderBack.l0] at h
  | k + 1 => by
    have ih0 := cadencylaw18_OrderBack.mono_l k
    · intro y0 y1 y2 y3 y4 y5 y6 y7
      unfold cadencylaw18_OrderBack.l0
      repeat' first
      | (with_reducible exact ih0 _ _ _ _ _ _ _ _)
      | (with_reducible exact cadencylaw18_awake.mono _)
      | (with_reducible exact cadencyref18_Made.mono _ _ _)
      | (with_reducible exact cadencyref18_Same.mono _ _ _)
      | (with_reducible exact order_Rank.mono _ _)
      | (with_reducible exact order_Valid.mono _ _)
      | (with_reducible exact LeO.refl _)
      | (with_reducible exact LeO.none _)
      | (with_reducible refine LeO.ite ?_ ?_)
      | (with_reducible refine LeO.bind ?_ (fun _ => ?_))
      | exact ih0 _ _ _ _ _ _ _ _
      | exact cadencylaw18_awake.mono _
      | exact cadencyref18_Made.mono _ _ _
      | exact cadencyref18_Same.mono _ _ _
      | exact order_Rank.mono _ _
      | exact order_Valid.mono _ _
      | exact LeO.none _
      | refine LeO.ite ?_ ?_
      | refine LeO.bind ?_ (fun _ => ?_)
theorem cadencylaw18_OrderBack.mono : ∀ a0 a1 a2 k, LeO (cadencylaw18_OrderBack.f k a0 a1 a2) (cadencylaw18_OrderBack.f (k + 1) a0 a1 a2) := by
  intro a0 a1 a2 k
  have ih0 := cadencylaw18_OrderBack.mono_l k
  unfold cadencylaw18_OrderBack.f
  repeat' first
      | (with_reducible exact ih0 _ _ _ _ _ _ _ _)
      | (with_reducible exact cadencylaw18_awake.mono _)
      | (with_reducible exact cadencyref18_Made.mono _ _ _)
      | (with_reducible exact cadencyref18_Same.mono _ _ _)
      | (with_reducible exact order_Rank.mono _ _)
      | (with_reducible exact order_Valid.mono _ _)
      | (with_reducible exact LeO.refl _)
      | (with_reducible exact LeO.none _)
      | (with_reducible refine LeO.ite ?_ ?_)
      | (with_reducible refine LeO.bind ?_ (fun _ => ?_))
      | exact ih0 _ _ _ _ _ _ _ _
      | exact cadencylaw18_awake.mono _
      | exact cadencyref18_Made.mono _ _ _
      | exact cadencyref18_Same.mono _ _ _
      | exact order_Rank.mono _ _
      | exact order_Valid.mono _ _
      | exact LeO.none _
      | refine LeO.ite ?_ ?_
      | refine LeO.bind ?_ (fun _ => ?_)
set_option maxHeartbeats 8000000 in
set_option maxRecDepth 100000 in
theorem cadencylaw18_OrderBack.calls (k : Nat) (A0 : Option Addr) (c0 : Nat) (l0 : List Int) (a1 : Int) (a2 : Int) (r : Bool) (w : World) (hr0 : Kd.C (Kd.int .i64) w A0 l0.length l0) (hc0 : l0.length ≤ c0) (h : cadencylaw18_OrderBack.f k l0 a1 a2 = some r) :
    Calls Try.prog 3 #[.slice A0 l0.length c0, .int .i64 a1, .int .i64 a2] w fun e w' => e = .returned (.bool r) ∧ Below w.heap.size w w' := by
  have HR0 := Aside0.mk hr0
  have HC0 := Aside0.mk hc0
  clear hr0 hc0
  have HB := Aside0.mk (Below.refl w.heap.size w)
  have H : ((cadencylaw18_awake.f k).bind fun t172 => ((cadencylaw18_rest.f a1 21).bind fun t173 => ((cadencyref18_Made.f k t173 l0).bind fun t174 => ((order_Rank.f k t174).bind fun bt177 => ((order_Unrank.f t173 bt177.1).bind fun bt179 => ((cadencyref18_Same.f k t174 bt179.1).bind fun t183 => (cadencylaw18_OrderBack.l0 k a2 t172 t173 bt177.2 bt179.2 t183 1 2))))))) = some r := h
  clear h
  replace H := Option.bind_eq_some_iff.mp H
  obtain ⟨t172, A40, H⟩ := H
  replace H : ((cadencylaw18_rest.f a1 21).bind fun t173 => ((cadencyref18_Made.f k t173 l0).bind fun t174 => ((order_Rank.f k t174).bind fun bt177 => ((order_Unrank.f t173 bt177.1).bind fun bt179 => ((cadencyref18_Same.f k t174 bt179.1).bind fun t183 => (cadencylaw18_OrderBack.l0 k a2 t172 t173 bt177.2 bt179.2 t183 1 2)))))) = some r := H
  have A4 := Aside0.mk A40
  clear A40
  replace H := Option.bind_eq_some_iff.mp H
  obtain ⟨t173, A50, H⟩ := H
  replace H : ((cadencyref18_Made.f k t173 l0).bind fun t174 => ((order_Rank.f k t174).bind fun bt177 => ((order_Unrank.f t173 bt177.1).bind fun bt179 => ((cadencyref18_Same.f k t174 bt179.1).bind fun t183 => (cadencylaw18_OrderBack.l0 k a2 t172 t173 bt177.2 bt179.2 t183 1 2))))) = some r := H
  have A5 := Aside0.mk A50
  clear A50
  replace H := Option.bind_eq_some_iff.mp H
  obtain ⟨t174, A60, H⟩ := H
  replace H : ((order_Rank.f k t174).bind fun bt177 => ((order_Unrank.f t173 bt177.1).bind fun bt179 => ((cadencyref18_Same.f k t174 bt179.1).bind fun t183 => (cadencylaw18_OrderBack.l0 k a2 t172 t173 bt177.2 bt179.2 t183 1 2)))) = some r := H
  have A6 := Aside0.mk A60
  clear A60
  replace H := Option.bind_eq_some_iff.mp H
  obtain ⟨⟨t177, t178⟩, A70, H⟩ := H
  replace H : ((order_Unrank.f t173 t177).bind fun bt179 => ((cadencyref18_Same.f k t174 bt179.1).bind fun t183 => (cadencylaw18_OrderBack.l0 k a2 t172 t173 t178 bt179.2 t183 1 2))) = some r := H
  have A7 := Aside0.mk A70
  clear A70
  replace H := Option.bind_eq_some_iff.mp H
  obtain ⟨⟨t179, t180⟩, A80, H⟩ := H
  replace H : ((cadencyref18_Same.f k t174 t179).bind fun t183 => (cadencylaw18_OrderBack.l0 k a2 t172 t173 t178 t180 t183 1 2)) = some r := H
  have A8 := Aside0.mk A80
  clear A80
  replace H := Option.bind_eq_some_iff.mp H
  obtain ⟨t183, A90, H⟩ := H
  replace H : (cadencylaw18_OrderBack.l0 k a2 t172 t173 t178 t180 t183 1 2) = some r := H
  have A9 := Aside0.mk A90
  clear A90
  have H' := Aside0.mk H
  clear H
  go_enter Try.func3, Try.ntmps3
  go_wp2_with (first | ((with_reducible refine gate_callee (f := 8) rfl ?_); refine goesL_ (some 27) rfl rfl Try.func8 (by kernel_rfl) rfl #[] rfl (by (try simp only [List.map_toArray, List.map_cons, List.map_nil]); first | done | rfl | (simp only [List.length_drop, List.length_take]; rfl)) ?_; (with_reducible refine (cadencylaw18_awake.calls k  t172 _ A4.out).mono ?_); rintro e w10 ⟨rfl, hb⟩; refine ⟨_, rfl, ?_⟩; have n0_ := Aside0.mk (below_step (by repeat (first | (with_reducible first | exact HB.out | apply below_alloc | apply pw_below_drewN | apply below_drew1) | exact HB.out)) hb); clear HB; have HB := n0_; clear n0_; (try clear hb); (try clear hb2); (try clear hk); (try clear hi)) | ((with_reducible refine gate_callee (f := 9) rfl ?_); refine goesL_ (some 29) rfl rfl Try.func9 (by kernel_rfl) rfl #[.int .i64 a1, .int .i64 21] rfl (by (try simp only [List.map_toArray, List.map_cons, List.map_nil]); first | done | rfl | (simp only [List.length_drop, List.length_take]; rfl)) ?_; (with_reducible refine (cadencylaw18_rest.calls a1 21 t173 _ A5.out).mono ?_); rintro e w' ⟨rfl, ⟨nd, rfl⟩⟩; refine ⟨_, rfl, ?_⟩) | ((with_reducible refine gate_callee (f := 10) rfl ?_); refine goesL_ (some 32) rfl rfl Try.func10 (by kernel_rfl) rfl #[.int .i64 t173, .slice A0 l0.length c0] rfl (by (try simp only [List.map_toArray, List.map_cons, List.map_nil]); first | done | rfl | (simp only [List.length_drop, List.length_take]; rfl)) ?_; (with_reducible refine (cadencyref18_Made.calls k t173 _ _ l0 t174 _ ?side1 ?side2 A6.out).mono ?_); (case side1 => repeat (first | exact (Kd.C_below HR0.out (by repeat (first | (with_reducible first | exact HB.out | apply below_alloc | apply pw_below_drewN | apply below_drew1) | exact HB.out))) | (with_reducible refine Kd.C_alloc ?_ _) | (with_reducible refine Kd.C_drewN ?_ _) | (with_reducible refine Kd.C_drew ?_))); (case side2 => exact HC0.out); rintro e w11 ⟨v175, rfl, ho0, hb⟩; refine ⟨_, rfl, ?_⟩; have n0_ := Aside0.mk (Kd.R_lower ho0 (below_size (by repeat (first | (with_reducible first | exact HB.out | apply below_alloc | apply pw_below_drewN | apply below_drew1) | exact HB.out)))); have n1_ := Aside0.mk (below_step (by repeat (first | (with_reducible first | exact HB.out | apply below_alloc | apply pw_below_drewN | apply below_drew1) | exact HB.out)) hb); clear HB; have HO176 := n0_; have HB := n1_; clear n0_ n1_; (try clear hb); (try clear hb2); (try clear hk); (try clear hi); (try clear ho0); obtain ⟨Ao12, co12, eo12⟩ := Kd.R_slice HO176.out; subst eo12) | ((with_reducible refine gate_callee (f := 11) rfl ?_); refine goesL_ (some 35) rfl rfl Try.func11 (by kernel_rfl) rfl #[.slice Ao12 t174.length co12] rfl (by (try simp only [List.map_toArray, List.map_cons, List.map_nil]); first | done | rfl | (simp only [List.length_drop, List.length_take]; rfl)) ?_; (with_reducible refine (order_Rank.calls k _ _ t174 t177 t178 _ ?side1 ?side2 A7.out).mono ?_); (case side1 => repeat (first | exact (Kd.R_reads' HO176.out).2.2 | (with_reducible refine Kd.C_alloc ?_ _) | (with_reducible refine Kd.C_drewN ?_ _) | (with_reducible refine Kd.C_drew ?_))); (case side2 => exact (Kd.R_reads' HO176.out).2.1); rintro e w13 ⟨rfl, hb⟩; refine ⟨_, rfl, ?_⟩; have n0_ := Aside0.mk (Kd.R_below (by (with_reducible repeat (first | apply Kd.R_alloc | apply Kd.R_drewN | apply Kd.R_drew)); exact HO176.out) hb); have n1_ := Aside0.mk (below_step (by repeat (first | (with_reducible first | exact HB.out | apply below_alloc | apply pw_below_drewN | apply below_drew1) | exact HB.out)) hb); clear HO176; clear HB; have HO176 := n0_; have HB := n1_; clear n0_ n1_; (try clear hb); (try clear hb2); (try clear hk); (try clear hi)) | ((with_reducible refine gate_callee (f := 12) rfl ?_); refine goesL_ (some 41) rfl rfl Try.func12 (by kernel_rfl) rfl #[.int .i64 t173, .int .i64 t177] rfl (by (try simp only [List.map_toArray, List.map_cons, List.map_nil]); first | done | rfl | (simp only [List.length_drop, List.length_take]; rfl)) ?_; (with_reducible refine (order_Unrank.calls t173 t177 t179 t180 _ A8.out).mono ?_); rintro e w14 ⟨v181, rfl, ho0, hb⟩; refine ⟨_, rfl, ?_⟩; have n0_ := Aside0.mk (Kd.R_elder' (by (with_reducible repeat (first | apply Kd.R_alloc | apply Kd.R_drewN | apply Kd.R_drew)); exact HO176.out) (Kd.R_base ho0) hb); have n1_ := Aside0.mk (Kd.R_lower (Kd.R_new' ho0 (Kd.R_lt (by (with_reducible repeat (first | apply Kd.R_alloc | apply Kd.R_drewN | apply Kd.R_drew)); exact HO176.out))) (below_size (by repeat (first | (with_reducible first | exact HB.out | apply below_alloc | apply pw_below_drewN | apply below_drew1) | exact HB.out)))); have n2_ := Aside0.mk (below_step (by repeat (first | (with_reducible first | exact HB.out | apply below_alloc | apply pw_below_drewN | apply below_drew1) | exact HB.out)) hb); clear HO176; clear HB; have HO176 := n0_; have HO182 := n1_; have HB := n2_; clear n0_ n1_ n2_; (try clear hb); (try clear hb2); (try clear hk); (try clear hi); (try clear ho0); obtain ⟨Ao15, co15, eo15⟩ := Kd.R_slice HO182.out; subst eo15) | ((with_reducible refine gate_callee (f := 13) rfl ?_); refine goesL_ (some 46) rfl rfl Try.func13 (by kernel_rfl) rfl #[.slice Ao12 t174.length co12, .slice Ao15 t179.length co15] rfl (by (try simp only [List.map_toArray, List.map_cons, List.map_nil]); first | done | rfl | (simp only [List.length_drop, List.length_take]; rfl)) ?_; (with_reducible refine (cadencyref18_Same.calls k _ _ t174 _ _ t179 t183 _ ?side1 ?side2 ?side3 ?side4 A9.out).mono ?_); (case side1 => repeat (first | exact (Kd.R_reads' HO176.out).2.2 | (with_reducible refine Kd.C_alloc ?_ _) | (with_reducible refine Kd.C_drewN ?_ _) | (with_reducible refine Kd.C_drew ?_))); (case side2 => exact (Kd.R_reads' HO176.out).2.1); (case side3 => repeat (first | exact (Kd.R_reads' HO182.out).2.2 | (with_reducible refine Kd.C_alloc ?_ _) | (with_reducible refine Kd.C_drewN ?_ _) | (with_reducible refine Kd.C_drew ?_))); (case side4 => exact (Kd.R_reads' HO182.out).2.1); rintro e w' ⟨rfl, ⟨nd, rfl⟩⟩; refine ⟨_, rfl, ?_⟩))
  go_loopg [15, 16] k (fun kq v15 v16 w' => ∃ (x15_1 : Int) (x16_1 : Int), v15 = .int .i64 x15_1 ∧ v16 = .int .i64 x16_1 ∧ Aside0 (cadencylaw18_OrderBack.l0 kq a2 t172 t173 t178 t180 t183 x15_1 x16_1 = some r) ∧ Aside0 (kq ≤ k) ∧ Aside0 (Below w.heap.size w w'))
  case atStart => exact ⟨(1), (2), (by first | rfl | (simp; done) | (simp [*]; done)), (by first | rfl | (simp; done) | (simp [*]; done)), H', ⟨Nat.le_refl _⟩, ⟨by repeat (first | (with_reducible first | exact HB.out | apply below_alloc | apply pw_below_drewN | apply below_drew1) | exact HB.out)⟩⟩
  case round =>
    clear H'
    try clear c1
    try clear p2
    try clear c3
    try clear c8
    try clear c9
    try clear c10
    try clear c11
    try clear c12
    try clear c13
    obtain ⟨x15_1, x16_1, rfl, rfl, HA, HK1, HB⟩ := hrel
    cases gk with
    | zero => exact absurd HA.out (by simp [cadencylaw18_OrderBack.l0])
    | succ k1 =>
      have H := HA.out
      clear HA
      simp only [cadencylaw18_OrderBack.l0] at H
      by_cases c16 : x16_1 ≤ t173
      · rw [if_pos c16] at H
        have c16b0 : decide (x16_1 ≤ t173) = true := decide_eq_true c16
        clear c16
        have H' := Aside0.mk H
        clear H
        go_wp2
        go_roundg k1
        case measure => have := HK1.out; omega
        case rel => exact ⟨(wrap64 (x15_1 * x16_1)), (wrap64 (x16_1 + 1)), (by first | rfl | (simp; done) | (simp [*]; done)), (by first | rfl | (simp; done) | (simp [*]; done)), H', ⟨by have := HK1.out; omega⟩, ⟨by repeat (first | (with_reducible first | exact HB.out | apply below_alloc | apply pw_below_drewN | apply below_drew1) | exact HB.out)⟩⟩
      · rw [if_neg c16] at H
        have c16b0 : decide (x16_1 ≤ t173) = false := decide_eq_false c16
        clear c16
        replace H := Option.bind_eq_some_iff.mp H
        obtain ⟨⟨t184, t185⟩, A170, H⟩ := H
        replace H : (if x15_1 = 0 then (none) else ((order_Unrank.f t173 (Int.tmod (wrap64 ((Int.tmod a2 x15_1) + x15_1)) x15_1)).bind fun bt188 => ((order_Rank.f k1 bt188.1).bind fun bt192 => ((order_Unrank.f 21 0).bind fun bt194 => (if t185 = true then ((order_Rank.f k1 t184).bind fun bt198 => (if bt198.2 = true then (if bt198.1 = a2 then (if t172 = true then (if t178 = true then (if t180 = true then (if t183 = true then (if a2 ≥ 0 then (if (t185 == (decide (a2 < x15_1))) = true then (if bt188.2 = true then (if bt192.2 = true then (if bt192.1 = (Int.tmod (wrap64 ((Int.tmod a2 x15_1) + x15_1)) x15_1) then (if bt194.2 = true then (none) else ((order_Valid.f k1 bt188.1).bind fun t200 => (some t200))) else (none)) else (none)) else (none)) else (none)) else (if (t185 == false) = true then (if bt188.2 = true then (if bt192.2 = true then (if bt192.1 = (Int.tmod (wrap64 ((Int.tmod a2 x15_1) + x15_1)) x15_1) then (if bt194.2 = true then (none) else ((order_Valid.f k1 bt188.1).bind fun t201 => (some t201))) else (none)) else (none)) else (none)) else (none))) else (none)) else (none)) else (none)) else (none)) else (none)) else (none))) else (if t172 = true then (if t178 = true then (if t180 = true then (if t183 = true then (if a2 ≥ 0 then (if (t185 == (decide (a2 < x15_1))) = true then (if bt188.2 = true then (if bt192.2 = true then (if bt192.1 = (Int.tmod (wrap64 ((Int.tmod a2 x15_1) + x15_1)) x15_1) then (if bt194.2 = true then (none) else ((order_Valid.f k1 bt188.1).bind fun t202 => (some t202))) else (none)) else (none)) else (none)) else (none)) else (if (t185 == false) = true then (if bt188.2 = true then (if bt192.2 = true then (if bt192.1 = (Int.tmod (wrap64 ((Int.tmod a2 x15_1) + x15_1)) x15_1) then (if bt194.2 = true then (none) else ((order_Valid.f k1 bt188.1).bind fun t203 => (some t203))) else (none)) else (none)) else (none)) else (none))) else (none)) else (none)) else (none)) else (none))))))) = some r := H
        have A17 := Aside0.mk A170
        clear A170
        by_cases c18 : x15_1 = 0
        · rw [if_pos c18] at H
          exact absurd H (by simp)
        · rw [if_neg c18] at H
          have c18b0 : (x15_1 == 0) = false := beq_eq_false_iff_ne.mpr c18
          have c18b1 : (x15_1 != 0) = true := bne_iff_ne.mpr c18
          replace H := Option.bind_eq_some_iff.mp H
          obtain ⟨⟨t188, t189⟩, A190, H⟩ := H
          replace H : ((order_Rank.f k1 t188).bind fun bt192 => ((order_Unrank.f 21 0).bind fun bt194 => (if t185 = true then ((order_Rank.f k1 t184).bind fun bt198 => (if bt198.2 = true then (if bt198.1 = a2 then (if t172 = true then (if t178 = true then (if t180 = true then (if t183 = true then (if a2 ≥ 0 then (if (t185 == (decide (a2 < x15_1))) = true then (if t189 = true then (if bt192.2 = true then (if bt192.1 = (Int.tmod (wrap64 ((Int.tmod a2 x15_1) + x15_1)) x15_1) then (if bt194.2 = true then (none) else ((order_Valid.f k1 t188).bind fun t200 => (some t200))) else (none)) else (none)) else (none)) else (none)) else (if (t185 == false) = true then (if t189 = true then (if bt192.2 = true then (if bt192.1 = (Int.tmod (wrap64 ((Int.tmod a2 x15_1) + x15_1)) x15_1) then (if bt194.2 = true then (none) else ((order_Valid.f k1 t188).bind fun t201 => (some t201))) else (none)) else (none)) else (none)) else (none))) else (none)) else (none)) else (none)) else (none)) else (none)) else (none))) else (if t172 = true then (if t178 = true then (if t180 = true then (if t183 = true then (if a2 ≥ 0 then (if (t185 == (decide (a2 < x15_1))) = true then (if t189 = true then (if bt192.2 = true then (if bt192.1 = (Int.tmod (wrap64 ((Int.tmod a2 x15_1) + x15_1)) x15_1) then (if bt194.2 = true then (none) else ((order_Valid.f k1 t188).bind fun t202 => (some t202))) else (none)) else (none)) else (none)) else (none)) else (if (t185 == false) = true then (if t189 = true then (if bt192.2 = true then (if bt192.1 = (Int.tmod (wrap64 ((Int.tmod a2 x15_1) + x15_1)) x15_1) then (if bt194.2 = true then (none) else ((order_Valid.f k1 t188).bind fun t203 => (some t203))) else (none)) else (none)) else (none)) else (none))) else (none)) else (none)) else (none)) else (none))))) = some r := H
          have A19 := Aside0.mk A190
          clear A190
          replace H := Option.bind_eq_some_iff.mp H
          obtain ⟨⟨t192, t193⟩, A200, H⟩ := H
          replace H : ((order_Unrank.f 21 0).bind fun bt194 => (if t185 = true then ((order_Rank.f k1 t184).bind fun bt198 => (if bt198.2 = true then (if bt198.1 = a2 then (if t172 = true then (if t178 = true then (if t180 = true then (if t183 = true then (if a2 ≥ 0 then (if (t185 == (decide (a2 < x15_1))) = true then (if t189 = true then (if t193 = true then (if t192 = (Int.tmod (wrap64 ((Int.tmod a2 x15_1) + x15_1)) x15_1) then (if bt194.2 = true then (none) else ((order_Valid.f k1 t188).bind fun t200 => (some t200))) else (none)) else (none)) else (none)) else (none)) else (if (t185 == false) = true then (if t189 = true then (if t193 = true then (if t192 = (Int.tmod (wrap64 ((Int.tmod a2 x15_1) + x15_1)) x15_1) then (if bt194.2 = true then (none) else ((order_Valid.f k1 t188).bind fun t201 => (some t201))) else (none)) else (none)) else (none)) else (none))) else (none)) else (none)) else (none)) else (none)) else (none)) else (none))) else (if t172 = true then (if t178 = true then (if t180 = true then (if t183 = true then (if a2 ≥ 0 then (if (t185 == (decide (a2 < x15_1))) = true then (if t189 = true then (if t193 = true then (if t192 = (Int.tmod (wrap64 ((Int.tmod a2 x15_1) + x15_1)) x15_1) then (if bt194.2 = true then (none) else ((order_Valid.f k1 t188).bind fun t202 => (some t202))) else (none)) else (none)) else (none)) else (none)) else (if (t185 == false) = true then (if t189 = true then (if t193 = true then (if t192 = (Int.tmod (wrap64 ((Int.tmod a2 x15_1) + x15_1)) x15_1) then (if bt194.2 = true then (none) else ((order_Valid.f k1 t188).bind fun t203 => (some t203))) else (none)) else (none)) else (none)) else (none))) else (none)) else (none)) else (none)) else (none)))) = some r := H
          have A20 := Aside0.mk A200
          clear A200
          replace H := Option.bind_eq_some_iff.mp H
          obtain ⟨⟨t194, t195⟩, A210, H⟩ := H
          replace H : (if t185 = true then ((order_Rank.f k1 t184).bind fun bt198 => (if bt198.2 = true then (if bt198.1 = a2 then (if t172 = true then (if t178 = true then (if t180 = true then (if t183 = true then (if a2 ≥ 0 then (if (t185 == (decide (a2 < x15_1))) = true then (if t189 = true then (if t193 = true then (if t192 = (Int.tmod (wrap64 ((Int.tmod a2 x15_1) + x15_1)) x15_1) then (if t195 = true then (none) else ((order_Valid.f k1 t188).bind fun t200 => (some t200))) else (none)) else (none)) else (none)) else (none)) else (if (t185 == false) = true then (if t189 = true then (if t193 = true then (if t192 = (Int.tmod (wrap64 ((Int.tmod a2 x15_1) + x15_1)) x15_1) then (if t195 = true then (none) else ((order_Valid.f k1 t188).bind fun t201 => (some t201))) else (none)) else (none)) else (none)) else (none))) else (none)) else (none)) else (none)) else (none)) else (none)) else (none))) else (if t172 = true then (if t178 = true then (if t180 = true then (if t183 = true then (if a2 ≥ 0 then (if (t185 == (decide (a2 < x15_1))) = true then (if t189 = true then (if t193 = true then (if t192 = (Int.tmod (wrap64 ((Int.tmod a2 x15_1) + x15_1)) x15_1) then (if t195 = true then (none) else ((order_Valid.f k1 t188).bind fun t202 => (some t202))) else (none)) else (none)) else (none)) else (none)) else (if (t185 == false) = true then (if t189 = true then (if t193 = true then (if t192 = (Int.tmod (wrap64 ((Int.tmod a2 x15_1) + x15_1)) x15_1) then (if t195 = true then (none) else ((order_Valid.f k1 t188).bind fun t203 => (some t203))) else (none)) else (none)) else (none)) else (none))) else (none)) else (none)) else (none)) else (none))) = some r := H
          have A21 := Aside0.mk A210
          clear A210
          by_cases c22 : t185 = true
          · subst c22
            have H1 : ((order_Rank.f k1 t184).bind fun bt198 => (if bt198.2 = true then (if bt198.1 = a2 then (if t172 = true then (if t178 = true then (if t180 = true then (if t183 = true then (if a2 ≥ 0 then (if (true == (decide (a2 < x15_1))) = true then (if t189 = true then (if t193 = true then (if t192 = (Int.tmod (wrap64 ((Int.tmod a2 x15_1) + x15_1)) x15_1) then (if t195 = true then (none) else ((order_Valid.f k1 t188).bind fun t200 => (some t200))) else (none)) else (none)) else (none)) else (none)) else (if (true == false) = true then (if t189 = true then (if t193 = true then (if t192 = (Int.tmod (wrap64 ((Int.tmod a2 x15_1) + x15_1)) x15_1) then (if t195 = true then (none) else ((order_Valid.f k1 t188).bind fun t201 => (some t201))) else (none)) else (none)) else (none)) else (none))) else (none)) else (none)) else (none)) else (none)) else (none)) else (none))) = some r := by rw [if_pos rfl] at H; exact H
            clear H
            have H := H1
            clear H1
            replace H := Option.bind_eq_some_iff.mp H
            obtain ⟨⟨t198, t199⟩, A230, H⟩ := H
            replace H : (if t199 = true then (if t198 = a2 then (if t172 = true then (if t178 = true then (if t180 = true then (if t183 = true then (if a2 ≥ 0 then (if (true == (decide (a2 < x15_1))) = true then (if t189 = true then (if t193 = true then (if t192 = (Int.tmod (wrap64 ((Int.tmod a2 x15_1) + x15_1)) x15_1) then (if t195 = true then (none) else ((order_Valid.f k1 t188).bind fun t200 => (some t200))) else (none)) else (none)) else (none)) else (none)) else (if (true == false) = true then (if t189 = true then (if t193 = true then (if t192 = (Int.tmod (wrap64 ((Int.tmod a2 x15_1) + x15_1)) x15_1) then (if t195 = true then (none) else ((order_Valid.f k1 t188).bind fun t201 => (some t201))) else (none)) else (none)) else (none)) else (none))) else (none)) else (none)) else (none)) else (none)) else (none)) else (none)) = some r := H
            have A23 := Aside0.mk A230
            clear A230
            by_cases c24 : t199 = true
            · subst c24
              have H1 : (if t198 = a2 then (if t172 = true then (if t178 = true then (if t180 = true then (if t183 = true then (if a2 ≥ 0 then (if (true == (decide (a2 < x15_1))) = true then (if t189 = true then (if t193 = true then (if t192 = (Int.tmod (wrap64 ((Int.tmod a2 x15_1) + x15_1)) x15_1) then (if t195 = true then (none) else ((order_Valid.f k1 t188).bind fun t200 => (some t200))) else (none)) else (none)) else (none)) else (none)) else (if (true == false) = true then (if t189 = true then (if t193 = true then (if t192 = (Int.tmod (wrap64 ((Int.tmod a2 x15_1) + x15_1)) x15_1) then (if t195 = true then (none) else ((order_Valid.f k1 t188).bind fun t201 => (some t201))) else (none)) else (none)) else (none)) else (none))) else (none)) else (none)) else (none)) else (none)) else (none)) = some r := by rw [if_pos rfl] at H; exact H
              clear H
              have H := H1
              clear H1
              by_cases c25 : t198 = a2
              · rw [if_pos c25] at H
                have c25b0 : (t198 == a2) = true := beq_iff_eq.mpr c25
                have c25b1 : (t198 != a2) = false := bne_eq_false_iff_eq.mpr c25
                clear c25
                by_cases c26 : t172 = true
                · subst c26
                  have H1 : (if t178 = true then (if t180 = true then (if t183 = true then (if a2 ≥ 0 then (if (true == (decide (a2 < x15_1))) = true then (if t189 = true then (if t193 = true then (if t192 = (Int.tmod (wrap64 ((Int.tmod a2 x15_1) + x15_1)) x15_1) then (if t195 = true then (none) else ((order_Valid.f k1 t188).bind fun t200 => (some t200))) else (none)) else (none)) else (none)) else (none)) else (if (true == false) = true then (if t189 = true then (if t193 = true then (if t192 = (Int.tmod (wrap64 ((Int.tmod a2 x15_1) + x15_1)) x15_1) then (if t195 = true then (none) else ((order_Valid.f k1 t188).bind fun t201 => (some t201))) else (none)) else (none)) else (none)) else (none))) else (none)) else (none)) else (none)) = some r := by rw [if_pos rfl] at H; exact H
                  clear H
                  have H := H1
                  clear H1
                  by_cases c27 : t178 = true
                  · subst c27
                    have H1 : (if t180 = true then (if t183 = true then (if a2 ≥ 0 then (if (true == (decide (a2 < x15_1))) = true then (if t189 = true then (if t193 = true then (if t192 = (Int.tmod (wrap64 ((Int.tmod a2 x15_1) + x15_1)) x15_1) then (if t195 = true then (none) else ((order_Valid.f k1 t188).bind fun t200 => (some t200))) else (none)) else (none)) else (none)) else (none)) else (if (true == false) = true then (if t189 = true then (if t193 = true then (if t192 = (Int.tmod (wrap64 ((Int.tmod a2 x15_1) + x15_1)) x15_1) then (if t195 = true then (none) else ((order_Valid.f k1 t188).bind fun t201 => (some t201))) else (none)) else (none)) else (none)) else (none))) else (none)) else (none)) = some r := by rw [if_pos rfl] at H; exact H
                    clear H
                    have H := H1
                    clear H1
                    by_cases c28 : t180 = true
                    · subst c28
                      have H1 : (if t183 = true then (if a2 ≥ 0 then (if (true == (decide (a2 < x15_1))) = true then (if t189 = true then (if t193 = true then (if t192 = (Int.tmod (wrap64 ((Int.tmod a2 x15_1) + x15_1)) x15_1) then (if t195 = true then (none) else ((order_Valid.f k1 t188).bind fun t200 => (some t200))) else (none)) else (none)) else (none)) else (none)) else (if (true == false) = true then (if t189 = true then (if t193 = true then (if t192 = (Int.tmod (wrap64 ((Int.tmod a2 x15_1) + x15_1)) x15_1) then (if t195 = true then (none) else ((order_Valid.f k1 t188).bind fun t201 => (some t201))) else (none)) else (none)) else (none)) else (none))) else (none)) = some r := by rw [if_pos rfl] at H; exact H
                      clear H
                      have H := H1
                      clear H1
                      by_cases c29 : t183 = true
                      · subst c29
                        have H1 : (if a2 ≥ 0 then (if (true == (decide (a2 < x15_1))) = true then (if t189 = true then (if t193 = true then (if t192 = (Int.tmod (wrap64 ((Int.tmod a2 x15_1) + x15_1)) x15_1) then (if t195 = true then (none) else ((order_Valid.f k1 t188).bind fun t200 => (some t200))) else (none)) else (none)) else (none)) else (none)) else (if (true == false) = true then (if t189 = true then (if t193 = true then (if t192 = (Int.tmod (wrap64 ((Int.tmod a2 x15_1) + x15_1)) x15_1) then (if t195 = true then (none) else ((order_Valid.f k1 t188).bind fun t201 => (some t201))) else (none)) else (none)) else (none)) else (none))) = some r := by rw [if_pos rfl] at H; exact H
                        clear H
                        have H := H1
                        clear H1
                        by_cases c30 : a2 ≥ 0
                        · rw [if_pos c30] at H
                          have c30b0 : decide (0 ≤ a2) = true := decide_eq_true c30
                          clear c30
                          by_cases c31 : (true == (decide (a2 < x15_1))) = true
                          · rw [if_pos c31] at H
                            have c31b0 : (true == (decide (a2 < x15_1))) = true := c31
                            (try (have c31b1 : decide (true = (decide (a2 < x15_1))) = true := by simpa using c31))
                            (try (have c31b2 : (true == (decide (a2 < x15_1))) = true := by simpa using c31))
                            clear c31
                            by_cases c32 : t189 = true
                            · subst c32
                              have H1 : (if t193 = true then (if t192 = (Int.tmod (wrap64 ((Int.tmod a2 x15_1) + x15_1)) x15_1) then (if t195 = true then (none) else ((order_Valid.f k1 t188).bind fun t200 => (some t200))) else (none)) else (none)) = some r := by rw [if_pos rfl] at H; exact H
                              clear H
                              have H := H1
                              clear H1
                              by_cases c33 : t193 = true
                              · subst c33
                                have H1 : (if t192 = (Int.tmod (wrap64 ((Int.tmod a2 x15_1) + x15_1)) x15_1) then (if t195 = true then (none) else ((order_Valid.f k1 t188).bind fun t200 => (some t200))) else (none)) = some r := by rw [if_pos rfl] at H; exact H
                                clear H
                                have H := H1
                                clear H1
                                by_cases c34 : t192 = (Int.tmod (wrap64 ((Int.tmod a2 x15_1) + x15_1)) x15_1)
                                · rw [if_pos c34] at H
                                  have c34b0 : (t192 == (Int.tmod (wrap64 ((Int.tmod a2 x15_1) + x15_1)) x15_1)) = true := beq_iff_eq.mpr c34
                                  have c34b1 : (t192 != (Int.tmod (wrap64 ((Int.tmod a2 x15_1) + x15_1)) x15_1)) = false := bne_eq_false_iff_eq.mpr c34
                                  clear c34
                                  by_cases c35 : t195 = true
                                  · subst c35
                                    have H1 : (none) = some r := by rw [if_pos rfl] at H; exact H
                                    clear H
                                    have H := H1
                                    clear H1
                                    exact absurd H (by simp)
                                  · replace c35 := Bool.eq_false_iff.mpr c35
                                    subst c35
                                    have H1 : ((order_Valid.f k1 t188).bind fun t200 => (some t200)) = some r := by rw [if_neg (show ¬ (false = true) by decide)] at H; exact H
                                    clear H
                                    have H := H1
                                    clear H1
                                    replace H := Option.bind_eq_some_iff.mp H
                                    obtain ⟨t200, A360, H⟩ := H
                                    replace H : (some t200) = some r := H
                                    have A36 := Aside0.mk A360
                                    clear A360
                                    obtain rfl := Option.some.inj H
                                    go_wp2_with (first | ((with_reducible refine gate_callee (f := 12) rfl ?_); refine goesL_ (some 58) rfl rfl Try.func12 (by kernel_rfl) rfl #[.int .i64 t173, .int .i64 a2] rfl (by (try simp only [List.map_toArray, List.map_cons, List.map_nil]); first | done | rfl | (simp only [List.length_drop, List.length_take]; rfl)) ?_; (with_reducible refine (order_Unrank.calls t173 a2 t184 true _ A17.out).mono ?_); rintro e w37 ⟨v186, rfl, ho0, hb⟩; refine ⟨_, rfl, ?_⟩; have n0_ := Aside0.mk (Kd.R_lower ho0 (below_size (by repeat (first | (with_reducible first | exact HB.out | apply below_alloc | apply pw_below_drewN | apply below_drew1) | exact HB.out)))); have n1_ := Aside0.mk (below_step (by repeat (first | (with_reducible first | exact HB.out | apply below_alloc | apply pw_below_drewN | apply below_drew1) | exact HB.out)) hb); clear HB; have HO187 := n0_; have HB := n1_; clear n0_ n1_; (try clear hb); (try clear hb2); (try clear hk); (try clear hi); (try clear ho0)) | ((with_reducible refine gate_callee (f := 12) rfl ?_); refine goesL_ (some 70) rfl rfl Try.func12 (by kernel_rfl) rfl #[.int .i64 t173, .int .i64 (Int.tmod (wrap64 ((Int.tmod a2 x15_1) + x15_1)) x15_1)] rfl (by (try simp only [List.map_toArray, List.map_cons, List.map_nil]); first | done | rfl | (simp only [List.length_drop, List.length_take]; rfl)) ?_; (with_reducible refine (order_Unrank.calls t173 (Int.tmod (wrap64 ((Int.tmod a2 x15_1) + x15_1)) x15_1) t188 true _ A19.out).mono ?_); rintro e w38 ⟨v190, rfl, ho0, hb⟩; refine ⟨_, rfl, ?_⟩; have n0_ := Aside0.mk (Kd.R_elder' (by (with_reducible repeat (first | apply Kd.R_alloc | apply Kd.R_drewN | apply Kd.R_drew)); exact HO187.out) (Kd.R_base ho0) hb); have n1_ := Aside0.mk (Kd.R_lower (Kd.R_new' ho0 (Kd.R_lt (by (with_reducible repeat (first | apply Kd.R_alloc | apply Kd.R_drewN | apply Kd.R_drew)); exact HO187.out))) (below_size (by repeat (first | (with_reducible first | exact HB.out | apply below_alloc | apply pw_below_drewN | apply below_drew1) | exact HB.out)))); have n2_ := Aside0.mk (below_step (by repeat (first | (with_reducible first | exact HB.out | apply below_alloc | apply pw_below_drewN | apply below_drew1) | exact HB.out)) hb); clear HO187; clear HB; have HO187 := n0_; have HO191 := n1_; have HB := n2_; clear n0_ n1_ n2_; (try clear hb); (try clear hb2); (try clear hk); (try clear hi); (try clear ho0); obtain ⟨Ao39, co39, eo39⟩ := Kd.R_slice HO191.out; subst eo39) | ((with_reducible refine gate_callee (f := 11) rfl ?_); refine goesL_ (some 75) rfl rfl Try.func11 (by kernel_rfl) rfl #[.slice Ao39 t188.length co39] rfl (by (try simp only [List.map_toArray, List.map_cons, List.map_nil]); first | done | rfl | (simp only [List.length_drop, List.length_take]; rfl)) ?_; (with_reducible refine (order_Rank.calls k1 _ _ t188 t192 true _ ?side1 ?side2 A20.out).mono ?_); (case side1 => repeat (first | exact (Kd.R_reads' HO191.out).2.2 | (with_reducible refine Kd.C_alloc ?_ _) | (with_reducible refine Kd.C_drewN ?_ _) | (with_reducible refine Kd.C_drew ?_))); (case side2 => exact (Kd.R_reads' HO191.out).2.1); rintro e w40 ⟨rfl, hb⟩; refine ⟨_, rfl, ?_⟩; have n0_ := Aside0.mk (Kd.R_below (by (with_reducible repeat (first | apply Kd.R_alloc | apply Kd.R_drewN | apply Kd.R_drew)); exact HO187.out) hb); have n1_ := Aside0.mk (Kd.R_below (by (with_reducible repeat (first | apply Kd.R_alloc | apply Kd.R_drewN | apply Kd.R_drew)); exact HO191.out) hb); have n2_ := Aside0.mk (below_step (by repeat (first | (with_reducible first | exact HB.out | apply below_alloc | apply pw_below_drewN | apply below_drew1) | exact HB.out)) hb); clear HO187; clear HO191; clear HB; have HO187 := n0_; have HO191 := n1_; have HB := n2_; clear n0_ n1_ n2_; (try clear hb); (try clear hb2); (try clear hk); (try clear hi)) | ((with_reducible refine gate_callee (f := 12) rfl ?_); refine goesL_ (some 79) rfl rfl Try.func12 (by kernel_rfl) rfl #[.int .i64 21, .int .i64 0] rfl (by (try simp only [List.map_toArray, List.map_cons, List.map_nil]); first | done | rfl | (simp only [List.length_drop, List.length_take]; rfl)) ?_; (with_reducible refine (order_Unrank.calls 21 0 t194 false _ A21.out).mono ?_); rintro e w41 ⟨v196, rfl, ho0, hb⟩; refine ⟨_, rfl, ?_⟩; have n0_ := Aside0.mk (Kd.R_elder' (by (with_reducible repeat (first | apply Kd.R_alloc | apply Kd.R_drewN | apply Kd.R_drew)); exact HO187.out) (Kd.R_base ho0) hb); have n1_ := Aside0.mk (Kd.R_elder' (by (with_reducible repeat (first | apply Kd.R_alloc | apply Kd.R_drewN | apply Kd.R_drew)); exact HO191.out) (Kd.R_base ho0) hb); have n2_ := Aside0.mk (Kd.R_lower (Kd.R_new' (Kd.R_new' ho0 (Kd.R_lt (by (with_reducible repeat (first | apply Kd.R_alloc | apply Kd.R_drewN | apply Kd.R_drew)); exact HO187.out))) (Kd.R_lt (by (with_reducible repeat (first | apply Kd.R_alloc | apply Kd.R_drewN | apply Kd.R_drew)); exact HO191.out))) (below_size (by repeat (first | (with_reducible first | exact HB.out | apply below_alloc | apply pw_below_drewN | apply below_drew1) | exact HB.out)))); have n3_ := Aside0.mk (below_step (by repeat (first | (with_reducible first | exact HB.out | apply below_alloc | apply pw_below_drewN | apply below_drew1) | exact HB.out)) hb); clear HO187; clear HO191; clear HB; have HO187 := n0_; have HO191 := n1_; have HO197 := n2_; have HB := n3_; clear n0_ n1_ n2_ n3_; (try clear hb); (try clear hb2); (try clear hk); (try clear hi); (try clear ho0); obtain ⟨Ao42, co42, eo42⟩ := Kd.R_slice HO187.out; subst eo42) | ((with_reducible refine gate_callee (f := 11) rfl ?_); refine goesL_ (some 85) rfl rfl Try.func11 (by kernel_rfl) rfl #[.slice Ao42 t184.length co42] rfl (by (try simp only [List.map_toArray, List.map_cons, List.map_nil]); first | done | rfl | (simp only [List.length_drop, List.length_take]; rfl)) ?_; (with_reducible refine (order_Rank.calls k1 _ _ t184 t198 true _ ?side1 ?side2 A23.out).mono ?_); (case side1 => repeat (first | exact (Kd.R_reads' HO187.out).2.2 | (with_reducible refine Kd.C_alloc ?_ _) | (with_reducible refine Kd.C_drewN ?_ _) | (with_reducible refine Kd.C_drew ?_))); (case side2 => exact (Kd.R_reads' HO187.out).2.1); rintro e w43 ⟨rfl, hb⟩; refine ⟨_, rfl, ?_⟩; have n0_ := Aside0.mk (Kd.R_below (by (with_reducible repeat (first | apply Kd.R_alloc | apply Kd.R_drewN | apply Kd.R_drew)); exact HO187.out) hb); have n1_ := Aside0.mk (Kd.R_below (by (with_reducible repeat (first | apply Kd.R_alloc | apply Kd.R_drewN | apply Kd.R_drew)); exact HO191.out) hb); have n2_ := Aside0.mk (Kd.R_below (by (with_reducible repeat (first | apply Kd.R_alloc | apply Kd.R_drewN | apply Kd.R_drew)); exact HO197.out) hb); have n3_ := Aside0.mk (below_step (by repeat (first | (with_reducible first | exact HB.out | apply below_alloc | apply pw_below_drewN | apply below_drew1) | exact HB.out)) hb); clear HO187; clear HO191; clear HO197; clear HB; have HO187 := n0_; have HO191 := n1_; have HO197 := n2_; have HB := n3_; clear n0_ n1_ n2_ n3_; (try clear hb); (try clear hb2); (try clear hk); (try clear hi)) | (go_at_call 14; (with_reducible refine (order_Valid.calls k1 _ _ t188 t200 _ ?side1 ?side2 A36.out).mono ?_); (case side1 => repeat (first | exact (Kd.R_reads' HO191.out).2.2 | (with_reducible refine Kd.C_alloc ?_ _) | (with_reducible refine Kd.C_drewN ?_ _) | (with_reducible refine Kd.C_drew ?_))); (case side2 => exact (Kd.R_reads' HO191.out).2.1); rintro e w44 ⟨rfl, hb⟩; have n0_ := Aside0.mk (Kd.R_below (by (with_reducible repeat (first | apply Kd.R_alloc | apply Kd.R_drewN | apply Kd.R_drew)); exact HO187.out) hb); have n1_ := Aside0.mk (Kd.R_below (by (with_reducible repeat (first | apply Kd.R_alloc | apply Kd.R_drewN | apply Kd.R_drew)); exact HO191.out) hb); have n2_ := Aside0.mk (Kd.R_below (by (with_reducible repeat (first | apply Kd.R_alloc | apply Kd.R_drewN | apply Kd.R_drew)); exact HO197.out) hb); have n3_ := Aside0.mk (below_step (by repeat (first | (with_reducible first | exact HB.out | apply below_alloc | apply pw_below_drewN | apply below_drew1) | exact HB.out)) hb); clear HO187; clear HO191; clear HO197; clear HB; have HO187 := n0_; have HO191 := n1_; have HO197 := n2_; have HB := n3_; clear n0_ n1_ n2_ n3_; (try clear hb); (try clear hb2); (try clear hk); (try clear hi)))
                                    go_ret
                                    exact ⟨by first | rfl | (simp [errW_none, errW_some] <;> rfl) | (simp [*, errW_none, errW_some] <;> rfl), by repeat (first | (with_reducible first | exact HB.out | apply below_alloc | apply pw_below_drewN | apply below_drew1) | exact HB.out)⟩
                                · rw [if_neg c34] at H
                                  exact absurd H (by simp)
                              · replace c33 := Bool.eq_false_iff.mpr c33
                                subst c33
                                have H1 : (none) = some r := by rw [if_neg (show ¬ (false = true) by decide)] at H; exact H
                                clear H
                                have H := H1
                                clear H1
                                exact absurd H (by simp)
                            · replace c32 := Bool.eq_false_iff.mpr c32
                              subst c32
                              have H1 : (none) = some r := by rw [if_neg (show ¬ (false = true) by decide)] at H; exact H
                              clear H
                              have H := H1
                              clear H1
                              exact absurd H (by simp)
                          · rw [if_neg c31] at H
                            exact absurd H (by simp)
                        · rw [if_neg c30] at H
                          have c30b0 : decide (0 ≤ a2) = false := decide_eq_false c30
                          clear c30
                          by_cases c45 : (true == false) = true
                          · rw [if_pos c45] at H
                            have c45b0 : (true == false) = true := c45
                            clear c45
                            by_cases c46 : t189 = true
                            · subst c46
                              have H1 : (if t193 = true then (if t192 = (Int.tmod (wrap64 ((Int.tmod a2 x15_1) + x15_1)) x15_1) then (if t195 = true then (none) else ((order_Valid.f k1 t188).bind fun t201 => (some t201))) else (none)) else (none)) = some r := by rw [if_pos rfl] at H; exact H
                              clear H
                              have H := H1
                              clear H1
                              by_cases c47 : t193 = true
                              · subst c47
                                have H1 : (if t192 = (Int.tmod (wrap64 ((Int.tmod a2 x15_1) + x15_1)) x15_1) then (if t195 = true then (none) else ((order_Valid.f k1 t188).bind fun t201 => (some t201))) else (none)) = some r := by rw [if_pos rfl] at H; exact H
                                clear H
                                have H := H1
                                clear H1
                                by_cases c48 : t192 = (Int.tmod (wrap64 ((Int.tmod a2 x15_1) + x15_1)) x15_1)
                                · rw [if_pos c48] at H
                                  have c48b0 : (t192 == (Int.tmod (wrap64 ((Int.tmod a2 x15_1) + x15_1)) x15_1)) = true := beq_iff_eq.mpr c48
                                  have c48b1 : (t192 != (Int.tmod (wrap64 ((Int.tmod a2 x15_1) + x15_1)) x15_1)) = false := bne_eq_false_iff_eq.mpr c48
                                  clear c48
                                  by_cases c49 : t195 = true
                                  · subst c49
                                    have H1 : (none) = some r := by rw [if_pos rfl] at H; exact H
                                    clear H
                                    have H := H1
                                    clear H1
                                    exact absurd H (by simp)
                                  · replace c49 := Bool.eq_false_iff.mpr c49
                                    subst c49
                                    have H1 : ((order_Valid.f k1 t188).bind fun t201 => (some t201)) = some r := by rw [if_neg (show ¬ (false = true) by decide)] at H; exact H
                                    clear H
                                    have H := H1
                                    clear H1
                                    replace H := Option.bind_eq_some_iff.mp H
                                    obtain ⟨t201, A500, H⟩ := H
                                    replace H : (some t201) = some r := H
                                    have A50 := Aside0.mk A500
                                    clear A500
                                    obtain rfl := Option.some.inj H
                                    go_wp2_with (first | ((with_reducible refine gate_callee (f := 12) rfl ?_); refine goesL_ (some 58) rfl rfl Try.func12 (by kernel_rfl) rfl #[.int .i64 t173, .int .i64 a2] rfl (by (try simp only [List.map_toArray, List.map_cons, List.map_nil]); first | done | rfl | (simp only [List.length_drop, List.length_take]; rfl)) ?_; (with_reducible refine (order_Unrank.calls t173 a2 t184 true _ A17.out).mono ?_); rintro e w51 ⟨v186, rfl, ho0, hb⟩; refine ⟨_, rfl, ?_⟩; have n0_ := Aside0.mk (Kd.R_lower ho0 (below_size (by repeat (first | (with_reducible first | exact HB.out | apply below_alloc | apply pw_below_drewN | apply below_drew1) | exact HB.out)))); have n1_ := Aside0.mk (below_step (by repeat (first | (with_reducible first | exact HB.out | apply below_alloc | apply pw_below_drewN | apply below_drew1) | exact HB.out)) hb); clear HB; have HO187 := n0_; have HB := n1_; clear n0_ n1_; (try clear hb); (try clear hb2); (try clear hk); (try clear hi); (try clear ho0)) | ((with_reducible refine gate_callee (f := 12) rfl ?_); refine goesL_ (some 70) rfl rfl Try.func12 (by kernel_rfl) rfl #[.int .i64 t173, .int .i64 (Int.tmod (wrap64 ((Int.tmod a2 x15_1) + x15_1)) x15_1)] rfl (by (try simp only [List.map_toArray, List.map_cons, List.map_nil]); first | done | rfl | (simp only [List.length_drop, List.length_take]; rfl)) ?_; (with_reducible refine (order_Unrank.calls t173 (Int.tmod (wrap64 ((Int.tmod a2 x15_1) + x15_1)) x15_1) t188 true _ A19.out).mono ?_); rintro e w52 ⟨v190, rfl, ho0, hb⟩; refine ⟨_, rfl, ?_⟩; have n0_ := Aside0.mk (Kd.R_elder' (by (with_reducible repeat (first | apply Kd.R_alloc | apply Kd.R_drewN | apply Kd.R_drew)); exact HO187.out) (Kd.R_base ho0) hb); have n1_ := Aside0.mk (Kd.R_lower (Kd.R_new' ho0 (Kd.R_lt (by (with_reducible repeat (first | apply Kd.R_alloc | apply Kd.R_drewN | apply Kd.R_drew)); exact HO187.out))) (below_size (by repeat (first | (with_reducible first | exact HB.out | apply below_alloc | apply pw_below_drewN | apply below_drew1) | exact HB.out)))); have n2_ := Aside0.mk (below_step (by repeat (first | (with_reducible first | exact HB.out | apply below_alloc | apply pw_below_drewN | apply below_drew1) | exact HB.out)) hb); clear HO187; clear HB; have HO187 := n0_; have HO191 := n1_; have HB := n2_; clear n0_ n1_ n2_; (try clear hb); (try clear hb2); (try clear hk); (try clear hi); (try clear ho0); obtain ⟨Ao53, co53, eo53⟩ := Kd.R_slice HO191.out; subst eo53) | ((with_reducible refine gate_callee (f := 11) rfl ?_); refine goesL_ (some 75) rfl rfl Try.func11 (by kernel_rfl) rfl #[.slice Ao53 t188.length co53] rfl (by (try simp only [List.map_toArray, List.map_cons, List.map_nil]); first | done | rfl | (simp only [List.length_drop, List.length_take]; rfl)) ?_; (with_reducible refine (order_Rank.calls k1 _ _ t188 t192 true _ ?side1 ?side2 A20.out).mono ?_); (case side1 => repeat (first | exact (Kd.R_reads' HO191.out).2.2 | (with_reducible refine Kd.C_alloc ?_ _) | (with_reducible refine Kd.C_drewN ?_ _) | (with_reducible refine Kd.C_drew ?_))); (case side2 => exact (Kd.R_reads' HO191.out).2.1); rintro e w54 ⟨rfl, hb⟩; refine ⟨_, rfl, ?_⟩; have n0_ := Aside0.mk (Kd.R_below (by (with_reducible repeat (first | apply Kd.R_alloc | apply Kd.R_drewN | apply Kd.R_drew)); exact HO187.out) hb); have n1_ := Aside0.mk (Kd.R_below (by (with_reducible repeat (first | apply Kd.R_alloc | apply Kd.R_drewN | apply Kd.R_drew)); exact HO191.out) hb); have n2_ := Aside0.mk (below_step (by repeat (first | (with_reducible first | exact HB.out | apply below_alloc | apply pw_below_drewN | apply below_drew1) | exact HB.out)) hb); clear HO187; clear HO191; clear HB; have HO187 := n0_; have HO191 := n1_; have HB := n2_; clear n0_ n1_ n2_; (try clear hb); (try clear hb2); (try clear hk); (try clear hi)) | ((with_reducible refine gate_callee (f := 12) rfl ?_); refine goesL_ (some 79) rfl rfl Try.func12 (by kernel_rfl) rfl #[.int .i64 21, .int .i64 0] rfl (by (try simp only [List.map_toArray, List.map_cons, List.map_nil]); first | done | rfl | (simp only [List.length_drop, List.length_take]; rfl)) ?_; (with_reducible refine (order_Unrank.calls 21 0 t194 false _ A21.out).mono ?_); rintro e w55 ⟨v196, rfl, ho0, hb⟩; refine ⟨_, rfl, ?_⟩; have n0_ := Aside0.mk (Kd.R_elder' (by (with_reducible repeat (first | apply Kd.R_alloc | apply Kd.R_drewN | apply Kd.R_drew)); exact HO187.out) (Kd.R_base ho0) hb); have n1_ := Aside0.mk (Kd.R_elder' (by (with_reducible repeat (first | apply Kd.R_alloc | apply Kd.R_drewN | apply Kd.R_drew)); exact HO191.out) (Kd.R_base ho0) hb); have n2_ := Aside0.mk (Kd.R_lower (Kd.R_new' (Kd.R_new' ho0 (Kd.R_lt (by (with_reducible repeat (first | apply Kd.R_alloc | apply Kd.R_drewN | apply Kd.R_drew)); exact HO187.out))) (Kd.R_lt (by (with_reducible repeat (first | apply Kd.R_alloc | apply Kd.R_drewN | apply Kd.R_drew)); exact HO191.out))) (below_size (by repeat (first | (with_reducible first | exact HB.out | apply below_alloc | apply pw_below_drewN | apply below_drew1) | exact HB.out)))); have n3_ := Aside0.mk (below_step (by repeat (first | (with_reducible first | exact HB.out | apply below_alloc | apply pw_below_drewN | apply below_drew1) | exact HB.out)) hb); clear HO187; clear HO191; clear HB; have HO187 := n0_; have HO191 := n1_; have HO197 := n2_; have HB := n3_; clear n0_ n1_ n2_ n3_; (try clear hb); (try clear hb2); (try clear hk); (try clear hi); (try clear ho0); obtain ⟨Ao56, co56, eo56⟩ := Kd.R_slice HO187.out; subst eo56) | ((with_reducible refine gate_callee (f := 11) rfl ?_); refine goesL_ (some 85) rfl rfl Try.func11 (by kernel_rfl) rfl #[.slice Ao56 t184.length co56] rfl (by (try simp only [List.map_toArray, List.map_cons, List.map_nil]); first | done | rfl | (simp only [List.length_drop, List.length_take]; rfl)) ?_; (with_reducible refine (order_Rank.calls k1 _ _ t184 t198 true _ ?side1 ?side2 A23.out).mono ?_); (case side1 => repeat (first | exact (Kd.R_reads' HO187.out).2.2 | (with_reducible refine Kd.C_alloc ?_ _) | (with_reducible refine Kd.C_drewN ?_ _) | (with_reducible refine Kd.C_drew ?_))); (case side2 => exact (Kd.R_reads' HO187.out).2.1); rintro e w57 ⟨rfl, hb⟩; refine ⟨_, rfl, ?_⟩; have n0_ := Aside0.mk (Kd.R_below (by (with_reducible repeat (first | apply Kd.R_alloc | apply Kd.R_drewN | apply Kd.R_drew)); exact HO187.out) hb); have n1_ := Aside0.mk (Kd.R_below (by (with_reducible repeat (first | apply Kd.R_alloc | apply Kd.R_drewN | apply Kd.R_drew)); exact HO191.out) hb); have n2_ := Aside0.mk (Kd.R_below (by (with_reducible repeat (first | apply Kd.R_alloc | apply Kd.R_drewN | apply Kd.R_drew)); exact HO197.out) hb); have n3_ := Aside0.mk (below_step (by repeat (first | (with_reducible first | exact HB.out | apply below_alloc | apply pw_below_drewN | apply below_drew1) | exact HB.out)) hb); clear HO187; clear HO191; clear HO197; clear HB; have HO187 := n0_; have HO191 := n1_; have HO197 := n2_; have HB := n3_; clear n0_ n1_ n2_ n3_; (try clear hb); (try clear hb2); (try clear hk); (try clear hi)) | (go_at_call 14; (with_reducible refine (order_Valid.calls k1 _ _ t188 t201 _ ?side1 ?side2 A50.out).mono ?_); (case side1 => repeat (first | exact (Kd.R_reads' HO191.out).2.2 | (with_reducible refine Kd.C_alloc ?_ _) | (with_reducible refine Kd.C_drewN ?_ _) | (with_reducible refine Kd.C_drew ?_))); (case side2 => exact (Kd.R_reads' HO191.out).2.1); rintro e w58 ⟨rfl, hb⟩; have n0_ := Aside0.mk (Kd.R_below (by (with_reducible repeat (first | apply Kd.R_alloc | apply Kd.R_drewN | apply Kd.R_drew)); exact HO187.out) hb); have n1_ := Aside0.mk (Kd.R_below (by (with_reducible repeat (first | apply Kd.R_alloc | apply Kd.R_drewN | apply Kd.R_drew)); exact HO191.out) hb); have n2_ := Aside0.mk (Kd.R_below (by (with_reducible repeat (first | apply Kd.R_alloc | apply Kd.R_drewN | apply Kd.R_drew)); exact HO197.out) hb); have n3_ := Aside0.mk (below_step (by repeat (first | (with_reducible first | exact HB.out | apply below_alloc | apply pw_below_drewN | apply below_drew1) | exact HB.out)) hb); clear HO187; clear HO191; clear HO197; clear HB; have HO187 := n0_; have HO191 := n1_; have HO197 := n2_; have HB := n3_; clear n0_ n1_ n2_ n3_; (try clear hb); (try clear hb2); (try clear hk); (try clear hi)))
                                    go_ret
                                    exact ⟨by first | rfl | (simp [errW_none, errW_some] <;> rfl) | (simp [*, errW_none, errW_some] <;> rfl), by repeat (first | (with_reducible first | exact HB.out | apply below_alloc | apply pw_below_drewN | apply below_drew1) | exact HB.out)⟩
                                · rw [if_neg c48] at H
                                  exact absurd H (by simp)
                              · replace c47 := Bool.eq_false_iff.mpr c47
                                subst c47
                                have H1 : (none) = some r := by rw [if_neg (show ¬ (false = true) by decide)] at H; exact H
                                clear H
                                have H := H1
                                clear H1
                                exact absurd H (by simp)
                            · replace c46 := Bool.eq_false_iff.mpr c46
                              subst c46
                              have H1 : (none) = some r := by rw [if_neg (show ¬ (false = true) by decide)] at H; exact H
                              clear H
                              have H := H1
                              clear H1
                              exact absurd H (by simp)
                          · rw [if_neg c45] at H
                            exact absurd H (by simp)
                      · replace c29 := Bool.eq_false_iff.mpr c29
                        subst c29
                        have H1 : (none) = some r := by rw [if_neg (show ¬ (false = true) by decide)] at H; exact H
                        clear H
                        have H := H1
                        clear H1
                        exact absurd H (by simp)
                    · replace c28 := Bool.eq_false_iff.mpr c28
                      subst c28
                      have H1 : (none) = some r := by rw [if_neg (show ¬ (false = true) by decide)] at H; exact H
                      clear H
                      have H := H1
                      clear H1
                      exact absurd H (by simp)
                  · replace c27 := Bool.eq_false_iff.mpr c27
                    subst c27
                    have H1 : (none) = some r := by rw [if_neg (show ¬ (false = true) by decide)] at H; exact H
                    clear H
                    have H := H1
                    clear H1
                    exact absurd H (by simp)
                · replace c26 := Bool.eq_false_iff.mpr c26
                  subst c26
                  have H1 : (none) = some r := by rw [if_neg (show ¬ (false = true) by decide)] at H; exact H
                  clear H
                  have H := H1
                  clear H1
                  exact absurd H (by simp)
              · rw [if_neg c25] at H
                exact absurd H (by simp)
            · replace c24 := Bool.eq_false_iff.mpr c24
              subst c24
              have H1 : (none) = some r := by rw [if_neg (show ¬ (false = true) by decide)] at H; exact H
              clear H
              have H := H1
              clear H1
              exact absurd H (by simp)
          · replace c22 := Bool.eq_false_iff.mpr c22
            subst c22
            have H1 : (if t172 = true then (if t178 = true then (if t180 = true then (if t183 = true then (if a2 ≥ 0 then (if (false == (decide (a2 < x15_1))) = true then (if t189 = true then (if t193 = true then (if t192 = (Int.tmod (wrap64 ((Int.tmod a2 x15_1) + x15_1)) x15_1) then (if t195 = true then (none) else ((order_Valid.f k1 t188).bind fun t202 => (some t202))) else (none)) else (none)) else (none)) else (none)) else (if (false == false) = true then (if t189 = true then (if t193 = true then (if t192 = (Int.tmod (wrap64 ((Int.tmod a2 x15_1) + x15_1)) x15_1) then (if t195 = true then (none) else ((order_Valid.f k1 t188).bind fun t203 => (some t203))) else (none)) else (none)) else (none)) else (none))) else (none)) else (none)) else (none)) else (none)) = some r := by rw [if_neg (show ¬ (false = true) by decide)] at H; exact H
            clear H
            have H := H1
            clear H1
            by_cases c59 : t172 = true
            · subst c59
              have H1 : (if t178 = true then (if t180 = true then (if t183 = true then (if a2 ≥ 0 then (if (false == (decide (a2 < x15_1))) = true then (if t189 = true then (if t193 = true then (if t192 = (Int.tmod (wrap64 ((Int.tmod a2 x15_1) + x15_1)) x15_1) then (if t195 = true then (none) else ((order_Valid.f k1 t188).bind fun t202 => (some t202))) else (none)) else (none)) else (none)) else (none)) else (if (false == false) = true then (if t189 = true then (if t193 = true then (if t192 = (Int.tmod (wrap64 ((Int.tmod a2 x15_1) + x15_1)) x15_1) then (if t195 = true then (none) else ((order_Valid.f k1 t188).bind fun t203 => (some t203))) else (none)) else (none)) else (none)) else (none))) else (none)) else (none)) else (none)) = some r := by rw [if_pos rfl] at H; exact H
              clear H
              have H := H1
              clear H1
              by_cases c60 : t178 = true
              · subst c60
                have H1 : (if t180 = true then (if t183 = true then (if a2 ≥ 0 then (if (false == (decide (a2 < x15_1))) = true then (if t189 = true then (if t193 = true then (if t192 = (Int.tmod (wrap64 ((Int.tmod a2 x15_1) + x15_1)) x15_1) then (if t195 = true then (none) else ((order_Valid.f k1 t188).bind fun t202 => (some t202))) else (none)) else (none)) else (none)) else (none)) else (if (false == false) = true then (if t189 = true then (if t193 = true then (if t192 = (Int.tmod (wrap64 ((Int.tmod a2 x15_1) + x15_1)) x15_1) then (if t195 = true then (none) else ((order_Valid.f k1 t188).bind fun t203 => (some t203))) else (none)) else (none)) else (none)) else (none))) else (none)) else (none)) = some r := by rw [if_pos rfl] at H; exact H
                clear H
                have H := H1
                clear H1
                by_cases c61 : t180 = true
                · subst c61
                  have H1 : (if t183 = true then (if a2 ≥ 0 then (if (false == (decide (a2 < x15_1))) = true then (if t189 = true then (if t193 = true then (if t192 = (Int.tmod (wrap64 ((Int.tmod a2 x15_1) + x15_1)) x15_1) then (if t195 = true then (none) else ((order_Valid.f k1 t188).bind fun t202 => (some t202))) else (none)) else (none)) else (none)) else (none)) else (if (false == false) = true then (if t189 = true then (if t193 = true then (if t192 = (Int.tmod (wrap64 ((Int.tmod a2 x15_1) + x15_1)) x15_1) then (if t195 = true then (none) else ((order_Valid.f k1 t188).bind fun t203 => (some t203))) else (none)) else (none)) else (none)) else (none))) else (none)) = some r := by rw [if_pos rfl] at H; exact H
                  clear H
                  have H := H1
                  clear H1
                  by_cases c62 : t183 = true
                  · subst c62
                    have H1 : (if a2 ≥ 0 then (if (false == (decide (a2 < x15_1))) = true then (if t189 = true then (if t193 = true then (if t192 = (Int.tmod (wrap64 ((Int.tmod a2 x15_1) + x15_1)) x15_1) then (if t195 = true then (none) else ((order_Valid.f k1 t188).bind fun t202 => (some t202))) else (none)) else (none)) else (none)) else (none)) else (if (false == false) = true then (if t189 = true then (if t193 = true then (if t192 = (Int.tmod (wrap64 ((Int.tmod a2 x15_1) + x15_1)) x15_1) then (if t195 = true then (none) else ((order_Valid.f k1 t188).bind fun t203 => (some t203))) else (none)) else (none)) else (none)) else (none))) = some r := by rw [if_pos rfl] at H; exact H
                    clear H
                    have H := H1
                    clear H1
                    by_cases c63 : a2 ≥ 0
                    · rw [if_pos c63] at H
                      have c63b0 : decide (0 ≤ a2) = true := decide_eq_true c63
                      clear c63
                      by_cases c64 : (false == (decide (a2 < x15_1))) = true
                      · rw [if_pos c64] at H
                        have c64b0 : (false == (decide (a2 < x15_1))) = true := c64
                        (try (have c64b1 : decide (false = (decide (a2 < x15_1))) = true := by simpa using c64))
                        (try (have c64b2 : (false == (decide (a2 < x15_1))) = true := by simpa using c64))
                        clear c64
                        by_cases c65 : t189 = true
                        · subst c65
                          have H1 : (if t193 = true then (if t192 = (Int.tmod (wrap64 ((Int.tmod a2 x15_1) + x15_1)) x15_1) then (if t195 = true then (none) else ((order_Valid.f k1 t188).bind fun t202 => (some t202))) else (none)) else (none)) = some r := by rw [if_pos rfl] at H; exact H
                          clear H
                          have H := H1
                          clear H1
                          by_cases c66 : t193 = true
                          · subst c66
                            have H1 : (if t192 = (Int.tmod (wrap64 ((Int.tmod a2 x15_1) + x15_1)) x15_1) then (if t195 = true then (none) else ((order_Valid.f k1 t188).bind fun t202 => (some t202))) else (none)) = some r := by rw [if_pos rfl] at H; exact H
                            clear H
                            have H := H1
                            clear H1
                            by_cases c67 : t192 = (Int.tmod (wrap64 ((Int.tmod a2 x15_1) + x15_1)) x15_1)
                            · rw [if_pos c67] at H
                              have c67b0 : (t192 == (Int.tmod (wrap64 ((Int.tmod a2 x15_1) + x15_1)) x15_1)) = true := beq_iff_eq.mpr c67
                              have c67b1 : (t192 != (Int.tmod (wrap64 ((Int.tmod a2 x15_1) + x15_1)) x15_1)) = false := bne_eq_false_iff_eq.mpr c67
                              clear c67
                              by_cases c68 : t195 = true
                              · subst c68
                                have H1 : (none) = some r := by rw [if_pos rfl] at H; exact H
                                clear H
                                have H := H1
                                clear H1
                                exact absurd H (by simp)
                              · replace c68 := Bool.eq_false_iff.mpr c68
                                subst c68
                                have H1 : ((order_Valid.f k1 t188).bind fun t202 => (some t202)) = some r := by rw [if_neg (show ¬ (false = true) by decide)] at H; exact H
                                clear H
                                have H := H1
                                clear H1
                                replace H := Option.bind_eq_some_iff.mp H
                                obtain ⟨t202, A690, H⟩ := H
                                replace H : (some t202) = some r := H
                                have A69 := Aside0.mk A690
                                clear A690
                                obtain rfl := Option.some.inj H
                                go_wp2_with (first | ((with_reducible refine gate_callee (f := 12) rfl ?_); refine goesL_ (some 58) rfl rfl Try.func12 (by kernel_rfl) rfl #[.int .i64 t173, .int .i64 a2] rfl (by (try simp only [List.map_toArray, List.map_cons, List.map_nil]); first | done | rfl | (simp only [List.length_drop, List.length_take]; rfl)) ?_; (with_reducible refine (order_Unrank.calls t173 a2 t184 false _ A17.out).mono ?_); rintro e w70 ⟨v186, rfl, ho0, hb⟩; refine ⟨_, rfl, ?_⟩; have n0_ := Aside0.mk (Kd.R_lower ho0 (below_size (by repeat (first | (with_reducible first | exact HB.out | apply below_alloc | apply pw_below_drewN | apply below_drew1) | exact HB.out)))); have n1_ := Aside0.mk (below_step (by repeat (first | (with_reducible first | exact HB.out | apply below_alloc | apply pw_below_drewN | apply below_drew1) | exact HB.out)) hb); clear HB; have HO187 := n0_; have HB := n1_; clear n0_ n1_; (try clear hb); (try clear hb2); (try clear hk); (try clear hi); (try clear ho0)) | ((with_reducible refine gate_callee (f := 12) rfl ?_); refine goesL_ (some 70) rfl rfl Try.func12 (by kernel_rfl) rfl #[.int .i64 t173, .int .i64 (Int.tmod (wrap64 ((Int.tmod a2 x15_1) + x15_1)) x15_1)] rfl (by (try simp only [List.map_toArray, List.map_cons, List.map_nil]); first | done | rfl | (simp only [List.length_drop, List.length_take]; rfl)) ?_; (with_reducible refine (order_Unrank.calls t173 (Int.tmod (wrap64 ((Int.tmod a2 x15_1) + x15_1)) x15_1) t188 true _ A19.out).mono ?_); rintro e w71 ⟨v190, rfl, ho0, hb⟩; refine ⟨_, rfl, ?_⟩; have n0_ := Aside0.mk (Kd.R_elder' (by (with_reducible repeat (first | apply Kd.R_alloc | apply Kd.R_drewN | apply Kd.R_drew)); exact HO187.out) (Kd.R_base ho0) hb); have n1_ := Aside0.mk (Kd.R_lower (Kd.R_new' ho0 (Kd.R_lt (by (with_reducible repeat (first | apply Kd.R_alloc | apply Kd.R_drewN | apply Kd.R_drew)); exact HO187.out))) (below_size (by repeat (first | (with_reducible first | exact HB.out | apply below_alloc | apply pw_below_drewN | apply below_drew1) | exact HB.out)))); have n2_ := Aside0.mk (below_step (by repeat (first | (with_reducible first | exact HB.out | apply below_alloc | apply pw_below_drewN | apply below_drew1) | exact HB.out)) hb); clear HO187; clear HB; have HO187 := n0_; have HO191 := n1_; have HB := n2_; clear n0_ n1_ n2_; (try clear hb); (try clear hb2); (try clear hk); (try clear hi); (try clear ho0); obtain ⟨Ao72, co72, eo72⟩ := Kd.R_slice HO191.out; subst eo72) | ((with_reducible refine gate_callee (f := 11) rfl ?_); refine goesL_ (some 75) rfl rfl Try.func11 (by kernel_rfl) rfl #[.slice Ao72 t188.length co72] rfl (by (try simp only [List.map_toArray, List.map_cons, List.map_nil]); first | done | rfl | (simp only [List.length_drop, List.length_take]; rfl)) ?_; (with_reducible refine (order_Rank.calls k1 _ _ t188 t192 true _ ?side1 ?side2 A20.out).mono ?_); (case side1 => repeat (first | exact (Kd.R_reads' HO191.out).2.2 | (with_reducible refine Kd.C_alloc ?_ _) | (with_reducible refine Kd.C_drewN ?_ _) | (with_reducible refine Kd.C_drew ?_))); (case side2 => exact (Kd.R_reads' HO191.out).2.1); rintro e w73 ⟨rfl, hb⟩; refine ⟨_, rfl, ?_⟩; have n0_ := Aside0.mk (Kd.R_below (by (with_reducible repeat (first | apply Kd.R_alloc | apply Kd.R_drewN | apply Kd.R_drew)); exact HO187.out) hb); have n1_ := Aside0.mk (Kd.R_below (by (with_reducible repeat (first | apply Kd.R_alloc | apply Kd.R_drewN | apply Kd.R_drew)); exact HO191.out) hb); have n2_ := Aside0.mk (below_step (by repeat (first | (with_reducible first | exact HB.out | apply below_alloc | apply pw_below_drewN | apply below_drew1) | exact HB.out)) hb); clear HO187; clear HO191; clear HB; have HO187 := n0_; have HO191 := n1_; have HB := n2_; clear n0_ n1_ n2_; (try clear hb); (try clear hb2); (try clear hk); (try clear hi)) | ((with_reducible refine gate_callee (f := 12) rfl ?_); refine goesL_ (some 79) rfl rfl Try.func12 (by kernel_rfl) rfl #[.int .i64 21, .int .i64 0] rfl (by (try simp only [List.map_toArray, List.map_cons, List.map_nil]); first | done | rfl | (simp only [List.length_drop, List.length_take]; rfl)) ?_; (with_reducible refine (order_Unrank.calls 21 0 t194 false _ A21.out).mono ?_); rintro e w74 ⟨v196, rfl, ho0, hb⟩; refine ⟨_, rfl, ?_⟩; have n0_ := Aside0.mk (Kd.R_elder' (by (with_reducible repeat (first | apply Kd.R_alloc | apply Kd.R_drewN | apply Kd.R_drew)); exact HO187.out) (Kd.R_base ho0) hb); have n1_ := Aside0.mk (Kd.R_elder' (by (with_reducible repeat (first | apply Kd.R_alloc | apply Kd.R_drewN | apply Kd.R_drew)); exact HO191.out) (Kd.R_base ho0) hb); have n2_ := Aside0.mk (Kd.R_lower (Kd.R_new' (Kd.R_new' ho0 (Kd.R_lt (by (with_reducible repeat (first | apply Kd.R_alloc | apply Kd.R_drewN | apply Kd.R_drew)); exact HO187.out))) (Kd.R_lt (by (with_reducible repeat (first | apply Kd.R_alloc | apply Kd.R_drewN | apply Kd.R_drew)); exact HO191.out))) (below_size (by repeat (first | (with_reducible first | exact HB.out | apply below_alloc | apply pw_below_drewN | apply below_drew1) | exact HB.out)))); have n3_ := Aside0.mk (below_step (by repeat (first | (with_reducible first | exact HB.out | apply below_alloc | apply pw_below_drewN | apply below_drew1) | exact HB.out)) hb); clear HO187; clear HO191; clear HB; have HO187 := n0_; have HO191 := n1_; have HO197 := n2_; have HB := n3_; clear n0_ n1_ n2_ n3_; (try clear hb); (try clear hb2); (try clear hk); (try clear hi); (try clear ho0)) | (go_at_call 14; (with_reducible refine (order_Valid.calls k1 _ _ t188 t202 _ ?side1 ?side2 A69.out).mono ?_); (case side1 => repeat (first | exact (Kd.R_reads' HO191.out).2.2 | (with_reducible refine Kd.C_alloc ?_ _) | (with_reducible refine Kd.C_drewN ?_ _) | (with_reducible refine Kd.C_drew ?_))); (case side2 => exact (Kd.R_reads' HO191.out).2.1); rintro e w75 ⟨rfl, hb⟩; have n0_ := Aside0.mk (Kd.R_below (by (with_reducible repeat (first | apply Kd.R_alloc | apply Kd.R_drewN | apply Kd.R_drew)); exact HO187.out) hb); have n1_ := Aside0.mk (Kd.R_below (by (with_reducible repeat (first | apply Kd.R_alloc | apply Kd.R_drewN | apply Kd.R_drew)); exact HO191.out) hb); have n2_ := Aside0.mk (Kd.R_below (by (with_reducible repeat (first | apply Kd.R_alloc | apply Kd.R_drewN | apply Kd.R_drew)); exact HO197.out) hb); have n3_ := Aside0.mk (below_step (by repeat (first | (with_reducible first | exact HB.out | apply below_alloc | apply pw_below_drewN | apply below_drew1) | exact HB.out)) hb); clear HO187; clear HO191; clear HO197; clear HB; have HO187 := n0_; have HO191 := n1_; have HO197 := n2_; have HB := n3_; clear n0_ n1_ n2_ n3_; (try clear hb); (try clear hb2); (try clear hk); (try clear hi)))
                                go_ret
                                exact ⟨by first | rfl | (simp [errW_none, errW_some] <;> rfl) | (simp [*, errW_none, errW_some] <;> rfl), by repeat (first | (with_reducible first | exact HB.out | apply below_alloc | apply pw_below_drewN | apply below_drew1) | exact HB.out)⟩
                            · rw [if_neg c67] at H
                              exact absurd H (by simp)
                          · replace c66 := Bool.eq_false_iff.mpr c66
                            subst c66
                            have H1 : (none) = some r := by rw [if_neg (show ¬ (false = true) by decide)] at H; exact H
                            clear H
                            have H := H1
                            clear H1
                            exact absurd H (by simp)
                        · replace c65 := Bool.eq_false_iff.mpr c65
                          subst c65
                          have H1 : (none) = some r := by rw [if_neg (show ¬ (false = true) by decide)] at H; exact H
                          clear H
                          have H := H1
                          clear H1
                          exact absurd H (by simp)
                      · rw [if_neg c64] at H
                        exact absurd H (by simp)
                    · rw [if_neg c63] at H
                      have c63b0 : decide (0 ≤ a2) = false := decide_eq_false c63
                      clear c63
                      by_cases c76 : (false == false) = true
                      · rw [if_pos c76] at H
                        have c76b0 : (false == false) = true := c76
                        clear c76
                        by_cases c77 : t189 = true
                        · subst c77
                          have H1 : (if t193 = true then (if t192 = (Int.tmod (wrap64 ((Int.tmod a2 x15_1) + x15_1)) x15_1) then (if t195 = true then (none) else ((order_Valid.f k1 t188).bind fun t203 => (some t203))) else (none)) else (none)) = some r := by rw [if_pos rfl] at H; exact H
                          clear H
                          have H := H1
                          clear H1
                          by_cases c78 : t193 = true
                          · subst c78
                            have H1 : (if t192 = (Int.tmod (wrap64 ((Int.tmod a2 x15_1) + x15_1)) x15_1) then (if t195 = true then (none) else ((order_Valid.f k1 t188).bind fun t203 => (some t203))) else (none)) = some r := by rw [if_pos rfl] at H; exact H
                            clear H
                            have H := H1
                            clear H1
                            by_cases c79 : t192 = (Int.tmod (wrap64 ((Int.tmod a2 x15_1) + x15_1)) x15_1)
                            · rw [if_pos c79] at H
                              have c79b0 : (t192 == (Int.tmod (wrap64 ((Int.tmod a2 x15_1) + x15_1)) x15_1)) = true := beq_iff_eq.mpr c79
                              have c79b1 : (t192 != (Int.tmod (wrap64 ((Int.tmod a2 x15_1) + x15_1)) x15_1)) = false := bne_eq_false_iff_eq.mpr c79
                              clear c79
                              by_cases c80 : t195 = true
                              · subst c80
                                have H1 : (none) = some r := by rw [if_pos rfl] at H; exact H
                                clear H
                                have H := H1
                                clear H1
                                exact absurd H (by simp)
                              · replace c80 := Bool.eq_false_iff.mpr c80
                                subst c80
                                have H1 : ((order_Valid.f k1 t188).bind fun t203 => (some t203)) = some r := by rw [if_neg (show ¬ (false = true) by decide)] at H; exact H
                                clear H
                                have H := H1
                                clear H1
                                replace H := Option.bind_eq_some_iff.mp H
                                obtain ⟨t203, A810, H⟩ := H
                                replace H : (some t203) = some r := H
                                have A81 := Aside0.mk A810
                                clear A810
                                obtain rfl := Option.some.inj H
                                go_wp2_with (first | ((with_reducible refine gate_callee (f := 12) rfl ?_); refine goesL_ (some 58) rfl rfl Try.func12 (by kernel_rfl) rfl #[.int .i64 t173, .int .i64 a2] rfl (by (try simp only [List.map_toArray, List.map_cons, List.map_nil]); first | done | rfl | (simp only [List.length_drop, List.length_take]; rfl)) ?_; (with_reducible refine (order_Unrank.calls t173 a2 t184 false _ A17.out).mono ?_); rintro e w82 ⟨v186, rfl, ho0, hb⟩; refine ⟨_, rfl, ?_⟩; have n0_ := Aside0.mk (Kd.R_lower ho0 (below_size (by repeat (first | (with_reducible first | exact HB.out | apply below_alloc | apply pw_below_drewN | apply below_drew1) | exact HB.out)))); have n1_ := Aside0.mk (below_step (by repeat (first | (with_reducible first | exact HB.out | apply below_alloc | apply pw_below_drewN | apply below_drew1) | exact HB.out)) hb); clear HB; have HO187 := n0_; have HB := n1_; clear n0_ n1_; (try clear hb); (try clear hb2); (try clear hk); (try clear hi); (try clear ho0)) | ((with_reducible refine gate_callee (f := 12) rfl ?_); refine goesL_ (some 70) rfl rfl Try.func12 (by kernel_rfl) rfl #[.int .i64 t173, .int .i64 (Int.tmod (wrap64 ((Int.tmod a2 x15_1) + x15_1)) x15_1)] rfl (by (try simp only [List.map_toArray, List.map_cons, List.map_nil]); first | done | rfl | (simp only [List.length_drop, List.length_take]; rfl)) ?_; (with_reducible refine (order_Unrank.calls t173 (Int.tmod (wrap64 ((Int.tmod a2 x15_1) + x15_1)) x15_1) t188 true _ A19.out).mono ?_); rintro e w83 ⟨v190, rfl, ho0, hb⟩; refine ⟨_, rfl, ?_⟩; have n0_ := Aside0.mk (Kd.R_elder' (by (with_reducible repeat (first | apply Kd.R_alloc | apply Kd.R_drewN | apply Kd.R_drew)); exact HO187.out) (Kd.R_base ho0) hb); have n1_ := Aside0.mk (Kd.R_lower (Kd.R_new' ho0 (Kd.R_lt (by (with_reducible repeat (first | apply Kd.R_alloc | apply Kd.R_drewN | apply Kd.R_drew)); exact HO187.out))) (below_size (by repeat (first | (with_reducible first | exact HB.out | apply below_alloc | apply pw_below_drewN | apply below_drew1) | exact HB.out)))); have n2_ := Aside0.mk (below_step (by repeat (first | (with_reducible first | exact HB.out | apply below_alloc | apply pw_below_drewN | apply below_drew1) | exact HB.out)) hb); clear HO187; clear HB; have HO187 := n0_; have HO191 := n1_; have HB := n2_; clear n0_ n1_ n2_; (try clear hb); (try clear hb2); (try clear hk); (try clear hi); (try clear ho0); obtain ⟨Ao84, co84, eo84⟩ := Kd.R_slice HO191.out; subst eo84) | ((with_reducible refine gate_callee (f := 11) rfl ?_); refine goesL_ (some 75) rfl rfl Try.func11 (by kernel_rfl) rfl #[.slice Ao84 t188.length co84] rfl (by (try simp only [List.map_toArray, List.map_cons, List.map_nil]); first | done | rfl | (simp only [List.length_drop, List.length_take]; rfl)) ?_; (with_reducible refine (order_Rank.calls k1 _ _ t188 t192 true _ ?side1 ?side2 A20.out).mono ?_); (case side1 => repeat (first | exact (Kd.R_reads' HO191.out).2.2 | (with_reducible refine Kd.C_alloc ?_ _) | (with_reducible refine Kd.C_drewN ?_ _) | (with_reducible refine Kd.C_drew ?_))); (case side2 => exact (Kd.R_reads' HO191.out).2.1); rintro e w85 ⟨rfl, hb⟩; refine ⟨_, rfl, ?_⟩; have n0_ := Aside0.mk (Kd.R_below (by (with_reducible repeat (first | apply Kd.R_alloc | apply Kd.R_drewN | apply Kd.R_drew)); exact HO187.out) hb); have n1_ := Aside0.mk (Kd.R_below (by (with_reducible repeat (first | apply Kd.R_alloc | apply Kd.R_drewN | apply Kd.R_drew)); exact HO191.out) hb); have n2_ := Aside0.mk (below_step (by repeat (first | (with_reducible first | exact HB.out | apply below_alloc | apply pw_below_drewN | apply below_drew1) | exact HB.out)) hb); clear HO187; clear HO191; clear HB; have HO187 := n0_; have HO191 := n1_; have HB := n2_; clear n0_ n1_ n2_; (try clear hb); (try clear hb2); (try clear hk); (try clear hi)) | ((with_reducible refine gate_callee (f := 12) rfl ?_); refine goesL_ (some 79) rfl rfl Try.func12 (by kernel_rfl) rfl #[.int .i64 21, .int .i64 0] rfl (by (try simp only [List.map_toArray, List.map_cons, List.map_nil]); first | done | rfl | (simp only [List.length_drop, List.length_take]; rfl)) ?_; (with_reducible refine (order_Unrank.calls 21 0 t194 false _ A21.out).mono ?_); rintro e w86 ⟨v196, rfl, ho0, hb⟩; refine ⟨_, rfl, ?_⟩; have n0_ := Aside0.mk (Kd.R_elder' (by (with_reducible repeat (first | apply Kd.R_alloc | apply Kd.R_drewN | apply Kd.R_drew)); exact HO187.out) (Kd.R_base ho0) hb); have n1_ := Aside0.mk (Kd.R_elder' (by (with_reducible repeat (first | apply Kd.R_alloc | apply Kd.R_drewN | apply Kd.R_drew)); exact HO191.out) (Kd.R_base ho0) hb); have n2_ := Aside0.mk (Kd.R_lower (Kd.R_new' (Kd.R_new' ho0 (Kd.R_lt (by (with_reducible repeat (first | apply Kd.R_alloc | apply Kd.R_drewN | apply Kd.R_drew)); exact HO187.out))) (Kd.R_lt (by (with_reducible repeat (first | apply Kd.R_alloc | apply Kd.R_drewN | apply Kd.R_drew)); exact HO191.out))) (below_size (by repeat (first | (with_reducible first | exact HB.out | apply below_alloc | apply pw_below_drewN | apply below_drew1) | exact HB.out)))); have n3_ := Aside0.mk (below_step (by repeat (first | (with_reducible first | exact HB.out | apply below_alloc | apply pw_below_drewN | apply below_drew1) | exact HB.out)) hb); clear HO187; clear HO191; clear HB; have HO187 := n0_; have HO191 := n1_; have HO197 := n2_; have HB := n3_; clear n0_ n1_ n2_ n3_; (try clear hb); (try clear hb2); (try clear hk); (try clear hi); (try clear ho0)) | (go_at_call 14; (with_reducible refine (order_Valid.calls k1 _ _ t188 t203 _ ?side1 ?side2 A81.out).mono ?_); (case side1 => repeat (first | exact (Kd.R_reads' HO191.out).2.2 | (with_reducible refine Kd.C_alloc ?_ _) | (with_reducible refine Kd.C_drewN ?_ _) | (with_reducible refine Kd.C_drew ?_))); (case side2 => exact (Kd.R_reads' HO191.out).2.1); rintro e w87 ⟨rfl, hb⟩; have n0_ := Aside0.mk (Kd.R_below (by (with_reducible repeat (first | apply Kd.R_alloc | apply Kd.R_drewN | apply Kd.R_drew)); exact HO187.out) hb); have n1_ := Aside0.mk (Kd.R_below (by (with_reducible repeat (first | apply Kd.R_alloc | apply Kd.R_drewN | apply Kd.R_drew)); exact HO191.out) hb); have n2_ := Aside0.mk (Kd.R_below (by (with_reducible repeat (first | apply Kd.R_alloc | apply Kd.R_drewN | apply Kd.R_drew)); exact HO197.out) hb); have n3_ := Aside0.mk (below_step (by repeat (first | (with_reducible first | exact HB.out | apply below_alloc | apply pw_below_drewN | apply below_drew1) | exact HB.out)) hb); clear HO187; clear HO191; clear HO197; clear HB; have HO187 := n0_; have HO191 := n1_; have HO197 := n2_; have HB := n3_; clear n0_ n1_ n2_ n3_; (try clear hb); (try clear hb2); (try clear hk); (try clear hi)))
                                go_ret
                                exact ⟨by first | rfl | (simp [errW_none, errW_some] <;> rfl) | (simp [*, errW_none, errW_some] <;> rfl), by repeat (first | (with_reducible first | exact HB.out | apply below_alloc | apply pw_below_drewN | apply below_drew1) | exact HB.out)⟩
                            · rw [if_neg c79] at H
                              exact absurd H (by simp)
                          · replace c78 := Bool.eq_false_iff.mpr c78
                            subst c78
                            have H1 : (none) = some r := by rw [if_neg (show ¬ (false = true) by decide)] at H; exact H
                            clear H
                            have H := H1
                            clear H1
                            exact absurd H (by simp)
                        · replace c77 := Bool.eq_false_iff.mpr c77
                          subst c77
                          have H1 : (none) = some r := by rw [if_neg (show ¬ (false = true) by decide)] at H; exact H
                          clear H
                          have H := H1
                          clear H1
                          exact absurd H (by simp)
                      · rw [if_neg c76] at H
                        exact absurd H (by simp)
                  · replace c62 := Bool.eq_false_iff.mpr c62
                    subst c62
                    have H1 : (none) = some r := by rw [if_neg (show ¬ (false = true) by decide)] at H; exact H
                    clear H
                    have H := H1
                    clear H1
                    exact absurd H (by simp)
                · replace c61 := Bool.eq_false_iff.mpr c61
                  subst c61
                  have H1 : (none) = some r := by rw [if_neg (show ¬ (false = true) by decide)] at H; exact H
                  clear H
                  have H := H1
                  clear H1
                  exact absurd H (by simp)
              · replace c60 := Bool.eq_false_iff.mpr c60
                subst c60
                have H1 : (none) = some r := by rw [if_neg (show ¬ (false = true) by decide)] at H; exact H
                clear H
                have H := H1
                clear H1
                exact absurd H (by simp)
            · replace c59 := Bool.eq_false_iff.mpr c59
              subst c59
              have H1 : (none) = some r := by rw [if_neg (show ¬ (false = true) by decide)] at H; exact H
              clear H
              have H := H1
              clear H1
              exact absurd H (by simp)

/-- THE ONE PURE STATEMENT of cadencylaw18_OrderBack: yours. -/
def cadencylaw18_OrderBack.Pure : Prop := ∀ (l0 : List Int) (a1 : Int) (a2 : Int), l0.length ≤ maxLen → l0.length * 8 ≤ 140737488351232 → (∀ x ∈ l0, (Lit.int .i64 x).wf = true) → (Lit.int .i64 a1).wf = true → (Lit.int .i64 a2).wf = true → ∃ k, cadencylaw18_OrderBack.f k l0 a1 a2 = some true
theorem cadencylaw18_OrderBack.walk (P : cadencylaw18_OrderBack.Pure) (a0 : Option Addr) (len0 cap0 : Nat) (z0 : List Int) (a1 : Int) (a2 : Int) (w : World) (w0 : (a0 = none ∧ len0 = 0 ∧ cap0 = 0 ∧ z0 = []) ∨ ∃ x, a0 = some x ∧ len0 ≤ cap0 ∧ cap0 ≤ maxLen ∧ z0.length = cap0 ∧ (∀ i, i < z0.length → w.cell? (x.add i) = some (.int .i64 (z0.getD i 0))) ∧ ∀ n ∈ z0, (Lit.int .i64 n).wf = true) (y0 : len0 * 8 ≤ 140737488351232) (w1 : (Lit.int .i64 a1).wf = true) (w2 : (Lit.int .i64 a2).wf = true) :
    Calls Try.prog 3 #[.slice a0 len0 cap0, .int .i64 a1, .int .i64 a2] w fun e w' => e = .returned (.bool true) ∧ Below w.heap.size w w' := by
  obtain ⟨l0, rfl, hr0, hm0, hw0, hc0⟩ := ReadsInt.ofRowC w0
  obtain ⟨k, h⟩ := P l0 a1 a2 hm0 y0 hw0 w1 w2
  refine (cadencylaw18_OrderBack.calls k _ _ l0 a1 a2 true w (Kd.C_of_reads (d := (0 : Int)) (h1 := fun _ => rfl) hr0) hc0 h).mono ?_
  rintro e w' ⟨rfl, hd⟩
  exact ⟨rfl, hd⟩

end Go.Proofs.Ytkgajiddcljdjaa.PAll
