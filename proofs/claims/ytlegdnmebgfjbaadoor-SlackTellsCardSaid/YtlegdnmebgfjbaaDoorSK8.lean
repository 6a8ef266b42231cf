/- The reference's first token (package cadencyref03), and Word. -/
import Derived.Test.YtlegdnmebgfjbaaDoorSK7
set_option linter.all false
set_option maxRecDepth 2000
set_option maxHeartbeats 8000000
namespace Go.Proofs.Vl
open Go Go.RowKit
attribute [local irreducible] AWp OpTo Run DL Val UN DR AC Le thn inb nog
def goesR (c : Int) : Bool := letR c || digB c || c == 46 || c == 45
abbrev tokP (kd at_ : Int) (tx : ByteArray) (n : Int) : List PV := [.s (.int .i64 kd), .s (.int .i64 at_), .s (.string tx), .s (.int .i64 n)]
theorem longN_at (p : Int → Bool) (l : List Int) (j : Nat) (h : j < l.length) : longN p (l.drop j) = if p l[j] then longN p (l.drop (j + 1)) + 1 else 0 := by
  rw [List.drop_eq_getElem_cons h]; rfl
theorem one_ac (G) (s : ByteArray) (h0 : 0 < (bys s).length) (hs : s.size ≤ maxLen) : AC Tryd.prog G 57 [vs s, vi 0] []
    (fun r _ => ∃ kd n tx, r = .pag (tokP kd 0 tx n) ∧ (letR (bys s)[0] = true → kd = 1 ∧ bys tx = (bys s).take (1 + longN goesR ((bys s).drop 1))) ∧ (letR (bys s)[0] = false → kd ≠ 1)) := by
  refine AC.body' Tryd.func57 Tryd.ntmps57 rfl ?_
  intro cx hd hG
  refine nrmL (k := ?_)
  repeat refine w1 (k := ?_)
  have hbl := bys_len s
  have hm : s.size ≤ 9223372036854775807 := hs
  refine callN (hc := by exact letR_ac _ _) (h := ?_)
  repeat refine w1 (k := ?_)
  refine callN (hc := by exact digR_ac _ _) (h := ?_)
  repeat refine w1 (k := ?_)
  obtain ⟨E, hEE⟩ : ∃ E, E = 1 + longN goesR ((bys s).drop 1) := ⟨_, rfl⟩
  have hE1 : E ≤ (bys s).length := by have := longN_le goesR ((bys s).drop 1); rw [List.length_drop] at this; omega
  refine AWp.condB rfl rfl (fun hc => ?_) (fun hc => ?_)
  ·
    repeat refine w1 (k := ?_)
    refine cutIN [(24, 30)] (α := Unit) (fun u => [(6, vi E)]) (fun u => [(4, .pcells 85 (tokP 0 0 ⟨#[]⟩ 0)), (5, .pcells 85 (tokP 1 0 ⟨#[]⟩ 0))]) (fun u => True) ?_ (fun u hI => ?_)
    ·
      refine loopN [(24, 30)] (α := Nat) (fun j => [(6, vi j)]) (fun j => [(4, .pcells 85 (tokP 0 0 ⟨#[]⟩ 0)), (5, .pcells 85 (tokP 1 0 ⟨#[]⟩ 0))]) (fun j => E - j) (fun j => 1 ≤ j ∧ j + longN goesR ((bys s).drop j) = E) (x0 := 1) (h0 := by exact ⟨Nat.le_refl _, hEE.symm⟩) (hr := ?_)
      intro j hI
      refine nrmL (k := ?_)
      obtain ⟨hj1, hE⟩ := hI
      repeat refine w1 (k := ?_)
      first | refine bothTN (h1 := fun h => ?_) (h0 := fun h => ?_) | refine bothFN (h1 := fun h => ?_) (h0 := fun h => ?_)
      all_goals repeat refine w1 (k := ?_)
      ·
        have hj : j < (bys s).length := by omega
        have hd := longN_at goesR (bys s) j hj
        repeat refine w1 (k := ?_)
        refine callN (hc := by exact letR_ac _ _) (h := ?_)
        repeat refine w1 (k := ?_)
        first | refine bothTN (h1 := fun g1 => ?_) (h0 := fun g1 => ?_) | refine bothFN (h1 := fun g1 => ?_) (h0 := fun g1 => ?_)
        all_goals repeat refine w1 (k := ?_)
        ·
          refine callN (hc := by exact digR_ac _ _) (h := ?_)
          repeat refine w1 (k := ?_)
          first | refine bothTN (h1 := fun g2 => ?_) (h0 := fun g2 => ?_) | refine bothFN (h1 := fun g2 => ?_) (h0 := fun g2 => ?_)
          all_goals repeat refine w1 (k := ?_)
          ·
            first | refine bothTN (h1 := fun g3 => ?_) (h0 := fun g3 => ?_) | refine bothFN (h1 := fun g3 => ?_) (h0 := fun g3 => ?_)
            all_goals repeat refine w1 (k := ?_)
            ·
              repeat refine w1 (k := ?_)
              refine AWp.condB rfl rfl (fun g4 => ?_) (fun g4 => ?_)
              all_goals repeat refine w1 (k := ?_)
              ·
                all_goals have hg : goesR (bys s)[j] = true := by simp [goesR, *]
                all_goals rw [hd, hg, if_pos rfl] at hE
                all_goals refine ⟨j + 1, by omega, by omega, ?_⟩
                all_goals refine nrmL (k := ?_)
                all_goals exact frg
              · have hg : goesR (bys s)[j] = false := by simp_all [goesR]
                rw [hd, hg, if_neg (by decide)] at hE
                obtain rfl : j = E := by omega
                refine ⟨(), by first | rfl | omega | trivial | (refine ⟨?_, ?_⟩ <;> first | rfl | omega), frg⟩
            ·
              all_goals have hg : goesR (bys s)[j] = true := by simp [goesR, *]
              all_goals rw [hd, hg, if_pos rfl] at hE
              all_goals refine ⟨j + 1, by omega, by omega, ?_⟩
              all_goals refine nrmL (k := ?_)
              all_goals exact frg
          ·
            all_goals have hg : goesR (bys s)[j] = true := by simp [goesR, *]
            all_goals rw [hd, hg, if_pos rfl] at hE
            all_goals refine ⟨j + 1, by omega, by omega, ?_⟩
            all_goals refine nrmL (k := ?_)
            all_goals exact frg
        ·
          all_goals have hg : goesR (bys s)[j] = true := by simp [goesR, *]
          all_goals rw [hd, hg, if_pos rfl] at hE
          all_goals refine ⟨j + 1, by omega, by omega, ?_⟩
          all_goals refine nrmL (k := ?_)
          all_goals exact frg
      ·
        rw [List.drop_eq_nil_of_le (by omega)] at hE
        obtain rfl : j = E := by simpa [longN] using hE
        refine ⟨(), by first | rfl | omega | trivial | (refine ⟨?_, ?_⟩ <;> first | rfl | omega), frg⟩
    refine nrmL (k := ?_)
    repeat refine w1 (k := ?_)
    first | refine ofN (hv := by exact Val.cutS (l := 0) (h := E) rfl rfl rfl (Bnd.at (v := 0) (k := .i64) rfl rfl (by decide)) (Bnd.at (v := (E : Int)) (k := .i64) rfl rfl (by omega)) (by omega) (by omega)) (h := ?_) | refine dlN (hv := by exact Val.cutS (l := 0) (h := E) rfl rfl rfl (Bnd.at (v := 0) (k := .i64) rfl rfl (by decide)) (Bnd.at (v := (E : Int)) (k := .i64) rfl rfl (by omega)) (by omega) (by omega)) (h := ?_) | refine dlgN (hv := by exact Val.cutS (l := 0) (h := E) rfl rfl rfl (Bnd.at (v := 0) (k := .i64) rfl rfl (by decide)) (Bnd.at (v := (E : Int)) (k := .i64) rfl rfl (by omega)) (by omega) (by omega)) (h := ?_) | refine ofN (hv := by exact Val.cutS (l := 0) (h := E) rfl rfl rfl (Bnd.at (v := 0) (k := .i64) rfl rfl (by decide)) (Bnd.at (v := (E : Int)) (k := .i64) rfl rfl (by omega)) (by omega) (by omega)) (h := ?_)
    repeat refine w1 (k := ?_)
    refine ⟨[.pag _], .cons (.ldF rfl rfl rfl rfl) .nil, 1, 0, s.extract 0 E, rfl, fun _ => ⟨rfl, ?_⟩, fun h => by rw [hc] at h; cases h⟩
    rw [bys_extract, List.drop_zero, hEE]
  ·
    repeat refine w1 (k := ?_)
    refine AWp.condB rfl rfl (fun hc2 => ?_) (fun hc2 => ?_)
    ·
      repeat refine w1 (k := ?_)
      refine cutIN [(56, 12)] (α := Nat) (fun e => [(6, vi e)]) (fun e => [(4, .pcells 85 (tokP 0 0 ⟨#[]⟩ 0)), (5, .pcells 85 (tokP 2 0 ⟨#[]⟩ 0))]) (fun e => e ≤ (bys s).length) ?_ (fun e hI => ?_)
      ·
        refine loopN [(56, 12)] (α := Nat) (fun j => [(6, vi j)]) (fun j => [(4, .pcells 85 (tokP 0 0 ⟨#[]⟩ 0)), (5, .pcells 85 (tokP 2 0 ⟨#[]⟩ 0))]) (fun j => (bys s).length - j) (fun j => j ≤ (bys s).length) (x0 := 1) (h0 := by omega) (hr := ?_)
        intro j hI
        refine nrmL (k := ?_)
        repeat refine w1 (k := ?_)
        first | refine bothTN (h1 := fun h => ?_) (h0 := fun h => ?_) | refine bothFN (h1 := fun h => ?_) (h0 := fun h => ?_)
        all_goals repeat refine w1 (k := ?_)
        ·
          refine callN (hc := by exact digR_ac _ _) (h := ?_)
          repeat refine w1 (k := ?_)
          refine AWp.condB rfl rfl (fun g4 => ?_) (fun g4 => ?_)
          all_goals repeat refine w1 (k := ?_)
          ·
            refine ⟨j + 1, by omega, by first | omega | (refine ⟨?_, ?_⟩ <;> omega), frg⟩
          ·
            refine ⟨j, by first | rfl | omega | trivial | (refine ⟨?_, ?_⟩ <;> first | rfl | omega), frg⟩
        ·
          refine ⟨j, by first | rfl | omega | trivial | (refine ⟨?_, ?_⟩ <;> first | rfl | omega), frg⟩
      refine nrmL (k := ?_)
      repeat refine w1 (k := ?_)
      refine cutIN [(10, 1), (69, 16)] (α := Int) (fun n => []) (fun n => [(4, .pcells 85 (tokP 0 0 ⟨#[]⟩ 0)), (5, .pcells 85 (tokP 2 0 ⟨#[]⟩ n))]) (fun n => True) ?_ (fun n hI => ?_)
      ·
        refine loopN [(69, 16)] (α := Nat × Int) (fun x => [(10, vi x.1)]) (fun x => [(4, .pcells 85 (tokP 0 0 ⟨#[]⟩ 0)), (5, .pcells 85 (tokP 2 0 ⟨#[]⟩ x.2))]) (fun x => e - x.1) (fun x => x.1 ≤ e) (x0 := (0, 0)) (h0 := by exact Nat.zero_le _) (hr := ?_)
        intro x hI
        refine nrmL (k := ?_)
        obtain ⟨j, n⟩ := x
        dsimp only at hI ⊢
        repeat refine w1 (k := ?_)
        refine condN (h1 := fun h => ?_) (h0 := fun h => ?_)
        ·
          repeat refine w1 (k := ?_)
          refine ⟨(j + 1, if 1099511627776 < IntKind.i64.wrap (IntKind.i64.wrap (n * 10) + IntKind.i64.wrap (IntKind.u8.wrap ((bys s)[j] - 48))) then 1099511627776 else IntKind.i64.wrap (IntKind.i64.wrap (n * 10) + IntKind.i64.wrap (IntKind.u8.wrap ((bys s)[j] - 48)))), by dsimp only; omega, by dsimp only; omega, ?_⟩
          refine nrmL (k := ?_)
          exact frg
        ·
          repeat refine w1 (k := ?_)
          refine ⟨n, by first | rfl | omega | trivial | (refine ⟨?_, ?_⟩ <;> first | rfl | omega), frg⟩
      refine nrmL (k := ?_)
      repeat refine w1 (k := ?_)
      first | refine ofN (hv := by exact Val.cutS (l := 0) (h := e) rfl rfl rfl (Bnd.at (v := 0) (k := .i64) rfl rfl (by decide)) (Bnd.at (v := (e : Int)) (k := .i64) rfl rfl (by omega)) (by omega) (by omega)) (h := ?_) | refine dlN (hv := by exact Val.cutS (l := 0) (h := e) rfl rfl rfl (Bnd.at (v := 0) (k := .i64) rfl rfl (by decide)) (Bnd.at (v := (e : Int)) (k := .i64) rfl rfl (by omega)) (by omega) (by omega)) (h := ?_) | refine dlgN (hv := by exact Val.cutS (l := 0) (h := e) rfl rfl rfl (Bnd.at (v := 0) (k := .i64) rfl rfl (by decide)) (Bnd.at (v := (e : Int)) (k := .i64) rfl rfl (by omega)) (by omega) (by omega)) (h := ?_) | refine ofN (hv := by exact Val.cutS (l := 0) (h := e) rfl rfl rfl (Bnd.at (v := 0) (k := .i64) rfl rfl (by decide)) (Bnd.at (v := (e : Int)) (k := .i64) rfl rfl (by omega)) (by omega) (by omega)) (h := ?_)
      repeat refine w1 (k := ?_)
      refine ⟨[.pag _], .cons (.ldF rfl rfl rfl rfl) .nil, 2, n, s.extract 0 e, rfl, fun h => (by rw [hc] at h; cases h), fun _ => by decide⟩
    ·
      repeat refine w1 (k := ?_)
      refine AWp.condB rfl rfl (fun hc3 => ?_) (fun hc3 => ?_)
      ·
        repeat refine w1 (k := ?_)
        first | refine ofN (hv := by exact Val.cutS (l := 0) (h := 1) rfl rfl rfl (Bnd.at (v := 0) (k := .i64) rfl rfl (by decide)) (Bnd.at (v := (1 : Int)) (k := .i64) rfl rfl (by omega)) (by omega) (by omega)) (h := ?_) | refine dlN (hv := by exact Val.cutS (l := 0) (h := 1) rfl rfl rfl (Bnd.at (v := 0) (k := .i64) rfl rfl (by decide)) (Bnd.at (v := (1 : Int)) (k := .i64) rfl rfl (by omega)) (by omega) (by omega)) (h := ?_) | refine dlgN (hv := by exact Val.cutS (l := 0) (h := 1) rfl rfl rfl (Bnd.at (v := 0) (k := .i64) rfl rfl (by decide)) (Bnd.at (v := (1 : Int)) (k := .i64) rfl rfl (by omega)) (by omega) (by omega)) (h := ?_) | refine ofN (hv := by exact Val.cutS (l := 0) (h := 1) rfl rfl rfl (Bnd.at (v := 0) (k := .i64) rfl rfl (by decide)) (Bnd.at (v := (1 : Int)) (k := .i64) rfl rfl (by omega)) (by omega) (by omega)) (h := ?_)
        repeat refine w1 (k := ?_)
        refine ⟨[.pag _], .cons (.ldF rfl rfl rfl rfl) .nil, 3, 0, s.extract 0 1, rfl, fun h => (by rw [hc] at h; cases h), fun _ => by decide⟩
      ·
        repeat refine w1 (k := ?_)
        refine AWp.condB rfl rfl (fun hc4 => ?_) (fun hc4 => ?_)
        ·
          repeat refine w1 (k := ?_)
          first | refine ofN (hv := by exact Val.cutS (l := 0) (h := 1) rfl rfl rfl (Bnd.at (v := 0) (k := .i64) rfl rfl (by decide)) (Bnd.at (v := (1 : Int)) (k := .i64) rfl rfl (by omega)) (by omega) (by omega)) (h := ?_) | refine dlN (hv := by exact Val.cutS (l := 0) (h := 1) rfl rfl rfl (Bnd.at (v := 0) (k := .i64) rfl rfl (by decide)) (Bnd.at (v := (1 : Int)) (k := .i64) rfl rfl (by omega)) (by omega) (by omega)) (h := ?_) | refine dlgN (hv := by exact Val.cutS (l := 0) (h := 1) rfl rfl rfl (Bnd.at (v := 0) (k := .i64) rfl rfl (by decide)) (Bnd.at (v := (1 : Int)) (k := .i64) rfl rfl (by omega)) (by omega) (by omega)) (h := ?_) | refine ofN (hv := by exact Val.cutS (l := 0) (h := 1) rfl rfl rfl (Bnd.at (v := 0) (k := .i64) rfl rfl (by decide)) (Bnd.at (v := (1 : Int)) (k := .i64) rfl rfl (by omega)) (by omega) (by omega)) (h := ?_)
          repeat refine w1 (k := ?_)
          refine ⟨[.pag _], .cons (.ldF rfl rfl rfl rfl) .nil, 4, 0, s.extract 0 1, rfl, fun h => (by rw [hc] at h; cases h), fun _ => by decide⟩
        ·
          repeat refine w1 (k := ?_)
          refine ⟨[.pag _], .cons (.ldF rfl rfl rfl rfl) .nil, 0, 0, ⟨#[]⟩, rfl, fun h => (by rw [hc] at h; cases h), fun _ => by decide⟩
theorem let_same : ∀ n : Fin 256, letB (n.val : Int) = letR (n.val : Int) := by decide +kernel
theorem goes_same : ∀ n : Fin 256, goesB (n.val : Int) = goesR (n.val : Int) := by decide +kernel
theorem letB_R {c : Int} (h : 0 ≤ c ∧ c < 256) : letB c = letR c := by
  have := let_same ⟨c.toNat, by omega⟩
  rwa [show ((c.toNat : Nat) : Int) = c by omega] at this
theorem goesB_R {c : Int} (h : 0 ≤ c ∧ c < 256) : goesB c = goesR c := by
  have := goes_same ⟨c.toNat, by omega⟩
  rwa [show ((c.toNat : Nat) : Int) = c by omega] at this
theorem longN_same : ∀ (l : List Int), (∀ c ∈ l, 0 ≤ c ∧ c < 256) → longN goesB l = longN goesR l
  | [], _ => rfl
  | c :: r, h => by
    unfold longN
    rw [goesB_R (h c List.mem_cons_self), longN_same r fun x hx => h x (List.mem_cons_of_mem _ hx)]
theorem wordB_at : ∀ (l : List Int) (h : 0 < l.length), wordB l = (letB l[0] && longN goesB l == l.length)
  | [], h => by simp at h
  | c :: r, h => rfl
theorem wordR_ac (G) (s : ByteArray) (hs : s.size ≤ maxLen) : AC Tryd.prog G 49 [vs s] [] (fun r _ => r = vb (wordB (bys s))) := by
  refine AC.body' Tryd.func49 Tryd.ntmps49 rfl ?_
  intro cx hd hG
  refine nrmL (k := ?_)
  repeat refine w1 (k := ?_)
  rw [nilS]
  refine condN (h1 := fun h => ?_) (h0 := fun h => ?_)
  · repeat refine w1 (k := ?_)
    refine ⟨[.c _], .cons (.tmp rfl) .nil, ?_⟩
    have h0 : bys s = [] := List.eq_nil_of_length_eq_zero (by rw [bys_len]; exact h)
    rw [h0]; rfl
  · have h0 : 0 < (bys s).length := by rw [bys_len]; omega
    repeat refine w1 (k := ?_)
    refine OpTo.callO (by rfl) (by rfl) (by rfl) (by rfl) (one_ac _ s h0 hs) ?_
    rintro r os' ⟨kd, n, tx, rfl, h1, h2⟩
    refine ⟨_, .val rfl, ?_⟩
    refine nrm (k := ?_)
    repeat refine w1 (k := ?_)
    have e := at_nat (bys s) 0 h0
    rw [List.drop_zero] at e
    have hr := bys_rng s
    have hl : letB (bys s)[0] = letR (bys s)[0] := letB_R (hr _ (List.getElem_mem h0))
    have hg : longN goesB ((bys s).drop 1) = longN goesR ((bys s).drop 1) := longN_same _ fun c hc => hr c (List.mem_of_mem_drop hc)
    first | refine bothTN (h1 := fun g => ?_) (h0 := fun g => ?_) | refine bothFN (h1 := fun g => ?_) (h0 := fun g => ?_)
    all_goals repeat refine w1 (k := ?_)
    · refine ⟨[.c _], .cons (.tmp rfl) .nil, ?_⟩
      cases hc : letR (bys s)[0] with
      | false => exact absurd g (h2 hc)
      | true =>
        obtain ⟨_, h3⟩ := h1 hc
        simp only [tupOf, TV.av]
        congr 4
        rw [str_beq, h3]
        have hle := longN_le goesR ((bys s).drop 1)
        rw [List.length_drop] at hle
        have hgo : goesB (bys s)[0] = true := by rw [goesB, hl, hc]; simp
        have hl0 := longN_at goesB (bys s) 0 h0
        rw [List.drop_zero] at hl0
        rw [wordB_at _ h0, hl, hc, Bool.true_and, hl0, if_pos hgo, hg, Bool.eq_iff_iff, beq_iff_eq, beq_iff_eq]
        constructor
        · intro h4
          have := congrArg List.length h4
          rw [List.length_take] at this
          omega
        · intro h4
          rw [List.take_of_length_le (by omega)]
    · refine ⟨[.c _], .cons (.tmp rfl) .nil, ?_⟩
      cases hc : letR (bys s)[0] with
      | true => exact absurd (h1 hc).1 g
      | false =>
        simp only [tupOf, TV.av]
        congr 4
        rw [wordB_at _ h0, hl, hc]; rfl
end Go.Proofs.Vl
