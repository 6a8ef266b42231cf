/- What is needed; the references'. -/
import Derived.Test.YtlegdnmebgfjbaaDoorSD10
set_option linter.all false
set_option maxRecDepth 2000
set_option maxHeartbeats 8000000
namespace Go.Proofs.Vl
open Go Go.RowKit
attribute [local irreducible] AWp OpTo Run DL Val UN DR AC Le thn inb nog
attribute [local irreducible] els nxO
def cAt (l : List Tk) (i : Int) : Nat := match l[i.toNat]? with
  | some t => t.c.toNat
  | none => 0
theorem cAt_nat (l : List Tk) (i : Nat) (h : i < l.length) : cAt l (i : Int) = l[i].c.toNat := by
  unfold cAt; rw [Int.toNat_natCast, List.getElem?_eq_getElem h]
def needA (l : List Tk) (i : Int) (w : Nat) : Nat := if isB l i then sumS (cAt l i) [(blkA l i).toNat, hghA l i w] else 0
theorem blkI_b {l : List Tk} (hf : ∀ t ∈ l, Fine t) (p : Int) : 0 ≤ blkI l p ∧ blkI l p ≤ 2147483647 := by
  unfold blkI
  suffices ∀ (m : List Tk) a, (∀ t ∈ m, Fine t) → 0 ≤ a ∧ a ≤ 2147483647 → 0 ≤ m.foldl (fun a t => if decide (t.p > p) then mxI a (t.q - 1) else a) a ∧ m.foldl (fun a t => if decide (t.p > p) then mxI a (t.q - 1) else a) a ≤ 2147483647 from this l 0 hf ⟨by decide, by decide⟩
  intro m
  induction m with
  | nil => exact fun a _ h => h
  | cons t m ih =>
    intro a hm ha
    rw [List.foldl_cons]
    refine ih _ (fun u hu => hm u (List.mem_cons_of_mem _ hu)) ?_
    have hq := (hm t List.mem_cons_self).hq
    unfold mxI
    split
    · split <;> omega
    · exact ha
theorem blkA_b (l : List Tk) (i : Int) : 0 ≤ blkA l i ∧ blkA l i ≤ 2147483647 := by
  unfold blkA
  split
  · rename_i h; exact blkI_b (is_spec h).2.1 _
  · exact ⟨by decide, by decide⟩
theorem hghI_lt (l : List Tk) (p : Int) (w : Nat) : hghI l p w < 18446744073709551616 := by
  unfold hghI
  suffices ∀ (m : List Tk) a, a < 18446744073709551616 → m.foldl (fun a t => if decide (t.p < p) then stepH w a t else a) a < 18446744073709551616 from this l 0 (by decide)
  intro m
  induction m with
  | nil => exact fun a h => h
  | cons t m ih =>
    intro a ha
    rw [List.foldl_cons]
    refine ih _ ?_
    split
    · exact satN_lt _
    · exact ha
theorem hghA_lt (l : List Tk) (i : Int) (w : Nat) : hghA l i w < 18446744073709551616 := by
  unfold hghA
  split
  · decide
  · split
    · exact hghI_lt ..
    · decide
theorem need_ac (l : List Tk) (i : Int) (w : Nat) (hw : w < 18446744073709551616) (hl : ∀ t ∈ l, t.nm.size ≤ maxLen) (hn : l.length ≤ maxLen) : AC Tryd.prog GL 56 [fro tkP l, vi i, vn w] [] (fun r _ => r = vn (needA l i w)) := by
  refine AC.body' Tryd.func56 Tryd.ntmps56 rfl ?_
  intro cx hd hG
  refine nrmL (k := ?_)
  repeat refine w1 (k := ?_)
  obtain ⟨w0, fz0, β0, df, G0⟩ := cx
  obtain rfl : G0 = GL := hG
  refine callN (hc := by exact is_ac _ l i hl hn) (h := ?_)
  repeat refine w1 (k := ?_)
  cases hb : isB l i with
  | false =>
    rw [Bool.not_false]
    repeat refine w1 (k := ?_)
    refine ⟨[.c _], .cons (.tmp rfl) .nil, ?_⟩
    unfold needA; rw [hb]; rfl
  | true =>
    rw [Bool.not_true]
    obtain ⟨f1, f2, k, rfl, f3⟩ := is_spec hb
    obtain ⟨hc, _, _, _, _, _⟩ := f2 _ (List.getElem_mem f3)
    have hB := blkA_b l (k : Int)
    have hH := hghA_lt l (k : Int) w
    have he : needA l (k : Int) w = sumS l[k].c.toNat [(blkA l (k : Int)).toNat, hghA l (k : Int) w] := by unfold needA; rw [if_pos hb, cAt_nat l k f3]
    obtain ⟨b, eb⟩ := Int.eq_ofNat_of_zero_le hB.1
    obtain ⟨c, ec⟩ := Int.eq_ofNat_of_zero_le (show 0 ≤ l[k].c by omega)
    rw [eb, ec, Int.toNat_natCast, Int.toNat_natCast] at he
    have hblk := block_ac l (k : Int) hl hn
    rw [eb] at hblk
    rw [he]
    repeat refine w1 (k := ?_)
    rw [ec]
    refine callN (hc := by exact hblk) (h := ?_)
    repeat refine w1 (k := ?_)
    refine callN (hc := by exact higherD_ac l (k : Int) w hw hl hn) (h := ?_)
    repeat refine w1 (k := ?_)
    refine litA pvW [b, hghA l (k : Int) w] (h := ?_)
    repeat refine w1 (k := ?_)
    refine callN (hc := by exact nsum_ac _ c [b, hghA l (k : Int) w] (by omega) (by intro y hy; rcases List.mem_cons.1 hy with rfl | hy; omega; obtain rfl := List.mem_singleton.1 hy; exact hH) (by simp [maxLen])) (h := ?_)
    repeat refine w1 (k := ?_)
    exact ⟨[.c _], .cons (.tmp rfl) .nil, rfl⟩
theorem rblock_ac (G) (l : List Tk) (i : Int) (hl : ∀ t ∈ l, t.nm.size ≤ maxLen) (hn : l.length ≤ maxLen) : AC Tryd.prog G 59 [fro tkP l, vi i] [] (fun r _ => r = vi (blkA l i)) := by
  refine AC.body' Tryd.func59 Tryd.ntmps59 rfl ?_
  intro cx hd hG
  refine nrmL (k := ?_)
  repeat refine w1 (k := ?_)
  have hm : l.length ≤ 9223372036854775807 := hn
  refine callN (hc := by exact ris_ac _ l i hl hn) (h := ?_)
  repeat refine w1 (k := ?_)
  cases hb : isB l i with
  | false =>
    refine loopN [(11, 28)] (α := Unit) (fun u => [(6, vi 0), (7, vi 0)]) (fun u => []) (fun u => 0) (fun u => True) (x0 := ()) (h0 := by first | omega | simp | (refine ⟨?_, ?_⟩ <;> first | omega | simp)) (hr := ?_)
    intro u hI
    refine nrmL (k := ?_)
    repeat refine w1 (k := ?_)
    first | refine bothTN (h1 := fun h => ?_) (h0 := fun h => ?_) | refine bothFN (h1 := fun h => ?_) (h0 := fun h => ?_)
    all_goals repeat refine w1 (k := ?_)
    · repeat refine w1 (k := ?_)
      refine ⟨[.c _], .cons (.tmp rfl) .nil, ?_⟩
      unfold blkA; rw [hb]; rfl
    · repeat refine w1 (k := ?_)
      refine ⟨[.c _], .cons (.tmp rfl) .nil, ?_⟩
      unfold blkA; rw [hb]; rfl
  | true =>
    obtain ⟨f1, f2, k, rfl, f3⟩ := is_spec hb
    have he : blkA l (k : Int) = blkI l l[k].p := by unfold blkA; rw [if_pos hb, pAt_nat l k f3]
    rw [he]
    refine loopN [(11, 28)] (α := Nat) (fun j => [(6, vi (blkI (l.take j) l[k].p)), (7, vi (j : Int))]) (fun j => []) (fun j => l.length - j) (fun j => j ≤ l.length) (x0 := 0) (h0 := by first | omega | simp | (refine ⟨?_, ?_⟩ <;> first | omega | simp)) (hr := ?_)
    intro j hI
    refine nrmL (k := ?_)
    have hbb := blkI_b (l := l.take j) (fun t ht => f2 t (List.mem_of_mem_take ht)) l[k].p
    repeat refine w1 (k := ?_)
    first | refine bothTN (h1 := fun h => ?_) (h0 := fun h => ?_) | refine bothFN (h1 := fun h => ?_) (h0 := fun h => ?_)
    all_goals repeat refine w1 (k := ?_)
    ·
      have hj : j < l.length := by omega
      have hq := (f2 _ (List.getElem_mem hj)).hq
      have e : blkI (l.take (j + 1)) l[k].p = if decide (l[j].p > l[k].p) then mxI (blkI (l.take j) l[k].p) (l[j].q - 1) else blkI (l.take j) l[k].p := by
        unfold blkI; rw [List.take_succ_eq_append_getElem hj, List.foldl_append]; rfl
      repeat refine w1 (k := ?_)
      refine condN (h1 := fun h2 => ?_) (h0 := fun h2 => ?_)
      ·
        rw [if_pos (by simpa using h2)] at e
        repeat refine w1 (k := ?_)
        have e2 : (if l[j].q - 1 > blkI (l.take j) l[k].p then l[j].q - 1 else blkI (l.take j) l[k].p) = blkI (l.take (j + 1)) l[k].p := e.symm
        rw [e2]
        refine ⟨j + 1, by omega, by first | omega | (refine ⟨?_, ?_⟩ <;> omega), frg⟩
      ·
        rw [if_neg (by simpa using h2)] at e
        repeat refine w1 (k := ?_)
        rw [← e]
        refine ⟨j + 1, by omega, by first | omega | (refine ⟨?_, ?_⟩ <;> omega), frg⟩
    ·
      repeat refine w1 (k := ?_)
      refine ⟨[.c _], .cons (.tmp rfl) .nil, ?_⟩
      rw [List.take_of_length_le (by omega)]; rfl

theorem hgh_step (l : List Tk) (p : Int) (w j : Nat) (hj : j < l.length) : hghI (l.take (j + 1)) p w = if decide (l[j].p < p) then stepH w (hghI (l.take j) p w) l[j] else hghI (l.take j) p w := by
  unfold hghI; rw [List.take_succ_eq_append_getElem hj, List.foldl_append]; rfl
theorem rhigher_ac (G) (l : List Tk) (i : Int) (w : Nat) (hw : w < 18446744073709551616) (hl : ∀ t ∈ l, t.nm.size ≤ maxLen) (hn : l.length ≤ maxLen) : AC Tryd.prog G 60 [fro tkP l, vi i, vn w] [] (fun r _ => r = vn (hghA l i w)) := by
  refine AC.body' Tryd.func60 Tryd.ntmps60 rfl ?_
  intro cx hd hG
  refine nrmL (k := ?_)
  repeat refine w1 (k := ?_)
  have hm : l.length ≤ 9223372036854775807 := hn
  refine callN (hc := by exact ris_ac _ l i hl hn) (h := ?_)
  repeat refine w1 (k := ?_)
  by_cases hz : w = 0 ∨ isB l i = false
  ·
    have he : hghA l i w = 0 := by
      unfold hghA
      rcases hz with h | h
      · rw [if_pos h]
      · rw [h]; simp
    rw [he]
    refine loopN [(10, 2), (15, 54)] (α := Unit) (fun u => [(8, vu 0), (9, vi 0)]) (fun u => []) (fun u => 0) (fun u => True) (x0 := ()) (h0 := by first | omega | simp | (refine ⟨?_, ?_⟩ <;> first | omega | simp)) (hr := ?_)
    intro u hI
    refine nrmL (k := ?_)
    repeat refine w1 (k := ?_)
    first | refine bothTN (h1 := fun h => ?_) (h0 := fun h => ?_) | refine bothFN (h1 := fun h => ?_) (h0 := fun h => ?_)
    all_goals repeat refine w1 (k := ?_)
    ·
      cases hb : isB l i with
      | false =>
        repeat refine w1 (k := ?_)
        exact ⟨[.c _], .cons (.tmp rfl) .nil, rfl⟩
      | true =>
        have hw0 : w = 0 := hz.resolve_right (by rw [hb]; simp)
        subst hw0
        repeat refine w1 (k := ?_)
        exact ⟨[.c _], .cons (.tmp rfl) .nil, rfl⟩
    ·
      repeat refine w1 (k := ?_)
      exact ⟨[.c _], .cons (.tmp rfl) .nil, rfl⟩
  ·
    have hw0 : w ≠ 0 := fun h => hz (.inl h)
    have hb : isB l i = true := by
      cases h : isB l i with
      | true => rfl
      | false => exact absurd (.inr h) hz
    obtain ⟨f1, f2, k, rfl, f3⟩ := is_spec hb
    have he : hghA l (k : Int) w = hghI l l[k].p w := by unfold hghA; rw [if_neg hw0, if_pos hb, pAt_nat l k f3]
    rw [he, hb]
    refine loopN [(10, 2), (15, 54)] (α := Nat) (fun j => [(8, vn (hghI (l.take j) l[k].p w)), (9, vi (j : Int))]) (fun j => []) (fun j => l.length - j) (fun j => j ≤ l.length) (x0 := 0) (h0 := by first | omega | simp | (refine ⟨?_, ?_⟩ <;> first | omega | simp)) (hr := ?_)
    intro j hI
    refine nrmL (k := ?_)
    have hlt := hghI_lt (l.take j) l[k].p w
    repeat refine w1 (k := ?_)
    first | refine bothTN (h1 := fun h => ?_) (h0 := fun h => ?_) | refine bothFN (h1 := fun h => ?_) (h0 := fun h => ?_)
    all_goals repeat refine w1 (k := ?_)
    ·
      have hj : j < l.length := by omega
      obtain ⟨hc, ht, _, hjj, _, _⟩ := f2 _ (List.getElem_mem hj)
      have e := hgh_step l l[k].p w j hj
      repeat refine w1 (k := ?_)
      refine condN (h1 := fun h2 => ?_) (h0 := fun h2 => ?_)
      ·
        rw [if_pos (by simpa using h2)] at e
        obtain ⟨jN, ej⟩ := Int.eq_ofNat_of_zero_le hjj.1
        obtain ⟨tN, et⟩ := Int.eq_ofNat_of_zero_le (show 0 ≤ l[j].t by omega)
        obtain ⟨cN, ec⟩ := Int.eq_ofNat_of_zero_le (show 0 ≤ l[j].c by omega)
        unfold stepH oftN at e
        rw [ej, et, ec, Int.toNat_natCast, Int.toNat_natCast, Int.toNat_natCast] at e
        repeat refine w1 (k := ?_)
        rw [ej]
        refine callN (hc := by exact radd_ac _ w jN hw (by omega)) (h := ?_)
        repeat refine w1 (k := ?_)
        refine callN (hc := by exact end_ac _ _ _) (h := ?_)
        repeat refine w1 (k := ?_)
        rw [end_add, et]
        refine callN (hc := by exact rceil_ac _ (satN (w + jN)) tN (satN_lt _) (by omega) (by omega)) (h := ?_)
        repeat refine w1 (k := ?_)
        first | refine ofN (hv := by exact Val.fldV rfl rfl rfl rfl rfl) (h := ?_) | refine dlN (hv := by exact Val.fldV rfl rfl rfl rfl rfl) (h := ?_) | refine dlgN (hv := by exact Val.fldV rfl rfl rfl rfl rfl) (h := ?_) | refine ofN (hv := by exact Val.fldV rfl rfl rfl rfl rfl) (h := ?_)
        repeat refine w1 (k := ?_)
        rw [ec]
        refine callN (hc := by exact rmul_ac _ (ceilN (satN (w + jN)) tN) cN (ceilN_lt (satN_lt _) (by omega)) (by omega)) (h := ?_)
        repeat refine w1 (k := ?_)
        refine callN (hc := by exact end_ac _ _ _) (h := ?_)
        repeat refine w1 (k := ?_)
        rw [end_mul]
        refine callN (hc := by exact radd_ac _ _ _ hlt (satN_lt _)) (h := ?_)
        repeat refine w1 (k := ?_)
        refine callN (hc := by exact end_ac _ _ _) (h := ?_)
        repeat refine w1 (k := ?_)
        rw [end_add, ← e]
        refine ⟨j + 1, by omega, by first | omega | (refine ⟨?_, ?_⟩ <;> omega), frg⟩
      ·
        rw [if_neg (by simpa using h2)] at e
        repeat refine w1 (k := ?_)
        rw [← e]
        refine ⟨j + 1, by omega, by first | omega | (refine ⟨?_, ?_⟩ <;> omega), frg⟩
    ·
      repeat refine w1 (k := ?_)
      refine ⟨[.c _], .cons (.tmp rfl) .nil, ?_⟩
      rw [List.take_of_length_le (by omega)]; rfl
theorem rneed_ac (G) (l : List Tk) (i : Int) (w : Nat) (hw : w < 18446744073709551616) (hl : ∀ t ∈ l, t.nm.size ≤ maxLen) (hn : l.length ≤ maxLen) : AC Tryd.prog G 51 [fro tkP l, vi i, vn w] [] (fun r _ => r = vn (needA l i w)) := by
  refine AC.body' Tryd.func51 Tryd.ntmps51 rfl ?_
  intro cx hd hG
  refine nrmL (k := ?_)
  repeat refine w1 (k := ?_)
  refine callN (hc := by exact ris_ac _ l i hl hn) (h := ?_)
  repeat refine w1 (k := ?_)
  cases hb : isB l i with
  | false =>
    rw [Bool.not_false]
    repeat refine w1 (k := ?_)
    refine ⟨[.c _], .cons (.tmp rfl) .nil, ?_⟩
    unfold needA; rw [hb]; rfl
  | true =>
    rw [Bool.not_true]
    obtain ⟨f1, f2, k, rfl, f3⟩ := is_spec hb
    obtain ⟨hc, _, _, _, _, _⟩ := f2 _ (List.getElem_mem f3)
    have hB := blkA_b l (k : Int)
    have hH := hghA_lt l (k : Int) w
    have he : needA l (k : Int) w = sumS l[k].c.toNat [(blkA l (k : Int)).toNat, hghA l (k : Int) w] := by unfold needA; rw [if_pos hb, cAt_nat l k f3]
    obtain ⟨b, eb⟩ := Int.eq_ofNat_of_zero_le hB.1
    obtain ⟨c, ec⟩ := Int.eq_ofNat_of_zero_le (show 0 ≤ l[k].c by omega)
    rw [eb, ec, Int.toNat_natCast, Int.toNat_natCast] at he
    have hblk := rblock_ac G l (k : Int) hl hn
    rw [eb] at hblk
    have he2 : needA l (k : Int) w = sumS 0 [c, b, hghA l (k : Int) w] := by
      rw [he]
      show sumS c [b, hghA l (k : Int) w] = sumS (satN (0 + c)) [b, hghA l (k : Int) w]
      rw [show satN (0 + c) = c by unfold satN; omega]
    obtain ⟨w0, fz0, β0, df, G0⟩ := cx
    obtain rfl : G0 = G := hG
    rw [he2]
    repeat refine w1 (k := ?_)
    rw [ec]
    refine callN (hc := by exact hblk) (h := ?_)
    repeat refine w1 (k := ?_)
    refine callN (hc := by exact rhigher_ac _ l (k : Int) w hw hl hn) (h := ?_)
    repeat refine w1 (k := ?_)
    refine litA pvW [c, b, hghA l (k : Int) w] (h := ?_)
    repeat refine w1 (k := ?_)
    refine callN (hc := by exact rsum_ac _ [c, b, hghA l (k : Int) w] (by intro y hy; rcases List.mem_cons.1 hy with rfl | hy; omega; rcases List.mem_cons.1 hy with rfl | hy; omega; obtain rfl := List.mem_singleton.1 hy; exact hH) (by simp [maxLen])) (h := ?_)
    repeat refine w1 (k := ?_)
    exact ⟨[.c _], .cons (.tmp rfl) .nil, rfl⟩
