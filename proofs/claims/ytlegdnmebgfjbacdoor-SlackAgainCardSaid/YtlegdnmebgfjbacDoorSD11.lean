/- What is needed; the references'. -/
import Derived.Test.YtlegdnmebgfjbacDoorSD10
set_option linter.all false
set_option maxRecDepth 2000
set_option maxHeartbeats 8000000
namespace Go.Proofs.Vl
open Go Go.RowKit
attribute [local irreducible] AWp OpTo Run DL Val UN DR AC Le thn inb nog
attribute [local irreducible] els nxO
def cAt (l : List Tk) (i : Int) : Nat := match l[i.toNat]? with
  | some t => t.c.toNat
  | none => 0
theorem cAt_nat (l : List Tk) (i : Nat) (h : i < l.length) : cAt l (i : Int) = l[i].c.toNat := by
  unfold cAt; rw [Int.toNat_natCast, List.getElem?_eq_getElem h]
def needA (l : List Tk) (i : Int) (w : Nat) : Nat := if isB l i then sumS (cAt l i) [(blkA l i).toNat, hghA l i w] else 0
theorem blkI_b {l : List Tk} (hf : ∀ t ∈ l, Fine t) (p : Int) : 0 ≤ blkI l p ∧ blkI l p ≤ 2147483647 := by
  unfold blkI
  suffices ∀ (m : List Tk) a, (∀ t ∈ m, Fine t) → 0 ≤ a ∧ a ≤ 2147483647 → 0 ≤ m.foldl (fun a t => if decide (t.p > p) then mxI a (t.q - 1) else a) a ∧ m.foldl (fun a t => if decide (t.p > p) then mxI a (t.q - 1) else a) a ≤ 2147483647 from this l 0 hf ⟨by decide, by decide⟩
  intro m
  induction m with
  | nil => exact fun a _ h => h
  | cons t m ih =>
    intro a hm ha
    rw [List.foldl_cons]
    refine ih _ (fun u hu => hm u (List.mem_cons_of_mem _ hu)) ?_
    have hq := (hm t List.mem_cons_self).hq
    unfold mxI
    split
    · split <;> omega
    · exact ha
theorem blkA_b (l : List Tk) (i : Int) : 0 ≤ blkA l i ∧ blkA l i ≤ 2147483647 := by
  unfold blkA
  split
  · rename_i h; exact blkI_b (is_spec h).2.1 _
  · exact ⟨by decide, by decide⟩
theorem hghI_lt (l : List Tk) (p : Int) (w : Nat) : hghI l p w < 18446744073709551616 := by
  unfold hghI
  suffices ∀ (m : List Tk) a, a < 18446744073709551616 → m.foldl (fun a t => if decide (t.p < p) then stepH w a t else a) a < 18446744073709551616 from this l 0 (by decide)
  intro m
  induction m with
  | nil => exact fun a h => h
  | cons t m ih =>
    intro a ha
    rw [List.foldl_cons]
    refine ih _ ?_
    split
    · exact satN_lt _
    · exact ha
theorem hghA_lt (l : List Tk) (i : Int) (w : Nat) : hghA l i w < 18446744073709551616 := by
  unfold hghA
  split
  · decide
  · split
    · exact hghI_lt ..
    · decide
theorem need_ac (l : List Tk) (i : Int) (w : Nat) (hw : w < 18446744073709551616) (hl : ∀ t ∈ l, t.nm.size ≤ maxLen) (hn : l.length ≤ maxLen) : AC Tryd.prog GL 43 [fro tkP l, vi i, vn w] [] (fun r _ => r = vn (needA l i w)) := by
  refine AC.body' Tryd.func43 Tryd.ntmps43 rfl ?_
  intro cx hd hG
  refine nrmL (k := ?_)
  repeat refine w1 (k := ?_)
  obtain ⟨w0, fz0, β0, df, G0⟩ := cx
  obtain rfl : G0 = GL := hG
  refine callN (hc := by exact is_ac _ l i hl hn) (h := ?_)
  repeat refine w1 (k := ?_)
  cases hb : isB l i with
  | false =>
    rw [Bool.not_false]
    repeat refine w1 (k := ?_)
    refine ⟨[.c _], .cons (.tmp rfl) .nil, ?_⟩
    unfold needA; rw [hb]; rfl
  | true =>
    rw [Bool.not_true]
    obtain ⟨f1, f2, k, rfl, f3⟩ := is_spec hb
    obtain ⟨hc, _, _, _, _, _⟩ := f2 _ (List.getElem_mem f3)
    have hB := blkA_b l (k : Int)
    have hH := hghA_lt l (k : Int) w
    have he : needA l (k : Int) w = sumS l[k].c.toNat [(blkA l (k : Int)).toNat, hghA l (k : Int) w] := by unfold needA; rw [if_pos hb, cAt_nat l k f3]
    obtain ⟨b, eb⟩ := Int.eq_ofNat_of_zero_le hB.1
    obtain ⟨c, ec⟩ := Int.eq_ofNat_of_zero_le (show 0 ≤ l[k].c by omega)
    rw [eb, ec, Int.toNat_natCast, Int.toNat_natCast] at he
    have hblk := block_ac l (k : Int) hl hn
    rw [eb] at hblk
    rw [he]
    repeat refine w1 (k := ?_)
    rw [ec]
    refine callN (hc := by exact hblk) (h := ?_)
    repeat refine w1 (k := ?_)
    refine callN (hc := by exact higherD_ac l (k : Int) w hw hl hn) (h := ?_)
    repeat refine w1 (k := ?_)
    refine litA pvW [b, hghA l (k : Int) w] (h := ?_)
    repeat refine w1 (k := ?_)
    refine callN (hc := by exact nsum_ac _ c [b, hghA l (k : Int) w] (by omega) (by intro y hy; rcases List.mem_cons.1 hy with rfl | hy; omega; obtain rfl := List.mem_singleton.1 hy; exact hH) (by simp [maxLen])) (h := ?_)
    repeat refine w1 (k := ?_)
    exact ⟨[.c _], .cons (.tmp rfl) .nil, rfl⟩
theorem hgh_step (l : List Tk) (p : Int) (w j : Nat) (hj : j < l.length) : hghI (l.take (j + 1)) p w = if decide (l[j].p < p) then stepH w (hghI (l.take j) p w) l[j] else hghI (l.take j) p w := by
  unfold hghI; rw [List.take_succ_eq_append_getElem hj, List.foldl_append]; rfl
