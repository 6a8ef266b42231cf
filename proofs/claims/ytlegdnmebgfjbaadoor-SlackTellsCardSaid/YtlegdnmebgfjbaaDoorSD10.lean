/- What blocks, what comes ahead, what is needed (package demand). -/
import Derived.Test.YtlegdnmebgfjbaaDoorSD9
set_option linter.all false
set_option maxRecDepth 2000
set_option maxHeartbeats 8000000
namespace Go.Proofs.Vl
open Go Go.RowKit
attribute [local irreducible] AWp OpTo Run DL Val UN DR AC Le thn inb nog
attribute [local irreducible] els nxO
abbrev mxI (a b : Int) : Int := if b > a then b else a
def blkI (l : List Tk) (p : Int) : Int := l.foldl (fun a t => if decide (t.p > p) then mxI a (t.q - 1) else a) 0
def pAt (l : List Tk) (i : Int) : Int := match l[i.toNat]? with
  | some t => t.p
  | none => 0
def blkA (l : List Tk) (i : Int) : Int := if isB l i then blkI l (pAt l i) else 0
theorem pAt_nat (l : List Tk) (i : Nat) (h : i < l.length) : pAt l (i : Int) = l[i].p := by
  unfold pAt; rw [Int.toNat_natCast, List.getElem?_eq_getElem h]
def stepB (a : Int) (t : Tk) : Int := mxI a (t.q - 1)
theorem stepB_b {l : List Tk} (hf : ∀ t ∈ l, Fine t) (ks : List Nat) (hk : ∀ k ∈ ks, k < l.length) : 0 ≤ ks.foldl (atK l stepB) 0 ∧ ks.foldl (atK l stepB) 0 ≤ 2147483647 := by
  suffices ∀ (ks : List Nat) a, (∀ k ∈ ks, k < l.length) → 0 ≤ a ∧ a ≤ 2147483647 → 0 ≤ ks.foldl (atK l stepB) a ∧ ks.foldl (atK l stepB) a ≤ 2147483647 from this ks 0 hk ⟨by decide, by decide⟩
  intro ks
  induction ks with
  | nil => exact fun a _ h => h
  | cons k ks ih =>
    intro a hk ha
    rw [List.foldl_cons]
    refine ih _ (fun k hk' => hk k (List.mem_cons_of_mem _ hk')) ?_
    have h := hk k List.mem_cons_self
    have hq := (hf _ (List.getElem_mem h)).hq
    unfold atK stepB
    rw [List.getElem?_eq_getElem h]
    dsimp only
    unfold mxI
    split <;> omega
theorem fold_take {α : Type} (ks : List Nat) (g : α → Nat → α) (a : α) (i : Nat) (h : i < ks.length) : g ((ks.take i).foldl g a) ks[i] = (ks.take (i + 1)).foldl g a := by
  rw [List.take_succ_eq_append_getElem h, List.foldl_append]; rfl
theorem block_ac (l : List Tk) (i : Int) (hl : ∀ t ∈ l, t.nm.size ≤ maxLen) (hn : l.length ≤ maxLen) : AC Tryd.prog GL 64 [fro tkP l, vi i] [] (fun r _ => r = vi (blkA l i)) := by
  refine AC.bodyM Tryd.func64 Tryd.ntmps64 rfl ?_
  intro cx hd hG hrd hml hbs
  obtain ⟨w0, fz0, β0, df, G0, rd, rr, ml, bs⟩ := cx
  dsimp only at hd hG hrd hml hbs
  subst hd hG hrd hml hbs
  refine nrmL (k := ?_)
  repeat refine w1 (k := ?_)
  refine callN (hc := by exact is_ac _ l i hl hn) (h := ?_)
  repeat refine w1 (k := ?_)
  cases hb : isB l i with
  | false =>
    rw [Bool.not_false]
    repeat refine w1 (k := ?_)
    refine ⟨rfl, [.c _], .cons (.tmp rfl) .nil, ?_⟩
    unfold blkA; rw [hb]; rfl
  | true =>
    rw [Bool.not_true]
    obtain ⟨f1, f2, k, rfl, f3⟩ := is_spec hb
    have he : blkA l (k : Int) = (els (loS l l[k].p)).foldl (atK l stepB) 0 := by
      unfold blkA loS; rw [if_pos hb, fold_bits l _ _ _ f1, pAt_nat l k f3]; rfl
    rw [he]
    repeat refine w1 (k := ?_)
    refine callN (hc := by exact lower_ac _ l k f3 hn) (h := ?_)
    repeat refine w1 (k := ?_)
    have hat : ∀ {i : Nat} (hi : i < (els (loS l l[k].p)).length), (els (loS l l[k].p))[i] < l.length := fun hi => (bits_at f1 hi).1
    generalize loS l l[k].p = S at *
    refine callAN (hc := by exact mall_ac _ S) (h := ?_)
    refine nrm (k := ?_)
    repeat refine w1 (k := ?_)
    repeat refine w1 (k := ?_)
    refine AWp.rangeF (α := Nat) (fun n => [(2, .pcells 24 [.fro (l.map tkP)]), (5, .pcells 2 [.s (.int .i64 (((els S).take n).foldl (atK l stepB) 0))])]) (fun i n => n = i) 0 0 [] (by first | rfl | assumption) (by first | rfl | assumption) (by first | rfl | assumption) rfl rfl rfl rfl (mall_it S) (by simp [yN, YV.len]) (by decide) (.inl (by simp [yN])) (.inl rfl) (fun _ => rfl) (by first | rfl | omega | simp) (by intro k o; (try dsimp only []); repeat (first | exact id | exact find_none | refine find_keep ?_ | refine find_skip rfl ?_)) ?_ ?_
    ·
      intro cx' sv i y n hG' hd' hy hI
      obtain ⟨hi, rfl⟩ := yN_get hy
      obtain rfl := hI
      have hk := hat hi
      have hb2 := stepB_b f2 ((els S).take n) (fun k hk => by obtain ⟨j, hj, rfl⟩ := List.mem_take_iff_getElem.1 hk; exact hat (by omega))
      have hq := (f2 _ (List.getElem_mem hk)).hq
      refine rst0 (k := ?_)
      repeat refine w1 (k := ?_)
      refine ⟨rfl, rfl, fun cx'' hG2 hd2 => ?_⟩
      repeat refine w1 (k := ?_)
      have e : (if l[(els S)[n]].q - 1 > ((els S).take n).foldl (atK l stepB) 0 then l[(els S)[n]].q - 1 else ((els S).take n).foldl (atK l stepB) 0) = ((els S).take (n + 1)).foldl (atK l stepB) 0 := by
        rw [← fold_take (els S) (atK l stepB) 0 n hi, atK, List.getElem?_eq_getElem hk]; rfl
      rw [e]
      exact ⟨n + 1, rfl, (by intro k o; (try dsimp only []); repeat (first | exact id | exact find_none | refine find_keep ?_ | refine find_skip rfl ?_)), rfl⟩
    ·
      rintro n rfl
      rw [yN_len]
      refine rend (k := ?_)
      repeat refine w1 (k := ?_)
      rw [List.take_length]
      exact ⟨rfl, [.c _], .cons (.tmp rfl) .nil, rfl⟩

theorem satN_le {a b : Nat} (h : a ≤ b) : satN a ≤ satN b := by unfold satN; omega
def stepH (w : Nat) (a : Nat) (t : Tk) : Nat := satN (a + satN (oftN t w * t.c.toNat))
def hghI (l : List Tk) (p : Int) (w : Nat) : Nat := l.foldl (fun a t => if decide (t.p < p) then stepH w a t else a) 0
def hghA (l : List Tk) (i : Int) (w : Nat) : Nat := if w = 0 then 0 else if isB l i then hghI l (pAt l i) w else 0
theorem stepH_b {w : Nat} {l : List Tk} (ks : List Nat) : ks.foldl (atK l (stepH w)) 0 < 18446744073709551616 := by
  suffices ∀ (ks : List Nat) a, a < 18446744073709551616 → ks.foldl (atK l (stepH w)) a < 18446744073709551616 from this ks 0 (by decide)
  intro ks
  induction ks with
  | nil => exact fun a h => h
  | cons k ks ih =>
    intro a ha
    rw [List.foldl_cons]
    refine ih _ ?_
    unfold atK stepH
    split
    · exact satN_lt _
    · exact ha
theorem oftN_lt {t : Tk} {w : Nat} (h : 1 ≤ t.t) : oftN t w < 18446744073709551616 := ceilN_lt (satN_lt _) (by omega)
theorem higherD_ac (l : List Tk) (i : Int) (w : Nat) (hw : w < 18446744073709551616) (hl : ∀ t ∈ l, t.nm.size ≤ maxLen) (hn : l.length ≤ maxLen) : AC Tryd.prog GL 65 [fro tkP l, vi i, vn w] [] (fun r _ => r = vn (hghA l i w)) := by
  refine AC.bodyM Tryd.func65 Tryd.ntmps65 rfl ?_
  intro cx hd hG hrd hml hbs
  obtain ⟨w0, fz0, β0, df, G0, rd, rr, ml, bs⟩ := cx
  dsimp only at hd hG hrd hml hbs
  subst hd hG hrd hml hbs
  refine nrmL (k := ?_)
  repeat refine w1 (k := ?_)
  first | refine bothTN (h1 := fun h0 => ?_) (h0 := fun h0 => ?_) | refine bothFN (h1 := fun h0 => ?_) (h0 := fun h0 => ?_)
  all_goals repeat refine w1 (k := ?_)
  ·
    refine callN (hc := by exact is_ac _ l i hl hn) (h := ?_)
    repeat refine w1 (k := ?_)
    have hw0 : ¬ w = 0 := by omega
    cases hb : isB l i with
    | false =>
      rw [Bool.not_false]
      repeat refine w1 (k := ?_)
      refine ⟨rfl, [.c _], .cons (.tmp rfl) .nil, ?_⟩
      unfold hghA; rw [if_neg hw0, hb]; rfl
    | true =>
      rw [Bool.not_true]
      obtain ⟨f1, f2, k, rfl, f3⟩ := is_spec hb
      have he : hghA l (k : Int) w = (els (hiS l l[k].p)).foldl (atK l (stepH w)) 0 := by
        unfold hghA hiS; rw [if_neg hw0, if_pos hb, fold_bits l _ _ _ f1, pAt_nat l k f3]; rfl
      rw [he]
      repeat refine w1 (k := ?_)
      refine callN (hc := by exact higher_ac _ l k f3 hn) (h := ?_)
      repeat refine w1 (k := ?_)
      have hat : ∀ {i : Nat} (hi : i < (els (hiS l l[k].p)).length), (els (hiS l l[k].p))[i] < l.length := fun hi => (bits_at f1 hi).1
      generalize hiS l l[k].p = S at *
      refine callAN (hc := by exact mall_ac _ S) (h := ?_)
      refine nrm (k := ?_)
      repeat refine w1 (k := ?_)
      repeat refine w1 (k := ?_)
      refine AWp.rangeF (α := Nat) (fun n => [(3, .pcells 24 [.fro (l.map tkP)]), (5, .pcells 48 [.s (.int .u64 (w : Int))]), (7, .pcells 48 [.s (.int .u64 ((((els S).take n).foldl (atK l (stepH w)) 0 : Nat) : Int))])]) (fun i n => n = i) 0 0 [] (by first | rfl | assumption) (by first | rfl | assumption) (by first | rfl | assumption) rfl rfl rfl rfl (mall_it S) (by simp [yN, YV.len]) (by decide) (.inl (by simp [yN])) (.inl rfl) (fun _ => rfl) (by first | rfl | omega | simp) (by intro k o; (try dsimp only []); repeat (first | exact id | exact find_none | refine find_keep ?_ | refine find_skip rfl ?_)) ?_ ?_
      ·
        intro cx' sv i y n hG' hd' hy hI
        obtain ⟨hi, rfl⟩ := yN_get hy
        obtain rfl := hI
        have hk := hat hi
        have hb2 := stepH_b (w := w) (l := l) ((els S).take n)
        have e : stepH w (((els S).take n).foldl (atK l (stepH w)) 0) l[(els S)[n]] = ((els S).take (n + 1)).foldl (atK l (stepH w)) 0 := by
          rw [← fold_take (els S) (atK l (stepH w)) 0 n hi, atK, List.getElem?_eq_getElem hk]
        obtain ⟨hc, ht, _, hj, _, _⟩ := f2 _ (List.getElem_mem hk)
        refine rst0 (k := ?_)
        repeat refine w1 (k := ?_)
        refine ⟨rfl, rfl, fun cx'' hG2 hd2 => ?_⟩
        repeat refine w1 (k := ?_)
        have hcN : l[(els S)[n]].c = ((l[(els S)[n]].c.toNat : Nat) : Int) := by omega
        refine DL.take 1 rfl (by decide +kernel) rfl (Val.convU rfl rfl rfl rfl ⟨by omega, by omega⟩) ?_
        refine nrm (k := ?_)
        repeat refine w1 (k := ?_)
        refine callN (hc := by exact oft_ac _ l[(els S)[n]] w hw (by omega) (by omega)) (h := ?_)
        repeat refine w1 (k := ?_)
        rw [hcN]
        refine callN (hc := by exact times_ac _ (oftN l[(els S)[n]] w) l[(els S)[n]].c.toNat (oftN_lt ht.1) (by omega)) (h := ?_)
        repeat refine w1 (k := ?_)
        repeat refine w1 (k := ?_)
        refine litA pvW [satN (oftN l[(els S)[n]] w * l[(els S)[n]].c.toNat)] (h := ?_)
        repeat refine w1 (k := ?_)
        refine callN (hc := by exact nsum_ac _ (((els S).take n).foldl (atK l (stepH w)) 0) [satN (oftN l[(els S)[n]] w * l[(els S)[n]].c.toNat)] hb2 (by intro y hy; obtain rfl := List.mem_singleton.1 hy; exact satN_lt _) (by simp [maxLen])) (h := ?_)
        repeat refine w1 (k := ?_)
        rw [show sumS (((els S).take n).foldl (atK l (stepH w)) 0) [satN (oftN l[(els S)[n]] w * l[(els S)[n]].c.toNat)] = ((els S).take (n + 1)).foldl (atK l (stepH w)) 0 from e]
        exact ⟨n + 1, rfl, (by intro k o; (try dsimp only []); repeat (first | exact id | exact find_none | refine find_keep ?_ | refine find_skip rfl ?_)), rfl⟩
      ·
        rintro n rfl
        rw [yN_len]
        refine rend (k := ?_)
        repeat refine w1 (k := ?_)
        rw [List.take_length]
        exact ⟨rfl, [.c _], .cons (.tmp rfl) .nil, rfl⟩
  ·
    repeat refine w1 (k := ?_)
    refine ⟨rfl, [.c _], .cons (.tmp rfl) .nil, ?_⟩
    unfold hghA; rw [if_pos (by omega)]; rfl
