/- Tasks, and sets of tasks by plain numbers (package cadencyref04). -/
import Derived.Test.YtlegdnmebgfjbaaDoorVC
import Derived.Test.YtlegdnmebgfjbaaDoorProg
import Derived.KernelRfl
set_option linter.all false
set_option maxRecDepth 2000
set_option maxHeartbeats 8000000
namespace Go.Proofs.Vl
open Go Go.RowKit
attribute [local irreducible] AWp OpTo Run DL Val UN DR AC Le thn inb nog
structure Sp where
  c : Int
  d : Int
  j : Int
  q : Int
  t : Int
def spP (s : Sp) : List PV := [.s (.int .i64 s.c), .s (.int .i64 s.d), .s (.int .i64 s.j), .s (.int .i64 s.q), .s (.int .i64 s.t)]
structure Tk where
  nm : ByteArray
  c : Int
  t : Int
  d : Int
  j : Int
  q : Int
  p : Int
def tkP (t : Tk) : List PV := [.s (.string t.nm), .s (.int .i64 t.c), .s (.int .i64 t.t), .s (.int .i64 t.d), .s (.int .i64 t.j), .s (.int .i64 t.q), .s (.int .i64 t.p)]
abbrev fro {α : Type} (f : α → List PV) (l : List α) : AV := .c (.p (.fro (l.map f)))
theorem tkP_ok (m : Bool) (l : List Tk) : ∀ cs ∈ l.map tkP, ∀ x ∈ cs, pvOk m x = true := by
  intro cs h x hx
  obtain ⟨t, _, rfl⟩ := List.mem_map.1 h
  simp only [tkP, List.mem_cons, List.not_mem_nil, or_false] at hx
  rcases hx with rfl | rfl | rfl | rfl | rfl | rfl | rfl <;> simp [pvOk, PV.solid]
theorem rest_w (a b : Int) (hb : 0 < b) (hb2 : b < 4611686018427387904) : Int.tmod (IntKind.i64.wrap (Int.tmod a b + b)) b = a % b := by
  have h1 : Int.tmod a b < b := Int.tmod_lt_of_pos a hb
  have h2 : -b < Int.tmod a b := by have := Int.lt_tmod_of_pos a hb; omega
  have e := Int.mul_tdiv_add_tmod a b
  have hw : IntKind.i64.wrap (Int.tmod a b + b) = Int.tmod a b + b := by rw [IntKind.wrap_i64]; omega
  rw [hw, Int.tmod_eq_emod_of_nonneg (by omega), Int.add_emod_right]
  have : Int.tmod a b = a + b * (-(Int.tdiv a b)) := by rw [Int.mul_neg]; omega
  rw [this, Int.add_mul_emod_self_left]
theorem rest4_ac (G) (a b : Int) (hb : 0 < b) (hb2 : b < 4611686018427387904) : AC Tryd.prog G 14 [vi a, vi b] [] (fun r _ => r = vi (a % b)) := by
  refine AC.body' Tryd.func14 Tryd.ntmps14 rfl ?_
  intro cx hd hG
  refine nrmL (k := ?_)
  repeat refine w1 (k := ?_)
  first | refine ofN (hv := by exact Val.rem rfl rfl rfl rfl (by omega)) (h := ?_) | refine dlN (hv := by exact Val.rem rfl rfl rfl rfl (by omega)) (h := ?_) | refine dlgN (hv := by exact Val.rem rfl rfl rfl rfl (by omega)) (h := ?_) | refine ofN (hv := by exact Val.rem rfl rfl rfl rfl (by omega)) (h := ?_)
  repeat refine w1 (k := ?_)
  first | refine ofN (hv := by exact Val.rem rfl rfl rfl rfl (by omega)) (h := ?_) | refine dlN (hv := by exact Val.rem rfl rfl rfl rfl (by omega)) (h := ?_) | refine dlgN (hv := by exact Val.rem rfl rfl rfl rfl (by omega)) (h := ?_) | refine ofN (hv := by exact Val.rem rfl rfl rfl rfl (by omega)) (h := ?_)
  repeat refine w1 (k := ?_)
  refine ⟨[.c _], .cons (.tmp rfl) .nil, ?_⟩
  rw [rest_w a b hb hb2]
  rfl
def turnsI (n turn : Int) : Int := if n > 2 ∧ IntKind.i64.wrap (turn.tdiv n) % 2 = 1 then n - 1 else 1
theorem turns_ac (G) (n turn : Int) (h1 : 1 ≤ n) (h2 : n ≤ 1000) : AC Tryd.prog G 15 [vi n, vi turn] [] (fun r _ => r = vi (turnsI n turn)) := by
  refine AC.body' Tryd.func15 Tryd.ntmps15 rfl ?_
  intro cx hd hG
  refine nrmL (k := ?_)
  repeat refine w1 (k := ?_)
  first | refine bothTN (h1 := fun h => ?_) (h0 := fun h => ?_) | refine bothFN (h1 := fun h => ?_) (h0 := fun h => ?_)
  all_goals repeat refine w1 (k := ?_)
  ·
    first | refine ofN (hv := by exact Val.quo rfl rfl rfl rfl (by omega)) (h := ?_) | refine dlN (hv := by exact Val.quo rfl rfl rfl rfl (by omega)) (h := ?_) | refine dlgN (hv := by exact Val.quo rfl rfl rfl rfl (by omega)) (h := ?_) | refine ofN (hv := by exact Val.quo rfl rfl rfl rfl (by omega)) (h := ?_)
    repeat refine w1 (k := ?_)
    refine callN (hc := by exact rest4_ac _ _ 2 (by decide) (by decide)) (h := ?_)
    repeat refine w1 (k := ?_)
    refine condN (h1 := fun g => ?_) (h0 := fun g => ?_)
    · repeat refine w1 (k := ?_)
      refine ⟨[.c _], .cons (.tmp rfl) .nil, ?_⟩
      unfold turnsI
      rw [if_pos ⟨h, g⟩]
      rfl
    · repeat refine w1 (k := ?_)
      refine ⟨[.c _], .cons (.tmp rfl) .nil, ?_⟩
      unfold turnsI
      rw [if_neg (fun x => g x.2)]
      rfl
  · refine ⟨[.c _], .cons (.tmp rfl) .nil, ?_⟩
    unfold turnsI
    rw [if_neg (fun x => by omega)]
    rfl
theorem foldl_push : ∀ (l : List Int) (s : ByteArray), (l.foldl (fun r n => r.push (UInt8.ofNat n.toNat)) s).data.toList = s.data.toList ++ l.map fun n => UInt8.ofNat n.toNat
  | [], s => by simp
  | a :: l, s => by rw [List.foldl_cons, foldl_push l]; simp
theorem bsOf_data (l : List Int) : (bsOf l).data.toList = l.map fun n => UInt8.ofNat n.toNat := by rw [bsOf, foldl_push]; rfl
theorem bsOf_size (l : List Int) : (bsOf l).size = l.length := by
  show (bsOf l).data.size = _
  rw [← Array.length_toList, bsOf_data, List.length_map]
theorem bsOf_app (a b : List Int) : bsOf a ++ bsOf b = bsOf (a ++ b) := by
  apply ByteArray.ext; apply Array.ext'
  rw [ByteArray.data_append, Array.toList_append, bsOf_data, bsOf_data, bsOf_data, List.map_append]
def mkT (i : Nat) (s : Sp) : Tk :=
  let c := 1 + s.c % 4
  let d := c + s.d % 11
  ⟨bsOf [116, 97 + (i : Int)], c, d + s.t % 7, d, s.j % (d - c + 1), 1 + s.q % c, 0⟩
def sp0 (l : List Sp) (turn : Int) : List Sp := if l = [] then [⟨turn, 0, 0, 0, 0⟩] else l
def pvT (n turn : Int) (i : Nat) : Int := 1 + ((i : Int) * turnsI n turn + turn % n) % n
def setL (l : List Sp) (most turn : Int) : List Tk :=
  let b := ((sp0 l turn).take most.toNat).mapIdx mkT
  b.mapIdx fun i t => { t with p := pvT b.length turn i }
theorem sp0_len (l : List Sp) (turn : Int) (h : l.length ≤ maxLen) : 1 ≤ (sp0 l turn).length ∧ (sp0 l turn).length ≤ maxLen := by
  unfold sp0
  split
  · simp [maxLen]
  · rename_i hn; exact ⟨List.length_pos_iff.2 hn, h⟩
theorem turns_b (n turn : Int) (h : 1 ≤ n) : 1 ≤ turnsI n turn ∧ turnsI n turn ≤ n := by
  unfold turnsI; split <;> omega
theorem set_ac (G) (l : List Sp) (most turn : Int) (hl : l.length ≤ maxLen) (hm : 1 ≤ most) (hm2 : most ≤ 100) : AC Tryd.prog G 7 [fro spP l, vi most, vi turn] [] (fun r os => r = .c (.own 88 7 (setL l most turn).length) ∧ find os 88 = some (.row 27 7 ((setL l most turn).map tkP))) := by
  refine AC.body' Tryd.func7 Tryd.ntmps7 rfl ?_
  intro cx hd hG
  refine nrmL (k := ?_)
  repeat refine w1 (k := ?_)
  obtain ⟨hs1, hs2⟩ := sp0_len l turn hl
  obtain ⟨l', hl'⟩ : ∃ l', l' = sp0 l turn := ⟨_, rfl⟩
  rw [← hl'] at hs1 hs2
  refine cutNN [(16, 6)] (α := Unit) (fun u => [(0, fro spP l')]) (fun u => []) (fun u => True) ?_ (fun u hI => ?_)
  ·
    refine condN (h1 := fun h => ?_) (h0 := fun h => ?_)
    · have h0 : l = [] := List.eq_nil_of_length_eq_zero (by omega)
      repeat refine w1 (k := ?_)
      refine litA spP [⟨turn, 0, 0, 0, 0⟩] (h := ?_)
      repeat refine w1 (k := ?_)
      first | refine zA 21 (h := ?_) | refine zO 21 (h := ?_) | refine zL 21 (h := ?_) | refine zL3 21 (h := ?_)
      have e : l' = [Sp.mk turn 0 0 0 0] := by rw [hl', sp0, if_pos h0]
      subst e
      refine ⟨(), by first | rfl | omega | trivial | (refine ⟨?_, ?_⟩ <;> first | rfl | omega), frg⟩
    · have h0 : l ≠ [] := by intro h0; subst h0; simp at h
      rw [show l = l' by rw [hl', sp0, if_neg h0]]
      repeat refine w1 (k := ?_)
      refine ⟨(), by first | rfl | omega | trivial | (refine ⟨?_, ?_⟩ <;> first | rfl | omega), frg⟩
  refine nrmL (k := ?_)
  refine seedA 7 88 7 27 (h := ?_)
  repeat refine w1 (k := ?_)
  obtain ⟨b, hb⟩ : ∃ b, b = (l'.take most.toNat).mapIdx mkT := ⟨_, rfl⟩
  have hbl : b.length = min most.toNat l'.length := by rw [hb]; simp
  refine cutIN [(8, 6), (22, 67)] (α := Unit) (fun u => [(7, .c (.own 88 7 b.length))]) (fun u => [(88, .row 27 7 (b.map tkP))]) (fun u => True) ?_ (fun u hI => ?_)
  ·
    refine loopN [(9, 5), (22, 67)] (α := Nat) (fun j => [(7, .c (.own 88 7 (b.take j).length)), (8, vi j)]) (fun j => [(88, .row 27 7 ((b.take j).map tkP))]) (fun j => b.length - j) (fun j => j ≤ b.length) (x0 := 0) (h0 := by first | omega | simp | (refine ⟨?_, ?_⟩ <;> first | omega | simp)) (hr := ?_)
    intro j hI
    refine nrmL (k := ?_)
    repeat refine w1 (k := ?_)
    first | refine bothTN (h1 := fun h => ?_) (h0 := fun h => ?_) | refine bothFN (h1 := fun h => ?_) (h0 := fun h => ?_)
    all_goals repeat refine w1 (k := ?_)
    ·
      refine condN (h1 := fun h2 => ?_) (h0 := fun h2 => ?_)
      · have hj : j < b.length := by omega
        repeat refine w1 (k := ?_)
        refine callN (hc := by exact rest4_ac _ _ 4 (by decide) (by decide)) (h := ?_)
        repeat refine w1 (k := ?_)
        have k1 := Int.emod_nonneg l'[j].c (show (4 : Int) ≠ 0 by decide)
        have k2 := Int.emod_lt_of_pos l'[j].c (show (0 : Int) < 4 by decide)
        repeat refine w1 (k := ?_)
        refine callN (hc := by exact rest4_ac _ _ 11 (by decide) (by decide)) (h := ?_)
        repeat refine w1 (k := ?_)
        have k3 := Int.emod_nonneg l'[j].d (show (11 : Int) ≠ 0 by decide)
        have k4 := Int.emod_lt_of_pos l'[j].d (show (0 : Int) < 11 by decide)
        repeat refine w1 (k := ?_)
        refine callN (hc := by exact rest4_ac _ _ _ (by omega) (by omega)) (h := ?_)
        repeat refine w1 (k := ?_)
        refine callN (hc := by exact rest4_ac _ _ 7 (by decide) (by decide)) (h := ?_)
        repeat refine w1 (k := ?_)
        have k5 := Int.emod_nonneg l'[j].t (show (7 : Int) ≠ 0 by decide)
        have k6 := Int.emod_lt_of_pos l'[j].t (show (0 : Int) < 7 by decide)
        repeat refine w1 (k := ?_)
        have k7 := Int.emod_nonneg l'[j].q (show (1 + l'[j].c % 4 : Int) ≠ 0 by omega)
        have k8 := Int.emod_lt_of_pos l'[j].q (show (0 : Int) < 1 + l'[j].c % 4 by omega)
        refine callN (hc := by exact rest4_ac _ _ _ (by omega) (by omega)) (h := ?_)
        repeat refine w1 (k := ?_)
        refine litA (pvI .u8) [97 + (j : Int)] (h := ?_)
        repeat refine w1 (k := ?_)
        first | refine ofN (hv := by exact Val.convBS (l := [97 + (j : Int)]) rfl rfl rfl (by simp)) (h := ?_) | refine dlN (hv := by exact Val.convBS (l := [97 + (j : Int)]) rfl rfl rfl (by simp)) (h := ?_) | refine dlgN (hv := by exact Val.convBS (l := [97 + (j : Int)]) rfl rfl rfl (by simp)) (h := ?_) | refine ofN (hv := by exact Val.convBS (l := [97 + (j : Int)]) rfl rfl rfl (by simp)) (h := ?_)
        repeat refine w1 (k := ?_)
        first | refine ofN (hv := by exact Val.strAdd rfl rfl rfl rfl (by rw [bsOf_size]; show 1 + 1 ≤ _; omega)) (h := ?_) | refine dlN (hv := by exact Val.strAdd rfl rfl rfl rfl (by rw [bsOf_size]; show 1 + 1 ≤ _; omega)) (h := ?_) | refine dlgN (hv := by exact Val.strAdd rfl rfl rfl rfl (by rw [bsOf_size]; show 1 + 1 ≤ _; omega)) (h := ?_) | refine ofN (hv := by exact Val.strAdd rfl rfl rfl rfl (by rw [bsOf_size]; show 1 + 1 ≤ _; omega)) (h := ?_)
        rw [show (⟨#[116]⟩ : ByteArray) ++ bsOf [97 + (j : Int)] = (mkT j l'[j]).nm from bsOf_app [116] _]
        repeat refine w1 (k := ?_)
        refine litA tkP [mkT j l'[j]] (h := ?_)
        repeat refine w1 (k := ?_)
        refine appA 88 64 tkP (b.take j) [mkT j l'[j]] (h := ?_)
        repeat refine w1 (k := ?_)
        have hbj : b.take j ++ [mkT j l'[j]] = b.take (j + 1) := by
          rw [List.take_succ_eq_append_getElem hj]; simp [hb]
        rw [hbj]
        refine ⟨j + 1, by omega, by first | omega | (refine ⟨?_, ?_⟩ <;> omega), frg⟩
      · have hj : j = b.length := by omega
        subst hj
        rw [List.take_length]
        repeat refine w1 (k := ?_)
        refine ⟨(), by first | rfl | omega | trivial | (refine ⟨?_, ?_⟩ <;> first | rfl | omega), frg⟩
    · have hj : j = b.length := by omega
      subst hj
      rw [List.take_length]
      repeat refine w1 (k := ?_)
      refine ⟨(), by first | rfl | omega | trivial | (refine ⟨?_, ?_⟩ <;> first | rfl | omega), frg⟩
  refine nrmL (k := ?_)
  repeat refine w1 (k := ?_)
  --SECOND
  obtain ⟨s, hs⟩ : ∃ s, s = setL l most turn := ⟨_, rfl⟩
  have hsl : s.length = b.length := by rw [hs, setL, ← hl', ← hb]; simp
  have hn1 : 1 ≤ b.length := by omega
  have hst : ∀ (j : Nat) (hj : j < s.length) (hj2 : j < b.length), s[j] = { b[j] with p := pvT b.length turn j } := by
    intro j hj hj2; subst hs; simp only [setL, ← hl', ← hb, List.getElem_mapIdx]
  rw [← hs]
  refine loopN [(91, 21)] (α := Nat) (fun j => [(15, vi j)]) (fun j => [(88, .row 27 7 ((s.take j ++ b.drop j).map tkP))]) (fun j => b.length - j) (fun j => j ≤ b.length) (x0 := 0) (h0 := by first | omega | simp | (refine ⟨?_, ?_⟩ <;> first | omega | simp)) (hr := ?_)
  intro j hI
  refine nrmL (k := ?_)
  repeat refine w1 (k := ?_)
  refine condN (h1 := fun h => ?_) (h0 := fun h => ?_)
  · have hj : j < s.length := by omega
    repeat refine w1 (k := ?_)
    have q := turns_b b.length turn (by omega)
    obtain ⟨g1, g2⟩ : 0 ≤ (j : Int) * turnsI b.length turn ∧ (j : Int) * turnsI b.length turn ≤ 10000 :=
      ⟨Int.mul_nonneg (by omega) (by omega), Int.le_trans (Int.mul_le_mul (show (j : Int) ≤ 100 by omega) (show turnsI b.length turn ≤ 100 by omega) (by omega) (by omega)) (by decide)⟩
    refine callN (hc := by exact turns_ac _ _ _ (by omega) (by omega)) (h := ?_)
    repeat refine w1 (k := ?_)
    have g3 := Int.emod_nonneg turn (show (b.length : Int) ≠ 0 by omega)
    have g4 := Int.emod_lt_of_pos turn (show (0 : Int) < b.length by omega)
    have g5 := Int.emod_nonneg ((j : Int) * turnsI b.length turn + turn % b.length) (show (b.length : Int) ≠ 0 by omega)
    have g6 := Int.emod_lt_of_pos ((j : Int) * turnsI b.length turn + turn % b.length) (show (0 : Int) < b.length by omega)
    refine callN (hc := by exact rest4_ac _ _ _ (by omega) (by omega)) (h := ?_)
    repeat refine w1 (k := ?_)
    have hbj : j < b.length := by omega
    have hlj : j < (s.take j ++ b.drop j).length := by simp; omega
    refine stA ({ (s.take j ++ b.drop j)[j] with p := pvT b.length turn j }) (by exact hlj) (h := ?_)
    rw [get_front s b j (by omega) hbj, ← hst j hj hbj, set_front s b j hj hbj]
    repeat refine w1 (k := ?_)
    refine ⟨j + 1, by omega, by first | omega | (refine ⟨?_, ?_⟩ <;> omega), frg⟩
  · have hj : j = b.length := by omega
    subst hj
    have e : s.take b.length ++ b.drop b.length = s := by simp [List.take_of_length_le (Nat.le_of_eq hsl)]
    rw [e]
    repeat refine w1 (k := ?_)
    refine ⟨[.c _], .cons (.tmp rfl) .nil, ?_⟩
    rw [hsl]
    exact ⟨rfl, rfl⟩
end Go.Proofs.Vl
