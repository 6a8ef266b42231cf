/- Chapter 9: its example. -/
import Derived.Test.YtekkpgfklhhacaaP3
set_option linter.all false
set_option maxRecDepth 2000
set_option maxHeartbeats 8000000
namespace Go.Proofs.Vl
open Go Go.RowKit
attribute [local irreducible] AWp OpTo Run DL Val UN DR AC Le thn inb nog
theorem pvI_ok {m : Bool} (l : List Int) : ∀ cs ∈ l.map (pvI .i64), ∀ x ∈ cs, pvOk m x = true := by
  intro cs h x hx
  obtain ⟨t, _, rfl⟩ := List.mem_map.1 h
  simp only [pvI, List.mem_cons, List.not_mem_nil, or_false] at hx
  subst hx
  simp [pvOk, PV.solid]
def belowF : Nat := 24
theorem below_ac (G) (a b : Int) : AC Try.prog G 24 [vi a, vi b] [] (fun r _ => r = vb (decide (a < b))) := by
  refine AC.body' Try.func24 Try.ntmps24 rfl ?_
  intro cx hd hG
  refine nrmL (k := ?_)
  repeat refine w1 (k := ?_)
  exact ⟨[.c _], .cons (.tmp rfl) .nil, rfl⟩
def ltI (a b : Int) : Bool := decide (a < b)
def aw09 : Nat → Int
  | 0 => 0
  | 1 => 1
  | 2 => 12
  | 3 => 123
  | _ => 1234
theorem awake09_ac (G) : AC Try.prog G 9 [] [] (fun r _ => r = vb true) := by
  refine AC.bodyM Try.func9 Try.ntmps9 rfl ?_
  intro cx hd hG hrd hml hbs
  obtain ⟨w0, fz0, β0, df, G0, rd, rr, ml, bs⟩ := cx
  dsimp only at hd hG hrd hml hbs
  subst hd hG hrd hml hbs
  refine nrmL (k := ?_)
  repeat refine w1 (k := ?_)
  refine litA (pvI .i64) [1, 4] (h := ?_)
  repeat refine w1 (k := ?_)
  refine litA (pvI .i64) [2, 3] (h := ?_)
  repeat refine w1 (k := ?_)
  first | refine zA 4 (h := ?_) | refine zO 4 (h := ?_) | refine zL 4 (h := ?_) | refine zL3 4 (h := ?_)
  first | refine zA 5 (h := ?_) | refine zO 5 (h := ?_) | refine zL 5 (h := ?_) | refine zL3 5 (h := ?_)
  refine nrm (k := ?_)
  refine litA (slP (pvI .i64)) [[1, 4], [2, 3]] (h := ?_)
  repeat refine w1 (k := ?_)
  first | refine zA 6 (h := ?_) | refine zO 6 (h := ?_) | refine zL 6 (h := ?_) | refine zL3 6 (h := ?_)
  refine nrm (k := ?_)
  refine callAN (hc := by exact mergeI_ac _ belowF [[1, 4], [2, 3]]) (h := ?_)
  refine nrm (k := ?_)
  repeat refine w1 (k := ?_)
  first | refine ofN (hv := by exact Val.fnNil rfl rfl Try.underlying60) (h := ?_) | refine dlN (hv := by exact Val.fnNil rfl rfl Try.underlying60) (h := ?_) | refine dlgN (hv := by exact Val.fnNil rfl rfl Try.underlying60) (h := ?_) | refine ofN (hv := by exact Val.fnNil rfl rfl Try.underlying60) (h := ?_)
  repeat refine w1 (k := ?_)
  refine cutIN [] (α := Unit) (fun u => []) (fun u => [(2, .pcells 3 [.s (.int .i64 1234)])]) (fun u => True) ?_ (fun u hI => ?_)
  ·
    have hit := mergeI_it G0 belowF rfl ltI (fun a c => below_ac G0 a c) [[1, 4], [2, 3]] (by decide) (by decide)
    rw [show mrgL ltI [[1, 4], [2, 3]] = [1, 2, 3, 4] by decide] at hit
    refine AWp.rangeF (α := Nat) (fun n => [(2, .pcells 3 [.s (.int .i64 (aw09 n))])]) (fun i n => n = i) 0 0 [] (by first | rfl | assumption) (by first | rfl | assumption) (by first | rfl | assumption) rfl rfl rfl rfl (hit) (by simp [yI, YV.len]) (by decide) (.inl (by simp [yI])) (.inl rfl) (fun _ => rfl) (by rfl) (by intro k o; (try dsimp only []); repeat (first | exact id | exact find_none | refine find_keep ?_ | refine find_skip rfl ?_)) ?_ ?_
    ·
      intro cx' sv i y n hG' hd' hy hI
      obtain ⟨hi, rfl⟩ := yI_get hy
      obtain rfl := hI
      have hn : n = 0 ∨ n = 1 ∨ n = 2 ∨ n = 3 := by simp at hi; omega
      rcases hn with rfl | rfl | rfl | rfl
      all_goals refine rst0 (k := ?_)
      all_goals repeat refine w1 (k := ?_)
      all_goals refine ⟨rfl, rfl, fun cx'' hG2 hd2 => ?_⟩
      all_goals obtain ⟨w0, fz0, β0, df, G0, rd, rr, ml, bs⟩ := cx''
      all_goals dsimp only at hG2 hd2
      all_goals subst hG2 hd2
      all_goals repeat refine w1 (k := ?_)
      · exact ⟨1, rfl, (by intro k o; (try dsimp only []); repeat (first | exact id | exact find_none | refine find_keep ?_ | refine find_skip rfl ?_)), rfl⟩
      · exact ⟨2, rfl, (by intro k o; (try dsimp only []); repeat (first | exact id | exact find_none | refine find_keep ?_ | refine find_skip rfl ?_)), rfl⟩
      · exact ⟨3, rfl, (by intro k o; (try dsimp only []); repeat (first | exact id | exact find_none | refine find_keep ?_ | refine find_skip rfl ?_)), rfl⟩
      · exact ⟨4, rfl, (by intro k o; (try dsimp only []); repeat (first | exact id | exact find_none | refine find_keep ?_ | refine find_skip rfl ?_)), rfl⟩
    ·
      rintro n rfl
      repeat refine w1 (k := ?_)
      refine ⟨(), by first | rfl | omega | trivial | (refine ⟨?_, ?_⟩ <;> first | rfl | omega), frg⟩
  refine nrmL (k := ?_)
  repeat refine w1 (k := ?_)
  refine litA jbP [⟨0, 0, 5, 0, .s (.slice none 0 0)⟩, ⟨0, 0, 2, 0, .s (.slice none 0 0)⟩] (h := ?_)
  repeat refine w1 (k := ?_)
  have ho := order_ac G0 [⟨0, 0, 5, 0, .s (.slice none 0 0)⟩, ⟨0, 0, 2, 0, .s (.slice none 0 0)⟩] (by decide)
  rw [show ordL [⟨0, 0, 5, 0, .s (.slice none 0 0)⟩, ⟨0, 0, 2, 0, .s (.slice none 0 0)⟩] = [1, 0] by decide] at ho
  refine callRowN (hc := by exact ho ) (hso := by exact  pvI_ok _) (h := ?_)
  refine nrm (k := ?_)
  repeat refine w1 (k := ?_)
  exact ⟨rfl, [.c _], .cons (.tmp rfl) .nil, rfl⟩
