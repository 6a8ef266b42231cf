/- A set is what the document's is. -/
import Derived.Test.YtjfpddgldfaahaaDoorM11
set_option linter.all false
set_option maxHeartbeats 8000000
namespace Go.Proofs.Vl
open Go Go.RowKit
attribute [local irreducible] AWp OpTo Run DL Val UN DR AC Le thn inb nog
attribute [local irreducible] els nxO boolsP
theorem oI_ge (o : Option Nat) : decide (oI o ≥ 0) = o.isSome := by
  cases o with
  | none => rfl
  | some m => exact decide_eq_true (Int.natCast_nonneg m)
theorem oI_max (o : Option Nat) : (if 0 > oI o then 0 else oI o) = ((o.getD 0 : Nat) : Int) := by
  cases o with
  | none => rfl
  | some m =>
    show (if 0 > (m : Int) then 0 else (m : Int)) = (m : Int)
    rw [if_neg (by omega)]
theorem looks_ac (s : Nat) (hs : s < TOP) : AC Tryd.prog GL 18 [.pag (setP s), .c (.eptr (boolsP s))] [] (fun r _ => r = vb true) := by
  refine AC.bodyM Tryd.func18 Tryd.ntmps18 rfl ?_
  intro cx hd hG hrd hml hbs
  obtain ⟨w0, fz0, β0, df, G0, rd, rr, ml, bs⟩ := cx
  dsimp only at hd hG hrd hml hbs
  subst hd hG hrd hml hbs
  refine nrmL (k := ?_)
  have hle := els_len s
  repeat refine w1 (k := ?_)
  refine callRowN (hc := by exact row_ac _ s ) (hso := by exact  pvN_ok _) (h := ?_)
  repeat refine w1 (k := ?_)
  first | refine zA 10 (h := ?_) | refine zO 10 (h := ?_) | refine zL 10 (h := ?_) | refine zL3 10 (h := ?_)
  repeat refine w1 (k := ?_)
  refine callAN (hc := by exact all_ac _ s) (h := ?_)
  refine nrm (k := ?_)
  repeat refine w1 (k := ?_)
  first | refine ofN (hv := by exact Val.fnNil rfl rfl Tryd.underlying33) (h := ?_) | refine dlN (hv := by exact Val.fnNil rfl rfl Tryd.underlying33) (h := ?_) | refine dlgN (hv := by exact Val.fnNil rfl rfl Tryd.underlying33) (h := ?_) | refine ofN (hv := by exact Val.fnNil rfl rfl Tryd.underlying33) (h := ?_)
  repeat refine w1 (k := ?_)
  refine callN (hc := by exact words_ac _ s hs) (h := ?_)
  repeat refine w1 (k := ?_)
  first | refine ofN (hv := by exact Val.neS hs hs rfl rfl rfl rfl) (h := ?_) | refine dlN (hv := by exact Val.neS hs hs rfl rfl rfl rfl) (h := ?_) | refine dlgN (hv := by exact Val.neS hs hs rfl rfl rfl rfl) (h := ?_) | refine ofN (hv := by exact Val.neS hs hs rfl rfl rfl rfl) (h := ?_)
  rw [decide_eq_true rfl, Bool.not_true]
  repeat refine w1 (k := ?_)
  refine callN (hc := by exact len_ac s) (h := ?_)
  repeat refine w1 (k := ?_)
  simp only [List.length_map, bne_self_eq_false]
  repeat refine w1 (k := ?_)
  refine cutIN [] (α := Unit) (fun u => []) (fun u => [(4, .pcells 4 [.s (.bool false)]), (5, .pcells 22 [.fro ((els s).map pvN)]), (7, .pcells 3 [.s (.int .i64 ((els s).length : Int))])]) (fun u => True) ?_ (fun u hI => ?_)
  ·
    refine AWp.rangeF (α := Nat) (fun n => [(2, .pcells 26 (setP s)), (4, .pcells 4 [.s (.bool false)]), (5, .pcells 22 [.fro ((els s).map pvN)]), (7, .pcells 3 [.s (.int .i64 (n : Int))])]) (fun i n => n = i) 0 0 [] (by first | rfl | assumption) (by first | rfl | assumption) (by first | rfl | assumption) rfl rfl rfl rfl (all_it s) (by simp [yN, YV.len]) (by decide) (.inl (by simp [yN])) (.inl rfl) (fun _ => rfl) (by first | rfl | omega | simp) (by intro k o; (try dsimp only []); repeat (first | exact id | exact find_none | refine find_keep ?_ | refine find_skip rfl ?_)) ?_ ?_
    ·
      intro cx' sv i y n hG' hd' hy hI
      obtain ⟨hi, rfl⟩ := yN_get hy
      obtain rfl := hI
      refine rst0 (k := ?_)
      repeat refine w1 (k := ?_)
      refine ⟨rfl, rfl, fun cx'' hG2 hd2 => ?_⟩
      repeat refine w1 (k := ?_)
      simp only [bne_self_eq_false]
      repeat refine w1 (k := ?_)
      exact ⟨n + 1, rfl, (by intro k o; (try dsimp only []); repeat (first | exact id | exact find_none | refine find_keep ?_ | refine find_skip rfl ?_)), rfl⟩
    ·
      rintro n rfl
      rw [yN_len]
      refine rend (k := ?_)
      repeat refine w1 (k := ?_)
      refine ⟨(), by trivial, frg⟩
  ·
    refine nrmL (k := ?_)
    repeat refine w1 (k := ?_)
    simp only [List.length_map, beq_self_eq_true]
    exact ⟨rfl, [.c _], .cons (.ld1 rfl rfl rfl rfl) .nil, rfl⟩
theorem next_max_ac (s : Nat) : AC Tryd.prog GL 15 [.pag (setP s), vi 9223372036854775807] [] (fun r _ => r = .tup (tOI (nxO s (fromN 9223372036854775807)))) := by
  refine AC.body' Tryd.func15 Tryd.ntmps15 rfl ?_
  intro cx hd hG
  refine nrmL (k := ?_)
  repeat refine w1 (k := ?_)
  obtain ⟨w0, fz0, β0, df, G0⟩ := cx
  obtain rfl : G0 = GL := hG
  refine callN (hc := by exact in_ac _ _) (h := ?_)
  repeat refine w1 (k := ?_)
  rw [show inB _ = false from rfl]
  repeat refine w1 (k := ?_)
  refine ⟨[.c _, .c _], .cons (.tmp rfl) (.cons (.tmp rfl) .nil), ?_⟩
  rw [nxO_none (fun j h1 h2 => by have : fromN 9223372036854775807 = 9223372036854775808 := rfl
                                  omega)]; rfl
theorem next_all_ac (s : Nat) (n : Int) (hn : n < 9223372036854775808) : AC Tryd.prog GL 15 [.pag (setP s), vi n] [] (fun r _ => r = .tup (tOI (nxO s (fromN n)))) := by
  by_cases h : n = 9223372036854775807
  · subst h; exact next_max_ac s
  · exact next_ac s n (by omega)
theorem asked_ac (s : Nat) (n : Int) (hn : n < 9223372036854775808) : AC Tryd.prog GL 19 [.pag (setP s), .c (.eptr (boolsP s)), vi n] [] (fun r _ => r = vb true) := by
  refine AC.body' Tryd.func19 Tryd.ntmps19 rfl ?_
  intro cx hd hG
  refine nrmL (k := ?_)
  repeat refine w1 (k := ?_)
  obtain ⟨w0, fz0, β0, df, G0⟩ := cx
  obtain rfl : G0 = GL := hG
  refine callN (hc := by exact first_ac s) (h := ?_)
  repeat refine w1 (k := ?_)
  refine callN (hc := by exact next_all_ac s n hn) (h := ?_)
  repeat refine w1 (k := ?_)
  refine callN (hc := by exact rnext_ac _ s (-1)) (h := ?_)
  repeat refine w1 (k := ?_)
  refine callN (hc := by exact rnext_ac _ s n) (h := ?_)
  repeat refine w1 (k := ?_)
  refine callN (hc := by exact has_ac _ s n) (h := ?_)
  repeat refine w1 (k := ?_)
  refine callN (hc := by exact rhas_ac _ s n) (h := ?_)
  repeat refine w1 (k := ?_)
  first | refine ofN (hv := by exact Val.boolB (u := inB n && s.testBit n.toNat) (v := inB n && s.testBit n.toNat) Tryd.underlying4 rfl rfl rfl rfl rfl) (h := ?_) | refine dlN (hv := by exact Val.boolB (u := inB n && s.testBit n.toNat) (v := inB n && s.testBit n.toNat) Tryd.underlying4 rfl rfl rfl rfl rfl) (h := ?_) | refine dlgN (hv := by exact Val.boolB (u := inB n && s.testBit n.toNat) (v := inB n && s.testBit n.toNat) Tryd.underlying4 rfl rfl rfl rfl rfl) (h := ?_) | refine ofN (hv := by exact Val.boolB (u := inB n && s.testBit n.toNat) (v := inB n && s.testBit n.toNat) Tryd.underlying4 rfl rfl rfl rfl rfl) (h := ?_)
  rw [show fromN (-1) = 0 from rfl, nxO_zero]
  generalize (els s)[0]? = a
  generalize nxO s (fromN n) = b
  simp only [beq_self_eq_true, cond_true]
  repeat refine w1 (k := ?_)
  rw [oI_ge]
  first | refine ofN (hv := by exact Val.boolB (u := a.isSome) (v := a.isSome) Tryd.underlying4 rfl rfl rfl rfl rfl) (h := ?_) | refine dlN (hv := by exact Val.boolB (u := a.isSome) (v := a.isSome) Tryd.underlying4 rfl rfl rfl rfl rfl) (h := ?_) | refine dlgN (hv := by exact Val.boolB (u := a.isSome) (v := a.isSome) Tryd.underlying4 rfl rfl rfl rfl rfl) (h := ?_) | refine ofN (hv := by exact Val.boolB (u := a.isSome) (v := a.isSome) Tryd.underlying4 rfl rfl rfl rfl rfl) (h := ?_)
  simp only [beq_self_eq_true, cond_true]
  repeat refine w1 (k := ?_)
  rw [oI_max]
  simp only [beq_self_eq_true, cond_true]
  repeat refine w1 (k := ?_)
  rw [oI_ge]
  first | refine ofN (hv := by exact Val.boolB (u := b.isSome) (v := b.isSome) Tryd.underlying4 rfl rfl rfl rfl rfl) (h := ?_) | refine dlN (hv := by exact Val.boolB (u := b.isSome) (v := b.isSome) Tryd.underlying4 rfl rfl rfl rfl rfl) (h := ?_) | refine dlgN (hv := by exact Val.boolB (u := b.isSome) (v := b.isSome) Tryd.underlying4 rfl rfl rfl rfl rfl) (h := ?_) | refine ofN (hv := by exact Val.boolB (u := b.isSome) (v := b.isSome) Tryd.underlying4 rfl rfl rfl rfl rfl) (h := ?_)
  simp only [beq_self_eq_true, cond_true]
  repeat refine w1 (k := ?_)
  rw [oI_max]
  simp only [beq_self_eq_true, cond_true]
  repeat refine w1 (k := ?_)
  exact ⟨[.c _], .cons (.tmp rfl) .nil, rfl⟩
