/- StreamSteps. -/
import Derived.Test.YtekkpgfklhhacaaQ2
import Derived.Test.YtekkpgfklhhacaaQ0
set_option linter.all false
set_option maxRecDepth 2000
set_option maxHeartbeats 8000000
namespace Go.Proofs.Vl
open Go Go.RowKit
attribute [local irreducible] AWp OpTo Run DL Val UN DR AC Le thn inb nog
theorem eachG_mem (rel : Int → Int) : ∀ (n : Nat) (L : List Int), ∀ g ∈ eachG rel n L, ∃ x ∈ L, rel x = g.1
  | 0, _, g, h => by cases h
  | _ + 1, [], g, h => by cases h
  | n + 1, x :: xs, g, h => by
    rw [eachG] at h
    rcases List.mem_cons.1 h with rfl | h
    · exact ⟨x, List.mem_cons_self, rfl⟩
    · obtain ⟨y, h1, h2⟩ := eachG_mem rel n _ g h
      exact ⟨y, List.mem_of_mem_drop h1, h2⟩
theorem eachG_pw (rel : Int → Int) : ∀ (n : Nat) (L : List Int), L.Pairwise (fun a b => lexL rel a b) → (eachG rel n L).Pairwise (fun a b => a.1 < b.1)
  | 0, _, _ => List.Pairwise.nil
  | _ + 1, [], _ => List.Pairwise.nil
  | n + 1, x :: xs, h => by
    rw [eachG]
    have hd := h.sublist (List.drop_sublist (preG rel (rel x) xs + 1) (x :: xs))
    refine List.pairwise_cons.2 ⟨fun g hg => ?_, eachG_pw rel n _ hd⟩
    obtain ⟨y, h1, h2⟩ := eachG_mem rel n _ g hg
    rw [← h2]
    show rel x < rel y
    rw [List.drop_succ_cons] at h1
    have hlt : preG rel (rel x) xs < xs.length := by
      refine Nat.lt_of_not_le fun hk => ?_
      rw [List.drop_eq_nil_of_le hk] at h1; cases h1
    have hat := preG_at rel (rel x) xs hlt
    rw [List.drop_succ_cons, List.drop_eq_getElem_cons hlt] at hd
    rw [List.drop_eq_getElem_cons hlt] at h1
    have hx := (List.pairwise_cons.1 h).1 _ (List.getElem_mem hlt)
    have hz := (List.pairwise_cons.1 hd).1
    unfold lexL at hx
    rcases List.mem_cons.1 h1 with rfl | h1
    · omega
    · have := hz y h1
      unfold lexL at this
      omega
theorem eachL_pw (m : List Jb) : (eachL m).Pairwise (fun a b => a.1 < b.1) := eachG_pw _ _ _ (ordL_pw m)
theorem eachL_ge {m : List Jb} (h : ∀ j ∈ m, 0 ≤ j.r) : ∀ g ∈ eachL m, 0 ≤ g.1 := by
  intro g hg
  obtain ⟨x, h1, h2⟩ := eachG_mem _ _ _ g hg
  obtain ⟨k, rfl, hk⟩ := idL_mem ((sortL_perm _ _).mem_iff.1 h1)
  rw [← h2, pAtI_nat m k hk]
  exact h _ (List.getElem_mem hk)
theorem and62 (n : Int) : bits .and .i64 n 4611686018427387903 = n % 4611686018427387904 := by
  have h63 : (BitVec.ofInt 64 4611686018427387903).toNat = 2 ^ 62 - 1 := by decide
  have key : (BitVec.ofInt 64 n &&& BitVec.ofInt 64 4611686018427387903).toNat = (n % ((2 ^ 64 : Nat) : Int)).toNat % 2 ^ 62 := by
    rw [BitVec.toNat_and, BitVec.toNat_ofInt, h63, Nat.and_two_pow_sub_one_eq_mod]
  show IntKind.i64.wrap ((BitVec.ofInt 64 n &&& BitVec.ofInt 64 4611686018427387903).toNat : Nat) = n % 4611686018427387904
  rw [key, IntKind.wrap_i64]
  omega
def stJ (r : Int) : Jb := ⟨0, 0, r % 4611686018427387904, 0, .s (.slice none 0 0)⟩
theorem ssteps_ac (G) (l : List Int) (hl : l.length ≤ maxLen) : AC Try.prog G 8 [fro (pvI .i64) l] [] (fun r _ => r = vb true) := by
  refine AC.bodyM Try.func8 Try.ntmps8 rfl ?_
  intro cx hd hG hrd hml hbs
  obtain ⟨w0, fz0, β0, df, G0, rd, rr, ml, bs⟩ := cx
  dsimp only at hd hG hrd hml hbs
  subst hd hG hrd hml hbs
  refine nrmL (k := ?_)
  repeat refine w1 (k := ?_)
  refine callN (hc := by exact awake09_ac _) (h := ?_)
  repeat refine w1 (k := ?_)
  obtain ⟨m, hm⟩ : ∃ m, m = (l.take 16).map stJ := ⟨_, rfl⟩
  have hml : m.length = min 16 l.length := by rw [hm, List.length_map, List.length_take]
  have hm0 : ∀ j ∈ m, 0 ≤ j.r := fun j hj => by
    subst hm
    obtain ⟨x, _, rfl⟩ := List.mem_map.1 hj
    exact Int.emod_nonneg x (by decide)
  refine AWp.weak (Le.seedBox 4 88 5 43 38 rfl (by decide) (by decide) rfl) ?_
  refine nrmL (k := ?_)
  refine cutIN [(5, 1), (13, 19)] (α := Unit) (fun u => []) (fun u => [(2, .pcells 4 [.s (.bool false)]), (4, .cells 38 [.own 88 5 m.length]), (88, .row 43 5 (m.map jbP))]) (fun u => True) ?_ (fun u hI => ?_)
  ·
    refine loopN [(13, 19)] (α := Nat) (fun i => [(5, vi (i : Int))]) (fun i => [(2, .pcells 4 [.s (.bool false)]), (4, .cells 38 [.own 88 5 (m.take i).length]), (88, .row 43 5 ((m.take i).map jbP))]) (fun i => 16 - i) (fun i => i ≤ m.length) (x0 := 0) (h0 := by first | omega | simp | (refine ⟨?_, ?_⟩ <;> first | omega | simp)) (hr := ?_)
    intro i hI
    refine nrmL (k := ?_)
    repeat refine w1 (k := ?_)
    first | refine bothTN (h1 := fun h => ?_) (h0 := fun h => ?_) | refine bothFN (h1 := fun h => ?_) (h0 := fun h => ?_)
    all_goals repeat refine w1 (k := ?_)
    ·
      refine condN (h1 := fun h2 => ?_) (h0 := fun h2 => ?_)
      ·
        have hi : i < l.length := by omega
        have him : i < m.length := by omega
        have eg : m[i] = stJ l[i] := by subst hm; simp
        repeat refine w1 (k := ?_)
        (first | refine DL.takeT 0 rfl (by decide +kernel) rfl (Val.move rfl) ?_ | refine DL.takeT 0 rfl (by decide +kernel) rfl (Val.ixN rfl rfl rfl rfl rfl (by omega) (by intro _; rfl)) ?_ | refine DL.takeT 0 rfl (by decide +kernel) rfl (Val.ldF rfl rfl rfl rfl) ?_ | refine DL.takeT 0 rfl (by decide +kernel) rfl (Val.ev2 rfl) ?_ | refine DL.takeT 0 rfl (by decide +kernel) rfl (Val.ev rfl) ?_)
        refine nrm (k := ?_)
        (first | refine DL.takeT 0 rfl (by decide +kernel) rfl (Val.move rfl) ?_ | refine DL.takeT 0 rfl (by decide +kernel) rfl (Val.ixN rfl rfl rfl rfl rfl (by omega) (by intro _; rfl)) ?_ | refine DL.takeT 0 rfl (by decide +kernel) rfl (Val.ldF rfl rfl rfl rfl) ?_ | refine DL.takeT 0 rfl (by decide +kernel) rfl (Val.ev2 rfl) ?_ | refine DL.takeT 0 rfl (by decide +kernel) rfl (Val.ev rfl) ?_)
        refine nrm (k := ?_)
        (first | refine DL.takeT 0 rfl (by decide +kernel) rfl (Val.move rfl) ?_ | refine DL.takeT 0 rfl (by decide +kernel) rfl (Val.ixN rfl rfl rfl rfl rfl (by omega) (by intro _; rfl)) ?_ | refine DL.takeT 0 rfl (by decide +kernel) rfl (Val.ldF rfl rfl rfl rfl) ?_ | refine DL.takeT 0 rfl (by decide +kernel) rfl (Val.ev2 rfl) ?_ | refine DL.takeT 0 rfl (by decide +kernel) rfl (Val.ev rfl) ?_)
        refine nrm (k := ?_)
        (first | refine DL.takeT 0 rfl (by decide +kernel) rfl (Val.move rfl) ?_ | refine DL.takeT 0 rfl (by decide +kernel) rfl (Val.ixN rfl rfl rfl rfl rfl (by omega) (by intro _; rfl)) ?_ | refine DL.takeT 0 rfl (by decide +kernel) rfl (Val.ldF rfl rfl rfl rfl) ?_ | refine DL.takeT 0 rfl (by decide +kernel) rfl (Val.ev2 rfl) ?_ | refine DL.takeT 0 rfl (by decide +kernel) rfl (Val.ev rfl) ?_)
        refine nrm (k := ?_)
        (first | refine DL.takeT 0 rfl (by decide +kernel) rfl (Val.move rfl) ?_ | refine DL.takeT 0 rfl (by decide +kernel) rfl (Val.ixN rfl rfl rfl rfl rfl (by omega) (by intro _; rfl)) ?_ | refine DL.takeT 0 rfl (by decide +kernel) rfl (Val.ldF rfl rfl rfl rfl) ?_ | refine DL.takeT 0 rfl (by decide +kernel) rfl (Val.ev2 rfl) ?_ | refine DL.takeT 0 rfl (by decide +kernel) rfl (Val.ev rfl) ?_)
        refine nrm (k := ?_)
        rw [and62]
        repeat refine w1 (k := ?_)
        refine litA jbP [stJ l[i]] (h := ?_)
        repeat refine w1 (k := ?_)
        have hl2 : (m.take i).length = i := by simp; omega
        refine appA 88 56 jbP (m.take i) [stJ l[i]] (hb := by rw [hl2]; simp; omega) (hm := by rw [hl2]; simp; omega) (h := ?_)
        rw [show m.take i ++ [stJ l[i]] = m.take (i + 1) by rw [List.take_succ_eq_append_getElem him, eg]]
        repeat refine w1 (k := ?_)
        refine OpTo.stC (ys := [.own 88 5 (m.take (i + 1)).length]) rfl rfl rfl rfl rfl (by kernel_rfl) (Nat.le_refl _) ?_
        refine nrm (k := ?_)
        repeat refine w1 (k := ?_)
        refine ⟨i + 1, by omega, by first | omega | (refine ⟨?_, ?_⟩ <;> omega), frg⟩
      ·
        repeat refine w1 (k := ?_)
        have : i = m.length := by omega
        subst this
        rw [List.take_length]
        refine ⟨(), by first | rfl | omega | trivial | (refine ⟨?_, ?_⟩ <;> first | rfl | omega), frg⟩
    ·
      repeat refine w1 (k := ?_)
      have : i = m.length := by omega
      subst this
      rw [List.take_length]
      refine ⟨(), by first | rfl | omega | trivial | (refine ⟨?_, ?_⟩ <;> first | rfl | omega), frg⟩
  refine nrmL (k := ?_)
  first | refine zA 88 (h := ?_) | refine zO 88 (h := ?_) | refine zL 88 (h := ?_) | refine zL3 88 (h := ?_)
  refine nrmL (k := ?_)
  try simp only [show ((SV : Nat) == 4) = false from rfl, show ((SV : Nat) == 88) = false from rfl, Bool.false_or, Bool.or_self, Bool.or_false, cond_false]
  refine AWp.weak (Le.toP 4 38 (.fro (m.map jbP)) rfl) ?_
  refine nrmL (k := ?_)
  try simp only [show ((SV : Nat) == 4) = false from rfl, show ((SV : Nat) == 88) = false from rfl, Bool.false_or, Bool.or_self, Bool.or_false, cond_false]
  repeat refine w1 (k := ?_)
  have hm16 : m.length ≤ 16 := by omega
  have hpw := eachL_pw m
  have hge := eachL_ge hm0
  have hit := each_it G0 m hm16
  refine callAN (hc := by exact each_ac _ m) (h := ?_)
  refine nrm (k := ?_)
  repeat refine w1 (k := ?_)
  first | refine ofN (hv := by exact Val.fnNil rfl rfl Try.underlying54) (h := ?_) | refine dlN (hv := by exact Val.fnNil rfl rfl Try.underlying54) (h := ?_) | refine dlgN (hv := by exact Val.fnNil rfl rfl Try.underlying54) (h := ?_) | refine ofN (hv := by exact Val.fnNil rfl rfl Try.underlying54) (h := ?_)
  repeat refine w1 (k := ?_)
  refine cutIN [] (α := Int) (fun u => []) (fun u => [(2, .pcells 4 [.s (.bool false)]), (4, .pcells 38 [.fro (m.map jbP)]), (7, .pcells 2 [.s (.int .i64 u)])]) (fun u => nxtE m u = none) ?_ (fun u hI => ?_)
  ·
    refine AWp.rangeF (α := Int) (fun u => [(2, .pcells 4 [.s (.bool false)]), (4, .pcells 38 [.fro (m.map jbP)]), (7, .pcells 2 [.s (.int .i64 u)]), (8, .pcells 4 [.s (.bool true)])]) (fun i u => (i = 0 ∧ u = -1) ∨ ∃ (j : Nat) (h : j < (eachL m).length), i = j + 1 ∧ u = (eachL m)[j].1) (-1) 90 [] (by first | rfl | assumption) (by first | rfl | assumption) (by first | rfl | assumption) rfl rfl rfl rfl hit (fun y hy => by obtain ⟨g, _, rfl⟩ := List.mem_map.1 hy; rfl) (by decide) (.inr (fun _ => rfl)) (.inl rfl) (fun _ => rfl) (.inl ⟨rfl, rfl⟩) (by intro k o; (try dsimp only []); repeat (first | exact id | exact find_none | refine find_keep ?_ | refine find_skip rfl ?_)) ?_ ?_
    ·
      intro cx' sv i y u hG' hd' hy hI
      obtain ⟨hi, rfl⟩ := yE_get hy
      have hnx : nxtE m u = some (eachL m)[i].1 := by
        rcases hI with ⟨rfl, rfl⟩ | ⟨j, hj, rfl, rfl⟩
        · exact nxtE_at hi (fun j hj => by omega) (by have := hge _ (List.getElem_mem hi); show _ > (-1 : Int); omega)
        · refine nxtE_at hi (fun q hq => ?_) (List.pairwise_iff_getElem.1 hpw j (j + 1) hj hi (by omega))
          by_cases e : q = j
          · subst e; exact Int.le_refl _
          · exact Int.le_of_lt (List.pairwise_iff_getElem.1 hpw q j (by omega) hj (by omega))
      refine rst0 (k := ?_)
      repeat refine w1 (k := ?_)
      refine ⟨by first | rfl | trivial, by first | rfl | trivial, fun cx'' hG2 hd2 => ?_⟩
      obtain ⟨w0, fz0, β0, df, G0, rd, rr, ml, bs⟩ := cx''
      dsimp only at hG2 hd2
      subst hG2 hd2
      repeat refine w1 (k := ?_)
      refine callN (hc := by exact next_ac _ m u hm16) (h := ?_)
      repeat refine w1 (k := ?_)
      rw [hnx]
      dsimp only [Option.getD_some, Option.isSome_some]
      repeat refine w1 (k := ?_)
      simp only [bne_self_eq_false]
      repeat refine w1 (k := ?_)
      exact ⟨(eachL m)[i].1, .inr ⟨i, hi, rfl, rfl⟩, (by intro k o; (try dsimp only []); repeat (first | exact id | exact find_none | refine find_keep ?_ | refine find_skip rfl ?_)), rfl⟩
    ·
      rintro u hI
      rw [yE_len] at hI
      have hno : nxtE m u = none := by
        refine nxtE_no fun q hq => ?_
        rcases hI with ⟨h0, _⟩ | ⟨j, hj, h0, rfl⟩
        · omega
        · by_cases e : q = j
          · subst e; exact Int.le_refl _
          · exact Int.le_of_lt (List.pairwise_iff_getElem.1 hpw q j (by omega) hj (by omega))
      repeat refine w1 (k := ?_)
      refine ⟨u, by exact hno, frg⟩
  refine nrmL (k := ?_)
  repeat refine w1 (k := ?_)
  refine callN (hc := by exact next_ac _ m u hm16) (h := ?_)
  repeat refine w1 (k := ?_)
  rw [hI]
  dsimp only [Option.getD_none, Option.isSome_none]
  repeat refine w1 (k := ?_)
  exact ⟨rfl, [.c _], .cons (.ld1 rfl rfl rfl rfl) .nil, rfl⟩
