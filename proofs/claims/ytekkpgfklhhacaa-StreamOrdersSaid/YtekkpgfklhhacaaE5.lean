/- A struct's cell whose slice grows. -/
import Derived.Test.YtekkpgfklhhacaaE4
set_option linter.all false
namespace Go.Proofs.Vl
open Go Go.RowKit
theorem Le.seedF4 {cx : Cx} {st : St} (k d sz : Nat) (T E : TypeId) (a b c e : PV) (hf : find st.objs k = some (.pcells E [a, b, c, e, .s (.slice none 0 0)])) (hlow : d < 1000000) (hkd : k ≠ d) (hn : st.noref d = true) : Le cx st ⟨st.tmps, upd (upd st.objs d (.row T sz [])) k (.cells E [.p a, .p b, .p c, .p e, .own d sz 0])⟩ := by
  unfold Le
  rintro w0 w ⟨fz, β, hs⟩
  have h1 := hs.nilrow (T := T) (sz := sz) hlow hn
  refine ⟨fz, bup β d none, h1.reob (k := k) ?_⟩
  obtain ⟨bl, vs, h2, h3, h4⟩ := hs.h.ob k _ hf
  refine ⟨bl, vs, (bup_other β d none hkd).trans h2, h3, ?_⟩
  cases h4 with
  | cons g1 r1 => cases r1 with
    | cons g2 r2 => cases r2 with
      | cons g3 r3 => cases r3 with
        | cons g4 r4 => cases r4 with
          | cons g5 r5 =>
            cases r5
            have := RepP.eq g5
            subst this
            exact .cons ⟨g1.one, g1⟩ (.cons ⟨g2.one, g2⟩ (.cons ⟨g3.one, g3⟩ (.cons ⟨g4.one, g4⟩ (.cons ⟨rfl, .inl ⟨bup_same _ _ _, rfl, rfl⟩⟩ .nil))))
theorem Le.toP5 {cx : Cx} {st : St} (k : Nat) (E : TypeId) (a b c d e : PV) (hf : find st.objs k = some (.cells E [.p a, .p b, .p c, .p d, .p e])) : Le cx st ⟨st.tmps, upd st.objs k (.pcells E [a, b, c, d, e])⟩ := by
  unfold Le
  rintro w0 w ⟨fz, β, hs⟩
  refine ⟨fz, β, hs.reob (k := k) ?_⟩
  obtain ⟨bl, vs, h2, h3, h4⟩ := hs.h.ob k _ hf
  refine ⟨bl, vs, h2, h3, ?_⟩
  cases h4 with
  | cons g1 r1 => cases r1 with
    | cons g2 r2 => cases r2 with
      | cons g3 r3 => cases r3 with
        | cons g4 r4 => cases r4 with
          | cons g5 r5 => cases r5; exact .cons g1.2 (.cons g2.2 (.cons g3.2 (.cons g4.2 (.cons g5.2 .nil))))
end Go.Proofs.Vl
