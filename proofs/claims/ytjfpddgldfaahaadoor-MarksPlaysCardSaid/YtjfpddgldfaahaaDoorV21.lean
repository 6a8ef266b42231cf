/- More: keys of maps, texts' bytes, cuts of texts. -/
import Derived.Test.YtjfpddgldfaahaaDoorV20
set_option linter.all false
namespace Go.Proofs.Vl
open Go Go.RowKit
section
variable {P : Program} {cx : Cx} {st : St} {a : Act} {w : World} {fz : Nat → Prop} {β : Nat → Option Nat} {Q : Exit → St → Prop} {c : Code}
variable {kp : Bool} {K : St → Prop} {dst : Option Tmp} {ty T T' E : TypeId} {pos : String} {af : Array Edge} {gd : Option (Nat × Bool)} {x y : Operand} {k : Nat}
/-! ### Keys -/
theorem fn_keys {κ : Type} [DecidableEq κ] {D : TypeDesc} (g : κ → Value) (hs : ∀ a b, Instr.sameNow D (g a) (g b) = some (decide (a = b))) (x : κ) :
    ∀ (es : List MapEntry) (ks : List κ) (n : Nat), es.map (·.key) = ks.map g → (x ∉ ks → Instr.findNow D (g x) es n = some none) ∧ (x ∈ ks → ∃ i e, e ∈ es ∧ i < es.length ∧ Instr.findNow D (g x) es n = some (some (n + i, e.val)))
  | [], [], n, _ => ⟨fun _ => rfl, fun h => by cases h⟩
  | [], _ :: _, n, h => by simp at h
  | _ :: _, [], n, h => by simp at h
  | e :: es, k :: ks, n, h => by
    simp only [List.map_cons, List.cons.injEq] at h
    obtain ⟨h1, h2⟩ := h
    have ih := fn_keys g hs x es ks (n + 1) h2
    have e1 : Instr.sameNow D (g x) e.key = some (decide (x = k)) := by rw [h1]; exact hs _ _
    by_cases hx : x = k
    · subst hx
      refine ⟨fun h => absurd List.mem_cons_self h, fun _ => ⟨0, e, List.mem_cons_self, by simp, ?_⟩⟩
      unfold Instr.findNow; rw [e1]; simp
    · have e2 : Instr.findNow D (g x) (e :: es) n = Instr.findNow D (g x) es (n + 1) := by
        conv => lhs; unfold Instr.findNow
        rw [e1]; simp [hx]
      rw [e2]
      refine ⟨fun h => ih.1 fun h3 => h (List.mem_cons_of_mem _ h3), fun h => ?_⟩
      obtain ⟨i, e', h3, h4, h5⟩ := ih.2 ((List.mem_cons.1 h).resolve_left hx)
      exact ⟨i + 1, e', List.mem_cons_of_mem _ h3, by simp; omega, by rw [h5, show n + 1 + i = n + (i + 1) by omega]⟩
theorem same_int {q : IntKind} (a b : Int) : Instr.sameNow (.int q) (.int q a) (.int q b) = some (decide (a = b)) := by
  show (if q = q then some (a == b) else none) = _
  rw [if_pos rfl]; rfl
theorem same_str (a b : ByteArray) : Instr.sameNow .string (.string a) (.string b) = some (decide (a = b)) := by
  show some (a == b) = _
  congr 1
  rw [Bool.eq_iff_iff, MapKept.bytes_beq]; simp
theorem fn_push {D : TypeDesc} {key : Value} (hs : Instr.sameNow D key key = some true) (v : Value) (b : Nat) : ∀ {es : List MapEntry} {n : Nat}, Instr.findNow D key es n = some none → Instr.findNow D key (es ++ [⟨key, v, b⟩]) n = some (some (n + es.length, v))
  | [], n, _ => by simp [Instr.findNow, hs]
  | e :: es, n, h => by
    unfold Instr.findNow at h
    rw [List.cons_append]
    unfold Instr.findNow
    split at h
    · cases h
    · rename_i hf
      have := fn_push hs v b h
      first | rw [hf] | skip
      simp only [this, List.length_cons]
      congr 3; omega
    · cases h
theorem fn_mod {D : TypeDesc} {key : Value} (hs : Instr.sameNow D key key = some true) (v v0 : Value) : ∀ {es : List MapEntry} {n i : Nat}, Instr.findNow D key es n = some (some (n + i, v0)) → Instr.findNow D key (es.modify i (fun e => { e with key := key, val := v })) n = some (some (n + i, v))
  | [], n, i, h => by simp [Instr.findNow] at h
  | e :: es, n, i, h => by
    unfold Instr.findNow at h
    split at h
    · rename_i hf
      simp only [Option.some.injEq, Prod.mk.injEq] at h
      have hi : i = 0 := by omega
      subst hi
      show Instr.findNow D key ({ e with key := key, val := v } :: es) n = _
      unfold Instr.findNow
      simp [hs]
    · rename_i hf
      cases i with
      | zero => obtain ⟨e', h1, _⟩ := findNow_some h; omega
      | succ i =>
        show Instr.findNow D key (e :: es.modify i _) n = _
        unfold Instr.findNow
        rw [hf]
        have := fn_mod hs v v0 (n := n + 1) (i := i) (by rw [show n + 1 + i = n + (i + 1) by omega]; exact h)
        rw [show n + (i + 1) = n + 1 + i by omega]; exact this
    · cases h
/-! ### Texts -/
def bys (s : ByteArray) : List Int := s.data.toList.map fun c => (c.toNat : Int)
theorem bys_len (s : ByteArray) : (bys s).length = s.size := by simp [bys]
theorem bys_rng (s : ByteArray) : ∀ c ∈ bys s, 0 ≤ c ∧ c < 256 := by
  intro c h
  obtain ⟨b, _, rfl⟩ := List.mem_map.1 h
  have := b.toNat_lt
  exact ⟨by omega, by omega⟩
theorem bys_inj {s t : ByteArray} (h : bys s = bys t) : s = t := by
  apply ByteArray.ext; apply Array.ext'
  have hf : Function.Injective (fun c : UInt8 => ((c.toNat : Nat) : Int)) := fun a b h => UInt8.toNat_inj.1 (Int.ofNat_inj.1 h)
  exact (List.map_inj_right (fun a b h => hf h)).1 h
def strI (P : Program) (T : TypeId) : Bool := match P.underlying T with
  | some .string => true
  | _ => false
theorem strI_spec (h : strI P T = true) : P.underlying T = some .string := by
  unfold strI at h; split at h
  · rename_i hu; exact hu
  · cases h
theorem Val.idxN {s : ByteArray} {kd : IntKind} {j : Nat} (hu : strI P T = true) (hx : st.op cx x = .c (.p (.s (.string s)))) (hy : st.op cx y = .c (.p (.s (.int kd (j : Int))))) (h1 : okOp x = true) (h2 : okOp y = true) (hl : j < (bys s).length) :
    Val P cx true ⟨dst, .index T x y, ty, pos, af, gd⟩ st (.c (.p (.s (.int .u8 (bys s)[j])))) := by
  have hl' : j < s.size := by rw [← bys_len]; exact hl
  have := Val.idxS (P := P) (dst := dst) (ty := ty) (pos := pos) (af := af) (gd := gd) (i := (j : Int)) (strI_spec hu) hx hy h1 h2 (by omega) (by simpa using hl')
  have e : ((s[((j : Int)).toNat]'(by simpa using hl')).toNat : Int) = (bys s)[j] := by simp [bys]; rfl
  rw [e] at this; exact this
theorem Val.idxZ {s : ByteArray} {kd : IntKind} {i : Int} (j : Nat) (hu : strI P T = true) (hx : st.op cx x = .c (.p (.s (.string s)))) (hy : st.op cx y = .c (.p (.s (.int kd i)))) (h1 : okOp x = true) (h2 : okOp y = true) (hi : i = (j : Int)) (hl : j < (bys s).length) :
    Val P cx true ⟨dst, .index T x y, ty, pos, af, gd⟩ st (.c (.p (.s (.int .u8 (bys s)[j])))) := by
  subst hi; exact Val.idxN hu hx hy h1 h2 hl
/-- A cut of a text. -/
theorem Val.cutS {s : ByteArray} {lo hi : Option Operand} {l h : Nat} (hu : strI P T = true) (ho : okOp x = true) (hx : st.op cx x = .c (.p (.s (.string s)))) (hl : Bnd cx st lo 0 l) (hh : Bnd cx st hi s.size h) (hlh : l ≤ h) (hhn : h ≤ s.size) :
    Val P cx true ⟨dst, .slice T x lo hi none, ty, pos, af, gd⟩ st (.c (.p (.s (.string (s.extract l h))))) := fun a w fz β hs => by
  have e := hs.eq hx ho
  have h1 := hs.bnd hl
  have h2 := hs.bnd hh
  refine ⟨.string (s.extract l h), RepP.s _ rfl, fun w' _ => ?_⟩
  have hb : ∀ (k : IntKind) (v : Int) (y : Nat) (code : BoundsCode), 0 ≤ v → v.toNat ≤ y → (Instr.sliceBound (.int k v) y code).run P w' = .ok v.toNat w' := fun k v y code h0 hy => by
    have : 0 ≤ v ∧ v ≤ (y : Int) := ⟨h0, by omega⟩
    simp [Instr.sliceBound, asIntOf, this]
  have hbs : (Instr.sliceBounds false s.size s.size (lo.map a.eval) (hi.map a.eval) none).run P w' = .ok (l, h, s.size) w' := by
    rcases h1 with ⟨h1, rfl⟩ | ⟨k1, v1, h1, g1, rfl⟩ <;> rcases h2 with ⟨h2, rfl⟩ | ⟨k2, v2, h2, g2, rfl⟩ <;> rw [h1, h2]
    · simp [Instr.sliceBounds]
    · simp [Instr.sliceBounds, hb k2 v2 _ _ g2 hhn]
    · simp [Instr.sliceBounds, hb k1 v1 _ _ g1 hlh]
    · simp [Instr.sliceBounds, hb k2 v2 _ _ g2 hhn, hb k1 v1 _ _ g1 hlh]
  simp [execOp, e, Instr.sliceAt, Instr.slice, run_underlying (strI_spec hu), hbs]
theorem bys_extract (s : ByteArray) (l h : Nat) : bys (s.extract l h) = ((bys s).take h).drop l := by
  simp [bys, List.map_drop, List.map_take, ByteArray.data_extract, Array.toList_extract, List.extract_eq_drop_take, List.take_drop]
  by_cases hlh : l ≤ h
  · rw [show l + (h - l) = h by omega]
  · rw [List.drop_of_length_le (by simp; omega), List.drop_of_length_le (by simp; omega)]
theorem str_beq (s t : ByteArray) : (s.toList == t.toList) = (bys s == bys t) := by
  rw [Bool.eq_iff_iff, beq_iff_eq, beq_iff_eq, ByteArray.toList_eq, ByteArray.toList_eq]
  constructor
  · intro h; simp only [bys, h]
  · intro h; rw [bys_inj h]
theorem str_beq' (s t : ByteArray) : (s.toList == t.toList) = decide (s = t) := by
  rw [str_beq, Bool.eq_iff_iff, beq_iff_eq, decide_eq_true_eq]
  exact ⟨bys_inj, fun h => by rw [h]⟩
/-! ### Maps: both ways -/
theorem Val.lookN {kt : TypeId} {D : TypeDesc} {z key : Value} {es : List MapEntry} {cl : Nat} (hT : mapI P T = some (kt, D, z)) (h1 : okOp x = true) (h2 : okOp y = true) (hx : st.op cx x = .c (.mp k)) (hf : find st.objs k = some (.mapo es cl))
    (hy : st.op cx y = .c (.p (.s key))) (hk : keyOk D key = true) (ho : z.oneCell' = true) (hr : Instr.findNow D key es 0 = some none) :
    Val P cx false ⟨dst, .lookup T x y false, ty, pos, af, gd⟩ st (.c (.p (.s z))) := Val.lookup (r := none) hT h1 h2 hx hf hy hk hr ho
theorem Val.lookS {kt : TypeId} {D : TypeDesc} {z key v : Value} {i : Nat} {es : List MapEntry} {cl : Nat} (hT : mapI P T = some (kt, D, z)) (h1 : okOp x = true) (h2 : okOp y = true) (hx : st.op cx x = .c (.mp k)) (hf : find st.objs k = some (.mapo es cl))
    (hy : st.op cx y = .c (.p (.s key))) (hk : keyOk D key = true) (hr : Instr.findNow D key es 0 = some (some (i, v))) (ho : v.oneCell' = true) :
    Val P cx false ⟨dst, .lookup T x y false, ty, pos, af, gd⟩ st (.c (.p (.s v))) := Val.lookup (r := some (i, v)) hT h1 h2 hx hf hy hk hr ho
theorem OpTo.updN {z : Operand} {kt : TypeId} {D : TypeDesc} {zv key v : Value} {es : List MapEntry} {cl : Nat} (hT : mapI P T = some (kt, D, zv)) (h1 : okOp x = true) (h2 : okOp y = true) (h3 : okOp z = true) (hx : st.op cx x = .c (.mp k)) (hf : find st.objs k = some (.mapo es cl))
    (hy : st.op cx y = .c (.p (.s key))) (hz : st.op cx z = .c (.p (.s v))) (hk : keyOk D key = true) (hr : Instr.findNow D key es 0 = some none)
    (kk : K ⟨st.tmps, upd st.objs k (.mapo (es ++ [⟨key, v, cl⟩]) (cl + 1))⟩) :
    OpTo P cx false ⟨none, .mapUpdate T x y z, ty, pos, af, gd⟩ st K := OpTo.mapUpd hT h1 h2 h3 hx hf hy hz hk hr rfl kk
theorem OpTo.updS {z : Operand} {kt : TypeId} {D : TypeDesc} {zv key v v0 : Value} {i : Nat} {es : List MapEntry} {cl : Nat} (hT : mapI P T = some (kt, D, zv)) (h1 : okOp x = true) (h2 : okOp y = true) (h3 : okOp z = true) (hx : st.op cx x = .c (.mp k)) (hf : find st.objs k = some (.mapo es cl))
    (hy : st.op cx y = .c (.p (.s key))) (hz : st.op cx z = .c (.p (.s v))) (hk : keyOk D key = true) (hr : Instr.findNow D key es 0 = some (some (i, v0)))
    (kk : K ⟨st.tmps, upd st.objs k (.mapo (es.modify i (fun e => { e with key := key, val := v })) cl)⟩) :
    OpTo P cx false ⟨none, .mapUpdate T x y z, ty, pos, af, gd⟩ st K := OpTo.mapUpd hT h1 h2 h3 hx hf hy hz hk hr rfl kk
theorem self_str (a : ByteArray) : Instr.sameNow .string (.string a) (.string a) = some true := by rw [same_str]; simp
theorem self_int {q : IntKind} (a : Int) : Instr.sameNow (.int q) (.int q a) (.int q a) = some true := by rw [same_int]; simp
/-! ### What kind of operation comes next -/
variable {ds : List (Option Tmp)} {wr : List Nat} {r : List (Nat × Oper)} {i : Nat} {gd : Option (Nat × Bool)}
theorem isAdd {a : TypeId} {b c : Operand} {d : TypeId} (h : OpTo P cx kp ⟨dst, .binOp .add a b c d, ty, pos, af, gd⟩ st K) : OpTo P cx kp ⟨dst, .binOp .add a b c d, ty, pos, af, gd⟩ st K := h
theorem isAddD {a : TypeId} {b c : Operand} {d : TypeId} (h : DL P cx ds wr ((i, ⟨dst, .binOp .add a b c d, ty, pos, af, gd⟩) :: r) st K) : DL P cx ds wr ((i, ⟨dst, .binOp .add a b c d, ty, pos, af, gd⟩) :: r) st K := h
theorem isSub {a : TypeId} {b c : Operand} {d : TypeId} (h : OpTo P cx kp ⟨dst, .binOp .sub a b c d, ty, pos, af, gd⟩ st K) : OpTo P cx kp ⟨dst, .binOp .sub a b c d, ty, pos, af, gd⟩ st K := h
theorem isSubD {a : TypeId} {b c : Operand} {d : TypeId} (h : DL P cx ds wr ((i, ⟨dst, .binOp .sub a b c d, ty, pos, af, gd⟩) :: r) st K) : DL P cx ds wr ((i, ⟨dst, .binOp .sub a b c d, ty, pos, af, gd⟩) :: r) st K := h
theorem isMul {a : TypeId} {b c : Operand} {d : TypeId} (h : OpTo P cx kp ⟨dst, .binOp .mul a b c d, ty, pos, af, gd⟩ st K) : OpTo P cx kp ⟨dst, .binOp .mul a b c d, ty, pos, af, gd⟩ st K := h
theorem isMulD {a : TypeId} {b c : Operand} {d : TypeId} (h : DL P cx ds wr ((i, ⟨dst, .binOp .mul a b c d, ty, pos, af, gd⟩) :: r) st K) : DL P cx ds wr ((i, ⟨dst, .binOp .mul a b c d, ty, pos, af, gd⟩) :: r) st K := h
theorem isQuo {a : TypeId} {b c : Operand} {d : TypeId} (h : OpTo P cx kp ⟨dst, .binOp .quo a b c d, ty, pos, af, gd⟩ st K) : OpTo P cx kp ⟨dst, .binOp .quo a b c d, ty, pos, af, gd⟩ st K := h
theorem isQuoD {a : TypeId} {b c : Operand} {d : TypeId} (h : DL P cx ds wr ((i, ⟨dst, .binOp .quo a b c d, ty, pos, af, gd⟩) :: r) st K) : DL P cx ds wr ((i, ⟨dst, .binOp .quo a b c d, ty, pos, af, gd⟩) :: r) st K := h
theorem isRem {a : TypeId} {b c : Operand} {d : TypeId} (h : OpTo P cx kp ⟨dst, .binOp .rem a b c d, ty, pos, af, gd⟩ st K) : OpTo P cx kp ⟨dst, .binOp .rem a b c d, ty, pos, af, gd⟩ st K := h
theorem isRemD {a : TypeId} {b c : Operand} {d : TypeId} (h : DL P cx ds wr ((i, ⟨dst, .binOp .rem a b c d, ty, pos, af, gd⟩) :: r) st K) : DL P cx ds wr ((i, ⟨dst, .binOp .rem a b c d, ty, pos, af, gd⟩) :: r) st K := h
theorem isBin {o : BinOp} {a : TypeId} {b c : Operand} {d : TypeId} (h : OpTo P cx kp ⟨dst, .binOp o a b c d, ty, pos, af, gd⟩ st K) : OpTo P cx kp ⟨dst, .binOp o a b c d, ty, pos, af, gd⟩ st K := h
theorem isBinD {o : BinOp} {a : TypeId} {b c : Operand} {d : TypeId} (h : DL P cx ds wr ((i, ⟨dst, .binOp o a b c d, ty, pos, af, gd⟩) :: r) st K) : DL P cx ds wr ((i, ⟨dst, .binOp o a b c d, ty, pos, af, gd⟩) :: r) st K := h
theorem isConv {a b : TypeId} {c : Operand} (h : OpTo P cx kp ⟨dst, .convert a b c, ty, pos, af, gd⟩ st K) : OpTo P cx kp ⟨dst, .convert a b c, ty, pos, af, gd⟩ st K := h
theorem isConvD {a b : TypeId} {c : Operand} (h : DL P cx ds wr ((i, ⟨dst, .convert a b c, ty, pos, af, gd⟩) :: r) st K) : DL P cx ds wr ((i, ⟨dst, .convert a b c, ty, pos, af, gd⟩) :: r) st K := h
theorem isIxA {a : TypeId} {b c : Operand} (h : OpTo P cx kp ⟨dst, .indexAddr a b c, ty, pos, af, gd⟩ st K) : OpTo P cx kp ⟨dst, .indexAddr a b c, ty, pos, af, gd⟩ st K := h
theorem isIxAD {a : TypeId} {b c : Operand} (h : DL P cx ds wr ((i, ⟨dst, .indexAddr a b c, ty, pos, af, gd⟩) :: r) st K) : DL P cx ds wr ((i, ⟨dst, .indexAddr a b c, ty, pos, af, gd⟩) :: r) st K := h
theorem isIx {a : TypeId} {b c : Operand} (h : OpTo P cx kp ⟨dst, .index a b c, ty, pos, af, gd⟩ st K) : OpTo P cx kp ⟨dst, .index a b c, ty, pos, af, gd⟩ st K := h
theorem isIxD {a : TypeId} {b c : Operand} (h : DL P cx ds wr ((i, ⟨dst, .index a b c, ty, pos, af, gd⟩) :: r) st K) : DL P cx ds wr ((i, ⟨dst, .index a b c, ty, pos, af, gd⟩) :: r) st K := h
theorem isLoad {a : TypeId} {b : Operand} (h : OpTo P cx kp ⟨dst, .load a b, ty, pos, af, gd⟩ st K) : OpTo P cx kp ⟨dst, .load a b, ty, pos, af, gd⟩ st K := h
theorem isLoadD {a : TypeId} {b : Operand} (h : DL P cx ds wr ((i, ⟨dst, .load a b, ty, pos, af, gd⟩) :: r) st K) : DL P cx ds wr ((i, ⟨dst, .load a b, ty, pos, af, gd⟩) :: r) st K := h
theorem isStore {a : TypeId} {b c : Operand} (h : OpTo P cx kp ⟨dst, .store a b c, ty, pos, af, gd⟩ st K) : OpTo P cx kp ⟨dst, .store a b c, ty, pos, af, gd⟩ st K := h
theorem isStoreD {a : TypeId} {b c : Operand} (h : DL P cx ds wr ((i, ⟨dst, .store a b c, ty, pos, af, gd⟩) :: r) st K) : DL P cx ds wr ((i, ⟨dst, .store a b c, ty, pos, af, gd⟩) :: r) st K := h
theorem isAlloc {a : TypeId} (h : OpTo P cx kp ⟨dst, .alloc a, ty, pos, af, gd⟩ st K) : OpTo P cx kp ⟨dst, .alloc a, ty, pos, af, gd⟩ st K := h
theorem isAllocD {a : TypeId} (h : DL P cx ds wr ((i, ⟨dst, .alloc a, ty, pos, af, gd⟩) :: r) st K) : DL P cx ds wr ((i, ⟨dst, .alloc a, ty, pos, af, gd⟩) :: r) st K := h
theorem isBox {a : TypeId} {b : Operand} (h : OpTo P cx kp ⟨dst, .box a b, ty, pos, af, gd⟩ st K) : OpTo P cx kp ⟨dst, .box a b, ty, pos, af, gd⟩ st K := h
theorem isBoxD {a : TypeId} {b : Operand} (h : DL P cx ds wr ((i, ⟨dst, .box a b, ty, pos, af, gd⟩) :: r) st K) : DL P cx ds wr ((i, ⟨dst, .box a b, ty, pos, af, gd⟩) :: r) st K := h
theorem isBuild {a : TypeId} {b : Array (Nat × Operand)} (h : OpTo P cx kp ⟨dst, .build a b, ty, pos, af, gd⟩ st K) : OpTo P cx kp ⟨dst, .build a b, ty, pos, af, gd⟩ st K := h
theorem isBuildD {a : TypeId} {b : Array (Nat × Operand)} (h : DL P cx ds wr ((i, ⟨dst, .build a b, ty, pos, af, gd⟩) :: r) st K) : DL P cx ds wr ((i, ⟨dst, .build a b, ty, pos, af, gd⟩) :: r) st K := h
theorem isMkFn {a : Fn} {b c : Array Operand} (h : OpTo P cx kp ⟨dst, .makeFunc a b c, ty, pos, af, gd⟩ st K) : OpTo P cx kp ⟨dst, .makeFunc a b c, ty, pos, af, gd⟩ st K := h
theorem isMkFnD {a : Fn} {b c : Array Operand} (h : DL P cx ds wr ((i, ⟨dst, .makeFunc a b c, ty, pos, af, gd⟩) :: r) st K) : DL P cx ds wr ((i, ⟨dst, .makeFunc a b c, ty, pos, af, gd⟩) :: r) st K := h
theorem isMkMap {a : TypeId} {b : Option Operand} (h : OpTo P cx kp ⟨dst, .makeMap a b, ty, pos, af, gd⟩ st K) : OpTo P cx kp ⟨dst, .makeMap a b, ty, pos, af, gd⟩ st K := h
theorem isMkMapD {a : TypeId} {b : Option Operand} (h : DL P cx ds wr ((i, ⟨dst, .makeMap a b, ty, pos, af, gd⟩) :: r) st K) : DL P cx ds wr ((i, ⟨dst, .makeMap a b, ty, pos, af, gd⟩) :: r) st K := h
theorem noG {o : Op} (h : DL P cx ds wr ((i, ⟨dst, o, ty, pos, af, none⟩) :: r) st K) : DL P cx ds wr ((i, ⟨dst, o, ty, pos, af, none⟩) :: r) st K := h
end
end Go.Proofs.Vl
