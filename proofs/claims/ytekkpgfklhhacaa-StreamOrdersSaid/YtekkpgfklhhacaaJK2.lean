import Derived.Test.YtekkpgfklhhacaaJK1
set_option linter.all false
set_option maxRecDepth 2000
set_option maxHeartbeats 8000000
namespace Go.Proofs.Vl
open Go Go.RowKit
attribute [local irreducible] AWp OpTo Run DL Val UN DR AC Le thn inb nog
def wordB (l : List Int) : Bool := match l with
  | [] => false
  | c :: r => letB c && longN goesB (c :: r) == (c :: r).length
theorem toList_len (s : ByteArray) : s.toList.length = s.size := by rw [ByteArray.toList_eq]; simp
theorem nilS (s : ByteArray) : (s.toList == (ByteArray.mk #[]).toList) = decide (s.size = 0) := by
  have h0 : (ByteArray.mk #[]).toList = [] := by rw [ByteArray.toList_eq]
  rw [h0]
  have h := toList_len s
  cases hs : s.toList with
  | nil => rw [hs] at h; simp at h; simp [← h]
  | cons c r =>
    rw [hs] at h
    have : s.size ≠ 0 := by rw [← h]; simp
    simp [this]
theorem bys_cons (s : ByteArray) (h : 0 < s.size) : ∃ r, bys s = ((s[0]'h).toNat : Int) :: r := by
  have hl : 0 < (bys s).length := by rw [bys_len]; exact h
  refine ⟨(bys s).drop 1, ?_⟩
  have := List.drop_eq_getElem_cons hl
  rw [List.drop_zero] at this
  rw [this]
  congr 1
  simp [bys]; rfl
abbrev tk (nm : ByteArray) (c t d j q p : Int) : List PV := [.s (.string nm), .s (.int .i64 c), .s (.int .i64 t), .s (.int .i64 d), .s (.int .i64 j), .s (.int .i64 q), .s (.int .i64 p)]
def wiB (n : Int) : Bool := decide (n ≥ 0) && decide (n ≤ 2147483647)
def fitB (c t d j q : Int) : Bool := decide (q ≤ c) && decide (IntKind.i64.wrap (c + j) ≤ d) && decide (d ≤ t)
def rngB (nm : ByteArray) (c t d j q p : Int) : Bool := wordB (bys nm) && decide ((nm.size : Int) ≤ 32) && decide ([t, d, q].foldl (fun a b => if b < a then b else a) c > 0) && wiB c && wiB t && wiB d && wiB q && wiB j && decide (p ≥ 1) && decide (p ≤ 1048576)
end Go.Proofs.Vl
