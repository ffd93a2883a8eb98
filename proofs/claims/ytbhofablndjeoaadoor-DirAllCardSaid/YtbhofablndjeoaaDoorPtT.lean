/- Pointers at blocks as cells, and rows of them. -/
import Derived.Test.YtbhofablndjeoaaDoorOp
import Derived.Test.YtbhofablndjeoaaDoorProg
namespace Go.Proofs.YtbhofablndjeoaaDoor
open Go.RowKit

/-- a pointer at a block -/
structure PtrT where
  ag : Int
  aa : Int
  bg : Int
  ba : Int
  two : Bool
  size : Int
  level : Int
  birth : Int
  s0 : Int
  s1 : Int
  s2 : Int
  s3 : Int
  deriving DecidableEq
def I64' (x : Int) : Prop := -9223372036854775808 ≤ x ∧ x ≤ 9223372036854775807
structure PtrT.ok (p : PtrT) : Prop where
  ag : I64' p.ag
  aa : I64' p.aa
  bg : I64' p.bg
  ba : I64' p.ba
  size : I64' p.size
  level : I64' p.level
  birth : I64' p.birth
def encPtr (p : PtrT) : List Value := [.int .i64 p.ag, .int .i64 p.aa, .int .i64 p.bg, .int .i64 p.ba, .bool p.two, .int .i64 p.size, .int .i64 p.level, .int .i64 p.birth, .int .u64 p.s0, .int .u64 p.s1, .int .u64 p.s2, .int .u64 p.s3]
def pD : PtrT := ⟨0, 0, 0, 0, false, 0, 0, 0, 0, 0, 0, 0⟩
def encPs (l : List PtrT) : List Value := l.flatMap encPtr
theorem encPs_append (a b : List PtrT) : encPs (a ++ b) = encPs a ++ encPs b := by simp [encPs]
theorem encPs_one (l : List PtrT) : ∀ u ∈ encPs l, u.oneCell' = true := by
  intro u hu
  simp only [encPs, List.mem_flatMap, encPtr, List.mem_cons, List.not_mem_nil, or_false] at hu
  obtain ⟨c, _, h⟩ := hu
  rcases h with rfl | rfl | rfl | rfl | rfl | rfl | rfl | rfl | rfl | rfl | rfl | rfl <;> rfl
theorem encPs_length (l : List PtrT) : (encPs l).length = l.length * 12 := by
  unfold encPs
  induction l with
  | nil => rfl
  | cons a r ih => simp only [List.flatMap_cons, List.length_append, ih, List.length_cons]; simp [encPtr]; omega
theorem encPs_get (l : List PtrT) (k i : Nat) (hk : k < l.length) (hi : i < 12) : (encPs l)[k * 12 + i]? = (encPtr (l.getD k pD))[i]? := flat_get (f := encPtr) (K := 12) (fun _ => rfl) l k i pD hk hi
theorem infoPt : (Tryd.prog.info? 35).map (fun i => (i.zero, i.size, i.bytes)) = some (some (.agg #[.int .i64 0, .int .i64 0, .int .i64 0, .int .i64 0, .bool false, .int .i64 0, .int .i64 0, .int .i64 0, .int .u64 0, .int .u64 0, .int .u64 0, .int .u64 0]), 12, 96) := by kernel_rfl
/-- the cells of a row's pointer -/
theorem row_ptr {w : World} {base g n cap : Nat} {l : List PtrT} (h : w.ownsRow base 35 12 (.slice (some ⟨g, 0, none⟩) n cap) n (encPs l)) (hl : l.length = n) {k : Nat} (hk : k < n) {p0 p1 p2 p3 : Int} {p4 : Bool} {p5 p6 p7 p8 p9 p10 p11 : Int} (hp : l.getD k pD = ⟨p0, p1, p2, p3, p4, p5, p6, p7, p8, p9, p10, p11⟩) :
    w.cell? ⟨g, k * 12, none⟩ = some (.int .i64 p0) ∧ w.cell? ⟨g, k * 12 + 1, none⟩ = some (.int .i64 p1) ∧ w.cell? ⟨g, k * 12 + 2, none⟩ = some (.int .i64 p2) ∧ w.cell? ⟨g, k * 12 + 3, none⟩ = some (.int .i64 p3) ∧ w.cell? ⟨g, k * 12 + 4, none⟩ = some (.bool p4) ∧ w.cell? ⟨g, k * 12 + 5, none⟩ = some (.int .i64 p5) ∧
      w.cell? ⟨g, k * 12 + 6, none⟩ = some (.int .i64 p6) ∧ w.cell? ⟨g, k * 12 + 7, none⟩ = some (.int .i64 p7) ∧ w.cell? ⟨g, k * 12 + 8, none⟩ = some (.int .u64 p8) ∧ w.cell? ⟨g, k * 12 + 9, none⟩ = some (.int .u64 p9) ∧ w.cell? ⟨g, k * 12 + 10, none⟩ = some (.int .u64 p10) ∧ w.cell? ⟨g, k * 12 + 11, none⟩ = some (.int .u64 p11) := by
  have hc : ∀ i, i < 12 → w.cell? ⟨g, k * 12 + i, none⟩ = (encPtr ⟨p0, p1, p2, p3, p4, p5, p6, p7, p8, p9, p10, p11⟩)[i]? := fun i hi => by
    rw [h.cellAt _ (by omega), encPs_get l k i (by omega) hi, hp]
  exact ⟨hc 0 (by omega), hc 1 (by omega), hc 2 (by omega), hc 3 (by omega), hc 4 (by omega), hc 5 (by omega), hc 6 (by omega), hc 7 (by omega), hc 8 (by omega), hc 9 (by omega), hc 10 (by omega), hc 11 (by omega)⟩
end Go.Proofs.YtbhofablndjeoaaDoor
