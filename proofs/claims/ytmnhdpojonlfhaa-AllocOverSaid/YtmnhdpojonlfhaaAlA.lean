/- polderlaw12's acts as they come in. -/
import Derived.Test.YtmnhdpojonlfhaaOp
import Derived.Test.YtmnhdpojonlfhaaAlW
namespace Go.Proofs.Ytmnhdpojonlfhaa
open Go.RowKit Go.ChangeShapes Go.WideShapes Go.Deep

/-- a pointer at a block -/
structure PtrT where
  ag : Int
  aa : Int
  bg : Int
  ba : Int
  two : Bool
  size : Int
  level : Int
  birth : Int
  s0 : Int
  s1 : Int
  s2 : Int
  s3 : Int
structure ActB where
  do_ : Int
  size : Int
  two : Bool
  p : PtrT
  n : Int
def I64' (x : Int) : Prop := -9223372036854775808 ≤ x ∧ x ≤ 9223372036854775807
structure PtrT.ok (p : PtrT) : Prop where
  ag : I64' p.ag
  aa : I64' p.aa
  bg : I64' p.bg
  ba : I64' p.ba
  size : I64' p.size
  level : I64' p.level
  birth : I64' p.birth
structure ActB.ok (a : ActB) : Prop where
  size : I64' a.size
  p : a.p.ok
def encPtr (p : PtrT) : List Value := [.int .i64 p.ag, .int .i64 p.aa, .int .i64 p.bg, .int .i64 p.ba, .bool p.two, .int .i64 p.size, .int .i64 p.level, .int .i64 p.birth, .int .u64 p.s0, .int .u64 p.s1, .int .u64 p.s2, .int .u64 p.s3]
def encB1 (r : ActB) : List Value := [.int .u8 r.do_, .int .i64 r.size, .bool r.two, .int .i64 r.p.ag, .int .i64 r.p.aa, .int .i64 r.p.bg, .int .i64 r.p.ba, .bool r.p.two, .int .i64 r.p.size, .int .i64 r.p.level, .int .i64 r.p.birth, .int .u64 r.p.s0, .int .u64 r.p.s1, .int .u64 r.p.s2, .int .u64 r.p.s3, .int .u8 r.n]
def aD : ActB := ⟨0, 0, false, ⟨0, 0, 0, 0, false, 0, 0, 0, 0, 0, 0, 0⟩, 0⟩
instance : Inhabited ActB := ⟨aD⟩
def encB (l : List ActB) : List Value := l.flatMap encB1
/-- a slice of acts -/
def BSl (w : World) (ao : Option Addr) (n cap : Nat) (zs : List ActB) : Prop := RSl w 16 ao n cap (encB zs) ∧ ∀ r ∈ zs, r.ok
theorem BSl.below {w w' : World} {ao : Option Addr} {n cap : Nat} {zs : List ActB} (h : BSl w ao n cap zs) (hb : Below w.heap.size w w') : BSl w' ao n cap zs := ⟨h.1.below hb, h.2⟩
theorem encB_length (l : List ActB) : (encB l).length = l.length * 16 := by
  unfold encB
  induction l with
  | nil => rfl
  | cons a r ih => simp only [List.flatMap_cons, List.length_append, ih, List.length_cons]; simp [encB1]; omega
theorem BSl.len {w : World} {ao : Option Addr} {n cap : Nat} {zs : List ActB} (h : BSl w ao n cap zs) : zs.length = n := by
  have := h.1.1
  rw [encB_length] at this
  omega
theorem BSl.mx {w : World} {ao : Option Addr} {n cap : Nat} {zs : List ActB} (h : BSl w ao n cap zs) : n ≤ 9223372036854775807 := by
  have h1 := h.1.2.1
  have h2 := h.1.2.2.1
  unfold maxLen at h2
  omega
/-- an act's cells -/
theorem BSl.cells {w : World} {ao : Option Addr} {n cap : Nat} {zs : List ActB} (h : BSl w ao n cap zs) (hn : 0 < n) : ∃ b off, ao = some ⟨b, off, none⟩ ∧ b < w.heap.size ∧ ∀ k, k < n →
    (zs.getD k aD).ok ∧ ∀ j, j < 16 → w.cell? ⟨b, off + (k * 16 + j), none⟩ = (encB1 (zs.getD k aD))[j]? := by
  obtain ⟨b, off, e, hb, hc⟩ := h.1.2.2.2.2 hn
  have hl := h.len
  refine ⟨b, off, e, hb, fun k hk => ⟨h.2 _ ?_, fun j hj => ?_⟩⟩
  · rw [List.getD_eq_getElem?_getD, List.getElem?_eq_getElem (show k < zs.length by omega)]; exact List.getElem_mem _
  · rw [hc _ (by omega)]
    exact flat_get (f := encB1) (K := 16) (fun a => rfl) zs k j aD (by omega) hj

section
variable {H : Type} {enc : TypeId × Value → H} {W : World} {base : Nat} {spare : Nat → Bool} {held : Bool}
set_option maxRecDepth 100000 in
theorem open_acts12 {a : Option Addr} {len cap : Nat} {d : DataW H} {p : List MemPlace} (h : DataW.Trod enc Try.prog W base spare held 104 (.slice a len cap) d p) : ∃ zs, BSl W a len cap zs := by
  obtain ⟨g, hg, hf⟩ := open_flat (n := 9) (K := 16) (ks := [.int .u8, .int .i64, .bool, .int .i64, .int .i64, .int .i64, .int .i64, .bool, .int .i64, .int .i64, .int .i64, .int .u64, .int .u64, .int .u64, .int .u64, .int .u8]) Try.underlying104 (by kernel_rfl) rfl (by kernel_rfl) (by omega) h
  have each : ∀ i, i < len → ∃ r : ActB, g i = encB1 r ∧ r.ok := by
    intro i hi
    have := hf i hi
    match g i, fits_length this, this with
    | [v0, v1, v2, v3, v4, v5, v6, v7, v8, v9, v10, v11, v12, v13, v14, v15], _, h =>
      obtain ⟨⟨x0, rfl, _⟩, ⟨x1, rfl, b1⟩, ⟨x2, rfl⟩, ⟨x3, rfl, b3⟩, ⟨x4, rfl, b4⟩, ⟨x5, rfl, b5⟩, ⟨x6, rfl, b6⟩, ⟨x7, rfl⟩, ⟨x8, rfl, b8⟩, ⟨x9, rfl, b9⟩, ⟨x10, rfl, b10⟩, ⟨x11, rfl, _⟩, ⟨x12, rfl, _⟩, ⟨x13, rfl, _⟩, ⟨x14, rfl, _⟩, ⟨x15, rfl, _⟩, _⟩ := h
      have cv : ∀ x : Int, (Lit.int .i64 x).wf = true → I64' x := fun x h => by simpa [I64', Lit.wf, IntKind.min, IntKind.max, IntKind.signed, IntKind.bits] using h
      exact ⟨⟨x0, x1, x2, ⟨x3, x4, x5, x6, x7, x8, x9, x10, x11, x12, x13, x14⟩, x15⟩, rfl, ⟨cv _ b1, ⟨cv _ b3, cv _ b4, cv _ b5, cv _ b6, cv _ b8, cv _ b9, cv _ b10⟩⟩⟩
  obtain ⟨q, hq⟩ := choose_lt each
  refine ⟨(List.range len).map q, ?_, fun r hr => ?_⟩
  · have : ((List.range len).map g).flatten = encB ((List.range len).map q) := by
      unfold encB
      rw [List.flatMap_def, List.map_map]
      congr 1
      apply List.map_congr_left
      intro i hi
      exact (hq i (List.mem_range.1 hi)).1
    rw [← this]
    exact hg
  · obtain ⟨i, hi, rfl⟩ := List.mem_map.1 hr
    exact (hq i (List.mem_range.1 hi)).2
end
end Go.Proofs.Ytmnhdpojonlfhaa
