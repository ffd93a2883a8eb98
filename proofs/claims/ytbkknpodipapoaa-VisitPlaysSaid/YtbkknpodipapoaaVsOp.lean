/- Slices of pointers as they come in; VisitOrder at its arguments. -/
import Derived.Test.YtbkknpodipapoaaVsOr
import Derived.OpenShut
namespace Go.Proofs.Ytbkknpodipapoaa
open Go.RowKit Go.ChangeShapes Go.WideShapes Go.Deep
instance : Inhabited PtrT := ⟨pD⟩
section
variable {H : Type} {enc : TypeId × Value → H} {W : World} {base : Nat} {spare : Nat → Bool} {held : Bool}
/-- a slice of pointers whose numbers are numbers -/
def QSl (w : World) (ao : Option Addr) (n cap : Nat) (l : List PtrT) : Prop := PSl w ao n cap l ∧ ∀ r ∈ l, r.ok
set_option maxRecDepth 100000 in
theorem open_ptrs {a : Option Addr} {len cap : Nat} {d : DataW H} {p : List MemPlace} (h : DataW.Trod enc Try.prog W base spare held 22 (.slice a len cap) d p) : ∃ zs, QSl W a len cap zs := by
  obtain ⟨g, hg, hf⟩ := open_flat (n := 9) (K := 12) (ks := [.int .i64, .int .i64, .int .i64, .int .i64, .bool, .int .i64, .int .i64, .int .i64, .int .u64, .int .u64, .int .u64, .int .u64]) Try.underlying22 (by kernel_rfl) rfl (by kernel_rfl) (by omega) h
  have each : ∀ i, i < len → ∃ r : PtrT, g i = encPtr r ∧ r.ok := by
    intro i hi
    have := hf i hi
    match g i, fits_length this, this with
    | [v3, v4, v5, v6, v7, v8, v9, v10, v11, v12, v13, v14], _, h =>
      obtain ⟨⟨x3, rfl, b3⟩, ⟨x4, rfl, b4⟩, ⟨x5, rfl, b5⟩, ⟨x6, rfl, b6⟩, ⟨x7, rfl⟩, ⟨x8, rfl, b8⟩, ⟨x9, rfl, b9⟩, ⟨x10, rfl, b10⟩, ⟨x11, rfl, _⟩, ⟨x12, rfl, _⟩, ⟨x13, rfl, _⟩, ⟨x14, rfl, _⟩, _⟩ := h
      have cv : ∀ x : Int, (Lit.int .i64 x).wf = true → I64' x := fun x h => by simpa [I64', Lit.wf, IntKind.min, IntKind.max, IntKind.signed, IntKind.bits] using h
      exact ⟨⟨x3, x4, x5, x6, x7, x8, x9, x10, x11, x12, x13, x14⟩, rfl, ⟨cv _ b3, cv _ b4, cv _ b5, cv _ b6, cv _ b8, cv _ b9, cv _ b10⟩⟩
  obtain ⟨q, hq⟩ := choose_lt each
  refine ⟨(List.range len).map q, ?_, fun r hr => ?_⟩
  · have : ((List.range len).map g).flatten = encPs ((List.range len).map q) := by
      unfold encPs
      rw [List.flatMap_def, List.map_map]
      congr 1
      apply List.map_congr_left
      intro i hi
      exact (hq i (List.mem_range.1 hi)).1
    unfold PSl
    rw [← this]
    exact hg
  · obtain ⟨i, hi, rfl⟩ := List.mem_map.1 hr
    exact (hq i (List.mem_range.1 hi)).2
end
theorem visitorder_any (ao : Option Addr) (n cap : Nat) (l : List PtrT) (t : Int) (w : World) (h : QSl w ao n cap l) (ht : 0 ≤ t ∧ t ≤ 255) :
    Calls Try.prog 3 #[.slice ao n cap, .int .u8 t] w fun e w' => e = .returned (.bool true) ∧ Below w.heap.size w w' := by
  obtain ⟨k, rfl⟩ := Int.eq_ofNat_of_zero_le ht.1
  exact vorderL_any ao n cap l k w h.1 (by omega)
end Go.Proofs.Ytbkknpodipapoaa
