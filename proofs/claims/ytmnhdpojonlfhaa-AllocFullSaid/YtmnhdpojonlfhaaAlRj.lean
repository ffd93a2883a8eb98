/- A book beside a growing row of pointers and a measure's box: what its calls leave. -/
import Derived.Test.YtmnhdpojonlfhaaAlEa
namespace Go.Proofs.Ytmnhdpojonlfhaa
open Go.RowKit

def pD : PtrT := ⟨0, 0, 0, 0, false, 0, 0, 0, 0, 0, 0, 0⟩
def encPs (l : List PtrT) : List Value := l.flatMap encPtr
theorem encPs_append (a b : List PtrT) : encPs (a ++ b) = encPs a ++ encPs b := by simp [encPs]
theorem encPs_one (l : List PtrT) : ∀ u ∈ encPs l, u.oneCell' = true := by
  intro u hu
  simp only [encPs, List.mem_flatMap, encPtr, List.mem_cons, List.not_mem_nil, or_false] at hu
  obtain ⟨c, _, h⟩ := hu
  rcases h with rfl | rfl | rfl | rfl | rfl | rfl | rfl | rfl | rfl | rfl | rfl | rfl <;> rfl
theorem encPs_length (l : List PtrT) : (encPs l).length = l.length * 12 := by
  unfold encPs
  induction l with
  | nil => rfl
  | cons a r ih => simp only [List.flatMap_cons, List.length_append, ih, List.length_cons]; simp [encPtr]; omega
theorem encPs_get (l : List PtrT) (k i : Nat) (hk : k < l.length) (hi : i < 12) : (encPs l)[k * 12 + i]? = (encPtr (l.getD k pD))[i]? := flat_get (f := encPtr) (K := 12) (fun _ => rfl) l k i pD hk hi
theorem infoPt : (Try.prog.info? 68).map (fun i => (i.zero, i.size, i.bytes)) = some (some (.agg #[.int .i64 0, .int .i64 0, .int .i64 0, .int .i64 0, .bool false, .int .i64 0, .int .i64 0, .int .i64 0, .int .u64 0, .int .u64 0, .int .u64 0, .int .u64 0]), 12, 96) := by kernel_rfl
/-- the cells of a row's pointer -/
theorem row_ptr {w : World} {base g n cap : Nat} {l : List PtrT} (h : w.ownsRow base 68 12 (.slice (some ⟨g, 0, none⟩) n cap) n (encPs l)) (hl : l.length = n) {k : Nat} (hk : k < n) {p0 p1 p2 p3 : Int} {p4 : Bool} {p5 p6 p7 p8 p9 p10 p11 : Int} (hp : l.getD k pD = ⟨p0, p1, p2, p3, p4, p5, p6, p7, p8, p9, p10, p11⟩) :
    w.cell? ⟨g, k * 12, none⟩ = some (.int .i64 p0) ∧ w.cell? ⟨g, k * 12 + 1, none⟩ = some (.int .i64 p1) ∧ w.cell? ⟨g, k * 12 + 2, none⟩ = some (.int .i64 p2) ∧ w.cell? ⟨g, k * 12 + 3, none⟩ = some (.int .i64 p3) ∧ w.cell? ⟨g, k * 12 + 4, none⟩ = some (.bool p4) ∧ w.cell? ⟨g, k * 12 + 5, none⟩ = some (.int .i64 p5) ∧
      w.cell? ⟨g, k * 12 + 6, none⟩ = some (.int .i64 p6) ∧ w.cell? ⟨g, k * 12 + 7, none⟩ = some (.int .i64 p7) ∧ w.cell? ⟨g, k * 12 + 8, none⟩ = some (.int .u64 p8) ∧ w.cell? ⟨g, k * 12 + 9, none⟩ = some (.int .u64 p9) ∧ w.cell? ⟨g, k * 12 + 10, none⟩ = some (.int .u64 p10) ∧ w.cell? ⟨g, k * 12 + 11, none⟩ = some (.int .u64 p11) := by
  have hc : ∀ i, i < 12 → w.cell? ⟨g, k * 12 + i, none⟩ = (encPtr ⟨p0, p1, p2, p3, p4, p5, p6, p7, p8, p9, p10, p11⟩)[i]? := fun i hi => by
    rw [h.cellAt _ (by omega), encPs_get l k i (by omega) hi, hp]
  exact ⟨hc 0 (by omega), hc 1 (by omega), hc 2 (by omega), hc 3 (by omega), hc 4 (by omega), hc 5 (by omega), hc 6 (by omega), hc 7 (by omega), hc 8 (by omega), hc 9 (by omega), hc 10 (by omega), hc 11 (by omega)⟩

/-- a book, a row of pointers beside it, and the measure's box -/
structure RSt (w wr : World) (bb eb : Nat) (gs : Gs) (secs : Int) (ms : List MT) (es : List Nat) (v : Value) (got : List PtrT) (gcs : List Value) : Prop where
  bk : IsBook wr bb eb gs secs ms es
  ft : ∀ k, foot bb eb ms k → w.heap.size + 1 ≤ k
  row : wr.ownsRow w.heap.size 68 12 v got.length (encPs got)
  geo : Blk wr w.heap.size 96 gcs
  bel : Below w.heap.size w wr
section
variable {w wr : World} {bb eb : Nat} {gs : Gs} {secs : Int} {ms : List MT} {es : List Nat} {v : Value} {got : List PtrT} {gcs : List Value}
theorem RSt.below {w' : World} (h : RSt w wr bb eb gs secs ms es v got gcs) (hb : Below wr.heap.size wr w') : RSt w w' bb eb gs secs ms es v got gcs :=
  ⟨h.bk.below hb, h.ft, owns_below h.row hb, h.geo.below hb, h.bel.trans (hb.mono h.bel.size)⟩
theorem RSt.mod {w' : World} {eb' : Nat} {ms' : List MT} {es' : List Nat} (h : RSt w wr bb eb gs secs ms es v got gcs) (hm : Mod (foot bb eb ms) wr w') (hbk : IsBook w' bb eb' gs secs ms' es') (hf : ∀ k, foot bb eb' ms' k → foot bb eb ms k ∨ wr.heap.size ≤ k) : RSt w w' bb eb' gs secs ms' es' v got gcs := by
  have hlt := h.geo.lt
  exact ⟨hbk, fun k hk => (hf k hk).elim (h.ft k) (fun h' => by omega), hm.owns h.bk.tyOk h.row (by decide) (by decide) (by decide), hm.blk h.geo (fun hf' => by have := h.ft _ hf'; omega), h.bel.trans (hm.toBelow (fun k hk => by have := h.ft k hk; omega) h.bel.size)⟩
theorem RSt.lay {wx : World} {B : Nat} (h : RSt w wr bb eb gs secs ms es v got gcs) (hl : Lay B wr wx) (hB : w.heap.size < B) (hrow : ∀ g, v.ownBlock = some g → g < B) : RSt w wx bb eb gs secs ms es v got gcs := by
  refine ⟨hl.book h.bk, h.ft, hl.owns h.row hrow, ?_, hl.under h.bel (Nat.le_of_lt hB) h.bel.size⟩
  unfold Blk
  rw [hl.kept hB h.geo.lt]
  exact h.geo
theorem RSt.rowLt (h : RSt w wr bb eb gs secs ms es v got gcs) : ∀ g, v.ownBlock = some g → g < wr.heap.size := fun g hg => (h.row.lt g hg).2
theorem RSt.get {W : World} {size : Int} {two : Bool} {r : GetR} (h : RSt w wr bb eb gs secs ms es v got gcs) (hr : r = getA gs secs (st2 ms) es size two) (hW : Below wr.heap.size wr W) :
    Calls Try.prog 59 #[.pointer (some ⟨bb, 0, none⟩), .int .i64 size, .bool two] W fun e w' =>
      e = .returned (.tuple #[.agg #[.int .i64 (r.p.1 : Nat), .int .i64 (r.p.2 : Nat)], .agg #[.int .i64 (r.q.1 : Nat), .int .i64 (r.q.2 : Nat)], .int .i64 (r.err : Nat)]) ∧
      ∃ eb' ms', RSt w w' bb eb' gs secs ms' r.es v got gcs ∧ st2 ms' = r.sn ∧ (∀ g, wr.heap.size ≤ g → g < W.heap.size → w'.heap[g]? = W.heap[g]?) ∧ W.heap.size ≤ w'.heap.size := by
  have h1 := h.below hW
  have hcl := h.bk.lt
  refine (get_any bb eb gs secs ms es size two W h1.bk).mono ?_
  rintro e w' ⟨rfl, eb', ms', a1, a2, a3, hm⟩
  rw [← hr] at a1 a2 ⊢
  exact ⟨rfl, eb', ms', h1.mod hm a1 a3, a2, fun g hg hgl => hm.block g hgl (fun h => by have := hcl g h; omega), hm.size⟩
theorem RSt.mark {p : PtrT} {r : Int × SN} (h : RSt w wr bb eb gs secs ms es v got gcs) (hp : p.ok) (hr : eachA takeS gs secs (st2 ms) p = r) :
    Calls Try.prog 64 #[.pointer (some ⟨bb, 0, none⟩), .agg (encPtr p).toArray] wr fun e w' => e = .returned (.int .i64 r.1) ∧ ∃ eb' ms', RSt w w' bb eb' gs secs ms' es v got gcs ∧ st2 ms' = r.2 ∧ (∀ g, ¬ foot bb eb ms g → g < wr.heap.size → w'.heap[g]? = wr.heap[g]?) := by
  refine (mark_any bb eb gs secs ms es p wr h.bk hp).mono ?_
  rintro e w' ⟨rfl, eb', ms', a1, a2, a3, hm⟩
  rw [hr] at a2 ⊢
  exact ⟨rfl, eb', ms', h.mod hm a1 a3, a2, fun g hg hl => hm.block g hl hg⟩
theorem RSt.drop {p : PtrT} {r : Int × SN} (h : RSt w wr bb eb gs secs ms es v got gcs) (hp : p.ok) (hr : eachA freeS gs secs (st2 ms) p = r) :
    Calls Try.prog 62 #[.pointer (some ⟨bb, 0, none⟩), .agg (encPtr p).toArray] wr fun e w' => e = .returned (.int .i64 r.1) ∧ ∃ eb' ms', RSt w w' bb eb' gs secs ms' es v got gcs ∧ st2 ms' = r.2 ∧ (∀ g, ¬ foot bb eb ms g → g < wr.heap.size → w'.heap[g]? = wr.heap[g]?) := by
  refine (drop_any bb eb gs secs ms es p wr h.bk hp).mono ?_
  rintro e w' ⟨rfl, eb', ms', a1, a2, a3, hm⟩
  rw [hr] at a2 ⊢
  exact ⟨rfl, eb', ms', h.mod hm a1 a3, a2, fun g hg hl => hm.block g hl hg⟩
theorem RSt.left (h : RSt w wr bb eb gs secs ms es v got gcs) : Calls Try.prog 61 #[.pointer (some ⟨bb, 0, none⟩)] wr fun e w' => e = .returned (.int .i64 (leftA (st2 ms))) ∧ RSt w w' bb eb gs secs ms es v got gcs ∧ Below wr.heap.size wr w' := by
  refine (aleft_any bb eb gs secs ms es wr h.bk).mono ?_
  rintro e w' ⟨rfl, hb⟩
  exact ⟨by rw [leftB_A], h.below hb, hb⟩
theorem RSt.leftBd (h : RSt w wr bb eb gs secs ms es v got gcs) : 0 ≤ leftA (st2 ms) ∧ leftA (st2 ms) ≤ 300000 := by
  have h1 := h.bk.left_bd ms.length (Nat.le_refl _)
  rw [List.take_length, leftB_A] at h1
  have h2 := (rightB_spec h.bk.right).2.1
  have h3 := h.bk.mlen
  omega
end
/-- the row grows by one -/
theorem RSt.app {w wr w' : World} {bb eb : Nat} {gs : Gs} {secs : Int} {ms : List MT} {es : List Nat} {v v' : Value} {got : List PtrT} {gcs : List Value} {x : PtrT} {cs : Array Value} (h : RSt w wr bb eb gs secs ms es v got gcs)
    (hown : w'.ownsRow w.heap.size 68 12 v' (got.length + 1) (encPs got ++ encPs [x])) (hg : (wr.alloc (.cells cs 68)).grownBy w' v.ownBlock) : RSt w w' bb eb gs secs ms es v' (got ++ [x]) gcs := by
  have h1 := h.below ((Below.refl wr.heap.size wr).alloc (Nat.le_refl _) (.cells cs 68))
  exact ⟨h1.bk.ownKept h1.row (by decide) (by decide) (by decide) (by decide) (by decide) (by decide) hg, h.ft, by rw [encPs_append, List.length_append]; exact hown, h1.geo.ownKept h1.row (by decide) hg, below_own (base := w.heap.size) h1.bel h1.row hg h1.bel.size (Nat.le_refl _)⟩
/-- a right pointer's numbers are small -/
theorem mkP_ok {gs : Gs} {secs : Int} {p q : Nat × Nat} {two : Bool} {size : Int} (h : ptrRight gs secs (mkP p q two size) = true) : (mkP p q two size).ok := by
  obtain ⟨h1, h2, h3, _⟩ := ptrRight_may h
  have m1 := mayC_spec h1
  have hr := rightB_spec m1.1
  simp only [mkP] at *
  cases two
  · have := h3 rfl
    refine ⟨?_, ?_, ?_, ?_, ?_, ?_, ?_⟩ <;> dsimp only [I64'] <;> omega
  · have m2 := mayC_spec (h2 rfl).1
    refine ⟨?_, ?_, ?_, ?_, ?_, ?_, ?_⟩ <;> dsimp only [I64'] <;> omega
end Go.Proofs.Ytmnhdpojonlfhaa
