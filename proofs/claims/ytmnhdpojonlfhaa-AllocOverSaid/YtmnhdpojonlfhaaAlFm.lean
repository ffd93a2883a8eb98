/- Some books side by side. -/
import Derived.Test.YtmnhdpojonlfhaaAlVw
namespace Go.Proofs.Ytmnhdpojonlfhaa
open Go.RowKit

structure BkT where
  bb : Nat
  eb : Nat
  ms : List MT
  es : List Nat
def BkT.ft (x : BkT) (k : Nat) : Prop := foot x.bb x.eb x.ms k
/-- books that share no block, and a measure's box -/
structure Fam (w0 wr : World) (gs : Gs) (secs : Int) (gcs : List Value) (l : List BkT) : Prop where
  bk : ∀ x ∈ l, IsBook wr x.bb x.eb gs secs x.ms x.es
  lo : ∀ x ∈ l, ∀ k, x.ft k → w0.heap.size + 1 ≤ k
  dis : l.Pairwise fun x y => ∀ k, x.ft k → ¬ y.ft k
  geo : Blk wr w0.heap.size 96 gcs
  bel : Below w0.heap.size w0 wr
section
variable {w0 wr : World} {gs : Gs} {secs : Int} {gcs : List Value} {l A B : List BkT} {x : BkT}
theorem Fam.below {w' : World} (h : Fam w0 wr gs secs gcs l) (hb : Below wr.heap.size wr w') : Fam w0 w' gs secs gcs l :=
  ⟨fun x hx => (h.bk x hx).below hb, h.lo, h.dis, h.geo.below hb, h.bel.trans (hb.mono h.bel.size)⟩
theorem Fam.mod {w' : World} {x' : BkT} (h : Fam w0 wr gs secs gcs (A ++ x :: B)) (hm : Mod x.ft wr w') (hbk : IsBook w' x'.bb x'.eb gs secs x'.ms x'.es) (hf : ∀ k, x'.ft k → x.ft k ∨ wr.heap.size ≤ k) : Fam w0 w' gs secs gcs (A ++ x' :: B) := by
  have hx : x ∈ A ++ x :: B := by simp
  have hty := (h.bk x hx).tyOk
  have hlt := h.geo.lt
  have hp := List.pairwise_append.1 h.dis
  have hpc := List.pairwise_cons.1 hp.2.1
  have hdA : ∀ y ∈ A, ∀ k, y.ft k → ¬ x.ft k := fun y hy => hp.2.2 y hy x (by simp)
  have hdB : ∀ y ∈ B, ∀ k, y.ft k → ¬ x.ft k := fun y hy k hk hx => hpc.1 y hy k hx hk
  refine ⟨fun y hy => ?_, fun y hy k hk => ?_, ?_, hm.blk h.geo (fun hf' => by have := h.lo x hx _ hf'; omega), h.bel.trans (hm.toBelow (fun k hk => by have := h.lo x hx k hk; omega) h.bel.size)⟩
  · simp only [List.mem_append, List.mem_cons] at hy
    rcases hy with hy | rfl | hy
    · exact (h.bk y (by simp [hy])).keep hm hty (hdA y hy)
    · exact hbk
    · exact (h.bk y (by simp [hy])).keep hm hty (hdB y hy)
  · simp only [List.mem_append, List.mem_cons] at hy
    rcases hy with hy | rfl | hy
    · exact h.lo y (by simp [hy]) k hk
    · rcases hf k hk with h1 | h1
      · exact h.lo x hx k h1
      · omega
    · exact h.lo y (by simp [hy]) k hk
  · refine List.pairwise_append.2 ⟨hp.1, List.pairwise_cons.2 ⟨fun y hy k hk hky => ?_, hpc.2⟩, fun y hy z hz k hk => ?_⟩
    · rcases hf k hk with h1 | h1
      · exact hdB y hy k hky h1
      · have := (h.bk y (by simp [hy])).lt k hky; omega
    · rcases List.mem_cons.1 hz with rfl | hz
      · intro hkz
        rcases hf k hkz with h1 | h1
        · exact hdA y hy k hk h1
        · have := (h.bk y (by simp [hy])).lt k hk; omega
      · exact hp.2.2 y hy z (by simp [hz]) k hk
theorem Fam.push {w' : World} (h : Fam w0 wr gs secs gcs l) (hb : Below wr.heap.size wr w') (hbk : IsBook w' x.bb x.eb gs secs x.ms x.es) (hf : ∀ k, x.ft k → wr.heap.size ≤ k) : Fam w0 w' gs secs gcs (l ++ [x]) := by
  have h1 := h.below hb
  have hlt := h.geo.lt
  refine ⟨fun y hy => ?_, fun y hy k hk => ?_, List.pairwise_append.2 ⟨h.dis, List.pairwise_singleton _ _, fun y hy z hz k hk hkz => ?_⟩, h1.geo, h1.bel⟩
  · rcases List.mem_append.1 hy with hy | hy
    · exact h1.bk y hy
    · rw [List.mem_singleton.1 hy]; exact hbk
  · rcases List.mem_append.1 hy with hy | hy
    · exact h.lo y hy k hk
    · rw [List.mem_singleton.1 hy] at hk
      have := hf k hk
      omega
  · rw [List.mem_singleton.1 hz] at hkz
    have h2 := hf k hkz
    have h3 := (h.bk y hy).lt k hk
    omega
theorem Fam.left (h : Fam w0 wr gs secs gcs l) (hx : x ∈ l) : Calls Try.prog 61 #[.pointer (some ⟨x.bb, 0, none⟩)] wr fun e w' => e = .returned (.int .i64 (leftA (st2 x.ms))) ∧ Fam w0 w' gs secs gcs l ∧ Below wr.heap.size wr w' := by
  refine (aleft_any x.bb x.eb gs secs x.ms x.es wr (h.bk x hx)).mono ?_
  rintro e w' ⟨rfl, hb⟩
  exact ⟨by rw [leftB_A], h.below hb, hb⟩
theorem Fam.get {size : Int} {two : Bool} {r : GetR} {W : World} (h : Fam w0 wr gs secs gcs (A ++ x :: B)) (hr : getA gs secs (st2 x.ms) x.es size two = r) (hW : Below wr.heap.size wr W) :
    Calls Try.prog 59 #[.pointer (some ⟨x.bb, 0, none⟩), .int .i64 size, .bool two] W fun e w' =>
      e = .returned (.tuple #[.agg #[.int .i64 (r.p.1 : Nat), .int .i64 (r.p.2 : Nat)], .agg #[.int .i64 (r.q.1 : Nat), .int .i64 (r.q.2 : Nat)], .int .i64 (r.err : Nat)]) ∧
      ∃ eb' ms', Fam w0 w' gs secs gcs (A ++ ⟨x.bb, eb', ms', r.es⟩ :: B) ∧ st2 ms' = r.sn := by
  have h1 := h.below hW
  refine (get_any x.bb x.eb gs secs x.ms x.es size two W (h1.bk x (by simp))).mono ?_
  rintro e w' ⟨rfl, eb', ms', a1, a2, a3, hm⟩
  rw [hr] at a1 a2 ⊢
  exact ⟨rfl, eb', ms', h1.mod (x' := ⟨x.bb, eb', ms', r.es⟩) hm a1 a3, a2⟩
theorem Fam.mark {p : PtrT} (h : Fam w0 wr gs secs gcs (A ++ x :: B)) (hp : p.ok) :
    Calls Try.prog 64 #[.pointer (some ⟨x.bb, 0, none⟩), .agg (encPtr p).toArray] wr fun e w' => ∃ v, Hid (e = .returned v) ∧ ∃ eb' ms', Fam w0 w' gs secs gcs (A ++ ⟨x.bb, eb', ms', x.es⟩ :: B) ∧ st2 ms' = (eachA takeS gs secs (st2 x.ms) p).2 := by
  refine (mark_any x.bb x.eb gs secs x.ms x.es p wr (h.bk x (by simp)) hp).mono ?_
  rintro e w' ⟨rfl, eb', ms', a1, a2, a3, hm⟩
  exact ⟨_, Lib.hid rfl, eb', ms', h.mod (x' := ⟨x.bb, eb', ms', x.es⟩) hm a1 a3, a2⟩
/-- a copy of a book is dropped from: all that was there is as it was -/
theorem Fam.copy (h : Fam w0 wr gs secs gcs l) (hx : x ∈ l) : Calls Try.prog 60 #[.pointer (some ⟨x.bb, 0, none⟩)] wr fun e w' => ∃ cb ce ms', e = .returned (.pointer (some ⟨cb, 0, none⟩)) ∧ IsBook w' cb ce gs secs ms' x.es ∧ st2 ms' = st2 x.ms ∧ (∀ k, foot cb ce ms' k → wr.heap.size ≤ k) ∧ Below wr.heap.size wr w' := by
  refine (acopy_any x.bb x.eb gs secs x.ms x.es wr (h.bk x hx)).mono ?_
  rintro e w' ⟨cb, ce, bs, rfl, _, a1, a2, a3⟩
  exact ⟨cb, ce, _, rfl, a1, cpM_st2 _ _, a2, a3⟩
end
/-- Drop from a book whose blocks are new -/
theorem drop_new {w W : World} {cb ce : Nat} {gs : Gs} {secs : Int} {ms : List MT} {es : List Nat} {p : PtrT} {r : Int} (hB : Below w.heap.size w W) (h : IsBook W cb ce gs secs ms es) (hf : ∀ k, foot cb ce ms k → w.heap.size ≤ k) (hp : p.ok) (hr : (eachA freeS gs secs (st2 ms) p).1 = r) :
    Calls Try.prog 62 #[.pointer (some ⟨cb, 0, none⟩), .agg (encPtr p).toArray] W fun e w' => e = .returned (.int .i64 r) ∧ Below w.heap.size w w' := by
  refine (drop_any cb ce gs secs ms es p W h hp).mono ?_
  rintro e w' ⟨rfl, eb', ms', a1, a2, a3, hm⟩
  exact ⟨by rw [hr], hB.trans (hm.toBelow hf hB.size)⟩
end Go.Proofs.Ytmnhdpojonlfhaa
