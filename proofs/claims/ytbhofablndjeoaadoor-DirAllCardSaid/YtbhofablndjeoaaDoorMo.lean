/- What stays where some blocks are written. -/
import Derived.Test.YtbhofablndjeoaaDoorCore2
namespace Go.Proofs.YtbhofablndjeoaaDoor
open Go.RowKit

/-- of the blocks that were there those of F alone may have been written -/
structure Mod (F : Nat → Prop) (w w' : World) : Prop where
  os : w'.os = w.os
  tape : w'.tape = w.tape
  output : w'.output = w.output
  size : w.heap.size ≤ w'.heap.size
  block : ∀ k, k < w.heap.size → ¬ F k → w'.heap[k]? = w.heap[k]?
theorem Mod.refl (F : Nat → Prop) (w : World) : Mod F w w := ⟨rfl, rfl, rfl, Nat.le_refl _, fun _ _ _ => rfl⟩
theorem Mod.below {F : Nat → Prop} {w w' : World} (h : Below w.heap.size w w') : Mod F w w' := ⟨h.os, h.tape, h.output, h.size, fun k hk _ => h.block k hk⟩
theorem Mod.grown {F : Nat → Prop} {w w' : World} {g : Nat} (h : w.grownBy w' (some g)) (hg : F g) : Mod F w w' :=
  ⟨h.os, h.tape, h.output, h.size, fun k hk hn => h.block k hk (fun e => hn (by simp only [Option.some.injEq] at e; rw [e]; exact hg))⟩
theorem Mod.trans {F G : Nat → Prop} {a b c : World} (h : Mod F a b) (k : Mod G b c) (hG : ∀ x, x < a.heap.size → G x → F x) : Mod F a c :=
  ⟨k.os.trans h.os, k.tape.trans h.tape, k.output.trans h.output, Nat.le_trans h.size k.size, fun i hi hn => (k.block i (Nat.lt_of_lt_of_le hi h.size) (fun hg => hn (hG i hi hg))).trans (h.block i hi hn)⟩
theorem Mod.trans' {F : Nat → Prop} {a b c : World} (h : Mod F a b) (k : Below b.heap.size b c) : Mod F a c := h.trans (G := fun _ => False) (Mod.below k) (fun _ _ h => h.elim)
theorem Mod.mono {F G : Nat → Prop} {a b : World} (h : Mod F a b) (hG : ∀ x, x < a.heap.size → F x → G x) : Mod G a b :=
  ⟨h.os, h.tape, h.output, h.size, fun i hi hn => h.block i hi (fun hf => hn (hG i hi hf))⟩
theorem Mod.toBelow {F : Nat → Prop} {w w' : World} {B : Nat} (h : Mod F w w') (hF : ∀ k, F k → B ≤ k) (hB : B ≤ w.heap.size) : Below B w w' :=
  ⟨h.os, h.tape, h.output, h.size, fun k hk => h.block k (by omega) (fun hf => by have := hF k hf; omega)⟩
theorem Mod.setCell {F : Nat → Prop} {w w' : World} {g j : Nat} {u : Value} (h : Mod F w w') (hg : F g ∨ w.heap.size ≤ g) : Mod F w (w'.setCell ⟨g, j, none⟩ u) :=
  ⟨h.os, h.tape, h.output, Nat.le_trans h.size (by simp [World.setCell]), fun k hk hn => by
    rw [heap_setCell_other w' ⟨g, j, none⟩ k u (fun e => by
      rcases hg with hg | hg
      · exact hn (by rw [e]; exact hg)
      · have : k = g := e
        omega)]
    exact h.block k hk hn⟩
theorem Mod.blk {F : Nat → Prop} {w w' : World} {g e : Nat} {cs : List Value} (h : Mod F w w') (hb : Blk w g e cs) (hg : ¬ F g) : Blk w' g e cs := by
  unfold Blk
  rw [h.block g hb.lt hg]
  exact hb
theorem Mod.cell {F : Nat → Prop} {w w' : World} {g j : Nat} {u : Value} (h : Mod F w w') (hg : ¬ F g) (hc : w.cell? ⟨g, j, none⟩ = some u) : w'.cell? ⟨g, j, none⟩ = some u := by
  have hl := World.block_lt_of_cell? w _ hc
  rw [World.cell?_of_block (w := w) (h.block g hl hg)]
  exact hc
theorem Mod.drew {F : Nat → Prop} {w w' : World} (h : Mod F w w') : Mod F w w'.drew := h.trans' ⟨rfl, rfl, rfl, Nat.le_refl _, fun _ _ => rfl⟩
theorem Mod.drewN {F : Nat → Prop} {w w' : World} (h : Mod F w w') (n : Nat) : Mod F w (w'.drewN n) := h.trans' ⟨rfl, rfl, rfl, Nat.le_refl _, fun _ _ => rfl⟩
theorem Mod.alloc {F : Nat → Prop} {w w' : World} (h : Mod F w w') (o : Obj) : Mod F w (w'.alloc o) := h.trans' ((Below.refl _ _).alloc (Nat.le_refl _) _)
theorem Mod.self {F : Nat → Prop} {a b c : World} (h : Mod F a b) (k : Mod F b c) : Mod F a c := h.trans k (fun _ _ h => h)
theorem Blk.modC {F : Nat → Prop} {w w' : World} {g e : Nat} {cs : List Value} (hb : Blk w g e cs) (h : Mod F w w') (hg : ¬ F g) : Blk w' g e cs := h.blk hb hg
end Go.Proofs.YtbhofablndjeoaaDoor
