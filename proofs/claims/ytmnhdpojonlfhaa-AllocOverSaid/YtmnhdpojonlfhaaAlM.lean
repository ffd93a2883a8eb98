/- Books of maps: what they are in memory, and what stays of them where some blocks are written. -/
import Derived.Test.YtmnhdpojonlfhaaGeT
import Derived.Test.YtmnhdpojonlfhaaSpN
namespace Go.Proofs.Ytmnhdpojonlfhaa
open Go.RowKit

/-- of the blocks that were there those of F alone may have been written -/
structure Mod (F : Nat → Prop) (w w' : World) : Prop where
  os : w'.os = w.os
  tape : w'.tape = w.tape
  output : w'.output = w.output
  size : w.heap.size ≤ w'.heap.size
  block : ∀ k, k < w.heap.size → ¬ F k → w'.heap[k]? = w.heap[k]?
theorem Mod.refl (F : Nat → Prop) (w : World) : Mod F w w := ⟨rfl, rfl, rfl, Nat.le_refl _, fun _ _ _ => rfl⟩
theorem Mod.below {F : Nat → Prop} {w w' : World} (h : Below w.heap.size w w') : Mod F w w' := ⟨h.os, h.tape, h.output, h.size, fun k hk _ => h.block k hk⟩
theorem Mod.grown {F : Nat → Prop} {w w' : World} {g : Nat} (h : w.grownBy w' (some g)) (hg : F g) : Mod F w w' :=
  ⟨h.os, h.tape, h.output, h.size, fun k hk hn => h.block k hk (fun e => hn (by simp only [Option.some.injEq] at e; rw [e]; exact hg))⟩
theorem Mod.trans {F G : Nat → Prop} {a b c : World} (h : Mod F a b) (k : Mod G b c) (hG : ∀ x, x < a.heap.size → G x → F x) : Mod F a c :=
  ⟨k.os.trans h.os, k.tape.trans h.tape, k.output.trans h.output, Nat.le_trans h.size k.size, fun i hi hn => (k.block i (Nat.lt_of_lt_of_le hi h.size) (fun hg => hn (hG i hi hg))).trans (h.block i hi hn)⟩
theorem Mod.trans' {F : Nat → Prop} {a b c : World} (h : Mod F a b) (k : Below b.heap.size b c) : Mod F a c := h.trans (G := fun _ => False) (Mod.below k) (fun _ _ h => h.elim)
theorem Mod.mono {F G : Nat → Prop} {a b : World} (h : Mod F a b) (hG : ∀ x, x < a.heap.size → F x → G x) : Mod G a b :=
  ⟨h.os, h.tape, h.output, h.size, fun i hi hn => h.block i hi (fun hf => hn (hG i hi hf))⟩
theorem Mod.toBelow {F : Nat → Prop} {w w' : World} {B : Nat} (h : Mod F w w') (hF : ∀ k, F k → B ≤ k) (hB : B ≤ w.heap.size) : Below B w w' :=
  ⟨h.os, h.tape, h.output, h.size, fun k hk => h.block k (by omega) (fun hf => by have := hF k hf; omega)⟩
theorem Mod.setCell {F : Nat → Prop} {w w' : World} {g j : Nat} {u : Value} (h : Mod F w w') (hg : F g ∨ w.heap.size ≤ g) : Mod F w (w'.setCell ⟨g, j, none⟩ u) :=
  ⟨h.os, h.tape, h.output, Nat.le_trans h.size (by simp [World.setCell]), fun k hk hn => by
    rw [heap_setCell_other w' ⟨g, j, none⟩ k u (fun e => by
      rcases hg with hg | hg
      · exact hn (by rw [e]; exact hg)
      · have : k = g := e
        omega)]
    exact h.block k hk hn⟩
theorem Mod.blk {F : Nat → Prop} {w w' : World} {g e : Nat} {cs : List Value} (h : Mod F w w') (hb : Blk w g e cs) (hg : ¬ F g) : Blk w' g e cs := by
  unfold Blk
  rw [h.block g hb.lt hg]
  exact hb
/-- blocks that may be written are books, maps, or ints -/
def TyOk (w : World) (F : Nat → Prop) : Prop := ∀ k, F k → k < w.heap.size → ∃ cs e, w.heap[k]? = some (.cells cs e (0, 0)) ∧ (e = 145 ∨ e = 120 ∨ e = 3)
theorem Mod.owns {F : Nat → Prop} {w w' : World} {base e size n : Nat} {v : Value} {xs : List Value} (h : Mod F w w') (ht : TyOk w F) (ho : w.ownsRow base e size v n xs) (h1 : e ≠ 145) (h2 : e ≠ 120) (h3 : e ≠ 3) : w'.ownsRow base e size v n xs := by
  refine ⟨ho.1, ?_⟩
  rcases ho.2 with h' | ⟨g, cap, cur, hv, hg, hh, r⟩
  · exact .inl h'
  · refine .inr ⟨g, cap, cur, hv, hg, ?_, r⟩
    have hlt := (Array.getElem?_eq_some_iff.1 hh).1
    rw [h.block g hlt (fun hf => ?_)]
    · exact hh
    · obtain ⟨cs, e', hk, he⟩ := ht g hf hlt
      rw [hh] at hk
      simp only [Option.some.injEq, Obj.cells.injEq] at hk
      have hee := hk.2.1
      rcases he with he | he | he
      · exact h1 (hee.trans he)
      · exact h2 (hee.trans he)
      · exact h3 (hee.trans he)
theorem Mod.map {F : Nat → Prop} {w w' : World} {mb size : Nat} {rs : List (Nat × Nat)} (h : Mod F w w') (ht : TyOk w F) (hm : IsMap w mb size rs) (hn : ¬ F mb) : IsMap w' mb size rs := by
  obtain ⟨h1, h2, h3, h4, v, h5, h6⟩ := hm
  exact ⟨h1, h2, h3, h4, v, h.blk h5 hn, h.owns ht h6 (by decide) (by decide) (by decide)⟩

/-- what stays where a row of another kind is grown -/
theorem Blk.ownKept {w w' : World} {g e base e2 k n : Nat} {cs xs : List Value} {v : Value} (h : Blk w g e cs) (ho : w.ownsRow base e2 k v n xs) (hne : e2 ≠ e) (hg : w.grownBy w' v.ownBlock) : Blk w' g e cs := by
  unfold Blk
  rw [hg.block g h.lt ?_]
  · exact h
  · rcases ho.2 with ⟨rfl, _⟩ | ⟨g', cap, cur, rfl, _, hh, _⟩
    · simp [Value.ownBlock]
    · simp only [Value.ownBlock, ne_eq, Option.some.injEq]
      intro eq
      subst eq
      unfold Blk at h
      rw [hh] at h
      simp only [Option.some.injEq, Obj.cells.injEq] at h
      exact hne h.2.1
theorem owns_ownKept {w w' : World} {base base2 e e2 k k2 n n2 : Nat} {v v2 : Value} {xs xs2 : List Value} (h : w.ownsRow base e k v n xs) (ho : w.ownsRow base2 e2 k2 v2 n2 xs2) (hne : e2 ≠ e) (hg : w.grownBy w' v2.ownBlock) : w'.ownsRow base e k v n xs := by
  refine h.kept hg ?_
  rcases h.2 with ⟨rfl, _⟩ | ⟨g, cap, cur, rfl, _, hh, _⟩
  · exact .inl rfl
  · refine .inr ?_
    rcases ho.2 with ⟨rfl, _⟩ | ⟨g', cap', cur', rfl, _, hh', _⟩
    · simp [Value.ownBlock]
    · simp only [Value.ownBlock, ne_eq, Option.some.injEq]
      intro eq
      subst eq
      rw [hh] at hh'
      simp only [Option.some.injEq, Obj.cells.injEq] at hh'
      exact hne hh'.2.1.symm
/-- what stays where a block of another kind is written -/
theorem owns_setOther {w : World} {base e e2 k n g j : Nat} {v u : Value} {xs cs : List Value} (h : w.ownsRow base e k v n xs) (hb : Blk w g e2 cs) (hne : e ≠ e2) : (w.setCell ⟨g, j, none⟩ u).ownsRow base e k v n xs := owns_setCell_other h hb hne
theorem IsMap.setOther {w : World} {mb size g j e2 : Nat} {rs : List (Nat × Nat)} {u : Value} {cs : List Value} (h : IsMap w mb size rs) (hb : Blk w g e2 cs) (h1 : 120 ≠ e2) (h2 : 44 ≠ e2) : IsMap (w.setCell ⟨g, j, none⟩ u) mb size rs := by
  obtain ⟨a1, a2, a3, a4, v, h5, h6⟩ := h
  refine ⟨a1, a2, a3, a4, v, h5.other (a := ⟨g, j, none⟩) ?_ _, owns_setCell_other h6 hb h2⟩
  rintro rfl
  unfold Blk at h5 hb
  rw [h5] at hb
  simp only [Option.some.injEq, Obj.cells.injEq] at hb
  exact h1 hb.2.1
abbrev MT := Nat × Nat × List (Nat × Nat)
def encM (l : List Nat) : List Value := l.map fun b => .pointer (some ⟨b, 0, none⟩)
def encN (l : List Nat) : List Value := l.map fun x => .int .i64 (x : Nat)
theorem encM_length (l : List Nat) : (encM l).length = l.length := by simp [encM]
theorem encN_length (l : List Nat) : (encN l).length = l.length := by simp [encN]
theorem encM_one (l : List Nat) : ∀ u ∈ encM l, u.oneCell' = true := by
  intro u hu
  obtain ⟨s, _, rfl⟩ := List.mem_map.1 hu
  rfl
theorem encN_one (l : List Nat) : ∀ u ∈ encN l, u.oneCell' = true := by
  intro u hu
  obtain ⟨s, _, rfl⟩ := List.mem_map.1 hu
  rfl
theorem encM_append (a b : List Nat) : encM (a ++ b) = encM a ++ encM b := by simp [encM]
theorem encM_get (l : List Nat) (j : Nat) (h : j < l.length) : (encM l)[j]? = some (.pointer (some ⟨l.getD j 0, 0, none⟩)) := by simp [encM, List.getD, h]
theorem encN_get (l : List Nat) (j : Nat) (h : j < l.length) : (encN l)[j]? = some (.int .i64 (l.getD j 0 : Nat)) := by simp [encN, List.getD, h]
theorem encN_set (l : List Nat) (j x : Nat) : (encN l).set j (.int .i64 (x : Nat)) = encN (l.set j x) := by simp [encN, List.map_set]
def mD : MT := (0, 0, [])

/-- A book: its block, its ends' block, its measure, its maps, its ends. -/
structure IsBook (w : World) (bb eb : Nat) (gs : Gs) (secs : Int) (ms : List MT) (es : List Nat) : Prop where
  right : rightB gs secs = true
  mlen : ms.length = gs.length
  elen : es.length = gs.length
  mem : ∃ gv mv ec, Blk w bb 145 [gv, .int .i64 secs, mv, .slice (some ⟨eb, 0, none⟩) gs.length ec] ∧ w.ownsRow 0 140 2 gv gs.length (encG gs) ∧ w.ownsRow 0 35 1 mv gs.length (encM (ms.map (·.1))) ∧
    w.ownsRow 0 3 1 (.slice (some ⟨eb, 0, none⟩) gs.length ec) gs.length (encN es)
  maps : ∀ m ∈ ms, IsMap w m.1 m.2.1 m.2.2
  nodup : (ms.map (·.1)).Nodup
/-- the blocks that a book writes -/
def foot (bb eb : Nat) (ms : List MT) (k : Nat) : Prop := k = bb ∨ k = eb ∨ k ∈ ms.map (·.1)
theorem IsBook.tyOk {w : World} {bb eb : Nat} {gs : Gs} {secs : Int} {ms : List MT} {es : List Nat} (h : IsBook w bb eb gs secs ms es) : TyOk w (foot bb eb ms) := by
  intro k hk _
  obtain ⟨gv, mv, ec, h1, h2, h3, h4⟩ := h.mem
  rcases hk with rfl | rfl | hk
  · exact ⟨_, _, h1, .inl rfl⟩
  · obtain ⟨cs, hb, _⟩ := owns_blk h4
    exact ⟨_, _, hb, .inr (.inr rfl)⟩
  · obtain ⟨m, hm, rfl⟩ := List.mem_map.1 hk
    obtain ⟨_, _, _, _, v, h5, _⟩ := h.maps m hm
    exact ⟨_, _, h5, .inr (.inl rfl)⟩
theorem IsBook.lt {w : World} {bb eb : Nat} {gs : Gs} {secs : Int} {ms : List MT} {es : List Nat} (h : IsBook w bb eb gs secs ms es) : ∀ k, foot bb eb ms k → k < w.heap.size := by
  intro k hk
  obtain ⟨gv, mv, ec, h1, h2, h3, h4⟩ := h.mem
  rcases hk with rfl | rfl | hk
  · exact h1.lt
  · obtain ⟨cs, hb, _⟩ := owns_blk h4
    exact hb.lt
  · obtain ⟨m, hm, rfl⟩ := List.mem_map.1 hk
    exact (h.maps m hm).lt
theorem IsBook.keep {w w' : World} {bb eb : Nat} {gs : Gs} {secs : Int} {ms : List MT} {es : List Nat} {F : Nat → Prop} (h : IsBook w bb eb gs secs ms es) (hm : Mod F w w') (ht : TyOk w F) (hd : ∀ k, foot bb eb ms k → ¬ F k) : IsBook w' bb eb gs secs ms es := by
  obtain ⟨gv, mv, ec, h1, h2, h3, h4⟩ := h.mem
  refine ⟨h.right, h.mlen, h.elen, ⟨gv, mv, ec, hm.blk h1 (hd _ (.inl rfl)), hm.owns ht h2 (by decide) (by decide) (by decide), hm.owns ht h3 (by decide) (by decide) (by decide), ?_⟩, fun m hm' => hm.map ht (h.maps m hm') (hd _ (.inr (.inr (List.mem_map_of_mem hm')))), h.nodup⟩
  obtain ⟨cs, hb, p1, p2, p3, p4, p5⟩ := owns_blk h4
  have := blk_owns (base := 0) (n := gs.length) (size := 1) (hm.blk hb (hd _ (.inr (.inl rfl)))) p1 p2 p3 p4
  rwa [p5] at this
theorem IsBook.below {w w' : World} {bb eb : Nat} {gs : Gs} {secs : Int} {ms : List MT} {es : List Nat} (h : IsBook w bb eb gs secs ms es) (hb : Below w.heap.size w w') : IsBook w' bb eb gs secs ms es :=
  h.keep (F := fun _ => False) (Mod.below hb) (fun _ h => h.elim) (fun _ _ h => h)
/-- the parts of a book, as a walk wants them -/
theorem IsBook.parts {w : World} {bb eb : Nat} {gs : Gs} {secs : Int} {ms : List MT} {es : List Nat} (h : IsBook w bb eb gs secs ms es) :
    ∃ (gb gc mv mc ec : Nat), w.cell? ⟨bb, 0, none⟩ = some (.slice (some ⟨gb, 0, none⟩) gs.length gc) ∧ w.cell? ⟨bb, 1, none⟩ = some (.int .i64 secs) ∧ w.cell? ⟨bb, 2, none⟩ = some (.slice (some ⟨mv, 0, none⟩) gs.length mc) ∧ w.cell? ⟨bb, 3, none⟩ = some (.slice (some ⟨eb, 0, none⟩) gs.length ec) ∧
      GSl w (some ⟨gb, 0, none⟩) gs.length gc gs ∧ (∀ j, j < gs.length → w.cell? ⟨mv, j, none⟩ = some (.pointer (some ⟨(ms.getD j mD).1, 0, none⟩))) ∧ RSl w 1 (some ⟨eb, 0, none⟩) gs.length ec (encN es) ∧ mv < w.heap.size ∧ eb < w.heap.size ∧ bb < w.heap.size := by
  obtain ⟨gv, mv, ec, h1, h2, h3, h4⟩ := h.mem
  have hr := rightB_spec h.right
  obtain ⟨gb, gc, rfl, _⟩ := owns_headv h2 (by omega)
  obtain ⟨mb, mc, rfl, _⟩ := owns_headv h3 (by omega)
  obtain ⟨cs, hb, _⟩ := owns_blk h4
  obtain ⟨cs2, hb2, _⟩ := owns_blk h3
  refine ⟨gb, gc, mb, mc, ec, h1.cell 0, h1.cell 1, h1.cell 2, h1.cell 3, rsl_of_owns h2, fun j hj => ?_, rsl_of_owns h4, hb2.lt, hb.lt, h1.lt⟩
  have hl := h.mlen
  rw [h3.cellAt j (by omega), encM_get _ _ (by rw [List.length_map]; omega)]
  have hjm : j < ms.length := by omega
  simp [List.getD, hjm]
end Go.Proofs.Ytmnhdpojonlfhaa
