/- A row of Gets as a function; books kept where a row of another type grows. -/
import Derived.Test.YtmnhdpojonlfhaaAlA
namespace Go.Proofs.Ytmnhdpojonlfhaa
open Go.RowKit

noncomputable def stA (gs : Gs) (secs : Int) (S : SN × List Nat) (zs : List ActB) : Nat → SN × List Nat
  | 0 => S
  | k + 1 => ((getA gs secs (stA gs secs S zs k).1 (stA gs secs S zs k).2 (zs.getD k aD).size (zs.getD k aD).two).sn, (getA gs secs (stA gs secs S zs k).1 (stA gs secs S zs k).2 (zs.getD k aD).size (zs.getD k aD).two).es)
noncomputable def resA (gs : Gs) (secs : Int) (S : SN × List Nat) (zs : List ActB) (k : Nat) : GetR := getA gs secs (stA gs secs S zs k).1 (stA gs secs S zs k).2 (zs.getD k aD).size (zs.getD k aD).two
noncomputable def gotL (gs : Gs) (secs : Int) (S : SN × List Nat) (zs : List ActB) : Nat → List (Nat × Nat)
  | 0 => []
  | k + 1 => gotL gs secs S zs k ++ [(resA gs secs S zs k).p] ++ [(resA gs secs S zs k).q]
section
variable (gs : Gs) (secs : Int) (S : SN × List Nat) (zs : List ActB)
theorem gotL_length : ∀ k, (gotL gs secs S zs k).length = 2 * k
  | 0 => rfl
  | k + 1 => by simp [gotL, gotL_length k]; omega
theorem gotL_get : ∀ n k, k < n → (gotL gs secs S zs n).getD (2 * k) (0, 0) = (resA gs secs S zs k).p ∧ (gotL gs secs S zs n).getD (2 * k + 1) (0, 0) = (resA gs secs S zs k).q := by
  intro n
  induction n with
  | zero => intro k h; omega
  | succ n ih =>
    intro k hk
    have hl := gotL_length gs secs S zs n
    have e2 : gotL gs secs S zs (n + 1) = gotL gs secs S zs n ++ [(resA gs secs S zs n).p, (resA gs secs S zs n).q] := by simp [gotL]
    rw [e2, List.getD_eq_getElem?_getD, List.getD_eq_getElem?_getD]
    rcases Nat.lt_or_ge k n with h | h
    · obtain ⟨a, b⟩ := ih k h
      rw [List.getD_eq_getElem?_getD] at a b
      rw [List.getElem?_append_left (by omega), List.getElem?_append_left (by omega)]
      exact ⟨a, b⟩
    · obtain rfl : k = n := by omega
      rw [List.getElem?_append_right (by omega), List.getElem?_append_right (by omega), hl]
      simp
end
theorem leftB_st (ms : List MT) : leftB ms = ((st2 ms).map fun s => (s.1 : Int) - (sumR s.2 : Int)).sum := by
  unfold leftB st2
  rw [List.map_map]
  rfl
theorem IsBook.ownKept {w w' : World} {bb eb : Nat} {gs : Gs} {secs : Int} {ms : List MT} {es : List Nat} {base e k n : Nat} {v : Value} {xs : List Value} (h : IsBook w bb eb gs secs ms es) (ho : w.ownsRow base e k v n xs) (h1 : e ≠ 145) (h2 : e ≠ 140) (h3 : e ≠ 35) (h4 : e ≠ 3) (h5 : e ≠ 120) (h6 : e ≠ 44)
    (hg : w.grownBy w' v.ownBlock) : IsBook w' bb eb gs secs ms es := by
  obtain ⟨gv, mv, ec, a1, a2, a3, a4⟩ := h.mem
  exact ⟨h.right, h.mlen, h.elen, ⟨gv, mv, ec, a1.ownKept ho h1 hg, owns_ownKept a2 ho h2 hg, owns_ownKept a3 ho h3 hg, owns_ownKept a4 ho h4 hg⟩, fun m hm => (h.maps m hm).ownKept ho h5 h6 hg, h.nodup⟩

/-- a Get on one of two books, with a row that grows beside them; some blocks may have been made ahead of the call -/
theorem get_step {w wr W : World} {bb eb cb ce B n : Nat} {gs : Gs} {secs : Int} {ms mc : List MT} {es ec : List Nat} {v : Value} {xs : List Value} (size : Int) (two : Bool) {r : GetR} (hr : r = getA gs secs (st2 mc) ec size two)
    (hB : Below w.heap.size w wr) (hbb : IsBook wr bb eb gs secs ms es) (hbc : IsBook wr cb ce gs secs mc ec) (hdis : ∀ k, foot cb ce mc k → ¬ foot bb eb ms k) (hfc : ∀ k, foot cb ce mc k → B ≤ k) (hwB : w.heap.size ≤ B)
    (hown : wr.ownsRow w.heap.size 63 2 v n xs) (hW : Below wr.heap.size wr W) :
    Calls Try.prog 59 #[.pointer (some ⟨cb, 0, none⟩), .int .i64 size, .bool two] W fun e w' =>
      e = .returned (.tuple #[.agg #[.int .i64 (r.p.1 : Nat), .int .i64 (r.p.2 : Nat)], .agg #[.int .i64 (r.q.1 : Nat), .int .i64 (r.q.2 : Nat)], .int .i64 (r.err : Nat)]) ∧
      ∃ ce' mc', IsBook w' cb ce' gs secs mc' r.es ∧ st2 mc' = r.sn ∧ (∀ k, foot cb ce' mc' k → B ≤ k) ∧ (∀ k, foot cb ce' mc' k → ¬ foot bb eb ms k) ∧ Below w.heap.size w w' ∧ IsBook w' bb eb gs secs ms es ∧
        w'.ownsRow w.heap.size 63 2 v n xs ∧ (∀ g, wr.heap.size ≤ g → g < W.heap.size → w'.heap[g]? = W.heap[g]?) ∧ W.heap.size ≤ w'.heap.size := by
  have hz := hW.size
  have hcl := hbc.lt
  have hbl := hbb.lt
  have hcW := hbc.below hW
  have hBl : B ≤ wr.heap.size := Nat.le_trans (hfc cb (.inl rfl)) (Nat.le_of_lt (hcl cb (.inl rfl)))
  refine (get_any cb ce gs secs mc ec size two W hcW).mono ?_
  rintro e w' ⟨rfl, ce', mc', h1, h2, h3, hm⟩
  rw [← hr] at h1 h2 ⊢
  refine ⟨rfl, ce', mc', h1, h2, fun k hk => (h3 k hk).elim (hfc k) (fun h => by omega), fun k hk hb => ?_, ?_, (hbb.below hW).keep hm hcW.tyOk (fun k hk h => hdis k h hk), hm.owns hcW.tyOk (owns_below hown hW) (by decide) (by decide) (by decide), fun g hg hgl => hm.block g hgl (fun h => by have := hcl g h; omega), hm.size⟩
  · rcases h3 k hk with h | h
    · exact hdis k h hb
    · have := hbl k hb; omega
  · have h5 := hB.trans (hW.mono hB.size)
    exact h5.trans (hm.toBelow (fun k hk => Nat.le_trans hwB (hfc k hk)) h5.size)

/-- places are laid into memory, or written, from block B on -/
inductive Lay (B : Nat) (w : World) : World → Prop where
  | refl : Lay B w w
  | alloc {w1 : World} (h : Lay B w w1) (cs : Array Value) : Lay B w (w1.alloc (.cells cs 63))
  | set {w1 : World} {g j : Nat} {u : Value} {cs : List Value} (h : Lay B w w1) (hb : Blk w1 g 63 cs) (hg : B ≤ g) : Lay B w (w1.setCell ⟨g, j, none⟩ u)
theorem Lay.size {B : Nat} {w w1 : World} (h : Lay B w w1) : w.heap.size ≤ w1.heap.size := by
  induction h with
  | refl => exact Nat.le_refl _
  | alloc h cs ih => simp; omega
  | set h hb hg ih => simpa [World.setCell] using ih
theorem Lay.book {B : Nat} {w w1 : World} {bb eb : Nat} {gs : Gs} {secs : Int} {ms : List MT} {es : List Nat} (h : Lay B w w1) (hb : IsBook w bb eb gs secs ms es) : IsBook w1 bb eb gs secs ms es := by
  induction h with
  | refl => exact hb
  | alloc h cs ih => exact ih.below ((Below.refl _ _).alloc (Nat.le_refl _) _)
  | set h hb hg ih => exact ih.setOther hb (by decide) (by decide) (by decide) (by decide) (by decide) (by decide)
theorem Lay.under {B C : Nat} {w0 w w1 : World} (h : Lay B w w1) (hb : Below C w0 w) (hC : C ≤ B) (hCw : C ≤ w.heap.size) : Below C w0 w1 := by
  induction h with
  | refl => exact hb
  | alloc h cs ih => exact ih.alloc (Nat.le_trans hCw h.size) _
  | set h hb hg ih => exact ih.setCell (Nat.le_trans hC hg) _
theorem Lay.kept {B : Nat} {w w1 : World} (h : Lay B w w1) {g : Nat} (hg : g < B) (hgw : g < w.heap.size) : w1.heap[g]? = w.heap[g]? := by
  induction h with
  | refl => rfl
  | alloc h cs ih => rw [Below.heap_alloc _ _ _ (Nat.lt_of_lt_of_le hgw h.size)]; exact ih
  | @set w1 g' j u cs h hb hg' ih =>
    have hne : g ≠ g' := by omega
    rw [Below.heap_setCell _ _ _ _ hne]
    exact ih
theorem Lay.owns {B : Nat} {w w1 : World} {base e size n : Nat} {v : Value} {xs : List Value} (h : Lay B w w1) (ho : w.ownsRow base e size v n xs) (hv : ∀ g, v.ownBlock = some g → g < B) : w1.ownsRow base e size v n xs := by
  refine ⟨ho.1, ?_⟩
  rcases ho.2 with h2 | ⟨g, cap, cur, hv2, hg, hh, r⟩
  · exact .inl h2
  · have hlt : g < w.heap.size := (Array.getElem?_eq_some_iff.1 hh).1
    exact .inr ⟨g, cap, cur, hv2, hg, by rw [h.kept (hv g (by rw [hv2]; rfl)) hlt]; exact hh, r⟩

/-- two places, however they were laid -/
structure Two (B : Nat) (w wx : World) (a c : Nat) (xs zs : List Value) : Prop where
  lay : Lay B w wx
  fst : Blk wx a 63 xs
  snd : Blk wx c 63 zs
theorem two_new (B : Nat) (w : World) (x1 x2 z1 z2 : Value) : Two B w ((w.alloc (.cells #[x1, x2] 63)).alloc (.cells #[z1, z2] 63)) w.heap.size (w.heap.size + 1) [x1, x2] [z1, z2] :=
  ⟨(Lay.refl.alloc _).alloc _, (Blk.new w 63 [x1, x2]).alloc _, Blk.newAt 63 [z1, z2] (by simp)⟩
theorem two_one (B : Nat) (w : World) (a : Nat) (x1 x2 z1 z2 y1 y2 : Value) (h : Blk w a 63 [y1, y2]) (hB : B ≤ a) : Two B w (((w.setCell ⟨a, 0, none⟩ x1).setCell ⟨a, 1, none⟩ x2).alloc (.cells #[z1, z2] 63)) a w.heap.size [x1, x2] [z1, z2] := by
  have h1 : Blk (w.setCell ⟨a, 0, none⟩ x1) a 63 [x1, y2] := h.setCell 0 x1
  have h2 : Blk ((w.setCell ⟨a, 0, none⟩ x1).setCell ⟨a, 1, none⟩ x2) a 63 [x1, x2] := h1.setCell 1 x2
  exact ⟨((Lay.refl.set h hB).set h1 hB).alloc _, h2.alloc _, Blk.newAt 63 [z1, z2] (by simp [World.setCell])⟩
theorem two_old (B : Nat) (w : World) (a c : Nat) (x1 x2 z1 z2 y1 y2 v1 v2 : Value) (h : Blk w a 63 [y1, y2]) (k : Blk w c 63 [v1, v2]) (hB : B ≤ a) (hC : B ≤ c) (hne : a ≠ c) :
    Two B w ((((w.setCell ⟨a, 0, none⟩ x1).setCell ⟨a, 1, none⟩ x2).setCell ⟨c, 0, none⟩ z1).setCell ⟨c, 1, none⟩ z2) a c [x1, x2] [z1, z2] := by
  have h1 : Blk (w.setCell ⟨a, 0, none⟩ x1) a 63 [x1, y2] := h.setCell 0 x1
  have h2 : Blk ((w.setCell ⟨a, 0, none⟩ x1).setCell ⟨a, 1, none⟩ x2) a 63 [x1, x2] := h1.setCell 1 x2
  have k2 := (k.other (a := ⟨a, 0, none⟩) (fun e => hne e.symm) x1).other (a := ⟨a, 1, none⟩) (fun e => hne e.symm) x2
  have k3 : Blk _ c 63 [z1, v2] := k2.setCell 0 z1
  have k4 : Blk _ c 63 [z1, z2] := k3.setCell 1 z2
  exact ⟨(((Lay.refl.set h hB).set h1 hB).set k2 hC).set k3 hC, (h2.other (a := ⟨c, 0, none⟩) hne z1).other (a := ⟨c, 1, none⟩) hne z2, k4⟩
theorem Two.swap {B : Nat} {w wx : World} {a c : Nat} {xs zs : List Value} (h : Two B w wx a c xs zs) : Two B w wx c a zs xs := ⟨h.lay, h.snd, h.fst⟩
end Go.Proofs.Ytmnhdpojonlfhaa
