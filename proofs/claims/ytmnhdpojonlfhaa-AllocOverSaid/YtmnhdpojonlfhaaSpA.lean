/- polderlaw11's acts: a slice of them as it comes in, one by value; awake. -/
import Derived.Test.YtmnhdpojonlfhaaSpF2
import Derived.Test.YtmnhdpojonlfhaaSpG
import Derived.Test.YtmnhdpojonlfhaaSpS
import Derived.Deep.Slices
import Derived.Deep.Fields
import Derived.ChangeSame
import Derived.Lib.SmallJoins
namespace Go.Proofs.Ytmnhdpojonlfhaa
open Go.RowKit Go.ChangeShapes Go.WideShapes Go.Deep

abbrev ActT := Nat × Int × Int
def encA (l : List ActT) : List Value := l.flatMap fun r => [Value.int .u8 r.1, Value.int .i64 r.2.1, Value.int .i64 r.2.2]
theorem encA_length (l : List ActT) : (encA l).length = l.length * 3 := by
  induction l with
  | nil => rfl
  | cons a r ih => simp only [encA, List.flatMap_cons, List.length_append, List.length_cons, List.length_nil] at *; omega
theorem encA_append (a b : List ActT) : encA (a ++ b) = encA a ++ encA b := by simp [encA]
theorem encA_cons (a : ActT) (b : List ActT) : encA (a :: b) = .int .u8 a.1 :: .int .i64 a.2.1 :: .int .i64 a.2.2 :: encA b := rfl
theorem encA_get (l : List ActT) (j : Nat) (h : j < l.length) : (encA l)[j * 3]? = some (.int .u8 (l.getD j (0, 0, 0)).1) ∧ (encA l)[j * 3 + 1]? = some (.int .i64 (l.getD j (0, 0, 0)).2.1) ∧ (encA l)[j * 3 + 2]? = some (.int .i64 (l.getD j (0, 0, 0)).2.2) := by
  induction l generalizing j with
  | nil => simp at h
  | cons a r ih =>
    cases j with
    | zero => exact ⟨rfl, rfl, rfl⟩
    | succ j =>
      have := ih j (by simpa using h)
      rw [encA_cons, show (j + 1) * 3 = j * 3 + 3 by omega, show j * 3 + 3 + 1 = (j * 3 + 1) + 3 by omega, show j * 3 + 3 + 2 = (j * 3 + 2) + 3 by omega]
      simpa using this
theorem encA_one (l : List ActT) : ∀ u ∈ encA l, u.oneCell' = true := by
  intro u hu
  simp only [encA, List.mem_flatMap] at hu
  obtain ⟨r, _, hr⟩ := hu
  simp at hr
  rcases hr with rfl | rfl | rfl <;> rfl

def I64 (x : Int) : Prop := -9223372036854775808 ≤ x ∧ x ≤ 9223372036854775807
def ActOk (r : ActT) : Prop := r.1 ≤ 255 ∧ I64 r.2.1 ∧ I64 r.2.2
/-- A slice of acts. -/
def ASl (w : World) (ao : Option Addr) (n cap : Nat) (zs : List ActT) : Prop := RSl w 3 ao n cap (encA zs) ∧ ∀ r ∈ zs, ActOk r
theorem ASl.below {w w' : World} {ao : Option Addr} {n cap : Nat} {zs : List ActT} (h : ASl w ao n cap zs) (hb : Below w.heap.size w w') : ASl w' ao n cap zs := ⟨h.1.below hb, h.2⟩
theorem ASl.len {w : World} {ao : Option Addr} {n cap : Nat} {zs : List ActT} (h : ASl w ao n cap zs) : zs.length = n := by
  have := h.1.1
  rw [encA_length] at this
  omega
theorem ASl.mx {w : World} {ao : Option Addr} {n cap : Nat} {zs : List ActT} (h : ASl w ao n cap zs) : n ≤ 9223372036854775807 := by
  have h1 := h.1.2.1
  have h2 := h.1.2.2.1
  unfold maxLen at h2
  omega
/-- an act's cells -/
theorem ASl.cells {w : World} {ao : Option Addr} {n cap : Nat} {zs : List ActT} (h : ASl w ao n cap zs) (hn : 0 < n) : ∃ b off, ao = some ⟨b, off, none⟩ ∧ b < w.heap.size ∧ ∀ k, k < n →
    w.cell? ⟨b, off + k * 3, none⟩ = some (.int .u8 (zs.getD k (0, 0, 0)).1) ∧ w.cell? ⟨b, off + k * 3 + 1, none⟩ = some (.int .i64 (zs.getD k (0, 0, 0)).2.1) ∧ w.cell? ⟨b, off + k * 3 + 2, none⟩ = some (.int .i64 (zs.getD k (0, 0, 0)).2.2) ∧ ActOk (zs.getD k (0, 0, 0)) := by
  obtain ⟨b, off, e, hb, hc⟩ := h.1.2.2.2.2 hn
  have hl := h.len
  refine ⟨b, off, e, hb, fun k hk => ?_⟩
  obtain ⟨e0, e1, e2⟩ := encA_get zs k (by omega)
  refine ⟨?_, ?_, ?_, h.2 _ ?_⟩
  · rw [hc _ (by omega), e0]
  · rw [Nat.add_assoc, hc _ (by omega), e1]
  · rw [Nat.add_assoc, hc _ (by omega), e2]
  · rw [List.getD_eq_getElem?_getD, List.getElem?_eq_getElem (show k < zs.length by omega)]; exact List.getElem_mem _

theorem addr_add0 (b off j : Nat) : (⟨b, off, none⟩ : Addr).add j = ⟨b, off + j, none⟩ := by unfold Addr.add; split <;> simp_all

section
variable {H : Type} {enc : TypeId × Value → H} {W : World} {base : Nat} {spare : Nat → Bool} {held : Bool}
set_option maxRecDepth 100000 in
theorem open_acts {a : Option Addr} {len cap : Nat} {d : DataW H} {p : List MemPlace} (h : DataW.Trod enc Try.prog W base spare held 34 (.slice a len cap) d p) : ∃ zs, ASl W a len cap zs := by
  obtain ⟨fuel, hf⟩ := h
  rcases open_slice Try.underlying34 hf with ⟨hcs, _⟩ | ⟨ad, l, c, m, n, D, Pl, hcs, hb, hl, hm, hmm, hx, hi⟩
  · simp [Value.cells] at hcs
    obtain ⟨rfl, rfl, rfl⟩ := hcs
    exact ⟨[], RSl.nil W 3, by simp⟩
  · simp [Value.cells] at hcs
    obtain ⟨rfl, rfl, rfl⟩ := hcs
    have hlm : len ≤ m := by rw [hmm]; split <;> omega
    have each : ∀ i, i < len → ∃ r : ActT, (∀ j v, (encA [r])[j]? = some v → W.cell? (ad.add (i * 3 + j)) = some v) ∧ ActOk r := by
      intro i hil
      obtain ⟨cs', hc, ht⟩ := hi i (by omega)
      rw [show Try.prog.cellsOf 40 = 3 by kernel_rfl] at hc
      obtain ⟨_, hcl, hat⟩ := World.cells?_some hc
      obtain ⟨xs, k, _, _, _, hxl, hfl⟩ := DataW.trod_struct Try.underlying40 ht
      match cs', hcl with
      | [v0, v1, v2], _ =>
        obtain ⟨x0, hx0⟩ : ∃ x0, xs[0]? = some x0 := ⟨_, List.getElem?_eq_getElem (by rw [hxl]; decide)⟩
        obtain ⟨x1, hx1⟩ : ∃ x1, xs[1]? = some x1 := ⟨_, List.getElem?_eq_getElem (by rw [hxl]; decide)⟩
        obtain ⟨x2, hx2⟩ : ∃ x2, xs[2]? = some x2 := ⟨_, List.getElem?_eq_getElem (by rw [hxl]; decide)⟩
        have g0 : DataW.trod enc Try.prog W base spare held k 5 (List.take (Try.prog.cellsOf 5) (List.drop 0 [v0, v1, v2])) = some x0 := (hfl 0 _ rfl).trans hx0
        have g1 : DataW.trod enc Try.prog W base spare held k 3 (List.take (Try.prog.cellsOf 3) (List.drop 1 [v0, v1, v2])) = some x1 := (hfl 1 _ rfl).trans hx1
        have g2 : DataW.trod enc Try.prog W base spare held k 3 (List.take (Try.prog.cellsOf 3) (List.drop 2 [v0, v1, v2])) = some x2 := (hfl 2 _ rfl).trans hx2
        rw [show Try.prog.cellsOf 5 = 1 by kernel_rfl] at g0
        rw [show Try.prog.cellsOf 3 = 1 by kernel_rfl] at g1 g2
        obtain ⟨n0, e0, _, w0⟩ := DataW.trod_int Try.underlying5 g0
        obtain ⟨n1, e1, _, w1⟩ := DataW.trod_int Try.underlying3 g1
        obtain ⟨n2, e2, _, w2⟩ := DataW.trod_int Try.underlying3 g2
        simp at e0 e1 e2
        subst e0 e1 e2
        have b0 : 0 ≤ n0 ∧ n0 ≤ 255 := by simpa [Lit.wf, IntKind.min, IntKind.max, IntKind.signed, IntKind.bits] using w0
        have b1 : -9223372036854775808 ≤ n1 ∧ n1 ≤ 9223372036854775807 := by simpa [Lit.wf, IntKind.min, IntKind.max, IntKind.signed, IntKind.bits] using w1
        have b2 : -9223372036854775808 ≤ n2 ∧ n2 ≤ 9223372036854775807 := by simpa [Lit.wf, IntKind.min, IntKind.max, IntKind.signed, IntKind.bits] using w2
        refine ⟨(n0.toNat, n1, n2), fun j v hj => ?_, ⟨by show n0.toNat ≤ 255; omega, b1, b2⟩⟩
        have he : encA [(n0.toNat, n1, n2)] = [.int .u8 n0, .int .i64 n1, .int .i64 n2] := by
          show [Value.int .u8 ((n0.toNat : Nat) : Int), .int .i64 n1, .int .i64 n2] = _
          rw [Int.toNat_of_nonneg b0.1]
        rw [he] at hj
        have hj3 : j < 3 := (List.getElem?_eq_some_iff.1 hj).1
        have := hat j hj3
        rw [add_add] at this
        rw [this, hj]
    obtain ⟨q, hq⟩ := choose_lt each
    have hcell : ∀ i j v, i < len → (encA [q i])[j]? = some v → W.cell? (ad.add (i * 3 + j)) = some v := fun i j v hil hv => (hq i hil).1 j v hv
    have hlen : ((List.range len).map q).length = len := by simp
    have hget : ∀ k, k < len → ((List.range len).map q).getD k (0, 0, 0) = q k := fun k hk => by simp [List.getD, hk]
    refine ⟨(List.range len).map q, ⟨by rw [encA_length, hlen], hl, hm, fun e => by simp at e, fun hn => ?_⟩, fun r hr => ?_⟩
    · obtain ⟨b, off, spot⟩ := ad
      have h0 := hcell 0 0 _ hn rfl
      have hs : spot = none := by
        cases spot with
        | none => rfl
        | some s => simp [Addr.add, World.cell?] at h0; split at h0 <;> simp at h0
      subst hs
      refine ⟨b, off, rfl, block_lt_of_cell (a := ⟨b, off, none⟩) (by simpa [Addr.add] using h0), fun j hj => ?_⟩
      have hk : j / 3 < len := by omega
      have hsplit : j = j / 3 * 3 + j % 3 := by omega
      obtain ⟨e0, e1, e2⟩ := encA_get ((List.range len).map q) (j / 3) (by omega)
      rw [hget _ hk] at e0 e1 e2
      have key : ∀ v, (encA [q (j / 3)])[j % 3]? = some v → W.cell? ⟨b, off + j, none⟩ = some v := by
        intro v hv
        have := hcell (j / 3) (j % 3) v hk hv
        rw [← hsplit] at this
        rwa [addr_add0] at this
      have h3 : j % 3 = 0 ∨ j % 3 = 1 ∨ j % 3 = 2 := by omega
      rcases h3 with h3 | h3 | h3 <;> rw [h3] at key hsplit
      · rw [Nat.add_zero] at hsplit
        rw [key _ rfl]
        conv => rhs; rw [hsplit]
        exact e0.symm
      · rw [key _ rfl]
        conv => rhs; rw [hsplit]
        exact e1.symm
      · rw [key _ rfl]
        conv => rhs; rw [hsplit]
        exact e2.symm
    · obtain ⟨i, hi, rfl⟩ := List.mem_map.1 hr
      exact (hq i (List.mem_range.1 hi)).2

set_option maxRecDepth 100000 in
theorem open_act {r : Reach} {b0 : Nat} {v : Value} {d : DataW H} {p : List MemPlace} (hv : Value.okWide Try.prog W r b0 40 v) (h : DataW.Trod enc Try.prog W base spare held 40 v d p) :
    ∃ (o : Nat) (a n : Int), v = .agg #[.int .u8 o, .int .i64 a, .int .i64 n] ∧ ActOk (o, a, n) := by
  obtain ⟨v0, v1, v2, y0, y1, y2, k, rfl, rfl, rfl, g0, g1, g2⟩ := Joins.open_agg3 Try.underlying40 (by kernel_rfl) (by kernel_rfl) hv h
  obtain ⟨n0, e0, _, w0⟩ := DataW.trod_int Try.underlying5 g0
  obtain ⟨n1, e1, _, w1⟩ := DataW.trod_int Try.underlying3 g1
  obtain ⟨n2, e2, _, w2⟩ := DataW.trod_int Try.underlying3 g2
  simp at e0 e1 e2
  subst e0 e1 e2
  have b0 : 0 ≤ n0 ∧ n0 ≤ 255 := by simpa [Lit.wf, IntKind.min, IntKind.max, IntKind.signed, IntKind.bits] using w0
  have b1 : -9223372036854775808 ≤ n1 ∧ n1 ≤ 9223372036854775807 := by simpa [Lit.wf, IntKind.min, IntKind.max, IntKind.signed, IntKind.bits] using w1
  have b2 : -9223372036854775808 ≤ n2 ∧ n2 ≤ 9223372036854775807 := by simpa [Lit.wf, IntKind.min, IntKind.max, IntKind.signed, IntKind.bits] using w2
  exact ⟨n0.toNat, n1, n2, by rw [Int.toNat_of_nonneg b0.1], ⟨by show n0.toNat ≤ 255; omega, b1, b2⟩⟩
end

theorem awake_any (w : World) : Calls Try.prog 27 #[] w fun e w' => e = .returned (.bool true) ∧ Below w.heap.size w w' := by
  go_enter Try.func27, Try.ntmps27
  go_wp2_with fail
  refine (new_yes 10 w (by omega) (by omega)).mono ?_
  rintro e w1 ⟨rfl, hm1, hb1⟩
  go_wp2_with fail
  refine (take_any _ 10 _ 2 3 w1 hm1).mono ?_
  rintro e w2 ⟨rfl, hm2, hg2⟩
  rw [show takeS 10 [] 2 3 = (0, [(2, 3)]) from by decide] at hm2 ⊢
  have hb2 := hb1.grown hg2 hb1.size (fun k hk => by simp at hk; omega)
  go_wp2_with fail
  refine (find_any _ 10 _ 3 0 w2 hm2).mono ?_
  rintro e w3 ⟨rfl, hb3⟩
  rw [show findS 10 [(2, 3)] 3 0 = some 5 from by decide]
  have hm3 := hm2.below hb3
  go_wp2_with fail
  refine (find_any _ 10 _ 2 0 w3 hm3).mono ?_
  rintro e w4 ⟨rfl, hb4⟩
  rw [show findS 10 [(2, 3)] 2 0 = some 0 from by decide]
  go_wp2_with fail
  go_ret
  exact ⟨rfl, (hb2.trans (hb3.mono hb2.size)).trans (hb4.mono (hb2.trans (hb3.mono hb2.size)).size)⟩
end Go.Proofs.Ytmnhdpojonlfhaa
