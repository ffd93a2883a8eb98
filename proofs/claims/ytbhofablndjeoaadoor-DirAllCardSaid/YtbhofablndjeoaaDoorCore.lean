/- Slices that are only read, told by their cells; what stays of them in a later world. No condition: lemmas over any program. -/
import Derived.WalkKit
import Derived.WalkSpells
import Derived.WalkLawsBesides
import Derived.SliceStrings
import Derived.Lib.Hide
namespace Go.Proofs.YtbhofablndjeoaaDoor
open Go.RowKit

/-- A slice value of n elements, k cells each, that reads as the cells cs. -/
def RSl (w : World) (k : Nat) (ao : Option Addr) (n cap : Nat) (cs : List Value) : Prop :=
  cs.length = n * k ∧ n ≤ cap ∧ cap ≤ maxLen ∧ (ao = none → cap = 0) ∧
  (0 < n → ∃ b off, ao = some ⟨b, off, none⟩ ∧ b < w.heap.size ∧ ∀ j, j < n * k → w.cell? ⟨b, off + j, none⟩ = cs[j]?)

theorem RSl.below {w w' : World} {k n cap : Nat} {ao : Option Addr} {cs : List Value} (h : RSl w k ao n cap cs) (hb : Below w.heap.size w w') : RSl w' k ao n cap cs := by
  obtain ⟨h1, h2, h3, h4, h5⟩ := h
  refine ⟨h1, h2, h3, h4, fun hn => ?_⟩
  obtain ⟨b, off, e, hlt, hc⟩ := h5 hn
  exact ⟨b, off, e, Nat.lt_of_lt_of_le hlt hb.size, fun j hj => (hb.cell (p := ⟨b, off + j, none⟩) hlt).trans (hc j hj)⟩

theorem RSl.belowB {w w' : World} {B k n cap : Nat} {ao : Option Addr} {cs : List Value} (h : RSl w k ao n cap cs) (hb : Below B w w') (hB : w.heap.size ≤ B) : RSl w' k ao n cap cs :=
  h.below (hb.mono hB)

theorem RSl.nil (w : World) (k : Nat) : RSl w k none 0 0 [] := ⟨by simp, Nat.le_refl _, by unfold maxLen; omega, fun _ => rfl, fun h => absurd h (by omega)⟩

theorem RSl.of_owns {w : World} {base e size n : Nat} {v : Value} {xs : List Value} (h : w.ownsRow base e size v n xs) :
    ∃ ao cap, v = .slice ao n cap ∧ RSl w size ao n cap xs := by
  rcases h.2 with ⟨rfl, rfl⟩ | ⟨g, cap, cur, rfl, hb, hg, hnc, hcm, hcs, ht⟩
  · have hx : xs = [] := List.eq_nil_of_length_eq_zero (by simpa using h.1)
    subst hx
    exact ⟨none, 0, rfl, RSl.nil _ _⟩
  · refine ⟨some ⟨g, 0, none⟩, cap, rfl, h.1, hnc, hcm, fun e => by simp at e, fun hn => ⟨g, 0, rfl, (Array.getElem?_eq_some_iff.1 hg).1, fun j hj => ?_⟩⟩
    rw [Nat.zero_add, cell_of_row w g j cur e (0, 0) hg, ← ht, List.getElem?_take, if_pos hj]
    simp

/-- strings as cells -/
def encS (ss : List ByteArray) : List Value := ss.map Value.string
theorem encS_length (ss : List ByteArray) : (encS ss).length = ss.length := by simp [encS]
theorem encS_get (ss : List ByteArray) (j : Nat) (h : j < ss.length) : (encS ss)[j]? = some (.string (ss.getD j ByteArray.empty)) := by simp [encS, h]
theorem encS_append (a b : List ByteArray) : encS (a ++ b) = encS a ++ encS b := by simp [encS]
theorem encS_take (a : List ByteArray) (k : Nat) : encS (a.take k) = (encS a).take k := by simp [encS]

/-- A slice of strings. -/
def SSl (w : World) (ao : Option Addr) (n cap : Nat) (ss : List ByteArray) : Prop := RSl w 1 ao n cap (encS ss)
theorem SSl.len {w : World} {ao : Option Addr} {n cap : Nat} {ss : List ByteArray} (h : SSl w ao n cap ss) : ss.length = n := by have := h.1; simpa [encS] using this
theorem SSl.below {w w' : World} {ao : Option Addr} {n cap : Nat} {ss : List ByteArray} (h : SSl w ao n cap ss) (hb : Below w.heap.size w w') : SSl w' ao n cap ss := RSl.below h hb
theorem SSl.pos {w : World} {ao : Option Addr} {n cap : Nat} {ss : List ByteArray} (h : SSl w ao n cap ss) (hn : 0 < n) :
    ∃ b off, ao = some ⟨b, off, none⟩ ∧ b < w.heap.size ∧ ∀ j, j < n → w.cell? ⟨b, off + j, none⟩ = some (.string (ss.getD j ByteArray.empty)) := by
  obtain ⟨b, off, e, hlt, hc⟩ := h.2.2.2.2 hn
  refine ⟨b, off, e, hlt, fun j hj => ?_⟩
  rw [hc j (by omega), encS_get ss j (by rw [h.len]; exact hj)]

/-- What a slice of strings among the arguments reads as. -/
theorem SSl.of_open {w : World} {a : Addr} {len cap : Nat} {ss : List ByteArray} (hl : len ≤ cap) (hm : cap ≤ maxLen) (hz : len ≤ ss.length)
    (hcell : ∀ i, i < ss.length → w.cell? (a.add i) = some (.string (ss.getD i ByteArray.empty))) : SSl w (some a) len cap (ss.take len) := by
  refine ⟨by simp [encS, hz], hl, hm, fun e => by simp at e, fun hn => ?_⟩
  obtain ⟨b, off, spot⟩ := a
  have h0 := hcell 0 (by omega)
  have hs : spot = none := by
    cases spot with
    | none => rfl
    | some s => simp [Addr.add, World.cell?] at h0; split at h0 <;> simp at h0
  subst hs
  refine ⟨b, off, rfl, block_lt_of_cell (a := ⟨b, off, none⟩) (by simpa [Addr.add] using h0), fun j hj => ?_⟩
  have hj' : j < len := by omega
  have := hcell j (by omega)
  rw [show (⟨b, off, none⟩ : Addr).add j = ⟨b, off + j, none⟩ from by unfold Addr.add; split <;> simp_all] at this
  rw [this, encS_get _ _ (by simp; omega)]
  simp [hj']

theorem SSl.of_owns {w : World} {base e n cap : Nat} {ao : Option Addr} {ss : List ByteArray} (h : w.ownsRow base e 1 (.slice ao n cap) n (encS ss)) : SSl w ao n cap ss := by
  obtain ⟨ao', cap', hv, hr⟩ := RSl.of_owns h
  simp only [Value.slice.injEq, true_and] at hv
  obtain ⟨rfl, rfl⟩ := hv
  exact hr
/-- strings that are laid as they are written -/
theorem owns_lit (w : World) (base e : Nat) (ss : List ByteArray) (hb : base ≤ w.heap.size) (hm : ss.length ≤ maxLen) :
    (w.alloc (.cells (encS ss).toArray e)).ownsRow base e 1 (.slice (some ⟨w.heap.size, 0, none⟩) ss.length ss.length) ss.length (encS ss) := by
  have := World.ownsRow_lit (base := base) (e := e) (size := 1) w (encS ss).toArray ss.length hb hm (by simp [encS])
  simpa using this
theorem SSl.lit (w : World) (e : Nat) (ss : List ByteArray) (hm : ss.length ≤ maxLen) : SSl (w.alloc (.cells (encS ss).toArray e)) (some ⟨w.heap.size, 0, none⟩) ss.length ss.length ss :=
  .of_owns (owns_lit w w.heap.size e ss (Nat.le_refl _) hm)

theorem RSl.news {w : World} {k n cap : Nat} {ad : Addr} {cs : List Value} (h : RSl w k (some ad) n cap cs) : ∀ j u, cs[j]? = some u → w.cell? (ad.add j) = some u := by
  intro j u hu
  obtain ⟨hl, _, _, _, hp⟩ := h
  have hj : j < n * k := by rw [← hl]; exact (List.getElem?_eq_some_iff.1 hu).1
  have hn : 0 < n := by rcases Nat.eq_zero_or_pos n with rfl | h; · simp at hj
                        · exact h
  obtain ⟨b, off, e, hlt, hc⟩ := hp hn
  simp only [Option.some.injEq] at e
  subst e
  rw [show (⟨b, off, none⟩ : Addr).add j = ⟨b, off + j, none⟩ from by unfold Addr.add; split <;> simp_all]
  rw [hc j hj, hu]
theorem encS_one (ss : List ByteArray) : ∀ u ∈ encS ss, u.oneCell' = true := by
  intro u hu
  obtain ⟨s, _, rfl⟩ := List.mem_map.1 hu
  rfl

/-- behind an append to what is owned from 'base' on, all below is as it was -/
theorem below_own {w w1 w2 : World} {B base e size n : Nat} {v : Value} {xs : List Value} (hb : Below B w w1) (hown : w1.ownsRow base e size v n xs) (hg : w1.grownBy w2 v.ownBlock) (hB : B ≤ w1.heap.size) (hbase : B ≤ base) : Below B w w2 :=
  hb.grown hg hB fun k hk => Nat.le_trans hbase (hown.lt k hk).1

/-- what is owned stays, where nothing that is there is written -/
theorem owns_below {w w' : World} {base e size n : Nat} {v : Value} {xs : List Value} (h : w.ownsRow base e size v n xs) (hb : Below w.heap.size w w') : w'.ownsRow base e size v n xs := by
  refine ⟨h.1, ?_⟩
  rcases h.2 with h2 | ⟨g, cap, cur, hv, hg, hh, r⟩
  · exact Or.inl h2
  · exact Or.inr ⟨g, cap, cur, hv, hg, by rw [hb.block g (Array.getElem?_eq_some_iff.1 hh).1]; exact hh, r⟩

/-- one string that is laid is there to be appended -/
theorem news_one (w : World) (e : Nat) (s : ByteArray) : ∀ j u, (encS [s])[j]? = some u → (w.alloc (.cells #[.string s] e)).cell? ((⟨w.heap.size, 0, none⟩ : Addr).add j) = some u := by
  intro j u hj
  match j, hj with
  | 0, hj => simp [encS] at hj; subst hj; simp [Addr.add, World.cell?_alloc_at _ _ _ _ rfl]

theorem owns_weaken {w : World} {base base' e size n : Nat} {v : Value} {xs : List Value} (h : w.ownsRow base e size v n xs) (hb : base' ≤ base) : w.ownsRow base' e size v n xs := by
  refine ⟨h.1, ?_⟩
  rcases h.2 with h2 | ⟨g, cap, cur, hv, hg, r⟩
  · exact Or.inl h2
  · exact Or.inr ⟨g, cap, cur, hv, Nat.le_trans hb hg, r⟩

theorem toList_beq (a b : ByteArray) : (a.toList == b.toList) = decide (a = b) := by
  rw [ByteArray.toList_eq, ByteArray.toList_eq, Bool.eq_iff_iff]
  simp only [beq_iff_eq, decide_eq_true_eq]
  constructor
  · intro h
    cases a; cases b
    simp only [ByteArray.mk.injEq]
    exact Array.toList_inj.1 h
  · rintro rfl; rfl

theorem xor_u8 (a b : UInt8) : bits BinOp.xor IntKind.u8 (a.toNat : Int) (b.toNat : Int) = ((a ^^^ b).toNat : Int) := by
  have h1 : a.toNat % 2 ^ 8 = a.toNat := Nat.mod_eq_of_lt a.toNat_lt
  have h2 : b.toNat % 2 ^ 8 = b.toNat := Nat.mod_eq_of_lt b.toNat_lt
  have key : (BitVec.ofInt 8 (a.toNat : Int) ^^^ BitVec.ofInt 8 (b.toNat : Int)).toNat = a.toNat ^^^ b.toNat := by
    rw [BitVec.ofInt_natCast, BitVec.ofInt_natCast, BitVec.toNat_xor, BitVec.toNat_ofNat, BitVec.toNat_ofNat, h1, h2]
  show IntKind.u8.wrap (((BitVec.ofInt 8 (a.toNat : Int) ^^^ BitVec.ofInt 8 (b.toNat : Int)).toNat : Nat) : Int) = _
  rw [key, UInt8.toNat_xor]
  refine wraps_u8 _ (Int.natCast_nonneg _) ?_
  have : a.toNat ^^^ b.toNat < 2 ^ 8 := Nat.xor_lt_two_pow a.toNat_lt b.toNat_lt
  omega

/-- bytes as cells -/
def enc8 (l : List UInt8) : List Value := l.map fun b => Value.int .u8 b.toNat
theorem enc8_length (l : List UInt8) : (enc8 l).length = l.length := by simp [enc8]
theorem enc8_set (l : List UInt8) (i : Nat) (x : UInt8) : (enc8 l).set i (.int .u8 x.toNat) = enc8 (l.set i x) := by simp [enc8, List.map_set]
theorem enc8_get (l : List UInt8) (i : Nat) (h : i < l.length) : (enc8 l)[i]? = some (.int .u8 l[i].toNat) := by simp [enc8, h]
theorem enc8_zero (n : Nat) : (madeCells (Value.int .u8 0).cells (n * 1)).toList = enc8 (List.replicate n 0) := by
  rw [Nat.mul_one, enc8, List.map_replicate]
  exact toList_madeCells_one _ _


theorem run_string_of_own {P : Program} {w : World} {base e0 n cap g : Nat} {l : List UInt8} (h : w.ownsRow base e0 1 (.slice (some ⟨g, 0, none⟩) n cap) n (enc8 l))
    (src e dst : TypeId) (hs : P.underlying src = some (.slice e)) (he : P.underlying e = some (.int .u8)) (hd : P.underlying dst = some .string) :
    (convert src dst (.slice (some ⟨g, 0, none⟩) n cap)).run P w = .ok (.string ⟨l.toArray⟩) w := by
  have hl : l.length = n := by have := h.1; simpa [enc8] using this
  have := run_convert_bytes_arg w src e hs he g 0 n cap (l.map fun b => (b.toNat : Int)) (by simpa using hl) (fun i hi => by
    rw [Nat.zero_add, h.cellAt i (by omega), enc8_get _ _ (by omega)]
    simp [List.getD, hl, hi]) dst hd
  rw [this]
  congr 2
  simp only [strOfNums, List.map_map]
  congr 2
  conv => rhs; rw [← List.map_id l]
  exact List.map_congr_left fun b _ => by simp
end Go.Proofs.YtbhofablndjeoaaDoor
