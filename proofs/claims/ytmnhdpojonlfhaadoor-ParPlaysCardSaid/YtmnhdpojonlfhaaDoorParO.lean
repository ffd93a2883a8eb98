/- The walk of the statement ParOrder. -/
import Derived.Test.YtmnhdpojonlfhaaDoorParB
import Derived.Deep.QuietTactic
import Derived.BigQuiet
namespace Go.Proofs.YtmnhdpojonlfhaaDoor
open Go.RowKit

theorem xorAt_set (j : Nat) : ∀ (l : List ByteArray) (i : Nat) (v : ByteArray), i < l.length → xorAt j (l.set i v) = xorAt j l ^^^ ((l.getD i ByteArray.empty).data.toList.getD j 0 ^^^ v.data.toList.getD j 0) := by
  intro l
  induction l with
  | nil => intro i v h; simp at h
  | cons a r ih =>
    intro i v h
    cases i with
    | zero =>
      rw [List.set_cons_zero, xorAt_cons, xorAt_cons]
      show _ = a.data.toList.getD j 0 ^^^ xorAt j r ^^^ (a.data.toList.getD j 0 ^^^ v.data.toList.getD j 0)
      generalize a.data.toList.getD j 0 = p
      generalize v.data.toList.getD j 0 = q
      generalize xorAt j r = x
      rw [← UInt8.xor_assoc, UInt8.xor_comm (p ^^^ x) p, ← UInt8.xor_assoc, UInt8.xor_self, UInt8.zero_xor, UInt8.xor_comm]
    | succ i =>
      rw [List.set_cons_succ, xorAt_cons, xorAt_cons, ih i v (by simpa using h)]
      show _ = a.data.toList.getD j 0 ^^^ xorAt j r ^^^ ((r.getD i ByteArray.empty).data.toList.getD j 0 ^^^ v.data.toList.getD j 0)
      rw [UInt8.xor_assoc]
theorem cellSetSome {w : World} {p q : Addr} {x v : Value} (h : w.cell? q = some v) : ∃ v', (w.setCell p x).cell? q = some v' := by
  by_cases e : p = q
  · subst e; exact ⟨x, World.cell?_setCell_same w p x h⟩
  · exact ⟨v, (World.cell?_setCell_other w p q x e).trans h⟩
/-- two columns exchanged -/
def swp (l : List ByteArray) (x y : Nat) : List ByteArray := (l.set x (l.getD y ByteArray.empty)).set y (l.getD x ByteArray.empty)
theorem swp_length (l : List ByteArray) (x y : Nat) : (swp l x y).length = l.length := by simp [swp]
theorem swp_size {l : List ByteArray} {q x y : Nat} (hx : x < l.length) (hy : y < l.length) (h : ∀ s ∈ l, s.size = q) : ∀ s ∈ swp l x y, s.size = q := by
  have gx : l.getD x ByteArray.empty ∈ l := by rw [List.getD_eq_getElem?_getD, List.getElem?_eq_getElem hx]; exact List.getElem_mem _
  have gy : l.getD y ByteArray.empty ∈ l := by rw [List.getD_eq_getElem?_getD, List.getElem?_eq_getElem hy]; exact List.getElem_mem _
  intro s hs
  unfold swp at hs
  rcases List.mem_or_eq_of_mem_set hs with hs | rfl
  · rcases List.mem_or_eq_of_mem_set hs with hs | rfl
    · exact h s hs
    · exact h _ gy
  · exact h _ gx
theorem xor4 (X p r : UInt8) : X ^^^ (p ^^^ r) ^^^ (r ^^^ p) = X := by
  rw [UInt8.xor_comm r p, UInt8.xor_assoc, UInt8.xor_self, UInt8.xor_zero]
theorem swp_xor {l : List ByteArray} {q x y : Nat} (hx : x < l.length) (hy : y < l.length) : xorL q (swp l x y) = xorL q l := by
  refine xorL_ext q _ _ (xorL_length _ _) fun j hj => ?_
  rw [xorL_getD q j _ hj]
  unfold swp
  rw [xorAt_set j _ y _ (by simpa using hy), xorAt_set j _ x _ hx]
  by_cases h : x = y
  · subst h
    have e : (l.set x (l.getD x ByteArray.empty)).getD x ByteArray.empty = l.getD x ByteArray.empty := by simp [List.getD, hx]
    rw [e]; simp
  · have e : (l.set x (l.getD y ByteArray.empty)).getD y ByteArray.empty = l.getD y ByteArray.empty := by
      simp only [List.getD_eq_getElem?_getD, List.getElem?_set, if_neg h]
    rw [e]
    exact (xor4 _ _ _).symm
theorem twice_zero (q : Nat) (l : List ByteArray) : zerosB (xorS q (l ++ l)).data.toList = true := by
  rw [xorS_toList]
  refine zerosB_true fun x hx => ?_
  rw [xorL_length] at hx
  rw [xorL_getD q x _ hx, xorAt_append, UInt8.xor_self]

set_option maxHeartbeats 800000 in
set_option maxRecDepth 100000 in
theorem orderL_short (a1 : Option Addr) (n1 c1 : Nat) (l : List ByteArray) (i k : Int) (w : World) (h1 : SSl w a1 n1 c1 l) (hno : fewB l = false ∨ n1 = 0 ∨ evenL l = false) :
    Calls Tryd.prog 3 #[.slice a1 n1 c1, .int .u8 i, .int .u8 k] w fun e w' => e = .returned (.bool true) ∧ Below w.heap.size w w' := by
  have HA := Lib.hid awake03_any
  have H1 := Lib.hid fun W (hW : Below w.heap.size w W) => few_any a1 n1 c1 l W (h1.below hW)
  have hl1 := h1.len
  rcases hl : fewB l with _ | _
  · rw [hl] at H1
    clear hl h1 hno hl1
    go_enter Tryd.func3, Tryd.ntmps3
    go_wp2_with fail
    refine (HA.out w).mono ?_
    rintro e w1 ⟨rfl, hb1⟩
    go_wp2_with fail
    refine (H1.out w1 hb1).mono ?_
    rintro e w2 ⟨rfl, rfl⟩
    go_wp2_with fail
    refine (HA.out w1).mono ?_
    rintro e w2 ⟨rfl, hb2⟩
    go_wp2_with fail
    go_ret
    exact ⟨rfl, hb1.trans (hb2.mono hb1.size)⟩
  · have hlt : n1 < 30 := by have := few_len hl; omega
    have HE := Lib.hid fun W (hW : Below w.heap.size w W) => even_any a1 n1 c1 l W (h1.below hW) (by omega)
    rw [hl] at H1 hno
    by_cases hn0 : n1 = 0
    · have hz : ((n1 : Int) == 0) = true := by simpa using hn0
      clear hn0 hl h1 hno hl1
      go_enter Tryd.func3, Tryd.ntmps3
      go_wp2_with fail
      refine (HA.out w).mono ?_
      rintro e w1 ⟨rfl, hb1⟩
      go_wp2_with fail
      refine (H1.out w1 hb1).mono ?_
      rintro e w2 ⟨rfl, rfl⟩
      go_wp2_with fail
      refine (HA.out w1).mono ?_
      rintro e w2 ⟨rfl, hb2⟩
      go_wp2_with fail
      go_ret
      exact ⟨rfl, hb1.trans (hb2.mono hb1.size)⟩
    · have hz : ((n1 : Int) == 0) = false := by simpa using hn0
      have hev : evenL l = false := by simp at hno; exact hno.resolve_left hn0
      rw [hev] at HE
      clear hn0 hl h1 hno hl1 hev
      go_enter Tryd.func3, Tryd.ntmps3
      go_wp2_with fail
      refine (HA.out w).mono ?_
      rintro e w1 ⟨rfl, hb1⟩
      go_wp2_with fail
      refine (H1.out w1 hb1).mono ?_
      rintro e w2 ⟨rfl, rfl⟩
      go_wp2_with fail
      refine (HE.out w1 hb1).mono ?_
      rintro e w2 ⟨rfl, hb2⟩
      go_wp2_with fail
      refine (HA.out w2).mono ?_
      rintro e w3 ⟨rfl, hb3⟩
      go_wp2_with fail
      go_ret
      exact ⟨rfl, (hb1.trans (hb2.mono hb1.size)).trans (hb3.mono (Nat.le_trans hb1.size hb2.size))⟩

set_option maxHeartbeats 3200000 in
set_option maxRecDepth 100000 in
theorem orderL_long (a1 : Option Addr) (n1 c1 : Nat) (l : List ByteArray) (i k : Nat) (w : World) (h1 : SSl w a1 n1 c1 l) (hi8 : i ≤ 255) (hk8 : k ≤ 255) (hl : fewB l = true) (hn1 : 0 < n1) (hev : evenL l = true) :
    Calls Tryd.prog 3 #[.slice a1 n1 c1, .int .u8 i, .int .u8 k] w fun e w' => e = .returned (.bool true) ∧ Below w.heap.size w w' := by
  have hl1 := h1.len
  have hs1 := few_len hl
  obtain ⟨b1, o1, rfl, hbl, hcc⟩ := h1.pos hn1
  obtain ⟨i0, hi, hi0, hi1, hi2⟩ := info_parts infoS
  have hsz := evenL_size hev
  obtain ⟨q, hq⟩ : ∃ q, q = (l.getD 0 ByteArray.empty).size := ⟨_, rfl⟩
  rw [← hq] at hsz
  have hq4 : q ≤ 4000 := by
    cases l with
    | nil => simp at hl1; omega
    | cons x r => have := few_size hl x (by simp); rw [hq]; simpa using this
  obtain ⟨x, hx⟩ : ∃ x, x = i % n1 := ⟨_, rfl⟩
  obtain ⟨y, hy⟩ : ∃ y, y = k % n1 := ⟨_, rfl⟩
  have hxn : x < n1 := by rw [hx]; exact Nat.mod_lt _ hn1
  have hyn : y < n1 := by rw [hy]; exact Nat.mod_lt _ hn1
  have ex : (i : Int) % (n1 : Int) = (x : Int) := by rw [hx]; simp
  have ey : (k : Int) % (n1 : Int) = (y : Int) := by rw [hy]; simp
  have EX := Lib.hid ex
  have EY := Lib.hid ey
  have hcx := hcc x hxn
  have hcy := hcc y hyn
  have HA := Lib.hid awake03_any
  have H1 := Lib.hid fun W (hW : Below w.heap.size w W) => few_any _ n1 c1 l W (h1.below hW)
  have HE := Lib.hid fun W (hW : Below w.heap.size w W) => even_any _ n1 c1 l W (h1.below hW) (by omega)
  have HM := Lib.hid fun W (hW : Below w.heap.size w W) => make_yes _ n1 c1 q l W (h1.below hW) (by omega) hn1 (by omega) hsz
  have K1 := Lib.hid h1
  have L1 := Lib.hid hl1
  have HS := Lib.hid hsz
  obtain ⟨lx, hlx⟩ : ∃ lx, lx = l.getD x ByteArray.empty := ⟨_, rfl⟩
  obtain ⟨ly, hly⟩ : ∃ ly, ly = l.getD y ByteArray.empty := ⟨_, rfl⟩
  have HSW := Lib.hid (swp_size (x := x) (y := y) (by omega) (by omega) hsz)
  have HSX := Lib.hid (swp_xor (q := q) (x := x) (y := y) (l := l) (by omega) (by omega))
  have HSL := Lib.hid (swp_length l x y)
  have HSWE : Hid (swp l x y = (l.set x ly).set y lx) := Lib.hid (by rw [hlx, hly]; rfl)
  rw [← hlx] at hcx
  rw [← hly] at hcy
  have HCX := Lib.hid hcx
  have HCY := Lib.hid hcy
  rw [hl] at H1
  rw [hev] at HE
  have hb1 : n1 < 30 := by omega
  have hz : ((n1 : Int) == 0) = false := by simp; omega
  have HAL : Hid (∀ s ∈ l ++ l, s.size = q) := Lib.hid fun s hs => by rcases List.mem_append.1 hs with hs | hs <;> exact hsz s hs
  have HZ := Lib.hid (twice_zero q l)
  clear h1 hl1 hs1 hl hev hsz hq hcc hcx hcy hx hy ex ey hlx hly
  go_enter Tryd.func3, Tryd.ntmps3
  go_wp2_with fail
  refine (HA.out w).mono ?_
  rintro e w1 ⟨rfl, hb1⟩
  go_wp2_with fail
  refine (H1.out w1 hb1).mono ?_
  rintro e w2 ⟨rfl, rfl⟩
  go_wp2_with fail
  refine (HE.out w1 hb1).mono ?_
  rintro e w2 ⟨rfl, hb2⟩
  have B2' := Lib.hid (hb1.trans (hb2.mono hb1.size))
  clear hb1 hb2
  go_wp2_with fail
  go_quiet (fail)
  rw [EX.out, EY.out]
  obtain ⟨wv, hwv⟩ : ∃ wv, wv = w2.drewN nq := ⟨_, rfl⟩
  have B2 : Hid (Below w.heap.size w wv) := Lib.hid (by rw [hwv]; exact below_drewN' B2'.out _)
  rw [← hwv]
  clear hwv B2'
  have hmade := World.ownsRow_made (base := wv.heap.size) (e := 9) (size := 1) wv #[] 0 (Nat.le_refl _) (by unfold maxLen; omega) rfl
  go_wp2_with (at_builtin; go_must (refine wpList_append_own _ rfl (.tmp 44) (.tmp 45) 22 rfl wv.heap.size 9 i0 (.string ⟨#[]⟩) 1 16 Tryd.underlying22 hi hi0 hi1 hi2 rfl (by decide) (.slice (some ⟨wv.heap.size, 0, none⟩) 0 0) 0 [] rfl hmade ⟨b1, o1, none⟩ n1 c1 (encS l) rfl (by rw [encS_length, L1.out, Nat.mul_one]) (RSl.news ((K1.out.below B2.out).below ((Below.refl _ _).alloc (Nat.le_refl _) _))) (encS_one l) (by unfold maxLen; omega) (by omega) (by simp) ?_; intro v3 w3 hown3 hgrow3 _; simp only [Nat.zero_add, List.nil_append] at hown3; have B3 := Lib.hid (below_own (B2.out.alloc B2.out.size _) hmade hgrow3 (by have := B2.out.size; simp; omega) B2.out.size); have hs3 := hgrow3.size; simp only [World.size_alloc] at hs3; obtain ⟨g, cap3, rfl, hg⟩ := owns_headv hown3 (by omega)))
  clear hgrow3 hmade
  have C3 := Lib.hid (fun W (hW : Below w3.heap.size w3 W) => hW)
  have d1 : w3.cell? ⟨b1, o1 + x, none⟩ = some (.string lx) := (B3.out.cell (p := ⟨b1, o1 + x, none⟩) hbl).trans HCX.out
  have d2 : w3.cell? ⟨b1, o1 + y, none⟩ = some (.string ly) := (B3.out.cell (p := ⟨b1, o1 + y, none⟩) hbl).trans HCY.out
  have g1 : w3.cell? ⟨g, x, none⟩ = some (.string (l.getD x ByteArray.empty)) := owns_cellS hown3 hxn
  have g2 : w3.cell? ⟨g, y, none⟩ = some (.string (l.getD y ByteArray.empty)) := owns_cellS hown3 hyn
  have f1 := hown3.frozenAt x
  have f2 := hown3.frozenAt y
  obtain ⟨v1, k1⟩ := cellSetSome (w := w3) (p := ⟨g, x, none⟩) (x := .string ly) (q := ⟨g, y, none⟩) (v := .string (l.getD y ByteArray.empty)) g2
  obtain ⟨v2, k2⟩ := cellSetSome (w := w3) (p := ⟨g, y, none⟩) (x := .string lx) (q := ⟨g, x, none⟩) (v := .string (l.getD x ByteArray.empty)) g1
  have O3 := Lib.hid hown3
  have hx0 : (0 : Int) ≤ (x : Int) := by omega
  have hy0 : (0 : Int) ≤ (y : Int) := by omega
  have hx1 : (x : Int) < (n1 : Int) := by omega
  have hy1 : (y : Int) < (n1 : Int) := by omega
  clear hown3
  go_region
  obtain ⟨w5, hw5⟩ : ∃ w5, w5 = ((w3.setCell ⟨g, x, none⟩ (.string ly)).setCell ⟨g, y, none⟩ (.string lx)).drew := ⟨_, rfl⟩
  have B5 : Hid (Below w.heap.size w w5) := Lib.hid (by
    rw [hw5]
    exact ((B3.out.setCell (p := ⟨g, x, none⟩) (Nat.le_trans B2.out.size hg) _).setCell (p := ⟨g, y, none⟩) (Nat.le_trans B2.out.size hg) _).drew)
  have HR5 : Hid (SSl w5 (some ⟨g, 0, none⟩) n1 cap3 (swp l x y)) := Lib.hid (by
    have h1 := (O3.out.stored x (.string ly)).1
    have h2 := (h1.stored y (.string lx)).1
    have e : ((encS l).set x (.string ly)).set y (.string lx) = encS (swp l x y) := by rw [HSWE.out]; simp [encS, List.map_set]
    rw [e] at h2
    rw [hw5]
    exact SSl.of_owns (owns_drewN (k := 1) h2))
  rw [← hw5]
  clear hw5 k1 k2 d1 d2 g1 g2 f1 f2 C3 O3
  go_wp2_with fail
  refine (HM.out w5 B5.out).mono ?_
  rintro e w6 ⟨rfl, hb6⟩
  have B6 := Lib.hid (B5.out.trans (hb6.mono B5.out.size))
  have hM2 := make_yes (some ⟨g, 0, none⟩) n1 cap3 q (swp l x y) w6 (HR5.out.below hb6) (by omega) hn1 (by omega) HSW.out
  rw [HSX.out] at hM2
  have HM2 := Lib.hid hM2
  clear hb6 hM2
  go_wp2_with fail
  refine HM2.out.mono ?_
  rintro e w7 ⟨rfl, hb7⟩
  have B7 := Lib.hid (B6.out.trans (hb7.mono B6.out.size))
  clear hb7
  have hmade := World.ownsRow_made (base := w7.heap.size) (e := 9) (size := 1) w7 #[] 0 (Nat.le_refl _) (by unfold maxLen; omega) rfl
  go_wp2_with (first
    | (at_builtin; refine wpList_append_own _ rfl (.tmp 72) (.tmp 73) 22 rfl w7.heap.size 9 i0 (.string ⟨#[]⟩) 1 16 Tryd.underlying22 hi hi0 hi1 hi2 rfl (by decide) (.slice (some ⟨w7.heap.size, 0, none⟩) 0 0) 0 [] rfl hmade ⟨b1, o1, none⟩ n1 c1 (encS l) rfl (by rw [encS_length, L1.out, Nat.mul_one]) (RSl.news ((K1.out.below B7.out).below ((Below.refl _ _).alloc (Nat.le_refl _) _))) (encS_one l) (by unfold maxLen; omega) (by omega) (by simp) ?_; intro v8 w8 hown8 hgrow8 _; simp only [Nat.zero_add, List.nil_append] at hown8; have B8 := Lib.hid (below_own (B7.out.alloc B7.out.size _) hmade hgrow8 (by have := B7.out.size; simp; omega) B7.out.size); have hs8 := hgrow8.size; simp only [World.size_alloc] at hs8)
    | (at_builtin; go_must (refine wpList_append_own _ rfl (.tmp 74) (.tmp 75) 22 rfl w7.heap.size 9 i0 (.string ⟨#[]⟩) 1 16 Tryd.underlying22 hi hi0 hi1 hi2 rfl (by decide) v8 n1 (encS l) rfl hown8 ⟨b1, o1, none⟩ n1 c1 (encS l) rfl (by rw [encS_length, L1.out, Nat.mul_one]) (RSl.news (K1.out.below B8.out)) (encS_one l) (by unfold maxLen; omega) (by omega) (by omega) ?_; intro v9 w9 hown9 hgrow9 _; rw [← encS_append] at hown9; have B9 := Lib.hid (below_own B8.out hown8 hgrow9 B8.out.size B7.out.size); obtain ⟨ao9, cap9, rfl, hr9⟩ := RSl.of_owns hown9; have HR9 := Lib.hid hr9)))
  clear hown8 hgrow8 hown9 hgrow9 hmade hr9
  have HM9 := Lib.hid (make_yes ao9 (n1 + n1) cap9 q (l ++ l) w9 HR9.out (by omega) (by omega) (by omega) HAL.out)
  refine HM9.out.mono ?_
  rintro e w10 ⟨rfl, hb10⟩
  have B10 := Lib.hid (B9.out.trans (hb10.mono B9.out.size))
  clear hb10
  go_wp2_with fail
  refine (blank_any (xorS q (l ++ l)) w10 (by rw [xorS_size]; omega)).mono ?_
  rintro e w11 ⟨rfl, hb11⟩
  rw [HZ.out]
  have B11 := Lib.hid (B10.out.trans (hb11.mono B10.out.size))
  clear hb11
  go_wp2_with fail
  go_ret
  exact ⟨ret_bool (by rw [xorL_length, xorL_length]; simp), B11.out⟩
theorem orderL_any (a1 : Option Addr) (n1 c1 : Nat) (l : List ByteArray) (i k : Int) (w : World) (h1 : SSl w a1 n1 c1 l) (hi : 0 ≤ i ∧ i ≤ 255) (hk : 0 ≤ k ∧ k ≤ 255) :
    Calls Tryd.prog 3 #[.slice a1 n1 c1, .int .u8 i, .int .u8 k] w fun e w' => e = .returned (.bool true) ∧ Below w.heap.size w w' := by
  by_cases h : fewB l = false ∨ n1 = 0 ∨ evenL l = false
  · exact orderL_short a1 n1 c1 l i k w h1 h
  · simp only [not_or, Bool.not_eq_false] at h
    obtain ⟨i, rfl⟩ := Int.eq_ofNat_of_zero_le hi.1
    obtain ⟨k, rfl⟩ := Int.eq_ofNat_of_zero_le hk.1
    exact orderL_long a1 n1 c1 l i k w h1 (by omega) (by omega) h.1 (by omega) h.2.2
end Go.Proofs.YtmnhdpojonlfhaaDoor
