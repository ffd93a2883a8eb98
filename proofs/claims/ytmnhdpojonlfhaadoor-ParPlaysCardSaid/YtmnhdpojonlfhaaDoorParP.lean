/- The walk of the statement ParPlays. -/
import Derived.Test.YtmnhdpojonlfhaaDoorParX
import Derived.Deep.DeepCutAuto
namespace Go.Proofs.YtmnhdpojonlfhaaDoor
open Go.RowKit

/-- what Make answers -/
def MkIs (n q : Nat) (l : List ByteArray) (s : ByteArray) (e : Int) : Prop := ((n = 0 ∨ evenL l = false) ∧ s = ByteArray.empty ∧ e = 1) ∨ ((0 < n ∧ evenL l = true) ∧ s = xorS q l ∧ e = 0)
theorem make_is (ao : Option Addr) (n cap q : Nat) (l : List ByteArray) (w : World) (hsl : SSl w ao n cap l) (hm : n ≤ 1000000000) (hqq : q ≤ 1000000) (hq : evenL l = true → ∀ s ∈ l, s.size = q) :
    Calls Tryd.prog 9 #[.slice ao n cap] w fun e w' => ∃ s x, e = .returned (.tuple #[.string s, .int .i64 x]) ∧ MkIs n q l s x ∧ Below w.heap.size w w' := by
  by_cases h : n = 0 ∨ evenL l = false
  · exact (make_no ao n cap l w hsl hm h).mono fun e w' ⟨he, hb⟩ => ⟨_, _, he, .inl ⟨h, rfl, rfl⟩, hb⟩
  · simp only [not_or, Bool.not_eq_false] at h
    exact (make_yes ao n cap q l w hsl hm (by omega) hqq (hq h.2)).mono fun e w' ⟨he, hb⟩ => ⟨_, _, he, .inr ⟨⟨by omega, h.2⟩, rfl, rfl⟩, hb⟩
/-- what Again answers -/
def AgIs (n q : Nat) (l : List ByteArray) (a : Int) (s : ByteArray) (e : Int) : Prop :=
  ((n < 2 ∨ a < 0 ∨ (n : Int) ≤ a) ∧ s = ByteArray.empty ∧ e = 1) ∨ ((2 ≤ n ∧ 0 ≤ a ∧ a < n) ∧ evenL (wo l a n) = false ∧ s = ByteArray.empty ∧ e = 1) ∨
  ((2 ≤ n ∧ 0 ≤ a ∧ a < n) ∧ evenL (wo l a n) = true ∧ s = xorS q (wo l a n) ∧ e = 0)
theorem again_is_any (ao : Option Addr) (n cap q : Nat) (l : List ByteArray) (a : Int) (w : World) (hsl : SSl w ao n cap l) (hm : n ≤ 1000000) (hqq : q ≤ 1000000) (hq : 2 ≤ n → 0 ≤ a → a < n → evenL (wo l a n) = true → ∀ s ∈ wo l a n, s.size = q) :
    Calls Tryd.prog 11 #[.slice ao n cap, .int .i64 a] w fun e w' => ∃ s x, e = .returned (.tuple #[.string s, .int .i64 x]) ∧ AgIs n q l a s x ∧ Below w.heap.size w w' := by
  have hl := hsl.len
  by_cases h : n < 2 ∨ a < 0 ∨ (n : Int) ≤ a
  · exact (again_no ao n cap a w hm h).mono fun e w' ⟨he, hb⟩ => ⟨_, _, he, .inl ⟨h, rfl, rfl⟩, by rw [hb]; exact Below.refl _ _⟩
  · have h' : 2 ≤ n ∧ 0 ≤ a ∧ a < n := by omega
    obtain ⟨k, rfl⟩ := Int.eq_ofNat_of_zero_le h'.2.1
    have hw : wo l k n = l.take k ++ l.drop (k + 1) := by rw [← hl]; exact wo_all l k (by omega)
    cases hev : evenL (wo l k n) with
    | false =>
      rw [hw] at hev
      exact (again_odd ao n cap k l w hsl (by omega) (by omega) (by omega) hev).mono fun e w' ⟨he, hb⟩ => ⟨_, _, he, .inr (.inl ⟨h', by rw [hw]; exact hev, rfl, rfl⟩), hb⟩
    | true =>
      have hq' := hq h'.1 h'.2.1 h'.2.2 hev
      have hev' := hev
      rw [hw] at hq' hev'
      exact (again_yes ao n cap k q l w hsl (by omega) (by omega) (by omega) hqq hq').mono fun e w' ⟨he, hb⟩ => ⟨_, _, he, .inr (.inr ⟨h', hev, by rw [hw], rfl⟩), hb⟩

set_option maxHeartbeats 800000 in
set_option maxRecDepth 100000 in
theorem playsP_short (a1 : Option Addr) (n1 c1 : Nat) (l : List ByteArray) (a : Int) (p : ByteArray) (w : World) (h1 : SSl w a1 n1 c1 l) (hp : p.size ≤ 9223372036854775807) (hno : fewB l = false ∨ 4000 < p.size) :
    Calls Tryd.prog 5 #[.slice a1 n1 c1, .int .i64 a, .string p] w fun e w' => e = .returned (.bool true) ∧ Below w.heap.size w w' := by
  have HA := Lib.hid awake03_any
  have H1 := Lib.hid fun W (hW : Below w.heap.size w W) => few_any a1 n1 c1 l W (h1.below hW)
  rcases hl : fewB l with _ | _
  · rw [hl] at H1
    clear hl h1 hno
    go_enter Tryd.func5, Tryd.ntmps5
    go_wp2_with fail
    refine (HA.out w).mono ?_
    rintro e w1 ⟨rfl, hb1⟩
    go_wp2_with fail
    refine (H1.out w1 hb1).mono ?_
    rintro e w2 ⟨rfl, rfl⟩
    go_wp2_with fail
    refine (HA.out w1).mono ?_
    rintro e w2 ⟨rfl, hb2⟩
    go_wp2_with fail
    go_ret
    exact ⟨rfl, hb1.trans (hb2.mono hb1.size)⟩
  · have hp4 : 4000 < p.size := by rw [hl] at hno; simpa using hno
    rw [hl] at H1
    clear hl h1 hno
    go_enter Tryd.func5, Tryd.ntmps5
    go_wp2_with fail
    refine (HA.out w).mono ?_
    rintro e w1 ⟨rfl, hb1⟩
    go_wp2_with fail
    refine (H1.out w1 hb1).mono ?_
    rintro e w2 ⟨rfl, rfl⟩
    go_wp2_with fail
    refine (HA.out w1).mono ?_
    rintro e w2 ⟨rfl, hb2⟩
    go_wp2_with fail
    go_ret
    exact ⟨rfl, hb1.trans (hb2.mono hb1.size)⟩

set_option maxHeartbeats 3200000 in
set_option maxRecDepth 100000 in
theorem playsP_long (a1 : Option Addr) (n1 c1 : Nat) (l : List ByteArray) (a : Int) (p : ByteArray) (w : World) (h1 : SSl w a1 n1 c1 l) (ha : -9223372036854775808 ≤ a ∧ a ≤ 9223372036854775807) (hp : p.size ≤ 4000) (hl : fewB l = true) :
    Calls Tryd.prog 5 #[.slice a1 n1 c1, .int .i64 a, .string p] w fun e w' => e = .returned (.bool true) ∧ Below w.heap.size w w' := by
  have hl1 := h1.len
  have hs1 := few_len hl
  have hb1 : n1 < 30 := by omega
  obtain ⟨q, hq⟩ : ∃ q, q = (l.getD 0 ByteArray.empty).size := ⟨_, rfl⟩
  have hq4 : q ≤ 4000 := by
    rw [hq]
    cases l with
    | nil => show 0 ≤ 4000; omega
    | cons x r => have := few_size hl x (by simp); simpa using this
  have hsz : evenL l = true → ∀ s ∈ l, s.size = q := fun h s hs => by rw [hq]; exact evenL_size h s hs
  have hwm : ∀ k, ∀ s ∈ wo l a k, s ∈ l ∨ s = ByteArray.empty := by
    intro k s hs
    unfold wo at hs
    obtain ⟨i, _, rfl⟩ := List.mem_map.1 hs
    rcases Nat.lt_or_ge i l.length with h | h
    · left; rw [List.getD_eq_getElem?_getD, List.getElem?_eq_getElem h]; exact List.getElem_mem _
    · right; rw [List.getD_eq_getElem?_getD, List.getElem?_eq_none h]; rfl
  obtain ⟨r, hr⟩ : ∃ r, r = ((wo l a n1).getD 0 ByteArray.empty).size := ⟨_, rfl⟩
  have hr4 : r ≤ 4000 := by
    rw [hr]
    cases hw : wo l a n1 with
    | nil => show 0 ≤ 4000; omega
    | cons x t =>
      rcases hwm n1 x (by rw [hw]; simp) with h | h
      · have := few_size hl x h; simpa using this
      · rw [h]; show 0 ≤ 4000; omega
  have hrz : evenL (wo l a n1) = true → ∀ s ∈ wo l a n1, s.size = r := fun h s hs => by rw [hr]; exact evenL_size h s hs
  have HA := Lib.hid awake03_any
  have H1 := Lib.hid fun W (hW : Below w.heap.size w W) => few_any _ n1 c1 l W (h1.below hW)
  have HM := Lib.hid fun W (hW : Below w.heap.size w W) => make_is _ n1 c1 q l W (h1.below hW) (by omega) (by omega) hsz
  have HG := Lib.hid fun W (hW : Below w.heap.size w W) => again_is_any _ n1 c1 r l a W (h1.below hW) (by omega) (by omega) (fun _ _ _ h => hrz h)
  have HE := Lib.hid fun W (hW : Below w.heap.size w W) => even_any _ n1 c1 l W (h1.below hW) (by omega)
  have HRE := Lib.hid fun W (hW : Below w.heap.size w W) => refEven_any _ n1 c1 l W (h1.below hW) (by omega)
  have HW := Lib.hid fun W (hW : Below w.heap.size w W) => without_any _ n1 c1 l a W (h1.below hW) (by omega)
  have HX := Lib.hid fun (hn : 0 < n1) (he : evenL l = true) W (hW : Below w.heap.size w W) => refXor_any _ n1 c1 q l W (h1.below hW) hn (by omega) (by omega) (hsz he)
  have HRY := Lib.hid fun (hn : 0 < n1) (he : evenL l = true) W (hW : Below w.heap.size w W) => right_yes p _ n1 c1 q l W (h1.below hW) (by omega) hn (by omega) (hsz he)
  have HRN := Lib.hid fun (hn : n1 = 0 ∨ evenL l = false) W (hW : Below w.heap.size w W) => right_no p _ n1 c1 l W (h1.below hW) (by omega) hn
  have HRZ := Lib.hid hrz
  have HWL := Lib.hid (wo_len l a n1)
  have hwpos : 2 ≤ n1 → 0 ≤ a → a < n1 → 0 < (wo l a n1).length := by
    intro h2 h0 h3
    obtain ⟨k, rfl⟩ := Int.eq_ofNat_of_zero_le h0
    have := wo_all l k (by omega)
    rw [← hl1, this, List.length_append, List.length_take, List.length_drop]
    omega
  have HWP := Lib.hid hwpos
  rw [hl] at H1
  clear h1 hl1 hs1 hl hq hsz hwm hr hrz hwpos
  have hd40 : decide ((4000 : Int) < p.size) = false := by simp; omega
  go_enter Tryd.func5, Tryd.ntmps5
  go_wp2_with fail
  refine (HA.out w).mono ?_
  rintro e w1 ⟨rfl, hb1⟩
  go_wp2_with fail
  refine (H1.out w1 hb1).mono ?_
  rintro e w2 ⟨rfl, rfl⟩
  go_wp2_with fail
  refine (HM.out w1 hb1).mono ?_
  rintro e w2 ⟨s, x, rfl, hmk, hb2⟩
  have B2 := Lib.hid (hb1.trans (hb2.mono hb1.size))
  have MK := Lib.hid hmk
  clear hb1 hb2 hmk
  go_wp2_with fail
  refine (HG.out w2 B2.out).mono ?_
  rintro e w3 ⟨t, y, rfl, hag, hb3⟩
  have B3 := Lib.hid (B2.out.trans (hb3.mono B2.out.size))
  have AG := Lib.hid hag
  clear hb3 hag
  go_wp2_with fail
  refine (HE.out w3 B3.out).mono ?_
  rintro e w4 ⟨rfl, hb4⟩
  have B4 := Lib.hid (B3.out.trans (hb4.mono B3.out.size))
  clear hb4
  go_wp2_with fail
  refine (HRE.out w4 B4.out).mono ?_
  rintro e w5 ⟨rfl, hb5⟩
  have B5 := Lib.hid (B4.out.trans (hb5.mono B4.out.size))
  clear hb5
  go_wp2_with fail
  refine (blank_any p w5 (by omega)).mono ?_
  rintro e w6 ⟨rfl, hb6⟩
  have B6 := Lib.hid (B5.out.trans (hb6.mono B5.out.size))
  clear hb6
  go_wp2_with fail
  refine (refZeros_any p w6 (by omega)).mono ?_
  rintro e w7 ⟨rfl, rfl⟩
  have hd4 : decide (4000 < p.size) = false := by simp; omega
  rcases MK.out with ⟨hno, hs, hx⟩ | ⟨⟨hn0, hev⟩, hs, hx⟩
  · subst hs hx
    by_cases hn0 : n1 = 0
    · have hz : ((n1 : Int) == 0) = true := by simpa using hn0
      have HRN2 := Lib.hid (HRN.out hno)
      clear hno hn0
      go_wp2_with fail
      refine (HRN2.out _ B6.out).mono ?_
      rintro e w8 ⟨rfl, hb8⟩
      have B8 := Lib.hid (B6.out.trans (hb8.mono B6.out.size))
      clear hb8
      go_upto_region 12 with fail
      rcases AG.out with ⟨hno, ht, hy⟩ | ⟨⟨g1, g2, g3⟩, hev2, ht, hy⟩ | ⟨⟨g1, g2, g3⟩, hev2, ht, hy⟩
      · subst ht hy
        by_cases c1 : n1 < 2
        · have d1 : (n1 : Int) < 2 := by omega
          clear hno
          go_wp2_with fail
          go_ret
          exact ⟨by first | rfl | simp, B8.out⟩
        · have d1 : ¬ (n1 : Int) < 2 := by omega
          by_cases c2 : a < 0
          · clear hno
            go_wp2_with fail
            go_ret
            exact ⟨by first | rfl | simp, B8.out⟩
          · have c3 : (n1 : Int) ≤ a := by omega
            clear hno
            go_wp2_with fail
            go_ret
            exact ⟨by first | rfl | simp, B8.out⟩
      · have d1 : ¬ (n1 : Int) < 2 := by omega
        have d2 : ¬ a < 0 := by omega
        have d3 : ¬ (n1 : Int) ≤ a := by omega
        subst ht hy
        have HEV := Lib.hid hev2
        clear hev2
        go_wp2_with fail
        refine (HW.out _ B8.out).mono ?_
        rintro e w20 ⟨ao20, cap20, rfl, hs20, hb20⟩
        have B20 := Lib.hid (B8.out.trans (hb20.mono B8.out.size))
        have hT := refEven_any ao20 _ cap20 _ w20 hs20 (by have := HWL.out; omega)
        rw [HEV.out] at hT
        have HT := Lib.hid hT
        clear hb20 hs20 hT
        go_wp2_with fail
        refine HT.out.mono ?_
        rintro e w21 ⟨rfl, hb21⟩
        have B21 := Lib.hid (B20.out.trans (hb21.mono B20.out.size))
        clear hb21
        go_wp2_with fail
        go_ret
        exact ⟨by first | rfl | simp, B21.out⟩
      · have d1 : ¬ (n1 : Int) < 2 := by omega
        have d2 : ¬ a < 0 := by omega
        have d3 : ¬ (n1 : Int) ≤ a := by omega
        have HTT := Lib.hid ht
        subst hy
        have HEV := Lib.hid hev2
        clear hev2 ht
        go_wp2_with fail
        refine (HW.out _ B8.out).mono ?_
        rintro e w20 ⟨ao20, cap20, rfl, hs20, hb20⟩
        have B20 := Lib.hid (B8.out.trans (hb20.mono B8.out.size))
        have hT := refEven_any ao20 _ cap20 _ w20 hs20 (by have := HWL.out; omega)
        rw [HEV.out] at hT
        have HT := Lib.hid hT
        clear hb20 hs20 hT
        go_wp2_with fail
        refine HT.out.mono ?_
        rintro e w21 ⟨rfl, hb21⟩
        have B21 := Lib.hid (B20.out.trans (hb21.mono B20.out.size))
        clear hb21
        go_wp2_with fail
        refine (HW.out _ B21.out).mono ?_
        rintro e w22 ⟨ao22, cap22, rfl, hs22, hb22⟩
        have B22 := Lib.hid (B21.out.trans (hb22.mono B21.out.size))
        have HX2 := Lib.hid (refXor_any ao22 _ cap22 r _ w22 hs22 (HWP.out g1 g2 g3) (by have := HWL.out; omega) (by omega) (HRZ.out HEV.out))
        clear hb22 hs22
        go_wp2_with fail
        refine HX2.out.mono ?_
        rintro e w23 ⟨rfl, hb23⟩
        rw [← HTT.out]
        have B23 := Lib.hid (B22.out.trans (hb23.mono B22.out.size))
        clear hb23
        go_wp2_with fail
        go_ret
        exact ⟨by first | rfl | simp, B23.out⟩

    · have hz : ((n1 : Int) == 0) = false := by simpa using hn0
      have hev : evenL l = false := hno.resolve_left hn0
      have HRN2 := Lib.hid (HRN.out hno)
      have hRE := HRE.out
      rw [hev] at hRE
      have HRE2 := Lib.hid hRE
      clear hno hn0 hev hRE
      go_wp2_with fail
      refine (HRE2.out _ B6.out).mono ?_
      rintro e w7 ⟨rfl, hb7⟩
      have B7 := Lib.hid (B6.out.trans (hb7.mono B6.out.size))
      clear hb7
      go_wp2_with fail
      refine (HRN2.out _ B7.out).mono ?_
      rintro e w8 ⟨rfl, hb8⟩
      have B8 := Lib.hid (B7.out.trans (hb8.mono B7.out.size))
      clear hb8
      go_upto_region 12 with fail
      rcases AG.out with ⟨hno, ht, hy⟩ | ⟨⟨g1, g2, g3⟩, hev2, ht, hy⟩ | ⟨⟨g1, g2, g3⟩, hev2, ht, hy⟩
      · subst ht hy
        by_cases c1 : n1 < 2
        · have d1 : (n1 : Int) < 2 := by omega
          clear hno
          go_wp2_with fail
          go_ret
          exact ⟨by first | rfl | simp, B8.out⟩
        · have d1 : ¬ (n1 : Int) < 2 := by omega
          by_cases c2 : a < 0
          · clear hno
            go_wp2_with fail
            go_ret
            exact ⟨by first | rfl | simp, B8.out⟩
          · have c3 : (n1 : Int) ≤ a := by omega
            clear hno
            go_wp2_with fail
            go_ret
            exact ⟨by first | rfl | simp, B8.out⟩
      · have d1 : ¬ (n1 : Int) < 2 := by omega
        have d2 : ¬ a < 0 := by omega
        have d3 : ¬ (n1 : Int) ≤ a := by omega
        subst ht hy
        have HEV := Lib.hid hev2
        clear hev2
        go_wp2_with fail
        refine (HW.out _ B8.out).mono ?_
        rintro e w20 ⟨ao20, cap20, rfl, hs20, hb20⟩
        have B20 := Lib.hid (B8.out.trans (hb20.mono B8.out.size))
        have hT := refEven_any ao20 _ cap20 _ w20 hs20 (by have := HWL.out; omega)
        rw [HEV.out] at hT
        have HT := Lib.hid hT
        clear hb20 hs20 hT
        go_wp2_with fail
        refine HT.out.mono ?_
        rintro e w21 ⟨rfl, hb21⟩
        have B21 := Lib.hid (B20.out.trans (hb21.mono B20.out.size))
        clear hb21
        go_wp2_with fail
        go_ret
        exact ⟨by first | rfl | simp, B21.out⟩
      · have d1 : ¬ (n1 : Int) < 2 := by omega
        have d2 : ¬ a < 0 := by omega
        have d3 : ¬ (n1 : Int) ≤ a := by omega
        have HTT := Lib.hid ht
        subst hy
        have HEV := Lib.hid hev2
        clear hev2 ht
        go_wp2_with fail
        refine (HW.out _ B8.out).mono ?_
        rintro e w20 ⟨ao20, cap20, rfl, hs20, hb20⟩
        have B20 := Lib.hid (B8.out.trans (hb20.mono B8.out.size))
        have hT := refEven_any ao20 _ cap20 _ w20 hs20 (by have := HWL.out; omega)
        rw [HEV.out] at hT
        have HT := Lib.hid hT
        clear hb20 hs20 hT
        go_wp2_with fail
        refine HT.out.mono ?_
        rintro e w21 ⟨rfl, hb21⟩
        have B21 := Lib.hid (B20.out.trans (hb21.mono B20.out.size))
        clear hb21
        go_wp2_with fail
        refine (HW.out _ B21.out).mono ?_
        rintro e w22 ⟨ao22, cap22, rfl, hs22, hb22⟩
        have B22 := Lib.hid (B21.out.trans (hb22.mono B21.out.size))
        have HX2 := Lib.hid (refXor_any ao22 _ cap22 r _ w22 hs22 (HWP.out g1 g2 g3) (by have := HWL.out; omega) (by omega) (HRZ.out HEV.out))
        clear hb22 hs22
        go_wp2_with fail
        refine HX2.out.mono ?_
        rintro e w23 ⟨rfl, hb23⟩
        rw [← HTT.out]
        have B23 := Lib.hid (B22.out.trans (hb23.mono B22.out.size))
        clear hb23
        go_wp2_with fail
        go_ret
        exact ⟨by first | rfl | simp, B23.out⟩

  · have hz : ((n1 : Int) == 0) = false := by simp; omega
    have HSS := Lib.hid hs
    subst hx
    have HX2 := Lib.hid (HX.out hn0 hev)
    have HRY2 := Lib.hid (HRY.out hn0 hev)
    have hRE := HRE.out
    rw [hev] at hRE
    have HRE2 := Lib.hid hRE
    clear hev hRE hs
    go_wp2_with fail
    refine (HRE2.out _ B6.out).mono ?_
    rintro e w7 ⟨rfl, hb7⟩
    have B7 := Lib.hid (B6.out.trans (hb7.mono B6.out.size))
    clear hb7
    go_wp2_with fail
    refine (HX2.out _ B7.out).mono ?_
    rintro e w8 ⟨rfl, hb8⟩
    rw [← HSS.out]
    have B8 := Lib.hid (B7.out.trans (hb8.mono B7.out.size))
    clear hb8
    go_wp2_with fail
    refine (HRY2.out _ B8.out).mono ?_
    rintro e w9 ⟨rfl, hb9⟩
    rw [← HSS.out]
    have B9 := Lib.hid (B8.out.trans (hb9.mono B8.out.size))
    have hps : (p.toList == s.toList) = decide (s = p) := by rw [toList_beq]; exact decide_eq_decide.2 ⟨fun h => h.symm, fun h => h.symm⟩
    clear hb9
    go_upto_region 12 with fail
    rcases AG.out with ⟨hno, ht, hy⟩ | ⟨⟨g1, g2, g3⟩, hev2, ht, hy⟩ | ⟨⟨g1, g2, g3⟩, hev2, ht, hy⟩
    · subst ht hy
      by_cases c1 : n1 < 2
      · have d1 : (n1 : Int) < 2 := by omega
        clear hno
        go_wp2_with fail
        go_ret
        exact ⟨by first | rfl | simp, B9.out⟩
      · have d1 : ¬ (n1 : Int) < 2 := by omega
        by_cases c2 : a < 0
        · clear hno
          go_wp2_with fail
          go_ret
          exact ⟨by first | rfl | simp, B9.out⟩
        · have c3 : (n1 : Int) ≤ a := by omega
          clear hno
          go_wp2_with fail
          go_ret
          exact ⟨by first | rfl | simp, B9.out⟩
    · have d1 : ¬ (n1 : Int) < 2 := by omega
      have d2 : ¬ a < 0 := by omega
      have d3 : ¬ (n1 : Int) ≤ a := by omega
      subst ht hy
      have HEV := Lib.hid hev2
      clear hev2
      go_wp2_with fail
      refine (HW.out _ B9.out).mono ?_
      rintro e w20 ⟨ao20, cap20, rfl, hs20, hb20⟩
      have B20 := Lib.hid (B9.out.trans (hb20.mono B9.out.size))
      have hT := refEven_any ao20 _ cap20 _ w20 hs20 (by have := HWL.out; omega)
      rw [HEV.out] at hT
      have HT := Lib.hid hT
      clear hb20 hs20 hT
      go_wp2_with fail
      refine HT.out.mono ?_
      rintro e w21 ⟨rfl, hb21⟩
      have B21 := Lib.hid (B20.out.trans (hb21.mono B20.out.size))
      clear hb21
      go_wp2_with fail
      go_ret
      exact ⟨by first | rfl | simp, B21.out⟩
    · have d1 : ¬ (n1 : Int) < 2 := by omega
      have d2 : ¬ a < 0 := by omega
      have d3 : ¬ (n1 : Int) ≤ a := by omega
      have HTT := Lib.hid ht
      subst hy
      have HEV := Lib.hid hev2
      clear hev2 ht
      go_wp2_with fail
      refine (HW.out _ B9.out).mono ?_
      rintro e w20 ⟨ao20, cap20, rfl, hs20, hb20⟩
      have B20 := Lib.hid (B9.out.trans (hb20.mono B9.out.size))
      have hT := refEven_any ao20 _ cap20 _ w20 hs20 (by have := HWL.out; omega)
      rw [HEV.out] at hT
      have HT := Lib.hid hT
      clear hb20 hs20 hT
      go_wp2_with fail
      refine HT.out.mono ?_
      rintro e w21 ⟨rfl, hb21⟩
      have B21 := Lib.hid (B20.out.trans (hb21.mono B20.out.size))
      clear hb21
      go_wp2_with fail
      refine (HW.out _ B21.out).mono ?_
      rintro e w22 ⟨ao22, cap22, rfl, hs22, hb22⟩
      have B22 := Lib.hid (B21.out.trans (hb22.mono B21.out.size))
      have HX2 := Lib.hid (refXor_any ao22 _ cap22 r _ w22 hs22 (HWP.out g1 g2 g3) (by have := HWL.out; omega) (by omega) (HRZ.out HEV.out))
      clear hb22 hs22
      go_wp2_with fail
      refine HX2.out.mono ?_
      rintro e w23 ⟨rfl, hb23⟩
      rw [← HTT.out]
      have B23 := Lib.hid (B22.out.trans (hb23.mono B22.out.size))
      clear hb23
      go_wp2_with fail
      go_ret
      exact ⟨by first | rfl | simp, B23.out⟩

theorem playsP_any (a1 : Option Addr) (n1 c1 : Nat) (l : List ByteArray) (a : Int) (p : ByteArray) (w : World) (h1 : SSl w a1 n1 c1 l) (ha : -9223372036854775808 ≤ a ∧ a ≤ 9223372036854775807) (hp : p.size ≤ 9223372036854775807) :
    Calls Tryd.prog 5 #[.slice a1 n1 c1, .int .i64 a, .string p] w fun e w' => e = .returned (.bool true) ∧ Below w.heap.size w w' := by
  by_cases h : fewB l = false ∨ 4000 < p.size
  · exact playsP_short a1 n1 c1 l a p w h1 hp h
  · simp only [not_or, Bool.not_eq_false] at h
    exact playsP_long a1 n1 c1 l a p w h1 ha (by omega) h.1
end Go.Proofs.YtmnhdpojonlfhaaDoor
