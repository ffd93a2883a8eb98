/- polderlaw12: a measure as it comes in; awake, few; AllocTwo. -/
import Derived.Test.YtmnhdpojonlfhaaAlGe
import Derived.Test.YtmnhdpojonlfhaaAlT
import Derived.Deep.SlicePairs
import Derived.Lib.SmallJoins
import Derived.ChangeSame
namespace Go.Proofs.Ytmnhdpojonlfhaa
open Go.RowKit Go.ChangeShapes Go.WideShapes Go.Deep
attribute [local go_sem ↓] Go.wp_at_zero Go.wp_at_succ

theorem addr_addA (b off j : Nat) : (⟨b, off, none⟩ : Addr).add j = ⟨b, off + j, none⟩ := by unfold Addr.add; split <;> simp_all
section
variable {H : Type} {enc : TypeId × Value → H} {W : World} {base : Nat} {spare : Nat → Bool} {held : Bool}
set_option maxRecDepth 100000 in
theorem open_groups {v : Value} {n : Nat} {y : DataW H × List MemPlace} (h : DataW.trod enc Try.prog W base spare held n 94 [v] = some y) : ∃ a len cap gs, v = .slice a len cap ∧ GSl W a len cap gs := by
  rcases open_slice_pairs Try.underlying94 Try.underlying140 (by kernel_rfl) rfl rfl (by kernel_rfl) (by kernel_rfl) h with ⟨hcs, _⟩ | ⟨ad, len, cap, m, k, V0, V1, D0, D1, P0, P1, hcs, hb, hl, hm, hmm, hx, hi⟩
  · simp at hcs
    exact ⟨none, 0, 0, [], hcs, RSl.nil W 2⟩
  · simp at hcs
    have hlm : len ≤ m := by rw [hmm]; split <;> omega
    have each : ∀ i, i < len → ∃ r : Int × Int, W.cell? (ad.add (i * 2)) = some (.int .i64 r.1) ∧ W.cell? (ad.add (i * 2 + 1)) = some (.int .i64 r.2) := by
      intro i hil
      obtain ⟨c0, c1, g0, g1⟩ := hi i (by omega)
      obtain ⟨n0, e0, _, _⟩ := DataW.trod_int Try.underlying3 g0
      obtain ⟨n1, e1, _, _⟩ := DataW.trod_int Try.underlying3 g1
      simp at e0 e1
      exact ⟨(n0, n1), by rw [c0, e0], by rw [c1, e1]⟩
    obtain ⟨q, hq⟩ := choose_lt each
    refine ⟨some ad, len, cap, (List.range len).map q, hcs, by rw [encG_length]; simp, hl, hm, fun e => by simp at e, fun hn => ?_⟩
    obtain ⟨b, off, spot⟩ := ad
    have h0 := (hq 0 hn).1
    have hs : spot = none := by
      cases spot with
      | none => rfl
      | some s => simp [Addr.add, World.cell?] at h0; split at h0 <;> simp at h0
    subst hs
    refine ⟨b, off, rfl, block_lt_of_cell (a := ⟨b, off, none⟩) (by simpa [Addr.add] using h0), fun j hj => ?_⟩
    have hk : j / 2 < len := by omega
    have hget : ((List.range len).map q).getD (j / 2) (0, 0) = q (j / 2) := by simp [List.getD, hk]
    obtain ⟨e0, e1⟩ := encG_get ((List.range len).map q) (j / 2) (by simpa using hk)
    rw [hget] at e0 e1
    obtain ⟨k0, k1⟩ := hq (j / 2) hk
    have h3 : j % 2 = 0 ∨ j % 2 = 1 := by omega
    rcases h3 with h3 | h3
    · have hj2 : j = j / 2 * 2 := by omega
      rw [← hj2] at e0 k0
      rw [addr_addA] at k0
      rw [e0, ← k0]
    · have hj2 : j = j / 2 * 2 + 1 := by omega
      rw [← hj2] at e1 k1
      rw [addr_addA] at k1
      rw [e1, ← k1]
set_option maxRecDepth 100000 in
theorem open_geom {r : Reach} {b0 : Nat} {v : Value} {d : DataW H} {p : List MemPlace} (hv : Value.okWide Try.prog W r b0 96 v) (h : DataW.Trod enc Try.prog W base spare held 96 v d p) :
    ∃ (ga : Option Addr) (gn gc : Nat) (gs : Gs) (secs : Int), v = .agg #[.slice ga gn gc, .int .i64 secs] ∧ GSl W ga gn gc gs := by
  obtain ⟨v0, v1, y0, y1, k, rfl, rfl, rfl, g0, g1⟩ := Joins.open_agg2 Try.underlying96 (by kernel_rfl) (by kernel_rfl) hv h
  obtain ⟨ga, gn, gc, gs, rfl, hg⟩ := open_groups g0
  obtain ⟨n1, e1, _, w1⟩ := DataW.trod_int Try.underlying3 g1
  simp at e1
  subst e1
  exact ⟨ga, gn, gc, gs, n1, rfl, hg⟩
end

def fewB (l n : Nat) (secs : Int) : Bool := decide (l ≤ 60 ∧ n < 100 ∧ secs ≤ 200)
theorem few12_any (ao aa : Option Addr) (n cap l ca : Nat) (secs : Int) (w : World) (hn : n ≤ 9223372036854775807) (hl : l ≤ 9223372036854775807) :
    Calls Try.prog 57 #[.agg #[.slice ao n cap, .int .i64 secs], .slice aa l ca] w fun e w' => e = .returned (.bool (fewB l n secs)) ∧ Below w.heap.size w w' := by
  have hb0 : Below w.heap.size w (w.alloc (.cells #[.slice ao n cap, .int .i64 secs] 96)) := (Below.refl _ _).alloc (Nat.le_refl _) _
  have HB := Lib.hid hb0
  have hw : IntKind.i64.wrap (n : Int) = n := IntWalk.i64_in _ (by omega)
  have hw2 : IntKind.i64.wrap (l : Int) = l := IntWalk.i64_in _ (by omega)
  go_enter Try.func57, Try.ntmps57
  have fin : ∀ x : Bool, x = fewB l n secs → (Ending.returned (.bool x) = .returned (.bool (fewB l n secs))) := fun x e => by rw [e]
  by_cases h1 : l ≤ 60
  · by_cases h2 : n < 100
    · have d1 : decide ((l : Int) ≤ 60) = true := decide_eq_true (by omega)
      have d2 : decide ((n : Int) < 100) = true := decide_eq_true (by omega)
      go_wp2_with fail
      go_ret
      exact ⟨fin _ (by simp [fewB, h1, h2]), HB.out⟩
    · have d1 : decide ((l : Int) ≤ 60) = true := decide_eq_true (by omega)
      have d2 : decide ((n : Int) < 100) = false := decide_eq_false (by omega)
      go_wp2_with fail
      go_ret
      exact ⟨fin _ (by simp [fewB, h2]), HB.out⟩
  · have d1 : decide ((l : Int) ≤ 60) = false := decide_eq_false (by omega)
    go_wp2_with fail
    go_ret
    exact ⟨fin _ (by simp [fewB, h1]), HB.out⟩
set_option maxRecDepth 100000 in
theorem get_nil (size : Int) (two : Bool) (w : World) : Calls Try.prog 59 #[.pointer none, .int .i64 size, .bool two] w fun e w' =>
    e = .returned (.tuple #[.agg #[.int .i64 0, .int .i64 0], .agg #[.int .i64 0, .int .i64 0], .int .i64 1]) ∧ Below w.heap.size w w' := by
  obtain ⟨w2, hw2⟩ : ∃ w2, w2 = (w.alloc (.cells #[.int .i64 0, .int .i64 0] 63)).alloc (.cells #[.int .i64 0, .int .i64 0] 63) := ⟨_, rfl⟩
  have hA : Below w.heap.size w w2 := by rw [hw2]; exact ((Below.refl _ _).alloc (Nat.le_refl _) _).alloc (by simp) _
  have hR : Blk w2 w.heap.size 63 [.int .i64 0, .int .i64 0] := by rw [hw2]; exact (Blk.new w _ _).alloc _
  have hS : Blk w2 (w.heap.size + 1) 63 [.int .i64 0, .int .i64 0] := by rw [hw2]; exact Blk.newAt _ _ (by simp)
  have HA := Lib.hid hA
  have HR := Lib.hid hR
  have HS := Lib.hid hS
  clear hA hR hS
  go_enter Try.func59, Try.ntmps59
  go_wp2_with fail
  rw [← hw2]
  refine bodyPost_ret (results_cell2_tmp rfl _ _ w.heap.size (w.heap.size + 1) 63 #[.int .i64 0, .int .i64 0] #[.int .i64 0, .int .i64 0] (0, 0) (0, 0) _ rfl rfl HR.out HS.out rfl rfl rfl rfl) rfl ?_
  exact ⟨rfl, HA.out⟩

theorem oneA_first {gs : Gs} {secs : Int} {sn : SN} {es : List Nat} {size last : Int} {f : Nat → Nat} (ho : Once gs.length gs.length f) (hs : SortedTo (cmpA sn last) f gs.length) (h0 : 0 < gs.length) {a : Nat} (ha : findA gs secs sn es size (f 0) = some a) :
    oneA gs secs sn es size last = some (f 0, a) := by
  obtain ⟨_, _, h3⟩ := ordA_is ho hs
  refine findSome_first _ 0 _ h0 (fun j hj => by omega) ?_
  rw [h3 0 h0, ha]; rfl
/-- the example's state -/
theorem awake_get : getA [(0, 1), (0, 1)] 24 [(8, []), (8, [])] [0, 0] 1 true = ⟨(0, 0), (1, 0), 0, [(8, [(0, 1)]), (8, [(0, 1)])], [1, 1]⟩ := by
  have h1 : oneA [(0, 1), (0, 1)] 24 [(8, []), (8, [])] [0, 0] 1 (-1) = some (0, 0) := by
    refine oneA_first (f := fun i => i) ⟨fun i h => h, fun i j _ _ h => h, fun y hy => ⟨y, hy, rfl⟩⟩ ?_ (by decide) (by decide)
    intro p q hpq hq
    obtain rfl : q = 1 := by simp at hq; omega
    obtain rfl : p = 0 := by omega
    decide
  have h2 : oneA [(0, 1), (0, 1)] 24 [(8, [(0, 1)]), (8, [])] [1, 0] 1 ((0 : Nat) : Int) = some (1, 0) := by
    refine oneA_first (f := fun i => 1 - i) ⟨fun i h => by simp at h ⊢; omega, fun i j h h' e => by simp at h h' e; omega, fun y hy => ⟨1 - y, by simp at hy ⊢; omega, by simp at hy ⊢; omega⟩⟩ ?_ (by decide) (by decide)
    intro p q hpq hq
    obtain rfl : q = 1 := by simp at hq; omega
    obtain rfl : p = 0 := by omega
    decide
  unfold getA
  rw [if_pos (by decide), h1]
  dsimp only
  rw [if_pos rfl, show putS [(0, 1), (0, 1)] 24 [(8, []), (8, [])] 1 (0, 0) = [(8, [(0, 1)]), (8, [])] by decide, show putE [(0, 1), (0, 1)] 24 [0, 0] 1 (0, 0) = [1, 0] by decide, h2]
  dsimp only
  rw [show putS [(0, 1), (0, 1)] 24 [(8, [(0, 1)]), (8, [])] 1 (1, 0) = [(8, [(0, 1)]), (8, [(0, 1)])] by decide, show putE [(0, 1), (0, 1)] 24 [1, 0] 1 (1, 0) = [1, 1] by decide]
theorem fresh_two {ms : List MT} (hl : ms.length = 2) (h : ∀ j, j < 2 → (ms.getD j mD).2 = (8, [])) : st2 ms = [(8, []), (8, [])] := by
  match ms, hl with
  | [a, b], _ =>
    have h0 := h 0 (by omega)
    have h1 := h 1 (by omega)
    simp at h0 h1
    simp [st2, h0, h1]
set_option maxRecDepth 100000 in
set_option maxHeartbeats 1600000 in
theorem awake12_any (w : World) : Calls Try.prog 56 #[] w fun e w' => e = .returned (.bool true) ∧ Below w.heap.size w w' := by
  have hb0 : Below w.heap.size w (w.alloc (.cells #[.int .i64 0, .int .i64 1, .int .i64 0, .int .i64 1] 140)) := (Below.refl _ _).alloc (Nat.le_refl _) _
  have hB0 := Blk.new w 140 [.int .i64 0, .int .i64 1, .int .i64 0, .int .i64 1]
  have hg : GSl (w.alloc (.cells #[.int .i64 0, .int .i64 1, .int .i64 0, .int .i64 1] 140)) (some ⟨w.heap.size, 0, none⟩) 2 2 [(0, 1), (0, 1)] := hB0.rsl rfl (by decide)
  have HN := Lib.hid (anew_yes _ 2 2 _ 24 _ hg (by decide))
  have HB0 := Lib.hid hb0
  clear hg hB0 hb0
  go_enter Try.func56, Try.ntmps56
  go_wp2_with fail
  refine HN.out.mono ?_
  rintro e w1 ⟨bb, eb, ms, rfl, hbk, hfr, hfo0, hb1⟩
  have hst : st2 ms = [(8, []), (8, [])] := fresh_two hbk.mlen (fun j hj => by
    have : j = 0 ∨ j = 1 := by omega
    rcases this with rfl | rfl
    · exact hfr 0 (by decide)
    · exact hfr 1 (by decide))
  have hG := get_any bb eb _ 24 ms _ 1 true w1 hbk
  rw [hst, show List.replicate [((0 : Int), (1 : Int)), (0, 1)].length 0 = [0, 0] from rfl, awake_get] at hG
  have HG := Lib.hid hG
  have hfo : ∀ k, foot bb eb ms k → w.heap.size ≤ k := fun k hk => by have := hfo0 k hk; have h2 := HB0.out.size; omega
  have B1 := Lib.hid (HB0.out.trans (hb1.mono HB0.out.size))
  clear hG hst hbk hfr hb1 hfo0
  go_wp2_with fail
  refine HG.out.mono ?_
  rintro e w2 ⟨rfl, eb', ms', _, _, _, hm⟩
  have B2 := B1.out.trans (hm.toBelow hfo B1.out.size)
  go_wp2_with fail
  go_ret
  exact ⟨rfl, (B2.alloc B2.size _).alloc (Nat.le_trans B2.size (by simp)) _⟩

set_option maxRecDepth 100000 in
set_option maxHeartbeats 1600000 in
theorem alloctwo_any (ga : Option Addr) (gn gc : Nat) (gs : Gs) (secs : Int) (size : Int) (w : World) (hg : GSl w ga gn gc gs) (_hs : -9223372036854775808 ≤ size ∧ size ≤ 9223372036854775807) :
    Calls Try.prog 16 #[.agg #[.slice ga gn gc, .int .i64 secs], .int .i64 size] w fun e w' => e = .returned (.bool true) ∧ Below w.heap.size w w' := by
  have hb0 : Below w.heap.size w (w.alloc (.cells #[.slice ga gn gc, .int .i64 secs] 96)) := (Below.refl _ _).alloc (Nat.le_refl _) _
  have HB0 := Lib.hid hb0
  have HL := Lib.hid hg.len
  have HG0 := Lib.hid hg
  have hmx := hg.mx
  have HW0 := Lib.hid (awake12_any (w.alloc (.cells #[.slice ga gn gc, .int .i64 secs] 96)))
  have HR0 := Lib.hid (Blk.new w 96 [.slice ga gn gc, .int .i64 secs])
  clear hb0 hg
  go_enter Try.func16, Try.ntmps16
  go_wp2_with fail
  refine HW0.out.mono ?_
  rintro e w1 ⟨rfl, hb1⟩
  have B1 := Lib.hid (HB0.out.trans (hb1.mono HB0.out.size))
  have R1 := Lib.hid (HR0.out.below hb1)
  have r0 := R1.out.cell 0
  have r1 := R1.out.cell 1
  have HF := Lib.hid (few12_any ga none gn gc 0 0 secs w1 hmx (by omega))
  clear hb1
  go_wp2_with fail
  refine HF.out.mono ?_
  rintro e w2 ⟨rfl, hb2⟩
  have B2 := Lib.hid (B1.out.trans (hb2.mono B1.out.size))
  have R2 := Lib.hid (R1.out.below hb2)
  clear hb2 r0 r1
  have r0 := R2.out.cell 0
  have r1 := R2.out.cell 1
  cases fewB 0 gn secs
  · have HW2 := Lib.hid (awake12_any w2)
    go_wp2_with fail
    refine HW2.out.mono ?_
    rintro e w3 ⟨rfl, hb3⟩
    go_wp2_with fail
    go_ret
    exact ⟨rfl, B2.out.trans (hb3.mono B2.out.size)⟩
  · have hg2 := HG0.out.below B2.out
    cases hr : rightB gs secs
    · have HN := Lib.hid (anew_no ga gn gc gs secs w2 hg2 hr)
      clear hg2 hr
      go_wp2_with fail
      refine HN.out.mono ?_
      rintro e w3 ⟨rfl, hb3⟩
      have B3 := Lib.hid (B2.out.trans (hb3.mono B2.out.size))
      have HG := Lib.hid (get_nil size true w3)
      clear hb3
      go_wp2_with fail
      refine HG.out.mono ?_
      rintro e w4 ⟨rfl, hb4⟩
      have B4 := B3.out.trans (hb4.mono B3.out.size)
      go_wp2_with fail
      go_ret
      exact ⟨rfl, (B4.alloc B4.size _).alloc (Nat.le_trans B4.size (by simp)) _⟩
    · have HN := Lib.hid (anew_yes ga gn gc gs secs w2 hg2 hr)
      have HR := Lib.hid hr
      clear hg2 hr
      go_wp2_with fail
      refine HN.out.mono ?_
      rintro e w3 ⟨bb, eb, ms, rfl, hbk, hfr, hfo0, hb3⟩
      have B3 := Lib.hid (B2.out.trans (hb3.mono B2.out.size))
      have R3 := Lib.hid (R2.out.below hb3)
      have hsl : (st2 ms).length = gs.length := by rw [st2_length, hbk.mlen]
      have hl2 := two_law HR.out hsl (fun j hj => by rw [st2_get]; exact hfr j hj) size
      have hfo : ∀ k, foot bb eb ms k → w.heap.size ≤ k ∧ w.heap.size ≠ k := fun k hk => by have := hfo0 k hk; have h2 := R2.out.lt; omega
      have HG := Lib.hid (get_any bb eb gs secs ms _ size true w3 hbk)
      generalize getA gs secs (st2 ms) (List.replicate gs.length 0) size true = r at hl2 HG
      have HL2 := Lib.hid hl2
      have HFO := Lib.hid hfo
      clear hbk hfr hfo0 hb3 hsl hl2 hfo
      go_wp2_with fail
      refine HG.out.mono ?_
      rintro e w4 ⟨rfl, eb', ms', _, _, _, hm⟩
      obtain ⟨⟨p1, p2⟩, ⟨q1, q2⟩, err, sn, es⟩ := r
      have B4 := Lib.hid (B3.out.trans (hm.toBelow (fun k hk => (HFO.out k hk).1) B3.out.size))
      have R4 := Lib.hid (hm.blk R3.out (fun h => (HFO.out _ h).2 rfl))
      have h2 := HL2.out
      clear hm HG HN
      dsimp only at h2 ⊢
      have R5 := (R4.out.alloc (.cells #[.int .i64 (p1 : Nat), .int .i64 (p2 : Nat)] 63)).alloc (.cells #[.int .i64 (q1 : Nat), .int .i64 (q2 : Nat)] 63)
      have r0 := R5.cell 0
      have r1 := R5.cell 1
      clear R5
      have hlen := HL.out
      have hn1 := (rightB_spec HR.out).1
      by_cases he : err = 0
      · subst he
        have h2 := h2 rfl
        have fin : ∀ x : Bool, x = true → (Ending.returned (.bool x) = .returned (.bool true)) := fun x e => by rw [e]
        rw [hlen] at h2 hn1
        by_cases hn : gn = 1
        · have d1 : decide ((gn : Int) = 1) = true := decide_eq_true (by omega)
          have h3 := h2.1 hn
          clear h2
          by_cases hp : p1 = q1
          · have hp2 : (p2 : Int) ≠ q2 := fun e => h3 (by rw [hp, show p2 = q2 by omega])
            subst hp
            go_wp2_with fail
            go_ret
            exact ⟨fin _ (by first | rfl | simp_all), (B4.out.alloc B4.out.size _).alloc (Nat.le_trans B4.out.size (by simp)) _⟩
          · have hp1 : (p1 : Int) ≠ q1 := by omega
            go_wp2_with fail
            go_ret
            exact ⟨fin _ (by first | rfl | simp_all), (B4.out.alloc B4.out.size _).alloc (Nat.le_trans B4.out.size (by simp)) _⟩
        · have hn2 : (1 : Int) < (gn : Int) := by omega
          have hp1 : (p1 : Int) ≠ q1 := by have := h2.2 (by omega); omega
          have d1 : decide ((gn : Int) = 1) = false := decide_eq_false (by omega)
          clear h2
          go_wp2_with fail
          go_ret
          exact ⟨fin _ (by first | rfl | simp_all), (B4.out.alloc B4.out.size _).alloc (Nat.le_trans B4.out.size (by simp)) _⟩
      · have he' : (err : Int) ≠ 0 := by omega
        go_wp2_with fail
        go_ret
        exact ⟨rfl, (B4.out.alloc B4.out.size _).alloc (Nat.le_trans B4.out.size (by simp)) _⟩
end Go.Proofs.Ytmnhdpojonlfhaa
