/- The law's Equal of lists of numbers; its awake. -/
import Derived.Test.YtbhofablndjeoaaDoorDrD
import Derived.Test.YtbhofablndjeoaaDoorDv
import Derived.Test.YtbhofablndjeoaaDoorTmI
namespace Go.Proofs.YtbhofablndjeoaaDoor
open Go.RowKit
set_option linter.unusedSimpArgs false
set_option linter.unusedVariables false
attribute [local go_sem ↓] wp_loadPt wp_storePt wp_loadNd wp_storeNd wp_bldNd
theorem encI_len (l : List Nat) : (encI l).length = l.length := by simp [encI]
/-- a cell of a slice of numbers -/
theorem rsl_int {w : World} {ao : Option Addr} {cap : Nat} {l : List Nat} (h : RSl w 1 ao l.length cap (encI l)) (hl : 0 < l.length) : ∃ b off, ao = some ⟨b, off, none⟩ ∧ ∀ W, Below w.heap.size w W → ∀ k, k < l.length → W.cell? ⟨b, off + k, none⟩ = some (.int .i64 ((l.getD k 0 : Nat) : Int)) := by
  obtain ⟨b, off, e, hb, hc⟩ := h.2.2.2.2 hl
  refine ⟨b, off, e, fun W hW k hk => ?_⟩
  rw [World.cell?_of_block (w := w) (hW.block b hb), hc k (by omega)]
  simp [encI, List.getElem?_eq_getElem hk]
set_option maxHeartbeats 1000000 in
set_option maxRecDepth 100000 in
theorem Equal_any (x y : List Nat) (xo yo : Option Addr) (cx cy : Nat) (w : World) (hx : RSl w 1 xo x.length cx (encI x)) (hy : RSl w 1 yo y.length cy (encI y)) :
    Calls Tryd.prog 22 #[.slice xo x.length cx, .slice yo y.length cy] w fun e w' => e = .returned (.bool (decide (x = y))) ∧ Below w.heap.size w w' := by
  by_cases hl : x.length = y.length
  · have h1 : ((x.length : Int) != (y.length : Int)) = false := by simp; omega
    have hmx : x.length ≤ 9223372036854775807 := by
      have h1 := hx.2.1
      have h2 := hx.2.2.1
      unfold maxLen at h2
      omega
    have HL := Lib.hid hl
    have HX := Lib.hid hx
    have HY := Lib.hid hy
    clear hl hx hy
    go_enter Tryd.func22, Tryd.ntmps22
    go_wp2_with fail
    go_loopw [5] (fun vi wr => ∃ k : Nat, vi = .int .i64 k ∧ k ≤ x.length ∧ Hid (Below w.heap.size w wr) ∧ Hid (∀ j, j < k → x.getD j 0 = y.getD j 0)) (fun vi _ => x.length - (intOf vi).toNat)
    case atStart => exact ⟨0, rfl, Nat.zero_le _, Lib.hid (Below.refl _ _), Lib.hid (fun j hj => by omega)⟩
    case round =>
      obtain ⟨k, rfl, hk, HW, HE⟩ := hrel
      by_cases hlt : k < x.length
      · have q1 : (k : Int) < (x.length : Int) := by omega
        have hl := HL.out
        have q2 : (k : Int) < (y.length : Int) := by omega
        have q3 : 0 ≤ (k : Int) := by omega
        obtain ⟨bx, ox, rfl, hcx⟩ := rsl_int HX.out (by omega)
        obtain ⟨by_, oy, rfl, hcy⟩ := rsl_int HY.out (by omega)
        have c1 : ∀ n, (wr.drewN n).cell? ⟨bx, ox + k, none⟩ = some (.int .i64 ((x.getD k 0 : Nat) : Int)) := fun n => hcx _ (below_drewN' HW.out n) k hlt
        have c2 : ∀ n, (wr.drewN n).cell? ⟨by_, oy + k, none⟩ = some (.int .i64 ((y.getD k 0 : Nat) : Int)) := fun n => hcy _ (below_drewN' HW.out n) k (by omega)
        obtain ⟨xv, hxv⟩ : ∃ xv, xv = x.getD k 0 := ⟨_, rfl⟩
        obtain ⟨yv, hyv⟩ : ∃ yv, yv = y.getD k 0 := ⟨_, rfl⟩
        rw [← hxv] at c1
        rw [← hyv] at c2
        by_cases he : xv = yv
        · have h3 : ((xv : Int) != (yv : Int)) = false := by simp; omega
          have HE2 : Hid (∀ j, j < k + 1 → x.getD j 0 = y.getD j 0) := Lib.hid (fun j hj => by
            by_cases hjk : j = k
            · rw [hjk, ← hxv, ← hyv]; exact he
            · exact HE.out j (by omega))
          clear hcx hcy hxv hyv he hl
          go_wp2_with fail
          go_quiet (fail)
          go_wp2_with fail
          go_roundw
          case rel => exact ⟨k + 1, by go_num, by omega, Lib.hid (below_drewN' HW.out _), HE2⟩
          case measure => simp [intOf]; omega
        · have h3 : ((xv : Int) != (yv : Int)) = true := by simp; omega
          have HN : Hid (x ≠ y) := Lib.hid (fun e => he (by rw [hxv, hyv, e]))
          clear hcx hcy hxv hyv he hl
          go_wp2_with fail
          go_quiet (fail)
          go_wp2_with fail
          go_ret
          exact ⟨by simp [HN.out], below_drewN' HW.out _⟩
      · have q1 : ¬ (k : Int) < (x.length : Int) := by omega
        have HXY : Hid (x = y) := Lib.hid (by
          apply List.ext_getElem HL.out
          intro j h1 h2
          have := HE.out j (by omega)
          rw [List.getD_eq_getElem?_getD, List.getD_eq_getElem?_getD, List.getElem?_eq_getElem h1, List.getElem?_eq_getElem h2] at this
          exact this)
        go_wp2_with fail
        go_ret
        exact ⟨by simp [HXY.out], HW.out⟩
  · have h1 : ((x.length : Int) != (y.length : Int)) = true := by simp; omega
    have hne : decide (x = y) = false := decide_eq_false (fun e => hl (by rw [e]))
    rw [hne]
    go_enter Tryd.func22, Tryd.ntmps22
    go_wp2_with fail
    go_ret
    exact ⟨rfl, Below.refl _ _⟩
theorem NdMay7 : NdMay ⟨7, pD⟩ := ⟨by decide, by decide, by decide⟩
theorem dLst7 : dLst (dUpd (fun _ => none) 2 (some ⟨7, pD⟩)) 32 = [2] := by decide +kernel
set_option maxHeartbeats 2000000 in
set_option maxRecDepth 100000 in
theorem awake16_any (w : World) :
    Calls Tryd.prog 19 #[] w fun e w' => e = .returned (.bool true) ∧ Below w.heap.size w w' := by
  obtain ⟨w1, hw1⟩ : ∃ w1, w1 = w.alloc (.cells mem0.toArray 27) := ⟨_, rfl⟩
  have hm1 : memIs w.heap.size w1 s0 (fun k => k = w.heap.size) := by rw [hw1]; exact mem_new rfl
  have hb1 : Below w.heap.size w w1 := by rw [hw1]; exact (Below.refl _ _).alloc (Nat.le_refl _) _
  have HAT : Hid ((memC w.heap.size).At (fun k => k = w.heap.size) s0 w1 w1 (fun k => k = w.heap.size)) := Lib.hid (StoreC.At.start (C := memC w.heap.size) hm1)
  have HB1 := Lib.hid hb1
  obtain ⟨q, s1, e1, hr1, hx1, hd1, hz1⟩ : ∃ q s1, dsetM memF nD 2 ⟨7, pD⟩ s0 = (.ok q, s1) ∧ Rd 1 s1 ∧ (∃ X, s1.L = s0.L ++ X) ∧ DI s1.L q (dUpd (fun _ => none) 2 (some ⟨7, pD⟩)) ∧ q.size = 384 := by
    rcases rd_dset (k := 0) Rd.start (by omega) (DI.start _) 2 ⟨7, pD⟩ pD_ok.2 with ⟨h, _⟩ | ⟨_, _, q, s1, h1, h2, h3, h4, h5⟩
    · exact absurd ⟨⟨by omega, by omega⟩, NdMay7⟩ h
    · exact ⟨q, s1, h1, h2, h3, h4, by rw [h5]; rfl⟩
  obtain ⟨s2, e2, hl2, hr2⟩ := rd_dlist hr1 hd1
  rw [dLst7] at e2
  have hqw : q.wf := hd1.nw.wf' (by have := hr1.l; omega)
  have HQW := Lib.hid hqw
  have HSET := Lib.hid (dset_any (C := memC w.heap.size) hm1 nD nD_wf 2 ⟨7, pD⟩ ⟨by unfold I64'; dsimp only; omega, pD_ok.2⟩ (by rw [e1]; exact hr1.ok (by omega)))
  rw [e1] at HSET
  have HE2 := Lib.hid e2
  have HR2 := Lib.hid hr2
  have HZ := Lib.hid hz1
  clear e1 hr1 hx1 hd1 hz1 e2 hl2 hr2 hqw hm1 hb1
  go_enter Tryd.func19, Tryd.ntmps19
  go_upto_region 2 with fail
  rw [show w.alloc (.cells #[.slice none 0 0, .int .i64 0, .int .i64 0] 27) = w1 from hw1.symm]
  clear hw1
  go_wp2_with fail
  refine HSET.out.mono ?_
  rintro e w2 ⟨hpr, hstep⟩
  have hpe := NdR.val hpr
  subst hpe
  obtain ⟨F2, hat, hfr2, hm⟩ := HAT.out.step hstep
  have hst := fun op a next Q => store_newNd q w2 op a next Q
  obtain ⟨w3, hw3⟩ : ∃ w3, w3 = w2.alloc (.cells (encN q).toArray 37) := ⟨_, rfl⟩
  have hb3 : Below w2.heap.size w2 w3 := by rw [hw3]; exact (Below.refl _ _).alloc (Nat.le_refl _) _
  have hbn : Blk w3 w2.heap.size 37 (encN q) := by rw [hw3]; exact Blk.new w2 _ _
  have HBN := Lib.hid hbn
  have HAT3 := Lib.hid (hat.below hb3)
  have HF3 : Hid (¬ F2 w2.heap.size) := Lib.hid (fun hf => by have := hat.lt _ hf; omega)
  have HLS := Lib.hid (dlist_any (C := memC w.heap.size) HAT3.out.1 q HQW.out (by rw [HZ.out]; omega) (by rw [HE2.out]; exact HR2.out.ok (by omega)))
  rw [HE2.out] at HLS
  clear hat hfr2 hm hstep hpr hbn hb3
  unfold ndV errV
  go_upto_region 3 with fail
  rw [← hw3]
  clear hw3 hst
  have hld := fun op a next Q => loadW_blk (P := Tryd.prog) HBN.out Tryd.underlying37 rfl iszNd op a next Q
  go_wp2_with fail
  refine HLS.out.mono ?_
  rintro e w4 ⟨v4, F4, rfl, hS⟩
  obtain ⟨F5, hat5, hfr5, hm5⟩ := HAT3.out.step ⟨F4, hS.at_⟩
  have hbn4 := hm5.blk HBN.out HF3.out
  have hc0 : w4.cell? ⟨w2.heap.size, 0, none⟩ = some (.int .i64 384) := (hbn4.cell 0).trans (by rw [← HZ.out]; rfl)
  have HBEL4 := Lib.hid (HB1.out.trans (hat5.2.1.toBelow (B := w.heap.size) (fun k hk => by omega) HB1.out.size))
  obtain ⟨ao4, cp4, rfl⟩ := row_formD hS.row
  have HROW := Lib.hid (rsl_of_owns hS.row)
  clear hat5 hfr5 hm5 hbn4 hS hld
  go_wp2_with fail
  have hb5 : Below w4.heap.size w4 (w4.alloc (.cells (encI [2]).toArray 3)) := (Below.refl _ _).alloc (Nat.le_refl _) _
  refine (Equal_any [2] [2] ao4 (some ⟨w4.heap.size, 0, none⟩) cp4 1 (w4.alloc (.cells (encI [2]).toArray 3)) (HROW.out.below hb5) ((Blk.new w4 3 (encI [2])).rsl (n := 1) rfl (by unfold maxLen; omega))).mono ?_
  rintro e w6 ⟨rfl, hb6⟩
  have hfin := HBEL4.out.trans ((hb5.trans (hb6.mono hb5.size)).mono HBEL4.out.size)
  have HFIN := Lib.hid hfin
  clear hb5 hb6 hfin
  go_wp2_with fail
  go_ret
  exact ⟨rfl, HFIN.out⟩
end Go.Proofs.YtbhofablndjeoaaDoor
