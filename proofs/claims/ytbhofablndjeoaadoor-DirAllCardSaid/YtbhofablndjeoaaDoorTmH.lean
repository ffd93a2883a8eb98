/- The document's example: awake. -/
import Derived.Test.YtbhofablndjeoaaDoorTmG
import Derived.Test.YtbhofablndjeoaaDoorTrP
namespace Go.Proofs.YtbhofablndjeoaaDoor
open Go.RowKit
set_option linter.unusedSimpArgs false
set_option linter.unusedVariables false
attribute [local go_sem ↓] wp_loadPt wp_storePt wp_loadNd wp_storeNd
def mem0 : List Value := [.slice none 0 0, .int .i64 0, .int .i64 0]
/-- a new store -/
theorem mem_new {w : World} {g : Nat} (hs : w.heap.size = g) : memIs g (w.alloc (.cells mem0.toArray 27)) s0 (fun k => k = g) :=
  ⟨.slice none 0 0, ⟨Blk.newAt _ _ hs, World.ownsRow_nil _ _ _ _, fun e => (by cases e), (by decide), (by decide)⟩, fun k => by simp [memFoot, Value.ownBlock]⟩
theorem Grew.ok {K : Nat} {s s' : MemT} (h : Grew K s s') (h1 : s.count + K < 1000000000) (h2 : s.L.length + K ≤ 1000000) (h3 : ∀ t ∈ s.L, t.length ≤ 256) : memOk s' :=
  ⟨by have := h.c; omega, by have := h.l; omega, h.t h3⟩
theorem nD_wf : nD.wf := ⟨by unfold I64' nD; dsimp only; omega, pD_ok.2⟩
theorem s0_short : ∀ t ∈ s0.L, t.length ≤ 256 := fun t ht => by cases ht
set_option maxHeartbeats 2000000 in
set_option maxRecDepth 100000 in
theorem awake14_any (w : World) :
    Calls Tryd.prog 11 #[] w fun e w' => e = .returned (.bool true) ∧ Below w.heap.size w w' := by
  obtain ⟨w1, hw1⟩ : ∃ w1, w1 = w.alloc (.cells mem0.toArray 27) := ⟨_, rfl⟩
  have hm1 : memIs w.heap.size w1 s0 (fun k => k = w.heap.size) := by rw [hw1]; exact mem_new rfl
  have hb1 : Below w.heap.size w w1 := by rw [hw1]; exact (Below.refl _ _).alloc (Nat.le_refl _) _
  have HAT : Hid ((memC w.heap.size).At (fun k => k = w.heap.size) s0 w1 w1 (fun k => k = w.heap.size)) := Lib.hid (StoreC.At.start (C := memC w.heap.size) hm1)
  have HB1 := Lib.hid hb1
  have gW := cost_write nD 600 [120] (by decide) s0
  have gB := gW.trans (cost_block awN 1 awW.2)
  have gR := gB.trans (cost_read awN 0 601 (blockM memF awN 1 awW.2).2)
  have okW : memOk awW.2 := gW.ok (by decide) (by decide) s0_short
  have okB := gB.ok (by decide) (by decide) s0_short
  have okR := gR.ok (by decide) (by decide) s0_short
  have HOKB := Lib.hid okB
  have HOKR := Lib.hid okR
  have HWR := Lib.hid (Write_any (C := memC w.heap.size) hm1 nD nD_wf 600 (by unfold I64'; omega) [120] (by decide) okW)
  clear gW gB gR okW okB okR hm1 hb1
  go_enter Tryd.func11, Tryd.ntmps11
  go_upto_region 2 with fail
  rw [show w.alloc (.cells #[.slice none 0 0, .int .i64 0, .int .i64 0] 27) = w1 from hw1.symm]
  clear hw1
  go_wp2_with fail
  refine HWR.out.mono ?_
  rintro e w2 ⟨hpr, hstep⟩
  have hpr' : NdR (.ok awN) e := by rw [← aw_write]; exact hpr
  obtain ⟨rfl, hnw⟩ := hpr'
  obtain ⟨F2, hat, hfr2, hm⟩ := HAT.out.step hstep
  obtain ⟨w3, hw3⟩ : ∃ w3, w3 = w2.alloc (.cells (encN awN).toArray 37) := ⟨_, rfl⟩
  have hbn : Blk w3 w2.heap.size 37 (encN awN) := by rw [hw3]; exact Blk.new w2 _ _
  have hat3 : (memC w.heap.size).At (fun k => k = w.heap.size) awW.2 w1 w3 F2 := by
    rw [hw3]; exact hat.below ((Below.refl _ _).alloc (Nat.le_refl _) _)
  have hst := fun op a next Q => store_newNd awN w2 op a next Q
  have HBN := Lib.hid hbn
  have HAT3 := Lib.hid hat3
  have HF3 : Hid (¬ F2 w2.heap.size) := Lib.hid (fun hf => by have := hat.lt _ hf; omega)
  have HNW := Lib.hid hnw
  clear hat hfr2 hm hstep hpr hbn hat3 hnw
  have hld := fun op a next Q => loadW_blk (P := Tryd.prog) HBN.out Tryd.underlying37 rfl iszNd op a next Q
  go_upto_region 3 with fail
  rw [← hw3]
  clear hw3 hst
  go_wp2_with fail
  have HBL : Hid (Calls Tryd.prog 28 #[.iface 24 (.pointer (some ⟨w.heap.size, 0, none⟩)), .agg (encN awN).toArray, .int .i64 1] w3 fun e w' => BlockR (blockM memF awN 1 awW.2).1 e ∧ (memC w.heap.size).Step F2 (blockM memF awN 1 awW.2).2 w3 w') := Lib.hid (Block_any (C := memC w.heap.size) HAT3.out.1 awN HNW.out 1 (by omega) HOKB.out)
  refine HBL.out.mono ?_
  rintro e w4 ⟨hbr, hstep⟩
  have hbr' : BlockR (.ok .hole) e := by rw [← aw_block]; exact hbr
  obtain ⟨rfl, _, _⟩ := hbr'
  obtain ⟨F4, hat4, hfr4, hm4⟩ := HAT3.out.step hstep
  have HBN4 := Lib.hid (hm4.blk HBN.out HF3.out)
  have HAT4 := Lib.hid hat4
  have HF4 := Lib.hid (hfr4 _ HBN.out.lt HF3.out)
  clear hbr hstep hat4 hfr4 hm4 hld
  have hth := ta_hh w4
  unfold encItem
  go_upto_region 5 with fail
  obtain ⟨w5, hw5⟩ : ∃ w5, w5 = w4.alloc (.cells #[] 83) := ⟨_, rfl⟩
  have hb5 : Below w4.heap.size w4 w5 := by rw [hw5]; exact (Below.refl _ _).alloc (Nat.le_refl _) _
  have hbn5 := HBN4.out.below hb5
  have HAT5 := Lib.hid (HAT4.out.below hb5)
  have hc0 : w5.cell? ⟨w2.heap.size, 0, none⟩ = some (.int .i64 601) := (hbn5.cell 0).trans (by rw [← aw_node.1]; rfl)
  have hc7 : w5.cell? ⟨w2.heap.size, 7, none⟩ = some (.int .i64 1) := (hbn5.cell 7).trans (by rw [← aw_node.2]; rfl)
  have hld := fun op a next Q => loadW_blk (P := Tryd.prog) hbn5 Tryd.underlying37 rfl iszNd op a next Q
  have HWH := Lib.hid (whole_any (mb := w.heap.size) HAT5.out.1 awN HNW.out (by rw [aw_node.1]; exact HOKR.out))
  rw [← hw5]
  clear hw5 hb5 hbn5 hth
  go_wp2_with fail
  refine HWH.out.mono ?_
  rintro e w6 ⟨rfl, hstep⟩
  rw [aw_node.1, aw_read] at *
  obtain ⟨F6, hat6, hfr6, hm6⟩ := HAT5.out.step hstep
  have HAT6 := Lib.hid hat6
  clear hstep hat6 hfr6 hm6 hld
  go_wp2_with fail
  refine (refW_any [] [120] 600 w6 (by decide) (by decide) (by decide)).mono ?_
  rintro e w7 ⟨rfl, rfl⟩
  have hbel := HB1.out.trans (HAT6.out.2.1.toBelow (B := w.heap.size) (fun k hk => by omega) HB1.out.size)
  have HBEL := Lib.hid hbel
  clear hbel
  go_wp2_with fail
  go_ret
  exact ⟨by rfl, HBEL.out⟩
end Go.Proofs.YtbhofablndjeoaaDoor
