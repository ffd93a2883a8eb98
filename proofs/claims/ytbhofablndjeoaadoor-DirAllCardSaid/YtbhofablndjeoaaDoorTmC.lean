/- The law's store Mem: Put. -/
import Derived.Test.YtbhofablndjeoaaDoorTmB
import Derived.Test.YtbhofablndjeoaaDoorTrA
import Derived.Deep.AppendLies
namespace Go.Proofs.YtbhofablndjeoaaDoor
open Go.RowKit
set_option linter.unusedSimpArgs false
set_option linter.unusedVariables false
attribute [local go_sem ↓] wp_loadPt wp_storePt
theorem Mod.grownO {F : Nat → Prop} {w w' : World} {r : Option Nat} (h : w.grownBy w' r) (hr : ∀ g, r = some g → F g) : Mod F w w' :=
  ⟨h.os, h.tape, h.output, h.size, fun k hk hn => h.block k hk (fun e => hn (hr k e.symm))⟩
theorem infoStr : (Tryd.prog.info? 9).map (fun i => (i.zero, i.size, i.bytes)) = some (some (.string ⟨#[]⟩), 1, 16) := by kernel_rfl
set_option maxHeartbeats 1000000 in
set_option maxRecDepth 100000 in
theorem mput_sleep {w : World} {mb : Nat} {st : MemT} {v : Value} (h : IsMem w mb st v) (t : Bs) (lv : Int) (hc : st.count + 1 < 1000000000) (ha : awakeB (st.count + 1) st.fails = false) :
    Calls Tryd.prog 123 #[.pointer (some ⟨mb, 0, none⟩), .string ⟨t.toArray⟩, .int .i64 lv] w fun e w' => e = .returned (.tuple #[.agg (encPtr pD).toArray, .int .i64 8]) ∧ IsMem w' mb st.next v ∧ Mod (fun k => k = mb) w w' := by
  obtain ⟨w0, hw0⟩ : ∃ w0, w0 = w.alloc (.cells (encPtr pD).toArray 35) := ⟨_, rfl⟩
  have HR0 : Hid (Blk w0 w.heap.size 35 (encPtr pD)) := by rw [hw0]; exact Lib.hid (Blk.new w _ _)
  have HM0 : Hid (IsMem w0 mb st v) := by rw [hw0]; exact Lib.hid (h.below ((Below.refl _ _).alloc (Nat.le_refl _) _))
  have HMD : Hid (Mod (fun k => k = mb) w w0) := Lib.hid (by rw [hw0]; exact (Mod.refl _ w).alloc _)
  have HNE : Hid (w.heap.size ≠ mb) := Lib.hid (fun e => by have := h.blk.lt; omega)
  have HA := Lib.hid ha
  clear ha
  go_enter Tryd.func123, Tryd.ntmps123
  go_upto_region 1 with fail
  rw [show w.alloc (.cells #[.int .i64 0, .int .i64 0, .int .i64 0, .int .i64 0, .bool false, .int .i64 0, .int .i64 0, .int .i64 0, .int .u64 0, .int .u64 0, .int .u64 0, .int .u64 0] 35) = w0 from hw0.symm]
  clear hw0
  go_wp2_with fail
  refine (step_any HM0.out).mono ?_
  rintro e w2 ⟨rfl, nd, rfl⟩
  have HM2 := Lib.hid (HM0.out.stepped hc nd)
  have HMD2 := Lib.hid (HMD.out.self (setCell_mod w0 mb 1 (.int .i64 ((st.count : Int) + 1)) nd))
  have HR2 := Lib.hid ((setCell_mod w0 mb 1 (.int .i64 ((st.count : Int) + 1)) nd).blk HR0.out HNE.out)
  rw [HA.out]
  obtain ⟨w9, hw9⟩ : ∃ x, x = (w0.setCell ⟨mb, 1, none⟩ (.int .i64 ((st.count : Int) + 1))).drewN nd := ⟨_, rfl⟩
  rw [← hw9] at HM2 HMD2 HR2 ⊢
  clear hw9
  have hst := fun op a next Q => storeZPt HR2.out rfl op a next Q
  go_wp2_with fail
  refine bodyPost_ret (res_cell_tmp rfl _ _ w.heap.size 35 _ _ rfl (HR2.out.put (vs := encPtr pD) rfl) Tryd.underlying35 rfl iszPt) rfl ?_
  exact ⟨rfl, ⟨HM2.out.blk.away 0 _ (fun e => HNE.out e.symm), (Mod.put (o := 0) (vs := encPtr pD) (Mod.refl (fun k => k = w.heap.size) w9) (.inl rfl)).rowN HM2.out.row (fun g hg e => by have := (h.row.lt g hg).2; omega), HM2.out.nb, HM2.out.cnt, HM2.out.fls⟩, HMD2.out.put (.inr (Nat.le_refl _))⟩
set_option maxHeartbeats 1000000 in
set_option maxRecDepth 100000 in
theorem mput_ok {w : World} {mb : Nat} {st : MemT} {v : Value} (h : IsMem w mb st v) (t : Bs) (lv : Nat) (hlv : lv ≤ 3) (ht : t.length ≤ 256) (hL : st.L.length < 1000000) (hc : st.count + 1 < 1000000000) (ha : awakeB (st.count + 1) st.fails = true) :
    Calls Tryd.prog 123 #[.pointer (some ⟨mb, 0, none⟩), .string ⟨t.toArray⟩, .int .i64 (lv : Nat)] w fun e w' => e = .returned (.tuple #[.agg (encPtr (memP st.L.length t.length lv)).toArray, .int .i64 0]) ∧ ∃ v', IsMem w' mb { st with count := st.count + 1, L := st.L ++ [t] } v' ∧ Mod (fun k => k = mb ∨ v.ownBlock = some k) w w' ∧ (∀ k, v'.ownBlock = some k → v.ownBlock = some k ∨ w.heap.size ≤ k) := by
  obtain ⟨w0, hw0⟩ : ∃ w0, w0 = w.alloc (.cells (encPtr pD).toArray 35) := ⟨_, rfl⟩
  have HR0 : Hid (Blk w0 w.heap.size 35 (encPtr pD)) := by rw [hw0]; exact Lib.hid (Blk.new w _ _)
  have HM0 : Hid (IsMem w0 mb st v) := by rw [hw0]; exact Lib.hid (h.below ((Below.refl _ _).alloc (Nat.le_refl _) _))
  have HMD : Hid (Mod (fun k => k = mb ∨ v.ownBlock = some k) w w0) := Lib.hid (by rw [hw0]; exact (Mod.refl _ w).alloc _)
  have HNE : Hid (w.heap.size ≠ mb) := Lib.hid (fun e => by have := h.blk.lt; omega)
  have HA := Lib.hid ha
  have HI0 := Lib.hid h
  clear ha
  go_enter Tryd.func123, Tryd.ntmps123
  go_upto_region 1 with fail
  rw [show w.alloc (.cells #[.int .i64 0, .int .i64 0, .int .i64 0, .int .i64 0, .bool false, .int .i64 0, .int .i64 0, .int .i64 0, .int .u64 0, .int .u64 0, .int .u64 0, .int .u64 0] 35) = w0 from hw0.symm]
  clear hw0
  go_wp2_with fail
  refine (step_any HM0.out).mono ?_
  rintro e w2 ⟨rfl, nd, rfl⟩
  have HM2 := Lib.hid (HM0.out.stepped hc nd)
  have hm2 := (setCell_mod w0 mb 1 (.int .i64 ((st.count : Int) + 1)) nd)
  have HMD2 := Lib.hid (HMD.out.self (hm2.mono (fun x _ hx => .inl hx)))
  have HR2 := Lib.hid (hm2.blk HR0.out HNE.out)
  rw [HA.out]
  obtain ⟨w9, hw9⟩ : ∃ x, x = (w0.setCell ⟨mb, 1, none⟩ (.int .i64 ((st.count : Int) + 1))).drewN nd := ⟨_, rfl⟩
  rw [← hw9] at HM2 HMD2 HR2 ⊢
  clear hw9 hm2
  have c0 := HM2.out.c0
  obtain ⟨i0, hi, hi0, hi1, hi2⟩ := info_parts infoStr
  have m1 : st.L.length + 1 ≤ maxLen := by unfold maxLen; omega
  have m2 : (st.L.length + 1) * 16 ≤ 140737488355328 := by omega
  have m3 : 0 ≤ (w9.alloc (.cells [Value.string ⟨t.toArray⟩].toArray 9)).heap.size := Nat.zero_le _
  have HNW := Lib.hid (Blk.news (Blk.newAt (w := w9) 9 [Value.string ⟨t.toArray⟩] rfl))
  have h1 : ∀ u ∈ [Value.string ⟨t.toArray⟩], u.oneCell' = true := by intro u hu; simp only [List.mem_singleton] at hu; subst hu; rfl
  have HMB := Lib.hid (HM2.out.blk.alloc (.cells [Value.string ⟨t.toArray⟩].toArray 9))
  have HFZ : Hid (∀ w', (w9.alloc (.cells [Value.string ⟨t.toArray⟩].toArray 9)).grownBy w' v.ownBlock → Blk w' mb 27 [v, .int .i64 ((st.count + 1 : Nat) : Int), .int .i64 (st.fails : Nat)]) := Lib.hid (fun w' hg => (Mod.grownO (F := fun k => v.ownBlock = some k) hg (fun g hg => hg)).blk HMB.out (fun e => HM2.out.nb e))
  go_upto_region 4 with (at_builtin; go_must (refine wpList_append_lies _ rfl (.tmp 16) (.tmp 18) 25 rfl 0 9 i0 (.string ⟨#[]⟩) 1 16 Tryd.underlying25 hi hi0 hi1 hi2 rfl (Nat.succ_pos 0) v st.L.length (encS (bts st.L)) rfl (HM2.out.row.alloc _) ⟨w9.heap.size, 0, none⟩ 1 1 [Value.string ⟨t.toArray⟩] rfl rfl HNW.out h1 Nat.one_pos m1 m2 m3 _ rfl ?_; intro g2 cap2 wA hown hgrow hat2 hlt2; have hbA := HFZ.out _ hgrow; have hzA := Blk.frozen hbA 0; have hcA := Blk.cell hbA 0))
  have hg2 : g2 ≠ mb := fun e => hat2.elim (fun e2 => HM2.out.nb (by rw [e2, e])) (fun e2 => by have := HM2.out.blk.lt; simp at e2; omega)
  obtain ⟨WA, hWA⟩ : ∃ WA, WA = wA.setCell ⟨mb, 0, none⟩ (.slice (some ⟨g2, 0, none⟩) (st.L.length + 1) cap2) := ⟨_, rfl⟩
  have hmA : Mod (fun k => v.ownBlock = some k) (w9.alloc (.cells [Value.string ⟨t.toArray⟩].toArray 9)) wA := Mod.grownO hgrow (fun g hg => hg)
  have hmW : Mod (fun k => k = mb) wA WA := by rw [hWA]; exact (Mod.refl (fun k => k = mb) wA).setCell (.inl rfl)
  have HMW : Hid (IsMem WA mb { st with count := st.count + 1, L := st.L ++ [t] } (.slice (some ⟨g2, 0, none⟩) (st.L.length + 1) cap2)) := Lib.hid ⟨by rw [hWA]; exact hbA.setCell 0 _, by
      have := hmW.rowN hown (fun g hg e => hg2 (by simp only [Value.ownBlock, Option.some.injEq] at hg; rw [hg, e]))
      simpa [encS, bts] using this, fun e => hg2 (by simpa [Value.ownBlock] using e), hc, HI0.out.fls⟩
  have HMDW : Hid (Mod (fun k => k = mb ∨ v.ownBlock = some k) w WA) := Lib.hid (((HMD2.out.alloc _).self (hmA.mono (fun x _ hx => .inr hx))).self (hmW.mono (fun x _ hx => .inl hx)))
  have HRW : Hid (Blk WA w.heap.size 35 (encPtr pD)) := Lib.hid (hmW.blk (hmA.blk (HR2.out.alloc _) (fun hv => by have := (HI0.out.row.lt _ hv).2; omega)) HNE.out)
  have HOB : Hid (v.ownBlock = some g2 ∨ w.heap.size ≤ g2) := Lib.hid (hat2.imp id (fun e => by have := HR2.out.lt; simp at e; omega))
  have HGN : Hid (¬ g2 = w.heap.size) := Lib.hid (fun e => hat2.elim (fun e2 => by have := (HI0.out.row.lt _ e2).2; omega) (fun e2 => by have := HR2.out.lt; simp at e2; omega))
  rw [← hWA]
  have c0W := HMW.out.c0
  clear hown hgrow hat2 hbA hzA hcA hWA hmA hmW c0
  have hst := fun op a next Q => storeW_part (P := Tryd.prog) (t := 35) (o := 0) (cs := encPtr (memP st.L.length t.length lv)) HRW.out (Nat.le_refl 12) iszPt (encPtr_ones _) op a next Q
  have HE2 : Hid ((t.length : Int) / 64 = ((t.length / 64 : Nat) : Int)) := Lib.hid (by omega)
  go_wp2_with fail
  rw [HE2.out]
  refine Eq.mpr (hst _ _ _ _) ?_
  clear hst
  go_wp2_with fail
  refine bodyPost_ret (res_cell_tmp rfl _ _ w.heap.size 35 _ _ rfl (HRW.out.put (vs := encPtr (memP st.L.length t.length lv)) rfl) Tryd.underlying35 rfl iszPt) rfl ?_
  refine ⟨rfl, _, ⟨HMW.out.blk.away 0 _ (fun e => HNE.out e.symm), (Mod.put (o := 0) (vs := encPtr (memP st.L.length t.length lv)) (Mod.refl (fun k => k = w.heap.size) WA) (.inl rfl)).rowN HMW.out.row (fun g hg e => ?_), HMW.out.nb, HMW.out.cnt, HMW.out.fls⟩, HMDW.out.put (.inr (Nat.le_refl _)), fun k hk => by simp only [Value.ownBlock, Option.some.injEq] at hk; rw [← hk]; exact HOB.out⟩
  simp only [Value.ownBlock, Option.some.injEq] at hg
  exact HGN.out (by omega)
end Go.Proofs.YtbhofablndjeoaaDoor
