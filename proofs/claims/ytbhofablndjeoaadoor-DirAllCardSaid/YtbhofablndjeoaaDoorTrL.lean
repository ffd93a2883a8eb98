/- The walks of tree.Block, bytes. -/
import Derived.Test.YtbhofablndjeoaaDoorTrK
namespace Go.Proofs.YtbhofablndjeoaaDoor
open Go.RowKit
set_option linter.unusedSimpArgs false
set_option linter.unusedVariables false
attribute [local go_sem ↓] wp_loadPt wp_storePt wp_loadA4 wp_storeA4 wp_storeIx wp_loadNd wp_storeNd

theorem ta_nx (w : World) : (Instr.typeAssert .nilIface 79 110 true).run Tryd.prog w = .ok (.tuple #[.agg (encPs zs4).toArray, .bool false]) w := by kernel_rfl
def BlockR : Except Nat Item → Ending → Prop
  | .ok x, e => e = .returned (.tuple #[encItem x, .int .i64 0]) ∧ x.good ∧ ∀ l, x ≠ .index l
  | .error n, e => e = .returned (.tuple #[.nilIface, .int .i64 (n : Nat)]) ∧ n ≠ 0
theorem lvl_le (n : Int) : lvl n ≤ 3 := by unfold lvl; split <;> (try split) <;> (try split) <;> omega
section
variable {σ : Type} {S : StF σ} {ty : TypeId} {a : Addr} {C : StoreC S ty a}
set_option maxHeartbeats 2000000 in
set_option maxRecDepth 100000 in
theorem Block_any {w : World} {s : σ} {F : Nat → Prop} (h : C.Is w s F) (n : NodeT) (hn : n.wf) (i : Nat) (hi : i ≤ 9223372036854775807) (hok : C.Ok (blockM S n i s).2) :
    Calls Tryd.prog 28 #[.iface ty (.pointer (some a)), .agg (encN n).toArray, .int .i64 (i : Nat)] w fun e w' => BlockR (blockM S n i s).1 e ∧ C.Step F (blockM S n i s).2 w w' := by
  obtain ⟨w0, hw0⟩ : ∃ w0, w0 = w.alloc (.cells (encN n).toArray 37) := ⟨_, rfl⟩
  have hb : Blk w0 w.heap.size 37 (encN n) := by rw [hw0]; exact Blk.new w _ _
  have hbel : Below w.heap.size w w0 := by rw [hw0]; exact (Below.refl _ _).alloc (Nat.le_refl _) _
  have h0 : ¬ F w.heap.size := fun hf => by have := C.lt h _ hf; omega
  have HAT : Hid (C.At F s w w0 F) := Lib.hid ((StoreC.At.start h).below hbel)
  have hc0 : w0.cell? ⟨w.heap.size, 0, none⟩ = some (.int .i64 n.size) := hb.cell 0
  have hld := fun op a next Q => loadW_part (P := Tryd.prog) (t := 35) (o := 1) (cs := encPtr n.root) hb rfl Tryd.underlying35 rfl iszPt op a next Q
  have hsz := hn.size
  have HB := Lib.hid hb
  clear hb hbel
  by_cases h64 : 64 ≤ i
  · have hx1 : (64 : Int) ≤ (i : Int) := by omega
    have e : blockM S n i = M.err 1 := by unfold blockM; rw [if_neg (by omega)]
    rw [e]
    clear e hok
    go_enter Tryd.func28, Tryd.ntmps28
    go_upto_region 1 with fail
    rw [← hw0]
    clear hw0
    go_wp2_with fail
    go_ret2
    exact ⟨⟨rfl, by decide⟩, HAT.out.fin⟩
  · have hx1 : ¬ (64 : Int) ≤ (i : Int) := by omega
    have hl3 := lvl_le n.size
    by_cases hh : lvl n.size < 3 ∧ 4 ^ lvl n.size ≤ i
    · have e : blockM S n i = M.ret .hole := by unfold blockM; rw [if_pos (by omega), if_pos hh]
      rw [e]
      obtain ⟨hh1, hh2⟩ := hh
      have HL := Lib.hid (Level_any n.size w0 hsz)
      have HBE : Hid (Calls Tryd.prog 44 #[.int .i64 ((lvl n.size : Int) + 1)] w0 fun e w' => e = .returned (.int .i64 ((4 ^ lvl n.size : Nat) : Int)) ∧ w' = w0) := Lib.hid (below_any (lvl n.size + 1) w0 (by omega))
      obtain ⟨g, hg⟩ : ∃ g, g = 4 ^ lvl n.size := ⟨_, rfl⟩
      obtain ⟨lv, hlv⟩ : ∃ lv, lv = lvl n.size := ⟨_, rfl⟩
      rw [← hg] at HBE hh2
      rw [← hlv] at hl3 hh1 HL HBE
      have hi2 : (lv : Int) < 3 := by omega
      have hi3 : (g : Int) ≤ (i : Int) := by omega
      clear e hok hg hlv
      go_enter Tryd.func28, Tryd.ntmps28
      go_upto_region 1 with fail
      rw [← hw0]
      clear hw0
      go_wp2_with fail
      refine HL.out.mono ?_
      rintro e w1 ⟨rfl, rfl⟩
      go_wp2_with fail
      refine HBE.out.mono ?_
      rintro e w1 ⟨rfl, rfl⟩
      go_wp2_with fail
      go_ret2
      exact ⟨⟨rfl, trivial, by simp⟩, HAT.out.fin⟩
    · have e : blockM S n i = M.bind (leafM S (lvl n.size) n.root i) fun p => M.bind (itemM S p) fun x s => (noIndex x, s) := by unfold blockM; rw [if_pos (by omega), if_neg hh]
      rw [e] at hok ⊢
      have hi4 : i < 4 ^ lvl n.size := by
        by_cases hq : lvl n.size < 3
        · have := fun h2 => hh ⟨hq, h2⟩
          omega
        · rw [show lvl n.size = 3 by omega]; omega
      have hokl := back_first (fun p => back_bind (back_item C.bg p) (fun x => back_pure (fun _ => noIndex x))) hok
      have HLF := Lib.hid (leaf_any HAT.out.1 n.root hn.root (lvl n.size) i hl3 hi4 hokl)
      have HL := Lib.hid (Level_any n.size w0 hsz)
      have HBE : Hid (lvl n.size < 3 → Calls Tryd.prog 44 #[.int .i64 ((lvl n.size : Int) + 1)] w0 fun e w' => e = .returned (.int .i64 ((4 ^ lvl n.size : Nat) : Int)) ∧ w' = w0) := Lib.hid fun h3 => below_any (lvl n.size + 1) w0 (by omega)
      rcases hlf : leafM S (lvl n.size) n.root i s with ⟨r | q, s1⟩
      · rw [M.bind_err hlf] at hok ⊢
        rw [hlf] at HLF
        have hi5 : (i : Int) < ((4 ^ lvl n.size : Nat) : Int) := by omega
        obtain ⟨g, hg⟩ : ∃ g, g = 4 ^ lvl n.size := ⟨_, rfl⟩
        obtain ⟨lv, hlv⟩ : ∃ lv, lv = lvl n.size := ⟨_, rfl⟩
        rw [← hg] at HBE hi5
        rw [← hlv] at hl3 HLF HL HBE
        have hi6 : ¬ (g : Int) ≤ (i : Int) := by omega
        clear e hg hlv hh hi4 hok hlf

        go_enter Tryd.func28, Tryd.ntmps28
        go_upto_region 1 with fail
        rw [← hw0]
        clear hw0
        go_wp2_with fail
        refine HL.out.mono ?_
        rintro e w1 ⟨rfl, rfl⟩
        by_cases hq : lv < 3
        · have hq2 : (lv : Int) < 3 := by omega
          go_wp2_with fail
          refine (HBE.out hq).mono ?_
          rintro e w1 ⟨rfl, rfl⟩
          go_wp2_with fail

          refine HLF.out.mono ?_
          rintro e w2 ⟨⟨rfl, hr0⟩, hstep⟩
          have hr1 : ((r : Int) != 0) = true := by simpa using hr0
          obtain ⟨F2, hat, hfr, hm⟩ := HAT.out.step hstep
          have hsn := store_newPt pD w2
          have HA2 := Lib.hid (hat.below ((Below.refl _ _).alloc (Nat.le_refl _) (.cells (encPtr pD).toArray 35)))
          clear hat hfr hm hstep
          go_wp2_with fail
          go_ret2
          exact ⟨⟨rfl, hr0⟩, HA2.out.fin⟩
        · have hq2 : ¬ (lv : Int) < 3 := by omega
          go_wp2_with fail

          refine HLF.out.mono ?_
          rintro e w2 ⟨⟨rfl, hr0⟩, hstep⟩
          have hr1 : ((r : Int) != 0) = true := by simpa using hr0
          obtain ⟨F2, hat, hfr, hm⟩ := HAT.out.step hstep
          have hsn := store_newPt pD w2
          have HA2 := Lib.hid (hat.below ((Below.refl _ _).alloc (Nat.le_refl _) (.cells (encPtr pD).toArray 35)))
          clear hat hfr hm hstep
          go_wp2_with fail
          go_ret2
          exact ⟨⟨rfl, hr0⟩, HA2.out.fin⟩
      · rw [M.bind_ok hlf] at hok ⊢
        rw [hlf] at HLF
        have HOKI := Lib.hid (back_first (fun x => back_pure (fun _ => noIndex x)) hok)
        have hi5 : (i : Int) < ((4 ^ lvl n.size : Nat) : Int) := by omega
        obtain ⟨g, hg⟩ : ∃ g, g = 4 ^ lvl n.size := ⟨_, rfl⟩
        obtain ⟨lv, hlv⟩ : ∃ lv, lv = lvl n.size := ⟨_, rfl⟩
        rw [← hg] at HBE hi5
        rw [← hlv] at hl3 HLF HL HBE
        have hi6 : ¬ (g : Int) ≤ (i : Int) := by omega
        clear e hg hlv hh hi4 hok hlf

        go_enter Tryd.func28, Tryd.ntmps28
        go_upto_region 1 with fail
        rw [← hw0]
        clear hw0
        go_wp2_with fail
        refine HL.out.mono ?_
        rintro e w1 ⟨rfl, rfl⟩
        by_cases hq : lv < 3
        · have hq2 : (lv : Int) < 3 := by omega
          go_wp2_with fail
          refine (HBE.out hq).mono ?_
          rintro e w1 ⟨rfl, rfl⟩
          go_wp2_with fail

          refine HLF.out.mono ?_
          rintro e w2 ⟨⟨rfl, hqw⟩, hstep⟩
          obtain ⟨F2, hat, hfr, hm⟩ := HAT.out.step hstep
          have hsn := store_newPt q w2
          have hbq := Blk.new w2 35 (encPtr q)
          have hlq := fun op a next Q => loadW_blk (P := Tryd.prog) hbq Tryd.underlying35 rfl iszPt op a next Q
          have HA2 := Lib.hid (hat.below ((Below.refl _ _).alloc (Nat.le_refl _) (.cells (encPtr q).toArray 35)))
          have HI := Lib.hid (item_any HA2.out.1 q hqw HOKI.out)
          clear hat hfr hm hstep hbq hqw
          rcases hit : itemM S q s1 with ⟨r | x, s2⟩
          · rw [hit] at HI
            have hfin : M.bind (itemM S q) (fun x s => (noIndex x, s)) s1 = (.error r, s2) := M.bind_err hit
            have HF := Lib.hid hfin
            have t1 := ta_nx
            clear hit hfin
            go_wp2_with fail
            refine HI.out.mono ?_
            rintro e w3 ⟨⟨rfl, hr0⟩, hstep⟩
            obtain ⟨F3, hat, hfr, hm⟩ := HA2.out.step hstep
            have hsx := store_newIx zs4 rfl w3
            have HA3 := Lib.hid (hat.below ((Below.refl _ _).alloc (Nat.le_refl _) (.cells (encPs zs4).toArray 110)))
            clear hat hfr hm hstep
            go_wp2_with fail
            go_ret2
            rw [HF.out]
            exact ⟨⟨rfl, hr0⟩, HA3.out.fin⟩
          · rw [hit] at HI
            have hfin : M.bind (itemM S q) (fun x s => (noIndex x, s)) s1 = (noIndex x, s2) := M.bind_ok hit
            have HF := Lib.hid hfin
            clear hit hfin
            cases x with
            | index l =>
              have t1 := ta_ix l
              go_wp2_with fail
              refine HI.out.mono ?_
              rintro e w3 ⟨⟨rfl, hl4, hlw⟩, hstep⟩
              obtain ⟨F3, hat, hfr, hm⟩ := HA2.out.step hstep
              have hsx := store_newIx l hl4 w3
              have HA3 := Lib.hid (hat.below ((Below.refl _ _).alloc (Nat.le_refl _) (.cells (encPs l).toArray 110)))
              clear hat hfr hm hstep hl4
              unfold encItem
              go_wp2_with fail
              go_ret2
              rw [HF.out]
              exact ⟨⟨rfl, by decide⟩, HA3.out.fin⟩
            | data t =>
              have t1 := ta_dx (.agg #[.string ⟨t.toArray⟩])
              go_wp2_with fail
              refine HI.out.mono ?_
              rintro e w3 ⟨⟨rfl, hgd⟩, hstep⟩
              obtain ⟨F3, hat, hfr, hm⟩ := HA2.out.step hstep
              have hsx := store_newIx zs4 rfl w3
              have HA3 := Lib.hid (hat.below ((Below.refl _ _).alloc (Nat.le_refl _) (.cells (encPs zs4).toArray 110)))
              have HGD := Lib.hid hgd
              clear hat hfr hm hstep hgd
              unfold encItem
              go_wp2_with fail
              go_ret2
              rw [HF.out]
              exact ⟨⟨rfl, HGD.out, by simp⟩, HA3.out.fin⟩
            | hole =>
              have t1 := ta_hx (.agg #[])
              go_wp2_with fail
              refine HI.out.mono ?_
              rintro e w3 ⟨⟨rfl, hgd⟩, hstep⟩
              obtain ⟨F3, hat, hfr, hm⟩ := HA2.out.step hstep
              have hsx := store_newIx zs4 rfl w3
              have HA3 := Lib.hid (hat.below ((Below.refl _ _).alloc (Nat.le_refl _) (.cells (encPs zs4).toArray 110)))
              clear hat hfr hm hstep hgd
              unfold encItem
              go_wp2_with fail
              go_ret2
              rw [HF.out]
              exact ⟨⟨rfl, trivial, by simp⟩, HA3.out.fin⟩
        · have hq2 : ¬ (lv : Int) < 3 := by omega
          go_wp2_with fail

          refine HLF.out.mono ?_
          rintro e w2 ⟨⟨rfl, hqw⟩, hstep⟩
          obtain ⟨F2, hat, hfr, hm⟩ := HAT.out.step hstep
          have hsn := store_newPt q w2
          have hbq := Blk.new w2 35 (encPtr q)
          have hlq := fun op a next Q => loadW_blk (P := Tryd.prog) hbq Tryd.underlying35 rfl iszPt op a next Q
          have HA2 := Lib.hid (hat.below ((Below.refl _ _).alloc (Nat.le_refl _) (.cells (encPtr q).toArray 35)))
          have HI := Lib.hid (item_any HA2.out.1 q hqw HOKI.out)
          clear hat hfr hm hstep hbq hqw
          rcases hit : itemM S q s1 with ⟨r | x, s2⟩
          · rw [hit] at HI
            have hfin : M.bind (itemM S q) (fun x s => (noIndex x, s)) s1 = (.error r, s2) := M.bind_err hit
            have HF := Lib.hid hfin
            have t1 := ta_nx
            clear hit hfin
            go_wp2_with fail
            refine HI.out.mono ?_
            rintro e w3 ⟨⟨rfl, hr0⟩, hstep⟩
            obtain ⟨F3, hat, hfr, hm⟩ := HA2.out.step hstep
            have hsx := store_newIx zs4 rfl w3
            have HA3 := Lib.hid (hat.below ((Below.refl _ _).alloc (Nat.le_refl _) (.cells (encPs zs4).toArray 110)))
            clear hat hfr hm hstep
            go_wp2_with fail
            go_ret2
            rw [HF.out]
            exact ⟨⟨rfl, hr0⟩, HA3.out.fin⟩
          · rw [hit] at HI
            have hfin : M.bind (itemM S q) (fun x s => (noIndex x, s)) s1 = (noIndex x, s2) := M.bind_ok hit
            have HF := Lib.hid hfin
            clear hit hfin
            cases x with
            | index l =>
              have t1 := ta_ix l
              go_wp2_with fail
              refine HI.out.mono ?_
              rintro e w3 ⟨⟨rfl, hl4, hlw⟩, hstep⟩
              obtain ⟨F3, hat, hfr, hm⟩ := HA2.out.step hstep
              have hsx := store_newIx l hl4 w3
              have HA3 := Lib.hid (hat.below ((Below.refl _ _).alloc (Nat.le_refl _) (.cells (encPs l).toArray 110)))
              clear hat hfr hm hstep hl4
              unfold encItem
              go_wp2_with fail
              go_ret2
              rw [HF.out]
              exact ⟨⟨rfl, by decide⟩, HA3.out.fin⟩
            | data t =>
              have t1 := ta_dx (.agg #[.string ⟨t.toArray⟩])
              go_wp2_with fail
              refine HI.out.mono ?_
              rintro e w3 ⟨⟨rfl, hgd⟩, hstep⟩
              obtain ⟨F3, hat, hfr, hm⟩ := HA2.out.step hstep
              have hsx := store_newIx zs4 rfl w3
              have HA3 := Lib.hid (hat.below ((Below.refl _ _).alloc (Nat.le_refl _) (.cells (encPs zs4).toArray 110)))
              have HGD := Lib.hid hgd
              clear hat hfr hm hstep hgd
              unfold encItem
              go_wp2_with fail
              go_ret2
              rw [HF.out]
              exact ⟨⟨rfl, HGD.out, by simp⟩, HA3.out.fin⟩
            | hole =>
              have t1 := ta_hx (.agg #[])
              go_wp2_with fail
              refine HI.out.mono ?_
              rintro e w3 ⟨⟨rfl, hgd⟩, hstep⟩
              obtain ⟨F3, hat, hfr, hm⟩ := HA2.out.step hstep
              have hsx := store_newIx zs4 rfl w3
              have HA3 := Lib.hid (hat.below ((Below.refl _ _).alloc (Nat.le_refl _) (.cells (encPs zs4).toArray 110)))
              clear hat hfr hm hstep hgd
              unfold encItem
              go_wp2_with fail
              go_ret2
              rw [HF.out]
              exact ⟨⟨rfl, trivial, by simp⟩, HA3.out.fin⟩
end
end Go.Proofs.YtbhofablndjeoaaDoor
