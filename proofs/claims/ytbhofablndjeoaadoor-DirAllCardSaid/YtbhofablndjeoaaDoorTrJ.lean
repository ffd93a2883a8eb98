/- The walks of tree.links, below. -/
import Derived.Test.YtbhofablndjeoaaDoorTrI
namespace Go.Proofs.YtbhofablndjeoaaDoor
open Go.RowKit
set_option linter.unusedSimpArgs false
set_option linter.unusedVariables false
attribute [local go_sem ↓] wp_loadPt wp_storePt wp_loadA4 wp_storeA4 wp_storeIx wp_loadIx

theorem below_any (level : Nat) (w : World) (h : level ≤ 4) : Calls Tryd.prog 44 #[.int .i64 (level : Nat)] w fun e w' => e = .returned (.int .i64 ((4 ^ (level - 1) : Nat) : Int)) ∧ w' = w := by
  go_enter Tryd.func44, Tryd.ntmps44
  go_wp2_with fail
  go_loop [3, 6] (fun n i => ∃ k : Nat, i = .int .i64 k ∧ n = .int .i64 ((4 ^ k : Nat) : Int) ∧ k ≤ level - 1) (fun _ i => level - 1 - (intOf i).toNat)
  case atStart => exact ⟨0, rfl, rfl, by omega⟩
  case round =>
    obtain ⟨k, rfl, rfl, hk⟩ := hrel
    have hp : 4 ^ k ≤ 64 := by
      have : 4 ^ k ≤ 4 ^ 3 := Nat.pow_le_pow_right (by omega) (by omega)
      omega
    by_cases hx : k < level - 1
    · have hx1 : (k : Int) < (level : Int) - 1 := by omega
      have hs : ((4 ^ (k + 1) : Nat) : Int) = ((4 ^ k : Nat) : Int) * 4 := by rw [Nat.pow_succ]; omega
      have HS := Lib.hid hs
      generalize hg : 4 ^ k = g at *
      have HG := Lib.hid hg
      clear hs hg
      go_wp2_with fail
      go_round
      case rel => exact ⟨k + 1, by go_num, by rw [HS.out], by omega⟩
      case measure => simp [intOf]; omega
    · have hx1 : ¬ (k : Int) < (level : Int) - 1 := by omega
      have hk1 : k = level - 1 := by omega
      have HK := Lib.hid hk1
      generalize hg : 4 ^ k = g at *
      have HG := Lib.hid hg
      clear hg hk1
      go_wp2_with fail
      go_ret
      exact ⟨by rw [← HG.out, HK.out]; rfl, rfl⟩
theorem ta_ix (l : List PtrT) (w : World) : (Instr.typeAssert (.iface 110 (.agg (encPs l).toArray)) 79 110 true).run Tryd.prog w = .ok (.tuple #[.agg (encPs l).toArray, .bool true]) w := by kernel_rfl
theorem ta_dx (v : Value) (w : World) : (Instr.typeAssert (.iface 130 v) 79 110 true).run Tryd.prog w = .ok (.tuple #[.agg (encPs zs4).toArray, .bool false]) w := by kernel_rfl
theorem ta_hx (v : Value) (w : World) : (Instr.typeAssert (.iface 83 v) 79 110 true).run Tryd.prog w = .ok (.tuple #[.agg (encPs zs4).toArray, .bool false]) w := by kernel_rfl
theorem ta_dh (v : Value) (w : World) : (Instr.typeAssert (.iface 130 v) 79 83 true).run Tryd.prog w = .ok (.tuple #[.agg #[], .bool false]) w := by kernel_rfl
theorem ta_hh (w : World) : (Instr.typeAssert (.iface 83 (.agg #[])) 79 83 true).run Tryd.prog w = .ok (.tuple #[.agg #[], .bool true]) w := by kernel_rfl
def LinksR : Except Nat (List PtrT) → Ending → Prop
  | .ok l, e => e = .returned (.tuple #[.agg (encPs l).toArray, .int .i64 0]) ∧ l.length = 4 ∧ ∀ p ∈ l, p.wf
  | .error n, e => e = .returned (.tuple #[.agg (encPs zs4).toArray, .int .i64 (n : Nat)]) ∧ n ≠ 0
section
variable {σ : Type} {S : StF σ} {ty : TypeId} {a : Addr} {C : StoreC S ty a}
set_option maxHeartbeats 1000000 in
set_option maxRecDepth 100000 in
theorem links_any {w : World} {s : σ} {F : Nat → Prop} (h : C.Is w s F) (p : PtrT) (hp : p.wf) (hok : C.Ok (linksM S p s).2) :
    Calls Tryd.prog 51 #[.iface ty (.pointer (some a)), .agg (encPtr p).toArray] w fun e w' => LinksR (linksM S p s).1 e ∧ C.Step F (linksM S p s).2 w w' := by
  obtain ⟨w0, hw0⟩ : ∃ w0, w0 = (w.alloc (.cells (encPtr p).toArray 35)).alloc (.cells (encPs zs4).toArray 108) := ⟨_, rfl⟩
  have hb : Blk w0 w.heap.size 35 (encPtr p) := by rw [hw0]; exact (Blk.new w _ _).alloc _
  have hr : Blk w0 (w.heap.size + 1) 108 (encPs zs4) := by rw [hw0]; exact Blk.newAt (w := w.alloc _) _ _ (by simp)
  have hbel : Below w.heap.size w w0 := by rw [hw0]; exact ((Below.refl _ _).alloc (Nat.le_refl _) _).alloc (by simp) _
  have hsz : w0.heap.size = w.heap.size + 2 := by rw [hw0]; simp
  have hld := fun op a next Q => loadW_blk (P := Tryd.prog) hb Tryd.underlying35 rfl iszPt op a next Q
  have hnF : ¬ F (w.heap.size + 1) := fun hf => by have := C.lt h _ hf; omega
  have HAT : Hid (C.At F s w w0 F) := Lib.hid ((StoreC.At.start h).below hbel)
  have HR := Lib.hid hr
  have HSZ := Lib.hid hsz
  clear hb hr hbel hsz
  have hlm : linksM S p s = M.bind (itemM S p) (fun x s => (linksOf x, s)) s := rfl
  have hw0' := hw0
  rcases hi : itemM S p s with ⟨r | x, s1⟩
  · have e := M.bind_err (f := fun x s => (linksOf x, s)) hi
    rw [hlm, e] at hok ⊢
    have HI := Lib.hid (item_any HAT.out.1 p hp (by rw [hi]; exact hok))
    rw [hi] at HI
    clear hlm e hok hi
    go_enter Tryd.func51, Tryd.ntmps51
    go_upto_region 1 with fail
    rw [show (w.alloc (.cells (encPtr p).toArray 35)).alloc (.cells #[.int .i64 0, .int .i64 0, .int .i64 0, .int .i64 0, .bool false, .int .i64 0, .int .i64 0, .int .i64 0, .int .u64 0, .int .u64 0, .int .u64 0, .int .u64 0, .int .i64 0, .int .i64 0, .int .i64 0, .int .i64 0, .bool false, .int .i64 0, .int .i64 0, .int .i64 0, .int .u64 0, .int .u64 0, .int .u64 0, .int .u64 0, .int .i64 0, .int .i64 0, .int .i64 0, .int .i64 0, .bool false, .int .i64 0, .int .i64 0, .int .i64 0, .int .u64 0, .int .u64 0, .int .u64 0, .int .u64 0, .int .i64 0, .int .i64 0, .int .i64 0, .int .i64 0, .bool false, .int .i64 0, .int .i64 0, .int .i64 0, .int .u64 0, .int .u64 0, .int .u64 0, .int .u64 0] 108) = w0 from hw0'.symm]
    clear hw0 hw0'
    go_wp2_with fail
    refine HI.out.mono ?_
    rintro e w1 ⟨⟨rfl, hr0⟩, hstep⟩
    have hr1 : ((r : Int) != 0) = true := by simpa using hr0
    obtain ⟨F1, hat, hfr, hm⟩ := HAT.out.step hstep
    have hb1 := hm.blk HR.out hnF
    have hst := fun op a next Q => storeZA4 hb1 (encPs_length zs4) op a next Q
    have hat2 := hat.put (o := 0) (vs := encPs zs4) (Nat.le_succ _) (hfr _ (by have := HSZ.out; omega) hnF)
    have hb2 := hb1.put (vs := encPs zs4) rfl
    have HA2 := Lib.hid hat2
    have HB2 := Lib.hid hb2
    clear hat hat2 hb1 hb2 hm hfr hstep
    go_wp2_with fail
    refine bodyPost_ret (res_cell_tmp rfl _ _ (w.heap.size + 1) 108 _ _ rfl HB2.out Tryd.underlying108 rfl iszA4) rfl ?_
    exact ⟨⟨rfl, hr0⟩, HA2.out.fin⟩
  · have e := M.bind_ok (f := fun x s => (linksOf x, s)) hi
    rw [hlm, e] at hok ⊢
    have HI := Lib.hid (item_any HAT.out.1 p hp (by rw [hi]; exact hok))
    rw [hi] at HI
    clear hlm e hok hi
    cases x with
    | data t =>
      have t1 := ta_dx (.agg #[.string ⟨t.toArray⟩])
      have t2 := ta_dh (.agg #[.string ⟨t.toArray⟩])
      go_enter Tryd.func51, Tryd.ntmps51
      go_upto_region 1 with fail
      rw [show (w.alloc (.cells (encPtr p).toArray 35)).alloc (.cells #[.int .i64 0, .int .i64 0, .int .i64 0, .int .i64 0, .bool false, .int .i64 0, .int .i64 0, .int .i64 0, .int .u64 0, .int .u64 0, .int .u64 0, .int .u64 0, .int .i64 0, .int .i64 0, .int .i64 0, .int .i64 0, .bool false, .int .i64 0, .int .i64 0, .int .i64 0, .int .u64 0, .int .u64 0, .int .u64 0, .int .u64 0, .int .i64 0, .int .i64 0, .int .i64 0, .int .i64 0, .bool false, .int .i64 0, .int .i64 0, .int .i64 0, .int .u64 0, .int .u64 0, .int .u64 0, .int .u64 0, .int .i64 0, .int .i64 0, .int .i64 0, .int .i64 0, .bool false, .int .i64 0, .int .i64 0, .int .i64 0, .int .u64 0, .int .u64 0, .int .u64 0, .int .u64 0] 108) = w0 from hw0'.symm]
      clear hw0 hw0'
      go_wp2_with fail
      refine HI.out.mono ?_
      rintro e w1 ⟨⟨rfl, hgd⟩, hstep⟩
      obtain ⟨F1, hat, hfr, hm⟩ := HAT.out.step hstep
      have hb1 := hm.blk HR.out hnF
      have hst := fun op a next Q => storeZA4 hb1 (encPs_length zs4) op a next Q
      have hat2 := hat.put (o := 0) (vs := encPs zs4) (Nat.le_succ _) (hfr _ (by have := HSZ.out; omega) hnF)
      have hb2 := hb1.put (vs := encPs zs4) rfl
      have HA2 := Lib.hid hat2
      have HB2 := Lib.hid hb2
      clear hat hat2 hb1 hb2 hm hfr hstep
      unfold encItem
      go_wp2_with fail
      refine bodyPost_ret (res_cell_tmp rfl _ _ (w.heap.size + 1) 108 _ _ rfl HB2.out Tryd.underlying108 rfl iszA4) rfl ?_
      exact ⟨⟨rfl, by decide⟩, HA2.out.fin⟩
    | hole =>
      have t1 := ta_hx (.agg #[])
      have t2 := ta_hh
      go_enter Tryd.func51, Tryd.ntmps51
      go_upto_region 1 with fail
      rw [show (w.alloc (.cells (encPtr p).toArray 35)).alloc (.cells #[.int .i64 0, .int .i64 0, .int .i64 0, .int .i64 0, .bool false, .int .i64 0, .int .i64 0, .int .i64 0, .int .u64 0, .int .u64 0, .int .u64 0, .int .u64 0, .int .i64 0, .int .i64 0, .int .i64 0, .int .i64 0, .bool false, .int .i64 0, .int .i64 0, .int .i64 0, .int .u64 0, .int .u64 0, .int .u64 0, .int .u64 0, .int .i64 0, .int .i64 0, .int .i64 0, .int .i64 0, .bool false, .int .i64 0, .int .i64 0, .int .i64 0, .int .u64 0, .int .u64 0, .int .u64 0, .int .u64 0, .int .i64 0, .int .i64 0, .int .i64 0, .int .i64 0, .bool false, .int .i64 0, .int .i64 0, .int .i64 0, .int .u64 0, .int .u64 0, .int .u64 0, .int .u64 0] 108) = w0 from hw0'.symm]
      clear hw0 hw0'
      go_wp2_with fail
      refine HI.out.mono ?_
      rintro e w1 ⟨⟨rfl, hgd⟩, hstep⟩
      obtain ⟨F1, hat, hfr, hm⟩ := HAT.out.step hstep
      have hb1 := hm.blk HR.out hnF
      have hb3 := hb1.alloc (.cells #[] 83)
      have hst := fun op a next Q => storeZA4 hb3 (encPs_length zs4) op a next Q
      have hat2 := (hat.below ((Below.refl _ _).alloc (Nat.le_refl _) (.cells #[] 83))).put (o := 0) (vs := encPs zs4) (Nat.le_succ _) (hfr _ (by have := HSZ.out; omega) hnF)
      have hb2 := hb3.put (vs := encPs zs4) rfl
      have HA2 := Lib.hid hat2
      have HB2 := Lib.hid hb2
      clear hat hat2 hb1 hb2 hm hfr hstep hb3
      unfold encItem
      go_wp2_with fail
      refine bodyPost_ret (res_cell_tmp rfl _ _ (w.heap.size + 1) 108 _ _ rfl HB2.out Tryd.underlying108 rfl iszA4) rfl ?_
      exact ⟨⟨rfl, rfl, zs4_wf⟩, HA2.out.fin⟩
    | index l =>
      have t1 := ta_ix l
      go_enter Tryd.func51, Tryd.ntmps51
      go_upto_region 1 with fail
      rw [show (w.alloc (.cells (encPtr p).toArray 35)).alloc (.cells #[.int .i64 0, .int .i64 0, .int .i64 0, .int .i64 0, .bool false, .int .i64 0, .int .i64 0, .int .i64 0, .int .u64 0, .int .u64 0, .int .u64 0, .int .u64 0, .int .i64 0, .int .i64 0, .int .i64 0, .int .i64 0, .bool false, .int .i64 0, .int .i64 0, .int .i64 0, .int .u64 0, .int .u64 0, .int .u64 0, .int .u64 0, .int .i64 0, .int .i64 0, .int .i64 0, .int .i64 0, .bool false, .int .i64 0, .int .i64 0, .int .i64 0, .int .u64 0, .int .u64 0, .int .u64 0, .int .u64 0, .int .i64 0, .int .i64 0, .int .i64 0, .int .i64 0, .bool false, .int .i64 0, .int .i64 0, .int .i64 0, .int .u64 0, .int .u64 0, .int .u64 0, .int .u64 0] 108) = w0 from hw0'.symm]
      clear hw0 hw0'
      go_wp2_with fail
      refine HI.out.mono ?_
      rintro e w1 ⟨⟨rfl, hl4, hlw⟩, hstep⟩
      obtain ⟨F1, hat, hfr, hm⟩ := HAT.out.step hstep
      have hb1 := hm.blk HR.out hnF
      have hsn := store_newIx l hl4 w1
      have hbx := Blk.new w1 110 (encPs l)
      have hl1 := fun op a next Q => loadW_blk (P := Tryd.prog) (t := 108) hbx Tryd.underlying108 rfl (by rw [encPs_length, hl4]; exact iszA4) op a next Q
      have hb3 := hb1.alloc (.cells (encPs l).toArray 110)
      have hst := fun op a next Q => storeW_part (P := Tryd.prog) (t := 108) (o := 0) (cs := encPs l) hb3 (by rw [encPs_length, encPs_length, hl4]; exact Nat.le_refl 48) (by rw [encPs_length, hl4]; exact iszA4) (encPs_one l) op a next Q
      have hat2 := (hat.below ((Below.refl _ _).alloc (Nat.le_refl _) (.cells (encPs l).toArray 110))).put (o := 0) (vs := encPs l) (Nat.le_succ _) (hfr _ (by have := HSZ.out; omega) hnF)
      have hb2 := hb3.put (vs := encPs l) (by rw [encPs_length, encPs_length, hl4]; rfl)
      have HA2 := Lib.hid hat2
      have HB2 := Lib.hid hb2
      have HL4 := Lib.hid hl4
      clear hat hat2 hb1 hb2 hm hfr hstep hb3 hbx hl4
      unfold encItem
      go_wp2_with fail
      refine bodyPost_ret (res_cell_tmp rfl _ _ (w.heap.size + 1) 108 _ _ rfl HB2.out Tryd.underlying108 rfl (by rw [encPs_length, HL4.out]; exact iszA4)) rfl ?_
      exact ⟨⟨rfl, HL4.out, hlw⟩, HA2.out.fin⟩
end
end Go.Proofs.YtbhofablndjeoaaDoor
