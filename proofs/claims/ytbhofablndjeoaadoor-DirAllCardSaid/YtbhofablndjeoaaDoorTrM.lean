/- The walks of tree.bytes, Read. -/
import Derived.Test.YtbhofablndjeoaaDoorTrL
namespace Go.Proofs.YtbhofablndjeoaaDoor
open Go.RowKit
set_option linter.unusedSimpArgs false
set_option linter.unusedVariables false
attribute [local go_sem ↓] wp_loadPt wp_storePt wp_loadA4 wp_storeA4 wp_storeIx wp_loadNd wp_storeNd

theorem m_data (s : ByteArray) (n : Nat) (w : World) : (method (n + 1) 130 (.agg #[.string s]) "Text").run Tryd.prog w = .ok (63, .agg #[.string s]) w := by kernel_rfl
theorem m_hole (n : Nat) (w : World) : (method (n + 1) 83 (.agg #[]) "Text").run Tryd.prog w = .ok (125, .agg #[]) w := by kernel_rfl
def BytesR : Except Nat Bs → Ending → Prop
  | .ok t, e => e = .returned (.tuple #[.string ⟨t.toArray⟩, .int .i64 0]) ∧ t.length = 256
  | .error n, e => e = .returned (.tuple #[.string ⟨#[]⟩, .int .i64 (n : Nat)]) ∧ n ≠ 0
theorem dataText_len {s : Bs} (h : s.length ≤ 256) : (dataText s).length ≤ 256 := by
  unfold dataText
  rw [if_pos h]
  unfold pad64 zeros
  simp
  omega
section
variable {σ : Type} {S : StF σ} {ty : TypeId} {a : Addr} {C : StoreC S ty a}
set_option maxHeartbeats 2000000 in
set_option maxRecDepth 100000 in
theorem bytes_any {w : World} {s : σ} {F : Nat → Prop} (h : C.Is w s F) (n : NodeT) (hn : n.wf) (i : Nat) (hi : i ≤ 9223372036854775807) (hok : C.Ok (bytesM S n i s).2) :
    Calls Tryd.prog 32 #[.iface ty (.pointer (some a)), .agg (encN n).toArray, .int .i64 (i : Nat)] w fun e w' => BytesR (bytesM S n i s).1 e ∧ C.Step F (bytesM S n i s).2 w w' := by
  obtain ⟨w0, hw0⟩ : ∃ w0, w0 = w.alloc (.cells (encN n).toArray 37) := ⟨_, rfl⟩
  have hb : Blk w0 w.heap.size 37 (encN n) := by rw [hw0]; exact Blk.new w _ _
  have hbel : Below w.heap.size w w0 := by rw [hw0]; exact (Below.refl _ _).alloc (Nat.le_refl _) _
  have HAT : Hid (C.At F s w w0 F) := Lib.hid ((StoreC.At.start h).below hbel)
  have hld := fun op a next Q => loadW_blk (P := Tryd.prog) hb Tryd.underlying37 rfl iszNd op a next Q
  clear hb hbel
  have hB := back_first (fun x => back_ret (Ok := C.Ok) (σ := σ) (itemText x ++ zeros (256 - (itemText x).length))) hok
  have HBL := Lib.hid (Block_any HAT.out.1 n hn i hi hB)
  have hm : bytesM S n i = M.bind (blockM S n i) fun x => M.ret (itemText x ++ zeros (256 - (itemText x).length)) := rfl
  rw [hm]
  clear hm hB hok
  rcases hbk : blockM S n i s with ⟨r | x, s1⟩
  · rw [M.bind_err hbk]
    rw [hbk] at HBL
    clear hbk
    go_enter Tryd.func32, Tryd.ntmps32
    go_upto_region 1 with fail
    rw [← hw0]
    clear hw0
    go_wp2_with fail
    refine HBL.out.mono ?_
    rintro e w2 ⟨⟨rfl, hr0⟩, hstep⟩
    have hr1 : ((r : Int) != 0) = true := by simpa using hr0
    obtain ⟨F2, hat, hfr, hm⟩ := HAT.out.step hstep
    have HA2 := Lib.hid hat
    clear hat hfr hm hstep
    go_wp2_with fail
    go_ret2
    exact ⟨⟨rfl, hr0⟩, HA2.out.fin⟩
  · rw [M.bind_ok hbk]
    rw [hbk] at HBL
    clear hbk
    cases x with
    | index l =>
      go_enter Tryd.func32, Tryd.ntmps32
      go_upto_region 1 with fail
      rw [← hw0]
      clear hw0
      go_wp2_with fail
      refine HBL.out.mono ?_
      rintro e w2 ⟨⟨rfl, _, hni⟩, hstep⟩
      exact absurd rfl (hni l)
    | data t =>
      have hme := m_data ⟨t.toArray⟩
      go_enter Tryd.func32, Tryd.ntmps32
      go_upto_region 1 with fail
      rw [← hw0]
      clear hw0
      go_wp2_with fail
      refine HBL.out.mono ?_
      rintro e w2 ⟨⟨rfl, hgd, _⟩, hstep⟩
      obtain ⟨F2, hat, hfr, hm⟩ := HAT.out.step hstep
      have HA2 := Lib.hid hat
      clear hat hfr hm hstep
      unfold encItem
      go_wp2_with fail
      refine (Data_Text_any t w2 (by have := hgd.1; omega)).mono ?_
      rintro e w3 ⟨rfl, hb3⟩
      have HA3 := Lib.hid (HA2.out.below hb3)
      have hlen := dataText_len hgd.1
      obtain ⟨z, hz⟩ : ∃ z, z = dataText t := ⟨_, rfl⟩
      rw [← hz] at hlen ⊢
      have HZ := Lib.hid hz
      have hrep : (256 : Int) - (z.length : Int) = ((256 - z.length : Nat) : Int) := by omega
      have HREP := Lib.hid hrep
      have hbd : ¬ 9223372036854775807 < z.length + (zeros (256 - z.length)).length := by simp [zeros]; omega
      have hl256 : (z ++ zeros (256 - z.length)).length = 256 := by simp [zeros]; omega
      have HL := Lib.hid hl256
      clear hz hrep hb3 hgd hl256
      go_wp2_with fail
      rw [HREP.out]
      refine (repeat0_any (256 - z.length) w3 (by omega)).mono ?_
      rintro e w4 ⟨rfl, hb4⟩
      have HA4 := Lib.hid (HA3.out.below hb4)
      go_wp2_with fail
      go_ret2
      refine ⟨⟨?_, ?_⟩, HA4.out.fin⟩
      · show _ = Ending.returned (.tuple #[.string ⟨(dataText t ++ zeros (256 - (dataText t).length)).toArray⟩, .int .i64 0])
        rw [← HZ.out, ← str_append]
        rfl
      · show (dataText t ++ zeros (256 - (dataText t).length)).length = 256
        rw [← HZ.out]
        exact HL.out
    | hole =>
      have hme := m_hole
      go_enter Tryd.func32, Tryd.ntmps32
      go_upto_region 1 with fail
      rw [← hw0]
      clear hw0
      go_wp2_with fail
      refine HBL.out.mono ?_
      rintro e w2 ⟨⟨rfl, hgd, _⟩, hstep⟩
      obtain ⟨F2, hat, hfr, hm⟩ := HAT.out.step hstep
      have HA2 := Lib.hid hat
      clear hat hfr hm hstep
      unfold encItem
      go_wp2_with fail
      refine (Hole_Text_any w2).mono ?_
      rintro e w3 ⟨rfl, hb3⟩
      have HA3 := Lib.hid (HA2.out.below hb3)
      clear hb3 hgd
      go_wp2_with fail
      refine (repeat0_any 256 w3 (by omega)).mono ?_
      rintro e w4 ⟨rfl, hb4⟩
      have HA4 := Lib.hid (HA3.out.below hb4)
      have hbd : ¬ 9223372036854775807 < (zeros 256).length := by simp [zeros]
      go_wp2_with fail
      go_ret2
      refine ⟨⟨?_, rfl⟩, HA4.out.fin⟩
      show _ = Ending.returned (.tuple #[.string ⟨(([] : Bs) ++ zeros 256).toArray⟩, .int .i64 0])
      rw [← str_append]
      rfl
end
end Go.Proofs.YtbhofablndjeoaaDoor
