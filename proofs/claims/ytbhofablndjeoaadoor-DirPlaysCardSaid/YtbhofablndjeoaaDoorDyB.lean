/- The law DirPlays. -/
import Derived.Test.YtbhofablndjeoaaDoorDyA
import Derived.Deep.DeepCutAuto
namespace Go.Proofs.YtbhofablndjeoaaDoor
open Go.RowKit
set_option linter.unusedSimpArgs false
set_option linter.unusedVariables false
theorem iszX : (Tryd.prog.info? 70).map (·.size) = some 448 := by kernel_rfl
theorem wp_loadX {dst : Option Tmp} {x : Operand} {ty : TypeId} {pos : String} {after : Array Edge} {guard : Option (Nat × Bool)} {a : Act} {w : World} {next : Act → World → Prop} {Q : Exit → Act → World → Prop} :
    Oper.wp Tryd.prog ⟨dst, .load 70 x, ty, pos, after, guard⟩ a w next Q = LoadW Tryd.prog ⟨dst, .load 70 x, ty, pos, after, guard⟩ 70 (a.eval x) a w next Q := rfl
attribute [local go_sem ↓] wp_loadPt wp_storePt wp_loadNd wp_storeNd wp_binNd wp_loadX
theorem range_mid {w : World} {b o : Nat} {cs : List Value} {P Q : Prop} (h : P ∧ w.rangeAt b o cs ∧ Q) : w.rangeAt b o cs := h.2.1
instance (n : NodeT) : Decidable (NdMay n) := by unfold NdMay; infer_instance
theorem LdR.upd {mb gX : Nat} {w wr : World} {st : MemT} {F : Nat → Prop} {bs : List (Nat × Nat × List Value)} {rs : List (Value × List Nat)} {D : Nat → Option NodeT} (h : LdR mb w wr st F ((gX, 70, encX D) :: bs) rs) (hg : w.heap.size ≤ gX) (hn : ∀ b ∈ bs, b.1 ≠ gX) {id : Nat} (hid : id < 32) (x : Option NodeT) :
    LdR mb w ((wr.setCell ⟨gX, id, none⟩ (.bool x.isSome)).setCells gX (32 + id * 13) (encN (dRes x).1)) st F ((gX, 70, encX (dUpd D id x)) :: bs) rs := by
  have hb := h.g.kb (gX, 70, encX D) (by simp)
  have h1 : LdR mb w (wr.setCell ⟨gX, id, none⟩ (.bool x.isSome)) st F ((gX, 70, (encX D).set id (.bool x.isSome)) :: bs) rs := h.put (o := id) (vs := [.bool x.isSome]) hg hn (hb.setCell id _) (by decide)
  have hb1 := h1.g.kb (gX, 70, (encX D).set id (.bool x.isSome)) (by simp)
  refine h1.put hg hn ?_ (by decide)
  rw [← encX_upd D hid x]
  exact hb1.setCells (encN (dRes x).1) (32 + id * 13) (by show 32 + id * 13 + 13 ≤ _; rw [List.length_set, encX_len]; omega)
/-- where the law stands -/
structure PlI (mb gD gX : Nat) (w wr : World) (k : Nat) (d : NodeT) (D : Nat → Option NodeT) (st : MemT) (F : Nat → Prop) : Prop where
  s : LdR mb w wr st F [(gD, 37, encN d), (gX, 70, encX D)] []
  rd : Rd k st
  di : DI st.L d D
set_option maxRecDepth 100000 in
theorem zeroX : Tryd.zeroCells70 = (encX fun _ => none).toArray := by rfl
set_option maxHeartbeats 8000000 in
set_option maxRecDepth 100000 in
theorem plays_any (a : Option Addr) (len cap : Nat) (zs : List ActD) (w : World) (h : DSl w a len cap zs) :
    Calls Tryd.prog 8 #[.slice a len cap] w fun e w' => e = .returned (.bool true) ∧ Below w.heap.size w w' := by
  have HAW := Lib.hid awake16_any
  have hmx := h.mx
  by_cases hlen : 40 < len
  · have q1 : (40 : Int) < (len : Int) := by omega
    go_enter Tryd.func8, Tryd.ntmps8
    go_wp2_with fail
    refine (HAW.out _).mono ?_
    rintro e w1 ⟨rfl, hb1⟩
    have HB1 := Lib.hid hb1
    clear hb1
    go_wp2_with fail
    refine (HAW.out _).mono ?_
    rintro e w2 ⟨rfl, hb2⟩
    have HFIN := Lib.hid (HB1.out.trans (hb2.mono HB1.out.size))
    clear hb2
    go_wp2_with fail
    go_ret
    exact ⟨rfl, HFIN.out⟩
  · have q1 : ¬ (40 : Int) < (len : Int) := by omega
    have q1' : (len : Int) ≤ 40 := by omega
    go_enter Tryd.func8, Tryd.ntmps8
    go_wp2_with fail
    refine (HAW.out _).mono ?_
    rintro e w1 ⟨rfl, hb1⟩
    have HB1 := Lib.hid hb1
    clear hb1
    go_upto_region 6 with fail
    have hst := fun op a next Q => store_newZNd (w1.alloc (.cells mem0.toArray 27)) op a next Q
    obtain ⟨mb, hmb⟩ : ∃ mb, mb = w1.heap.size := ⟨_, rfl⟩
    obtain ⟨gD, hgD⟩ : ∃ g, g = w1.heap.size + 1 := ⟨_, rfl⟩
    obtain ⟨wm, hwm⟩ : ∃ wm, wm = w1.alloc (.cells mem0.toArray 27) := ⟨_, rfl⟩
    obtain ⟨wB, hwB⟩ : ∃ wB, wB = wm.alloc (.cells (encN nD).toArray 37) := ⟨_, rfl⟩
    have hsm : wm.heap.size = w1.heap.size + 1 := by rw [hwm]; simp
    have hL0 : LdR mb wm wB s0 (fun x => x = mb) [(gD, 37, encN nD)] [] := by
      have hm0 : memIs mb wm s0 (fun k => k = mb) := by rw [hwm]; exact mem_new hmb.symm
      have h0 : LdG mb wm wm s0 (fun x => x = mb) [] := ⟨StoreC.At.start (C := memC mb) hm0, fun b hb => (by cases hb), fun b hb => (by cases hb)⟩
      have h1 := (h0.new 37 (encN nD)).r
      rw [← hwB, hsm, ← hgD] at h1
      exact h1
    have HL0 := Lib.hid hL0
    have HOLD : Hid (Below w.heap.size w wm) := Lib.hid (by rw [hwm]; exact HB1.out.alloc HB1.out.size _)
    have HMB : Hid (w.heap.size ≤ mb) := Lib.hid (by rw [hmb]; exact HB1.out.size)
    have HGD : Hid (wm.heap.size ≤ gD ∧ gD < wB.heap.size) := Lib.hid ⟨by omega, by rw [hwB, World.size_alloc]; omega⟩
    have HZ := Lib.hid (fun (hn : 0 < len) => h.cells hn)
    rw [show w1.alloc (.cells #[.slice none 0 0, .int .i64 0, .int .i64 0] 27) = wm from hwm.symm]
    rw [← hwm] at hst
    rw [← hwB, hsm] at hst
    rw [hst, ← hgD, ← hmb]
    clear hmb hgD hwm hwB hsm hst hL0
    go_upto_region 6 with fail
    rw [zeroX]
    have HX0 : Hid (LdR mb wm (wB.alloc (.cells (encX fun _ => none).toArray 70)) s0 (fun x => x = mb) [(wB.heap.size, 70, encX fun _ => none), (gD, 37, encN nD)] []) := Lib.hid (HL0.out.new _ _)
    obtain ⟨gX, hgX⟩ : ∃ g, g = wB.heap.size := ⟨_, rfl⟩
    obtain ⟨wX, hwX⟩ : ∃ v, v = wB.alloc (.cells (encX fun _ => none).toArray 70) := ⟨_, rfl⟩
    rw [← hwX, ← hgX] at HX0 ⊢
    have HGX : Hid (wm.heap.size ≤ gD ∧ wm.heap.size ≤ gX ∧ gD ≠ gX) := Lib.hid ⟨HGD.out.1, by rw [hgX]; have := HGD.out; omega, by rw [hgX]; have := HGD.out; omega⟩
    clear hgX hwX HL0
    have HP : Hid (PlI mb gD gX wm wX 0 nD (fun _ => none) s0 (fun x => x = mb)) := Lib.hid ⟨HX0.out.sub _ (by simp), Rd.start, DI.start _⟩
    clear HX0
    go_wp2_with fail
    go_loopw [6] (fun vi wr => ∃ (i : Nat) (d : NodeT) (D : Nat → Option NodeT) (st : MemT) (F : Nat → Prop), vi = .int .i64 i ∧ i ≤ len ∧ Hid (PlI mb gD gX wm wr (3 * i) d D st F)) (fun vi _ => len - (intOf vi).toNat)
    case atStart => exact ⟨0, nD, _, s0, _, rfl, Nat.zero_le _, HP⟩
    case round =>
      obtain ⟨i, d, D, st, F, rfl, hil, HLI⟩ := hrel
      clear HP
      by_cases hlt : i < len
      · have q3 : (i : Int) < (len : Int) := by omega
        have q4 : 0 ≤ (i : Int) := by omega
        have hi40 : i < 40 := by omega
        obtain ⟨b, off0, rfl, HZ2⟩ : ∃ b off, a = some ⟨b, off, none⟩ ∧ Hid (∀ W, Below w.heap.size w W → ∀ k, k < len → (zs.getD k aD6).ok ∧ W.rangeAt b (off + k * 15) (encD (zs.getD k aD6))) := by
          obtain ⟨b, off, e, _, h2⟩ := HZ.out (by omega)
          exact ⟨b, off, e, Lib.hid h2⟩
        obtain ⟨id, hid⟩ : ∃ id, id = (zs.getD i aD6).id := ⟨_, rfl⟩
        obtain ⟨n, hnn⟩ : ∃ n, n = (zs.getD i aD6).n := ⟨_, rfl⟩
        obtain ⟨dd, hdd⟩ : ∃ dd, dd = (zs.getD i aD6).d.toNat := ⟨_, rfl⟩
        have HNW : Hid n.wf := Lib.hid (by rw [hnn]; exact (HZ2.out wm HOLD.out i hlt).1.n)
        have HNR : Hid (∀ W, Below w.heap.size w W → W.rangeAt b (off0 + i * 15 + 2) (encN n)) := Lib.hid (fun W hW => by rw [hnn]; exact sd_n (HZ2.out W hW i hlt))
        have hold0 := HLI.out.s.old HOLD.out HMB.out
        have c1 : wr.cell? ⟨b, off0 + i * 15 + 1, none⟩ = some (.int .i64 id) := by rw [hid]; exact (HZ2.out wr hold0 i hlt).2 1 _ rfl
        have c0 : wr.cell? ⟨b, off0 + i * 15, none⟩ = some (.int .u8 (dd : Int)) := by rw [hdd]; exact (HZ2.out wr hold0 i hlt).2 0 _ rfl
        clear hid hnn hdd HZ2 HZ
        go_upto_region 10 with fail
        go_cut [8] (fun v8 wx => v8 = .bool (decide (idOk id)) ∧ wx = wr)
        case first =>
          by_cases a1 : 0 ≤ id
          · by_cases a2 : id < 32
            · go_wp2_with fail
              go_meet
              exact ⟨by unfold idOk; simp [a1, a2], rfl⟩
            · go_wp2_with fail
              go_meet
              exact ⟨by unfold idOk; simp [a1, a2], rfl⟩
          · go_wp2_with fail
            go_meet
            exact ⟨by rw [decide_eq_false (show ¬ idOk id by unfold idOk; omega)], rfl⟩
        obtain ⟨rfl, hwc⟩ := hcut
        subst hwc
        by_cases hdo : dd % 4 = 2
        · have e4 : (dd : Int) % 4 = 2 := by omega
          by_cases hin : idOk id
          · obtain ⟨m, rfl⟩ : ∃ m : Nat, id = (m : Int) := ⟨id.toNat, by have := hin.1; omega⟩
            have hm : m < 32 := by have := hin.2; omega
            have e5 : decide (idOk (m : Int)) = true := by simp [hin]
            rw [e5]
            have HIN := Lib.hid hin
            have hhx := (HLI.out.s.g.kb (gX, 70, encX D) (by simp)).cell m
            rw [encX_has D hm] at hhx
            cases hD : D m with
            | none =>
              rw [hD] at hhx
              have cX : wc.cell? ⟨gX, m, none⟩ = some (.bool false) := hhx
              clear hhx
              as_aux_lemma =>
                obtain ⟨s2, e2, hr2, hl2⟩ : ∃ s2, ddropM memF d (m : Int) st = (.error 7, s2) ∧ Rd (3 * i + 2) s2 ∧ s2.L = st.L := by
                  obtain ⟨r, s2, e, hr, _, hc⟩ := rd_ddrop HLI.out.rd (by omega) HLI.out.di (m : Int)
                  rw [show ((m : Int)).toNat = m by omega] at hc
                  rcases hc with ⟨h, _⟩ | ⟨_, _, rfl, hl⟩ | ⟨_, ⟨n, h⟩, _⟩
                  · exact absurd hin h
                  · exact ⟨s2, e, hr, hl⟩
                  · rw [hD] at h; cases h
                have HE2 := Lib.hid e2
                have HTD : Hid (Rd (3 * i + 2) s2 ∧ DI s2.L d D) := Lib.hid ⟨hr2, by rw [hl2]; exact HLI.out.di⟩
                have HDW : Hid d.wf := Lib.hid (HLI.out.di.nw.wf' (by have := HLI.out.rd.l; omega))
                clear e2 hr2 hl2
                have HC := Lib.hid (ddrop_any (C := memC mb) HLI.out.s.g.at_.1 d HDW.out (m : Int) (by rw [HE2.out]; exact HTD.out.1.ok (by omega)))
                rw [HE2.out] at HC
                have hl1 := fun op a next Q => loadW_blk (P := Tryd.prog) (HLI.out.s.g.kb (gD, 37, encN d) (by simp)) Tryd.underlying37 rfl iszNd op a next Q
                try dsimp only at hl1
                go_wp2_with fail
                refine HC.out.mono ?_
                rintro e w5 ⟨hpr, hstep⟩
                have hpe := NdR.val hpr
                subst hpe
                obtain ⟨F5, hs, _, _⟩ := HLI.out.s.step hstep
                have H5 := Lib.hid (hs.new 37 (encN (ndV (.error 7))))
                have hst := fun op a next Q => store_newNd (ndV (.error 7)) w5 op a next Q
                obtain ⟨g5, hg⟩ : ∃ g, g = w5.heap.size := ⟨_, rfl⟩
                obtain ⟨w6, hv⟩ : ∃ v, v = w5.alloc (.cells (encN (ndV (.error 7))).toArray 37) := ⟨_, rfl⟩
                rw [← hv, ← hg] at H5
                clear hstep hs HC hl1 hpr
                go_upto_region 29 with fail
                rw [← hv, ← hg]
                clear hst hv hg
                have HT : Hid (LdR mb wm w6 s2 F5 [(gD, 37, encN d), (gX, 70, encX D)] []) := Lib.hid (H5.out.sub _ (by simp))
                clear H5
                unfold errV
                obtain ⟨s9, e9, hl9, hr9⟩ := rd_dlist HTD.out.1 HTD.out.2
                have HE9 := Lib.hid e9
                have HR9 := Lib.hid hr9
                have HD9 : Hid (DI s9.L d D) := Lib.hid (by rw [hl9]; exact HTD.out.2)
                have HWF : Hid (d.wf ∧ (0 ≤ d.size ∧ d.size ≤ 1000000)) := Lib.hid ⟨HTD.out.2.nw.wf' (by have := HTD.out.1.l; omega), ⟨HTD.out.2.nw.s0, by have := HTD.out.2.le; omega⟩⟩
                clear e9 hl9 hr9
                have HC := Lib.hid (dlist_any (C := memC mb) HT.out.g.at_.1 d HWF.out.1 HWF.out.2 (by rw [HE9.out]; exact HR9.out.ok (by omega)))
                rw [HE9.out] at HC
                have hl1 := fun op a next Q => loadW_blk (P := Tryd.prog) (HT.out.g.kb (gD, 37, encN d) (by simp)) Tryd.underlying37 rfl iszNd op a next Q
                try dsimp only at hl1
                go_wp2_with fail
                refine HC.out.mono ?_
                rintro e w8 ⟨v1, F8, rfl, hls⟩
                have H8 := Lib.hid (HT.out.list hls)
                obtain ⟨xo, xc, rfl, hX⟩ := H8.out.rsl (List.mem_cons_self ..)
                have hlX := fun op a next Q => loadW_blk (P := Tryd.prog) (H8.out.g.kb (gX, 70, encX D) (by simp)) Tryd.underlying70 rfl iszX op a next Q
                try dsimp only at hlX
                have HCL := Lib.hid (List16_any D w8)
                have HXS := Lib.hid hX
                clear hls HC hl1 hX
                go_wp2_with fail
                refine HCL.out.mono ?_
                rintro e w9 ⟨yo, yc, rfl, hY, hb⟩
                have HC2 := Lib.hid (Equal_any (dLst D 32) (dLst D 32) _ _ _ _ w9 (HXS.out.below hb) hY)
                have H9 := Lib.hid (H8.out.below hb)
                clear hb hY HCL hlX HXS
                go_wp2_with fail
                refine HC2.out.mono ?_
                rintro e wE ⟨rfl, hbE⟩
                have HF := Lib.hid (H9.out.below hbE)
                clear hbE HC2
                rw [show decide True = true from rfl]
                go_wp2_with fail
                go_roundw
                case rel => exact ⟨i + 1, d, D, s9, F8, by go_num, by omega, Lib.hid ⟨HF.out.g.r, HR9.out.mono (by omega), HD9.out⟩⟩
                case measure => simp [intOf]; omega
            | some nd =>
              rw [hD] at hhx
              have cX : wc.cell? ⟨gX, m, none⟩ = some (.bool true) := hhx
              clear hhx
              as_aux_lemma =>
                obtain ⟨q, s2, e2, hr2, hd2⟩ : ∃ q s2, ddropM memF d (m : Int) st = (.ok q, s2) ∧ Rd (3 * i + 2) s2 ∧ DI s2.L q (dUpd D m none) := by
                  obtain ⟨r, s2, e, hr, _, hc⟩ := rd_ddrop HLI.out.rd (by omega) HLI.out.di (m : Int)
                  rw [show ((m : Int)).toNat = m by omega] at hc
                  rcases hc with ⟨h, _⟩ | ⟨_, h, _⟩ | ⟨_, _, q, rfl, hd, _⟩
                  · exact absurd hin h
                  · rw [hD] at h; cases h
                  · exact ⟨q, s2, e, hr, hd⟩
                have HE2 := Lib.hid e2
                have HTD : Hid (Rd (3 * i + 2) s2 ∧ DI s2.L q (dUpd D m none)) := Lib.hid ⟨hr2, hd2⟩
                have HDW : Hid d.wf := Lib.hid (HLI.out.di.nw.wf' (by have := HLI.out.rd.l; omega))
                clear e2 hr2 hd2
                have HC := Lib.hid (ddrop_any (C := memC mb) HLI.out.s.g.at_.1 d HDW.out (m : Int) (by rw [HE2.out]; exact HTD.out.1.ok (by omega)))
                rw [HE2.out] at HC
                have hl1 := fun op a next Q => loadW_blk (P := Tryd.prog) (HLI.out.s.g.kb (gD, 37, encN d) (by simp)) Tryd.underlying37 rfl iszNd op a next Q
                try dsimp only at hl1
                go_wp2_with fail
                refine HC.out.mono ?_
                rintro e w5 ⟨hpr, hstep⟩
                have hpe := NdR.val hpr
                subst hpe
                obtain ⟨F5, hs, _, _⟩ := HLI.out.s.step hstep
                have H5 := Lib.hid (hs.new 37 (encN (ndV (.ok q))))
                have hst := fun op a next Q => store_newNd (ndV (.ok q)) w5 op a next Q
                obtain ⟨g5, hg⟩ : ∃ g, g = w5.heap.size := ⟨_, rfl⟩
                obtain ⟨w6, hv⟩ : ∃ v, v = w5.alloc (.cells (encN (ndV (.ok q))).toArray 37) := ⟨_, rfl⟩
                rw [← hv, ← hg] at H5
                clear hstep hs HC hl1 hpr
                go_upto_region 29 with fail
                rw [← hv, ← hg]
                clear hst hv hg
                have HL1 := Lib.hid ((H5.out.sub [(gD, 37, encN d), (gX, 70, encX D)] (by simp)).put (o := 0) (vs := encN q) (ds := encN q) HGX.out.1 (by simp only [List.mem_cons, List.not_mem_nil, or_false]; rintro b rfl; exact HGX.out.2.2.symm) ((H5.out.g.kb (gD, 37, encN d) (by simp)).put rfl) (by decide))
                have hl := fun op a next Q => loadW_blk (P := Tryd.prog) (H5.out.g.kb (g5, 37, encN (ndV (.ok q))) (by simp)) Tryd.underlying37 rfl iszNd op a next Q
                have hst := fun op a next Q => storeW_part (P := Tryd.prog) (t := 37) (o := 0) (cs := encN q) (H5.out.g.kb (gD, 37, encN d) (by simp)) (Nat.le_refl 13) iszNd (encN_ones _) op a next Q
                obtain ⟨w7, hv7⟩ : ∃ v, v = w6.setCells gD 0 (encN q) := ⟨_, rfl⟩
                rw [← hv7] at HL1 hst
                clear hv7
                have HBX : Hid (Blk w7 gX 70 (encX D)) := Lib.hid (HL1.out.g.kb (gX, 70, encX D) (by simp))
                have cX7 : w7.cell? ⟨gX, m, none⟩ = some (.bool (D m).isSome) := by rw [HBX.out.cell, encX_has D hm]
                have fX7 : w7.frozen? ⟨gX, m, none⟩ = false := HBX.out.frozen m
                obtain ⟨wN, hwN⟩ : ∃ v, v = (w7.setCell ⟨gX, m, none⟩ (.bool false)).setCells gX (32 + m * 13) (encN nD) := ⟨_, rfl⟩
                have hstN : ∀ op a next Q, StoreW Tryd.prog op 37 (.pointer (some ⟨gX, 32 + m * 13, none⟩)) (.agg #[.int .i64 0, .int .i64 0, .int .i64 0, .int .i64 0, .int .i64 0, .bool false, .int .i64 0, .int .i64 0, .int .i64 0, .int .u64 0, .int .u64 0, .int .u64 0, .int .u64 0]) a (w7.setCell ⟨gX, m, none⟩ (.bool false)) next Q = next (a.put op.dst undef) wN := fun op a next Q => by
                  rw [hwN]; exact storeW_part (P := Tryd.prog) (t := 37) (o := 32 + m * 13) (cs := encN nD) (HBX.out.setCell m (.bool false)) (by rw [List.length_set, encX_len]; show 32 + m * 13 + 13 ≤ 448; omega) iszNd (encN_ones _) op a next Q
                have HUP := Lib.hid ((HL1.out.sub [(gX, 70, encX D), (gD, 37, encN q)] (by simp)).upd HGX.out.2.1 (by simp only [List.mem_cons, List.not_mem_nil, or_false]; rintro b rfl; exact HGX.out.2.2) hm (none))
                rw [show (w7.setCell ⟨gX, m, none⟩ (.bool (none : Option NodeT).isSome)).setCells gX (32 + m * 13) (encN (dRes (none)).1) = wN from hwN.symm] at HUP
                clear hwN
                unfold errV
                unfold ndV at hl
                go_upto_region 39 with fail
                have HT : Hid (LdR mb wm wN s2 F5 [(gD, 37, encN q), (gX, 70, encX (dUpd D m none))] []) := Lib.hid (HUP.out.sub _ (by simp))
                clear H5 HL1 HUP hl hst hstN cX7 fX7
                obtain ⟨s9, e9, hl9, hr9⟩ := rd_dlist HTD.out.1 HTD.out.2
                have HE9 := Lib.hid e9
                have HR9 := Lib.hid hr9
                have HD9 : Hid (DI s9.L q (dUpd D m none)) := Lib.hid (by rw [hl9]; exact HTD.out.2)
                have HWF : Hid (q.wf ∧ (0 ≤ q.size ∧ q.size ≤ 1000000)) := Lib.hid ⟨HTD.out.2.nw.wf' (by have := HTD.out.1.l; omega), ⟨HTD.out.2.nw.s0, by have := HTD.out.2.le; omega⟩⟩
                clear e9 hl9 hr9
                have HC := Lib.hid (dlist_any (C := memC mb) HT.out.g.at_.1 q HWF.out.1 HWF.out.2 (by rw [HE9.out]; exact HR9.out.ok (by omega)))
                rw [HE9.out] at HC
                have hl1 := fun op a next Q => loadW_blk (P := Tryd.prog) (HT.out.g.kb (gD, 37, encN q) (by simp)) Tryd.underlying37 rfl iszNd op a next Q
                try dsimp only at hl1
                go_wp2_with fail
                refine HC.out.mono ?_
                rintro e w8 ⟨v1, F8, rfl, hls⟩
                have H8 := Lib.hid (HT.out.list hls)
                obtain ⟨xo, xc, rfl, hX⟩ := H8.out.rsl (List.mem_cons_self ..)
                have hlX := fun op a next Q => loadW_blk (P := Tryd.prog) (H8.out.g.kb (gX, 70, encX (dUpd D m none)) (by simp)) Tryd.underlying70 rfl iszX op a next Q
                try dsimp only at hlX
                have HCL := Lib.hid (List16_any (dUpd D m none) w8)
                have HXS := Lib.hid hX
                clear hls HC hl1 hX
                go_wp2_with fail
                refine HCL.out.mono ?_
                rintro e w9 ⟨yo, yc, rfl, hY, hb⟩
                have HC2 := Lib.hid (Equal_any (dLst (dUpd D m none) 32) (dLst (dUpd D m none) 32) _ _ _ _ w9 (HXS.out.below hb) hY)
                have H9 := Lib.hid (H8.out.below hb)
                clear hb hY HCL hlX HXS
                go_wp2_with fail
                refine HC2.out.mono ?_
                rintro e wE ⟨rfl, hbE⟩
                have HF := Lib.hid (H9.out.below hbE)
                clear hbE HC2
                rw [show decide True = true from rfl]
                go_wp2_with fail
                go_roundw
                case rel => exact ⟨i + 1, q, (dUpd D m none), s9, F8, by go_num, by omega, Lib.hid ⟨HF.out.g.r, HR9.out.mono (by omega), HD9.out⟩⟩
                case measure => simp [intOf]; omega
          · have e5 : decide (idOk id) = false := by simp [hin]
            rw [e5]
            as_aux_lemma =>
              obtain ⟨s2, e2, hr2, hl2⟩ : ∃ s2, ddropM memF d id st = (.error 1, s2) ∧ Rd (3 * i + 2) s2 ∧ s2.L = st.L := by
                obtain ⟨r, s2, e, hr, _, hc⟩ := rd_ddrop HLI.out.rd (by omega) HLI.out.di id
                rcases hc with ⟨_, rfl, hl⟩ | ⟨h, _⟩ | ⟨h, _⟩
                · exact ⟨s2, e, hr, hl⟩
                · exact absurd h hin
                · exact absurd h hin
              have HE2 := Lib.hid e2
              have HTD : Hid (Rd (3 * i + 2) s2 ∧ DI s2.L d D) := Lib.hid ⟨hr2, by rw [hl2]; exact HLI.out.di⟩
              have HDW : Hid d.wf := Lib.hid (HLI.out.di.nw.wf' (by have := HLI.out.rd.l; omega))
              clear e2 hr2 hl2
              have HC := Lib.hid (ddrop_any (C := memC mb) HLI.out.s.g.at_.1 d HDW.out id (by rw [HE2.out]; exact HTD.out.1.ok (by omega)))
              rw [HE2.out] at HC
              have hl1 := fun op a next Q => loadW_blk (P := Tryd.prog) (HLI.out.s.g.kb (gD, 37, encN d) (by simp)) Tryd.underlying37 rfl iszNd op a next Q
              try dsimp only at hl1
              go_wp2_with fail
              refine HC.out.mono ?_
              rintro e w5 ⟨hpr, hstep⟩
              have hpe := NdR.val hpr
              subst hpe
              obtain ⟨F5, hs, _, _⟩ := HLI.out.s.step hstep
              have H5 := Lib.hid (hs.new 37 (encN (ndV (.error 1))))
              have hst := fun op a next Q => store_newNd (ndV (.error 1)) w5 op a next Q
              obtain ⟨g5, hg⟩ : ∃ g, g = w5.heap.size := ⟨_, rfl⟩
              obtain ⟨w6, hv⟩ : ∃ v, v = w5.alloc (.cells (encN (ndV (.error 1))).toArray 37) := ⟨_, rfl⟩
              rw [← hv, ← hg] at H5
              clear hstep hs HC hl1 hpr
              go_upto_region 29 with fail
              rw [← hv, ← hg]
              clear hst hv hg
              have HT : Hid (LdR mb wm w6 s2 F5 [(gD, 37, encN d), (gX, 70, encX D)] []) := Lib.hid (H5.out.sub _ (by simp))
              clear H5
              unfold errV
              obtain ⟨s9, e9, hl9, hr9⟩ := rd_dlist HTD.out.1 HTD.out.2
              have HE9 := Lib.hid e9
              have HR9 := Lib.hid hr9
              have HD9 : Hid (DI s9.L d D) := Lib.hid (by rw [hl9]; exact HTD.out.2)
              have HWF : Hid (d.wf ∧ (0 ≤ d.size ∧ d.size ≤ 1000000)) := Lib.hid ⟨HTD.out.2.nw.wf' (by have := HTD.out.1.l; omega), ⟨HTD.out.2.nw.s0, by have := HTD.out.2.le; omega⟩⟩
              clear e9 hl9 hr9
              have HC := Lib.hid (dlist_any (C := memC mb) HT.out.g.at_.1 d HWF.out.1 HWF.out.2 (by rw [HE9.out]; exact HR9.out.ok (by omega)))
              rw [HE9.out] at HC
              have hl1 := fun op a next Q => loadW_blk (P := Tryd.prog) (HT.out.g.kb (gD, 37, encN d) (by simp)) Tryd.underlying37 rfl iszNd op a next Q
              try dsimp only at hl1
              go_wp2_with fail
              refine HC.out.mono ?_
              rintro e w8 ⟨v1, F8, rfl, hls⟩
              have H8 := Lib.hid (HT.out.list hls)
              obtain ⟨xo, xc, rfl, hX⟩ := H8.out.rsl (List.mem_cons_self ..)
              have hlX := fun op a next Q => loadW_blk (P := Tryd.prog) (H8.out.g.kb (gX, 70, encX D) (by simp)) Tryd.underlying70 rfl iszX op a next Q
              try dsimp only at hlX
              have HCL := Lib.hid (List16_any D w8)
              have HXS := Lib.hid hX
              clear hls HC hl1 hX
              go_wp2_with fail
              refine HCL.out.mono ?_
              rintro e w9 ⟨yo, yc, rfl, hY, hb⟩
              have HC2 := Lib.hid (Equal_any (dLst D 32) (dLst D 32) _ _ _ _ w9 (HXS.out.below hb) hY)
              have H9 := Lib.hid (H8.out.below hb)
              clear hb hY HCL hlX HXS
              go_wp2_with fail
              refine HC2.out.mono ?_
              rintro e wE ⟨rfl, hbE⟩
              have HF := Lib.hid (H9.out.below hbE)
              clear hbE HC2
              rw [show decide True = true from rfl]
              go_wp2_with fail
              go_roundw
              case rel => exact ⟨i + 1, d, D, s9, F8, by go_num, by omega, Lib.hid ⟨HF.out.g.r, HR9.out.mono (by omega), HD9.out⟩⟩
              case measure => simp [intOf]; omega
        · by_cases hdo3 : dd % 4 = 3
          · have e4 : (dd : Int) % 4 = 3 := by omega
            by_cases hin : idOk id
            · obtain ⟨m, rfl⟩ : ∃ m : Nat, id = (m : Int) := ⟨id.toNat, by have := hin.1; omega⟩
              have hm : m < 32 := by have := hin.2; omega
              have e5 : decide (idOk (m : Int)) = true := by simp [hin]
              rw [e5]
              as_aux_lemma =>
                obtain ⟨s2, e2, hl2, hr2⟩ := rd_getN HLI.out.rd HLI.out.di hm
                obtain ⟨R, hR⟩ : ∃ R, R = (dRes (D m)).1 := ⟨_, rfl⟩
                obtain ⟨B, hB⟩ : ∃ B, B = (D m).isSome := ⟨_, rfl⟩
                have hRB : dRes (D m) = (R, B) := by rw [hR, hB]; cases D m <;> rfl
                rw [hRB] at e2
                have HE2 := Lib.hid e2
                have HTD : Hid (Rd (3 * i + 2) s2 ∧ DI s2.L d D) := Lib.hid ⟨hr2.mono (by omega), by rw [hl2]; exact HLI.out.di⟩
                have HRW : Hid R.wf := Lib.hid (by rw [hR]; exact HLI.out.di.wf hm)
                have HRB := Lib.hid hR
                have HBB := Lib.hid hB
                clear e2 hl2 hr2 hRB hR hB
                have HDW : Hid d.wf := Lib.hid (HLI.out.di.nw.wf' (by have := HLI.out.rd.l; omega))
                have HC := Lib.hid (dget_any (C := memC mb) HLI.out.s.g.at_.1 d HDW.out (m : Int) (by rw [HE2.out]; exact HTD.out.1.ok (by omega)))
                rw [HE2.out] at HC
                have hl1 := fun op a next Q => loadW_blk (P := Tryd.prog) (HLI.out.s.g.kb (gD, 37, encN d) (by simp)) Tryd.underlying37 rfl iszNd op a next Q
                try dsimp only at hl1
                go_wp2_with fail
                refine HC.out.mono ?_
                rintro e w5 ⟨hrd, _, hstep⟩
                have hrd : e = .returned (.tuple #[.agg (encN R).toArray, .bool B, .int .i64 0]) := hrd
                subst hrd
                obtain ⟨F5, hs, _, _⟩ := HLI.out.s.step hstep
                have H5 := Lib.hid (hs.new 37 (encN R))
                have hst := fun op a next Q => store_newNd R w5 op a next Q
                obtain ⟨g5, hg⟩ : ∃ g, g = w5.heap.size := ⟨_, rfl⟩
                obtain ⟨w6, hv⟩ : ∃ v, v = w5.alloc (.cells (encN R).toArray 37) := ⟨_, rfl⟩
                rw [← hv, ← hg] at H5
                clear hstep hs HC hl1
                go_upto_region 37 with fail
                rw [← hv, ← hg]
                clear hst hv hg
                have HT : Hid (LdR mb wm w6.drew s2 F5 [(gD, 37, encN d), (gX, 70, encX D)] []) := Lib.hid ((H5.out.below (Below.refl _ _).drew).sub _ (by simp))
                have hS0 : (fun w' => Blk w' g5 37 (encN R) ∧ w'.rangeAt gX (32 + m * 13) (encN R) ∧ w'.cell? ⟨gX, m, none⟩ = some (.bool B)) w6.drew := by
                  have hx := HT.out.g.kb (gX, 70, encX D) (by simp)
                  refine ⟨((H5.out.below (Below.refl _ _).drew).g.kb (g5, 37, encN R) (by simp)), fun j v hj => ?_, ?_⟩
                  · have hj13 : j < 13 := by
                      by_cases h4 : j < 13
                      · exact h4
                      · rw [List.getElem?_eq_none (by show 13 ≤ j; omega)] at hj; cases hj
                    rw [hx.cell]
                    show (encX D)[32 + m * 13 + j]? = some v
                    rw [encX_n D hm hj13, ← HRB.out]; exact hj
                  · rw [hx.cell]
                    show (encX D)[m]? = _
                    rw [encX_has D hm, HBB.out]
                refine wp_region_held_drew (S := fun w' => Blk w' g5 37 (encN R) ∧ w'.rangeAt gX (32 + m * 13) (encN R) ∧ w'.cell? ⟨gX, m, none⟩ = some (.bool B)) (by kernel_rfl) hS0 (fun hS0 => ?_)
                refine wpAnyH_take (i := 0) (oi := ?oig0) (v := ?vg0) ?hig0 ?hsg0 ?hfg0 ?hrg0 ?hQg0 ?hyg0 ?hSg0 ?hg0
                case hig0 => (simp only [List.getElem?_toArray, List.getElem?_cons_succ, List.getElem?_cons_zero]; rfl)
                case hsg0 => kernel_rfl
                case hfg0 => kernel_rfl
                case hrg0 => kernel_rfl
                case hSg0 => first | assumption | trivial
                case hyg0 => refine Or.inl ⟨by kernel_rfl, ?_⟩; (intro w hSw; (try dsimp only at hSw); go_simp; try with_reducible rfl)
                case hQg0 => exact fun _ _ _ h => h
                try simp only [Act.put, List.setIfInBounds_toArray, List.set_cons_zero, List.set_cons_succ]
                refine wpAnyH_take (i := 1) (oi := ?oig1) (v := ?vg1) ?hig1 ?hsg1 ?hfg1 ?hrg1 ?hQg1 ?hyg1 ?hSg1 ?hg1
                case hig1 => (simp only [List.getElem?_toArray, List.getElem?_cons_succ, List.getElem?_cons_zero]; rfl)
                case hsg1 => kernel_rfl
                case hfg1 => kernel_rfl
                case hrg1 => kernel_rfl
                case hSg1 => first | assumption | trivial
                case hyg1 => refine Or.inl ⟨by kernel_rfl, ?_⟩; (intro w hSw; (try dsimp only at hSw); go_simp; try with_reducible rfl)
                case hQg1 => exact fun _ _ _ h => h
                try simp only [Act.put, List.setIfInBounds_toArray, List.set_cons_zero, List.set_cons_succ]
                refine wpAnyH_take (i := 2) (oi := ?oig2) (v := ?vg2) ?hig2 ?hsg2 ?hfg2 ?hrg2 ?hQg2 ?hyg2 ?hSg2 ?hg2
                case hig2 => (simp only [List.getElem?_toArray, List.getElem?_cons_succ, List.getElem?_cons_zero]; rfl)
                case hsg2 => kernel_rfl
                case hfg2 => kernel_rfl
                case hrg2 => kernel_rfl
                case hSg2 => first | assumption | trivial
                case hyg2 => refine Or.inl ⟨by kernel_rfl, ?_⟩; (intro w hSw; (try dsimp only at hSw); go_simp; try with_reducible rfl)
                case hQg2 => exact fun _ _ _ h => h
                try simp only [Act.put, List.setIfInBounds_toArray, List.set_cons_zero, List.set_cons_succ]
                refine wpAnyH_take (i := 3) (oi := ?oig3) (v := ?vg3) ?hig3 ?hsg3 ?hfg3 ?hrg3 ?hQg3 ?hyg3 ?hSg3 ?hg3
                case hig3 => (simp only [List.getElem?_toArray, List.getElem?_cons_succ, List.getElem?_cons_zero]; rfl)
                case hsg3 => kernel_rfl
                case hfg3 => kernel_rfl
                case hrg3 => kernel_rfl
                case hSg3 => first | assumption | trivial
                case hyg3 => refine Or.inl ⟨by kernel_rfl, ?_⟩; (intro w hSw; (try dsimp only at hSw); go_simp; try with_reducible rfl)
                case hQg3 => exact fun _ _ _ h => h
                try simp only [Act.put, List.setIfInBounds_toArray, List.set_cons_zero, List.set_cons_succ]
                refine wpAnyH_take (i := 4) (oi := ?oig4) (v := ?vg4) ?hig4 ?hsg4 ?hfg4 ?hrg4 ?hQg4 ?hyg4 ?hSg4 ?hg4
                case hig4 => (simp only [List.getElem?_toArray, List.getElem?_cons_succ, List.getElem?_cons_zero]; rfl)
                case hsg4 => kernel_rfl
                case hfg4 => kernel_rfl
                case hrg4 => kernel_rfl
                case hSg4 => first | assumption | trivial
                case hyg4 => refine Or.inl ⟨by kernel_rfl, ?_⟩; (intro w hSw; (try dsimp only at hSw); go_simp; try with_reducible rfl)
                case hQg4 => exact fun _ _ _ h => h
                try simp only [Act.put, List.setIfInBounds_toArray, List.set_cons_zero, List.set_cons_succ]
                refine wpAnyH_take (i := 5) (oi := ?oig5) (v := ?vg5) ?hig5 ?hsg5 ?hfg5 ?hrg5 ?hQg5 ?hyg5 ?hSg5 ?hg5
                case hig5 => (simp only [List.getElem?_toArray, List.getElem?_cons_succ, List.getElem?_cons_zero]; rfl)
                case hsg5 => kernel_rfl
                case hfg5 => kernel_rfl
                case hrg5 => kernel_rfl
                case hSg5 => first | assumption | trivial
                case hyg5 => refine Or.inl ⟨by kernel_rfl, ?_⟩; (intro w hSw; (try dsimp only at hSw); go_simp; try with_reducible rfl)
                case hQg5 => exact fun _ _ _ h => h
                try simp only [Act.put, List.setIfInBounds_toArray, List.set_cons_zero, List.set_cons_succ]
                refine wpAnyH_take (i := 6) (oi := ?oig6) (v := ?vg6) ?hig6 ?hsg6 ?hfg6 ?hrg6 ?hQg6 ?hyg6 ?hSg6 ?hg6
                case hig6 => (simp only [List.getElem?_toArray, List.getElem?_cons_succ, List.getElem?_cons_zero]; rfl)
                case hsg6 => kernel_rfl
                case hfg6 => kernel_rfl
                case hrg6 => kernel_rfl
                case hSg6 => first | assumption | trivial
                case hyg6 => refine Or.inl ⟨by kernel_rfl, ?_⟩; (intro w hSw; (try dsimp only at hSw); go_simp; try with_reducible rfl)
                case hQg6 => exact fun _ _ _ h => h
                try simp only [Act.put, List.setIfInBounds_toArray, List.set_cons_zero, List.set_cons_succ]
                refine wpAnyH_take (i := 7) (oi := ?oig7) (v := ?vg7) ?hig7 ?hsg7 ?hfg7 ?hrg7 ?hQg7 ?hyg7 ?hSg7 ?hg7
                case hig7 => (simp only [List.getElem?_toArray, List.getElem?_cons_succ, List.getElem?_cons_zero]; rfl)
                case hsg7 => kernel_rfl
                case hfg7 => kernel_rfl
                case hrg7 => kernel_rfl
                case hSg7 => first | assumption | trivial
                case hyg7 => refine Or.inl ⟨by kernel_rfl, ?_⟩; (intro w hSw; (try dsimp only at hSw); go_simp; try with_reducible rfl)
                case hQg7 => exact fun _ _ _ h => h
                try simp only [Act.put, List.setIfInBounds_toArray, List.set_cons_zero, List.set_cons_succ]
                refine wpAnyH_take (i := 8) (oi := ?oig8) (v := ?vg8) ?hig8 ?hsg8 ?hfg8 ?hrg8 ?hQg8 ?hyg8 ?hSg8 ?hg8
                case hig8 => (simp only [List.getElem?_toArray, List.getElem?_cons_succ, List.getElem?_cons_zero]; rfl)
                case hsg8 => kernel_rfl
                case hfg8 => kernel_rfl
                case hrg8 => kernel_rfl
                case hSg8 => first | assumption | trivial
                case hyg8 => refine Or.inl ⟨by kernel_rfl, ?_⟩; (intro w hSw; (try dsimp only at hSw); go_simp; try with_reducible rfl)
                case hQg8 => exact fun _ _ _ h => h
                try simp only [Act.put, List.setIfInBounds_toArray, List.set_cons_zero, List.set_cons_succ]
                refine wpAnyH_take (i := 9) (oi := ?oig9) (v := ?vg9) ?hig9 ?hsg9 ?hfg9 ?hrg9 ?hQg9 ?hyg9 ?hSg9 ?hg9
                case hig9 => (simp only [List.getElem?_toArray, List.getElem?_cons_succ, List.getElem?_cons_zero]; rfl)
                case hsg9 => kernel_rfl
                case hfg9 => kernel_rfl
                case hrg9 => kernel_rfl
                case hSg9 => first | assumption | trivial
                case hyg9 => refine Or.inl ⟨by kernel_rfl, ?_⟩; (intro w hSw; (try dsimp only at hSw); go_simp; first | with_reducible rfl | rw [if_pos (by omega)])
                case hQg9 => exact fun _ _ _ h => h
                try simp only [Act.put, List.setIfInBounds_toArray, List.set_cons_zero, List.set_cons_succ]
                refine wpAnyH_take (i := 10) (oi := ?oig10) (v := ?vg10) ?hig10 ?hsg10 ?hfg10 ?hrg10 ?hQg10 ?hyg10 ?hSg10 ?hg10
                case hig10 => (simp only [List.getElem?_toArray, List.getElem?_cons_succ, List.getElem?_cons_zero]; rfl)
                case hsg10 => kernel_rfl
                case hfg10 => kernel_rfl
                case hrg10 => kernel_rfl
                case hSg10 => first | assumption | trivial
                case hyg10 => refine Or.inl ⟨by kernel_rfl, ?_⟩; (intro w hSw; (try dsimp only at hSw); go_simp; try with_reducible rfl)
                case hQg10 => exact fun _ _ _ h => h
                try simp only [Act.put, List.setIfInBounds_toArray, List.set_cons_zero, List.set_cons_succ]
                refine wpAnyH_take (i := 11) (oi := ?oig11) (v := ?vg11) ?hig11 ?hsg11 ?hfg11 ?hrg11 ?hQg11 ?hyg11 ?hSg11 ?hg11
                case hig11 => (simp only [List.getElem?_toArray, List.getElem?_cons_succ, List.getElem?_cons_zero]; rfl)
                case hsg11 => kernel_rfl
                case hfg11 => kernel_rfl
                case hrg11 => kernel_rfl
                case hSg11 => first | assumption | trivial
                case hyg11 => refine Or.inl ⟨by kernel_rfl, ?_⟩; (intro w hSw; (try dsimp only at hSw); go_simp; try with_reducible rfl)
                case hQg11 => exact fun _ _ _ h => h
                try simp only [Act.put, List.setIfInBounds_toArray, List.set_cons_zero, List.set_cons_succ]
                refine wpAnyH_take (i := 12) (oi := ?oig12) (v := ?vg12) ?hig12 ?hsg12 ?hfg12 ?hrg12 ?hQg12 ?hyg12 ?hSg12 ?hg12
                case hig12 => (simp only [List.getElem?_toArray, List.getElem?_cons_succ, List.getElem?_cons_zero]; rfl)
                case hsg12 => kernel_rfl
                case hfg12 => kernel_rfl
                case hrg12 => kernel_rfl
                case hSg12 => first | assumption | trivial
                case hyg12 => refine Or.inl ⟨by kernel_rfl, ?_⟩; (intro w hSw; (try dsimp only at hSw); go_simp; try with_reducible rfl)
                case hQg12 => exact fun _ _ _ h => h
                try simp only [Act.put, List.setIfInBounds_toArray, List.set_cons_zero, List.set_cons_succ]
                refine wpAnyH_take (i := 13) (oi := ?oig13) (v := ?vg13) ?hig13 ?hsg13 ?hfg13 ?hrg13 ?hQg13 ?hyg13 ?hSg13 ?hg13
                case hig13 => (simp only [List.getElem?_toArray, List.getElem?_cons_succ, List.getElem?_cons_zero]; rfl)
                case hsg13 => kernel_rfl
                case hfg13 => kernel_rfl
                case hrg13 => kernel_rfl
                case hSg13 => first | assumption | trivial
                case hyg13 => refine yieldsIf_load_mid (by kernel_rfl) 37 (.tmp 12) ?_ g5 (0) ?_ (encN R) _ (fun w' hw => range_and1 hw) Tryd.underlying37 rfl iszNd <;> rfl
                case hQg13 => exact fun _ _ _ h => h
                try simp only [Act.put, List.setIfInBounds_toArray, List.set_cons_zero, List.set_cons_succ]
                refine wpAnyH_take (i := 14) (oi := ?oig14) (v := ?vg14) ?hig14 ?hsg14 ?hfg14 ?hrg14 ?hQg14 ?hyg14 ?hSg14 ?hg14
                case hig14 => (simp only [List.getElem?_toArray, List.getElem?_cons_succ, List.getElem?_cons_zero]; rfl)
                case hsg14 => kernel_rfl
                case hfg14 => kernel_rfl
                case hrg14 => kernel_rfl
                case hSg14 => first | assumption | trivial
                case hyg14 => refine Or.inl ⟨by kernel_rfl, ?_⟩; (intro w hSw; (try dsimp only at hSw); go_simp; try with_reducible rfl)
                case hQg14 => exact fun _ _ _ h => h
                try simp only [Act.put, List.setIfInBounds_toArray, List.set_cons_zero, List.set_cons_succ]
                refine wpAnyH_take (i := 15) (oi := ?oig15) (v := ?vg15) ?hig15 ?hsg15 ?hfg15 ?hrg15 ?hQg15 ?hyg15 ?hSg15 ?hg15
                case hig15 => (simp only [List.getElem?_toArray, List.getElem?_cons_succ, List.getElem?_cons_zero]; rfl)
                case hsg15 => kernel_rfl
                case hfg15 => kernel_rfl
                case hrg15 => kernel_rfl
                case hSg15 => first | assumption | trivial
                case hyg15 => refine Or.inl ⟨by kernel_rfl, ?_⟩; (intro w hSw; (try dsimp only at hSw); go_simp; try with_reducible rfl)
                case hQg15 => exact fun _ _ _ h => h
                try simp only [Act.put, List.setIfInBounds_toArray, List.set_cons_zero, List.set_cons_succ]
                refine wpAnyH_take (i := 16) (oi := ?oig16) (v := ?vg16) ?hig16 ?hsg16 ?hfg16 ?hrg16 ?hQg16 ?hyg16 ?hSg16 ?hg16
                case hig16 => (simp only [List.getElem?_toArray, List.getElem?_cons_succ, List.getElem?_cons_zero]; rfl)
                case hsg16 => kernel_rfl
                case hfg16 => kernel_rfl
                case hrg16 => kernel_rfl
                case hSg16 => first | assumption | trivial
                case hyg16 => refine Or.inl ⟨by kernel_rfl, ?_⟩; (intro w hSw; (try dsimp only at hSw); go_simp; first | with_reducible rfl | rw [if_pos (by omega)])
                case hQg16 => exact fun _ _ _ h => h
                try simp only [Act.put, List.setIfInBounds_toArray, List.set_cons_zero, List.set_cons_succ]
                refine wpAnyH_take (i := 17) (oi := ?oig17) (v := ?vg17) ?hig17 ?hsg17 ?hfg17 ?hrg17 ?hQg17 ?hyg17 ?hSg17 ?hg17
                case hig17 => (simp only [List.getElem?_toArray, List.getElem?_cons_succ, List.getElem?_cons_zero]; rfl)
                case hsg17 => kernel_rfl
                case hfg17 => kernel_rfl
                case hrg17 => kernel_rfl
                case hSg17 => first | assumption | trivial
                case hyg17 => refine yieldsIf_load_mid (by kernel_rfl) 37 (.tmp 158) ?_ gX ((32 + m * 13)) ?_ (encN R) _ (fun w' hw => range_mid hw) Tryd.underlying37 rfl iszNd <;> rfl
                case hQg17 => exact fun _ _ _ h => h
                try simp only [Act.put, List.setIfInBounds_toArray, List.set_cons_zero, List.set_cons_succ]
                refine wpAnyH_take (i := 18) (oi := ?oig18) (v := ?vg18) ?hig18 ?hsg18 ?hfg18 ?hrg18 ?hQg18 ?hyg18 ?hSg18 ?hg18
                case hig18 => (simp only [List.getElem?_toArray, List.getElem?_cons_succ, List.getElem?_cons_zero]; rfl)
                case hsg18 => kernel_rfl
                case hfg18 => kernel_rfl
                case hrg18 => kernel_rfl
                case hSg18 => first | assumption | trivial
                case hyg18 => exact (by refine yieldsIf_neqNdB (by kernel_rfl) (.tmp 155) (.tmp 159) 37 ?_ R R ?_ ?_ HRW.out HRW.out (b := false) (by simp) <;> rfl)
                case hQg18 => exact fun _ _ _ h => h
                try simp only [Act.put, List.setIfInBounds_toArray, List.set_cons_zero, List.set_cons_succ]
                refine wpAnyH_take (i := 19) (oi := ?oig19) (v := ?vg19) ?hig19 ?hsg19 ?hfg19 ?hrg19 ?hQg19 ?hyg19 ?hSg19 ?hg19
                case hig19 => (simp only [List.getElem?_toArray, List.getElem?_cons_succ, List.getElem?_cons_zero]; rfl)
                case hsg19 => kernel_rfl
                case hfg19 => kernel_rfl
                case hrg19 => kernel_rfl
                case hSg19 => first | assumption | trivial
                case hyg19 => refine Or.inl ⟨by kernel_rfl, ?_⟩; (intro w hSw; (try dsimp only at hSw); go_simp; try with_reducible rfl)
                case hQg19 => exact fun _ _ _ h => h
                try simp only [Act.put, List.setIfInBounds_toArray, List.set_cons_zero, List.set_cons_succ]
                refine wpAnyH_take (i := 20) (oi := ?oig20) (v := ?vg20) ?hig20 ?hsg20 ?hfg20 ?hrg20 ?hQg20 ?hyg20 ?hSg20 ?hg20
                case hig20 => (simp only [List.getElem?_toArray, List.getElem?_cons_succ, List.getElem?_cons_zero]; rfl)
                case hsg20 => kernel_rfl
                case hfg20 => kernel_rfl
                case hrg20 => kernel_rfl
                case hSg20 => first | assumption | trivial
                case hyg20 => refine Or.inl ⟨by kernel_rfl, ?_⟩; (intro w hSw; (try dsimp only at hSw); go_simp; try with_reducible rfl)
                case hQg20 => exact fun _ _ _ h => h
                try simp only [Act.put, List.setIfInBounds_toArray, List.set_cons_zero, List.set_cons_succ]
                refine wpAnyH_take (i := 21) (oi := ?oig21) (v := ?vg21) ?hig21 ?hsg21 ?hfg21 ?hrg21 ?hQg21 ?hyg21 ?hSg21 ?hg21
                case hig21 => (simp only [List.getElem?_toArray, List.getElem?_cons_succ, List.getElem?_cons_zero]; rfl)
                case hsg21 => kernel_rfl
                case hfg21 => kernel_rfl
                case hrg21 => kernel_rfl
                case hSg21 => first | assumption | trivial
                case hyg21 => refine Or.inl ⟨by kernel_rfl, ?_⟩; (intro w hSw; (try dsimp only at hSw); go_simp; try with_reducible rfl)
                case hQg21 => exact fun _ _ _ h => h
                try simp only [Act.put, List.setIfInBounds_toArray, List.set_cons_zero, List.set_cons_succ]
                refine wpAnyH_take (i := 22) (oi := ?oig22) (v := ?vg22) ?hig22 ?hsg22 ?hfg22 ?hrg22 ?hQg22 ?hyg22 ?hSg22 ?hg22
                case hig22 => (simp only [List.getElem?_toArray, List.getElem?_cons_succ, List.getElem?_cons_zero]; rfl)
                case hsg22 => kernel_rfl
                case hfg22 => kernel_rfl
                case hrg22 => kernel_rfl
                case hSg22 => first | assumption | trivial
                case hyg22 => refine Or.inl ⟨by kernel_rfl, ?_⟩; (intro w hSw; (try dsimp only at hSw); go_simp; try with_reducible rfl)
                case hQg22 => exact fun _ _ _ h => h
                try simp only [Act.put, List.setIfInBounds_toArray, List.set_cons_zero, List.set_cons_succ]
                refine wpAnyH_take (i := 23) (oi := ?oig23) (v := ?vg23) ?hig23 ?hsg23 ?hfg23 ?hrg23 ?hQg23 ?hyg23 ?hSg23 ?hg23
                case hig23 => (simp only [List.getElem?_toArray, List.getElem?_cons_succ, List.getElem?_cons_zero]; rfl)
                case hsg23 => kernel_rfl
                case hfg23 => kernel_rfl
                case hrg23 => kernel_rfl
                case hSg23 => first | assumption | trivial
                case hyg23 => refine Or.inl ⟨by kernel_rfl, ?_⟩; (intro w hSw; (try dsimp only at hSw); go_simp; try with_reducible rfl)
                case hQg23 => exact fun _ _ _ h => h
                try simp only [Act.put, List.setIfInBounds_toArray, List.set_cons_zero, List.set_cons_succ]
                refine wpAnyH_take (i := 24) (oi := ?oig24) (v := ?vg24) ?hig24 ?hsg24 ?hfg24 ?hrg24 ?hQg24 ?hyg24 ?hSg24 ?hg24
                case hig24 => (simp only [List.getElem?_toArray, List.getElem?_cons_succ, List.getElem?_cons_zero]; rfl)
                case hsg24 => kernel_rfl
                case hfg24 => kernel_rfl
                case hrg24 => kernel_rfl
                case hSg24 => first | assumption | trivial
                case hyg24 => refine Or.inl ⟨by kernel_rfl, ?_⟩; (intro w hSw; (try dsimp only at hSw); go_simp; try with_reducible rfl)
                case hQg24 => exact fun _ _ _ h => h
                try simp only [Act.put, List.setIfInBounds_toArray, List.set_cons_zero, List.set_cons_succ]
                refine wpAnyH_take (i := 25) (oi := ?oig25) (v := ?vg25) ?hig25 ?hsg25 ?hfg25 ?hrg25 ?hQg25 ?hyg25 ?hSg25 ?hg25
                case hig25 => (simp only [List.getElem?_toArray, List.getElem?_cons_succ, List.getElem?_cons_zero]; rfl)
                case hsg25 => kernel_rfl
                case hfg25 => kernel_rfl
                case hrg25 => kernel_rfl
                case hSg25 => first | assumption | trivial
                case hyg25 => refine Or.inl ⟨by kernel_rfl, ?_⟩; (intro w hSw; (try dsimp only at hSw); go_simp; try with_reducible rfl)
                case hQg25 => exact fun _ _ _ h => h
                try simp only [Act.put, List.setIfInBounds_toArray, List.set_cons_zero, List.set_cons_succ]
                refine wpAnyH_take (i := 26) (oi := ?oig26) (v := undef) ?hig26 ?hsg26 ?hfg26 ?hrg26 ?hQg26 ?hyg26 ?hSg26 ?hg26
                case hig26 => (simp only [List.getElem?_toArray, List.getElem?_cons_succ, List.getElem?_cons_zero]; rfl)
                case hsg26 => kernel_rfl
                case hfg26 => kernel_rfl
                case hrg26 => kernel_rfl
                case hSg26 => first | assumption | trivial
                case hyg26 => exact Or.inr ⟨by kernel_rfl, rfl⟩
                case hQg26 => exact fun _ _ _ h => h
                try simp only [Act.put, List.setIfInBounds_toArray, List.set_cons_zero, List.set_cons_succ]
                refine wpAnyH_take (i := 27) (oi := ?oig27) (v := ?vg27) ?hig27 ?hsg27 ?hfg27 ?hrg27 ?hQg27 ?hyg27 ?hSg27 ?hg27
                case hig27 => (simp only [List.getElem?_toArray, List.getElem?_cons_succ, List.getElem?_cons_zero]; rfl)
                case hsg27 => kernel_rfl
                case hfg27 => kernel_rfl
                case hrg27 => kernel_rfl
                case hSg27 => first | assumption | trivial
                case hyg27 => refine Or.inl ⟨by kernel_rfl, ?_⟩; (intro w hSw; (try dsimp only at hSw); go_simp; try with_reducible rfl)
                case hQg27 => exact fun _ _ _ h => h
                try simp only [Act.put, List.setIfInBounds_toArray, List.set_cons_zero, List.set_cons_succ]
                refine wpAnyH_take (i := 28) (oi := ?oig28) (v := ?vg28) ?hig28 ?hsg28 ?hfg28 ?hrg28 ?hQg28 ?hyg28 ?hSg28 ?hg28
                case hig28 => (simp only [List.getElem?_toArray, List.getElem?_cons_succ, List.getElem?_cons_zero]; rfl)
                case hsg28 => kernel_rfl
                case hfg28 => kernel_rfl
                case hrg28 => kernel_rfl
                case hSg28 => first | assumption | trivial
                case hyg28 => refine Or.inl ⟨by kernel_rfl, ?_⟩; (intro w hSw; (try dsimp only at hSw); go_simp; try with_reducible rfl)
                case hQg28 => exact fun _ _ _ h => h
                try simp only [Act.put, List.setIfInBounds_toArray, List.set_cons_zero, List.set_cons_succ]
                refine wpAnyH_done (by kernel_rfl) ?_ _
                clear H5 hS0
                obtain ⟨s9, e9, hl9, hr9⟩ := rd_dlist HTD.out.1 HTD.out.2
                have HE9 := Lib.hid e9
                have HR9 := Lib.hid hr9
                have HD9 : Hid (DI s9.L d D) := Lib.hid (by rw [hl9]; exact HTD.out.2)
                have HWF : Hid (d.wf ∧ (0 ≤ d.size ∧ d.size ≤ 1000000)) := Lib.hid ⟨HTD.out.2.nw.wf' (by have := HTD.out.1.l; omega), ⟨HTD.out.2.nw.s0, by have := HTD.out.2.le; omega⟩⟩
                clear e9 hl9 hr9
                have HC := Lib.hid (dlist_any (C := memC mb) HT.out.g.at_.1 d HWF.out.1 HWF.out.2 (by rw [HE9.out]; exact HR9.out.ok (by omega)))
                rw [HE9.out] at HC
                have hl1 := fun op a next Q => loadW_blk (P := Tryd.prog) (HT.out.g.kb (gD, 37, encN d) (by simp)) Tryd.underlying37 rfl iszNd op a next Q
                try dsimp only at hl1
                go_wp2_with fail
                refine HC.out.mono ?_
                rintro e w8 ⟨v1, F8, rfl, hls⟩
                have H8 := Lib.hid (HT.out.list hls)
                obtain ⟨xo, xc, rfl, hX⟩ := H8.out.rsl (List.mem_cons_self ..)
                have hlX := fun op a next Q => loadW_blk (P := Tryd.prog) (H8.out.g.kb (gX, 70, encX D) (by simp)) Tryd.underlying70 rfl iszX op a next Q
                try dsimp only at hlX
                have HCL := Lib.hid (List16_any D w8)
                have HXS := Lib.hid hX
                clear hls HC hl1 hX
                go_wp2_with fail
                refine HCL.out.mono ?_
                rintro e w9 ⟨yo, yc, rfl, hY, hb⟩
                have HC2 := Lib.hid (Equal_any (dLst D 32) (dLst D 32) _ _ _ _ w9 (HXS.out.below hb) hY)
                have H9 := Lib.hid (H8.out.below hb)
                clear hb hY HCL hlX HXS
                go_wp2_with fail
                refine HC2.out.mono ?_
                rintro e wE ⟨rfl, hbE⟩
                have HF := Lib.hid (H9.out.below hbE)
                clear hbE HC2
                rw [show decide True = true from rfl]
                go_wp2_with fail
                go_roundw
                case rel => exact ⟨i + 1, d, D, s9, F8, by go_num, by omega, Lib.hid ⟨HF.out.g.r, HR9.out.mono (by omega), HD9.out⟩⟩
                case measure => simp [intOf]; omega
            · have e5 : decide (idOk id) = false := by simp [hin]
              rw [e5]
              as_aux_lemma =>
                obtain ⟨s2, e2, hl2, hr2⟩ := rd_dget HLI.out.rd HLI.out.di id
                rw [if_neg hin] at e2
                have HE2 := Lib.hid e2
                have HTD : Hid (Rd (3 * i + 2) s2 ∧ DI s2.L d D) := Lib.hid ⟨hr2.mono (by omega), by rw [hl2]; exact HLI.out.di⟩
                clear e2 hl2 hr2
                have HDW : Hid d.wf := Lib.hid (HLI.out.di.nw.wf' (by have := HLI.out.rd.l; omega))
                have HC := Lib.hid (dget_any (C := memC mb) HLI.out.s.g.at_.1 d HDW.out id (by rw [HE2.out]; exact HTD.out.1.ok (by omega)))
                rw [HE2.out] at HC
                have hl1 := fun op a next Q => loadW_blk (P := Tryd.prog) (HLI.out.s.g.kb (gD, 37, encN d) (by simp)) Tryd.underlying37 rfl iszNd op a next Q
                try dsimp only at hl1
                go_wp2_with fail
                refine HC.out.mono ?_
                rintro e w5 ⟨hrd, _, hstep⟩
                have hrd : e = .returned (.tuple #[.agg (encN nD).toArray, .bool false, .int .i64 1]) := hrd
                subst hrd
                obtain ⟨F5, hs, _, _⟩ := HLI.out.s.step hstep
                have H5 := Lib.hid (hs.new 37 (encN nD))
                have hst := fun op a next Q => store_newNd nD w5 op a next Q
                obtain ⟨g5, hg⟩ : ∃ g, g = w5.heap.size := ⟨_, rfl⟩
                obtain ⟨w6, hv⟩ : ∃ v, v = w5.alloc (.cells (encN nD).toArray 37) := ⟨_, rfl⟩
                rw [← hv, ← hg] at H5
                clear hstep hs HC hl1
                go_upto_region 37 with fail
                rw [← hv, ← hg]
                clear hst hv hg
                have HT : Hid (LdR mb wm w6.drew s2 F5 [(gD, 37, encN d), (gX, 70, encX D)] []) := Lib.hid ((H5.out.below (Below.refl _ _).drew).sub _ (by simp))
                refine wp_region_held_drew (S := fun _ => True) (by kernel_rfl) trivial (fun hS0 => ?_)
                refine wpAnyH_take (i := 0) (oi := ?oin0) (v := ?vn0) ?hin0 ?hsn0 ?hfn0 ?hrn0 ?hQn0 ?hyn0 ?hSn0 ?hn0
                case hin0 => (simp only [List.getElem?_toArray, List.getElem?_cons_succ, List.getElem?_cons_zero]; rfl)
                case hsn0 => kernel_rfl
                case hfn0 => kernel_rfl
                case hrn0 => kernel_rfl
                case hSn0 => first | assumption | trivial
                case hyn0 => refine Or.inl ⟨by kernel_rfl, ?_⟩; (intro w hSw; (try dsimp only at hSw); go_simp; try with_reducible rfl)
                case hQn0 => exact fun _ _ _ h => h
                try simp only [Act.put, List.setIfInBounds_toArray, List.set_cons_zero, List.set_cons_succ]
                refine wpAnyH_take (i := 1) (oi := ?oin1) (v := ?vn1) ?hin1 ?hsn1 ?hfn1 ?hrn1 ?hQn1 ?hyn1 ?hSn1 ?hn1
                case hin1 => (simp only [List.getElem?_toArray, List.getElem?_cons_succ, List.getElem?_cons_zero]; rfl)
                case hsn1 => kernel_rfl
                case hfn1 => kernel_rfl
                case hrn1 => kernel_rfl
                case hSn1 => first | assumption | trivial
                case hyn1 => refine Or.inl ⟨by kernel_rfl, ?_⟩; (intro w hSw; (try dsimp only at hSw); go_simp; try with_reducible rfl)
                case hQn1 => exact fun _ _ _ h => h
                try simp only [Act.put, List.setIfInBounds_toArray, List.set_cons_zero, List.set_cons_succ]
                refine wpAnyH_take (i := 2) (oi := ?oin2) (v := ?vn2) ?hin2 ?hsn2 ?hfn2 ?hrn2 ?hQn2 ?hyn2 ?hSn2 ?hn2
                case hin2 => (simp only [List.getElem?_toArray, List.getElem?_cons_succ, List.getElem?_cons_zero]; rfl)
                case hsn2 => kernel_rfl
                case hfn2 => kernel_rfl
                case hrn2 => kernel_rfl
                case hSn2 => first | assumption | trivial
                case hyn2 => refine Or.inl ⟨by kernel_rfl, ?_⟩; (intro w hSw; (try dsimp only at hSw); go_simp; try with_reducible rfl)
                case hQn2 => exact fun _ _ _ h => h
                try simp only [Act.put, List.setIfInBounds_toArray, List.set_cons_zero, List.set_cons_succ]
                refine wpAnyH_take (i := 3) (oi := ?oin3) (v := ?vn3) ?hin3 ?hsn3 ?hfn3 ?hrn3 ?hQn3 ?hyn3 ?hSn3 ?hn3
                case hin3 => (simp only [List.getElem?_toArray, List.getElem?_cons_succ, List.getElem?_cons_zero]; rfl)
                case hsn3 => kernel_rfl
                case hfn3 => kernel_rfl
                case hrn3 => kernel_rfl
                case hSn3 => first | assumption | trivial
                case hyn3 => refine Or.inl ⟨by kernel_rfl, ?_⟩; (intro w hSw; (try dsimp only at hSw); go_simp; try with_reducible rfl)
                case hQn3 => exact fun _ _ _ h => h
                try simp only [Act.put, List.setIfInBounds_toArray, List.set_cons_zero, List.set_cons_succ]
                refine wpAnyH_take (i := 4) (oi := ?oin4) (v := ?vn4) ?hin4 ?hsn4 ?hfn4 ?hrn4 ?hQn4 ?hyn4 ?hSn4 ?hn4
                case hin4 => (simp only [List.getElem?_toArray, List.getElem?_cons_succ, List.getElem?_cons_zero]; rfl)
                case hsn4 => kernel_rfl
                case hfn4 => kernel_rfl
                case hrn4 => kernel_rfl
                case hSn4 => first | assumption | trivial
                case hyn4 => refine Or.inl ⟨by kernel_rfl, ?_⟩; (intro w hSw; (try dsimp only at hSw); go_simp; try with_reducible rfl)
                case hQn4 => exact fun _ _ _ h => h
                try simp only [Act.put, List.setIfInBounds_toArray, List.set_cons_zero, List.set_cons_succ]
                refine wpAnyH_take (i := 5) (oi := ?oin5) (v := ?vn5) ?hin5 ?hsn5 ?hfn5 ?hrn5 ?hQn5 ?hyn5 ?hSn5 ?hn5
                case hin5 => (simp only [List.getElem?_toArray, List.getElem?_cons_succ, List.getElem?_cons_zero]; rfl)
                case hsn5 => kernel_rfl
                case hfn5 => kernel_rfl
                case hrn5 => kernel_rfl
                case hSn5 => first | assumption | trivial
                case hyn5 => refine Or.inl ⟨by kernel_rfl, ?_⟩; (intro w hSw; (try dsimp only at hSw); go_simp; try with_reducible rfl)
                case hQn5 => exact fun _ _ _ h => h
                try simp only [Act.put, List.setIfInBounds_toArray, List.set_cons_zero, List.set_cons_succ]
                refine wpAnyH_take (i := 6) (oi := ?oin6) (v := undef) ?hin6 ?hsn6 ?hfn6 ?hrn6 ?hQn6 ?hyn6 ?hSn6 ?hn6
                case hin6 => (simp only [List.getElem?_toArray, List.getElem?_cons_succ, List.getElem?_cons_zero]; rfl)
                case hsn6 => kernel_rfl
                case hfn6 => kernel_rfl
                case hrn6 => kernel_rfl
                case hSn6 => first | assumption | trivial
                case hyn6 => exact Or.inr ⟨by kernel_rfl, rfl⟩
                case hQn6 => exact fun _ _ _ h => h
                try simp only [Act.put, List.setIfInBounds_toArray, List.set_cons_zero, List.set_cons_succ]
                refine wpAnyH_take (i := 7) (oi := ?oin7) (v := undef) ?hin7 ?hsn7 ?hfn7 ?hrn7 ?hQn7 ?hyn7 ?hSn7 ?hn7
                case hin7 => (simp only [List.getElem?_toArray, List.getElem?_cons_succ, List.getElem?_cons_zero]; rfl)
                case hsn7 => kernel_rfl
                case hfn7 => kernel_rfl
                case hrn7 => kernel_rfl
                case hSn7 => first | assumption | trivial
                case hyn7 => exact Or.inr ⟨by kernel_rfl, rfl⟩
                case hQn7 => exact fun _ _ _ h => h
                try simp only [Act.put, List.setIfInBounds_toArray, List.set_cons_zero, List.set_cons_succ]
                refine wpAnyH_take (i := 8) (oi := ?oin8) (v := undef) ?hin8 ?hsn8 ?hfn8 ?hrn8 ?hQn8 ?hyn8 ?hSn8 ?hn8
                case hin8 => (simp only [List.getElem?_toArray, List.getElem?_cons_succ, List.getElem?_cons_zero]; rfl)
                case hsn8 => kernel_rfl
                case hfn8 => kernel_rfl
                case hrn8 => kernel_rfl
                case hSn8 => first | assumption | trivial
                case hyn8 => exact Or.inr ⟨by kernel_rfl, rfl⟩
                case hQn8 => exact fun _ _ _ h => h
                try simp only [Act.put, List.setIfInBounds_toArray, List.set_cons_zero, List.set_cons_succ]
                refine wpAnyH_take (i := 9) (oi := ?oin9) (v := undef) ?hin9 ?hsn9 ?hfn9 ?hrn9 ?hQn9 ?hyn9 ?hSn9 ?hn9
                case hin9 => (simp only [List.getElem?_toArray, List.getElem?_cons_succ, List.getElem?_cons_zero]; rfl)
                case hsn9 => kernel_rfl
                case hfn9 => kernel_rfl
                case hrn9 => kernel_rfl
                case hSn9 => first | assumption | trivial
                case hyn9 => exact Or.inr ⟨by kernel_rfl, rfl⟩
                case hQn9 => exact fun _ _ _ h => h
                try simp only [Act.put, List.setIfInBounds_toArray, List.set_cons_zero, List.set_cons_succ]
                refine wpAnyH_take (i := 10) (oi := ?oin10) (v := undef) ?hin10 ?hsn10 ?hfn10 ?hrn10 ?hQn10 ?hyn10 ?hSn10 ?hn10
                case hin10 => (simp only [List.getElem?_toArray, List.getElem?_cons_succ, List.getElem?_cons_zero]; rfl)
                case hsn10 => kernel_rfl
                case hfn10 => kernel_rfl
                case hrn10 => kernel_rfl
                case hSn10 => first | assumption | trivial
                case hyn10 => exact Or.inr ⟨by kernel_rfl, rfl⟩
                case hQn10 => exact fun _ _ _ h => h
                try simp only [Act.put, List.setIfInBounds_toArray, List.set_cons_zero, List.set_cons_succ]
                refine wpAnyH_take (i := 11) (oi := ?oin11) (v := undef) ?hin11 ?hsn11 ?hfn11 ?hrn11 ?hQn11 ?hyn11 ?hSn11 ?hn11
                case hin11 => (simp only [List.getElem?_toArray, List.getElem?_cons_succ, List.getElem?_cons_zero]; rfl)
                case hsn11 => kernel_rfl
                case hfn11 => kernel_rfl
                case hrn11 => kernel_rfl
                case hSn11 => first | assumption | trivial
                case hyn11 => exact Or.inr ⟨by kernel_rfl, rfl⟩
                case hQn11 => exact fun _ _ _ h => h
                try simp only [Act.put, List.setIfInBounds_toArray, List.set_cons_zero, List.set_cons_succ]
                refine wpAnyH_take (i := 12) (oi := ?oin12) (v := undef) ?hin12 ?hsn12 ?hfn12 ?hrn12 ?hQn12 ?hyn12 ?hSn12 ?hn12
                case hin12 => (simp only [List.getElem?_toArray, List.getElem?_cons_succ, List.getElem?_cons_zero]; rfl)
                case hsn12 => kernel_rfl
                case hfn12 => kernel_rfl
                case hrn12 => kernel_rfl
                case hSn12 => first | assumption | trivial
                case hyn12 => exact Or.inr ⟨by kernel_rfl, rfl⟩
                case hQn12 => exact fun _ _ _ h => h
                try simp only [Act.put, List.setIfInBounds_toArray, List.set_cons_zero, List.set_cons_succ]
                refine wpAnyH_take (i := 13) (oi := ?oin13) (v := undef) ?hin13 ?hsn13 ?hfn13 ?hrn13 ?hQn13 ?hyn13 ?hSn13 ?hn13
                case hin13 => (simp only [List.getElem?_toArray, List.getElem?_cons_succ, List.getElem?_cons_zero]; rfl)
                case hsn13 => kernel_rfl
                case hfn13 => kernel_rfl
                case hrn13 => kernel_rfl
                case hSn13 => first | assumption | trivial
                case hyn13 => exact Or.inr ⟨by kernel_rfl, rfl⟩
                case hQn13 => exact fun _ _ _ h => h
                try simp only [Act.put, List.setIfInBounds_toArray, List.set_cons_zero, List.set_cons_succ]
                refine wpAnyH_take (i := 14) (oi := ?oin14) (v := undef) ?hin14 ?hsn14 ?hfn14 ?hrn14 ?hQn14 ?hyn14 ?hSn14 ?hn14
                case hin14 => (simp only [List.getElem?_toArray, List.getElem?_cons_succ, List.getElem?_cons_zero]; rfl)
                case hsn14 => kernel_rfl
                case hfn14 => kernel_rfl
                case hrn14 => kernel_rfl
                case hSn14 => first | assumption | trivial
                case hyn14 => exact Or.inr ⟨by kernel_rfl, rfl⟩
                case hQn14 => exact fun _ _ _ h => h
                try simp only [Act.put, List.setIfInBounds_toArray, List.set_cons_zero, List.set_cons_succ]
                refine wpAnyH_take (i := 15) (oi := ?oin15) (v := undef) ?hin15 ?hsn15 ?hfn15 ?hrn15 ?hQn15 ?hyn15 ?hSn15 ?hn15
                case hin15 => (simp only [List.getElem?_toArray, List.getElem?_cons_succ, List.getElem?_cons_zero]; rfl)
                case hsn15 => kernel_rfl
                case hfn15 => kernel_rfl
                case hrn15 => kernel_rfl
                case hSn15 => first | assumption | trivial
                case hyn15 => exact Or.inr ⟨by kernel_rfl, rfl⟩
                case hQn15 => exact fun _ _ _ h => h
                try simp only [Act.put, List.setIfInBounds_toArray, List.set_cons_zero, List.set_cons_succ]
                refine wpAnyH_take (i := 16) (oi := ?oin16) (v := undef) ?hin16 ?hsn16 ?hfn16 ?hrn16 ?hQn16 ?hyn16 ?hSn16 ?hn16
                case hin16 => (simp only [List.getElem?_toArray, List.getElem?_cons_succ, List.getElem?_cons_zero]; rfl)
                case hsn16 => kernel_rfl
                case hfn16 => kernel_rfl
                case hrn16 => kernel_rfl
                case hSn16 => first | assumption | trivial
                case hyn16 => exact Or.inr ⟨by kernel_rfl, rfl⟩
                case hQn16 => exact fun _ _ _ h => h
                try simp only [Act.put, List.setIfInBounds_toArray, List.set_cons_zero, List.set_cons_succ]
                refine wpAnyH_take (i := 17) (oi := ?oin17) (v := undef) ?hin17 ?hsn17 ?hfn17 ?hrn17 ?hQn17 ?hyn17 ?hSn17 ?hn17
                case hin17 => (simp only [List.getElem?_toArray, List.getElem?_cons_succ, List.getElem?_cons_zero]; rfl)
                case hsn17 => kernel_rfl
                case hfn17 => kernel_rfl
                case hrn17 => kernel_rfl
                case hSn17 => first | assumption | trivial
                case hyn17 => exact Or.inr ⟨by kernel_rfl, rfl⟩
                case hQn17 => exact fun _ _ _ h => h
                try simp only [Act.put, List.setIfInBounds_toArray, List.set_cons_zero, List.set_cons_succ]
                refine wpAnyH_take (i := 18) (oi := ?oin18) (v := undef) ?hin18 ?hsn18 ?hfn18 ?hrn18 ?hQn18 ?hyn18 ?hSn18 ?hn18
                case hin18 => (simp only [List.getElem?_toArray, List.getElem?_cons_succ, List.getElem?_cons_zero]; rfl)
                case hsn18 => kernel_rfl
                case hfn18 => kernel_rfl
                case hrn18 => kernel_rfl
                case hSn18 => first | assumption | trivial
                case hyn18 => exact Or.inr ⟨by kernel_rfl, rfl⟩
                case hQn18 => exact fun _ _ _ h => h
                try simp only [Act.put, List.setIfInBounds_toArray, List.set_cons_zero, List.set_cons_succ]
                refine wpAnyH_take (i := 19) (oi := ?oin19) (v := undef) ?hin19 ?hsn19 ?hfn19 ?hrn19 ?hQn19 ?hyn19 ?hSn19 ?hn19
                case hin19 => (simp only [List.getElem?_toArray, List.getElem?_cons_succ, List.getElem?_cons_zero]; rfl)
                case hsn19 => kernel_rfl
                case hfn19 => kernel_rfl
                case hrn19 => kernel_rfl
                case hSn19 => first | assumption | trivial
                case hyn19 => exact Or.inr ⟨by kernel_rfl, rfl⟩
                case hQn19 => exact fun _ _ _ h => h
                try simp only [Act.put, List.setIfInBounds_toArray, List.set_cons_zero, List.set_cons_succ]
                refine wpAnyH_take (i := 20) (oi := ?oin20) (v := ?vn20) ?hin20 ?hsn20 ?hfn20 ?hrn20 ?hQn20 ?hyn20 ?hSn20 ?hn20
                case hin20 => (simp only [List.getElem?_toArray, List.getElem?_cons_succ, List.getElem?_cons_zero]; rfl)
                case hsn20 => kernel_rfl
                case hfn20 => kernel_rfl
                case hrn20 => kernel_rfl
                case hSn20 => first | assumption | trivial
                case hyn20 => refine Or.inl ⟨by kernel_rfl, ?_⟩; (intro w hSw; (try dsimp only at hSw); go_simp; try with_reducible rfl)
                case hQn20 => exact fun _ _ _ h => h
                try simp only [Act.put, List.setIfInBounds_toArray, List.set_cons_zero, List.set_cons_succ]
                refine wpAnyH_take (i := 21) (oi := ?oin21) (v := ?vn21) ?hin21 ?hsn21 ?hfn21 ?hrn21 ?hQn21 ?hyn21 ?hSn21 ?hn21
                case hin21 => (simp only [List.getElem?_toArray, List.getElem?_cons_succ, List.getElem?_cons_zero]; rfl)
                case hsn21 => kernel_rfl
                case hfn21 => kernel_rfl
                case hrn21 => kernel_rfl
                case hSn21 => first | assumption | trivial
                case hyn21 => refine Or.inl ⟨by kernel_rfl, ?_⟩; (intro w hSw; (try dsimp only at hSw); go_simp; try with_reducible rfl)
                case hQn21 => exact fun _ _ _ h => h
                try simp only [Act.put, List.setIfInBounds_toArray, List.set_cons_zero, List.set_cons_succ]
                refine wpAnyH_take (i := 22) (oi := ?oin22) (v := ?vn22) ?hin22 ?hsn22 ?hfn22 ?hrn22 ?hQn22 ?hyn22 ?hSn22 ?hn22
                case hin22 => (simp only [List.getElem?_toArray, List.getElem?_cons_succ, List.getElem?_cons_zero]; rfl)
                case hsn22 => kernel_rfl
                case hfn22 => kernel_rfl
                case hrn22 => kernel_rfl
                case hSn22 => first | assumption | trivial
                case hyn22 => refine Or.inl ⟨by kernel_rfl, ?_⟩; (intro w hSw; (try dsimp only at hSw); go_simp; try with_reducible rfl)
                case hQn22 => exact fun _ _ _ h => h
                try simp only [Act.put, List.setIfInBounds_toArray, List.set_cons_zero, List.set_cons_succ]
                refine wpAnyH_take (i := 23) (oi := ?oin23) (v := ?vn23) ?hin23 ?hsn23 ?hfn23 ?hrn23 ?hQn23 ?hyn23 ?hSn23 ?hn23
                case hin23 => (simp only [List.getElem?_toArray, List.getElem?_cons_succ, List.getElem?_cons_zero]; rfl)
                case hsn23 => kernel_rfl
                case hfn23 => kernel_rfl
                case hrn23 => kernel_rfl
                case hSn23 => first | assumption | trivial
                case hyn23 => refine Or.inl ⟨by kernel_rfl, ?_⟩; (intro w hSw; (try dsimp only at hSw); go_simp; try with_reducible rfl)
                case hQn23 => exact fun _ _ _ h => h
                try simp only [Act.put, List.setIfInBounds_toArray, List.set_cons_zero, List.set_cons_succ]
                refine wpAnyH_take (i := 24) (oi := ?oin24) (v := ?vn24) ?hin24 ?hsn24 ?hfn24 ?hrn24 ?hQn24 ?hyn24 ?hSn24 ?hn24
                case hin24 => (simp only [List.getElem?_toArray, List.getElem?_cons_succ, List.getElem?_cons_zero]; rfl)
                case hsn24 => kernel_rfl
                case hfn24 => kernel_rfl
                case hrn24 => kernel_rfl
                case hSn24 => first | assumption | trivial
                case hyn24 => refine Or.inl ⟨by kernel_rfl, ?_⟩; (intro w hSw; (try dsimp only at hSw); go_simp; try with_reducible rfl)
                case hQn24 => exact fun _ _ _ h => h
                try simp only [Act.put, List.setIfInBounds_toArray, List.set_cons_zero, List.set_cons_succ]
                refine wpAnyH_take (i := 25) (oi := ?oin25) (v := ?vn25) ?hin25 ?hsn25 ?hfn25 ?hrn25 ?hQn25 ?hyn25 ?hSn25 ?hn25
                case hin25 => (simp only [List.getElem?_toArray, List.getElem?_cons_succ, List.getElem?_cons_zero]; rfl)
                case hsn25 => kernel_rfl
                case hfn25 => kernel_rfl
                case hrn25 => kernel_rfl
                case hSn25 => first | assumption | trivial
                case hyn25 => refine Or.inl ⟨by kernel_rfl, ?_⟩; (intro w hSw; (try dsimp only at hSw); go_simp; try with_reducible rfl)
                case hQn25 => exact fun _ _ _ h => h
                try simp only [Act.put, List.setIfInBounds_toArray, List.set_cons_zero, List.set_cons_succ]
                refine wpAnyH_take (i := 26) (oi := ?oin26) (v := ?vn26) ?hin26 ?hsn26 ?hfn26 ?hrn26 ?hQn26 ?hyn26 ?hSn26 ?hn26
                case hin26 => (simp only [List.getElem?_toArray, List.getElem?_cons_succ, List.getElem?_cons_zero]; rfl)
                case hsn26 => kernel_rfl
                case hfn26 => kernel_rfl
                case hrn26 => kernel_rfl
                case hSn26 => first | assumption | trivial
                case hyn26 => refine Or.inl ⟨by kernel_rfl, ?_⟩; (intro w hSw; (try dsimp only at hSw); go_simp; try with_reducible rfl)
                case hQn26 => exact fun _ _ _ h => h
                try simp only [Act.put, List.setIfInBounds_toArray, List.set_cons_zero, List.set_cons_succ]
                refine wpAnyH_take (i := 27) (oi := ?oin27) (v := ?vn27) ?hin27 ?hsn27 ?hfn27 ?hrn27 ?hQn27 ?hyn27 ?hSn27 ?hn27
                case hin27 => (simp only [List.getElem?_toArray, List.getElem?_cons_succ, List.getElem?_cons_zero]; rfl)
                case hsn27 => kernel_rfl
                case hfn27 => kernel_rfl
                case hrn27 => kernel_rfl
                case hSn27 => first | assumption | trivial
                case hyn27 => refine Or.inl ⟨by kernel_rfl, ?_⟩; (intro w hSw; (try dsimp only at hSw); go_simp; try with_reducible rfl)
                case hQn27 => exact fun _ _ _ h => h
                try simp only [Act.put, List.setIfInBounds_toArray, List.set_cons_zero, List.set_cons_succ]
                refine wpAnyH_take (i := 28) (oi := ?oin28) (v := ?vn28) ?hin28 ?hsn28 ?hfn28 ?hrn28 ?hQn28 ?hyn28 ?hSn28 ?hn28
                case hin28 => (simp only [List.getElem?_toArray, List.getElem?_cons_succ, List.getElem?_cons_zero]; rfl)
                case hsn28 => kernel_rfl
                case hfn28 => kernel_rfl
                case hrn28 => kernel_rfl
                case hSn28 => first | assumption | trivial
                case hyn28 => refine Or.inl ⟨by kernel_rfl, ?_⟩; (intro w hSw; (try dsimp only at hSw); go_simp; try with_reducible rfl)
                case hQn28 => exact fun _ _ _ h => h
                try simp only [Act.put, List.setIfInBounds_toArray, List.set_cons_zero, List.set_cons_succ]
                refine wpAnyH_done (by kernel_rfl) ?_ _
                clear H5
                obtain ⟨s9, e9, hl9, hr9⟩ := rd_dlist HTD.out.1 HTD.out.2
                have HE9 := Lib.hid e9
                have HR9 := Lib.hid hr9
                have HD9 : Hid (DI s9.L d D) := Lib.hid (by rw [hl9]; exact HTD.out.2)
                have HWF : Hid (d.wf ∧ (0 ≤ d.size ∧ d.size ≤ 1000000)) := Lib.hid ⟨HTD.out.2.nw.wf' (by have := HTD.out.1.l; omega), ⟨HTD.out.2.nw.s0, by have := HTD.out.2.le; omega⟩⟩
                clear e9 hl9 hr9
                have HC := Lib.hid (dlist_any (C := memC mb) HT.out.g.at_.1 d HWF.out.1 HWF.out.2 (by rw [HE9.out]; exact HR9.out.ok (by omega)))
                rw [HE9.out] at HC
                have hl1 := fun op a next Q => loadW_blk (P := Tryd.prog) (HT.out.g.kb (gD, 37, encN d) (by simp)) Tryd.underlying37 rfl iszNd op a next Q
                try dsimp only at hl1
                go_wp2_with fail
                refine HC.out.mono ?_
                rintro e w8 ⟨v1, F8, rfl, hls⟩
                have H8 := Lib.hid (HT.out.list hls)
                obtain ⟨xo, xc, rfl, hX⟩ := H8.out.rsl (List.mem_cons_self ..)
                have hlX := fun op a next Q => loadW_blk (P := Tryd.prog) (H8.out.g.kb (gX, 70, encX D) (by simp)) Tryd.underlying70 rfl iszX op a next Q
                try dsimp only at hlX
                have HCL := Lib.hid (List16_any D w8)
                have HXS := Lib.hid hX
                clear hls HC hl1 hX
                go_wp2_with fail
                refine HCL.out.mono ?_
                rintro e w9 ⟨yo, yc, rfl, hY, hb⟩
                have HC2 := Lib.hid (Equal_any (dLst D 32) (dLst D 32) _ _ _ _ w9 (HXS.out.below hb) hY)
                have H9 := Lib.hid (H8.out.below hb)
                clear hb hY HCL hlX HXS
                go_wp2_with fail
                refine HC2.out.mono ?_
                rintro e wE ⟨rfl, hbE⟩
                have HF := Lib.hid (H9.out.below hbE)
                clear hbE HC2
                rw [show decide True = true from rfl]
                go_wp2_with fail
                go_roundw
                case rel => exact ⟨i + 1, d, D, s9, F8, by go_num, by omega, Lib.hid ⟨HF.out.g.r, HR9.out.mono (by omega), HD9.out⟩⟩
                case measure => simp [intOf]; omega
          · have e6 : ((dd : Int) % 4 == 2) = false := by simp; omega
            have e7 : ((dd : Int) % 4 == 3) = false := by simp; omega
            have hlN := fun op a next Q => loadW_mid (P := Tryd.prog) (t := 37) (HNR.out wc hold0) Tryd.underlying37 rfl iszNd op a next Q
            have hst := fun op a next Q => store_newNd n wc op a next Q
            have HV0 := Lib.hid (HLI.out.s.new 37 (encN n))
            obtain ⟨gV, hgV⟩ : ∃ g, g = wc.heap.size := ⟨_, rfl⟩
            obtain ⟨wV, hwV⟩ : ∃ v, v = wc.alloc (.cells (encN n).toArray 37) := ⟨_, rfl⟩
            have HGV : Hid (gV ≠ gD ∧ gV ≠ gX) := Lib.hid ⟨by have := HLI.out.s.g.lt (gD, 37, encN d) (by simp); dsimp only at this; omega, by have := HLI.out.s.g.lt (gX, 70, encX D) (by simp); dsimp only at this; omega⟩
            rw [← hgV, ← hwV] at HV0
            by_cases hin : idOk id
            · obtain ⟨m, rfl⟩ : ∃ m : Nat, id = (m : Int) := ⟨id.toNat, by have := hin.1; omega⟩
              have hm : m < 32 := by have := hin.2; omega
              have e5 : decide (idOk (m : Int)) = true := by simp [hin]
              rw [e5]
              go_upto_region 16 with fail
              rw [← hgV, ← hwV]
              clear hst hlN hgV hwV
              have cz : wV.cell? ⟨gV, 0, none⟩ = some (.int .i64 n.size) := by
                rw [(HV0.out.g.kb (gV, 37, encN n) (by simp)).cell]; rfl
              have hrt : wV.rangeAt gV 1 (encPtr n.root) := fun j v hj => by
                rw [(HV0.out.g.kb (gV, 37, encN n) (by simp)).cell]
                show (encN n)[1 + j]? = some v
                have e : encN n = [.int .i64 n.size] ++ encPtr n.root := rfl
                rw [e, List.getElem?_append_right (by simp)]
                simpa using hj
              have hlR := fun op a next Q => loadW_mid (P := Tryd.prog) (t := 35) hrt Tryd.underlying35 rfl iszPt op a next Q
              have HMY := Lib.hid (May_any n.root wV)
              go_cut [77] (fun v wx => v = .bool (!decide (NdMay n)) ∧ Hid (Below wV.heap.size wV wx))
              case first =>
                by_cases s1 : n.size < 0
                · go_wp2_with fail
                  go_meet
                  exact ⟨by rw [decide_eq_false (show ¬ NdMay n by intro h; have := h.1; omega)]; rfl, Lib.hid (Below.refl _ _)⟩
                · by_cases s2 : 4611686018427387904 ≤ n.size
                  · go_wp2_with fail
                    go_meet
                    exact ⟨by rw [decide_eq_false (show ¬ NdMay n by intro h; have := h.2.1; unfold maxC at this; omega)]; rfl, Lib.hid (Below.refl _ _)⟩
                  · go_wp2_with fail
                    refine HMY.out.mono ?_
                    rintro e w4 ⟨rfl, hb⟩
                    have HB := Lib.hid hb
                    clear hb
                    have hnm : decide (NdMay n) = ptrMay n.root := by
                      cases hp : ptrMay n.root with
                      | true => exact decide_eq_true ⟨by omega, by unfold maxC; omega, hp⟩
                      | false => exact decide_eq_false (fun h => by have h3 := h.2.2; rw [hp] at h3; cases h3)
                    have HNM := Lib.hid hnm
                    clear hnm
                    go_wp2_with fail
                    go_meet
                    exact ⟨by rw [HNM.out], HB⟩
              obtain ⟨rfl, HBC⟩ := hcut
              have HVM := Lib.hid (HV0.out.below HBC.out)
              have HDW : Hid d.wf := Lib.hid (HLI.out.di.nw.wf' (by have := HLI.out.rd.l; omega))
              clear cz hrt hlR c0 c1
              by_cases hmay : NdMay n
              · rw [show (!decide (NdMay n)) = false by simp [hmay]]
                as_aux_lemma =>
                  obtain ⟨q, s2, e2, hr2, hd2⟩ : ∃ q s2, dsetM memF d (m : Int) n st = (.ok q, s2) ∧ Rd (3 * i + 2) s2 ∧ DI s2.L q (dUpd D m (some n)) := by
                    rcases rd_dset HLI.out.rd (by omega) HLI.out.di (m : Int) n HNW.out.root with ⟨h, _⟩ | ⟨_, _, q, s2, e, hr, _, hd, _⟩
                    · exact absurd ⟨hin, hmay⟩ h
                    · rw [show ((m : Int)).toNat = m by omega] at hd
                      exact ⟨q, s2, e, hr.mono (by omega), hd⟩
                  have HE2 := Lib.hid e2
                  have HTD : Hid (Rd (3 * i + 2) s2 ∧ DI s2.L q (dUpd D m (some n))) := Lib.hid ⟨hr2, hd2⟩
                  clear e2 hr2 hd2
                  have HC := Lib.hid (dset_any (C := memC mb) HVM.out.g.at_.1 d HDW.out (m : Int) n HNW.out (by rw [HE2.out]; exact HTD.out.1.ok (by omega)))
                  rw [HE2.out] at HC
                  have hl1 := fun op a next Q => loadW_blk (P := Tryd.prog) (HVM.out.g.kb (gD, 37, encN d) (by simp)) Tryd.underlying37 rfl iszNd op a next Q
                  have hl2 := fun op a next Q => loadW_blk (P := Tryd.prog) (HVM.out.g.kb (gV, 37, encN n) (by simp)) Tryd.underlying37 rfl iszNd op a next Q
                  try dsimp only at hl1 hl2
                  go_wp2_with fail
                  refine HC.out.mono ?_
                  rintro e w5 ⟨hpr, hstep⟩
                  have hpe := NdR.val hpr
                  subst hpe
                  obtain ⟨F5, hs, _, _⟩ := HVM.out.step hstep
                  have H5 := Lib.hid (hs.new 37 (encN (ndV (.ok q))))
                  have hst := fun op a next Q => store_newNd (ndV (.ok q)) w5 op a next Q
                  obtain ⟨g5, hg⟩ : ∃ g, g = w5.heap.size := ⟨_, rfl⟩
                  obtain ⟨w6, hv⟩ : ∃ v, v = w5.alloc (.cells (encN (ndV (.ok q))).toArray 37) := ⟨_, rfl⟩
                  rw [← hv, ← hg] at H5
                  clear hstep hs HC hl1 hl2 hpr
                  go_upto_region 19 with fail
                  rw [← hv, ← hg]
                  clear hst hv hg
                  have HL1 := Lib.hid ((H5.out.sub [(gD, 37, encN d), (gX, 70, encX D), (gV, 37, encN n)] (by simp)).put (o := 0) (vs := encN q) (ds := encN q) HGX.out.1 (by simp only [List.mem_cons, List.not_mem_nil, or_false]; rintro b (rfl | rfl) <;> first | exact HGX.out.2.2.symm | exact HGV.out.1) ((H5.out.g.kb (gD, 37, encN d) (by simp)).put rfl) (by decide))
                  have hl := fun op a next Q => loadW_blk (P := Tryd.prog) (H5.out.g.kb (g5, 37, encN (ndV (.ok q))) (by simp)) Tryd.underlying37 rfl iszNd op a next Q
                  have hst := fun op a next Q => storeW_part (P := Tryd.prog) (t := 37) (o := 0) (cs := encN q) (H5.out.g.kb (gD, 37, encN d) (by simp)) (Nat.le_refl 13) iszNd (encN_ones _) op a next Q
                  obtain ⟨w7, hv7⟩ : ∃ v, v = w6.setCells gD 0 (encN q) := ⟨_, rfl⟩
                  rw [← hv7] at HL1 hst
                  clear hv7
                  have hlV := fun op a next Q => loadW_blk (P := Tryd.prog) (w := w7.setCell ⟨gX, m, none⟩ (.bool true)) (Blk.away (HL1.out.g.kb (gV, 37, encN n) (by simp)) m [.bool true] HGV.out.2) Tryd.underlying37 rfl iszNd op a next Q
                  try dsimp only at hlV
                  have HBX : Hid (Blk w7 gX 70 (encX D)) := Lib.hid (HL1.out.g.kb (gX, 70, encX D) (by simp))
                  have cX7 : w7.cell? ⟨gX, m, none⟩ = some (.bool (D m).isSome) := by rw [HBX.out.cell, encX_has D hm]
                  have fX7 : w7.frozen? ⟨gX, m, none⟩ = false := HBX.out.frozen m
                  obtain ⟨wN, hwN⟩ : ∃ v, v = (w7.setCell ⟨gX, m, none⟩ (.bool true)).setCells gX (32 + m * 13) (encN n) := ⟨_, rfl⟩
                  have hstN : ∀ op a next Q, StoreW Tryd.prog op 37 (.pointer (some ⟨gX, 32 + m * 13, none⟩)) (.agg (encN n).toArray) a (w7.setCell ⟨gX, m, none⟩ (.bool true)) next Q = next (a.put op.dst undef) wN := fun op a next Q => by
                    rw [hwN]; exact storeW_part (P := Tryd.prog) (t := 37) (o := 32 + m * 13) (cs := encN n) (HBX.out.setCell m (.bool true)) (by rw [List.length_set, encX_len]; show 32 + m * 13 + 13 ≤ 448; omega) iszNd (encN_ones _) op a next Q
                  have HUP := Lib.hid ((HL1.out.sub [(gX, 70, encX D), (gD, 37, encN q)] (by simp)).upd HGX.out.2.1 (by simp only [List.mem_cons, List.not_mem_nil, or_false]; rintro b rfl; exact HGX.out.2.2) hm (some n))
                  rw [show (w7.setCell ⟨gX, m, none⟩ (.bool (some n : Option NodeT).isSome)).setCells gX (32 + m * 13) (encN (dRes (some n)).1) = wN from hwN.symm] at HUP
                  clear hwN
                  unfold errV
                  unfold ndV at hl
                  go_upto_region 39 with fail
                  have HT : Hid (LdR mb wm wN s2 F5 [(gD, 37, encN q), (gX, 70, encX (dUpd D m (some n)))] []) := Lib.hid (HUP.out.sub _ (by simp))
                  clear H5 HL1 HUP hl hst hstN cX7 fX7 hlV
                  obtain ⟨s9, e9, hl9, hr9⟩ := rd_dlist HTD.out.1 HTD.out.2
                  have HE9 := Lib.hid e9
                  have HR9 := Lib.hid hr9
                  have HD9 : Hid (DI s9.L q (dUpd D m (some n))) := Lib.hid (by rw [hl9]; exact HTD.out.2)
                  have HWF : Hid (q.wf ∧ (0 ≤ q.size ∧ q.size ≤ 1000000)) := Lib.hid ⟨HTD.out.2.nw.wf' (by have := HTD.out.1.l; omega), ⟨HTD.out.2.nw.s0, by have := HTD.out.2.le; omega⟩⟩
                  clear e9 hl9 hr9
                  have HC := Lib.hid (dlist_any (C := memC mb) HT.out.g.at_.1 q HWF.out.1 HWF.out.2 (by rw [HE9.out]; exact HR9.out.ok (by omega)))
                  rw [HE9.out] at HC
                  have hl1 := fun op a next Q => loadW_blk (P := Tryd.prog) (HT.out.g.kb (gD, 37, encN q) (by simp)) Tryd.underlying37 rfl iszNd op a next Q
                  try dsimp only at hl1
                  go_wp2_with fail
                  refine HC.out.mono ?_
                  rintro e w8 ⟨v1, F8, rfl, hls⟩
                  have H8 := Lib.hid (HT.out.list hls)
                  obtain ⟨xo, xc, rfl, hX⟩ := H8.out.rsl (List.mem_cons_self ..)
                  have hlX := fun op a next Q => loadW_blk (P := Tryd.prog) (H8.out.g.kb (gX, 70, encX (dUpd D m (some n))) (by simp)) Tryd.underlying70 rfl iszX op a next Q
                  try dsimp only at hlX
                  have HCL := Lib.hid (List16_any (dUpd D m (some n)) w8)
                  have HXS := Lib.hid hX
                  clear hls HC hl1 hX
                  go_wp2_with fail
                  refine HCL.out.mono ?_
                  rintro e w9 ⟨yo, yc, rfl, hY, hb⟩
                  have HC2 := Lib.hid (Equal_any (dLst (dUpd D m (some n)) 32) (dLst (dUpd D m (some n)) 32) _ _ _ _ w9 (HXS.out.below hb) hY)
                  have H9 := Lib.hid (H8.out.below hb)
                  clear hb hY HCL hlX HXS
                  go_wp2_with fail
                  refine HC2.out.mono ?_
                  rintro e wE ⟨rfl, hbE⟩
                  have HF := Lib.hid (H9.out.below hbE)
                  clear hbE HC2
                  rw [show decide True = true from rfl]
                  go_wp2_with fail
                  go_roundw
                  case rel => exact ⟨i + 1, q, (dUpd D m (some n)), s9, F8, by go_num, by omega, Lib.hid ⟨HF.out.g.r, HR9.out.mono (by omega), HD9.out⟩⟩
                  case measure => simp [intOf]; omega
              · rw [show (!decide (NdMay n)) = true by simp [hmay]]
                as_aux_lemma =>
                  obtain ⟨s2, e2, hr2, hd2⟩ : ∃ s2, dsetM memF d (m : Int) n st = (.error 1, s2) ∧ Rd (3 * i + 2) s2 ∧ DI s2.L d D := by
                    rcases rd_dset HLI.out.rd (by omega) HLI.out.di (m : Int) n HNW.out.root with ⟨_, e⟩ | ⟨h1, h2, _⟩
                    · exact ⟨st, by rw [e]; rfl, HLI.out.rd.mono (by omega), HLI.out.di⟩
                    · exact absurd h2 hmay
                  have HE2 := Lib.hid e2
                  have HTD : Hid (Rd (3 * i + 2) s2 ∧ DI s2.L d D) := Lib.hid ⟨hr2, hd2⟩
                  clear e2 hr2 hd2
                  have HC := Lib.hid (dset_any (C := memC mb) HVM.out.g.at_.1 d HDW.out (m : Int) n HNW.out (by rw [HE2.out]; exact HTD.out.1.ok (by omega)))
                  rw [HE2.out] at HC
                  have hl1 := fun op a next Q => loadW_blk (P := Tryd.prog) (HVM.out.g.kb (gD, 37, encN d) (by simp)) Tryd.underlying37 rfl iszNd op a next Q
                  have hl2 := fun op a next Q => loadW_blk (P := Tryd.prog) (HVM.out.g.kb (gV, 37, encN n) (by simp)) Tryd.underlying37 rfl iszNd op a next Q
                  try dsimp only at hl1 hl2
                  go_wp2_with fail
                  refine HC.out.mono ?_
                  rintro e w5 ⟨hpr, hstep⟩
                  have hpe := NdR.val hpr
                  subst hpe
                  obtain ⟨F5, hs, _, _⟩ := HVM.out.step hstep
                  have H5 := Lib.hid (hs.new 37 (encN (ndV (.error 1))))
                  have hst := fun op a next Q => store_newNd (ndV (.error 1)) w5 op a next Q
                  obtain ⟨g5, hg⟩ : ∃ g, g = w5.heap.size := ⟨_, rfl⟩
                  obtain ⟨w6, hv⟩ : ∃ v, v = w5.alloc (.cells (encN (ndV (.error 1))).toArray 37) := ⟨_, rfl⟩
                  rw [← hv, ← hg] at H5
                  clear hstep hs HC hl1 hl2 hpr
                  go_upto_region 19 with fail
                  rw [← hv, ← hg]
                  clear hst hv hg
                  have HT : Hid (LdR mb wm w6 s2 F5 [(gD, 37, encN d), (gX, 70, encX D)] []) := Lib.hid (H5.out.sub _ (by simp))
                  clear H5
                  unfold errV
                  obtain ⟨s9, e9, hl9, hr9⟩ := rd_dlist HTD.out.1 HTD.out.2
                  have HE9 := Lib.hid e9
                  have HR9 := Lib.hid hr9
                  have HD9 : Hid (DI s9.L d D) := Lib.hid (by rw [hl9]; exact HTD.out.2)
                  have HWF : Hid (d.wf ∧ (0 ≤ d.size ∧ d.size ≤ 1000000)) := Lib.hid ⟨HTD.out.2.nw.wf' (by have := HTD.out.1.l; omega), ⟨HTD.out.2.nw.s0, by have := HTD.out.2.le; omega⟩⟩
                  clear e9 hl9 hr9
                  have HC := Lib.hid (dlist_any (C := memC mb) HT.out.g.at_.1 d HWF.out.1 HWF.out.2 (by rw [HE9.out]; exact HR9.out.ok (by omega)))
                  rw [HE9.out] at HC
                  have hl1 := fun op a next Q => loadW_blk (P := Tryd.prog) (HT.out.g.kb (gD, 37, encN d) (by simp)) Tryd.underlying37 rfl iszNd op a next Q
                  try dsimp only at hl1
                  go_wp2_with fail
                  refine HC.out.mono ?_
                  rintro e w8 ⟨v1, F8, rfl, hls⟩
                  have H8 := Lib.hid (HT.out.list hls)
                  obtain ⟨xo, xc, rfl, hX⟩ := H8.out.rsl (List.mem_cons_self ..)
                  have hlX := fun op a next Q => loadW_blk (P := Tryd.prog) (H8.out.g.kb (gX, 70, encX D) (by simp)) Tryd.underlying70 rfl iszX op a next Q
                  try dsimp only at hlX
                  have HCL := Lib.hid (List16_any D w8)
                  have HXS := Lib.hid hX
                  clear hls HC hl1 hX
                  go_wp2_with fail
                  refine HCL.out.mono ?_
                  rintro e w9 ⟨yo, yc, rfl, hY, hb⟩
                  have HC2 := Lib.hid (Equal_any (dLst D 32) (dLst D 32) _ _ _ _ w9 (HXS.out.below hb) hY)
                  have H9 := Lib.hid (H8.out.below hb)
                  clear hb hY HCL hlX HXS
                  go_wp2_with fail
                  refine HC2.out.mono ?_
                  rintro e wE ⟨rfl, hbE⟩
                  have HF := Lib.hid (H9.out.below hbE)
                  clear hbE HC2
                  rw [show decide True = true from rfl]
                  go_wp2_with fail
                  go_roundw
                  case rel => exact ⟨i + 1, d, D, s9, F8, by go_num, by omega, Lib.hid ⟨HF.out.g.r, HR9.out.mono (by omega), HD9.out⟩⟩
                  case measure => simp [intOf]; omega
            · have e5 : decide (idOk id) = false := by simp [hin]
              rw [e5]
              go_upto_region 16 with fail
              rw [← hgV, ← hwV]
              clear hst hlN hgV hwV
              have HVM := HV0
              have HDW : Hid d.wf := Lib.hid (HLI.out.di.nw.wf' (by have := HLI.out.rd.l; omega))
              clear c0 c1
              as_aux_lemma =>
                obtain ⟨s2, e2, hr2, hd2⟩ : ∃ s2, dsetM memF d id n st = (.error 1, s2) ∧ Rd (3 * i + 2) s2 ∧ DI s2.L d D := by
                  rcases rd_dset HLI.out.rd (by omega) HLI.out.di id n HNW.out.root with ⟨_, e⟩ | ⟨h1, h2, _⟩
                  · exact ⟨st, by rw [e]; rfl, HLI.out.rd.mono (by omega), HLI.out.di⟩
                  · exact absurd h1 hin
                have HE2 := Lib.hid e2
                have HTD : Hid (Rd (3 * i + 2) s2 ∧ DI s2.L d D) := Lib.hid ⟨hr2, hd2⟩
                clear e2 hr2 hd2
                have HC := Lib.hid (dset_any (C := memC mb) HVM.out.g.at_.1 d HDW.out id n HNW.out (by rw [HE2.out]; exact HTD.out.1.ok (by omega)))
                rw [HE2.out] at HC
                have hl1 := fun op a next Q => loadW_blk (P := Tryd.prog) (HVM.out.g.kb (gD, 37, encN d) (by simp)) Tryd.underlying37 rfl iszNd op a next Q
                have hl2 := fun op a next Q => loadW_blk (P := Tryd.prog) (HVM.out.g.kb (gV, 37, encN n) (by simp)) Tryd.underlying37 rfl iszNd op a next Q
                try dsimp only at hl1 hl2
                go_wp2_with fail
                refine HC.out.mono ?_
                rintro e w5 ⟨hpr, hstep⟩
                have hpe := NdR.val hpr
                subst hpe
                obtain ⟨F5, hs, _, _⟩ := HVM.out.step hstep
                have H5 := Lib.hid (hs.new 37 (encN (ndV (.error 1))))
                have hst := fun op a next Q => store_newNd (ndV (.error 1)) w5 op a next Q
                obtain ⟨g5, hg⟩ : ∃ g, g = w5.heap.size := ⟨_, rfl⟩
                obtain ⟨w6, hv⟩ : ∃ v, v = w5.alloc (.cells (encN (ndV (.error 1))).toArray 37) := ⟨_, rfl⟩
                rw [← hv, ← hg] at H5
                clear hstep hs HC hl1 hl2 hpr
                go_upto_region 19 with fail
                rw [← hv, ← hg]
                clear hst hv hg
                have HT : Hid (LdR mb wm w6 s2 F5 [(gD, 37, encN d), (gX, 70, encX D)] []) := Lib.hid (H5.out.sub _ (by simp))
                clear H5
                unfold errV
                obtain ⟨s9, e9, hl9, hr9⟩ := rd_dlist HTD.out.1 HTD.out.2
                have HE9 := Lib.hid e9
                have HR9 := Lib.hid hr9
                have HD9 : Hid (DI s9.L d D) := Lib.hid (by rw [hl9]; exact HTD.out.2)
                have HWF : Hid (d.wf ∧ (0 ≤ d.size ∧ d.size ≤ 1000000)) := Lib.hid ⟨HTD.out.2.nw.wf' (by have := HTD.out.1.l; omega), ⟨HTD.out.2.nw.s0, by have := HTD.out.2.le; omega⟩⟩
                clear e9 hl9 hr9
                have HC := Lib.hid (dlist_any (C := memC mb) HT.out.g.at_.1 d HWF.out.1 HWF.out.2 (by rw [HE9.out]; exact HR9.out.ok (by omega)))
                rw [HE9.out] at HC
                have hl1 := fun op a next Q => loadW_blk (P := Tryd.prog) (HT.out.g.kb (gD, 37, encN d) (by simp)) Tryd.underlying37 rfl iszNd op a next Q
                try dsimp only at hl1
                go_wp2_with fail
                refine HC.out.mono ?_
                rintro e w8 ⟨v1, F8, rfl, hls⟩
                have H8 := Lib.hid (HT.out.list hls)
                obtain ⟨xo, xc, rfl, hX⟩ := H8.out.rsl (List.mem_cons_self ..)
                have hlX := fun op a next Q => loadW_blk (P := Tryd.prog) (H8.out.g.kb (gX, 70, encX D) (by simp)) Tryd.underlying70 rfl iszX op a next Q
                try dsimp only at hlX
                have HCL := Lib.hid (List16_any D w8)
                have HXS := Lib.hid hX
                clear hls HC hl1 hX
                go_wp2_with fail
                refine HCL.out.mono ?_
                rintro e w9 ⟨yo, yc, rfl, hY, hb⟩
                have HC2 := Lib.hid (Equal_any (dLst D 32) (dLst D 32) _ _ _ _ w9 (HXS.out.below hb) hY)
                have H9 := Lib.hid (H8.out.below hb)
                clear hb hY HCL hlX HXS
                go_wp2_with fail
                refine HC2.out.mono ?_
                rintro e wE ⟨rfl, hbE⟩
                have HF := Lib.hid (H9.out.below hbE)
                clear hbE HC2
                rw [show decide True = true from rfl]
                go_wp2_with fail
                go_roundw
                case rel => exact ⟨i + 1, d, D, s9, F8, by go_num, by omega, Lib.hid ⟨HF.out.g.r, HR9.out.mono (by omega), HD9.out⟩⟩
                case measure => simp [intOf]; omega
      · have q3 : ¬ (i : Int) < (len : Int) := by omega
        have HFIN := Lib.hid (HLI.out.s.old HOLD.out HMB.out)
        go_wp2_with fail
        go_ret
        exact ⟨rfl, HFIN.out⟩
end Go.Proofs.YtbhofablndjeoaaDoor
