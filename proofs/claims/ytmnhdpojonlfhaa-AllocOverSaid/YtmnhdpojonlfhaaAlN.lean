/- The walk of alloc.New. -/
import Derived.Test.YtmnhdpojonlfhaaAlM
import Derived.Deep.DeepCutAuto
import Derived.Deep.CutBlock
namespace Go.Proofs.Ytmnhdpojonlfhaa
open Go.RowKit
attribute [local go_sem ↓] Go.wp_at_zero Go.wp_at_succ

theorem infoP : (Try.prog.info? 35).map (fun i => (i.zero, i.size, i.bytes)) = some (some (.pointer none), 1, 8) := by kernel_rfl
theorem encN_zero (n : Nat) : (madeCells (Value.int .i64 0).cells (n * 1)).toList = encN (List.replicate n 0) := by
  rw [Nat.mul_one, encN, List.map_replicate]
  exact toList_madeCells_one _ _

theorem anew_no (ao : Option Addr) (n cap : Nat) (gs : Gs) (secs : Int) (w : World) (h : GSl w ao n cap gs) (hr : rightB gs secs = false) :
    Calls Try.prog 58 #[.agg #[.slice ao n cap, .int .i64 secs]] w fun e w' => e = .returned (.tuple #[.pointer none, .int .i64 1]) ∧ Below w.heap.size w w' := by
  have hb0 : Below w.heap.size w (w.alloc (.cells #[.slice ao n cap, .int .i64 secs] 96)) := (Below.refl _ _).alloc (Nat.le_refl _) _
  have hT := gright_any ao n cap gs secs (w.alloc (.cells #[.slice ao n cap, .int .i64 secs] 96)) (h.below hb0)
  rw [hr] at hT
  have HT := Lib.hid hT
  have HB0 := Lib.hid hb0
  clear hT hr h hb0
  go_enter Try.func58, Try.ntmps58
  go_wp2_with fail
  refine HT.out.mono ?_
  rintro e w1 ⟨rfl, hb1⟩
  go_wp2_with fail
  go_ret2
  exact ⟨rfl, HB0.out.trans (hb1.mono (by simp))⟩

/-- the maps of a new book -/
def newM (gs : Gs) (secs : Int) (bs : List Nat) (k : Nat) : List MT := (List.range k).map fun i => (bs.getD i 0, (sect (gs.getD i (0, 0)) secs).toNat, [])

set_option maxHeartbeats 3200000 in
set_option maxRecDepth 100000 in
theorem anew_yes (ao : Option Addr) (n cap : Nat) (gs : Gs) (secs : Int) (w : World) (h : GSl w ao n cap gs) (hr : rightB gs secs = true) :
    Calls Try.prog 58 #[.agg #[.slice ao n cap, .int .i64 secs]] w fun e w' => ∃ bb eb ms, e = .returned (.tuple #[.pointer (some ⟨bb, 0, none⟩), .int .i64 0]) ∧ IsBook w' bb eb gs secs ms (List.replicate gs.length 0) ∧
      (∀ j, j < gs.length → (ms.getD j mD).2 = ((sect (gs.getD j (0, 0)) secs).toNat, [])) ∧ (∀ k, foot bb eb ms k → w.heap.size ≤ k) ∧ Below w.heap.size w w' := by
  have hl := h.len
  have hn4 := (rightB_spec hr).2.1
  have hn1 := (rightB_spec hr).1
  obtain ⟨i0, hi, hz0, hz1, hz2⟩ := info_parts infoI
  have hb0 : Below w.heap.size w (w.alloc (.cells #[.slice ao n cap, .int .i64 secs] 96)) := (Below.refl _ _).alloc (Nat.le_refl _) _
  have hT := gright_any ao n cap gs secs (w.alloc (.cells #[.slice ao n cap, .int .i64 secs] 96)) (h.below hb0)
  have hc0 : (w.alloc (.cells #[.slice ao n cap, .int .i64 secs] 96)).cell? ⟨w.heap.size, 0, none⟩ = some (.slice ao n cap) := by rw [World.cell?_alloc_at _ _ _ _ rfl]; rfl
  have hc1 : (w.alloc (.cells #[.slice ao n cap, .int .i64 secs] 96)).cell? ⟨w.heap.size, 1, none⟩ = some (.int .i64 secs) := by rw [World.cell?_alloc_at _ _ _ _ rfl]; rfl
  have HC0 := Lib.hid hc0
  have HC1 := Lib.hid hc1
  have HB0 := Lib.hid hb0
  rw [hr] at hT
  have HT := Lib.hid hT
  have HL := Lib.hid hl
  have HG := Lib.hid h
  have HRT := Lib.hid hr
  have hnn : n ≤ 4 := by omega
  have hnn1 : 1 ≤ n := by omega
  have hmk : ∀ W : World, (Instr.makeSlice 127 (.int .i64 (n : Int)) (.int .i64 (n : Int))).run Try.prog W = .ok (.slice (some ⟨W.heap.size, 0, none⟩) n n) (W.alloc (.cells (encN (List.replicate n 0)).toArray 3)) := fun W => by
    have := run_make (P := Try.prog) W 127 3 i0 (.int .i64 0) Try.underlying127 hi hz0 .i64 .i64 (n : Int) (n : Int) (by omega) (by omega) (by rw [hz2]; omega) (by omega)
    rw [this, hz1]
    simp only [Int.toNat_natCast]
    have e := encN_zero n
    rw [← e]
  clear hT hr h hb0 hc0 hc1 hl hn4 hn1 hi hz0 hz1 hz2
  go_enter Try.func58, Try.ntmps58
  go_wp2_with fail
  refine HT.out.mono ?_
  rintro e w1 ⟨rfl, hb1⟩
  have B1 := Lib.hid (HB0.out.trans (hb1.mono (by simp)))
  have hsz1 : w.heap.size + 1 ≤ w1.heap.size := by have := hb1.size; simpa using this
  have c0 : w1.cell? ⟨w.heap.size, 0, none⟩ = some (.slice ao n cap) := by rw [hb1.cell (p := ⟨w.heap.size, 0, none⟩) (by simp)]; exact HC0.out
  have c1 : w1.cell? ⟨w.heap.size, 1, none⟩ = some (.int .i64 secs) := by rw [hb1.cell (p := ⟨w.heap.size, 1, none⟩) (by simp)]; exact HC1.out
  have K0 := Lib.hid c0
  have K1 := Lib.hid c1
  clear hb1
  go_upto_region 3 with fail
  go_cut [4] (fun v wx => ∃ (bb eb : Nat) (gv : Value), v = .pointer (some ⟨bb, 0, none⟩) ∧ Hid (Blk wx bb 145 [gv, .int .i64 secs, .slice none 0 0, .slice (some ⟨eb, 0, none⟩) n n]) ∧ Hid (wx.ownsRow 0 140 2 gv n (encG gs)) ∧ Hid (Blk wx eb 3 (encN (List.replicate n 0))) ∧ Hid (Below w1.heap.size w1 wx) ∧ w.heap.size + 1 ≤ bb ∧ w.heap.size ≤ eb)
  case first =>
    have HCL := Lib.hid fun W (hW : Below w1.heap.size w1 W) => (cloneG_any ao n cap (encG gs) W (RSl.below (RSl.below HG.out B1.out) hW) (encG_one _) (by omega)).mono fun e w' (hh : ∃ v, e = .returned v ∧ w'.ownsRow W.heap.size 140 2 v n (encG gs) ∧ Below W.heap.size W w') => (show ∃ v, e = .returned v ∧ w'.ownsRow W.heap.size 140 2 v n (encG gs) ∧ Below W.heap.size W w' ∧ Below w1.heap.size w1 w' from by obtain ⟨v, h1, h2, h3⟩ := hh; exact ⟨v, h1, h2, h3, hW.trans (h3.mono hW.size)⟩)
    have hlt1 : w.heap.size < w1.heap.size := by omega
    go_region_held3 (fun w' => w'.cell? ⟨w.heap.size, 0, none⟩ = some (.slice ao n cap) ∧ w'.cell? ⟨w.heap.size, 1, none⟩ = some (.int .i64 secs)) (go_keep)
      (first
        | (go_at_call 94; refine (HCL.out _ (by first | exact (Below.refl _ _).drew | exact ((Below.refl _ _).drew).alloc (Nat.le_refl _) _ | exact ((Below.refl _ _).alloc (Nat.le_refl _) _).drew)).mono ?_; rintro e w2 ⟨v2, rfl, hown2, hb2, hbw2⟩; obtain ⟨ao2, cap2, rfl, _⟩ := RSl.of_owns hown2; have hd0 := (hbw2.cell (p := ⟨w.heap.size, 0, none⟩) hlt1).trans K0.out; have hd1 := (hbw2.cell (p := ⟨w.heap.size, 1, none⟩) hlt1).trans K1.out))
    · go_wp2_with fail
      go_meet
      refine ⟨_, _, _, rfl, Lib.hid (Blk.newAt 145 [.slice ao2 n cap2, .int .i64 secs, .slice none 0 0, .slice (some ⟨w2.heap.size, 0, none⟩) n n] (by simp)), Lib.hid (owns_weaken ((hown2.alloc _).alloc _) (Nat.zero_le _)), Lib.hid ((Blk.new w2 3 (encN (List.replicate n 0))).alloc _), Lib.hid ((hbw2.alloc hbw2.size _).alloc (by have := hbw2.size; simp; omega) _), by have := hbw2.size; omega, by have := hbw2.size; omega⟩
    · go_wp2_with fail
      go_meet
      refine ⟨_, _, _, rfl, Lib.hid (Blk.newAt 145 [.slice ao2 n cap2, .int .i64 secs, .slice none 0 0, .slice (some ⟨w1.heap.size, 0, none⟩) n n] rfl), Lib.hid (owns_weaken (hown2.alloc _) (Nat.zero_le _)), Lib.hid (((Blk.new w1 3 (encN (List.replicate n 0))).drew.below hb2).alloc _), Lib.hid (hbw2.alloc hbw2.size _), by have := hbw2.size; omega, by omega⟩
  case rest =>
    obtain ⟨bb, eb, gv, rfl, hbk, hgv, heb, hbw, hbb, hee⟩ := hcut
    have hlt1 : w.heap.size < w1.heap.size := by omega
    have c0c : wc.cell? ⟨w.heap.size, 0, none⟩ = some (.slice ao n cap) := (hbw.out.cell (p := ⟨w.heap.size, 0, none⟩) hlt1).trans K0.out
    have HBW := Lib.hid (hbw.out.mono (show w.heap.size + 1 ≤ w1.heap.size by omega))
    have hszc := hbw.out.size
    clear hmk c0 c1
    obtain ⟨p0, hp, hp0, hp1, hp2⟩ := info_parts infoP
    go_wp2_with fail
    clear c0c
    go_loopw [26] (fun i wr => ∃ (k : Nat) (bs : List Nat) (mv : Value), k ≤ n ∧ i = .int .i64 k ∧ bs.length = k ∧ Hid (Blk wr bb 145 [gv, .int .i64 secs, mv, .slice (some ⟨eb, 0, none⟩) n n]) ∧ Hid (wr.ownsRow 0 140 2 gv n (encG gs)) ∧ Hid (Blk wr eb 3 (encN (List.replicate n 0))) ∧
      Hid (wr.ownsRow (w.heap.size + 1) 35 1 mv k (encM bs)) ∧ Hid (∀ j, j < k → IsMap wr (bs.getD j 0) (sect (gs.getD j (0, 0)) secs).toNat []) ∧ Hid bs.Nodup ∧ Hid (∀ b ∈ bs, w.heap.size ≤ b ∧ b < wr.heap.size) ∧ Hid (Below (w.heap.size + 1) w1 wr)) (fun i _ => n - (intOf i).toNat)
    case atStart => exact ⟨0, [], _, by omega, rfl, rfl, hbk, hgv, heb, Lib.hid (World.ownsRow_nil _ _ _ _), Lib.hid (fun j hj => absurd hj (by omega)), Lib.hid List.nodup_nil, Lib.hid (by simp), HBW⟩
    case round =>
      obtain ⟨k, bs, mv, hk, rfl, hbl, BK, GV, EB, MV, MP, ND, BB, HBR⟩ := hrel
      clear hbk hgv heb hbw HBW
      by_cases hkn : k < n
      · obtain ⟨mo, mc, rfl, _⟩ := RSl.of_owns MV.out
        have hlw : w.heap.size < w.heap.size + 1 := Nat.lt_succ_self _
        have c0 : wr.cell? ⟨w.heap.size, 0, none⟩ = some (.slice ao n cap) := (HBR.out.cell (p := ⟨w.heap.size, 0, none⟩) hlw).trans K0.out
        have c1 : wr.cell? ⟨w.heap.size, 1, none⟩ = some (.int .i64 secs) := (HBR.out.cell (p := ⟨w.heap.size, 1, none⟩) hlw).trans K1.out
        have hBr : Below w.heap.size w wr := B1.out.trans (HBR.out.mono (by omega))
        have hS := gsectors_any ao n cap gs secs (k : Nat) wr (HG.out.below hBr)
        have hgk := getD_right HRT.out (show k < gs.length by have := HL.out; omega)
        obtain ⟨_, _, s1, s2, _⟩ := rightB_spec HRT.out
        have hsb := sect_bd hgk s1 s2
        have hse : sectI gs secs (k : Nat) = ((sect (gs.getD k (0, 0)) secs).toNat : Nat) := by
          unfold sectI
          rw [if_pos (hasB_mk HRT.out (by omega) (by have := HL.out; omega)), Int.toNat_natCast]
          omega
        obtain ⟨z, hz⟩ : ∃ z, z = (sect (gs.getD k (0, 0)) secs).toNat := ⟨_, rfl⟩
        rw [← hz] at hse
        rw [hse] at hS
        have HS := Lib.hid hS
        have hz1 : 1 ≤ z := by omega
        have hz2 : z ≤ 65536 := by omega
        have HZ := Lib.hid hz
        have HBr := Lib.hid hBr
        have HBL := Lib.hid hbl
        clear hS hgk hsb hse hz hBr hbl
        go_wp2_with fail
        refine HS.out.mono ?_
        rintro e w2 ⟨rfl, hb2⟩
        have hsz2 := hb2.size
        have B2 := Lib.hid hb2
        clear hb2
        go_wp2_with fail
        refine (new_yes z w2 hz1 hz2).mono ?_
        rintro e w3 ⟨rfl, hm3, hb3⟩
        have B3 := Lib.hid (B2.out.trans (hb3.mono hsz2))
        have hsz3 := hb3.size
        have hlt3 := hm3.lt
        have M3 := Lib.hid hm3
        obtain ⟨nb, hnb⟩ : ∃ nb, nb = w2.heap.size := ⟨_, rfl⟩
        rw [← hnb] at hlt3 M3 ⊢
        have hnbr : wr.heap.size ≤ nb := by omega
        have BK3 := Lib.hid (BK.out.below B3.out)
        have O3 := Lib.hid (owns_below MV.out B3.out)
        have d2 : w3.cell? ⟨bb, 2, none⟩ = some (.slice mo k mc) := BK3.out.cell 2
        have hszr := HBR.out.size
        clear hm3 hb3 hnb c0 c1
        go_wp2_with (at_builtin; go_must (refine wpList_append_own _ rfl (.tmp 40) (.tmp 42) 143 rfl (w.heap.size + 1) 35 p0 (.pointer none) 1 8 Try.underlying143 hp hp0 hp1 hp2 rfl (by decide) (.slice mo k mc) k (encM bs) rfl (O3.out.alloc _) ⟨w3.heap.size, 0, none⟩ 1 1 (encM [nb]) rfl rfl (Blk.news (Blk.newAt (w := w3) 35 (encM [nb]) (by simp))) (encM_one _) (by unfold maxLen; omega) (by omega) (by simp; omega) ?_; intro v4 w4 hown4 hgrow4 _; rw [← encM_append] at hown4; have BK4 := Lib.hid ((BK3.out.alloc (.cells (encM [nb]).toArray 35)).ownKept (O3.out.alloc _) (by decide) hgrow4); have hcb4 := BK4.out.cell 2; have hfb4 := BK4.out.frozen 2; obtain ⟨vo, vc, rfl, _⟩ := RSl.of_owns hown4; have O4 := Lib.hid hown4; have G4 := Lib.hid hgrow4; clear hown4 hgrow4))
        have hA : Below w3.heap.size w3 (w3.alloc (.cells (encM [nb]).toArray 35)) := (Below.refl _ _).alloc (Nat.le_refl _) _
        have hMM : ∀ b sz, IsMap w3 b sz [] → IsMap (w4.setCell ⟨bb, 2, none⟩ (.slice vo (k + 1) vc)) b sz [] := fun b sz h => ((h.below hA).ownKept (O3.out.alloc _) (by decide) (by decide) G4.out).setOther BK4.out (by decide) (by decide)
        have hG4 := G4.out.size
        simp only [World.size_alloc] at hG4
        go_roundw
        case rel =>
          refine ⟨k + 1, bs ++ [nb], _, by omega, by go_num, by simp [HBL.out], Lib.hid (BK4.out.setCell 2 _), Lib.hid (owns_setOther (owns_ownKept (owns_below (owns_below GV.out B3.out) hA) (O3.out.alloc _) (by decide) G4.out) BK4.out (by decide)),
            Lib.hid ((((EB.out.below B3.out).below hA).ownKept (O3.out.alloc _) (by decide) G4.out).other (a := ⟨bb, 2, none⟩) ?_ _), Lib.hid (owns_setOther O4.out BK4.out (by decide)), Lib.hid ?_, Lib.hid ?_, Lib.hid ?_, Lib.hid ?_⟩
          · rintro rfl
            have h1 := BK.out
            have h2 := EB.out
            unfold Blk at h1 h2
            rw [h1] at h2
            simp only [Option.some.injEq, Obj.cells.injEq] at h2
            exact absurd h2.2.1 (by decide)
          · intro j hj
            rcases Nat.lt_or_ge j k with hlt | hge
            · have e1 : (bs ++ [nb]).getD j 0 = bs.getD j 0 := by rw [List.getD_eq_getElem?_getD, List.getD_eq_getElem?_getD, List.getElem?_append_left (by have := HBL.out; omega)]
              rw [e1]
              obtain ⟨q1, q2, q3, q4, v, q5, q6⟩ := (MP.out j hlt).below B3.out
              exact hMM _ _ ⟨q1, q2, q3, q4, v, q5, q6⟩
            · have e0 : j = k := by omega
              subst e0
              have e1 : (bs ++ [nb]).getD j 0 = nb := by rw [List.getD_eq_getElem?_getD, List.getElem?_append_right (by have := HBL.out; omega), HBL.out]; simp
              rw [e1, ← HZ.out]
              exact hMM _ _ M3.out
          · rw [List.nodup_append]
            refine ⟨ND.out, by simp, fun a ha b hb => ?_⟩
            rw [List.mem_singleton.1 hb]
            have := (BB.out a ha).2
            omega
          · intro b hb
            have hs : (w4.setCell ⟨bb, 2, none⟩ (.slice vo (k + 1) vc)).heap.size = w4.heap.size := by simp [World.setCell]
            rw [hs]
            rcases List.mem_append.1 hb with hb | hb
            · have := BB.out b hb; omega
            · rw [List.mem_singleton.1 hb]; omega
          · have h1 : Below (w.heap.size + 1) w1 w3 := HBR.out.trans (B3.out.mono (by omega))
            exact (below_own (base := w.heap.size + 1) (h1.trans (hA.mono (by omega))) (O3.out.alloc _) G4.out (by simp; omega) (Nat.le_refl _)).setCell (p := ⟨bb, 2, none⟩) hbb _
        case measure => simp [intOf]; omega
      · have hkn' : k = n := by omega
        subst hkn'
        go_wp2_with fail
        go_ret2
        have hlg := HL.out
        have hlm : ∀ j, j < k → (newM gs secs bs k).getD j mD = (bs.getD j 0, (sect (gs.getD j (0, 0)) secs).toNat, []) := fun j hj => by simp [newM, List.getD, hj]
        have hmf : (newM gs secs bs k).map (·.1) = bs := by
          apply List.ext_getElem
          · simp [newM, hbl]
          · intro j h1 h2
            simp only [newM, List.map_map, List.getElem_map, List.getElem_range, Function.comp]
            rw [List.getD_eq_getElem?_getD, List.getElem?_eq_getElem h2]; rfl
        refine ⟨bb, eb, newM gs secs bs k, rfl, ⟨HRT.out, by simp [newM, hlg], by simp, ⟨gv, mv, k, ?_, ?_, ?_, ?_⟩, ?_, by rw [hmf]; exact ND.out⟩, fun j hj => by rw [hlm j (by omega)], fun x hx => ?_, B1.out.trans (HBR.out.mono (by omega))⟩
        · rw [hlg]; exact BK.out
        · rw [hlg]; exact GV.out
        · rw [hlg, hmf]; exact owns_weaken MV.out (Nat.zero_le _)
        · rw [hlg]
          have := blk_owns (base := 0) (n := k) (cap := k) (size := 1) EB.out (Nat.zero_le _) (Nat.le_refl _) (by unfold maxLen; omega) (by simp [encN])
          rwa [List.take_of_length_le (by simp [encN])] at this
        · intro m hm
          obtain ⟨j, hj, rfl⟩ := List.mem_map.1 hm
          exact MP.out j (List.mem_range.1 hj)
        · rcases hx with rfl | rfl | hx
          · omega
          · omega
          · rw [hmf] at hx; exact (BB.out x hx).1
end Go.Proofs.Ytmnhdpojonlfhaa
