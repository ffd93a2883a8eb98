/- The walk of a book's Copy. -/
import Derived.Test.YtmnhdpojonlfhaaAlC
import Derived.Deep.RegionLaw
namespace Go.Proofs.Ytmnhdpojonlfhaa
open Go.RowKit
attribute [local go_sem ↓] Go.wp_at_zero Go.wp_at_succ

/-- copied maps -/
def cpM (ms : List MT) (bs : List Nat) : List MT := (List.range ms.length).map fun i => (bs.getD i 0, (ms.getD i mD).2)
theorem cpM_length (ms : List MT) (bs : List Nat) : (cpM ms bs).length = ms.length := by simp [cpM]
theorem cpM_get (ms : List MT) (bs : List Nat) (j : Nat) (h : j < ms.length) : (cpM ms bs).getD j mD = (bs.getD j 0, (ms.getD j mD).2) := by simp [cpM, List.getD, h]
theorem cpM_fst (ms : List MT) (bs : List Nat) (h : bs.length = ms.length) : (cpM ms bs).map (·.1) = bs := by
  apply List.ext_getElem
  · simp [cpM, h]
  · intro j h1 h2
    simp only [cpM, List.map_map, List.getElem_map, List.getElem_range, Function.comp]
    rw [List.getD_eq_getElem?_getD, List.getElem?_eq_getElem h2]; rfl
theorem cpM_snd (ms : List MT) (bs : List Nat) : (cpM ms bs).map (·.2) = ms.map (·.2) := by
  apply List.ext_getElem
  · simp [cpM]
  · intro j h1 h2
    simp only [cpM, List.map_map, List.getElem_map, List.getElem_range, Function.comp]
    rw [List.getD_eq_getElem?_getD, List.getElem?_eq_getElem (by simpa using h2)]; rfl

set_option maxHeartbeats 3200000 in
set_option maxRecDepth 100000 in
theorem acopy_any (bb eb : Nat) (gs : Gs) (secs : Int) (ms : List MT) (es : List Nat) (w : World) (h : IsBook w bb eb gs secs ms es) :
    Calls Try.prog 60 #[.pointer (some ⟨bb, 0, none⟩)] w fun e w' => ∃ cb ce bs, e = .returned (.pointer (some ⟨cb, 0, none⟩)) ∧ bs.length = ms.length ∧ IsBook w' cb ce gs secs (cpM ms bs) es ∧
      (∀ k, foot cb ce (cpM ms bs) k → w.heap.size ≤ k) ∧ Below w.heap.size w w' := by
  obtain ⟨gv0, mv0, ec0, r1, r2, r3, r4⟩ := h.mem
  obtain ⟨gb, gc, mv, mc, ec, c0, c1, c2, c3, hgs, hmp, hes, hmv, heb, hbb⟩ := h.parts
  have hr := rightB_spec h.right
  have hn4 := hr.2.1
  have hn1 := hr.1
  have hml := h.mlen
  have hel := h.elen
  have hgv : gv0 = .slice (some ⟨gb, 0, none⟩) gs.length gc := by
    have := r1.cell 0
    rw [c0] at this
    simpa using this.symm
  have HM := Lib.hid hmp
  have HB := Lib.hid h
  have HGV := Lib.hid r2
  have HGE := Lib.hid hgv
  have HES := Lib.hid hes
  have HHR := Lib.hid h.right
  have HEL := Lib.hid hel
  obtain ⟨p0, hp, hp0, hp1, hp2⟩ := info_parts infoP
  have HCL := Lib.hid fun W (hW : Below w.heap.size w W) => (cloneI_any (some ⟨eb, 0, none⟩) gs.length ec (encN es) W (RSl.below hes hW) (encN_one _) (by omega))
  obtain ⟨n, hn⟩ : ∃ n, n = gs.length := ⟨_, rfl⟩
  rw [← hn] at c0 c2 c3 hn4 hn1 hml HM HCL HES
  have HML := Lib.hid hml
  have HN := Lib.hid hn
  have K0 := Lib.hid c0
  have K1 := Lib.hid c1
  have K3 := Lib.hid c3
  have K2 := Lib.hid c2
  clear h hgs hmp hes hr hml hn r1 r2 r3 r4 hgv hel c2
  go_enter Try.func60, Try.ntmps60
  go_wp2_with fail
  go_region_held3 (fun w' => w'.cell? ⟨bb, 0, none⟩ = some (.slice (some ⟨gb, 0, none⟩) n gc) ∧ w'.cell? ⟨bb, 1, none⟩ = some (.int .i64 secs) ∧ w'.cell? ⟨bb, 3, none⟩ = some (.slice (some ⟨eb, 0, none⟩) n ec)) (go_keep)
    (first
      | (go_at_call 97; refine (HCL.out _ (by first | exact (Below.refl _ _).drew | exact Below.refl _ _)).mono ?_; rintro e w2 ⟨v2, rfl, hown2, hb2⟩; obtain ⟨ao2, cap2, rfl, _⟩ := RSl.of_owns hown2; have hd0 := (hb2.cell (p := ⟨bb, 0, none⟩) hbb).trans K0.out; have hd1 := (hb2.cell (p := ⟨bb, 1, none⟩) hbb).trans K1.out; have hd3 := (hb2.cell (p := ⟨bb, 3, none⟩) hbb).trans K3.out))
  obtain ⟨ce, rfl, hce⟩ := owns_head hown2 (by omega)
  have hce' : w.heap.size ≤ ce := hce
  have hb2' : Below w.heap.size w w2 := (Below.refl _ _).drew.trans hb2
  obtain ⟨cb, hcb⟩ : ∃ cb, cb = w2.heap.size := ⟨_, rfl⟩
  obtain ⟨w3, hw3⟩ : ∃ w3, w3 = w2.alloc (.cells #[.slice (some ⟨gb, 0, none⟩) n gc, .int .i64 secs, .slice none 0 0, .slice (some ⟨ce, 0, none⟩) n cap2] 145) := ⟨_, rfl⟩
  rw [← hcb, ← hw3]
  have BK0 : Hid (Blk w3 cb 145 [.slice (some ⟨gb, 0, none⟩) n gc, .int .i64 secs, .slice none 0 0, .slice (some ⟨ce, 0, none⟩) n cap2]) := Lib.hid (by rw [hw3, hcb]; exact Blk.new w2 _ _)
  have CE0 : Hid (w3.ownsRow w.heap.size 3 1 (.slice (some ⟨ce, 0, none⟩) n cap2) n (encN es)) := Lib.hid (by rw [hw3]; exact hown2.alloc _)
  have B3 : Hid (Below w.heap.size w w3) := Lib.hid (by rw [hw3]; exact hb2'.alloc hb2'.size _)
  have hcbs : w.heap.size ≤ cb := by have := hb2'.size; omega
  have hcbl : cb < w3.heap.size := BK0.out.lt
  have d2 : w3.cell? ⟨bb, 2, none⟩ = some (.slice (some ⟨mv, 0, none⟩) n mc) := (B3.out.cell (p := ⟨bb, 2, none⟩) hbb).trans K2.out
  clear hown2 hb2 hb2' hd0 hd1 hd3 hcb hw3 c0 c1 c3
  go_wp2_with fail
  clear d2
  go_loopw [24] (fun i wr => ∃ (k : Nat) (bs : List Nat) (mo : Value), k ≤ n ∧ i = .int .i64 k ∧ bs.length = k ∧ Hid (Blk wr cb 145 [.slice (some ⟨gb, 0, none⟩) n gc, .int .i64 secs, mo, .slice (some ⟨ce, 0, none⟩) n cap2]) ∧
    Hid (wr.ownsRow w.heap.size 3 1 (.slice (some ⟨ce, 0, none⟩) n cap2) n (encN es)) ∧ Hid (wr.ownsRow w.heap.size 35 1 mo k (encM bs)) ∧ Hid (∀ j, j < k → IsMap wr (bs.getD j 0) (ms.getD j mD).2.1 (ms.getD j mD).2.2) ∧ Hid bs.Nodup ∧ Hid (∀ b ∈ bs, w.heap.size ≤ b ∧ b < wr.heap.size) ∧ Hid (Below w.heap.size w wr)) (fun i _ => n - (intOf i).toNat)
  case atStart => exact ⟨0, [], _, by omega, rfl, rfl, BK0, CE0, Lib.hid (World.ownsRow_nil _ _ _ _), Lib.hid (fun j hj => absurd hj (by omega)), Lib.hid List.nodup_nil, Lib.hid (by simp), B3⟩
  case round =>
    obtain ⟨k, bs, mo, hk, rfl, hbl, BK, CE, MV, MP, ND, BB, HBR⟩ := hrel
    clear BK0 CE0
    by_cases hkn : k < n
    · obtain ⟨mo, mcc, rfl, _⟩ := RSl.of_owns MV.out
      have hkm : k < ms.length := by have := HML.out; omega
      have dk : wr.cell? ⟨mv, k, none⟩ = some (.pointer (some ⟨(ms.getD k mD).1, 0, none⟩)) := (HBR.out.cell (p := ⟨mv, k, none⟩) hmv).trans (HM.out k hkn)
      have hmem : ms.getD k mD ∈ ms := by rw [List.getD_eq_getElem?_getD, List.getElem?_eq_getElem hkm]; exact List.getElem_mem _
      have hmm := HB.out.maps _ hmem
      obtain ⟨m, hmd⟩ : ∃ m, m = ms.getD k mD := ⟨_, rfl⟩
      rw [← hmd] at dk hmm
      have HMD := Lib.hid hmd
      obtain ⟨m1, m2, m3⟩ := m
      have hT := copy_any m1 m2 m3 wr.drew ((hmm.below HBR.out).below (Below.refl _ _).drew)
      have HT := Lib.hid hT
      have HBL := Lib.hid hbl
      have hszr := HBR.out.size
      have e2 : wr.cell? ⟨cb, 2, none⟩ = some (.slice mo k mcc) := BK.out.cell 2
      have f2 : wr.frozen? ⟨cb, 2, none⟩ = false := BK.out.frozen 2
      have hcbr := BK.out.lt
      dsimp only at dk
      clear hmd hmem hmm hT hbl hkm
      go_wp2_with fail
      go_region_law
        (first
          | (go_simp; go_at_call 40; refine HT.out.mono ?_; rintro e w4 ⟨nb, rfl, hnb, hm4, hb4⟩; have B4 := Lib.hid ((Below.refl wr.heap.size wr).drew.trans hb4); have BK4 := Lib.hid (BK.out.below B4.out); have O4 := Lib.hid (owns_below MV.out B4.out); have hd2 := BK4.out.cell 2; have hf2 := BK4.out.frozen 2; have hd2a : (w4.alloc (.cells #[.pointer (some ⟨nb, 0, none⟩)] 35)).cell? ⟨cb, 2, none⟩ = some (.slice mo k mcc) := (BK4.out.alloc _).cell 2; have hf2a : (w4.alloc (.cells #[.pointer (some ⟨nb, 0, none⟩)] 35)).frozen? ⟨cb, 2, none⟩ = false := (BK4.out.alloc _).frozen 2; have hnbr : wr.heap.size ≤ nb := hnb; have hlt4 := hm4.lt; have M4 := Lib.hid hm4; have hsz4 := hb4.size; clear hm4 hb4 hnb)
          | (refine step_append_lies _ (by rfl) _ _ _ (by rfl) w.heap.size 35 p0 (.pointer none) 1 8 Try.underlying143 hp hp0 hp1 hp2 rfl (by omega) (.slice mo k mcc) k (encM bs) (by rfl) (O4.out.alloc _) ⟨w4.heap.size, 0, none⟩ 1 1 (encM [nb]) (by rfl) rfl (Blk.news (Blk.newAt (w := w4) 35 (encM [nb]) rfl)) (encM_one _) (by omega) (by unfold maxLen; omega) (by omega) (by have := B4.out.size; simp; omega) (w4.heap.size + 1) (by simp) ?_; intro gg gcap w5 hown5 hgrow5 hat hlt; rw [← encM_append] at hown5; have BK5 := Lib.hid ((BK4.out.alloc (.cells (encM [nb]).toArray 35)).ownKept (O4.out.alloc _) (by decide) hgrow5); have he2 := BK5.out.cell 2; have hg2 := BK5.out.frozen 2; have O5 := Lib.hid hown5; have G5 := Lib.hid hgrow5; clear hown5 hgrow5 hat))
      all_goals
        have hA : Below w4.heap.size w4 (w4.alloc (.cells (encM [nb]).toArray 35)) := (Below.refl _ _).alloc (Nat.le_refl _) _
        have hMM : ∀ b sz rs, IsMap w4 b sz rs → IsMap (w5.setCell ⟨cb, 2, none⟩ (.slice (some ⟨gg, 0, none⟩) (k + 1) gcap)) b sz rs := fun b sz rs h => ((h.below hA).ownKept (O4.out.alloc _) (by decide) (by decide) G5.out).setOther BK5.out (by decide) (by decide)
        have hG5 := G5.out.size
        simp only [World.size_alloc] at hG5
        have hszD : wr.drew.heap.size = wr.heap.size := rfl
        have hsz4' : wr.heap.size ≤ w4.heap.size := B4.out.size
        go_wp2_with fail
        go_roundw
        case rel =>
          refine ⟨k + 1, bs ++ [nb], _, by omega, by go_num, by simp [HBL.out], Lib.hid (BK5.out.setCell 2 _), Lib.hid (owns_setOther (owns_ownKept (owns_below (owns_below CE.out B4.out) hA) (O4.out.alloc _) (by decide) G5.out) BK5.out (by decide)),
            Lib.hid (owns_setOther O5.out BK5.out (by decide)), Lib.hid ?_, Lib.hid ?_, Lib.hid ?_, Lib.hid ?_⟩
          · intro j hj
            rcases Nat.lt_or_ge j k with hlt | hge
            · have e1 : (bs ++ [nb]).getD j 0 = bs.getD j 0 := by rw [List.getD_eq_getElem?_getD, List.getD_eq_getElem?_getD, List.getElem?_append_left (by have := HBL.out; omega)]
              rw [e1]
              exact hMM _ _ _ ((MP.out j hlt).below B4.out)
            · have e0 : j = k := by omega
              subst e0
              have e1 : (bs ++ [nb]).getD j 0 = nb := by rw [List.getD_eq_getElem?_getD, List.getElem?_append_right (by have := HBL.out; omega), HBL.out]; simp
              rw [e1, ← HMD.out]
              exact hMM _ _ _ M4.out
          · rw [List.nodup_append]
            refine ⟨ND.out, by simp, fun a ha b hb => ?_⟩
            rw [List.mem_singleton.1 hb]
            have := (BB.out a ha).2
            omega
          · intro b hb
            have hs : (w5.setCell ⟨cb, 2, none⟩ (.slice (some ⟨gg, 0, none⟩) (k + 1) gcap)).heap.size = w5.heap.size := by simp [World.setCell]
            rw [hs]
            rcases List.mem_append.1 hb with hb | hb
            · have := BB.out b hb; omega
            · rw [List.mem_singleton.1 hb]; omega
          · have h1 : Below w.heap.size w w4 := HBR.out.trans (B4.out.mono hszr)
            exact (below_own (base := w.heap.size) (h1.trans (hA.mono (by omega))) (O4.out.alloc _) G5.out (by simp; omega) (Nat.le_refl _)).setCell (p := ⟨cb, 2, none⟩) hcbs _
        case measure => simp [intOf]; omega
    · have hkn' : k = n := by omega
      subst hkn'
      go_wp2_with fail
      go_ret
      have hbm : bs.length = ms.length := by have := HML.out; omega
      have hnn := HN.out
      refine ⟨cb, ce, bs, rfl, hbm, ⟨HHR.out, by rw [cpM_length]; have := HML.out; omega, by have := HEL.out; omega, ⟨.slice (some ⟨gb, 0, none⟩) k gc, mo, cap2, ?_, ?_, ?_, ?_⟩, ?_, by rw [cpM_fst _ _ hbm]; exact ND.out⟩, fun x hx => ?_, HBR.out⟩
      · rw [← hnn]; exact BK.out
      · have := owns_below HGV.out HBR.out
        rw [HGE.out, ← hnn] at this
        rw [← hnn]; exact this
      · rw [← hnn, cpM_fst _ _ hbm]; exact owns_weaken MV.out (Nat.zero_le _)
      · rw [← hnn]; exact owns_weaken CE.out (Nat.zero_le _)
      · intro m hm
        obtain ⟨j, hj, rfl⟩ := List.mem_map.1 hm
        exact MP.out j (by have := List.mem_range.1 hj; have := HML.out; omega)
      · rcases hx with rfl | rfl | hx
        · omega
        · omega
        · rw [cpM_fst _ _ hbm] at hx; exact (BB.out x hx).1
end Go.Proofs.Ytmnhdpojonlfhaa
