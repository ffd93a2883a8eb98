/- polderlaw12: AllocRight. -/
import Derived.Test.YtmnhdpojonlfhaaAlRj
namespace Go.Proofs.Ytmnhdpojonlfhaa
open Go.RowKit
set_option linter.unusedSimpArgs false
attribute [local go_sem ↓] Go.wp_at_zero Go.wp_at_succ

set_option maxRecDepth 100000 in
set_option maxHeartbeats 6400000 in
theorem alright_any (ga : Option Addr) (gn gc : Nat) (gs : Gs) (secs : Int) (aoL : Option Addr) (nL cL : Nat) (zs : List ActB) (w : World) (hg : GSl w ga gn gc gs) (hL : BSl w aoL nL cL zs) :
    Calls Try.prog 19 #[.agg #[.slice ga gn gc, .int .i64 secs], .slice aoL nL cL] w fun e w' => e = .returned (.bool true) ∧ Below w.heap.size w w' := by
  have hb0 : Below w.heap.size w (w.alloc (.cells #[.slice ga gn gc, .int .i64 secs] 96)) := (Below.refl _ _).alloc (Nat.le_refl _) _
  have HB0 := Lib.hid hb0
  have HG0 := Lib.hid hg
  have HSL := Lib.hid hL
  have hmx := hg.mx
  have hmxL := hL.mx
  have HW0 := Lib.hid (awake12_any (w.alloc (.cells #[.slice ga gn gc, .int .i64 secs] 96)))
  have HR0 := Lib.hid (Blk.new w 96 [.slice ga gn gc, .int .i64 secs])
  clear hb0 hg hL
  go_enter Try.func19, Try.ntmps19
  go_wp2_with fail
  refine HW0.out.mono ?_
  rintro e w1 ⟨rfl, hb1⟩
  have B1 := Lib.hid (HB0.out.trans (hb1.mono HB0.out.size))
  have R1 := Lib.hid (HR0.out.below hb1)
  have r0 := R1.out.cell 0
  have r1 := R1.out.cell 1
  have HF := Lib.hid (few12_any ga aoL gn gc nL cL secs w1 hmx hmxL)
  clear hb1
  go_wp2_with fail
  refine HF.out.mono ?_
  rintro e w2 ⟨rfl, hb2⟩
  have B2 := Lib.hid (B1.out.trans (hb2.mono B1.out.size))
  have R2 := Lib.hid (R1.out.below hb2)
  clear hb2 r0 r1
  have r0 := R2.out.cell 0
  have r1 := R2.out.cell 1
  cases hfw : fewB nL gn secs
  · have HW2 := Lib.hid (awake12_any w2)
    go_wp2_with fail
    refine HW2.out.mono ?_
    rintro e w3 ⟨rfl, hb3⟩
    go_wp2_with fail
    go_ret
    exact ⟨rfl, B2.out.trans (hb3.mono B2.out.size)⟩
  · have hm60 : nL ≤ 60 := by unfold fewB at hfw; simp at hfw; exact hfw.1
    have hg3 := HG0.out.below B2.out
    clear hfw
    cases hr : rightB gs secs
    · have HN := Lib.hid (anew_no ga gn gc gs secs w2 hg3 hr)
      clear hg3 hr
      go_wp2_with fail
      refine HN.out.mono ?_
      rintro e w4 ⟨rfl, hb4⟩
      go_wp2_with fail
      go_ret
      exact ⟨rfl, B2.out.trans (hb4.mono B2.out.size)⟩
    · have HN := Lib.hid (anew_yes ga gn gc gs secs w2 hg3 hr)
      have HRT := Lib.hid hr
      clear hg3 hr
      go_wp2_with fail
      refine HN.out.mono ?_
      rintro e w4 ⟨bb, eb, ms, rfl, hbk, hfr, hfo0, hb4⟩
      have B4 := Lib.hid (B2.out.trans (hb4.mono B2.out.size))
      have R4 := Lib.hid (R2.out.below hb4)
      have hfo : ∀ k, foot bb eb ms k → w.heap.size + 1 ≤ k := fun k hk => by have := hfo0 k hk; have h2 := R2.out.lt; omega
      have hsl : (st2 ms).length = gs.length := by rw [st2_length, hbk.mlen]
      have hfr2 : ∀ j, j < gs.length → (st2 ms).getD j sD = ((sect (gs.getD j (0, 0)) secs).toNat, []) := fun j hj => by rw [st2_get]; exact hfr j hj
      have HINV := Lib.hid (Inv.fresh HRT.out hsl hfr2)
      have HCOV := Lib.hid (Cov.empty hsl hfr2)
      have HS4 : Hid (RSt w w4 bb eb gs secs ms (List.replicate gs.length 0) (.slice none 0 0) [] [.slice ga gn gc, .int .i64 secs]) := Lib.hid ⟨hbk, hfo, World.ownsRow_nil _ _ _ _, R4.out, B4.out⟩
      have HLF := Lib.hid HS4.out.left
      obtain ⟨sn0, hsn0⟩ : ∃ s, s = st2 ms := ⟨_, rfl⟩
      rw [← hsn0] at HLF HINV HCOV
      have HSN0 := Lib.hid hsn0
      obtain ⟨all_, hall⟩ : ∃ x, x = leftA sn0 := ⟨_, rfl⟩
      rw [← hall] at HLF
      have HALL := Lib.hid hall
      clear hbk hfr hfo0 hb4 hfo hsl hfr2 r0 r1 hsn0 hall R4 B4 R2 B2 R1 B1 HR0 HB0 HN
      go_wp2_with fail
      refine HLF.out.mono ?_
      rintro e w5 ⟨rfl, hS5, _⟩
      have HS5 := Lib.hid hS5
      clear hS5 HS4 HLF
      go_wp2_with fail
      go_loopw [8, 9] (fun v i wr => ∃ (k eb : Nat) (ms : List MT) (es : List Nat) (got : List PtrT), k ≤ nL ∧ i = .int .i64 (k : Nat) ∧ got.length ≤ k ∧ Hid (RSt w wr bb eb gs secs ms es v got [.slice ga gn gc, .int .i64 secs]) ∧ Hid (Inv gs secs (st2 ms) es) ∧ Hid (Cov gs secs (st2 ms) (got.flatMap (pstrs gs secs))) ∧ Hid (∀ x ∈ got, ptrRight gs secs x = true ∧ x.ok)) (fun _ i _ => nL - (intOf i).toNat)
      case atStart => exact ⟨0, eb, ms, _, [], by omega, rfl, by simp, HS5, Lib.hid (by rw [← HSN0.out]; exact HINV.out), Lib.hid (by rw [← HSN0.out]; exact HCOV.out), Lib.hid (by simp)⟩
      case round =>
        obtain ⟨k, eb, ms, es, got, hk, rfl, hgl, HS, HI, HC, HRG⟩ := hrel
        clear HS5 HINV
        obtain ⟨aoG, capG, rfl, _⟩ := RSl.of_owns HS.out.row
        by_cases hkn : k < nL
        · obtain ⟨bl, off, rfl, hbl, hc⟩ := HSL.out.cells (by omega)
          obtain ⟨hok, hc⟩ := hc k hkn
          obtain ⟨q, hq⟩ : ∃ q, q = zs.getD k aD := ⟨_, rfl⟩
          rw [← hq] at hc
          obtain ⟨q0, q1, q2, q3, q4⟩ := q
          have c1 : w.cell? ⟨bl, off + k * 16 + 1, none⟩ = some (.int .i64 q1) := hc 1 (by omega)
          have c2 : w.cell? ⟨bl, off + k * 16 + 2, none⟩ = some (.bool q2) := hc 2 (by omega)
          have C1 := Lib.hid c1
          have C2 := Lib.hid c2
          obtain ⟨r, hr⟩ : ∃ r, r = getA gs secs (st2 ms) es q1 q2 := ⟨_, rfl⟩
          have hnx := HI.out.rightGet HC.out q1 q2
          have hnv := HI.out.get q1 q2
          rw [← hr] at hnx hnv
          obtain ⟨l, hl⟩ : ∃ l, l = leftA (st2 ms) := ⟨_, rfl⟩
          have hlb := HS.out.leftBd
          have HLF := Lib.hid HS.out.left
          rw [← hl] at hnx hlb HLF
          obtain ⟨hlb1, hlb2⟩ := hlb
          have HR := Lib.hid hr
          have HNX := Lib.hid hnx
          have HNV := Lib.hid hnv
          have HL := Lib.hid hl
          clear c1 c2 hc hq hok hr hnx hnv hl
          go_wp2_with fail
          refine HLF.out.mono ?_
          rintro e wr ⟨rfl, hS, _⟩
          have HS := Lib.hid hS
          have hG := fun W hW => hS.get (W := W) HR.out hW
          have hb := hS.bel
          have hwlt : w.heap.size < wr.heap.size := hS.geo.lt
          have hrowlt := hS.rowLt
          have d1 : wr.cell? ⟨bl, off + k * 16 + 1, none⟩ = some (.int .i64 q1) := (hb.cell (p := ⟨bl, _, none⟩) hbl).trans C1.out
          have d2 : wr.cell? ⟨bl, off + k * 16 + 2, none⟩ = some (.bool q2) := (hb.cell (p := ⟨bl, _, none⟩) hbl).trans C2.out
          have HG := Lib.hid hG
          have hb := Lib.hid hb
          have HRL := Lib.hid hrowlt
          obtain ⟨⟨p1, p2⟩, ⟨z1, z2⟩, err, rsn, res⟩ := r
          dsimp only at HG HNX HNV
          clear hG hS hrowlt HLF
          have hrowlt := HRL.out
          have hbn1 : bl < wr.heap.size := Nat.lt_of_lt_of_le hbl hb.out.size
          have hbn2 : wr.heap.size ≠ bl := Nat.ne_of_gt hbn1
          have hbn3 : wr.heap.size + 1 ≠ bl := Nat.ne_of_gt (Nat.lt_succ_of_lt hbn1)
          clear hrowlt
          go_wp2_with fail
          go_upto_region 12 with fail
          go_cut [11, 12, 13] (fun va vb vx wx => ∃ (a14 a15 eb : Nat) (ms : List MT), va = .pointer (some ⟨a14, 0, none⟩) ∧ vb = .pointer (some ⟨a15, 0, none⟩) ∧ vx = .int .i64 (err : Nat) ∧ Hid (Blk wx a14 63 [.int .i64 p1, .int .i64 p2]) ∧ Hid (Blk wx a15 63 [.int .i64 z1, .int .i64 z2]) ∧ Hid (RSt w wx bb eb gs secs ms res (.slice aoG got.length capG) got [.slice ga gn gc, .int .i64 secs]) ∧ Hid (st2 ms = rsn))
          case first =>
            go_region_held3 (fun w' => w'.cell? ⟨bl, off + k * 16 + 1, none⟩ = some (.int .i64 q1) ∧ w'.cell? ⟨bl, off + k * 16 + 2, none⟩ = some (.bool q2)) (go_keep)
              (first
                | (go_at_call 59; refine (HG.out _ (Below.refl _ _).drew).mono ?_; rintro e w5 ⟨rfl, eb5, ms5, hR5, hst5, hh5, hz5⟩; have hB5 := hR5.bel; have hbl5 : bl < w5.heap.size := Nat.lt_of_lt_of_le hbl hB5.size; have hbl6 : w5.heap.size ≠ bl := Nat.ne_of_gt hbl5; have hbl7 : w5.heap.size + 1 ≠ bl := Nat.ne_of_gt (Nat.lt_succ_of_lt hbl5); have hd1 := (hB5.cell (p := ⟨bl, off + k * 16 + 1, none⟩) hbl).trans C1.out; have hd2 := (hB5.cell (p := ⟨bl, off + k * 16 + 2, none⟩) hbl).trans C2.out; have tag : w5 = w5 := rfl)
                | (go_at_call 59; refine (HG.out _ ((Below.refl _ _).alloc (Nat.le_refl _) _).drew).mono ?_; rintro e w5 ⟨rfl, eb5, ms5, hR5, hst5, hh5, hz5⟩; have hB5 := hR5.bel; have hbl5 : bl < w5.heap.size := Nat.lt_of_lt_of_le hbl hB5.size; have hbl6 : w5.heap.size ≠ bl := Nat.ne_of_gt hbl5; have hbl7 : w5.heap.size + 1 ≠ bl := Nat.ne_of_gt (Nat.lt_succ_of_lt hbl5); have hd1 := (hB5.cell (p := ⟨bl, off + k * 16 + 1, none⟩) hbl).trans C1.out; have hd2 := (hB5.cell (p := ⟨bl, off + k * 16 + 2, none⟩) hbl).trans C2.out; have hA5 : Blk w5 wr.heap.size 63 [.int .i64 0, .int .i64 0] := (hh5 _ (Nat.le_refl _) (by simp)).trans (Blk.new wr _ _); have ha0 := hA5.cell 0; have ha1 := hA5.cell 1; have ha2 := hA5.frozen 0; have ha3 := hA5.frozen 1; have hl5 := hA5.lt; have hne5 : wr.heap.size ≠ w5.heap.size := Nat.ne_of_lt hl5; have hne6 : w5.heap.size ≠ wr.heap.size := fun e => hne5 e.symm)
                | (go_at_call 59; refine (HG.out _ (((Below.refl _ _).alloc (Nat.le_refl _) _).alloc (by simp) _).drew).mono ?_; rintro e w5 ⟨rfl, eb5, ms5, hR5, hst5, hh5, hz5⟩; have hB5 := hR5.bel; have hbl5 : bl < w5.heap.size := Nat.lt_of_lt_of_le hbl hB5.size; have hbl6 : w5.heap.size ≠ bl := Nat.ne_of_gt hbl5; have hbl7 : w5.heap.size + 1 ≠ bl := Nat.ne_of_gt (Nat.lt_succ_of_lt hbl5); have hd1 := (hB5.cell (p := ⟨bl, off + k * 16 + 1, none⟩) hbl).trans C1.out; have hd2 := (hB5.cell (p := ⟨bl, off + k * 16 + 2, none⟩) hbl).trans C2.out; have hA5 : Blk w5 wr.heap.size 63 [.int .i64 0, .int .i64 0] := (hh5 _ (Nat.le_refl _) (by simp; omega)).trans ((Blk.new wr _ _).alloc _); have ha0 := hA5.cell 0; have ha1 := hA5.cell 1; have ha2 := hA5.frozen 0; have ha3 := hA5.frozen 1; have hl5 := hA5.lt; have hne5 : wr.heap.size ≠ w5.heap.size := Nat.ne_of_lt hl5; have hne6 : w5.heap.size ≠ wr.heap.size := fun e => hne5 e.symm; have hC5 : Blk w5 (wr.heap.size + 1) 63 [.int .i64 0, .int .i64 0] := (hh5 _ (Nat.le_succ _) (by simp)).trans (Blk.newAt _ _ (by simp)); have hc0 := hC5.cell 0; have hc1 := hC5.cell 1; have hc2 := hC5.frozen 0; have hc3 := hC5.frozen 1; have hl6 := hC5.lt))
            · go_wp2_with fail
              go_meet
              have hT := two_new wr.heap.size w5 (.int .i64 (p1 : Nat)) (.int .i64 (p2 : Nat)) (.int .i64 (z1 : Nat)) (.int .i64 (z2 : Nat))
              exact ⟨_, _, _, _, rfl, rfl, rfl, Lib.hid hT.fst, Lib.hid hT.snd, Lib.hid (hR5.lay hT.lay hwlt HRL.out), Lib.hid hst5⟩
            · go_wp2_with fail
              go_meet
              have hT := (two_new wr.heap.size w5 (.int .i64 (z1 : Nat)) (.int .i64 (z2 : Nat)) (.int .i64 (p1 : Nat)) (.int .i64 (p2 : Nat))).swap
              exact ⟨_, _, _, _, rfl, rfl, rfl, Lib.hid hT.fst, Lib.hid hT.snd, Lib.hid (hR5.lay hT.lay hwlt HRL.out), Lib.hid hst5⟩
            · go_wp2_with fail
              go_meet
              have hT := two_one wr.heap.size w5 wr.heap.size (.int .i64 (p1 : Nat)) (.int .i64 (p2 : Nat)) (.int .i64 (z1 : Nat)) (.int .i64 (z2 : Nat)) (.int .i64 0) (.int .i64 0) hA5 (Nat.le_refl _)
              exact ⟨_, _, _, _, rfl, rfl, rfl, Lib.hid hT.fst, Lib.hid hT.snd, Lib.hid (hR5.lay hT.lay hwlt HRL.out), Lib.hid hst5⟩
            · go_wp2_with fail
              go_meet
              have hT := two_old wr.heap.size w5 wr.heap.size (wr.heap.size + 1) (.int .i64 (p1 : Nat)) (.int .i64 (p2 : Nat)) (.int .i64 (z1 : Nat)) (.int .i64 (z2 : Nat)) (.int .i64 0) (.int .i64 0) (.int .i64 0) (.int .i64 0) hA5 hC5 (Nat.le_refl _) (Nat.le_succ _) (Nat.ne_of_lt (Nat.lt_succ_self _))
              exact ⟨_, _, _, _, rfl, rfl, rfl, Lib.hid hT.fst, Lib.hid hT.snd, Lib.hid (hR5.lay hT.lay hwlt HRL.out), Lib.hid hst5⟩
            · go_wp2_with fail
              go_meet
              have hT := (two_one wr.heap.size w5 wr.heap.size (.int .i64 (z1 : Nat)) (.int .i64 (z2 : Nat)) (.int .i64 (p1 : Nat)) (.int .i64 (p2 : Nat)) (.int .i64 0) (.int .i64 0) hA5 (Nat.le_refl _)).swap
              exact ⟨_, _, _, _, rfl, rfl, rfl, Lib.hid hT.fst, Lib.hid hT.snd, Lib.hid (hR5.lay hT.lay hwlt HRL.out), Lib.hid hst5⟩
            · go_wp2_with fail
              go_meet
              have hT := two_old wr.heap.size w5 (wr.heap.size + 1) wr.heap.size (.int .i64 (p1 : Nat)) (.int .i64 (p2 : Nat)) (.int .i64 (z1 : Nat)) (.int .i64 (z2 : Nat)) (.int .i64 0) (.int .i64 0) (.int .i64 0) (.int .i64 0) hC5 hA5 (Nat.le_succ _) (Nat.le_refl _) (Nat.ne_of_gt (Nat.lt_succ_self _))
              exact ⟨_, _, _, _, rfl, rfl, rfl, Lib.hid hT.fst, Lib.hid hT.snd, Lib.hid (hR5.lay hT.lay hwlt HRL.out), Lib.hid hst5⟩
          case rest =>
            obtain ⟨a14, a15, eb5, ms5, rfl, rfl, rfl, hx5, hy5, hR5, hst5⟩ := hcut
            have x0 : wc.cell? ⟨a14, 0, none⟩ = some (.int .i64 (p1 : Nat)) := hx5.out.cell 0
            have x1 : wc.cell? ⟨a14, 1, none⟩ = some (.int .i64 (p2 : Nat)) := hx5.out.cell 1
            have y0 : wc.cell? ⟨a15, 0, none⟩ = some (.int .i64 (z1 : Nat)) := hy5.out.cell 0
            have y1 : wc.cell? ⟨a15, 1, none⟩ = some (.int .i64 (z2 : Nat)) := hy5.out.cell 1
            rcases HNX.out with ⟨he, hsn, hp0, hq0⟩ | ⟨he, hs1, hs2, hcov, hlt, hq0⟩
            · simp only [Prod.mk.injEq] at hp0 hq0
              obtain ⟨rfl, rfl⟩ := hp0
              obtain ⟨rfl, rfl⟩ := hq0
              have he1 : (err : Int) ≠ 0 := by omega
              have hl5 := hR5.out.left
              have hl6 : leftA (st2 ms5) = l := by rw [hst5.out, HL.out, hsn]
              rw [hl6] at hl5
              have HL5 := Lib.hid hl5
              have HC5 : Hid (Cov gs secs (st2 ms5) (got.flatMap (pstrs gs secs))) := Lib.hid (by rw [hst5.out, hsn]; exact HC.out)
              have HI5 : Hid (Inv gs secs (st2 ms5) res) := Lib.hid (by rw [hst5.out]; exact HNV.out)
              clear hl5 hl6 hsn he x0 x1 y0 y1
              go_wp2_with fail
              refine HL5.out.mono ?_
              rintro e w7 ⟨rfl, hS7, hb7⟩
              have HS7 := Lib.hid hS7
              have x0 : w7.cell? ⟨a14, 0, none⟩ = some (.int .i64 ((0 : Nat) : Int)) := (hx5.out.below hb7).cell 0
              have x1 : w7.cell? ⟨a14, 1, none⟩ = some (.int .i64 ((0 : Nat) : Int)) := (hx5.out.below hb7).cell 1
              have y0 : w7.cell? ⟨a15, 0, none⟩ = some (.int .i64 ((0 : Nat) : Int)) := (hy5.out.below hb7).cell 0
              have y1 : w7.cell? ⟨a15, 1, none⟩ = some (.int .i64 ((0 : Nat) : Int)) := (hy5.out.below hb7).cell 1
              clear hS7 hb7
              go_wp2_with fail
              go_roundw
              case rel => exact ⟨k + 1, eb5, ms5, res, got, by omega, by go_num, by omega, HS7, HI5, HC5, HRG⟩
              case measure => simp [intOf]; omega
            · obtain rfl : err = 0 := he
              have hpr := hcov.right HRT.out hs1 hs2 hq0
              have hxok := mkP_ok hpr
              obtain ⟨x, hx⟩ : ∃ x, x = mkP (p1, p2) (z1, z2) q2 q1 := ⟨_, rfl⟩
              have hcv : Cov gs secs (st2 ms5) ((got ++ [x]).flatMap (pstrs gs secs)) := by
                rw [hst5.out, hx, List.flatMap_append, List.flatMap_singleton, pstrs_mk]
                exact hcov
              have hus : eachA takeS gs secs (st2 ms5) x = (13, st2 ms5) := by
                refine mark_used (by rw [hx]; exact hpr) hcv ?_
                rw [List.flatMap_append, List.flatMap_singleton]
                obtain ⟨s, r, h1, h2⟩ := pstrs_ne (gs := gs) (secs := secs) x
                rw [h1, h2]
                simp
              have hlt5 : leftA (st2 ms5) < l := by rw [hst5.out]; exact hlt
              have HCV := Lib.hid hcv
              have HUS := Lib.hid hus
              have HI5 : Hid (Inv gs secs (st2 ms5) res) := Lib.hid (by rw [hst5.out]; exact HNV.out)
              have HXR : Hid (∀ y ∈ got ++ [x], ptrRight gs secs y = true ∧ y.ok) := Lib.hid (fun y hy => by
                rcases List.mem_append.1 hy with hy | hy
                · exact HRG.out y hy
                · rw [List.mem_singleton.1 hy, hx]; exact ⟨hpr, hxok⟩)
              have HRI : Hid (∀ W, Below w.heap.size w W → Calls Try.prog 63 #[.agg #[.slice ga gn gc, .int .i64 secs], .agg #[.int .i64 (p1 : Nat), .int .i64 (p2 : Nat), .int .i64 (z1 : Nat), .int .i64 (z2 : Nat), .bool q2, .int .i64 q1, .int .i64 0, .int .i64 1, .int .u64 0, .int .u64 0, .int .u64 0, .int .u64 0]] W fun e w' => e = .returned (.bool true) ∧ Below W.heap.size W w') := Lib.hid (fun W hW => by
                have := pright_any ga gn gc gs secs (mkP (p1, p2) (z1, z2) q2 q1) W (HG0.out.below hW) hxok
                rw [hpr] at this
                exact this)
              have d1' : wc.cell? ⟨bl, off + k * 16 + 1, none⟩ = some (.int .i64 q1) := (hR5.out.bel.cell (p := ⟨bl, _, none⟩) hbl).trans C1.out
              have d2' : wc.cell? ⟨bl, off + k * 16 + 2, none⟩ = some (.bool q2) := (hR5.out.bel.cell (p := ⟨bl, _, none⟩) hbl).trans C2.out
              have n1 : wc.heap.size ≠ a14 := Nat.ne_of_gt hx5.out.lt
              have n2 : wc.heap.size ≠ a15 := Nat.ne_of_gt hy5.out.lt
              have n3 : wc.heap.size ≠ bl := Nat.ne_of_gt (Nat.lt_of_lt_of_le hbl hR5.out.bel.size)
              have HX := Lib.hid hx
              have HPO := Lib.hid hxok
              clear hcov hpr hxok hcv hus hx hq0 hlt
              go_wp2_with fail
              go_upto_region 16 with fail
              go_cut [14] (fun va wx => ∃ a : Nat, va = .pointer (some ⟨a, 0, none⟩) ∧ Hid (Blk wx a 68 (encPtr x)) ∧ Hid (RSt w wx bb eb5 gs secs ms5 res (.slice aoG got.length capG) got [.slice ga gn gc, .int .i64 secs]))
              case first =>
                go_region_held3 (fun w' => w'.cell? ⟨a14, 0, none⟩ = some (.int .i64 (p1 : Nat)) ∧ w'.cell? ⟨a14, 1, none⟩ = some (.int .i64 (p2 : Nat)) ∧ w'.cell? ⟨a15, 0, none⟩ = some (.int .i64 (z1 : Nat)) ∧ w'.cell? ⟨a15, 1, none⟩ = some (.int .i64 (z2 : Nat)) ∧ w'.cell? ⟨bl, off + k * 16 + 1, none⟩ = some (.int .i64 q1) ∧ w'.cell? ⟨bl, off + k * 16 + 2, none⟩ = some (.bool q2)) (go_keep) (fail)
                go_wp2_with fail
                go_meet
                rw [HX.out]
                exact ⟨_, rfl, Lib.hid (Blk.new wc 68 (encPtr (mkP (p1, p2) (z1, z2) q2 q1))).drew, Lib.hid (hR5.out.below ((Below.refl _ _).alloc (Nat.le_refl _) _).drew)⟩
              case rest =>
                obtain ⟨ax, rfl, hX6, hS6⟩ := hcut
                clear x0 x1 y0 y1 d1' d2' n1 n2 n3
                rw [HX.out] at hX6
                have hX6' := hX6.out
                obtain ⟨x0, x1, x2, x3, x4, x5, x6, x7, x8, x9, x10, x11⟩ := ptr_cells hX6'
                have g0 := hS6.out.geo.cell 0
                have g1 := hS6.out.geo.cell 1
                have HRI6 := Lib.hid (HRI.out wc hS6.out.bel)
                dsimp only at x0 x1 x2 x3
                clear hX6'
                go_wp2_with fail
                refine HRI6.out.mono ?_
                rintro e w7 ⟨rfl, hb7⟩
                have HS7 := Lib.hid (hS6.out.below hb7)
                have HX7 := Lib.hid (hX6.out.below hb7)
                clear x0 x1 x2 x3 x4 x5 x6 x7 x8 x9 x10 x11 g0 g1 hb7
                obtain ⟨x0, x1, x2, x3, x4, x5, x6, x7, x8, x9, x10, x11⟩ := ptr_cells HX7.out
                have hus := HUS.out
                rw [HX.out] at hus
                have hMK := HS7.out.mark HPO.out hus
                have HMK := Lib.hid hMK
                dsimp only at x0 x1 x2 x3
                clear hus hMK
                go_wp2_with fail
                refine HMK.out.mono ?_
                rintro e w8 ⟨rfl, eb8, ms8, hS8, hst8, hk8⟩
                have hX8 : Blk w8 ax 68 (encPtr (mkP (p1, p2) (z1, z2) q2 q1)) := by
                  unfold Blk
                  rw [hk8 ax (fun hf => ?_) HX7.out.lt]
                  · exact HX7.out
                  · obtain ⟨cs, e, h1, h2⟩ := HS7.out.bk.tyOk ax hf HX7.out.lt
                    have h3 := HX7.out
                    unfold Blk at h3
                    rw [h3] at h1
                    simp only [Option.some.injEq, Obj.cells.injEq] at h1
                    have h4 := h1.2.1
                    subst h4
                    revert h2
                    decide
                have HS8 := Lib.hid hS8
                have HX8 := Lib.hid hX8
                have HST8 := Lib.hid hst8
                have hl8 := hS8.left
                rw [hst8] at hl8
                have HL8 := Lib.hid hl8
                obtain ⟨l2, hl2⟩ : ∃ l2, l2 = leftA (st2 ms5) := ⟨_, rfl⟩
                rw [← hl2] at HL8 hlt5
                have dlt : decide (l ≤ l2) = false := decide_eq_false (by omega)
                clear hS8 hX8 hst8 hl8 hl2 hk8 x0 x1 x2 x3 x4 x5 x6 x7 x8 x9 x10 x11
                go_wp2_with fail
                refine HL8.out.mono ?_
                rintro e w9 ⟨rfl, hS9, hb9⟩
                have HS9 := Lib.hid hS9
                have HX9 := Lib.hid (HX8.out.below hb9)
                have hX9' := HX9.out
                obtain ⟨x0, x1, x2, x3, x4, x5, x6, x7, x8, x9, x10, x11⟩ := ptr_cells hX9'
                dsimp only at x0 x1 x2 x3
                obtain ⟨i0, hi, hi0, hi1, hi2⟩ := info_parts infoPt
                have m1 : got.length + 1 ≤ maxLen := by unfold maxLen; omega
                have m2 : (got.length + 1) * 96 ≤ 140737488355328 := by omega
                have m3 : w.heap.size ≤ (w9.alloc (.cells (encPs [mkP (p1, p2) (z1, z2) q2 q1]).toArray 68)).heap.size := by have := hS9.bel.size; simp; omega
                have hnw := Blk.news (Blk.newAt (w := w9) 68 (encPs [mkP (p1, p2) (z1, z2) q2 q1]) rfl)
                have HNW := Lib.hid hnw
                clear hS9 hb9 hX9' hnw
                go_wp2_with (at_builtin; go_must (refine wpList_append_own _ rfl (.tmp 106) (.tmp 108) 61 rfl w.heap.size 68 i0 (.agg #[.int .i64 0, .int .i64 0, .int .i64 0, .int .i64 0, .bool false, .int .i64 0, .int .i64 0, .int .i64 0, .int .u64 0, .int .u64 0, .int .u64 0, .int .u64 0]) 12 96 Try.underlying61 hi hi0 hi1 hi2 rfl (Nat.succ_pos 11) (.slice aoG got.length capG) got.length (encPs got) rfl (HS9.out.row.alloc _) ⟨w9.heap.size, 0, none⟩ 1 1 (encPs [mkP (p1, p2) (z1, z2) q2 q1]) rfl rfl HNW.out (encPs_one _) m1 m2 m3 ?_; intro v10 w10 hown10 hgrow10 _))
                have HS10 := HS9.out.app hown10 hgrow10
                rw [← HX.out] at HS10
                have HS10 := Lib.hid HS10
                clear hown10
                go_roundw
                case rel => exact ⟨k + 1, eb8, ms8, res, got ++ [x], by omega, by go_num, by simp; omega, HS10, Lib.hid (by rw [HST8.out]; exact HI5.out), Lib.hid (by rw [HST8.out]; exact HCV.out), HXR⟩
                case measure => simp [intOf]; omega
        · obtain rfl : nL = k := by omega
          go_wp2_with fail
          go_loopw [15] (fun i wr => ∃ (j eb : Nat) (ms : List MT), j ≤ got.length ∧ i = .int .i64 (j : Nat) ∧ Hid (RSt w wr bb eb gs secs ms es (.slice aoG got.length capG) got [.slice ga gn gc, .int .i64 secs]) ∧ Hid (Cov gs secs (st2 ms) ((got.drop j).flatMap (pstrs gs secs)))) (fun i _ => got.length - (intOf i).toNat)
          case atStart => exact ⟨0, eb, ms, by omega, rfl, HS, Lib.hid (by rw [List.drop_zero]; exact HC.out)⟩
          case round =>
            clear HS HC HI
            obtain ⟨j, eb, ms, hj, rfl, HS, HC⟩ := hrel
            by_cases hjg : j < got.length
            · obtain ⟨x, hx⟩ : ∃ x, x = got.getD j pD := ⟨_, rfl⟩
              have hxm : x ∈ got := by rw [hx, List.getD_eq_getElem?_getD, List.getElem?_eq_getElem hjg]; exact List.getElem_mem _
              obtain ⟨hxr, hxok⟩ := HRG.out x hxm
              have hdr : got.drop j = x :: got.drop (j + 1) := by rw [hx, List.getD_eq_getElem?_getD, List.getElem?_eq_getElem hjg]; exact List.drop_eq_getElem_cons hjg
              have hcv : Cov gs secs (st2 ms) (pstrs gs secs x ++ (got.drop (j + 1)).flatMap (pstrs gs secs)) := by
                have := HC.out
                rw [hdr, List.flatMap_cons] at this
                exact this
              obtain ⟨e0, e1, e2⟩ := drop_ok hxr hcv
              have hn := drop_none hxr e1 (fun t ht => (List.pairwise_append.1 hcv.dis).2.2 _ (by obtain ⟨s, r, h1, h2⟩ := pstrs_ne (gs := gs) (secs := secs) x; rw [h1, h2]; simp) t ht)
              obtain ⟨sn1, hsn1⟩ : ∃ s, s = (eachA freeS gs secs (st2 ms) x).2 := ⟨_, rfl⟩
              have he1 : eachA freeS gs secs (st2 ms) x = (0, sn1) := Prod.ext e0 hsn1.symm
              rw [← hsn1] at e1 e2 hn
              obtain ⟨l, hl⟩ : ∃ l, l = leftA (st2 ms) := ⟨_, rfl⟩
              obtain ⟨l2, hl2⟩ : ∃ l, l = leftA sn1 := ⟨_, rfl⟩
              have hl1 := HS.out.left
              rw [← hl] at hl1 e2
              rw [← hl2] at e2
              have dle : decide (l2 ≤ l) = false := decide_eq_false (by omega)
              obtain ⟨g, cap, hv, _⟩ := owns_headv HS.out.row (by omega)
              simp only [Value.slice.injEq, true_and] at hv
              obtain ⟨rfl, rfl⟩ := hv
              have HL1 := Lib.hid hl1
              have HL2 := Lib.hid hl2
              have HE1 := Lib.hid he1
              have HN := Lib.hid hn
              have HCV := Lib.hid e1
              have HX := Lib.hid hx.symm
              have HXO := Lib.hid hxok
              obtain ⟨q0, q1, q2, q3, q4, q5, q6, q7, q8, q9, q10, q11⟩ := x
              clear hx hxm hxr hxok hdr hcv e0 e1 hn hsn1 he1 hl hl1 hl2 e2
              go_wp2_with fail
              refine HL1.out.mono ?_
              rintro e w1 ⟨rfl, hS1, _⟩
              obtain ⟨x0, x1, x2, x3, x4, x5, x6, x7, x8, x9, x10, x11⟩ := row_ptr hS1.row rfl hjg HX.out
              have HD1 := Lib.hid (hS1.drop HXO.out HE1.out)
              clear hS1
              go_wp2_with fail
              refine HD1.out.mono ?_
              rintro e w2 ⟨rfl, eb2, ms2, hS2, hst2, _⟩
              have HS2 := Lib.hid hS2
              have HST2 := Lib.hid hst2
              have hl3 := hS2.left
              rw [hst2, ← HL2.out] at hl3
              have HL3 := Lib.hid hl3
              clear hS2 hst2 hl3 x0 x1 x2 x3 x4 x5 x6 x7 x8 x9 x10 x11
              go_wp2_with fail
              refine HL3.out.mono ?_
              rintro e w3 ⟨rfl, hS3, _⟩
              obtain ⟨x0, x1, x2, x3, x4, x5, x6, x7, x8, x9, x10, x11⟩ := row_ptr hS3.row rfl hjg HX.out
              have hn3 := HN.out
              rw [← HST2.out] at hn3
              have HD3 := Lib.hid (hS3.drop HXO.out hn3)
              clear hS3 hn3
              go_wp2_with fail
              refine HD3.out.mono ?_
              rintro e w4 ⟨rfl, eb4, ms4, hS4, hst4, _⟩
              have HS4 := Lib.hid hS4
              have HC4 : Hid (Cov gs secs (st2 ms4) ((got.drop (j + 1)).flatMap (pstrs gs secs))) := Lib.hid (by rw [hst4, HST2.out]; exact HCV.out)
              clear hS4 hst4 x0 x1 x2 x3 x4 x5 x6 x7 x8 x9 x10 x11
              go_wp2_with fail
              go_roundw
              case rel => exact ⟨j + 1, eb4, ms4, by omega, by go_num, HS4, HC4⟩
              case measure => simp [intOf]; omega
            · have hjj : j = got.length := by omega
              subst hjj
              have hcc := HC.out
              rw [List.drop_length, List.flatMap_nil] at hcc
              have hll : leftA (st2 ms) = all_ := by rw [hcc.uniq HCOV.out, HALL.out]
              have hl1 := HS.out.left
              rw [hll] at hl1
              have HL1 := Lib.hid hl1
              clear hcc hll hl1
              go_wp2_with fail
              refine HL1.out.mono ?_
              rintro e w1 ⟨rfl, hS1, _⟩
              have HB := Lib.hid hS1.bel
              clear hS1
              go_wp2_with fail
              go_ret
              exact ⟨rfl, HB.out⟩
end Go.Proofs.Ytmnhdpojonlfhaa
