/- polderlaw12: AllocFull. -/
import Derived.Test.YtmnhdpojonlfhaaAlRj
import Derived.Test.YtmnhdpojonlfhaaAlF
namespace Go.Proofs.Ytmnhdpojonlfhaa
open Go.RowKit
set_option linter.unusedSimpArgs false
attribute [local go_sem ↓] Go.wp_at_zero Go.wp_at_succ

theorem Cov.perm {gs : Gs} {secs : Int} {sn : SN} {L L' : List St} (h : Cov gs secs sn L) (hp : L.Perm L') : Cov gs secs sn L' :=
  ⟨h.slen, h.size, h.good, fun s hs => h.ok s (hp.mem_iff.2 hs), (hp.pairwise_iff (fun hd => Dis.symm hd)).1 h.dis, fun g x hg => by
    rw [h.us g x hg]
    exact ⟨fun ⟨s, hs, hx⟩ => ⟨s, hp.mem_iff.1 hs, hx⟩, fun ⟨s, hs, hx⟩ => ⟨s, hp.mem_iff.2 hs, hx⟩⟩⟩
theorem RSt.box {w wr : World} {bb eb : Nat} {gs : Gs} {secs : Int} {ms : List MT} {es : List Nat} {v : Value} {got : List PtrT} {gcs : List Value} (h : RSt w wr bb eb gs secs ms es v got gcs) {a : Nat} {cs : List Value} (hX : Blk wr a 68 cs) : ¬ foot bb eb ms a := fun hf => by
  obtain ⟨cs', e, h1, h2⟩ := h.bk.tyOk a hf hX.lt
  unfold Blk at hX
  rw [hX] at h1
  simp only [Option.some.injEq, Obj.cells.injEq] at h1
  have h4 := h1.2.1
  subst h4
  revert h2
  decide
theorem RSt.getK {w W : World} {bb eb : Nat} {gs : Gs} {secs : Int} {ms : List MT} {es : List Nat} {v : Value} {got : List PtrT} {gcs : List Value} {size : Int} {two : Bool} {r : GetR} (h : RSt w W bb eb gs secs ms es v got gcs) (hr : getA gs secs (st2 ms) es size two = r) :
    Calls Try.prog 59 #[.pointer (some ⟨bb, 0, none⟩), .int .i64 size, .bool two] W fun e w' =>
      e = .returned (.tuple #[.agg #[.int .i64 (r.p.1 : Nat), .int .i64 (r.p.2 : Nat)], .agg #[.int .i64 (r.q.1 : Nat), .int .i64 (r.q.2 : Nat)], .int .i64 (r.err : Nat)]) ∧
      ∃ eb' ms', RSt w w' bb eb' gs secs ms' r.es v got gcs ∧ st2 ms' = r.sn ∧ (∀ g, ¬ foot bb eb ms g → g < W.heap.size → w'.heap[g]? = W.heap[g]?) := by
  refine (get_any bb eb gs secs ms es size two W h.bk).mono ?_
  rintro e w' ⟨rfl, eb', ms', a1, a2, a3, hm⟩
  rw [hr] at a1 a2 ⊢
  exact ⟨rfl, eb', ms', h.mod hm a1 a3, a2, fun g hg hgl => hm.block g hgl hg⟩
theorem Full.fresh {gs : Gs} {secs size : Int} {sn : SN} (hr : rightB gs secs = true) (hl : sn.length = gs.length) (hs : ∀ j, j < gs.length → sn.getD j sD = ((sect (gs.getD j (0, 0)) secs).toNat, [])) : Full gs secs size sn (List.replicate gs.length 0) (List.replicate gs.length 0) := by
  refine ⟨Inv.fresh hr hl hs, by simp, fun g hg => ?_⟩
  have e : (List.replicate gs.length 0).getD g 0 = 0 := by simp [List.getD, hg]
  rw [e, hs g hg]
  exact ⟨rfl, rfl⟩

set_option maxRecDepth 100000 in
set_option maxHeartbeats 6400000 in
theorem alfull_any (ga : Option Addr) (gn gc : Nat) (gs : Gs) (secs : Int) (u : Int) (w : World) (hg : GSl w ga gn gc gs) (hu : 0 ≤ u ∧ u ≤ 255) :
    Calls Try.prog 18 #[.agg #[.slice ga gn gc, .int .i64 secs], .int .u8 u] w fun e w' => e = .returned (.bool true) ∧ Below w.heap.size w w' := by
  have hb0 : Below w.heap.size w (w.alloc (.cells #[.slice ga gn gc, .int .i64 secs] 96)) := (Below.refl _ _).alloc (Nat.le_refl _) _
  have HB0 := Lib.hid hb0
  have HG0 := Lib.hid hg
  have hmx := hg.mx
  obtain ⟨u0, u1⟩ := hu
  have HLN := Lib.hid hg.len
  have HW0 := Lib.hid (awake12_any (w.alloc (.cells #[.slice ga gn gc, .int .i64 secs] 96)))
  have HR0 := Lib.hid (Blk.new w 96 [.slice ga gn gc, .int .i64 secs])
  clear hb0 hg
  go_enter Try.func18, Try.ntmps18
  go_wp2_with fail
  refine HW0.out.mono ?_
  rintro e w1 ⟨rfl, hb1⟩
  have B1 := Lib.hid (HB0.out.trans (hb1.mono HB0.out.size))
  have R1 := Lib.hid (HR0.out.below hb1)
  have r0 := R1.out.cell 0
  have r1 := R1.out.cell 1
  have HF := Lib.hid (few12_any ga none gn gc 0 0 secs w1 hmx (by omega))
  clear hb1
  go_wp2_with fail
  refine HF.out.mono ?_
  rintro e w2 ⟨rfl, hb2⟩
  have B2 := Lib.hid (B1.out.trans (hb2.mono B1.out.size))
  have R2 := Lib.hid (R1.out.below hb2)
  clear hb2 r0 r1
  have r0 := R2.out.cell 0
  have r1 := R2.out.cell 1
  cases hfw : fewB 0 gn secs
  · have HW2 := Lib.hid (awake12_any w2)
    go_wp2_with fail
    refine HW2.out.mono ?_
    rintro e w3 ⟨rfl, hb3⟩
    go_wp2_with fail
    go_ret
    exact ⟨rfl, B2.out.trans (hb3.mono B2.out.size)⟩
  · have hs200 : secs ≤ 200 := by unfold fewB at hfw; simp at hfw; exact hfw.2
    have hg3 := HG0.out.below B2.out
    clear hfw
    cases hr : rightB gs secs
    · have HN := Lib.hid (anew_no ga gn gc gs secs w2 hg3 hr)
      clear hg3 hr
      go_wp2_with fail
      refine HN.out.mono ?_
      rintro e w4 ⟨rfl, hb4⟩
      go_wp2_with fail
      go_ret
      exact ⟨rfl, B2.out.trans (hb4.mono B2.out.size)⟩
    · have HN := Lib.hid (anew_yes ga gn gc gs secs w2 hg3 hr)
      have HRT := Lib.hid hr
      have hgn4 := (rightB_spec hr).2.1
      clear hg3 hr
      go_wp2_with fail
      refine HN.out.mono ?_
      rintro e w4 ⟨bb, eb, ms, rfl, hbk, hfr, hfo0, hb4⟩
      obtain ⟨sz, hsz⟩ : ∃ s, s = 1 + u % 4 := ⟨_, rfl⟩
      have z1 : 1 ≤ sz := by omega
      have z2 : sz ≤ 4 := by omega
      have B4 := Lib.hid (B2.out.trans (hb4.mono B2.out.size))
      have R4 := Lib.hid (R2.out.below hb4)
      have hfo : ∀ k, foot bb eb ms k → w.heap.size + 1 ≤ k := fun k hk => by have := hfo0 k hk; have h2 := R2.out.lt; omega
      have hsl : (st2 ms).length = gs.length := by rw [st2_length, hbk.mlen]
      have hfr2 : ∀ j, j < gs.length → (st2 ms).getD j sD = ((sect (gs.getD j (0, 0)) secs).toNat, []) := fun j hj => by rw [st2_get]; exact hfr j hj
      have HFU := Lib.hid (Full.fresh (size := sz) HRT.out hsl hfr2)
      have HCOV := Lib.hid (Cov.empty hsl hfr2)
      have HS4 : Hid (RSt w w4 bb eb gs secs ms (List.replicate gs.length 0) (.slice none 0 0) [] [.slice ga gn gc, .int .i64 secs]) := Lib.hid ⟨hbk, hfo, World.ownsRow_nil _ _ _ _, R4.out, B4.out⟩
      have HSZ := Lib.hid hsz.symm
      have hgn : gn ≤ 4 := by have := HLN.out; omega
      clear hbk hfr hfo0 hb4 hfo hsl hfr2 r0 r1 R4 B4 R2 B2 R1 B1 HR0 HB0 HN hsz hgn4
      go_wp2_with fail
      have hsz := HSZ.out
      rw [hsz]
      clear hsz u0 u1
      go_loopw [8, 9] (fun v i wr => ∃ (k eb : Nat) (ms : List MT) (es c : List Nat) (got : List PtrT), i = .int .i64 (k : Nat) ∧ got.length = k ∧ c.sum = k ∧ Hid (RSt w wr bb eb gs secs ms es v got [.slice ga gn gc, .int .i64 secs]) ∧ Hid (Full gs secs sz (st2 ms) es c) ∧ Hid (Cov gs secs (st2 ms) (got.flatMap (pstrs gs secs))) ∧ Hid (∀ x ∈ got, ptrRight gs secs x = true ∧ x.ok ∧ ∃ p, x = mkP p (0, 0) false sz)) (fun _ i _ => 3000 - (intOf i).toNat)
      case atStart => exact ⟨0, eb, ms, _, _, [], rfl, rfl, by simp, HS4, HFU, HCOV, Lib.hid (by simp)⟩
      case round =>
        obtain ⟨k, eb, ms, es, c, got, rfl, hgl, hcs, HS, HFL, HC, HRG⟩ := hrel
        clear HS4 HFU HCOV
        have hk29 : k ≤ 2944 := by have := HFL.out.count z1 z2 hs200; omega
        have HCS := Lib.hid hcs
        have HGL := Lib.hid hgl
        obtain ⟨aoG, capG, rfl, _⟩ := RSl.of_owns HS.out.row
        obtain ⟨r, hr⟩ : ∃ r, r = getA gs secs (st2 ms) es sz false := ⟨_, rfl⟩
        have hfg := HFL.out.get z1 z2
        have hrg := HFL.out.inv.rightGet HC.out sz false
        rw [← hr] at hfg hrg
        have HG := Lib.hid (HS.out.getK hr.symm)
        have HFG := Lib.hid hfg
        have HRGT := Lib.hid hrg
        obtain ⟨⟨p1, p2⟩, ⟨y1, y2⟩, err, rsn, res⟩ := r
        dsimp only at HG HFG HRGT
        clear hr hfg hrg hcs hgl
        go_wp2_with fail
        refine HG.out.mono ?_
        rintro e w5 ⟨rfl, eb5, ms5, hS5, hst5, _⟩
        have HS5 := Lib.hid hS5
        have HST5 := Lib.hid hst5
        have hbA : Below w5.heap.size w5 ((w5.alloc (.cells #[.int .i64 (p1 : Nat), .int .i64 (p2 : Nat)] 63)).alloc (.cells #[.int .i64 (y1 : Nat), .int .i64 (y2 : Nat)] 63)) := ((Below.refl _ _).alloc (Nat.le_refl _) _).alloc (by simp) _
        have HS6 := Lib.hid (hS5.below hbA)
        clear hS5 hst5 hbA
        rcases HFG.out with ⟨he, hsn, hes, hno⟩ | ⟨he, hq, c', hc', hfl'⟩
        · obtain rfl : err = 8 := he
          subst hes
          have hg0 : got ≠ [] := fun e => by
            have h1 := HC.out
            rw [e, List.flatMap_nil] at h1
            exact HFL.out.room z1 z2 h1 hno
          have hgl := HGL.out
          have hk1 : 1 ≤ k := by
            rw [← hgl]
            exact List.length_pos_iff.2 hg0
          have hl := HFL.out.left z1 z2 hno
          obtain ⟨l, hll⟩ : ∃ l, l = leftA (st2 ms5) := ⟨_, rfl⟩
          have hl7 : l ≤ 7 * (gn : Int) := by rw [hll, HST5.out, hsn, ← HLN.out]; exact hl
          have dle : decide (7 * (gn : Int) < l) = false := decide_eq_false (by omega)
          have w70 : IntKind.i64.wrap (7 * (gn : Int)) = 7 * (gn : Int) := IntWalk.i64_in _ (by omega)
          have hke : (got.length == 0) = false := by rw [hgl]; simp; omega
          have hke2 : ((got.length : Int) == 0) = false := by rw [hgl]; simp; omega
          obtain ⟨h2, hh2⟩ : ∃ h, h = got.length / 2 := ⟨_, rfl⟩
          have hdiv : (got.length : Int) / 2 = (h2 : Int) := by rw [hh2]; omega
          have hh2l : h2 < got.length := by omega
          have hh3 : h2 ≤ 2944 := by omega
          obtain ⟨x, hx⟩ : ∃ x, x = got.getD h2 pD := ⟨_, rfl⟩
          have hxm : x ∈ got := by rw [hx, List.getD_eq_getElem?_getD, List.getElem?_eq_getElem hh2l]; exact List.getElem_mem _
          obtain ⟨hxr, hxok, ⟨a1, a2⟩, hxp⟩ := HRG.out x hxm
          have hcp : Cov gs secs (st2 ms5) (pstrs gs secs x ++ (got.take h2 ++ got.drop (h2 + 1)).flatMap (pstrs gs secs)) := by
            rw [HST5.out, hsn]
            refine HC.out.perm ?_
            have e1 : got = got.take h2 ++ x :: got.drop (h2 + 1) := by
              rw [hx, List.getD_eq_getElem?_getD, List.getElem?_eq_getElem hh2l]
              simp
            conv => lhs; rw [e1]
            rw [List.flatMap_append, List.flatMap_cons, List.flatMap_append, ← List.append_assoc]
            exact (List.perm_append_comm.append_right _).trans (by rw [List.append_assoc])
          obtain ⟨e0, _, _⟩ := drop_ok hxr hcp
          obtain ⟨sn1, hsn1⟩ : ∃ s, s = (eachA freeS gs secs (st2 ms5) x).2 := ⟨_, rfl⟩
          have he1 : eachA freeS gs secs (st2 ms5) x = (0, sn1) := Prod.ext e0 hsn1.symm
          have hag := HFL.out.again z1 z2 hno (x := (a1, a2)) (by rw [← hxp]; exact hxr) (by rw [← hxp, ← hsn, ← HST5.out]; exact e0)
          rw [← hxp, ← hsn, ← HST5.out, ← hsn1] at hag
          obtain ⟨r2, hr2⟩ : ∃ r, r = getA gs secs sn1 res sz false := ⟨_, rfl⟩
          rw [← hr2] at hag
          have HR2 := Lib.hid hr2
          have HAG := Lib.hid hag
          have HE1 := Lib.hid he1
          have HXO := Lib.hid hxok
          have hxc : got.getD h2 pD = ⟨(a1 : Nat), (a2 : Nat), ((0 : Nat) : Int), ((0 : Nat) : Int), false, sz, 0, 1, 0, 0, 0, 0⟩ := by rw [← hx, hxp]; rfl
          have HXC := Lib.hid hxc
          have HXP := Lib.hid hxp
          have hL := (HS6.out.below ((Below.refl _ _).drew)).left
          rw [← hll] at hL
          have HLF := Lib.hid hL
          have g0 : ((w5.alloc (.cells #[.int .i64 (p1 : Nat), .int .i64 (p2 : Nat)] 63)).alloc (.cells #[.int .i64 (y1 : Nat), .int .i64 (y2 : Nat)] 63)).cell? ⟨w.heap.size, 0, none⟩ = some (.slice ga gn gc) := HS6.out.geo.cell 0
          obtain ⟨g, cap, hv, _⟩ := owns_headv HS.out.row (by omega)
          simp only [Value.slice.injEq, true_and] at hv
          obtain ⟨rfl, rfl⟩ := hv
          clear hg0 hl hll hl7 hh2 hx hxm hxr hxok hxp hcp e0 hsn1 he1 hag hr2 hxc hL hno hsn hgl
          go_wp2_with fail
          go_region_held3 (fun w' => w'.cell? ⟨w.heap.size, 0, none⟩ = some (.slice ga gn gc)) (go_keep)
            (first | (go_at_call 61; refine HLF.out.mono ?_; rintro e w7 ⟨rfl, hS7, hb7⟩; have HS7 := Lib.hid hS7; have g7 : w7.cell? ⟨w.heap.size, 0, none⟩ = some (.slice ga gn gc) := hS7.geo.cell 0; clear hS7 hb7))
          obtain ⟨x0, x1, x2, x3, x4, x5, x6, x7, x8, x9, x10, x11⟩ := row_ptr HS7.out.row rfl hh2l HXC.out
          have hAX : Below w7.heap.size w7 (w7.alloc (.cells (encPtr x).toArray 68)) := (Below.refl _ _).alloc (Nat.le_refl _) _
          have hS8 := HS7.out.below hAX
          have hX8 : Blk (w7.alloc (.cells (encPtr x).toArray 68)) w7.heap.size 68 (encPtr x) := Blk.new w7 _ _
          have hnf := hS8.box hX8
          have hDR := hS8.drop HXO.out HE1.out
          rw [HXP.out] at hDR hX8
          have HDR := Lib.hid hDR
          have HX8 := Lib.hid hX8
          have HNF := Lib.hid hnf
          clear hAX hS8 hX8 hnf hDR
          go_wp2_with fail
          refine HDR.out.mono ?_
          rintro e w9 ⟨rfl, eb9, ms9, hS9, hst9, hk9⟩
          have hX9 : Blk w9 w7.heap.size 68 (encPtr (mkP (a1, a2) (0, 0) false sz)) := by
            unfold Blk
            rw [hk9 _ HNF.out HX8.out.lt]
            exact HX8.out
          have hnf9 := hS9.box hX9
          have hG9 := hS9.getK (size := sz) (two := false) (r := r2) (by rw [hst9]; exact HR2.out.symm)
          have HG9 := Lib.hid hG9
          have HX9 := Lib.hid hX9
          have HNF9 := Lib.hid hnf9
          obtain ⟨⟨b1, b2⟩, ⟨b3, b4⟩, err2, rsn2, res2⟩ := r2
          have hag := HAG.out
          dsimp only at hag HG9
          simp only [Prod.mk.injEq] at hag
          obtain ⟨rfl, rfl, rfl⟩ := hag
          clear hS9 hst9 hk9 hX9 hnf9 hG9 x0 x1 x2 x3 x4 x5 x6 x7 x8 x9 x10 x11
          go_wp2_with fail
          refine HG9.out.mono ?_
          rintro e w10 ⟨rfl, eb10, ms10, hS10, hst10, hk10⟩
          have hX10 : Blk w10 w7.heap.size 68 (encPtr (mkP (b1, b2) (0, 0) false sz)) := by
            unfold Blk
            rw [hk10 _ HNF9.out HX9.out.lt]
            exact HX9.out
          have hX11 := (hX10.alloc (.cells #[.int .i64 (b1 : Nat), .int .i64 (b2 : Nat)] 63)).alloc (.cells #[.int .i64 (b3 : Nat), .int .i64 (b4 : Nat)] 63)
          have x0 := hX11.cell 0
          have x1 := hX11.cell 1
          simp only [encPtr, mkP, List.getElem?_cons_zero, List.getElem?_cons_succ] at x0 x1
          have HB10 := Lib.hid hS10.bel
          clear hS10 hst10 hk10 hX10 hX11
          go_wp2_with fail
          go_ret
          exact ⟨rfl, (HB10.out.alloc HB10.out.size _).alloc (Nat.le_trans HB10.out.size (by simp)) _⟩
        · obtain rfl : err = 0 := he
          simp only [Prod.mk.injEq] at hq
          obtain ⟨rfl, rfl⟩ := hq
          rcases HRGT.out with ⟨hne, _⟩ | ⟨_, _, _, hcov, _, _⟩
          · exact absurd rfl hne
          · have hpr := hcov.right HRT.out z1 z2 (fun _ => rfl)
            have hxok := mkP_ok hpr
            obtain ⟨x, hx⟩ : ∃ x, x = mkP (p1, p2) (0, 0) false sz := ⟨_, rfl⟩
            have hcv : Cov gs secs (st2 ms5) ((got ++ [x]).flatMap (pstrs gs secs)) := by
              rw [HST5.out, hx, List.flatMap_append, List.flatMap_singleton, pstrs_mk]
              exact hcov
            have HCV := Lib.hid hcv
            have HFL5 : Hid (Full gs secs sz (st2 ms5) res c') := Lib.hid (by rw [HST5.out]; exact hfl')
            have HXR : Hid (∀ y ∈ got ++ [x], ptrRight gs secs y = true ∧ y.ok ∧ ∃ p, y = mkP p (0, 0) false sz) := Lib.hid (fun y hy => by
              rcases List.mem_append.1 hy with hy | hy
              · exact HRG.out y hy
              · rw [List.mem_singleton.1 hy, hx]; exact ⟨hpr, hxok, _, rfl⟩)
            have HC' : Hid (c'.sum = k + 1) := Lib.hid (by rw [hc', HCS.out])
            have HX := Lib.hid hx
            obtain ⟨i0, hi, hi0, hi1, hi2⟩ := info_parts infoPt
            have hgl := HGL.out
            have m1 : got.length + 1 ≤ maxLen := by unfold maxLen; omega
            have m2 : (got.length + 1) * 96 ≤ 140737488355328 := by omega
            have hb6 := HS6.out.bel.size
            have hz6 : ((w5.alloc (.cells #[.int .i64 (p1 : Nat), .int .i64 (p2 : Nat)] 63)).alloc (.cells #[.int .i64 ((0 : Nat) : Int), .int .i64 ((0 : Nat) : Int)] 63)).heap.size = w5.heap.size + 1 + 1 := by simp
            have m3 : w.heap.size ≤ (((w5.alloc (.cells #[.int .i64 (p1 : Nat), .int .i64 (p2 : Nat)] 63)).alloc (.cells #[.int .i64 ((0 : Nat) : Int), .int .i64 ((0 : Nat) : Int)] 63)).alloc (.cells (encPs [mkP (p1, p2) (0, 0) false sz]).toArray 68)).heap.size := by rw [World.size_alloc]; omega
            have HNW := Lib.hid (Blk.news (Blk.newAt (w := ((w5.alloc (.cells #[.int .i64 (p1 : Nat), .int .i64 (p2 : Nat)] 63)).alloc (.cells #[.int .i64 ((0 : Nat) : Int), .int .i64 ((0 : Nat) : Int)] 63))) (g := w5.heap.size + 1 + 1) 68 (encPs [mkP (p1, p2) (0, 0) false sz]) hz6))
            have HROW := Lib.hid (HS6.out.row.alloc (.cells (encPs [mkP (p1, p2) (0, 0) false sz]).toArray 68))
            clear hz6 hb6
            clear hcov hpr hxok hcv hfl' hc' hx hgl
            go_wp2_with (at_builtin; go_must (refine wpList_append_own _ rfl (.tmp 49) (.tmp 53) 61 rfl w.heap.size 68 i0 (.agg #[.int .i64 0, .int .i64 0, .int .i64 0, .int .i64 0, .bool false, .int .i64 0, .int .i64 0, .int .i64 0, .int .u64 0, .int .u64 0, .int .u64 0, .int .u64 0]) 12 96 Try.underlying61 hi hi0 hi1 hi2 rfl (Nat.succ_pos 11) (.slice aoG got.length capG) got.length (encPs got) rfl HROW.out ⟨w5.heap.size + 1 + 1, 0, none⟩ 1 1 (encPs [mkP (p1, p2) (0, 0) false sz]) rfl rfl HNW.out (encPs_one _) m1 m2 m3 ?_; intro v10 w10 hown10 hgrow10 _))
            have HS10 := HS6.out.app hown10 hgrow10
            rw [← HX.out] at HS10
            have HS10 := Lib.hid HS10
            clear hown10
            go_roundw
            case rel => exact ⟨k + 1, eb5, ms5, res, c', got ++ [x], by go_num, by simp [HGL.out], HC'.out, HS10, HFL5, HCV, HXR⟩
            case measure => simp [intOf]; omega
end Go.Proofs.Ytmnhdpojonlfhaa
