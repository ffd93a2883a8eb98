/- The walk of a book's one. -/
import Derived.Test.YtmnhdpojonlfhaaAlU
import Derived.Test.YtmnhdpojonlfhaaSpPG
namespace Go.Proofs.Ytmnhdpojonlfhaa
open Go.RowKit
attribute [local go_sem ↓] Go.wp_at_zero Go.wp_at_succ

/-- where a group has room -/
def findG (gs : Gs) (secs : Int) (ms : List MT) (es : List Nat) (size : Int) (g : Nat) : Option Nat := findS (ms.getD g mD).2.1 (ms.getD g mD).2.2 (takesI gs secs g size) (es.getD g 0 : Nat)
/-- what one does -/
def OneIs (w : World) (bb eb : Nat) (gs : Gs) (secs : Int) (ms : List MT) (es : List Nat) (size last : Int) (e : Ending) (w' : World) : Prop :=
  ∃ f, Once gs.length gs.length f ∧ SortedTo (cmpS ms last) f gs.length ∧
    ((∃ i at_, i < gs.length ∧ (∀ j, j < i → findG gs secs ms es size (f j) = none) ∧ findG gs secs ms es size (f i) = some at_ ∧ e = .returned (.tuple #[.agg #[.int .i64 (f i : Nat), .int .i64 (at_ : Nat)], .bool true]) ∧
        IsBook w' bb eb gs secs (ms.set (f i) ((ms.getD (f i) mD).1, (ms.getD (f i) mD).2.1, (takeS (ms.getD (f i) mD).2.1 (ms.getD (f i) mD).2.2 (at_ : Nat) (takesI gs secs (f i) size)).2)) (es.set (f i) (at_ + (takesI gs secs (f i) size).toNat)) ∧ Mod (foot bb eb ms) w w') ∨
     ((∀ j, j < gs.length → findG gs secs ms es size (f j) = none) ∧ e = .returned (.tuple #[.agg #[.int .i64 0, .int .i64 0], .bool false]) ∧ Below w.heap.size w w'))

theorem results_cell_tmp {P : Program} {fn : Func} {p u : Tmp} {ty : TypeId} (h : fn.results = #[.cell p ty, .tmp u]) (tmps : Array Value) (w : World) (g : Nat) (t : TypeId) (cs : Array Value) (fr : Nat × Nat) (d : TypeDesc)
    (hp : tmps.getD p undef = .pointer (some ⟨g, 0, none⟩)) (hg : w.heap[g]? = some (.cells cs t fr))
    (hu : P.underlying ty = some d) (hd : (match d with | .struct _ | .array _ _ => true | _ => false) = true) (hi : (P.info? ty).map (·.size) = some cs.size) :
    (results fn tmps).run P w = .ok (.tuple #[.agg cs, tmps.getD u undef]) w := by
  have hp' : tmps[p]?.getD undef = .pointer (some ⟨g, 0, none⟩) := by simpa using hp
  simp [results, h, hp', asAddr, run_loadVar_row w g t ty cs fr d hg hu hd hi]

section
variable {w : World} {bb eb : Nat} {gs : Gs} {secs : Int} {ms : List MT} {es : List Nat}
theorem IsBook.setOther (h : IsBook w bb eb gs secs ms es) {k e j : Nat} {cs : List Value} {u : Value} (hb : Blk w k e cs) (h1 : e ≠ 145) (h2 : 140 ≠ e) (h3 : 35 ≠ e) (h4 : 3 ≠ e) (h5 : 120 ≠ e) (h6 : 44 ≠ e) :
    IsBook (w.setCell ⟨k, j, none⟩ u) bb eb gs secs ms es := by
  obtain ⟨gv, mv, ec, a1, a2, a3, a4⟩ := h.mem
  refine ⟨h.right, h.mlen, h.elen, ⟨gv, mv, ec, a1.other (a := ⟨k, j, none⟩) ?_ _, owns_setCell_other a2 hb h2, owns_setCell_other a3 hb h3, owns_setCell_other a4 hb h4⟩, fun m hm => (h.maps m hm).setOther hb h5 h6, h.nodup⟩
  rintro rfl
  unfold Blk at a1 hb
  rw [a1] at hb
  simp only [Option.some.injEq, Obj.cells.injEq] at hb
  exact h1 hb.2.1.symm
end

set_option maxHeartbeats 3200000 in
set_option maxRecDepth 100000 in
theorem one_book (bb eb : Nat) (gs : Gs) (secs : Int) (ms : List MT) (es : List Nat) (size last : Int) (w : World) (h : IsBook w bb eb gs secs ms es) (hs1 : 1 ≤ size) (hs2 : size ≤ 4) :
    Calls Try.prog 96 #[.pointer (some ⟨bb, 0, none⟩), .int .i64 size, .int .i64 last] w (OneIs w bb eb gs secs ms es size last) := by
  obtain ⟨gb, gc, mv, mc, ec, c0, c1, c2, c3, hgs, hmp, hes, hmv, heb, hbb⟩ := h.parts
  have hr := rightB_spec h.right
  have HB := Lib.hid h
  obtain ⟨n, hn⟩ : ∃ n, n = gs.length := ⟨_, rfl⟩
  have hn4 := hr.2.1
  have hn1 := hr.1
  have hml := h.mlen
  have hel := h.elen
  rw [← hn] at c0 c2 c3 hn4 hn1 hgs hes hml hel hmp
  have HN := Lib.hid hn
  have HML := Lib.hid hml
  have HEL := Lib.hid hel
  have C0 := Lib.hid c0
  have C1 := Lib.hid c1
  have C2 := Lib.hid c2
  have C3 := Lib.hid c3
  have HGS := Lib.hid hgs
  have HMP := Lib.hid hmp
  have HES := Lib.hid hes
  have hA : Below w.heap.size w (w.alloc (.cells #[.int .i64 0, .int .i64 0] 63)) := (Below.refl _ _).alloc (Nat.le_refl _) _
  have HA := Lib.hid hA
  have HO := Lib.hid (order_any' bb eb gs secs ms es last (w.alloc (.cells #[.int .i64 0, .int .i64 0] 63)) (h.below hA))
  have HR0 := Lib.hid (Blk.new w 63 [.int .i64 0, .int .i64 0])
  have hRT := h.right
  have HRT := Lib.hid hRT
  clear h c0 c1 c2 c3 hgs hmp hes hr hn hml hel hA hRT
  go_enter Try.func96, Try.ntmps96
  go_wp2_with fail
  refine HO.out.mono ?_
  rintro e w1 ⟨g, cap, f, rfl, ho, hs, how, hb1⟩
  rw [← HN.out] at ho hs how ⊢
  have B1 := Lib.hid (HA.out.trans (hb1.mono (by simp)))
  have R1 := Lib.hid (HR0.out.below hb1)
  have hR1 := R1.out.lt
  have OW := Lib.hid (rsl_of_owns how)
  have HOF := Lib.hid ho
  have HS := Lib.hid hs
  have hgl := (how.lt g rfl).2
  have hgg : w.heap.size + 1 ≤ g := by have := (how.lt g rfl).1; simpa using this
  clear hb1 how ho hs
  go_wp2_with fail
  go_loopw [17] (fun i wr => ∃ k : Nat, k ≤ n ∧ i = .int .i64 k ∧ Hid (∀ j, j < k → findG gs secs ms es size (f j) = none) ∧ Hid (Below w1.heap.size w1 wr)) (fun i _ => n - (intOf i).toNat)
  case atStart => exact ⟨0, by omega, rfl, Lib.hid (fun j hj => absurd hj (by omega)), Lib.hid (Below.refl _ _)⟩
  case round =>
    obtain ⟨k, hk, rfl, HNO, HBR⟩ := hrel
    have hbw : Below w.heap.size w wr := B1.out.trans (HBR.out.mono B1.out.size)
    have HBW := Lib.hid hbw
    by_cases hkn : k < n
    · obtain ⟨x, hx⟩ : ∃ x, x = f k := ⟨_, rfl⟩
      have hxn : x < n := by rw [hx]; exact HOF.out.lt k hkn
      have dk : wr.cell? ⟨g, k, none⟩ = some (.int .i64 (x : Nat)) := by
        rw [HBR.out.cell (p := ⟨g, k, none⟩) hgl, hx]
        obtain ⟨b, off, e, _, hc⟩ := OW.out.2.2.2.2 (by omega)
        simp only [Option.some.injEq, Addr.mk.injEq, and_true] at e
        obtain ⟨rfl, rfl⟩ := e
        have := hc k (by omega)
        rw [Nat.zero_add] at this
        rw [this, encF_get _ _ _ hkn]
      have HX := Lib.hid hx
      have e0 : wr.cell? ⟨bb, 0, none⟩ = some (.slice (some ⟨gb, 0, none⟩) n gc) := (hbw.cell (p := ⟨bb, 0, none⟩) hbb).trans C0.out
      have e1 : wr.cell? ⟨bb, 1, none⟩ = some (.int .i64 secs) := (hbw.cell (p := ⟨bb, 1, none⟩) hbb).trans C1.out
      have hT := gtakes_any (some ⟨gb, 0, none⟩) n gc gs secs (x : Nat) size wr (HGS.out.below hbw)
      have hfd : findG gs secs ms es size (f k) = findS (ms.getD x mD).2.1 (ms.getD x mD).2.2 (takesI gs secs (x : Nat) size) (es.getD x 0 : Nat) := by rw [← hx]; rfl
      have htk : takesI gs secs (x : Nat) size = takes (gs.getD x (0, 0)) size := by
        unfold takesI
        rw [if_pos ⟨hasB_mk HRT.out (by omega) (by have := HN.out; omega), hs1, hs2⟩]
        rfl
      have htb := takes_bd (getD_right HRT.out (show x < gs.length by have := HN.out; omega)) hs1 hs2
      rw [← htk] at htb
      obtain ⟨t, ht⟩ : ∃ t, t = (takesI gs secs (x : Nat) size).toNat := ⟨_, rfl⟩
      have ht' : takesI gs secs (x : Nat) size = (t : Int) := by rw [ht, Int.toNat_of_nonneg (by omega)]
      have ht1 : 1 ≤ t := by omega
      have ht6 : t ≤ 6 := by omega
      rw [ht'] at hT hfd
      have HT := Lib.hid hT
      have HFD := Lib.hid hfd
      have HTT := Lib.hid ht'
      have hx0 : (0 : Int) ≤ (x : Int) := by omega
      have hxn' : (x : Int) < (n : Int) := by omega
      clear hx hT hfd htk htb ht ht' hbw
      go_wp2_with fail
      refine HT.out.mono ?_
      rintro e w2 ⟨rfl, hb2⟩
      have B2 := Lib.hid (HBW.out.trans (hb2.mono HBW.out.size))
      have A2 := Lib.hid (HBR.out.trans (hb2.mono HBR.out.size))
      clear hb2 dk e0 e1
      have a2 : w2.cell? ⟨bb, 2, none⟩ = some (.slice (some ⟨mv, 0, none⟩) n mc) := (B2.out.cell (p := ⟨bb, 2, none⟩) hbb).trans C2.out
      have a3 : w2.cell? ⟨bb, 3, none⟩ = some (.slice (some ⟨eb, 0, none⟩) n ec) := (B2.out.cell (p := ⟨bb, 3, none⟩) hbb).trans C3.out
      have am : w2.cell? ⟨mv, x, none⟩ = some (.pointer (some ⟨(ms.getD x mD).1, 0, none⟩)) := (B2.out.cell (p := ⟨mv, x, none⟩) hmv).trans (HMP.out x hxn)
      have ae0 : w.cell? ⟨eb, x, none⟩ = some (.int .i64 (es.getD x 0 : Nat)) := by
        obtain ⟨b, off, e, _, hc⟩ := HES.out.2.2.2.2 (by omega)
        simp only [Option.some.injEq, Addr.mk.injEq, and_true] at e
        obtain ⟨rfl, rfl⟩ := e
        have := hc x (by omega)
        rw [Nat.zero_add] at this
        rw [this, encN_get _ _ (by have := HEL.out; omega)]
      have ae : w2.cell? ⟨eb, x, none⟩ = some (.int .i64 (es.getD x 0 : Nat)) := (B2.out.cell (p := ⟨eb, x, none⟩) heb).trans ae0
      have hbook2 := HB.out.below B2.out
      have hmx := hbook2.map_at (show x < gs.length by have := HN.out; omega)
      obtain ⟨m, hm⟩ : ∃ m, m = ms.getD x mD := ⟨_, rfl⟩
      rw [← hm] at am hmx HFD
      have HM := Lib.hid hm
      obtain ⟨m1, m2, m3⟩ := m
      obtain ⟨en, hen⟩ : ∃ en, en = es.getD x 0 := ⟨_, rfl⟩
      rw [← hen] at ae HFD
      dsimp only at am hmx
      have hF := find_any m1 m2 m3 (t : Nat) (en : Nat) w2.drew (hmx.below (Below.refl _ _).drew)
      have HFD2 : Hid (findG gs secs ms es size (f k) = findS m2 m3 (t : Nat) (en : Nat)) := HFD
      obtain ⟨r, hr⟩ : ∃ r, r = findS m2 m3 (t : Nat) (en : Nat) := ⟨_, rfl⟩
      rw [← hr] at hF HFD2
      have HF := Lib.hid hF
      have HRR := Lib.hid hr
      have HMX := Lib.hid hmx
      have hlt1 : m1 < w2.heap.size := hmx.lt
      have hbbl : bb < w2.heap.size := by have := B2.out.size; omega
      have hmvl : mv < w2.heap.size := by have := B2.out.size; omega
      have hebl : eb < w2.heap.size := by have := B2.out.size; omega
      have A2' := Lib.hid a2
      have A3' := Lib.hid a3
      have AM' := Lib.hid am
      have AE' := Lib.hid ae
      have HB2 := Lib.hid hbook2
      clear hm hen ae0 hF hr hmx hbook2 HFD
      rcases r with _ | at_
      · go_wp2_with fail
        go_region_held3 (fun w' => w'.cell? ⟨bb, 2, none⟩ = some (.slice (some ⟨mv, 0, none⟩) n mc) ∧ w'.cell? ⟨mv, x, none⟩ = some (.pointer (some ⟨m1, 0, none⟩)) ∧ w'.cell? ⟨bb, 3, none⟩ = some (.slice (some ⟨eb, 0, none⟩) n ec) ∧ w'.cell? ⟨eb, x, none⟩ = some (.int .i64 (en : Nat))) (go_keep)
          (first
            | (go_at_call 35; refine HF.out.mono ?_; rintro e w3 ⟨rfl, hb3⟩; have hd2 := (hb3.cell (p := ⟨bb, 2, none⟩) hbbl).trans A2'.out; have hdm := (hb3.cell (p := ⟨mv, x, none⟩) hmvl).trans AM'.out; have hd3 := (hb3.cell (p := ⟨bb, 3, none⟩) hbbl).trans A3'.out; have hde := (hb3.cell (p := ⟨eb, x, none⟩) hebl).trans AE'.out))
        have hb3' : Below w2.heap.size w2 w3 := (Below.refl _ _).drew.trans hb3
        go_wp2_with fail
        go_roundw
        case rel =>
          refine ⟨k + 1, by omega, by go_num, Lib.hid fun j hj => ?_, Lib.hid (A2.out.trans (hb3'.mono A2.out.size))⟩
          rcases Nat.lt_or_ge j k with h1 | h1
          · exact HNO.out j h1
          · rw [show j = k by omega]; exact HFD2.out
        case measure => simp [intOf]; omega
      · have hgd := HMX.out.2.2.1
        have hm6 := HMX.out.1
        obtain ⟨_, hq2, hq3⟩ := findS_some hgd ht1 HRR.out.symm
        have hT3 := fun W (hW : IsMap W m1 m2 m3) => take_any m1 m2 m3 (at_ : Nat) (t : Nat) W hW
        have HT3 := Lib.hid hT3
        clear hgd hq3 hT3
        go_wp2_with fail
        go_region_held3 (fun w' => w'.cell? ⟨bb, 2, none⟩ = some (.slice (some ⟨mv, 0, none⟩) n mc) ∧ w'.cell? ⟨mv, x, none⟩ = some (.pointer (some ⟨m1, 0, none⟩)) ∧ w'.cell? ⟨bb, 3, none⟩ = some (.slice (some ⟨eb, 0, none⟩) n ec) ∧ w'.cell? ⟨eb, x, none⟩ = some (.int .i64 (en : Nat))) (go_keep)
          (first
            | (go_at_call 35; refine HF.out.mono ?_; rintro e w3 ⟨rfl, hb3⟩; have hd2 := (hb3.cell (p := ⟨bb, 2, none⟩) hbbl).trans A2'.out; have hdm := (hb3.cell (p := ⟨mv, x, none⟩) hmvl).trans AM'.out; have hd3 := (hb3.cell (p := ⟨bb, 3, none⟩) hbbl).trans A3'.out; have hde := (hb3.cell (p := ⟨eb, x, none⟩) hebl).trans AE'.out))
        have hb3' : Below w2.heap.size w2 w3 := (Below.refl _ _).drew.trans hb3
        have HM3 := Lib.hid (HMX.out.below hb3')
        have HB3 := Lib.hid (HB2.out.below hb3')
        have B3 := Lib.hid (B2.out.trans (hb3'.mono B2.out.size))
        have A3 := Lib.hid (A2.out.trans (hb3'.mono A2.out.size))
        clear hb3 hb3' a2 a3 am ae
        go_wp2_with fail
        refine (HT3.out w3 HM3.out).mono ?_
        rintro e w4 ⟨rfl, hm4, hg4⟩
        have hgm : m1 = (ms.getD x mD).1 := by rw [← HM.out]
        have hg4' : w3.grownBy w4 (some (ms.getD x mD).1) := by rw [← hgm]; exact hg4
        have hm4' : IsMap w4 (ms.getD x mD).1 m2 (takeS m2 m3 (at_ : Nat) (t : Nat)).2 := by rw [← hgm]; exact hm4
        have hbook4 := HB3.out.setMap (show x < gs.length by have := HN.out; omega) hg4' hm4'
        obtain ⟨gb4, gc4, mv4, mc4, ec4, f0, f1, f2, f3, _, _, hes4, _, heb4, hbb4⟩ := hbook4.parts
        have M4 : Mod (foot bb eb ms) w w4 := (Mod.below B3.out).trans (G := foot bb eb ms) (Mod.grown hg4' (HB3.out.footMap (show x < gs.length by have := HN.out; omega))) (fun _ _ h => h)
        have hne : ∀ k, k < w1.heap.size → w.heap.size ≤ k → k ≠ (ms.getD x mD).1 := by
          intro k _ hk e
          have := HB.out.lt _ (HB.out.footMap (show x < gs.length by have := HN.out; omega))
          omega
        have R4 : Blk w4 w.heap.size 63 [.int .i64 0, .int .i64 0] := by
          have h3 := R1.out.below A3.out
          unfold Blk
          rw [hg4'.block w.heap.size h3.lt (by simpa using hne w.heap.size hR1 (Nat.le_refl _))]
          exact h3
        rw [← HN.out] at f3 hes4
        have k0 : w4.cell? ⟨eb, x, none⟩ = some (.int .i64 (es.getD x 0 : Nat)) := by
          obtain ⟨b, off, e, _, hc⟩ := hes4.2.2.2.2 (by omega)
          simp only [Option.some.injEq, Addr.mk.injEq, and_true] at e
          obtain ⟨rfl, rfl⟩ := e
          have := hc x (by omega)
          rw [Nat.zero_add] at this
          rw [this, encN_get _ _ (by have := HEL.out; omega)]
        have k1 : w4.frozen? ⟨eb, x, none⟩ = false := by
          obtain ⟨gv, mv', ec', _, _, _, h4⟩ := hbook4.mem
          exact h4.frozenAt x
        have hw1 : IntKind.i64.wrap ((at_ : Int) + (t : Int)) = (at_ : Int) + (t : Int) := IntWalk.i64_in _ (by omega)
        have HB4 := Lib.hid (hbook4.setEnd (x := at_ + t) (show x < gs.length by have := HN.out; omega))
        have M4' := Lib.hid M4
        have R4' := Lib.hid R4
        have hRne : w.heap.size ≠ eb := by omega
        have RR := Lib.hid ((R4.other (a := ⟨eb, x, none⟩) hRne (.int .i64 ((at_ : Int) + (t : Int)))))
        have r0 := RR.out.cell 0
        have r1 := RR.out.cell 1
        have r2 := RR.out.frozen 0
        have r3 := RR.out.frozen 1
        clear hm4 hg4 hg4' hm4' hbook4 hes4 M4 R4 f0 f1 f2 hgm
        go_wp2_with fail
        have RR1 := RR.out.setCell 0 (.int .i64 (x : Nat))
        have RR2 := RR1.setCell 1 (.int .i64 (at_ : Nat))
        refine bodyPost_ret (results_cell_tmp rfl _ _ w.heap.size 63 #[.int .i64 (x : Nat), .int .i64 (at_ : Nat)] (0, 0) _ rfl RR2 rfl rfl rfl) rfl ?_
        have hcast : ((at_ + t : Nat) : Int) = (at_ : Int) + (t : Int) := by omega
        have h1 := HB4.out
        rw [hcast] at h1
        have h2 := (h1.setOther (j := 0) (u := .int .i64 (x : Nat)) RR.out (by decide) (by decide) (by decide) (by decide) (by decide) (by decide)).setOther (j := 1) (u := .int .i64 (at_ : Nat)) RR1 (by decide) (by decide) (by decide) (by decide) (by decide) (by decide)
        unfold OneIs
        rw [← HN.out]
        refine ⟨f, HOF.out, HS.out, .inl ⟨k, at_, hkn, HNO.out, HFD2.out, by rw [← HX.out]; rfl, ?_, (((M4'.out.setCell (.inl (.inr (.inl rfl)))).setCell (.inr (Nat.le_refl _))).setCell (.inr (Nat.le_refl _)))⟩⟩
        rw [← HX.out, HTT.out]
        have hM := HM.out
        rw [← hM] at h2 ⊢
        simpa using h2
    · have hkn' : k = n := by omega
      subst hkn'
      have R2 := Lib.hid (R1.out.below HBR.out)
      have r0 := R2.out.cell 0
      have r1 := R2.out.cell 1
      have r2 := R2.out.frozen 0
      have r3 := R2.out.frozen 1
      go_wp2_with fail
      have RR1 := R2.out.setCell 0 (.int .i64 0)
      have RR2 := RR1.setCell 1 (.int .i64 0)
      refine bodyPost_ret (results_cell_tmp rfl _ _ w.heap.size 63 #[.int .i64 0, .int .i64 0] (0, 0) _ rfl RR2 rfl rfl rfl) rfl ?_
      unfold OneIs
      rw [← HN.out]
      exact ⟨f, HOF.out, HS.out, .inr ⟨HNO.out, rfl, (HBW.out.setCell (Nat.le_refl _) _).setCell (Nat.le_refl _) _⟩⟩
end Go.Proofs.Ytmnhdpojonlfhaa
