/- The walk of tree.set, all levels. -/
import Derived.Test.YtbhofablndjeoaaDoorTrR
namespace Go.Proofs.YtbhofablndjeoaaDoor
open Go.RowKit
set_option linter.unusedSimpArgs false
set_option linter.unusedVariables false
attribute [local go_sem ↓] wp_loadPt wp_storePt wp_loadA4 wp_storeA4 wp_binA4

section
variable {σ : Type} {S : StF σ} {ty : TypeId} {a : Addr} {C : StoreC S ty a}
set_option maxHeartbeats 1000000 in
set_option maxRecDepth 100000 in
theorem set_any : ∀ (k : Nat) {w : World} {st : σ} {F : Nat → Prop} (h : C.Is w st F) (p : PtrT) (hp : p.wf) (i : Nat) (s : Bs) (hk : k ≤ 3) (hi : i < 4 ^ k) (hsl : s.length ≤ 1000000) (hok : C.Ok (setM S k p i s st).2),
    Calls Tryd.prog 49 #[.iface ty (.pointer (some a)), .agg (encPtr p).toArray, .int .i64 (k : Nat), .int .i64 (i : Nat), .string ⟨s.toArray⟩] w fun e w' => PutR (setM S k p i s st).1 e ∧ C.Step F (setM S k p i s st).2 w w' := by
  intro k
  induction k with
  | zero => exact fun {w} {st} {F} h p hp i s hk hi hsl hok => set0_any h p (i : Nat) s hsl hok
  | succ k ih =>
    intro w st F h p hp i s hk hi hsl hok
    obtain ⟨w0, hw0⟩ : ∃ w0, w0 = (w.alloc (.cells (encPtr p).toArray 35)).alloc (.cells (encPtr pD).toArray 35) := ⟨_, rfl⟩
    have hb : Blk w0 w.heap.size 35 (encPtr p) := by rw [hw0]; exact (Blk.new w _ _).alloc _
    have hr : Blk w0 (w.heap.size + 1) 35 (encPtr pD) := by rw [hw0]; exact Blk.newAt (w := w.alloc _) _ _ (by simp)
    have hbel : Below w.heap.size w w0 := by rw [hw0]; exact ((Below.refl _ _).alloc (Nat.le_refl _) _).alloc (by simp) _
    have h1 : ¬ F (w.heap.size + 1) := fun hf => by have := C.lt h _ hf; omega
    have HAT : Hid (C.At F st w w0 F) := Lib.hid ((StoreC.At.start h).below hbel)
    have hld := fun op a next Q => loadW_blk (P := Tryd.prog) hb Tryd.underlying35 rfl iszPt op a next Q
    have HR := Lib.hid hr
    have hRe : setM S (k + 1) p i s st = M.bind (linksM S p) (fun l => M.bind (setM S k (l.getD (i / 4 ^ k) pD) (i % 4 ^ k) s) fun q => putM S (l.set (i / 4 ^ k) q) (k + 1)) st := rfl
    have hokl : C.Ok (linksM S p st).2 := back_first (fun l => back_bind (back_set C.bg C.bp k _ _ _) (fun q => back_putM C.bp _ _)) (by rw [← hRe]; exact hok)
    obtain ⟨R, hRR⟩ : ∃ R, setM S (k + 1) p i s st = R := ⟨_, rfl⟩
    rw [hRR] at hRe hok ⊢
    have HOK := Lib.hid hok
    have HL := Lib.hid (links_any HAT.out.1 p hp hokl)
    have hk0 : ((k : Int) + 1 == 0) = false := by simp; omega
    clear hb hbel hr hok hRR hokl
    rcases hlm : linksM S p st with ⟨r | l, s2⟩
    · rw [M.bind_err hlm] at hRe
      rw [hlm] at HL
      have HRE := Lib.hid hRe
      clear hRe hlm
      go_enter Tryd.func49, Tryd.ntmps49
      go_upto_region 1 with fail
      rw [show (w.alloc (.cells (encPtr p).toArray 35)).alloc (.cells #[.int .i64 0, .int .i64 0, .int .i64 0, .int .i64 0, .bool false, .int .i64 0, .int .i64 0, .int .i64 0, .int .u64 0, .int .u64 0, .int .u64 0, .int .u64 0] 35) = w0 from hw0.symm]
      clear hw0
      go_wp2_with fail
      refine HL.out.mono ?_
      rintro e w2 ⟨⟨rfl, hr0⟩, hstep⟩
      have hr1 : ((r : Int) != 0) = true := by simpa using hr0
      obtain ⟨F2, hat, hfr, hm⟩ := HAT.out.step hstep
      have hsn := store_newA4 zs4 rfl w2
      have hbr := (hm.blk HR.out h1).alloc (.cells (encPs zs4).toArray 108)
      have hst := fun op a next Q => storeZPt hbr rfl op a next Q
      have HB2 := Lib.hid (hbr.put (vs := encPtr pD) rfl)
      have HA2 := Lib.hid ((hat.below ((Below.refl _ _).alloc (Nat.le_refl _) (.cells (encPs zs4).toArray 108))).put (o := 0) (vs := encPtr pD) (Nat.le_succ _) (hfr _ HR.out.lt h1))
      clear hat hfr hm hbr hstep hld
      go_wp2_with fail
      refine bodyPost_ret (res_cell_tmp rfl _ _ (w.heap.size + 1) 35 _ _ rfl HB2.out Tryd.underlying35 rfl iszPt) rfl ?_
      rw [HRE.out]
      exact ⟨⟨rfl, hr0⟩, HA2.out.fin⟩
    · rw [M.bind_ok hlm] at hRe
      rw [hlm] at HL
      have hl4w : l.length = 4 ∧ ∀ q ∈ l, q.wf := links_good hlm
      obtain ⟨hl4, hlw⟩ := hl4w
      obtain ⟨g, m, rr, hg, hm1, hr1, hg1, hg2, hm4, hrl⟩ : ∃ g m r : Nat, g = 4 ^ k ∧ m = i / 4 ^ k ∧ r = i % 4 ^ k ∧ 1 ≤ g ∧ g ≤ 64 ∧ m < 4 ∧ r < 4 ^ k := by
        have hlt := hi
        rw [Nat.pow_succ] at hlt
        have hp2 : 4 ^ k ≤ 4 ^ 3 := Nat.pow_le_pow_right (by omega) (by omega)
        have hp1 : 0 < 4 ^ k := Nat.pow_pos (by omega)
        exact ⟨4 ^ k, i / 4 ^ k, i % 4 ^ k, rfl, rfl, rfl, hp1, by omega, Nat.div_lt_of_lt_mul (by omega), Nat.mod_lt _ hp1⟩
      have hj64 : i ≤ 256 := by
        have hlt := hi
        rw [Nat.pow_succ] at hlt
        omega
      have hml : m < l.length := by rw [hl4]; exact hm4
      obtain ⟨x, hx⟩ : ∃ x, x = l[m]'hml := ⟨_, rfl⟩
      have hgd : l.getD m pD = x := by rw [List.getD_eq_getElem?_getD, List.getElem?_eq_getElem hml, hx]; rfl
      rw [← hm1, ← hr1, hgd] at hRe
      have HRG : Hid (∀ {W : World} {b e : Nat}, Blk W b e (encPs l) → W.rangeAt b (m * 12) (encPtr x)) := Lib.hid (fun h => by rw [hx]; exact range_ps h hml)
      have hxw : x.wf := by rw [hx]; exact hlw _ (List.getElem_mem hml)
      have hb12 : m * 12 + 12 ≤ (encPs l).length := by rw [encPs_length, hl4]; omega
      have HQ1 : Hid (((i : Int) / (g : Int)) = (m : Int)) := Lib.hid (by rw [hm1, hg]; simp)
      have HQ2 : Hid (((i : Int) % (g : Int)) = (rr : Int)) := Lib.hid (by rw [hr1, hg]; simp)
      have HBE : Hid (∀ W, Calls Tryd.prog 44 #[.int .i64 ((k : Int) + 1)] W fun e w' => e = .returned (.int .i64 (g : Nat)) ∧ w' = W) := Lib.hid (fun W => by
        have := below_any (k + 1) W (by omega)
        rw [show k + 1 - 1 = k from rfl, ← hg, show (((k + 1 : Nat)) : Int) = (k : Int) + 1 by omega] at this
        exact this)
      have HML := Lib.hid hml
      have HL4 := Lib.hid hl4
      have HRE := Lib.hid hRe
      have hokS : C.Ok (setM S k x rr s s2).2 := back_first (fun q => back_putM C.bp _ _) (by rw [← hRe]; exact HOK.out)
      obtain ⟨rv, s3, hRS⟩ : ∃ rv s3, setM S k x rr s s2 = (rv, s3) := ⟨_, _, rfl⟩
      have HRS := Lib.hid hRS
      have HOKS := Lib.hid hokS
      clear hx hgd hRS
      clear hm1 hr1 hg hRe hlm hl4 hokS
      go_enter Tryd.func49, Tryd.ntmps49
      go_upto_region 1 with fail
      rw [show (w.alloc (.cells (encPtr p).toArray 35)).alloc (.cells #[.int .i64 0, .int .i64 0, .int .i64 0, .int .i64 0, .bool false, .int .i64 0, .int .i64 0, .int .i64 0, .int .u64 0, .int .u64 0, .int .u64 0, .int .u64 0] 35) = w0 from hw0.symm]
      clear hw0
      go_wp2_with fail
      refine HL.out.mono ?_
      rintro e w2 ⟨⟨rfl, hl4, _⟩, hstep⟩
      obtain ⟨F2, hat, hfr, hm⟩ := HAT.out.step hstep
      have hsn := store_newA4 l hl4 w2
      obtain ⟨w3, hw3⟩ : ∃ w3, w3 = w2.alloc (.cells (encPs l).toArray 108) := ⟨_, rfl⟩
      have hb23 : Below w2.heap.size w2 w3 := by rw [hw3]; exact (Below.refl _ _).alloc (Nat.le_refl _) _
      have HBL : Hid (Blk w3 w2.heap.size 108 (encPs l)) := by rw [hw3]; exact Lib.hid (Blk.new w2 _ _)
      rw [← hw3] at hsn
      have HBRR := Lib.hid ((hm.blk HR.out h1).below hb23)
      have HF1 := Lib.hid (hfr _ HR.out.lt h1)
      have HFL := Lib.hid (hat.fresh (Nat.le_refl _))
      have HATD := Lib.hid ((hat.below hb23).below (Below.refl _ _).drew)
      have HSZ2 : Hid (w.heap.size + 2 ≤ w2.heap.size) := Lib.hid (by have := HR.out.lt; have := hm.size; omega)
      have HSET := Lib.hid (ih HATD.out.1 x hxw rr s (by omega) hrl hsl HOKS.out)
      rw [HRS.out] at HSET
      clear hat hfr hm hstep hld hw3 hb23 hl4
      go_wp2_with fail
      refine (HBE.out _).mono ?_
      rintro e w5 ⟨rfl, rfl⟩
      go_wp2_with fail
      rw [HQ1.out, IntWalk.wrap64_in (m : Int) (by omega)]
      refine wp_region_held_drew (S := fun _ => True) (by kernel_rfl) trivial (fun hS0 => ?_)
      refine wpAnyH_take (i := 0) (oi := ?oib0) (v := ?vb0) ?hib0 ?hsb0 ?hfb0 ?hrb0 ?hQb0 ?hyb0 ?hSb0 ?hb0
      case hib0 => (simp only [List.getElem?_toArray, List.getElem?_cons_succ, List.getElem?_cons_zero]; rfl)
      case hsb0 => kernel_rfl
      case hfb0 => kernel_rfl
      case hrb0 => kernel_rfl
      case hSb0 => first | assumption | trivial
      case hyb0 => refine Or.inl ⟨by kernel_rfl, ?_⟩; (intro w hSw; (try dsimp only at hSw); go_simp; try with_reducible rfl)
      case hQb0 => exact fun _ _ _ h => h
      try simp only [Act.put, List.setIfInBounds_toArray, List.set_cons_zero, List.set_cons_succ]
      refine wpAnyH_take (i := 1) (oi := ?oib1) (v := ?vb1) ?hib1 ?hsb1 ?hfb1 ?hrb1 ?hQb1 ?hyb1 ?hSb1 ?hb1
      case hib1 => (simp only [List.getElem?_toArray, List.getElem?_cons_succ, List.getElem?_cons_zero]; rfl)
      case hsb1 => kernel_rfl
      case hfb1 => kernel_rfl
      case hrb1 => kernel_rfl
      case hSb1 => first | assumption | trivial
      case hyb1 => refine Or.inl ⟨by kernel_rfl, ?_⟩; (intro w hSw; (try dsimp only at hSw); go_simp; try with_reducible rfl)
      case hQb1 => exact fun _ _ _ h => h
      try simp only [Act.put, List.setIfInBounds_toArray, List.set_cons_zero, List.set_cons_succ]
      refine wpAnyH_take (i := 2) (oi := ?oib2) (v := ?vb2) ?hib2 ?hsb2 ?hfb2 ?hrb2 ?hQb2 ?hyb2 ?hSb2 ?hb2
      case hib2 => (simp only [List.getElem?_toArray, List.getElem?_cons_succ, List.getElem?_cons_zero]; rfl)
      case hsb2 => kernel_rfl
      case hfb2 => kernel_rfl
      case hrb2 => kernel_rfl
      case hSb2 => first | assumption | trivial
      case hyb2 => refine Or.inl ⟨by kernel_rfl, ?_⟩; (intro w hSw; (try dsimp only at hSw); go_simp; try with_reducible rfl)
      case hQb2 => exact fun _ _ _ h => h
      try simp only [Act.put, List.setIfInBounds_toArray, List.set_cons_zero, List.set_cons_succ]
      refine wpAnyH_take (i := 3) (oi := ?oib3) (v := ?vb3) ?hib3 ?hsb3 ?hfb3 ?hrb3 ?hQb3 ?hyb3 ?hSb3 ?hb3
      case hib3 => (simp only [List.getElem?_toArray, List.getElem?_cons_succ, List.getElem?_cons_zero]; rfl)
      case hsb3 => kernel_rfl
      case hfb3 => kernel_rfl
      case hrb3 => kernel_rfl
      case hSb3 => first | assumption | trivial
      case hyb3 => refine Or.inl ⟨by kernel_rfl, ?_⟩; (intro w hSw; (try dsimp only at hSw); go_simp; rw [if_pos (by omega)])
      case hQb3 => exact fun _ _ _ h => h
      try simp only [Act.put, List.setIfInBounds_toArray, List.set_cons_zero, List.set_cons_succ]
      refine wpAnyH_take (i := 5) (oi := ?oib5) (v := ?vb5) ?hib5 ?hsb5 ?hfb5 ?hrb5 ?hQb5 ?hyb5 ?hSb5 ?hb5
      case hib5 => (simp only [List.getElem?_toArray, List.getElem?_cons_succ, List.getElem?_cons_zero]; rfl)
      case hsb5 => kernel_rfl
      case hfb5 => kernel_rfl
      case hrb5 => kernel_rfl
      case hSb5 => first | assumption | trivial
      case hyb5 => refine Or.inl ⟨by kernel_rfl, ?_⟩; (intro w hSw; (try dsimp only at hSw); go_simp; try with_reducible rfl)
      case hQb5 => exact fun _ _ _ h => h
      try simp only [Act.put, List.setIfInBounds_toArray, List.set_cons_zero, List.set_cons_succ]
      refine wpAnyH_take (i := 6) (oi := ?oib6) (v := ?vb6) ?hib6 ?hsb6 ?hfb6 ?hrb6 ?hQb6 ?hyb6 ?hSb6 ?hb6
      case hib6 => (simp only [List.getElem?_toArray, List.getElem?_cons_succ, List.getElem?_cons_zero]; rfl)
      case hsb6 => kernel_rfl
      case hfb6 => kernel_rfl
      case hrb6 => kernel_rfl
      case hSb6 => first | assumption | trivial
      case hyb6 => refine Or.inl ⟨by kernel_rfl, ?_⟩; (intro w hSw; (try dsimp only at hSw); go_simp; rw [IntWalk.i64_in _ (by omega)])
      case hQb6 => exact fun _ _ _ h => h
      try simp only [Act.put, List.setIfInBounds_toArray, List.set_cons_zero, List.set_cons_succ]
      refine wpAnyH_take (i := 7) (oi := ?oib7) (v := ?vb7) ?hib7 ?hsb7 ?hfb7 ?hrb7 ?hQb7 ?hyb7 ?hSb7 ?hb7
      case hib7 => (simp only [List.getElem?_toArray, List.getElem?_cons_succ, List.getElem?_cons_zero]; rfl)
      case hsb7 => kernel_rfl
      case hfb7 => kernel_rfl
      case hrb7 => kernel_rfl
      case hSb7 => first | assumption | trivial
      case hyb7 => refine Or.inl ⟨by kernel_rfl, ?_⟩; (intro w hSw; (try dsimp only at hSw); go_simp; try with_reducible rfl)
      case hQb7 => exact fun _ _ _ h => h
      try simp only [Act.put, List.setIfInBounds_toArray, List.set_cons_zero, List.set_cons_succ]
      refine wpAnyH_take (i := 8) (oi := ?oib8) (v := ?vb8) ?hib8 ?hsb8 ?hfb8 ?hrb8 ?hQb8 ?hyb8 ?hSb8 ?hb8
      case hib8 => (simp only [List.getElem?_toArray, List.getElem?_cons_succ, List.getElem?_cons_zero]; rfl)
      case hsb8 => kernel_rfl
      case hfb8 => kernel_rfl
      case hrb8 => kernel_rfl
      case hSb8 => first | assumption | trivial
      case hyb8 => refine Or.inl ⟨by kernel_rfl, ?_⟩; (intro w hSw; (try dsimp only at hSw); go_simp; try with_reducible rfl)
      case hQb8 => exact fun _ _ _ h => h
      try simp only [Act.put, List.setIfInBounds_toArray, List.set_cons_zero, List.set_cons_succ]
      refine wpAnyH_take (i := 11) (oi := ?oib11) (v := ?vb11) ?hib11 ?hsb11 ?hfb11 ?hrb11 ?hQb11 ?hyb11 ?hSb11 ?hb11
      case hib11 => (simp only [List.getElem?_toArray, List.getElem?_cons_succ, List.getElem?_cons_zero]; rfl)
      case hsb11 => kernel_rfl
      case hfb11 => kernel_rfl
      case hrb11 => kernel_rfl
      case hSb11 => first | assumption | trivial
      case hyb11 => refine Or.inl ⟨by kernel_rfl, ?_⟩; (intro w hSw; (try dsimp only at hSw); go_simp; try with_reducible rfl)
      case hQb11 => exact fun _ _ _ h => h
      try simp only [Act.put, List.setIfInBounds_toArray, List.set_cons_zero, List.set_cons_succ]
      refine wpAnyH_ready (rs := [4, 9]) (by kernel_rfl) (by simp) ?_
      refine AllReadyH.cons (by simp only [List.getElem?_toArray, List.getElem?_cons_succ, List.getElem?_cons_zero]; rfl) (fun K hK => ?_) (AllReadyH.cons (by simp only [List.getElem?_toArray, List.getElem?_cons_succ, List.getElem?_cons_zero]; rfl) (fun K hK => ?_) AllReadyH.nil)
      · rw [if_pos (by kernel_rfl)]
        refine wp_load_mid 35 (.tmp 48) rfl w2.heap.size (m * 12) rfl (encPtr x) _ (HRG.out HBL.out.drew) Tryd.underlying35 rfl iszPt ?_
        refine hK.out _ _ (trivial) (fun hSbp4 => ?_)
        try simp only [Act.put, List.setIfInBounds_toArray, List.set_cons_zero, List.set_cons_succ]
        refine wpAnyH_ready (rs := [9]) (by kernel_rfl) (by simp) ?_
        refine AllReadyH.cons (by simp only [List.getElem?_toArray, List.getElem?_cons_succ, List.getElem?_cons_zero]; rfl) (fun K hK => ?_) AllReadyH.nil
        go_simp
        refine (HBE.out _).mono ?_
        rintro e w5 ⟨rfl, rfl⟩
        try dsimp only
        refine hK.out _ _ (trivial) (fun hSbp9 => ?_)
        try simp only [Act.put, List.setIfInBounds_toArray, List.set_cons_zero, List.set_cons_succ]
        refine wpAnyH_take (i := 10) (oi := ?oibp10) (v := ?vbp10) ?hibp10 ?hsbp10 ?hfbp10 ?hrbp10 ?hQbp10 ?hybp10 ?hSbp10 ?hbp10
        case hibp10 => (simp only [List.getElem?_toArray, List.getElem?_cons_succ, List.getElem?_cons_zero]; rfl)
        case hsbp10 => kernel_rfl
        case hfbp10 => kernel_rfl
        case hrbp10 => kernel_rfl
        case hSbp10 => first | assumption | trivial
        case hybp10 => refine Or.inl ⟨by kernel_rfl, ?_⟩; (intro w hSw; (try dsimp only at hSw); go_simp; rw [if_neg (by omega), IntWalk.rem_in _ _ (by omega), HQ2.out])
        case hQbp10 => exact fun _ _ _ h => h
        try simp only [Act.put, List.setIfInBounds_toArray, List.set_cons_zero, List.set_cons_succ]
        refine wpAnyH_ready (rs := [12]) (by kernel_rfl) (by simp) ?_
        refine AllReadyH.cons (by simp only [List.getElem?_toArray, List.getElem?_cons_succ, List.getElem?_cons_zero]; rfl) (fun K hK => ?_) AllReadyH.nil
        go_simp
        refine HSET.out.mono ?_
        rintro e w6 ⟨hpr, hstep6⟩
        have hpe := PutR.val hpr
        obtain ⟨q, hq⟩ : ∃ q, ptrV rv = q := ⟨_, rfl⟩
        obtain ⟨E, hE⟩ : ∃ E, errV rv = E := ⟨_, rfl⟩
        rw [hq, hE] at hpe
        subst hpe
        have HQV := Lib.hid hq
        have HEE := Lib.hid hE
        have HPR := Lib.hid (PutR.two hpr)
        clear hq hE hpr
        obtain ⟨F3, hat6, hfr6, hm6⟩ := HATD.out.step hstep6
        have hbl6 := hm6.blk HBL.out.drew HFL.out
        have hbr6 := hm6.blk HBRR.out.drew HF1.out
        have hfl6 := hfr6 _ HBL.out.lt HFL.out
        have hf16 := hfr6 _ HBRR.out.lt HF1.out
        clear hfr6 hstep6 hm6
        try dsimp only
        refine hK.out _ _ (trivial) (fun hSbp12 => ?_)
        try simp only [Act.put, List.setIfInBounds_toArray, List.set_cons_zero, List.set_cons_succ]
        refine wpAnyH_take (i := 13) (oi := ?oibp13) (v := ?vbp13) ?hibp13 ?hsbp13 ?hfbp13 ?hrbp13 ?hQbp13 ?hybp13 ?hSbp13 ?hbp13
        case hibp13 => (simp only [List.getElem?_toArray, List.getElem?_cons_succ, List.getElem?_cons_zero]; rfl)
        case hsbp13 => kernel_rfl
        case hfbp13 => kernel_rfl
        case hrbp13 => kernel_rfl
        case hSbp13 => first | assumption | trivial
        case hybp13 => refine Or.inl ⟨by kernel_rfl, ?_⟩; (intro w hSw; (try dsimp only at hSw); go_simp; try with_reducible rfl)
        case hQbp13 => exact fun _ _ _ h => h
        try simp only [Act.put, List.setIfInBounds_toArray, List.set_cons_zero, List.set_cons_succ]
        refine wpAnyH_take (i := 14) (oi := ?oibp14) (v := ?vbp14) ?hibp14 ?hsbp14 ?hfbp14 ?hrbp14 ?hQbp14 ?hybp14 ?hSbp14 ?hbp14
        case hibp14 => (simp only [List.getElem?_toArray, List.getElem?_cons_succ, List.getElem?_cons_zero]; rfl)
        case hsbp14 => kernel_rfl
        case hfbp14 => kernel_rfl
        case hrbp14 => kernel_rfl
        case hSbp14 => first | assumption | trivial
        case hybp14 => refine Or.inl ⟨by kernel_rfl, ?_⟩; (intro w hSw; (try dsimp only at hSw); go_simp; try with_reducible rfl)
        case hQbp14 => exact fun _ _ _ h => h
        try simp only [Act.put, List.setIfInBounds_toArray, List.set_cons_zero, List.set_cons_succ]
        refine wpAnyH_take (i := 15) (oi := ?oibp15) (v := ?vbp15) ?hibp15 ?hsbp15 ?hfbp15 ?hrbp15 ?hQbp15 ?hybp15 ?hSbp15 ?hbp15
        case hibp15 => (simp only [List.getElem?_toArray, List.getElem?_cons_succ, List.getElem?_cons_zero]; rfl)
        case hsbp15 => kernel_rfl
        case hfbp15 => kernel_rfl
        case hrbp15 => kernel_rfl
        case hSbp15 => first | assumption | trivial
        case hybp15 => refine Or.inl ⟨by kernel_rfl, ?_⟩; (intro w hSw; (try dsimp only at hSw); go_simp; try with_reducible rfl)
        case hQbp15 => exact fun _ _ _ h => h
        try simp only [Act.put, List.setIfInBounds_toArray, List.set_cons_zero, List.set_cons_succ]
        refine wpAnyH_take (i := 16) (oi := ?oibp16) (v := ?vbp16) ?hibp16 ?hsbp16 ?hfbp16 ?hrbp16 ?hQbp16 ?hybp16 ?hSbp16 ?hbp16
        case hibp16 => (simp only [List.getElem?_toArray, List.getElem?_cons_succ, List.getElem?_cons_zero]; rfl)
        case hsbp16 => kernel_rfl
        case hfbp16 => kernel_rfl
        case hrbp16 => kernel_rfl
        case hSbp16 => first | assumption | trivial
        case hybp16 => refine Or.inl ⟨by kernel_rfl, ?_⟩; (intro w hSw; (try dsimp only at hSw); go_simp; rw [if_pos (by omega)])
        case hQbp16 => exact fun _ _ _ h => h
        try simp only [Act.put, List.setIfInBounds_toArray, List.set_cons_zero, List.set_cons_succ]
        refine wpAnyH_ready (rs := [17]) (by kernel_rfl) (by simp) ?_
        refine AllReadyH.cons (by simp only [List.getElem?_toArray, List.getElem?_cons_succ, List.getElem?_cons_zero]; rfl) (fun K hK => ?_) AllReadyH.nil
        rw [if_pos (by kernel_rfl)]
        refine wp_store_mid 35 (.tmp 60) (.tmp 58) rfl w2.heap.size (m * 12) (encPtr q).toArray rfl rfl (blk_there hbl6 hb12) iszPt (all_oneCell_toArray (encPtr_ones _)) ?_
        refine hK.out _ _ (trivial) (fun hSbp17 => ?_)
        try simp only [Act.put, List.setIfInBounds_toArray, List.set_cons_zero, List.set_cons_succ]
        refine wpAnyH_take (i := 18) (oi := ?oibp18) (v := ?vbp18) ?hibp18 ?hsbp18 ?hfbp18 ?hrbp18 ?hQbp18 ?hybp18 ?hSbp18 ?hbp18
        case hibp18 => (simp only [List.getElem?_toArray, List.getElem?_cons_succ, List.getElem?_cons_zero]; rfl)
        case hsbp18 => kernel_rfl
        case hfbp18 => kernel_rfl
        case hrbp18 => kernel_rfl
        case hSbp18 => first | assumption | trivial
        case hybp18 => refine Or.inl ⟨by kernel_rfl, ?_⟩; (intro w hSw; (try dsimp only at hSw); go_simp; try with_reducible rfl)
        case hQbp18 => exact fun _ _ _ h => h
        try simp only [Act.put, List.setIfInBounds_toArray, List.set_cons_zero, List.set_cons_succ]
        refine wpAnyH_done (by kernel_rfl) ?_ _
        have hset : Blk (w6.setCells w2.heap.size (m * 12) (encPtr q)) w2.heap.size 108 (encPs (l.set m q)) := by
          have := hbl6.setCells (encPtr q) (m * 12) hb12
          rw [show m * 12 + (encPtr q).length = m * 12 + 12 from rfl, encPs_setCells _ m _ HML.out] at this
          exact this
        have hbr7 := hbr6.away (m * 12) (encPtr q) (by have := HBRR.out.lt; have := HSZ2.out; omega : w.heap.size + 1 ≠ w2.heap.size)
        have hat7 := hat6.put (o := m * 12) (vs := encPtr q) (by have := HSZ2.out; omega : w.heap.size ≤ w2.heap.size) hfl6
        have hl4s : (l.set m q).length = 4 := by rw [List.length_set, HL4.out]
        rcases HPR.out with ⟨r, rfl, hr0⟩ | ⟨q', rfl, hqw⟩
        · have hRe := HRE.out
          rw [M.bind_err HRS.out] at hRe
          obtain rfl := HQV.out
          obtain rfl := HEE.out
          have hr1 : ((r : Int) != 0) = true := by simpa using hr0
          have HRE3 := Lib.hid hRe
          clear hRe HQV HEE
          unfold ptrV errV at *
          have hst := fun op a next Q => storeZPt hbr7 rfl op a next Q
          have HB2 := Lib.hid (hbr7.put (vs := encPtr pD) rfl)
          have HA2 := Lib.hid (hat7.put (o := 0) (vs := encPtr pD) (Nat.le_succ _) hf16)
          clear hset hbr7 hat7 hbl6 hl4s hat6 hbr6
          go_wp2_with fail
          refine bodyPost_ret (res_cell_tmp rfl _ _ (w.heap.size + 1) 35 _ _ rfl HB2.out Tryd.underlying35 rfl iszPt) rfl ?_
          rw [HRE3.out]
          exact ⟨⟨rfl, hr0⟩, HA2.out.fin⟩
        · have hRe := HRE.out
          rw [M.bind_ok HRS.out] at hRe
          obtain rfl : q' = q := HQV.out
          obtain rfl : E = 0 := HEE.out.symm
          have hwf : ∀ x ∈ l.set m q', x.wf := fun x hx => (List.mem_or_eq_of_mem_set hx).elim (hlw x) (fun e => e ▸ hqw)
          have hokp : C.Ok (putM S (l.set m q') (k + 1) s3).2 := by rw [← hRe]; exact HOK.out
          have hl4q : (l.set m q').length = 4 := hl4s
          have hld := fun op a next Q => loadW_blk (P := Tryd.prog) (t := 108) hset Tryd.underlying108 rfl (by rw [encPs_length]; exact hl4q ▸ iszA4) op a next Q
          have HAT7 := Lib.hid hat7
          have HBR7 := Lib.hid hbr7
          have HPUT := Lib.hid (put_any hat7.1 (l.set m q') hl4q hwf (k + 1) (by omega) hokp)
          have HRE3 := Lib.hid hRe
          clear hset hbr7 hat7 hbl6 hl4s hRe hat6 hbr6 hokp hl4q
          go_wp2_with fail
          refine HPUT.out.mono ?_
          rintro e w8 ⟨hpr8, hstep8⟩
          have hpe8 := PutR.val hpr8
          subst hpe8
          obtain ⟨F4, hat8, hfr8, hm8⟩ := HAT7.out.step hstep8
          have hbr8 := hm8.blk HBR7.out hf16
          have hst := fun op a next Q => storeW_part (P := Tryd.prog) (t := 35) (o := 0) (cs := encPtr (ptrV (putM S (l.set m q') (k + 1) s3).1)) hbr8 (Nat.le_refl 12) iszPt (encPtr_ones _) op a next Q
          have HB2 := Lib.hid (hbr8.put (vs := encPtr (ptrV (putM S (l.set m q') (k + 1) s3).1)) rfl)
          have HA2 := Lib.hid (hat8.put (o := 0) (vs := encPtr (ptrV (putM S (l.set m q') (k + 1) s3).1)) (Nat.le_succ _) (hfr8 _ HBR7.out.lt hf16))
          have HPR8 := Lib.hid hpr8
          clear hpr8 hat8 hfr8 hm8 hbr8 hstep8
          go_wp2_with fail
          refine bodyPost_ret (res_cell_tmp rfl _ _ (w.heap.size + 1) 35 _ _ rfl HB2.out Tryd.underlying35 rfl iszPt) rfl ?_
          rw [HRE3.out]
          exact ⟨HPR8.out, HA2.out.fin⟩
      · go_simp
        refine (HBE.out _).mono ?_
        rintro e w5 ⟨rfl, rfl⟩
        try dsimp only
        refine hK.out _ _ (trivial) (fun hSbq9 => ?_)
        try simp only [Act.put, List.setIfInBounds_toArray, List.set_cons_zero, List.set_cons_succ]
        refine wpAnyH_take (i := 10) (oi := ?oibq10) (v := ?vbq10) ?hibq10 ?hsbq10 ?hfbq10 ?hrbq10 ?hQbq10 ?hybq10 ?hSbq10 ?hbq10
        case hibq10 => (simp only [List.getElem?_toArray, List.getElem?_cons_succ, List.getElem?_cons_zero]; rfl)
        case hsbq10 => kernel_rfl
        case hfbq10 => kernel_rfl
        case hrbq10 => kernel_rfl
        case hSbq10 => first | assumption | trivial
        case hybq10 => refine Or.inl ⟨by kernel_rfl, ?_⟩; (intro w hSw; (try dsimp only at hSw); go_simp; rw [if_neg (by omega), IntWalk.rem_in _ _ (by omega), HQ2.out])
        case hQbq10 => exact fun _ _ _ h => h
        try simp only [Act.put, List.setIfInBounds_toArray, List.set_cons_zero, List.set_cons_succ]
        refine wpAnyH_ready (rs := [4]) (by kernel_rfl) (by simp) ?_
        refine AllReadyH.cons (by simp only [List.getElem?_toArray, List.getElem?_cons_succ, List.getElem?_cons_zero]; rfl) (fun K hK => ?_) AllReadyH.nil
        rw [if_pos (by kernel_rfl)]
        refine wp_load_mid 35 (.tmp 48) rfl w2.heap.size (m * 12) rfl (encPtr x) _ (HRG.out HBL.out.drew) Tryd.underlying35 rfl iszPt ?_
        refine hK.out _ _ (trivial) (fun hSbq4 => ?_)
        try simp only [Act.put, List.setIfInBounds_toArray, List.set_cons_zero, List.set_cons_succ]
        refine wpAnyH_ready (rs := [12]) (by kernel_rfl) (by simp) ?_
        refine AllReadyH.cons (by simp only [List.getElem?_toArray, List.getElem?_cons_succ, List.getElem?_cons_zero]; rfl) (fun K hK => ?_) AllReadyH.nil
        go_simp
        refine HSET.out.mono ?_
        rintro e w6 ⟨hpr, hstep6⟩
        have hpe := PutR.val hpr
        obtain ⟨q, hq⟩ : ∃ q, ptrV rv = q := ⟨_, rfl⟩
        obtain ⟨E, hE⟩ : ∃ E, errV rv = E := ⟨_, rfl⟩
        rw [hq, hE] at hpe
        subst hpe
        have HQV := Lib.hid hq
        have HEE := Lib.hid hE
        have HPR := Lib.hid (PutR.two hpr)
        clear hq hE hpr
        obtain ⟨F3, hat6, hfr6, hm6⟩ := HATD.out.step hstep6
        have hbl6 := hm6.blk HBL.out.drew HFL.out
        have hbr6 := hm6.blk HBRR.out.drew HF1.out
        have hfl6 := hfr6 _ HBL.out.lt HFL.out
        have hf16 := hfr6 _ HBRR.out.lt HF1.out
        clear hfr6 hstep6 hm6
        try dsimp only
        refine hK.out _ _ (trivial) (fun hSbq12 => ?_)
        try simp only [Act.put, List.setIfInBounds_toArray, List.set_cons_zero, List.set_cons_succ]
        refine wpAnyH_take (i := 13) (oi := ?oibq13) (v := ?vbq13) ?hibq13 ?hsbq13 ?hfbq13 ?hrbq13 ?hQbq13 ?hybq13 ?hSbq13 ?hbq13
        case hibq13 => (simp only [List.getElem?_toArray, List.getElem?_cons_succ, List.getElem?_cons_zero]; rfl)
        case hsbq13 => kernel_rfl
        case hfbq13 => kernel_rfl
        case hrbq13 => kernel_rfl
        case hSbq13 => first | assumption | trivial
        case hybq13 => refine Or.inl ⟨by kernel_rfl, ?_⟩; (intro w hSw; (try dsimp only at hSw); go_simp; try with_reducible rfl)
        case hQbq13 => exact fun _ _ _ h => h
        try simp only [Act.put, List.setIfInBounds_toArray, List.set_cons_zero, List.set_cons_succ]
        refine wpAnyH_take (i := 14) (oi := ?oibq14) (v := ?vbq14) ?hibq14 ?hsbq14 ?hfbq14 ?hrbq14 ?hQbq14 ?hybq14 ?hSbq14 ?hbq14
        case hibq14 => (simp only [List.getElem?_toArray, List.getElem?_cons_succ, List.getElem?_cons_zero]; rfl)
        case hsbq14 => kernel_rfl
        case hfbq14 => kernel_rfl
        case hrbq14 => kernel_rfl
        case hSbq14 => first | assumption | trivial
        case hybq14 => refine Or.inl ⟨by kernel_rfl, ?_⟩; (intro w hSw; (try dsimp only at hSw); go_simp; try with_reducible rfl)
        case hQbq14 => exact fun _ _ _ h => h
        try simp only [Act.put, List.setIfInBounds_toArray, List.set_cons_zero, List.set_cons_succ]
        refine wpAnyH_take (i := 15) (oi := ?oibq15) (v := ?vbq15) ?hibq15 ?hsbq15 ?hfbq15 ?hrbq15 ?hQbq15 ?hybq15 ?hSbq15 ?hbq15
        case hibq15 => (simp only [List.getElem?_toArray, List.getElem?_cons_succ, List.getElem?_cons_zero]; rfl)
        case hsbq15 => kernel_rfl
        case hfbq15 => kernel_rfl
        case hrbq15 => kernel_rfl
        case hSbq15 => first | assumption | trivial
        case hybq15 => refine Or.inl ⟨by kernel_rfl, ?_⟩; (intro w hSw; (try dsimp only at hSw); go_simp; try with_reducible rfl)
        case hQbq15 => exact fun _ _ _ h => h
        try simp only [Act.put, List.setIfInBounds_toArray, List.set_cons_zero, List.set_cons_succ]
        refine wpAnyH_take (i := 16) (oi := ?oibq16) (v := ?vbq16) ?hibq16 ?hsbq16 ?hfbq16 ?hrbq16 ?hQbq16 ?hybq16 ?hSbq16 ?hbq16
        case hibq16 => (simp only [List.getElem?_toArray, List.getElem?_cons_succ, List.getElem?_cons_zero]; rfl)
        case hsbq16 => kernel_rfl
        case hfbq16 => kernel_rfl
        case hrbq16 => kernel_rfl
        case hSbq16 => first | assumption | trivial
        case hybq16 => refine Or.inl ⟨by kernel_rfl, ?_⟩; (intro w hSw; (try dsimp only at hSw); go_simp; rw [if_pos (by omega)])
        case hQbq16 => exact fun _ _ _ h => h
        try simp only [Act.put, List.setIfInBounds_toArray, List.set_cons_zero, List.set_cons_succ]
        refine wpAnyH_ready (rs := [17]) (by kernel_rfl) (by simp) ?_
        refine AllReadyH.cons (by simp only [List.getElem?_toArray, List.getElem?_cons_succ, List.getElem?_cons_zero]; rfl) (fun K hK => ?_) AllReadyH.nil
        rw [if_pos (by kernel_rfl)]
        refine wp_store_mid 35 (.tmp 60) (.tmp 58) rfl w2.heap.size (m * 12) (encPtr q).toArray rfl rfl (blk_there hbl6 hb12) iszPt (all_oneCell_toArray (encPtr_ones _)) ?_
        refine hK.out _ _ (trivial) (fun hSbq17 => ?_)
        try simp only [Act.put, List.setIfInBounds_toArray, List.set_cons_zero, List.set_cons_succ]
        refine wpAnyH_take (i := 18) (oi := ?oibq18) (v := ?vbq18) ?hibq18 ?hsbq18 ?hfbq18 ?hrbq18 ?hQbq18 ?hybq18 ?hSbq18 ?hbq18
        case hibq18 => (simp only [List.getElem?_toArray, List.getElem?_cons_succ, List.getElem?_cons_zero]; rfl)
        case hsbq18 => kernel_rfl
        case hfbq18 => kernel_rfl
        case hrbq18 => kernel_rfl
        case hSbq18 => first | assumption | trivial
        case hybq18 => refine Or.inl ⟨by kernel_rfl, ?_⟩; (intro w hSw; (try dsimp only at hSw); go_simp; try with_reducible rfl)
        case hQbq18 => exact fun _ _ _ h => h
        try simp only [Act.put, List.setIfInBounds_toArray, List.set_cons_zero, List.set_cons_succ]
        refine wpAnyH_done (by kernel_rfl) ?_ _
        have hset : Blk (w6.setCells w2.heap.size (m * 12) (encPtr q)) w2.heap.size 108 (encPs (l.set m q)) := by
          have := hbl6.setCells (encPtr q) (m * 12) hb12
          rw [show m * 12 + (encPtr q).length = m * 12 + 12 from rfl, encPs_setCells _ m _ HML.out] at this
          exact this
        have hbr7 := hbr6.away (m * 12) (encPtr q) (by have := HBRR.out.lt; have := HSZ2.out; omega : w.heap.size + 1 ≠ w2.heap.size)
        have hat7 := hat6.put (o := m * 12) (vs := encPtr q) (by have := HSZ2.out; omega : w.heap.size ≤ w2.heap.size) hfl6
        have hl4s : (l.set m q).length = 4 := by rw [List.length_set, HL4.out]
        rcases HPR.out with ⟨r, rfl, hr0⟩ | ⟨q', rfl, hqw⟩
        · have hRe := HRE.out
          rw [M.bind_err HRS.out] at hRe
          obtain rfl := HQV.out
          obtain rfl := HEE.out
          have hr1 : ((r : Int) != 0) = true := by simpa using hr0
          have HRE3 := Lib.hid hRe
          clear hRe HQV HEE
          unfold ptrV errV at *
          have hst := fun op a next Q => storeZPt hbr7 rfl op a next Q
          have HB2 := Lib.hid (hbr7.put (vs := encPtr pD) rfl)
          have HA2 := Lib.hid (hat7.put (o := 0) (vs := encPtr pD) (Nat.le_succ _) hf16)
          clear hset hbr7 hat7 hbl6 hl4s hat6 hbr6
          go_wp2_with fail
          refine bodyPost_ret (res_cell_tmp rfl _ _ (w.heap.size + 1) 35 _ _ rfl HB2.out Tryd.underlying35 rfl iszPt) rfl ?_
          rw [HRE3.out]
          exact ⟨⟨rfl, hr0⟩, HA2.out.fin⟩
        · have hRe := HRE.out
          rw [M.bind_ok HRS.out] at hRe
          obtain rfl : q' = q := HQV.out
          obtain rfl : E = 0 := HEE.out.symm
          have hwf : ∀ x ∈ l.set m q', x.wf := fun x hx => (List.mem_or_eq_of_mem_set hx).elim (hlw x) (fun e => e ▸ hqw)
          have hokp : C.Ok (putM S (l.set m q') (k + 1) s3).2 := by rw [← hRe]; exact HOK.out
          have hl4q : (l.set m q').length = 4 := hl4s
          have hld := fun op a next Q => loadW_blk (P := Tryd.prog) (t := 108) hset Tryd.underlying108 rfl (by rw [encPs_length]; exact hl4q ▸ iszA4) op a next Q
          have HAT7 := Lib.hid hat7
          have HBR7 := Lib.hid hbr7
          have HPUT := Lib.hid (put_any hat7.1 (l.set m q') hl4q hwf (k + 1) (by omega) hokp)
          have HRE3 := Lib.hid hRe
          clear hset hbr7 hat7 hbl6 hl4s hRe hat6 hbr6 hokp hl4q
          go_wp2_with fail
          refine HPUT.out.mono ?_
          rintro e w8 ⟨hpr8, hstep8⟩
          have hpe8 := PutR.val hpr8
          subst hpe8
          obtain ⟨F4, hat8, hfr8, hm8⟩ := HAT7.out.step hstep8
          have hbr8 := hm8.blk HBR7.out hf16
          have hst := fun op a next Q => storeW_part (P := Tryd.prog) (t := 35) (o := 0) (cs := encPtr (ptrV (putM S (l.set m q') (k + 1) s3).1)) hbr8 (Nat.le_refl 12) iszPt (encPtr_ones _) op a next Q
          have HB2 := Lib.hid (hbr8.put (vs := encPtr (ptrV (putM S (l.set m q') (k + 1) s3).1)) rfl)
          have HA2 := Lib.hid (hat8.put (o := 0) (vs := encPtr (ptrV (putM S (l.set m q') (k + 1) s3).1)) (Nat.le_succ _) (hfr8 _ HBR7.out.lt hf16))
          have HPR8 := Lib.hid hpr8
          clear hpr8 hat8 hfr8 hm8 hbr8 hstep8
          go_wp2_with fail
          refine bodyPost_ret (res_cell_tmp rfl _ _ (w.heap.size + 1) 35 _ _ rfl HB2.out Tryd.underlying35 rfl iszPt) rfl ?_
          rw [HRE3.out]
          exact ⟨HPR8.out, HA2.out.fin⟩
end
end Go.Proofs.YtbhofablndjeoaaDoor
