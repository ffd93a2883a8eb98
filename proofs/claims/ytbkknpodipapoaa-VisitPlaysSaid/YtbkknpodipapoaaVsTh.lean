/- The iterator of visit.Through. -/
import Derived.Test.YtbkknpodipapoaaBigI
namespace Go.Proofs.Ytbkknpodipapoaa
open Go.RowKit
set_option linter.unusedSimpArgs false
attribute [local go_sem ↓] Go.wp_at_zero Go.wp_at_succ
attribute [local go_sem ↓] wp_loadP wp_storeP

/-- the blocks behind a mark in a range, in order -/
def thrL (l : List PtrT) (m : MarkT) (f t : Int) : List PtrT := (ordL l).filter fun p => decide (ltM m (markOf p)) && hasR f t p.birth
def thrTo (l : List PtrT) (m : MarkT) (f t : Int) (k : Nat) : List PtrT := ((ordL l).take k).filter fun p => decide (ltM m (markOf p)) && hasR f t p.birth
theorem thrTo_all (l : List PtrT) (m : MarkT) (f t : Int) : thrTo l m f t (ordL l).length = thrL l m f t := by unfold thrTo thrL; rw [List.take_length]
theorem thrTo_prefix (l : List PtrT) (m : MarkT) (f t : Int) (k : Nat) : thrTo l m f t k <+: thrL l m f t := (List.take_prefix k _).filter _
theorem thrTo_step {l : List PtrT} (m : MarkT) (f t : Int) {k : Nat} (h : k < (ordL l).length) : thrTo l m f t (k + 1) = thrTo l m f t k ++ if decide (ltM m (markOf ((ordL l).getD k pD))) && hasR f t ((ordL l).getD k pD).birth then [(ordL l).getD k pD] else [] := by
  unfold thrTo
  have e : (ordL l).take (k + 1) = (ordL l).take k ++ [(ordL l).getD k pD] := by
    rw [List.take_succ_eq_append_getElem h, List.getD_eq_getElem?_getD, List.getElem?_eq_getElem h]
    rfl
  rw [e, List.filter_append]
  obtain ⟨x, hx⟩ : ∃ x, x = (ordL l).getD k pD := ⟨_, rfl⟩
  rw [← hx]
  split
  · rename_i hc; simp only [List.filter_cons, hc, if_true, List.filter_nil]
  · rename_i hc; simp only [List.filter_cons, hc, List.filter_nil]; rfl
theorem thrTo_len (l : List PtrT) (m : MarkT) (f t : Int) (k : Nat) : (thrTo l m f t k).length ≤ l.length := Nat.le_trans (List.length_filter_le _ _) (by have := ordL_length l; rw [List.length_take]; omega)
theorem through_any (ao : Option Addr) (n cap : Nat) (m : MarkT) (f t : Int) (w : World) :
    Calls Try.prog 22 #[.slice ao n cap, .agg (encM m).toArray, .agg #[.int .i64 f, .int .i64 t]] w fun e w' => e = .returned (.func (.func 36) #[] #[.pointer (some ⟨w.heap.size, 0, none⟩), .pointer (some ⟨w.heap.size + 1, 0, none⟩), .pointer (some ⟨w.heap.size + 2, 0, none⟩)]) ∧
      w' = ((w.alloc (.cells #[.slice ao n cap] 22)).alloc (.cells (encM m).toArray 34)).alloc (.cells #[.int .i64 f, .int .i64 t] 42) := by
  obtain ⟨mb, mg, ma⟩ := m
  show Calls _ _ #[_, .agg #[.int .i64 mb, .int .i64 mg, .int .i64 ma], _] _ _
  go_enter Try.func22, Try.ntmps22
  go_wp2_with fail
  go_ret
  exact ⟨rfl, rfl⟩
set_option maxRecDepth 100000 in
set_option maxHeartbeats 6400000 in
theorem thr1_any (own : Nat → Prop) (c1 c2 c3 : Nat) (ao : Option Addr) (n cap : Nat) (l : List PtrT) (m : MarkT) (f t : Int) (nn lp : Nat) (J Jx : List PtrT → World → Prop) (W : World) (h1 : Blk W c1 22 [.slice ao n cap]) (h2 : Blk W c2 34 (encM m)) (h3 : Blk W c3 42 [.int .i64 f, .int .i64 t])
    (hp : PSl W ao n cap l) (hn : n ≤ 500) (ho : ∀ k, own k → k < W.heap.size ∧ k ≠ c2 ∧ k ≠ c3) (hJ : AbidesFrom W.heap.size J) 
    (hY : ∀ pre x W1, J pre W1 → pre.length < 1000 → YieldAt Fence.wide nn Try.prog lp #[.agg (encPtr x).toArray] W1 fun e W' => (e = .returned (.bool true) ∧ J (pre ++ [x]) W' ∧ KpO own W1 W') ∨ (e = .returned (.bool false) ∧ Jx (pre ++ [x]) W')) (h0 : J [] W) :
    Calls Try.prog 36 #[.func (.yield lp) #[] #[], .pointer (some ⟨c1, 0, none⟩), .pointer (some ⟨c2, 0, none⟩), .pointer (some ⟨c3, 0, none⟩)] W fun e W' => (∃ v, e = .returned v) ∧ ((∃ ys, ys = thrL l m f t ∧ J ys W') ∨ (∃ pre, pre <+: thrL l m f t ∧ Jx pre W')) := by
  have HO := Lib.hid (vorder_any ao n cap l W hp hn)
  have C1 := h1.cell 0
  have H2 := Lib.hid h2
  have H3 := Lib.hid h3
  have HJ := Lib.hid hJ
  have HYY := Lib.hid hY
  have HOW := Lib.hid ho
  have H0 := Lib.hid h0
  have HLN := Lib.hid hp.len
  clear h1 h2 h3 hJ hY ho h0 hp
  go_enter Try.func36, Try.ntmps36
  go_wp2_with fail
  refine HO.out.mono ?_
  rintro e w1 ⟨v, rfl, hr, hb1⟩
  have HP0 := Lib.hid hr
  have HB0 := Lib.hid hb1
  have HC0 := Lib.hid (H2.out.below hb1)
  have HD0 := Lib.hid (H3.out.below hb1)
  have HJ0 : Hid (J (thrTo l m f t 0) w1) := Lib.hid (HJ.out _ _ _ none H0.out (grown_of_below hb1) (fun r e => by cases e))
  have HS0 := Lib.hid hb1.size
  have HOV : Hid (∀ g, v.ownBlock = some g → ¬ own g) := Lib.hid (fun g hg ho => by have := (hr.lt g hg).1; have := (HOW.out g ho).1; omega)
  have HO2 : Hid (¬ own c2) := Lib.hid (fun h => (HOW.out c2 h).2.1 rfl)
  have HO3 : Hid (¬ own c3) := Lib.hid (fun h => (HOW.out c3 h).2.2 rfl)
  have hlen : (ordL l).length ≤ 500 := by have := ordL_length l; have := HLN.out; omega
  obtain ⟨s, hs⟩ : ∃ s, s = (ordL l).length := ⟨_, rfl⟩
  have HSL := Lib.hid hs
  obtain ⟨vo, vc, hv, _⟩ := psl_of_row hr
  rw [← hs] at hv hlen
  subst hv
  clear hr hb1 HO C1 hs
  go_wp2_with fail
  go_loopw [10] (fun i wr => ∃ k : Nat, k ≤ s ∧ i = .int .i64 (k : Nat) ∧ Hid (J (thrTo l m f t k) wr) ∧ Hid (Blk wr c2 34 (encM m)) ∧ Hid (Blk wr c3 42 [.int .i64 f, .int .i64 t]) ∧ Hid (PRow wr W.heap.size (.slice vo s vc) (ordL l)) ∧ Hid (W.heap.size ≤ wr.heap.size)) (fun i _ => s - (intOf i).toNat)
  case atStart => exact ⟨0, by omega, rfl, HJ0, HC0, HD0, HP0, HS0⟩
  case round =>
    obtain ⟨k, hk, rfl, HJR, HC2, HC3, HP, HSZ⟩ := hrel
    clear HJ0 HC0 HD0 HP0 HS0
    by_cases hks : k < s
    · have hpsl : PSl wr vo s vc (ordL l) := by
        have h := HP.out
        unfold PRow at h
        rw [← HSL.out] at h
        exact rsl_of_owns h
      obtain ⟨b, off, rfl, hb, hr⟩ := hpsl.read (by omega)
      have l1 := load_ptr (hr k hks)
      have HTS := Lib.hid (thrTo_step m f t (l := l) (k := k) (by rw [← HSL.out]; exact hks))
      have HTL := Lib.hid (thrTo_len l m f t k)
      have HPR := Lib.hid (thrTo_prefix l m f t (k + 1))
      obtain ⟨x, hx⟩ : ∃ x, x = (ordL l).getD k pD := ⟨_, rfl⟩
      rw [← hx] at l1 HTS
      have s1 := store_new wr x
      have BA := Lib.hid ((Below.refl wr.heap.size wr).alloc (Nat.le_refl _) (.cells (encPtr x).toArray 30))
      have HX : Hid (Blk (wr.alloc (.cells (encPtr x).toArray 30)) wr.heap.size 30 (encPtr x)) := Lib.hid (Blk.new _ _ _)
      clear hr hb hx hpsl
      go_wp2_with fail
      obtain ⟨wa, hwa⟩ : ∃ wa, wa = wr.alloc (.cells (encPtr x).toArray 30) := ⟨_, rfl⟩
      rw [← hwa] at BA HX ⊢
      clear hwa l1 s1
      have HOF := Lib.hid (fun W => of_any x W)
      have HBH := Lib.hid (fun W => behind_any (markOf x) m W)
      have HHS := Lib.hid (fun W => has_any f t x.birth W)
      have lx : ∀ (q : BW wa) (op : Oper) (a : Act) (next : Act → World → Prop) (Q : Exit → Act → World → Prop), LoadW Try.prog op 30 (.pointer (some ⟨wr.heap.size, 0, none⟩)) a q.w next Q = next (a.put op.dst (.agg (encPtr x).toArray)) q.w := fun q => load_ptr (fun j v hv => by rw [Nat.zero_add, (HX.out.below q.bel).cell, hv])
      have x7 : ∀ q : BW wa, q.w.cell? ⟨wr.heap.size, 7, none⟩ = some (.int .i64 x.birth) := fun q => q.cell (HX.out.cell 7)
      obtain ⟨mb, mg, ma⟩ := m
      have m0 : ∀ q : BW wa, q.w.cell? ⟨c2, 0, none⟩ = some (.int .i64 mb) := fun q => q.cell ((HC2.out.below BA.out).cell 0)
      have m1 : ∀ q : BW wa, q.w.cell? ⟨c2, 1, none⟩ = some (.int .i64 mg) := fun q => q.cell ((HC2.out.below BA.out).cell 1)
      have m2 : ∀ q : BW wa, q.w.cell? ⟨c2, 2, none⟩ = some (.int .i64 ma) := fun q => q.cell ((HC2.out.below BA.out).cell 2)
      have r0 : ∀ q : BW wa, q.w.cell? ⟨c3, 0, none⟩ = some (.int .i64 f) := fun q => q.cell ((HC3.out.below BA.out).cell 0)
      have r1 : ∀ q : BW wa, q.w.cell? ⟨c3, 1, none⟩ = some (.int .i64 t) := fun q => q.cell ((HC3.out.below BA.out).cell 1)
      have HJQ : Hid (∀ q : BW wa, J (thrTo l ⟨mb, mg, ma⟩ f t k) q.w) := Lib.hid (fun q => HJ.out _ _ _ none HJR.out (grown_of_below (BA.out.trans (q.bel.mono BA.out.size))) (fun r e => by cases e))
      have HY : Hid (∀ q : BW wa, YieldAt Fence.wide nn Try.prog lp #[.agg (encPtr x).toArray] q.w fun e W' => (e = .returned (.bool true) ∧ J (thrTo l ⟨mb, mg, ma⟩ f t k ++ [x]) W' ∧ KpO own q.w W') ∨ (e = .returned (.bool false) ∧ Jx (thrTo l ⟨mb, mg, ma⟩ f t k ++ [x]) W')) := Lib.hid (fun q => HYY.out _ x q.w (HJQ.out q) (by have := HTL.out; have := HLN.out; omega))
      obtain ⟨d1, hd1⟩ : ∃ d, d = decide (ltM ⟨mb, mg, ma⟩ (markOf x)) := ⟨_, rfl⟩
      obtain ⟨d2, hd2⟩ : ∃ d, d = hasR f t x.birth := ⟨_, rfl⟩
      rw [← hd1] at HBH HTS
      rw [← hd2] at HHS HTS
      clear hd1 hd2
      have hdr : ∃ q0 : BW wa, wa.drew = q0.w := ⟨⟨wa.drew, (Below.refl _ _).drew⟩, rfl⟩
      cases d1 with
      | false =>
        have HTN : Hid (thrTo l ⟨mb, mg, ma⟩ f t (k + 1) = thrTo l ⟨mb, mg, ma⟩ f t k) := Lib.hid (by rw [HTS.out]; exact List.append_nil _)
        refine (wpIn_wide (n := nn + 1)).1 (wpIn_region_any (by kernel_rfl) ?_)
        change wpAnyIn _ _ _ _ _ _ _ _ _ (World.drew wa)
        obtain ⟨q0, hq0⟩ := hdr
        rw [hq0]
        clear hq0
        refine wpAnyIn_ready (rs := [0, 2]) (by kernel_rfl) (by simp) ?_
        refine AllReadyIn.cons (o := ?zor1_0) ?zhr1_0 ?zkr1_0 (AllReadyIn.cons (o := ?zor1_2) ?zhr1_2 ?zkr1_2 AllReadyIn.nil)
        case zhr1_0 => (simp only [List.getElem?_toArray, List.getElem?_cons_succ, List.getElem?_cons_zero]; rfl)
        case zhr1_2 => (simp only [List.getElem?_toArray, List.getElem?_cons_succ, List.getElem?_cons_zero]; rfl)
        · intro K hK
          rw [if_pos (by kernel_rfl)]
          refine wpIn_of_wp ?_
          go_simp
          refine hK _ _ ?_
          try simp only [Act.put, List.setIfInBounds_toArray, List.set_cons_zero, List.set_cons_succ]
          clear hK
          clear K
          refine wpAnyIn_ready (rs := [1, 2]) (by kernel_rfl) (by simp) ?_
          refine AllReadyIn.cons (o := ?zor2_1) ?zhr2_1 ?zkr2_1 (AllReadyIn.cons (o := ?zor2_2) ?zhr2_2 ?zkr2_2 AllReadyIn.nil)
          case zhr2_1 => (simp only [List.getElem?_toArray, List.getElem?_cons_succ, List.getElem?_cons_zero]; rfl)
          case zhr2_2 => (simp only [List.getElem?_toArray, List.getElem?_cons_succ, List.getElem?_cons_zero]; rfl)
          · intro K hK
            rw [if_pos (by kernel_rfl)]
            refine wpIn_of_wp ?_
            go_simp
            refine (Calls.bw_of (HOF.out _)).mono ?_
            rintro e _ ⟨rfl, q3, rfl⟩
            refine hK _ _ ?_
            try simp only [Act.put, List.setIfInBounds_toArray, List.set_cons_zero, List.set_cons_succ]
            clear hK
            clear K
            refine wpAnyIn_ready (rs := [2]) (by kernel_rfl) (by simp) ?_
            refine AllReadyIn.cons (o := ?zor4_2) ?zhr4_2 ?zkr4_2 AllReadyIn.nil
            case zhr4_2 => (simp only [List.getElem?_toArray, List.getElem?_cons_succ, List.getElem?_cons_zero]; rfl)
            · intro K hK
              rw [if_pos (by kernel_rfl)]
              refine wpIn_of_wp ?_
              go_simp
              refine hK _ _ ?_
              try simp only [Act.put, List.setIfInBounds_toArray, List.set_cons_zero, List.set_cons_succ]
              clear hK
              clear K
              refine wpAnyIn_ready (rs := [3]) (by kernel_rfl) (by simp) ?_
              refine AllReadyIn.cons (o := ?zor5_3) ?zhr5_3 ?zkr5_3 AllReadyIn.nil
              case zhr5_3 => (simp only [List.getElem?_toArray, List.getElem?_cons_succ, List.getElem?_cons_zero]; rfl)
              · intro K hK
                rw [if_pos (by kernel_rfl)]
                refine wpIn_of_wp ?_
                go_simp
                refine (Calls.bw_of (HBH.out _)).mono ?_
                rintro e _ ⟨rfl, q6, rfl⟩
                refine hK _ _ ?_
                try simp only [Act.put, List.setIfInBounds_toArray, List.set_cons_zero, List.set_cons_succ]
                clear hK
                clear K
                refine wpAnyIn_take (i := 4) (oi := ?oin7) (v := ?vn7) rfl ?hin7 ?hsn7 ?hfn7 ?hrn7 ?hQn7 ⟨Or.inl ⟨by kernel_rfl, ?hyn7⟩, ?habn7⟩ ?hn7
                case hin7 => (simp only [List.getElem?_toArray, List.getElem?_cons_succ, List.getElem?_cons_zero]; rfl)
                case hsn7 => kernel_rfl
                case hfn7 => kernel_rfl
                case hrn7 => kernel_rfl
                case hyn7 => (intro w'; go_simp; try with_reducible rfl)
                case habn7 => exact fun _ => rfl
                case hQn7 => exact fun _ _ _ h => h
                try simp only [Act.put, List.setIfInBounds_toArray, List.set_cons_zero, List.set_cons_succ]
                refine wpAnyIn_take (i := 5) (oi := ?oin8) (v := undef) rfl ?hin8 ?hsn8 ?hfn8 ?hrn8 ?hQn8 ⟨Or.inr ⟨by kernel_rfl, rfl⟩, ?habn8⟩ ?hn8
                case hin8 => (simp only [List.getElem?_toArray, List.getElem?_cons_succ, List.getElem?_cons_zero]; rfl)
                case hsn8 => kernel_rfl
                case hfn8 => kernel_rfl
                case hrn8 => kernel_rfl
                case habn8 => exact fun _ => rfl
                case hQn8 => exact fun _ _ _ h => h
                try simp only [Act.put, List.setIfInBounds_toArray, List.set_cons_zero, List.set_cons_succ]
                refine wpAnyIn_take (i := 6) (oi := ?oin9) (v := undef) rfl ?hin9 ?hsn9 ?hfn9 ?hrn9 ?hQn9 ⟨Or.inr ⟨by kernel_rfl, rfl⟩, ?habn9⟩ ?hn9
                case hin9 => (simp only [List.getElem?_toArray, List.getElem?_cons_succ, List.getElem?_cons_zero]; rfl)
                case hsn9 => kernel_rfl
                case hfn9 => kernel_rfl
                case hrn9 => kernel_rfl
                case habn9 => exact fun _ => rfl
                case hQn9 => exact fun _ _ _ h => h
                try simp only [Act.put, List.setIfInBounds_toArray, List.set_cons_zero, List.set_cons_succ]
                refine wpAnyIn_take (i := 7) (oi := ?oin10) (v := undef) rfl ?hin10 ?hsn10 ?hfn10 ?hrn10 ?hQn10 ⟨Or.inr ⟨by kernel_rfl, rfl⟩, ?habn10⟩ ?hn10
                case hin10 => (simp only [List.getElem?_toArray, List.getElem?_cons_succ, List.getElem?_cons_zero]; rfl)
                case hsn10 => kernel_rfl
                case hfn10 => kernel_rfl
                case hrn10 => kernel_rfl
                case habn10 => exact fun _ => rfl
                case hQn10 => exact fun _ _ _ h => h
                try simp only [Act.put, List.setIfInBounds_toArray, List.set_cons_zero, List.set_cons_succ]
                refine wpAnyIn_ready (rs := [8]) (by kernel_rfl) (by simp) ?_
                refine AllReadyIn.cons (o := ?zor11_8) ?zhr11_8 ?zkr11_8 AllReadyIn.nil
                case zhr11_8 => (simp only [List.getElem?_toArray, List.getElem?_cons_succ, List.getElem?_cons_zero]; rfl)
                · intro K hK
                  rw [if_neg (by rw [show Region.wanted _ _ = false by kernel_rfl]; exact Bool.false_ne_true)]
                  refine ⟨fun _ _ => trivial, hK _ _ ?_⟩
                  try simp only [Act.put, List.setIfInBounds_toArray, List.set_cons_zero, List.set_cons_succ]
                  clear hK
                  clear K
                  refine wpAnyIn_take (i := 9) (oi := ?oin12) (v := ?vn12) rfl ?hin12 ?hsn12 ?hfn12 ?hrn12 ?hQn12 ⟨Or.inl ⟨by kernel_rfl, ?hyn12⟩, ?habn12⟩ ?hn12
                  case hin12 => (simp only [List.getElem?_toArray, List.getElem?_cons_succ, List.getElem?_cons_zero]; rfl)
                  case hsn12 => kernel_rfl
                  case hfn12 => kernel_rfl
                  case hrn12 => kernel_rfl
                  case hyn12 => (intro w'; go_simp; try with_reducible rfl)
                  case habn12 => exact fun _ => rfl
                  case hQn12 => exact fun _ _ _ h => h
                  try simp only [Act.put, List.setIfInBounds_toArray, List.set_cons_zero, List.set_cons_succ]
                  refine wpAnyIn_take (i := 10) (oi := ?oin13) (v := ?vn13) rfl ?hin13 ?hsn13 ?hfn13 ?hrn13 ?hQn13 ⟨Or.inl ⟨by kernel_rfl, ?hyn13⟩, ?habn13⟩ ?hn13
                  case hin13 => (simp only [List.getElem?_toArray, List.getElem?_cons_succ, List.getElem?_cons_zero]; rfl)
                  case hsn13 => kernel_rfl
                  case hfn13 => kernel_rfl
                  case hrn13 => kernel_rfl
                  case hyn13 => (intro w'; go_simp; try with_reducible rfl)
                  case habn13 => exact fun _ => rfl
                  case hQn13 => exact fun _ _ _ h => h
                  try simp only [Act.put, List.setIfInBounds_toArray, List.set_cons_zero, List.set_cons_succ]
                  refine wpAnyIn_take (i := 11) (oi := ?oin14) (v := undef) rfl ?hin14 ?hsn14 ?hfn14 ?hrn14 ?hQn14 ⟨Or.inr ⟨by kernel_rfl, rfl⟩, ?habn14⟩ ?hn14
                  case hin14 => (simp only [List.getElem?_toArray, List.getElem?_cons_succ, List.getElem?_cons_zero]; rfl)
                  case hsn14 => kernel_rfl
                  case hfn14 => kernel_rfl
                  case hrn14 => kernel_rfl
                  case habn14 => exact fun _ => rfl
                  case hQn14 => exact fun _ _ _ h => h
                  try simp only [Act.put, List.setIfInBounds_toArray, List.set_cons_zero, List.set_cons_succ]
                  refine wpAnyIn_take (i := 12) (oi := ?oin15) (v := undef) rfl ?hin15 ?hsn15 ?hfn15 ?hrn15 ?hQn15 ⟨Or.inr ⟨by kernel_rfl, rfl⟩, ?habn15⟩ ?hn15
                  case hin15 => (simp only [List.getElem?_toArray, List.getElem?_cons_succ, List.getElem?_cons_zero]; rfl)
                  case hsn15 => kernel_rfl
                  case hfn15 => kernel_rfl
                  case hrn15 => kernel_rfl
                  case habn15 => exact fun _ => rfl
                  case hQn15 => exact fun _ _ _ h => h
                  try simp only [Act.put, List.setIfInBounds_toArray, List.set_cons_zero, List.set_cons_succ]
                  refine wpAnyIn_ready (rs := [13]) (by kernel_rfl) (by simp) ?_
                  refine AllReadyIn.cons (o := ?zor16_13) ?zhr16_13 ?zkr16_13 AllReadyIn.nil
                  case zhr16_13 => (simp only [List.getElem?_toArray, List.getElem?_cons_succ, List.getElem?_cons_zero]; rfl)
                  · intro K hK
                    rw [if_neg (by rw [show Region.wanted _ _ = false by kernel_rfl]; exact Bool.false_ne_true)]
                    refine ⟨fun _ _ => trivial, hK _ _ ?_⟩
                    try simp only [Act.put, List.setIfInBounds_toArray, List.set_cons_zero, List.set_cons_succ]
                    clear hK
                    clear K
                    refine wpAnyIn_take (i := 14) (oi := ?oin17) (v := undef) rfl ?hin17 ?hsn17 ?hfn17 ?hrn17 ?hQn17 ⟨Or.inr ⟨by kernel_rfl, rfl⟩, ?habn17⟩ ?hn17
                    case hin17 => (simp only [List.getElem?_toArray, List.getElem?_cons_succ, List.getElem?_cons_zero]; rfl)
                    case hsn17 => kernel_rfl
                    case hfn17 => kernel_rfl
                    case hrn17 => kernel_rfl
                    case habn17 => exact fun _ => rfl
                    case hQn17 => exact fun _ _ _ h => h
                    try simp only [Act.put, List.setIfInBounds_toArray, List.set_cons_zero, List.set_cons_succ]
                    refine wpAnyIn_take (i := 15) (oi := ?oin18) (v := ?vn18) rfl ?hin18 ?hsn18 ?hfn18 ?hrn18 ?hQn18 ⟨Or.inl ⟨by kernel_rfl, ?hyn18⟩, ?habn18⟩ ?hn18
                    case hin18 => (simp only [List.getElem?_toArray, List.getElem?_cons_succ, List.getElem?_cons_zero]; rfl)
                    case hsn18 => kernel_rfl
                    case hfn18 => kernel_rfl
                    case hrn18 => kernel_rfl
                    case hyn18 => (intro w'; go_simp; try with_reducible rfl)
                    case habn18 => exact fun _ => rfl
                    case hQn18 => exact fun _ _ _ h => h
                    try simp only [Act.put, List.setIfInBounds_toArray, List.set_cons_zero, List.set_cons_succ]
                    refine wpAnyIn_done (by kernel_rfl) ?_ _
                    have HB1 := Lib.hid (BA.out.trans (q6.bel.mono BA.out.size))
                    have HJ1 := Lib.hid (HJQ.out q6)
                    have HC1 := Lib.hid (HC2.out.below HB1.out)
                    have HD1 := Lib.hid (HC3.out.below HB1.out)
                    have HP1 := Lib.hid (owns_below HP.out HB1.out)
                    have HS1 := Lib.hid (Nat.le_trans HSZ.out HB1.out.size)
                    go_wp2_with fail
                    go_roundw
                    case rel => exact ⟨k + 1, by omega, by go_num, by rw [HTN.out]; exact HJ1, HC1, HD1, HP1, HS1⟩
                    case measure => simp [intOf]; omega
          · intro K hK
            rw [if_pos (by kernel_rfl)]
            refine wpIn_of_wp ?_
            go_simp
            refine hK _ _ ?_
            try simp only [Act.put, List.setIfInBounds_toArray, List.set_cons_zero, List.set_cons_succ]
            clear hK
            clear K
            refine wpAnyIn_ready (rs := [1]) (by kernel_rfl) (by simp) ?_
            refine AllReadyIn.cons (o := ?zor19_1) ?zhr19_1 ?zkr19_1 AllReadyIn.nil
            case zhr19_1 => (simp only [List.getElem?_toArray, List.getElem?_cons_succ, List.getElem?_cons_zero]; rfl)
            · intro K hK
              rw [if_pos (by kernel_rfl)]
              refine wpIn_of_wp ?_
              go_simp
              refine (Calls.bw_of (HOF.out _)).mono ?_
              rintro e _ ⟨rfl, q20, rfl⟩
              refine hK _ _ ?_
              try simp only [Act.put, List.setIfInBounds_toArray, List.set_cons_zero, List.set_cons_succ]
              clear hK
              clear K
              refine wpAnyIn_ready (rs := [3]) (by kernel_rfl) (by simp) ?_
              refine AllReadyIn.cons (o := ?zor21_3) ?zhr21_3 ?zkr21_3 AllReadyIn.nil
              case zhr21_3 => (simp only [List.getElem?_toArray, List.getElem?_cons_succ, List.getElem?_cons_zero]; rfl)
              · intro K hK
                rw [if_pos (by kernel_rfl)]
                refine wpIn_of_wp ?_
                go_simp
                refine (Calls.bw_of (HBH.out _)).mono ?_
                rintro e _ ⟨rfl, q22, rfl⟩
                refine hK _ _ ?_
                try simp only [Act.put, List.setIfInBounds_toArray, List.set_cons_zero, List.set_cons_succ]
                clear hK
                clear K
                refine wpAnyIn_take (i := 4) (oi := ?oin23) (v := ?vn23) rfl ?hin23 ?hsn23 ?hfn23 ?hrn23 ?hQn23 ⟨Or.inl ⟨by kernel_rfl, ?hyn23⟩, ?habn23⟩ ?hn23
                case hin23 => (simp only [List.getElem?_toArray, List.getElem?_cons_succ, List.getElem?_cons_zero]; rfl)
                case hsn23 => kernel_rfl
                case hfn23 => kernel_rfl
                case hrn23 => kernel_rfl
                case hyn23 => (intro w'; go_simp; try with_reducible rfl)
                case habn23 => exact fun _ => rfl
                case hQn23 => exact fun _ _ _ h => h
                try simp only [Act.put, List.setIfInBounds_toArray, List.set_cons_zero, List.set_cons_succ]
                refine wpAnyIn_take (i := 5) (oi := ?oin24) (v := undef) rfl ?hin24 ?hsn24 ?hfn24 ?hrn24 ?hQn24 ⟨Or.inr ⟨by kernel_rfl, rfl⟩, ?habn24⟩ ?hn24
                case hin24 => (simp only [List.getElem?_toArray, List.getElem?_cons_succ, List.getElem?_cons_zero]; rfl)
                case hsn24 => kernel_rfl
                case hfn24 => kernel_rfl
                case hrn24 => kernel_rfl
                case habn24 => exact fun _ => rfl
                case hQn24 => exact fun _ _ _ h => h
                try simp only [Act.put, List.setIfInBounds_toArray, List.set_cons_zero, List.set_cons_succ]
                refine wpAnyIn_take (i := 6) (oi := ?oin25) (v := undef) rfl ?hin25 ?hsn25 ?hfn25 ?hrn25 ?hQn25 ⟨Or.inr ⟨by kernel_rfl, rfl⟩, ?habn25⟩ ?hn25
                case hin25 => (simp only [List.getElem?_toArray, List.getElem?_cons_succ, List.getElem?_cons_zero]; rfl)
                case hsn25 => kernel_rfl
                case hfn25 => kernel_rfl
                case hrn25 => kernel_rfl
                case habn25 => exact fun _ => rfl
                case hQn25 => exact fun _ _ _ h => h
                try simp only [Act.put, List.setIfInBounds_toArray, List.set_cons_zero, List.set_cons_succ]
                refine wpAnyIn_take (i := 7) (oi := ?oin26) (v := undef) rfl ?hin26 ?hsn26 ?hfn26 ?hrn26 ?hQn26 ⟨Or.inr ⟨by kernel_rfl, rfl⟩, ?habn26⟩ ?hn26
                case hin26 => (simp only [List.getElem?_toArray, List.getElem?_cons_succ, List.getElem?_cons_zero]; rfl)
                case hsn26 => kernel_rfl
                case hfn26 => kernel_rfl
                case hrn26 => kernel_rfl
                case habn26 => exact fun _ => rfl
                case hQn26 => exact fun _ _ _ h => h
                try simp only [Act.put, List.setIfInBounds_toArray, List.set_cons_zero, List.set_cons_succ]
                refine wpAnyIn_ready (rs := [8]) (by kernel_rfl) (by simp) ?_
                refine AllReadyIn.cons (o := ?zor27_8) ?zhr27_8 ?zkr27_8 AllReadyIn.nil
                case zhr27_8 => (simp only [List.getElem?_toArray, List.getElem?_cons_succ, List.getElem?_cons_zero]; rfl)
                · intro K hK
                  rw [if_neg (by rw [show Region.wanted _ _ = false by kernel_rfl]; exact Bool.false_ne_true)]
                  refine ⟨fun _ _ => trivial, hK _ _ ?_⟩
                  try simp only [Act.put, List.setIfInBounds_toArray, List.set_cons_zero, List.set_cons_succ]
                  clear hK
                  clear K
                  refine wpAnyIn_take (i := 9) (oi := ?oin28) (v := ?vn28) rfl ?hin28 ?hsn28 ?hfn28 ?hrn28 ?hQn28 ⟨Or.inl ⟨by kernel_rfl, ?hyn28⟩, ?habn28⟩ ?hn28
                  case hin28 => (simp only [List.getElem?_toArray, List.getElem?_cons_succ, List.getElem?_cons_zero]; rfl)
                  case hsn28 => kernel_rfl
                  case hfn28 => kernel_rfl
                  case hrn28 => kernel_rfl
                  case hyn28 => (intro w'; go_simp; try with_reducible rfl)
                  case habn28 => exact fun _ => rfl
                  case hQn28 => exact fun _ _ _ h => h
                  try simp only [Act.put, List.setIfInBounds_toArray, List.set_cons_zero, List.set_cons_succ]
                  refine wpAnyIn_take (i := 10) (oi := ?oin29) (v := ?vn29) rfl ?hin29 ?hsn29 ?hfn29 ?hrn29 ?hQn29 ⟨Or.inl ⟨by kernel_rfl, ?hyn29⟩, ?habn29⟩ ?hn29
                  case hin29 => (simp only [List.getElem?_toArray, List.getElem?_cons_succ, List.getElem?_cons_zero]; rfl)
                  case hsn29 => kernel_rfl
                  case hfn29 => kernel_rfl
                  case hrn29 => kernel_rfl
                  case hyn29 => (intro w'; go_simp; try with_reducible rfl)
                  case habn29 => exact fun _ => rfl
                  case hQn29 => exact fun _ _ _ h => h
                  try simp only [Act.put, List.setIfInBounds_toArray, List.set_cons_zero, List.set_cons_succ]
                  refine wpAnyIn_take (i := 11) (oi := ?oin30) (v := undef) rfl ?hin30 ?hsn30 ?hfn30 ?hrn30 ?hQn30 ⟨Or.inr ⟨by kernel_rfl, rfl⟩, ?habn30⟩ ?hn30
                  case hin30 => (simp only [List.getElem?_toArray, List.getElem?_cons_succ, List.getElem?_cons_zero]; rfl)
                  case hsn30 => kernel_rfl
                  case hfn30 => kernel_rfl
                  case hrn30 => kernel_rfl
                  case habn30 => exact fun _ => rfl
                  case hQn30 => exact fun _ _ _ h => h
                  try simp only [Act.put, List.setIfInBounds_toArray, List.set_cons_zero, List.set_cons_succ]
                  refine wpAnyIn_take (i := 12) (oi := ?oin31) (v := undef) rfl ?hin31 ?hsn31 ?hfn31 ?hrn31 ?hQn31 ⟨Or.inr ⟨by kernel_rfl, rfl⟩, ?habn31⟩ ?hn31
                  case hin31 => (simp only [List.getElem?_toArray, List.getElem?_cons_succ, List.getElem?_cons_zero]; rfl)
                  case hsn31 => kernel_rfl
                  case hfn31 => kernel_rfl
                  case hrn31 => kernel_rfl
                  case habn31 => exact fun _ => rfl
                  case hQn31 => exact fun _ _ _ h => h
                  try simp only [Act.put, List.setIfInBounds_toArray, List.set_cons_zero, List.set_cons_succ]
                  refine wpAnyIn_ready (rs := [13]) (by kernel_rfl) (by simp) ?_
                  refine AllReadyIn.cons (o := ?zor32_13) ?zhr32_13 ?zkr32_13 AllReadyIn.nil
                  case zhr32_13 => (simp only [List.getElem?_toArray, List.getElem?_cons_succ, List.getElem?_cons_zero]; rfl)
                  · intro K hK
                    rw [if_neg (by rw [show Region.wanted _ _ = false by kernel_rfl]; exact Bool.false_ne_true)]
                    refine ⟨fun _ _ => trivial, hK _ _ ?_⟩
                    try simp only [Act.put, List.setIfInBounds_toArray, List.set_cons_zero, List.set_cons_succ]
                    clear hK
                    clear K
                    refine wpAnyIn_take (i := 14) (oi := ?oin33) (v := undef) rfl ?hin33 ?hsn33 ?hfn33 ?hrn33 ?hQn33 ⟨Or.inr ⟨by kernel_rfl, rfl⟩, ?habn33⟩ ?hn33
                    case hin33 => (simp only [List.getElem?_toArray, List.getElem?_cons_succ, List.getElem?_cons_zero]; rfl)
                    case hsn33 => kernel_rfl
                    case hfn33 => kernel_rfl
                    case hrn33 => kernel_rfl
                    case habn33 => exact fun _ => rfl
                    case hQn33 => exact fun _ _ _ h => h
                    try simp only [Act.put, List.setIfInBounds_toArray, List.set_cons_zero, List.set_cons_succ]
                    refine wpAnyIn_take (i := 15) (oi := ?oin34) (v := ?vn34) rfl ?hin34 ?hsn34 ?hfn34 ?hrn34 ?hQn34 ⟨Or.inl ⟨by kernel_rfl, ?hyn34⟩, ?habn34⟩ ?hn34
                    case hin34 => (simp only [List.getElem?_toArray, List.getElem?_cons_succ, List.getElem?_cons_zero]; rfl)
                    case hsn34 => kernel_rfl
                    case hfn34 => kernel_rfl
                    case hrn34 => kernel_rfl
                    case hyn34 => (intro w'; go_simp; try with_reducible rfl)
                    case habn34 => exact fun _ => rfl
                    case hQn34 => exact fun _ _ _ h => h
                    try simp only [Act.put, List.setIfInBounds_toArray, List.set_cons_zero, List.set_cons_succ]
                    refine wpAnyIn_done (by kernel_rfl) ?_ _
                    have HB1 := Lib.hid (BA.out.trans (q22.bel.mono BA.out.size))
                    have HJ1 := Lib.hid (HJQ.out q22)
                    have HC1 := Lib.hid (HC2.out.below HB1.out)
                    have HD1 := Lib.hid (HC3.out.below HB1.out)
                    have HP1 := Lib.hid (owns_below HP.out HB1.out)
                    have HS1 := Lib.hid (Nat.le_trans HSZ.out HB1.out.size)
                    go_wp2_with fail
                    go_roundw
                    case rel => exact ⟨k + 1, by omega, by go_num, by rw [HTN.out]; exact HJ1, HC1, HD1, HP1, HS1⟩
                    case measure => simp [intOf]; omega
        · intro K hK
          rw [if_pos (by kernel_rfl)]
          refine wpIn_of_wp ?_
          go_simp
          refine hK _ _ ?_
          try simp only [Act.put, List.setIfInBounds_toArray, List.set_cons_zero, List.set_cons_succ]
          clear hK
          clear K
          refine wpAnyIn_ready (rs := [0]) (by kernel_rfl) (by simp) ?_
          refine AllReadyIn.cons (o := ?zor35_0) ?zhr35_0 ?zkr35_0 AllReadyIn.nil
          case zhr35_0 => (simp only [List.getElem?_toArray, List.getElem?_cons_succ, List.getElem?_cons_zero]; rfl)
          · intro K hK
            rw [if_pos (by kernel_rfl)]
            refine wpIn_of_wp ?_
            go_simp
            refine hK _ _ ?_
            try simp only [Act.put, List.setIfInBounds_toArray, List.set_cons_zero, List.set_cons_succ]
            clear hK
            clear K
            refine wpAnyIn_ready (rs := [1]) (by kernel_rfl) (by simp) ?_
            refine AllReadyIn.cons (o := ?zor36_1) ?zhr36_1 ?zkr36_1 AllReadyIn.nil
            case zhr36_1 => (simp only [List.getElem?_toArray, List.getElem?_cons_succ, List.getElem?_cons_zero]; rfl)
            · intro K hK
              rw [if_pos (by kernel_rfl)]
              refine wpIn_of_wp ?_
              go_simp
              refine (Calls.bw_of (HOF.out _)).mono ?_
              rintro e _ ⟨rfl, q37, rfl⟩
              refine hK _ _ ?_
              try simp only [Act.put, List.setIfInBounds_toArray, List.set_cons_zero, List.set_cons_succ]
              clear hK
              clear K
              refine wpAnyIn_ready (rs := [3]) (by kernel_rfl) (by simp) ?_
              refine AllReadyIn.cons (o := ?zor38_3) ?zhr38_3 ?zkr38_3 AllReadyIn.nil
              case zhr38_3 => (simp only [List.getElem?_toArray, List.getElem?_cons_succ, List.getElem?_cons_zero]; rfl)
              · intro K hK
                rw [if_pos (by kernel_rfl)]
                refine wpIn_of_wp ?_
                go_simp
                refine (Calls.bw_of (HBH.out _)).mono ?_
                rintro e _ ⟨rfl, q39, rfl⟩
                refine hK _ _ ?_
                try simp only [Act.put, List.setIfInBounds_toArray, List.set_cons_zero, List.set_cons_succ]
                clear hK
                clear K
                refine wpAnyIn_take (i := 4) (oi := ?oin40) (v := ?vn40) rfl ?hin40 ?hsn40 ?hfn40 ?hrn40 ?hQn40 ⟨Or.inl ⟨by kernel_rfl, ?hyn40⟩, ?habn40⟩ ?hn40
                case hin40 => (simp only [List.getElem?_toArray, List.getElem?_cons_succ, List.getElem?_cons_zero]; rfl)
                case hsn40 => kernel_rfl
                case hfn40 => kernel_rfl
                case hrn40 => kernel_rfl
                case hyn40 => (intro w'; go_simp; try with_reducible rfl)
                case habn40 => exact fun _ => rfl
                case hQn40 => exact fun _ _ _ h => h
                try simp only [Act.put, List.setIfInBounds_toArray, List.set_cons_zero, List.set_cons_succ]
                refine wpAnyIn_take (i := 5) (oi := ?oin41) (v := undef) rfl ?hin41 ?hsn41 ?hfn41 ?hrn41 ?hQn41 ⟨Or.inr ⟨by kernel_rfl, rfl⟩, ?habn41⟩ ?hn41
                case hin41 => (simp only [List.getElem?_toArray, List.getElem?_cons_succ, List.getElem?_cons_zero]; rfl)
                case hsn41 => kernel_rfl
                case hfn41 => kernel_rfl
                case hrn41 => kernel_rfl
                case habn41 => exact fun _ => rfl
                case hQn41 => exact fun _ _ _ h => h
                try simp only [Act.put, List.setIfInBounds_toArray, List.set_cons_zero, List.set_cons_succ]
                refine wpAnyIn_take (i := 6) (oi := ?oin42) (v := undef) rfl ?hin42 ?hsn42 ?hfn42 ?hrn42 ?hQn42 ⟨Or.inr ⟨by kernel_rfl, rfl⟩, ?habn42⟩ ?hn42
                case hin42 => (simp only [List.getElem?_toArray, List.getElem?_cons_succ, List.getElem?_cons_zero]; rfl)
                case hsn42 => kernel_rfl
                case hfn42 => kernel_rfl
                case hrn42 => kernel_rfl
                case habn42 => exact fun _ => rfl
                case hQn42 => exact fun _ _ _ h => h
                try simp only [Act.put, List.setIfInBounds_toArray, List.set_cons_zero, List.set_cons_succ]
                refine wpAnyIn_take (i := 7) (oi := ?oin43) (v := undef) rfl ?hin43 ?hsn43 ?hfn43 ?hrn43 ?hQn43 ⟨Or.inr ⟨by kernel_rfl, rfl⟩, ?habn43⟩ ?hn43
                case hin43 => (simp only [List.getElem?_toArray, List.getElem?_cons_succ, List.getElem?_cons_zero]; rfl)
                case hsn43 => kernel_rfl
                case hfn43 => kernel_rfl
                case hrn43 => kernel_rfl
                case habn43 => exact fun _ => rfl
                case hQn43 => exact fun _ _ _ h => h
                try simp only [Act.put, List.setIfInBounds_toArray, List.set_cons_zero, List.set_cons_succ]
                refine wpAnyIn_ready (rs := [8]) (by kernel_rfl) (by simp) ?_
                refine AllReadyIn.cons (o := ?zor44_8) ?zhr44_8 ?zkr44_8 AllReadyIn.nil
                case zhr44_8 => (simp only [List.getElem?_toArray, List.getElem?_cons_succ, List.getElem?_cons_zero]; rfl)
                · intro K hK
                  rw [if_neg (by rw [show Region.wanted _ _ = false by kernel_rfl]; exact Bool.false_ne_true)]
                  refine ⟨fun _ _ => trivial, hK _ _ ?_⟩
                  try simp only [Act.put, List.setIfInBounds_toArray, List.set_cons_zero, List.set_cons_succ]
                  clear hK
                  clear K
                  refine wpAnyIn_take (i := 9) (oi := ?oin45) (v := ?vn45) rfl ?hin45 ?hsn45 ?hfn45 ?hrn45 ?hQn45 ⟨Or.inl ⟨by kernel_rfl, ?hyn45⟩, ?habn45⟩ ?hn45
                  case hin45 => (simp only [List.getElem?_toArray, List.getElem?_cons_succ, List.getElem?_cons_zero]; rfl)
                  case hsn45 => kernel_rfl
                  case hfn45 => kernel_rfl
                  case hrn45 => kernel_rfl
                  case hyn45 => (intro w'; go_simp; try with_reducible rfl)
                  case habn45 => exact fun _ => rfl
                  case hQn45 => exact fun _ _ _ h => h
                  try simp only [Act.put, List.setIfInBounds_toArray, List.set_cons_zero, List.set_cons_succ]
                  refine wpAnyIn_take (i := 10) (oi := ?oin46) (v := ?vn46) rfl ?hin46 ?hsn46 ?hfn46 ?hrn46 ?hQn46 ⟨Or.inl ⟨by kernel_rfl, ?hyn46⟩, ?habn46⟩ ?hn46
                  case hin46 => (simp only [List.getElem?_toArray, List.getElem?_cons_succ, List.getElem?_cons_zero]; rfl)
                  case hsn46 => kernel_rfl
                  case hfn46 => kernel_rfl
                  case hrn46 => kernel_rfl
                  case hyn46 => (intro w'; go_simp; try with_reducible rfl)
                  case habn46 => exact fun _ => rfl
                  case hQn46 => exact fun _ _ _ h => h
                  try simp only [Act.put, List.setIfInBounds_toArray, List.set_cons_zero, List.set_cons_succ]
                  refine wpAnyIn_take (i := 11) (oi := ?oin47) (v := undef) rfl ?hin47 ?hsn47 ?hfn47 ?hrn47 ?hQn47 ⟨Or.inr ⟨by kernel_rfl, rfl⟩, ?habn47⟩ ?hn47
                  case hin47 => (simp only [List.getElem?_toArray, List.getElem?_cons_succ, List.getElem?_cons_zero]; rfl)
                  case hsn47 => kernel_rfl
                  case hfn47 => kernel_rfl
                  case hrn47 => kernel_rfl
                  case habn47 => exact fun _ => rfl
                  case hQn47 => exact fun _ _ _ h => h
                  try simp only [Act.put, List.setIfInBounds_toArray, List.set_cons_zero, List.set_cons_succ]
                  refine wpAnyIn_take (i := 12) (oi := ?oin48) (v := undef) rfl ?hin48 ?hsn48 ?hfn48 ?hrn48 ?hQn48 ⟨Or.inr ⟨by kernel_rfl, rfl⟩, ?habn48⟩ ?hn48
                  case hin48 => (simp only [List.getElem?_toArray, List.getElem?_cons_succ, List.getElem?_cons_zero]; rfl)
                  case hsn48 => kernel_rfl
                  case hfn48 => kernel_rfl
                  case hrn48 => kernel_rfl
                  case habn48 => exact fun _ => rfl
                  case hQn48 => exact fun _ _ _ h => h
                  try simp only [Act.put, List.setIfInBounds_toArray, List.set_cons_zero, List.set_cons_succ]
                  refine wpAnyIn_ready (rs := [13]) (by kernel_rfl) (by simp) ?_
                  refine AllReadyIn.cons (o := ?zor49_13) ?zhr49_13 ?zkr49_13 AllReadyIn.nil
                  case zhr49_13 => (simp only [List.getElem?_toArray, List.getElem?_cons_succ, List.getElem?_cons_zero]; rfl)
                  · intro K hK
                    rw [if_neg (by rw [show Region.wanted _ _ = false by kernel_rfl]; exact Bool.false_ne_true)]
                    refine ⟨fun _ _ => trivial, hK _ _ ?_⟩
                    try simp only [Act.put, List.setIfInBounds_toArray, List.set_cons_zero, List.set_cons_succ]
                    clear hK
                    clear K
                    refine wpAnyIn_take (i := 14) (oi := ?oin50) (v := undef) rfl ?hin50 ?hsn50 ?hfn50 ?hrn50 ?hQn50 ⟨Or.inr ⟨by kernel_rfl, rfl⟩, ?habn50⟩ ?hn50
                    case hin50 => (simp only [List.getElem?_toArray, List.getElem?_cons_succ, List.getElem?_cons_zero]; rfl)
                    case hsn50 => kernel_rfl
                    case hfn50 => kernel_rfl
                    case hrn50 => kernel_rfl
                    case habn50 => exact fun _ => rfl
                    case hQn50 => exact fun _ _ _ h => h
                    try simp only [Act.put, List.setIfInBounds_toArray, List.set_cons_zero, List.set_cons_succ]
                    refine wpAnyIn_take (i := 15) (oi := ?oin51) (v := ?vn51) rfl ?hin51 ?hsn51 ?hfn51 ?hrn51 ?hQn51 ⟨Or.inl ⟨by kernel_rfl, ?hyn51⟩, ?habn51⟩ ?hn51
                    case hin51 => (simp only [List.getElem?_toArray, List.getElem?_cons_succ, List.getElem?_cons_zero]; rfl)
                    case hsn51 => kernel_rfl
                    case hfn51 => kernel_rfl
                    case hrn51 => kernel_rfl
                    case hyn51 => (intro w'; go_simp; try with_reducible rfl)
                    case habn51 => exact fun _ => rfl
                    case hQn51 => exact fun _ _ _ h => h
                    try simp only [Act.put, List.setIfInBounds_toArray, List.set_cons_zero, List.set_cons_succ]
                    refine wpAnyIn_done (by kernel_rfl) ?_ _
                    have HB1 := Lib.hid (BA.out.trans (q39.bel.mono BA.out.size))
                    have HJ1 := Lib.hid (HJQ.out q39)
                    have HC1 := Lib.hid (HC2.out.below HB1.out)
                    have HD1 := Lib.hid (HC3.out.below HB1.out)
                    have HP1 := Lib.hid (owns_below HP.out HB1.out)
                    have HS1 := Lib.hid (Nat.le_trans HSZ.out HB1.out.size)
                    go_wp2_with fail
                    go_roundw
                    case rel => exact ⟨k + 1, by omega, by go_num, by rw [HTN.out]; exact HJ1, HC1, HD1, HP1, HS1⟩
                    case measure => simp [intOf]; omega
      | true =>
        cases d2 with
        | false =>
          have HTN : Hid (thrTo l ⟨mb, mg, ma⟩ f t (k + 1) = thrTo l ⟨mb, mg, ma⟩ f t k) := Lib.hid (by rw [HTS.out]; exact List.append_nil _)
          refine (wpIn_wide (n := nn + 1)).1 (wpIn_region_any (by kernel_rfl) ?_)
          change wpAnyIn _ _ _ _ _ _ _ _ _ (World.drew wa)
          obtain ⟨q0, hq0⟩ := hdr
          rw [hq0]
          clear hq0
          refine wpAnyIn_ready (rs := [0, 2]) (by kernel_rfl) (by simp) ?_
          refine AllReadyIn.cons (o := ?zor52_0) ?zhr52_0 ?zkr52_0 (AllReadyIn.cons (o := ?zor52_2) ?zhr52_2 ?zkr52_2 AllReadyIn.nil)
          case zhr52_0 => (simp only [List.getElem?_toArray, List.getElem?_cons_succ, List.getElem?_cons_zero]; rfl)
          case zhr52_2 => (simp only [List.getElem?_toArray, List.getElem?_cons_succ, List.getElem?_cons_zero]; rfl)
          · intro K hK
            rw [if_pos (by kernel_rfl)]
            refine wpIn_of_wp ?_
            go_simp
            refine hK _ _ ?_
            try simp only [Act.put, List.setIfInBounds_toArray, List.set_cons_zero, List.set_cons_succ]
            clear hK
            clear K
            refine wpAnyIn_ready (rs := [1, 2]) (by kernel_rfl) (by simp) ?_
            refine AllReadyIn.cons (o := ?zor53_1) ?zhr53_1 ?zkr53_1 (AllReadyIn.cons (o := ?zor53_2) ?zhr53_2 ?zkr53_2 AllReadyIn.nil)
            case zhr53_1 => (simp only [List.getElem?_toArray, List.getElem?_cons_succ, List.getElem?_cons_zero]; rfl)
            case zhr53_2 => (simp only [List.getElem?_toArray, List.getElem?_cons_succ, List.getElem?_cons_zero]; rfl)
            · intro K hK
              rw [if_pos (by kernel_rfl)]
              refine wpIn_of_wp ?_
              go_simp
              refine (Calls.bw_of (HOF.out _)).mono ?_
              rintro e _ ⟨rfl, q54, rfl⟩
              refine hK _ _ ?_
              try simp only [Act.put, List.setIfInBounds_toArray, List.set_cons_zero, List.set_cons_succ]
              clear hK
              clear K
              refine wpAnyIn_ready (rs := [2]) (by kernel_rfl) (by simp) ?_
              refine AllReadyIn.cons (o := ?zor55_2) ?zhr55_2 ?zkr55_2 AllReadyIn.nil
              case zhr55_2 => (simp only [List.getElem?_toArray, List.getElem?_cons_succ, List.getElem?_cons_zero]; rfl)
              · intro K hK
                rw [if_pos (by kernel_rfl)]
                refine wpIn_of_wp ?_
                go_simp
                refine hK _ _ ?_
                try simp only [Act.put, List.setIfInBounds_toArray, List.set_cons_zero, List.set_cons_succ]
                clear hK
                clear K
                refine wpAnyIn_ready (rs := [3]) (by kernel_rfl) (by simp) ?_
                refine AllReadyIn.cons (o := ?zor56_3) ?zhr56_3 ?zkr56_3 AllReadyIn.nil
                case zhr56_3 => (simp only [List.getElem?_toArray, List.getElem?_cons_succ, List.getElem?_cons_zero]; rfl)
                · intro K hK
                  rw [if_pos (by kernel_rfl)]
                  refine wpIn_of_wp ?_
                  go_simp
                  refine (Calls.bw_of (HBH.out _)).mono ?_
                  rintro e _ ⟨rfl, q57, rfl⟩
                  refine hK _ _ ?_
                  try simp only [Act.put, List.setIfInBounds_toArray, List.set_cons_zero, List.set_cons_succ]
                  clear hK
                  clear K
                  refine wpAnyIn_take (i := 4) (oi := ?oin58) (v := ?vn58) rfl ?hin58 ?hsn58 ?hfn58 ?hrn58 ?hQn58 ⟨Or.inl ⟨by kernel_rfl, ?hyn58⟩, ?habn58⟩ ?hn58
                  case hin58 => (simp only [List.getElem?_toArray, List.getElem?_cons_succ, List.getElem?_cons_zero]; rfl)
                  case hsn58 => kernel_rfl
                  case hfn58 => kernel_rfl
                  case hrn58 => kernel_rfl
                  case hyn58 => (intro w'; go_simp; try with_reducible rfl)
                  case habn58 => exact fun _ => rfl
                  case hQn58 => exact fun _ _ _ h => h
                  try simp only [Act.put, List.setIfInBounds_toArray, List.set_cons_zero, List.set_cons_succ]
                  refine wpAnyIn_take (i := 6) (oi := ?oin59) (v := ?vn59) rfl ?hin59 ?hsn59 ?hfn59 ?hrn59 ?hQn59 ⟨Or.inl ⟨by kernel_rfl, ?hyn59⟩, ?habn59⟩ ?hn59
                  case hin59 => (simp only [List.getElem?_toArray, List.getElem?_cons_succ, List.getElem?_cons_zero]; rfl)
                  case hsn59 => kernel_rfl
                  case hfn59 => kernel_rfl
                  case hrn59 => kernel_rfl
                  case hyn59 => (intro w'; go_simp; try with_reducible rfl)
                  case habn59 => exact fun _ => rfl
                  case hQn59 => exact fun _ _ _ h => h
                  try simp only [Act.put, List.setIfInBounds_toArray, List.set_cons_zero, List.set_cons_succ]
                  refine wpAnyIn_ready (rs := [5, 7]) (by kernel_rfl) (by simp) ?_
                  refine AllReadyIn.cons (o := ?zor60_5) ?zhr60_5 ?zkr60_5 (AllReadyIn.cons (o := ?zor60_7) ?zhr60_7 ?zkr60_7 AllReadyIn.nil)
                  case zhr60_5 => (simp only [List.getElem?_toArray, List.getElem?_cons_succ, List.getElem?_cons_zero]; rfl)
                  case zhr60_7 => (simp only [List.getElem?_toArray, List.getElem?_cons_succ, List.getElem?_cons_zero]; rfl)
                  · intro K hK
                    rw [if_pos (by kernel_rfl)]
                    refine wpIn_of_wp ?_
                    go_simp
                    refine hK _ _ ?_
                    try simp only [Act.put, List.setIfInBounds_toArray, List.set_cons_zero, List.set_cons_succ]
                    clear hK
                    clear K
                    refine wpAnyIn_ready (rs := [7]) (by kernel_rfl) (by simp) ?_
                    refine AllReadyIn.cons (o := ?zor61_7) ?zhr61_7 ?zkr61_7 AllReadyIn.nil
                    case zhr61_7 => (simp only [List.getElem?_toArray, List.getElem?_cons_succ, List.getElem?_cons_zero]; rfl)
                    · intro K hK
                      rw [if_pos (by kernel_rfl)]
                      refine wpIn_of_wp ?_
                      go_simp
                      refine hK _ _ ?_
                      try simp only [Act.put, List.setIfInBounds_toArray, List.set_cons_zero, List.set_cons_succ]
                      clear hK
                      clear K
                      refine wpAnyIn_ready (rs := [8]) (by kernel_rfl) (by simp) ?_
                      refine AllReadyIn.cons (o := ?zor62_8) ?zhr62_8 ?zkr62_8 AllReadyIn.nil
                      case zhr62_8 => (simp only [List.getElem?_toArray, List.getElem?_cons_succ, List.getElem?_cons_zero]; rfl)
                      · intro K hK
                        rw [if_pos (by kernel_rfl)]
                        refine wpIn_of_wp ?_
                        go_simp
                        refine (Calls.bw_of (HHS.out _)).mono ?_
                        rintro e _ ⟨rfl, q63, rfl⟩
                        refine hK _ _ ?_
                        try simp only [Act.put, List.setIfInBounds_toArray, List.set_cons_zero, List.set_cons_succ]
                        clear hK
                        clear K
                        refine wpAnyIn_take (i := 9) (oi := ?oin64) (v := ?vn64) rfl ?hin64 ?hsn64 ?hfn64 ?hrn64 ?hQn64 ⟨Or.inl ⟨by kernel_rfl, ?hyn64⟩, ?habn64⟩ ?hn64
                        case hin64 => (simp only [List.getElem?_toArray, List.getElem?_cons_succ, List.getElem?_cons_zero]; rfl)
                        case hsn64 => kernel_rfl
                        case hfn64 => kernel_rfl
                        case hrn64 => kernel_rfl
                        case hyn64 => (intro w'; go_simp; try with_reducible rfl)
                        case habn64 => exact fun _ => rfl
                        case hQn64 => exact fun _ _ _ h => h
                        try simp only [Act.put, List.setIfInBounds_toArray, List.set_cons_zero, List.set_cons_succ]
                        refine wpAnyIn_take (i := 10) (oi := ?oin65) (v := ?vn65) rfl ?hin65 ?hsn65 ?hfn65 ?hrn65 ?hQn65 ⟨Or.inl ⟨by kernel_rfl, ?hyn65⟩, ?habn65⟩ ?hn65
                        case hin65 => (simp only [List.getElem?_toArray, List.getElem?_cons_succ, List.getElem?_cons_zero]; rfl)
                        case hsn65 => kernel_rfl
                        case hfn65 => kernel_rfl
                        case hrn65 => kernel_rfl
                        case hyn65 => (intro w'; go_simp; try with_reducible rfl)
                        case habn65 => exact fun _ => rfl
                        case hQn65 => exact fun _ _ _ h => h
                        try simp only [Act.put, List.setIfInBounds_toArray, List.set_cons_zero, List.set_cons_succ]
                        refine wpAnyIn_take (i := 11) (oi := ?oin66) (v := undef) rfl ?hin66 ?hsn66 ?hfn66 ?hrn66 ?hQn66 ⟨Or.inr ⟨by kernel_rfl, rfl⟩, ?habn66⟩ ?hn66
                        case hin66 => (simp only [List.getElem?_toArray, List.getElem?_cons_succ, List.getElem?_cons_zero]; rfl)
                        case hsn66 => kernel_rfl
                        case hfn66 => kernel_rfl
                        case hrn66 => kernel_rfl
                        case habn66 => exact fun _ => rfl
                        case hQn66 => exact fun _ _ _ h => h
                        try simp only [Act.put, List.setIfInBounds_toArray, List.set_cons_zero, List.set_cons_succ]
                        refine wpAnyIn_take (i := 12) (oi := ?oin67) (v := undef) rfl ?hin67 ?hsn67 ?hfn67 ?hrn67 ?hQn67 ⟨Or.inr ⟨by kernel_rfl, rfl⟩, ?habn67⟩ ?hn67
                        case hin67 => (simp only [List.getElem?_toArray, List.getElem?_cons_succ, List.getElem?_cons_zero]; rfl)
                        case hsn67 => kernel_rfl
                        case hfn67 => kernel_rfl
                        case hrn67 => kernel_rfl
                        case habn67 => exact fun _ => rfl
                        case hQn67 => exact fun _ _ _ h => h
                        try simp only [Act.put, List.setIfInBounds_toArray, List.set_cons_zero, List.set_cons_succ]
                        refine wpAnyIn_ready (rs := [13]) (by kernel_rfl) (by simp) ?_
                        refine AllReadyIn.cons (o := ?zor68_13) ?zhr68_13 ?zkr68_13 AllReadyIn.nil
                        case zhr68_13 => (simp only [List.getElem?_toArray, List.getElem?_cons_succ, List.getElem?_cons_zero]; rfl)
                        · intro K hK
                          rw [if_neg (by rw [show Region.wanted _ _ = false by kernel_rfl]; exact Bool.false_ne_true)]
                          refine ⟨fun _ _ => trivial, hK _ _ ?_⟩
                          try simp only [Act.put, List.setIfInBounds_toArray, List.set_cons_zero, List.set_cons_succ]
                          clear hK
                          clear K
                          refine wpAnyIn_take (i := 14) (oi := ?oin69) (v := undef) rfl ?hin69 ?hsn69 ?hfn69 ?hrn69 ?hQn69 ⟨Or.inr ⟨by kernel_rfl, rfl⟩, ?habn69⟩ ?hn69
                          case hin69 => (simp only [List.getElem?_toArray, List.getElem?_cons_succ, List.getElem?_cons_zero]; rfl)
                          case hsn69 => kernel_rfl
                          case hfn69 => kernel_rfl
                          case hrn69 => kernel_rfl
                          case habn69 => exact fun _ => rfl
                          case hQn69 => exact fun _ _ _ h => h
                          try simp only [Act.put, List.setIfInBounds_toArray, List.set_cons_zero, List.set_cons_succ]
                          refine wpAnyIn_take (i := 15) (oi := ?oin70) (v := ?vn70) rfl ?hin70 ?hsn70 ?hfn70 ?hrn70 ?hQn70 ⟨Or.inl ⟨by kernel_rfl, ?hyn70⟩, ?habn70⟩ ?hn70
                          case hin70 => (simp only [List.getElem?_toArray, List.getElem?_cons_succ, List.getElem?_cons_zero]; rfl)
                          case hsn70 => kernel_rfl
                          case hfn70 => kernel_rfl
                          case hrn70 => kernel_rfl
                          case hyn70 => (intro w'; go_simp; try with_reducible rfl)
                          case habn70 => exact fun _ => rfl
                          case hQn70 => exact fun _ _ _ h => h
                          try simp only [Act.put, List.setIfInBounds_toArray, List.set_cons_zero, List.set_cons_succ]
                          refine wpAnyIn_done (by kernel_rfl) ?_ _
                          have HB1 := Lib.hid (BA.out.trans (q63.bel.mono BA.out.size))
                          have HJ1 := Lib.hid (HJQ.out q63)
                          have HC1 := Lib.hid (HC2.out.below HB1.out)
                          have HD1 := Lib.hid (HC3.out.below HB1.out)
                          have HP1 := Lib.hid (owns_below HP.out HB1.out)
                          have HS1 := Lib.hid (Nat.le_trans HSZ.out HB1.out.size)
                          go_wp2_with fail
                          go_roundw
                          case rel => exact ⟨k + 1, by omega, by go_num, by rw [HTN.out]; exact HJ1, HC1, HD1, HP1, HS1⟩
                          case measure => simp [intOf]; omega
                  · intro K hK
                    rw [if_pos (by kernel_rfl)]
                    refine wpIn_of_wp ?_
                    go_simp
                    refine hK _ _ ?_
                    try simp only [Act.put, List.setIfInBounds_toArray, List.set_cons_zero, List.set_cons_succ]
                    clear hK
                    clear K
                    refine wpAnyIn_ready (rs := [5]) (by kernel_rfl) (by simp) ?_
                    refine AllReadyIn.cons (o := ?zor71_5) ?zhr71_5 ?zkr71_5 AllReadyIn.nil
                    case zhr71_5 => (simp only [List.getElem?_toArray, List.getElem?_cons_succ, List.getElem?_cons_zero]; rfl)
                    · intro K hK
                      rw [if_pos (by kernel_rfl)]
                      refine wpIn_of_wp ?_
                      go_simp
                      refine hK _ _ ?_
                      try simp only [Act.put, List.setIfInBounds_toArray, List.set_cons_zero, List.set_cons_succ]
                      clear hK
                      clear K
                      refine wpAnyIn_ready (rs := [8]) (by kernel_rfl) (by simp) ?_
                      refine AllReadyIn.cons (o := ?zor72_8) ?zhr72_8 ?zkr72_8 AllReadyIn.nil
                      case zhr72_8 => (simp only [List.getElem?_toArray, List.getElem?_cons_succ, List.getElem?_cons_zero]; rfl)
                      · intro K hK
                        rw [if_pos (by kernel_rfl)]
                        refine wpIn_of_wp ?_
                        go_simp
                        refine (Calls.bw_of (HHS.out _)).mono ?_
                        rintro e _ ⟨rfl, q73, rfl⟩
                        refine hK _ _ ?_
                        try simp only [Act.put, List.setIfInBounds_toArray, List.set_cons_zero, List.set_cons_succ]
                        clear hK
                        clear K
                        refine wpAnyIn_take (i := 9) (oi := ?oin74) (v := ?vn74) rfl ?hin74 ?hsn74 ?hfn74 ?hrn74 ?hQn74 ⟨Or.inl ⟨by kernel_rfl, ?hyn74⟩, ?habn74⟩ ?hn74
                        case hin74 => (simp only [List.getElem?_toArray, List.getElem?_cons_succ, List.getElem?_cons_zero]; rfl)
                        case hsn74 => kernel_rfl
                        case hfn74 => kernel_rfl
                        case hrn74 => kernel_rfl
                        case hyn74 => (intro w'; go_simp; try with_reducible rfl)
                        case habn74 => exact fun _ => rfl
                        case hQn74 => exact fun _ _ _ h => h
                        try simp only [Act.put, List.setIfInBounds_toArray, List.set_cons_zero, List.set_cons_succ]
                        refine wpAnyIn_take (i := 10) (oi := ?oin75) (v := ?vn75) rfl ?hin75 ?hsn75 ?hfn75 ?hrn75 ?hQn75 ⟨Or.inl ⟨by kernel_rfl, ?hyn75⟩, ?habn75⟩ ?hn75
                        case hin75 => (simp only [List.getElem?_toArray, List.getElem?_cons_succ, List.getElem?_cons_zero]; rfl)
                        case hsn75 => kernel_rfl
                        case hfn75 => kernel_rfl
                        case hrn75 => kernel_rfl
                        case hyn75 => (intro w'; go_simp; try with_reducible rfl)
                        case habn75 => exact fun _ => rfl
                        case hQn75 => exact fun _ _ _ h => h
                        try simp only [Act.put, List.setIfInBounds_toArray, List.set_cons_zero, List.set_cons_succ]
                        refine wpAnyIn_take (i := 11) (oi := ?oin76) (v := undef) rfl ?hin76 ?hsn76 ?hfn76 ?hrn76 ?hQn76 ⟨Or.inr ⟨by kernel_rfl, rfl⟩, ?habn76⟩ ?hn76
                        case hin76 => (simp only [List.getElem?_toArray, List.getElem?_cons_succ, List.getElem?_cons_zero]; rfl)
                        case hsn76 => kernel_rfl
                        case hfn76 => kernel_rfl
                        case hrn76 => kernel_rfl
                        case habn76 => exact fun _ => rfl
                        case hQn76 => exact fun _ _ _ h => h
                        try simp only [Act.put, List.setIfInBounds_toArray, List.set_cons_zero, List.set_cons_succ]
                        refine wpAnyIn_take (i := 12) (oi := ?oin77) (v := undef) rfl ?hin77 ?hsn77 ?hfn77 ?hrn77 ?hQn77 ⟨Or.inr ⟨by kernel_rfl, rfl⟩, ?habn77⟩ ?hn77
                        case hin77 => (simp only [List.getElem?_toArray, List.getElem?_cons_succ, List.getElem?_cons_zero]; rfl)
                        case hsn77 => kernel_rfl
                        case hfn77 => kernel_rfl
                        case hrn77 => kernel_rfl
                        case habn77 => exact fun _ => rfl
                        case hQn77 => exact fun _ _ _ h => h
                        try simp only [Act.put, List.setIfInBounds_toArray, List.set_cons_zero, List.set_cons_succ]
                        refine wpAnyIn_ready (rs := [13]) (by kernel_rfl) (by simp) ?_
                        refine AllReadyIn.cons (o := ?zor78_13) ?zhr78_13 ?zkr78_13 AllReadyIn.nil
                        case zhr78_13 => (simp only [List.getElem?_toArray, List.getElem?_cons_succ, List.getElem?_cons_zero]; rfl)
                        · intro K hK
                          rw [if_neg (by rw [show Region.wanted _ _ = false by kernel_rfl]; exact Bool.false_ne_true)]
                          refine ⟨fun _ _ => trivial, hK _ _ ?_⟩
                          try simp only [Act.put, List.setIfInBounds_toArray, List.set_cons_zero, List.set_cons_succ]
                          clear hK
                          clear K
                          refine wpAnyIn_take (i := 14) (oi := ?oin79) (v := undef) rfl ?hin79 ?hsn79 ?hfn79 ?hrn79 ?hQn79 ⟨Or.inr ⟨by kernel_rfl, rfl⟩, ?habn79⟩ ?hn79
                          case hin79 => (simp only [List.getElem?_toArray, List.getElem?_cons_succ, List.getElem?_cons_zero]; rfl)
                          case hsn79 => kernel_rfl
                          case hfn79 => kernel_rfl
                          case hrn79 => kernel_rfl
                          case habn79 => exact fun _ => rfl
                          case hQn79 => exact fun _ _ _ h => h
                          try simp only [Act.put, List.setIfInBounds_toArray, List.set_cons_zero, List.set_cons_succ]
                          refine wpAnyIn_take (i := 15) (oi := ?oin80) (v := ?vn80) rfl ?hin80 ?hsn80 ?hfn80 ?hrn80 ?hQn80 ⟨Or.inl ⟨by kernel_rfl, ?hyn80⟩, ?habn80⟩ ?hn80
                          case hin80 => (simp only [List.getElem?_toArray, List.getElem?_cons_succ, List.getElem?_cons_zero]; rfl)
                          case hsn80 => kernel_rfl
                          case hfn80 => kernel_rfl
                          case hrn80 => kernel_rfl
                          case hyn80 => (intro w'; go_simp; try with_reducible rfl)
                          case habn80 => exact fun _ => rfl
                          case hQn80 => exact fun _ _ _ h => h
                          try simp only [Act.put, List.setIfInBounds_toArray, List.set_cons_zero, List.set_cons_succ]
                          refine wpAnyIn_done (by kernel_rfl) ?_ _
                          have HB1 := Lib.hid (BA.out.trans (q73.bel.mono BA.out.size))
                          have HJ1 := Lib.hid (HJQ.out q73)
                          have HC1 := Lib.hid (HC2.out.below HB1.out)
                          have HD1 := Lib.hid (HC3.out.below HB1.out)
                          have HP1 := Lib.hid (owns_below HP.out HB1.out)
                          have HS1 := Lib.hid (Nat.le_trans HSZ.out HB1.out.size)
                          go_wp2_with fail
                          go_roundw
                          case rel => exact ⟨k + 1, by omega, by go_num, by rw [HTN.out]; exact HJ1, HC1, HD1, HP1, HS1⟩
                          case measure => simp [intOf]; omega
            · intro K hK
              rw [if_pos (by kernel_rfl)]
              refine wpIn_of_wp ?_
              go_simp
              refine hK _ _ ?_
              try simp only [Act.put, List.setIfInBounds_toArray, List.set_cons_zero, List.set_cons_succ]
              clear hK
              clear K
              refine wpAnyIn_ready (rs := [1]) (by kernel_rfl) (by simp) ?_
              refine AllReadyIn.cons (o := ?zor81_1) ?zhr81_1 ?zkr81_1 AllReadyIn.nil
              case zhr81_1 => (simp only [List.getElem?_toArray, List.getElem?_cons_succ, List.getElem?_cons_zero]; rfl)
              · intro K hK
                rw [if_pos (by kernel_rfl)]
                refine wpIn_of_wp ?_
                go_simp
                refine (Calls.bw_of (HOF.out _)).mono ?_
                rintro e _ ⟨rfl, q82, rfl⟩
                refine hK _ _ ?_
                try simp only [Act.put, List.setIfInBounds_toArray, List.set_cons_zero, List.set_cons_succ]
                clear hK
                clear K
                refine wpAnyIn_ready (rs := [3]) (by kernel_rfl) (by simp) ?_
                refine AllReadyIn.cons (o := ?zor83_3) ?zhr83_3 ?zkr83_3 AllReadyIn.nil
                case zhr83_3 => (simp only [List.getElem?_toArray, List.getElem?_cons_succ, List.getElem?_cons_zero]; rfl)
                · intro K hK
                  rw [if_pos (by kernel_rfl)]
                  refine wpIn_of_wp ?_
                  go_simp
                  refine (Calls.bw_of (HBH.out _)).mono ?_
                  rintro e _ ⟨rfl, q84, rfl⟩
                  refine hK _ _ ?_
                  try simp only [Act.put, List.setIfInBounds_toArray, List.set_cons_zero, List.set_cons_succ]
                  clear hK
                  clear K
                  refine wpAnyIn_take (i := 4) (oi := ?oin85) (v := ?vn85) rfl ?hin85 ?hsn85 ?hfn85 ?hrn85 ?hQn85 ⟨Or.inl ⟨by kernel_rfl, ?hyn85⟩, ?habn85⟩ ?hn85
                  case hin85 => (simp only [List.getElem?_toArray, List.getElem?_cons_succ, List.getElem?_cons_zero]; rfl)
                  case hsn85 => kernel_rfl
                  case hfn85 => kernel_rfl
                  case hrn85 => kernel_rfl
                  case hyn85 => (intro w'; go_simp; try with_reducible rfl)
                  case habn85 => exact fun _ => rfl
                  case hQn85 => exact fun _ _ _ h => h
                  try simp only [Act.put, List.setIfInBounds_toArray, List.set_cons_zero, List.set_cons_succ]
                  refine wpAnyIn_take (i := 6) (oi := ?oin86) (v := ?vn86) rfl ?hin86 ?hsn86 ?hfn86 ?hrn86 ?hQn86 ⟨Or.inl ⟨by kernel_rfl, ?hyn86⟩, ?habn86⟩ ?hn86
                  case hin86 => (simp only [List.getElem?_toArray, List.getElem?_cons_succ, List.getElem?_cons_zero]; rfl)
                  case hsn86 => kernel_rfl
                  case hfn86 => kernel_rfl
                  case hrn86 => kernel_rfl
                  case hyn86 => (intro w'; go_simp; try with_reducible rfl)
                  case habn86 => exact fun _ => rfl
                  case hQn86 => exact fun _ _ _ h => h
                  try simp only [Act.put, List.setIfInBounds_toArray, List.set_cons_zero, List.set_cons_succ]
                  refine wpAnyIn_ready (rs := [5, 7]) (by kernel_rfl) (by simp) ?_
                  refine AllReadyIn.cons (o := ?zor87_5) ?zhr87_5 ?zkr87_5 (AllReadyIn.cons (o := ?zor87_7) ?zhr87_7 ?zkr87_7 AllReadyIn.nil)
                  case zhr87_5 => (simp only [List.getElem?_toArray, List.getElem?_cons_succ, List.getElem?_cons_zero]; rfl)
                  case zhr87_7 => (simp only [List.getElem?_toArray, List.getElem?_cons_succ, List.getElem?_cons_zero]; rfl)
                  · intro K hK
                    rw [if_pos (by kernel_rfl)]
                    refine wpIn_of_wp ?_
                    go_simp
                    refine hK _ _ ?_
                    try simp only [Act.put, List.setIfInBounds_toArray, List.set_cons_zero, List.set_cons_succ]
                    clear hK
                    clear K
                    refine wpAnyIn_ready (rs := [7]) (by kernel_rfl) (by simp) ?_
                    refine AllReadyIn.cons (o := ?zor88_7) ?zhr88_7 ?zkr88_7 AllReadyIn.nil
                    case zhr88_7 => (simp only [List.getElem?_toArray, List.getElem?_cons_succ, List.getElem?_cons_zero]; rfl)
                    · intro K hK
                      rw [if_pos (by kernel_rfl)]
                      refine wpIn_of_wp ?_
                      go_simp
                      refine hK _ _ ?_
                      try simp only [Act.put, List.setIfInBounds_toArray, List.set_cons_zero, List.set_cons_succ]
                      clear hK
                      clear K
                      refine wpAnyIn_ready (rs := [8]) (by kernel_rfl) (by simp) ?_
                      refine AllReadyIn.cons (o := ?zor89_8) ?zhr89_8 ?zkr89_8 AllReadyIn.nil
                      case zhr89_8 => (simp only [List.getElem?_toArray, List.getElem?_cons_succ, List.getElem?_cons_zero]; rfl)
                      · intro K hK
                        rw [if_pos (by kernel_rfl)]
                        refine wpIn_of_wp ?_
                        go_simp
                        refine (Calls.bw_of (HHS.out _)).mono ?_
                        rintro e _ ⟨rfl, q90, rfl⟩
                        refine hK _ _ ?_
                        try simp only [Act.put, List.setIfInBounds_toArray, List.set_cons_zero, List.set_cons_succ]
                        clear hK
                        clear K
                        refine wpAnyIn_take (i := 9) (oi := ?oin91) (v := ?vn91) rfl ?hin91 ?hsn91 ?hfn91 ?hrn91 ?hQn91 ⟨Or.inl ⟨by kernel_rfl, ?hyn91⟩, ?habn91⟩ ?hn91
                        case hin91 => (simp only [List.getElem?_toArray, List.getElem?_cons_succ, List.getElem?_cons_zero]; rfl)
                        case hsn91 => kernel_rfl
                        case hfn91 => kernel_rfl
                        case hrn91 => kernel_rfl
                        case hyn91 => (intro w'; go_simp; try with_reducible rfl)
                        case habn91 => exact fun _ => rfl
                        case hQn91 => exact fun _ _ _ h => h
                        try simp only [Act.put, List.setIfInBounds_toArray, List.set_cons_zero, List.set_cons_succ]
                        refine wpAnyIn_take (i := 10) (oi := ?oin92) (v := ?vn92) rfl ?hin92 ?hsn92 ?hfn92 ?hrn92 ?hQn92 ⟨Or.inl ⟨by kernel_rfl, ?hyn92⟩, ?habn92⟩ ?hn92
                        case hin92 => (simp only [List.getElem?_toArray, List.getElem?_cons_succ, List.getElem?_cons_zero]; rfl)
                        case hsn92 => kernel_rfl
                        case hfn92 => kernel_rfl
                        case hrn92 => kernel_rfl
                        case hyn92 => (intro w'; go_simp; try with_reducible rfl)
                        case habn92 => exact fun _ => rfl
                        case hQn92 => exact fun _ _ _ h => h
                        try simp only [Act.put, List.setIfInBounds_toArray, List.set_cons_zero, List.set_cons_succ]
                        refine wpAnyIn_take (i := 11) (oi := ?oin93) (v := undef) rfl ?hin93 ?hsn93 ?hfn93 ?hrn93 ?hQn93 ⟨Or.inr ⟨by kernel_rfl, rfl⟩, ?habn93⟩ ?hn93
                        case hin93 => (simp only [List.getElem?_toArray, List.getElem?_cons_succ, List.getElem?_cons_zero]; rfl)
                        case hsn93 => kernel_rfl
                        case hfn93 => kernel_rfl
                        case hrn93 => kernel_rfl
                        case habn93 => exact fun _ => rfl
                        case hQn93 => exact fun _ _ _ h => h
                        try simp only [Act.put, List.setIfInBounds_toArray, List.set_cons_zero, List.set_cons_succ]
                        refine wpAnyIn_take (i := 12) (oi := ?oin94) (v := undef) rfl ?hin94 ?hsn94 ?hfn94 ?hrn94 ?hQn94 ⟨Or.inr ⟨by kernel_rfl, rfl⟩, ?habn94⟩ ?hn94
                        case hin94 => (simp only [List.getElem?_toArray, List.getElem?_cons_succ, List.getElem?_cons_zero]; rfl)
                        case hsn94 => kernel_rfl
                        case hfn94 => kernel_rfl
                        case hrn94 => kernel_rfl
                        case habn94 => exact fun _ => rfl
                        case hQn94 => exact fun _ _ _ h => h
                        try simp only [Act.put, List.setIfInBounds_toArray, List.set_cons_zero, List.set_cons_succ]
                        refine wpAnyIn_ready (rs := [13]) (by kernel_rfl) (by simp) ?_
                        refine AllReadyIn.cons (o := ?zor95_13) ?zhr95_13 ?zkr95_13 AllReadyIn.nil
                        case zhr95_13 => (simp only [List.getElem?_toArray, List.getElem?_cons_succ, List.getElem?_cons_zero]; rfl)
                        · intro K hK
                          rw [if_neg (by rw [show Region.wanted _ _ = false by kernel_rfl]; exact Bool.false_ne_true)]
                          refine ⟨fun _ _ => trivial, hK _ _ ?_⟩
                          try simp only [Act.put, List.setIfInBounds_toArray, List.set_cons_zero, List.set_cons_succ]
                          clear hK
                          clear K
                          refine wpAnyIn_take (i := 14) (oi := ?oin96) (v := undef) rfl ?hin96 ?hsn96 ?hfn96 ?hrn96 ?hQn96 ⟨Or.inr ⟨by kernel_rfl, rfl⟩, ?habn96⟩ ?hn96
                          case hin96 => (simp only [List.getElem?_toArray, List.getElem?_cons_succ, List.getElem?_cons_zero]; rfl)
                          case hsn96 => kernel_rfl
                          case hfn96 => kernel_rfl
                          case hrn96 => kernel_rfl
                          case habn96 => exact fun _ => rfl
                          case hQn96 => exact fun _ _ _ h => h
                          try simp only [Act.put, List.setIfInBounds_toArray, List.set_cons_zero, List.set_cons_succ]
                          refine wpAnyIn_take (i := 15) (oi := ?oin97) (v := ?vn97) rfl ?hin97 ?hsn97 ?hfn97 ?hrn97 ?hQn97 ⟨Or.inl ⟨by kernel_rfl, ?hyn97⟩, ?habn97⟩ ?hn97
                          case hin97 => (simp only [List.getElem?_toArray, List.getElem?_cons_succ, List.getElem?_cons_zero]; rfl)
                          case hsn97 => kernel_rfl
                          case hfn97 => kernel_rfl
                          case hrn97 => kernel_rfl
                          case hyn97 => (intro w'; go_simp; try with_reducible rfl)
                          case habn97 => exact fun _ => rfl
                          case hQn97 => exact fun _ _ _ h => h
                          try simp only [Act.put, List.setIfInBounds_toArray, List.set_cons_zero, List.set_cons_succ]
                          refine wpAnyIn_done (by kernel_rfl) ?_ _
                          have HB1 := Lib.hid (BA.out.trans (q90.bel.mono BA.out.size))
                          have HJ1 := Lib.hid (HJQ.out q90)
                          have HC1 := Lib.hid (HC2.out.below HB1.out)
                          have HD1 := Lib.hid (HC3.out.below HB1.out)
                          have HP1 := Lib.hid (owns_below HP.out HB1.out)
                          have HS1 := Lib.hid (Nat.le_trans HSZ.out HB1.out.size)
                          go_wp2_with fail
                          go_roundw
                          case rel => exact ⟨k + 1, by omega, by go_num, by rw [HTN.out]; exact HJ1, HC1, HD1, HP1, HS1⟩
                          case measure => simp [intOf]; omega
                  · intro K hK
                    rw [if_pos (by kernel_rfl)]
                    refine wpIn_of_wp ?_
                    go_simp
                    refine hK _ _ ?_
                    try simp only [Act.put, List.setIfInBounds_toArray, List.set_cons_zero, List.set_cons_succ]
                    clear hK
                    clear K
                    refine wpAnyIn_ready (rs := [5]) (by kernel_rfl) (by simp) ?_
                    refine AllReadyIn.cons (o := ?zor98_5) ?zhr98_5 ?zkr98_5 AllReadyIn.nil
                    case zhr98_5 => (simp only [List.getElem?_toArray, List.getElem?_cons_succ, List.getElem?_cons_zero]; rfl)
                    · intro K hK
                      rw [if_pos (by kernel_rfl)]
                      refine wpIn_of_wp ?_
                      go_simp
                      refine hK _ _ ?_
                      try simp only [Act.put, List.setIfInBounds_toArray, List.set_cons_zero, List.set_cons_succ]
                      clear hK
                      clear K
                      refine wpAnyIn_ready (rs := [8]) (by kernel_rfl) (by simp) ?_
                      refine AllReadyIn.cons (o := ?zor99_8) ?zhr99_8 ?zkr99_8 AllReadyIn.nil
                      case zhr99_8 => (simp only [List.getElem?_toArray, List.getElem?_cons_succ, List.getElem?_cons_zero]; rfl)
                      · intro K hK
                        rw [if_pos (by kernel_rfl)]
                        refine wpIn_of_wp ?_
                        go_simp
                        refine (Calls.bw_of (HHS.out _)).mono ?_
                        rintro e _ ⟨rfl, q100, rfl⟩
                        refine hK _ _ ?_
                        try simp only [Act.put, List.setIfInBounds_toArray, List.set_cons_zero, List.set_cons_succ]
                        clear hK
                        clear K
                        refine wpAnyIn_take (i := 9) (oi := ?oin101) (v := ?vn101) rfl ?hin101 ?hsn101 ?hfn101 ?hrn101 ?hQn101 ⟨Or.inl ⟨by kernel_rfl, ?hyn101⟩, ?habn101⟩ ?hn101
                        case hin101 => (simp only [List.getElem?_toArray, List.getElem?_cons_succ, List.getElem?_cons_zero]; rfl)
                        case hsn101 => kernel_rfl
                        case hfn101 => kernel_rfl
                        case hrn101 => kernel_rfl
                        case hyn101 => (intro w'; go_simp; try with_reducible rfl)
                        case habn101 => exact fun _ => rfl
                        case hQn101 => exact fun _ _ _ h => h
                        try simp only [Act.put, List.setIfInBounds_toArray, List.set_cons_zero, List.set_cons_succ]
                        refine wpAnyIn_take (i := 10) (oi := ?oin102) (v := ?vn102) rfl ?hin102 ?hsn102 ?hfn102 ?hrn102 ?hQn102 ⟨Or.inl ⟨by kernel_rfl, ?hyn102⟩, ?habn102⟩ ?hn102
                        case hin102 => (simp only [List.getElem?_toArray, List.getElem?_cons_succ, List.getElem?_cons_zero]; rfl)
                        case hsn102 => kernel_rfl
                        case hfn102 => kernel_rfl
                        case hrn102 => kernel_rfl
                        case hyn102 => (intro w'; go_simp; try with_reducible rfl)
                        case habn102 => exact fun _ => rfl
                        case hQn102 => exact fun _ _ _ h => h
                        try simp only [Act.put, List.setIfInBounds_toArray, List.set_cons_zero, List.set_cons_succ]
                        refine wpAnyIn_take (i := 11) (oi := ?oin103) (v := undef) rfl ?hin103 ?hsn103 ?hfn103 ?hrn103 ?hQn103 ⟨Or.inr ⟨by kernel_rfl, rfl⟩, ?habn103⟩ ?hn103
                        case hin103 => (simp only [List.getElem?_toArray, List.getElem?_cons_succ, List.getElem?_cons_zero]; rfl)
                        case hsn103 => kernel_rfl
                        case hfn103 => kernel_rfl
                        case hrn103 => kernel_rfl
                        case habn103 => exact fun _ => rfl
                        case hQn103 => exact fun _ _ _ h => h
                        try simp only [Act.put, List.setIfInBounds_toArray, List.set_cons_zero, List.set_cons_succ]
                        refine wpAnyIn_take (i := 12) (oi := ?oin104) (v := undef) rfl ?hin104 ?hsn104 ?hfn104 ?hrn104 ?hQn104 ⟨Or.inr ⟨by kernel_rfl, rfl⟩, ?habn104⟩ ?hn104
                        case hin104 => (simp only [List.getElem?_toArray, List.getElem?_cons_succ, List.getElem?_cons_zero]; rfl)
                        case hsn104 => kernel_rfl
                        case hfn104 => kernel_rfl
                        case hrn104 => kernel_rfl
                        case habn104 => exact fun _ => rfl
                        case hQn104 => exact fun _ _ _ h => h
                        try simp only [Act.put, List.setIfInBounds_toArray, List.set_cons_zero, List.set_cons_succ]
                        refine wpAnyIn_ready (rs := [13]) (by kernel_rfl) (by simp) ?_
                        refine AllReadyIn.cons (o := ?zor105_13) ?zhr105_13 ?zkr105_13 AllReadyIn.nil
                        case zhr105_13 => (simp only [List.getElem?_toArray, List.getElem?_cons_succ, List.getElem?_cons_zero]; rfl)
                        · intro K hK
                          rw [if_neg (by rw [show Region.wanted _ _ = false by kernel_rfl]; exact Bool.false_ne_true)]
                          refine ⟨fun _ _ => trivial, hK _ _ ?_⟩
                          try simp only [Act.put, List.setIfInBounds_toArray, List.set_cons_zero, List.set_cons_succ]
                          clear hK
                          clear K
                          refine wpAnyIn_take (i := 14) (oi := ?oin106) (v := undef) rfl ?hin106 ?hsn106 ?hfn106 ?hrn106 ?hQn106 ⟨Or.inr ⟨by kernel_rfl, rfl⟩, ?habn106⟩ ?hn106
                          case hin106 => (simp only [List.getElem?_toArray, List.getElem?_cons_succ, List.getElem?_cons_zero]; rfl)
                          case hsn106 => kernel_rfl
                          case hfn106 => kernel_rfl
                          case hrn106 => kernel_rfl
                          case habn106 => exact fun _ => rfl
                          case hQn106 => exact fun _ _ _ h => h
                          try simp only [Act.put, List.setIfInBounds_toArray, List.set_cons_zero, List.set_cons_succ]
                          refine wpAnyIn_take (i := 15) (oi := ?oin107) (v := ?vn107) rfl ?hin107 ?hsn107 ?hfn107 ?hrn107 ?hQn107 ⟨Or.inl ⟨by kernel_rfl, ?hyn107⟩, ?habn107⟩ ?hn107
                          case hin107 => (simp only [List.getElem?_toArray, List.getElem?_cons_succ, List.getElem?_cons_zero]; rfl)
                          case hsn107 => kernel_rfl
                          case hfn107 => kernel_rfl
                          case hrn107 => kernel_rfl
                          case hyn107 => (intro w'; go_simp; try with_reducible rfl)
                          case habn107 => exact fun _ => rfl
                          case hQn107 => exact fun _ _ _ h => h
                          try simp only [Act.put, List.setIfInBounds_toArray, List.set_cons_zero, List.set_cons_succ]
                          refine wpAnyIn_done (by kernel_rfl) ?_ _
                          have HB1 := Lib.hid (BA.out.trans (q100.bel.mono BA.out.size))
                          have HJ1 := Lib.hid (HJQ.out q100)
                          have HC1 := Lib.hid (HC2.out.below HB1.out)
                          have HD1 := Lib.hid (HC3.out.below HB1.out)
                          have HP1 := Lib.hid (owns_below HP.out HB1.out)
                          have HS1 := Lib.hid (Nat.le_trans HSZ.out HB1.out.size)
                          go_wp2_with fail
                          go_roundw
                          case rel => exact ⟨k + 1, by omega, by go_num, by rw [HTN.out]; exact HJ1, HC1, HD1, HP1, HS1⟩
                          case measure => simp [intOf]; omega
          · intro K hK
            rw [if_pos (by kernel_rfl)]
            refine wpIn_of_wp ?_
            go_simp
            refine hK _ _ ?_
            try simp only [Act.put, List.setIfInBounds_toArray, List.set_cons_zero, List.set_cons_succ]
            clear hK
            clear K
            refine wpAnyIn_ready (rs := [0]) (by kernel_rfl) (by simp) ?_
            refine AllReadyIn.cons (o := ?zor108_0) ?zhr108_0 ?zkr108_0 AllReadyIn.nil
            case zhr108_0 => (simp only [List.getElem?_toArray, List.getElem?_cons_succ, List.getElem?_cons_zero]; rfl)
            · intro K hK
              rw [if_pos (by kernel_rfl)]
              refine wpIn_of_wp ?_
              go_simp
              refine hK _ _ ?_
              try simp only [Act.put, List.setIfInBounds_toArray, List.set_cons_zero, List.set_cons_succ]
              clear hK
              clear K
              refine wpAnyIn_ready (rs := [1]) (by kernel_rfl) (by simp) ?_
              refine AllReadyIn.cons (o := ?zor109_1) ?zhr109_1 ?zkr109_1 AllReadyIn.nil
              case zhr109_1 => (simp only [List.getElem?_toArray, List.getElem?_cons_succ, List.getElem?_cons_zero]; rfl)
              · intro K hK
                rw [if_pos (by kernel_rfl)]
                refine wpIn_of_wp ?_
                go_simp
                refine (Calls.bw_of (HOF.out _)).mono ?_
                rintro e _ ⟨rfl, q110, rfl⟩
                refine hK _ _ ?_
                try simp only [Act.put, List.setIfInBounds_toArray, List.set_cons_zero, List.set_cons_succ]
                clear hK
                clear K
                refine wpAnyIn_ready (rs := [3]) (by kernel_rfl) (by simp) ?_
                refine AllReadyIn.cons (o := ?zor111_3) ?zhr111_3 ?zkr111_3 AllReadyIn.nil
                case zhr111_3 => (simp only [List.getElem?_toArray, List.getElem?_cons_succ, List.getElem?_cons_zero]; rfl)
                · intro K hK
                  rw [if_pos (by kernel_rfl)]
                  refine wpIn_of_wp ?_
                  go_simp
                  refine (Calls.bw_of (HBH.out _)).mono ?_
                  rintro e _ ⟨rfl, q112, rfl⟩
                  refine hK _ _ ?_
                  try simp only [Act.put, List.setIfInBounds_toArray, List.set_cons_zero, List.set_cons_succ]
                  clear hK
                  clear K
                  refine wpAnyIn_take (i := 4) (oi := ?oin113) (v := ?vn113) rfl ?hin113 ?hsn113 ?hfn113 ?hrn113 ?hQn113 ⟨Or.inl ⟨by kernel_rfl, ?hyn113⟩, ?habn113⟩ ?hn113
                  case hin113 => (simp only [List.getElem?_toArray, List.getElem?_cons_succ, List.getElem?_cons_zero]; rfl)
                  case hsn113 => kernel_rfl
                  case hfn113 => kernel_rfl
                  case hrn113 => kernel_rfl
                  case hyn113 => (intro w'; go_simp; try with_reducible rfl)
                  case habn113 => exact fun _ => rfl
                  case hQn113 => exact fun _ _ _ h => h
                  try simp only [Act.put, List.setIfInBounds_toArray, List.set_cons_zero, List.set_cons_succ]
                  refine wpAnyIn_take (i := 6) (oi := ?oin114) (v := ?vn114) rfl ?hin114 ?hsn114 ?hfn114 ?hrn114 ?hQn114 ⟨Or.inl ⟨by kernel_rfl, ?hyn114⟩, ?habn114⟩ ?hn114
                  case hin114 => (simp only [List.getElem?_toArray, List.getElem?_cons_succ, List.getElem?_cons_zero]; rfl)
                  case hsn114 => kernel_rfl
                  case hfn114 => kernel_rfl
                  case hrn114 => kernel_rfl
                  case hyn114 => (intro w'; go_simp; try with_reducible rfl)
                  case habn114 => exact fun _ => rfl
                  case hQn114 => exact fun _ _ _ h => h
                  try simp only [Act.put, List.setIfInBounds_toArray, List.set_cons_zero, List.set_cons_succ]
                  refine wpAnyIn_ready (rs := [5, 7]) (by kernel_rfl) (by simp) ?_
                  refine AllReadyIn.cons (o := ?zor115_5) ?zhr115_5 ?zkr115_5 (AllReadyIn.cons (o := ?zor115_7) ?zhr115_7 ?zkr115_7 AllReadyIn.nil)
                  case zhr115_5 => (simp only [List.getElem?_toArray, List.getElem?_cons_succ, List.getElem?_cons_zero]; rfl)
                  case zhr115_7 => (simp only [List.getElem?_toArray, List.getElem?_cons_succ, List.getElem?_cons_zero]; rfl)
                  · intro K hK
                    rw [if_pos (by kernel_rfl)]
                    refine wpIn_of_wp ?_
                    go_simp
                    refine hK _ _ ?_
                    try simp only [Act.put, List.setIfInBounds_toArray, List.set_cons_zero, List.set_cons_succ]
                    clear hK
                    clear K
                    refine wpAnyIn_ready (rs := [7]) (by kernel_rfl) (by simp) ?_
                    refine AllReadyIn.cons (o := ?zor116_7) ?zhr116_7 ?zkr116_7 AllReadyIn.nil
                    case zhr116_7 => (simp only [List.getElem?_toArray, List.getElem?_cons_succ, List.getElem?_cons_zero]; rfl)
                    · intro K hK
                      rw [if_pos (by kernel_rfl)]
                      refine wpIn_of_wp ?_
                      go_simp
                      refine hK _ _ ?_
                      try simp only [Act.put, List.setIfInBounds_toArray, List.set_cons_zero, List.set_cons_succ]
                      clear hK
                      clear K
                      refine wpAnyIn_ready (rs := [8]) (by kernel_rfl) (by simp) ?_
                      refine AllReadyIn.cons (o := ?zor117_8) ?zhr117_8 ?zkr117_8 AllReadyIn.nil
                      case zhr117_8 => (simp only [List.getElem?_toArray, List.getElem?_cons_succ, List.getElem?_cons_zero]; rfl)
                      · intro K hK
                        rw [if_pos (by kernel_rfl)]
                        refine wpIn_of_wp ?_
                        go_simp
                        refine (Calls.bw_of (HHS.out _)).mono ?_
                        rintro e _ ⟨rfl, q118, rfl⟩
                        refine hK _ _ ?_
                        try simp only [Act.put, List.setIfInBounds_toArray, List.set_cons_zero, List.set_cons_succ]
                        clear hK
                        clear K
                        refine wpAnyIn_take (i := 9) (oi := ?oin119) (v := ?vn119) rfl ?hin119 ?hsn119 ?hfn119 ?hrn119 ?hQn119 ⟨Or.inl ⟨by kernel_rfl, ?hyn119⟩, ?habn119⟩ ?hn119
                        case hin119 => (simp only [List.getElem?_toArray, List.getElem?_cons_succ, List.getElem?_cons_zero]; rfl)
                        case hsn119 => kernel_rfl
                        case hfn119 => kernel_rfl
                        case hrn119 => kernel_rfl
                        case hyn119 => (intro w'; go_simp; try with_reducible rfl)
                        case habn119 => exact fun _ => rfl
                        case hQn119 => exact fun _ _ _ h => h
                        try simp only [Act.put, List.setIfInBounds_toArray, List.set_cons_zero, List.set_cons_succ]
                        refine wpAnyIn_take (i := 10) (oi := ?oin120) (v := ?vn120) rfl ?hin120 ?hsn120 ?hfn120 ?hrn120 ?hQn120 ⟨Or.inl ⟨by kernel_rfl, ?hyn120⟩, ?habn120⟩ ?hn120
                        case hin120 => (simp only [List.getElem?_toArray, List.getElem?_cons_succ, List.getElem?_cons_zero]; rfl)
                        case hsn120 => kernel_rfl
                        case hfn120 => kernel_rfl
                        case hrn120 => kernel_rfl
                        case hyn120 => (intro w'; go_simp; try with_reducible rfl)
                        case habn120 => exact fun _ => rfl
                        case hQn120 => exact fun _ _ _ h => h
                        try simp only [Act.put, List.setIfInBounds_toArray, List.set_cons_zero, List.set_cons_succ]
                        refine wpAnyIn_take (i := 11) (oi := ?oin121) (v := undef) rfl ?hin121 ?hsn121 ?hfn121 ?hrn121 ?hQn121 ⟨Or.inr ⟨by kernel_rfl, rfl⟩, ?habn121⟩ ?hn121
                        case hin121 => (simp only [List.getElem?_toArray, List.getElem?_cons_succ, List.getElem?_cons_zero]; rfl)
                        case hsn121 => kernel_rfl
                        case hfn121 => kernel_rfl
                        case hrn121 => kernel_rfl
                        case habn121 => exact fun _ => rfl
                        case hQn121 => exact fun _ _ _ h => h
                        try simp only [Act.put, List.setIfInBounds_toArray, List.set_cons_zero, List.set_cons_succ]
                        refine wpAnyIn_take (i := 12) (oi := ?oin122) (v := undef) rfl ?hin122 ?hsn122 ?hfn122 ?hrn122 ?hQn122 ⟨Or.inr ⟨by kernel_rfl, rfl⟩, ?habn122⟩ ?hn122
                        case hin122 => (simp only [List.getElem?_toArray, List.getElem?_cons_succ, List.getElem?_cons_zero]; rfl)
                        case hsn122 => kernel_rfl
                        case hfn122 => kernel_rfl
                        case hrn122 => kernel_rfl
                        case habn122 => exact fun _ => rfl
                        case hQn122 => exact fun _ _ _ h => h
                        try simp only [Act.put, List.setIfInBounds_toArray, List.set_cons_zero, List.set_cons_succ]
                        refine wpAnyIn_ready (rs := [13]) (by kernel_rfl) (by simp) ?_
                        refine AllReadyIn.cons (o := ?zor123_13) ?zhr123_13 ?zkr123_13 AllReadyIn.nil
                        case zhr123_13 => (simp only [List.getElem?_toArray, List.getElem?_cons_succ, List.getElem?_cons_zero]; rfl)
                        · intro K hK
                          rw [if_neg (by rw [show Region.wanted _ _ = false by kernel_rfl]; exact Bool.false_ne_true)]
                          refine ⟨fun _ _ => trivial, hK _ _ ?_⟩
                          try simp only [Act.put, List.setIfInBounds_toArray, List.set_cons_zero, List.set_cons_succ]
                          clear hK
                          clear K
                          refine wpAnyIn_take (i := 14) (oi := ?oin124) (v := undef) rfl ?hin124 ?hsn124 ?hfn124 ?hrn124 ?hQn124 ⟨Or.inr ⟨by kernel_rfl, rfl⟩, ?habn124⟩ ?hn124
                          case hin124 => (simp only [List.getElem?_toArray, List.getElem?_cons_succ, List.getElem?_cons_zero]; rfl)
                          case hsn124 => kernel_rfl
                          case hfn124 => kernel_rfl
                          case hrn124 => kernel_rfl
                          case habn124 => exact fun _ => rfl
                          case hQn124 => exact fun _ _ _ h => h
                          try simp only [Act.put, List.setIfInBounds_toArray, List.set_cons_zero, List.set_cons_succ]
                          refine wpAnyIn_take (i := 15) (oi := ?oin125) (v := ?vn125) rfl ?hin125 ?hsn125 ?hfn125 ?hrn125 ?hQn125 ⟨Or.inl ⟨by kernel_rfl, ?hyn125⟩, ?habn125⟩ ?hn125
                          case hin125 => (simp only [List.getElem?_toArray, List.getElem?_cons_succ, List.getElem?_cons_zero]; rfl)
                          case hsn125 => kernel_rfl
                          case hfn125 => kernel_rfl
                          case hrn125 => kernel_rfl
                          case hyn125 => (intro w'; go_simp; try with_reducible rfl)
                          case habn125 => exact fun _ => rfl
                          case hQn125 => exact fun _ _ _ h => h
                          try simp only [Act.put, List.setIfInBounds_toArray, List.set_cons_zero, List.set_cons_succ]
                          refine wpAnyIn_done (by kernel_rfl) ?_ _
                          have HB1 := Lib.hid (BA.out.trans (q118.bel.mono BA.out.size))
                          have HJ1 := Lib.hid (HJQ.out q118)
                          have HC1 := Lib.hid (HC2.out.below HB1.out)
                          have HD1 := Lib.hid (HC3.out.below HB1.out)
                          have HP1 := Lib.hid (owns_below HP.out HB1.out)
                          have HS1 := Lib.hid (Nat.le_trans HSZ.out HB1.out.size)
                          go_wp2_with fail
                          go_roundw
                          case rel => exact ⟨k + 1, by omega, by go_num, by rw [HTN.out]; exact HJ1, HC1, HD1, HP1, HS1⟩
                          case measure => simp [intOf]; omega
                  · intro K hK
                    rw [if_pos (by kernel_rfl)]
                    refine wpIn_of_wp ?_
                    go_simp
                    refine hK _ _ ?_
                    try simp only [Act.put, List.setIfInBounds_toArray, List.set_cons_zero, List.set_cons_succ]
                    clear hK
                    clear K
                    refine wpAnyIn_ready (rs := [5]) (by kernel_rfl) (by simp) ?_
                    refine AllReadyIn.cons (o := ?zor126_5) ?zhr126_5 ?zkr126_5 AllReadyIn.nil
                    case zhr126_5 => (simp only [List.getElem?_toArray, List.getElem?_cons_succ, List.getElem?_cons_zero]; rfl)
                    · intro K hK
                      rw [if_pos (by kernel_rfl)]
                      refine wpIn_of_wp ?_
                      go_simp
                      refine hK _ _ ?_
                      try simp only [Act.put, List.setIfInBounds_toArray, List.set_cons_zero, List.set_cons_succ]
                      clear hK
                      clear K
                      refine wpAnyIn_ready (rs := [8]) (by kernel_rfl) (by simp) ?_
                      refine AllReadyIn.cons (o := ?zor127_8) ?zhr127_8 ?zkr127_8 AllReadyIn.nil
                      case zhr127_8 => (simp only [List.getElem?_toArray, List.getElem?_cons_succ, List.getElem?_cons_zero]; rfl)
                      · intro K hK
                        rw [if_pos (by kernel_rfl)]
                        refine wpIn_of_wp ?_
                        go_simp
                        refine (Calls.bw_of (HHS.out _)).mono ?_
                        rintro e _ ⟨rfl, q128, rfl⟩
                        refine hK _ _ ?_
                        try simp only [Act.put, List.setIfInBounds_toArray, List.set_cons_zero, List.set_cons_succ]
                        clear hK
                        clear K
                        refine wpAnyIn_take (i := 9) (oi := ?oin129) (v := ?vn129) rfl ?hin129 ?hsn129 ?hfn129 ?hrn129 ?hQn129 ⟨Or.inl ⟨by kernel_rfl, ?hyn129⟩, ?habn129⟩ ?hn129
                        case hin129 => (simp only [List.getElem?_toArray, List.getElem?_cons_succ, List.getElem?_cons_zero]; rfl)
                        case hsn129 => kernel_rfl
                        case hfn129 => kernel_rfl
                        case hrn129 => kernel_rfl
                        case hyn129 => (intro w'; go_simp; try with_reducible rfl)
                        case habn129 => exact fun _ => rfl
                        case hQn129 => exact fun _ _ _ h => h
                        try simp only [Act.put, List.setIfInBounds_toArray, List.set_cons_zero, List.set_cons_succ]
                        refine wpAnyIn_take (i := 10) (oi := ?oin130) (v := ?vn130) rfl ?hin130 ?hsn130 ?hfn130 ?hrn130 ?hQn130 ⟨Or.inl ⟨by kernel_rfl, ?hyn130⟩, ?habn130⟩ ?hn130
                        case hin130 => (simp only [List.getElem?_toArray, List.getElem?_cons_succ, List.getElem?_cons_zero]; rfl)
                        case hsn130 => kernel_rfl
                        case hfn130 => kernel_rfl
                        case hrn130 => kernel_rfl
                        case hyn130 => (intro w'; go_simp; try with_reducible rfl)
                        case habn130 => exact fun _ => rfl
                        case hQn130 => exact fun _ _ _ h => h
                        try simp only [Act.put, List.setIfInBounds_toArray, List.set_cons_zero, List.set_cons_succ]
                        refine wpAnyIn_take (i := 11) (oi := ?oin131) (v := undef) rfl ?hin131 ?hsn131 ?hfn131 ?hrn131 ?hQn131 ⟨Or.inr ⟨by kernel_rfl, rfl⟩, ?habn131⟩ ?hn131
                        case hin131 => (simp only [List.getElem?_toArray, List.getElem?_cons_succ, List.getElem?_cons_zero]; rfl)
                        case hsn131 => kernel_rfl
                        case hfn131 => kernel_rfl
                        case hrn131 => kernel_rfl
                        case habn131 => exact fun _ => rfl
                        case hQn131 => exact fun _ _ _ h => h
                        try simp only [Act.put, List.setIfInBounds_toArray, List.set_cons_zero, List.set_cons_succ]
                        refine wpAnyIn_take (i := 12) (oi := ?oin132) (v := undef) rfl ?hin132 ?hsn132 ?hfn132 ?hrn132 ?hQn132 ⟨Or.inr ⟨by kernel_rfl, rfl⟩, ?habn132⟩ ?hn132
                        case hin132 => (simp only [List.getElem?_toArray, List.getElem?_cons_succ, List.getElem?_cons_zero]; rfl)
                        case hsn132 => kernel_rfl
                        case hfn132 => kernel_rfl
                        case hrn132 => kernel_rfl
                        case habn132 => exact fun _ => rfl
                        case hQn132 => exact fun _ _ _ h => h
                        try simp only [Act.put, List.setIfInBounds_toArray, List.set_cons_zero, List.set_cons_succ]
                        refine wpAnyIn_ready (rs := [13]) (by kernel_rfl) (by simp) ?_
                        refine AllReadyIn.cons (o := ?zor133_13) ?zhr133_13 ?zkr133_13 AllReadyIn.nil
                        case zhr133_13 => (simp only [List.getElem?_toArray, List.getElem?_cons_succ, List.getElem?_cons_zero]; rfl)
                        · intro K hK
                          rw [if_neg (by rw [show Region.wanted _ _ = false by kernel_rfl]; exact Bool.false_ne_true)]
                          refine ⟨fun _ _ => trivial, hK _ _ ?_⟩
                          try simp only [Act.put, List.setIfInBounds_toArray, List.set_cons_zero, List.set_cons_succ]
                          clear hK
                          clear K
                          refine wpAnyIn_take (i := 14) (oi := ?oin134) (v := undef) rfl ?hin134 ?hsn134 ?hfn134 ?hrn134 ?hQn134 ⟨Or.inr ⟨by kernel_rfl, rfl⟩, ?habn134⟩ ?hn134
                          case hin134 => (simp only [List.getElem?_toArray, List.getElem?_cons_succ, List.getElem?_cons_zero]; rfl)
                          case hsn134 => kernel_rfl
                          case hfn134 => kernel_rfl
                          case hrn134 => kernel_rfl
                          case habn134 => exact fun _ => rfl
                          case hQn134 => exact fun _ _ _ h => h
                          try simp only [Act.put, List.setIfInBounds_toArray, List.set_cons_zero, List.set_cons_succ]
                          refine wpAnyIn_take (i := 15) (oi := ?oin135) (v := ?vn135) rfl ?hin135 ?hsn135 ?hfn135 ?hrn135 ?hQn135 ⟨Or.inl ⟨by kernel_rfl, ?hyn135⟩, ?habn135⟩ ?hn135
                          case hin135 => (simp only [List.getElem?_toArray, List.getElem?_cons_succ, List.getElem?_cons_zero]; rfl)
                          case hsn135 => kernel_rfl
                          case hfn135 => kernel_rfl
                          case hrn135 => kernel_rfl
                          case hyn135 => (intro w'; go_simp; try with_reducible rfl)
                          case habn135 => exact fun _ => rfl
                          case hQn135 => exact fun _ _ _ h => h
                          try simp only [Act.put, List.setIfInBounds_toArray, List.set_cons_zero, List.set_cons_succ]
                          refine wpAnyIn_done (by kernel_rfl) ?_ _
                          have HB1 := Lib.hid (BA.out.trans (q128.bel.mono BA.out.size))
                          have HJ1 := Lib.hid (HJQ.out q128)
                          have HC1 := Lib.hid (HC2.out.below HB1.out)
                          have HD1 := Lib.hid (HC3.out.below HB1.out)
                          have HP1 := Lib.hid (owns_below HP.out HB1.out)
                          have HS1 := Lib.hid (Nat.le_trans HSZ.out HB1.out.size)
                          go_wp2_with fail
                          go_roundw
                          case rel => exact ⟨k + 1, by omega, by go_num, by rw [HTN.out]; exact HJ1, HC1, HD1, HP1, HS1⟩
                          case measure => simp [intOf]; omega
        | true =>
          have HTY : Hid (thrTo l ⟨mb, mg, ma⟩ f t (k + 1) = thrTo l ⟨mb, mg, ma⟩ f t k ++ [x]) := Lib.hid (by rw [HTS.out]; rfl)
          have HPX : Hid (thrTo l ⟨mb, mg, ma⟩ f t k ++ [x] <+: thrL l ⟨mb, mg, ma⟩ f t) := Lib.hid (by rw [← HTY.out]; exact HPR.out)
          refine (wpIn_wide (n := nn + 1)).1 (wpIn_region_any (by kernel_rfl) ?_)
          change wpAnyIn _ _ _ _ _ _ _ _ _ (World.drew wa)
          obtain ⟨q0, hq0⟩ := hdr
          rw [hq0]
          clear hq0
          refine wpAnyIn_ready (rs := [0, 2]) (by kernel_rfl) (by simp) ?_
          refine AllReadyIn.cons (o := ?zor136_0) ?zhr136_0 ?zkr136_0 (AllReadyIn.cons (o := ?zor136_2) ?zhr136_2 ?zkr136_2 AllReadyIn.nil)
          case zhr136_0 => (simp only [List.getElem?_toArray, List.getElem?_cons_succ, List.getElem?_cons_zero]; rfl)
          case zhr136_2 => (simp only [List.getElem?_toArray, List.getElem?_cons_succ, List.getElem?_cons_zero]; rfl)
          · intro K hK
            rw [if_pos (by kernel_rfl)]
            refine wpIn_of_wp ?_
            go_simp
            refine hK _ _ ?_
            try simp only [Act.put, List.setIfInBounds_toArray, List.set_cons_zero, List.set_cons_succ]
            clear hK
            clear K
            refine wpAnyIn_ready (rs := [1, 2]) (by kernel_rfl) (by simp) ?_
            refine AllReadyIn.cons (o := ?zor137_1) ?zhr137_1 ?zkr137_1 (AllReadyIn.cons (o := ?zor137_2) ?zhr137_2 ?zkr137_2 AllReadyIn.nil)
            case zhr137_1 => (simp only [List.getElem?_toArray, List.getElem?_cons_succ, List.getElem?_cons_zero]; rfl)
            case zhr137_2 => (simp only [List.getElem?_toArray, List.getElem?_cons_succ, List.getElem?_cons_zero]; rfl)
            · intro K hK
              rw [if_pos (by kernel_rfl)]
              refine wpIn_of_wp ?_
              go_simp
              refine (Calls.bw_of (HOF.out _)).mono ?_
              rintro e _ ⟨rfl, q138, rfl⟩
              refine hK _ _ ?_
              try simp only [Act.put, List.setIfInBounds_toArray, List.set_cons_zero, List.set_cons_succ]
              clear hK
              clear K
              refine wpAnyIn_ready (rs := [2]) (by kernel_rfl) (by simp) ?_
              refine AllReadyIn.cons (o := ?zor139_2) ?zhr139_2 ?zkr139_2 AllReadyIn.nil
              case zhr139_2 => (simp only [List.getElem?_toArray, List.getElem?_cons_succ, List.getElem?_cons_zero]; rfl)
              · intro K hK
                rw [if_pos (by kernel_rfl)]
                refine wpIn_of_wp ?_
                go_simp
                refine hK _ _ ?_
                try simp only [Act.put, List.setIfInBounds_toArray, List.set_cons_zero, List.set_cons_succ]
                clear hK
                clear K
                refine wpAnyIn_ready (rs := [3]) (by kernel_rfl) (by simp) ?_
                refine AllReadyIn.cons (o := ?zor140_3) ?zhr140_3 ?zkr140_3 AllReadyIn.nil
                case zhr140_3 => (simp only [List.getElem?_toArray, List.getElem?_cons_succ, List.getElem?_cons_zero]; rfl)
                · intro K hK
                  rw [if_pos (by kernel_rfl)]
                  refine wpIn_of_wp ?_
                  go_simp
                  refine (Calls.bw_of (HBH.out _)).mono ?_
                  rintro e _ ⟨rfl, q141, rfl⟩
                  refine hK _ _ ?_
                  try simp only [Act.put, List.setIfInBounds_toArray, List.set_cons_zero, List.set_cons_succ]
                  clear hK
                  clear K
                  refine wpAnyIn_take (i := 4) (oi := ?oin142) (v := ?vn142) rfl ?hin142 ?hsn142 ?hfn142 ?hrn142 ?hQn142 ⟨Or.inl ⟨by kernel_rfl, ?hyn142⟩, ?habn142⟩ ?hn142
                  case hin142 => (simp only [List.getElem?_toArray, List.getElem?_cons_succ, List.getElem?_cons_zero]; rfl)
                  case hsn142 => kernel_rfl
                  case hfn142 => kernel_rfl
                  case hrn142 => kernel_rfl
                  case hyn142 => (intro w'; go_simp; try with_reducible rfl)
                  case habn142 => exact fun _ => rfl
                  case hQn142 => exact fun _ _ _ h => h
                  try simp only [Act.put, List.setIfInBounds_toArray, List.set_cons_zero, List.set_cons_succ]
                  refine wpAnyIn_take (i := 6) (oi := ?oin143) (v := ?vn143) rfl ?hin143 ?hsn143 ?hfn143 ?hrn143 ?hQn143 ⟨Or.inl ⟨by kernel_rfl, ?hyn143⟩, ?habn143⟩ ?hn143
                  case hin143 => (simp only [List.getElem?_toArray, List.getElem?_cons_succ, List.getElem?_cons_zero]; rfl)
                  case hsn143 => kernel_rfl
                  case hfn143 => kernel_rfl
                  case hrn143 => kernel_rfl
                  case hyn143 => (intro w'; go_simp; try with_reducible rfl)
                  case habn143 => exact fun _ => rfl
                  case hQn143 => exact fun _ _ _ h => h
                  try simp only [Act.put, List.setIfInBounds_toArray, List.set_cons_zero, List.set_cons_succ]
                  refine wpAnyIn_ready (rs := [5, 7]) (by kernel_rfl) (by simp) ?_
                  refine AllReadyIn.cons (o := ?zor144_5) ?zhr144_5 ?zkr144_5 (AllReadyIn.cons (o := ?zor144_7) ?zhr144_7 ?zkr144_7 AllReadyIn.nil)
                  case zhr144_5 => (simp only [List.getElem?_toArray, List.getElem?_cons_succ, List.getElem?_cons_zero]; rfl)
                  case zhr144_7 => (simp only [List.getElem?_toArray, List.getElem?_cons_succ, List.getElem?_cons_zero]; rfl)
                  · intro K hK
                    rw [if_pos (by kernel_rfl)]
                    refine wpIn_of_wp ?_
                    go_simp
                    refine hK _ _ ?_
                    try simp only [Act.put, List.setIfInBounds_toArray, List.set_cons_zero, List.set_cons_succ]
                    clear hK
                    clear K
                    refine wpAnyIn_ready (rs := [7]) (by kernel_rfl) (by simp) ?_
                    refine AllReadyIn.cons (o := ?zor145_7) ?zhr145_7 ?zkr145_7 AllReadyIn.nil
                    case zhr145_7 => (simp only [List.getElem?_toArray, List.getElem?_cons_succ, List.getElem?_cons_zero]; rfl)
                    · intro K hK
                      rw [if_pos (by kernel_rfl)]
                      refine wpIn_of_wp ?_
                      go_simp
                      refine hK _ _ ?_
                      try simp only [Act.put, List.setIfInBounds_toArray, List.set_cons_zero, List.set_cons_succ]
                      clear hK
                      clear K
                      refine wpAnyIn_ready (rs := [8]) (by kernel_rfl) (by simp) ?_
                      refine AllReadyIn.cons (o := ?zor146_8) ?zhr146_8 ?zkr146_8 AllReadyIn.nil
                      case zhr146_8 => (simp only [List.getElem?_toArray, List.getElem?_cons_succ, List.getElem?_cons_zero]; rfl)
                      · intro K hK
                        rw [if_pos (by kernel_rfl)]
                        refine wpIn_of_wp ?_
                        go_simp
                        refine (Calls.bw_of (HHS.out _)).mono ?_
                        rintro e _ ⟨rfl, q147, rfl⟩
                        refine hK _ _ ?_
                        try simp only [Act.put, List.setIfInBounds_toArray, List.set_cons_zero, List.set_cons_succ]
                        clear hK
                        clear K
                        refine wpAnyIn_take (i := 9) (oi := ?oin148) (v := ?vn148) rfl ?hin148 ?hsn148 ?hfn148 ?hrn148 ?hQn148 ⟨Or.inl ⟨by kernel_rfl, ?hyn148⟩, ?habn148⟩ ?hn148
                        case hin148 => (simp only [List.getElem?_toArray, List.getElem?_cons_succ, List.getElem?_cons_zero]; rfl)
                        case hsn148 => kernel_rfl
                        case hfn148 => kernel_rfl
                        case hrn148 => kernel_rfl
                        case hyn148 => (intro w'; go_simp; try with_reducible rfl)
                        case habn148 => exact fun _ => rfl
                        case hQn148 => exact fun _ _ _ h => h
                        try simp only [Act.put, List.setIfInBounds_toArray, List.set_cons_zero, List.set_cons_succ]
                        refine wpAnyIn_take (i := 10) (oi := ?oin149) (v := ?vn149) rfl ?hin149 ?hsn149 ?hfn149 ?hrn149 ?hQn149 ⟨Or.inl ⟨by kernel_rfl, ?hyn149⟩, ?habn149⟩ ?hn149
                        case hin149 => (simp only [List.getElem?_toArray, List.getElem?_cons_succ, List.getElem?_cons_zero]; rfl)
                        case hsn149 => kernel_rfl
                        case hfn149 => kernel_rfl
                        case hrn149 => kernel_rfl
                        case hyn149 => (intro w'; go_simp; try with_reducible rfl)
                        case habn149 => exact fun _ => rfl
                        case hQn149 => exact fun _ _ _ h => h
                        try simp only [Act.put, List.setIfInBounds_toArray, List.set_cons_zero, List.set_cons_succ]
                        refine wpAnyIn_take (i := 11) (oi := ?oin150) (v := ?vn150) rfl ?hin150 ?hsn150 ?hfn150 ?hrn150 ?hQn150 ⟨Or.inl ⟨by kernel_rfl, ?hyn150⟩, ?habn150⟩ ?hn150
                        case hin150 => (simp only [List.getElem?_toArray, List.getElem?_cons_succ, List.getElem?_cons_zero]; rfl)
                        case hsn150 => kernel_rfl
                        case hfn150 => kernel_rfl
                        case hrn150 => kernel_rfl
                        case hyn150 => (intro w'; go_simp; try with_reducible rfl)
                        case habn150 => exact fun _ => rfl
                        case hQn150 => exact fun _ _ _ h => h
                        try simp only [Act.put, List.setIfInBounds_toArray, List.set_cons_zero, List.set_cons_succ]
                        refine wpAnyIn_ready (rs := [12]) (by kernel_rfl) (by simp) ?_
                        refine AllReadyIn.cons (o := ?zor151_12) ?zhr151_12 ?zkr151_12 AllReadyIn.nil
                        case zhr151_12 => (simp only [List.getElem?_toArray, List.getElem?_cons_succ, List.getElem?_cons_zero]; rfl)
                        · intro K hK
                          rw [if_pos (by kernel_rfl)]
                          refine wpIn_of_wp ?_
                          go_simp
                          refine hK _ _ ?_
                          try simp only [Act.put, List.setIfInBounds_toArray, List.set_cons_zero, List.set_cons_succ]
                          clear hK
                          clear K
                          refine wpAnyIn_ready (rs := [13]) (by kernel_rfl) (by simp) ?_
                          refine AllReadyIn.cons (o := ?zor152_13) ?zhr152_13 ?zkr152_13 AllReadyIn.nil
                          case zhr152_13 => (simp only [List.getElem?_toArray, List.getElem?_cons_succ, List.getElem?_cons_zero]; rfl)
                          · intro K hK
                            rw [if_pos (by kernel_rfl)]
                            obtain ⟨fn, tmps, assign, body, hy, hR⟩ := HY.out q147
                            go_simp
                            refine hR.mono ?_
                            rintro e W3 (⟨rfl, hJ3, hk3⟩ | ⟨rfl, hJx3⟩)
                            · refine hK _ _ ?_
                              try simp only [Act.put, List.setIfInBounds_toArray, List.set_cons_zero, List.set_cons_succ]
                              clear hK
                              clear K
                              refine wpAnyIn_take (i := 14) (oi := ?oin153) (v := ?vn153) rfl ?hin153 ?hsn153 ?hfn153 ?hrn153 ?hQn153 ⟨Or.inl ⟨by kernel_rfl, ?hyn153⟩, ?habn153⟩ ?hn153
                              case hin153 => (simp only [List.getElem?_toArray, List.getElem?_cons_succ, List.getElem?_cons_zero]; rfl)
                              case hsn153 => kernel_rfl
                              case hfn153 => kernel_rfl
                              case hrn153 => kernel_rfl
                              case hyn153 => (intro w'; go_simp; try with_reducible rfl)
                              case habn153 => exact fun _ => rfl
                              case hQn153 => exact fun _ _ _ h => h
                              try simp only [Act.put, List.setIfInBounds_toArray, List.set_cons_zero, List.set_cons_succ]
                              refine wpAnyIn_take (i := 15) (oi := ?oin154) (v := ?vn154) rfl ?hin154 ?hsn154 ?hfn154 ?hrn154 ?hQn154 ⟨Or.inl ⟨by kernel_rfl, ?hyn154⟩, ?habn154⟩ ?hn154
                              case hin154 => (simp only [List.getElem?_toArray, List.getElem?_cons_succ, List.getElem?_cons_zero]; rfl)
                              case hsn154 => kernel_rfl
                              case hfn154 => kernel_rfl
                              case hrn154 => kernel_rfl
                              case hyn154 => (intro w'; go_simp; try with_reducible rfl)
                              case habn154 => exact fun _ => rfl
                              case hQn154 => exact fun _ _ _ h => h
                              try simp only [Act.put, List.setIfInBounds_toArray, List.set_cons_zero, List.set_cons_succ]
                              refine wpAnyIn_done (by kernel_rfl) ?_ _
                              have HB1 := Lib.hid (BA.out.trans (q147.bel.mono BA.out.size))
                              have HC1 := Lib.hid ((HC2.out.below HB1.out).kp hk3 HO2.out)
                              have HD1 := Lib.hid ((HC3.out.below HB1.out).kp hk3 HO3.out)
                              have HP1 := Lib.hid (row_kp (owns_below HP.out HB1.out) hk3 HOV.out)
                              have HS1 := Lib.hid (Nat.le_trans (Nat.le_trans HSZ.out HB1.out.size) hk3.size)
                              have HJ1 := Lib.hid hJ3
                              clear hJ3 hk3
                              go_wp2_with fail
                              go_roundw
                              case rel => exact ⟨k + 1, by omega, by go_num, by rw [HTY.out]; exact HJ1, HC1, HD1, HP1, HS1⟩
                              case measure => simp [intOf]; omega
                            · refine hK _ _ ?_
                              try simp only [Act.put, List.setIfInBounds_toArray, List.set_cons_zero, List.set_cons_succ]
                              clear hK
                              clear K
                              refine wpAnyIn_take (i := 14) (oi := ?oin155) (v := ?vn155) rfl ?hin155 ?hsn155 ?hfn155 ?hrn155 ?hQn155 ⟨Or.inl ⟨by kernel_rfl, ?hyn155⟩, ?habn155⟩ ?hn155
                              case hin155 => (simp only [List.getElem?_toArray, List.getElem?_cons_succ, List.getElem?_cons_zero]; rfl)
                              case hsn155 => kernel_rfl
                              case hfn155 => kernel_rfl
                              case hrn155 => kernel_rfl
                              case hyn155 => (intro w'; go_simp; try with_reducible rfl)
                              case habn155 => exact fun _ => rfl
                              case hQn155 => exact fun _ _ _ h => h
                              try simp only [Act.put, List.setIfInBounds_toArray, List.set_cons_zero, List.set_cons_succ]
                              refine wpAnyIn_take (i := 15) (oi := ?oin156) (v := ?vn156) rfl ?hin156 ?hsn156 ?hfn156 ?hrn156 ?hQn156 ⟨Or.inl ⟨by kernel_rfl, ?hyn156⟩, ?habn156⟩ ?hn156
                              case hin156 => (simp only [List.getElem?_toArray, List.getElem?_cons_succ, List.getElem?_cons_zero]; rfl)
                              case hsn156 => kernel_rfl
                              case hfn156 => kernel_rfl
                              case hrn156 => kernel_rfl
                              case hyn156 => (intro w'; go_simp; try with_reducible rfl)
                              case habn156 => exact fun _ => rfl
                              case hQn156 => exact fun _ _ _ h => h
                              try simp only [Act.put, List.setIfInBounds_toArray, List.set_cons_zero, List.set_cons_succ]
                              refine wpAnyIn_done (by kernel_rfl) ?_ _
                              have HJ1 := Lib.hid hJx3
                              clear hJx3
                              go_wp2_with fail
                              refine bodyPost_ret (results_none rfl _ _ _) rfl ?_
                              exact ⟨⟨_, rfl⟩, .inr ⟨_, HPX.out, HJ1.out⟩⟩
                  · intro K hK
                    rw [if_pos (by kernel_rfl)]
                    refine wpIn_of_wp ?_
                    go_simp
                    refine hK _ _ ?_
                    try simp only [Act.put, List.setIfInBounds_toArray, List.set_cons_zero, List.set_cons_succ]
                    clear hK
                    clear K
                    refine wpAnyIn_ready (rs := [5]) (by kernel_rfl) (by simp) ?_
                    refine AllReadyIn.cons (o := ?zor157_5) ?zhr157_5 ?zkr157_5 AllReadyIn.nil
                    case zhr157_5 => (simp only [List.getElem?_toArray, List.getElem?_cons_succ, List.getElem?_cons_zero]; rfl)
                    · intro K hK
                      rw [if_pos (by kernel_rfl)]
                      refine wpIn_of_wp ?_
                      go_simp
                      refine hK _ _ ?_
                      try simp only [Act.put, List.setIfInBounds_toArray, List.set_cons_zero, List.set_cons_succ]
                      clear hK
                      clear K
                      refine wpAnyIn_ready (rs := [8]) (by kernel_rfl) (by simp) ?_
                      refine AllReadyIn.cons (o := ?zor158_8) ?zhr158_8 ?zkr158_8 AllReadyIn.nil
                      case zhr158_8 => (simp only [List.getElem?_toArray, List.getElem?_cons_succ, List.getElem?_cons_zero]; rfl)
                      · intro K hK
                        rw [if_pos (by kernel_rfl)]
                        refine wpIn_of_wp ?_
                        go_simp
                        refine (Calls.bw_of (HHS.out _)).mono ?_
                        rintro e _ ⟨rfl, q159, rfl⟩
                        refine hK _ _ ?_
                        try simp only [Act.put, List.setIfInBounds_toArray, List.set_cons_zero, List.set_cons_succ]
                        clear hK
                        clear K
                        refine wpAnyIn_take (i := 9) (oi := ?oin160) (v := ?vn160) rfl ?hin160 ?hsn160 ?hfn160 ?hrn160 ?hQn160 ⟨Or.inl ⟨by kernel_rfl, ?hyn160⟩, ?habn160⟩ ?hn160
                        case hin160 => (simp only [List.getElem?_toArray, List.getElem?_cons_succ, List.getElem?_cons_zero]; rfl)
                        case hsn160 => kernel_rfl
                        case hfn160 => kernel_rfl
                        case hrn160 => kernel_rfl
                        case hyn160 => (intro w'; go_simp; try with_reducible rfl)
                        case habn160 => exact fun _ => rfl
                        case hQn160 => exact fun _ _ _ h => h
                        try simp only [Act.put, List.setIfInBounds_toArray, List.set_cons_zero, List.set_cons_succ]
                        refine wpAnyIn_take (i := 10) (oi := ?oin161) (v := ?vn161) rfl ?hin161 ?hsn161 ?hfn161 ?hrn161 ?hQn161 ⟨Or.inl ⟨by kernel_rfl, ?hyn161⟩, ?habn161⟩ ?hn161
                        case hin161 => (simp only [List.getElem?_toArray, List.getElem?_cons_succ, List.getElem?_cons_zero]; rfl)
                        case hsn161 => kernel_rfl
                        case hfn161 => kernel_rfl
                        case hrn161 => kernel_rfl
                        case hyn161 => (intro w'; go_simp; try with_reducible rfl)
                        case habn161 => exact fun _ => rfl
                        case hQn161 => exact fun _ _ _ h => h
                        try simp only [Act.put, List.setIfInBounds_toArray, List.set_cons_zero, List.set_cons_succ]
                        refine wpAnyIn_take (i := 11) (oi := ?oin162) (v := ?vn162) rfl ?hin162 ?hsn162 ?hfn162 ?hrn162 ?hQn162 ⟨Or.inl ⟨by kernel_rfl, ?hyn162⟩, ?habn162⟩ ?hn162
                        case hin162 => (simp only [List.getElem?_toArray, List.getElem?_cons_succ, List.getElem?_cons_zero]; rfl)
                        case hsn162 => kernel_rfl
                        case hfn162 => kernel_rfl
                        case hrn162 => kernel_rfl
                        case hyn162 => (intro w'; go_simp; try with_reducible rfl)
                        case habn162 => exact fun _ => rfl
                        case hQn162 => exact fun _ _ _ h => h
                        try simp only [Act.put, List.setIfInBounds_toArray, List.set_cons_zero, List.set_cons_succ]
                        refine wpAnyIn_ready (rs := [12]) (by kernel_rfl) (by simp) ?_
                        refine AllReadyIn.cons (o := ?zor163_12) ?zhr163_12 ?zkr163_12 AllReadyIn.nil
                        case zhr163_12 => (simp only [List.getElem?_toArray, List.getElem?_cons_succ, List.getElem?_cons_zero]; rfl)
                        · intro K hK
                          rw [if_pos (by kernel_rfl)]
                          refine wpIn_of_wp ?_
                          go_simp
                          refine hK _ _ ?_
                          try simp only [Act.put, List.setIfInBounds_toArray, List.set_cons_zero, List.set_cons_succ]
                          clear hK
                          clear K
                          refine wpAnyIn_ready (rs := [13]) (by kernel_rfl) (by simp) ?_
                          refine AllReadyIn.cons (o := ?zor164_13) ?zhr164_13 ?zkr164_13 AllReadyIn.nil
                          case zhr164_13 => (simp only [List.getElem?_toArray, List.getElem?_cons_succ, List.getElem?_cons_zero]; rfl)
                          · intro K hK
                            rw [if_pos (by kernel_rfl)]
                            obtain ⟨fn, tmps, assign, body, hy, hR⟩ := HY.out q159
                            go_simp
                            refine hR.mono ?_
                            rintro e W3 (⟨rfl, hJ3, hk3⟩ | ⟨rfl, hJx3⟩)
                            · refine hK _ _ ?_
                              try simp only [Act.put, List.setIfInBounds_toArray, List.set_cons_zero, List.set_cons_succ]
                              clear hK
                              clear K
                              refine wpAnyIn_take (i := 14) (oi := ?oin165) (v := ?vn165) rfl ?hin165 ?hsn165 ?hfn165 ?hrn165 ?hQn165 ⟨Or.inl ⟨by kernel_rfl, ?hyn165⟩, ?habn165⟩ ?hn165
                              case hin165 => (simp only [List.getElem?_toArray, List.getElem?_cons_succ, List.getElem?_cons_zero]; rfl)
                              case hsn165 => kernel_rfl
                              case hfn165 => kernel_rfl
                              case hrn165 => kernel_rfl
                              case hyn165 => (intro w'; go_simp; try with_reducible rfl)
                              case habn165 => exact fun _ => rfl
                              case hQn165 => exact fun _ _ _ h => h
                              try simp only [Act.put, List.setIfInBounds_toArray, List.set_cons_zero, List.set_cons_succ]
                              refine wpAnyIn_take (i := 15) (oi := ?oin166) (v := ?vn166) rfl ?hin166 ?hsn166 ?hfn166 ?hrn166 ?hQn166 ⟨Or.inl ⟨by kernel_rfl, ?hyn166⟩, ?habn166⟩ ?hn166
                              case hin166 => (simp only [List.getElem?_toArray, List.getElem?_cons_succ, List.getElem?_cons_zero]; rfl)
                              case hsn166 => kernel_rfl
                              case hfn166 => kernel_rfl
                              case hrn166 => kernel_rfl
                              case hyn166 => (intro w'; go_simp; try with_reducible rfl)
                              case habn166 => exact fun _ => rfl
                              case hQn166 => exact fun _ _ _ h => h
                              try simp only [Act.put, List.setIfInBounds_toArray, List.set_cons_zero, List.set_cons_succ]
                              refine wpAnyIn_done (by kernel_rfl) ?_ _
                              have HB1 := Lib.hid (BA.out.trans (q159.bel.mono BA.out.size))
                              have HC1 := Lib.hid ((HC2.out.below HB1.out).kp hk3 HO2.out)
                              have HD1 := Lib.hid ((HC3.out.below HB1.out).kp hk3 HO3.out)
                              have HP1 := Lib.hid (row_kp (owns_below HP.out HB1.out) hk3 HOV.out)
                              have HS1 := Lib.hid (Nat.le_trans (Nat.le_trans HSZ.out HB1.out.size) hk3.size)
                              have HJ1 := Lib.hid hJ3
                              clear hJ3 hk3
                              go_wp2_with fail
                              go_roundw
                              case rel => exact ⟨k + 1, by omega, by go_num, by rw [HTY.out]; exact HJ1, HC1, HD1, HP1, HS1⟩
                              case measure => simp [intOf]; omega
                            · refine hK _ _ ?_
                              try simp only [Act.put, List.setIfInBounds_toArray, List.set_cons_zero, List.set_cons_succ]
                              clear hK
                              clear K
                              refine wpAnyIn_take (i := 14) (oi := ?oin167) (v := ?vn167) rfl ?hin167 ?hsn167 ?hfn167 ?hrn167 ?hQn167 ⟨Or.inl ⟨by kernel_rfl, ?hyn167⟩, ?habn167⟩ ?hn167
                              case hin167 => (simp only [List.getElem?_toArray, List.getElem?_cons_succ, List.getElem?_cons_zero]; rfl)
                              case hsn167 => kernel_rfl
                              case hfn167 => kernel_rfl
                              case hrn167 => kernel_rfl
                              case hyn167 => (intro w'; go_simp; try with_reducible rfl)
                              case habn167 => exact fun _ => rfl
                              case hQn167 => exact fun _ _ _ h => h
                              try simp only [Act.put, List.setIfInBounds_toArray, List.set_cons_zero, List.set_cons_succ]
                              refine wpAnyIn_take (i := 15) (oi := ?oin168) (v := ?vn168) rfl ?hin168 ?hsn168 ?hfn168 ?hrn168 ?hQn168 ⟨Or.inl ⟨by kernel_rfl, ?hyn168⟩, ?habn168⟩ ?hn168
                              case hin168 => (simp only [List.getElem?_toArray, List.getElem?_cons_succ, List.getElem?_cons_zero]; rfl)
                              case hsn168 => kernel_rfl
                              case hfn168 => kernel_rfl
                              case hrn168 => kernel_rfl
                              case hyn168 => (intro w'; go_simp; try with_reducible rfl)
                              case habn168 => exact fun _ => rfl
                              case hQn168 => exact fun _ _ _ h => h
                              try simp only [Act.put, List.setIfInBounds_toArray, List.set_cons_zero, List.set_cons_succ]
                              refine wpAnyIn_done (by kernel_rfl) ?_ _
                              have HJ1 := Lib.hid hJx3
                              clear hJx3
                              go_wp2_with fail
                              refine bodyPost_ret (results_none rfl _ _ _) rfl ?_
                              exact ⟨⟨_, rfl⟩, .inr ⟨_, HPX.out, HJ1.out⟩⟩
            · intro K hK
              rw [if_pos (by kernel_rfl)]
              refine wpIn_of_wp ?_
              go_simp
              refine hK _ _ ?_
              try simp only [Act.put, List.setIfInBounds_toArray, List.set_cons_zero, List.set_cons_succ]
              clear hK
              clear K
              refine wpAnyIn_ready (rs := [1]) (by kernel_rfl) (by simp) ?_
              refine AllReadyIn.cons (o := ?zor169_1) ?zhr169_1 ?zkr169_1 AllReadyIn.nil
              case zhr169_1 => (simp only [List.getElem?_toArray, List.getElem?_cons_succ, List.getElem?_cons_zero]; rfl)
              · intro K hK
                rw [if_pos (by kernel_rfl)]
                refine wpIn_of_wp ?_
                go_simp
                refine (Calls.bw_of (HOF.out _)).mono ?_
                rintro e _ ⟨rfl, q170, rfl⟩
                refine hK _ _ ?_
                try simp only [Act.put, List.setIfInBounds_toArray, List.set_cons_zero, List.set_cons_succ]
                clear hK
                clear K
                refine wpAnyIn_ready (rs := [3]) (by kernel_rfl) (by simp) ?_
                refine AllReadyIn.cons (o := ?zor171_3) ?zhr171_3 ?zkr171_3 AllReadyIn.nil
                case zhr171_3 => (simp only [List.getElem?_toArray, List.getElem?_cons_succ, List.getElem?_cons_zero]; rfl)
                · intro K hK
                  rw [if_pos (by kernel_rfl)]
                  refine wpIn_of_wp ?_
                  go_simp
                  refine (Calls.bw_of (HBH.out _)).mono ?_
                  rintro e _ ⟨rfl, q172, rfl⟩
                  refine hK _ _ ?_
                  try simp only [Act.put, List.setIfInBounds_toArray, List.set_cons_zero, List.set_cons_succ]
                  clear hK
                  clear K
                  refine wpAnyIn_take (i := 4) (oi := ?oin173) (v := ?vn173) rfl ?hin173 ?hsn173 ?hfn173 ?hrn173 ?hQn173 ⟨Or.inl ⟨by kernel_rfl, ?hyn173⟩, ?habn173⟩ ?hn173
                  case hin173 => (simp only [List.getElem?_toArray, List.getElem?_cons_succ, List.getElem?_cons_zero]; rfl)
                  case hsn173 => kernel_rfl
                  case hfn173 => kernel_rfl
                  case hrn173 => kernel_rfl
                  case hyn173 => (intro w'; go_simp; try with_reducible rfl)
                  case habn173 => exact fun _ => rfl
                  case hQn173 => exact fun _ _ _ h => h
                  try simp only [Act.put, List.setIfInBounds_toArray, List.set_cons_zero, List.set_cons_succ]
                  refine wpAnyIn_take (i := 6) (oi := ?oin174) (v := ?vn174) rfl ?hin174 ?hsn174 ?hfn174 ?hrn174 ?hQn174 ⟨Or.inl ⟨by kernel_rfl, ?hyn174⟩, ?habn174⟩ ?hn174
                  case hin174 => (simp only [List.getElem?_toArray, List.getElem?_cons_succ, List.getElem?_cons_zero]; rfl)
                  case hsn174 => kernel_rfl
                  case hfn174 => kernel_rfl
                  case hrn174 => kernel_rfl
                  case hyn174 => (intro w'; go_simp; try with_reducible rfl)
                  case habn174 => exact fun _ => rfl
                  case hQn174 => exact fun _ _ _ h => h
                  try simp only [Act.put, List.setIfInBounds_toArray, List.set_cons_zero, List.set_cons_succ]
                  refine wpAnyIn_ready (rs := [5, 7]) (by kernel_rfl) (by simp) ?_
                  refine AllReadyIn.cons (o := ?zor175_5) ?zhr175_5 ?zkr175_5 (AllReadyIn.cons (o := ?zor175_7) ?zhr175_7 ?zkr175_7 AllReadyIn.nil)
                  case zhr175_5 => (simp only [List.getElem?_toArray, List.getElem?_cons_succ, List.getElem?_cons_zero]; rfl)
                  case zhr175_7 => (simp only [List.getElem?_toArray, List.getElem?_cons_succ, List.getElem?_cons_zero]; rfl)
                  · intro K hK
                    rw [if_pos (by kernel_rfl)]
                    refine wpIn_of_wp ?_
                    go_simp
                    refine hK _ _ ?_
                    try simp only [Act.put, List.setIfInBounds_toArray, List.set_cons_zero, List.set_cons_succ]
                    clear hK
                    clear K
                    refine wpAnyIn_ready (rs := [7]) (by kernel_rfl) (by simp) ?_
                    refine AllReadyIn.cons (o := ?zor176_7) ?zhr176_7 ?zkr176_7 AllReadyIn.nil
                    case zhr176_7 => (simp only [List.getElem?_toArray, List.getElem?_cons_succ, List.getElem?_cons_zero]; rfl)
                    · intro K hK
                      rw [if_pos (by kernel_rfl)]
                      refine wpIn_of_wp ?_
                      go_simp
                      refine hK _ _ ?_
                      try simp only [Act.put, List.setIfInBounds_toArray, List.set_cons_zero, List.set_cons_succ]
                      clear hK
                      clear K
                      refine wpAnyIn_ready (rs := [8]) (by kernel_rfl) (by simp) ?_
                      refine AllReadyIn.cons (o := ?zor177_8) ?zhr177_8 ?zkr177_8 AllReadyIn.nil
                      case zhr177_8 => (simp only [List.getElem?_toArray, List.getElem?_cons_succ, List.getElem?_cons_zero]; rfl)
                      · intro K hK
                        rw [if_pos (by kernel_rfl)]
                        refine wpIn_of_wp ?_
                        go_simp
                        refine (Calls.bw_of (HHS.out _)).mono ?_
                        rintro e _ ⟨rfl, q178, rfl⟩
                        refine hK _ _ ?_
                        try simp only [Act.put, List.setIfInBounds_toArray, List.set_cons_zero, List.set_cons_succ]
                        clear hK
                        clear K
                        refine wpAnyIn_take (i := 9) (oi := ?oin179) (v := ?vn179) rfl ?hin179 ?hsn179 ?hfn179 ?hrn179 ?hQn179 ⟨Or.inl ⟨by kernel_rfl, ?hyn179⟩, ?habn179⟩ ?hn179
                        case hin179 => (simp only [List.getElem?_toArray, List.getElem?_cons_succ, List.getElem?_cons_zero]; rfl)
                        case hsn179 => kernel_rfl
                        case hfn179 => kernel_rfl
                        case hrn179 => kernel_rfl
                        case hyn179 => (intro w'; go_simp; try with_reducible rfl)
                        case habn179 => exact fun _ => rfl
                        case hQn179 => exact fun _ _ _ h => h
                        try simp only [Act.put, List.setIfInBounds_toArray, List.set_cons_zero, List.set_cons_succ]
                        refine wpAnyIn_take (i := 10) (oi := ?oin180) (v := ?vn180) rfl ?hin180 ?hsn180 ?hfn180 ?hrn180 ?hQn180 ⟨Or.inl ⟨by kernel_rfl, ?hyn180⟩, ?habn180⟩ ?hn180
                        case hin180 => (simp only [List.getElem?_toArray, List.getElem?_cons_succ, List.getElem?_cons_zero]; rfl)
                        case hsn180 => kernel_rfl
                        case hfn180 => kernel_rfl
                        case hrn180 => kernel_rfl
                        case hyn180 => (intro w'; go_simp; try with_reducible rfl)
                        case habn180 => exact fun _ => rfl
                        case hQn180 => exact fun _ _ _ h => h
                        try simp only [Act.put, List.setIfInBounds_toArray, List.set_cons_zero, List.set_cons_succ]
                        refine wpAnyIn_take (i := 11) (oi := ?oin181) (v := ?vn181) rfl ?hin181 ?hsn181 ?hfn181 ?hrn181 ?hQn181 ⟨Or.inl ⟨by kernel_rfl, ?hyn181⟩, ?habn181⟩ ?hn181
                        case hin181 => (simp only [List.getElem?_toArray, List.getElem?_cons_succ, List.getElem?_cons_zero]; rfl)
                        case hsn181 => kernel_rfl
                        case hfn181 => kernel_rfl
                        case hrn181 => kernel_rfl
                        case hyn181 => (intro w'; go_simp; try with_reducible rfl)
                        case habn181 => exact fun _ => rfl
                        case hQn181 => exact fun _ _ _ h => h
                        try simp only [Act.put, List.setIfInBounds_toArray, List.set_cons_zero, List.set_cons_succ]
                        refine wpAnyIn_ready (rs := [12]) (by kernel_rfl) (by simp) ?_
                        refine AllReadyIn.cons (o := ?zor182_12) ?zhr182_12 ?zkr182_12 AllReadyIn.nil
                        case zhr182_12 => (simp only [List.getElem?_toArray, List.getElem?_cons_succ, List.getElem?_cons_zero]; rfl)
                        · intro K hK
                          rw [if_pos (by kernel_rfl)]
                          refine wpIn_of_wp ?_
                          go_simp
                          refine hK _ _ ?_
                          try simp only [Act.put, List.setIfInBounds_toArray, List.set_cons_zero, List.set_cons_succ]
                          clear hK
                          clear K
                          refine wpAnyIn_ready (rs := [13]) (by kernel_rfl) (by simp) ?_
                          refine AllReadyIn.cons (o := ?zor183_13) ?zhr183_13 ?zkr183_13 AllReadyIn.nil
                          case zhr183_13 => (simp only [List.getElem?_toArray, List.getElem?_cons_succ, List.getElem?_cons_zero]; rfl)
                          · intro K hK
                            rw [if_pos (by kernel_rfl)]
                            obtain ⟨fn, tmps, assign, body, hy, hR⟩ := HY.out q178
                            go_simp
                            refine hR.mono ?_
                            rintro e W3 (⟨rfl, hJ3, hk3⟩ | ⟨rfl, hJx3⟩)
                            · refine hK _ _ ?_
                              try simp only [Act.put, List.setIfInBounds_toArray, List.set_cons_zero, List.set_cons_succ]
                              clear hK
                              clear K
                              refine wpAnyIn_take (i := 14) (oi := ?oin184) (v := ?vn184) rfl ?hin184 ?hsn184 ?hfn184 ?hrn184 ?hQn184 ⟨Or.inl ⟨by kernel_rfl, ?hyn184⟩, ?habn184⟩ ?hn184
                              case hin184 => (simp only [List.getElem?_toArray, List.getElem?_cons_succ, List.getElem?_cons_zero]; rfl)
                              case hsn184 => kernel_rfl
                              case hfn184 => kernel_rfl
                              case hrn184 => kernel_rfl
                              case hyn184 => (intro w'; go_simp; try with_reducible rfl)
                              case habn184 => exact fun _ => rfl
                              case hQn184 => exact fun _ _ _ h => h
                              try simp only [Act.put, List.setIfInBounds_toArray, List.set_cons_zero, List.set_cons_succ]
                              refine wpAnyIn_take (i := 15) (oi := ?oin185) (v := ?vn185) rfl ?hin185 ?hsn185 ?hfn185 ?hrn185 ?hQn185 ⟨Or.inl ⟨by kernel_rfl, ?hyn185⟩, ?habn185⟩ ?hn185
                              case hin185 => (simp only [List.getElem?_toArray, List.getElem?_cons_succ, List.getElem?_cons_zero]; rfl)
                              case hsn185 => kernel_rfl
                              case hfn185 => kernel_rfl
                              case hrn185 => kernel_rfl
                              case hyn185 => (intro w'; go_simp; try with_reducible rfl)
                              case habn185 => exact fun _ => rfl
                              case hQn185 => exact fun _ _ _ h => h
                              try simp only [Act.put, List.setIfInBounds_toArray, List.set_cons_zero, List.set_cons_succ]
                              refine wpAnyIn_done (by kernel_rfl) ?_ _
                              have HB1 := Lib.hid (BA.out.trans (q178.bel.mono BA.out.size))
                              have HC1 := Lib.hid ((HC2.out.below HB1.out).kp hk3 HO2.out)
                              have HD1 := Lib.hid ((HC3.out.below HB1.out).kp hk3 HO3.out)
                              have HP1 := Lib.hid (row_kp (owns_below HP.out HB1.out) hk3 HOV.out)
                              have HS1 := Lib.hid (Nat.le_trans (Nat.le_trans HSZ.out HB1.out.size) hk3.size)
                              have HJ1 := Lib.hid hJ3
                              clear hJ3 hk3
                              go_wp2_with fail
                              go_roundw
                              case rel => exact ⟨k + 1, by omega, by go_num, by rw [HTY.out]; exact HJ1, HC1, HD1, HP1, HS1⟩
                              case measure => simp [intOf]; omega
                            · refine hK _ _ ?_
                              try simp only [Act.put, List.setIfInBounds_toArray, List.set_cons_zero, List.set_cons_succ]
                              clear hK
                              clear K
                              refine wpAnyIn_take (i := 14) (oi := ?oin186) (v := ?vn186) rfl ?hin186 ?hsn186 ?hfn186 ?hrn186 ?hQn186 ⟨Or.inl ⟨by kernel_rfl, ?hyn186⟩, ?habn186⟩ ?hn186
                              case hin186 => (simp only [List.getElem?_toArray, List.getElem?_cons_succ, List.getElem?_cons_zero]; rfl)
                              case hsn186 => kernel_rfl
                              case hfn186 => kernel_rfl
                              case hrn186 => kernel_rfl
                              case hyn186 => (intro w'; go_simp; try with_reducible rfl)
                              case habn186 => exact fun _ => rfl
                              case hQn186 => exact fun _ _ _ h => h
                              try simp only [Act.put, List.setIfInBounds_toArray, List.set_cons_zero, List.set_cons_succ]
                              refine wpAnyIn_take (i := 15) (oi := ?oin187) (v := ?vn187) rfl ?hin187 ?hsn187 ?hfn187 ?hrn187 ?hQn187 ⟨Or.inl ⟨by kernel_rfl, ?hyn187⟩, ?habn187⟩ ?hn187
                              case hin187 => (simp only [List.getElem?_toArray, List.getElem?_cons_succ, List.getElem?_cons_zero]; rfl)
                              case hsn187 => kernel_rfl
                              case hfn187 => kernel_rfl
                              case hrn187 => kernel_rfl
                              case hyn187 => (intro w'; go_simp; try with_reducible rfl)
                              case habn187 => exact fun _ => rfl
                              case hQn187 => exact fun _ _ _ h => h
                              try simp only [Act.put, List.setIfInBounds_toArray, List.set_cons_zero, List.set_cons_succ]
                              refine wpAnyIn_done (by kernel_rfl) ?_ _
                              have HJ1 := Lib.hid hJx3
                              clear hJx3
                              go_wp2_with fail
                              refine bodyPost_ret (results_none rfl _ _ _) rfl ?_
                              exact ⟨⟨_, rfl⟩, .inr ⟨_, HPX.out, HJ1.out⟩⟩
                  · intro K hK
                    rw [if_pos (by kernel_rfl)]
                    refine wpIn_of_wp ?_
                    go_simp
                    refine hK _ _ ?_
                    try simp only [Act.put, List.setIfInBounds_toArray, List.set_cons_zero, List.set_cons_succ]
                    clear hK
                    clear K
                    refine wpAnyIn_ready (rs := [5]) (by kernel_rfl) (by simp) ?_
                    refine AllReadyIn.cons (o := ?zor188_5) ?zhr188_5 ?zkr188_5 AllReadyIn.nil
                    case zhr188_5 => (simp only [List.getElem?_toArray, List.getElem?_cons_succ, List.getElem?_cons_zero]; rfl)
                    · intro K hK
                      rw [if_pos (by kernel_rfl)]
                      refine wpIn_of_wp ?_
                      go_simp
                      refine hK _ _ ?_
                      try simp only [Act.put, List.setIfInBounds_toArray, List.set_cons_zero, List.set_cons_succ]
                      clear hK
                      clear K
                      refine wpAnyIn_ready (rs := [8]) (by kernel_rfl) (by simp) ?_
                      refine AllReadyIn.cons (o := ?zor189_8) ?zhr189_8 ?zkr189_8 AllReadyIn.nil
                      case zhr189_8 => (simp only [List.getElem?_toArray, List.getElem?_cons_succ, List.getElem?_cons_zero]; rfl)
                      · intro K hK
                        rw [if_pos (by kernel_rfl)]
                        refine wpIn_of_wp ?_
                        go_simp
                        refine (Calls.bw_of (HHS.out _)).mono ?_
                        rintro e _ ⟨rfl, q190, rfl⟩
                        refine hK _ _ ?_
                        try simp only [Act.put, List.setIfInBounds_toArray, List.set_cons_zero, List.set_cons_succ]
                        clear hK
                        clear K
                        refine wpAnyIn_take (i := 9) (oi := ?oin191) (v := ?vn191) rfl ?hin191 ?hsn191 ?hfn191 ?hrn191 ?hQn191 ⟨Or.inl ⟨by kernel_rfl, ?hyn191⟩, ?habn191⟩ ?hn191
                        case hin191 => (simp only [List.getElem?_toArray, List.getElem?_cons_succ, List.getElem?_cons_zero]; rfl)
                        case hsn191 => kernel_rfl
                        case hfn191 => kernel_rfl
                        case hrn191 => kernel_rfl
                        case hyn191 => (intro w'; go_simp; try with_reducible rfl)
                        case habn191 => exact fun _ => rfl
                        case hQn191 => exact fun _ _ _ h => h
                        try simp only [Act.put, List.setIfInBounds_toArray, List.set_cons_zero, List.set_cons_succ]
                        refine wpAnyIn_take (i := 10) (oi := ?oin192) (v := ?vn192) rfl ?hin192 ?hsn192 ?hfn192 ?hrn192 ?hQn192 ⟨Or.inl ⟨by kernel_rfl, ?hyn192⟩, ?habn192⟩ ?hn192
                        case hin192 => (simp only [List.getElem?_toArray, List.getElem?_cons_succ, List.getElem?_cons_zero]; rfl)
                        case hsn192 => kernel_rfl
                        case hfn192 => kernel_rfl
                        case hrn192 => kernel_rfl
                        case hyn192 => (intro w'; go_simp; try with_reducible rfl)
                        case habn192 => exact fun _ => rfl
                        case hQn192 => exact fun _ _ _ h => h
                        try simp only [Act.put, List.setIfInBounds_toArray, List.set_cons_zero, List.set_cons_succ]
                        refine wpAnyIn_take (i := 11) (oi := ?oin193) (v := ?vn193) rfl ?hin193 ?hsn193 ?hfn193 ?hrn193 ?hQn193 ⟨Or.inl ⟨by kernel_rfl, ?hyn193⟩, ?habn193⟩ ?hn193
                        case hin193 => (simp only [List.getElem?_toArray, List.getElem?_cons_succ, List.getElem?_cons_zero]; rfl)
                        case hsn193 => kernel_rfl
                        case hfn193 => kernel_rfl
                        case hrn193 => kernel_rfl
                        case hyn193 => (intro w'; go_simp; try with_reducible rfl)
                        case habn193 => exact fun _ => rfl
                        case hQn193 => exact fun _ _ _ h => h
                        try simp only [Act.put, List.setIfInBounds_toArray, List.set_cons_zero, List.set_cons_succ]
                        refine wpAnyIn_ready (rs := [12]) (by kernel_rfl) (by simp) ?_
                        refine AllReadyIn.cons (o := ?zor194_12) ?zhr194_12 ?zkr194_12 AllReadyIn.nil
                        case zhr194_12 => (simp only [List.getElem?_toArray, List.getElem?_cons_succ, List.getElem?_cons_zero]; rfl)
                        · intro K hK
                          rw [if_pos (by kernel_rfl)]
                          refine wpIn_of_wp ?_
                          go_simp
                          refine hK _ _ ?_
                          try simp only [Act.put, List.setIfInBounds_toArray, List.set_cons_zero, List.set_cons_succ]
                          clear hK
                          clear K
                          refine wpAnyIn_ready (rs := [13]) (by kernel_rfl) (by simp) ?_
                          refine AllReadyIn.cons (o := ?zor195_13) ?zhr195_13 ?zkr195_13 AllReadyIn.nil
                          case zhr195_13 => (simp only [List.getElem?_toArray, List.getElem?_cons_succ, List.getElem?_cons_zero]; rfl)
                          · intro K hK
                            rw [if_pos (by kernel_rfl)]
                            obtain ⟨fn, tmps, assign, body, hy, hR⟩ := HY.out q190
                            go_simp
                            refine hR.mono ?_
                            rintro e W3 (⟨rfl, hJ3, hk3⟩ | ⟨rfl, hJx3⟩)
                            · refine hK _ _ ?_
                              try simp only [Act.put, List.setIfInBounds_toArray, List.set_cons_zero, List.set_cons_succ]
                              clear hK
                              clear K
                              refine wpAnyIn_take (i := 14) (oi := ?oin196) (v := ?vn196) rfl ?hin196 ?hsn196 ?hfn196 ?hrn196 ?hQn196 ⟨Or.inl ⟨by kernel_rfl, ?hyn196⟩, ?habn196⟩ ?hn196
                              case hin196 => (simp only [List.getElem?_toArray, List.getElem?_cons_succ, List.getElem?_cons_zero]; rfl)
                              case hsn196 => kernel_rfl
                              case hfn196 => kernel_rfl
                              case hrn196 => kernel_rfl
                              case hyn196 => (intro w'; go_simp; try with_reducible rfl)
                              case habn196 => exact fun _ => rfl
                              case hQn196 => exact fun _ _ _ h => h
                              try simp only [Act.put, List.setIfInBounds_toArray, List.set_cons_zero, List.set_cons_succ]
                              refine wpAnyIn_take (i := 15) (oi := ?oin197) (v := ?vn197) rfl ?hin197 ?hsn197 ?hfn197 ?hrn197 ?hQn197 ⟨Or.inl ⟨by kernel_rfl, ?hyn197⟩, ?habn197⟩ ?hn197
                              case hin197 => (simp only [List.getElem?_toArray, List.getElem?_cons_succ, List.getElem?_cons_zero]; rfl)
                              case hsn197 => kernel_rfl
                              case hfn197 => kernel_rfl
                              case hrn197 => kernel_rfl
                              case hyn197 => (intro w'; go_simp; try with_reducible rfl)
                              case habn197 => exact fun _ => rfl
                              case hQn197 => exact fun _ _ _ h => h
                              try simp only [Act.put, List.setIfInBounds_toArray, List.set_cons_zero, List.set_cons_succ]
                              refine wpAnyIn_done (by kernel_rfl) ?_ _
                              have HB1 := Lib.hid (BA.out.trans (q190.bel.mono BA.out.size))
                              have HC1 := Lib.hid ((HC2.out.below HB1.out).kp hk3 HO2.out)
                              have HD1 := Lib.hid ((HC3.out.below HB1.out).kp hk3 HO3.out)
                              have HP1 := Lib.hid (row_kp (owns_below HP.out HB1.out) hk3 HOV.out)
                              have HS1 := Lib.hid (Nat.le_trans (Nat.le_trans HSZ.out HB1.out.size) hk3.size)
                              have HJ1 := Lib.hid hJ3
                              clear hJ3 hk3
                              go_wp2_with fail
                              go_roundw
                              case rel => exact ⟨k + 1, by omega, by go_num, by rw [HTY.out]; exact HJ1, HC1, HD1, HP1, HS1⟩
                              case measure => simp [intOf]; omega
                            · refine hK _ _ ?_
                              try simp only [Act.put, List.setIfInBounds_toArray, List.set_cons_zero, List.set_cons_succ]
                              clear hK
                              clear K
                              refine wpAnyIn_take (i := 14) (oi := ?oin198) (v := ?vn198) rfl ?hin198 ?hsn198 ?hfn198 ?hrn198 ?hQn198 ⟨Or.inl ⟨by kernel_rfl, ?hyn198⟩, ?habn198⟩ ?hn198
                              case hin198 => (simp only [List.getElem?_toArray, List.getElem?_cons_succ, List.getElem?_cons_zero]; rfl)
                              case hsn198 => kernel_rfl
                              case hfn198 => kernel_rfl
                              case hrn198 => kernel_rfl
                              case hyn198 => (intro w'; go_simp; try with_reducible rfl)
                              case habn198 => exact fun _ => rfl
                              case hQn198 => exact fun _ _ _ h => h
                              try simp only [Act.put, List.setIfInBounds_toArray, List.set_cons_zero, List.set_cons_succ]
                              refine wpAnyIn_take (i := 15) (oi := ?oin199) (v := ?vn199) rfl ?hin199 ?hsn199 ?hfn199 ?hrn199 ?hQn199 ⟨Or.inl ⟨by kernel_rfl, ?hyn199⟩, ?habn199⟩ ?hn199
                              case hin199 => (simp only [List.getElem?_toArray, List.getElem?_cons_succ, List.getElem?_cons_zero]; rfl)
                              case hsn199 => kernel_rfl
                              case hfn199 => kernel_rfl
                              case hrn199 => kernel_rfl
                              case hyn199 => (intro w'; go_simp; try with_reducible rfl)
                              case habn199 => exact fun _ => rfl
                              case hQn199 => exact fun _ _ _ h => h
                              try simp only [Act.put, List.setIfInBounds_toArray, List.set_cons_zero, List.set_cons_succ]
                              refine wpAnyIn_done (by kernel_rfl) ?_ _
                              have HJ1 := Lib.hid hJx3
                              clear hJx3
                              go_wp2_with fail
                              refine bodyPost_ret (results_none rfl _ _ _) rfl ?_
                              exact ⟨⟨_, rfl⟩, .inr ⟨_, HPX.out, HJ1.out⟩⟩
          · intro K hK
            rw [if_pos (by kernel_rfl)]
            refine wpIn_of_wp ?_
            go_simp
            refine hK _ _ ?_
            try simp only [Act.put, List.setIfInBounds_toArray, List.set_cons_zero, List.set_cons_succ]
            clear hK
            clear K
            refine wpAnyIn_ready (rs := [0]) (by kernel_rfl) (by simp) ?_
            refine AllReadyIn.cons (o := ?zor200_0) ?zhr200_0 ?zkr200_0 AllReadyIn.nil
            case zhr200_0 => (simp only [List.getElem?_toArray, List.getElem?_cons_succ, List.getElem?_cons_zero]; rfl)
            · intro K hK
              rw [if_pos (by kernel_rfl)]
              refine wpIn_of_wp ?_
              go_simp
              refine hK _ _ ?_
              try simp only [Act.put, List.setIfInBounds_toArray, List.set_cons_zero, List.set_cons_succ]
              clear hK
              clear K
              refine wpAnyIn_ready (rs := [1]) (by kernel_rfl) (by simp) ?_
              refine AllReadyIn.cons (o := ?zor201_1) ?zhr201_1 ?zkr201_1 AllReadyIn.nil
              case zhr201_1 => (simp only [List.getElem?_toArray, List.getElem?_cons_succ, List.getElem?_cons_zero]; rfl)
              · intro K hK
                rw [if_pos (by kernel_rfl)]
                refine wpIn_of_wp ?_
                go_simp
                refine (Calls.bw_of (HOF.out _)).mono ?_
                rintro e _ ⟨rfl, q202, rfl⟩
                refine hK _ _ ?_
                try simp only [Act.put, List.setIfInBounds_toArray, List.set_cons_zero, List.set_cons_succ]
                clear hK
                clear K
                refine wpAnyIn_ready (rs := [3]) (by kernel_rfl) (by simp) ?_
                refine AllReadyIn.cons (o := ?zor203_3) ?zhr203_3 ?zkr203_3 AllReadyIn.nil
                case zhr203_3 => (simp only [List.getElem?_toArray, List.getElem?_cons_succ, List.getElem?_cons_zero]; rfl)
                · intro K hK
                  rw [if_pos (by kernel_rfl)]
                  refine wpIn_of_wp ?_
                  go_simp
                  refine (Calls.bw_of (HBH.out _)).mono ?_
                  rintro e _ ⟨rfl, q204, rfl⟩
                  refine hK _ _ ?_
                  try simp only [Act.put, List.setIfInBounds_toArray, List.set_cons_zero, List.set_cons_succ]
                  clear hK
                  clear K
                  refine wpAnyIn_take (i := 4) (oi := ?oin205) (v := ?vn205) rfl ?hin205 ?hsn205 ?hfn205 ?hrn205 ?hQn205 ⟨Or.inl ⟨by kernel_rfl, ?hyn205⟩, ?habn205⟩ ?hn205
                  case hin205 => (simp only [List.getElem?_toArray, List.getElem?_cons_succ, List.getElem?_cons_zero]; rfl)
                  case hsn205 => kernel_rfl
                  case hfn205 => kernel_rfl
                  case hrn205 => kernel_rfl
                  case hyn205 => (intro w'; go_simp; try with_reducible rfl)
                  case habn205 => exact fun _ => rfl
                  case hQn205 => exact fun _ _ _ h => h
                  try simp only [Act.put, List.setIfInBounds_toArray, List.set_cons_zero, List.set_cons_succ]
                  refine wpAnyIn_take (i := 6) (oi := ?oin206) (v := ?vn206) rfl ?hin206 ?hsn206 ?hfn206 ?hrn206 ?hQn206 ⟨Or.inl ⟨by kernel_rfl, ?hyn206⟩, ?habn206⟩ ?hn206
                  case hin206 => (simp only [List.getElem?_toArray, List.getElem?_cons_succ, List.getElem?_cons_zero]; rfl)
                  case hsn206 => kernel_rfl
                  case hfn206 => kernel_rfl
                  case hrn206 => kernel_rfl
                  case hyn206 => (intro w'; go_simp; try with_reducible rfl)
                  case habn206 => exact fun _ => rfl
                  case hQn206 => exact fun _ _ _ h => h
                  try simp only [Act.put, List.setIfInBounds_toArray, List.set_cons_zero, List.set_cons_succ]
                  refine wpAnyIn_ready (rs := [5, 7]) (by kernel_rfl) (by simp) ?_
                  refine AllReadyIn.cons (o := ?zor207_5) ?zhr207_5 ?zkr207_5 (AllReadyIn.cons (o := ?zor207_7) ?zhr207_7 ?zkr207_7 AllReadyIn.nil)
                  case zhr207_5 => (simp only [List.getElem?_toArray, List.getElem?_cons_succ, List.getElem?_cons_zero]; rfl)
                  case zhr207_7 => (simp only [List.getElem?_toArray, List.getElem?_cons_succ, List.getElem?_cons_zero]; rfl)
                  · intro K hK
                    rw [if_pos (by kernel_rfl)]
                    refine wpIn_of_wp ?_
                    go_simp
                    refine hK _ _ ?_
                    try simp only [Act.put, List.setIfInBounds_toArray, List.set_cons_zero, List.set_cons_succ]
                    clear hK
                    clear K
                    refine wpAnyIn_ready (rs := [7]) (by kernel_rfl) (by simp) ?_
                    refine AllReadyIn.cons (o := ?zor208_7) ?zhr208_7 ?zkr208_7 AllReadyIn.nil
                    case zhr208_7 => (simp only [List.getElem?_toArray, List.getElem?_cons_succ, List.getElem?_cons_zero]; rfl)
                    · intro K hK
                      rw [if_pos (by kernel_rfl)]
                      refine wpIn_of_wp ?_
                      go_simp
                      refine hK _ _ ?_
                      try simp only [Act.put, List.setIfInBounds_toArray, List.set_cons_zero, List.set_cons_succ]
                      clear hK
                      clear K
                      refine wpAnyIn_ready (rs := [8]) (by kernel_rfl) (by simp) ?_
                      refine AllReadyIn.cons (o := ?zor209_8) ?zhr209_8 ?zkr209_8 AllReadyIn.nil
                      case zhr209_8 => (simp only [List.getElem?_toArray, List.getElem?_cons_succ, List.getElem?_cons_zero]; rfl)
                      · intro K hK
                        rw [if_pos (by kernel_rfl)]
                        refine wpIn_of_wp ?_
                        go_simp
                        refine (Calls.bw_of (HHS.out _)).mono ?_
                        rintro e _ ⟨rfl, q210, rfl⟩
                        refine hK _ _ ?_
                        try simp only [Act.put, List.setIfInBounds_toArray, List.set_cons_zero, List.set_cons_succ]
                        clear hK
                        clear K
                        refine wpAnyIn_take (i := 9) (oi := ?oin211) (v := ?vn211) rfl ?hin211 ?hsn211 ?hfn211 ?hrn211 ?hQn211 ⟨Or.inl ⟨by kernel_rfl, ?hyn211⟩, ?habn211⟩ ?hn211
                        case hin211 => (simp only [List.getElem?_toArray, List.getElem?_cons_succ, List.getElem?_cons_zero]; rfl)
                        case hsn211 => kernel_rfl
                        case hfn211 => kernel_rfl
                        case hrn211 => kernel_rfl
                        case hyn211 => (intro w'; go_simp; try with_reducible rfl)
                        case habn211 => exact fun _ => rfl
                        case hQn211 => exact fun _ _ _ h => h
                        try simp only [Act.put, List.setIfInBounds_toArray, List.set_cons_zero, List.set_cons_succ]
                        refine wpAnyIn_take (i := 10) (oi := ?oin212) (v := ?vn212) rfl ?hin212 ?hsn212 ?hfn212 ?hrn212 ?hQn212 ⟨Or.inl ⟨by kernel_rfl, ?hyn212⟩, ?habn212⟩ ?hn212
                        case hin212 => (simp only [List.getElem?_toArray, List.getElem?_cons_succ, List.getElem?_cons_zero]; rfl)
                        case hsn212 => kernel_rfl
                        case hfn212 => kernel_rfl
                        case hrn212 => kernel_rfl
                        case hyn212 => (intro w'; go_simp; try with_reducible rfl)
                        case habn212 => exact fun _ => rfl
                        case hQn212 => exact fun _ _ _ h => h
                        try simp only [Act.put, List.setIfInBounds_toArray, List.set_cons_zero, List.set_cons_succ]
                        refine wpAnyIn_take (i := 11) (oi := ?oin213) (v := ?vn213) rfl ?hin213 ?hsn213 ?hfn213 ?hrn213 ?hQn213 ⟨Or.inl ⟨by kernel_rfl, ?hyn213⟩, ?habn213⟩ ?hn213
                        case hin213 => (simp only [List.getElem?_toArray, List.getElem?_cons_succ, List.getElem?_cons_zero]; rfl)
                        case hsn213 => kernel_rfl
                        case hfn213 => kernel_rfl
                        case hrn213 => kernel_rfl
                        case hyn213 => (intro w'; go_simp; try with_reducible rfl)
                        case habn213 => exact fun _ => rfl
                        case hQn213 => exact fun _ _ _ h => h
                        try simp only [Act.put, List.setIfInBounds_toArray, List.set_cons_zero, List.set_cons_succ]
                        refine wpAnyIn_ready (rs := [12]) (by kernel_rfl) (by simp) ?_
                        refine AllReadyIn.cons (o := ?zor214_12) ?zhr214_12 ?zkr214_12 AllReadyIn.nil
                        case zhr214_12 => (simp only [List.getElem?_toArray, List.getElem?_cons_succ, List.getElem?_cons_zero]; rfl)
                        · intro K hK
                          rw [if_pos (by kernel_rfl)]
                          refine wpIn_of_wp ?_
                          go_simp
                          refine hK _ _ ?_
                          try simp only [Act.put, List.setIfInBounds_toArray, List.set_cons_zero, List.set_cons_succ]
                          clear hK
                          clear K
                          refine wpAnyIn_ready (rs := [13]) (by kernel_rfl) (by simp) ?_
                          refine AllReadyIn.cons (o := ?zor215_13) ?zhr215_13 ?zkr215_13 AllReadyIn.nil
                          case zhr215_13 => (simp only [List.getElem?_toArray, List.getElem?_cons_succ, List.getElem?_cons_zero]; rfl)
                          · intro K hK
                            rw [if_pos (by kernel_rfl)]
                            obtain ⟨fn, tmps, assign, body, hy, hR⟩ := HY.out q210
                            go_simp
                            refine hR.mono ?_
                            rintro e W3 (⟨rfl, hJ3, hk3⟩ | ⟨rfl, hJx3⟩)
                            · refine hK _ _ ?_
                              try simp only [Act.put, List.setIfInBounds_toArray, List.set_cons_zero, List.set_cons_succ]
                              clear hK
                              clear K
                              refine wpAnyIn_take (i := 14) (oi := ?oin216) (v := ?vn216) rfl ?hin216 ?hsn216 ?hfn216 ?hrn216 ?hQn216 ⟨Or.inl ⟨by kernel_rfl, ?hyn216⟩, ?habn216⟩ ?hn216
                              case hin216 => (simp only [List.getElem?_toArray, List.getElem?_cons_succ, List.getElem?_cons_zero]; rfl)
                              case hsn216 => kernel_rfl
                              case hfn216 => kernel_rfl
                              case hrn216 => kernel_rfl
                              case hyn216 => (intro w'; go_simp; try with_reducible rfl)
                              case habn216 => exact fun _ => rfl
                              case hQn216 => exact fun _ _ _ h => h
                              try simp only [Act.put, List.setIfInBounds_toArray, List.set_cons_zero, List.set_cons_succ]
                              refine wpAnyIn_take (i := 15) (oi := ?oin217) (v := ?vn217) rfl ?hin217 ?hsn217 ?hfn217 ?hrn217 ?hQn217 ⟨Or.inl ⟨by kernel_rfl, ?hyn217⟩, ?habn217⟩ ?hn217
                              case hin217 => (simp only [List.getElem?_toArray, List.getElem?_cons_succ, List.getElem?_cons_zero]; rfl)
                              case hsn217 => kernel_rfl
                              case hfn217 => kernel_rfl
                              case hrn217 => kernel_rfl
                              case hyn217 => (intro w'; go_simp; try with_reducible rfl)
                              case habn217 => exact fun _ => rfl
                              case hQn217 => exact fun _ _ _ h => h
                              try simp only [Act.put, List.setIfInBounds_toArray, List.set_cons_zero, List.set_cons_succ]
                              refine wpAnyIn_done (by kernel_rfl) ?_ _
                              have HB1 := Lib.hid (BA.out.trans (q210.bel.mono BA.out.size))
                              have HC1 := Lib.hid ((HC2.out.below HB1.out).kp hk3 HO2.out)
                              have HD1 := Lib.hid ((HC3.out.below HB1.out).kp hk3 HO3.out)
                              have HP1 := Lib.hid (row_kp (owns_below HP.out HB1.out) hk3 HOV.out)
                              have HS1 := Lib.hid (Nat.le_trans (Nat.le_trans HSZ.out HB1.out.size) hk3.size)
                              have HJ1 := Lib.hid hJ3
                              clear hJ3 hk3
                              go_wp2_with fail
                              go_roundw
                              case rel => exact ⟨k + 1, by omega, by go_num, by rw [HTY.out]; exact HJ1, HC1, HD1, HP1, HS1⟩
                              case measure => simp [intOf]; omega
                            · refine hK _ _ ?_
                              try simp only [Act.put, List.setIfInBounds_toArray, List.set_cons_zero, List.set_cons_succ]
                              clear hK
                              clear K
                              refine wpAnyIn_take (i := 14) (oi := ?oin218) (v := ?vn218) rfl ?hin218 ?hsn218 ?hfn218 ?hrn218 ?hQn218 ⟨Or.inl ⟨by kernel_rfl, ?hyn218⟩, ?habn218⟩ ?hn218
                              case hin218 => (simp only [List.getElem?_toArray, List.getElem?_cons_succ, List.getElem?_cons_zero]; rfl)
                              case hsn218 => kernel_rfl
                              case hfn218 => kernel_rfl
                              case hrn218 => kernel_rfl
                              case hyn218 => (intro w'; go_simp; try with_reducible rfl)
                              case habn218 => exact fun _ => rfl
                              case hQn218 => exact fun _ _ _ h => h
                              try simp only [Act.put, List.setIfInBounds_toArray, List.set_cons_zero, List.set_cons_succ]
                              refine wpAnyIn_take (i := 15) (oi := ?oin219) (v := ?vn219) rfl ?hin219 ?hsn219 ?hfn219 ?hrn219 ?hQn219 ⟨Or.inl ⟨by kernel_rfl, ?hyn219⟩, ?habn219⟩ ?hn219
                              case hin219 => (simp only [List.getElem?_toArray, List.getElem?_cons_succ, List.getElem?_cons_zero]; rfl)
                              case hsn219 => kernel_rfl
                              case hfn219 => kernel_rfl
                              case hrn219 => kernel_rfl
                              case hyn219 => (intro w'; go_simp; try with_reducible rfl)
                              case habn219 => exact fun _ => rfl
                              case hQn219 => exact fun _ _ _ h => h
                              try simp only [Act.put, List.setIfInBounds_toArray, List.set_cons_zero, List.set_cons_succ]
                              refine wpAnyIn_done (by kernel_rfl) ?_ _
                              have HJ1 := Lib.hid hJx3
                              clear hJx3
                              go_wp2_with fail
                              refine bodyPost_ret (results_none rfl _ _ _) rfl ?_
                              exact ⟨⟨_, rfl⟩, .inr ⟨_, HPX.out, HJ1.out⟩⟩
                  · intro K hK
                    rw [if_pos (by kernel_rfl)]
                    refine wpIn_of_wp ?_
                    go_simp
                    refine hK _ _ ?_
                    try simp only [Act.put, List.setIfInBounds_toArray, List.set_cons_zero, List.set_cons_succ]
                    clear hK
                    clear K
                    refine wpAnyIn_ready (rs := [5]) (by kernel_rfl) (by simp) ?_
                    refine AllReadyIn.cons (o := ?zor220_5) ?zhr220_5 ?zkr220_5 AllReadyIn.nil
                    case zhr220_5 => (simp only [List.getElem?_toArray, List.getElem?_cons_succ, List.getElem?_cons_zero]; rfl)
                    · intro K hK
                      rw [if_pos (by kernel_rfl)]
                      refine wpIn_of_wp ?_
                      go_simp
                      refine hK _ _ ?_
                      try simp only [Act.put, List.setIfInBounds_toArray, List.set_cons_zero, List.set_cons_succ]
                      clear hK
                      clear K
                      refine wpAnyIn_ready (rs := [8]) (by kernel_rfl) (by simp) ?_
                      refine AllReadyIn.cons (o := ?zor221_8) ?zhr221_8 ?zkr221_8 AllReadyIn.nil
                      case zhr221_8 => (simp only [List.getElem?_toArray, List.getElem?_cons_succ, List.getElem?_cons_zero]; rfl)
                      · intro K hK
                        rw [if_pos (by kernel_rfl)]
                        refine wpIn_of_wp ?_
                        go_simp
                        refine (Calls.bw_of (HHS.out _)).mono ?_
                        rintro e _ ⟨rfl, q222, rfl⟩
                        refine hK _ _ ?_
                        try simp only [Act.put, List.setIfInBounds_toArray, List.set_cons_zero, List.set_cons_succ]
                        clear hK
                        clear K
                        refine wpAnyIn_take (i := 9) (oi := ?oin223) (v := ?vn223) rfl ?hin223 ?hsn223 ?hfn223 ?hrn223 ?hQn223 ⟨Or.inl ⟨by kernel_rfl, ?hyn223⟩, ?habn223⟩ ?hn223
                        case hin223 => (simp only [List.getElem?_toArray, List.getElem?_cons_succ, List.getElem?_cons_zero]; rfl)
                        case hsn223 => kernel_rfl
                        case hfn223 => kernel_rfl
                        case hrn223 => kernel_rfl
                        case hyn223 => (intro w'; go_simp; try with_reducible rfl)
                        case habn223 => exact fun _ => rfl
                        case hQn223 => exact fun _ _ _ h => h
                        try simp only [Act.put, List.setIfInBounds_toArray, List.set_cons_zero, List.set_cons_succ]
                        refine wpAnyIn_take (i := 10) (oi := ?oin224) (v := ?vn224) rfl ?hin224 ?hsn224 ?hfn224 ?hrn224 ?hQn224 ⟨Or.inl ⟨by kernel_rfl, ?hyn224⟩, ?habn224⟩ ?hn224
                        case hin224 => (simp only [List.getElem?_toArray, List.getElem?_cons_succ, List.getElem?_cons_zero]; rfl)
                        case hsn224 => kernel_rfl
                        case hfn224 => kernel_rfl
                        case hrn224 => kernel_rfl
                        case hyn224 => (intro w'; go_simp; try with_reducible rfl)
                        case habn224 => exact fun _ => rfl
                        case hQn224 => exact fun _ _ _ h => h
                        try simp only [Act.put, List.setIfInBounds_toArray, List.set_cons_zero, List.set_cons_succ]
                        refine wpAnyIn_take (i := 11) (oi := ?oin225) (v := ?vn225) rfl ?hin225 ?hsn225 ?hfn225 ?hrn225 ?hQn225 ⟨Or.inl ⟨by kernel_rfl, ?hyn225⟩, ?habn225⟩ ?hn225
                        case hin225 => (simp only [List.getElem?_toArray, List.getElem?_cons_succ, List.getElem?_cons_zero]; rfl)
                        case hsn225 => kernel_rfl
                        case hfn225 => kernel_rfl
                        case hrn225 => kernel_rfl
                        case hyn225 => (intro w'; go_simp; try with_reducible rfl)
                        case habn225 => exact fun _ => rfl
                        case hQn225 => exact fun _ _ _ h => h
                        try simp only [Act.put, List.setIfInBounds_toArray, List.set_cons_zero, List.set_cons_succ]
                        refine wpAnyIn_ready (rs := [12]) (by kernel_rfl) (by simp) ?_
                        refine AllReadyIn.cons (o := ?zor226_12) ?zhr226_12 ?zkr226_12 AllReadyIn.nil
                        case zhr226_12 => (simp only [List.getElem?_toArray, List.getElem?_cons_succ, List.getElem?_cons_zero]; rfl)
                        · intro K hK
                          rw [if_pos (by kernel_rfl)]
                          refine wpIn_of_wp ?_
                          go_simp
                          refine hK _ _ ?_
                          try simp only [Act.put, List.setIfInBounds_toArray, List.set_cons_zero, List.set_cons_succ]
                          clear hK
                          clear K
                          refine wpAnyIn_ready (rs := [13]) (by kernel_rfl) (by simp) ?_
                          refine AllReadyIn.cons (o := ?zor227_13) ?zhr227_13 ?zkr227_13 AllReadyIn.nil
                          case zhr227_13 => (simp only [List.getElem?_toArray, List.getElem?_cons_succ, List.getElem?_cons_zero]; rfl)
                          · intro K hK
                            rw [if_pos (by kernel_rfl)]
                            obtain ⟨fn, tmps, assign, body, hy, hR⟩ := HY.out q222
                            go_simp
                            refine hR.mono ?_
                            rintro e W3 (⟨rfl, hJ3, hk3⟩ | ⟨rfl, hJx3⟩)
                            · refine hK _ _ ?_
                              try simp only [Act.put, List.setIfInBounds_toArray, List.set_cons_zero, List.set_cons_succ]
                              clear hK
                              clear K
                              refine wpAnyIn_take (i := 14) (oi := ?oin228) (v := ?vn228) rfl ?hin228 ?hsn228 ?hfn228 ?hrn228 ?hQn228 ⟨Or.inl ⟨by kernel_rfl, ?hyn228⟩, ?habn228⟩ ?hn228
                              case hin228 => (simp only [List.getElem?_toArray, List.getElem?_cons_succ, List.getElem?_cons_zero]; rfl)
                              case hsn228 => kernel_rfl
                              case hfn228 => kernel_rfl
                              case hrn228 => kernel_rfl
                              case hyn228 => (intro w'; go_simp; try with_reducible rfl)
                              case habn228 => exact fun _ => rfl
                              case hQn228 => exact fun _ _ _ h => h
                              try simp only [Act.put, List.setIfInBounds_toArray, List.set_cons_zero, List.set_cons_succ]
                              refine wpAnyIn_take (i := 15) (oi := ?oin229) (v := ?vn229) rfl ?hin229 ?hsn229 ?hfn229 ?hrn229 ?hQn229 ⟨Or.inl ⟨by kernel_rfl, ?hyn229⟩, ?habn229⟩ ?hn229
                              case hin229 => (simp only [List.getElem?_toArray, List.getElem?_cons_succ, List.getElem?_cons_zero]; rfl)
                              case hsn229 => kernel_rfl
                              case hfn229 => kernel_rfl
                              case hrn229 => kernel_rfl
                              case hyn229 => (intro w'; go_simp; try with_reducible rfl)
                              case habn229 => exact fun _ => rfl
                              case hQn229 => exact fun _ _ _ h => h
                              try simp only [Act.put, List.setIfInBounds_toArray, List.set_cons_zero, List.set_cons_succ]
                              refine wpAnyIn_done (by kernel_rfl) ?_ _
                              have HB1 := Lib.hid (BA.out.trans (q222.bel.mono BA.out.size))
                              have HC1 := Lib.hid ((HC2.out.below HB1.out).kp hk3 HO2.out)
                              have HD1 := Lib.hid ((HC3.out.below HB1.out).kp hk3 HO3.out)
                              have HP1 := Lib.hid (row_kp (owns_below HP.out HB1.out) hk3 HOV.out)
                              have HS1 := Lib.hid (Nat.le_trans (Nat.le_trans HSZ.out HB1.out.size) hk3.size)
                              have HJ1 := Lib.hid hJ3
                              clear hJ3 hk3
                              go_wp2_with fail
                              go_roundw
                              case rel => exact ⟨k + 1, by omega, by go_num, by rw [HTY.out]; exact HJ1, HC1, HD1, HP1, HS1⟩
                              case measure => simp [intOf]; omega
                            · refine hK _ _ ?_
                              try simp only [Act.put, List.setIfInBounds_toArray, List.set_cons_zero, List.set_cons_succ]
                              clear hK
                              clear K
                              refine wpAnyIn_take (i := 14) (oi := ?oin230) (v := ?vn230) rfl ?hin230 ?hsn230 ?hfn230 ?hrn230 ?hQn230 ⟨Or.inl ⟨by kernel_rfl, ?hyn230⟩, ?habn230⟩ ?hn230
                              case hin230 => (simp only [List.getElem?_toArray, List.getElem?_cons_succ, List.getElem?_cons_zero]; rfl)
                              case hsn230 => kernel_rfl
                              case hfn230 => kernel_rfl
                              case hrn230 => kernel_rfl
                              case hyn230 => (intro w'; go_simp; try with_reducible rfl)
                              case habn230 => exact fun _ => rfl
                              case hQn230 => exact fun _ _ _ h => h
                              try simp only [Act.put, List.setIfInBounds_toArray, List.set_cons_zero, List.set_cons_succ]
                              refine wpAnyIn_take (i := 15) (oi := ?oin231) (v := ?vn231) rfl ?hin231 ?hsn231 ?hfn231 ?hrn231 ?hQn231 ⟨Or.inl ⟨by kernel_rfl, ?hyn231⟩, ?habn231⟩ ?hn231
                              case hin231 => (simp only [List.getElem?_toArray, List.getElem?_cons_succ, List.getElem?_cons_zero]; rfl)
                              case hsn231 => kernel_rfl
                              case hfn231 => kernel_rfl
                              case hrn231 => kernel_rfl
                              case hyn231 => (intro w'; go_simp; try with_reducible rfl)
                              case habn231 => exact fun _ => rfl
                              case hQn231 => exact fun _ _ _ h => h
                              try simp only [Act.put, List.setIfInBounds_toArray, List.set_cons_zero, List.set_cons_succ]
                              refine wpAnyIn_done (by kernel_rfl) ?_ _
                              have HJ1 := Lib.hid hJx3
                              clear hJx3
                              go_wp2_with fail
                              refine bodyPost_ret (results_none rfl _ _ _) rfl ?_
                              exact ⟨⟨_, rfl⟩, .inr ⟨_, HPX.out, HJ1.out⟩⟩
    · obtain rfl : k = s := by omega
      rw [HSL.out, thrTo_all] at HJR
      go_wp2_with fail
      go_end0
      exact ⟨⟨_, rfl⟩, .inl ⟨_, rfl, HJR.out⟩⟩
end Go.Proofs.Ytbkknpodipapoaa
