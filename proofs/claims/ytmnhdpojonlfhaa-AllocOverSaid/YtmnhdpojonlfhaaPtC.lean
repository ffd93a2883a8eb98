/- The walks of geom.First and of package cols: mirror, parity, Of. -/
import Derived.Test.YtmnhdpojonlfhaaPtW
import Derived.Deep.RegionLaw
import Derived.Deep.AppendLies
import Derived.IntWalk
namespace Go.Proofs.Ytmnhdpojonlfhaa
open Go.RowKit
set_option linter.unusedSimpArgs false
attribute [local go_sem ↓] Go.wp_at_zero Go.wp_at_succ

/-- a column: its device, its sector there, is it a parity, its row -/
abbrev ColT := Nat × Nat × Bool × Nat
def encC1 (c : ColT) : List Value := [.int .i64 (c.1 : Nat), .int .i64 (c.2.1 : Nat), .bool c.2.2.1, .int .i64 (c.2.2.2 : Nat)]
def encC (l : List ColT) : List Value := l.flatMap encC1
theorem encC_append (a b : List ColT) : encC (a ++ b) = encC a ++ encC b := by simp [encC]
theorem encC_one (l : List ColT) : ∀ u ∈ encC l, u.oneCell' = true := by
  intro u hu
  simp only [encC, List.mem_flatMap, encC1, List.mem_cons, List.not_mem_nil, or_false] at hu
  obtain ⟨c, _, h⟩ := hu
  rcases h with rfl | rfl | rfl | rfl <;> rfl
theorem infoC : (Try.prog.info? 180).map (fun i => (i.zero, i.size, i.bytes)) = some (some (.agg #[.int .i64 0, .int .i64 0, .bool false, .int .i64 0]), 4, 32) := by kernel_rfl

/-- the columns of a mirror: a device's -/
def mirD (first at_ d i : Nat) : List ColT := (List.range i).map fun j => (first + d, 16 + at_ + j, false, j)
def mirL (first at_ size : Nat) : Nat → List ColT
  | 0 => []
  | d + 1 => mirL first at_ size d ++ mirD first at_ d size
theorem mirD_step (first at_ d i : Nat) : mirD first at_ d (i + 1) = mirD first at_ d i ++ [(first + d, 16 + at_ + i, false, i)] := by simp [mirD, List.range_succ]
theorem mirD_length (first at_ d i : Nat) : (mirD first at_ d i).length = i := by simp [mirD]
theorem mirL_length (first at_ size : Nat) : ∀ d, (mirL first at_ size d).length = d * size
  | 0 => by simp [mirL]
  | d + 1 => by simp [mirL, mirL_length first at_ size d, mirD_length, Nat.succ_mul]

set_option maxHeartbeats 1600000 in
set_option maxRecDepth 100000 in
theorem mirror_any (first wide at_ size : Nat) (w : World) (h1 : first ≤ 1000) (h2 : wide ≤ 8) (h3 : at_ ≤ 100000) (h4 : size ≤ 4) :
    Calls Try.prog 120 #[.int .i64 (first : Nat), .int .i64 (wide : Nat), .int .i64 (at_ : Nat), .int .i64 (size : Nat)] w fun e w' => ∃ v, e = .returned v ∧ w'.ownsRow w.heap.size 180 4 v (mirL first at_ size wide).length (encC (mirL first at_ size wide)) ∧ Below w.heap.size w w' := by
  obtain ⟨i0, hi, hz0, hz1, hz2⟩ := info_parts infoC
  go_enter Try.func120, Try.ntmps120
  go_wp2_with fail
  go_loopw [9, 13] (fun v i wr => ∃ d : Nat, d ≤ wide ∧ i = .int .i64 (d : Nat) ∧ Hid (wr.ownsRow w.heap.size 180 4 v (mirL first at_ size d).length (encC (mirL first at_ size d))) ∧ Hid (Below w.heap.size w wr)) (fun _ i _ => wide - (intOf i).toNat)
  case atStart => exact ⟨0, by omega, rfl, Lib.hid (World.ownsRow_nil _ _ _ _), Lib.hid (Below.refl _ _)⟩
  case round =>
    obtain ⟨d, hd, rfl, hown, hbel⟩ := hrel
    by_cases hdw : d < wide
    · obtain ⟨wo, rfl⟩ : ∃ wo : World, wo = wr := ⟨_, rfl⟩
      go_wp2_with fail
      go_loopw [9, 17] (fun v i wr => ∃ j : Nat, j ≤ size ∧ i = .int .i64 (j : Nat) ∧ Hid (wr.ownsRow w.heap.size 180 4 v (mirL first at_ size d ++ mirD first at_ d j).length (encC (mirL first at_ size d ++ mirD first at_ d j))) ∧ Hid (Below w.heap.size w wr)) (fun _ i _ => size - (intOf i).toNat)
      case atStart => exact ⟨0, by omega, rfl, Lib.hid (by have e : mirL first at_ size d ++ mirD first at_ d 0 = mirL first at_ size d := by simp [mirD]
                                                           rw [e]; exact hown.out), hbel⟩
      case round =>
        obtain ⟨j, hj, rfl, hownj, hbelj⟩ := hrel
        by_cases hjs : j < size
        · have hln : (mirL first at_ size d ++ mirD first at_ d j).length ≤ 100 := by
            rw [List.length_append, mirL_length, mirD_length]
            have : d * size ≤ 8 * 4 := Nat.mul_le_mul (by omega) h4
            omega
          obtain ⟨L, hL⟩ : ∃ L, L = mirL first at_ size d ++ mirD first at_ d j := ⟨_, rfl⟩
          have hL1 : mirL first at_ size d ++ mirD first at_ d (j + 1) = L ++ [(first + d, 16 + at_ + j, false, j)] := by rw [hL, mirD_step, List.append_assoc]
          rw [← hL] at hownj hln
          obtain ⟨ao1, cap1, rfl, _⟩ := RSl.of_owns hownj.out
          have HL1 := Lib.hid hL1
          have m1 : L.length + 1 ≤ maxLen := by unfold maxLen; omega
          have m2 : (L.length + 1) * 32 ≤ 140737488355328 := by omega
          have m3 : w.heap.size ≤ (wr.alloc (.cells (encC [(first + d, 16 + at_ + j, false, j)]).toArray 180)).heap.size := by have := hbelj.out.size; simp; omega
          have hnw := Blk.news (Blk.newAt (w := wr) 180 (encC [(first + d, 16 + at_ + j, false, j)]) rfl)
          have HNW := Lib.hid hnw
          clear hL hL1 hnw
          go_wp2_with (at_builtin; go_must (refine wpList_append_own _ rfl (.tmp 20) (.tmp 30) 152 rfl w.heap.size 180 i0 (.agg #[.int .i64 0, .int .i64 0, .bool false, .int .i64 0]) 4 32 Try.underlying152 hi hz0 hz1 hz2 rfl (Nat.succ_pos 3) (.slice ao1 L.length cap1) L.length (encC L) rfl (hownj.out.alloc _) ⟨wr.heap.size, 0, none⟩ 1 1 (encC [(first + d, 16 + at_ + j, false, j)]) rfl rfl HNW.out (encC_one _) m1 m2 m3 ?_; intro v1 w1 hown1 hgrow1 _))
          have HB1 := Lib.hid (below_own (base := w.heap.size) (hbelj.out.alloc hbelj.out.size (.cells (encC [(first + d, 16 + at_ + j, false, j)]).toArray 180)) (hownj.out.alloc _) hgrow1 m3 (Nat.le_refl _))
          have hown2 : w1.ownsRow w.heap.size 180 4 v1 (mirL first at_ size d ++ mirD first at_ d (j + 1)).length (encC (mirL first at_ size d ++ mirD first at_ d (j + 1))) := by
            rw [HL1.out, encC_append, List.length_append]
            exact hown1
          go_roundw
          case rel => exact ⟨j + 1, by omega, by go_num, Lib.hid hown2, HB1⟩
          case measure => simp [intOf]; omega
        · obtain rfl : size = j := by omega
          go_wp2_with fail
          go_roundw
          case rel => exact ⟨d + 1, by omega, by go_num, hownj, hbelj⟩
          case measure => simp [intOf]; omega
    · have hdd : d = wide := by omega
      subst hdd
      go_wp2_with fail
      go_ret
      exact ⟨_, rfl, hown.out, hbel.out⟩

/-- the columns of a parity -/
def parS (first wide at_ : Nat) (out : List ColT) (row : Nat) (par : Bool) : List ColT := out ++ [(first + (at_ + out.length) % wide, 16 + (at_ + out.length) / wide, par, row)]
def parL (first wide at_ : Nat) : Nat → List ColT
  | 0 => []
  | i + 1 => parS first wide at_ (if i % (wide - 1) = 0 then parS first wide at_ (parL first wide at_ i) (i / (wide - 1)) true else parL first wide at_ i) (i / (wide - 1)) false
theorem parS_length (first wide at_ : Nat) (out : List ColT) (row : Nat) (par : Bool) : (parS first wide at_ out row par).length = out.length + 1 := by simp [parS]
theorem parL_length (first wide at_ : Nat) : ∀ i, (parL first wide at_ i).length ≤ 2 * i
  | 0 => by simp [parL]
  | i + 1 => by
    have := parL_length first wide at_ i
    simp only [parL, parS_length]
    split
    · rw [parS_length]; omega
    · omega

set_option maxRecDepth 100000 in
theorem parity1_any (first wide at_ row : Nat) (par : Bool) (base ga go_ gf gw : Nat) (out : List ColT) (v : Value) (w : World) (h1 : first ≤ 1000) (h2 : wide ≤ 8) (h20 : 1 ≤ wide) (h3 : at_ ≤ 100000) (_h4 : row ≤ 100) (hl : out.length ≤ 100)
    (ca : Blk w ga 3 [.int .i64 (at_ : Nat)]) (co : Blk w go_ 152 [v]) (cf : Blk w gf 3 [.int .i64 (first : Nat)]) (cw : Blk w gw 3 [.int .i64 (wide : Nat)]) (hown : w.ownsRow base 180 4 v out.length (encC out)) (hb : base ≤ go_) :
    Calls Try.prog 131 #[.int .i64 (row : Nat), .bool par, .pointer (some ⟨ga, 0, none⟩), .pointer (some ⟨go_, 0, none⟩), .pointer (some ⟨gf, 0, none⟩), .pointer (some ⟨gw, 0, none⟩)] w fun e w' => e = .returned (.tuple #[]) ∧
      ∃ v', Blk w' go_ 152 [v'] ∧ w'.ownsRow base 180 4 v' (parS first wide at_ out row par).length (encC (parS first wide at_ out row par)) ∧ Blk w' ga 3 [.int .i64 (at_ : Nat)] ∧ Blk w' gf 3 [.int .i64 (first : Nat)] ∧ Blk w' gw 3 [.int .i64 (wide : Nat)] ∧
        w.heap.size ≤ w'.heap.size ∧ (∀ B, B ≤ base → B ≤ w.heap.size → Below B w w') := by
  obtain ⟨i0, hi, hz0, hz1, hz2⟩ := info_parts infoC
  obtain ⟨ao1, cap1, rfl, _⟩ := RSl.of_owns hown
  obtain ⟨q, hq⟩ : ∃ q, q = (at_ + out.length) / wide := ⟨_, rfl⟩
  obtain ⟨r, hr⟩ : ∃ r, r = (at_ + out.length) % wide := ⟨_, rfl⟩
  have HS := Lib.hid (show parS first wide at_ out row par = out ++ [(first + r, 16 + q, par, row)] by rw [hq, hr]; rfl)
  have hr8 : r < 8 := by rw [hr]; exact Nat.lt_of_lt_of_le (Nat.mod_lt _ (by omega)) h2
  have hq8 : q ≤ 200000 := by rw [hq]; exact Nat.le_trans (Nat.div_le_self _ _) (by omega)
  have c0 := ca.cell 0
  have c1 := co.cell 0
  have c2 := cf.cell 0
  have c3 := cw.cell 0
  have hlt := co.lt
  have hne : ∀ g x, Blk w g 3 [x] → g ≠ go_ := fun g x h e => by
    subst e
    unfold Blk at h co
    rw [h] at co
    simp only [Option.some.injEq, Obj.cells.injEq] at co
    exact absurd co.2.1 (by decide)
  have HNA := Lib.hid (hne _ _ ca)
  have HNF := Lib.hid (hne _ _ cf)
  have HNW2 := Lib.hid (hne _ _ cw)
  have CA := Lib.hid ca
  have CO := Lib.hid co
  have CF := Lib.hid cf
  have CW := Lib.hid cw
  have HOWN := Lib.hid hown
  have HNW := Lib.hid (Blk.news (Blk.newAt (w := w) 180 (encC [(first + r, 16 + q, par, row)]) rfl))
  have m1 : out.length + 1 ≤ maxLen := by unfold maxLen; omega
  have m2 : (out.length + 1) * 32 ≤ 140737488355328 := by omega
  have HBA : Hid (base ≤ (w.alloc (.cells (encC [(first + r, 16 + q, par, row)]).toArray 180)).heap.size) := Lib.hid (by simp; omega)
  have x1 : wide ≠ 0 := by omega
  have x3 : IntKind.i64.wrap ((at_ : Int) + (out.length : Int)) = (at_ : Int) + (out.length : Int) := IntWalk.i64_in _ (by omega)
  have x4 : ((at_ : Int) + (out.length : Int)).tmod (wide : Int) = (r : Int) := by
    rw [hr, show (at_ : Int) + (out.length : Int) = ((at_ + out.length : Nat) : Int) by omega, Int.tmod_eq_emod_of_nonneg (by omega)]
    rfl
  have x5 : ((at_ : Int) + (out.length : Int)).tdiv (wide : Int) = (q : Int) := by
    rw [hq, show (at_ : Int) + (out.length : Int) = ((at_ + out.length : Nat) : Int) by omega, Int.tdiv_eq_ediv_of_nonneg (by omega)]
    rfl
  have x6 : IntKind.i64.wrap ((first : Int) + (r : Int)) = (first : Int) + (r : Int) := IntWalk.i64_in _ (by omega)
  have x7 : IntKind.i64.wrap (16 + (q : Int)) = 16 + (q : Int) := IntWalk.i64_in _ (by omega)
  have x8 : IntKind.i64.wrap (q : Int) = (q : Int) := IntWalk.i64_in _ (by omega)
  have x9 : IntKind.i64.wrap (r : Int) = (r : Int) := IntWalk.i64_in _ (by omega)
  clear hq hr
  clear ca co cf cw hown hne
  go_enter Try.func131, Try.ntmps131
  go_wp2_with fail
  refine wp_region_held_drew (S := (fun w' => w'.cell? ⟨ga, 0, none⟩ = some (.int .i64 (at_ : Nat)) ∧ w'.cell? ⟨gf, 0, none⟩ = some (.int .i64 (first : Nat)) ∧ w'.cell? ⟨gw, 0, none⟩ = some (.int .i64 (wide : Nat)))) (by kernel_rfl) (by go_keep) (fun hS0 => ?_)
  refine wpAnyH_take (i := 1) (oi := ?oip1) (v := ?vp1) ?hip1 ?hsp1 ?hfp1 ?hrp1 ?hQp1 ?hyp1 ?hSp1 ?hp1
  case hip1 => (simp only [List.getElem?_toArray, List.getElem?_cons_succ, List.getElem?_cons_zero]; rfl)
  case hsp1 => kernel_rfl
  case hfp1 => kernel_rfl
  case hrp1 => kernel_rfl
  case hSp1 => assumption
  case hyp1 => refine Or.inl ⟨by kernel_rfl, ?_⟩; (intro w hSw; (try dsimp only at hSw); go_simp; try with_reducible rfl)
  case hQp1 => exact fun _ _ _ h => h
  try simp only [Act.put, List.setIfInBounds_toArray, List.set_cons_zero, List.set_cons_succ]
  refine wpAnyH_take (i := 2) (oi := ?oip2) (v := ?vp2) ?hip2 ?hsp2 ?hfp2 ?hrp2 ?hQp2 ?hyp2 ?hSp2 ?hp2
  case hip2 => (simp only [List.getElem?_toArray, List.getElem?_cons_succ, List.getElem?_cons_zero]; rfl)
  case hsp2 => kernel_rfl
  case hfp2 => kernel_rfl
  case hrp2 => kernel_rfl
  case hSp2 => assumption
  case hyp2 => refine Or.inl ⟨by kernel_rfl, ?_⟩; (intro w hSw; (try dsimp only at hSw); go_simp; try with_reducible rfl)
  case hQp2 => exact fun _ _ _ h => h
  try simp only [Act.put, List.setIfInBounds_toArray, List.set_cons_zero, List.set_cons_succ]
  refine wpAnyH_take (i := 3) (oi := ?oip3) (v := ?vp3) ?hip3 ?hsp3 ?hfp3 ?hrp3 ?hQp3 ?hyp3 ?hSp3 ?hp3
  case hip3 => (simp only [List.getElem?_toArray, List.getElem?_cons_succ, List.getElem?_cons_zero]; rfl)
  case hsp3 => kernel_rfl
  case hfp3 => kernel_rfl
  case hrp3 => kernel_rfl
  case hSp3 => assumption
  case hyp3 => refine Or.inl ⟨by kernel_rfl, ?_⟩; (intro w hSw; (try dsimp only at hSw); go_simp; try with_reducible rfl)
  case hQp3 => exact fun _ _ _ h => h
  try simp only [Act.put, List.setIfInBounds_toArray, List.set_cons_zero, List.set_cons_succ]
  refine wpAnyH_take (i := 4) (oi := ?oip4) (v := ?vp4) ?hip4 ?hsp4 ?hfp4 ?hrp4 ?hQp4 ?hyp4 ?hSp4 ?hp4
  case hip4 => (simp only [List.getElem?_toArray, List.getElem?_cons_succ, List.getElem?_cons_zero]; rfl)
  case hsp4 => kernel_rfl
  case hfp4 => kernel_rfl
  case hrp4 => kernel_rfl
  case hSp4 => assumption
  case hyp4 => refine Or.inl ⟨by kernel_rfl, ?_⟩; (intro w hSw; (try dsimp only at hSw); go_simp; try with_reducible rfl)
  case hQp4 => exact fun _ _ _ h => h
  try simp only [Act.put, List.setIfInBounds_toArray, List.set_cons_zero, List.set_cons_succ]
  refine wpAnyH_take (i := 5) (oi := ?oip5) (v := ?vp5) ?hip5 ?hsp5 ?hfp5 ?hrp5 ?hQp5 ?hyp5 ?hSp5 ?hp5
  case hip5 => (simp only [List.getElem?_toArray, List.getElem?_cons_succ, List.getElem?_cons_zero]; rfl)
  case hsp5 => kernel_rfl
  case hfp5 => kernel_rfl
  case hrp5 => kernel_rfl
  case hSp5 => assumption
  case hyp5 => refine Or.inl ⟨by kernel_rfl, ?_⟩; (intro w hSw; (try dsimp only at hSw); go_simp; try with_reducible rfl)
  case hQp5 => exact fun _ _ _ h => h
  try simp only [Act.put, List.setIfInBounds_toArray, List.set_cons_zero, List.set_cons_succ]
  refine wpAnyH_take (i := 6) (oi := ?oip6) (v := ?vp6) ?hip6 ?hsp6 ?hfp6 ?hrp6 ?hQp6 ?hyp6 ?hSp6 ?hp6
  case hip6 => (simp only [List.getElem?_toArray, List.getElem?_cons_succ, List.getElem?_cons_zero]; rfl)
  case hsp6 => kernel_rfl
  case hfp6 => kernel_rfl
  case hrp6 => kernel_rfl
  case hSp6 => assumption
  case hyp6 => refine Or.inl ⟨by kernel_rfl, ?_⟩; (intro w hSw; (try dsimp only at hSw); go_simp; try with_reducible rfl)
  case hQp6 => exact fun _ _ _ h => h
  try simp only [Act.put, List.setIfInBounds_toArray, List.set_cons_zero, List.set_cons_succ]
  refine wpAnyH_take (i := 7) (oi := ?oip7) (v := ?vp7) ?hip7 ?hsp7 ?hfp7 ?hrp7 ?hQp7 ?hyp7 ?hSp7 ?hp7
  case hip7 => (simp only [List.getElem?_toArray, List.getElem?_cons_succ, List.getElem?_cons_zero]; rfl)
  case hsp7 => kernel_rfl
  case hfp7 => kernel_rfl
  case hrp7 => kernel_rfl
  case hSp7 => assumption
  case hyp7 => refine Or.inl ⟨by kernel_rfl, ?_⟩; (intro w hSw; (try dsimp only at hSw); go_simp; try with_reducible rfl)
  case hQp7 => exact fun _ _ _ h => h
  try simp only [Act.put, List.setIfInBounds_toArray, List.set_cons_zero, List.set_cons_succ]
  refine wpAnyH_take (i := 8) (oi := ?oip8) (v := ?vp8) ?hip8 ?hsp8 ?hfp8 ?hrp8 ?hQp8 ?hyp8 ?hSp8 ?hp8
  case hip8 => (simp only [List.getElem?_toArray, List.getElem?_cons_succ, List.getElem?_cons_zero]; rfl)
  case hsp8 => kernel_rfl
  case hfp8 => kernel_rfl
  case hrp8 => kernel_rfl
  case hSp8 => assumption
  case hyp8 => refine Or.inl ⟨by kernel_rfl, ?_⟩; (intro w hSw; (try dsimp only at hSw); go_simp; try with_reducible rfl)
  case hQp8 => exact fun _ _ _ h => h
  try simp only [Act.put, List.setIfInBounds_toArray, List.set_cons_zero, List.set_cons_succ]
  refine wpAnyH_take (i := 9) (oi := ?oip9) (v := ?vp9) ?hip9 ?hsp9 ?hfp9 ?hrp9 ?hQp9 ?hyp9 ?hSp9 ?hp9
  case hip9 => (simp only [List.getElem?_toArray, List.getElem?_cons_succ, List.getElem?_cons_zero]; rfl)
  case hsp9 => kernel_rfl
  case hfp9 => kernel_rfl
  case hrp9 => kernel_rfl
  case hSp9 => assumption
  case hyp9 => refine Or.inl ⟨by kernel_rfl, ?_⟩; (intro w hSw; (try dsimp only at hSw); go_simp; try with_reducible rfl)
  case hQp9 => exact fun _ _ _ h => h
  try simp only [Act.put, List.setIfInBounds_toArray, List.set_cons_zero, List.set_cons_succ]
  refine wpAnyH_take (i := 10) (oi := ?oip10) (v := ?vp10) ?hip10 ?hsp10 ?hfp10 ?hrp10 ?hQp10 ?hyp10 ?hSp10 ?hp10
  case hip10 => (simp only [List.getElem?_toArray, List.getElem?_cons_succ, List.getElem?_cons_zero]; rfl)
  case hsp10 => kernel_rfl
  case hfp10 => kernel_rfl
  case hrp10 => kernel_rfl
  case hSp10 => assumption
  case hyp10 => refine Or.inl ⟨by kernel_rfl, ?_⟩; (intro w hSw; (try dsimp only at hSw); go_simp; try with_reducible rfl)
  case hQp10 => exact fun _ _ _ h => h
  try simp only [Act.put, List.setIfInBounds_toArray, List.set_cons_zero, List.set_cons_succ]
  refine wpAnyH_take (i := 11) (oi := ?oip11) (v := ?vp11) ?hip11 ?hsp11 ?hfp11 ?hrp11 ?hQp11 ?hyp11 ?hSp11 ?hp11
  case hip11 => (simp only [List.getElem?_toArray, List.getElem?_cons_succ, List.getElem?_cons_zero]; rfl)
  case hsp11 => kernel_rfl
  case hfp11 => kernel_rfl
  case hrp11 => kernel_rfl
  case hSp11 => assumption
  case hyp11 => refine Or.inl ⟨by kernel_rfl, ?_⟩; (intro w hSw; (try dsimp only at hSw); go_simp; try with_reducible rfl)
  case hQp11 => exact fun _ _ _ h => h
  try simp only [Act.put, List.setIfInBounds_toArray, List.set_cons_zero, List.set_cons_succ]
  refine wpAnyH_take (i := 12) (oi := ?oip12) (v := ?vp12) ?hip12 ?hsp12 ?hfp12 ?hrp12 ?hQp12 ?hyp12 ?hSp12 ?hp12
  case hip12 => (simp only [List.getElem?_toArray, List.getElem?_cons_succ, List.getElem?_cons_zero]; rfl)
  case hsp12 => kernel_rfl
  case hfp12 => kernel_rfl
  case hrp12 => kernel_rfl
  case hSp12 => assumption
  case hyp12 => refine Or.inl ⟨by kernel_rfl, ?_⟩; (intro w hSw; (try dsimp only at hSw); go_simp; try with_reducible rfl)
  case hQp12 => exact fun _ _ _ h => h
  try simp only [Act.put, List.setIfInBounds_toArray, List.set_cons_zero, List.set_cons_succ]
  refine wpAnyH_ready (rs := [0, 13]) (by kernel_rfl) (by simp) ?_
  refine AllReadyH.cons rfl (fun K hK => ?_) (AllReadyH.cons rfl (fun K hK => ?_) AllReadyH.nil)
  · go_simp
    refine hK.out _ _ ⟨CA.out.cell 0, CF.out.cell 0, CW.out.cell 0⟩ (fun _ => ?_)
    try simp only [Act.put, List.setIfInBounds_toArray, List.set_cons_zero, List.set_cons_succ]
    clear hK
    clear K
    refine wpAnyH_ready (rs := [13]) (by kernel_rfl) (by simp) ?_
    refine AllReadyH.cons rfl (fun K hK => ?_) AllReadyH.nil
    go_simp
    refine hK.out _ _ ⟨(CA.out.alloc _).cell 0, (CF.out.alloc _).cell 0, (CW.out.alloc _).cell 0⟩ (fun _ => ?_)
    try simp only [Act.put, List.setIfInBounds_toArray, List.set_cons_zero, List.set_cons_succ]
    clear hK
    clear K
    refine wpAnyH_ready (rs := [14]) (by kernel_rfl) (by simp) ?_
    refine AllReadyH.cons rfl (fun K hK => ?_) AllReadyH.nil
    refine step_append_lies _ (by rfl) _ _ _ (by rfl) base 180 i0 (.agg #[.int .i64 0, .int .i64 0, .bool false, .int .i64 0]) 4 32 Try.underlying152 hi hz0 hz1 hz2 rfl (Nat.succ_pos 3) (.slice ao1 out.length cap1) out.length (encC out) (by rfl) (HOWN.out.alloc _) ⟨w.heap.size, 0, none⟩ 1 1 (encC [(first + r, 16 + q, par, row)]) (by rfl) rfl HNW.out (encC_one _) (by omega) m1 m2 (HBA.out) (w.heap.size + 1) (by simp) ?_
    intro gg gcap w5 hown5 hgrow4 hat hlt5
    have hgrow5 : (w.alloc (.cells (encC [(first + r, 16 + q, par, row)]).toArray 180)).grownBy w5 (Value.slice ao1 out.length cap1).ownBlock := grown_trans (grown_drew _ _) hgrow4
    have CA5 := Lib.hid ((CA.out.alloc (.cells (encC [(first + r, 16 + q, par, row)]).toArray 180)).ownKept (HOWN.out.alloc _) (by decide) hgrow5)
    have CF5 := Lib.hid ((CF.out.alloc (.cells (encC [(first + r, 16 + q, par, row)]).toArray 180)).ownKept (HOWN.out.alloc _) (by decide) hgrow5)
    have CW5 := Lib.hid ((CW.out.alloc (.cells (encC [(first + r, 16 + q, par, row)]).toArray 180)).ownKept (HOWN.out.alloc _) (by decide) hgrow5)
    have CO5 := Lib.hid ((CO.out.alloc (.cells (encC [(first + r, 16 + q, par, row)]).toArray 180)).ownKept (HOWN.out.alloc _) (by decide) hgrow5)
    have o5 := CO5.out.cell 0
    have f5 := CO5.out.frozen 0
    refine hK.out _ _ ⟨CA5.out.cell 0, CF5.out.cell 0, CW5.out.cell 0⟩ (fun _ => ?_)
    try simp only [Act.put, List.setIfInBounds_toArray, List.set_cons_zero, List.set_cons_succ]
    clear hK
    clear K
    refine wpAnyH_ready (rs := [15]) (by kernel_rfl) (by simp) ?_
    refine AllReadyH.cons rfl (fun K hK => ?_) AllReadyH.nil
    go_simp
    refine hK.out _ _ ⟨(CA5.out.other (a := ⟨go_, 0, none⟩) HNA.out _).cell 0, (CF5.out.other (a := ⟨go_, 0, none⟩) HNF.out _).cell 0, (CW5.out.other (a := ⟨go_, 0, none⟩) HNW2.out _).cell 0⟩ (fun _ => ?_)
    try simp only [Act.put, List.setIfInBounds_toArray, List.set_cons_zero, List.set_cons_succ]
    refine wpAnyH_done (by kernel_rfl) ?_ _
    go_wp2_with fail
    go_end0
    rw [HS.out, List.length_append, encC_append]
    exact ⟨rfl, _, CO5.out.setCell 0 _, owns_setOther hown5 CO5.out (by decide), CA5.out.other (a := ⟨go_, 0, none⟩) HNA.out _, CF5.out.other (a := ⟨go_, 0, none⟩) HNF.out _, CW5.out.other (a := ⟨go_, 0, none⟩) HNW2.out _, by have := hgrow5.size; simp [World.setCell] at this ⊢; omega, fun B hB hBw => (below_own (base := base) ((Below.refl _ _).alloc hBw _) (HOWN.out.alloc _) hgrow5 (by simp; omega) hB).setCell (p := ⟨go_, 0, none⟩) (Nat.le_trans hB hb) _⟩
  · go_simp
    refine hK.out _ _ ⟨(CA.out.alloc _).cell 0, (CF.out.alloc _).cell 0, (CW.out.alloc _).cell 0⟩ (fun _ => ?_)
    try simp only [Act.put, List.setIfInBounds_toArray, List.set_cons_zero, List.set_cons_succ]
    clear hK
    clear K
    refine wpAnyH_ready (rs := [0]) (by kernel_rfl) (by simp) ?_
    refine AllReadyH.cons rfl (fun K hK => ?_) AllReadyH.nil
    go_simp
    refine hK.out _ _ ⟨(CA.out.alloc _).cell 0, (CF.out.alloc _).cell 0, (CW.out.alloc _).cell 0⟩ (fun _ => ?_)
    try simp only [Act.put, List.setIfInBounds_toArray, List.set_cons_zero, List.set_cons_succ]
    clear hK
    clear K
    refine wpAnyH_ready (rs := [14]) (by kernel_rfl) (by simp) ?_
    refine AllReadyH.cons rfl (fun K hK => ?_) AllReadyH.nil
    refine step_append_lies _ (by rfl) _ _ _ (by rfl) base 180 i0 (.agg #[.int .i64 0, .int .i64 0, .bool false, .int .i64 0]) 4 32 Try.underlying152 hi hz0 hz1 hz2 rfl (Nat.succ_pos 3) (.slice ao1 out.length cap1) out.length (encC out) (by rfl) (HOWN.out.alloc _) ⟨w.heap.size, 0, none⟩ 1 1 (encC [(first + r, 16 + q, par, row)]) (by rfl) rfl HNW.out (encC_one _) (by omega) m1 m2 (HBA.out) (w.heap.size + 1) (by simp) ?_
    intro gg gcap w5 hown5 hgrow4 hat hlt5
    have hgrow5 : (w.alloc (.cells (encC [(first + r, 16 + q, par, row)]).toArray 180)).grownBy w5 (Value.slice ao1 out.length cap1).ownBlock := grown_trans (grown_drew _ _) hgrow4
    have CA5 := Lib.hid ((CA.out.alloc (.cells (encC [(first + r, 16 + q, par, row)]).toArray 180)).ownKept (HOWN.out.alloc _) (by decide) hgrow5)
    have CF5 := Lib.hid ((CF.out.alloc (.cells (encC [(first + r, 16 + q, par, row)]).toArray 180)).ownKept (HOWN.out.alloc _) (by decide) hgrow5)
    have CW5 := Lib.hid ((CW.out.alloc (.cells (encC [(first + r, 16 + q, par, row)]).toArray 180)).ownKept (HOWN.out.alloc _) (by decide) hgrow5)
    have CO5 := Lib.hid ((CO.out.alloc (.cells (encC [(first + r, 16 + q, par, row)]).toArray 180)).ownKept (HOWN.out.alloc _) (by decide) hgrow5)
    have o5 := CO5.out.cell 0
    have f5 := CO5.out.frozen 0
    refine hK.out _ _ ⟨CA5.out.cell 0, CF5.out.cell 0, CW5.out.cell 0⟩ (fun _ => ?_)
    try simp only [Act.put, List.setIfInBounds_toArray, List.set_cons_zero, List.set_cons_succ]
    clear hK
    clear K
    refine wpAnyH_ready (rs := [15]) (by kernel_rfl) (by simp) ?_
    refine AllReadyH.cons rfl (fun K hK => ?_) AllReadyH.nil
    go_simp
    refine hK.out _ _ ⟨(CA5.out.other (a := ⟨go_, 0, none⟩) HNA.out _).cell 0, (CF5.out.other (a := ⟨go_, 0, none⟩) HNF.out _).cell 0, (CW5.out.other (a := ⟨go_, 0, none⟩) HNW2.out _).cell 0⟩ (fun _ => ?_)
    try simp only [Act.put, List.setIfInBounds_toArray, List.set_cons_zero, List.set_cons_succ]
    refine wpAnyH_done (by kernel_rfl) ?_ _
    go_wp2_with fail
    go_end0
    rw [HS.out, List.length_append, encC_append]
    exact ⟨rfl, _, CO5.out.setCell 0 _, owns_setOther hown5 CO5.out (by decide), CA5.out.other (a := ⟨go_, 0, none⟩) HNA.out _, CF5.out.other (a := ⟨go_, 0, none⟩) HNF.out _, CW5.out.other (a := ⟨go_, 0, none⟩) HNW2.out _, by have := hgrow5.size; simp [World.setCell] at this ⊢; omega, fun B hB hBw => (below_own (base := base) ((Below.refl _ _).alloc hBw _) (HOWN.out.alloc _) hgrow5 (by simp; omega) hB).setCell (p := ⟨go_, 0, none⟩) (Nat.le_trans hB hb) _⟩
theorem callFunc_parity1 (args : Array Value) (W : World) : (callFunc 131 args).run Try.prog W = .ok (.enter 131 args) W := by kernel_rfl
set_option maxRecDepth 100000 in
theorem parity_any (first wide at_ size : Nat) (w : World) (h1 : first ≤ 1000) (h20 : 3 ≤ wide) (h2 : wide ≤ 8) (h3 : at_ ≤ 100000) (h4 : size ≤ 4) :
    Calls Try.prog 121 #[.int .i64 (first : Nat), .int .i64 (wide : Nat), .int .i64 (at_ : Nat), .int .i64 (size : Nat)] w fun e w' => ∃ v, e = .returned v ∧ w'.ownsRow w.heap.size 180 4 v (parL first wide at_ size).length (encC (parL first wide at_ size)) ∧ Below w.heap.size w w' := by
  have hcf := callFunc_parity1
  obtain ⟨w0, hw0⟩ : ∃ w0, w0 = (((w.alloc (.cells #[.int .i64 (first : Nat)] 3)).alloc (.cells #[.int .i64 (wide : Nat)] 3)).alloc (.cells #[.int .i64 (at_ : Nat)] 3)).alloc (.cells #[.slice none 0 0] 152) := ⟨_, rfl⟩
  have hb0 : Below w.heap.size w w0 := by rw [hw0]; exact ((((Below.refl _ _).alloc (Nat.le_refl _) _).alloc (by simp) _).alloc (by simp; omega) _).alloc (by simp; omega) _
  have hF : Blk w0 w.heap.size 3 [.int .i64 (first : Nat)] := by rw [hw0]; exact (((Blk.new w 3 [.int .i64 (first : Nat)]).alloc _).alloc _).alloc _
  have hW : Blk w0 (w.heap.size + 1) 3 [.int .i64 (wide : Nat)] := by rw [hw0]; exact ((Blk.newAt 3 [.int .i64 (wide : Nat)] (by simp)).alloc _).alloc _
  have hA : Blk w0 (w.heap.size + 1 + 1) 3 [.int .i64 (at_ : Nat)] := by rw [hw0]; exact (Blk.newAt 3 [.int .i64 (at_ : Nat)] (by simp)).alloc _
  have hO : Blk w0 (w.heap.size + 1 + 1 + 1) 152 [.slice none 0 0] := by rw [hw0]; exact Blk.newAt 152 [.slice none 0 0] (by simp)
  have HB0 := Lib.hid hb0
  have HF := Lib.hid hF
  have HW := Lib.hid hW
  have HA := Lib.hid hA
  have HO := Lib.hid hO
  clear hb0 hF hW hA hO
  go_enter Try.func121, Try.ntmps121
  go_wp2_with fail
  rw [← hw0]
  clear hw0
  go_loopw [15] (fun i wr => ∃ (k : Nat) (v : Value), k ≤ size ∧ i = .int .i64 (k : Nat) ∧ Hid (Blk wr w.heap.size 3 [.int .i64 (first : Nat)]) ∧ Hid (Blk wr (w.heap.size + 1) 3 [.int .i64 (wide : Nat)]) ∧ Hid (Blk wr (w.heap.size + 1 + 1) 3 [.int .i64 (at_ : Nat)]) ∧ Hid (Blk wr (w.heap.size + 1 + 1 + 1) 152 [v]) ∧
    Hid (wr.ownsRow w.heap.size 180 4 v (parL first wide at_ k).length (encC (parL first wide at_ k))) ∧ Hid (Below w.heap.size w wr)) (fun i _ => size - (intOf i).toNat)
  case atStart => exact ⟨0, _, by omega, rfl, HF, HW, HA, HO, Lib.hid (World.ownsRow_nil _ _ _ _), HB0⟩
  case round =>
    obtain ⟨k, v, hk, rfl, bf, bw, ba, bo, hown, hbel⟩ := hrel
    clear HF HW HA HO HB0
    by_cases hks : k < size
    · have hln := parL_length first wide at_ k
      obtain ⟨row, hrow⟩ : ∃ r, r = k / (wide - 1) := ⟨_, rfl⟩
      have hrl : row ≤ 100 := by rw [hrow]; exact Nat.le_trans (Nat.div_le_self _ _) (by omega)
      have ediv : (k : Int) / ((wide : Int) - 1) = (row : Int) := by rw [hrow, show (wide : Int) - 1 = ((wide - 1 : Nat) : Int) by omega]; rfl
      have x1 : (3 : Int) ≤ (wide : Int) := by omega
      have x2 : (wide : Int) ≤ 8 := by omega
      have d3 : wr.cell? ⟨w.heap.size + 1, 0, none⟩ = some (.int .i64 (wide : Nat)) := bw.out.cell 0
      have hP2 : ∀ W out v, Blk W w.heap.size 3 [.int .i64 (first : Nat)] → Blk W (w.heap.size + 1) 3 [.int .i64 (wide : Nat)] → Blk W (w.heap.size + 1 + 1) 3 [.int .i64 (at_ : Nat)] → Blk W (w.heap.size + 1 + 1 + 1) 152 [v] → W.ownsRow w.heap.size 180 4 v out.length (encC out) → out.length ≤ 100 → ∀ par, _ :=
        fun W out v a1 a2 a3 a4 a5 a6 par => parity1_any first wide at_ row par w.heap.size (w.heap.size + 1 + 1) (w.heap.size + 1 + 1 + 1) w.heap.size (w.heap.size + 1) out v W h1 h2 (by omega) h3 hrl a6 a3 a4 a1 a2 a5 (by omega)
      have HP2 := Lib.hid hP2
      have hws : w.heap.size ≤ wr.heap.size := hbel.out.size
      clear hP2
      by_cases hz : k % (wide - 1) = 0
      · have emod : ((k : Int) % ((wide : Int) - 1) == 0) = true := by
          rw [show (wide : Int) - 1 = ((wide - 1 : Nat) : Int) by omega, show (k : Int) % ((wide - 1 : Nat) : Int) = ((k % (wide - 1) : Nat) : Int) from rfl, hz]; rfl
        have HST := Lib.hid (show parL first wide at_ (k + 1) = parS first wide at_ (parS first wide at_ (parL first wide at_ k) row true) row false by rw [parL, if_pos hz, ← hrow])
        have hl2 : (parS first wide at_ (parL first wide at_ k) row true).length ≤ 100 := by rw [parS_length]; omega
        clear hrow hz
        go_wp2_with fail
        refine (HP2.out _ _ _ bf.out bw.out ba.out bo.out hown.out (by omega) true).mono ?_
        rintro e w1 ⟨rfl, v1, bo1, hown1, ba1, bf1, bw1, hs1, hB1⟩
        have BO := Lib.hid bo1
        have BA := Lib.hid ba1
        have BF := Lib.hid bf1
        have BW := Lib.hid bw1
        have HO1 := Lib.hid hown1
        have HB1 := Lib.hid (hbel.out.trans (hB1 _ (Nat.le_refl _) hws))
        clear bo1 ba1 bf1 bw1 hown1 hB1
        go_wp2_with fail
        refine (HP2.out _ _ _ BF.out BW.out BA.out BO.out HO1.out hl2 false).mono ?_
        rintro e w2 ⟨rfl, v2, bo2, hown2, ba2, bf2, bw2, hs2, hB2⟩
        have HB2 := Lib.hid (HB1.out.trans (hB2 _ (Nat.le_refl _) (by omega)))
        have HO2 := Lib.hid hown2
        have BO2 := Lib.hid bo2
        have BA2 := Lib.hid ba2
        have BF2 := Lib.hid bf2
        have BW2 := Lib.hid bw2
        clear bo2 ba2 bf2 bw2 hown2 hB2
        go_wp2_with fail
        go_roundw
        case rel => exact ⟨k + 1, v2, by omega, by go_num, BF2, BW2, BA2, BO2, Lib.hid (by rw [HST.out]; exact HO2.out), HB2⟩
        case measure => simp [intOf]; omega
      · have emod : ((k : Int) % ((wide : Int) - 1) == 0) = false := by
          rw [show (wide : Int) - 1 = ((wide - 1 : Nat) : Int) by omega, show (k : Int) % ((wide - 1 : Nat) : Int) = ((k % (wide - 1) : Nat) : Int) from rfl]; simp; omega
        have HST := Lib.hid (show parL first wide at_ (k + 1) = parS first wide at_ (parL first wide at_ k) row false by rw [parL, if_neg hz, ← hrow])
        clear hrow hz
        go_wp2_with fail
        refine (HP2.out _ _ _ bf.out bw.out ba.out bo.out hown.out (by omega) false).mono ?_
        rintro e w2 ⟨rfl, v2, bo2, hown2, ba2, bf2, bw2, hs2, hB2⟩
        have HB2 := Lib.hid (hbel.out.trans (hB2 _ (Nat.le_refl _) hws))
        have HO2 := Lib.hid hown2
        have BO2 := Lib.hid bo2
        have BA2 := Lib.hid ba2
        have BF2 := Lib.hid bf2
        have BW2 := Lib.hid bw2
        clear bo2 ba2 bf2 bw2 hown2 hB2
        go_wp2_with fail
        go_roundw
        case rel => exact ⟨k + 1, v2, by omega, by go_num, BF2, BW2, BA2, BO2, Lib.hid (by rw [HST.out]; exact HO2.out), HB2⟩
        case measure => simp [intOf]; omega
    · obtain rfl : size = k := by omega
      have d9 : wr.cell? ⟨w.heap.size + 1 + 1 + 1, 0, none⟩ = some v := bo.out.cell 0
      go_wp2_with fail
      go_ret
      exact ⟨_, rfl, hown.out, hbel.out⟩
end Go.Proofs.Ytmnhdpojonlfhaa
