/- The law TreeStops. -/
import Derived.Test.YtbhofablndjeoaaDoorTmI
import Derived.Test.YtbhofablndjeoaaDoorTj
import Derived.Deep.DeepCutAuto
namespace Go.Proofs.YtbhofablndjeoaaDoor
open Go.RowKit
set_option linter.unusedSimpArgs false
set_option linter.unusedVariables false
theorem wp_storeAc {dst : Option Tmp} {x y : Operand} {ty : TypeId} {pos : String} {after : Array Edge} {guard : Option (Nat × Bool)} {a : Act} {w : World} {next : Act → World → Prop} {Q : Exit → Act → World → Prop} :
    Oper.wp Tryd.prog ⟨dst, .store 42 x y, ty, pos, after, guard⟩ a w next Q = StoreW Tryd.prog ⟨dst, .store 42 x y, ty, pos, after, guard⟩ 42 (a.eval x) (a.eval y) a w next Q := rfl
attribute [local go_sem ↓] wp_loadPt wp_storePt wp_loadNd wp_storeNd wp_loadAc wp_storeAc wp_binNd
theorem encAc_ones (x : ActA) : ∀ u ∈ encAc x, u.oneCell' = true := by
  intro u hu
  simp only [encAc, List.mem_cons, List.not_mem_nil, or_false] at hu
  rcases hu with rfl | rfl | rfl | rfl <;> rfl
/-- two stores, and blocks beside them -/
structure LpT (mb ob : Nat) (w wr : World) (st so : MemT) (F Fo : Nat → Prop) (bs : List (Nat × Nat × List Value)) : Prop where
  at_ : (memC mb).At (fun x => x = mb) st w wr F
  o : memIs ob wr so Fo
  dis : ∀ k, F k → ¬ Fo k
  ge : ∀ k, Fo k → w.heap.size ≤ k
  kb : ∀ b ∈ bs, Blk wr b.1 b.2.1 b.2.2
  fr : ∀ b ∈ bs, ¬ F b.1 ∧ ¬ Fo b.1
section
variable {mb ob : Nat} {w wr wc : World} {st so s2 : MemT} {F Fo : Nat → Prop} {bs : List (Nat × Nat × List Value)}
theorem LpT.below (h : LpT mb ob w wr st so F Fo bs) (hb : Below wr.heap.size wr wc) : LpT mb ob w wc st so F Fo bs :=
  ⟨h.at_.below hb, StoreC.below (C := memC ob) h.o hb, h.dis, h.ge, fun b hm => (h.kb b hm).below hb, h.fr⟩
theorem LpT.olt (h : LpT mb ob w wr st so F Fo bs) : ∀ k, Fo k → k < wr.heap.size := fun k hk => (memC ob).lt h.o k hk
theorem LpT.stepM (h : LpT mb ob w wr st so F Fo bs) (hs : (memC mb).Step F s2 wr wc) : ∃ F3, LpT mb ob w wc s2 so F3 Fo bs := by
  obtain ⟨F3, hat, hfr, hm⟩ := h.at_.step hs
  exact ⟨F3, hat, (memC ob).keep h.o hm.size (fun k hk => hm.block k (h.olt k hk) (fun hf => h.dis k hf hk)), fun k hf hk => hfr k (h.olt k hk) (fun hf' => h.dis k hf' hk) hf, h.ge,
    fun b hb => hm.blk (h.kb b hb) (h.fr b hb).1, fun b hb => ⟨hfr _ (h.kb b hb).lt (h.fr b hb).1, (h.fr b hb).2⟩⟩
theorem LpT.stepO (h : LpT mb ob w wr st so F Fo bs) (hs : (memC ob).Step Fo s2 wr wc) : ∃ Fo3, LpT mb ob w wc st s2 F Fo3 bs := by
  obtain ⟨Fo3, h1, hm, h3⟩ := hs
  refine ⟨Fo3, ⟨(memC mb).keep h.at_.1 hm.size (fun k hk => hm.block k ((memC mb).lt h.at_.1 k hk) (h.dis k hk)), h.at_.2.1.trans hm (fun x hx hf => by have := h.ge x hf; omega), h.at_.2.2⟩, h1, fun k hk hf => ?_, fun k hk => ?_,
    fun b hb => hm.blk (h.kb b hb) (h.fr b hb).2, fun b hb => ⟨(h.fr b hb).1, fun hf => ?_⟩⟩
  · rcases h3 k hf with h4 | h4
    · exact h.dis k hk h4
    · have := (memC mb).lt h.at_.1 k hk; omega
  · rcases h3 k hk with h4 | h4
    · exact h.ge k h4
    · have := h.at_.size; omega
  · rcases h3 _ hf with h4 | h4
    · exact (h.fr b hb).2 h4
    · have := (h.kb b hb).lt; omega
theorem LpT.new (h : LpT mb ob w wr st so F Fo bs) (e : Nat) (cs : List Value) : LpT mb ob w (wr.alloc (.cells cs.toArray e)) st so F Fo ((wr.heap.size, e, cs) :: bs) := by
  have hb : Below wr.heap.size wr (wr.alloc (.cells cs.toArray e)) := (Below.refl _ _).alloc (Nat.le_refl _) _
  have h1 := h.below hb
  refine ⟨h1.at_, h1.o, h1.dis, h1.ge, fun b hm => ?_, fun b hm => ?_⟩
  · rcases List.mem_cons.1 hm with rfl | hm
    · exact Blk.new wr _ _
    · exact h1.kb b hm
  · rcases List.mem_cons.1 hm with rfl | hm
    · exact ⟨h.at_.fresh (Nat.le_refl _), fun hf => by have := h.olt _ hf; dsimp only at this; omega⟩
    · exact h1.fr b hm
theorem LpT.blk0 {g e : Nat} {cs : List Value} (h : LpT mb ob w wr st so F Fo ((g, e, cs) :: bs)) : Blk wr g e cs := h.kb (g, e, cs) (by simp)
theorem LpT.blk1 {g e : Nat} {cs : List Value} {c : Nat × Nat × List Value} (h : LpT mb ob w wr st so F Fo (c :: (g, e, cs) :: bs)) : Blk wr g e cs := h.kb (g, e, cs) (by simp)
theorem LpT.blk2 {g e : Nat} {cs : List Value} {c d : Nat × Nat × List Value} (h : LpT mb ob w wr st so F Fo (c :: d :: (g, e, cs) :: bs)) : Blk wr g e cs := h.kb (g, e, cs) (by simp)
theorem LpT.blk3 {g e : Nat} {cs : List Value} {b c d : Nat × Nat × List Value} (h : LpT mb ob w wr st so F Fo (b :: c :: d :: (g, e, cs) :: bs)) : Blk wr g e cs := h.kb (g, e, cs) (by simp)
theorem LpT.old {w0 : World} (h : LpT mb ob w wr st so F Fo bs) (hb : Below w0.heap.size w0 w) (hm : w0.heap.size ≤ mb) : Below w0.heap.size w0 wr :=
  hb.trans (h.at_.2.1.toBelow (B := w0.heap.size) (fun k hk => by omega) hb.size)
end
theorem LpI.two {mb gN gE k f : Nat} {w wE w2 : World} {n : NodeT} {st : MemT} {F : Nat → Prop} {v : Value} (h : LpI mb gN w wE k n st F) (hg : ∀ x, F x → x < gE) (hN : gN < gE) (hw : w.heap.size ≤ gE) (hgrow : wE.grownBy w2 (some gE)) (hown : w2.ownsRow gE 9 1 v st.L.length (encS (bts st.L))) (hf : f ≤ 1000) :
    ∃ Fo, LpT mb w2.heap.size w (w2.alloc (.cells #[v, .int .i64 0, .int .i64 (f : Nat)] 27)) st ⟨st.L, 0, f⟩ F Fo [(gN, 37, encN n)] := by
  obtain ⟨w3, hw3⟩ : ∃ w3, w3 = w2.alloc (.cells #[v, .int .i64 0, .int .i64 (f : Nat)] 27) := ⟨_, rfl⟩
  have hb3 : Below w2.heap.size w2 w3 := by rw [hw3]; exact (Below.refl _ _).alloc (Nat.le_refl _) _
  have hs2 := hgrow.size
  have hm : Mod (fun k => k = gE) wE w3 := (Mod.grown (F := fun k => k = gE) hgrow rfl).trans' hb3
  have hB : Blk w3 w2.heap.size 27 [v, .int .i64 0, .int .i64 (f : Nat)] := by rw [hw3]; exact Blk.new w2 _ _
  rw [← hw3]
  have hsE := h.at_.size
  have hvl : ∀ g, v.ownBlock = some g → gE ≤ g ∧ g < w2.heap.size := fun g hg => hown.lt g hg
  refine ⟨fun x => x = w2.heap.size ∨ v.ownBlock = some x, ⟨⟨(memC mb).keep h.at_.1 hm.size (fun x hx => hm.block x ((memC mb).lt h.at_.1 x hx) (fun e => by have := hg x hx; omega)), h.at_.2.1.trans hm (fun x hx e => by omega), h.at_.2.2⟩,
    ⟨v, ⟨hB, owns_below (owns_weaken hown (Nat.zero_le _)) hb3, fun e => by have := (hvl _ e).2; omega, by show 0 < 1000000000; omega, hf⟩, fun x => Iff.rfl⟩, fun x hx hf => ?_, fun x hx => ?_, fun b hb => ?_, fun b hb => ?_⟩⟩
  · have h1 := hg x hx
    have h2 := (memC mb).lt h.at_.1 x hx
    rcases hf with rfl | hf
    · omega
    · have := (hvl x hf).1; omega
  · rcases hx with rfl | hx
    · omega
    · have := (hvl x hx).1; omega
  · simp only [List.mem_cons, List.not_mem_nil, or_false] at hb
    subst hb
    exact hm.blk h.bn (by dsimp only; omega)
  · simp only [List.mem_cons, List.not_mem_nil, or_false] at hb
    subst hb
    have hl := h.bn.lt
    exact ⟨h.fN, fun hf => by
      rcases hf with hf | hf
      · dsimp only at hf; omega
      · have := (hvl _ hf).1; dsimp only at this; omega⟩
theorem range_andB {w : World} {g e : Nat} {cs : List Value} {P : Prop} (h : P ∧ Blk w g e cs) : w.rangeAt g 0 cs := range_blk h.2
/-- the second store awakes -/
theorem LpT.wake {mb ob : Nat} {w wr : World} {st so : MemT} {F Fo : Nat → Prop} {bs : List (Nat × Nat × List Value)} (h : LpT mb ob w wr st so F Fo bs) : LpT mb ob w (wr.setCell ⟨ob, 2, none⟩ (.int .i64 0)) st ⟨so.L, so.count, 0⟩ F Fo bs := by
  obtain ⟨v, hm, hF⟩ := h.o
  have ho : Fo ob := (hF ob).2 (.inl rfl)
  have hnF : ¬ F ob := fun hf => h.dis ob hf ho
  refine ⟨h.at_.set (h.ge ob ho) hnF, ⟨v, ⟨?_, ?_, hm.nb, hm.cnt, by show 0 ≤ 1000; omega⟩, hF⟩, h.dis, h.ge, fun b hb => ?_, h.fr⟩
  · have := hm.blk.setCell 2 (.int .i64 0)
    simpa using this
  · exact (((Mod.refl (fun k => k = ob) wr).setCell (j := 2) (u := .int .i64 0) (.inl rfl))).rowN hm.row (fun g hg e => hm.nb (by rw [hg, e]))
  · refine (h.kb b hb).other ?_ _
    intro e
    exact (h.fr b hb).2 (by rw [e]; exact ho)
theorem LpT.oc2 {mb ob : Nat} {w wr : World} {st so : MemT} {F Fo : Nat → Prop} {bs : List (Nat × Nat × List Value)} (h : LpT mb ob w wr st so F Fo bs) : wr.cell? ⟨ob, 2, none⟩ = some (.int .i64 (so.fails : Nat)) ∧ wr.frozen? ⟨ob, 2, none⟩ = false := by
  obtain ⟨v, hm, hF⟩ := h.o
  exact ⟨hm.blk.cell 2, Blk.frozen hm.blk 2⟩
theorem store_newAc (x : ActA) (w : World) (op : Oper) (a : Act) (next : Act → World → Prop) (Q : Exit → Act → World → Prop) : StoreW Tryd.prog op 42 (.pointer (some ⟨w.heap.size, 0, none⟩)) (.agg (encAc x).toArray) a (w.alloc (.cells #[.int .u8 0, .int .i64 0, .int .i64 0, .int .u8 0] 42)) next Q = next (a.put op.dst undef) (w.alloc (.cells (encAc x).toArray 42)) := by
  have h := Blk.new w 42 (#[.int .u8 0, .int .i64 0, .int .i64 0, .int .u8 0] : Array Value).toList
  have e := setCells_alloc w 42 (encAc x) (#[.int .u8 0, .int .i64 0, .int .i64 0, .int .u8 0] : Array Value).toList rfl
  have s := storeW_part (P := Tryd.prog) (t := 42) (o := 0) (cs := encAc x) h (Nat.le_refl 4) iszAc (encAc_ones x) op a next Q
  rw [e] at s
  exact s
theorem bnW_nilNd {p : NodeT} (hp : p.wf) (o : Oper) (x y : Operand) (a : Act) (W : World) (next : Act → World → Prop) (Q : Exit → Act → World → Prop) : BnW Tryd.prog o .eql 37 x y (.agg (encN p).toArray) (.agg #[.int .i64 0, .int .i64 0, .int .i64 0, .int .i64 0, .int .i64 0, .bool false, .int .i64 0, .int .i64 0, .int .i64 0, .int .u64 0, .int .u64 0, .int .u64 0, .int .u64 0]) a W next Q = next (a.put o.dst (.bool (decide (p = nD)))) W :=
  bnW_eqlNd hp nD_wf o x y a W next Q
set_option maxHeartbeats 4000000 in
set_option maxRecDepth 100000 in
theorem stops_any (a : Option Addr) (len cap : Nat) (zs : List ActA) (fl : Nat) (w : World) (h : ZSl w a len cap zs) (hf : fl ≤ 255) :
    Calls Tryd.prog 4 #[.slice a len cap, .int .u8 fl] w fun e w' => e = .returned (.bool true) ∧ Below w.heap.size w w' := by
  have HAW := Lib.hid awake14_any
  have hmx := h.mx
  by_cases hlen : 40 < len
  · have q1 : (40 : Int) < (len : Int) := by omega
    go_enter Tryd.func4, Tryd.ntmps4
    go_wp2_with fail
    refine (HAW.out _).mono ?_
    rintro e w1 ⟨rfl, hb1⟩
    have HB1 := Lib.hid hb1
    clear hb1
    go_wp2_with fail
    refine (HAW.out _).mono ?_
    rintro e w2 ⟨rfl, hb2⟩
    have hfin := HB1.out.trans (hb2.mono HB1.out.size)
    go_wp2_with fail
    go_ret
    exact ⟨rfl, hfin⟩
  by_cases hz : len = 0
  · have q1 : ¬ (40 : Int) < (len : Int) := by omega
    have q5 : (len : Int) = 0 := by omega
    have q6 : ((len : Int) == 0) = true := by simp; omega
    go_enter Tryd.func4, Tryd.ntmps4
    go_wp2_with fail
    refine (HAW.out _).mono ?_
    rintro e w1 ⟨rfl, hb1⟩
    have HB1 := Lib.hid hb1
    clear hb1
    go_wp2_with fail
    refine (HAW.out _).mono ?_
    rintro e w2 ⟨rfl, hb2⟩
    have hfin := HB1.out.trans (hb2.mono HB1.out.size)
    go_wp2_with fail
    go_ret
    exact ⟨rfl, hfin⟩
  · have q1 : ¬ (40 : Int) < (len : Int) := by omega
    have q1' : (len : Int) ≤ 40 := by omega
    have hl0 : 0 < len := by omega
    have q6 : ((len : Int) == 0) = false := by simp; omega
    go_enter Tryd.func4, Tryd.ntmps4
    go_wp2_with fail
    refine (HAW.out _).mono ?_
    rintro e w1 ⟨rfl, hb1⟩
    have HB1 := Lib.hid hb1
    clear hb1
    go_upto_region 5 with fail
    have hst := fun op a next Q => store_newZNd (w1.alloc (.cells mem0.toArray 27)) op a next Q
    obtain ⟨mb, hmb⟩ : ∃ mb, mb = w1.heap.size := ⟨_, rfl⟩
    obtain ⟨gN, hgN⟩ : ∃ gN, gN = w1.heap.size + 1 := ⟨_, rfl⟩
    obtain ⟨wm, hwm⟩ : ∃ wm, wm = w1.alloc (.cells mem0.toArray 27) := ⟨_, rfl⟩
    obtain ⟨wB, hwB⟩ : ∃ wB, wB = wm.alloc (.cells (encN nD).toArray 37) := ⟨_, rfl⟩
    have hsm : wm.heap.size = w1.heap.size + 1 := by rw [hwm]; simp
    have hLP : LpI mb gN wm wB 0 nD s0 (fun x => x = mb) := by
      have hm0 : memIs mb wm s0 (fun k => k = mb) := by rw [hwm]; exact mem_new hmb.symm
      refine ⟨(StoreC.At.start (C := memC mb) hm0).below (by rw [hwB]; exact (Below.refl _ _).alloc (Nat.le_refl _) _), ?_, by omega, Rn.start, NW.start _, Uq.start _⟩
      rw [hwB]; exact Blk.newAt _ _ (by omega)
    have hold : Below w.heap.size w wm := by
      rw [hwm]; exact HB1.out.alloc HB1.out.size _
    have HLP := Lib.hid hLP
    have HOLD := Lib.hid hold
    have HMB : Hid (w.heap.size ≤ mb) := Lib.hid (by rw [hmb]; exact HB1.out.size)
    have HGN : Hid (wm.heap.size ≤ gN) := Lib.hid (by omega)
    have HZ := Lib.hid (fun (hn : 0 < len) => h.cells hn)
    rw [show w1.alloc (.cells #[.slice none 0 0, .int .i64 0, .int .i64 0] 27) = wm from hwm.symm] at *
    rw [← hwm] at hst
    rw [← hwB, hsm] at hst
    rw [hst, ← hgN, ← hmb]
    clear hmb hgN hwm hLP hold hwB hsm hst
    go_wp2_with fail
    go_loopw [7] (fun vi wr => ∃ (i : Nat) (n : NodeT) (st : MemT) (F : Nat → Prop), vi = .int .i64 i ∧ i ≤ len - 1 ∧ Hid (LpI mb gN wm wr i n st F)) (fun vi _ => len - (intOf vi).toNat)
    case atStart => exact ⟨0, nD, s0, _, rfl, Nat.zero_le _, HLP⟩
    case round =>
      obtain ⟨i, n, st, F, rfl, hil, HLI⟩ := hrel
      by_cases hlt : i < len - 1
      · have q2 : (i : Int) < (len : Int) - 1 := by omega
        have q2' : (i : Int) < (len : Int) := by omega
        have q3 : 0 ≤ (i : Int) := by omega
        have hi40 : i ≤ 40 := by omega
        obtain ⟨b, off0, rfl, HZ2⟩ : ∃ b off, a = some ⟨b, off, none⟩ ∧ Hid (∀ W, Below w.heap.size w W → ∀ k, k < len → (zs.getD k aT).ok ∧ W.rangeAt b (off + k * 4) (encAc (zs.getD k aT))) := by
          obtain ⟨b, off, e, _, h2⟩ := HZ.out (by omega)
          exact ⟨b, off, e, Lib.hid h2⟩
        have HXO := Lib.hid (HZ2.out wm HOLD.out i (by omega)).1
        obtain ⟨rv, s2, hd, hrn, hext, hnw, huq, htw⟩ := rn_done HLI.out.rn (by omega) HLI.out.nw HLI.out.uq (zs.getD i aT)
        have HD := Lib.hid hd
        have HRN := Lib.hid hrn
        have HNW := Lib.hid hnw
        have HUQ := Lib.hid huq
        have HTW := Lib.hid (htw.imp And.left id)
        have HRK : Hid (memOk s2) := Lib.hid (hrn.ok (by omega))
        clear hd hrn hext hnw huq htw
        go_upto_region 8 with fail
        go_cut [8, 9] (fun vx ve wx => ∃ g F3, vx = .pointer (some ⟨g, 0, none⟩) ∧ ve = .int .i64 (errV rv : Nat) ∧ Hid (LpX mb gN wm wx (i + 1) n g rv s2 F3))
        case first =>
          have hold0 : Below w.heap.size w wr.drew := HOLD.out.trans (((HLI.out.at_.below (Below.refl _ _).drew).2.1).toBelow (B := w.heap.size) (fun k hk => by have := HMB.out; omega) HOLD.out.size)
          refine wp_region_held_drew (S := fun w' => Blk w' gN 37 (encN n) ∧ w'.rangeAt b (off0 + i * 4) (encAc (zs.getD i aT))) (by kernel_rfl) ⟨HLI.out.bn.drew, (HZ2.out _ hold0 i (by omega)).2⟩ (fun hS0 => ?_)
          refine wpAnyH_take (i := 0) (oi := ?oic0) (v := ?vc0) ?hic0 ?hsc0 ?hfc0 ?hrc0 ?hQc0 ?hyc0 ?hSc0 ?hc0
          case hic0 => (simp only [List.getElem?_toArray, List.getElem?_cons_succ, List.getElem?_cons_zero]; rfl)
          case hsc0 => kernel_rfl
          case hfc0 => kernel_rfl
          case hrc0 => kernel_rfl
          case hSc0 => first | assumption | trivial
          case hyc0 => refine Or.inl ⟨by kernel_rfl, ?_⟩; (intro w hSw; (try dsimp only at hSw); go_simp; try with_reducible rfl)
          case hQc0 => exact fun _ _ _ h => h
          try simp only [Act.put, List.setIfInBounds_toArray, List.set_cons_zero, List.set_cons_succ]
          refine wpAnyH_take (i := 1) (oi := ?oic1) (v := ?vc1) ?hic1 ?hsc1 ?hfc1 ?hrc1 ?hQc1 ?hyc1 ?hSc1 ?hc1
          case hic1 => (simp only [List.getElem?_toArray, List.getElem?_cons_succ, List.getElem?_cons_zero]; rfl)
          case hsc1 => kernel_rfl
          case hfc1 => kernel_rfl
          case hrc1 => kernel_rfl
          case hSc1 => first | assumption | trivial
          case hyc1 => refine yieldsIf_load_mid (by kernel_rfl) 37 (.tmp 6) ?_ gN (0) ?_ (encN n) _ (fun w' hw => range_and1 hw) Tryd.underlying37 rfl iszNd <;> rfl
          case hQc1 => exact fun _ _ _ h => h
          try simp only [Act.put, List.setIfInBounds_toArray, List.set_cons_zero, List.set_cons_succ]
          refine wpAnyH_take (i := 2) (oi := ?oic2) (v := ?vc2) ?hic2 ?hsc2 ?hfc2 ?hrc2 ?hQc2 ?hyc2 ?hSc2 ?hc2
          case hic2 => (simp only [List.getElem?_toArray, List.getElem?_cons_succ, List.getElem?_cons_zero]; rfl)
          case hsc2 => kernel_rfl
          case hfc2 => kernel_rfl
          case hrc2 => kernel_rfl
          case hSc2 => first | assumption | trivial
          case hyc2 => refine Or.inl ⟨by kernel_rfl, ?_⟩; (intro w hSw; (try dsimp only at hSw); go_simp; try with_reducible rfl)
          case hQc2 => exact fun _ _ _ h => h
          try simp only [Act.put, List.setIfInBounds_toArray, List.set_cons_zero, List.set_cons_succ]
          refine wpAnyH_take (i := 3) (oi := ?oic3) (v := ?vc3) ?hic3 ?hsc3 ?hfc3 ?hrc3 ?hQc3 ?hyc3 ?hSc3 ?hc3
          case hic3 => (simp only [List.getElem?_toArray, List.getElem?_cons_succ, List.getElem?_cons_zero]; rfl)
          case hsc3 => kernel_rfl
          case hfc3 => kernel_rfl
          case hrc3 => kernel_rfl
          case hSc3 => first | assumption | trivial
          case hyc3 => refine Or.inl ⟨by kernel_rfl, ?_⟩; (intro w hSw; (try dsimp only at hSw); go_simp; try with_reducible rfl)
          case hQc3 => exact fun _ _ _ h => h
          try simp only [Act.put, List.setIfInBounds_toArray, List.set_cons_zero, List.set_cons_succ]
          refine wpAnyH_take (i := 4) (oi := ?oic4) (v := ?vc4) ?hic4 ?hsc4 ?hfc4 ?hrc4 ?hQc4 ?hyc4 ?hSc4 ?hc4
          case hic4 => (simp only [List.getElem?_toArray, List.getElem?_cons_succ, List.getElem?_cons_zero]; rfl)
          case hsc4 => kernel_rfl
          case hfc4 => kernel_rfl
          case hrc4 => kernel_rfl
          case hSc4 => first | assumption | trivial
          case hyc4 => refine Or.inl ⟨by kernel_rfl, ?_⟩; (intro w hSw; (try dsimp only at hSw); go_simp; first | with_reducible rfl | rw [if_pos (by omega)])
          case hQc4 => exact fun _ _ _ h => h
          try simp only [Act.put, List.setIfInBounds_toArray, List.set_cons_zero, List.set_cons_succ]
          refine wpAnyH_take (i := 5) (oi := ?oic5) (v := ?vc5) ?hic5 ?hsc5 ?hfc5 ?hrc5 ?hQc5 ?hyc5 ?hSc5 ?hc5
          case hic5 => (simp only [List.getElem?_toArray, List.getElem?_cons_succ, List.getElem?_cons_zero]; rfl)
          case hsc5 => kernel_rfl
          case hfc5 => kernel_rfl
          case hrc5 => kernel_rfl
          case hSc5 => first | assumption | trivial
          case hyc5 => refine yieldsIf_load_mid (by kernel_rfl) 42 (.tmp 44) ?_ b ((off0 + i * 4)) ?_ (encAc (zs.getD i aT)) _ (fun w' hw => range_and2 hw) Tryd.underlying42 rfl iszAc <;> rfl
          case hQc5 => exact fun _ _ _ h => h
          try simp only [Act.put, List.setIfInBounds_toArray, List.set_cons_zero, List.set_cons_succ]
          refine wpAnyH_ready (rs := [6, 10]) (by kernel_rfl) (by simp) ?_
          refine AllReadyH.cons (by simp only [List.getElem?_toArray, List.getElem?_cons_succ, List.getElem?_cons_zero]; rfl) (fun K hK => ?_) (AllReadyH.cons (by simp only [List.getElem?_toArray, List.getElem?_cons_succ, List.getElem?_cons_zero]; rfl) (fun K hK => ?_) AllReadyH.nil)
          · go_simp
            have HLW := Lib.hid (HLI.out.below (wr' := wr.drew) (Below.refl _ _).drew)
            refine (done_any HLW.out.at_.1 n (HLW.out.nwf (by omega)) (zs.getD i aT) HXO.out (by rw [HD.out]; exact HRK.out)).mono ?_
            rintro e w6 ⟨hpr, hstep6⟩
            rw [HD.out] at hpr hstep6
            have hpe := NdR.val hpr
            subst hpe
            obtain ⟨F3, hat6, hfr6, hm6⟩ := HLW.out.at_.step hstep6
            have hbn6 := hm6.blk HLW.out.bn HLW.out.fN
            have hfN6 := hfr6 _ HLW.out.bn.lt HLW.out.fN
            have hold6 := HOLD.out.trans (hat6.2.1.toBelow (B := w.heap.size) (fun k hk => by have := HMB.out; omega) HOLD.out.size)
            have hra6 := (HZ2.out w6 hold6 i (by omega)).2
            clear hfr6 hstep6 hm6
            try dsimp only
            refine hK.out _ _ (⟨hbn6, hra6⟩) (fun hScp6 => ?_)
            try simp only [Act.put, List.setIfInBounds_toArray, List.set_cons_zero, List.set_cons_succ]
            refine wpAnyH_take (i := 7) (oi := ?oicp7) (v := ?vcp7) ?hicp7 ?hscp7 ?hfcp7 ?hrcp7 ?hQcp7 ?hycp7 ?hScp7 ?hcp7
            case hicp7 => (simp only [List.getElem?_toArray, List.getElem?_cons_succ, List.getElem?_cons_zero]; rfl)
            case hscp7 => kernel_rfl
            case hfcp7 => kernel_rfl
            case hrcp7 => kernel_rfl
            case hScp7 => first | assumption | trivial
            case hycp7 => refine Or.inl ⟨by kernel_rfl, ?_⟩; (intro w hSw; (try dsimp only at hSw); go_simp; try with_reducible rfl)
            case hQcp7 => exact fun _ _ _ h => h
            try simp only [Act.put, List.setIfInBounds_toArray, List.set_cons_zero, List.set_cons_succ]
            refine wpAnyH_take (i := 8) (oi := ?oicp8) (v := ?vcp8) ?hicp8 ?hscp8 ?hfcp8 ?hrcp8 ?hQcp8 ?hycp8 ?hScp8 ?hcp8
            case hicp8 => (simp only [List.getElem?_toArray, List.getElem?_cons_succ, List.getElem?_cons_zero]; rfl)
            case hscp8 => kernel_rfl
            case hfcp8 => kernel_rfl
            case hrcp8 => kernel_rfl
            case hScp8 => first | assumption | trivial
            case hycp8 => refine Or.inl ⟨by kernel_rfl, ?_⟩; (intro w hSw; (try dsimp only at hSw); go_simp; try with_reducible rfl)
            case hQcp8 => exact fun _ _ _ h => h
            try simp only [Act.put, List.setIfInBounds_toArray, List.set_cons_zero, List.set_cons_succ]
            refine wpAnyH_take (i := 9) (oi := ?oicp9) (v := ?vcp9) ?hicp9 ?hscp9 ?hfcp9 ?hrcp9 ?hQcp9 ?hycp9 ?hScp9 ?hcp9
            case hicp9 => (simp only [List.getElem?_toArray, List.getElem?_cons_succ, List.getElem?_cons_zero]; rfl)
            case hscp9 => kernel_rfl
            case hfcp9 => kernel_rfl
            case hrcp9 => kernel_rfl
            case hScp9 => first | assumption | trivial
            case hycp9 => refine Or.inl ⟨by kernel_rfl, ?_⟩; (intro w hSw; (try dsimp only at hSw); go_simp; try with_reducible rfl)
            case hQcp9 => exact fun _ _ _ h => h
            try simp only [Act.put, List.setIfInBounds_toArray, List.set_cons_zero, List.set_cons_succ]
            refine wpAnyH_ready (rs := [10]) (by kernel_rfl) (by simp) ?_
            refine AllReadyH.cons (by simp only [List.getElem?_toArray, List.getElem?_cons_succ, List.getElem?_cons_zero]; rfl) (fun K hK => ?_) AllReadyH.nil
            go_simp
            skip
            refine hK.out _ _ (⟨hbn6.alloc _, (HZ2.out _ (hold6.alloc hold6.size _) i (by omega)).2⟩) (fun hScp10 => ?_)
            try simp only [Act.put, List.setIfInBounds_toArray, List.set_cons_zero, List.set_cons_succ]
            refine wpAnyH_ready (rs := [11]) (by kernel_rfl) (by simp) ?_
            refine AllReadyH.cons (by simp only [List.getElem?_toArray, List.getElem?_cons_succ, List.getElem?_cons_zero]; rfl) (fun K hK => ?_) AllReadyH.nil
            rw [if_pos (by kernel_rfl)]
            refine wp_store_mid 37 (.tmp 8) (.tmp 47) rfl w6.heap.size (0) (encN (ndV rv)).toArray rfl rfl (blk_there (Blk.new w6 37 (encN nD)) (Nat.le_refl 13)) iszNd (all_oneCell_toArray (encN_ones _)) ?_
            refine hK.out _ _ (⟨(hbn6.alloc _).away 0 _ (by have := hbn6.lt; omega), (HZ2.out _ (HOLD.out.trans (((hat6.below ((Below.refl _ _).alloc (Nat.le_refl _) (.cells (encN nD).toArray 37))).put (o := 0) (vs := encN (ndV rv)) hat6.size (hat6.fresh (Nat.le_refl _))).2.1.toBelow (B := w.heap.size) (fun k hk => by have := HMB.out; omega) HOLD.out.size)) i (by omega)).2⟩) (fun hScp11 => ?_)
            try simp only [Act.put, List.setIfInBounds_toArray, List.set_cons_zero, List.set_cons_succ]
            refine wpAnyH_take (i := 12) (oi := ?oicp12) (v := ?vcp12) ?hicp12 ?hscp12 ?hfcp12 ?hrcp12 ?hQcp12 ?hycp12 ?hScp12 ?hcp12
            case hicp12 => (simp only [List.getElem?_toArray, List.getElem?_cons_succ, List.getElem?_cons_zero]; rfl)
            case hscp12 => kernel_rfl
            case hfcp12 => kernel_rfl
            case hrcp12 => kernel_rfl
            case hScp12 => first | assumption | trivial
            case hycp12 => refine Or.inl ⟨by kernel_rfl, ?_⟩; (intro w hSw; (try dsimp only at hSw); go_simp; try with_reducible rfl)
            case hQcp12 => exact fun _ _ _ h => h
            try simp only [Act.put, List.setIfInBounds_toArray, List.set_cons_zero, List.set_cons_succ]
            have HT : Hid (LpX mb gN wm ((w6.alloc (.cells (encN nD).toArray 37)).setCells w6.heap.size 0 (encN (ndV rv))) (i + 1) n w6.heap.size rv s2 F3) := Lib.hid ⟨(hat6.below ((Below.refl _ _).alloc (Nat.le_refl _) _)).put hat6.size (hat6.fresh (Nat.le_refl _)), (hbn6.alloc _).away 0 _ (by have := hbn6.lt; omega), (Blk.new w6 37 (encN nD)).put rfl, hfN6, hat6.fresh (Nat.le_refl _), by have := hbn6.lt; omega, HRN.out, HNW.out, HUQ.out, HTW.out⟩
            refine wpAnyH_done (by kernel_rfl) ?_ _
            go_wp2_with fail
            go_meet
            exact ⟨_, F3, rfl, rfl, HT⟩
          · go_simp
            skip
            refine hK.out _ _ (⟨HLI.out.bn.drew.alloc _, (HZ2.out _ (HOLD.out.trans ((HLI.out.at_.below ((Below.refl _ _).drew.alloc (Nat.le_refl _) (.cells (encN nD).toArray 37))).2.1.toBelow (B := w.heap.size) (fun k hk => by have := HMB.out; omega) HOLD.out.size)) i (by omega)).2⟩) (fun hScq10 => ?_)
            try simp only [Act.put, List.setIfInBounds_toArray, List.set_cons_zero, List.set_cons_succ]
            refine wpAnyH_ready (rs := [6]) (by kernel_rfl) (by simp) ?_
            refine AllReadyH.cons (by simp only [List.getElem?_toArray, List.getElem?_cons_succ, List.getElem?_cons_zero]; rfl) (fun K hK => ?_) AllReadyH.nil
            go_simp
            have HLW := Lib.hid (HLI.out.below (wr' := (wr.drew.alloc (.cells (encN nD).toArray 37))) ((Below.refl _ _).drew.alloc (Nat.le_refl _) _))
            refine (done_any HLW.out.at_.1 n (HLW.out.nwf (by omega)) (zs.getD i aT) HXO.out (by rw [HD.out]; exact HRK.out)).mono ?_
            rintro e w6 ⟨hpr, hstep6⟩
            rw [HD.out] at hpr hstep6
            have hpe := NdR.val hpr
            subst hpe
            obtain ⟨F3, hat6, hfr6, hm6⟩ := HLW.out.at_.step hstep6
            have hbn6 := hm6.blk HLW.out.bn HLW.out.fN
            have hfN6 := hfr6 _ HLW.out.bn.lt HLW.out.fN
            have hold6 := HOLD.out.trans (hat6.2.1.toBelow (B := w.heap.size) (fun k hk => by have := HMB.out; omega) HOLD.out.size)
            have hra6 := (HZ2.out w6 hold6 i (by omega)).2
            have hbx6 : Blk w6 wr.heap.size 37 (encN nD) := hm6.blk (Blk.new wr.drew _ _) (HLI.out.at_.fresh (Nat.le_refl _))
            have hfX6 : ¬ F3 wr.heap.size := hfr6 _ (Blk.new wr.drew 37 (encN nD)).lt (HLI.out.at_.fresh (Nat.le_refl _))
            clear hfr6 hstep6 hm6
            try dsimp only
            refine hK.out _ _ (⟨hbn6, hra6⟩) (fun hScq6 => ?_)
            try simp only [Act.put, List.setIfInBounds_toArray, List.set_cons_zero, List.set_cons_succ]
            refine wpAnyH_take (i := 7) (oi := ?oicq7) (v := ?vcq7) ?hicq7 ?hscq7 ?hfcq7 ?hrcq7 ?hQcq7 ?hycq7 ?hScq7 ?hcq7
            case hicq7 => (simp only [List.getElem?_toArray, List.getElem?_cons_succ, List.getElem?_cons_zero]; rfl)
            case hscq7 => kernel_rfl
            case hfcq7 => kernel_rfl
            case hrcq7 => kernel_rfl
            case hScq7 => first | assumption | trivial
            case hycq7 => refine Or.inl ⟨by kernel_rfl, ?_⟩; (intro w hSw; (try dsimp only at hSw); go_simp; try with_reducible rfl)
            case hQcq7 => exact fun _ _ _ h => h
            try simp only [Act.put, List.setIfInBounds_toArray, List.set_cons_zero, List.set_cons_succ]
            refine wpAnyH_take (i := 8) (oi := ?oicq8) (v := ?vcq8) ?hicq8 ?hscq8 ?hfcq8 ?hrcq8 ?hQcq8 ?hycq8 ?hScq8 ?hcq8
            case hicq8 => (simp only [List.getElem?_toArray, List.getElem?_cons_succ, List.getElem?_cons_zero]; rfl)
            case hscq8 => kernel_rfl
            case hfcq8 => kernel_rfl
            case hrcq8 => kernel_rfl
            case hScq8 => first | assumption | trivial
            case hycq8 => refine Or.inl ⟨by kernel_rfl, ?_⟩; (intro w hSw; (try dsimp only at hSw); go_simp; try with_reducible rfl)
            case hQcq8 => exact fun _ _ _ h => h
            try simp only [Act.put, List.setIfInBounds_toArray, List.set_cons_zero, List.set_cons_succ]
            refine wpAnyH_take (i := 9) (oi := ?oicq9) (v := ?vcq9) ?hicq9 ?hscq9 ?hfcq9 ?hrcq9 ?hQcq9 ?hycq9 ?hScq9 ?hcq9
            case hicq9 => (simp only [List.getElem?_toArray, List.getElem?_cons_succ, List.getElem?_cons_zero]; rfl)
            case hscq9 => kernel_rfl
            case hfcq9 => kernel_rfl
            case hrcq9 => kernel_rfl
            case hScq9 => first | assumption | trivial
            case hycq9 => refine Or.inl ⟨by kernel_rfl, ?_⟩; (intro w hSw; (try dsimp only at hSw); go_simp; try with_reducible rfl)
            case hQcq9 => exact fun _ _ _ h => h
            try simp only [Act.put, List.setIfInBounds_toArray, List.set_cons_zero, List.set_cons_succ]
            refine wpAnyH_ready (rs := [11]) (by kernel_rfl) (by simp) ?_
            refine AllReadyH.cons (by simp only [List.getElem?_toArray, List.getElem?_cons_succ, List.getElem?_cons_zero]; rfl) (fun K hK => ?_) AllReadyH.nil
            rw [if_pos (by kernel_rfl)]
            refine wp_store_mid 37 (.tmp 8) (.tmp 47) rfl wr.heap.size (0) (encN (ndV rv)).toArray rfl rfl (blk_there hbx6 (Nat.le_refl 13)) iszNd (all_oneCell_toArray (encN_ones _)) ?_
            refine hK.out _ _ (⟨hbn6.away 0 _ (by have := HLI.out.bn.lt; omega), (HZ2.out _ (HOLD.out.trans ((hat6.put (o := 0) (vs := encN (ndV rv)) (HLI.out.at_.size) hfX6).2.1.toBelow (B := w.heap.size) (fun k hk => by have := HMB.out; omega) HOLD.out.size)) i (by omega)).2⟩) (fun hScq11 => ?_)
            try simp only [Act.put, List.setIfInBounds_toArray, List.set_cons_zero, List.set_cons_succ]
            refine wpAnyH_take (i := 12) (oi := ?oicq12) (v := ?vcq12) ?hicq12 ?hscq12 ?hfcq12 ?hrcq12 ?hQcq12 ?hycq12 ?hScq12 ?hcq12
            case hicq12 => (simp only [List.getElem?_toArray, List.getElem?_cons_succ, List.getElem?_cons_zero]; rfl)
            case hscq12 => kernel_rfl
            case hfcq12 => kernel_rfl
            case hrcq12 => kernel_rfl
            case hScq12 => first | assumption | trivial
            case hycq12 => refine Or.inl ⟨by kernel_rfl, ?_⟩; (intro w hSw; (try dsimp only at hSw); go_simp; try with_reducible rfl)
            case hQcq12 => exact fun _ _ _ h => h
            try simp only [Act.put, List.setIfInBounds_toArray, List.set_cons_zero, List.set_cons_succ]
            have HT : Hid (LpX mb gN wm (w6.setCells wr.heap.size 0 (encN (ndV rv))) (i + 1) n wr.heap.size rv s2 F3) := Lib.hid ⟨hat6.put HLI.out.at_.size hfX6, hbn6.away 0 _ (by have := HLI.out.bn.lt; omega), hbx6.put rfl, hfN6, hfX6, by have := HLI.out.bn.lt; omega, HRN.out, HNW.out, HUQ.out, HTW.out⟩
            refine wpAnyH_done (by kernel_rfl) ?_ _
            go_wp2_with fail
            go_meet
            exact ⟨_, F3, rfl, rfl, HT⟩
        obtain ⟨g, F3, rfl, rfl, HT⟩ := hcut
        rcases HT.out.two with rfl | ⟨q, rfl⟩
        · unfold errV
          go_wp2_with fail
          go_roundw
          case rel => exact ⟨i + 1, n, s2, F3, by go_num, by omega, Lib.hid ⟨HT.out.at_, HT.out.bn, HT.out.fN, HT.out.rn, HT.out.nw, HT.out.uq⟩⟩
          case measure => simp [intOf]; omega
        · unfold errV
          have hl := fun op a next Q => loadW_blk (P := Tryd.prog) HT.out.bx Tryd.underlying37 rfl iszNd op a next Q
          have hst := fun op a next Q => storeW_part (P := Tryd.prog) (t := 37) (o := 0) (cs := encN q) HT.out.bn (Nat.le_refl 13) iszNd (encN_ones _) op a next Q
          have HL2 : Hid (LpI mb gN wm (wc.setCells gN 0 (encN q)) (i + 1) q s2 F3) := Lib.hid ⟨HT.out.at_.put HGN.out HT.out.fN, HT.out.bn.put rfl, HT.out.fN, HT.out.rn, HT.out.nw, HT.out.uq⟩
          unfold ndV at hl
          go_wp2_with fail
          go_roundw
          case rel => exact ⟨i + 1, q, s2, F3, by go_num, by omega, HL2⟩
          case measure => simp [intOf]; omega
      · have q2 : ¬ ((i : Int) < (len : Int) - 1) := by omega
        have hik : i ≤ 40 := by omega
        obtain ⟨v, hmem, hF⟩ : memIs mb wr st F := HLI.out.at_.1
        obtain ⟨ao, cp, rfl⟩ := row_form hmem.row
        have hbE : Below wr.heap.size wr (wr.alloc (.cells #[] 9)) := (Below.refl _ _).alloc (Nat.le_refl _) _
        have hc0 : (wr.alloc (.cells #[] 9)).cell? ⟨mb, 0, none⟩ = some (.slice ao st.L.length cp) := (hmem.below hbE).c0
        have HRS : Hid (RSl (wr.alloc (.cells #[] 9)) 1 ao st.L.length cp (encS (bts st.L))) := Lib.hid ((rsl_of_owns hmem.row).below hbE)
        have HLE := Lib.hid (HLI.out.below hbE)
        have HNI : Hid ((wr.alloc (.cells #[] 9)).ownsRow wr.heap.size 9 1 (.slice (some ⟨wr.heap.size, 0, none⟩) 0 0) 0 []) := Lib.hid (blk_owns (n := 0) (cap := 0) (size := 1) (Blk.new wr 9 []) (Nat.le_refl _) (Nat.le_refl _) (by unfold maxLen; omega) rfl)
        have hll := HLI.out.rn.l
        have m1 : 0 + st.L.length ≤ maxLen := by unfold maxLen; omega
        have m2 : (0 + st.L.length) * 16 ≤ 140737488355328 := by omega
        have m3 : wr.heap.size ≤ (wr.alloc (.cells #[] 9)).heap.size := hbE.size
        obtain ⟨i0, hi, hi0, hi1, hi2⟩ := info_parts infoStr
        obtain ⟨f, hf'⟩ : ∃ f : Nat, f = 1 + fl % 12 := ⟨_, rfl⟩
        have HEF : Hid (1 + (fl : Int) % 12 = (f : Int)) := Lib.hid (by omega)
        have hf1 : f ≤ 1000 := by omega
        clear hmem hF hbE hf'
        go_upto_region 12 with (at_builtin; go_must (refine wpList_append_rsl rfl (.tmp 52) (.tmp 56) 25 rfl wr.heap.size 9 i0 (.string ⟨#[]⟩) 1 16 Tryd.underlying25 hi hi0 hi1 hi2 rfl (Nat.succ_pos 0) _ _ _ rfl HNI.out ao st.L.length cp (encS (bts st.L)) rfl HRS.out (encS_one _) m1 m2 m3 ?_; intro v2 w2 hown hgrow; obtain ⟨ao2, cp2, rfl⟩ := row_form hown))
        rw [HEF.out]
        have hown' : w2.ownsRow wr.heap.size 9 1 (.slice ao2 st.L.length cp2) st.L.length (encS (bts st.L)) := by rw [Nat.zero_add, List.nil_append] at hown; exact hown
        obtain ⟨Fo, hT⟩ := HLE.out.two (gE := wr.heap.size) (f := f) (fun x hx => HLI.out.at_.lt x hx) HLI.out.bn.lt HLI.out.at_.size hgrow hown' hf1
        obtain ⟨ob, hob⟩ : ∃ ob, ob = w2.heap.size := ⟨_, rfl⟩
        obtain ⟨w3, hw3⟩ : ∃ w3, w3 = w2.alloc (.cells #[.slice ao2 st.L.length cp2, .int .i64 0, .int .i64 (f : Nat)] 27) := ⟨_, rfl⟩
        rw [← hw3, ← hob] at hT
        have HT := Lib.hid hT
        obtain ⟨b, off0, rfl, HZ2⟩ : ∃ b off, a = some ⟨b, off, none⟩ ∧ Hid (∀ W, Below w.heap.size w W → ∀ k, k < len → (zs.getD k aT).ok ∧ W.rangeAt b (off + k * 4) (encAc (zs.getD k aT))) := by
          obtain ⟨b, off, e, _, h2⟩ := HZ.out (by omega)
          exact ⟨b, off, e, Lib.hid h2⟩
        obtain ⟨j, hj⟩ : ∃ j : Nat, (len : Int) - 1 = j := ⟨len - 1, by omega⟩
        have hjl : (j : Int) < (len : Int) := by omega
        have hj0 : 0 ≤ (j : Int) := by omega
        have hx2 := HZ2.out w3 (hT.old HOLD.out HMB.out) j (by omega)
        have HXO := Lib.hid hx2.1
        have hlx := fun op a next Q => loadW_mid (P := Tryd.prog) hx2.2 Tryd.underlying42 rfl iszAc op a next Q
        obtain ⟨x, hx⟩ : ∃ x, x = zs.getD j aT := ⟨_, rfl⟩
        rw [← hx] at HXO hlx
        have hst := fun op a next Q => store_newAc x w3 op a next Q
        have HT4 := Lib.hid (hT.new 42 (encAc x))
        obtain ⟨gX, hgX⟩ : ∃ gX, gX = w3.heap.size := ⟨_, rfl⟩
        rw [← hgX] at HT4
        have HRN := Lib.hid HLI.out.rn
        have HNW := Lib.hid HLI.out.nw
        have HNF := Lib.hid (HLI.out.nwf (by omega))
        obtain ⟨rv, s2, hd, hrn, hext, hnw, huq, htw⟩ := rn_done HLI.out.rn (by omega) HLI.out.nw HLI.out.uq x
        obtain ⟨rv', so, hd', hok', hfo, hcs⟩ := stops_law HLI.out.rn (by omega) HLI.out.nw x f hd htw
        have HDM := Lib.hid (done_any HT4.out.at_.1 n HNF.out x HXO.out (by rw [hd]; exact hrn.ok (by omega)))
        rw [hd] at HDM
        have HD' := Lib.hid hd'
        have HOK' := Lib.hid hok'
        have HFO := Lib.hid hfo
        have HCS := Lib.hid hcs
        have HR2 := Lib.hid hrn
        have HN2 := Lib.hid hnw
        rw [← hw3, ← hob]
        clear hx2 hx hT hw3 hob hown hgrow hown' hc0 hd hrn hext hnw huq htw hd' hok' hfo hcs
        go_upto_region 13 with fail
        obtain ⟨w4, hw4⟩ : ∃ w4, w4 = w3.alloc (.cells (encAc x).toArray 42) := ⟨_, rfl⟩
        rw [← hw4] at HT4 HDM
        rw [← hw4, ← hgX]
        clear hw4 hgX hst hlx
        have hl1 := fun op a next Q => loadW_blk (P := Tryd.prog) HT4.out.blk1 Tryd.underlying37 rfl iszNd op a next Q
        have hl2 := fun op a next Q => loadW_blk (P := Tryd.prog) HT4.out.blk0 Tryd.underlying42 rfl iszAc op a next Q
        go_wp2_with fail
        refine HDM.out.mono ?_
        rintro e w5 ⟨hpr, hstep⟩
        have hpe := NdR.val hpr
        subst hpe
        obtain ⟨F5, h5⟩ := HT4.out.stepM hstep
        have HT6 := Lib.hid (h5.new 37 (encN (ndV rv)))
        have hst := fun op a next Q => store_newNd (ndV rv) w5 op a next Q
        obtain ⟨gA, hgA⟩ : ∃ gA, gA = w5.heap.size := ⟨_, rfl⟩
        rw [← hgA] at HT6
        clear hl1 hl2 hpr hstep h5
        go_upto_region 14 with fail
        obtain ⟨w6, hw6⟩ : ∃ w6, w6 = w5.alloc (.cells (encN (ndV rv)).toArray 37) := ⟨_, rfl⟩
        rw [← hw6] at HT6
        rw [← hw6, ← hgA]
        clear hw6 hgA hst
        have HDM2 := Lib.hid (done_any (mb := ob) HT6.out.o n HNF.out x HXO.out (by rw [HD'.out]; exact HOK'.out))
        rw [HD'.out] at HDM2
        have hl1 := fun op a next Q => loadW_blk (P := Tryd.prog) HT6.out.blk2 Tryd.underlying37 rfl iszNd op a next Q
        have hl2 := fun op a next Q => loadW_blk (P := Tryd.prog) HT6.out.blk1 Tryd.underlying42 rfl iszAc op a next Q
        go_wp2_with fail
        refine HDM2.out.mono ?_
        rintro e w7 ⟨hpr, hstep⟩
        have hpe := NdR.val hpr
        subst hpe
        obtain ⟨F7, h7⟩ := HT6.out.stepO hstep
        have HT8 := Lib.hid (h7.new 37 (encN (ndV rv')))
        have hst := fun op a next Q => store_newNd (ndV rv') w7 op a next Q
        obtain ⟨gB, hgB⟩ : ∃ gB, gB = w7.heap.size := ⟨_, rfl⟩
        rw [← hgB] at HT8
        clear hl1 hl2 hpr hstep h7
        go_upto_region 15 with fail
        obtain ⟨w8, hw8⟩ : ∃ w8, w8 = w7.alloc (.cells (encN (ndV rv')).toArray 37) := ⟨_, rfl⟩
        rw [← hw8] at HT8
        rw [← hw8, ← hgB]
        clear hw8 hgB hst
        have HBEL := Lib.hid (HT8.out.old HOLD.out HMB.out)
        rcases HCS.out with ⟨rfl, rfl⟩ | ⟨q, rfl, ⟨rfl, hL, hRn⟩ | ⟨er, he, rfl⟩⟩
        · have hl1 := fun op a next Q => loadW_blk (P := Tryd.prog) HT8.out.blk1 Tryd.underlying37 rfl iszNd op a next Q
          have hl2 := fun op a next Q => loadW_blk (P := Tryd.prog) HT8.out.blk0 Tryd.underlying37 rfl iszNd op a next Q
          have hq := fun o x y a W next Q => bnW_eqlNd nD_wf nD_wf o x y a W next Q
          unfold errV
          unfold ndV at hl1 hl2
          go_wp2_with fail
          go_ret
          exact ⟨by simp, HBEL.out⟩
        · have hqw : q.wf := HN2.out.wf' (by have := HR2.out.l; omega)
          have HQW := Lib.hid hqw
          have HN3 : Hid (NW s2.L q) := HN2
          have hc2 := HT8.out.oc2
          obtain ⟨hc2, hz2⟩ := hc2
          have HT9 := Lib.hid HT8.out.wake
          have HL := Lib.hid hL
          have HRO := Lib.hid hRn
          unfold errV
          clear hqw hL hRn
          go_upto_region 20 with fail
          obtain ⟨w9, hw9⟩ : ∃ w9, w9 = w8.setCell ⟨ob, 2, none⟩ (.int .i64 0) := ⟨_, rfl⟩
          rw [← hw9] at HT9
          rw [← hw9]
          clear hw9 hc2 hz2
          have hqA : Blk w9 gA 37 (encN q) := HT9.out.blk1
          have hqB : Blk w9 gB 37 (encN q) := HT9.out.blk0
          have HQA := Lib.hid hqA
          have HQB := Lib.hid hqB
          obtain ⟨T, hT⟩ : ∃ T, T = txt s2.L q := ⟨_, rfl⟩
          obtain ⟨sa, ea, hLa, hRa⟩ := rn_whole HR2.out HN3.out
          obtain ⟨sb, eb, hLb, hRb⟩ := rn_whole HRO.out (by show NW so.L q; rw [HL.out]; exact HN3.out)
          rw [← hT] at ea
          have eb' : readM memF q 0 q.size ⟨so.L, so.count, 0⟩ = (.ok T, sb) := by rw [eb, hT]; show (Except.ok (txt so.L q), sb) = _; rw [HL.out]
          have HEA := Lib.hid ea
          have HEB := Lib.hid eb'
          have HOA : Hid (memOk sa) := Lib.hid (hRa.ok (by omega))
          have HOB : Hid (memOk sb) := Lib.hid (hRb.ok (by omega))
          clear hqA hqB ea eb eb' hLa hLb hRa hRb hT
          refine wp_region_held_drew (S := fun w' => Blk w' gA 37 (encN q) ∧ Blk w' gB 37 (encN q)) (by kernel_rfl) ⟨HQA.out.drew, HQB.out.drew⟩ (fun hS0 => ?_)
          refine wpAnyH_take (i := 0) (oi := ?ois0) (v := ?vs0) ?his0 ?hss0 ?hfs0 ?hrs0 ?hQs0 ?hys0 ?hSs0 ?hs0
          case his0 => (simp only [List.getElem?_toArray, List.getElem?_cons_succ, List.getElem?_cons_zero]; rfl)
          case hss0 => kernel_rfl
          case hfs0 => kernel_rfl
          case hrs0 => kernel_rfl
          case hSs0 => first | assumption | trivial
          case hys0 => refine Or.inl ⟨by kernel_rfl, ?_⟩; (intro w hSw; (try dsimp only at hSw); go_simp; try with_reducible rfl)
          case hQs0 => exact fun _ _ _ h => h
          try simp only [Act.put, List.setIfInBounds_toArray, List.set_cons_zero, List.set_cons_succ]
          refine wpAnyH_take (i := 1) (oi := ?ois1) (v := ?vs1) ?his1 ?hss1 ?hfs1 ?hrs1 ?hQs1 ?hys1 ?hSs1 ?hs1
          case his1 => (simp only [List.getElem?_toArray, List.getElem?_cons_succ, List.getElem?_cons_zero]; rfl)
          case hss1 => kernel_rfl
          case hfs1 => kernel_rfl
          case hrs1 => kernel_rfl
          case hSs1 => first | assumption | trivial
          case hys1 => refine Or.inl ⟨by kernel_rfl, ?_⟩; (intro w hSw; (try dsimp only at hSw); go_simp; try with_reducible rfl)
          case hQs1 => exact fun _ _ _ h => h
          try simp only [Act.put, List.setIfInBounds_toArray, List.set_cons_zero, List.set_cons_succ]
          refine wpAnyH_take (i := 2) (oi := ?ois2) (v := ?vs2) ?his2 ?hss2 ?hfs2 ?hrs2 ?hQs2 ?hys2 ?hSs2 ?hs2
          case his2 => (simp only [List.getElem?_toArray, List.getElem?_cons_succ, List.getElem?_cons_zero]; rfl)
          case hss2 => kernel_rfl
          case hfs2 => kernel_rfl
          case hrs2 => kernel_rfl
          case hSs2 => first | assumption | trivial
          case hys2 => refine Or.inl ⟨by kernel_rfl, ?_⟩; (intro w hSw; (try dsimp only at hSw); go_simp; try with_reducible rfl)
          case hQs2 => exact fun _ _ _ h => h
          try simp only [Act.put, List.setIfInBounds_toArray, List.set_cons_zero, List.set_cons_succ]
          refine wpAnyH_take (i := 3) (oi := ?ois3) (v := ?vs3) ?his3 ?hss3 ?hfs3 ?hrs3 ?hQs3 ?hys3 ?hSs3 ?hs3
          case his3 => (simp only [List.getElem?_toArray, List.getElem?_cons_succ, List.getElem?_cons_zero]; rfl)
          case hss3 => kernel_rfl
          case hfs3 => kernel_rfl
          case hrs3 => kernel_rfl
          case hSs3 => first | assumption | trivial
          case hys3 => refine yieldsIf_load_mid (by kernel_rfl) 37 (.tmp 12) ?_ gA (0) ?_ (encN q) _ (fun w' hw => range_and1 hw) Tryd.underlying37 rfl iszNd <;> rfl
          case hQs3 => exact fun _ _ _ h => h
          try simp only [Act.put, List.setIfInBounds_toArray, List.set_cons_zero, List.set_cons_succ]
          refine wpAnyH_take (i := 4) (oi := ?ois4) (v := ?vs4) ?his4 ?hss4 ?hfs4 ?hrs4 ?hQs4 ?hys4 ?hSs4 ?hs4
          case his4 => (simp only [List.getElem?_toArray, List.getElem?_cons_succ, List.getElem?_cons_zero]; rfl)
          case hss4 => kernel_rfl
          case hfs4 => kernel_rfl
          case hrs4 => kernel_rfl
          case hSs4 => first | assumption | trivial
          case hys4 => refine yieldsIf_load_mid (by kernel_rfl) 37 (.tmp 14) ?_ gB (0) ?_ (encN q) _ (fun w' hw => range_andB hw) Tryd.underlying37 rfl iszNd <;> rfl
          case hQs4 => exact fun _ _ _ h => h
          try simp only [Act.put, List.setIfInBounds_toArray, List.set_cons_zero, List.set_cons_succ]
          refine wpAnyH_take (i := 5) (oi := ?ois5) (v := ?vs5) ?his5 ?hss5 ?hfs5 ?hrs5 ?hQs5 ?hys5 ?hSs5 ?hs5
          case his5 => (simp only [List.getElem?_toArray, List.getElem?_cons_succ, List.getElem?_cons_zero]; rfl)
          case hss5 => kernel_rfl
          case hfs5 => kernel_rfl
          case hrs5 => kernel_rfl
          case hSs5 => first | assumption | trivial
          case hys5 => exact (by refine yieldsIf_eqlNd (by kernel_rfl) (.tmp 117) (.tmp 118) 37 ?_ q q ?_ ?_ HQW.out HQW.out <;> rfl)
          case hQs5 => exact fun _ _ _ h => h
          try simp only [Act.put, List.setIfInBounds_toArray, List.set_cons_zero, List.set_cons_succ]
          refine wpAnyH_take (i := 6) (oi := ?ois6) (v := ?vs6) ?his6 ?hss6 ?hfs6 ?hrs6 ?hQs6 ?hys6 ?hSs6 ?hs6
          case his6 => (simp only [List.getElem?_toArray, List.getElem?_cons_succ, List.getElem?_cons_zero]; rfl)
          case hss6 => kernel_rfl
          case hfs6 => kernel_rfl
          case hrs6 => kernel_rfl
          case hSs6 => first | assumption | trivial
          case hys6 => refine Or.inl ⟨by kernel_rfl, ?_⟩; (intro w hSw; (try dsimp only at hSw); go_simp; try with_reducible rfl)
          case hQs6 => exact fun _ _ _ h => h
          try simp only [Act.put, List.setIfInBounds_toArray, List.set_cons_zero, List.set_cons_succ]
          refine wpAnyH_take (i := 7) (oi := ?ois7) (v := ?vs7) ?his7 ?hss7 ?hfs7 ?hrs7 ?hQs7 ?hys7 ?hSs7 ?hs7
          case his7 => (simp only [List.getElem?_toArray, List.getElem?_cons_succ, List.getElem?_cons_zero]; rfl)
          case hss7 => kernel_rfl
          case hfs7 => kernel_rfl
          case hrs7 => kernel_rfl
          case hSs7 => first | assumption | trivial
          case hys7 => refine Or.inl ⟨by kernel_rfl, ?_⟩; (intro w hSw; (try dsimp only at hSw); go_simp; try with_reducible rfl)
          case hQs7 => exact fun _ _ _ h => h
          try simp only [Act.put, List.setIfInBounds_toArray, List.set_cons_zero, List.set_cons_succ]
          refine wpAnyH_take (i := 8) (oi := ?ois8) (v := ?vs8) ?his8 ?hss8 ?hfs8 ?hrs8 ?hQs8 ?hys8 ?hSs8 ?hs8
          case his8 => (simp only [List.getElem?_toArray, List.getElem?_cons_succ, List.getElem?_cons_zero]; rfl)
          case hss8 => kernel_rfl
          case hfs8 => kernel_rfl
          case hrs8 => kernel_rfl
          case hSs8 => first | assumption | trivial
          case hys8 => refine Or.inl ⟨by kernel_rfl, ?_⟩; (intro w hSw; (try dsimp only at hSw); go_simp; try with_reducible rfl)
          case hQs8 => exact fun _ _ _ h => h
          try simp only [Act.put, List.setIfInBounds_toArray, List.set_cons_zero, List.set_cons_succ]
          refine wpAnyH_take (i := 9) (oi := ?ois9) (v := ?vs9) ?his9 ?hss9 ?hfs9 ?hrs9 ?hQs9 ?hys9 ?hSs9 ?hs9
          case his9 => (simp only [List.getElem?_toArray, List.getElem?_cons_succ, List.getElem?_cons_zero]; rfl)
          case hss9 => kernel_rfl
          case hfs9 => kernel_rfl
          case hrs9 => kernel_rfl
          case hSs9 => first | assumption | trivial
          case hys9 => refine yieldsIf_load_mid (by kernel_rfl) 37 (.tmp 12) ?_ gA (0) ?_ (encN q) _ (fun w' hw => range_and1 hw) Tryd.underlying37 rfl iszNd <;> rfl
          case hQs9 => exact fun _ _ _ h => h
          try simp only [Act.put, List.setIfInBounds_toArray, List.set_cons_zero, List.set_cons_succ]
          refine wpAnyH_take (i := 11) (oi := ?ois11) (v := ?vs11) ?his11 ?hss11 ?hfs11 ?hrs11 ?hQs11 ?hys11 ?hSs11 ?hs11
          case his11 => (simp only [List.getElem?_toArray, List.getElem?_cons_succ, List.getElem?_cons_zero]; rfl)
          case hss11 => kernel_rfl
          case hfs11 => kernel_rfl
          case hrs11 => kernel_rfl
          case hSs11 => first | assumption | trivial
          case hys11 => refine Or.inl ⟨by kernel_rfl, ?_⟩; (intro w hSw; (try dsimp only at hSw); go_simp; try with_reducible rfl)
          case hQs11 => exact fun _ _ _ h => h
          try simp only [Act.put, List.setIfInBounds_toArray, List.set_cons_zero, List.set_cons_succ]
          refine wpAnyH_take (i := 12) (oi := ?ois12) (v := ?vs12) ?his12 ?hss12 ?hfs12 ?hrs12 ?hQs12 ?hys12 ?hSs12 ?hs12
          case his12 => (simp only [List.getElem?_toArray, List.getElem?_cons_succ, List.getElem?_cons_zero]; rfl)
          case hss12 => kernel_rfl
          case hfs12 => kernel_rfl
          case hrs12 => kernel_rfl
          case hSs12 => first | assumption | trivial
          case hys12 => refine yieldsIf_load_mid (by kernel_rfl) 37 (.tmp 14) ?_ gB (0) ?_ (encN q) _ (fun w' hw => range_andB hw) Tryd.underlying37 rfl iszNd <;> rfl
          case hQs12 => exact fun _ _ _ h => h
          try simp only [Act.put, List.setIfInBounds_toArray, List.set_cons_zero, List.set_cons_succ]
          refine wpAnyH_ready (rs := [10]) (by kernel_rfl) (by simp) ?_
          refine AllReadyH.cons (by simp only [List.getElem?_toArray, List.getElem?_cons_succ, List.getElem?_cons_zero]; rfl) (fun K hK => ?_) AllReadyH.nil
          go_simp
          have HTD := Lib.hid (HT9.out.below (Below.refl _ _).drew)
          refine (whole_any (mb := mb) HTD.out.at_.1 q HQW.out (by rw [HEA.out]; exact HOA.out)).mono ?_
          rw [HEA.out]
          rintro e w10 ⟨rfl, hstep⟩
          obtain ⟨F10, h10⟩ := HTD.out.stepM hstep
          have HT10 := Lib.hid h10
          clear hstep h10
          try dsimp only
          refine hK.out _ _ (⟨HT10.out.blk1, HT10.out.blk0⟩) (fun hSs10 => ?_)
          try simp only [Act.put, List.setIfInBounds_toArray, List.set_cons_zero, List.set_cons_succ]
          refine wpAnyH_ready (rs := [13]) (by kernel_rfl) (by simp) ?_
          refine AllReadyH.cons (by simp only [List.getElem?_toArray, List.getElem?_cons_succ, List.getElem?_cons_zero]; rfl) (fun K hK => ?_) AllReadyH.nil
          go_simp
          refine (whole_any (mb := ob) HT10.out.o q HQW.out (by rw [HEB.out]; exact HOB.out)).mono ?_
          rw [HEB.out]
          rintro e w11 ⟨rfl, hstep⟩
          obtain ⟨F11, h11⟩ := HT10.out.stepO hstep
          have HT11 := Lib.hid h11
          clear hstep h11
          try dsimp only
          refine hK.out _ _ (⟨HT11.out.blk1, HT11.out.blk0⟩) (fun hSs13 => ?_)
          try simp only [Act.put, List.setIfInBounds_toArray, List.set_cons_zero, List.set_cons_succ]
          refine wpAnyH_take (i := 14) (oi := ?ois14) (v := ?vs14) ?his14 ?hss14 ?hfs14 ?hrs14 ?hQs14 ?hys14 ?hSs14 ?hs14
          case his14 => (simp only [List.getElem?_toArray, List.getElem?_cons_succ, List.getElem?_cons_zero]; rfl)
          case hss14 => kernel_rfl
          case hfs14 => kernel_rfl
          case hrs14 => kernel_rfl
          case hSs14 => first | assumption | trivial
          case hys14 => refine Or.inl ⟨by kernel_rfl, ?_⟩; (intro w hSw; (try dsimp only at hSw); go_simp; try with_reducible rfl)
          case hQs14 => exact fun _ _ _ h => h
          try simp only [Act.put, List.setIfInBounds_toArray, List.set_cons_zero, List.set_cons_succ]
          refine wpAnyH_take (i := 15) (oi := ?ois15) (v := ?vs15) ?his15 ?hss15 ?hfs15 ?hrs15 ?hQs15 ?hys15 ?hSs15 ?hs15
          case his15 => (simp only [List.getElem?_toArray, List.getElem?_cons_succ, List.getElem?_cons_zero]; rfl)
          case hss15 => kernel_rfl
          case hfs15 => kernel_rfl
          case hrs15 => kernel_rfl
          case hSs15 => first | assumption | trivial
          case hys15 => refine Or.inl ⟨by kernel_rfl, ?_⟩; (intro w hSw; (try dsimp only at hSw); go_simp; try with_reducible rfl)
          case hQs15 => exact fun _ _ _ h => h
          try simp only [Act.put, List.setIfInBounds_toArray, List.set_cons_zero, List.set_cons_succ]
          refine wpAnyH_take (i := 16) (oi := ?ois16) (v := ?vs16) ?his16 ?hss16 ?hfs16 ?hrs16 ?hQs16 ?hys16 ?hSs16 ?hs16
          case his16 => (simp only [List.getElem?_toArray, List.getElem?_cons_succ, List.getElem?_cons_zero]; rfl)
          case hss16 => kernel_rfl
          case hfs16 => kernel_rfl
          case hrs16 => kernel_rfl
          case hSs16 => first | assumption | trivial
          case hys16 => refine Or.inl ⟨by kernel_rfl, ?_⟩; (intro w hSw; (try dsimp only at hSw); go_simp; try with_reducible rfl)
          case hQs16 => exact fun _ _ _ h => h
          try simp only [Act.put, List.setIfInBounds_toArray, List.set_cons_zero, List.set_cons_succ]
          refine wpAnyH_done (by kernel_rfl) ?_ _
          have HBEL2 := Lib.hid (HT11.out.old HOLD.out HMB.out)
          go_wp2_with fail
          go_ret
          exact ⟨by simp, HBEL2.out⟩
        · have hl2 := fun op a next Q => loadW_blk (P := Tryd.prog) HT8.out.blk0 Tryd.underlying37 rfl iszNd op a next Q
          have hq := fun o x y a W next Q => bnW_nilNd nD_wf o x y a W next Q
          unfold errV
          unfold ndV at hl2
          rcases he with rfl | rfl
          · go_wp2_with fail
            go_ret
            exact ⟨by simp, HBEL.out⟩
          · go_wp2_with fail
            go_ret
            exact ⟨by simp, HBEL.out⟩
theorem stops_int (a : Option Addr) (len cap : Nat) (zs : List ActA) (f : Int) (w : World) (h : ZSl w a len cap zs) (hf : 0 ≤ f ∧ f ≤ 255) :
    Calls Tryd.prog 4 #[.slice a len cap, .int .u8 f] w fun e w' => e = .returned (.bool true) ∧ Below w.heap.size w w' := by
  obtain ⟨f, rfl⟩ : ∃ m : Nat, f = m := ⟨f.toNat, by omega⟩
  exact stops_any a len cap zs f w h (by omega)
end Go.Proofs.YtbhofablndjeoaaDoor
