/- The walk of tree.cut. -/
import Derived.Test.YtbhofablndjeoaaDoorTrS
import Derived.Test.YtbhofablndjeoaaDoorTrT
namespace Go.Proofs.YtbhofablndjeoaaDoor
open Go.RowKit
set_option linter.unusedSimpArgs false
set_option linter.unusedVariables false
attribute [local go_sem ↓] wp_loadPt wp_storePt wp_loadA4 wp_storeA4 wp_binA4

section
variable {σ : Type} {S : StF σ} {ty : TypeId} {a : Addr} {C : StoreC S ty a}
set_option maxHeartbeats 1000000 in
set_option maxRecDepth 100000 in
theorem cut_end {w : World} {st : σ} {F : Nat → Prop} (h : C.Is w st F) (p : PtrT) (hp : p.wf) (k : Nat) (b : Int) (hz : b ≤ 0 ∨ isNone p = true) :
    Calls Tryd.prog 38 #[.iface ty (.pointer (some a)), .agg (encPtr p).toArray, .int .i64 (k : Nat), .int .i64 b] w fun e w' => PutR (.ok pD) e ∧ C.Step F st w w' := by
  obtain ⟨w0, hw0⟩ : ∃ w0, w0 = (w.alloc (.cells (encPtr p).toArray 35)).alloc (.cells (encPtr pD).toArray 35) := ⟨_, rfl⟩
  have hb : Blk w0 w.heap.size 35 (encPtr p) := by rw [hw0]; exact (Blk.new w _ _).alloc _
  have hr : Blk w0 (w.heap.size + 1) 35 (encPtr pD) := by rw [hw0]; exact Blk.newAt (w := w.alloc _) _ _ (by simp)
  have hbel : Below w.heap.size w w0 := by rw [hw0]; exact ((Below.refl _ _).alloc (Nat.le_refl _) _).alloc (by simp) _
  have h0 : ¬ F w.heap.size := fun hf => by have := C.lt h _ hf; omega
  have h1 : ¬ F (w.heap.size + 1) := fun hf => by have := C.lt h _ hf; omega
  have HAT : Hid (C.At F st w w0 F) := Lib.hid ((StoreC.At.start h).below hbel)
  have hld := fun op a next Q => loadW_blk (P := Tryd.prog) hb Tryd.underlying35 rfl iszPt op a next Q
  have HB := Lib.hid hb
  have HR := Lib.hid hr
  clear hb hbel hr
  by_cases c : b ≤ 0
  · have hst := fun op a next Q => storeZPt HR.out rfl op a next Q
    have HA2 := Lib.hid (HAT.out.put (o := 0) (vs := encPtr pD) (Nat.le_succ _) h1)
    go_enter Tryd.func38, Tryd.ntmps38
    go_upto_region 1 with fail
    rw [show (w.alloc (.cells (encPtr p).toArray 35)).alloc (.cells #[.int .i64 0, .int .i64 0, .int .i64 0, .int .i64 0, .bool false, .int .i64 0, .int .i64 0, .int .i64 0, .int .u64 0, .int .u64 0, .int .u64 0, .int .u64 0] 35) = w0 from hw0.symm]
    clear hw0
    go_wp2_with fail
    refine bodyPost_ret (res_cell_tmp rfl _ _ (w.heap.size + 1) 35 _ _ rfl (HR.out.put (vs := encPtr pD) rfl) Tryd.underlying35 rfl iszPt) rfl ?_
    exact ⟨⟨rfl, pD_wf⟩, HA2.out.fin⟩
  · have HN := Lib.hid (hz.resolve_left c)
    clear hz
    go_enter Tryd.func38, Tryd.ntmps38
    go_upto_region 1 with fail
    rw [show (w.alloc (.cells (encPtr p).toArray 35)).alloc (.cells #[.int .i64 0, .int .i64 0, .int .i64 0, .int .i64 0, .bool false, .int .i64 0, .int .i64 0, .int .i64 0, .int .u64 0, .int .u64 0, .int .u64 0, .int .u64 0] 35) = w0 from hw0.symm]
    clear hw0
    go_wp2_with fail
    refine (None_any p hp w0).mono ?_
    rintro e w1 ⟨rfl, hb1⟩
    rw [HN.out]
    have hst := fun op a next Q => storeZPt (HR.out.below hb1) rfl op a next Q
    have HBR := Lib.hid (HR.out.below hb1)
    have HA2 := Lib.hid ((HAT.out.below hb1).put (o := 0) (vs := encPtr pD) (Nat.le_succ _) h1)
    clear hb1 hld
    go_wp2_with fail
    refine bodyPost_ret (res_cell_tmp rfl _ _ (w.heap.size + 1) 35 _ _ rfl (HBR.out.put (vs := encPtr pD) rfl) Tryd.underlying35 rfl iszPt) rfl ?_
    exact ⟨⟨rfl, pD_wf⟩, HA2.out.fin⟩
set_option maxHeartbeats 1000000 in
set_option maxRecDepth 100000 in
theorem cut_zero {w : World} {st : σ} {F : Nat → Prop} (h : C.Is w st F) (p : PtrT) (hp : p.wf) (b : Int) (c : ¬ b ≤ 0) (hn : isNone p = false) :
    Calls Tryd.prog 38 #[.iface ty (.pointer (some a)), .agg (encPtr p).toArray, .int .i64 0, .int .i64 b] w fun e w' => PutR (.ok p) e ∧ C.Step F st w w' := by
  obtain ⟨w0, hw0⟩ : ∃ w0, w0 = (w.alloc (.cells (encPtr p).toArray 35)).alloc (.cells (encPtr pD).toArray 35) := ⟨_, rfl⟩
  have hb : Blk w0 w.heap.size 35 (encPtr p) := by rw [hw0]; exact (Blk.new w _ _).alloc _
  have hr : Blk w0 (w.heap.size + 1) 35 (encPtr pD) := by rw [hw0]; exact Blk.newAt (w := w.alloc _) _ _ (by simp)
  have hbel : Below w.heap.size w w0 := by rw [hw0]; exact ((Below.refl _ _).alloc (Nat.le_refl _) _).alloc (by simp) _
  have h0 : ¬ F w.heap.size := fun hf => by have := C.lt h _ hf; omega
  have h1 : ¬ F (w.heap.size + 1) := fun hf => by have := C.lt h _ hf; omega
  have HAT : Hid (C.At F st w w0 F) := Lib.hid ((StoreC.At.start h).below hbel)
  have hld := fun op a next Q => loadW_blk (P := Tryd.prog) hb Tryd.underlying35 rfl iszPt op a next Q
  have HB := Lib.hid hb
  have HR := Lib.hid hr
  clear hb hbel hr
  have HN := Lib.hid hn
  go_enter Tryd.func38, Tryd.ntmps38
  go_upto_region 1 with fail
  rw [show (w.alloc (.cells (encPtr p).toArray 35)).alloc (.cells #[.int .i64 0, .int .i64 0, .int .i64 0, .int .i64 0, .bool false, .int .i64 0, .int .i64 0, .int .i64 0, .int .u64 0, .int .u64 0, .int .u64 0, .int .u64 0] 35) = w0 from hw0.symm]
  clear hw0
  go_wp2_with fail
  refine (None_any p hp w0).mono ?_
  rintro e w1 ⟨rfl, hb1⟩
  rw [HN.out]
  have HBP := Lib.hid (HB.out.below hb1)
  have HBR := Lib.hid (HR.out.below hb1)
  have HAT1 := Lib.hid (HAT.out.below hb1)
  have hld1 := fun op a next Q => loadW_blk (P := Tryd.prog) HBP.out Tryd.underlying35 rfl iszPt op a next Q
  clear hb1 hld
  have hst := fun op a next Q => storeW_part (P := Tryd.prog) (t := 35) (o := 0) (cs := encPtr p) HBR.out (Nat.le_refl 12) iszPt (encPtr_ones p) op a next Q
  have HA2 := Lib.hid (HAT1.out.put (o := 0) (vs := encPtr p) (Nat.le_succ _) h1)
  go_wp2_with fail
  refine bodyPost_ret (res_cell_tmp rfl _ _ (w.heap.size + 1) 35 _ _ rfl (HBR.out.put (vs := encPtr p) rfl) Tryd.underlying35 rfl iszPt) rfl ?_
  exact ⟨⟨rfl, hp⟩, HA2.out.fin⟩
set_option maxHeartbeats 1000000 in
set_option maxRecDepth 100000 in
theorem cut_full {w : World} {st : σ} {F : Nat → Prop} (h : C.Is w st F) (p : PtrT) (hp : p.wf) (k g : Nat) (hk : k ≤ 2) (hg : g = 4 ^ (k + 1)) (b : Int) (c : ¬ b ≤ 0) (hn : isNone p = false) (hf : (g : Int) ≤ b) :
    Calls Tryd.prog 38 #[.iface ty (.pointer (some a)), .agg (encPtr p).toArray, .int .i64 ((k : Int) + 1), .int .i64 b] w fun e w' => PutR (.ok p) e ∧ C.Step F st w w' := by
  obtain ⟨w0, hw0⟩ : ∃ w0, w0 = (w.alloc (.cells (encPtr p).toArray 35)).alloc (.cells (encPtr pD).toArray 35) := ⟨_, rfl⟩
  have hb : Blk w0 w.heap.size 35 (encPtr p) := by rw [hw0]; exact (Blk.new w _ _).alloc _
  have hr : Blk w0 (w.heap.size + 1) 35 (encPtr pD) := by rw [hw0]; exact Blk.newAt (w := w.alloc _) _ _ (by simp)
  have hbel : Below w.heap.size w w0 := by rw [hw0]; exact ((Below.refl _ _).alloc (Nat.le_refl _) _).alloc (by simp) _
  have h0 : ¬ F w.heap.size := fun hf => by have := C.lt h _ hf; omega
  have h1 : ¬ F (w.heap.size + 1) := fun hf => by have := C.lt h _ hf; omega
  have HAT : Hid (C.At F st w w0 F) := Lib.hid ((StoreC.At.start h).below hbel)
  have hld := fun op a next Q => loadW_blk (P := Tryd.prog) hb Tryd.underlying35 rfl iszPt op a next Q
  have HB := Lib.hid hb
  have HR := Lib.hid hr
  clear hb hbel hr
  have HN := Lib.hid hn
  have hk0 : ((k : Int) + 1 == 0) = false := by simp; omega
  have HBE : Hid (∀ W, Calls Tryd.prog 44 #[.int .i64 ((k : Int) + 1 + 1)] W fun e w' => e = .returned (.int .i64 (g : Nat)) ∧ w' = W) := Lib.hid (fun W => by
    have := below_any (k + 2) W (by omega)
    rw [show k + 2 - 1 = k + 1 from rfl, ← hg, show (((k + 2 : Nat)) : Int) = (k : Int) + 1 + 1 by omega] at this
    exact this)
  clear hg
  go_enter Tryd.func38, Tryd.ntmps38
  go_upto_region 1 with fail
  rw [show (w.alloc (.cells (encPtr p).toArray 35)).alloc (.cells #[.int .i64 0, .int .i64 0, .int .i64 0, .int .i64 0, .bool false, .int .i64 0, .int .i64 0, .int .i64 0, .int .u64 0, .int .u64 0, .int .u64 0, .int .u64 0] 35) = w0 from hw0.symm]
  clear hw0
  go_wp2_with fail
  refine (None_any p hp w0).mono ?_
  rintro e w1 ⟨rfl, hb1⟩
  rw [HN.out]
  have HBP := Lib.hid (HB.out.below hb1)
  have HBR := Lib.hid (HR.out.below hb1)
  have HAT1 := Lib.hid (HAT.out.below hb1)
  have hld1 := fun op a next Q => loadW_blk (P := Tryd.prog) HBP.out Tryd.underlying35 rfl iszPt op a next Q
  clear hb1 hld
  have hst := fun op a next Q => storeW_part (P := Tryd.prog) (t := 35) (o := 0) (cs := encPtr p) HBR.out (Nat.le_refl 12) iszPt (encPtr_ones p) op a next Q
  have HA2 := Lib.hid (HAT1.out.put (o := 0) (vs := encPtr p) (Nat.le_succ _) h1)
  go_wp2_with fail
  refine (HBE.out _).mono ?_
  rintro e w5 ⟨rfl, rfl⟩
  go_wp2_with fail
  refine bodyPost_ret (res_cell_tmp rfl _ _ (w.heap.size + 1) 35 _ _ rfl (HBR.out.put (vs := encPtr p) rfl) Tryd.underlying35 rfl iszPt) rfl ?_
  exact ⟨⟨rfl, hp⟩, HA2.out.fin⟩
/-- where a walk of cut stands -/
structure CutI (C : StoreC S ty a) (F : Nat → Prop) (w wr : World) (gl gk g k : Nat) (p : PtrT) (b : Int) (l0 : List PtrT) (j : Nat) (l : List PtrT) (s1 : σ) (RL : Except Nat (List PtrT) × σ) (F1 : Nat → Prop) : Prop where
  jle : j ≤ 4
  l4 : l.length = 4
  wf : ∀ x ∈ l, x.wf
  eq : cutL (cutM S k) g b (4 - j) j l s1 = RL
  at_ : C.At F s1 w wr F1
  bp : Blk wr w.heap.size 35 (encPtr p)
  br : Blk wr (w.heap.size + 1) 35 (encPtr pD)
  bl : Blk wr gl 108 (encPs l)
  bk : Blk wr gk 108 (encPs l0)
  f0 : ¬ F1 w.heap.size
  f1 : ¬ F1 (w.heap.size + 1)
  fl : ¬ F1 gl
  fk : ¬ F1 gk
  ge : w.heap.size + 2 ≤ gl
  gl : gl < gk
theorem back_cutend {Ok : σ → Prop} (hp : ∀ t l, Back Ok (S.put t l)) (l l' : List PtrT) (p : PtrT) (k : Nat) : Back Ok (if l' = l then M.ret p else putM S l' k) := by
  split
  · exact back_ret _
  · exact back_putM hp _ _
set_option maxHeartbeats 4000000 in
set_option maxRecDepth 100000 in
theorem cut_any : ∀ (k : Nat) {w : World} {st : σ} {F : Nat → Prop} (h : C.Is w st F) (p : PtrT) (hp : p.wf) (b : Int) (hk : k ≤ 3) (hb1 : -100000 + 1000 * k ≤ b) (hb2 : b ≤ 100000) (hok : C.Ok (cutM S k p b st).2),
    Calls Tryd.prog 38 #[.iface ty (.pointer (some a)), .agg (encPtr p).toArray, .int .i64 (k : Nat), .int .i64 b] w fun e w' => PutR (cutM S k p b st).1 e ∧ C.Step F (cutM S k p b st).2 w w' := by
  intro k
  induction k with
  | zero =>
    intro w st F h p hp b hk hb1 hb2 hok
    by_cases hz : b ≤ 0 ∨ isNone p = true
    · have e : cutM S 0 p b = M.ret pD := by unfold cutM; rw [if_pos hz]
      rw [e]
      exact cut_end h p hp 0 b hz
    · have e : cutM S 0 p b = M.ret p := by unfold cutM; rw [if_neg hz]
      rw [e]
      exact cut_zero h p hp b (fun x => hz (.inl x)) (by have := fun x => hz (.inr x); simpa using this)
  | succ k ih =>
    intro w st F h p hp b hk hb1 hb2 hok
    by_cases hz : b ≤ 0 ∨ isNone p = true
    · have e : cutM S (k + 1) p b = M.ret pD := by unfold cutM; rw [if_pos hz]
      rw [e]
      exact cut_end h p hp (k + 1) b hz
    have c : ¬ b ≤ 0 := fun x => hz (.inl x)
    have hn : isNone p = false := by have := fun x => hz (.inr x); simpa using this
    obtain ⟨g, hg, hg1, hg2⟩ : ∃ g : Nat, g = 4 ^ k ∧ 1 ≤ g ∧ g ≤ 16 := by
      have hp2 : 4 ^ k ≤ 4 ^ 2 := Nat.pow_le_pow_right (by omega) (by omega)
      have hp1 : 0 < 4 ^ k := Nat.pow_pos (by omega)
      exact ⟨4 ^ k, rfl, hp1, by omega⟩
    obtain ⟨G, hG, hG1, hG2⟩ : ∃ G : Nat, G = 4 ^ (k + 1) ∧ 1 ≤ G ∧ G ≤ 64 := ⟨4 ^ (k + 1), rfl, Nat.pow_pos (by omega), by rw [Nat.pow_succ]; omega⟩
    by_cases hf : (G : Int) ≤ b
    · have e : cutM S (k + 1) p b = M.ret p := by rw [cutM, if_neg hz, if_pos (by rw [← hG]; exact hf)]
      rw [e]
      exact cut_full h p hp k G (by omega) hG b c hn hf
    have e : cutM S (k + 1) p b = M.bind (linksM S p) fun l => M.bind (cutL (cutM S k) (4 ^ k) b 4 0 l) fun l' => if l' = l then M.ret p else putM S l' (k + 1) := by rw [cutM, if_neg hz, if_neg (by rw [← hG]; exact hf)]
    rw [e, ← hg] at hok ⊢
    have hRe : M.bind (linksM S p) (fun l => M.bind (cutL (cutM S k) g b 4 0 l) fun l' => if l' = l then M.ret p else putM S l' (k + 1)) st = M.bind (linksM S p) (fun l => M.bind (cutL (cutM S k) g b 4 0 l) fun l' => if l' = l then M.ret p else putM S l' (k + 1)) st := rfl
    have hokl : C.Ok (linksM S p st).2 := back_first (fun l => back_bind (back_cutL (fun x o => back_cut C.bg C.bp k x o) _ _ _ _ _) (fun l' => back_cutend C.bp _ _ _ _)) hok
    generalize hRR : M.bind (linksM S p) (fun l => M.bind (cutL (cutM S k) g b 4 0 l) fun l' => if l' = l then M.ret p else putM S l' (k + 1)) st = R at hok ⊢
    obtain ⟨w0, hw0⟩ : ∃ w0, w0 = (w.alloc (.cells (encPtr p).toArray 35)).alloc (.cells (encPtr pD).toArray 35) := ⟨_, rfl⟩
    have hb : Blk w0 w.heap.size 35 (encPtr p) := by rw [hw0]; exact (Blk.new w _ _).alloc _
    have hr : Blk w0 (w.heap.size + 1) 35 (encPtr pD) := by rw [hw0]; exact Blk.newAt (w := w.alloc _) _ _ (by simp)
    have hbel : Below w.heap.size w w0 := by rw [hw0]; exact ((Below.refl _ _).alloc (Nat.le_refl _) _).alloc (by simp) _
    have h0 : ¬ F w.heap.size := fun hf => by have := C.lt h _ hf; omega
    have h1 : ¬ F (w.heap.size + 1) := fun hf => by have := C.lt h _ hf; omega
    have HAT : Hid (C.At F st w w0 F) := Lib.hid ((StoreC.At.start h).below hbel)
    have hld := fun op a next Q => loadW_blk (P := Tryd.prog) hb Tryd.underlying35 rfl iszPt op a next Q
    have HB := Lib.hid hb
    have HR := Lib.hid hr
    clear hb hbel hr
    have HN := Lib.hid hn
    have HOK := Lib.hid hok
    have HOKL := Lib.hid hokl
    have hk0 : ((k : Int) + 1 == 0) = false := by simp; omega
    have HBG : Hid (∀ W, Calls Tryd.prog 44 #[.int .i64 ((k : Int) + 1 + 1)] W fun e w' => e = .returned (.int .i64 (G : Nat)) ∧ w' = W) := Lib.hid (fun W => by
      have := below_any (k + 2) W (by omega)
      rw [show k + 2 - 1 = k + 1 from rfl, ← hG, show (((k + 2 : Nat)) : Int) = (k : Int) + 1 + 1 by omega] at this
      exact this)
    have HBE : Hid (∀ W, Calls Tryd.prog 44 #[.int .i64 ((k : Int) + 1)] W fun e w' => e = .returned (.int .i64 (g : Nat)) ∧ w' = W) := Lib.hid (fun W => by
      have := below_any (k + 1) W (by omega)
      rw [show k + 1 - 1 = k from rfl, ← hg, show (((k + 1 : Nat)) : Int) = (k : Int) + 1 by omega] at this
      exact this)
    have HRR := Lib.hid hRR
    clear hG hg hok hokl e hz hn hRe hRR
    go_enter Tryd.func38, Tryd.ntmps38
    go_upto_region 1 with fail
    rw [show (w.alloc (.cells (encPtr p).toArray 35)).alloc (.cells #[.int .i64 0, .int .i64 0, .int .i64 0, .int .i64 0, .bool false, .int .i64 0, .int .i64 0, .int .i64 0, .int .u64 0, .int .u64 0, .int .u64 0, .int .u64 0] 35) = w0 from hw0.symm]
    clear hw0
    go_wp2_with fail
    refine (None_any p hp w0).mono ?_
    rintro e w1 ⟨rfl, hb1⟩
    rw [HN.out]
    have HBP := Lib.hid (HB.out.below hb1)
    have HBR := Lib.hid (HR.out.below hb1)
    have HAT1 := Lib.hid (HAT.out.below hb1)
    have hld1 := fun op a next Q => loadW_blk (P := Tryd.prog) HBP.out Tryd.underlying35 rfl iszPt op a next Q
    clear hb1 hld
    go_wp2_with fail
    refine (HBG.out _).mono ?_
    rintro e w5 ⟨rfl, rfl⟩
    have HL := Lib.hid (links_any HAT1.out.1 p hp HOKL.out)
    rcases hlm : linksM S p st with ⟨r | l, s2⟩
    · have hRe := HRR.out
      rw [M.bind_err hlm] at hRe
      rw [hlm] at HL
      have HRE2 := Lib.hid hRe
      clear hRe hlm
      go_wp2_with fail
      refine HL.out.mono ?_
      rintro e w2 ⟨⟨rfl, hr0⟩, hstep⟩
      have hr1 : ((r : Int) != 0) = true := by simpa using hr0
      obtain ⟨F2, hat, hfr, hm⟩ := HAT1.out.step hstep
      have hsn := store_newA4 zs4 rfl w2
      have hbr := (hm.blk HBR.out h1).alloc (.cells (encPs zs4).toArray 108)
      have hst := fun op a next Q => storeZPt hbr rfl op a next Q
      have HB2 := Lib.hid (hbr.put (vs := encPtr pD) rfl)
      have HA2 := Lib.hid ((hat.below ((Below.refl _ _).alloc (Nat.le_refl _) (.cells (encPs zs4).toArray 108))).put (o := 0) (vs := encPtr pD) (Nat.le_succ _) (hfr _ HBR.out.lt h1))
      clear hat hfr hm hbr hstep hld1
      go_wp2_with fail
      refine bodyPost_ret (res_cell_tmp rfl _ _ (w.heap.size + 1) 35 _ _ rfl HB2.out Tryd.underlying35 rfl iszPt) rfl ?_
      rw [← HRE2.out]
      exact ⟨⟨rfl, hr0⟩, HA2.out.fin⟩
    · have hTOT := HRR.out
      rw [M.bind_ok hlm] at hTOT
      rw [hlm] at HL
      obtain ⟨RL, hRL⟩ : ∃ RL, cutL (cutM S k) g b 4 0 l s2 = RL := ⟨_, rfl⟩
      have hokRL : C.Ok RL.2 := by rw [← hRL]; exact back_first (fun l' => back_cutend C.bp _ _ _ _) (by rw [hTOT]; exact HOK.out)
      have HTOT := Lib.hid hTOT
      have HRL := Lib.hid hRL
      have HOKRL := Lib.hid hokRL
      clear hTOT hlm hRL hokRL
      go_wp2_with fail
      refine HL.out.mono ?_
      rintro e w2 ⟨⟨rfl, hl4, hlw⟩, hstep⟩
      obtain ⟨F2, hat, hfr, hm⟩ := HAT1.out.step hstep
      have hsn := store_newA4 l hl4 w2
      obtain ⟨w3, hw3⟩ : ∃ w3, w3 = w2.alloc (.cells (encPs l).toArray 108) := ⟨_, rfl⟩
      have hb23 : Below w2.heap.size w2 w3 := by rw [hw3]; exact (Below.refl _ _).alloc (Nat.le_refl _) _
      have hbl3 : Blk w3 w2.heap.size 108 (encPs l) := by rw [hw3]; exact Blk.new w2 _ _
      rw [← hw3] at hsn
      have hld3 := fun op a next Q => loadW_blk (P := Tryd.prog) (t := 108) hbl3 Tryd.underlying108 rfl (by rw [encPs_length]; exact hl4 ▸ iszA4) op a next Q
      have hsn2 := store_newA4 l hl4 w3
      obtain ⟨w4, hw4⟩ : ∃ w4, w4 = w3.alloc (.cells (encPs l).toArray 108) := ⟨_, rfl⟩
      have hb34 : Below w3.heap.size w3 w4 := by rw [hw4]; exact (Below.refl _ _).alloc (Nat.le_refl _) _
      have hbk4 : Blk w4 w3.heap.size 108 (encPs l) := by rw [hw4]; exact Blk.new w3 _ _
      rw [← hw4] at hsn2
      have hat3 := hat.below hb23
      have HI : Hid (CutI C F w w4 w2.heap.size w3.heap.size g k p b l 0 l s2 RL F2) := Lib.hid ⟨by omega, hl4, hlw, HRL.out, hat3.below hb34, ((hm.blk HBP.out h0).below hb23).below hb34, ((hm.blk HBR.out h1).below hb23).below hb34, hbl3.below hb34, hbk4, hfr _ HBP.out.lt h0, hfr _ HBR.out.lt h1, hat.fresh (Nat.le_refl _), hat3.fresh (Nat.le_refl _), by have := HBR.out.lt; have := hm.size; omega, hbl3.lt⟩
      have HLW := Lib.hid hlw
      have HL4 := Lib.hid hl4
      clear hat hat3 hfr hm hstep hld1 hw3 hw4 hb23 hb34 hbl3 hbk4 hlw hl4 HL
      go_wp2_with fail
      go_loopw [44] (fun iv wr => ∃ (j : Nat) (lc : List PtrT) (s1 : σ) (F1 : Nat → Prop), iv = .int .i64 (j : Nat) ∧ j ≤ 4 ∧ Hid (CutI C F w wr w2.heap.size w3.heap.size g k p b l j lc s1 RL F1)) (fun iv _ => 4 - (intOf iv).toNat)
      case atStart => exact ⟨0, l, s2, F2, rfl, by omega, HI⟩
      case round =>
        clear HI hsn hsn2 hld3
        obtain ⟨j, lc, s1, F1, rfl, hj4, HI⟩ := hrel
        by_cases hj : j = 4
        · have hj' : ¬ ((j : Int) < 4) := by omega
          have hRe := HI.out.eq
          rw [hj] at hRe
          have HRLok : Hid ((Except.ok lc, s1) = RL) := Lib.hid hRe
          have hTOT := HTOT.out
          rw [M.bind_ok (HRL.out.trans HRLok.out.symm)] at hTOT
          have hl10 := fun op a next Q => loadW_blk (P := Tryd.prog) (t := 108) HI.out.bl Tryd.underlying108 rfl (by rw [encPs_length]; exact HI.out.l4 ▸ iszA4) op a next Q
          have hl12 := fun op a next Q => loadW_blk (P := Tryd.prog) (t := 108) HI.out.bk Tryd.underlying108 rfl (by rw [encPs_length]; exact HL4.out ▸ iszA4) op a next Q
          have hlp := fun op a next Q => loadW_blk (P := Tryd.prog) HI.out.bp Tryd.underlying35 rfl iszPt op a next Q
          have heq := fun o x y a W next Q => bnW_eqlA4 HI.out.l4 HL4.out HI.out.wf HLW.out o x y a W next Q
          by_cases hq : lc = l
          · rw [if_pos hq] at hTOT
            have HTO : Hid ((Except.ok p, s1) = R) := Lib.hid hTOT
            have hd : decide (lc = l) = true := by simpa using hq
            simp only [hd] at heq
            have hst := fun op a next Q => storeW_part (P := Tryd.prog) (t := 35) (o := 0) (cs := encPtr p) HI.out.br (Nat.le_refl 12) iszPt (encPtr_ones p) op a next Q
            have HA2 := Lib.hid (HI.out.at_.put (o := 0) (vs := encPtr p) (Nat.le_succ _) HI.out.f1)
            clear hq hTOT hd hj hRe
            go_wp2_with fail
            refine bodyPost_ret (res_cell_tmp rfl _ _ (w.heap.size + 1) 35 _ _ rfl (HI.out.br.put (vs := encPtr p) rfl) Tryd.underlying35 rfl iszPt) rfl ?_
            rw [← HTO.out]
            exact ⟨⟨rfl, hp⟩, HA2.out.fin⟩
          · rw [if_neg hq] at hTOT
            have HTO := Lib.hid hTOT
            have hd : decide (lc = l) = false := by simpa using hq
            simp only [hd] at heq
            have HPUT := Lib.hid (put_any HI.out.at_.1 lc HI.out.l4 HI.out.wf (k + 1) (by omega) (by rw [hTOT]; exact HOK.out))
            rw [hTOT] at HPUT
            clear hq hTOT hd hj hRe
            go_wp2_with fail
            refine HPUT.out.mono ?_
            rintro e w8 ⟨hpr8, hstep8⟩
            have hpe8 := PutR.val hpr8
            subst hpe8
            obtain ⟨F4, hat8, hfr8, hm8⟩ := HI.out.at_.step hstep8
            have hbr8 := hm8.blk HI.out.br HI.out.f1
            have hst := fun op a next Q => storeW_part (P := Tryd.prog) (t := 35) (o := 0) (cs := encPtr (ptrV R.1)) hbr8 (Nat.le_refl 12) iszPt (encPtr_ones _) op a next Q
            have HB2 := Lib.hid (hbr8.put (vs := encPtr (ptrV R.1)) rfl)
            have HA2 := Lib.hid (hat8.put (o := 0) (vs := encPtr (ptrV R.1)) (Nat.le_succ _) (hfr8 _ HI.out.br.lt HI.out.f1))
            have HPR8 := Lib.hid hpr8
            clear hpr8 hat8 hfr8 hm8 hbr8 hstep8
            go_wp2_with fail
            refine bodyPost_ret (res_cell_tmp rfl _ _ (w.heap.size + 1) 35 _ _ rfl HB2.out Tryd.underlying35 rfl iszPt) rfl ?_
            exact ⟨HPR8.out, HA2.out.fin⟩
        · have hj' : ((j : Int) < 4) := by omega
          obtain ⟨cc, hc⟩ : ∃ cc, 4 - j = cc + 1 := ⟨3 - j, by omega⟩
          have hRe := HI.out.eq
          rw [hc, cutL] at hRe
          have hjl : j < lc.length := by rw [HI.out.l4]; omega
          obtain ⟨x, hx⟩ : ∃ x, x = lc[j]'hjl := ⟨_, rfl⟩
          obtain ⟨bx, hbx⟩ : ∃ bx, bx = b - (j : Int) * (g : Int) := ⟨_, rfl⟩
          have hgd : lc.getD j pD = x := by rw [List.getD_eq_getElem?_getD, List.getElem?_eq_getElem hjl, hx]; rfl
          rw [hgd, ← hbx] at hRe
          have HRG : Hid (∀ {W : World} {b e : Nat}, Blk W b e (encPs lc) → W.rangeAt b (j * 12) (encPtr x)) := Lib.hid (fun h => by rw [hx]; exact range_ps h hjl)
          have hxw : x.wf := by rw [hx]; exact HI.out.wf _ (List.getElem_mem hjl)
          have hb12 : j * 12 + 12 ≤ (encPs lc).length := by rw [encPs_length, HI.out.l4]; omega
          have hjg := Nat.mul_le_mul (show j ≤ 3 by omega) hg2
          have hjg1 : 0 ≤ (j : Int) * (g : Int) := by rw [← Int.natCast_mul]; omega
          have hjg2 : (j : Int) * (g : Int) ≤ 48 := by rw [← Int.natCast_mul]; omega
          have hokC : C.Ok (cutM S k x bx s1).2 := back_first (fun q => back_cutL (fun x o => back_cut C.bg C.bp k x o) _ _ _ _ _) (by rw [hRe]; exact HOKRL.out)
          obtain ⟨rv, s3, hRS⟩ : ∃ rv s3, cutM S k x bx s1 = (rv, s3) := ⟨_, _, rfl⟩
          have HATD := Lib.hid (HI.out.at_.below (Below.refl _ _).drew)
          have HCUT := Lib.hid (ih HATD.out.1 x hxw bx (by omega) (by rw [hbx]; push_cast at hb1; omega) (by omega) hokC)
          rw [hRS] at HCUT
          have HRS := Lib.hid hRS
          have HRE := Lib.hid hRe
          have HX := Lib.hid hbx
          have HWK : Hid (IntKind.i64.wrap (k : Int) = (k : Int)) := Lib.hid (IntWalk.i64_in _ (by omega))
          have HWB : Hid (IntKind.i64.wrap bx = bx) := Lib.hid (by rw [hbx]; exact IntWalk.i64_in _ (by omega))
          have HW : Hid (IntKind.i64.wrap ((j : Int) * (g : Int)) = (j : Int) * (g : Int)) := Lib.hid (IntWalk.i64_in _ (by omega))
          have HC := Lib.hid hc
          have HJL := Lib.hid hjl
          clear hRe hc hx hbx hgd hokC hRS hjg hjl
          go_wp2_with fail
          refine wp_region_held_drew (S := fun _ => True) (by kernel_rfl) trivial (fun hS0 => ?_)
          refine wpAnyH_take (i := 0) (oi := ?oic0) (v := ?vc0) ?hic0 ?hsc0 ?hfc0 ?hrc0 ?hQc0 ?hyc0 ?hSc0 ?hc0
          case hic0 => (simp only [List.getElem?_toArray, List.getElem?_cons_succ, List.getElem?_cons_zero]; rfl)
          case hsc0 => kernel_rfl
          case hfc0 => kernel_rfl
          case hrc0 => kernel_rfl
          case hSc0 => first | assumption | trivial
          case hyc0 => refine Or.inl ⟨by kernel_rfl, ?_⟩; (intro w hSw; (try dsimp only at hSw); go_simp; try with_reducible rfl)
          case hQc0 => exact fun _ _ _ h => h
          try simp only [Act.put, List.setIfInBounds_toArray, List.set_cons_zero, List.set_cons_succ]
          refine wpAnyH_take (i := 1) (oi := ?oic1) (v := ?vc1) ?hic1 ?hsc1 ?hfc1 ?hrc1 ?hQc1 ?hyc1 ?hSc1 ?hc1
          case hic1 => (simp only [List.getElem?_toArray, List.getElem?_cons_succ, List.getElem?_cons_zero]; rfl)
          case hsc1 => kernel_rfl
          case hfc1 => kernel_rfl
          case hrc1 => kernel_rfl
          case hSc1 => first | assumption | trivial
          case hyc1 => refine Or.inl ⟨by kernel_rfl, ?_⟩; (intro w hSw; (try dsimp only at hSw); go_simp; try with_reducible rfl)
          case hQc1 => exact fun _ _ _ h => h
          try simp only [Act.put, List.setIfInBounds_toArray, List.set_cons_zero, List.set_cons_succ]
          refine wpAnyH_take (i := 2) (oi := ?oic2) (v := ?vc2) ?hic2 ?hsc2 ?hfc2 ?hrc2 ?hQc2 ?hyc2 ?hSc2 ?hc2
          case hic2 => (simp only [List.getElem?_toArray, List.getElem?_cons_succ, List.getElem?_cons_zero]; rfl)
          case hsc2 => kernel_rfl
          case hfc2 => kernel_rfl
          case hrc2 => kernel_rfl
          case hSc2 => first | assumption | trivial
          case hyc2 => refine Or.inl ⟨by kernel_rfl, ?_⟩; (intro w hSw; (try dsimp only at hSw); go_simp; try with_reducible rfl)
          case hQc2 => exact fun _ _ _ h => h
          try simp only [Act.put, List.setIfInBounds_toArray, List.set_cons_zero, List.set_cons_succ]
          refine wpAnyH_take (i := 3) (oi := ?oic3) (v := ?vc3) ?hic3 ?hsc3 ?hfc3 ?hrc3 ?hQc3 ?hyc3 ?hSc3 ?hc3
          case hic3 => (simp only [List.getElem?_toArray, List.getElem?_cons_succ, List.getElem?_cons_zero]; rfl)
          case hsc3 => kernel_rfl
          case hfc3 => kernel_rfl
          case hrc3 => kernel_rfl
          case hSc3 => first | assumption | trivial
          case hyc3 => refine Or.inl ⟨by kernel_rfl, ?_⟩; (intro w hSw; (try dsimp only at hSw); go_simp; first | with_reducible rfl | rw [if_pos (by omega)])
          case hQc3 => exact fun _ _ _ h => h
          try simp only [Act.put, List.setIfInBounds_toArray, List.set_cons_zero, List.set_cons_succ]
          refine wpAnyH_take (i := 5) (oi := ?oic5) (v := ?vc5) ?hic5 ?hsc5 ?hfc5 ?hrc5 ?hQc5 ?hyc5 ?hSc5 ?hc5
          case hic5 => (simp only [List.getElem?_toArray, List.getElem?_cons_succ, List.getElem?_cons_zero]; rfl)
          case hsc5 => kernel_rfl
          case hfc5 => kernel_rfl
          case hrc5 => kernel_rfl
          case hSc5 => first | assumption | trivial
          case hyc5 => refine Or.inl ⟨by kernel_rfl, ?_⟩; (intro w hSw; (try dsimp only at hSw); go_simp; try with_reducible rfl)
          case hQc5 => exact fun _ _ _ h => h
          try simp only [Act.put, List.setIfInBounds_toArray, List.set_cons_zero, List.set_cons_succ]
          refine wpAnyH_take (i := 6) (oi := ?oic6) (v := ?vc6) ?hic6 ?hsc6 ?hfc6 ?hrc6 ?hQc6 ?hyc6 ?hSc6 ?hc6
          case hic6 => (simp only [List.getElem?_toArray, List.getElem?_cons_succ, List.getElem?_cons_zero]; rfl)
          case hsc6 => kernel_rfl
          case hfc6 => kernel_rfl
          case hrc6 => kernel_rfl
          case hSc6 => first | assumption | trivial
          case hyc6 => refine Or.inl ⟨by kernel_rfl, ?_⟩; (intro w hSw; (try dsimp only at hSw); go_simp; first | with_reducible rfl | rw [IntWalk.i64_in _ (by omega)])
          case hQc6 => exact fun _ _ _ h => h
          try simp only [Act.put, List.setIfInBounds_toArray, List.set_cons_zero, List.set_cons_succ]
          refine wpAnyH_take (i := 7) (oi := ?oic7) (v := ?vc7) ?hic7 ?hsc7 ?hfc7 ?hrc7 ?hQc7 ?hyc7 ?hSc7 ?hc7
          case hic7 => (simp only [List.getElem?_toArray, List.getElem?_cons_succ, List.getElem?_cons_zero]; rfl)
          case hsc7 => kernel_rfl
          case hfc7 => kernel_rfl
          case hrc7 => kernel_rfl
          case hSc7 => first | assumption | trivial
          case hyc7 => refine Or.inl ⟨by kernel_rfl, ?_⟩; (intro w hSw; (try dsimp only at hSw); go_simp; try with_reducible rfl)
          case hQc7 => exact fun _ _ _ h => h
          try simp only [Act.put, List.setIfInBounds_toArray, List.set_cons_zero, List.set_cons_succ]
          refine wpAnyH_take (i := 8) (oi := ?oic8) (v := ?vc8) ?hic8 ?hsc8 ?hfc8 ?hrc8 ?hQc8 ?hyc8 ?hSc8 ?hc8
          case hic8 => (simp only [List.getElem?_toArray, List.getElem?_cons_succ, List.getElem?_cons_zero]; rfl)
          case hsc8 => kernel_rfl
          case hfc8 => kernel_rfl
          case hrc8 => kernel_rfl
          case hSc8 => first | assumption | trivial
          case hyc8 => refine Or.inl ⟨by kernel_rfl, ?_⟩; (intro w hSw; (try dsimp only at hSw); go_simp; try with_reducible rfl)
          case hQc8 => exact fun _ _ _ h => h
          try simp only [Act.put, List.setIfInBounds_toArray, List.set_cons_zero, List.set_cons_succ]
          refine wpAnyH_take (i := 9) (oi := ?oic9) (v := ?vc9) ?hic9 ?hsc9 ?hfc9 ?hrc9 ?hQc9 ?hyc9 ?hSc9 ?hc9
          case hic9 => (simp only [List.getElem?_toArray, List.getElem?_cons_succ, List.getElem?_cons_zero]; rfl)
          case hsc9 => kernel_rfl
          case hfc9 => kernel_rfl
          case hrc9 => kernel_rfl
          case hSc9 => first | assumption | trivial
          case hyc9 => refine Or.inl ⟨by kernel_rfl, ?_⟩; (intro w hSw; (try dsimp only at hSw); go_simp; try with_reducible rfl)
          case hQc9 => exact fun _ _ _ h => h
          try simp only [Act.put, List.setIfInBounds_toArray, List.set_cons_zero, List.set_cons_succ]
          refine wpAnyH_ready (rs := [4, 10]) (by kernel_rfl) (by simp) ?_
          refine AllReadyH.cons (by simp only [List.getElem?_toArray, List.getElem?_cons_succ, List.getElem?_cons_zero]; rfl) (fun K hK => ?_) (AllReadyH.cons (by simp only [List.getElem?_toArray, List.getElem?_cons_succ, List.getElem?_cons_zero]; rfl) (fun K hK => ?_) AllReadyH.nil)
          · rw [if_pos (by kernel_rfl)]
            refine wp_load_mid 35 (.tmp 51) rfl w2.heap.size (j * 12) rfl (encPtr x) _ (HRG.out HI.out.bl.drew) Tryd.underlying35 rfl iszPt ?_
            refine hK.out _ _ (trivial) (fun hScp4 => ?_)
            try simp only [Act.put, List.setIfInBounds_toArray, List.set_cons_zero, List.set_cons_succ]
            refine wpAnyH_ready (rs := [10]) (by kernel_rfl) (by simp) ?_
            refine AllReadyH.cons (by simp only [List.getElem?_toArray, List.getElem?_cons_succ, List.getElem?_cons_zero]; rfl) (fun K hK => ?_) AllReadyH.nil
            go_simp
            refine (HBE.out _).mono ?_
            rintro e w5 ⟨rfl, rfl⟩
            try dsimp only
            refine hK.out _ _ (trivial) (fun hScp10 => ?_)
            try simp only [Act.put, List.setIfInBounds_toArray, List.set_cons_zero, List.set_cons_succ]
            refine wpAnyH_take (i := 11) (oi := ?oicp11) (v := ?vcp11) ?hicp11 ?hscp11 ?hfcp11 ?hrcp11 ?hQcp11 ?hycp11 ?hScp11 ?hcp11
            case hicp11 => (simp only [List.getElem?_toArray, List.getElem?_cons_succ, List.getElem?_cons_zero]; rfl)
            case hscp11 => kernel_rfl
            case hfcp11 => kernel_rfl
            case hrcp11 => kernel_rfl
            case hScp11 => first | assumption | trivial
            case hycp11 => refine Or.inl ⟨by kernel_rfl, ?_⟩; (intro w hSw; (try dsimp only at hSw); go_simp; first | with_reducible rfl | rw [IntWalk.i64_in _ (by omega)])
            case hQcp11 => exact fun _ _ _ h => h
            try simp only [Act.put, List.setIfInBounds_toArray, List.set_cons_zero, List.set_cons_succ]
            refine wpAnyH_take (i := 12) (oi := ?oicp12) (v := ?vcp12) ?hicp12 ?hscp12 ?hfcp12 ?hrcp12 ?hQcp12 ?hycp12 ?hScp12 ?hcp12
            case hicp12 => (simp only [List.getElem?_toArray, List.getElem?_cons_succ, List.getElem?_cons_zero]; rfl)
            case hscp12 => kernel_rfl
            case hfcp12 => kernel_rfl
            case hrcp12 => kernel_rfl
            case hScp12 => first | assumption | trivial
            case hycp12 => refine Or.inl ⟨by kernel_rfl, ?_⟩; (intro w hSw; (try dsimp only at hSw); go_simp; first | rw [HW.out, ← HX.out] | rw [HW.out, IntWalk.i64_in _ (by omega), ← HX.out])
            case hQcp12 => exact fun _ _ _ h => h
            try simp only [Act.put, List.setIfInBounds_toArray, List.set_cons_zero, List.set_cons_succ]
            refine wpAnyH_ready (rs := [13]) (by kernel_rfl) (by simp) ?_
            refine AllReadyH.cons (by simp only [List.getElem?_toArray, List.getElem?_cons_succ, List.getElem?_cons_zero]; rfl) (fun K hK => ?_) AllReadyH.nil
            go_simp
            rw [HWK.out, HWB.out]
            refine HCUT.out.mono ?_
            rintro e w6 ⟨hpr, hstep6⟩
            have hpe := PutR.val hpr
            obtain ⟨q, hq⟩ : ∃ q, ptrV rv = q := ⟨_, rfl⟩
            obtain ⟨E, hE⟩ : ∃ E, errV rv = E := ⟨_, rfl⟩
            rw [hq, hE] at hpe
            subst hpe
            have HQV := Lib.hid hq
            have HEE := Lib.hid hE
            have HPR := Lib.hid (PutR.two hpr)
            clear hq hE hpr
            obtain ⟨F3, hat6, hfr6, hm6⟩ := HATD.out.step hstep6
            have hbp6 := hm6.blk HI.out.bp.drew HI.out.f0
            have hbr6 := hm6.blk HI.out.br.drew HI.out.f1
            have hbl6 := hm6.blk HI.out.bl.drew HI.out.fl
            have hbk6 := hm6.blk HI.out.bk.drew HI.out.fk
            have hf06 := hfr6 _ HI.out.bp.lt HI.out.f0
            have hf16 := hfr6 _ HI.out.br.lt HI.out.f1
            have hfl6 := hfr6 _ HI.out.bl.lt HI.out.fl
            have hfk6 := hfr6 _ HI.out.bk.lt HI.out.fk
            clear hfr6 hstep6 hm6
            try dsimp only
            refine hK.out _ _ (trivial) (fun hScp13 => ?_)
            try simp only [Act.put, List.setIfInBounds_toArray, List.set_cons_zero, List.set_cons_succ]
            refine wpAnyH_take (i := 14) (oi := ?oicp14) (v := ?vcp14) ?hicp14 ?hscp14 ?hfcp14 ?hrcp14 ?hQcp14 ?hycp14 ?hScp14 ?hcp14
            case hicp14 => (simp only [List.getElem?_toArray, List.getElem?_cons_succ, List.getElem?_cons_zero]; rfl)
            case hscp14 => kernel_rfl
            case hfcp14 => kernel_rfl
            case hrcp14 => kernel_rfl
            case hScp14 => first | assumption | trivial
            case hycp14 => refine Or.inl ⟨by kernel_rfl, ?_⟩; (intro w hSw; (try dsimp only at hSw); go_simp; try with_reducible rfl)
            case hQcp14 => exact fun _ _ _ h => h
            try simp only [Act.put, List.setIfInBounds_toArray, List.set_cons_zero, List.set_cons_succ]
            refine wpAnyH_take (i := 15) (oi := ?oicp15) (v := ?vcp15) ?hicp15 ?hscp15 ?hfcp15 ?hrcp15 ?hQcp15 ?hycp15 ?hScp15 ?hcp15
            case hicp15 => (simp only [List.getElem?_toArray, List.getElem?_cons_succ, List.getElem?_cons_zero]; rfl)
            case hscp15 => kernel_rfl
            case hfcp15 => kernel_rfl
            case hrcp15 => kernel_rfl
            case hScp15 => first | assumption | trivial
            case hycp15 => refine Or.inl ⟨by kernel_rfl, ?_⟩; (intro w hSw; (try dsimp only at hSw); go_simp; try with_reducible rfl)
            case hQcp15 => exact fun _ _ _ h => h
            try simp only [Act.put, List.setIfInBounds_toArray, List.set_cons_zero, List.set_cons_succ]
            refine wpAnyH_take (i := 16) (oi := ?oicp16) (v := ?vcp16) ?hicp16 ?hscp16 ?hfcp16 ?hrcp16 ?hQcp16 ?hycp16 ?hScp16 ?hcp16
            case hicp16 => (simp only [List.getElem?_toArray, List.getElem?_cons_succ, List.getElem?_cons_zero]; rfl)
            case hscp16 => kernel_rfl
            case hfcp16 => kernel_rfl
            case hrcp16 => kernel_rfl
            case hScp16 => first | assumption | trivial
            case hycp16 => refine Or.inl ⟨by kernel_rfl, ?_⟩; (intro w hSw; (try dsimp only at hSw); go_simp; try with_reducible rfl)
            case hQcp16 => exact fun _ _ _ h => h
            try simp only [Act.put, List.setIfInBounds_toArray, List.set_cons_zero, List.set_cons_succ]
            refine wpAnyH_take (i := 17) (oi := ?oicp17) (v := ?vcp17) ?hicp17 ?hscp17 ?hfcp17 ?hrcp17 ?hQcp17 ?hycp17 ?hScp17 ?hcp17
            case hicp17 => (simp only [List.getElem?_toArray, List.getElem?_cons_succ, List.getElem?_cons_zero]; rfl)
            case hscp17 => kernel_rfl
            case hfcp17 => kernel_rfl
            case hrcp17 => kernel_rfl
            case hScp17 => first | assumption | trivial
            case hycp17 => refine Or.inl ⟨by kernel_rfl, ?_⟩; (intro w hSw; (try dsimp only at hSw); go_simp; first | with_reducible rfl | rw [if_pos (by omega)])
            case hQcp17 => exact fun _ _ _ h => h
            try simp only [Act.put, List.setIfInBounds_toArray, List.set_cons_zero, List.set_cons_succ]
            refine wpAnyH_ready (rs := [18]) (by kernel_rfl) (by simp) ?_
            refine AllReadyH.cons (by simp only [List.getElem?_toArray, List.getElem?_cons_succ, List.getElem?_cons_zero]; rfl) (fun K hK => ?_) AllReadyH.nil
            rw [if_pos (by kernel_rfl)]
            refine wp_store_mid 35 (.tmp 64) (.tmp 62) rfl w2.heap.size (j * 12) (encPtr q).toArray rfl rfl (blk_there hbl6 hb12) iszPt (all_oneCell_toArray (encPtr_ones _)) ?_
            refine hK.out _ _ (trivial) (fun hScp18 => ?_)
            try simp only [Act.put, List.setIfInBounds_toArray, List.set_cons_zero, List.set_cons_succ]
            refine wpAnyH_take (i := 19) (oi := ?oicp19) (v := ?vcp19) ?hicp19 ?hscp19 ?hfcp19 ?hrcp19 ?hQcp19 ?hycp19 ?hScp19 ?hcp19
            case hicp19 => (simp only [List.getElem?_toArray, List.getElem?_cons_succ, List.getElem?_cons_zero]; rfl)
            case hscp19 => kernel_rfl
            case hfcp19 => kernel_rfl
            case hrcp19 => kernel_rfl
            case hScp19 => first | assumption | trivial
            case hycp19 => refine Or.inl ⟨by kernel_rfl, ?_⟩; (intro w hSw; (try dsimp only at hSw); go_simp; try with_reducible rfl)
            case hQcp19 => exact fun _ _ _ h => h
            try simp only [Act.put, List.setIfInBounds_toArray, List.set_cons_zero, List.set_cons_succ]
            refine wpAnyH_done (by kernel_rfl) ?_ _
            have hset : Blk (w6.setCells w2.heap.size (j * 12) (encPtr q)) w2.heap.size 108 (encPs (lc.set j q)) := by
              have := hbl6.setCells (encPtr q) (j * 12) hb12
              rw [show j * 12 + (encPtr q).length = j * 12 + 12 from rfl, encPs_setCells _ j _ HJL.out] at this
              exact this
            have hbp7 := hbp6.away (j * 12) (encPtr q) (by have := HI.out.ge; omega : w.heap.size ≠ w2.heap.size)
            have hbr7 := hbr6.away (j * 12) (encPtr q) (by have := HI.out.ge; omega : w.heap.size + 1 ≠ w2.heap.size)
            have hbk7 := hbk6.away (j * 12) (encPtr q) (by have := HI.out.gl; omega : w3.heap.size ≠ w2.heap.size)
            have hat7 := hat6.put (o := j * 12) (vs := encPtr q) (by have := HI.out.ge; omega : w.heap.size ≤ w2.heap.size) hfl6
            rcases HPR.out with ⟨r, rfl, hr0⟩ | ⟨q', rfl, hqw⟩
            · have hRe := HRE.out
              rw [M.bind_err HRS.out] at hRe
              obtain rfl := HQV.out
              obtain rfl := HEE.out
              have hr1 : ((r : Int) != 0) = true := by simpa using hr0
              have HRE3 := Lib.hid hRe
              clear hRe HQV HEE
              unfold ptrV errV at *
              have hst := fun op a next Q => storeZPt hbr7 rfl op a next Q
              have HB2 := Lib.hid (hbr7.put (vs := encPtr pD) rfl)
              have HA2 := Lib.hid (hat7.put (o := 0) (vs := encPtr pD) (Nat.le_succ _) hf16)
              clear hset hbr7 hat7 hbl6 hat6 hbr6 hbk7 hbk6 hbp6 hbp7
              go_wp2_with fail
              refine bodyPost_ret (res_cell_tmp rfl _ _ (w.heap.size + 1) 35 _ _ rfl HB2.out Tryd.underlying35 rfl iszPt) rfl ?_
              rw [← HTOT.out, M.bind_err (HRL.out.trans HRE3.out.symm)]
              exact ⟨⟨rfl, hr0⟩, HA2.out.fin⟩
            · have hRe := HRE.out
              rw [M.bind_ok HRS.out] at hRe
              obtain rfl : q' = q := HQV.out
              obtain rfl : E = 0 := HEE.out.symm
              have hwf : ∀ x ∈ lc.set j q', x.wf := fun x hx => (List.mem_or_eq_of_mem_set hx).elim (HI.out.wf x) (fun e => e ▸ hqw)
              have hl4s : (lc.set j q').length = 4 := by rw [List.length_set, HI.out.l4]
              have HI3 : Hid (CutI C F w (w6.setCells w2.heap.size (j * 12) (encPtr q')) w2.heap.size w3.heap.size g k p b l (j + 1) (lc.set j q') s3 RL F3) := Lib.hid ⟨by omega, hl4s, hwf, by rw [show 4 - (j + 1) = cc from by have := HC.out; omega]; exact hRe, hat7, hbp7, hbr7, hset, hbk7, hf06, hf16, hfl6, hfk6, HI.out.ge, HI.out.gl⟩
              clear hset hbr7 hat7 hbl6 hl4s hRe hat6 hbr6 hbp6 hbp7 hbk6 hbk7
              go_wp2_with fail
              refine ⟨⟨j + 1, lc.set j q', s3, F3, by rw [Int.natCast_add]; rfl, by omega, HI3⟩, ?_⟩
              simp [intOf]; omega
          · go_simp
            refine (HBE.out _).mono ?_
            rintro e w5 ⟨rfl, rfl⟩
            try dsimp only
            refine hK.out _ _ (trivial) (fun hScq10 => ?_)
            try simp only [Act.put, List.setIfInBounds_toArray, List.set_cons_zero, List.set_cons_succ]
            refine wpAnyH_take (i := 11) (oi := ?oicq11) (v := ?vcq11) ?hicq11 ?hscq11 ?hfcq11 ?hrcq11 ?hQcq11 ?hycq11 ?hScq11 ?hcq11
            case hicq11 => (simp only [List.getElem?_toArray, List.getElem?_cons_succ, List.getElem?_cons_zero]; rfl)
            case hscq11 => kernel_rfl
            case hfcq11 => kernel_rfl
            case hrcq11 => kernel_rfl
            case hScq11 => first | assumption | trivial
            case hycq11 => refine Or.inl ⟨by kernel_rfl, ?_⟩; (intro w hSw; (try dsimp only at hSw); go_simp; first | with_reducible rfl | rw [IntWalk.i64_in _ (by omega)])
            case hQcq11 => exact fun _ _ _ h => h
            try simp only [Act.put, List.setIfInBounds_toArray, List.set_cons_zero, List.set_cons_succ]
            refine wpAnyH_take (i := 12) (oi := ?oicq12) (v := ?vcq12) ?hicq12 ?hscq12 ?hfcq12 ?hrcq12 ?hQcq12 ?hycq12 ?hScq12 ?hcq12
            case hicq12 => (simp only [List.getElem?_toArray, List.getElem?_cons_succ, List.getElem?_cons_zero]; rfl)
            case hscq12 => kernel_rfl
            case hfcq12 => kernel_rfl
            case hrcq12 => kernel_rfl
            case hScq12 => first | assumption | trivial
            case hycq12 => refine Or.inl ⟨by kernel_rfl, ?_⟩; (intro w hSw; (try dsimp only at hSw); go_simp; first | rw [HW.out, ← HX.out] | rw [HW.out, IntWalk.i64_in _ (by omega), ← HX.out])
            case hQcq12 => exact fun _ _ _ h => h
            try simp only [Act.put, List.setIfInBounds_toArray, List.set_cons_zero, List.set_cons_succ]
            refine wpAnyH_ready (rs := [4]) (by kernel_rfl) (by simp) ?_
            refine AllReadyH.cons (by simp only [List.getElem?_toArray, List.getElem?_cons_succ, List.getElem?_cons_zero]; rfl) (fun K hK => ?_) AllReadyH.nil
            rw [if_pos (by kernel_rfl)]
            refine wp_load_mid 35 (.tmp 51) rfl w2.heap.size (j * 12) rfl (encPtr x) _ (HRG.out HI.out.bl.drew) Tryd.underlying35 rfl iszPt ?_
            refine hK.out _ _ (trivial) (fun hScq4 => ?_)
            try simp only [Act.put, List.setIfInBounds_toArray, List.set_cons_zero, List.set_cons_succ]
            refine wpAnyH_ready (rs := [13]) (by kernel_rfl) (by simp) ?_
            refine AllReadyH.cons (by simp only [List.getElem?_toArray, List.getElem?_cons_succ, List.getElem?_cons_zero]; rfl) (fun K hK => ?_) AllReadyH.nil
            go_simp
            rw [HWK.out, HWB.out]
            refine HCUT.out.mono ?_
            rintro e w6 ⟨hpr, hstep6⟩
            have hpe := PutR.val hpr
            obtain ⟨q, hq⟩ : ∃ q, ptrV rv = q := ⟨_, rfl⟩
            obtain ⟨E, hE⟩ : ∃ E, errV rv = E := ⟨_, rfl⟩
            rw [hq, hE] at hpe
            subst hpe
            have HQV := Lib.hid hq
            have HEE := Lib.hid hE
            have HPR := Lib.hid (PutR.two hpr)
            clear hq hE hpr
            obtain ⟨F3, hat6, hfr6, hm6⟩ := HATD.out.step hstep6
            have hbp6 := hm6.blk HI.out.bp.drew HI.out.f0
            have hbr6 := hm6.blk HI.out.br.drew HI.out.f1
            have hbl6 := hm6.blk HI.out.bl.drew HI.out.fl
            have hbk6 := hm6.blk HI.out.bk.drew HI.out.fk
            have hf06 := hfr6 _ HI.out.bp.lt HI.out.f0
            have hf16 := hfr6 _ HI.out.br.lt HI.out.f1
            have hfl6 := hfr6 _ HI.out.bl.lt HI.out.fl
            have hfk6 := hfr6 _ HI.out.bk.lt HI.out.fk
            clear hfr6 hstep6 hm6
            try dsimp only
            refine hK.out _ _ (trivial) (fun hScq13 => ?_)
            try simp only [Act.put, List.setIfInBounds_toArray, List.set_cons_zero, List.set_cons_succ]
            refine wpAnyH_take (i := 14) (oi := ?oicq14) (v := ?vcq14) ?hicq14 ?hscq14 ?hfcq14 ?hrcq14 ?hQcq14 ?hycq14 ?hScq14 ?hcq14
            case hicq14 => (simp only [List.getElem?_toArray, List.getElem?_cons_succ, List.getElem?_cons_zero]; rfl)
            case hscq14 => kernel_rfl
            case hfcq14 => kernel_rfl
            case hrcq14 => kernel_rfl
            case hScq14 => first | assumption | trivial
            case hycq14 => refine Or.inl ⟨by kernel_rfl, ?_⟩; (intro w hSw; (try dsimp only at hSw); go_simp; try with_reducible rfl)
            case hQcq14 => exact fun _ _ _ h => h
            try simp only [Act.put, List.setIfInBounds_toArray, List.set_cons_zero, List.set_cons_succ]
            refine wpAnyH_take (i := 15) (oi := ?oicq15) (v := ?vcq15) ?hicq15 ?hscq15 ?hfcq15 ?hrcq15 ?hQcq15 ?hycq15 ?hScq15 ?hcq15
            case hicq15 => (simp only [List.getElem?_toArray, List.getElem?_cons_succ, List.getElem?_cons_zero]; rfl)
            case hscq15 => kernel_rfl
            case hfcq15 => kernel_rfl
            case hrcq15 => kernel_rfl
            case hScq15 => first | assumption | trivial
            case hycq15 => refine Or.inl ⟨by kernel_rfl, ?_⟩; (intro w hSw; (try dsimp only at hSw); go_simp; try with_reducible rfl)
            case hQcq15 => exact fun _ _ _ h => h
            try simp only [Act.put, List.setIfInBounds_toArray, List.set_cons_zero, List.set_cons_succ]
            refine wpAnyH_take (i := 16) (oi := ?oicq16) (v := ?vcq16) ?hicq16 ?hscq16 ?hfcq16 ?hrcq16 ?hQcq16 ?hycq16 ?hScq16 ?hcq16
            case hicq16 => (simp only [List.getElem?_toArray, List.getElem?_cons_succ, List.getElem?_cons_zero]; rfl)
            case hscq16 => kernel_rfl
            case hfcq16 => kernel_rfl
            case hrcq16 => kernel_rfl
            case hScq16 => first | assumption | trivial
            case hycq16 => refine Or.inl ⟨by kernel_rfl, ?_⟩; (intro w hSw; (try dsimp only at hSw); go_simp; try with_reducible rfl)
            case hQcq16 => exact fun _ _ _ h => h
            try simp only [Act.put, List.setIfInBounds_toArray, List.set_cons_zero, List.set_cons_succ]
            refine wpAnyH_take (i := 17) (oi := ?oicq17) (v := ?vcq17) ?hicq17 ?hscq17 ?hfcq17 ?hrcq17 ?hQcq17 ?hycq17 ?hScq17 ?hcq17
            case hicq17 => (simp only [List.getElem?_toArray, List.getElem?_cons_succ, List.getElem?_cons_zero]; rfl)
            case hscq17 => kernel_rfl
            case hfcq17 => kernel_rfl
            case hrcq17 => kernel_rfl
            case hScq17 => first | assumption | trivial
            case hycq17 => refine Or.inl ⟨by kernel_rfl, ?_⟩; (intro w hSw; (try dsimp only at hSw); go_simp; first | with_reducible rfl | rw [if_pos (by omega)])
            case hQcq17 => exact fun _ _ _ h => h
            try simp only [Act.put, List.setIfInBounds_toArray, List.set_cons_zero, List.set_cons_succ]
            refine wpAnyH_ready (rs := [18]) (by kernel_rfl) (by simp) ?_
            refine AllReadyH.cons (by simp only [List.getElem?_toArray, List.getElem?_cons_succ, List.getElem?_cons_zero]; rfl) (fun K hK => ?_) AllReadyH.nil
            rw [if_pos (by kernel_rfl)]
            refine wp_store_mid 35 (.tmp 64) (.tmp 62) rfl w2.heap.size (j * 12) (encPtr q).toArray rfl rfl (blk_there hbl6 hb12) iszPt (all_oneCell_toArray (encPtr_ones _)) ?_
            refine hK.out _ _ (trivial) (fun hScq18 => ?_)
            try simp only [Act.put, List.setIfInBounds_toArray, List.set_cons_zero, List.set_cons_succ]
            refine wpAnyH_take (i := 19) (oi := ?oicq19) (v := ?vcq19) ?hicq19 ?hscq19 ?hfcq19 ?hrcq19 ?hQcq19 ?hycq19 ?hScq19 ?hcq19
            case hicq19 => (simp only [List.getElem?_toArray, List.getElem?_cons_succ, List.getElem?_cons_zero]; rfl)
            case hscq19 => kernel_rfl
            case hfcq19 => kernel_rfl
            case hrcq19 => kernel_rfl
            case hScq19 => first | assumption | trivial
            case hycq19 => refine Or.inl ⟨by kernel_rfl, ?_⟩; (intro w hSw; (try dsimp only at hSw); go_simp; try with_reducible rfl)
            case hQcq19 => exact fun _ _ _ h => h
            try simp only [Act.put, List.setIfInBounds_toArray, List.set_cons_zero, List.set_cons_succ]
            refine wpAnyH_done (by kernel_rfl) ?_ _
            have hset : Blk (w6.setCells w2.heap.size (j * 12) (encPtr q)) w2.heap.size 108 (encPs (lc.set j q)) := by
              have := hbl6.setCells (encPtr q) (j * 12) hb12
              rw [show j * 12 + (encPtr q).length = j * 12 + 12 from rfl, encPs_setCells _ j _ HJL.out] at this
              exact this
            have hbp7 := hbp6.away (j * 12) (encPtr q) (by have := HI.out.ge; omega : w.heap.size ≠ w2.heap.size)
            have hbr7 := hbr6.away (j * 12) (encPtr q) (by have := HI.out.ge; omega : w.heap.size + 1 ≠ w2.heap.size)
            have hbk7 := hbk6.away (j * 12) (encPtr q) (by have := HI.out.gl; omega : w3.heap.size ≠ w2.heap.size)
            have hat7 := hat6.put (o := j * 12) (vs := encPtr q) (by have := HI.out.ge; omega : w.heap.size ≤ w2.heap.size) hfl6
            rcases HPR.out with ⟨r, rfl, hr0⟩ | ⟨q', rfl, hqw⟩
            · have hRe := HRE.out
              rw [M.bind_err HRS.out] at hRe
              obtain rfl := HQV.out
              obtain rfl := HEE.out
              have hr1 : ((r : Int) != 0) = true := by simpa using hr0
              have HRE3 := Lib.hid hRe
              clear hRe HQV HEE
              unfold ptrV errV at *
              have hst := fun op a next Q => storeZPt hbr7 rfl op a next Q
              have HB2 := Lib.hid (hbr7.put (vs := encPtr pD) rfl)
              have HA2 := Lib.hid (hat7.put (o := 0) (vs := encPtr pD) (Nat.le_succ _) hf16)
              clear hset hbr7 hat7 hbl6 hat6 hbr6 hbk7 hbk6 hbp6 hbp7
              go_wp2_with fail
              refine bodyPost_ret (res_cell_tmp rfl _ _ (w.heap.size + 1) 35 _ _ rfl HB2.out Tryd.underlying35 rfl iszPt) rfl ?_
              rw [← HTOT.out, M.bind_err (HRL.out.trans HRE3.out.symm)]
              exact ⟨⟨rfl, hr0⟩, HA2.out.fin⟩
            · have hRe := HRE.out
              rw [M.bind_ok HRS.out] at hRe
              obtain rfl : q' = q := HQV.out
              obtain rfl : E = 0 := HEE.out.symm
              have hwf : ∀ x ∈ lc.set j q', x.wf := fun x hx => (List.mem_or_eq_of_mem_set hx).elim (HI.out.wf x) (fun e => e ▸ hqw)
              have hl4s : (lc.set j q').length = 4 := by rw [List.length_set, HI.out.l4]
              have HI3 : Hid (CutI C F w (w6.setCells w2.heap.size (j * 12) (encPtr q')) w2.heap.size w3.heap.size g k p b l (j + 1) (lc.set j q') s3 RL F3) := Lib.hid ⟨by omega, hl4s, hwf, by rw [show 4 - (j + 1) = cc from by have := HC.out; omega]; exact hRe, hat7, hbp7, hbr7, hset, hbk7, hf06, hf16, hfl6, hfk6, HI.out.ge, HI.out.gl⟩
              clear hset hbr7 hat7 hbl6 hl4s hRe hat6 hbr6 hbp6 hbp7 hbk6 hbk7
              go_wp2_with fail
              refine ⟨⟨j + 1, lc.set j q', s3, F3, by rw [Int.natCast_add]; rfl, by omega, HI3⟩, ?_⟩
              simp [intOf]; omega
end
end Go.Proofs.YtbhofablndjeoaaDoor
