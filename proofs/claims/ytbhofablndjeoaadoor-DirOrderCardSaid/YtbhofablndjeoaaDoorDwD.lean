/- The law DirOrder. -/
import Derived.Test.YtbhofablndjeoaaDoorDwE
import Derived.Deep.DeepCutAuto
namespace Go.Proofs.YtbhofablndjeoaaDoor
open Go.RowKit
set_option linter.unusedSimpArgs false
set_option linter.unusedVariables false
theorem iszA6 : (Tryd.prog.info? 58).map (·.size) = some 15 := by kernel_rfl
theorem wp_loadA6 {dst : Option Tmp} {x : Operand} {ty : TypeId} {pos : String} {after : Array Edge} {guard : Option (Nat × Bool)} {a : Act} {w : World} {next : Act → World → Prop} {Q : Exit → Act → World → Prop} :
    Oper.wp Tryd.prog ⟨dst, .load 58 x, ty, pos, after, guard⟩ a w next Q = LoadW Tryd.prog ⟨dst, .load 58 x, ty, pos, after, guard⟩ 58 (a.eval x) a w next Q := rfl
theorem wp_storeA6 {dst : Option Tmp} {x y : Operand} {ty : TypeId} {pos : String} {after : Array Edge} {guard : Option (Nat × Bool)} {a : Act} {w : World} {next : Act → World → Prop} {Q : Exit → Act → World → Prop} :
    Oper.wp Tryd.prog ⟨dst, .store 58 x y, ty, pos, after, guard⟩ a w next Q = StoreW Tryd.prog ⟨dst, .store 58 x y, ty, pos, after, guard⟩ 58 (a.eval x) (a.eval y) a w next Q := rfl
attribute [local go_sem ↓] wp_loadPt wp_storePt wp_loadNd wp_storeNd wp_binNd wp_loadA6 wp_storeA6
theorem encD_ones (x : ActD) : ∀ u ∈ encD x, u.oneCell' = true := by
  intro u hu
  rcases List.mem_cons.1 hu with rfl | hu
  · rfl
  rcases List.mem_cons.1 hu with rfl | hu
  · rfl
  exact encN_ones _ u hu
theorem store_newA6 (x : ActD) (w : World) (op : Oper) (a : Act) (next : Act → World → Prop) (Q : Exit → Act → World → Prop) : StoreW Tryd.prog op 58 (.pointer (some ⟨w.heap.size, 0, none⟩)) (.agg (encD x).toArray) a (w.alloc (.cells #[.int .u8 0, .int .i64 0, .int .i64 0, .int .i64 0, .int .i64 0, .int .i64 0, .int .i64 0, .bool false, .int .i64 0, .int .i64 0, .int .i64 0, .int .u64 0, .int .u64 0, .int .u64 0, .int .u64 0] 58)) next Q = next (a.put op.dst undef) (w.alloc (.cells (encD x).toArray 58)) := by
  have h := Blk.new w 58 (#[.int .u8 0, .int .i64 0, .int .i64 0, .int .i64 0, .int .i64 0, .int .i64 0, .int .i64 0, .bool false, .int .i64 0, .int .i64 0, .int .i64 0, .int .u64 0, .int .u64 0, .int .u64 0, .int .u64 0] : Array Value).toList
  have e := setCells_alloc w 58 (encD x) (#[.int .u8 0, .int .i64 0, .int .i64 0, .int .i64 0, .int .i64 0, .int .i64 0, .int .i64 0, .bool false, .int .i64 0, .int .i64 0, .int .i64 0, .int .u64 0, .int .u64 0, .int .u64 0, .int .u64 0] : Array Value).toList rfl
  have s := storeW_part (P := Tryd.prog) (t := 58) (o := 0) (cs := encD x) h (Nat.le_refl 15) iszA6 (encD_ones x) op a next Q
  rw [e] at s
  exact s
theorem act_n {w : World} {g e : Nat} {x : ActD} (h : Blk w g e (encD x)) : w.rangeAt g 2 (encN x.n) := fun j v hj => by
  rw [h.cell]
  have e : encD x = [.int .u8 x.d.toNat, .int .i64 x.id] ++ encN x.n := rfl
  rw [e, List.getElem?_append_right (by simp)]
  simpa using hj
theorem act_set {w : World} {g e : Nat} {x : ActD} (h : Blk w g e (encD x)) (n : NodeT) : Blk (w.setCells g 2 (encN n)) g e (encD ⟨x.d, x.id, n⟩) := h.setCells (encN n) 2 (Nat.le_refl 15)
/-- where the law stands: two directories in one store -/
structure OdI (mb gA gB : Nat) (w wr : World) (k : Nat) (a b : NodeT) (Da Db : Nat → Option NodeT) (st : MemT) (F : Nat → Prop) (f g : Nat → Int) (i : Nat) : Prop where
  s : LdG mb w wr st F [(gA, 37, encN a), (gB, 37, encN b)]
  rd : Rd k st
  da : DI st.L a Da
  db : DI st.L b Db
  sa : SzI a Da
  sb : SzI b Db
  oa : OrdI Da f i
  ob : OrdI Db g i
theorem idN_w {id : Int} (h : I64' id) : (idN id).wf := ⟨by unfold I64' at *; show -9223372036854775808 ≤ max id 0 ∧ max id 0 ≤ 9223372036854775807; omega, idN_wf id⟩
set_option maxHeartbeats 8000000 in
set_option maxRecDepth 100000 in
theorem order_any (a : Option Addr) (len cap : Nat) (zs : List ActD) (tn : Nat) (w : World) (h : DSl w a len cap zs) (htn : tn ≤ 255) :
    Calls Tryd.prog 7 #[.slice a len cap, .int .u8 tn] w fun e w' => e = .returned (.bool true) ∧ Below w.heap.size w w' := by
  have HAW := Lib.hid awake16_any
  have hmx := h.mx
  by_cases hlen : 40 < len
  · have q1 : (40 : Int) < (len : Int) := by omega
    go_enter Tryd.func7, Tryd.ntmps7
    go_wp2_with fail
    refine (HAW.out _).mono ?_
    rintro e w1 ⟨rfl, hb1⟩
    have HB1 := Lib.hid hb1
    clear hb1
    go_wp2_with fail
    refine (HAW.out _).mono ?_
    rintro e w2 ⟨rfl, hb2⟩
    have HFIN := Lib.hid (HB1.out.trans (hb2.mono HB1.out.size))
    clear hb2
    go_wp2_with fail
    go_ret
    exact ⟨rfl, HFIN.out⟩
  · have q1 : ¬ (40 : Int) < (len : Int) := by omega
    have q1' : (len : Int) ≤ 40 := by omega
    by_cases hz : len = 0
    · have q5 : (len : Int) = 0 := by omega
      have q6 : ((len : Int) == 0) = true := by simp; omega
      go_enter Tryd.func7, Tryd.ntmps7
      go_wp2_with fail
      refine (HAW.out _).mono ?_
      rintro e w1 ⟨rfl, hb1⟩
      have HB1 := Lib.hid hb1
      clear hb1
      go_wp2_with fail
      refine (HAW.out _).mono ?_
      rintro e w2 ⟨rfl, hb2⟩
      have HFIN := Lib.hid (HB1.out.trans (hb2.mono HB1.out.size))
      clear hb2
      go_wp2_with fail
      go_ret
      exact ⟨rfl, HFIN.out⟩
    · have hl0 : 0 < len := by omega
      have q6 : ((len : Int) == 0) = false := by simp; omega
      go_enter Tryd.func7, Tryd.ntmps7
      go_wp2_with fail
      refine (HAW.out _).mono ?_
      rintro e w1 ⟨rfl, hb1⟩
      have HB1 := Lib.hid hb1
      clear hb1
      go_upto_region 5 with fail
      obtain ⟨mb, hmb⟩ : ∃ mb, mb = w1.heap.size := ⟨_, rfl⟩
      obtain ⟨gA, hgA⟩ : ∃ gA, gA = w1.heap.size + 1 := ⟨_, rfl⟩
      obtain ⟨gB, hgB⟩ : ∃ gB, gB = w1.heap.size + 1 + 1 := ⟨_, rfl⟩
      obtain ⟨wm, hwm⟩ : ∃ wm, wm = w1.alloc (.cells mem0.toArray 27) := ⟨_, rfl⟩
      obtain ⟨wA, hwA⟩ : ∃ wA, wA = wm.alloc (.cells (encN nD).toArray 37) := ⟨_, rfl⟩
      obtain ⟨wB, hwB⟩ : ∃ wB, wB = wA.alloc (.cells (encN nD).toArray 37) := ⟨_, rfl⟩
      have hsm : wm.heap.size = w1.heap.size + 1 := by rw [hwm]; simp
      have hsA : wA.heap.size = w1.heap.size + 1 + 1 := by rw [hwA, World.size_alloc, hsm]
      have hL0 : LdG mb wm wB s0 (fun x => x = mb) [(gB, 37, encN nD), (gA, 37, encN nD)] := by
        have hm0 : memIs mb wm s0 (fun k => k = mb) := by rw [hwm]; exact mem_new hmb.symm
        have h0 : LdG mb wm wm s0 (fun x => x = mb) [] := ⟨StoreC.At.start (C := memC mb) hm0, fun b hb => (by cases hb), fun b hb => (by cases hb)⟩
        have h1 := (h0.new 37 (encN nD)).new 37 (encN nD)
        rw [← hwA, ← hwB, hsA, hsm, ← hgB, ← hgA] at h1
        exact h1
      have hba := hL0.kb (gA, 37, encN nD) (by simp)
      obtain ⟨wC, hwC⟩ : ∃ wC, wC = wB.setCells gA 0 (encN nD) := ⟨_, rfl⟩
      have hL1 : LdG mb wm wC s0 (fun x => x = mb) [(gA, 37, encN nD), (gB, 37, encN nD)] := by
        rw [hwC]
        exact (hL0.sub [(gA, 37, encN nD), (gB, 37, encN nD)] (by simp)).put (by omega) (by simp; omega) (hba.put rfl)
      have hbb := hL1.kb (gB, 37, encN nD) (by simp)
      obtain ⟨wD, hwD⟩ : ∃ wD, wD = wC.setCells gB 0 (encN nD) := ⟨_, rfl⟩
      have hL2 : LdG mb wm wD s0 (fun x => x = mb) [(gB, 37, encN nD), (gA, 37, encN nD)] := by
        rw [hwD]
        exact (hL1.sub [(gB, 37, encN nD), (gA, 37, encN nD)] (by simp)).put (by omega) (by simp; omega) (hbb.put rfl)
      have hst1 : ∀ op a next Q, StoreW Tryd.prog op 37 (.pointer (some ⟨gA, 0, none⟩)) (.agg #[.int .i64 0, .int .i64 0, .int .i64 0, .int .i64 0, .int .i64 0, .bool false, .int .i64 0, .int .i64 0, .int .i64 0, .int .u64 0, .int .u64 0, .int .u64 0, .int .u64 0]) a wB next Q = next (a.put op.dst undef) wC := fun op a next Q => by
        rw [hwC]; exact storeW_part (P := Tryd.prog) (t := 37) (o := 0) (cs := encN nD) hba (Nat.le_refl 13) iszNd (encN_ones _) op a next Q
      have hst2 : ∀ op a next Q, StoreW Tryd.prog op 37 (.pointer (some ⟨gB, 0, none⟩)) (.agg #[.int .i64 0, .int .i64 0, .int .i64 0, .int .i64 0, .int .i64 0, .bool false, .int .i64 0, .int .i64 0, .int .i64 0, .int .u64 0, .int .u64 0, .int .u64 0, .int .u64 0]) a wC next Q = next (a.put op.dst undef) wD := fun op a next Q => by
        rw [hwD]; exact storeW_part (P := Tryd.prog) (t := 37) (o := 0) (cs := encN nD) hbb (Nat.le_refl 13) iszNd (encN_ones _) op a next Q
      obtain ⟨f, hf⟩ : ∃ f : Nat → Int, f = fun k => (zs.getD k aD6).id := ⟨_, rfl⟩
      obtain ⟨g, hg⟩ : ∃ g : Nat → Int, g = fun k => f ((k + tn) % len) := ⟨_, rfl⟩
      have HF := Lib.hid hf
      have HG := Lib.hid hg
      have HO : Hid (OdI mb gA gB wm wD 0 nD nD (fun _ => none) (fun _ => none) s0 (fun x => x = mb) f g 0) := Lib.hid ⟨hL2.sub _ (by simp), Rd.start, DI.start _, DI.start _, .inl rfl, .inl rfl, OrdI.start _, OrdI.start _⟩
      have HOLD : Hid (Below w.heap.size w wm) := Lib.hid (by rw [hwm]; exact HB1.out.alloc HB1.out.size _)
      have HMB : Hid (w.heap.size ≤ mb) := Lib.hid (by rw [hmb]; exact HB1.out.size)
      have HGA : Hid (wm.heap.size ≤ gA ∧ wm.heap.size ≤ gB ∧ gA ≠ gB) := Lib.hid ⟨by omega, by omega, by omega⟩
      have HZ := Lib.hid (h.cells hl0)
      rw [show ((w1.alloc (.cells #[.slice none 0 0, .int .i64 0, .int .i64 0] 27)).alloc (.cells #[.int .i64 0, .int .i64 0, .int .i64 0, .int .i64 0, .int .i64 0, .bool false, .int .i64 0, .int .i64 0, .int .i64 0, .int .u64 0, .int .u64 0, .int .u64 0, .int .u64 0] 37)).alloc (.cells #[.int .i64 0, .int .i64 0, .int .i64 0, .int .i64 0, .int .i64 0, .bool false, .int .i64 0, .int .i64 0, .int .i64 0, .int .u64 0, .int .u64 0, .int .u64 0, .int .u64 0] 37) = wB by rw [hwB, hwA, hwm]; rfl, ← hgB, ← hgA, ← hmb, hst1]
      clear hmb hgA hgB hwm hwA hwB hwC hwD hsm hsA hL0 hL1 hL2 hba hbb hf hg hst1
      go_wp2_with fail
      go_loopw [8] (fun vi wr => ∃ (i : Nat) (a b : NodeT) (Da Db : Nat → Option NodeT) (st : MemT) (F : Nat → Prop), vi = .int .i64 i ∧ i ≤ len ∧ Hid (OdI mb gA gB wm wr (2 * i) a b Da Db st F f g i)) (fun vi _ => len - (intOf vi).toNat)
      case atStart => exact ⟨0, nD, nD, _, _, s0, _, rfl, Nat.zero_le _, HO⟩
      case round =>
        obtain ⟨i, d1, d2, Da, Db, st, F, rfl, hil, HLI⟩ := hrel
        clear hst2
        by_cases hlt : i < len
        · have q3 : (i : Int) < (len : Int) := by omega
          have q4 : 0 ≤ (i : Int) := by omega
          have q7 : (len : Int) ≠ 0 := by omega
          have hi40 : i < 40 := by omega
          obtain ⟨b, off0, rfl, HZ2⟩ : ∃ b off, a = some ⟨b, off, none⟩ ∧ Hid (∀ W, Below w.heap.size w W → ∀ k, k < len → (zs.getD k aD6).ok ∧ W.rangeAt b (off + k * 15) (encD (zs.getD k aD6))) := by
            obtain ⟨b, off, e, _, h2⟩ := HZ.out
            exact ⟨b, off, e, Lib.hid h2⟩
          obtain ⟨x, hx⟩ : ∃ x, x = zs.getD i aD6 := ⟨_, rfl⟩
          obtain ⟨j, hj⟩ : ∃ j, j = (i + tn) % len := ⟨_, rfl⟩
          have hjl : j < len := by rw [hj]; exact Nat.mod_lt _ hl0
          obtain ⟨y, hy⟩ : ∃ y, y = zs.getD j aD6 := ⟨_, rfl⟩
          have q8 : ((i : Int) + (tn : Int)) % (len : Int) = (j : Int) := by rw [hj, Int.natCast_emod, Int.natCast_add]
          have q9 : (j : Int) < (len : Int) := by omega
          have q10 : 0 ≤ (j : Int) := by omega
          have HXO : Hid (x.ok ∧ x.id = f i ∧ ∀ W, Below w.heap.size w W → W.rangeAt b (off0 + i * 15) (encD x)) := Lib.hid ⟨by rw [hx]; exact (HZ2.out wm HOLD.out i hlt).1, by rw [hx, HF.out], fun W hW => by rw [hx]; exact (HZ2.out W hW i hlt).2⟩
          have HYO : Hid (y.ok ∧ y.id = g i ∧ ∀ W, Below w.heap.size w W → W.rangeAt b (off0 + j * 15) (encD y)) := Lib.hid ⟨by rw [hy]; exact (HZ2.out wm HOLD.out _ hjl).1, by rw [hy, HG.out, HF.out, hj], fun W hW => by rw [hy]; exact (HZ2.out W hW _ hjl).2⟩
          clear hx hy hj HZ2 HZ
          have hold0 := HLI.out.s.old HOLD.out HMB.out
          have hl1 := fun op a next Q => loadW_mid (P := Tryd.prog) (t := 58) (HXO.out.2.2 wr hold0) Tryd.underlying58 rfl iszA6 op a next Q
          have hst := fun op a next Q => store_newA6 x wr op a next Q
          obtain ⟨gx, hgx⟩ : ∃ gx, gx = wr.heap.size := ⟨_, rfl⟩
          obtain ⟨wx, hwx⟩ : ∃ wx, wx = wr.alloc (.cells (encD x).toArray 58) := ⟨_, rfl⟩
          have hLX := HLI.out.s.new 58 (encD x)
          rw [← hwx, ← hgx] at hLX
          rw [← hwx, ← hgx] at hst
          go_upto_region 9 with fail
          rw [← hgx, hst]
          have HX1 := Lib.hid hLX
          have HGW := Lib.hid hgx
          clear hst hl1 hgx hwx hLX
          have hold1 := HX1.out.old HOLD.out HMB.out
          have hl1 := fun op a next Q => loadW_mid (P := Tryd.prog) (t := 58) (HYO.out.2.2 wx hold1) Tryd.underlying58 rfl iszA6 op a next Q
          have hst := fun op a next Q => store_newA6 y wx op a next Q
          obtain ⟨gy, hgy⟩ : ∃ gy, gy = wx.heap.size := ⟨_, rfl⟩
          obtain ⟨wy, hwy⟩ : ∃ wy, wy = wx.alloc (.cells (encD y).toArray 58) := ⟨_, rfl⟩
          have hLX := HX1.out.new 58 (encD y)
          have hne : gy ≠ gx := by have := HX1.out.lt _ (List.mem_cons_self ..); dsimp only at this; omega
          have hgg : wm.heap.size ≤ gx ∧ wm.heap.size ≤ gy ∧ gy ≠ gx := ⟨by have := HLI.out.s.at_.size; rw [HGW.out]; omega, by have := HX1.out.at_.size; omega, hne⟩
          have HGX0 : gA ≠ gx ∧ gB ≠ gx := by
            have h1 := HLI.out.s.lt (gA, 37, encN d1) (by simp)
            have h2 := HLI.out.s.lt (gB, 37, encN d2) (by simp)
            dsimp only at h1 h2; rw [HGW.out]; omega
          have HGY0 : gA ≠ gy ∧ gB ≠ gy := by
            have h1 := HX1.out.lt (gA, 37, encN d1) (by simp)
            have h2 := HX1.out.lt (gB, 37, encN d2) (by simp)
            dsimp only at h1 h2; omega
          rw [← hwy, ← hgy] at hLX
          rw [← hwy, ← hgy] at hst
          go_upto_region 10 with fail
          rw [← hgy, hst]
          have HX2 := Lib.hid hLX
          clear hst hl1 hgy hwy hLX hold1
          have HGX : Hid (gA ≠ gx ∧ gB ≠ gx) := Lib.hid HGX0
          have HGY : Hid (gA ≠ gy ∧ gB ≠ gy) := Lib.hid HGY0
          clear HGX0 HGY0
          have hcx : wy.cell? ⟨gx, 1, none⟩ = some (.int .i64 x.id) := by
            rw [(HX2.out.kb (gx, 58, encD x) (by simp)).cell]; rfl
          have hst : ∀ op a next Q, StoreW Tryd.prog op 37 (.pointer (some ⟨gx, 2, none⟩)) (.agg #[.int .i64 (max x.id 0), .int .i64 0, .int .i64 0, .int .i64 0, .int .i64 0, .bool false, .int .i64 0, .int .i64 0, .int .i64 0, .int .u64 0, .int .u64 0, .int .u64 0, .int .u64 0]) a wy next Q = next (a.put op.dst undef) (wy.setCells gx 2 (encN (idN x.id))) := fun op a next Q =>
            storeW_part (P := Tryd.prog) (t := 37) (o := 2) (cs := encN (idN x.id)) (HX2.out.kb (gx, 58, encD x) (by simp)) (Nat.le_refl 15) iszNd (encN_ones _) op a next Q
          obtain ⟨wz, hwz⟩ : ∃ wz, wz = wy.setCells gx 2 (encN (idN x.id)) := ⟨_, rfl⟩
          have hLX := (HX2.out.sub [(gx, 58, encD x), (gy, 58, encD y), (gA, 37, encN d1), (gB, 37, encN d2)] (by simp)).put (o := 2) (vs := encN (idN x.id)) hgg.1 (by simp only [List.mem_cons, List.not_mem_nil, or_false]; rintro b (rfl | rfl | rfl) <;> first | exact hne | exact HGX.out.1 | exact HGX.out.2) (act_set (HX2.out.kb (gx, 58, encD x) (by simp)) (idN x.id))
          rw [← hwz] at hLX hst
          clear hwz
          go_upto_region 11 with fail
          have HX3 := Lib.hid hLX
          clear hst hLX hcx
          have hcx : wz.cell? ⟨gy, 1, none⟩ = some (.int .i64 y.id) := by
            rw [(HX3.out.kb (gy, 58, encD y) (by simp)).cell]; rfl
          have hst : ∀ op a next Q, StoreW Tryd.prog op 37 (.pointer (some ⟨gy, 2, none⟩)) (.agg #[.int .i64 (max y.id 0), .int .i64 0, .int .i64 0, .int .i64 0, .int .i64 0, .bool false, .int .i64 0, .int .i64 0, .int .i64 0, .int .u64 0, .int .u64 0, .int .u64 0, .int .u64 0]) a wz next Q = next (a.put op.dst undef) (wz.setCells gy 2 (encN (idN y.id))) := fun op a next Q =>
            storeW_part (P := Tryd.prog) (t := 37) (o := 2) (cs := encN (idN y.id)) (HX3.out.kb (gy, 58, encD y) (by simp)) (Nat.le_refl 15) iszNd (encN_ones _) op a next Q
          obtain ⟨w4, hwz⟩ : ∃ w4, w4 = wz.setCells gy 2 (encN (idN y.id)) := ⟨_, rfl⟩
          have hLX := (HX3.out.sub [(gy, 58, encD y), (gx, 58, encD ⟨x.d, x.id, idN x.id⟩), (gA, 37, encN d1), (gB, 37, encN d2)] (by simp)).put (o := 2) (vs := encN (idN y.id)) hgg.2.1 (by simp only [List.mem_cons, List.not_mem_nil, or_false]; rintro b (rfl | rfl | rfl) <;> first | exact hne.symm | exact HGY.out.1 | exact HGY.out.2) (act_set (HX3.out.kb (gy, 58, encD y) (by simp)) (idN y.id))
          rw [← hwz] at hLX hst
          clear hwz
          go_upto_region 12 with fail
          have HX4 := Lib.hid hLX
          clear hst hLX hcx
          obtain ⟨rv1, s1, a1, Da1, e1, hr1, hx1, hda1, hsa1, hoa1, hv1⟩ := od_step HLI.out.rd (by omega) HLI.out.da HLI.out.sa HLI.out.oa HXO.out.2.1
          have hdb1 : DI s1.L d2 Db := by obtain ⟨X, hX⟩ := hx1; rw [hX]; exact HLI.out.db.mono X
          obtain ⟨rv2, s2, a2, Db1, e2, hr2, hx2, hdb2, hsb2, hob2, hv2⟩ := od_step hr1 (by omega) hdb1 HLI.out.sb HLI.out.ob HYO.out.2.1
          have hda2 : DI s2.L a1 Da1 := by obtain ⟨X, hX⟩ := hx2; rw [hX]; exact hda1.mono X
          have HFI : Hid (Rd (2 * (i + 1)) s2 ∧ DI s2.L a1 Da1 ∧ DI s2.L a2 Db1 ∧ SzI a1 Da1 ∧ SzI a2 Db1 ∧ OrdI Da1 f (i + 1) ∧ OrdI Db1 g (i + 1)) := Lib.hid ⟨hr2, hda2, hdb2, hsa1, hsb2, hoa1, hob2⟩
          have HV1 := Lib.hid hv1
          have HV2 := Lib.hid hv2
          have HWF : Hid (d1.wf ∧ d2.wf ∧ (idN x.id).wf ∧ (idN y.id).wf) := Lib.hid ⟨HLI.out.da.nw.wf' (by have := HLI.out.rd.l; omega), HLI.out.db.nw.wf' (by have := HLI.out.rd.l; omega), idN_w HXO.out.1.id, idN_w HYO.out.1.id⟩
          have HE1 := Lib.hid e1
          have HE2 := Lib.hid e2
          have HM : Hid (memOk s1 ∧ memOk s2) := Lib.hid ⟨hr1.ok (by omega), hr2.ok (by omega)⟩
          clear e1 hr1 hx1 hda1 hsa1 hoa1 hv1 hdb1 e2 hr2 hx2 hdb2 hsb2 hob2 hv2 hda2
          have HC := Lib.hid (dset_any (C := memC mb) HX4.out.at_.1 d1 HWF.out.1 x.id (idN x.id) HWF.out.2.2.1 (by rw [HE1.out]; exact HM.out.1))
          rw [HE1.out] at HC
          have hl1 := fun op a next Q => loadW_blk (P := Tryd.prog) (HX4.out.kb (gA, 37, encN d1) (by simp)) Tryd.underlying37 rfl iszNd op a next Q
          have hl2 := fun op a next Q => loadW_mid (P := Tryd.prog) (t := 37) (act_n (HX4.out.kb (gx, 58, encD ⟨x.d, x.id, idN x.id⟩) (by simp))) Tryd.underlying37 rfl iszNd op a next Q
          have hcx : w4.cell? ⟨gx, 1, none⟩ = some (.int .i64 x.id) := by
            rw [(HX4.out.kb (gx, 58, encD ⟨x.d, x.id, idN x.id⟩) (by simp)).cell]; rfl
          try dsimp only at hl1 hl2
          go_wp2_with fail
          refine HC.out.mono ?_
          rintro e w5 ⟨hpr, hstep⟩
          have hpe := NdR.val hpr
          subst hpe
          obtain ⟨F5, hs⟩ := HX4.out.step hstep
          have H5 := Lib.hid (hs.new 37 (encN (ndV rv1)))
          have hst := fun op a next Q => store_newNd (ndV rv1) w5 op a next Q
          obtain ⟨g5, hg⟩ : ∃ g, g = w5.heap.size := ⟨_, rfl⟩
          have HG5 : Hid (g5 ≠ gA ∧ g5 ≠ gB) := Lib.hid ⟨by have := hs.lt (gA, 37, encN d1) (by simp); dsimp only at this; omega, by have := hs.lt (gB, 37, encN d2) (by simp); dsimp only at this; omega⟩
          obtain ⟨w6, hv⟩ : ∃ v, v = w5.alloc (.cells (encN (ndV rv1)).toArray 37) := ⟨_, rfl⟩
          rw [← hv, ← hg] at H5
          clear hstep hs HC hl1 hl2 hcx hpr
          go_upto_region 13 with fail
          rw [← hv, ← hg]
          clear hst hv hg
          rcases HV1.out with ⟨rfl, rfl⟩ | rfl
          · have HS : Hid (LdG mb wm w6 s1 F5 [(gy, 58, encD ⟨y.d, y.id, idN y.id⟩), (gA, 37, encN a1), (gB, 37, encN d2)]) := Lib.hid (H5.out.sub _ (by simp))
            clear H5
            unfold errV
            go_upto_region 15 with fail
            have HC := Lib.hid (dset_any (C := memC mb) HS.out.at_.1 d2 HWF.out.2.1 y.id (idN y.id) HWF.out.2.2.2 (by rw [HE2.out]; exact HM.out.2))
            rw [HE2.out] at HC
            have hl1 := fun op a next Q => loadW_blk (P := Tryd.prog) (HS.out.kb (gB, 37, encN d2) (by simp)) Tryd.underlying37 rfl iszNd op a next Q
            have hl2 := fun op a next Q => loadW_mid (P := Tryd.prog) (t := 37) (act_n (HS.out.kb (gy, 58, encD ⟨y.d, y.id, idN y.id⟩) (by simp))) Tryd.underlying37 rfl iszNd op a next Q
            have hcx : (w6).cell? ⟨gy, 1, none⟩ = some (.int .i64 y.id) := by
              rw [(HS.out.kb (gy, 58, encD ⟨y.d, y.id, idN y.id⟩) (by simp)).cell]; rfl
            try dsimp only at hl1 hl2
            go_wp2_with fail
            refine HC.out.mono ?_
            rintro e w8 ⟨hpr, hstep⟩
            have hpe := NdR.val hpr
            subst hpe
            obtain ⟨F8, hs⟩ := HS.out.step hstep
            have H8 := Lib.hid (hs.new 37 (encN (ndV rv2)))
            have hst := fun op a next Q => store_newNd (ndV rv2) w8 op a next Q
            obtain ⟨g8, hg⟩ : ∃ g, g = w8.heap.size := ⟨_, rfl⟩
            obtain ⟨w9, hv⟩ : ∃ v, v = w8.alloc (.cells (encN (ndV rv2)).toArray 37) := ⟨_, rfl⟩
            rw [← hv, ← hg] at H8
            clear hstep hs HC hl1 hl2 hcx hpr HS
            go_upto_region 16 with fail
            rw [← hv, ← hg]
            clear hst hv hg
            rcases HV2.out with ⟨rfl, rfl⟩ | rfl
            · unfold errV
              go_wp2_with fail
              go_roundw
              case rel => exact ⟨i + 1, a1, a2, Da1, Db1, s2, F8, by go_num, by omega, Lib.hid ⟨H8.out.sub _ (by simp), HFI.out.1, HFI.out.2.1, HFI.out.2.2.1, HFI.out.2.2.2.1, HFI.out.2.2.2.2.1, HFI.out.2.2.2.2.2.1, HFI.out.2.2.2.2.2.2⟩⟩
              case measure => simp [intOf]; omega
            · have hl := fun op a next Q => loadW_blk (P := Tryd.prog) (H8.out.kb (g8, 37, encN (ndV (.ok a2))) (by simp)) Tryd.underlying37 rfl iszNd op a next Q
              have hst := fun op a next Q => storeW_part (P := Tryd.prog) (t := 37) (o := 0) (cs := encN a2) (H8.out.kb (gB, 37, encN d2) (by simp)) (Nat.le_refl 13) iszNd (encN_ones _) op a next Q
              have HLS := Lib.hid ((H8.out.sub [(gB, 37, encN d2), (gA, 37, encN a1)] (by simp)).put (o := 0) (vs := encN a2) HGA.out.2.1 (by simp only [List.mem_cons, List.not_mem_nil, or_false]; rintro b rfl; exact HGA.out.2.2) ((H8.out.kb (gB, 37, encN d2) (by simp)).put rfl))
              unfold errV
              unfold ndV at hl
              go_wp2_with fail
              go_roundw
              case rel => exact ⟨i + 1, a1, a2, Da1, Db1, s2, F8, by go_num, by omega, Lib.hid ⟨HLS.out.sub _ (by simp), HFI.out.1, HFI.out.2.1, HFI.out.2.2.1, HFI.out.2.2.2.1, HFI.out.2.2.2.2.1, HFI.out.2.2.2.2.2.1, HFI.out.2.2.2.2.2.2⟩⟩
              case measure => simp [intOf]; omega
          · have hl := fun op a next Q => loadW_blk (P := Tryd.prog) (H5.out.kb (g5, 37, encN (ndV (.ok a1))) (by simp)) Tryd.underlying37 rfl iszNd op a next Q
            have hst := fun op a next Q => storeW_part (P := Tryd.prog) (t := 37) (o := 0) (cs := encN a1) (H5.out.kb (gA, 37, encN d1) (by simp)) (Nat.le_refl 13) iszNd (encN_ones _) op a next Q
            have hs := (H5.out.sub [(gA, 37, encN d1), (gy, 58, encD ⟨y.d, y.id, idN y.id⟩), (gB, 37, encN d2)] (by simp)).put (o := 0) (vs := encN a1) HGA.out.1 (by simp only [List.mem_cons, List.not_mem_nil, or_false]; rintro b (rfl | rfl) <;> first | exact HGY.out.1.symm | exact HGA.out.2.2.symm) ((H5.out.kb (gA, 37, encN d1) (by simp)).put rfl)
            obtain ⟨w7, hv⟩ : ∃ v, v = w6.setCells gA 0 (encN a1) := ⟨_, rfl⟩
            have HV := Lib.hid hv
            rw [← hv] at hst hs
            clear hv
            have HS : Hid (LdG mb wm w7 s1 F5 [(gy, 58, encD ⟨y.d, y.id, idN y.id⟩), (gA, 37, encN a1), (gB, 37, encN d2)]) := Lib.hid (hs.sub _ (by simp))
            clear H5 hs
            unfold errV
            unfold ndV at hl
            go_upto_region 15 with fail
            clear hl hst HV
            have HC := Lib.hid (dset_any (C := memC mb) HS.out.at_.1 d2 HWF.out.2.1 y.id (idN y.id) HWF.out.2.2.2 (by rw [HE2.out]; exact HM.out.2))
            rw [HE2.out] at HC
            have hl1 := fun op a next Q => loadW_blk (P := Tryd.prog) (HS.out.kb (gB, 37, encN d2) (by simp)) Tryd.underlying37 rfl iszNd op a next Q
            have hl2 := fun op a next Q => loadW_mid (P := Tryd.prog) (t := 37) (act_n (HS.out.kb (gy, 58, encD ⟨y.d, y.id, idN y.id⟩) (by simp))) Tryd.underlying37 rfl iszNd op a next Q
            have hcx : (w7).cell? ⟨gy, 1, none⟩ = some (.int .i64 y.id) := by
              rw [(HS.out.kb (gy, 58, encD ⟨y.d, y.id, idN y.id⟩) (by simp)).cell]; rfl
            try dsimp only at hl1 hl2
            go_wp2_with fail
            refine HC.out.mono ?_
            rintro e w8 ⟨hpr, hstep⟩
            have hpe := NdR.val hpr
            subst hpe
            obtain ⟨F8, hs⟩ := HS.out.step hstep
            have H8 := Lib.hid (hs.new 37 (encN (ndV rv2)))
            have hst := fun op a next Q => store_newNd (ndV rv2) w8 op a next Q
            obtain ⟨g8, hg⟩ : ∃ g, g = w8.heap.size := ⟨_, rfl⟩
            obtain ⟨w9, hv⟩ : ∃ v, v = w8.alloc (.cells (encN (ndV rv2)).toArray 37) := ⟨_, rfl⟩
            rw [← hv, ← hg] at H8
            clear hstep hs HC hl1 hl2 hcx hpr HS
            go_upto_region 16 with fail
            rw [← hv, ← hg]
            clear hst hv hg
            rcases HV2.out with ⟨rfl, rfl⟩ | rfl
            · unfold errV
              go_wp2_with fail
              go_roundw
              case rel => exact ⟨i + 1, a1, a2, Da1, Db1, s2, F8, by go_num, by omega, Lib.hid ⟨H8.out.sub _ (by simp), HFI.out.1, HFI.out.2.1, HFI.out.2.2.1, HFI.out.2.2.2.1, HFI.out.2.2.2.2.1, HFI.out.2.2.2.2.2.1, HFI.out.2.2.2.2.2.2⟩⟩
              case measure => simp [intOf]; omega
            · have hl := fun op a next Q => loadW_blk (P := Tryd.prog) (H8.out.kb (g8, 37, encN (ndV (.ok a2))) (by simp)) Tryd.underlying37 rfl iszNd op a next Q
              have hst := fun op a next Q => storeW_part (P := Tryd.prog) (t := 37) (o := 0) (cs := encN a2) (H8.out.kb (gB, 37, encN d2) (by simp)) (Nat.le_refl 13) iszNd (encN_ones _) op a next Q
              have HLS := Lib.hid ((H8.out.sub [(gB, 37, encN d2), (gA, 37, encN a1)] (by simp)).put (o := 0) (vs := encN a2) HGA.out.2.1 (by simp only [List.mem_cons, List.not_mem_nil, or_false]; rintro b rfl; exact HGA.out.2.2) ((H8.out.kb (gB, 37, encN d2) (by simp)).put rfl))
              unfold errV
              unfold ndV at hl
              go_wp2_with fail
              go_roundw
              case rel => exact ⟨i + 1, a1, a2, Da1, Db1, s2, F8, by go_num, by omega, Lib.hid ⟨HLS.out.sub _ (by simp), HFI.out.1, HFI.out.2.1, HFI.out.2.2.1, HFI.out.2.2.2.1, HFI.out.2.2.2.2.1, HFI.out.2.2.2.2.2.1, HFI.out.2.2.2.2.2.2⟩⟩
              case measure => simp [intOf]; omega
        · have q3 : ¬ (i : Int) < (len : Int) := by omega
          obtain rfl : i = len := by omega
          have HSM : Hid (Same2 d1 d2 Da Db) := Lib.hid (same2 (L := st.L) (f := f) (n := i) (t := tn) hl0 HLI.out.da HLI.out.db HLI.out.sa HLI.out.sb HLI.out.oa (by have := HLI.out.ob; rw [HG.out] at this; exact this))
          obtain ⟨la, hla⟩ : ∃ la, la = dLst Da 32 := ⟨_, rfl⟩
          obtain ⟨s1, e1, hl1, hr1⟩ := rd_dlist HLI.out.rd HLI.out.da
          obtain ⟨s2, e2, hl2, hr2⟩ := rd_dlist hr1 (by rw [hl1]; exact HLI.out.db)
          rw [← hla] at e1
          rw [← HSM.out.lst, ← hla] at e2
          have HLA : Hid (la.length ≤ 32 ∧ ∀ j, j < la.length → la.getD j 0 < 32 ∧ Da (la.getD j 0) = some ⟨((la.getD j 0 : Nat) : Int), pD⟩ ∧ Db (la.getD j 0) = some ⟨((la.getD j 0 : Nat) : Int), pD⟩) := Lib.hid ⟨by rw [hla]; unfold dLst; exact Nat.le_trans (List.length_filter_le _ _) (by simp), fun j hj => HSM.out.ent _ (by
            rw [← hla, List.getD_eq_getElem?_getD, List.getElem?_eq_getElem hj]; exact List.getElem_mem hj)⟩
          have HE1 := Lib.hid e1
          have HE2 := Lib.hid e2
          have HR1 := Lib.hid hr1
          have HR2 := Lib.hid hr2
          have HDD : Hid (DI s2.L d1 Da ∧ DI s2.L d2 Db) := Lib.hid ⟨by rw [hl2, hl1]; exact HLI.out.da, by rw [hl2, hl1]; exact HLI.out.db⟩
          have HWF : Hid (d1.wf ∧ d2.wf ∧ (0 ≤ d1.size ∧ d1.size ≤ 1000000) ∧ (0 ≤ d2.size ∧ d2.size ≤ 1000000)) := Lib.hid ⟨HLI.out.da.nw.wf' (by have := HLI.out.rd.l; omega), HLI.out.db.nw.wf' (by have := HLI.out.rd.l; omega), ⟨HLI.out.da.nw.s0, by have := HLI.out.da.le; omega⟩, ⟨HLI.out.db.nw.s0, by have := HLI.out.db.le; omega⟩⟩
          have HSZ := Lib.hid HSM.out.size
          clear hla e1 hl1 hr1 e2 hl2 hr2 HSM
          have H0 := Lib.hid HLI.out.s.r
          have HC := Lib.hid (dlist_any (C := memC mb) H0.out.g.at_.1 d1 HWF.out.1 HWF.out.2.2.1 (by rw [HE1.out]; exact HR1.out.ok (by omega)))
          rw [HE1.out] at HC
          have hl1 := fun op a next Q => loadW_blk (P := Tryd.prog) (H0.out.g.kb (gA, 37, encN d1) (by simp)) Tryd.underlying37 rfl iszNd op a next Q
          try dsimp only at hl1
          go_wp2_with fail
          refine HC.out.mono ?_
          rintro e w5 ⟨v1, F5, rfl, hls⟩
          have H1 := Lib.hid (H0.out.list hls)
          obtain ⟨xo, xc, rfl, _⟩ := H1.out.rsl (List.mem_cons_self ..)
          clear hls HC hl1
          have HC := Lib.hid (dlist_any (C := memC mb) H1.out.g.at_.1 d2 HWF.out.2.1 HWF.out.2.2.2 (by rw [HE2.out]; exact HR2.out.ok (by omega)))
          rw [HE2.out] at HC
          have hl1 := fun op a next Q => loadW_blk (P := Tryd.prog) (H1.out.g.kb (gB, 37, encN d2) (by simp)) Tryd.underlying37 rfl iszNd op a next Q
          try dsimp only at hl1
          go_wp2_with fail
          refine HC.out.mono ?_
          rintro e w6 ⟨v2, F6, rfl, hls⟩
          have H2 := Lib.hid (H1.out.list hls)
          obtain ⟨yo, yc, rfl, hY⟩ := H2.out.rsl (List.mem_cons_self ..)
          obtain ⟨_, _, hxe, hX⟩ := H2.out.rsl (v := .slice xo la.length xc) (out := la) (by simp)
          simp only [Value.slice.injEq, true_and] at hxe
          obtain ⟨rfl, rfl⟩ := hxe
          have HC2 := Lib.hid (Equal_any la la _ _ _ _ w6 hX hY)
          clear hls HC hl1 hX hY
          go_wp2_with fail
          refine HC2.out.mono ?_
          rintro e w7 ⟨rfl, hb⟩
          have H3 := Lib.hid (H2.out.below hb)
          clear hb HC2
          have hcA : w7.cell? ⟨gA, 0, none⟩ = some (.int .i64 d1.size) := by
            rw [(H3.out.g.kb (gA, 37, encN d1) (by simp)).cell]; rfl
          have hcB : w7.cell? ⟨gB, 0, none⟩ = some (.int .i64 d1.size) := by
            rw [(H3.out.g.kb (gB, 37, encN d2) (by simp)).cell, HSZ.out]; rfl
          rw [show decide True = true from rfl]
          have HST : Hid (LdR mb wm w7 s2 F6 [(gA, 37, encN d1), (gB, 37, encN d2)] [(.slice xo la.length xc, la)]) := Lib.hid ⟨H3.out.g, fun r hr => H3.out.row r (by simp only [List.mem_singleton] at hr; subst hr; simp), fun r hr => H3.out.dis r (by simp only [List.mem_singleton] at hr; subst hr; simp)⟩
          have hmxl : la.length ≤ 32 := HLA.out.1
          go_wp2_with fail
          clear hcA hcB
          go_loopw [19] (fun vi wr => ∃ (p : Nat) (st : MemT) (F : Nat → Prop), vi = .int .i64 p ∧ p ≤ la.length ∧ Hid (Rd (2 * i + 1 + 1 + 2 * p) st) ∧ Hid (DI st.L d1 Da ∧ DI st.L d2 Db) ∧ Hid (LdR mb wm wr st F [(gA, 37, encN d1), (gB, 37, encN d2)] [(.slice xo la.length xc, la)])) (fun vi _ => la.length - (intOf vi).toNat)
          case atStart => exact ⟨0, s2, F6, rfl, Nat.zero_le _, HR2, HDD, HST⟩
          case round =>
            clear HST H3 H2 H1 H0 HLI HE1 HE2 HR1 HR2 HDD
            obtain ⟨p, st, F, rfl, hpl, HRP, HDP, HL⟩ := hrel
            by_cases hp : p < la.length
            · have r1 : (p : Int) < (la.length : Int) := by omega
              have r2 : 0 ≤ (p : Int) := by omega
              obtain ⟨m, hm⟩ : ∃ m, m = la.getD p 0 := ⟨_, rfl⟩
              obtain ⟨hm32, hma, hmb⟩ := HLA.out.2 p hp
              rw [← hm] at hm32 hma hmb
              have hxs := (HL.out.rsl (List.mem_cons_self ..))
              obtain ⟨bx, ox, rfl, HCL⟩ : ∃ bx ox, xo = some ⟨bx, ox, none⟩ ∧ Hid (∀ (W : World) (st : MemT) (F : Nat → Prop) (bs : List (Nat × Nat × List Value)), LdR mb wm W st F bs [(.slice xo la.length xc, la)] → W.cell? ⟨bx, ox + p, none⟩ = some (.int .i64 (m : Int))) := by
                obtain ⟨ao, c, e, hs⟩ := hxs
                simp only [Value.slice.injEq, true_and] at e
                obtain ⟨rfl, rfl⟩ := e
                obtain ⟨b', o', e, _⟩ := rsl_int hs (by omega)
                subst e
                exact ⟨b', o', rfl, Lib.hid (fun W st F bs h => by rw [hm]; exact h.cell (List.mem_cons_self ..) hp)⟩
              clear hxs hm
              obtain ⟨s1, e1, hl1, hr1⟩ := rd_getN HRP.out HDP.out.1 hm32
              obtain ⟨s3, e2, hl2, hr2⟩ := rd_getN hr1 (by rw [hl1]; exact HDP.out.2) hm32
              rw [hma] at e1
              rw [hmb] at e2
              have HE1 : Hid (dgetM memF d1 (m : Int) st = (.ok (⟨(m : Int), pD⟩, true), s1)) := Lib.hid e1
              have HE2 : Hid (dgetM memF d2 (m : Int) s1 = (.ok (⟨(m : Int), pD⟩, true), s3)) := Lib.hid e2
              have HMM : Hid (memOk s1 ∧ memOk s3) := Lib.hid ⟨hr1.ok (by omega), hr2.ok (by omega)⟩
              have HRN : Hid (Rd (2 * i + 1 + 1 + 2 * (p + 1)) s3 ∧ DI s3.L d1 Da ∧ DI s3.L d2 Db) := Lib.hid ⟨hr2.mono (by omega), by rw [hl2, hl1]; exact HDP.out.1, by rw [hl2, hl1]; exact HDP.out.2⟩
              clear e1 hl1 hr1 e2 hl2 hr2 hma hmb
              obtain ⟨R, hR⟩ : ∃ R : NodeT, R = ⟨(m : Int), pD⟩ := ⟨_, rfl⟩
              rw [← hR] at HE1 HE2
              have HRW : Hid R.wf := Lib.hid (by rw [hR]; exact ⟨by unfold I64'; show -9223372036854775808 ≤ (m : Int) ∧ (m : Int) ≤ 9223372036854775807; omega, pD_ok.2⟩)
              have HRR := Lib.hid hR
              clear hR
              go_upto_region 25 with fail
              go_cut [20, 21, 22] (fun vx v1 v2 wx => ∃ g F3, vx = .pointer (some ⟨g, 0, none⟩) ∧ v1 = .bool true ∧ v2 = .int .i64 0 ∧ Hid (LdR mb wm wx s1 F3 ((g, 37, encN R) :: [(gA, 37, encN d1), (gB, 37, encN d2)]) [(.slice (some ⟨bx, ox, none⟩) la.length xc, la)]))
              case first =>
                have HSS : Hid (∀ (w' : World) (st : MemT) (F : Nat → Prop) (bs : List (Nat × Nat × List Value)), LdR mb wm w' st F bs [(.slice (some ⟨bx, ox, none⟩) la.length xc, la)] → (gA, 37, encN d1) ∈ bs → Blk w' gA 37 (encN d1) ∧ w'.cell? ⟨bx, ox + p, none⟩ = some (.int .i64 (m : Int))) := Lib.hid (fun W st F bs h hb => ⟨h.g.kb _ hb, HCL.out W st F bs h⟩)
                have HD0 := Lib.hid (HL.out.below (wc := wr.drew) (Below.refl _ _).drew)
                refine wp_region_held_drew (S := fun w' => Blk w' gA 37 (encN d1) ∧ w'.cell? ⟨bx, ox + p, none⟩ = some (.int .i64 (m : Int))) (by kernel_rfl) (HSS.out _ _ _ _ HD0.out (by simp)) (fun hS0 => ?_)
                refine wpAnyH_take (i := 0) (oi := ?oip0) (v := ?vp0) ?hip0 ?hsp0 ?hfp0 ?hrp0 ?hQp0 ?hyp0 ?hSp0 ?hp0
                case hip0 => (simp only [List.getElem?_toArray, List.getElem?_cons_succ, List.getElem?_cons_zero]; rfl)
                case hsp0 => kernel_rfl
                case hfp0 => kernel_rfl
                case hrp0 => kernel_rfl
                case hSp0 => first | assumption | trivial
                case hyp0 => refine Or.inl ⟨by kernel_rfl, ?_⟩; (intro w hSw; (try dsimp only at hSw); go_simp; try with_reducible rfl)
                case hQp0 => exact fun _ _ _ h => h
                try simp only [Act.put, List.setIfInBounds_toArray, List.set_cons_zero, List.set_cons_succ]
                refine wpAnyH_take (i := 1) (oi := ?oip1) (v := ?vp1) ?hip1 ?hsp1 ?hfp1 ?hrp1 ?hQp1 ?hyp1 ?hSp1 ?hp1
                case hip1 => (simp only [List.getElem?_toArray, List.getElem?_cons_succ, List.getElem?_cons_zero]; rfl)
                case hsp1 => kernel_rfl
                case hfp1 => kernel_rfl
                case hrp1 => kernel_rfl
                case hSp1 => first | assumption | trivial
                case hyp1 => refine Or.inl ⟨by kernel_rfl, ?_⟩; (intro w hSw; (try dsimp only at hSw); go_simp; try with_reducible rfl)
                case hQp1 => exact fun _ _ _ h => h
                try simp only [Act.put, List.setIfInBounds_toArray, List.set_cons_zero, List.set_cons_succ]
                refine wpAnyH_take (i := 2) (oi := ?oip2) (v := ?vp2) ?hip2 ?hsp2 ?hfp2 ?hrp2 ?hQp2 ?hyp2 ?hSp2 ?hp2
                case hip2 => (simp only [List.getElem?_toArray, List.getElem?_cons_succ, List.getElem?_cons_zero]; rfl)
                case hsp2 => kernel_rfl
                case hfp2 => kernel_rfl
                case hrp2 => kernel_rfl
                case hSp2 => first | assumption | trivial
                case hyp2 => refine yieldsIf_load_mid (by kernel_rfl) 37 (.tmp 6) ?_ gA (0) ?_ (encN d1) _ (fun w' hw => range_and1 hw) Tryd.underlying37 rfl iszNd <;> rfl
                case hQp2 => exact fun _ _ _ h => h
                try simp only [Act.put, List.setIfInBounds_toArray, List.set_cons_zero, List.set_cons_succ]
                refine wpAnyH_take (i := 3) (oi := ?oip3) (v := ?vp3) ?hip3 ?hsp3 ?hfp3 ?hrp3 ?hQp3 ?hyp3 ?hSp3 ?hp3
                case hip3 => (simp only [List.getElem?_toArray, List.getElem?_cons_succ, List.getElem?_cons_zero]; rfl)
                case hsp3 => kernel_rfl
                case hfp3 => kernel_rfl
                case hrp3 => kernel_rfl
                case hSp3 => first | assumption | trivial
                case hyp3 => refine Or.inl ⟨by kernel_rfl, ?_⟩; (intro w hSw; (try dsimp only at hSw); go_simp; try with_reducible rfl)
                case hQp3 => exact fun _ _ _ h => h
                try simp only [Act.put, List.setIfInBounds_toArray, List.set_cons_zero, List.set_cons_succ]
                refine wpAnyH_take (i := 4) (oi := ?oip4) (v := ?vp4) ?hip4 ?hsp4 ?hfp4 ?hrp4 ?hQp4 ?hyp4 ?hSp4 ?hp4
                case hip4 => (simp only [List.getElem?_toArray, List.getElem?_cons_succ, List.getElem?_cons_zero]; rfl)
                case hsp4 => kernel_rfl
                case hfp4 => kernel_rfl
                case hrp4 => kernel_rfl
                case hSp4 => first | assumption | trivial
                case hyp4 => refine Or.inl ⟨by kernel_rfl, ?_⟩; (intro w hSw; (try dsimp only at hSw); go_simp; try with_reducible rfl)
                case hQp4 => exact fun _ _ _ h => h
                try simp only [Act.put, List.setIfInBounds_toArray, List.set_cons_zero, List.set_cons_succ]
                refine wpAnyH_take (i := 5) (oi := ?oip5) (v := ?vp5) ?hip5 ?hsp5 ?hfp5 ?hrp5 ?hQp5 ?hyp5 ?hSp5 ?hp5
                case hip5 => (simp only [List.getElem?_toArray, List.getElem?_cons_succ, List.getElem?_cons_zero]; rfl)
                case hsp5 => kernel_rfl
                case hfp5 => kernel_rfl
                case hrp5 => kernel_rfl
                case hSp5 => first | assumption | trivial
                case hyp5 => refine Or.inl ⟨by kernel_rfl, ?_⟩; (intro w hSw; (try dsimp only at hSw); go_simp; first | with_reducible rfl | rw [if_pos (by omega)])
                case hQp5 => exact fun _ _ _ h => h
                try simp only [Act.put, List.setIfInBounds_toArray, List.set_cons_zero, List.set_cons_succ]
                refine wpAnyH_take (i := 6) (oi := ?oip6) (v := ?vp6) ?hip6 ?hsp6 ?hfp6 ?hrp6 ?hQp6 ?hyp6 ?hSp6 ?hp6
                case hip6 => (simp only [List.getElem?_toArray, List.getElem?_cons_succ, List.getElem?_cons_zero]; rfl)
                case hsp6 => kernel_rfl
                case hfp6 => kernel_rfl
                case hrp6 => kernel_rfl
                case hSp6 => first | assumption | trivial
                case hyp6 => refine Or.inl ⟨by kernel_rfl, ?_⟩; (intro w hSw; (try dsimp only at hSw); go_simp; try with_reducible rfl)
                case hQp6 => exact fun _ _ _ h => h
                try simp only [Act.put, List.setIfInBounds_toArray, List.set_cons_zero, List.set_cons_succ]
                refine wpAnyH_ready (rs := [7, 12]) (by kernel_rfl) (by simp) ?_
                refine AllReadyH.cons (by simp only [List.getElem?_toArray, List.getElem?_cons_succ, List.getElem?_cons_zero]; rfl) (fun K hK => ?_) (AllReadyH.cons (by simp only [List.getElem?_toArray, List.getElem?_cons_succ, List.getElem?_cons_zero]; rfl) (fun K hK => ?_) AllReadyH.nil)
                · go_simp
                  have HLW := Lib.hid (HD0.out)
                  refine (dget_any (C := memC mb) HLW.out.g.at_.1 d1 (HWF.out.1) (m : Int) (by rw [HE1.out]; exact HMM.out.1)).mono ?_
                  rintro e w6 ⟨hrd, _, hstep6⟩
                  rw [HE1.out] at hrd hstep6
                  have hrd : e = .returned (.tuple #[.agg (encN R).toArray, .bool true, .int .i64 0]) := hrd
                  subst hrd
                  obtain ⟨F3, hl6, _, _⟩ := HLW.out.step hstep6
                  have H6 := Lib.hid hl6
                  clear hstep6 hl6
                  have H6b := Lib.hid (H6.out.new 37 (encN nD))
                  have H7 := Lib.hid (H6b.out.put (o := 0) (vs := encN R) (ds := encN R) (H6.out.g.at_.size) (fun b hb => Nat.ne_of_lt (H6.out.g.lt b hb)) ((H6b.out.g.kb _ (List.mem_cons_self ..)).put rfl) (by decide))
                  clear HLW
                  try dsimp only
                  refine hK.out _ _ (HSS.out _ _ _ _ H6.out (by simp)) (fun hSpp7 => ?_)
                  try simp only [Act.put, List.setIfInBounds_toArray, List.set_cons_zero, List.set_cons_succ]
                  refine wpAnyH_take (i := 8) (oi := ?oipp8) (v := ?vpp8) ?hipp8 ?hspp8 ?hfpp8 ?hrpp8 ?hQpp8 ?hypp8 ?hSpp8 ?hpp8
                  case hipp8 => (simp only [List.getElem?_toArray, List.getElem?_cons_succ, List.getElem?_cons_zero]; rfl)
                  case hspp8 => kernel_rfl
                  case hfpp8 => kernel_rfl
                  case hrpp8 => kernel_rfl
                  case hSpp8 => first | assumption | trivial
                  case hypp8 => refine Or.inl ⟨by kernel_rfl, ?_⟩; (intro w hSw; (try dsimp only at hSw); go_simp; try with_reducible rfl)
                  case hQpp8 => exact fun _ _ _ h => h
                  try simp only [Act.put, List.setIfInBounds_toArray, List.set_cons_zero, List.set_cons_succ]
                  refine wpAnyH_take (i := 9) (oi := ?oipp9) (v := ?vpp9) ?hipp9 ?hspp9 ?hfpp9 ?hrpp9 ?hQpp9 ?hypp9 ?hSpp9 ?hpp9
                  case hipp9 => (simp only [List.getElem?_toArray, List.getElem?_cons_succ, List.getElem?_cons_zero]; rfl)
                  case hspp9 => kernel_rfl
                  case hfpp9 => kernel_rfl
                  case hrpp9 => kernel_rfl
                  case hSpp9 => first | assumption | trivial
                  case hypp9 => refine Or.inl ⟨by kernel_rfl, ?_⟩; (intro w hSw; (try dsimp only at hSw); go_simp; try with_reducible rfl)
                  case hQpp9 => exact fun _ _ _ h => h
                  try simp only [Act.put, List.setIfInBounds_toArray, List.set_cons_zero, List.set_cons_succ]
                  refine wpAnyH_take (i := 10) (oi := ?oipp10) (v := ?vpp10) ?hipp10 ?hspp10 ?hfpp10 ?hrpp10 ?hQpp10 ?hypp10 ?hSpp10 ?hpp10
                  case hipp10 => (simp only [List.getElem?_toArray, List.getElem?_cons_succ, List.getElem?_cons_zero]; rfl)
                  case hspp10 => kernel_rfl
                  case hfpp10 => kernel_rfl
                  case hrpp10 => kernel_rfl
                  case hSpp10 => first | assumption | trivial
                  case hypp10 => refine Or.inl ⟨by kernel_rfl, ?_⟩; (intro w hSw; (try dsimp only at hSw); go_simp; try with_reducible rfl)
                  case hQpp10 => exact fun _ _ _ h => h
                  try simp only [Act.put, List.setIfInBounds_toArray, List.set_cons_zero, List.set_cons_succ]
                  refine wpAnyH_take (i := 11) (oi := ?oipp11) (v := ?vpp11) ?hipp11 ?hspp11 ?hfpp11 ?hrpp11 ?hQpp11 ?hypp11 ?hSpp11 ?hpp11
                  case hipp11 => (simp only [List.getElem?_toArray, List.getElem?_cons_succ, List.getElem?_cons_zero]; rfl)
                  case hspp11 => kernel_rfl
                  case hfpp11 => kernel_rfl
                  case hrpp11 => kernel_rfl
                  case hSpp11 => first | assumption | trivial
                  case hypp11 => refine Or.inl ⟨by kernel_rfl, ?_⟩; (intro w hSw; (try dsimp only at hSw); go_simp; try with_reducible rfl)
                  case hQpp11 => exact fun _ _ _ h => h
                  try simp only [Act.put, List.setIfInBounds_toArray, List.set_cons_zero, List.set_cons_succ]
                  refine wpAnyH_ready (rs := [12]) (by kernel_rfl) (by simp) ?_
                  refine AllReadyH.cons (by simp only [List.getElem?_toArray, List.getElem?_cons_succ, List.getElem?_cons_zero]; rfl) (fun K hK => ?_) AllReadyH.nil
                  go_simp
                  skip
                  refine hK.out _ _ (HSS.out _ _ _ _ H6b.out (by simp)) (fun hSpp12 => ?_)
                  try simp only [Act.put, List.setIfInBounds_toArray, List.set_cons_zero, List.set_cons_succ]
                  refine wpAnyH_ready (rs := [13]) (by kernel_rfl) (by simp) ?_
                  refine AllReadyH.cons (by simp only [List.getElem?_toArray, List.getElem?_cons_succ, List.getElem?_cons_zero]; rfl) (fun K hK => ?_) AllReadyH.nil
                  rw [if_pos (by kernel_rfl)]
                  refine wp_store_mid 37 (.tmp 20) (.tmp 149) rfl w6.heap.size (0) (encN R).toArray rfl rfl (blk_there (H6b.out.g.kb _ (List.mem_cons_self ..)) (Nat.le_refl 13)) iszNd (all_oneCell_toArray (encN_ones _)) ?_
                  refine hK.out _ _ (HSS.out _ _ _ _ H7.out (by simp)) (fun hSpp13 => ?_)
                  try simp only [Act.put, List.setIfInBounds_toArray, List.set_cons_zero, List.set_cons_succ]
                  refine wpAnyH_take (i := 14) (oi := ?oipp14) (v := ?vpp14) ?hipp14 ?hspp14 ?hfpp14 ?hrpp14 ?hQpp14 ?hypp14 ?hSpp14 ?hpp14
                  case hipp14 => (simp only [List.getElem?_toArray, List.getElem?_cons_succ, List.getElem?_cons_zero]; rfl)
                  case hspp14 => kernel_rfl
                  case hfpp14 => kernel_rfl
                  case hrpp14 => kernel_rfl
                  case hSpp14 => first | assumption | trivial
                  case hypp14 => refine Or.inl ⟨by kernel_rfl, ?_⟩; (intro w hSw; (try dsimp only at hSw); go_simp; try with_reducible rfl)
                  case hQpp14 => exact fun _ _ _ h => h
                  try simp only [Act.put, List.setIfInBounds_toArray, List.set_cons_zero, List.set_cons_succ]
                  refine wpAnyH_take (i := 15) (oi := ?oipp15) (v := ?vpp15) ?hipp15 ?hspp15 ?hfpp15 ?hrpp15 ?hQpp15 ?hypp15 ?hSpp15 ?hpp15
                  case hipp15 => (simp only [List.getElem?_toArray, List.getElem?_cons_succ, List.getElem?_cons_zero]; rfl)
                  case hspp15 => kernel_rfl
                  case hfpp15 => kernel_rfl
                  case hrpp15 => kernel_rfl
                  case hSpp15 => first | assumption | trivial
                  case hypp15 => refine Or.inl ⟨by kernel_rfl, ?_⟩; (intro w hSw; (try dsimp only at hSw); go_simp; try with_reducible rfl)
                  case hQpp15 => exact fun _ _ _ h => h
                  try simp only [Act.put, List.setIfInBounds_toArray, List.set_cons_zero, List.set_cons_succ]
                  refine wpAnyH_done (by kernel_rfl) ?_ _
                  go_wp2_with fail
                  go_meet
                  exact ⟨_, F3, rfl, rfl, rfl, H7⟩
                · go_simp
                  skip
                  refine hK.out _ _ (HSS.out _ _ _ _ (HD0.out.new 37 (encN nD)) (by simp)) (fun hSpq12 => ?_)
                  try simp only [Act.put, List.setIfInBounds_toArray, List.set_cons_zero, List.set_cons_succ]
                  refine wpAnyH_ready (rs := [7]) (by kernel_rfl) (by simp) ?_
                  refine AllReadyH.cons (by simp only [List.getElem?_toArray, List.getElem?_cons_succ, List.getElem?_cons_zero]; rfl) (fun K hK => ?_) AllReadyH.nil
                  go_simp
                  have HLW := Lib.hid (HD0.out.new 37 (encN nD))
                  refine (dget_any (C := memC mb) HLW.out.g.at_.1 d1 (HWF.out.1) (m : Int) (by rw [HE1.out]; exact HMM.out.1)).mono ?_
                  rintro e w6 ⟨hrd, _, hstep6⟩
                  rw [HE1.out] at hrd hstep6
                  have hrd : e = .returned (.tuple #[.agg (encN R).toArray, .bool true, .int .i64 0]) := hrd
                  subst hrd
                  obtain ⟨F3, hl6, _, _⟩ := HLW.out.step hstep6
                  have H6 := Lib.hid hl6
                  clear hstep6 hl6
                  have H7 := Lib.hid (H6.out.put (o := 0) (vs := encN R) (ds := encN R) (HL.out.g.at_.size) (fun b hb => Nat.ne_of_lt (HL.out.g.lt b hb)) ((H6.out.g.kb _ (List.mem_cons_self ..)).put rfl) (by decide))
                  clear HLW
                  try dsimp only
                  refine hK.out _ _ (HSS.out _ _ _ _ H6.out (by simp)) (fun hSpq7 => ?_)
                  try simp only [Act.put, List.setIfInBounds_toArray, List.set_cons_zero, List.set_cons_succ]
                  refine wpAnyH_take (i := 8) (oi := ?oipq8) (v := ?vpq8) ?hipq8 ?hspq8 ?hfpq8 ?hrpq8 ?hQpq8 ?hypq8 ?hSpq8 ?hpq8
                  case hipq8 => (simp only [List.getElem?_toArray, List.getElem?_cons_succ, List.getElem?_cons_zero]; rfl)
                  case hspq8 => kernel_rfl
                  case hfpq8 => kernel_rfl
                  case hrpq8 => kernel_rfl
                  case hSpq8 => first | assumption | trivial
                  case hypq8 => refine Or.inl ⟨by kernel_rfl, ?_⟩; (intro w hSw; (try dsimp only at hSw); go_simp; try with_reducible rfl)
                  case hQpq8 => exact fun _ _ _ h => h
                  try simp only [Act.put, List.setIfInBounds_toArray, List.set_cons_zero, List.set_cons_succ]
                  refine wpAnyH_take (i := 9) (oi := ?oipq9) (v := ?vpq9) ?hipq9 ?hspq9 ?hfpq9 ?hrpq9 ?hQpq9 ?hypq9 ?hSpq9 ?hpq9
                  case hipq9 => (simp only [List.getElem?_toArray, List.getElem?_cons_succ, List.getElem?_cons_zero]; rfl)
                  case hspq9 => kernel_rfl
                  case hfpq9 => kernel_rfl
                  case hrpq9 => kernel_rfl
                  case hSpq9 => first | assumption | trivial
                  case hypq9 => refine Or.inl ⟨by kernel_rfl, ?_⟩; (intro w hSw; (try dsimp only at hSw); go_simp; try with_reducible rfl)
                  case hQpq9 => exact fun _ _ _ h => h
                  try simp only [Act.put, List.setIfInBounds_toArray, List.set_cons_zero, List.set_cons_succ]
                  refine wpAnyH_take (i := 10) (oi := ?oipq10) (v := ?vpq10) ?hipq10 ?hspq10 ?hfpq10 ?hrpq10 ?hQpq10 ?hypq10 ?hSpq10 ?hpq10
                  case hipq10 => (simp only [List.getElem?_toArray, List.getElem?_cons_succ, List.getElem?_cons_zero]; rfl)
                  case hspq10 => kernel_rfl
                  case hfpq10 => kernel_rfl
                  case hrpq10 => kernel_rfl
                  case hSpq10 => first | assumption | trivial
                  case hypq10 => refine Or.inl ⟨by kernel_rfl, ?_⟩; (intro w hSw; (try dsimp only at hSw); go_simp; try with_reducible rfl)
                  case hQpq10 => exact fun _ _ _ h => h
                  try simp only [Act.put, List.setIfInBounds_toArray, List.set_cons_zero, List.set_cons_succ]
                  refine wpAnyH_take (i := 11) (oi := ?oipq11) (v := ?vpq11) ?hipq11 ?hspq11 ?hfpq11 ?hrpq11 ?hQpq11 ?hypq11 ?hSpq11 ?hpq11
                  case hipq11 => (simp only [List.getElem?_toArray, List.getElem?_cons_succ, List.getElem?_cons_zero]; rfl)
                  case hspq11 => kernel_rfl
                  case hfpq11 => kernel_rfl
                  case hrpq11 => kernel_rfl
                  case hSpq11 => first | assumption | trivial
                  case hypq11 => refine Or.inl ⟨by kernel_rfl, ?_⟩; (intro w hSw; (try dsimp only at hSw); go_simp; try with_reducible rfl)
                  case hQpq11 => exact fun _ _ _ h => h
                  try simp only [Act.put, List.setIfInBounds_toArray, List.set_cons_zero, List.set_cons_succ]
                  refine wpAnyH_ready (rs := [13]) (by kernel_rfl) (by simp) ?_
                  refine AllReadyH.cons (by simp only [List.getElem?_toArray, List.getElem?_cons_succ, List.getElem?_cons_zero]; rfl) (fun K hK => ?_) AllReadyH.nil
                  rw [if_pos (by kernel_rfl)]
                  refine wp_store_mid 37 (.tmp 20) (.tmp 149) rfl wr.heap.size (0) (encN R).toArray rfl rfl (blk_there (H6.out.g.kb _ (List.mem_cons_self ..)) (Nat.le_refl 13)) iszNd (all_oneCell_toArray (encN_ones _)) ?_
                  refine hK.out _ _ (HSS.out _ _ _ _ H7.out (by simp)) (fun hSpq13 => ?_)
                  try simp only [Act.put, List.setIfInBounds_toArray, List.set_cons_zero, List.set_cons_succ]
                  refine wpAnyH_take (i := 14) (oi := ?oipq14) (v := ?vpq14) ?hipq14 ?hspq14 ?hfpq14 ?hrpq14 ?hQpq14 ?hypq14 ?hSpq14 ?hpq14
                  case hipq14 => (simp only [List.getElem?_toArray, List.getElem?_cons_succ, List.getElem?_cons_zero]; rfl)
                  case hspq14 => kernel_rfl
                  case hfpq14 => kernel_rfl
                  case hrpq14 => kernel_rfl
                  case hSpq14 => first | assumption | trivial
                  case hypq14 => refine Or.inl ⟨by kernel_rfl, ?_⟩; (intro w hSw; (try dsimp only at hSw); go_simp; try with_reducible rfl)
                  case hQpq14 => exact fun _ _ _ h => h
                  try simp only [Act.put, List.setIfInBounds_toArray, List.set_cons_zero, List.set_cons_succ]
                  refine wpAnyH_take (i := 15) (oi := ?oipq15) (v := ?vpq15) ?hipq15 ?hspq15 ?hfpq15 ?hrpq15 ?hQpq15 ?hypq15 ?hSpq15 ?hpq15
                  case hipq15 => (simp only [List.getElem?_toArray, List.getElem?_cons_succ, List.getElem?_cons_zero]; rfl)
                  case hspq15 => kernel_rfl
                  case hfpq15 => kernel_rfl
                  case hrpq15 => kernel_rfl
                  case hSpq15 => first | assumption | trivial
                  case hypq15 => refine Or.inl ⟨by kernel_rfl, ?_⟩; (intro w hSw; (try dsimp only at hSw); go_simp; try with_reducible rfl)
                  case hQpq15 => exact fun _ _ _ h => h
                  try simp only [Act.put, List.setIfInBounds_toArray, List.set_cons_zero, List.set_cons_succ]
                  refine wpAnyH_done (by kernel_rfl) ?_ _
                  go_wp2_with fail
                  go_meet
                  exact ⟨_, F3, rfl, rfl, rfl, H7⟩
              obtain ⟨g1, F1, rfl, rfl, rfl, HL1⟩ := hcut
              obtain ⟨wP, hwP⟩ : ∃ v, v = wc := ⟨_, rfl⟩
              subst hwP
              go_upto_region 26 with fail
              go_cut [23, 24, 25] (fun vx v1 v2 wx => ∃ g F3, vx = .pointer (some ⟨g, 0, none⟩) ∧ v1 = .bool true ∧ v2 = .int .i64 0 ∧ Hid (LdR mb wm wx s3 F3 ((g, 37, encN R) :: ((g1, 37, encN R) :: [(gA, 37, encN d1), (gB, 37, encN d2)])) [(.slice (some ⟨bx, ox, none⟩) la.length xc, la)]))
              case first =>
                have HSS : Hid (∀ (w' : World) (st : MemT) (F : Nat → Prop) (bs : List (Nat × Nat × List Value)), LdR mb wm w' st F bs [(.slice (some ⟨bx, ox, none⟩) la.length xc, la)] → (gB, 37, encN d2) ∈ bs → Blk w' gB 37 (encN d2) ∧ w'.cell? ⟨bx, ox + p, none⟩ = some (.int .i64 (m : Int))) := Lib.hid (fun W st F bs h hb => ⟨h.g.kb _ hb, HCL.out W st F bs h⟩)
                have HD0 := Lib.hid (HL1.out.below (wc := wP.drew) (Below.refl _ _).drew)
                refine wp_region_held_drew (S := fun w' => Blk w' gB 37 (encN d2) ∧ w'.cell? ⟨bx, ox + p, none⟩ = some (.int .i64 (m : Int))) (by kernel_rfl) (HSS.out _ _ _ _ HD0.out (by simp)) (fun hS0 => ?_)
                refine wpAnyH_take (i := 0) (oi := ?oiq0) (v := ?vq0) ?hiq0 ?hsq0 ?hfq0 ?hrq0 ?hQq0 ?hyq0 ?hSq0 ?hq0
                case hiq0 => (simp only [List.getElem?_toArray, List.getElem?_cons_succ, List.getElem?_cons_zero]; rfl)
                case hsq0 => kernel_rfl
                case hfq0 => kernel_rfl
                case hrq0 => kernel_rfl
                case hSq0 => first | assumption | trivial
                case hyq0 => refine Or.inl ⟨by kernel_rfl, ?_⟩; (intro w hSw; (try dsimp only at hSw); go_simp; try with_reducible rfl)
                case hQq0 => exact fun _ _ _ h => h
                try simp only [Act.put, List.setIfInBounds_toArray, List.set_cons_zero, List.set_cons_succ]
                refine wpAnyH_take (i := 1) (oi := ?oiq1) (v := ?vq1) ?hiq1 ?hsq1 ?hfq1 ?hrq1 ?hQq1 ?hyq1 ?hSq1 ?hq1
                case hiq1 => (simp only [List.getElem?_toArray, List.getElem?_cons_succ, List.getElem?_cons_zero]; rfl)
                case hsq1 => kernel_rfl
                case hfq1 => kernel_rfl
                case hrq1 => kernel_rfl
                case hSq1 => first | assumption | trivial
                case hyq1 => refine Or.inl ⟨by kernel_rfl, ?_⟩; (intro w hSw; (try dsimp only at hSw); go_simp; try with_reducible rfl)
                case hQq1 => exact fun _ _ _ h => h
                try simp only [Act.put, List.setIfInBounds_toArray, List.set_cons_zero, List.set_cons_succ]
                refine wpAnyH_take (i := 2) (oi := ?oiq2) (v := ?vq2) ?hiq2 ?hsq2 ?hfq2 ?hrq2 ?hQq2 ?hyq2 ?hSq2 ?hq2
                case hiq2 => (simp only [List.getElem?_toArray, List.getElem?_cons_succ, List.getElem?_cons_zero]; rfl)
                case hsq2 => kernel_rfl
                case hfq2 => kernel_rfl
                case hrq2 => kernel_rfl
                case hSq2 => first | assumption | trivial
                case hyq2 => refine yieldsIf_load_mid (by kernel_rfl) 37 (.tmp 7) ?_ gB (0) ?_ (encN d2) _ (fun w' hw => range_and1 hw) Tryd.underlying37 rfl iszNd <;> rfl
                case hQq2 => exact fun _ _ _ h => h
                try simp only [Act.put, List.setIfInBounds_toArray, List.set_cons_zero, List.set_cons_succ]
                refine wpAnyH_take (i := 3) (oi := ?oiq3) (v := ?vq3) ?hiq3 ?hsq3 ?hfq3 ?hrq3 ?hQq3 ?hyq3 ?hSq3 ?hq3
                case hiq3 => (simp only [List.getElem?_toArray, List.getElem?_cons_succ, List.getElem?_cons_zero]; rfl)
                case hsq3 => kernel_rfl
                case hfq3 => kernel_rfl
                case hrq3 => kernel_rfl
                case hSq3 => first | assumption | trivial
                case hyq3 => refine Or.inl ⟨by kernel_rfl, ?_⟩; (intro w hSw; (try dsimp only at hSw); go_simp; try with_reducible rfl)
                case hQq3 => exact fun _ _ _ h => h
                try simp only [Act.put, List.setIfInBounds_toArray, List.set_cons_zero, List.set_cons_succ]
                refine wpAnyH_take (i := 4) (oi := ?oiq4) (v := ?vq4) ?hiq4 ?hsq4 ?hfq4 ?hrq4 ?hQq4 ?hyq4 ?hSq4 ?hq4
                case hiq4 => (simp only [List.getElem?_toArray, List.getElem?_cons_succ, List.getElem?_cons_zero]; rfl)
                case hsq4 => kernel_rfl
                case hfq4 => kernel_rfl
                case hrq4 => kernel_rfl
                case hSq4 => first | assumption | trivial
                case hyq4 => refine Or.inl ⟨by kernel_rfl, ?_⟩; (intro w hSw; (try dsimp only at hSw); go_simp; try with_reducible rfl)
                case hQq4 => exact fun _ _ _ h => h
                try simp only [Act.put, List.setIfInBounds_toArray, List.set_cons_zero, List.set_cons_succ]
                refine wpAnyH_take (i := 5) (oi := ?oiq5) (v := ?vq5) ?hiq5 ?hsq5 ?hfq5 ?hrq5 ?hQq5 ?hyq5 ?hSq5 ?hq5
                case hiq5 => (simp only [List.getElem?_toArray, List.getElem?_cons_succ, List.getElem?_cons_zero]; rfl)
                case hsq5 => kernel_rfl
                case hfq5 => kernel_rfl
                case hrq5 => kernel_rfl
                case hSq5 => first | assumption | trivial
                case hyq5 => refine Or.inl ⟨by kernel_rfl, ?_⟩; (intro w hSw; (try dsimp only at hSw); go_simp; first | with_reducible rfl | rw [if_pos (by omega)])
                case hQq5 => exact fun _ _ _ h => h
                try simp only [Act.put, List.setIfInBounds_toArray, List.set_cons_zero, List.set_cons_succ]
                refine wpAnyH_take (i := 6) (oi := ?oiq6) (v := ?vq6) ?hiq6 ?hsq6 ?hfq6 ?hrq6 ?hQq6 ?hyq6 ?hSq6 ?hq6
                case hiq6 => (simp only [List.getElem?_toArray, List.getElem?_cons_succ, List.getElem?_cons_zero]; rfl)
                case hsq6 => kernel_rfl
                case hfq6 => kernel_rfl
                case hrq6 => kernel_rfl
                case hSq6 => first | assumption | trivial
                case hyq6 => refine Or.inl ⟨by kernel_rfl, ?_⟩; (intro w hSw; (try dsimp only at hSw); go_simp; try with_reducible rfl)
                case hQq6 => exact fun _ _ _ h => h
                try simp only [Act.put, List.setIfInBounds_toArray, List.set_cons_zero, List.set_cons_succ]
                refine wpAnyH_ready (rs := [7, 12]) (by kernel_rfl) (by simp) ?_
                refine AllReadyH.cons (by simp only [List.getElem?_toArray, List.getElem?_cons_succ, List.getElem?_cons_zero]; rfl) (fun K hK => ?_) (AllReadyH.cons (by simp only [List.getElem?_toArray, List.getElem?_cons_succ, List.getElem?_cons_zero]; rfl) (fun K hK => ?_) AllReadyH.nil)
                · go_simp
                  have HLW := Lib.hid (HD0.out)
                  refine (dget_any (C := memC mb) HLW.out.g.at_.1 d2 (HWF.out.2.1) (m : Int) (by rw [HE2.out]; exact HMM.out.2)).mono ?_
                  rintro e w6 ⟨hrd, _, hstep6⟩
                  rw [HE2.out] at hrd hstep6
                  have hrd : e = .returned (.tuple #[.agg (encN R).toArray, .bool true, .int .i64 0]) := hrd
                  subst hrd
                  obtain ⟨F3, hl6, _, _⟩ := HLW.out.step hstep6
                  have H6 := Lib.hid hl6
                  clear hstep6 hl6
                  have H6b := Lib.hid (H6.out.new 37 (encN nD))
                  have H7 := Lib.hid (H6b.out.put (o := 0) (vs := encN R) (ds := encN R) (H6.out.g.at_.size) (fun b hb => Nat.ne_of_lt (H6.out.g.lt b hb)) ((H6b.out.g.kb _ (List.mem_cons_self ..)).put rfl) (by decide))
                  clear HLW
                  try dsimp only
                  refine hK.out _ _ (HSS.out _ _ _ _ H6.out (by simp)) (fun hSqp7 => ?_)
                  try simp only [Act.put, List.setIfInBounds_toArray, List.set_cons_zero, List.set_cons_succ]
                  refine wpAnyH_take (i := 8) (oi := ?oiqp8) (v := ?vqp8) ?hiqp8 ?hsqp8 ?hfqp8 ?hrqp8 ?hQqp8 ?hyqp8 ?hSqp8 ?hqp8
                  case hiqp8 => (simp only [List.getElem?_toArray, List.getElem?_cons_succ, List.getElem?_cons_zero]; rfl)
                  case hsqp8 => kernel_rfl
                  case hfqp8 => kernel_rfl
                  case hrqp8 => kernel_rfl
                  case hSqp8 => first | assumption | trivial
                  case hyqp8 => refine Or.inl ⟨by kernel_rfl, ?_⟩; (intro w hSw; (try dsimp only at hSw); go_simp; try with_reducible rfl)
                  case hQqp8 => exact fun _ _ _ h => h
                  try simp only [Act.put, List.setIfInBounds_toArray, List.set_cons_zero, List.set_cons_succ]
                  refine wpAnyH_take (i := 9) (oi := ?oiqp9) (v := ?vqp9) ?hiqp9 ?hsqp9 ?hfqp9 ?hrqp9 ?hQqp9 ?hyqp9 ?hSqp9 ?hqp9
                  case hiqp9 => (simp only [List.getElem?_toArray, List.getElem?_cons_succ, List.getElem?_cons_zero]; rfl)
                  case hsqp9 => kernel_rfl
                  case hfqp9 => kernel_rfl
                  case hrqp9 => kernel_rfl
                  case hSqp9 => first | assumption | trivial
                  case hyqp9 => refine Or.inl ⟨by kernel_rfl, ?_⟩; (intro w hSw; (try dsimp only at hSw); go_simp; try with_reducible rfl)
                  case hQqp9 => exact fun _ _ _ h => h
                  try simp only [Act.put, List.setIfInBounds_toArray, List.set_cons_zero, List.set_cons_succ]
                  refine wpAnyH_take (i := 10) (oi := ?oiqp10) (v := ?vqp10) ?hiqp10 ?hsqp10 ?hfqp10 ?hrqp10 ?hQqp10 ?hyqp10 ?hSqp10 ?hqp10
                  case hiqp10 => (simp only [List.getElem?_toArray, List.getElem?_cons_succ, List.getElem?_cons_zero]; rfl)
                  case hsqp10 => kernel_rfl
                  case hfqp10 => kernel_rfl
                  case hrqp10 => kernel_rfl
                  case hSqp10 => first | assumption | trivial
                  case hyqp10 => refine Or.inl ⟨by kernel_rfl, ?_⟩; (intro w hSw; (try dsimp only at hSw); go_simp; try with_reducible rfl)
                  case hQqp10 => exact fun _ _ _ h => h
                  try simp only [Act.put, List.setIfInBounds_toArray, List.set_cons_zero, List.set_cons_succ]
                  refine wpAnyH_take (i := 11) (oi := ?oiqp11) (v := ?vqp11) ?hiqp11 ?hsqp11 ?hfqp11 ?hrqp11 ?hQqp11 ?hyqp11 ?hSqp11 ?hqp11
                  case hiqp11 => (simp only [List.getElem?_toArray, List.getElem?_cons_succ, List.getElem?_cons_zero]; rfl)
                  case hsqp11 => kernel_rfl
                  case hfqp11 => kernel_rfl
                  case hrqp11 => kernel_rfl
                  case hSqp11 => first | assumption | trivial
                  case hyqp11 => refine Or.inl ⟨by kernel_rfl, ?_⟩; (intro w hSw; (try dsimp only at hSw); go_simp; try with_reducible rfl)
                  case hQqp11 => exact fun _ _ _ h => h
                  try simp only [Act.put, List.setIfInBounds_toArray, List.set_cons_zero, List.set_cons_succ]
                  refine wpAnyH_ready (rs := [12]) (by kernel_rfl) (by simp) ?_
                  refine AllReadyH.cons (by simp only [List.getElem?_toArray, List.getElem?_cons_succ, List.getElem?_cons_zero]; rfl) (fun K hK => ?_) AllReadyH.nil
                  go_simp
                  skip
                  refine hK.out _ _ (HSS.out _ _ _ _ H6b.out (by simp)) (fun hSqp12 => ?_)
                  try simp only [Act.put, List.setIfInBounds_toArray, List.set_cons_zero, List.set_cons_succ]
                  refine wpAnyH_ready (rs := [13]) (by kernel_rfl) (by simp) ?_
                  refine AllReadyH.cons (by simp only [List.getElem?_toArray, List.getElem?_cons_succ, List.getElem?_cons_zero]; rfl) (fun K hK => ?_) AllReadyH.nil
                  rw [if_pos (by kernel_rfl)]
                  refine wp_store_mid 37 (.tmp 23) (.tmp 161) rfl w6.heap.size (0) (encN R).toArray rfl rfl (blk_there (H6b.out.g.kb _ (List.mem_cons_self ..)) (Nat.le_refl 13)) iszNd (all_oneCell_toArray (encN_ones _)) ?_
                  refine hK.out _ _ (HSS.out _ _ _ _ H7.out (by simp)) (fun hSqp13 => ?_)
                  try simp only [Act.put, List.setIfInBounds_toArray, List.set_cons_zero, List.set_cons_succ]
                  refine wpAnyH_take (i := 14) (oi := ?oiqp14) (v := ?vqp14) ?hiqp14 ?hsqp14 ?hfqp14 ?hrqp14 ?hQqp14 ?hyqp14 ?hSqp14 ?hqp14
                  case hiqp14 => (simp only [List.getElem?_toArray, List.getElem?_cons_succ, List.getElem?_cons_zero]; rfl)
                  case hsqp14 => kernel_rfl
                  case hfqp14 => kernel_rfl
                  case hrqp14 => kernel_rfl
                  case hSqp14 => first | assumption | trivial
                  case hyqp14 => refine Or.inl ⟨by kernel_rfl, ?_⟩; (intro w hSw; (try dsimp only at hSw); go_simp; try with_reducible rfl)
                  case hQqp14 => exact fun _ _ _ h => h
                  try simp only [Act.put, List.setIfInBounds_toArray, List.set_cons_zero, List.set_cons_succ]
                  refine wpAnyH_take (i := 15) (oi := ?oiqp15) (v := ?vqp15) ?hiqp15 ?hsqp15 ?hfqp15 ?hrqp15 ?hQqp15 ?hyqp15 ?hSqp15 ?hqp15
                  case hiqp15 => (simp only [List.getElem?_toArray, List.getElem?_cons_succ, List.getElem?_cons_zero]; rfl)
                  case hsqp15 => kernel_rfl
                  case hfqp15 => kernel_rfl
                  case hrqp15 => kernel_rfl
                  case hSqp15 => first | assumption | trivial
                  case hyqp15 => refine Or.inl ⟨by kernel_rfl, ?_⟩; (intro w hSw; (try dsimp only at hSw); go_simp; try with_reducible rfl)
                  case hQqp15 => exact fun _ _ _ h => h
                  try simp only [Act.put, List.setIfInBounds_toArray, List.set_cons_zero, List.set_cons_succ]
                  refine wpAnyH_done (by kernel_rfl) ?_ _
                  go_wp2_with fail
                  go_meet
                  exact ⟨_, F3, rfl, rfl, rfl, H7⟩
                · go_simp
                  skip
                  refine hK.out _ _ (HSS.out _ _ _ _ (HD0.out.new 37 (encN nD)) (by simp)) (fun hSqq12 => ?_)
                  try simp only [Act.put, List.setIfInBounds_toArray, List.set_cons_zero, List.set_cons_succ]
                  refine wpAnyH_ready (rs := [7]) (by kernel_rfl) (by simp) ?_
                  refine AllReadyH.cons (by simp only [List.getElem?_toArray, List.getElem?_cons_succ, List.getElem?_cons_zero]; rfl) (fun K hK => ?_) AllReadyH.nil
                  go_simp
                  have HLW := Lib.hid (HD0.out.new 37 (encN nD))
                  refine (dget_any (C := memC mb) HLW.out.g.at_.1 d2 (HWF.out.2.1) (m : Int) (by rw [HE2.out]; exact HMM.out.2)).mono ?_
                  rintro e w6 ⟨hrd, _, hstep6⟩
                  rw [HE2.out] at hrd hstep6
                  have hrd : e = .returned (.tuple #[.agg (encN R).toArray, .bool true, .int .i64 0]) := hrd
                  subst hrd
                  obtain ⟨F3, hl6, _, _⟩ := HLW.out.step hstep6
                  have H6 := Lib.hid hl6
                  clear hstep6 hl6
                  have H7 := Lib.hid (H6.out.put (o := 0) (vs := encN R) (ds := encN R) (HL1.out.g.at_.size) (fun b hb => Nat.ne_of_lt (HL1.out.g.lt b hb)) ((H6.out.g.kb _ (List.mem_cons_self ..)).put rfl) (by decide))
                  clear HLW
                  try dsimp only
                  refine hK.out _ _ (HSS.out _ _ _ _ H6.out (by simp)) (fun hSqq7 => ?_)
                  try simp only [Act.put, List.setIfInBounds_toArray, List.set_cons_zero, List.set_cons_succ]
                  refine wpAnyH_take (i := 8) (oi := ?oiqq8) (v := ?vqq8) ?hiqq8 ?hsqq8 ?hfqq8 ?hrqq8 ?hQqq8 ?hyqq8 ?hSqq8 ?hqq8
                  case hiqq8 => (simp only [List.getElem?_toArray, List.getElem?_cons_succ, List.getElem?_cons_zero]; rfl)
                  case hsqq8 => kernel_rfl
                  case hfqq8 => kernel_rfl
                  case hrqq8 => kernel_rfl
                  case hSqq8 => first | assumption | trivial
                  case hyqq8 => refine Or.inl ⟨by kernel_rfl, ?_⟩; (intro w hSw; (try dsimp only at hSw); go_simp; try with_reducible rfl)
                  case hQqq8 => exact fun _ _ _ h => h
                  try simp only [Act.put, List.setIfInBounds_toArray, List.set_cons_zero, List.set_cons_succ]
                  refine wpAnyH_take (i := 9) (oi := ?oiqq9) (v := ?vqq9) ?hiqq9 ?hsqq9 ?hfqq9 ?hrqq9 ?hQqq9 ?hyqq9 ?hSqq9 ?hqq9
                  case hiqq9 => (simp only [List.getElem?_toArray, List.getElem?_cons_succ, List.getElem?_cons_zero]; rfl)
                  case hsqq9 => kernel_rfl
                  case hfqq9 => kernel_rfl
                  case hrqq9 => kernel_rfl
                  case hSqq9 => first | assumption | trivial
                  case hyqq9 => refine Or.inl ⟨by kernel_rfl, ?_⟩; (intro w hSw; (try dsimp only at hSw); go_simp; try with_reducible rfl)
                  case hQqq9 => exact fun _ _ _ h => h
                  try simp only [Act.put, List.setIfInBounds_toArray, List.set_cons_zero, List.set_cons_succ]
                  refine wpAnyH_take (i := 10) (oi := ?oiqq10) (v := ?vqq10) ?hiqq10 ?hsqq10 ?hfqq10 ?hrqq10 ?hQqq10 ?hyqq10 ?hSqq10 ?hqq10
                  case hiqq10 => (simp only [List.getElem?_toArray, List.getElem?_cons_succ, List.getElem?_cons_zero]; rfl)
                  case hsqq10 => kernel_rfl
                  case hfqq10 => kernel_rfl
                  case hrqq10 => kernel_rfl
                  case hSqq10 => first | assumption | trivial
                  case hyqq10 => refine Or.inl ⟨by kernel_rfl, ?_⟩; (intro w hSw; (try dsimp only at hSw); go_simp; try with_reducible rfl)
                  case hQqq10 => exact fun _ _ _ h => h
                  try simp only [Act.put, List.setIfInBounds_toArray, List.set_cons_zero, List.set_cons_succ]
                  refine wpAnyH_take (i := 11) (oi := ?oiqq11) (v := ?vqq11) ?hiqq11 ?hsqq11 ?hfqq11 ?hrqq11 ?hQqq11 ?hyqq11 ?hSqq11 ?hqq11
                  case hiqq11 => (simp only [List.getElem?_toArray, List.getElem?_cons_succ, List.getElem?_cons_zero]; rfl)
                  case hsqq11 => kernel_rfl
                  case hfqq11 => kernel_rfl
                  case hrqq11 => kernel_rfl
                  case hSqq11 => first | assumption | trivial
                  case hyqq11 => refine Or.inl ⟨by kernel_rfl, ?_⟩; (intro w hSw; (try dsimp only at hSw); go_simp; try with_reducible rfl)
                  case hQqq11 => exact fun _ _ _ h => h
                  try simp only [Act.put, List.setIfInBounds_toArray, List.set_cons_zero, List.set_cons_succ]
                  refine wpAnyH_ready (rs := [13]) (by kernel_rfl) (by simp) ?_
                  refine AllReadyH.cons (by simp only [List.getElem?_toArray, List.getElem?_cons_succ, List.getElem?_cons_zero]; rfl) (fun K hK => ?_) AllReadyH.nil
                  rw [if_pos (by kernel_rfl)]
                  refine wp_store_mid 37 (.tmp 23) (.tmp 161) rfl wP.heap.size (0) (encN R).toArray rfl rfl (blk_there (H6.out.g.kb _ (List.mem_cons_self ..)) (Nat.le_refl 13)) iszNd (all_oneCell_toArray (encN_ones _)) ?_
                  refine hK.out _ _ (HSS.out _ _ _ _ H7.out (by simp)) (fun hSqq13 => ?_)
                  try simp only [Act.put, List.setIfInBounds_toArray, List.set_cons_zero, List.set_cons_succ]
                  refine wpAnyH_take (i := 14) (oi := ?oiqq14) (v := ?vqq14) ?hiqq14 ?hsqq14 ?hfqq14 ?hrqq14 ?hQqq14 ?hyqq14 ?hSqq14 ?hqq14
                  case hiqq14 => (simp only [List.getElem?_toArray, List.getElem?_cons_succ, List.getElem?_cons_zero]; rfl)
                  case hsqq14 => kernel_rfl
                  case hfqq14 => kernel_rfl
                  case hrqq14 => kernel_rfl
                  case hSqq14 => first | assumption | trivial
                  case hyqq14 => refine Or.inl ⟨by kernel_rfl, ?_⟩; (intro w hSw; (try dsimp only at hSw); go_simp; try with_reducible rfl)
                  case hQqq14 => exact fun _ _ _ h => h
                  try simp only [Act.put, List.setIfInBounds_toArray, List.set_cons_zero, List.set_cons_succ]
                  refine wpAnyH_take (i := 15) (oi := ?oiqq15) (v := ?vqq15) ?hiqq15 ?hsqq15 ?hfqq15 ?hrqq15 ?hQqq15 ?hyqq15 ?hSqq15 ?hqq15
                  case hiqq15 => (simp only [List.getElem?_toArray, List.getElem?_cons_succ, List.getElem?_cons_zero]; rfl)
                  case hsqq15 => kernel_rfl
                  case hfqq15 => kernel_rfl
                  case hrqq15 => kernel_rfl
                  case hSqq15 => first | assumption | trivial
                  case hyqq15 => refine Or.inl ⟨by kernel_rfl, ?_⟩; (intro w hSw; (try dsimp only at hSw); go_simp; try with_reducible rfl)
                  case hQqq15 => exact fun _ _ _ h => h
                  try simp only [Act.put, List.setIfInBounds_toArray, List.set_cons_zero, List.set_cons_succ]
                  refine wpAnyH_done (by kernel_rfl) ?_ _
                  go_wp2_with fail
                  go_meet
                  exact ⟨_, F3, rfl, rfl, rfl, H7⟩
              obtain ⟨g2, F2, rfl, rfl, rfl, HL2⟩ := hcut
              go_upto_region 27 with fail
              have hS0 : (fun w' => Blk w' g1 37 (encN R) ∧ Blk w' g2 37 (encN R) ∧ w'.cell? ⟨g1, 0, none⟩ = some (.int .i64 (m : Int)) ∧ w'.cell? ⟨bx, ox + p, none⟩ = some (.int .i64 (m : Int))) wc.drew := by
                have h1 := HL2.out.g.kb (g1, 37, encN R) (by simp)
                refine ⟨h1.drew, (HL2.out.g.kb (g2, 37, encN R) (by simp)).drew, ?_, HCL.out _ _ _ _ (HL2.out.below (Below.refl _ _).drew)⟩
                rw [h1.drew.cell, HRR.out]; rfl
              refine wp_region_held_drew (S := fun w' => Blk w' g1 37 (encN R) ∧ Blk w' g2 37 (encN R) ∧ w'.cell? ⟨g1, 0, none⟩ = some (.int .i64 (m : Int)) ∧ w'.cell? ⟨bx, ox + p, none⟩ = some (.int .i64 (m : Int))) (by kernel_rfl) hS0 (fun hS0 => ?_)
              refine wpAnyH_take (i := 0) (oi := ?ois0) (v := ?vs0) ?his0 ?hss0 ?hfs0 ?hrs0 ?hQs0 ?hys0 ?hSs0 ?hs0
              case his0 => (simp only [List.getElem?_toArray, List.getElem?_cons_succ, List.getElem?_cons_zero]; rfl)
              case hss0 => kernel_rfl
              case hfs0 => kernel_rfl
              case hrs0 => kernel_rfl
              case hSs0 => first | assumption | trivial
              case hys0 => refine Or.inl ⟨by kernel_rfl, ?_⟩; (intro w hSw; (try dsimp only at hSw); go_simp; try with_reducible rfl)
              case hQs0 => exact fun _ _ _ h => h
              try simp only [Act.put, List.setIfInBounds_toArray, List.set_cons_zero, List.set_cons_succ]
              refine wpAnyH_take (i := 1) (oi := ?ois1) (v := ?vs1) ?his1 ?hss1 ?hfs1 ?hrs1 ?hQs1 ?hys1 ?hSs1 ?hs1
              case his1 => (simp only [List.getElem?_toArray, List.getElem?_cons_succ, List.getElem?_cons_zero]; rfl)
              case hss1 => kernel_rfl
              case hfs1 => kernel_rfl
              case hrs1 => kernel_rfl
              case hSs1 => first | assumption | trivial
              case hys1 => refine Or.inl ⟨by kernel_rfl, ?_⟩; (intro w hSw; (try dsimp only at hSw); go_simp; try with_reducible rfl)
              case hQs1 => exact fun _ _ _ h => h
              try simp only [Act.put, List.setIfInBounds_toArray, List.set_cons_zero, List.set_cons_succ]
              refine wpAnyH_take (i := 2) (oi := ?ois2) (v := ?vs2) ?his2 ?hss2 ?hfs2 ?hrs2 ?hQs2 ?hys2 ?hSs2 ?hs2
              case his2 => (simp only [List.getElem?_toArray, List.getElem?_cons_succ, List.getElem?_cons_zero]; rfl)
              case hss2 => kernel_rfl
              case hfs2 => kernel_rfl
              case hrs2 => kernel_rfl
              case hSs2 => first | assumption | trivial
              case hys2 => refine Or.inl ⟨by kernel_rfl, ?_⟩; (intro w hSw; (try dsimp only at hSw); go_simp; try with_reducible rfl)
              case hQs2 => exact fun _ _ _ h => h
              try simp only [Act.put, List.setIfInBounds_toArray, List.set_cons_zero, List.set_cons_succ]
              refine wpAnyH_take (i := 3) (oi := ?ois3) (v := ?vs3) ?his3 ?hss3 ?hfs3 ?hrs3 ?hQs3 ?hys3 ?hSs3 ?hs3
              case his3 => (simp only [List.getElem?_toArray, List.getElem?_cons_succ, List.getElem?_cons_zero]; rfl)
              case hss3 => kernel_rfl
              case hfs3 => kernel_rfl
              case hrs3 => kernel_rfl
              case hSs3 => first | assumption | trivial
              case hys3 => refine Or.inl ⟨by kernel_rfl, ?_⟩; (intro w hSw; (try dsimp only at hSw); go_simp; try with_reducible rfl)
              case hQs3 => exact fun _ _ _ h => h
              try simp only [Act.put, List.setIfInBounds_toArray, List.set_cons_zero, List.set_cons_succ]
              refine wpAnyH_take (i := 4) (oi := ?ois4) (v := ?vs4) ?his4 ?hss4 ?hfs4 ?hrs4 ?hQs4 ?hys4 ?hSs4 ?hs4
              case his4 => (simp only [List.getElem?_toArray, List.getElem?_cons_succ, List.getElem?_cons_zero]; rfl)
              case hss4 => kernel_rfl
              case hfs4 => kernel_rfl
              case hrs4 => kernel_rfl
              case hSs4 => first | assumption | trivial
              case hys4 => refine Or.inl ⟨by kernel_rfl, ?_⟩; (intro w hSw; (try dsimp only at hSw); go_simp; try with_reducible rfl)
              case hQs4 => exact fun _ _ _ h => h
              try simp only [Act.put, List.setIfInBounds_toArray, List.set_cons_zero, List.set_cons_succ]
              refine wpAnyH_take (i := 5) (oi := ?ois5) (v := ?vs5) ?his5 ?hss5 ?hfs5 ?hrs5 ?hQs5 ?hys5 ?hSs5 ?hs5
              case his5 => (simp only [List.getElem?_toArray, List.getElem?_cons_succ, List.getElem?_cons_zero]; rfl)
              case hss5 => kernel_rfl
              case hfs5 => kernel_rfl
              case hrs5 => kernel_rfl
              case hSs5 => first | assumption | trivial
              case hys5 => refine Or.inl ⟨by kernel_rfl, ?_⟩; (intro w hSw; (try dsimp only at hSw); go_simp; try with_reducible rfl)
              case hQs5 => exact fun _ _ _ h => h
              try simp only [Act.put, List.setIfInBounds_toArray, List.set_cons_zero, List.set_cons_succ]
              refine wpAnyH_take (i := 6) (oi := ?ois6) (v := ?vs6) ?his6 ?hss6 ?hfs6 ?hrs6 ?hQs6 ?hys6 ?hSs6 ?hs6
              case his6 => (simp only [List.getElem?_toArray, List.getElem?_cons_succ, List.getElem?_cons_zero]; rfl)
              case hss6 => kernel_rfl
              case hfs6 => kernel_rfl
              case hrs6 => kernel_rfl
              case hSs6 => first | assumption | trivial
              case hys6 => refine Or.inl ⟨by kernel_rfl, ?_⟩; (intro w hSw; (try dsimp only at hSw); go_simp; try with_reducible rfl)
              case hQs6 => exact fun _ _ _ h => h
              try simp only [Act.put, List.setIfInBounds_toArray, List.set_cons_zero, List.set_cons_succ]
              refine wpAnyH_take (i := 7) (oi := ?ois7) (v := ?vs7) ?his7 ?hss7 ?hfs7 ?hrs7 ?hQs7 ?hys7 ?hSs7 ?hs7
              case his7 => (simp only [List.getElem?_toArray, List.getElem?_cons_succ, List.getElem?_cons_zero]; rfl)
              case hss7 => kernel_rfl
              case hfs7 => kernel_rfl
              case hrs7 => kernel_rfl
              case hSs7 => first | assumption | trivial
              case hys7 => refine yieldsIf_load_mid (by kernel_rfl) 37 (.tmp 20) ?_ g1 (0) ?_ (encN R) _ (fun w' hw => range_and1 hw) Tryd.underlying37 rfl iszNd <;> rfl
              case hQs7 => exact fun _ _ _ h => h
              try simp only [Act.put, List.setIfInBounds_toArray, List.set_cons_zero, List.set_cons_succ]
              refine wpAnyH_take (i := 8) (oi := ?ois8) (v := ?vs8) ?his8 ?hss8 ?hfs8 ?hrs8 ?hQs8 ?hys8 ?hSs8 ?hs8
              case his8 => (simp only [List.getElem?_toArray, List.getElem?_cons_succ, List.getElem?_cons_zero]; rfl)
              case hss8 => kernel_rfl
              case hfs8 => kernel_rfl
              case hrs8 => kernel_rfl
              case hSs8 => first | assumption | trivial
              case hys8 => refine yieldsIf_load_mid (by kernel_rfl) 37 (.tmp 23) ?_ g2 (0) ?_ (encN R) _ (fun w' hw => range_and12 hw) Tryd.underlying37 rfl iszNd <;> rfl
              case hQs8 => exact fun _ _ _ h => h
              try simp only [Act.put, List.setIfInBounds_toArray, List.set_cons_zero, List.set_cons_succ]
              refine wpAnyH_take (i := 9) (oi := ?ois9) (v := ?vs9) ?his9 ?hss9 ?hfs9 ?hrs9 ?hQs9 ?hys9 ?hSs9 ?hs9
              case his9 => (simp only [List.getElem?_toArray, List.getElem?_cons_succ, List.getElem?_cons_zero]; rfl)
              case hss9 => kernel_rfl
              case hfs9 => kernel_rfl
              case hrs9 => kernel_rfl
              case hSs9 => first | assumption | trivial
              case hys9 => exact (by refine yieldsIf_neqNdB (by kernel_rfl) (.tmp 171) (.tmp 172) 37 ?_ R R ?_ ?_ HRW.out HRW.out (b := false) (by simp) <;> rfl)
              case hQs9 => exact fun _ _ _ h => h
              try simp only [Act.put, List.setIfInBounds_toArray, List.set_cons_zero, List.set_cons_succ]
              refine wpAnyH_take (i := 10) (oi := ?ois10) (v := ?vs10) ?his10 ?hss10 ?hfs10 ?hrs10 ?hQs10 ?hys10 ?hSs10 ?hs10
              case his10 => (simp only [List.getElem?_toArray, List.getElem?_cons_succ, List.getElem?_cons_zero]; rfl)
              case hss10 => kernel_rfl
              case hfs10 => kernel_rfl
              case hrs10 => kernel_rfl
              case hSs10 => first | assumption | trivial
              case hys10 => refine Or.inl ⟨by kernel_rfl, ?_⟩; (intro w hSw; (try dsimp only at hSw); go_simp; try with_reducible rfl)
              case hQs10 => exact fun _ _ _ h => h
              try simp only [Act.put, List.setIfInBounds_toArray, List.set_cons_zero, List.set_cons_succ]
              refine wpAnyH_take (i := 11) (oi := ?ois11) (v := ?vs11) ?his11 ?hss11 ?hfs11 ?hrs11 ?hQs11 ?hys11 ?hSs11 ?hs11
              case his11 => (simp only [List.getElem?_toArray, List.getElem?_cons_succ, List.getElem?_cons_zero]; rfl)
              case hss11 => kernel_rfl
              case hfs11 => kernel_rfl
              case hrs11 => kernel_rfl
              case hSs11 => first | assumption | trivial
              case hys11 => refine Or.inl ⟨by kernel_rfl, ?_⟩; (intro w hSw; (try dsimp only at hSw); go_simp; try with_reducible rfl)
              case hQs11 => exact fun _ _ _ h => h
              try simp only [Act.put, List.setIfInBounds_toArray, List.set_cons_zero, List.set_cons_succ]
              refine wpAnyH_take (i := 12) (oi := ?ois12) (v := ?vs12) ?his12 ?hss12 ?hfs12 ?hrs12 ?hQs12 ?hys12 ?hSs12 ?hs12
              case his12 => (simp only [List.getElem?_toArray, List.getElem?_cons_succ, List.getElem?_cons_zero]; rfl)
              case hss12 => kernel_rfl
              case hfs12 => kernel_rfl
              case hrs12 => kernel_rfl
              case hSs12 => first | assumption | trivial
              case hys12 => refine Or.inl ⟨by kernel_rfl, ?_⟩; (intro w hSw; (try dsimp only at hSw); go_simp; try with_reducible rfl)
              case hQs12 => exact fun _ _ _ h => h
              try simp only [Act.put, List.setIfInBounds_toArray, List.set_cons_zero, List.set_cons_succ]
              refine wpAnyH_take (i := 13) (oi := ?ois13) (v := ?vs13) ?his13 ?hss13 ?hfs13 ?hrs13 ?hQs13 ?hys13 ?hSs13 ?hs13
              case his13 => (simp only [List.getElem?_toArray, List.getElem?_cons_succ, List.getElem?_cons_zero]; rfl)
              case hss13 => kernel_rfl
              case hfs13 => kernel_rfl
              case hrs13 => kernel_rfl
              case hSs13 => first | assumption | trivial
              case hys13 => refine Or.inl ⟨by kernel_rfl, ?_⟩; (intro w hSw; (try dsimp only at hSw); go_simp; try with_reducible rfl)
              case hQs13 => exact fun _ _ _ h => h
              try simp only [Act.put, List.setIfInBounds_toArray, List.set_cons_zero, List.set_cons_succ]
              refine wpAnyH_take (i := 14) (oi := ?ois14) (v := ?vs14) ?his14 ?hss14 ?hfs14 ?hrs14 ?hQs14 ?hys14 ?hSs14 ?hs14
              case his14 => (simp only [List.getElem?_toArray, List.getElem?_cons_succ, List.getElem?_cons_zero]; rfl)
              case hss14 => kernel_rfl
              case hfs14 => kernel_rfl
              case hrs14 => kernel_rfl
              case hSs14 => first | assumption | trivial
              case hys14 => refine Or.inl ⟨by kernel_rfl, ?_⟩; (intro w hSw; (try dsimp only at hSw); go_simp; try with_reducible rfl)
              case hQs14 => exact fun _ _ _ h => h
              try simp only [Act.put, List.setIfInBounds_toArray, List.set_cons_zero, List.set_cons_succ]
              refine wpAnyH_take (i := 15) (oi := ?ois15) (v := ?vs15) ?his15 ?hss15 ?hfs15 ?hrs15 ?hQs15 ?hys15 ?hSs15 ?hs15
              case his15 => (simp only [List.getElem?_toArray, List.getElem?_cons_succ, List.getElem?_cons_zero]; rfl)
              case hss15 => kernel_rfl
              case hfs15 => kernel_rfl
              case hrs15 => kernel_rfl
              case hSs15 => first | assumption | trivial
              case hys15 => refine Or.inl ⟨by kernel_rfl, ?_⟩; (intro w hSw; (try dsimp only at hSw); go_simp; try with_reducible rfl)
              case hQs15 => exact fun _ _ _ h => h
              try simp only [Act.put, List.setIfInBounds_toArray, List.set_cons_zero, List.set_cons_succ]
              refine wpAnyH_take (i := 16) (oi := ?ois16) (v := ?vs16) ?his16 ?hss16 ?hfs16 ?hrs16 ?hQs16 ?hys16 ?hSs16 ?hs16
              case his16 => (simp only [List.getElem?_toArray, List.getElem?_cons_succ, List.getElem?_cons_zero]; rfl)
              case hss16 => kernel_rfl
              case hfs16 => kernel_rfl
              case hrs16 => kernel_rfl
              case hSs16 => first | assumption | trivial
              case hys16 => refine Or.inl ⟨by kernel_rfl, ?_⟩; (intro w hSw; (try dsimp only at hSw); go_simp; first | with_reducible rfl | rw [if_pos (by omega)])
              case hQs16 => exact fun _ _ _ h => h
              try simp only [Act.put, List.setIfInBounds_toArray, List.set_cons_zero, List.set_cons_succ]
              refine wpAnyH_take (i := 17) (oi := ?ois17) (v := ?vs17) ?his17 ?hss17 ?hfs17 ?hrs17 ?hQs17 ?hys17 ?hSs17 ?hs17
              case his17 => (simp only [List.getElem?_toArray, List.getElem?_cons_succ, List.getElem?_cons_zero]; rfl)
              case hss17 => kernel_rfl
              case hfs17 => kernel_rfl
              case hrs17 => kernel_rfl
              case hSs17 => first | assumption | trivial
              case hys17 => refine Or.inl ⟨by kernel_rfl, ?_⟩; (intro w hSw; (try dsimp only at hSw); go_simp; try with_reducible rfl)
              case hQs17 => exact fun _ _ _ h => h
              try simp only [Act.put, List.setIfInBounds_toArray, List.set_cons_zero, List.set_cons_succ]
              refine wpAnyH_take (i := 18) (oi := ?ois18) (v := ?vs18) ?his18 ?hss18 ?hfs18 ?hrs18 ?hQs18 ?hys18 ?hSs18 ?hs18
              case his18 => (simp only [List.getElem?_toArray, List.getElem?_cons_succ, List.getElem?_cons_zero]; rfl)
              case hss18 => kernel_rfl
              case hfs18 => kernel_rfl
              case hrs18 => kernel_rfl
              case hSs18 => first | assumption | trivial
              case hys18 => refine Or.inl ⟨by kernel_rfl, ?_⟩; (intro w hSw; (try dsimp only at hSw); go_simp; try with_reducible rfl)
              case hQs18 => exact fun _ _ _ h => h
              try simp only [Act.put, List.setIfInBounds_toArray, List.set_cons_zero, List.set_cons_succ]
              refine wpAnyH_take (i := 19) (oi := ?ois19) (v := ?vs19) ?his19 ?hss19 ?hfs19 ?hrs19 ?hQs19 ?hys19 ?hSs19 ?hs19
              case his19 => (simp only [List.getElem?_toArray, List.getElem?_cons_succ, List.getElem?_cons_zero]; rfl)
              case hss19 => kernel_rfl
              case hfs19 => kernel_rfl
              case hrs19 => kernel_rfl
              case hSs19 => first | assumption | trivial
              case hys19 => refine Or.inl ⟨by kernel_rfl, ?_⟩; (intro w hSw; (try dsimp only at hSw); go_simp; try with_reducible rfl)
              case hQs19 => exact fun _ _ _ h => h
              try simp only [Act.put, List.setIfInBounds_toArray, List.set_cons_zero, List.set_cons_succ]
              refine wpAnyH_done (by kernel_rfl) ?_ _
              go_wp2_with fail
              refine ⟨⟨p + 1, s3, F2, by go_num, by omega, Lib.hid HRN.out.1, Lib.hid HRN.out.2, Lib.hid ((HL2.out.below (Below.refl _ _).drew).sub _ (by simp))⟩, ?_⟩
              simp [intOf]
              omega
            · have r1 : ¬ (p : Int) < (la.length : Int) := by omega
              have HFIN := Lib.hid (HL.out.old HOLD.out HMB.out)
              go_wp2_with fail
              go_ret
              exact ⟨rfl, HFIN.out⟩
theorem order_int (a : Option Addr) (len cap : Nat) (zs : List ActD) (x : Int) (w : World) (h : DSl w a len cap zs) (hx : 0 ≤ x ∧ x ≤ 255) :
    Calls Tryd.prog 7 #[.slice a len cap, .int .u8 x] w fun e w' => e = .returned (.bool true) ∧ Below w.heap.size w w' := by
  obtain ⟨x, rfl⟩ : ∃ m : Nat, x = m := ⟨x.toNat, by omega⟩
  exact order_any a len cap zs x w h (by omega)
end Go.Proofs.YtbhofablndjeoaaDoor
