/- The walks of dir.read, Get, Set, Drop. -/
import Derived.Test.YtbhofablndjeoaaDoorDrA
import Derived.Test.YtbhofablndjeoaaDoorTrV
namespace Go.Proofs.YtbhofablndjeoaaDoor
open Go.RowKit
set_option linter.unusedSimpArgs false
set_option linter.unusedVariables false
attribute [local go_sem ↓] wp_loadPt wp_storePt wp_loadNd wp_storeNd wp_bldNd
def RdE (r : Except Nat (NodeT × Bool)) : Prop := ∀ n, r = .error n → n ≠ 0
theorem readNd_root {s : Bs} (hs : s.length = 128) {r : NodeT × Bool} (h : readNd s = .ok r) : r.1.wf := by
  have hz := readNd_wf hs h
  refine ⟨by unfold I64'; unfold maxC at hz; omega, ?_⟩
  unfold readNd at h
  split at h
  · injection h with h; rw [← h]; exact pD_wf
  · split at h
    · split at h
      · split at h
        · injection h with h; rw [← h]; exact ptrOf_wf _ (sub_length s 16 64 (by omega))
        · cases h
      · cases h
    · cases h
theorem readNd_err {s : Bs} {n : Nat} (h : readNd s = .error n) : n = 3 := by
  unfold readNd at h
  split at h
  · cases h
  · split at h
    · split at h
      · split at h
        · cases h
        · injection h with h; exact h.symm
      · injection h with h; exact h.symm
    · injection h with h; exact h.symm
section
variable {σ : Type} {S : StF σ}
theorem readTo_len {n : NodeT} {off till : Nat} : ∀ {f i : Nat} {out t : Bs} {st s' : σ}, readTo S n off till f i out st = (.ok t, s') → t.length ≤ out.length + (till - max off (i * 256))
  | 0, i, out, t, st, s', h => by
    injection h with h _
    injection h with h
    rw [← h]; omega
  | f + 1, i, out, t, st, s', h => by
    unfold readTo at h
    split at h
    · rename_i hlt
      rcases M.bind_cases h with ⟨x, s1, h1, h2⟩ | ⟨e, s1, h1, h2⟩
      · have := readTo_len h2
        have hp : (piece x off till i).length ≤ min (till - i * 256) 256 - (off - i * 256) := by
          unfold piece; rw [List.length_drop, List.length_take]; omega
        rw [List.length_append] at this
        omega
      · injection h2 with h2 _; cases h2
    · injection h with h _
      injection h with h
      rw [← h]; omega
theorem readM_len {n : NodeT} {off : Nat} {size : Nat} {t : Bs} {st s' : σ} (h : readM S n off size st = (.ok t, s')) : t.length ≤ size := by
  unfold readM at h
  split at h
  · injection h with h _; cases h
  · split at h
    · injection h with h _
      injection h with h
      rw [← h]; simp
    · have := readTo_len h
      simp only [List.length_nil] at this
      omega
end
theorem may_any (id : Int) (w : World) : Calls Tryd.prog 40 #[.int .i64 id] w fun e w' => e = .returned (.bool (decide (idOk id))) ∧ w' = w := by
  by_cases h0 : id < 0
  · have e : decide (idOk id) = false := decide_eq_false (fun h => by have := h.1; omega)
    have h1 : ¬ 0 ≤ id := by omega
    rw [e]
    go_enter Tryd.func40, Tryd.ntmps40
    go_wp2_with fail
    go_ret
    exact ⟨by simp [h1], rfl⟩
  · have h1 : 0 ≤ id := by omega
    by_cases h2 : id < 32
    · have e : decide (idOk id) = true := decide_eq_true ⟨h1, h2⟩
      rw [e]
      go_enter Tryd.func40, Tryd.ntmps40
      go_wp2_with fail
      go_ret
      exact ⟨by simp [h1, h2], rfl⟩
    · have e : decide (idOk id) = false := decide_eq_false (fun h => h2 h.2)
      rw [e]
      go_enter Tryd.func40, Tryd.ntmps40
      go_wp2_with fail
      go_ret
      exact ⟨by simp [h1, h2], rfl⟩
section
variable {σ : Type} {S : StF σ} {ty : TypeId} {a : Addr} {C : StoreC S ty a}
set_option maxHeartbeats 2000000 in
set_option maxRecDepth 100000 in
theorem dread_any {w : World} {st : σ} {F : Nat → Prop} (h : C.Is w st F) (d : NodeT) (hd : d.wf) (id : Nat) (hid : id ≤ 1000) (hok : C.Ok (dreadM S d id st).2) :
    Calls Tryd.prog 42 #[.iface ty (.pointer (some a)), .agg (encN d).toArray, .int .i64 id] w fun e w' => RdR (dreadM S d id st).1 e ∧ RdE (dreadM S d id st).1 ∧ C.Step F (dreadM S d id st).2 w w' := by
  obtain ⟨w0, hw0⟩ : ∃ w0, w0 = (w.alloc (.cells (encN d).toArray 37)).alloc (.cells (encN nD).toArray 37) := ⟨_, rfl⟩
  have HB0 : Hid (Blk w0 w.heap.size 37 (encN d)) := by rw [hw0]; exact Lib.hid ((Blk.new w _ _).alloc _)
  have HR0 : Hid (Blk w0 (w.heap.size + 1) 37 (encN nD)) := by rw [hw0]; exact Lib.hid (Blk.newAt (w := w.alloc _) _ _ (by simp))
  have hbel : Below w.heap.size w w0 := by rw [hw0]; exact ((Below.refl _ _).alloc (Nat.le_refl _) _).alloc (by simp) _
  have h0 : ¬ F w.heap.size := fun hf => by have := C.lt h _ hf; omega
  have h1 : ¬ F (w.heap.size + 1) := fun hf => by have := C.lt h _ hf; omega
  have HAT : Hid (C.At F st w w0 F) := Lib.hid ((StoreC.At.start h).below hbel)
  clear hbel
  have hld := fun op a next Q => loadW_blk (P := Tryd.prog) HB0.out Tryd.underlying37 rfl iszNd op a next Q
  have HM : Hid (IntKind.i64.wrap ((id : Int) * 128) = ((id * 128 : Nat) : Int)) := Lib.hid (by rw [IntWalk.i64_in _ (by omega)]; omega)
  rcases hr : readM S d ((id * 128 : Nat) : Int) 128 st with ⟨r | t, s1⟩
  · have e : dreadM S d id st = (.error r, s1) := M.bind_err hr
    rw [e] at hok ⊢
    have HRD := Lib.hid (Read_any (C := C) HAT.out.1 d hd ((id * 128 : Nat) : Int) 128 (by unfold I64'; omega) (by unfold I64'; omega) (by rw [hr]; exact hok))
    rw [hr] at HRD
    clear e hok hr
    go_enter Tryd.func42, Tryd.ntmps42
    go_upto_region 1 with fail
    rw [show (w.alloc (.cells (encN d).toArray 37)).alloc (.cells #[.int .i64 0, .int .i64 0, .int .i64 0, .int .i64 0, .int .i64 0, .bool false, .int .i64 0, .int .i64 0, .int .i64 0, .int .u64 0, .int .u64 0, .int .u64 0, .int .u64 0] 37) = w0 from hw0.symm]
    clear hw0
    go_wp2_with fail
    try rw [HM.out]
    refine HRD.out.mono ?_
    rintro e w1 ⟨⟨rfl, hr0⟩, hstep⟩
    have hr1 : ((r : Int) != 0) = true := by simpa using hr0
    obtain ⟨F2, hat, hfr, hm⟩ := HAT.out.step hstep
    have hrb := hm.blk HR0.out h1
    have hst := fun op a next Q => storeZNd hrb rfl op a next Q
    have HRB := Lib.hid hrb
    have HA2 := Lib.hid (hat.put (o := 0) (vs := encN nD) (Nat.le_succ _) (hfr _ HR0.out.lt h1))
    clear hat hfr hm hstep hld hrb
    go_wp2_with fail
    refine bodyPost_ret (res_cell_tmp2 rfl _ _ (w.heap.size + 1) 37 _ _ rfl (HRB.out.put (vs := encN nD) rfl) Tryd.underlying37 rfl iszNd) rfl ?_
    exact ⟨rfl, fun n hn => by injection hn with hn; rw [← hn]; exact hr0, HA2.out.fin⟩
  · have htl : t.length ≤ 128 := readM_len (size := 128) hr
    have e : dreadM S d id st = (readNd (t ++ zeros (128 - t.length)), s1) := M.bind_ok hr
    rw [e] at hok ⊢
    have HRD := Lib.hid (Read_any (C := C) HAT.out.1 d hd ((id * 128 : Nat) : Int) 128 (by unfold I64'; omega) (by unfold I64'; omega) (by rw [hr]; exact hok))
    rw [hr] at HRD
    obtain ⟨k, hk⟩ : ∃ k, k = 128 - t.length := ⟨_, rfl⟩
    have hkk : (128 : Int) - (t.length : Int) = (k : Int) := by omega
    have HCAT : Hid ((⟨t.toArray⟩ : ByteArray) ++ ⟨(zeros k).toArray⟩ = ⟨(t ++ zeros k).toArray⟩) := Lib.hid (str_append _ _)
    have hlk : (zeros k).length = k := by simp [zeros]
    have HRN := Lib.hid (fun W => ReadNode_any (t ++ zeros k) (by simp [zeros]; omega) W)
    rw [← hk]
    have HKK : Hid (IntKind.i64.wrap ((128 : Int) - (t.length : Int)) = (k : Int)) := Lib.hid (by rw [IntWalk.i64_in _ (by omega)]; omega)
    have hk128 : k ≤ 128 := by omega
    clear e hok hr hk
    go_enter Tryd.func42, Tryd.ntmps42
    go_upto_region 1 with fail
    rw [show (w.alloc (.cells (encN d).toArray 37)).alloc (.cells #[.int .i64 0, .int .i64 0, .int .i64 0, .int .i64 0, .int .i64 0, .bool false, .int .i64 0, .int .i64 0, .int .i64 0, .int .u64 0, .int .u64 0, .int .u64 0, .int .u64 0] 37) = w0 from hw0.symm]
    clear hw0
    go_wp2_with fail
    try rw [HM.out]
    refine HRD.out.mono ?_
    rintro e w1 ⟨rfl, hstep⟩
    obtain ⟨F2, hat, hfr, hm⟩ := HAT.out.step hstep
    have HRB := Lib.hid (hm.blk HR0.out h1)
    have HA2 := Lib.hid hat
    have HFR := Lib.hid (hfr _ HR0.out.lt h1)
    clear hat hfr hm hstep hld
    go_wp2_with fail
    try rw [HKK.out]
    refine (repeat0_any k w1 (by omega)).mono ?_
    rintro e w2 ⟨rfl, hb2⟩
    have HRB2 := Lib.hid (HRB.out.below hb2)
    have HA3 := Lib.hid (HA2.out.below hb2)
    clear hb2
    have hkl : ((t.length : Int) + (k : Int)) ≤ 9223372036854775807 := by omega
    go_wp2_with fail
    rw [HCAT.out]
    refine (HRN.out w2).mono ?_
    rintro e w3 ⟨hrd, hb3⟩
    obtain ⟨R, hR⟩ : ∃ R, readNd (t ++ zeros k) = R := ⟨_, rfl⟩
    rw [hR] at hrd
    have HRR := Lib.hid hR
    unfold RdR at hrd
    subst hrd
    have hrb3 := HRB2.out.below hb3
    have hst := fun op a next Q => storeW_part (P := Tryd.prog) (t := 37) (o := 0) (cs := encN (ndB R).1) hrb3 (Nat.le_refl 13) iszNd (encN_ones _) op a next Q
    have HRB3 := Lib.hid hrb3
    have HA4 := Lib.hid ((HA3.out.below hb3).put (o := 0) (vs := encN (ndB R).1) (Nat.le_succ _) HFR.out)
    clear hb3 hR hrb3
    go_wp2_with fail
    refine bodyPost_ret (res_cell_tmp2 rfl _ _ (w.heap.size + 1) 37 _ _ rfl (HRB3.out.put (vs := encN (ndB R).1) rfl) Tryd.underlying37 rfl iszNd) rfl ?_
    exact ⟨by rw [HRR.out]; rfl, fun n hn => by have := readNd_err hn; omega, HA4.out.fin⟩
set_option maxHeartbeats 2000000 in
set_option maxRecDepth 100000 in
theorem dget_any {w : World} {st : σ} {F : Nat → Prop} (h : C.Is w st F) (d : NodeT) (hd : d.wf) (id : Int) (hok : C.Ok (dgetM S d id st).2) :
    Calls Tryd.prog 23 #[.iface ty (.pointer (some a)), .agg (encN d).toArray, .int .i64 id] w fun e w' => RdR (dgetM S d id st).1 e ∧ RdE (dgetM S d id st).1 ∧ C.Step F (dgetM S d id st).2 w w' := by
  obtain ⟨w0, hw0⟩ : ∃ w0, w0 = (w.alloc (.cells (encN d).toArray 37)).alloc (.cells (encN nD).toArray 37) := ⟨_, rfl⟩
  have HB0 : Hid (Blk w0 w.heap.size 37 (encN d)) := by rw [hw0]; exact Lib.hid ((Blk.new w _ _).alloc _)
  have HR0 : Hid (Blk w0 (w.heap.size + 1) 37 (encN nD)) := by rw [hw0]; exact Lib.hid (Blk.newAt (w := w.alloc _) _ _ (by simp))
  have hbel : Below w.heap.size w w0 := by rw [hw0]; exact ((Below.refl _ _).alloc (Nat.le_refl _) _).alloc (by simp) _
  have h0 : ¬ F w.heap.size := fun hf => by have := C.lt h _ hf; omega
  have h1 : ¬ F (w.heap.size + 1) := fun hf => by have := C.lt h _ hf; omega
  have HAT : Hid (C.At F st w w0 F) := Lib.hid ((StoreC.At.start h).below hbel)
  clear hbel
  have hld := fun op a next Q => loadW_blk (P := Tryd.prog) HB0.out Tryd.underlying37 rfl iszNd op a next Q
  by_cases hi : idOk id
  · have e : dgetM S d id = dreadM S d id.toNat := by unfold dgetM; rw [if_pos hi]
    rw [e] at hok ⊢
    obtain ⟨m, rfl⟩ : ∃ m : Nat, id = m := ⟨id.toNat, by have := hi.1; omega⟩
    have em : ((m : Int)).toNat = m := by omega
    rw [em] at hok ⊢
    have HRD := Lib.hid (dread_any (C := C) HAT.out.1 d hd m (by have := hi.2; omega) hok)
    have HMAY : Hid (∀ W, Calls Tryd.prog 40 #[.int .i64 (m : Int)] W fun e w' => e = .returned (.bool true) ∧ w' = W) := Lib.hid (fun W => by have := may_any (m : Int) W; rw [decide_eq_true hi] at this; exact this)
    obtain ⟨R, hR⟩ : ∃ R, dreadM S d m st = R := ⟨_, rfl⟩
    rw [hR] at HRD ⊢
    clear e hok hR em hi
    go_enter Tryd.func23, Tryd.ntmps23
    go_upto_region 1 with fail
    rw [show (w.alloc (.cells (encN d).toArray 37)).alloc (.cells #[.int .i64 0, .int .i64 0, .int .i64 0, .int .i64 0, .int .i64 0, .bool false, .int .i64 0, .int .i64 0, .int .i64 0, .int .u64 0, .int .u64 0, .int .u64 0, .int .u64 0] 37) = w0 from hw0.symm]
    clear hw0
    go_wp2_with fail
    refine (HMAY.out _).mono ?_
    rintro e w1 ⟨rfl, rfl⟩
    go_wp2_with fail
    refine HRD.out.mono ?_
    rintro e w2 ⟨hrd, hre, hstep⟩
    have HRE := Lib.hid hre
    unfold RdR at hrd
    subst hrd
    obtain ⟨F2, hat, hfr, hm⟩ := HAT.out.step hstep
    have hrb3 := hm.blk HR0.out h1
    have hst := fun op a next Q => storeW_part (P := Tryd.prog) (t := 37) (o := 0) (cs := encN (ndB R.1).1) hrb3 (Nat.le_refl 13) iszNd (encN_ones _) op a next Q
    have HRB3 := Lib.hid hrb3
    have HA4 := Lib.hid (hat.put (o := 0) (vs := encN (ndB R.1).1) (Nat.le_succ _) (hfr _ HR0.out.lt h1))
    clear hat hfr hm hstep hld hrb3
    go_wp2_with fail
    refine bodyPost_ret (res_cell_tmp2 rfl _ _ (w.heap.size + 1) 37 _ _ rfl (HRB3.out.put (vs := encN (ndB R.1).1) rfl) Tryd.underlying37 rfl iszNd) rfl ?_
    exact ⟨rfl, HRE.out, HA4.out.fin⟩
  · have e : dgetM S d id = M.err 1 := by unfold dgetM; rw [if_neg hi]
    rw [e]
    have HMAY : Hid (∀ W, Calls Tryd.prog 40 #[.int .i64 id] W fun e w' => e = .returned (.bool false) ∧ w' = W) := Lib.hid (fun W => by have := may_any id W; rw [decide_eq_false hi] at this; exact this)
    have hst := fun op a next Q => storeZNd HR0.out rfl op a next Q
    have HA2 := Lib.hid (HAT.out.put (o := 0) (vs := encN nD) (Nat.le_succ _) h1)
    clear e hok hi
    go_enter Tryd.func23, Tryd.ntmps23
    go_upto_region 1 with fail
    rw [show (w.alloc (.cells (encN d).toArray 37)).alloc (.cells #[.int .i64 0, .int .i64 0, .int .i64 0, .int .i64 0, .int .i64 0, .bool false, .int .i64 0, .int .i64 0, .int .i64 0, .int .u64 0, .int .u64 0, .int .u64 0, .int .u64 0] 37) = w0 from hw0.symm]
    clear hw0
    go_wp2_with fail
    refine (HMAY.out _).mono ?_
    rintro e w1 ⟨rfl, rfl⟩
    go_wp2_with fail
    refine bodyPost_ret (res_cell_tmp2 rfl _ _ (w.heap.size + 1) 37 _ _ rfl (HR0.out.put (vs := encN nD) rfl) Tryd.underlying37 rfl iszNd) rfl ?_
    exact ⟨rfl, fun n hn => by injection hn with hn; omega, HA2.out.fin⟩
end
end Go.Proofs.YtbhofablndjeoaaDoor
