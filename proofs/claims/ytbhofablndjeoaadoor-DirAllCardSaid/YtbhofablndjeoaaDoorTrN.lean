/- The walk of tree.Read. -/
import Derived.Test.YtbhofablndjeoaaDoorTrM
namespace Go.Proofs.YtbhofablndjeoaaDoor
open Go.RowKit
set_option linter.unusedSimpArgs false
set_option linter.unusedVariables false
attribute [local go_sem ↓] wp_loadPt wp_storePt wp_loadNd wp_storeNd

section
variable {σ : Type} {S : StF σ} {ty : TypeId} {a : Addr} {C : StoreC S ty a}
theorem bytes_lt {n : NodeT} {i : Nat} {s s1 : σ} {t : Bs} (h : bytesM S n i s = (.ok t, s1)) : i < 64 := by
  refine Classical.byContradiction fun hc => ?_
  have e : bytesM S n i s = (.error 1, s) := by
    unfold bytesM
    refine M.bind_err ?_
    unfold blockM
    rw [if_neg hc]
    rfl
  rw [e] at h
  simp at h
theorem StoreC.At.others {w wc wd : World} {s : σ} {F F1 : Nat → Prop} {b : Nat} (h : C.At F s w wc F1) (hb : Below b wc wd) (ho : Lib.OthersKept 5 (some b) wc wd) (h1 : w.heap.size ≤ b) (h2 : ¬ F1 b) : C.At F s w wd F1 := by
  refine ⟨C.keep h.1 hb.size (fun k hk => ?_), ⟨hb.os.trans h.2.1.os, hb.tape.trans h.2.1.tape, hb.output.trans h.2.1.output, Nat.le_trans h.size hb.size, fun k hk hn => (hb.block k (by omega)).trans (h.2.1.block k hk hn)⟩, h.2.2⟩
  have hlt := h.lt k hk
  rw [Array.getElem?_eq_getElem hlt]
  refine ho k _ (Array.getElem?_eq_getElem hlt) (fun e => by simp only [Option.some.injEq] at e; exact h2 (e ▸ hk)) (fun c fz e => ?_)
  exact (C.kinds h.1 k c 5 fz hk (by rw [Array.getElem?_eq_getElem hlt, e])).1 rfl
def ReadR : Except Nat Bs → Ending → Prop
  | .ok t, e => e = .returned (.tuple #[.string ⟨t.toArray⟩, .int .i64 0])
  | .error n, e => e = .returned (.tuple #[.string ⟨#[]⟩, .int .i64 (n : Nat)]) ∧ n ≠ 0
/-- where a walk of Read stands -/
structure ReadI (C : StoreC S ty a) (F : Nat → Prop) (w wr : World) (n : NodeT) (o till i0 i f : Nat) (out : Bs) (s1 : σ) (R : Except Nat Bs × σ) (F1 : Nat → Prop) : Prop where
  fuel : f + (i - i0) = 66
  ge : i0 ≤ i
  le : i = i0 ∨ i ≤ 64
  out_ : out.length ≤ 256 * (i - i0)
  eq : readTo S n o till f i out s1 = R
  at_ : C.At F s1 w wr F1
  bn : Blk wr w.heap.size 37 (encN n)
  bd : Bld wr (w.heap.size + 1) out
  f0 : ¬ F1 w.heap.size
  f1 : ¬ F1 (w.heap.size + 1)
set_option maxHeartbeats 2000000 in
set_option maxRecDepth 100000 in
theorem Read_any {w : World} {s : σ} {F : Nat → Prop} (h : C.Is w s F) (n : NodeT) (hn : n.wf) (off size : Int) (ho : I64' off) (hs : I64' size) (hok : C.Ok (readM S n off size s).2) :
    Calls Tryd.prog 16 #[.iface ty (.pointer (some a)), .agg (encN n).toArray, .int .i64 off, .int .i64 size] w fun e w' => ReadR (readM S n off size s).1 e ∧ C.Step F (readM S n off size s).2 w w' := by
  obtain ⟨w0, hw0⟩ : ∃ w0, w0 = w.alloc (.cells (encN n).toArray 37) := ⟨_, rfl⟩
  have hb : Blk w0 w.heap.size 37 (encN n) := by rw [hw0]; exact Blk.new w _ _
  have hbel : Below w.heap.size w w0 := by rw [hw0]; exact (Below.refl _ _).alloc (Nat.le_refl _) _
  have hsz0 : w0.heap.size = w.heap.size + 1 := by rw [hw0]; simp
  have h0 : ¬ F w.heap.size := fun hf => by have := C.lt h _ hf; omega
  have h1 : ¬ F (w.heap.size + 1) := fun hf => by have := C.lt h _ hf; omega
  have HAT : Hid (C.At F s w w0 F) := Lib.hid ((StoreC.At.start h).below hbel)
  have hc0 : w0.cell? ⟨w.heap.size, 0, none⟩ = some (.int .i64 n.size) := hb.cell 0
  have HB := Lib.hid hb
  have hns := hn.size
  unfold I64' at ho hs hns
  obtain ⟨ho1, ho2⟩ := ho
  obtain ⟨hs1, hs2⟩ := hs
  obtain ⟨hn1, hn2⟩ := hns
  clear hb hbel
  by_cases hneg : off < 0 ∨ size < 0
  · have e : readM S n off size = M.err 1 := by unfold readM; rw [if_pos hneg]
    rw [e]
    clear e hok
    by_cases hx : off < 0
    · go_enter Tryd.func16, Tryd.ntmps16
      go_upto_region 1 with fail
      rw [← hw0]
      clear hw0
      go_wp2_with fail
      go_ret2
      exact ⟨⟨rfl, by decide⟩, HAT.out.fin⟩
    · have hx2 : size < 0 := by omega
      go_enter Tryd.func16, Tryd.ntmps16
      go_upto_region 1 with fail
      rw [← hw0]
      clear hw0
      go_wp2_with fail
      go_ret2
      exact ⟨⟨rfl, by decide⟩, HAT.out.fin⟩
  · have p1 : ¬ off < 0 := by omega
    have p2 : ¬ size < 0 := by omega
    by_cases hbig : n.size ≤ off
    · have e : readM S n off size = M.ret [] := by unfold readM; rw [if_neg hneg, if_pos hbig]
      rw [e]
      clear e hok hneg
      go_enter Tryd.func16, Tryd.ntmps16
      go_upto_region 1 with fail
      rw [← hw0]
      clear hw0
      go_wp2_with fail
      go_ret2
      exact ⟨rfl, HAT.out.fin⟩
    · have e : readM S n off size = readTo S n off.toNat (off + min size (n.size - off)).toNat 66 (off.toNat / 256) [] := by unfold readM; rw [if_neg hneg, if_neg hbig]
      rw [e] at hok ⊢
      obtain ⟨o, rfl⟩ : ∃ o : Nat, off = o := ⟨off.toNat, by omega⟩
      obtain ⟨till, htill⟩ : ∃ t : Nat, (t : Int) = (o : Int) + min size (n.size - o) := ⟨((o : Int) + min size (n.size - o)).toNat, by omega⟩
      have htl : (till : Int) ≤ n.size := by omega
      rw [← htill, Int.toNat_natCast, Int.toNat_natCast] at hok ⊢
      obtain ⟨R, hR⟩ : ∃ R, readTo S n o till 66 (o / 256) [] s = R := ⟨_, rfl⟩
      rw [hR] at hok ⊢
      have HOK := Lib.hid hok
      have HRE := Lib.hid hR
      have HTI := Lib.hid htill
      have hbd := Bld.new w0
      rw [hsz0] at hbd
      have HI : Hid (∀ wz, wz = w0.alloc (.cells #[.pointer none, .slice none 0 0] 92) → ReadI C F w wz n o till (o / 256) (o / 256) 66 [] s R F) := Lib.hid (fun wz hz => by
        rw [hz]
        exact ⟨by omega, Nat.le_refl _, .inl rfl, by simp, hR, HAT.out.below ((Below.refl _ _).alloc (Nat.le_refl _) _), HB.out.alloc _, hbd, h0, h1⟩)
      clear e hok hneg hR htill hbd
      have hbig2 : (o : Int) < n.size := by omega
      go_enter Tryd.func16, Tryd.ntmps16
      go_upto_region 1 with fail
      rw [← hw0]
      clear hw0
      go_upto_region 6 with fail
      rw [← HTI.out]
      go_upto_region 7 with fail
      obtain ⟨wz, hwz⟩ : ∃ wz, wz = w0.alloc (.cells #[.pointer none, .slice none 0 0] 92) := ⟨_, rfl⟩
      rw [← hwz]
      have HI2 := Lib.hid (HI.out wz hwz)
      clear hwz HI
      go_wp2_with fail
      go_loopw [12] (fun iv wr => ∃ (i f : Nat) (out : Bs) (s1 : σ) (F1 : Nat → Prop), iv = .int .i64 (i : Nat) ∧ (i = o / 256 ∨ i ≤ 64) ∧ Hid (ReadI C F w wr n o till (o / 256) i f out s1 R F1)) (fun iv _ => o / 256 + 70 - (intOf iv).toNat)
      case atStart => exact ⟨o / 256, 66, [], s, F, by go_num, .inl rfl, HI2⟩
      case round =>
        clear HI2
        obtain ⟨i, f, out, s1, F1, rfl, hi64, HI⟩ := hrel
        have hib : i ≤ 36028797018963968 := by omega
        by_cases hlt : i * 256 < till
        · have hx : (i : Int) * 256 < (till : Int) := by omega
          have hff := HI.out.fuel
          have hge := HI.out.ge
          obtain ⟨f', rfl⟩ : ∃ f', f = f' + 1 := ⟨f - 1, by omega⟩
          have hRe := HI.out.eq
          rw [readTo, if_pos hlt] at hRe
          have hokb : C.Ok (bytesM S n i s1).2 := back_first (fun t => back_readTo C.bg n o till f' _ _) (by rw [hRe]; exact HOK.out)
          have hld := fun op a next Q => loadW_blk (P := Tryd.prog) HI.out.bn Tryd.underlying37 rfl iszNd op a next Q
          have HBY := Lib.hid (bytes_any HI.out.at_.1 n hn i (by omega) hokb)
          have HRE2 := Lib.hid hRe
          clear hRe hokb
          rcases hby : bytesM S n i s1 with ⟨r | t, s2⟩
          · have hRe := HRE2.out
            rw [M.bind_err hby] at hRe
            rw [hby] at HBY
            have HRE3 := Lib.hid hRe
            clear hRe hby
            go_wp2_with fail
            refine HBY.out.mono ?_
            rintro e w2 ⟨⟨rfl, hr0⟩, hstep⟩
            have hr1 : ((r : Int) != 0) = true := by simpa using hr0
            obtain ⟨F2, hat, hfr, hm⟩ := HI.out.at_.step hstep
            have HA2 := Lib.hid hat
            clear hat hfr hm hstep hld
            go_wp2_with fail
            go_ret2
            rw [← HRE3.out]
            exact ⟨⟨rfl, hr0⟩, HA2.out.fin⟩
          · have hi2 := bytes_lt hby
            have hRe := HRE2.out
            rw [M.bind_ok hby] at hRe
            rw [hby] at HBY
            have HRE3 := Lib.hid hRe
            clear hRe hby
            go_wp2_with fail
            refine HBY.out.mono ?_
            rintro e w2 ⟨⟨rfl, ht256⟩, hstep⟩
            obtain ⟨F2, hat, hfr, hm⟩ := HI.out.at_.step hstep
            have hbn := hm.blk HI.out.bn HI.out.f0
            have hbd : Bld w2 (w.heap.size + 1) out := HI.out.bd.kept (fun k cs e fr hk he => hm.block k (Array.getElem?_eq_some_iff.1 hk).1 (fun hf => by
              have := C.kinds HI.out.at_.1 k cs e fr hf hk
              rcases he with rfl | rfl
              · exact this.1 rfl
              · exact this.2 rfl))
            have hf0 := hfr _ HI.out.bn.lt HI.out.f0
            have hf1 := hfr _ HI.out.bd.lt HI.out.f1
            have HA2 := Lib.hid hat
            have HT := Lib.hid ht256
            have hot : (o : Int) ≤ till := by have := HTI.out; omega
            obtain ⟨A, hA⟩ : ∃ A, A = o - i * 256 := ⟨_, rfl⟩
            obtain ⟨B, hB⟩ : ∃ B, B = min (till - i * 256) 256 := ⟨_, rfl⟩
            have e1 : max ((o : Int) - (i : Int) * 256) 0 = (A : Int) := by omega
            have e2 : min ((till : Int) - (i : Int) * 256) 256 = (B : Int) := by omega
            have q1 : (A : Int) ≤ (B : Int) := by omega
            have q2 : (B : Int) ≤ (t.length : Int) := by omega
            have hpc : piece t o till i = (t.take B).drop A := by unfold piece; rw [← hA, ← hB]
            have hpl : (piece t o till i).length ≤ 256 := by rw [hpc]; simp; omega
            have HPC := Lib.hid hpc
            have HPL := Lib.hid hpl
            have hsum : out.length + (piece t o till i).length ≤ 100000000 := by have := HI.out.out_; omega
            have HW := Lib.hid (bld_Write (w.heap.size + 1) out (piece t o till i) w2 hbd hsum)
            clear hat hfr hm hstep hld ht256 hA hB hpc hpl hsum hot
            go_wp2_with fail
            rw [str_extract, ← HPC.out]
            refine HW.out.mono ?_
            rintro e w3 ⟨rfl, hbd3, hb3, hok3⟩
            have hbn3 : Blk w3 w.heap.size 37 (encN n) := by
              unfold Blk
              rw [hb3.block _ (by omega)]
              exact hbn
            have hat3 : C.At F s2 w w3 F2 := HA2.out.others hb3 hok3 (by omega) hf1
            go_wp2_with fail
            go_roundw
            case rel =>
              refine ⟨i + 1, f', _, s2, F2, by go_num, .inr (by omega), Lib.hid ⟨by omega, by omega, .inr (by omega), ?_, HRE3.out, hat3, hbn3, hbd3, hf0, hf1⟩⟩
              have := HI.out.out_
              have := HPL.out
              rw [List.length_append]
              omega
            case measure => simp [intOf]; omega
        · have hx : ¬ (i : Int) * 256 < (till : Int) := by omega
          have hff := HI.out.fuel
          have hge := HI.out.ge
          obtain ⟨f', rfl⟩ : ∃ f', f = f' + 1 := ⟨f - 1, by omega⟩
          have hRe := HI.out.eq
          rw [readTo, if_neg hlt] at hRe
          have HRE2 : Hid ((.ok out, s1) = R) := Lib.hid hRe
          have HS := Lib.hid (bld_String (w.heap.size + 1) out wr HI.out.bd)
          clear hRe
          go_wp2_with fail
          refine HS.out.mono ?_
          rintro e w3 ⟨rfl, hb3, hok3⟩
          have hfin : C.Step F s1 w w3 := (HI.out.at_.others hb3 hok3 (by omega) HI.out.f1).fin
          go_wp2_with fail
          go_ret2
          rw [← HRE2.out]
          exact ⟨rfl, hfin⟩
end
end Go.Proofs.YtbhofablndjeoaaDoor
