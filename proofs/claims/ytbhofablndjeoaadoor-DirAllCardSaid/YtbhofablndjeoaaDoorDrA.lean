/- Nodes' bytes: written and read. -/
import Derived.Test.YtbhofablndjeoaaDoorTrA
import Derived.Test.YtbhofablndjeoaaDoorTrU
import Derived.Test.YtbhofablndjeoaaDoorDu
namespace Go.Proofs.YtbhofablndjeoaaDoor
open Go.RowKit
set_option linter.unusedSimpArgs false
set_option linter.unusedVariables false
attribute [local go_sem ↓] wp_loadPt wp_storePt wp_loadNd wp_storeNd wp_bldNd
set_option maxRecDepth 100000 in
theorem le_Int_any (x : Int) (w : World) (hx : I64' x) : Calls Tryd.prog 53 #[.int .i64 x] w fun e w' => e = .returned (.string ⟨(intBs x).toArray⟩) ∧ Below w.heap.size w w' := by
  by_cases h0 : x < 0
  · have e : intBs x = [] := by unfold intBs; rw [if_pos (.inl h0)]
    rw [e]
    clear e
    go_enter Tryd.func53, Tryd.ntmps53
    go_wp2_with fail
    go_ret
    exact ⟨rfl, Below.refl _ _⟩
  · by_cases h1 : 4611686018427387903 < x
    · have e : intBs x = [] := by unfold intBs; rw [if_pos (.inr h1)]
      rw [e]
      clear e
      go_enter Tryd.func53, Tryd.ntmps53
      go_wp2_with fail
      go_ret
      exact ⟨rfl, Below.refl _ _⟩
    · have e : intBs x = leB 8 x.toNat := by unfold intBs; rw [if_neg (fun h => h.elim h0 h1)]
      rw [e]
      obtain ⟨m, rfl⟩ : ∃ m : Nat, x = m := ⟨x.toNat, by omega⟩
      have em : ((m : Int)).toNat = m := by omega
      have HW : Hid (IntKind.u64.wrap (m : Int) = (m : Int)) := Lib.hid (IntWalk.u64_in _ (by omega))
      rw [em]
      clear e em
      go_enter Tryd.func53, Tryd.ntmps53
      go_wp2_with fail
      try rw [HW.out]
      refine (le_U64_any m _ (by omega)).mono ?_
      rintro e w1 ⟨rfl, hb⟩
      go_wp2_with fail
      go_ret
      exact ⟨rfl, hb⟩
set_option maxRecDepth 100000 in
theorem rd_Int_any (b : Nat) (s : Bs) (k : Nat) (w : World) (h : RdAt w b s k) (hs : s.length ≤ 1000000) (hn : k + 8 ≤ s.length) :
    Calls Tryd.prog 78 #[.pointer (some ⟨b, 0, none⟩)] w fun e w' =>
      e = .returned (.tuple #[.int .i64 (if rdN s k ≤ maxC then rdN s k else 0 : Nat), .int .i64 (if rdN s k ≤ maxC then 0 else 3 : Nat)]) ∧ RdAt w' b s (if rdN s k ≤ maxC then k + 8 else k) ∧ Mod (fun x => x = b) w w' := by
  have hl := num8 s k hn
  have H := Lib.hid h
  clear h
  by_cases hx : rdN s k ≤ maxC
  · have h1 : ¬ (4611686018427387903 : Int) < (leN (sub s k 8) : Nat) := by unfold rdN maxC at hx; omega
    have h2 : (leN (sub s k 8) : Int) ≤ 4611686018427387903 := by omega
    rw [if_pos hx, if_pos hx, if_pos hx]
    clear hx
    go_enter Tryd.func78, Tryd.ntmps78
    go_wp2_with fail
    refine (number_any b s k 8 w H.out (by omega) (by omega) (by omega)).mono ?_
    rintro e w1 ⟨rfl, hr, m, hw⟩
    have hg : Mod (fun x => x = b) w w1 := by rw [hw]; exact mod_of_set _ _ _ _
    clear hw
    go_wp2_with fail
    go_ret2
    exact ⟨rfl, hr, hg⟩
  · have h1 : (4611686018427387903 : Int) < (leN (sub s k 8) : Nat) := by unfold rdN maxC at hx; omega
    rw [if_neg hx, if_neg hx, if_neg hx]
    clear hx
    go_enter Tryd.func78, Tryd.ntmps78
    go_wp2_with fail
    refine (number_any b s k 8 w H.out (by omega) (by omega) (by omega)).mono ?_
    rintro e w1 ⟨rfl, hr, m, hw⟩
    have hg : Mod (fun x => x = b) w w1 := by rw [hw]; exact mod_of_set _ _ _ _
    have c1 : w1.cell? ⟨b, 1, none⟩ = some (.int .i64 ((k + 8 : Nat) : Int)) := Blk.cell hr 1
    have z1 : w1.frozen? ⟨b, 1, none⟩ = false := Blk.frozen hr 1
    have hr2 : RdAt (w1.setCell ⟨b, 1, none⟩ (.int .i64 (k : Nat))) b s k := by
      have := Blk.setCell hr 1 (.int .i64 (k : Nat))
      exact this
    have hg2 : Mod (fun x => x = b) w (w1.setCell ⟨b, 1, none⟩ (.int .i64 (k : Nat))) := hg.setCell (.inl rfl)
    have HW : Hid (IntKind.i64.wrap (((k + 8 : Nat) : Int) - 8) = (k : Int)) := Lib.hid (by rw [IntWalk.i64_in _ (by omega)]; omega)
    have e8 : ((k + 8 : Nat) : Int) - 8 = (k : Int) := by omega
    have HR2 := Lib.hid hr2
    have HG2 := Lib.hid hg2
    clear hw hr hg hr2 hg2
    go_wp2_with fail
    go_ret2
    first
      | exact ⟨rfl, HR2.out, HG2.out⟩
      | (have e9 : (k : Int) + 8 - 8 = (k : Int) := by omega
         rw [e9]; exact ⟨rfl, HR2.out, HG2.out⟩)
set_option maxRecDepth 100000 in
theorem rd_Take_any (b : Nat) (s : Bs) (k n : Nat) (w : World) (h : RdAt w b s k) (hs : s.length ≤ 1000000) (hn : k + n ≤ s.length) :
    Calls Tryd.prog 79 #[.pointer (some ⟨b, 0, none⟩), .int .i64 n] w fun e w' => e = .returned (.tuple #[.string ⟨(sub s k n).toArray⟩, .int .i64 0]) ∧ RdAt w' b s (k + n) ∧ Mod (fun x => x = b) w w' := by
  have H := Lib.hid h
  have c1 : w.cell? ⟨b, 1, none⟩ = some (.int .i64 k) := Blk.cell h 1
  have z1 : w.frozen? ⟨b, 1, none⟩ = false := Blk.frozen h 1
  have h1 : ¬ (s.length : Int) - k < n := by omega
  have h2 : ¬ (n : Int) < 0 := by omega
  have hr2 : RdAt (w.setCell ⟨b, 1, none⟩ (.int .i64 ((k : Int) + n))) b s (k + n) := by
    have := Blk.setCell h 1 (.int .i64 ((k : Int) + n))
    rw [show ((k : Int) + n) = ((k + n : Nat) : Int) by omega] at this ⊢
    exact this
  have HR2 := Lib.hid hr2
  clear h hr2
  go_enter Tryd.func79, Tryd.ntmps79
  go_wp2_with fail
  refine (le_Left_any b s k w H.out (by omega) (by omega)).mono ?_
  rintro e w1 ⟨rfl, nd, rfl⟩
  go_upto_region 6 with fail
  obtain ⟨W, hW⟩ : ∃ W, W = (w.drewN nd).setCell ⟨b, 1, none⟩ (.int .i64 ((k : Int) + n)) := ⟨_, rfl⟩
  rw [← hW]
  have hrW : RdAt W b s (k + n) := by rw [hW]; exact HR2.out.drewN
  have hmW : Mod (fun x => x = b) w W := by rw [hW]; exact ((Mod.refl _ w).drewN nd).setCell (.inl rfl)
  have d0 : ∀ m, (W.drewN m).cell? ⟨b, 0, none⟩ = some (.string ⟨s.toArray⟩) := fun m => Blk.cell (hrW.drewN (n := m)) 0
  have d1 : ∀ m, (W.drewN m).cell? ⟨b, 1, none⟩ = some (.int .i64 ((k : Int) + n)) := fun m => by
    have := Blk.cell (hrW.drewN (n := m)) 1
    rw [show ((k : Int) + n) = ((k + n : Nat) : Int) by omega]
    exact this
  have e1 : IntKind.i64.wrap ((k : Int) + (n : Int) - (n : Int)) = (k : Int) := by rw [IntWalk.i64_in _ (by omega)]; omega
  have e1' : (k : Int) + (n : Int) - (n : Int) = (k : Int) := by omega
  have e2 : 0 ≤ (k : Int) := by omega
  have e3 : (k : Int) ≤ (k : Int) + (n : Int) := by omega
  have e4 : (k : Int) + (n : Int) ≤ (s.length : Int) := by omega
  have e5 : ((k : Int) + (n : Int)).toNat = k + n := by omega
  have HRW := Lib.hid hrW
  have HMW := Lib.hid hmW
  have HSUB : Hid ((⟨s.toArray⟩ : ByteArray).extract k (k + n) = ⟨(sub s k n).toArray⟩) := Lib.hid (by
    rw [str_extract]
    unfold sub
    congr 2
    rw [List.drop_take]
    congr 1
    omega)
  clear hW hrW hmW
  go_quiet (fail)
  go_wp2_with fail
  go_ret2
  exact ⟨by rw [HSUB.out]; rfl, HRW.out.drewN, HMW.out.drewN _⟩
def bsV (r : Except Nat Bs) : Bs := match r with | .ok s => s | .error _ => []
set_option maxHeartbeats 1000000 in
set_option maxRecDepth 100000 in
theorem node_Bytes_any (n : NodeT) (hn : n.wf) (w : World) :
    Calls Tryd.prog 41 #[.agg (encN n).toArray] w fun e w' => e = .returned (.tuple #[.string ⟨(bsV (nodeBs n)).toArray⟩, .int .i64 (errV (nodeBs n) : Nat)]) ∧ Below w.heap.size w w' := by
  obtain ⟨w0, hw0⟩ : ∃ w0, w0 = w.alloc (.cells (encN n).toArray 37) := ⟨_, rfl⟩
  have hb : Blk w0 w.heap.size 37 (encN n) := by rw [hw0]; exact Blk.new w _ _
  have HBEL : Hid (Below w.heap.size w w0) := by rw [hw0]; exact Lib.hid ((Below.refl _ _).alloc (Nat.le_refl _) _)
  have HB := Lib.hid hb
  have c0 : w0.cell? ⟨w.heap.size, 0, none⟩ = some (.int .i64 n.size) := hb.cell 0
  have hsz := hn.size
  have HSZ := Lib.hid hsz
  have HRW := Lib.hid hn.root
  by_cases hbad : n.size < 0 ∨ (maxC : Int) < n.size
  · have e : nodeBs n = .error 1 := by unfold nodeBs; rw [if_pos hbad]
    have ei : intBs n.size = [] := by unfold intBs; rw [if_pos hbad]
    rw [e]
    have HEI := Lib.hid ei
    clear e ei hbad hb hsz hn
    go_enter Tryd.func41, Tryd.ntmps41
    go_upto_region 1 with fail
    rw [show w.alloc (.cells (encN n).toArray 37) = w0 from hw0.symm]
    clear hw0
    go_wp2_with fail
    refine (le_Int_any n.size w0 HSZ.out).mono ?_
    rintro e w1 ⟨rfl, hb1⟩
    rw [HEI.out]
    have hfin := HBEL.out.trans (hb1.mono HBEL.out.size)
    go_wp2_with fail
    go_ret2
    exact ⟨rfl, hfin⟩
  · obtain ⟨m, hm⟩ : ∃ m : Nat, n.size = m := ⟨n.size.toNat, by omega⟩
    have ei : intBs n.size = leB 8 m := by unfold intBs; rw [if_neg hbad, hm]; rfl
    have HEI := Lib.hid ei
    have hx1 := fun op a next Q W (hW : Blk W w.heap.size 37 (encN n)) => loadW_mid (P := Tryd.prog) (t := 35) (range_root hW) Tryd.underlying35 rfl iszPt op a next Q
    by_cases hmay : ptrMay n.root = true
    · have e : nodeBs n = .ok (leB 8 m ++ leB 8 1 ++ ptrBytes n.root ++ zeros 48) := by
        unfold nodeBs; rw [if_neg hbad, if_pos hmay, hm]; rfl
      have ep : padTo (leB 8 m ++ leB 8 1 ++ ptrBytes n.root) 128 = leB 8 m ++ leB 8 1 ++ ptrBytes n.root ++ zeros 48 := by
        unfold padTo; simp [leB_len, ptrBytes_length]
      have hl80 : (leB 8 m ++ leB 8 1 ++ ptrBytes n.root).length = 80 := by simp [leB_len, ptrBytes_length]
      have e1 : intBs 1 = leB 8 1 := rfl
      rw [e]
      obtain ⟨H8, hH8⟩ : ∃ H8, H8 = leB 8 m := ⟨_, rfl⟩
      have hne : H8.isEmpty = false := by rw [hH8]; rfl
      have HNE := Lib.hid hne
      obtain ⟨P8, hP8⟩ : ∃ P8, P8 = ptrBytes n.root := ⟨_, rfl⟩
      rw [← hH8, ← hP8] at ep hl80 ⊢
      rw [← hH8] at HEI
      have HP8 := Lib.hid hP8
      have HMAY := Lib.hid hmay
      have HEP := Lib.hid ep
      have HL80 := Lib.hid hl80
      have HE1 := Lib.hid e1
      have l1 : H8.length = 8 := by rw [hH8]; rfl
      have l2 : (leB 8 1).length = 8 := rfl
      have l3 : P8.length = 64 := by rw [hP8]; exact ptrBytes_length _
      have HS1 : Hid ((⟨H8.toArray⟩ : ByteArray) ++ ⟨(leB 8 1).toArray⟩ ++ ⟨P8.toArray⟩ = ⟨(H8 ++ leB 8 1 ++ P8).toArray⟩) := Lib.hid (by rw [str_append, str_append])
      clear e ei hbad hb hsz hn ep hl80 e1 hH8 hP8 hmay hm
      go_enter Tryd.func41, Tryd.ntmps41
      go_upto_region 1 with fail
      rw [show w.alloc (.cells (encN n).toArray 37) = w0 from hw0.symm]
      clear hw0
      go_wp2_with fail
      refine (le_Int_any n.size w0 HSZ.out).mono ?_
      rintro e w1 ⟨rfl, hb1⟩
      rw [HEI.out]
      have HB1 := Lib.hid (HB.out.below hb1)
      have HBEL1 := Lib.hid (HBEL.out.trans (hb1.mono HBEL.out.size))
      have hl1 := fun op a next Q => hx1 op a next Q w1 HB1.out
      clear hb1 hx1
      go_wp2_with fail
      refine (ptr_Bytes_any n.root HRW.out w1).mono ?_
      rintro e w2 ⟨rfl, hb2⟩
      rw [if_pos HMAY.out, if_pos HMAY.out, ← HP8.out]
      have HBEL2 := Lib.hid (HBEL1.out.trans (hb2.mono HBEL1.out.size))
      clear hb2 hl1
      go_wp2_with fail
      refine (le_Int_any 1 w2 (by unfold I64'; omega)).mono ?_
      rintro e w3 ⟨rfl, hb3⟩
      rw [HE1.out]
      have HBEL3 := Lib.hid (HBEL2.out.trans (hb3.mono HBEL2.out.size))
      clear hb3
      go_wp2_with fail
      rw [HS1.out]
      refine (le_Pad_any (H8 ++ leB 8 1 ++ P8) 128 w3 (by rw [HL80.out]; omega) (by omega) (by omega)).mono ?_
      rintro e w4 ⟨rfl, hb4⟩
      rw [HEP.out]
      have HBEL4 := Lib.hid (HBEL3.out.trans (hb4.mono HBEL3.out.size))
      clear hb4
      go_wp2_with fail
      go_ret2
      refine ⟨?_, HBEL4.out⟩
      show Ending.returned (.tuple #[.string ⟨(H8 ++ (leB 8 1 ++ (P8 ++ zeros 48))).toArray⟩, .int .i64 0]) = Ending.returned (.tuple #[.string ⟨(H8 ++ leB 8 1 ++ P8 ++ zeros 48).toArray⟩, .int .i64 0])
      simp only [List.append_assoc]
    · have e : nodeBs n = .error 1 := by unfold nodeBs; rw [if_neg hbad, if_neg hmay]
      rw [e]
      obtain ⟨H8, hH8⟩ : ∃ H8, H8 = leB 8 m := ⟨_, rfl⟩
      have hne : H8.isEmpty = false := by rw [hH8]; rfl
      rw [← hH8] at HEI
      have HMAY := Lib.hid hmay
      clear e ei hbad hb hsz hn hH8 hmay hm
      go_enter Tryd.func41, Tryd.ntmps41
      go_upto_region 1 with fail
      rw [show w.alloc (.cells (encN n).toArray 37) = w0 from hw0.symm]
      clear hw0
      go_wp2_with fail
      refine (le_Int_any n.size w0 HSZ.out).mono ?_
      rintro e w1 ⟨rfl, hb1⟩
      rw [HEI.out]
      have HB1 := Lib.hid (HB.out.below hb1)
      have HBEL1 := Lib.hid (HBEL.out.trans (hb1.mono HBEL.out.size))
      have hl1 := fun op a next Q => hx1 op a next Q w1 HB1.out
      clear hb1 hx1
      go_wp2_with fail
      refine (ptr_Bytes_any n.root HRW.out w1).mono ?_
      rintro e w2 ⟨rfl, hb2⟩
      rw [if_neg HMAY.out, if_neg HMAY.out]
      have HBEL2 := Lib.hid (HBEL1.out.trans (hb2.mono HBEL1.out.size))
      clear hb2 hl1
      go_wp2_with fail
      go_ret2
      exact ⟨rfl, HBEL2.out⟩
theorem res_cell_tmp2 {P : Program} {fn : Func} {p u v : Tmp} {ty : TypeId} (h : fn.results = #[.cell p ty, .tmp u, .tmp v]) (tmps : Array Value) (w : World) (g : Nat) (t : TypeId) (cs : List Value) (d : TypeDesc)
    (hp : tmps.getD p undef = .pointer (some ⟨g, 0, none⟩)) (hg : Blk w g t cs)
    (hu : P.underlying ty = some d) (hd : (match d with | .struct _ | .array _ _ => true | _ => false) = true) (hi : (P.info? ty).map (·.size) = some cs.length) :
    (results fn tmps).run P w = .ok (.tuple #[.agg cs.toArray, tmps.getD u undef, tmps.getD v undef]) w := by
  have hp' : tmps[p]?.getD undef = .pointer (some ⟨g, 0, none⟩) := by simpa using hp
  simp [results, h, hp', asAddr, run_loadVar_row w g t ty cs.toArray (0, 0) d hg hu hd (by simpa using hi)]
def ndB (r : Except Nat (NodeT × Bool)) : NodeT × Bool := match r with | .ok x => x | .error _ => (nD, false)
/-- what a reading of a node answers -/
def RdR (r : Except Nat (NodeT × Bool)) (e : Ending) : Prop := e = .returned (.tuple #[.agg (encN (ndB r).1).toArray, .bool (ndB r).2, .int .i64 (errV r : Nat)])
/-- where ReadNode stands: its reader, and its result -/
structure RdS (w : World) (g : Nat) (s : Bs) (W : World) (k : Nat) : Prop where
  rd : RdAt W g s k
  res : Blk W w.heap.size 37 (encN nD)
  bel : Below w.heap.size w W
  ne : w.heap.size < g
theorem RdS.mod {w W W' : World} {g k k' : Nat} {s : Bs} (h : RdS w g s W k) (hr : RdAt W' g s k') (hm : Mod (fun x => x = g) W W') : RdS w g s W' k' :=
  ⟨hr, hm.blk h.res (fun e => by have := h.ne; omega), h.bel.trans (hm.toBelow (B := w.heap.size) (fun x hx => by have := h.ne; omega) h.bel.size), h.ne⟩
theorem RdS.below {w W W' : World} {g k : Nat} {s : Bs} (h : RdS w g s W k) (hb : Below W.heap.size W W') : RdS w g s W' k :=
  ⟨Blk.below h.rd hb, h.res.below hb, h.bel.trans (hb.mono h.bel.size), h.ne⟩
set_option maxHeartbeats 2000000 in
set_option maxRecDepth 100000 in
theorem ReadNode_any (s : Bs) (hs : s.length = 128) (w : World) :
    Calls Tryd.prog 56 #[.string ⟨s.toArray⟩] w fun e w' => RdR (readNd s) e ∧ Below w.heap.size w w' := by
  obtain ⟨w0, hw0⟩ : ∃ w0, w0 = w.alloc (.cells (encN nD).toArray 37) := ⟨_, rfl⟩
  have hb : Blk w0 w.heap.size 37 (encN nD) := by rw [hw0]; exact Blk.new w _ _
  have HBEL : Hid (Below w.heap.size w w0) := by rw [hw0]; exact Lib.hid ((Below.refl _ _).alloc (Nat.le_refl _) _)
  have h1 : ¬ (s.length : Int) < 128 := by omega
  have h2 : ¬ (128 : Int) < (s.length : Int) := by omega
  obtain ⟨w1, hw1⟩ : ∃ w1, w1 = w0.alloc (.cells #[.string ⟨s.toArray⟩, .int .i64 0] 162) := ⟨_, rfl⟩
  obtain ⟨gb_, hgb⟩ : ∃ g, g = w0.heap.size := ⟨_, rfl⟩
  have hbel1 : Below w0.heap.size w0 w1 := by rw [hw1]; exact (Below.refl _ _).alloc (Nat.le_refl _) _
  have hr1 : RdAt w1 gb_ s 0 := by rw [hw1, hgb]; exact Blk.new w0 _ _
  have HST1 : Hid (RdS w gb_ s w1 0) := Lib.hid ⟨hr1, hb.below hbel1, HBEL.out.trans (hbel1.mono HBEL.out.size), by rw [hgb]; exact hb.lt⟩
  have HLS := Lib.hid hs
  have e0 : s.drop 0 = s := rfl
  clear hb hbel1 hr1
  by_cases hz : allZero s = true
  · have HZ := Lib.hid hz
    have HRD := Lib.hid (readNd_zero hz)
    clear hz
    go_enter Tryd.func56, Tryd.ntmps56
    go_upto_region 1 with fail
    rw [show w.alloc (.cells #[.int .i64 0, .int .i64 0, .int .i64 0, .int .i64 0, .int .i64 0, .bool false, .int .i64 0, .int .i64 0, .int .i64 0, .int .u64 0, .int .u64 0, .int .u64 0, .int .u64 0] 37) = w0 from hw0.symm]
    clear hw0
    go_wp2_with fail
    refine (le_New_any s w0).mono ?_
    rintro e wn ⟨rfl, rfl⟩
    rw [← hw1, ← hgb]
    clear hw1 hgb
    go_wp2_with fail
    refine (rd_Zeros_any gb_ s 0 w1 HST1.out.rd (by rw [HLS.out]; omega) (by omega)).mono ?_
    rintro e w2 ⟨rfl, nd, rfl⟩
    rw [e0, HZ.out]
    have HST2 := Lib.hid (HST1.out.below (below_drewN' (Below.refl _ _) nd))
    obtain ⟨W2, hW2⟩ : ∃ W2, W2 = w1.drewN nd := ⟨_, rfl⟩
    rw [← hW2] at HST2 ⊢
    clear hW2
    have hst := fun op a next Q => storeZNd HST2.out.res rfl op a next Q
    have HFB := Lib.hid (below_put (o := 0) (vs := encN nD) HST2.out.bel HST2.out.bel.size (Nat.le_refl _))
    go_wp2_with fail
    refine bodyPost_ret (res_cell_tmp2 rfl _ _ w.heap.size 37 _ _ rfl (HST2.out.res.put (vs := encN nD) rfl) Tryd.underlying37 rfl iszNd) rfl ?_
    exact ⟨by rw [HRD.out]; rfl, HFB.out⟩
  · have HZ : Hid (allZero s = false) := Lib.hid (by simpa using hz)
    by_cases h0 : rdN s 0 ≤ maxC
    · have H0 := Lib.hid h0
      by_cases h8 : rdN s 8 ≤ maxC
      · have H8 := Lib.hid h8
        by_cases h81 : rdN s 8 = 1
        · have HH : Hid (rdN s 8 = 1) := Lib.hid h81
          have hl64 : (sub s 16 64).length = 64 := sub_length s 16 64 (by omega)
          have HL64 := Lib.hid hl64
          by_cases hf : ptrFits (sub s 16 64) = true
          · have HF := Lib.hid hf
            by_cases ht : allZero (s.drop 80) = true
            · have HT := Lib.hid ht
              have HRD : Hid (readNd s = .ok (⟨(rdN s 0 : Nat), ptrOf (sub s 16 64)⟩, true)) := Lib.hid (by unfold readNd; rw [if_neg hz, if_pos ⟨h0, h81⟩, if_pos hf, if_pos ht])
              clear hz h0 h8 h81 hl64 hf ht
              go_enter Tryd.func56, Tryd.ntmps56
              go_upto_region 1 with fail
              rw [show w.alloc (.cells #[.int .i64 0, .int .i64 0, .int .i64 0, .int .i64 0, .int .i64 0, .bool false, .int .i64 0, .int .i64 0, .int .i64 0, .int .u64 0, .int .u64 0, .int .u64 0, .int .u64 0] 37) = w0 from hw0.symm]
              clear hw0
              go_wp2_with fail
              refine (le_New_any s w0).mono ?_
              rintro e wn ⟨rfl, rfl⟩
              rw [← hw1, ← hgb]
              clear hw1 hgb
              go_wp2_with fail
              refine (rd_Zeros_any gb_ s 0 w1 HST1.out.rd (by rw [HLS.out]; omega) (by omega)).mono ?_
              rintro e w2 ⟨rfl, nd, rfl⟩
              rw [e0, HZ.out]
              have HST2 := Lib.hid (HST1.out.below (below_drewN' (Below.refl _ _) nd))
              obtain ⟨W2, hW2⟩ : ∃ W2, W2 = w1.drewN nd := ⟨_, rfl⟩
              rw [← hW2] at HST2 ⊢
              clear hW2
              go_wp2_with fail
              refine (rd_Int_any gb_ s 0 W2 HST2.out.rd (by rw [HLS.out]; omega) (by rw [HLS.out]; omega)).mono ?_
              rintro e w3 ⟨rfl, hrd, hmd⟩
              rw [if_pos H0.out] at hrd
              rw [if_pos H0.out, if_pos H0.out]
              have HST3 := Lib.hid (HST2.out.mod hrd hmd)
              clear hrd hmd
              go_wp2_with fail
              refine (rd_Int_any gb_ s 8 w3 HST3.out.rd (by rw [HLS.out]; omega) (by rw [HLS.out]; omega)).mono ?_
              rintro e w4 ⟨rfl, hrd, hmd⟩
              rw [if_pos H8.out] at hrd
              rw [if_pos H8.out, if_pos H8.out]
              have HST4 := Lib.hid (HST3.out.mod hrd hmd)
              clear hrd hmd
              rw [HH.out]
              go_wp2_with fail
              refine (rd_Take_any gb_ s 16 64 w4 HST4.out.rd (by rw [HLS.out]; omega) (by rw [HLS.out]; omega)).mono ?_
              rintro e w5 ⟨rfl, hrd, hmd⟩
              have HST5 := Lib.hid (HST4.out.mod hrd hmd)
              clear hrd hmd
              go_wp2_with fail
              refine (ptr_Read_any (sub s 16 64) w5 HL64.out).mono ?_
              rintro e w6 ⟨rfl, hb6⟩
              rw [if_pos HF.out, if_pos HF.out]
              have HST6 := Lib.hid (HST5.out.below hb6)
              have hsp := fun op a next Q => store_newPt (ptrOf (sub s 16 64)) w6 op a next Q
              have hb7 : Below w6.heap.size w6 (w6.alloc (.cells (encPtr (ptrOf (sub s 16 64))).toArray 35)) := (Below.refl _ _).alloc (Nat.le_refl _) _
              have HST7 := Lib.hid (HST6.out.below hb7)
              have HBP7 := Lib.hid (Blk.new w6 35 (encPtr (ptrOf (sub s 16 64))))
              clear hb6 hb7
              go_wp2_with fail
              refine (rd_Zeros_any gb_ s 80 _ HST7.out.rd (by rw [HLS.out]; omega) (by rw [HLS.out]; omega)).mono ?_
              rintro e w8 ⟨rfl, nd8, rfl⟩
              rw [HT.out]
              have HST8 := Lib.hid (HST7.out.below (below_drewN' (Below.refl _ _) nd8))
              have HBP8 := Lib.hid (HBP7.out.drewN (n := nd8))
              obtain ⟨W8, hW8⟩ : ∃ W8, W8 = (w6.alloc (.cells (encPtr (ptrOf (sub s 16 64))).toArray 35)).drewN nd8 := ⟨_, rfl⟩
              rw [← hW8] at HST8 HBP8 ⊢
              clear hW8 hsp
              have hlp := fun op a next Q => loadW_blk (P := Tryd.prog) HBP8.out Tryd.underlying35 rfl iszPt op a next Q
              have hbn := fun o a w next Q => bld_nd ((rdN s 0 : Nat) : Int) (ptrOf (sub s 16 64)) o a w next Q
              have hst := fun op a next Q => storeW_part (P := Tryd.prog) (t := 37) (o := 0) (cs := encN ⟨(rdN s 0 : Nat), ptrOf (sub s 16 64)⟩) HST8.out.res (Nat.le_refl 13) iszNd (encN_ones _) op a next Q
              have HFB := Lib.hid (below_put (o := 0) (vs := encN ⟨(rdN s 0 : Nat), ptrOf (sub s 16 64)⟩) HST8.out.bel HST8.out.bel.size (Nat.le_refl _))
              go_wp2_with fail
              refine bodyPost_ret (res_cell_tmp2 rfl _ _ w.heap.size 37 _ _ rfl (HST8.out.res.put (vs := encN ⟨(rdN s 0 : Nat), ptrOf (sub s 16 64)⟩) rfl) Tryd.underlying37 rfl iszNd) rfl ?_
              exact ⟨by rw [HRD.out]; rfl, HFB.out⟩
            · have HT : Hid (allZero (s.drop 80) = false) := Lib.hid (by simpa using ht)
              have HRD : Hid (readNd s = .error 3) := Lib.hid (by unfold readNd; rw [if_neg hz, if_pos ⟨h0, h81⟩, if_pos hf, if_neg ht])
              clear hz h0 h8 h81 hl64 hf ht
              go_enter Tryd.func56, Tryd.ntmps56
              go_upto_region 1 with fail
              rw [show w.alloc (.cells #[.int .i64 0, .int .i64 0, .int .i64 0, .int .i64 0, .int .i64 0, .bool false, .int .i64 0, .int .i64 0, .int .i64 0, .int .u64 0, .int .u64 0, .int .u64 0, .int .u64 0] 37) = w0 from hw0.symm]
              clear hw0
              go_wp2_with fail
              refine (le_New_any s w0).mono ?_
              rintro e wn ⟨rfl, rfl⟩
              rw [← hw1, ← hgb]
              clear hw1 hgb
              go_wp2_with fail
              refine (rd_Zeros_any gb_ s 0 w1 HST1.out.rd (by rw [HLS.out]; omega) (by omega)).mono ?_
              rintro e w2 ⟨rfl, nd, rfl⟩
              rw [e0, HZ.out]
              have HST2 := Lib.hid (HST1.out.below (below_drewN' (Below.refl _ _) nd))
              obtain ⟨W2, hW2⟩ : ∃ W2, W2 = w1.drewN nd := ⟨_, rfl⟩
              rw [← hW2] at HST2 ⊢
              clear hW2
              go_wp2_with fail
              refine (rd_Int_any gb_ s 0 W2 HST2.out.rd (by rw [HLS.out]; omega) (by rw [HLS.out]; omega)).mono ?_
              rintro e w3 ⟨rfl, hrd, hmd⟩
              rw [if_pos H0.out] at hrd
              rw [if_pos H0.out, if_pos H0.out]
              have HST3 := Lib.hid (HST2.out.mod hrd hmd)
              clear hrd hmd
              go_wp2_with fail
              refine (rd_Int_any gb_ s 8 w3 HST3.out.rd (by rw [HLS.out]; omega) (by rw [HLS.out]; omega)).mono ?_
              rintro e w4 ⟨rfl, hrd, hmd⟩
              rw [if_pos H8.out] at hrd
              rw [if_pos H8.out, if_pos H8.out]
              have HST4 := Lib.hid (HST3.out.mod hrd hmd)
              clear hrd hmd
              rw [HH.out]
              go_wp2_with fail
              refine (rd_Take_any gb_ s 16 64 w4 HST4.out.rd (by rw [HLS.out]; omega) (by rw [HLS.out]; omega)).mono ?_
              rintro e w5 ⟨rfl, hrd, hmd⟩
              have HST5 := Lib.hid (HST4.out.mod hrd hmd)
              clear hrd hmd
              go_wp2_with fail
              refine (ptr_Read_any (sub s 16 64) w5 HL64.out).mono ?_
              rintro e w6 ⟨rfl, hb6⟩
              rw [if_pos HF.out, if_pos HF.out]
              have HST6 := Lib.hid (HST5.out.below hb6)
              have hsp := fun op a next Q => store_newPt (ptrOf (sub s 16 64)) w6 op a next Q
              have hb7 : Below w6.heap.size w6 (w6.alloc (.cells (encPtr (ptrOf (sub s 16 64))).toArray 35)) := (Below.refl _ _).alloc (Nat.le_refl _) _
              have HST7 := Lib.hid (HST6.out.below hb7)
              clear hb6 hb7
              go_wp2_with fail
              refine (rd_Zeros_any gb_ s 80 _ HST7.out.rd (by rw [HLS.out]; omega) (by rw [HLS.out]; omega)).mono ?_
              rintro e w8 ⟨rfl, nd8, rfl⟩
              rw [HT.out]
              have HST8 := Lib.hid (HST7.out.below (below_drewN' (Below.refl _ _) nd8))
              obtain ⟨W8, hW8⟩ : ∃ W8, W8 = (w6.alloc (.cells (encPtr (ptrOf (sub s 16 64))).toArray 35)).drewN nd8 := ⟨_, rfl⟩
              rw [← hW8] at HST8 ⊢
              clear hW8 hsp
              have hst := fun op a next Q => storeZNd HST8.out.res rfl op a next Q
              have HFB := Lib.hid (below_put (o := 0) (vs := encN nD) HST8.out.bel HST8.out.bel.size (Nat.le_refl _))
              go_wp2_with fail
              refine bodyPost_ret (res_cell_tmp2 rfl _ _ w.heap.size 37 _ _ rfl (HST8.out.res.put (vs := encN nD) rfl) Tryd.underlying37 rfl iszNd) rfl ?_
              exact ⟨by rw [HRD.out]; rfl, HFB.out⟩
          · have HF : Hid (¬ ptrFits (sub s 16 64) = true) := Lib.hid hf
            have HRD : Hid (readNd s = .error 3) := Lib.hid (by unfold readNd; rw [if_neg hz, if_pos ⟨h0, h81⟩, if_neg hf])
            clear hz h0 h8 h81 hl64 hf
            go_enter Tryd.func56, Tryd.ntmps56
            go_upto_region 1 with fail
            rw [show w.alloc (.cells #[.int .i64 0, .int .i64 0, .int .i64 0, .int .i64 0, .int .i64 0, .bool false, .int .i64 0, .int .i64 0, .int .i64 0, .int .u64 0, .int .u64 0, .int .u64 0, .int .u64 0] 37) = w0 from hw0.symm]
            clear hw0
            go_wp2_with fail
            refine (le_New_any s w0).mono ?_
            rintro e wn ⟨rfl, rfl⟩
            rw [← hw1, ← hgb]
            clear hw1 hgb
            go_wp2_with fail
            refine (rd_Zeros_any gb_ s 0 w1 HST1.out.rd (by rw [HLS.out]; omega) (by omega)).mono ?_
            rintro e w2 ⟨rfl, nd, rfl⟩
            rw [e0, HZ.out]
            have HST2 := Lib.hid (HST1.out.below (below_drewN' (Below.refl _ _) nd))
            obtain ⟨W2, hW2⟩ : ∃ W2, W2 = w1.drewN nd := ⟨_, rfl⟩
            rw [← hW2] at HST2 ⊢
            clear hW2
            go_wp2_with fail
            refine (rd_Int_any gb_ s 0 W2 HST2.out.rd (by rw [HLS.out]; omega) (by rw [HLS.out]; omega)).mono ?_
            rintro e w3 ⟨rfl, hrd, hmd⟩
            rw [if_pos H0.out] at hrd
            rw [if_pos H0.out, if_pos H0.out]
            have HST3 := Lib.hid (HST2.out.mod hrd hmd)
            clear hrd hmd
            go_wp2_with fail
            refine (rd_Int_any gb_ s 8 w3 HST3.out.rd (by rw [HLS.out]; omega) (by rw [HLS.out]; omega)).mono ?_
            rintro e w4 ⟨rfl, hrd, hmd⟩
            rw [if_pos H8.out] at hrd
            rw [if_pos H8.out, if_pos H8.out]
            have HST4 := Lib.hid (HST3.out.mod hrd hmd)
            clear hrd hmd
            rw [HH.out]
            go_wp2_with fail
            refine (rd_Take_any gb_ s 16 64 w4 HST4.out.rd (by rw [HLS.out]; omega) (by rw [HLS.out]; omega)).mono ?_
            rintro e w5 ⟨rfl, hrd, hmd⟩
            have HST5 := Lib.hid (HST4.out.mod hrd hmd)
            clear hrd hmd
            go_wp2_with fail
            refine (ptr_Read_any (sub s 16 64) w5 HL64.out).mono ?_
            rintro e w6 ⟨rfl, hb6⟩
            rw [if_neg HF.out, if_neg HF.out]
            have HST6 := Lib.hid (HST5.out.below hb6)
            have hsp := fun op a next Q => store_newPt pD w6 op a next Q
            have hb7 : Below w6.heap.size w6 (w6.alloc (.cells (encPtr pD).toArray 35)) := (Below.refl _ _).alloc (Nat.le_refl _) _
            have HST7 := Lib.hid (HST6.out.below hb7)
            clear hb6 hb7
            have hst := fun op a next Q => storeZNd HST7.out.res rfl op a next Q
            have HFB := Lib.hid (below_put (o := 0) (vs := encN nD) HST7.out.bel HST7.out.bel.size (Nat.le_refl _))
            go_wp2_with fail
            refine bodyPost_ret (res_cell_tmp2 rfl _ _ w.heap.size 37 _ _ rfl (HST7.out.res.put (vs := encN nD) rfl) Tryd.underlying37 rfl iszNd) rfl ?_
            exact ⟨by rw [HRD.out]; rfl, HFB.out⟩
        · have HV : Hid (((rdN s 8 : Nat) : Int) ≠ 1) := Lib.hid (by omega)
          have HRD : Hid (readNd s = .error 3) := Lib.hid (by unfold readNd; rw [if_neg hz, if_neg (fun h => h81 h.2)])
          have hv1 : (((rdN s 8 : Nat) : Int) != 1) = true := by simp; omega
          have hv2 : ¬ ((rdN s 8 : Nat) : Int) = 1 := by omega
          clear hz h0 h8 h81
          go_enter Tryd.func56, Tryd.ntmps56
          go_upto_region 1 with fail
          rw [show w.alloc (.cells #[.int .i64 0, .int .i64 0, .int .i64 0, .int .i64 0, .int .i64 0, .bool false, .int .i64 0, .int .i64 0, .int .i64 0, .int .u64 0, .int .u64 0, .int .u64 0, .int .u64 0] 37) = w0 from hw0.symm]
          clear hw0
          go_wp2_with fail
          refine (le_New_any s w0).mono ?_
          rintro e wn ⟨rfl, rfl⟩
          rw [← hw1, ← hgb]
          clear hw1 hgb
          go_wp2_with fail
          refine (rd_Zeros_any gb_ s 0 w1 HST1.out.rd (by rw [HLS.out]; omega) (by omega)).mono ?_
          rintro e w2 ⟨rfl, nd, rfl⟩
          rw [e0, HZ.out]
          have HST2 := Lib.hid (HST1.out.below (below_drewN' (Below.refl _ _) nd))
          obtain ⟨W2, hW2⟩ : ∃ W2, W2 = w1.drewN nd := ⟨_, rfl⟩
          rw [← hW2] at HST2 ⊢
          clear hW2
          go_wp2_with fail
          refine (rd_Int_any gb_ s 0 W2 HST2.out.rd (by rw [HLS.out]; omega) (by rw [HLS.out]; omega)).mono ?_
          rintro e w3 ⟨rfl, hrd, hmd⟩
          rw [if_pos H0.out] at hrd
          rw [if_pos H0.out, if_pos H0.out]
          have HST3 := Lib.hid (HST2.out.mod hrd hmd)
          clear hrd hmd
          go_wp2_with fail
          refine (rd_Int_any gb_ s 8 w3 HST3.out.rd (by rw [HLS.out]; omega) (by rw [HLS.out]; omega)).mono ?_
          rintro e w4 ⟨rfl, hrd, hmd⟩
          rw [if_pos H8.out] at hrd
          rw [if_pos H8.out, if_pos H8.out]
          have HST4 := Lib.hid (HST3.out.mod hrd hmd)
          clear hrd hmd
          have hst := fun op a next Q => storeZNd HST4.out.res rfl op a next Q
          have HFB := Lib.hid (below_put (o := 0) (vs := encN nD) HST4.out.bel HST4.out.bel.size (Nat.le_refl _))
          go_wp2_with fail
          refine bodyPost_ret (res_cell_tmp2 rfl _ _ w.heap.size 37 _ _ rfl (HST4.out.res.put (vs := encN nD) rfl) Tryd.underlying37 rfl iszNd) rfl ?_
          exact ⟨by rw [HRD.out]; rfl, HFB.out⟩
      · have H8 := Lib.hid h8
        have HRD : Hid (readNd s = .error 3) := Lib.hid (by unfold readNd; rw [if_neg hz, if_neg (fun h => h8 (by rw [h.2]; decide))])
        clear hz h0 h8
        go_enter Tryd.func56, Tryd.ntmps56
        go_upto_region 1 with fail
        rw [show w.alloc (.cells #[.int .i64 0, .int .i64 0, .int .i64 0, .int .i64 0, .int .i64 0, .bool false, .int .i64 0, .int .i64 0, .int .i64 0, .int .u64 0, .int .u64 0, .int .u64 0, .int .u64 0] 37) = w0 from hw0.symm]
        clear hw0
        go_wp2_with fail
        refine (le_New_any s w0).mono ?_
        rintro e wn ⟨rfl, rfl⟩
        rw [← hw1, ← hgb]
        clear hw1 hgb
        go_wp2_with fail
        refine (rd_Zeros_any gb_ s 0 w1 HST1.out.rd (by rw [HLS.out]; omega) (by omega)).mono ?_
        rintro e w2 ⟨rfl, nd, rfl⟩
        rw [e0, HZ.out]
        have HST2 := Lib.hid (HST1.out.below (below_drewN' (Below.refl _ _) nd))
        obtain ⟨W2, hW2⟩ : ∃ W2, W2 = w1.drewN nd := ⟨_, rfl⟩
        rw [← hW2] at HST2 ⊢
        clear hW2
        go_wp2_with fail
        refine (rd_Int_any gb_ s 0 W2 HST2.out.rd (by rw [HLS.out]; omega) (by rw [HLS.out]; omega)).mono ?_
        rintro e w3 ⟨rfl, hrd, hmd⟩
        rw [if_pos H0.out] at hrd
        rw [if_pos H0.out, if_pos H0.out]
        have HST3 := Lib.hid (HST2.out.mod hrd hmd)
        clear hrd hmd
        go_wp2_with fail
        refine (rd_Int_any gb_ s 8 w3 HST3.out.rd (by rw [HLS.out]; omega) (by rw [HLS.out]; omega)).mono ?_
        rintro e w4 ⟨rfl, hrd, hmd⟩
        rw [if_neg H8.out] at hrd
        rw [if_neg H8.out, if_neg H8.out]
        have HST4 := Lib.hid (HST3.out.mod hrd hmd)
        clear hrd hmd
        have hst := fun op a next Q => storeZNd HST4.out.res rfl op a next Q
        have HFB := Lib.hid (below_put (o := 0) (vs := encN nD) HST4.out.bel HST4.out.bel.size (Nat.le_refl _))
        go_wp2_with fail
        refine bodyPost_ret (res_cell_tmp2 rfl _ _ w.heap.size 37 _ _ rfl (HST4.out.res.put (vs := encN nD) rfl) Tryd.underlying37 rfl iszNd) rfl ?_
        exact ⟨by rw [HRD.out]; rfl, HFB.out⟩
    · have H0 := Lib.hid h0
      have HRD : Hid (readNd s = .error 3) := Lib.hid (by unfold readNd; rw [if_neg hz, if_neg (fun h => h0 h.1)])
      clear hz h0
      go_enter Tryd.func56, Tryd.ntmps56
      go_upto_region 1 with fail
      rw [show w.alloc (.cells #[.int .i64 0, .int .i64 0, .int .i64 0, .int .i64 0, .int .i64 0, .bool false, .int .i64 0, .int .i64 0, .int .i64 0, .int .u64 0, .int .u64 0, .int .u64 0, .int .u64 0] 37) = w0 from hw0.symm]
      clear hw0
      go_wp2_with fail
      refine (le_New_any s w0).mono ?_
      rintro e wn ⟨rfl, rfl⟩
      rw [← hw1, ← hgb]
      clear hw1 hgb
      go_wp2_with fail
      refine (rd_Zeros_any gb_ s 0 w1 HST1.out.rd (by rw [HLS.out]; omega) (by omega)).mono ?_
      rintro e w2 ⟨rfl, nd, rfl⟩
      rw [e0, HZ.out]
      have HST2 := Lib.hid (HST1.out.below (below_drewN' (Below.refl _ _) nd))
      obtain ⟨W2, hW2⟩ : ∃ W2, W2 = w1.drewN nd := ⟨_, rfl⟩
      rw [← hW2] at HST2 ⊢
      clear hW2
      go_wp2_with fail
      refine (rd_Int_any gb_ s 0 W2 HST2.out.rd (by rw [HLS.out]; omega) (by rw [HLS.out]; omega)).mono ?_
      rintro e w3 ⟨rfl, hrd, hmd⟩
      rw [if_neg H0.out] at hrd
      rw [if_neg H0.out, if_neg H0.out]
      have HST3 := Lib.hid (HST2.out.mod hrd hmd)
      clear hrd hmd
      go_wp2_with fail
      refine (rd_Int_any gb_ s 0 w3 HST3.out.rd (by rw [HLS.out]; omega) (by rw [HLS.out]; omega)).mono ?_
      rintro e w4 ⟨rfl, hrd, hmd⟩
      rw [if_neg H0.out] at hrd
      rw [if_neg H0.out, if_neg H0.out]
      have HST4 := Lib.hid (HST3.out.mod hrd hmd)
      clear hrd hmd
      have hst := fun op a next Q => storeZNd HST4.out.res rfl op a next Q
      have HFB := Lib.hid (below_put (o := 0) (vs := encN nD) HST4.out.bel HST4.out.bel.size (Nat.le_refl _))
      go_wp2_with fail
      refine bodyPost_ret (res_cell_tmp2 rfl _ _ w.heap.size 37 _ _ rfl (HST4.out.res.put (vs := encN nD) rfl) Tryd.underlying37 rfl iszNd) rfl ?_
      exact ⟨by rw [HRD.out]; rfl, HFB.out⟩
end Go.Proofs.YtbhofablndjeoaaDoor
