/- The walk of a book's Over. -/
import Derived.Test.YtmnhdpojonlfhaaAlV
import Derived.Test.YtmnhdpojonlfhaaAlEa
namespace Go.Proofs.Ytmnhdpojonlfhaa
open Go.RowKit
set_option linter.unusedSimpArgs false
attribute [local go_sem ↓] Go.wp_at_zero Go.wp_at_succ

set_option maxRecDepth 100000 in
theorem equalG_any (a1 a2 : Option Addr) (n c1 c2 : Nat) (gs : Gs) (w : World) (h1 : GSl w a1 n c1 gs) (h2 : GSl w a2 n c2 gs) (hn : n ≤ 4) :
    Calls Try.prog 122 #[.slice a1 n c1, .slice a2 n c2] w fun e w' => e = .returned (.bool true) ∧ Below w.heap.size w w' := by
  have H1 := Lib.hid h1
  have H2 := Lib.hid h2
  clear h1 h2
  go_enter Try.func122, Try.ntmps122
  go_wp2_with fail
  go_loopw [13] (fun i wr => ∃ (k : Nat), k ≤ n ∧ i = .int .i64 (k : Nat) ∧ Hid (Below w.heap.size w wr)) (fun i _ => n - (intOf i).toNat)
  case atStart => exact ⟨0, by omega, rfl, Lib.hid (Below.refl _ _)⟩
  case round =>
    obtain ⟨k, hk, rfl, hb⟩ := hrel
    by_cases hkn : k < n
    · obtain ⟨b, off, rfl, hbl, hc⟩ := H1.out.at_ (by omega)
      obtain ⟨b', off', rfl, hbl', hc'⟩ := H2.out.at_ (by omega)
      obtain ⟨k0, k1⟩ := hc k hkn
      obtain ⟨j0, j1⟩ := hc' k hkn
      have d0 := (hb.out.cell (p := ⟨b, off + k * 2, none⟩) hbl).trans k0
      have d1 := (hb.out.cell (p := ⟨b, off + k * 2 + 1, none⟩) hbl).trans k1
      have e0 := (hb.out.cell (p := ⟨b', off' + k * 2, none⟩) hbl').trans j0
      have e1 := (hb.out.cell (p := ⟨b', off' + k * 2 + 1, none⟩) hbl').trans j1
      obtain ⟨x, y⟩ := gs.getD k (0, 0)
      clear hc hc' k0 k1 j0 j1
      go_wp2_with fail
      go_quiet (fail)
      go_wp2_with fail
      go_roundw
      case rel => exact ⟨k + 1, by omega, by go_num, Lib.hid (below_drewN' hb.out _)⟩
      case measure => simp [intOf]; omega
    · go_wp2_with fail
      go_ret
      exact ⟨rfl, hb.out⟩

set_option maxRecDepth 100000 in
theorem same_any (a1 a2 : Option Addr) (n c1 c2 : Nat) (gs : Gs) (secs : Int) (w : World) (h1 : GSl w a1 n c1 gs) (h2 : GSl w a2 n c2 gs) (hn : n ≤ 4) :
    Calls Try.prog 101 #[.agg #[.slice a1 n c1, .int .i64 secs], .agg #[.slice a2 n c2, .int .i64 secs]] w fun e w' => e = .returned (.bool true) ∧ Below w.heap.size w w' := by
  obtain ⟨w0, hw0⟩ : ∃ w0, w0 = (w.alloc (.cells #[.slice a1 n c1, .int .i64 secs] 96)).alloc (.cells #[.slice a2 n c2, .int .i64 secs] 96) := ⟨_, rfl⟩
  have hb0 : Below w.heap.size w w0 := by rw [hw0]; exact ((Below.refl _ _).alloc (Nat.le_refl _) _).alloc (by simp) _
  have hR0 : Blk w0 w.heap.size 96 [.slice a1 n c1, .int .i64 secs] := by rw [hw0]; exact (Blk.new w _ _).alloc _
  have hP0 : Blk w0 (w.heap.size + 1) 96 [.slice a2 n c2, .int .i64 secs] := by rw [hw0]; exact Blk.newAt _ _ (by simp)
  have HE := Lib.hid (equalG_any a1 a2 n c1 c2 gs w0 (h1.below hb0) (h2.below hb0) hn)
  have HB0 := Lib.hid hb0
  have q0 := hR0.cell 0
  have q1 := hR0.cell 1
  have r0 := hP0.cell 0
  have r1 := hP0.cell 1
  clear hb0 hR0 hP0 h1 h2
  go_enter Try.func101, Try.ntmps101
  go_wp2_with fail
  rw [← hw0]
  clear hw0
  go_wp2_with fail
  refine HE.out.mono ?_
  rintro e w1 ⟨rfl, hb1⟩
  go_wp2_with fail
  go_ret
  exact ⟨rfl, HB0.out.trans (hb1.mono HB0.out.size)⟩

set_option maxRecDepth 100000 in
theorem over_nil (w : World) : Calls Try.prog 65 #[.pointer none, .pointer none] w fun e w' => e = .returned (.tuple #[.pointer none, .int .i64 1]) ∧ Below w.heap.size w w' := by
  go_enter Try.func65, Try.ntmps65
  go_wp2_with fail
  go_quiet (fail)
  go_wp2_with fail
  go_ret2
  exact ⟨rfl, below_drewN' (Below.refl _ _) _⟩

theorem set_getD {ms : List MT} {i : Nat} (h : i < ms.length) : ms.set i (ms.getD i mD) = ms := by
  rw [List.getD_eq_getElem?_getD, List.getElem?_eq_getElem h]
  simp
theorem getD_set {ms : List MT} {i : Nat} (h : i < ms.length) (x : MT) : (ms.set i x).getD i mD = x := by simp [List.getD, h]
/-- what Over gives -/
def OverFn (w : World) (gs : Gs) (secs : Int) (es : List Nat) (sn : SN) (e : Ending) (w' : World) : Prop := ∃ cb ce mo, e = .returned (.tuple #[.pointer (some ⟨cb, 0, none⟩), .int .i64 0]) ∧ IsBook w' cb ce gs secs mo es ∧ st2 mo = sn ∧ (∀ k, foot cb ce mo k → w.heap.size ≤ k) ∧ Below w.heap.size w w'
set_option maxRecDepth 100000 in
set_option maxHeartbeats 6400000 in
theorem over_any (bb eb bc ec : Nat) (gs : Gs) (secs : Int) (ms mc : List MT) (es esc : List Nat) (w : World) (h : IsBook w bb eb gs secs ms es) (hc : IsBook w bc ec gs secs mc esc) :
    Calls Try.prog 65 #[.pointer (some ⟨bb, 0, none⟩), .pointer (some ⟨bc, 0, none⟩)] w (OverFn w gs secs es (ovA (st2 ms) (st2 mc) gs.length)) := by
  have hr0 := rightB_spec h.right
  obtain ⟨gb, gc, mv, mvc, ecx, b0, b1, b2, b3, hgsl, _, _, _, _, hbbl⟩ := h.parts
  obtain ⟨gb', gc', mv', mvc', ecx', c0, c1, c2, c3, hgsl', hmaps', _, hmvl', _, hbcl⟩ := hc.parts
  have HSM := Lib.hid (fun W (hW : Below w.heap.size w W) => same_any (some ⟨gb, 0, none⟩) (some ⟨gb', 0, none⟩) gs.length gc gc' gs secs W (hgsl.below hW) (hgsl'.below hW) hr0.2.1)
  have HH := Lib.hid h
  have HC := Lib.hid hc
  have HMP := Lib.hid hmaps'
  have C2 := Lib.hid c2
  have hcells : ∀ W, Below w.heap.size w W → W.cell? ⟨bb, 0, none⟩ = some (.slice (some ⟨gb, 0, none⟩) gs.length gc) ∧ W.cell? ⟨bb, 1, none⟩ = some (.int .i64 secs) ∧ W.cell? ⟨bc, 0, none⟩ = some (.slice (some ⟨gb', 0, none⟩) gs.length gc') ∧ W.cell? ⟨bc, 1, none⟩ = some (.int .i64 secs) := fun W hW =>
    ⟨(hW.cell (p := ⟨bb, 0, none⟩) hbbl).trans b0, (hW.cell (p := ⟨bb, 1, none⟩) hbbl).trans b1, (hW.cell (p := ⟨bc, 0, none⟩) hbcl).trans c0, (hW.cell (p := ⟨bc, 1, none⟩) hbcl).trans c1⟩
  have HCE := Lib.hid hcells
  have hn4 : gs.length ≤ 4 := hr0.2.1
  obtain ⟨n, hn⟩ : ∃ n, n = gs.length := ⟨_, rfl⟩
  have HN := Lib.hid hn
  rw [← hn] at HSM HMP C2 HCE b0 c0 hn4
  clear h hc hgsl hgsl' hmaps' hcells hr0 b2 b3 c2 c3 hn
  go_enter Try.func65, Try.ntmps65
  go_wp2_with fail
  go_region_held3 (fun w' => w'.cell? ⟨bb, 0, none⟩ = some (.slice (some ⟨gb, 0, none⟩) n gc) ∧ w'.cell? ⟨bb, 1, none⟩ = some (.int .i64 secs) ∧ w'.cell? ⟨bc, 0, none⟩ = some (.slice (some ⟨gb', 0, none⟩) n gc') ∧ w'.cell? ⟨bc, 1, none⟩ = some (.int .i64 secs)) (go_keep)
    (first | (go_at_call 101; refine (HSM.out w.drew (Below.refl _ _).drew).mono ?_; rintro e w1 ⟨rfl, hb1⟩; have HB1 := Lib.hid ((Below.refl w.heap.size w).drew.trans hb1); obtain ⟨d0, d1, d2, d3⟩ := HCE.out w1 HB1.out; clear hb1))
  have HCP := Lib.hid (acopy_any bb eb gs secs ms es w1 (HH.out.below HB1.out))
  clear b0 b1 c0 c1 d0 d1 d2 d3
  go_wp2_with fail
  refine HCP.out.mono ?_
  rintro e w2 ⟨cb, ce, bs, rfl, hbl, hbc, hfc, hb2⟩
  have HB2 := Lib.hid (HB1.out.trans (hb2.mono HB1.out.size))
  have HBC := Lib.hid hbc
  have hfc2 : ∀ k, foot cb ce (cpM ms bs) k → w.heap.size ≤ k := fun k hk => by have h1 := hfc k hk; have h2 := HB1.out.size; omega
  have HFC := Lib.hid hfc2
  have d2 : w2.cell? ⟨bc, 2, none⟩ = some (.slice (some ⟨mv', 0, none⟩) n mvc') := (HB2.out.cell (p := ⟨bc, 2, none⟩) hbcl).trans C2.out
  have HS0 := Lib.hid (cpM_st2 ms bs)
  clear hbc hfc hfc2 hbl hb2
  go_wp2_with fail
  clear d2
  go_loopw [37] (fun i wr => ∃ (k : Nat) (mo : List MT), k ≤ n ∧ i = .int .i64 (k : Nat) ∧ Hid (IsBook wr cb ce gs secs mo es) ∧ Hid (mo.map (·.1) = (cpM ms bs).map (·.1)) ∧ Hid (st2 mo = ovA (st2 ms) (st2 mc) k) ∧ Hid (Below w.heap.size w wr)) (fun i _ => n - (intOf i).toNat)
  case atStart => exact ⟨0, _, by omega, rfl, HBC, Lib.hid rfl, HS0, HB2⟩
  case round =>
    obtain ⟨k, mo, hk, rfl, hbo, hfst, hst, hbe⟩ := hrel
    clear HBC HB2 HB1
    by_cases hkn : k < n
    · have hkg : k < gs.length := by rw [← HN.out]; exact hkn
      have d4 : wr.cell? ⟨mv', k, none⟩ = some (.pointer (some ⟨(mc.getD k mD).1, 0, none⟩)) := (hbe.out.cell (p := ⟨mv', k, none⟩) hmvl').trans (HMP.out k hkn)
      have hcr := HC.out.below hbe.out
      have hmp := hcr.map_at hkg
      obtain ⟨cm, hcm⟩ : ∃ m, m = mc.getD k mD := ⟨_, rfl⟩
      rw [← hcm] at d4 hmp
      have hrun : cm.2.2 = ((st2 mc).getD k sD).2 := by rw [st2_get, hcm]
      have HRU := Lib.hid (runs_any cm.1 cm.2.1 cm.2.2 wr hmp)
      obtain ⟨m1, m2, rs⟩ := cm
      dsimp only at d4 hmp HRU hrun
      have hgood := hmp.2.2.1
      have hlen := hmp.2.2.2.1
      have hsz := hmp.2.1
      have HRN := Lib.hid hrun
      have HGD := Lib.hid hgood
      -- the map of the book that is made
      obtain ⟨om, hom⟩ : ∃ m, m = mo.getD k mD := ⟨_, rfl⟩
      have hko : k < mo.length := by rw [hbo.out.mlen]; exact hkg
      have hself := set_getD hko
      have hop := hbo.out.map_at hkg
      have hfm := hbo.out.footMap hkg
      rw [foot_fst hfst.out] at hfm
      have hmbW := HFC.out _ hfm
      have hov : ovA (st2 ms) (st2 mc) (k + 1) = setG (st2 mo) k (tkR (mo.getD k mD).2.1 (mo.getD k mD).2.2 ((st2 mc).getD k sD).2) := by
        rw [ovA, ← hst.out, st2_get]
      rw [← hom] at hself hop hmbW hov
      have hsf := fun r => set_map_fst mo k r
      rw [← hom] at hsf
      obtain ⟨mb, sz, R0⟩ := om
      dsimp only at hself hop hmbW hov hsf
      rw [← hrun] at hov
      have hszo := hop.1
      have HOV := Lib.hid hov
      have HSF := Lib.hid hsf
      have HOM := Lib.hid hom
      have hbs : IsBook wr cb ce gs secs (mo.set k (mb, sz, R0)) es := by rw [hself]; exact hbo.out
      have HBS := Lib.hid hbs
      have HGT : Hid (∀ R, (mo.set k (mb, sz, R)).getD k mD = (mb, sz, R)) := Lib.hid (fun R => getD_set hko _)
      have hrl : ∀ r ∈ rs, r.1 + r.2 ≤ 65536 := fun r hr => by
        have h1 := (hgood.1 r hr).2
        have h2 := hmp.1
        omega
      have HRL := Lib.hid hrl
      clear hcr hmp hrun hgood hself hop hov hsf hom hbs hcm hfm hrl
      go_wp2_with fail
      refine HRU.out.mono ?_
      rintro e w3 ⟨v, rfl, hrow, hb3⟩
      have HROW := Lib.hid (owns_weaken hrow hbe.out.size)
      have HB3 := Lib.hid (hbe.out.trans (hb3.mono hbe.out.size))
      have HBS3 := Lib.hid (HBS.out.below hb3)
      obtain ⟨aoR, capR, rfl, _⟩ := RSl.of_owns hrow
      clear hrow hb3 HRU
      obtain ⟨wo, rfl⟩ : ∃ wo : World, wo = wr := ⟨_, rfl⟩
      go_wp2_with fail
      go_loopw [45] (fun i wr => ∃ (j : Nat) (R : List (Nat × Nat)), j ≤ rs.length ∧ i = .int .i64 (j : Nat) ∧ Hid (IsBook wr cb ce gs secs (mo.set k (mb, sz, R)) es) ∧ Hid (R = tkR sz R0 (rs.take j)) ∧ Hid (wr.ownsRow w.heap.size 44 2 (.slice aoR rs.length capR) rs.length (encR rs)) ∧ Hid (Below w.heap.size w wr)) (fun i _ => rs.length - (intOf i).toNat)
      case atStart => exact ⟨0, R0, by omega, rfl, HBS3, Lib.hid (by simp [tkR]), HROW, HB3⟩
      case round =>
        obtain ⟨j, R, hj, rfl, hbs, hR, hrow, hbel⟩ := hrel
        clear HBS3 HROW HB3
        by_cases hjl : j < rs.length
        · obtain ⟨g, rfl, _⟩ := owns_head hrow.out (by omega)
          have hen := encR_get rs j hjl
          obtain ⟨r, hr⟩ : ∃ r, r = rs.getD j (0, 0) := ⟨_, rfl⟩
          have hrm : r ∈ rs := by rw [hr, List.getD_eq_getElem?_getD, List.getElem?_eq_getElem hjl]; exact List.getElem_mem _
          have hrb := HRL.out r hrm
          have htk : rs.take (j + 1) = rs.take j ++ [r] := by rw [hr, List.take_succ_eq_append_getElem hjl, List.getD_eq_getElem?_getD, List.getElem?_eq_getElem hjl]; rfl
          rw [← hr] at hen
          obtain ⟨p, q⟩ := r
          dsimp only at hen hrb
          have x0 : wr.cell? ⟨g, j * 2, none⟩ = some (.int .i64 (p : Nat)) := (hrow.out.cellAt _ (by omega)).trans hen.1
          have x1 : wr.cell? ⟨g, j * 2 + 1, none⟩ = some (.int .i64 (q : Nat)) := (hrow.out.cellAt _ (by omega)).trans hen.2
          have HTK := Lib.hid htk
          have hb4 : Below wr.heap.size wr (wr.alloc (.cells #[.int .i64 (p : Nat), .int .i64 (q : Nat)] 44)) := (Below.refl _ _).alloc (Nat.le_refl _) _
          have HBS4 := Lib.hid (hbs.out.below hb4)
          have HROW4 := Lib.hid (owns_below hrow.out hb4)
          have HBE4 := Lib.hid (hbel.out.trans (hb4.mono hbel.out.size))
          have HBOX := Lib.hid (Blk.new wr 44 [.int .i64 (p : Nat), .int .i64 (q : Nat)])
          clear hen hr hrm htk hb4
          obtain ⟨wi, rfl⟩ : ∃ wi : World, wi = wr := ⟨_, rfl⟩
          go_wp2_with fail
          clear x0 x1
          go_loopw [11] (fun a wr => ∃ (m : Nat) (Q : List (Nat × Nat)), m ≤ q ∧ a = .int .i64 ((p + m : Nat) : Int) ∧ Hid (IsBook wr cb ce gs secs (mo.set k (mb, sz, Q)) es) ∧ Hid (Q = tkN sz R p m) ∧ Hid (wr.ownsRow w.heap.size 44 2 (.slice (some ⟨g, 0, none⟩) rs.length capR) rs.length (encR rs)) ∧ Hid (Blk wr wi.heap.size 44 [.int .i64 (p : Nat), .int .i64 (q : Nat)]) ∧ Hid (Below w.heap.size w wr)) (fun a _ => p + q - (intOf a).toNat)
          case atStart => exact ⟨0, R, by omega, by simp, HBS4, Lib.hid rfl, HROW4, HBOX, HBE4⟩
          case round =>
            obtain ⟨m, Q, hm, rfl, hbq, hQ, hrq, hbx, hbeq⟩ := hrel
            clear HBS4 HROW4 HBE4 HBOX
            have y0 : wr.cell? ⟨wi.heap.size, 0, none⟩ = some (.int .i64 (p : Nat)) := hbx.out.cell 0
            have y1 : wr.cell? ⟨wi.heap.size, 1, none⟩ = some (.int .i64 (q : Nat)) := hbx.out.cell 1
            have pq : IntKind.i64.wrap ((p : Int) + (q : Int)) = (p : Int) + (q : Int) := IntWalk.i64_in _ (by omega)
            by_cases hmq : m < q
            · have dlt : decide (((p + m : Nat) : Int) < (p : Int) + (q : Int)) = true := decide_eq_true (by omega)
              obtain ⟨gbx, gcx, mvx, mvcx, ecxx, z0, z1, z2, z3, _, hmx, _, hmvx, _, _⟩ := hbq.out.parts
              have z4 := hmx k hkg
              rw [HGT.out] at z4
              have hmq2 := hbq.out.map_at hkg
              rw [HGT.out] at hmq2
              dsimp only at z4 hmq2
              obtain ⟨mcs, hmblk⟩ := hmq2.blk
              have hTK := take_any mb sz Q ((p + m : Nat) : Int) 1 wr hmq2
              have hsm : ∀ {W' : World} {rs'}, wr.grownBy W' (some mb) → IsMap W' mb sz rs' → IsBook W' cb ce gs secs (mo.set k (mb, sz, rs')) es := fun {W' rs'} hg hm => by
                have := hbq.out.setMap hkg (w' := W') (sz := sz) (rs := rs') (by rw [HGT.out]; exact hg) (by rw [HGT.out]; exact hm)
                rw [HGT.out, List.set_set] at this
                exact this
              have HTK2 := Lib.hid hTK
              have HSM2 : Hid (∀ W' rs', wr.grownBy W' (some mb) → IsMap W' mb sz rs' → IsBook W' cb ce gs secs (mo.set k (mb, sz, rs')) es) := Lib.hid (fun W' rs' => hsm)
              have HMB := Lib.hid hmblk
              clear hmx hmq2 hmblk hTK hsm z0 z1 z3
              go_wp2_with fail
              refine HTK2.out.mono ?_
              rintro e w5 ⟨rfl, hm5, hg5⟩
              have hmod : Mod (fun k => k = mb) wr w5 := Mod.grown hg5 rfl
              have hty : TyOk wr (fun k => k = mb) := tyOk_map HMB.out
              have HB5 := Lib.hid (HSM2.out w5 _ hg5 hm5)
              have HR5 := Lib.hid (hmod.owns hty hrq.out (by decide) (by decide) (by decide))
              have HX5 := Lib.hid (hmod.blk hbx.out (fun e => blk_ne hbx.out HMB.out (by decide) e))
              have HE5 := Lib.hid (hbeq.out.trans (hmod.toBelow (fun k hk => by rw [hk]; exact hmbW) hbeq.out.size))
              clear hm5 hg5 hmod hty z2 z4 y0 y1
              go_wp2_with fail
              go_roundw
              case rel => exact ⟨m + 1, _, by omega, by go_num, HB5, Lib.hid (by rw [hQ.out]; rfl), HR5, HX5, HE5⟩
              case measure => simp [intOf]; omega
            · obtain rfl : q = m := by omega
              have dlt : decide (((p + q : Nat) : Int) < (p : Int) + (q : Int)) = false := decide_eq_false (by omega)
              go_wp2_with fail
              go_roundw
              case rel => exact ⟨j + 1, Q, by omega, by go_num, hbq, Lib.hid (by rw [HTK.out, tkR_snoc, ← hR.out]; exact hQ.out), hrq, hbeq⟩
              case measure => simp [intOf]; omega
        · have hjj : j = rs.length := by omega
          subst hjj
          go_wp2_with fail
          go_roundw
          case rel => exact ⟨k + 1, mo.set k (mb, sz, R), by omega, by go_num, hbs, Lib.hid ((HSF.out _).trans hfst.out), Lib.hid (by rw [HOV.out, st2_set hko HOM.out.symm, hR.out, List.take_length]), hbel⟩
          case measure => simp [intOf]; omega
    · obtain rfl : n = k := by omega
      go_wp2_with fail
      go_ret2
      exact ⟨cb, ce, mo, rfl, hbo.out, by rw [← HN.out]; exact hst.out, fun k hk => HFC.out k (by rw [foot_fst hfst.out] at hk; exact hk), hbe.out⟩
end Go.Proofs.Ytmnhdpojonlfhaa
