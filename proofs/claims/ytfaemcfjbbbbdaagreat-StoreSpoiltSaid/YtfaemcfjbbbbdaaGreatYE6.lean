/- Parts of the proof of the statement that the last file of this claim proves: lemmas, without any condition of their own beyond those that each states. -/
import Derived.Test.YtfaemcfjbbbbdaaGreatYE5
import Derived.Maps.AppendAt
import Derived.Laws.IdiomStrings
set_option linter.unusedVariables false
set_option linter.unusedSimpArgs false
set_option linter.unnecessarySimpa false
namespace Go.Proofs.YtfaemcfjbbbbdaaGreat
open Go.RowKit
attribute [local go_sem ↓] wp_loadDs wp_storeDs
theorem IsDvs.acellK {w : World} {x : DvsT} {V : DvV} {F : Nat → Prop} {i : Nat} (h : IsDvs w x V F) (hi : i < x.ds.length) {ba n ca : Nat} (e : V.a = .slice (some ⟨ba, 0, none⟩) n ca) : w.cell? ⟨ba, i, none⟩ = some (.bool (x.away.getD i true)) := by
 obtain ⟨ba2, ca2, e2, h1, _⟩ := h.setAway hi true
 rw [e] at e2
 simp only [Value.slice.injEq, Option.some.injEq, Addr.mk.injEq, and_true, true_and] at e2
 rw [e2.1]
 exact h1
theorem results_dvs3 {fn : Func} {p u u2 : Tmp} (h : fn.results = #[.cell p 37, .tmp u, .tmp u2]) (tmps : Array Value) (w : World) (g : Nat) (a b c d : Value)
  (hp : tmps.getD p undef = .pointer (some ⟨g, 0, none⟩)) (hg : Blk w g 37 [a, b, c, d]) :
  (results fn tmps).run Tryz.prog w = .ok (.tuple #[.agg #[a, b, c, d], tmps.getD u undef, tmps.getD u2 undef]) w := by
 have hp' : tmps[p]?.getD undef = .pointer (some ⟨g, 0, none⟩) := by simpa using hp
 have e1 := run_loadVar_mid (P := Tryz.prog) w g 0 37 [a, b, c, d] _ (fun j v hv => by rw [Nat.zero_add, hg.cell, hv]) Tryz.underlying37 rfl iszDsM
 simp [results, h, hp', asAddr, e1]
theorem boolsV_append (a b : List Bool) : boolsV (a ++ b) = boolsV a ++ boolsV b := by simp [boolsV]
theorem boolsV_one (l : List Bool) : ∀ u ∈ boolsV l, u.oneCell' = true := by
 intro u hu
 obtain ⟨b, _, rfl⟩ := List.mem_map.1 hu
 rfl
structure DeS (w : World) (gs : Gs) (secs : Int) (N : Nat) (g9 : Nat) (dvl : List Value) (V : DvV) (x : DvsT) (hv : Value) (hs : List Bool) (F : Nat → Prop) (wr : World) : Prop where
 is : IsDvs wr x V F
 fr : ∀ g, F g → w.heap.size ≤ g
 hn : ∀ g, hv.ownBlock = some g → ¬ F g
 row : wr.ownsRow w.heap.size 4 1 hv hs.length (boolsV hs)
 box : Blk wr g9 37 dvl
 res : Blk wr (w.heap.size + 1) 37 [.slice none 0 0, .int .i64 0, .slice none 0 0, .slice none 0 0]
 g9 : w.heap.size + 2 ≤ g9
 bel : Below w.heap.size w wr
section
variable {w : World} {gs : Gs} {secs : Int} {N g9 : Nat} {dvl : List Value} {V : DvV} {x : DvsT} {hv : Value} {hs : List Bool} {F : Nat → Prop} {wr wd : World}
theorem DeS.below (h : DeS w gs secs N g9 dvl V x hv hs F wr) (hb : Below wr.heap.size wr wd) : DeS w gs secs N g9 dvl V x hv hs F wd :=
 ⟨h.is.below hb, h.fr, h.hn, owns_below h.row hb, h.box.below hb, h.res.below hb, h.g9, h.bel.trans (hb.mono h.bel.size)⟩
theorem DeS.notF (h : DeS w gs secs N g9 dvl V x hv hs F wr) {g : Nat} {cs : List Value} (hb : Blk wr g 37 cs) : ¬ F g := fun hf => by
 have := h.is.type g hf _ _ _ hb
 unfold DevTy at this
 revert this
 decide
theorem DeS.away (h : DeS w gs secs N g9 dvl V x hv hs F wr) {i : Nat} (hi : i < x.ds.length) (b : Bool) {ba ca : Nat} (e : V.a = .slice (some ⟨ba, 0, none⟩) x.ds.length ca) : DeS w gs secs N g9 dvl V ⟨x.gs, x.secs, x.ds, x.away.set i b⟩ hv hs F (wr.setCell ⟨ba, i, none⟩ (.bool b)) := by
 obtain ⟨ba2, ca2, e2, h1, h2, h3, h4⟩ := h.is.setAway hi b
 rw [e] at e2
 simp only [Value.slice.injEq, Option.some.injEq, Addr.mk.injEq, and_true, true_and] at e2
 obtain ⟨rfl, rfl⟩ := e2
 have hne : ∀ {g : Nat}, g ≠ ba → (wr.setCell ⟨ba, i, none⟩ (.bool b)).heap[g]? = wr.heap[g]? := fun {g} hg => Below.heap_setCell _ _ _ _ hg
 exact ⟨h4, h.fr, h.hn, own_keep h.row (fun g hg => hne (fun e => h.hn g hg (e ▸ h3))), h.box.other (a := ⟨ba, i, none⟩) (fun e => h.notF h.box (by rw [e]; exact h3)) _, h.res.other (a := ⟨ba, i, none⟩) (fun e => h.notF h.res (by rw [e]; exact h3)) _, h.g9, h.bel.setCell (h.fr ba h3) _⟩
theorem DeS.step {x' : DvsT} (h : DeS w gs secs N g9 dvl V x hv hs F wr) (k : DvsStep x' V F wr wd) : ∃ F', DeS w gs secs N g9 dvl V x' hv hs F' wd := by
 obtain ⟨F', h1, h2, h3, h4⟩ := k
 have hrow : ∀ g, hv.ownBlock = some g → g < wr.heap.size := fun g hg => (h.row.lt g hg).2
 refine ⟨F', h1, fun g hg => ?_, fun g hg hf => ?_, own_keep h.row (fun g hg => h2.block g (hrow g hg) (h.hn g hg)), h2.blk h.box (h.notF h.box), h2.blk h.res (h.notF h.res), h.g9, h.bel.trans (h2.toBelow h.fr h.bel.size)⟩
 ·rcases h3 g hg with h5 | h5
  ·exact h.fr g h5
  ·exact Nat.le_trans h.bel.size h5
 ·rcases h3 g hf with h5 | h5
  ·exact h.hn g hg h5
  ·have := hrow g hg; omega
theorem DeS.app {hv' : Value} {b : Bool} (h : DeS w gs secs N g9 dvl V x hv hs F wr) (hg : wr.grownBy wd hv.ownBlock) (ho : wd.ownsRow w.heap.size 4 1 hv' (hs.length + 1) (boolsV hs ++ boolsV [b])) (hn : ∀ g, hv'.ownBlock = some g → ¬ F g) : DeS w gs secs N g9 dvl V x hv' (hs ++ [b]) F wd := by
 refine ⟨h.is.keep (fun g hf => hg.block g (h.is.lt g hf) (fun e => h.hn g e.symm hf)), h.fr, hn, ?_, h.box.ownKept h.row (by decide) hg, h.res.ownKept h.row (by decide) hg, h.g9, below_own h.bel h.row hg h.bel.size (Nat.le_refl _)⟩
 rw [boolsV_append, List.length_append]
 exact ho
end
set_option maxHeartbeats 1600000 in
set_option maxRecDepth 100000 in
theorem devices_pos (ga : Option Addr) (n gc : Nat) (gs : Gs) (secs : Int) (w : World) (h : GSl w ga n gc gs) (ao : Option Addr) (an ac : Nat) (al : List Bool) (ha : BSl w ao an ac al) (lb lof ln lc : Nat) (ll : List Bool) (hlo : BSl w (some ⟨lb, lof, none⟩) ln lc ll) (hln : 0 < ln) (hok : devOk gs secs = true) :
  Calls Tryz.prog 27 #[.agg #[.slice ga n gc, .int .i64 secs], .slice ao an ac, .slice (some ⟨lb, lof, none⟩) ln lc] w fun e w' => ∃ V F hv, e = .returned (.tuple #[V.val secs, hv, .bool true]) ∧ IsDvs w' (devX gs secs al ll (devsN gs)) V F ∧ (∀ g, F g → w.heap.size ≤ g) ∧ Below w.heap.size w w' := by
 unfold devOk at hok
 rw [Bool.and_eq_true, decide_eq_true_eq] at hok
 obtain ⟨hr, h200⟩ := hok
 have hl := h.len
 have hsp := rightB_spec hr
 have hal := ha.len
 have hll := hlo.len
 obtain ⟨p0, hp, hp0, hp1, hp2⟩ := info_parts infoB1
 obtain ⟨w0, hw0⟩ : ∃ w0, w0 = (w.alloc (.cells #[.slice ga n gc, .int .i64 secs] 24)).alloc (.cells #[.slice none 0 0, .int .i64 0, .slice none 0 0, .slice none 0 0] 37) := ⟨_, rfl⟩
 have hb0 : Below w.heap.size w w0 := by rw [hw0]; exact ((Below.refl _ _).alloc (Nat.le_refl _) _).alloc (by simp) _
 have hg0 : Blk w0 w.heap.size 24 [.slice ga n gc, .int .i64 secs] := by rw [hw0]; exact (Blk.new w _ _).alloc _
 have hd0 : Blk w0 (w.heap.size + 1) 37 [.slice none 0 0, .int .i64 0, .slice none 0 0, .slice none 0 0] := by rw [hw0]; exact Blk.newAt (w := w.alloc _) _ _ (by simp)
 have hs0 : w0.heap.size = w.heap.size + 2 := by rw [hw0]; simp
 have HNV := Lib.hid (vnew_any ga n gc gs secs w0 (h.below hb0) hr)
 have HAL : Hid (∀ W, Below w.heap.size w W → 0 < an → ∃ b off, ao = some ⟨b, off, none⟩ ∧ b < w.heap.size ∧ ∀ k, k < an → W.cell? ⟨b, off + k, none⟩ = some (.bool (al.getD k false))) := Lib.hid (fun W hW h0 => by
  obtain ⟨b, off, e, hb, hc⟩ := ha.cells h0
  exact ⟨b, off, e, hb, fun k hk => by rw [World.cell?_of_block (w := w) (hW.block b hb)]; exact hc k hk⟩)
 have HLO : Hid (∀ W, Below w.heap.size w W → (lb < w.heap.size ∧ ∀ k, k < ln → W.cell? ⟨lb, lof + k, none⟩ = some (.bool (ll.getD k false)))) := Lib.hid (fun W hW => by
  obtain ⟨b, off, e, hb, hc⟩ := hlo.cells hln
  simp only [Option.some.injEq, Addr.mk.injEq, and_true] at e
  obtain ⟨rfl, rfl⟩ := e
  exact ⟨hb, fun k hk => by rw [World.cell?_of_block (w := w) (hW.block lb hb)]; exact hc k hk⟩)
 have HAO : Hid (∀ k, an ≤ k → al.getD k false = false) := Lib.hid (fun k hk => by rw [List.getD_eq_getElem?_getD, List.getElem?_eq_none (by omega)]; rfl)
 have HLL : Hid (∀ k, ln ≤ k → ll.getD k false = false) := Lib.hid (fun k hk => by rw [List.getD_eq_getElem?_getD, List.getElem?_eq_none (by omega)]; rfl)
 obtain ⟨N, hN⟩ : ∃ N, N = devsN gs := ⟨_, rfl⟩
 have hNb : N ≤ 32 := by rw [hN]; exact devsN_bd hr
 have HNE := Lib.hid hN
 have HZE := Lib.hid (devX_zero gs secs al ll)
 have HB0 := Lib.hid hb0
 have HD0 := Lib.hid hd0
 have c0 : w0.cell? ⟨w.heap.size, 0, none⟩ = some (.slice ga n gc) := hg0.cell 0
 have c1 : w0.cell? ⟨w.heap.size, 1, none⟩ = some (.int .i64 secs) := hg0.cell 1
 have q1 : ¬ (100 : Int) < (n : Int) := by omega
 have q2 : ¬ (200 : Int) < secs := by omega
 have hlg := hl
 clear h hr hl hsp hal hll ha hlo hN hb0 hg0 hd0
 go_enter Tryz.func27, Tryz.ntmps27
 go_upto_region 1 with fail
 rw [← hw0]
 clear hw0
 go_wp2_with fail
 refine HNV.out.mono ?_
 rintro e w1 ⟨V, F, rfl, hi1, hF1, hb1⟩
 obtain ⟨vg, vgc, vl, vlc, va, vac, rfl, _⟩ := hi1.form
 rw [show (freshX gs secs secs.toNat).gs = gs from rfl, hlg, show (freshX gs secs secs.toNat).ds.length = N from by rw [HNE.out]; simp [freshX]] at hi1 ⊢
 have hval : (DvV.mk (.slice vg n vgc) (.slice vl N vlc) (.slice va N vac)).val secs = .agg #[.slice vg n vgc, .int .i64 secs, .slice vl N vlc, .slice va N vac] := rfl
 rw [hval]
 have B1 : Below w.heap.size w w1 := HB0.out.trans (hb1.mono (by omega))
 have hsz1 : w.heap.size + 2 ≤ w1.heap.size := by have := hb1.size; omega
 have hs1 : DeS w gs secs N w1.heap.size [.slice vg n vgc, .int .i64 secs, .slice vl N vlc, .slice va N vac] ⟨.slice vg n vgc, .slice vl N vlc, .slice va N vac⟩ (devX gs secs al ll 0) (.slice none 0 0) [] F ((w1.alloc (.cells #[.slice none 0 0, .int .i64 0, .slice none 0 0, .slice none 0 0] 37)).setCells w1.heap.size 0 [.slice vg n vgc, .int .i64 secs, .slice vl N vlc, .slice va N vac]) := by
  have hC : Below w1.heap.size w1 ((w1.alloc (.cells #[.slice none 0 0, .int .i64 0, .slice none 0 0, .slice none 0 0] 37)).setCells w1.heap.size 0 [.slice vg n vgc, .int .i64 secs, .slice vl N vlc, .slice va N vac]) := ((Below.refl _ _).alloc (Nat.le_refl _) _).grown (setCells_grown _ _ _ _) (by simp) (fun k e => by have := Option.some.inj e; omega)
  refine ⟨by rw [HZE.out]; exact hi1.below hC, (fun g hg => by have := hF1 g hg; omega), (fun g hg => by cases hg), World.ownsRow_nil _ _ _ _, (Blk.new w1 _ [.slice none 0 0, .int .i64 0, .slice none 0 0, .slice none 0 0]).put rfl, (HD0.out.below hb1).below hC, hsz1, B1.trans (hC.mono B1.size)⟩
 have HS1 := Lib.hid hs1
 have s1 := fun (op : Oper) (a : Act) (next : Act → World → Prop) (Q : Exit → Act → World → Prop) => storeW_part (P := Tryz.prog) (t := 37) (o := 0) (cs := [.slice vg n vgc, .int .i64 secs, .slice vl N vlc, .slice va N vac]) (Blk.new w1 37 [.slice none 0 0, .int .i64 0, .slice none 0 0, .slice none 0 0]) (Nat.le_refl 4) iszDsM (dvs_ones4 _ _ _ _ _ _ _ _ _ _) op a next Q
 clear hi1 hF1 hb1 hs1 c0 c1 hval B1 HZE HNV HD0
 go_upto_region 7 with fail
 obtain ⟨w2, hw2⟩ : ∃ w2, w2 = ((w1.alloc (.cells #[.slice none 0 0, .int .i64 0, .slice none 0 0, .slice none 0 0] 37)).setCells w1.heap.size 0 [.slice vg n vgc, .int .i64 secs, .slice vl N vlc, .slice va N vac]) := ⟨_, rfl⟩
 obtain ⟨g9, hg9⟩ : ∃ g9, g9 = w1.heap.size := ⟨_, rfl⟩
 have HS2 : Hid (DeS w gs secs N g9 [.slice vg n vgc, .int .i64 secs, .slice vl N vlc, .slice va N vac] ⟨.slice vg n vgc, .slice vl N vlc, .slice va N vac⟩ (devX gs secs al ll 0) (.slice none 0 0) [] F w2) := Lib.hid (by rw [hw2, hg9]; exact HS1.out)
 rw [← hw2, ← hg9]
 clear hw2 hg9 HS1 s1
 have b2 : w2.cell? ⟨g9, 2, none⟩ = some (.slice vl N vlc) := HS2.out.box.cell 2
 go_wp2_with fail
 clear b2
 go_loopw [11, 12] (fun vh vi wr => ∃ (k : Nat) (hv : Value) (hs : List Bool) (F : Nat → Prop), k ≤ N ∧ vi = .int .i64 (k : Nat) ∧ vh = hv ∧ hs.length = k ∧ Hid (DeS w gs secs N g9 [.slice vg n vgc, .int .i64 secs, .slice vl N vlc, .slice va N vac] ⟨.slice vg n vgc, .slice vl N vlc, .slice va N vac⟩ (devX gs secs al ll k) hv hs F wr)) (fun _ vi _ => N - (intOf vi).toNat)
 case atStart => exact ⟨0, _, [], F, by omega, rfl, rfl, rfl, HS2⟩
 case round =>
  obtain ⟨k, hv, hs, F2, hk, rfl, rfl, hsl, HR⟩ := hrel
  clear HS2
  obtain ⟨ho, hc, rfl⟩ := own_form HR.out.row
  rw [hsl] at HR ⊢
  have HSL := Lib.hid hsl
  clear hsl
  have b2 : wr.cell? ⟨g9, 2, none⟩ = some (.slice vl N vlc) := HR.out.box.cell 2
  by_cases hkn : k < N
  ·have q1 : (k : Int) < (N : Int) := by omega
   have q0 : 0 ≤ (k : Int) := by omega
   have HLN : Hid ((devX gs secs al ll k).ds.length = N) := Lib.hid (by rw [(devX_n gs secs al ll k).1, HNE.out])
   obtain ⟨ba, ca, ea, a1, a2, a3, _⟩ := HR.out.is.setAway (i := k) (by rw [HLN.out]; exact hkn) (al.getD k false)
   have HEA : Hid ((Value.slice va N vac) = .slice (some ⟨ba, 0, none⟩) N vac) := Lib.hid (by
    rw [HLN.out] at ea
    have e2 : Value.slice va N vac = .slice (some ⟨ba, 0, none⟩) N ca := ea
    simp only [Value.slice.injEq, true_and] at e2
    rw [e2.1])
   have b3 : wr.cell? ⟨g9, 3, none⟩ = some (.slice (some ⟨ba, 0, none⟩) N vac) := by rw [← HEA.out]; exact HR.out.box.cell 3
   have HAW : Hid (DeS w gs secs N g9 [.slice vg n vgc, .int .i64 secs, .slice vl N vlc, .slice va N vac] ⟨.slice vg n vgc, .slice vl N vlc, .slice va N vac⟩ ⟨gs, secs, (devX gs secs al ll k).ds, (devX gs secs al ll k).away.set k (al.getD k false)⟩ (.slice ho k hc) hs F2 (wr.setCell ⟨ba, k, none⟩ (.bool (al.getD k false))).drew) := Lib.hid ((HR.out.away (by rw [HLN.out]; exact hkn) _ (by rw [HLN.out]; exact HEA.out)).below (Below.refl _ _).drew)
   have HBA := Lib.hid (HR.out.fr ba a3)
   obtain ⟨av, hav⟩ : ∃ av, av = al.getD k false := ⟨_, rfl⟩
   rw [← hav] at HAW
   have HAV := Lib.hid hav
   have c3 : wr.drew.cell? ⟨ba, k, none⟩ = some (.bool ((devX gs secs al ll k).away.getD k true)) := a1
   have f3 : wr.drew.frozen? ⟨ba, k, none⟩ = false := a2
   clear ea a1 a2 a3 hav
   have HRB : Hid (Below w.heap.size w wr) := Lib.hid HR.out.bel
   have HBX : Hid (Blk wr g9 37 [.slice vg n vgc, .int .i64 secs, .slice vl N vlc, .slice va N vac]) := Lib.hid HR.out.box
   go_upto_region 10 with fail
   go_cut [11] (fun vh wx => vh = .slice ho k hc ∧ Hid (DeS w gs secs N g9 [.slice vg n vgc, .int .i64 secs, .slice vl N vlc, .slice va N vac] ⟨.slice vg n vgc, .slice vl N vlc, .slice va N vac⟩ ⟨gs, secs, (devX gs secs al ll k).ds, (devX gs secs al ll k).away.set k av⟩ (.slice ho k hc) hs F2 wx))
   case first =>
    by_cases hka : k < an
    ·have q3 : (k : Int) < (an : Int) := by omega
     obtain ⟨ab, aof, eao, hab, hac⟩ := HAL.out wr.drew HRB.out.drew (by omega)
     have hS0 : Blk wr.drew g9 37 [.slice vg n vgc, .int .i64 secs, .slice vl N vlc, .slice va N vac] ∧ wr.drew.cell? ⟨ab, aof + k, none⟩ = some (.bool av) := ⟨HBX.out, by rw [HAV.out]; exact hac k hka⟩
     have HCA : Hid ((wr.setCell ⟨ba, k, none⟩ (.bool av)).drew.cell? ⟨ab, aof + k, none⟩ = some (.bool av)) := Lib.hid (by
      have e9 : (wr.setCell ⟨ba, k, none⟩ (.bool av)).drew.heap[ab]? = wr.heap[ab]? := Below.heap_setCell _ _ _ _ (show ab ≠ ba by have := HBA.out; omega)
      rw [World.cell?_of_block (w := wr) e9]; exact hS0.2)
     clear hac
     have HEAO := Lib.hid eao
     clear eao
     refine wp_region_held_drew (S := fun W => Blk W g9 37 [.slice vg n vgc, .int .i64 secs, .slice vl N vlc, .slice va N vac] ∧ W.cell? ⟨ab, aof + k, none⟩ = some (.bool av)) (by kernel_rfl) hS0 (fun hS0 => ?_)
     refine rtd 0 ?_
     refine rtv (i := 1) (v := ?va1) (hy := ?ya1) (h := ?_)
     case ya1 => intro w hSw; (try dsimp only at hSw); go_simp; rw [hSw.1.cell 3]; dsimp only [List.getElem?_cons_succ, List.getElem?_cons_zero]; rw [HEA.out]; rfl
     try simp only [Act.put, z1, z2, z3]
     refine rtd 2 ?_; refine rtd 3 ?_; refine rtd 4 ?_; refine rtd 5 ?_
     refine rtv (i := 6) (v := ?va6) (hy := ?ya6) (h := ?_)
     case ya6 => intro w hSw; (try dsimp only at hSw); go_simp; first | rfl | (rw [decide_eq_true q3])
     try simp only [Act.put, z1, z2, z3]
     refine rtd 7 ?_
     refine rtv (i := 8) (v := ?va8) (hy := ?ya8) (h := ?_)
     case ya8 => intro w hSw; (try dsimp only at hSw); go_simp; rw [HEAO.out]
     try simp only [Act.put, z1, z2, z3]
     refine rtd 9 ?_; refine rtd 10 ?_; refine rtd 11 ?_; refine rtd 12 ?_; refine rtd 13 ?_
     refine rr1 (i := 14) (h := fun K hK => ?_)
     go_simp
     skip
     refine hK.out _ _ (⟨HAW.out.box, HCA.out⟩) (fun hSa14 => ?_)
     try simp only [Act.put, z1, z2, z3]
     refine wpAnyH_done (by kernel_rfl) ?_ _
     go_wp2_with fail
     go_meet
     exact ⟨rfl, HAW.out⟩
    ·have q3 : ¬ (k : Int) < (an : Int) := by omega
     have HAF : Hid (av = false) := Lib.hid (by rw [HAV.out]; exact HAO.out k (by omega))
     have e9 := HAF.out
     clear HAF
     subst e9
     have hS0 : Blk wr.drew g9 37 [.slice vg n vgc, .int .i64 secs, .slice vl N vlc, .slice va N vac] := HBX.out
     refine wp_region_held_drew (S := fun W => Blk W g9 37 [.slice vg n vgc, .int .i64 secs, .slice vl N vlc, .slice va N vac]) (by kernel_rfl) hS0 (fun hS0 => ?_)
     refine rtd 0 ?_
     refine rtv (i := 1) (v := ?vb1) (hy := ?yb1) (h := ?_)
     case yb1 => intro w hSw; (try dsimp only at hSw); go_simp; rw [hSw.cell 3]; dsimp only [List.getElem?_cons_succ, List.getElem?_cons_zero]; rw [HEA.out]; rfl
     try simp only [Act.put, z1, z2, z3]
     refine rtd 2 ?_; refine rtd 3 ?_; refine rtd 4 ?_; refine rtd 5 ?_
     refine rtv (i := 6) (v := ?vb6) (hy := ?yb6) (h := ?_)
     case yb6 => intro w hSw; (try dsimp only at hSw); go_simp; first | rfl | (rw [decide_eq_false q3])
     try simp only [Act.put, z1, z2, z3]
     refine rtd 7 ?_; refine rtn 8 ?_; refine rtn 9 ?_; refine rtn 10 ?_; refine rtn 11 ?_; refine rtd 12 ?_; refine rtd 13 ?_
     refine rr1 (i := 14) (h := fun K hK => ?_)
     go_simp
     skip
     refine hK.out _ _ (HAW.out.box) (fun hSb14 => ?_)
     try simp only [Act.put, z1, z2, z3]
     refine wpAnyH_done (by kernel_rfl) ?_ _
     go_wp2_with fail
     go_meet
     exact ⟨rfl, HAW.out⟩
   case rest =>
    obtain ⟨rfl, HT⟩ := hcut
    have HTB : Hid (Below w.heap.size w wc) := Lib.hid HT.out.bel
    have d2 : wc.cell? ⟨g9, 2, none⟩ = some (.slice vl N vlc) := HT.out.box.cell 2
    have d3 : wc.cell? ⟨g9, 3, none⟩ = some (.slice (some ⟨ba, 0, none⟩) N vac) := by rw [← HEA.out]; exact HT.out.box.cell 3
    have HLA : Hid (k < N) := Lib.hid hkn
    have da : wc.cell? ⟨ba, k, none⟩ = some (.bool av) := by
     have h9 := HT.out.is
     obtain ⟨ba2, ca2, e2, h1, _⟩ := h9.setAway (i := k) (by show k < (devX gs secs al ll k).ds.length; rw [HLN.out]; exact hkn) true
     have e3 : Value.slice va N vac = .slice (some ⟨ba2, 0, none⟩) (devX gs secs al ll k).ds.length ca2 := e2
     rw [HEA.out] at e3
     simp only [Value.slice.injEq, Option.some.injEq, Addr.mk.injEq, and_true, true_and] at e3
     rw [e3.1, h1]
     show some (Value.bool (((devX gs secs al ll k).away.set k av).getD k true)) = _
     rw [List.getD_eq_getElem?_getD, List.getElem?_set_self (by rw [(devX_n gs secs al ll k).2, ← HNE.out]; exact hkn)]
     rfl
    clear b2 b3 c3 f3 HAW HBA HRB HBX HR
    by_cases hkl : k < ln
    ·have q5 : (k : Int) < (ln : Int) := by omega
     obtain ⟨hlb, hlc⟩ := HLO.out wc HTB.out
     have dl := hlc k hkl
     obtain ⟨lv, hlv⟩ : ∃ lv, lv = ll.getD k false := ⟨_, rfl⟩
     rw [← hlv] at dl
     have HLV := Lib.hid hlv
     have HLB := Lib.hid hlb
     clear hlc hlv hlb
     cases lv with
     | true =>
      obtain ⟨bl, cl, db, e1, e2, e3⟩ := vlose_any HT.out.is (i := k) (by show k < (devX gs secs al ll k).ds.length; rw [HLN.out]; exact hkn)
      have HLE : Hid (Value.slice vl N vlc = .slice (some ⟨bl, 0, none⟩) N vlc) := Lib.hid (by
       have e4 : Value.slice vl N vlc = .slice (some ⟨bl, 0, none⟩) (devX gs secs al ll k).ds.length cl := e1
       rw [(Value.slice.inj e4).1])
      rw [HLE.out] at d2
      have HLC := Lib.hid e3
      have HXE : Hid (((⟨gs, secs, (devX gs secs al ll k).ds, (devX gs secs al ll k).away.set k av⟩ : DvsT).set k ((⟨gs, secs, (devX gs secs al ll k).ds, (devX gs secs al ll k).away.set k av⟩ : DvsT).ds.getD k dvD).lose) = devX gs secs al ll (k + 1)) := Lib.hid (by
       have hkd : k < devsN gs := by rw [← HNE.out]; exact HLA.out
       have e9 := devX_succ (gs := gs) (secs := secs) (al := al) (ll := ll) hkd
       rw [← HLV.out, ← HAV.out] at e9
       rw [e9]
       unfold DvsT.set
       dsimp only
       rw [devX_at hkd, if_pos rfl])
      clear e1 e3
      go_wp2_with fail
      refine HLC.out.mono ?_
      rintro e w5 ⟨rfl, hst⟩
      obtain ⟨F5, ht5⟩ := HT.out.step hst
      rw [HXE.out] at ht5
      have HT5 := Lib.hid ht5
      have da5 : w5.cell? ⟨ba, k, none⟩ = some (.bool av) := by
       have h9 := ht5.is.acellK (i := k) (ba := ba) (n := N) (ca := vac) (by rw [(devX_n gs secs al ll (k + 1)).1, ← HNE.out]; exact HLA.out) HEA.out
       rw [h9, devX_succ (by rw [← HNE.out]; exact HLA.out)]
       show some (Value.bool (((devX gs secs al ll k).away.set k (al.getD k false)).getD k true)) = _
       rw [← HAV.out, List.getD_eq_getElem?_getD, List.getElem?_set_self (by rw [(devX_n gs secs al ll k).2, ← HNE.out]; exact HLA.out)]
       rfl
      have d35 : w5.cell? ⟨g9, 3, none⟩ = some (.slice (some ⟨ba, 0, none⟩) N vac) := by rw [← HEA.out]; exact ht5.box.cell 3
      have dl5 : w5.cell? ⟨lb, lof + k, none⟩ = some (.bool true) := by
       have h9 := (HLO.out w5 ht5.bel).2 k hkl
       rw [← HLV.out] at h9
       exact h9
      have d25 : w5.cell? ⟨g9, 2, none⟩ = some (.slice vl N vlc) := ht5.box.cell 2
      clear hst ht5 d2 d3 da dl e2
      cases av with
      | true =>
       have HRW : Hid (∀ o, (w5.alloc o).ownsRow w.heap.size 4 1 (.slice ho k hc) k (boolsV hs)) := Lib.hid (fun o => by rw [← HSL.out]; have h9 := HT5.out.row; rw [HSL.out]; rw [HSL.out] at h9; exact h9.alloc o)
       have m1 : w.heap.size ≤ w5.heap.size := HT5.out.bel.size
       go_wp2_with (at_builtin; go_must (refine wpList_append_own_at _ rfl (.tmp 68) (.tmp 88) 29 rfl w.heap.size 4 p0 (.bool false) 1 1 Tryz.underlying29 hp hp0 hp1 hp2 rfl (by decide) (.slice ho k hc) k (boolsV hs) rfl (HRW.out _) ⟨w5.heap.size, 0, none⟩ 1 1 (boolsV [false]) rfl rfl (Blk.news (Blk.newAt (w := w5) 4 (boolsV [false]) (by simp))) (boolsV_one _) (by unfold maxLen; omega) (by omega) (by simp; omega) ?_; intro v4 w4 hown4 hgrow4 _ hfr4; have O4 := Lib.hid hown4; have G4 := Lib.hid hgrow4; have N4 := Lib.hid hfr4; clear hown4 hgrow4 hfr4))
       have HN4 : Hid (∀ g, v4.ownBlock = some g → ¬ F5 g) := Lib.hid (fun g hg hf => by
        have hlt := HT5.out.is.lt g hf
        rcases N4.out with h9 | h9
        ·exact HT5.out.hn g (by rw [← h9]; exact hg) hf
        ·rw [h9] at hg; have := Option.some.inj hg; simp at this; omega)
       have DS : Hid (DeS w gs secs N g9 [.slice vg n vgc, .int .i64 secs, .slice vl N vlc, .slice va N vac] ⟨.slice vg n vgc, .slice vl N vlc, .slice va N vac⟩ (devX gs secs al ll (k + 1)) v4 (hs ++ [false]) F5 w4) := Lib.hid ((HT5.out.below ((Below.refl _ _).alloc (Nat.le_refl _) (.cells (boolsV [false]).toArray 4))).app G4.out (by rw [HSL.out]; exact O4.out) HN4.out)
       go_roundw
       case rel => exact ⟨k + 1, v4, hs ++ [false], F5, by omega, by go_num, rfl, by simp [HSL.out], DS⟩
       case measure => simp [intOf]; omega
      | false =>
       have HRW : Hid (∀ o, (w5.alloc o).ownsRow w.heap.size 4 1 (.slice ho k hc) k (boolsV hs)) := Lib.hid (fun o => by rw [← HSL.out]; have h9 := HT5.out.row; rw [HSL.out]; rw [HSL.out] at h9; exact h9.alloc o)
       have m1 : w.heap.size ≤ w5.heap.size := HT5.out.bel.size
       go_wp2_with (at_builtin; go_must (refine wpList_append_own_at _ rfl (.tmp 68) (.tmp 88) 29 rfl w.heap.size 4 p0 (.bool false) 1 1 Tryz.underlying29 hp hp0 hp1 hp2 rfl (by decide) (.slice ho k hc) k (boolsV hs) rfl (HRW.out _) ⟨w5.heap.size, 0, none⟩ 1 1 (boolsV [false]) rfl rfl (Blk.news (Blk.newAt (w := w5) 4 (boolsV [false]) (by simp))) (boolsV_one _) (by unfold maxLen; omega) (by omega) (by simp; omega) ?_; intro v4 w4 hown4 hgrow4 _ hfr4; have O4 := Lib.hid hown4; have G4 := Lib.hid hgrow4; have N4 := Lib.hid hfr4; clear hown4 hgrow4 hfr4))
       have HN4 : Hid (∀ g, v4.ownBlock = some g → ¬ F5 g) := Lib.hid (fun g hg hf => by
        have hlt := HT5.out.is.lt g hf
        rcases N4.out with h9 | h9
        ·exact HT5.out.hn g (by rw [← h9]; exact hg) hf
        ·rw [h9] at hg; have := Option.some.inj hg; simp at this; omega)
       have DS : Hid (DeS w gs secs N g9 [.slice vg n vgc, .int .i64 secs, .slice vl N vlc, .slice va N vac] ⟨.slice vg n vgc, .slice vl N vlc, .slice va N vac⟩ (devX gs secs al ll (k + 1)) v4 (hs ++ [false]) F5 w4) := Lib.hid ((HT5.out.below ((Below.refl _ _).alloc (Nat.le_refl _) (.cells (boolsV [false]).toArray 4))).app G4.out (by rw [HSL.out]; exact O4.out) HN4.out)
       go_roundw
       case rel => exact ⟨k + 1, v4, hs ++ [false], F5, by omega, by go_num, rfl, by simp [HSL.out], DS⟩
       case measure => simp [intOf]; omega
     | false =>
      have HXE : Hid ((⟨gs, secs, (devX gs secs al ll k).ds, (devX gs secs al ll k).away.set k av⟩ : DvsT) = devX gs secs al ll (k + 1)) := Lib.hid (by rw [devX_succ (by rw [← HNE.out]; exact HLA.out), ← HLV.out, ← HAV.out]; rfl)
      rw [HXE.out] at HT
      cases av with
      | true =>
       have HRW : Hid (∀ o, (wc.alloc o).ownsRow w.heap.size 4 1 (.slice ho k hc) k (boolsV hs)) := Lib.hid (fun o => by rw [← HSL.out]; have h9 := HT.out.row; rw [HSL.out]; rw [HSL.out] at h9; exact h9.alloc o)
       have m1 : w.heap.size ≤ wc.heap.size := HT.out.bel.size
       go_wp2_with (at_builtin; go_must (refine wpList_append_own_at _ rfl (.tmp 68) (.tmp 88) 29 rfl w.heap.size 4 p0 (.bool false) 1 1 Tryz.underlying29 hp hp0 hp1 hp2 rfl (by decide) (.slice ho k hc) k (boolsV hs) rfl (HRW.out _) ⟨wc.heap.size, 0, none⟩ 1 1 (boolsV [false]) rfl rfl (Blk.news (Blk.newAt (w := wc) 4 (boolsV [false]) (by simp))) (boolsV_one _) (by unfold maxLen; omega) (by omega) (by simp; omega) ?_; intro v4 w4 hown4 hgrow4 _ hfr4; have O4 := Lib.hid hown4; have G4 := Lib.hid hgrow4; have N4 := Lib.hid hfr4; clear hown4 hgrow4 hfr4))
       have HN4 : Hid (∀ g, v4.ownBlock = some g → ¬ F2 g) := Lib.hid (fun g hg hf => by
        have hlt := HT.out.is.lt g hf
        rcases N4.out with h9 | h9
        ·exact HT.out.hn g (by rw [← h9]; exact hg) hf
        ·rw [h9] at hg; have := Option.some.inj hg; simp at this; omega)
       have DS : Hid (DeS w gs secs N g9 [.slice vg n vgc, .int .i64 secs, .slice vl N vlc, .slice va N vac] ⟨.slice vg n vgc, .slice vl N vlc, .slice va N vac⟩ (devX gs secs al ll (k + 1)) v4 (hs ++ [false]) F2 w4) := Lib.hid ((HT.out.below ((Below.refl _ _).alloc (Nat.le_refl _) (.cells (boolsV [false]).toArray 4))).app G4.out (by rw [HSL.out]; exact O4.out) HN4.out)
       go_roundw
       case rel => exact ⟨k + 1, v4, hs ++ [false], F2, by omega, by go_num, rfl, by simp [HSL.out], DS⟩
       case measure => simp [intOf]; omega
      | false =>
       have HRW : Hid (∀ o, (wc.alloc o).ownsRow w.heap.size 4 1 (.slice ho k hc) k (boolsV hs)) := Lib.hid (fun o => by rw [← HSL.out]; have h9 := HT.out.row; rw [HSL.out]; rw [HSL.out] at h9; exact h9.alloc o)
       have m1 : w.heap.size ≤ wc.heap.size := HT.out.bel.size
       go_wp2_with (at_builtin; go_must (refine wpList_append_own_at _ rfl (.tmp 68) (.tmp 88) 29 rfl w.heap.size 4 p0 (.bool false) 1 1 Tryz.underlying29 hp hp0 hp1 hp2 rfl (by decide) (.slice ho k hc) k (boolsV hs) rfl (HRW.out _) ⟨wc.heap.size, 0, none⟩ 1 1 (boolsV [true]) rfl rfl (Blk.news (Blk.newAt (w := wc) 4 (boolsV [true]) (by simp))) (boolsV_one _) (by unfold maxLen; omega) (by omega) (by simp; omega) ?_; intro v4 w4 hown4 hgrow4 _ hfr4; have O4 := Lib.hid hown4; have G4 := Lib.hid hgrow4; have N4 := Lib.hid hfr4; clear hown4 hgrow4 hfr4))
       have HN4 : Hid (∀ g, v4.ownBlock = some g → ¬ F2 g) := Lib.hid (fun g hg hf => by
        have hlt := HT.out.is.lt g hf
        rcases N4.out with h9 | h9
        ·exact HT.out.hn g (by rw [← h9]; exact hg) hf
        ·rw [h9] at hg; have := Option.some.inj hg; simp at this; omega)
       have DS : Hid (DeS w gs secs N g9 [.slice vg n vgc, .int .i64 secs, .slice vl N vlc, .slice va N vac] ⟨.slice vg n vgc, .slice vl N vlc, .slice va N vac⟩ (devX gs secs al ll (k + 1)) v4 (hs ++ [true]) F2 w4) := Lib.hid ((HT.out.below ((Below.refl _ _).alloc (Nat.le_refl _) (.cells (boolsV [true]).toArray 4))).app G4.out (by rw [HSL.out]; exact O4.out) HN4.out)
       go_roundw
       case rel => exact ⟨k + 1, v4, hs ++ [true], F2, by omega, by go_num, rfl, by simp [HSL.out], DS⟩
       case measure => simp [intOf]; omega
    ·have q5 : ¬ (k : Int) < (ln : Int) := by omega
     have HXE : Hid ((⟨gs, secs, (devX gs secs al ll k).ds, (devX gs secs al ll k).away.set k av⟩ : DvsT) = devX gs secs al ll (k + 1)) := Lib.hid (by rw [devX_succ (by rw [← HNE.out]; exact HLA.out), HLL.out k (by omega), ← HAV.out]; rfl)
     rw [HXE.out] at HT
     cases av with
     | true =>
      have HRW : Hid (∀ o, (wc.alloc o).ownsRow w.heap.size 4 1 (.slice ho k hc) k (boolsV hs)) := Lib.hid (fun o => by rw [← HSL.out]; have h9 := HT.out.row; rw [HSL.out]; rw [HSL.out] at h9; exact h9.alloc o)
      have m1 : w.heap.size ≤ wc.heap.size := HT.out.bel.size
      go_wp2_with (at_builtin; go_must (refine wpList_append_own_at _ rfl (.tmp 68) (.tmp 88) 29 rfl w.heap.size 4 p0 (.bool false) 1 1 Tryz.underlying29 hp hp0 hp1 hp2 rfl (by decide) (.slice ho k hc) k (boolsV hs) rfl (HRW.out _) ⟨wc.heap.size, 0, none⟩ 1 1 (boolsV [false]) rfl rfl (Blk.news (Blk.newAt (w := wc) 4 (boolsV [false]) (by simp))) (boolsV_one _) (by unfold maxLen; omega) (by omega) (by simp; omega) ?_; intro v4 w4 hown4 hgrow4 _ hfr4; have O4 := Lib.hid hown4; have G4 := Lib.hid hgrow4; have N4 := Lib.hid hfr4; clear hown4 hgrow4 hfr4))
      have HN4 : Hid (∀ g, v4.ownBlock = some g → ¬ F2 g) := Lib.hid (fun g hg hf => by
       have hlt := HT.out.is.lt g hf
       rcases N4.out with h9 | h9
       ·exact HT.out.hn g (by rw [← h9]; exact hg) hf
       ·rw [h9] at hg; have := Option.some.inj hg; simp at this; omega)
      have DS : Hid (DeS w gs secs N g9 [.slice vg n vgc, .int .i64 secs, .slice vl N vlc, .slice va N vac] ⟨.slice vg n vgc, .slice vl N vlc, .slice va N vac⟩ (devX gs secs al ll (k + 1)) v4 (hs ++ [false]) F2 w4) := Lib.hid ((HT.out.below ((Below.refl _ _).alloc (Nat.le_refl _) (.cells (boolsV [false]).toArray 4))).app G4.out (by rw [HSL.out]; exact O4.out) HN4.out)
      go_roundw
      case rel => exact ⟨k + 1, v4, hs ++ [false], F2, by omega, by go_num, rfl, by simp [HSL.out], DS⟩
      case measure => simp [intOf]; omega
     | false =>
      have HRW : Hid (∀ o, (wc.alloc o).ownsRow w.heap.size 4 1 (.slice ho k hc) k (boolsV hs)) := Lib.hid (fun o => by rw [← HSL.out]; have h9 := HT.out.row; rw [HSL.out]; rw [HSL.out] at h9; exact h9.alloc o)
      have m1 : w.heap.size ≤ wc.heap.size := HT.out.bel.size
      go_wp2_with (at_builtin; go_must (refine wpList_append_own_at _ rfl (.tmp 68) (.tmp 88) 29 rfl w.heap.size 4 p0 (.bool false) 1 1 Tryz.underlying29 hp hp0 hp1 hp2 rfl (by decide) (.slice ho k hc) k (boolsV hs) rfl (HRW.out _) ⟨wc.heap.size, 0, none⟩ 1 1 (boolsV [true]) rfl rfl (Blk.news (Blk.newAt (w := wc) 4 (boolsV [true]) (by simp))) (boolsV_one _) (by unfold maxLen; omega) (by omega) (by simp; omega) ?_; intro v4 w4 hown4 hgrow4 _ hfr4; have O4 := Lib.hid hown4; have G4 := Lib.hid hgrow4; have N4 := Lib.hid hfr4; clear hown4 hgrow4 hfr4))
      have HN4 : Hid (∀ g, v4.ownBlock = some g → ¬ F2 g) := Lib.hid (fun g hg hf => by
       have hlt := HT.out.is.lt g hf
       rcases N4.out with h9 | h9
       ·exact HT.out.hn g (by rw [← h9]; exact hg) hf
       ·rw [h9] at hg; have := Option.some.inj hg; simp at this; omega)
      have DS : Hid (DeS w gs secs N g9 [.slice vg n vgc, .int .i64 secs, .slice vl N vlc, .slice va N vac] ⟨.slice vg n vgc, .slice vl N vlc, .slice va N vac⟩ (devX gs secs al ll (k + 1)) v4 (hs ++ [true]) F2 w4) := Lib.hid ((HT.out.below ((Below.refl _ _).alloc (Nat.le_refl _) (.cells (boolsV [true]).toArray 4))).app G4.out (by rw [HSL.out]; exact O4.out) HN4.out)
      go_roundw
      case rel => exact ⟨k + 1, v4, hs ++ [true], F2, by omega, by go_num, rfl, by simp [HSL.out], DS⟩
      case measure => simp [intOf]; omega
  ·have hkn' : k = N := by omega
   subst hkn'
   have q1 : ¬ (k : Int) < (k : Int) := by omega
   have l2 := fun (op : Oper) (a : Act) (next : Act → World → Prop) (Q : Exit → Act → World → Prop) => loadW_mid (P := Tryz.prog) (t := 37) (range_all HR.out.box) Tryz.underlying37 rfl iszDsM op a next Q
   have s2 := fun (op : Oper) (a : Act) (next : Act → World → Prop) (Q : Exit → Act → World → Prop) => storeW_part (P := Tryz.prog) (t := 37) (o := 0) (cs := [.slice vg n vgc, .int .i64 secs, .slice vl k vlc, .slice va k vac]) HR.out.res (Nat.le_refl 4) iszDsM (dvs_ones4 _ _ _ _ _ _ _ _ _ _) op a next Q
   have HR2 : Hid (Blk (wr.setCells (w.heap.size + 1) 0 [.slice vg n vgc, .int .i64 secs, .slice vl k vlc, .slice va k vac]) (w.heap.size + 1) 37 [.slice vg n vgc, .int .i64 secs, .slice vl k vlc, .slice va k vac]) := Lib.hid (HR.out.res.put rfl)
   have HT : Hid (IsDvs (wr.setCells (w.heap.size + 1) 0 [.slice vg n vgc, .int .i64 secs, .slice vl k vlc, .slice va k vac]) (devX gs secs al ll (devsN gs)) ⟨.slice vg n vgc, .slice vl k vlc, .slice va k vac⟩ F2) := Lib.hid (by
    rw [← HNE.out]
    exact HR.out.is.keep (fun g hg => (setCells_grown (w.heap.size + 1) _ wr 0).block g (HR.out.is.lt g hg) (fun e => by
     have e2 := Option.some.inj e
     subst e2
     exact HR.out.notF HR.out.res hg)))
   have HBF : Hid (Below w.heap.size w (wr.setCells (w.heap.size + 1) 0 [.slice vg n vgc, .int .i64 secs, .slice vl k vlc, .slice va k vac])) := Lib.hid (HR.out.bel.grown (setCells_grown _ _ _ _) HR.out.bel.size (fun k e => by have := Option.some.inj e; omega))
   have HFR := Lib.hid HR.out.fr
   go_wp2_with fail
   refine bodyPost_ret (results_dvs3 rfl _ _ (w.heap.size + 1) _ _ _ _ rfl HR2.out) rfl ?_
   first | exact ⟨_, ⟨_, rfl⟩, F2, HT.out, HFR.out, HBF.out⟩ | exact ⟨_, F2, ⟨_, rfl⟩, HT.out, HFR.out, HBF.out⟩
set_option maxHeartbeats 1600000 in
set_option maxRecDepth 100000 in
theorem devices_zero (ga : Option Addr) (n gc : Nat) (gs : Gs) (secs : Int) (w : World) (h : GSl w ga n gc gs) (ao : Option Addr) (an ac : Nat) (al : List Bool) (ha : BSl w ao an ac al) (lo : Option Addr) (lc : Nat) (hok : devOk gs secs = true) :
  Calls Tryz.prog 27 #[.agg #[.slice ga n gc, .int .i64 secs], .slice ao an ac, .slice lo 0 lc] w fun e w' => ∃ V F hv, e = .returned (.tuple #[V.val secs, hv, .bool true]) ∧ IsDvs w' (devX gs secs al [] (devsN gs)) V F ∧ (∀ g, F g → w.heap.size ≤ g) ∧ Below w.heap.size w w' := by
 unfold devOk at hok
 rw [Bool.and_eq_true, decide_eq_true_eq] at hok
 obtain ⟨hr, h200⟩ := hok
 have hl := h.len
 have hsp := rightB_spec hr
 have hal := ha.len
 obtain ⟨p0, hp, hp0, hp1, hp2⟩ := info_parts infoB1
 obtain ⟨w0, hw0⟩ : ∃ w0, w0 = (w.alloc (.cells #[.slice ga n gc, .int .i64 secs] 24)).alloc (.cells #[.slice none 0 0, .int .i64 0, .slice none 0 0, .slice none 0 0] 37) := ⟨_, rfl⟩
 have hb0 : Below w.heap.size w w0 := by rw [hw0]; exact ((Below.refl _ _).alloc (Nat.le_refl _) _).alloc (by simp) _
 have hg0 : Blk w0 w.heap.size 24 [.slice ga n gc, .int .i64 secs] := by rw [hw0]; exact (Blk.new w _ _).alloc _
 have hd0 : Blk w0 (w.heap.size + 1) 37 [.slice none 0 0, .int .i64 0, .slice none 0 0, .slice none 0 0] := by rw [hw0]; exact Blk.newAt (w := w.alloc _) _ _ (by simp)
 have hs0 : w0.heap.size = w.heap.size + 2 := by rw [hw0]; simp
 have HNV := Lib.hid (vnew_any ga n gc gs secs w0 (h.below hb0) hr)
 have HAL : Hid (∀ W, Below w.heap.size w W → 0 < an → ∃ b off, ao = some ⟨b, off, none⟩ ∧ b < w.heap.size ∧ ∀ k, k < an → W.cell? ⟨b, off + k, none⟩ = some (.bool (al.getD k false))) := Lib.hid (fun W hW h0 => by
  obtain ⟨b, off, e, hb, hc⟩ := ha.cells h0
  exact ⟨b, off, e, hb, fun k hk => by rw [World.cell?_of_block (w := w) (hW.block b hb)]; exact hc k hk⟩)
 have HAO : Hid (∀ k, an ≤ k → al.getD k false = false) := Lib.hid (fun k hk => by rw [List.getD_eq_getElem?_getD, List.getElem?_eq_none (by omega)]; rfl)
 have HLL : Hid (∀ k, ([] : List Bool).getD k false = false) := Lib.hid (fun k => rfl)
 obtain ⟨N, hN⟩ : ∃ N, N = devsN gs := ⟨_, rfl⟩
 have hNb : N ≤ 32 := by rw [hN]; exact devsN_bd hr
 have HNE := Lib.hid hN
 have HZE := Lib.hid (devX_zero gs secs al [])
 have HB0 := Lib.hid hb0
 have HD0 := Lib.hid hd0
 have c0 : w0.cell? ⟨w.heap.size, 0, none⟩ = some (.slice ga n gc) := hg0.cell 0
 have c1 : w0.cell? ⟨w.heap.size, 1, none⟩ = some (.int .i64 secs) := hg0.cell 1
 have q1 : ¬ (100 : Int) < (n : Int) := by omega
 have q2 : ¬ (200 : Int) < secs := by omega
 have hlg := hl
 clear h hr hl hsp hal ha hN hb0 hg0 hd0
 go_enter Tryz.func27, Tryz.ntmps27
 go_upto_region 1 with fail
 rw [← hw0]
 clear hw0
 go_wp2_with fail
 refine HNV.out.mono ?_
 rintro e w1 ⟨V, F, rfl, hi1, hF1, hb1⟩
 obtain ⟨vg, vgc, vl, vlc, va, vac, rfl, _⟩ := hi1.form
 rw [show (freshX gs secs secs.toNat).gs = gs from rfl, hlg, show (freshX gs secs secs.toNat).ds.length = N from by rw [HNE.out]; simp [freshX]] at hi1 ⊢
 have hval : (DvV.mk (.slice vg n vgc) (.slice vl N vlc) (.slice va N vac)).val secs = .agg #[.slice vg n vgc, .int .i64 secs, .slice vl N vlc, .slice va N vac] := rfl
 rw [hval]
 have B1 : Below w.heap.size w w1 := HB0.out.trans (hb1.mono (by omega))
 have hsz1 : w.heap.size + 2 ≤ w1.heap.size := by have := hb1.size; omega
 have hs1 : DeS w gs secs N w1.heap.size [.slice vg n vgc, .int .i64 secs, .slice vl N vlc, .slice va N vac] ⟨.slice vg n vgc, .slice vl N vlc, .slice va N vac⟩ (devX gs secs al [] 0) (.slice none 0 0) [] F ((w1.alloc (.cells #[.slice none 0 0, .int .i64 0, .slice none 0 0, .slice none 0 0] 37)).setCells w1.heap.size 0 [.slice vg n vgc, .int .i64 secs, .slice vl N vlc, .slice va N vac]) := by
  have hC : Below w1.heap.size w1 ((w1.alloc (.cells #[.slice none 0 0, .int .i64 0, .slice none 0 0, .slice none 0 0] 37)).setCells w1.heap.size 0 [.slice vg n vgc, .int .i64 secs, .slice vl N vlc, .slice va N vac]) := ((Below.refl _ _).alloc (Nat.le_refl _) _).grown (setCells_grown _ _ _ _) (by simp) (fun k e => by have := Option.some.inj e; omega)
  refine ⟨by rw [HZE.out]; exact hi1.below hC, (fun g hg => by have := hF1 g hg; omega), (fun g hg => by cases hg), World.ownsRow_nil _ _ _ _, (Blk.new w1 _ [.slice none 0 0, .int .i64 0, .slice none 0 0, .slice none 0 0]).put rfl, (HD0.out.below hb1).below hC, hsz1, B1.trans (hC.mono B1.size)⟩
 have HS1 := Lib.hid hs1
 have s1 := fun (op : Oper) (a : Act) (next : Act → World → Prop) (Q : Exit → Act → World → Prop) => storeW_part (P := Tryz.prog) (t := 37) (o := 0) (cs := [.slice vg n vgc, .int .i64 secs, .slice vl N vlc, .slice va N vac]) (Blk.new w1 37 [.slice none 0 0, .int .i64 0, .slice none 0 0, .slice none 0 0]) (Nat.le_refl 4) iszDsM (dvs_ones4 _ _ _ _ _ _ _ _ _ _) op a next Q
 clear hi1 hF1 hb1 hs1 c0 c1 hval B1 HZE HNV HD0
 go_upto_region 7 with fail
 obtain ⟨w2, hw2⟩ : ∃ w2, w2 = ((w1.alloc (.cells #[.slice none 0 0, .int .i64 0, .slice none 0 0, .slice none 0 0] 37)).setCells w1.heap.size 0 [.slice vg n vgc, .int .i64 secs, .slice vl N vlc, .slice va N vac]) := ⟨_, rfl⟩
 obtain ⟨g9, hg9⟩ : ∃ g9, g9 = w1.heap.size := ⟨_, rfl⟩
 have HS2 : Hid (DeS w gs secs N g9 [.slice vg n vgc, .int .i64 secs, .slice vl N vlc, .slice va N vac] ⟨.slice vg n vgc, .slice vl N vlc, .slice va N vac⟩ (devX gs secs al [] 0) (.slice none 0 0) [] F w2) := Lib.hid (by rw [hw2, hg9]; exact HS1.out)
 rw [← hw2, ← hg9]
 clear hw2 hg9 HS1 s1
 have b2 : w2.cell? ⟨g9, 2, none⟩ = some (.slice vl N vlc) := HS2.out.box.cell 2
 go_wp2_with fail
 clear b2
 go_loopw [11, 12] (fun vh vi wr => ∃ (k : Nat) (hv : Value) (hs : List Bool) (F : Nat → Prop), k ≤ N ∧ vi = .int .i64 (k : Nat) ∧ vh = hv ∧ hs.length = k ∧ Hid (DeS w gs secs N g9 [.slice vg n vgc, .int .i64 secs, .slice vl N vlc, .slice va N vac] ⟨.slice vg n vgc, .slice vl N vlc, .slice va N vac⟩ (devX gs secs al [] k) hv hs F wr)) (fun _ vi _ => N - (intOf vi).toNat)
 case atStart => exact ⟨0, _, [], F, by omega, rfl, rfl, rfl, HS2⟩
 case round =>
  obtain ⟨k, hv, hs, F2, hk, rfl, rfl, hsl, HR⟩ := hrel
  clear HS2
  obtain ⟨ho, hc, rfl⟩ := own_form HR.out.row
  rw [hsl] at HR ⊢
  have HSL := Lib.hid hsl
  clear hsl
  have b2 : wr.cell? ⟨g9, 2, none⟩ = some (.slice vl N vlc) := HR.out.box.cell 2
  by_cases hkn : k < N
  ·have q1 : (k : Int) < (N : Int) := by omega
   have q0 : 0 ≤ (k : Int) := by omega
   have HLN : Hid ((devX gs secs al [] k).ds.length = N) := Lib.hid (by rw [(devX_n gs secs al [] k).1, HNE.out])
   obtain ⟨ba, ca, ea, a1, a2, a3, _⟩ := HR.out.is.setAway (i := k) (by rw [HLN.out]; exact hkn) (al.getD k false)
   have HEA : Hid ((Value.slice va N vac) = .slice (some ⟨ba, 0, none⟩) N vac) := Lib.hid (by
    rw [HLN.out] at ea
    have e2 : Value.slice va N vac = .slice (some ⟨ba, 0, none⟩) N ca := ea
    simp only [Value.slice.injEq, true_and] at e2
    rw [e2.1])
   have b3 : wr.cell? ⟨g9, 3, none⟩ = some (.slice (some ⟨ba, 0, none⟩) N vac) := by rw [← HEA.out]; exact HR.out.box.cell 3
   have HAW : Hid (DeS w gs secs N g9 [.slice vg n vgc, .int .i64 secs, .slice vl N vlc, .slice va N vac] ⟨.slice vg n vgc, .slice vl N vlc, .slice va N vac⟩ ⟨gs, secs, (devX gs secs al [] k).ds, (devX gs secs al [] k).away.set k (al.getD k false)⟩ (.slice ho k hc) hs F2 (wr.setCell ⟨ba, k, none⟩ (.bool (al.getD k false))).drew) := Lib.hid ((HR.out.away (by rw [HLN.out]; exact hkn) _ (by rw [HLN.out]; exact HEA.out)).below (Below.refl _ _).drew)
   have HBA := Lib.hid (HR.out.fr ba a3)
   obtain ⟨av, hav⟩ : ∃ av, av = al.getD k false := ⟨_, rfl⟩
   rw [← hav] at HAW
   have HAV := Lib.hid hav
   have c3 : wr.drew.cell? ⟨ba, k, none⟩ = some (.bool ((devX gs secs al [] k).away.getD k true)) := a1
   have f3 : wr.drew.frozen? ⟨ba, k, none⟩ = false := a2
   clear ea a1 a2 a3 hav
   have HRB : Hid (Below w.heap.size w wr) := Lib.hid HR.out.bel
   have HBX : Hid (Blk wr g9 37 [.slice vg n vgc, .int .i64 secs, .slice vl N vlc, .slice va N vac]) := Lib.hid HR.out.box
   go_upto_region 10 with fail
   go_cut [11] (fun vh wx => vh = .slice ho k hc ∧ Hid (DeS w gs secs N g9 [.slice vg n vgc, .int .i64 secs, .slice vl N vlc, .slice va N vac] ⟨.slice vg n vgc, .slice vl N vlc, .slice va N vac⟩ ⟨gs, secs, (devX gs secs al [] k).ds, (devX gs secs al [] k).away.set k av⟩ (.slice ho k hc) hs F2 wx))
   case first =>
    by_cases hka : k < an
    ·have q3 : (k : Int) < (an : Int) := by omega
     obtain ⟨ab, aof, eao, hab, hac⟩ := HAL.out wr.drew HRB.out.drew (by omega)
     have hS0 : Blk wr.drew g9 37 [.slice vg n vgc, .int .i64 secs, .slice vl N vlc, .slice va N vac] ∧ wr.drew.cell? ⟨ab, aof + k, none⟩ = some (.bool av) := ⟨HBX.out, by rw [HAV.out]; exact hac k hka⟩
     have HCA : Hid ((wr.setCell ⟨ba, k, none⟩ (.bool av)).drew.cell? ⟨ab, aof + k, none⟩ = some (.bool av)) := Lib.hid (by
      have e9 : (wr.setCell ⟨ba, k, none⟩ (.bool av)).drew.heap[ab]? = wr.heap[ab]? := Below.heap_setCell _ _ _ _ (show ab ≠ ba by have := HBA.out; omega)
      rw [World.cell?_of_block (w := wr) e9]; exact hS0.2)
     clear hac
     have HEAO := Lib.hid eao
     clear eao
     refine wp_region_held_drew (S := fun W => Blk W g9 37 [.slice vg n vgc, .int .i64 secs, .slice vl N vlc, .slice va N vac] ∧ W.cell? ⟨ab, aof + k, none⟩ = some (.bool av)) (by kernel_rfl) hS0 (fun hS0 => ?_)
     refine rtd 0 ?_
     refine rtv (i := 1) (v := ?va1) (hy := ?ya1) (h := ?_)
     case ya1 => intro w hSw; (try dsimp only at hSw); go_simp; rw [hSw.1.cell 3]; dsimp only [List.getElem?_cons_succ, List.getElem?_cons_zero]; rw [HEA.out]; rfl
     try simp only [Act.put, z1, z2, z3]
     refine rtd 2 ?_; refine rtd 3 ?_; refine rtd 4 ?_; refine rtd 5 ?_
     refine rtv (i := 6) (v := ?va6) (hy := ?ya6) (h := ?_)
     case ya6 => intro w hSw; (try dsimp only at hSw); go_simp; first | rfl | (rw [decide_eq_true q3])
     try simp only [Act.put, z1, z2, z3]
     refine rtd 7 ?_
     refine rtv (i := 8) (v := ?va8) (hy := ?ya8) (h := ?_)
     case ya8 => intro w hSw; (try dsimp only at hSw); go_simp; rw [HEAO.out]
     try simp only [Act.put, z1, z2, z3]
     refine rtd 9 ?_; refine rtd 10 ?_; refine rtd 11 ?_; refine rtd 12 ?_; refine rtd 13 ?_
     refine rr1 (i := 14) (h := fun K hK => ?_)
     go_simp
     skip
     refine hK.out _ _ (⟨HAW.out.box, HCA.out⟩) (fun hSa14 => ?_)
     try simp only [Act.put, z1, z2, z3]
     refine wpAnyH_done (by kernel_rfl) ?_ _
     go_wp2_with fail
     go_meet
     exact ⟨rfl, HAW.out⟩
    ·have q3 : ¬ (k : Int) < (an : Int) := by omega
     have HAF : Hid (av = false) := Lib.hid (by rw [HAV.out]; exact HAO.out k (by omega))
     have e9 := HAF.out
     clear HAF
     subst e9
     have hS0 : Blk wr.drew g9 37 [.slice vg n vgc, .int .i64 secs, .slice vl N vlc, .slice va N vac] := HBX.out
     refine wp_region_held_drew (S := fun W => Blk W g9 37 [.slice vg n vgc, .int .i64 secs, .slice vl N vlc, .slice va N vac]) (by kernel_rfl) hS0 (fun hS0 => ?_)
     refine rtd 0 ?_
     refine rtv (i := 1) (v := ?vb1) (hy := ?yb1) (h := ?_)
     case yb1 => intro w hSw; (try dsimp only at hSw); go_simp; rw [hSw.cell 3]; dsimp only [List.getElem?_cons_succ, List.getElem?_cons_zero]; rw [HEA.out]; rfl
     try simp only [Act.put, z1, z2, z3]
     refine rtd 2 ?_; refine rtd 3 ?_; refine rtd 4 ?_; refine rtd 5 ?_
     refine rtv (i := 6) (v := ?vb6) (hy := ?yb6) (h := ?_)
     case yb6 => intro w hSw; (try dsimp only at hSw); go_simp; first | rfl | (rw [decide_eq_false q3])
     try simp only [Act.put, z1, z2, z3]
     refine rtd 7 ?_; refine rtn 8 ?_; refine rtn 9 ?_; refine rtn 10 ?_; refine rtn 11 ?_; refine rtd 12 ?_; refine rtd 13 ?_
     refine rr1 (i := 14) (h := fun K hK => ?_)
     go_simp
     skip
     refine hK.out _ _ (HAW.out.box) (fun hSb14 => ?_)
     try simp only [Act.put, z1, z2, z3]
     refine wpAnyH_done (by kernel_rfl) ?_ _
     go_wp2_with fail
     go_meet
     exact ⟨rfl, HAW.out⟩
   case rest =>
    obtain ⟨rfl, HT⟩ := hcut
    have HTB : Hid (Below w.heap.size w wc) := Lib.hid HT.out.bel
    have d2 : wc.cell? ⟨g9, 2, none⟩ = some (.slice vl N vlc) := HT.out.box.cell 2
    have d3 : wc.cell? ⟨g9, 3, none⟩ = some (.slice (some ⟨ba, 0, none⟩) N vac) := by rw [← HEA.out]; exact HT.out.box.cell 3
    have HLA : Hid (k < N) := Lib.hid hkn
    have da : wc.cell? ⟨ba, k, none⟩ = some (.bool av) := by
     have h9 := HT.out.is
     obtain ⟨ba2, ca2, e2, h1, _⟩ := h9.setAway (i := k) (by show k < (devX gs secs al [] k).ds.length; rw [HLN.out]; exact hkn) true
     have e3 : Value.slice va N vac = .slice (some ⟨ba2, 0, none⟩) (devX gs secs al [] k).ds.length ca2 := e2
     rw [HEA.out] at e3
     simp only [Value.slice.injEq, Option.some.injEq, Addr.mk.injEq, and_true, true_and] at e3
     rw [e3.1, h1]
     show some (Value.bool (((devX gs secs al [] k).away.set k av).getD k true)) = _
     rw [List.getD_eq_getElem?_getD, List.getElem?_set_self (by rw [(devX_n gs secs al [] k).2, ← HNE.out]; exact hkn)]
     rfl
    clear b2 b3 c3 f3 HAW HBA HRB HBX HR
    ·have q5 : ¬ (k : Int) < 0 := by omega
     have HXE : Hid ((⟨gs, secs, (devX gs secs al [] k).ds, (devX gs secs al [] k).away.set k av⟩ : DvsT) = devX gs secs al [] (k + 1)) := Lib.hid (by rw [devX_succ (by rw [← HNE.out]; exact HLA.out), HLL.out k, ← HAV.out]; rfl)
     rw [HXE.out] at HT
     cases av with
     | true =>
      have HRW : Hid (∀ o, (wc.alloc o).ownsRow w.heap.size 4 1 (.slice ho k hc) k (boolsV hs)) := Lib.hid (fun o => by rw [← HSL.out]; have h9 := HT.out.row; rw [HSL.out]; rw [HSL.out] at h9; exact h9.alloc o)
      have m1 : w.heap.size ≤ wc.heap.size := HT.out.bel.size
      go_wp2_with (at_builtin; go_must (refine wpList_append_own_at _ rfl (.tmp 68) (.tmp 88) 29 rfl w.heap.size 4 p0 (.bool false) 1 1 Tryz.underlying29 hp hp0 hp1 hp2 rfl (by decide) (.slice ho k hc) k (boolsV hs) rfl (HRW.out _) ⟨wc.heap.size, 0, none⟩ 1 1 (boolsV [false]) rfl rfl (Blk.news (Blk.newAt (w := wc) 4 (boolsV [false]) (by simp))) (boolsV_one _) (by unfold maxLen; omega) (by omega) (by simp; omega) ?_; intro v4 w4 hown4 hgrow4 _ hfr4; have O4 := Lib.hid hown4; have G4 := Lib.hid hgrow4; have N4 := Lib.hid hfr4; clear hown4 hgrow4 hfr4))
      have HN4 : Hid (∀ g, v4.ownBlock = some g → ¬ F2 g) := Lib.hid (fun g hg hf => by
       have hlt := HT.out.is.lt g hf
       rcases N4.out with h9 | h9
       ·exact HT.out.hn g (by rw [← h9]; exact hg) hf
       ·rw [h9] at hg; have := Option.some.inj hg; simp at this; omega)
      have DS : Hid (DeS w gs secs N g9 [.slice vg n vgc, .int .i64 secs, .slice vl N vlc, .slice va N vac] ⟨.slice vg n vgc, .slice vl N vlc, .slice va N vac⟩ (devX gs secs al [] (k + 1)) v4 (hs ++ [false]) F2 w4) := Lib.hid ((HT.out.below ((Below.refl _ _).alloc (Nat.le_refl _) (.cells (boolsV [false]).toArray 4))).app G4.out (by rw [HSL.out]; exact O4.out) HN4.out)
      go_roundw
      case rel => exact ⟨k + 1, v4, hs ++ [false], F2, by omega, by go_num, rfl, by simp [HSL.out], DS⟩
      case measure => simp [intOf]; omega
     | false =>
      have HRW : Hid (∀ o, (wc.alloc o).ownsRow w.heap.size 4 1 (.slice ho k hc) k (boolsV hs)) := Lib.hid (fun o => by rw [← HSL.out]; have h9 := HT.out.row; rw [HSL.out]; rw [HSL.out] at h9; exact h9.alloc o)
      have m1 : w.heap.size ≤ wc.heap.size := HT.out.bel.size
      go_wp2_with (at_builtin; go_must (refine wpList_append_own_at _ rfl (.tmp 68) (.tmp 88) 29 rfl w.heap.size 4 p0 (.bool false) 1 1 Tryz.underlying29 hp hp0 hp1 hp2 rfl (by decide) (.slice ho k hc) k (boolsV hs) rfl (HRW.out _) ⟨wc.heap.size, 0, none⟩ 1 1 (boolsV [true]) rfl rfl (Blk.news (Blk.newAt (w := wc) 4 (boolsV [true]) (by simp))) (boolsV_one _) (by unfold maxLen; omega) (by omega) (by simp; omega) ?_; intro v4 w4 hown4 hgrow4 _ hfr4; have O4 := Lib.hid hown4; have G4 := Lib.hid hgrow4; have N4 := Lib.hid hfr4; clear hown4 hgrow4 hfr4))
      have HN4 : Hid (∀ g, v4.ownBlock = some g → ¬ F2 g) := Lib.hid (fun g hg hf => by
       have hlt := HT.out.is.lt g hf
       rcases N4.out with h9 | h9
       ·exact HT.out.hn g (by rw [← h9]; exact hg) hf
       ·rw [h9] at hg; have := Option.some.inj hg; simp at this; omega)
      have DS : Hid (DeS w gs secs N g9 [.slice vg n vgc, .int .i64 secs, .slice vl N vlc, .slice va N vac] ⟨.slice vg n vgc, .slice vl N vlc, .slice va N vac⟩ (devX gs secs al [] (k + 1)) v4 (hs ++ [true]) F2 w4) := Lib.hid ((HT.out.below ((Below.refl _ _).alloc (Nat.le_refl _) (.cells (boolsV [true]).toArray 4))).app G4.out (by rw [HSL.out]; exact O4.out) HN4.out)
      go_roundw
      case rel => exact ⟨k + 1, v4, hs ++ [true], F2, by omega, by go_num, rfl, by simp [HSL.out], DS⟩
      case measure => simp [intOf]; omega
  ·have hkn' : k = N := by omega
   subst hkn'
   have q1 : ¬ (k : Int) < (k : Int) := by omega
   have l2 := fun (op : Oper) (a : Act) (next : Act → World → Prop) (Q : Exit → Act → World → Prop) => loadW_mid (P := Tryz.prog) (t := 37) (range_all HR.out.box) Tryz.underlying37 rfl iszDsM op a next Q
   have s2 := fun (op : Oper) (a : Act) (next : Act → World → Prop) (Q : Exit → Act → World → Prop) => storeW_part (P := Tryz.prog) (t := 37) (o := 0) (cs := [.slice vg n vgc, .int .i64 secs, .slice vl k vlc, .slice va k vac]) HR.out.res (Nat.le_refl 4) iszDsM (dvs_ones4 _ _ _ _ _ _ _ _ _ _) op a next Q
   have HR2 : Hid (Blk (wr.setCells (w.heap.size + 1) 0 [.slice vg n vgc, .int .i64 secs, .slice vl k vlc, .slice va k vac]) (w.heap.size + 1) 37 [.slice vg n vgc, .int .i64 secs, .slice vl k vlc, .slice va k vac]) := Lib.hid (HR.out.res.put rfl)
   have HT : Hid (IsDvs (wr.setCells (w.heap.size + 1) 0 [.slice vg n vgc, .int .i64 secs, .slice vl k vlc, .slice va k vac]) (devX gs secs al [] (devsN gs)) ⟨.slice vg n vgc, .slice vl k vlc, .slice va k vac⟩ F2) := Lib.hid (by
    rw [← HNE.out]
    exact HR.out.is.keep (fun g hg => (setCells_grown (w.heap.size + 1) _ wr 0).block g (HR.out.is.lt g hg) (fun e => by
     have e2 := Option.some.inj e
     subst e2
     exact HR.out.notF HR.out.res hg)))
   have HBF : Hid (Below w.heap.size w (wr.setCells (w.heap.size + 1) 0 [.slice vg n vgc, .int .i64 secs, .slice vl k vlc, .slice va k vac])) := Lib.hid (HR.out.bel.grown (setCells_grown _ _ _ _) HR.out.bel.size (fun k e => by have := Option.some.inj e; omega))
   have HFR := Lib.hid HR.out.fr
   go_wp2_with fail
   refine bodyPost_ret (results_dvs3 rfl _ _ (w.heap.size + 1) _ _ _ _ rfl HR2.out) rfl ?_
   first | exact ⟨_, ⟨_, rfl⟩, F2, HT.out, HFR.out, HBF.out⟩ | exact ⟨_, F2, ⟨_, rfl⟩, HT.out, HFR.out, HBF.out⟩
end Go.Proofs.YtfaemcfjbbbbdaaGreat
namespace Go.Proofs.YtfaemcfjbbbbdaaGreat
theorem mkP_ok2 {gs : Gs} {secs : Int} {p q : Nat × Nat} {two : Bool} {size : Int} (h : ptrRight gs secs (mkP p q two size) = true) : (mkP p q two size).ok := by
 obtain ⟨h1, h2, h3, _⟩ := ptrRight_may h
 have m1 := mayC_spec h1
 have hr := rightB_spec m1.1
 simp only [mkP] at *
 cases two
 ·have := h3 rfl
  refine ⟨?_, ?_, ?_, ?_, ?_, ?_, ?_⟩ <;> dsimp only [I64'] <;> omega
 ·have m2 := mayC_spec (h2 rfl).1
  refine ⟨?_, ?_, ?_, ?_, ?_, ?_, ?_⟩ <;> dsimp only [I64'] <;> omega
def Wst (x : DvsT) (t : Bs) (q : Nat × Nat) : St := stOf x.gs x.secs ((t.length / 64 : Nat) : Int) q
theorem putsL_whole (t : Bs) (ht : blkOk t = true) : ∀ (l : List (Nat × Nat)) (x : DvsT) (K : Nat), x.one → x.deep K → (∀ q ∈ l, mayC x.gs x.secs (q.1 : Nat) (q.2 : Nat) ((t.length / 64 : Nat) : Int) = true) → l.Pairwise (fun a b => Dis (Wst x t a) (Wst x t b)) →
  (∀ q ∈ l, Whole (putsL t l x) q.1 q.2 t) ∧ Kept x (putsL t l x) ∧ (putsL t l x).deep (K + 32 * l.length) ∧ ∀ (g a : Nat) (u : Bs), Whole x g a u → mayC x.gs x.secs (g : Nat) (a : Nat) ((u.length / 64 : Nat) : Int) = true → (∀ q ∈ l, Dis (stOf x.gs x.secs ((u.length / 64 : Nat) : Int) (g, a)) (Wst x t q)) → Whole (putsL t l x) g a u
 | [], x, K, _, hK, _, _ => ⟨fun q hq => (by cases hq), Kept.refl x, hK, fun g a u h _ _ => h⟩
 | q :: r, x, K, ho, hK, hm, hp => by
  rw [List.pairwise_cons] at hp
  have hm0 := hm q (List.mem_cons_self ..)
  have k := write_kep ho.right ht hm0
  obtain ⟨k2, d2⟩ := write_kept ho.right ht hm0 hK
  have hgs : (writeX x q.1 q.2 t).2.2.gs = x.gs := k.gs
  have hsec : (writeX x q.1 q.2 t).2.2.secs = x.secs := k.secs
  have hW : ∀ z, Wst (writeX x q.1 q.2 t).2.2 t z = Wst x t z := fun z => by unfold Wst; rw [hgs, hsec]
  obtain ⟨a1, a2, a3, a4⟩ := putsL_whole t ht r (writeX x q.1 q.2 t).2.2 (K + 32) (ho.kept k) d2 (fun z hz => by rw [hgs, hsec]; exact hm z (List.mem_cons_of_mem _ hz)) (hp.2.imp (fun h => by rw [hW, hW]; exact h))
  have e : putsL t (q :: r) x = putsL t r (writeX x q.1 q.2 t).2.2 := rfl
  rw [e]
  refine ⟨fun z hz => ?_, k.trans a2, ?_, fun g a u h1 h2 h3 => ?_⟩
  ·rcases List.mem_cons.1 hz with rfl | hz
   ·refine a4 _ _ t (whole_write ho.calm ho.right ht hm0) (by rw [hgs, hsec]; exact hm0) (fun y hy => ?_)
    rw [hW, hgs, hsec]
    exact hp.1 y hy
   ·exact a1 z hz
  ·simp only [List.length_cons]
   rw [show K + 32 * (r.length + 1) = K + 32 + 32 * r.length by omega]
   exact a3
  ·refine a4 g a u (whole_other ho.right h1 h2 ht hm0 (h3 q (List.mem_cons_self ..))) (by rw [hgs, hsec]; exact h2) (fun y hy => ?_)
   rw [hW, hgs, hsec]
   exact h3 y (List.mem_cons_of_mem _ hy)
theorem PWhole.kept {x y : DvsT} {p : PtrT} {t : Bs} (h : PWhole x p t) (hg : y.gs = x.gs) (hs : y.secs = x.secs) (hw : ∀ q ∈ plL p, Whole y q.1.toNat q.2.toNat t) : PWhole y p t := ⟨h.blk, h.size, h.sum, by rw [hg, hs]; exact h.right, h.ok, hw⟩
theorem plL_N {p : PtrT} : ∀ q ∈ plL p, (q.1.toNat, q.2.toNat) ∈ plN p := by
 intro q hq
 unfold plL at hq
 unfold plN
 split at hq
 ·rename_i h
  rw [if_pos h]
  rcases List.mem_cons.1 hq with rfl | hq
  ·exact List.mem_cons_self ..
  ·rw [List.mem_singleton.1 hq]; simp
 ·rw [List.mem_singleton.1 hq]; exact List.mem_cons_self ..
theorem mayN {gs : Gs} {secs : Int} {p q : Nat × Nat} {two : Bool} {size : Int} (h : ptrRight gs secs (mkP p q two size) = true) : ∀ z ∈ plN (mkP p q two size), mayC gs secs (z.1 : Nat) (z.2 : Nat) size = true := by
 obtain ⟨h1, h2, _, _⟩ := ptrRight_may h
 intro z hz
 rw [plN_mk] at hz
 rcases List.mem_cons.1 hz with rfl | hz
 ·exact h1
 ·cases two with
  | false => simp at hz
  | true =>
   rw [if_pos rfl, List.mem_singleton] at hz
   subst hz
   exact (h2 rfl).1
theorem plc_may {S : StoT} {L : List St} {K : Nat} (h : StOk S L K) {t : Bs} (ht : blkOk t = true) (level : Int) : (plcX S ((t.length / 64 : Nat) : Int) level).err = 0 → ∀ q ∈ (plcX S ((t.length / 64 : Nat) : Int) level).l, mayC S.x.gs S.x.secs (q.1 : Nat) (q.2 : Nat) ((t.length / 64 : Nat) : Int) = true := by
 intro he
 obtain ⟨h1, h2, h3⟩ := blk_parts ht
 have hp := List.length_pos_iff.2 h1
 rcases plc_spec h (size := ((t.length / 64 : Nat) : Int)) (level := level) (by omega) (by omega) with ⟨e, _⟩ | ⟨_, _, _, p, q, two, e, hr, _⟩
 ·rw [e] at he; cases he
 ·rw [e]; exact mayN hr
structure Same (S S' : StoT) : Prop where
 txg : S'.txg = S.txg
 keep : S'.keep = S.keep
 mt : S'.mt = S.mt
 fixed : S'.fixed = S.fixed
theorem put_plain {S : StoT} {L : List St} {K : Nat} (h : StOk S L K) (t : Bs) (level : Int) :
  ((putR S t level).err ≠ 0 ∧ (putR S t level).err ≠ 6 ∧ (putR S t level).p = pD ∧ StOk (putR S t level).s L K ∧ leftA (putR S t level).s.sn = leftA S.sn ∧ (putR S t level).s.x = S.x ∧ (putR S t level).s.born = S.born ∧ Same S (putR S t level).s) ∨
  ((putR S t level).err = 0 ∧ StOk (putR S t level).s (L ++ pstrs S.x.gs S.x.secs (putR S t level).p) (K + 64) ∧ PWhole (putR S t level).s.x (putR S t level).p t ∧ Kept S.x (putR S t level).s.x ∧ (putR S t level).s.born = S.born ++ [(putR S t level).p] ∧ Same S (putR S t level).s ∧
   ((putR S t level).p.birth = S.txg ∧ (putR S t level).p.level = level ∧ ((putR S t level).p.two = true → 0 < level ∨ S.mt = true)) ∧
   ∀ p u, PWhole S.x p u → (∀ s ∈ pstrs S.x.gs S.x.secs p, s ∈ L) → PWhole (putR S t level).s.x p u) := by
 unfold putR
 by_cases hok : putOk S t level = false
 ·rw [if_pos hok]
  exact .inl ⟨by simp, by simp, rfl, h, rfl, rfl, rfl, rfl, rfl, rfl, rfl⟩
 ·rw [if_neg hok]
  have hok2 : putOk S t level = true := by simpa using hok
  unfold putOk at hok2
  rw [Bool.and_eq_true, decide_eq_true_eq] at hok2
  obtain ⟨ht, hlv⟩ := hok2
  obtain ⟨h1, h2, h3⟩ := blk_parts ht
  have hpos := List.length_pos_iff.2 h1
  rcases plc_spec h (size := ((t.length / 64 : Nat) : Int)) (level := level) (by omega) (by omega) with ⟨e1, e2, e3⟩ | ⟨e1, e2, e3, p, q, two, e4, hr, hq, htw⟩
  ·rw [if_pos (by rw [e1]; decide)]
   refine .inl ⟨by dsimp only; rw [e1]; simp, by dsimp only; rw [e1]; simp, rfl, ⟨h.one, h.fits, h.deep, ?_, ?_⟩, ?_, rfl, rfl, rfl, rfl, rfl, rfl⟩
   ·show Inv _ _ (plcX S _ level).sn (plcX S _ level).es
    rw [e2, e3]; exact h.inv
   ·show Cov _ _ (plcX S _ level).sn L
    rw [e2]; exact h.cov
   ·show leftA (plcX S _ level).sn = _
    rw [e2]
  ·rw [if_neg (by rw [e1]; decide)]
   right
   have hmay := mayN hr
   have hcov := e3
   rw [e4] at hcov
   have hdis : (plN (mkP p q two ((t.length / 64 : Nat) : Int))).Pairwise (fun a b => Dis (Wst S.x t a) (Wst S.x t b)) := by
    have := (List.pairwise_append.1 hcov.dis).2.1
    rw [List.pairwise_map] at this
    exact this
   have hout : ∀ s ∈ L, ∀ z ∈ plN (mkP p q two ((t.length / 64 : Nat) : Int)), Dis s (Wst S.x t z) := fun s hs z hz => (List.pairwise_append.1 hcov.dis).2.2 s hs _ (List.mem_map.2 ⟨z, hz, rfl⟩)
   obtain ⟨a1, a2, a3, a4⟩ := putsL_whole t ht _ S.x K h.one h.deep hmay hdis
   have hlen : (plN (mkP p q two ((t.length / 64 : Nat) : Int))).length ≤ 2 := by rw [plN_mk]; cases two <;> simp
   have hP := mkPt_eq t level S.txg p q two hq
   dsimp only
   rw [e4, hP]
   have hstr : pstrs S.x.gs S.x.secs ⟨p.1, p.2, q.1, q.2, two, ((t.length / 64 : Nat) : Int), level, S.txg, ((sumF t).1 : Nat), ((sumF t).2.1 : Nat), ((sumF t).2.2.1 : Nat), ((sumF t).2.2.2 : Nat)⟩ = (plN (mkP p q two ((t.length / 64 : Nat) : Int))).map (stOf S.x.gs S.x.secs ((t.length / 64 : Nat) : Int)) := by
    rw [plN_mk]
    cases two <;> simp [pstrs, plN]
   have hright : ptrRight S.x.gs S.x.secs ⟨p.1, p.2, q.1, q.2, two, ((t.length / 64 : Nat) : Int), level, S.txg, ((sumF t).1 : Nat), ((sumF t).2.1 : Nat), ((sumF t).2.2.1 : Nat), ((sumF t).2.2.2 : Nat)⟩ = true := by
    have h' := hr
    unfold ptrRight mkP at h'
    rw [Bool.and_eq_true, Bool.and_eq_true] at h'
    unfold ptrRight
    rw [Bool.and_eq_true, Bool.and_eq_true]
    exact ⟨⟨decide_eq_true ⟨hlv.1, hlv.2.1, hlv.2.2.1, hlv.2.2.2⟩, h'.1.2⟩, h'.2⟩
   have hmk := mkP_ok2 hr
   have hi : ∀ z : Int, 0 ≤ z ∧ z ≤ 4294967295 → I64' z := fun z hz => by unfold I64'; omega
   refine ⟨rfl, ⟨h.one.kept a2, a2.fit h.fits, ?_, ?_, ?_⟩, ⟨ht, rfl, ?_, ?_, ?_, fun z hz => ?_⟩, a2, rfl, ⟨rfl, rfl, rfl, rfl⟩, ⟨rfl, rfl, htw⟩, fun p' u hw hin => ?_⟩
   ·intro i k
    exact Nat.le_trans (a3 i k) (by omega)
   ·show Inv (putsL t _ S.x).gs (putsL t _ S.x).secs (plcX S _ level).sn (plcX S _ level).es
    rw [a2.gs, a2.secs]; exact e2
   ·show Cov (putsL t _ S.x).gs (putsL t _ S.x).secs (plcX S _ level).sn _
    rw [a2.gs, a2.secs, hstr]; exact hcov
   ·exact decide_eq_true ⟨rfl, rfl, rfl, rfl⟩
   ·show ptrRight (putsL t _ S.x).gs (putsL t _ S.x).secs _ = true
    rw [a2.gs, a2.secs]; exact hright
   ·exact ⟨hmk.ag, hmk.aa, hmk.bg, hmk.ba, hmk.size, hi level ⟨hlv.1, by omega⟩, hi S.txg ⟨by omega, hlv.2.2.2⟩⟩
   ·have := plL_N z hz
    have h9 : (z.1.toNat, z.2.toNat) ∈ plN (mkP p q two ((t.length / 64 : Nat) : Int)) := by
     rw [plN_mk]
     have e : plN ⟨p.1, p.2, q.1, q.2, two, ((t.length / 64 : Nat) : Int), level, S.txg, ((sumF t).1 : Nat), ((sumF t).2.1 : Nat), ((sumF t).2.2.1 : Nat), ((sumF t).2.2.2 : Nat)⟩ = p :: if two = true then [q] else [] := by cases two <;> simp [plN]
     rw [← e]
     exact this
    exact a1 _ h9
   ·refine hw.kept a2.gs a2.secs fun z hz => ?_
    refine a4 _ _ u (hw.whole z hz) (hw.may z hz) fun y hy => ?_
    refine hout _ (hin _ ?_) y hy
    unfold pstrs
    refine List.mem_map.2 ⟨_, plL_N z hz, ?_⟩
    rw [hw.size]
end Go.Proofs.YtfaemcfjbbbbdaaGreat
namespace Go.Proofs.YtfaemcfjbbbbdaaGreat
open Go.RowKit
theorem devices_any (ga : Option Addr) (n gc : Nat) (gs : Gs) (secs : Int) (w : World) (h : GSl w ga n gc gs) (ao : Option Addr) (an ac : Nat) (al : List Bool) (ha : BSl w ao an ac al) (lo : Option Addr) (ln lc : Nat) (ll : List Bool) (hlo : BSl w lo ln lc ll) (hok : devOk gs secs = true) :
  Calls Tryz.prog 27 #[.agg #[.slice ga n gc, .int .i64 secs], .slice ao an ac, .slice lo ln lc] w fun e w' => ∃ V F hv, e = .returned (.tuple #[V.val secs, hv, .bool true]) ∧ IsDvs w' (devX gs secs al ll (devsN gs)) V F ∧ (∀ g, F g → w.heap.size ≤ g) ∧ Below w.heap.size w w' := by
 rcases Nat.eq_zero_or_pos ln with h0 | h0
 ·subst h0
  have e : ll = [] := List.eq_nil_of_length_eq_zero hlo.len
  subst e
  exact devices_zero ga n gc gs secs w h ao an ac al ha lo lc hok
 ·obtain ⟨b, off, e, hb, hc⟩ := hlo.cells h0
  subst e
  exact devices_pos ga n gc gs secs w h ao an ac al ha b off ln lc ll hlo h0 hok
set_option maxHeartbeats 1600000 in
set_option maxRecDepth 100000 in
theorem devices_no (ga : Option Addr) (n gc : Nat) (gs : Gs) (secs : Int) (w : World) (h : GSl w ga n gc gs) (u v : Value) (hok : devOk gs secs = false) (hn : n ≤ 9223372036854775807) :
  Calls Tryz.prog 27 #[.agg #[.slice ga n gc, .int .i64 secs], u, v] w fun e w' => e = .returned (.tuple #[.agg #[.slice none 0 0, .int .i64 0, .slice none 0 0, .slice none 0 0], .slice none 0 0, .bool false]) ∧ Below w.heap.size w w' := by
 obtain ⟨w0, hw0⟩ : ∃ w0, w0 = (w.alloc (.cells #[.slice ga n gc, .int .i64 secs] 24)).alloc (.cells #[.slice none 0 0, .int .i64 0, .slice none 0 0, .slice none 0 0] 37) := ⟨_, rfl⟩
 have hb0 : Below w.heap.size w w0 := by rw [hw0]; exact ((Below.refl _ _).alloc (Nat.le_refl _) _).alloc (by simp) _
 have hg0 : Blk w0 w.heap.size 24 [.slice ga n gc, .int .i64 secs] := by rw [hw0]; exact (Blk.new w _ _).alloc _
 have hd0 : Blk w0 (w.heap.size + 1) 37 [.slice none 0 0, .int .i64 0, .slice none 0 0, .slice none 0 0] := by rw [hw0]; exact Blk.newAt (w := w.alloc _) _ _ (by simp)
 have hs0 : w0.heap.size = w.heap.size + 2 := by rw [hw0]; simp
 have HB0 := Lib.hid hb0
 have HD0 := Lib.hid hd0
 have c0 : w0.cell? ⟨w.heap.size, 0, none⟩ = some (.slice ga n gc) := hg0.cell 0
 have c1 : w0.cell? ⟨w.heap.size, 1, none⟩ = some (.int .i64 secs) := hg0.cell 1
 have fin : ∀ (W : World), Blk W (w.heap.size + 1) 37 [.slice none 0 0, .int .i64 0, .slice none 0 0, .slice none 0 0] → Below w.heap.size w W → Blk ((((W.setCell ⟨w.heap.size + 1, 0, none⟩ (.slice none 0 0)).setCell ⟨w.heap.size + 1, 1, none⟩ (.int .i64 0)).setCell ⟨w.heap.size + 1, 2, none⟩ (.slice none 0 0)).setCell ⟨w.heap.size + 1, 3, none⟩ (.slice none 0 0)) (w.heap.size + 1) 37 [.slice none 0 0, .int .i64 0, .slice none 0 0, .slice none 0 0] ∧ Below w.heap.size w ((((W.setCell ⟨w.heap.size + 1, 0, none⟩ (.slice none 0 0)).setCell ⟨w.heap.size + 1, 1, none⟩ (.int .i64 0)).setCell ⟨w.heap.size + 1, 2, none⟩ (.slice none 0 0)).setCell ⟨w.heap.size + 1, 3, none⟩ (.slice none 0 0)) := fun W hB hb =>
  ⟨(((hB.setCell 0 _).setCell 1 _).setCell 2 _).setCell 3 _, (((hb.setCell (by show w.heap.size ≤ w.heap.size + 1; omega) _).setCell (by show w.heap.size ≤ w.heap.size + 1; omega) _).setCell (by show w.heap.size ≤ w.heap.size + 1; omega) _).setCell (by show w.heap.size ≤ w.heap.size + 1; omega) _⟩
 have HFIN := Lib.hid fin
 have HNV : Hid (rightB gs secs = false → Calls Tryz.prog 51 #[.agg #[.slice ga n gc, .int .i64 secs], .int .u8 0] w0 fun e w' => e = .returned (.tuple #[.agg #[.slice none 0 0, .int .i64 0, .slice none 0 0, .slice none 0 0], .int .i64 1]) ∧ Below w0.heap.size w0 w') := Lib.hid (fun hr => vnew_no ga n gc gs secs w0 (h.below hb0) hr)
 have hl := h.len
 have HL := Lib.hid hl
 have HOK := Lib.hid hok
 clear h hok hb0 hg0 hd0 fin hl
 by_cases q1 : (100 : Int) < (n : Int)
 ·have d0 := HD0.out.cell 0
  have d1 := HD0.out.cell 1
  have d2 := HD0.out.cell 2
  have d3 := HD0.out.cell 3
  have f0 := HD0.out.frozen 0
  have f1 := HD0.out.frozen 1
  have f2 := HD0.out.frozen 2
  have f3 := HD0.out.frozen 3
  obtain ⟨z1, z2⟩ := HFIN.out _ HD0.out HB0.out
  have Z1 := Lib.hid z1
  have Z2 := Lib.hid z2
  clear z1 z2
  go_enter Tryz.func27, Tryz.ntmps27
  go_upto_region 1 with fail
  rw [← hw0]
  clear hw0
  go_wp2_with fail
  refine bodyPost_ret (results_dvs3 rfl _ _ (w.heap.size + 1) _ _ _ _ rfl Z1.out) rfl ?_
  exact ⟨rfl, Z2.out⟩
 ·by_cases q2 : (200 : Int) < secs
  ·have d0 := HD0.out.cell 0
   have d1 := HD0.out.cell 1
   have d2 := HD0.out.cell 2
   have d3 := HD0.out.cell 3
   have f0 := HD0.out.frozen 0
   have f1 := HD0.out.frozen 1
   have f2 := HD0.out.frozen 2
   have f3 := HD0.out.frozen 3
   obtain ⟨z1, z2⟩ := HFIN.out _ HD0.out HB0.out
   have Z1 := Lib.hid z1
   have Z2 := Lib.hid z2
   clear z1 z2
   go_enter Tryz.func27, Tryz.ntmps27
   go_upto_region 1 with fail
   rw [← hw0]
   clear hw0
   go_wp2_with fail
   refine bodyPost_ret (results_dvs3 rfl _ _ (w.heap.size + 1) _ _ _ _ rfl Z1.out) rfl ?_
   exact ⟨rfl, Z2.out⟩
  ·have HNW := Lib.hid (HNV.out (by
    have h1 := HOK.out
    unfold devOk at h1
    rw [decide_eq_true (by omega), Bool.and_true] at h1
    exact h1))
   go_enter Tryz.func27, Tryz.ntmps27
   go_upto_region 1 with fail
   rw [← hw0]
   clear hw0
   go_wp2_with fail
   refine HNW.out.mono ?_
   rintro e w1 ⟨rfl, hb1⟩
   have hd1 := HD0.out.below hb1
   have hb2 : Below w.heap.size w w1 := HB0.out.trans (hb1.mono (by omega))
   have hsz1 : w.heap.size + 2 ≤ w1.heap.size := by have := hb1.size; omega
   have hA : Below w1.heap.size w1 (w1.alloc (.cells #[.slice none 0 0, .int .i64 0, .slice none 0 0, .slice none 0 0] 37)) := (Below.refl _ _).alloc (Nat.le_refl _) _
   obtain ⟨w2, hw2⟩ : ∃ w2, w2 = w1.alloc (.cells #[.slice none 0 0, .int .i64 0, .slice none 0 0, .slice none 0 0] 37) := ⟨_, rfl⟩
   have HD2 : Hid (Blk w2 (w.heap.size + 1) 37 [.slice none 0 0, .int .i64 0, .slice none 0 0, .slice none 0 0]) := Lib.hid (by rw [hw2]; exact hd1.below hA)
   have hn2 : Blk w2 w1.heap.size 37 [.slice none 0 0, .int .i64 0, .slice none 0 0, .slice none 0 0] := by rw [hw2]; exact Blk.new w1 _ _
   have HB2 : Hid (Below w.heap.size w w2) := Lib.hid (by rw [hw2]; exact hb2.trans (hA.mono hb2.size))
   obtain ⟨g9, hg9⟩ : ∃ g9, g9 = w1.heap.size := ⟨_, rfl⟩
   have hne : w.heap.size + 1 ≠ g9 := by omega
   rw [← hg9] at hn2
   clear hd1 hb2 hA hb1
   go_upto_region 4 with fail
   rw [← hw2, ← hg9]
   clear hw2 hg9
   have d0 := HD2.out.cell 0
   have d1 := HD2.out.cell 1
   have d2 := HD2.out.cell 2
   have d3 := HD2.out.cell 3
   have f0 := HD2.out.frozen 0
   have f1 := HD2.out.frozen 1
   have f2 := HD2.out.frozen 2
   have f3 := HD2.out.frozen 3
   have b0 := hn2.cell 0
   have b1 := hn2.cell 1
   have b2 := hn2.cell 2
   have b3 := hn2.cell 3
   obtain ⟨z1, z2⟩ := HFIN.out _ HD2.out HB2.out
   have Z1 := Lib.hid z1
   have Z2 := Lib.hid z2
   clear z1 z2 hn2
   go_wp2_with fail
   refine bodyPost_ret (results_dvs3 rfl _ _ (w.heap.size + 1) _ _ _ _ rfl Z1.out) rfl ?_
   exact ⟨rfl, Z2.out⟩
set_option maxHeartbeats 1600000 in
set_option maxRecDepth 100000 in
theorem made_no (ga : Option Addr) (n gc : Nat) (gs : Gs) (secs : Int) (w : World) (h : GSl w ga n gc gs) (u v : Value) (txg keep : Int) (hok : devOk gs secs = false) (hn : n ≤ 9223372036854775807) :
  Calls Tryz.prog 10 #[.agg #[.slice ga n gc, .int .i64 secs], u, v, .int .i64 txg, .int .i64 keep] w fun e w' => e = .returned (.tuple #[.pointer none, .bool false]) ∧ Below w.heap.size w w' := by
 have hg0 : Blk (w.alloc (.cells #[.slice ga n gc, .int .i64 secs] 24)) w.heap.size 24 [.slice ga n gc, .int .i64 secs] := Blk.new w _ _
 have hb0 : Below w.heap.size w (w.alloc (.cells #[.slice ga n gc, .int .i64 secs] 24)) := (Below.refl _ _).alloc (Nat.le_refl _) _
 have HD := Lib.hid (devices_no ga n gc gs secs _ (h.below hb0) u v hok hn)
 have HB0 := Lib.hid hb0
 have c0 := hg0.cell 0
 have c1 := hg0.cell 1
 clear h hok hb0 hg0
 go_enter Tryz.func10, Tryz.ntmps10
 go_wp2_with fail
 refine HD.out.mono ?_
 rintro e w1 ⟨rfl, hb1⟩
 have HB1 : Hid (Below w.heap.size w w1) := Lib.hid (HB0.out.trans (hb1.mono (by simp)))
 clear hb1
 go_wp2_with fail
 go_ret2
 exact ⟨rfl, HB1.out.alloc HB1.out.size _⟩
def newSt (gs : Gs) (secs : Int) (al ll : List Bool) (sn : SN) (txg keep : Int) : StoT := ⟨devX gs secs al ll (devsN gs), sn, List.replicate gs.length 0, txg, keep, false, 0, []⟩
theorem IsSto.mk0 {w : World} {sb bb eb : Nat} {S : StoT} {V : DvV} {ms : List MT} {F : Nat → Prop} (hB : Blk w sb 41 (stoC V S bb none)) (hd : IsDvs w S.x V F) (hk : IsBook w bb eb S.x.gs S.x.secs ms S.es) (hsn : st2 ms = S.sn) (h0 : S.fixed = 0) (h1 : S.born = []) : ∃ T, IsSto w sb S V bb none T ∧ ∀ g, T g → F g ∨ foot bb eb ms g ∨ g = sb := by
 refine ⟨_, ⟨eb, ms, .slice none 0 0, F, ⟨hB, hd, hk, hsn, h0, h1, rfl⟩, fun k => Iff.rfl⟩, ?_⟩
 rintro g (h | h | h | h | h)
 ·exact .inl h
 ·exact .inr (.inl h)
 ·exact .inr (.inr h)
 ·cases h
 ·cases h
set_option maxHeartbeats 1600000 in
set_option maxRecDepth 100000 in
theorem made_yes (ga : Option Addr) (n gc : Nat) (gs : Gs) (secs : Int) (w : World) (h : GSl w ga n gc gs) (ao : Option Addr) (an ac : Nat) (al : List Bool) (ha : BSl w ao an ac al) (lo : Option Addr) (ln lc : Nat) (ll : List Bool) (hlo : BSl w lo ln lc ll) (txg keep : Int) (hok : devOk gs secs = true) :
  Calls Tryz.prog 10 #[.agg #[.slice ga n gc, .int .i64 secs], .slice ao an ac, .slice lo ln lc, .int .i64 txg, .int .i64 keep] w fun e w' => ∃ sb bb V T sn, e = .returned (.tuple #[.pointer (some ⟨sb, 0, none⟩), .bool true]) ∧ IsSto w' sb (newSt gs secs al ll sn txg keep) V bb none T ∧ sn.length = gs.length ∧ (∀ j, j < gs.length → sn.getD j sD = ((sect (gs.getD j (0, 0)) secs).toNat, [])) ∧ (∀ g, T g → w.heap.size ≤ g) ∧ Below w.heap.size w w' := by
 have hr : rightB gs secs = true := by
  unfold devOk at hok
  rw [Bool.and_eq_true] at hok
  exact hok.1
 have hg0 : Blk (w.alloc (.cells #[.slice ga n gc, .int .i64 secs] 24)) w.heap.size 24 [.slice ga n gc, .int .i64 secs] := Blk.new w _ _
 have hb0 : Below w.heap.size w (w.alloc (.cells #[.slice ga n gc, .int .i64 secs] 24)) := (Below.refl _ _).alloc (Nat.le_refl _) _
 have HD := Lib.hid (devices_any ga n gc gs secs _ (h.below hb0) ao an ac al (ha.below hb0) lo ln lc ll (hlo.below hb0) hok)
 have HN : Hid (∀ W, Below w.heap.size w W → Calls Tryz.prog 28 #[.agg #[.slice ga n gc, .int .i64 secs]] W fun e w' => ∃ bb eb ms, e = .returned (.tuple #[.pointer (some ⟨bb, 0, none⟩), .int .i64 0]) ∧ IsBook w' bb eb gs secs ms (List.replicate gs.length 0) ∧
   (∀ j, j < gs.length → (ms.getD j mD).2 = ((sect (gs.getD j (0, 0)) secs).toNat, [])) ∧ (∀ k, foot bb eb ms k → W.heap.size ≤ k) ∧ Below W.heap.size W w') := Lib.hid (fun W hW => anew_yes ga n gc gs secs W (h.below hW) hr)
 have HB0 := Lib.hid hb0
 have HG0 := Lib.hid hg0
 have c0 := hg0.cell 0
 have c1 := hg0.cell 1
 clear h ha hlo hok hr hb0 hg0
 go_enter Tryz.func10, Tryz.ntmps10
 go_wp2_with fail
 refine HD.out.mono ?_
 rintro e w1 ⟨V, F, hv, rfl, hi, hF, hb1⟩
 obtain ⟨vg, vgc, vl, vlc, va, vac, rfl, _⟩ := hi.form
 obtain ⟨X, hX⟩ : ∃ X, X = devX gs secs al ll (devsN gs) := ⟨_, rfl⟩
 have HX := Lib.hid hX
 have HXS : Hid (X.secs = secs ∧ X.gs = gs) := Lib.hid (by rw [hX]; exact ⟨rfl, rfl⟩)
 rw [← hX] at hi ⊢
 obtain ⟨V0, hV0⟩ : ∃ V0 : DvV, V0 = ⟨.slice vg X.gs.length vgc, .slice vl X.ds.length vlc, .slice va X.ds.length vac⟩ := ⟨_, rfl⟩
 have HV0 := Lib.hid hV0
 have HB1 : Hid (Below w.heap.size w w1) := Lib.hid (HB0.out.trans (hb1.mono (by simp)))
 have HI := Lib.hid hi
 have HF := Lib.hid hF
 have hsz : w.heap.size + 1 ≤ w1.heap.size := by have := hb1.size; simpa using this
 have hval : (DvV.mk (.slice vg X.gs.length vgc) (.slice vl X.ds.length vlc) (.slice va X.ds.length vac)).val secs = .agg #[.slice vg X.gs.length vgc, .int .i64 secs, .slice vl X.ds.length vlc, .slice va X.ds.length vac] := rfl
 rw [hval]
 have HG1 := Lib.hid (HG0.out.below hb1)
 clear hb1 hi hF hX hV0 hval c0 c1
 go_upto_region 2 with fail
 obtain ⟨w2, hw2⟩ : ∃ w2, w2 = w1.alloc (.cells #[.slice vg X.gs.length vgc, .int .i64 secs, .slice vl X.ds.length vlc, .slice va X.ds.length vac] 37) := ⟨_, rfl⟩
 obtain ⟨g9, hg9⟩ : ∃ g9, g9 = w1.heap.size := ⟨_, rfl⟩
 have hA : Below w1.heap.size w1 w2 := by rw [hw2]; exact (Below.refl _ _).alloc (Nat.le_refl _) _
 have HB9 : Hid (Blk w2 g9 37 [.slice vg X.gs.length vgc, .int .i64 secs, .slice vl X.ds.length vlc, .slice va X.ds.length vac]) := Lib.hid (by rw [hw2, hg9]; exact Blk.new w1 _ [.slice vg X.gs.length vgc, .int .i64 secs, .slice vl X.ds.length vlc, .slice va X.ds.length vac])
 have HI2 := Lib.hid (HI.out.below hA)
 have HB2 : Hid (Below w.heap.size w w2) := Lib.hid (HB1.out.trans (hA.mono HB1.out.size))
 have c0 : w2.cell? ⟨w.heap.size, 0, none⟩ = some (.slice ga n gc) := (HG1.out.below hA).cell 0
 have c1 : w2.cell? ⟨w.heap.size, 1, none⟩ = some (.int .i64 secs) := (HG1.out.below hA).cell 1
 rw [← hw2, ← hg9]
 clear hw2 hg9 hA
 go_wp2_with fail
 refine (HN.out w2 HB2.out).mono ?_
 rintro e w3 ⟨bb, eb, ms, rfl, hbk, hms, hft, hb3⟩
 have HI3 := Lib.hid (HI2.out.below hb3)
 have hb9 := HB9.out.below hb3
 have d0 := hb9.cell 0
 have d1 := hb9.cell 1
 have d2 := hb9.cell 2
 have d3 := hb9.cell 3
 have HB3 : Hid (Below w.heap.size w w3) := Lib.hid (HB2.out.trans (hb3.mono HB2.out.size))
 have HS2 : Hid (w.heap.size ≤ w2.heap.size) := Lib.hid HB2.out.size
 have HBK := Lib.hid hbk
 have HMS := Lib.hid hms
 have HFT := Lib.hid hft
 clear hbk hms hft hb3 hb9 c0 c1
 go_wp2_with fail
 go_ret2
 have hx := HX.out
 subst hx
 have hC : ∀ o, Below w3.heap.size w3 (w3.alloc o) := fun o => (Below.refl _ _).alloc (Nat.le_refl _) o
 obtain ⟨T, hT, hT2⟩ := IsSto.mk0 (w := w3.alloc (.cells (stoC ⟨.slice vg (devX gs secs al ll (devsN gs)).gs.length vgc, .slice vl (devX gs secs al ll (devsN gs)).ds.length vlc, .slice va (devX gs secs al ll (devsN gs)).ds.length vac⟩ (newSt gs secs al ll (st2 ms) txg keep) bb none).toArray 41)) (S := newSt gs secs al ll (st2 ms) txg keep) (bb := bb) (Blk.new w3 _ _) (HI3.out.below (hC _)) (HBK.out.noturn (NoTurn.below (hC _))) rfl rfl rfl
 refine ⟨w3.heap.size, bb, _, T, st2 ms, rfl, hT, ?_, fun j hj => ?_, fun g hg => ?_, HB3.out.alloc HB3.out.size _⟩
 ·have := HBK.out.mlen
  simpa [st2] using this
 ·have h1 := HMS.out j hj
  have h2 := HBK.out.mlen
  rw [← h1]
  have h3 : j < ms.length := by omega
  simp [st2, List.getD_eq_getElem?_getD, h3]
 ·rcases hT2 g hg with h1 | h1 | h1
  ·have := HF.out g h1; simp at this; omega
  ·have := HFT.out g h1; have := HS2.out; omega
  ·have := HB3.out.size; omega
end Go.Proofs.YtfaemcfjbbbbdaaGreat
namespace Go.Proofs.YtfaemcfjbbbbdaaGreat
open Go.RowKit
attribute [local go_sem ↓] Go.wp_at_zero Go.wp_at_succ
attribute [local go_sem ↓] wp_loadPt wp_storePt
def BuildWS (P : Program) (o : Oper) (t : TypeId) (v : Value) (a : Act) (w : World) (next : Act → World → Prop) (Q : Exit → Act → World → Prop) : Prop :=
 o.upon P a next Q ((do let r ← Instr.buildSlice t 1 #[(0, v)]; pure (Next.value r) : Sem Next).run P w)
theorem wp_buildPS {dst : Option Tmp} {x : Operand} {ty : TypeId} {pos : String} {after : Array Edge} {guard : Option (Nat × Bool)} {a : Act} {w : World} {next : Act → World → Prop} {Q : Exit → Act → World → Prop} :
  Oper.wp Tryz.prog ⟨dst, .buildSlice 58 1 #[(0, x)], ty, pos, after, guard⟩ a w next Q = BuildWS Tryz.prog ⟨dst, .buildSlice 58 1 #[(0, x)], ty, pos, after, guard⟩ 58 (a.eval x) a w next Q := by
 unfold Oper.wp BuildWS execOp
 simp
theorem build_ptrS (w : World) (p : PtrT) (o : Oper) (a : Act) (next : Act → World → Prop) (Q : Exit → Act → World → Prop) :
  BuildWS Tryz.prog o 58 (.agg (encPtr p).toArray) a w next Q = next (a.put o.dst (.slice (some ⟨w.heap.size, 0, none⟩) 1 1)) (w.alloc (.cells (encPtr p).toArray 49)) := by
 unfold BuildWS
 obtain ⟨p0, p1, p2, p3, p4, p5, p6, p7, p8, p9, p10, p11⟩ := p
 have h : (do let r ← Instr.buildSlice 58 1 #[(0, .agg #[.int .i64 p0, .int .i64 p1, .int .i64 p2, .int .i64 p3, .bool p4, .int .i64 p5, .int .i64 p6, .int .i64 p7, .int .u64 p8, .int .u64 p9, .int .u64 p10, .int .u64 p11])]; pure (Next.value r) : Sem Next).run Tryz.prog w = .ok (.value (.slice (some ⟨w.heap.size, 0, none⟩) 1 1)) (w.alloc (.cells #[.int .i64 p0, .int .i64 p1, .int .i64 p2, .int .i64 p3, .bool p4, .int .i64 p5, .int .i64 p6, .int .i64 p7, .int .u64 p8, .int .u64 p9, .int .u64 p10, .int .u64 p11] 49)) := by
  go_simp
 exact congrArg (fun r => o.upon Tryz.prog a next Q r) h
theorem wp_build_at {o : Oper} {a : Act} {K : Act → World → Prop} {Q : Exit → Act → World → Prop} {w : World} (x : Operand) (ho : o.op = .buildSlice 58 1 #[(0, x)]) (p : PtrT) (hx : a.eval x = .agg (encPtr p).toArray)
  (h : K (a.put o.dst (.slice (some ⟨w.heap.size, 0, none⟩) 1 1)) (w.alloc (.cells (encPtr p).toArray 49))) : Oper.wp Tryz.prog o a w K Q := by
 obtain ⟨dst, op, ty, pos, after, guard⟩ := o
 dsimp only at ho h
 subst ho
 rw [wp_buildPS, hx, build_ptrS]
 exact h
theorem results_pt {fn : Func} {p u : Tmp} (h : fn.results = #[.cell p 49, .tmp u]) (tmps : Array Value) (w : World) (g : Nat) (x : PtrT)
  (hp : tmps.getD p undef = .pointer (some ⟨g, 0, none⟩)) (hg : Blk w g 49 (encPtr x)) :
  (results fn tmps).run Tryz.prog w = .ok (.tuple #[.agg (encPtr x).toArray, tmps.getD u undef]) w := by
 have hp' : tmps[p]?.getD undef = .pointer (some ⟨g, 0, none⟩) := by simpa using hp
 have e1 := run_loadVar_mid (P := Tryz.prog) w g 0 49 (encPtr x) _ (fun j v hv => by rw [Nat.zero_add, hg.cell, hv]) Tryz.underlying49 rfl iszPt
 simp [results, h, hp', asAddr, e1]
structure PuR (gS gT sb : Nat) (sc : List Value) (t : Bs) (w : World) : Prop where
 s : Blk w gS 32 [.pointer (some ⟨sb, 0, none⟩)]
 t : Blk w gT 9 [.string ⟨t.toArray⟩]
 b : Blk w sb 41 sc
theorem PuR.below {gS gT sb : Nat} {sc : List Value} {t : Bs} {w w' : World} (h : PuR gS gT sb sc t w) (hb : Below w.heap.size w w') : PuR gS gT sb sc t w' := ⟨h.s.below hb, h.t.below hb, h.b.below hb⟩
structure PuW (gS g8 gR sb : Nat) (p : PtrT) (w : World) : Prop where
 s : Blk w gS 32 [.pointer (some ⟨sb, 0, none⟩)]
 p : Blk w g8 49 (encPtr p)
 r : Blk w gR 49 (encPtr pD)
theorem PuW.below {gS g8 gR sb : Nat} {p : PtrT} {w w' : World} (h : PuW gS g8 gR sb p w) (hb : Below w.heap.size w w') : PuW gS g8 gR sb p w' := ⟨h.s.below hb, h.p.below hb, h.r.below hb⟩
theorem PuW.mod {gS g8 gR sb : Nat} {p : PtrT} {w w' : World} {T : Nat → Prop} (h : PuW gS g8 gR sb p w) (hm : Mod T w w') (hT : ¬ T gS ∧ ¬ T g8 ∧ ¬ T gR) : PuW gS g8 gR sb p w' := ⟨hm.blk h.s hT.1, hm.blk h.p hT.2.1, hm.blk h.r hT.2.2⟩
def PutFn (w : World) (sb : Nat) (V : DvV) (bb : Nat) (dn : Option Nat) (T : Nat → Prop) (R : PutR) (e : Ending) (w' : World) : Prop :=
 e = .returned (.tuple #[.agg (encPtr R.p).toArray, .int .i64 (R.err : Nat)]) ∧ ∃ dn', (∀ d, dn = some d → dn' = some d) ∧ StoStep R.s V sb bb dn' T w w'
theorem blk_gr {W : World} {g j : Nat} {u : Value} : W.grownBy (W.setCell ⟨g, j, none⟩ u) (some g) := setCells_grown g [u] W j
set_option maxRecDepth 100000 in
set_option maxHeartbeats 1600000 in
theorem put_no {w : World} {sb : Nat} {S : StoT} {V : DvV} {bb : Nat} {dn : Option Nat} {T : Nat → Prop} (h : IsSto w sb S V bb dn T) (t : Bs) (level : Int) (htl : t.length ≤ 1000000) (hr : S.x.right = true) (K : Nat) (hK : S.x.deep K) (hK2 : K + 200 ≤ 1000000000) (hw : S.x.takes) (hkp : 0 ≤ S.keep ∧ S.keep ≤ 1000000000) (hbn : S.born.length ≤ 1000000)
  (hpl : (plcX S ((t.length / 64 : Nat) : Int) level).err = 0 → ∀ q ∈ (plcX S ((t.length / 64 : Nat) : Int) level).l, mayC S.x.gs S.x.secs (q.1 : Nat) (q.2 : Nat) ((t.length / 64 : Nat) : Int) = true) (hno : putOk S t level = false) :
  Calls Tryz.prog 12 #[.pointer (some ⟨sb, 0, none⟩), .string ⟨t.toArray⟩, .int .i64 level] w (PutFn w sb V bb dn T (putR S t level)) := by
 obtain ⟨ga, gc, la, lc, wa, acp, rfl⟩ := h.form
 have HNOO := Lib.hid hno
 clear hno
 obtain ⟨w0, hw0⟩ : ∃ w0, w0 = ((w.alloc (.cells #[.pointer (some ⟨sb, 0, none⟩)] 32)).alloc (.cells #[.string ⟨t.toArray⟩] 9)).alloc (.cells #[.int .i64 0, .int .i64 0, .int .i64 0, .int .i64 0, .bool false, .int .i64 0, .int .i64 0, .int .i64 0, .int .u64 0, .int .u64 0, .int .u64 0, .int .u64 0] 49) := ⟨_, rfl⟩
 have hb0 : Below w.heap.size w w0 := by rw [hw0]; exact (((Below.refl _ _).alloc (Nat.le_refl _) _).alloc (by simp) _).alloc (by simp; omega) _
 have kS : Blk w0 w.heap.size 32 [.pointer (some ⟨sb, 0, none⟩)] := by rw [hw0]; exact ((Blk.new w _ [.pointer (some ⟨sb, 0, none⟩)]).alloc _).alloc _
 have kT : Blk w0 (w.heap.size + 1) 9 [.string ⟨t.toArray⟩] := by rw [hw0]; exact (Blk.newAt (g := w.heap.size + 1) _ [.string ⟨t.toArray⟩] (by simp)).alloc _
 have kR : Blk w0 (w.heap.size + 2) 49 (encPtr pD) := by rw [hw0]; exact Blk.newAt (g := w.heap.size + 2) _ (encPtr pD) (by simp)
 have HS0 : Hid (w0.heap.size = w.heap.size + 3) := Lib.hid (by rw [hw0]; simp)
 have HAT0 := Lib.hid ((StoAt.start h).below hb0)
 have HNT : Hid (¬ T w.heap.size ∧ ¬ T (w.heap.size + 1) ∧ ¬ T (w.heap.size + 2)) := Lib.hid ⟨fun hf => by have := h.lt _ hf; omega, fun hf => by have := h.lt _ hf; omega, fun hf => by have := h.lt _ hf; omega⟩
 have HKS := Lib.hid kS
 have HKT := Lib.hid kT
 have HKR := Lib.hid kR
 have HTX := Lib.hid (stext_any t htl w0)
 have c0 : w0.cell? ⟨w.heap.size, 0, none⟩ = some (.pointer (some ⟨sb, 0, none⟩)) := kS.cell 0
 have c1 : w0.cell? ⟨w.heap.size + 1, 0, none⟩ = some (.string ⟨t.toArray⟩) := kT.cell 0
 have hcs := HAT0.out.is.cells
 have e4 : w0.cell? ⟨sb, 4, none⟩ = some (.pointer (some ⟨bb, 0, none⟩)) := hcs.cell 4
 have e5 : w0.cell? ⟨sb, 5, none⟩ = some (.int .i64 S.txg) := hcs.cell 5
 obtain ⟨R, hR⟩ : ∃ R, R = putR S t level := ⟨_, rfl⟩
 rw [← hR]
 have HR := Lib.hid hR
 have s0 : ∀ (op : Oper) (a : Act) (next : Act → World → Prop) (Q : Exit → Act → World → Prop), StoreW Tryz.prog op 49 (.pointer (some ⟨w.heap.size + 2, 0, none⟩)) (.agg #[.int .i64 0, .int .i64 0, .int .i64 0, .int .i64 0, .bool false, .int .i64 0, .int .i64 0, .int .i64 0, .int .u64 0, .int .u64 0, .int .u64 0, .int .u64 0]) a w0 next Q = next (a.put op.dst undef) (w0.setCells (w.heap.size + 2) 0 (encPtr pD)) := fun op a next Q => storeW_part (cs := encPtr pD) kR (Nat.le_refl _) iszPt (encPtr_ones pD) op a next Q
 have HERR : Hid (putOk S t level = false → ∀ e, e = Ending.returned (.tuple #[.agg (encPtr pD).toArray, .int .i64 1]) → PutFn w sb _ bb dn T R e (w0.setCells (w.heap.size + 2) 0 (encPtr pD))) := Lib.hid (fun hno e he => by
  have hRe : R = ⟨pD, 1, S⟩ := by rw [HR.out]; unfold putR; rw [if_pos hno]
  rw [hRe]
  refine ⟨he, dn, fun d e => e, ?_⟩
  exact (HAT0.out.other HKR.out (by unfold BookTy; decide) HNT.out.2.2 (by omega) (setCells_grown _ _ _ _)).fin)
 have HBR : Hid (Blk (w0.setCells (w.heap.size + 2) 0 (encPtr pD)) (w.heap.size + 2) 49 (encPtr pD)) := Lib.hid (kR.put rfl)
 have HFN : Hid (DvsT.right S.x = true ∧ S.x.deep K ∧ K + 200 ≤ 1000000000 ∧ S.x.takes ∧ (0 ≤ S.keep ∧ S.keep ≤ 1000000000) ∧ S.born.length ≤ 1000000) := Lib.hid ⟨hr, hK, hK2, hw, hkp, hbn⟩
 have HPL := Lib.hid hpl
 clear h htl hr hK hK2 hw hkp hbn hpl kS kT kR hR hb0 hcs
 go_enter Tryz.func12, Tryz.ntmps12
 go_upto_region 1 with fail
 simp only [Nat.add_assoc, Nat.reduceAdd]
 rw [← hw0]
 clear hw0
 by_cases hb : blkOk t = true
 ·by_cases h1 : level < 0
  ·have HNO : Hid (putOk S t level = false) := Lib.hid (by unfold putOk; rw [hb, decide_eq_false (fun h => by omega)]; rfl)
   rw [hb] at HTX
   go_wp2_with fail
   refine HTX.out.mono ?_
   rintro e wx ⟨rfl, hwx⟩
   subst hwx
   go_wp2_with fail
   refine bodyPost_ret (results_pt rfl _ _ (w.heap.size + 2) pD rfl HBR.out) rfl ?_
   exact HERR.out HNO.out _ rfl
  ·by_cases h2 : 3 < level
   ·have HNO : Hid (putOk S t level = false) := Lib.hid (by unfold putOk; rw [hb, decide_eq_false (fun h => by omega)]; rfl)
    rw [hb] at HTX
    go_wp2_with fail
    refine HTX.out.mono ?_
    rintro e wx ⟨rfl, hwx⟩
    subst hwx
    go_wp2_with fail
    refine bodyPost_ret (results_pt rfl _ _ (w.heap.size + 2) pD rfl HBR.out) rfl ?_
    exact HERR.out HNO.out _ rfl
   ·by_cases h3 : S.txg < 1
    ·have HNO : Hid (putOk S t level = false) := Lib.hid (by unfold putOk; rw [hb, decide_eq_false (fun h => by omega)]; rfl)
     rw [hb] at HTX
     go_wp2_with fail
     refine HTX.out.mono ?_
     rintro e wx ⟨rfl, hwx⟩
     subst hwx
     go_wp2_with fail
     refine bodyPost_ret (results_pt rfl _ _ (w.heap.size + 2) pD rfl HBR.out) rfl ?_
     exact HERR.out HNO.out _ rfl
    ·by_cases h4 : 4294967295 < S.txg
     ·have HNO : Hid (putOk S t level = false) := Lib.hid (by unfold putOk; rw [hb, decide_eq_false (fun h => by omega)]; rfl)
      rw [hb] at HTX
      go_wp2_with fail
      refine HTX.out.mono ?_
      rintro e wx ⟨rfl, hwx⟩
      subst hwx
      go_wp2_with fail
      refine bodyPost_ret (results_pt rfl _ _ (w.heap.size + 2) pD rfl HBR.out) rfl ?_
      exact HERR.out HNO.out _ rfl
     ·exfalso
      have := HNOO.out
      unfold putOk at this
      rw [hb, decide_eq_true (by omega)] at this
      cases this
 ·have hb2 : blkOk t = false := by simpa using hb
  have HNO : Hid (putOk S t level = false) := Lib.hid (by unfold putOk; rw [hb2]; rfl)
  rw [hb2] at HTX
  go_wp2_with fail
  refine HTX.out.mono ?_
  rintro e wx ⟨rfl, hwx⟩
  subst hwx
  go_wp2_with fail
  refine bodyPost_ret (results_pt rfl _ _ (w.heap.size + 2) pD rfl HBR.out) rfl ?_
  exact HERR.out HNO.out _ rfl
set_option maxRecDepth 100000 in
set_option maxHeartbeats 8000000 in
theorem put_yes {w : World} {sb : Nat} {S : StoT} {V : DvV} {bb : Nat} {dn : Option Nat} {T : Nat → Prop} (h : IsSto w sb S V bb dn T) (t : Bs) (level : Int) (htl : t.length ≤ 1000000) (hr : S.x.right = true) (K : Nat) (hK : S.x.deep K) (hK2 : K + 200 ≤ 1000000000) (hw : S.x.takes) (hkp : 0 ≤ S.keep ∧ S.keep ≤ 1000000000) (hbn : S.born.length ≤ 1000000)
  (hpl : (plcX S ((t.length / 64 : Nat) : Int) level).err = 0 → ∀ q ∈ (plcX S ((t.length / 64 : Nat) : Int) level).l, mayC S.x.gs S.x.secs (q.1 : Nat) (q.2 : Nat) ((t.length / 64 : Nat) : Int) = true) (hyes : putOk S t level = true) :
  Calls Tryz.prog 12 #[.pointer (some ⟨sb, 0, none⟩), .string ⟨t.toArray⟩, .int .i64 level] w (PutFn w sb V bb dn T (putR S t level)) := by
 obtain ⟨ga, gc, la, lc, wa, acp, rfl⟩ := h.form
 have HYES := Lib.hid hyes
 clear hyes
 obtain ⟨w0, hw0⟩ : ∃ w0, w0 = ((w.alloc (.cells #[.pointer (some ⟨sb, 0, none⟩)] 32)).alloc (.cells #[.string ⟨t.toArray⟩] 9)).alloc (.cells #[.int .i64 0, .int .i64 0, .int .i64 0, .int .i64 0, .bool false, .int .i64 0, .int .i64 0, .int .i64 0, .int .u64 0, .int .u64 0, .int .u64 0, .int .u64 0] 49) := ⟨_, rfl⟩
 have hb0 : Below w.heap.size w w0 := by rw [hw0]; exact (((Below.refl _ _).alloc (Nat.le_refl _) _).alloc (by simp) _).alloc (by simp; omega) _
 have kS : Blk w0 w.heap.size 32 [.pointer (some ⟨sb, 0, none⟩)] := by rw [hw0]; exact ((Blk.new w _ [.pointer (some ⟨sb, 0, none⟩)]).alloc _).alloc _
 have kT : Blk w0 (w.heap.size + 1) 9 [.string ⟨t.toArray⟩] := by rw [hw0]; exact (Blk.newAt (g := w.heap.size + 1) _ [.string ⟨t.toArray⟩] (by simp)).alloc _
 have kR : Blk w0 (w.heap.size + 2) 49 (encPtr pD) := by rw [hw0]; exact Blk.newAt (g := w.heap.size + 2) _ (encPtr pD) (by simp)
 have HS0 : Hid (w0.heap.size = w.heap.size + 3) := Lib.hid (by rw [hw0]; simp)
 have HAT0 := Lib.hid ((StoAt.start h).below hb0)
 have HNT : Hid (¬ T w.heap.size ∧ ¬ T (w.heap.size + 1) ∧ ¬ T (w.heap.size + 2)) := Lib.hid ⟨fun hf => by have := h.lt _ hf; omega, fun hf => by have := h.lt _ hf; omega, fun hf => by have := h.lt _ hf; omega⟩
 have HKS := Lib.hid kS
 have HKT := Lib.hid kT
 have HKR := Lib.hid kR
 have HTX := Lib.hid (stext_any t htl w0)
 have c0 : w0.cell? ⟨w.heap.size, 0, none⟩ = some (.pointer (some ⟨sb, 0, none⟩)) := kS.cell 0
 have c1 : w0.cell? ⟨w.heap.size + 1, 0, none⟩ = some (.string ⟨t.toArray⟩) := kT.cell 0
 have hcs := HAT0.out.is.cells
 have e4 : w0.cell? ⟨sb, 4, none⟩ = some (.pointer (some ⟨bb, 0, none⟩)) := hcs.cell 4
 have e5 : w0.cell? ⟨sb, 5, none⟩ = some (.int .i64 S.txg) := hcs.cell 5
 obtain ⟨R, hR⟩ : ∃ R, R = putR S t level := ⟨_, rfl⟩
 rw [← hR]
 have HR := Lib.hid hR
 have s0 : ∀ (op : Oper) (a : Act) (next : Act → World → Prop) (Q : Exit → Act → World → Prop), StoreW Tryz.prog op 49 (.pointer (some ⟨w.heap.size + 2, 0, none⟩)) (.agg #[.int .i64 0, .int .i64 0, .int .i64 0, .int .i64 0, .bool false, .int .i64 0, .int .i64 0, .int .i64 0, .int .u64 0, .int .u64 0, .int .u64 0, .int .u64 0]) a w0 next Q = next (a.put op.dst undef) (w0.setCells (w.heap.size + 2) 0 (encPtr pD)) := fun op a next Q => storeW_part (cs := encPtr pD) kR (Nat.le_refl _) iszPt (encPtr_ones pD) op a next Q
 have HERR : Hid (putOk S t level = false → ∀ e, e = Ending.returned (.tuple #[.agg (encPtr pD).toArray, .int .i64 1]) → PutFn w sb _ bb dn T R e (w0.setCells (w.heap.size + 2) 0 (encPtr pD))) := Lib.hid (fun hno e he => by
  have hRe : R = ⟨pD, 1, S⟩ := by rw [HR.out]; unfold putR; rw [if_pos hno]
  rw [hRe]
  refine ⟨he, dn, fun d e => e, ?_⟩
  exact (HAT0.out.other HKR.out (by unfold BookTy; decide) HNT.out.2.2 (by omega) (setCells_grown _ _ _ _)).fin)
 have HBR : Hid (Blk (w0.setCells (w.heap.size + 2) 0 (encPtr pD)) (w.heap.size + 2) 49 (encPtr pD)) := Lib.hid (kR.put rfl)
 have HFN : Hid (DvsT.right S.x = true ∧ S.x.deep K ∧ K + 200 ≤ 1000000000 ∧ S.x.takes ∧ (0 ≤ S.keep ∧ S.keep ≤ 1000000000) ∧ S.born.length ≤ 1000000) := Lib.hid ⟨hr, hK, hK2, hw, hkp, hbn⟩
 have HPL := Lib.hid hpl
 clear h htl hr hK hK2 hw hkp hbn hpl kS kT kR hR hb0 hcs
 go_enter Tryz.func12, Tryz.ntmps12
 go_upto_region 1 with fail
 simp only [Nat.add_assoc, Nat.reduceAdd]
 rw [← hw0]
 clear hw0
 have hyy := HYES.out
 unfold putOk at hyy
 simp only [Bool.and_eq_true, decide_eq_true_eq] at hyy
 obtain ⟨hb, h1, h2, h3, h4⟩ := hyy
 rw [hb] at HTX
 clear HERR HBR s0
 obtain ⟨F, hdv, _, _⟩ := HAT0.out.is.dvs
 have HVR := Lib.hid (vright_any hdv HFN.out.1)
 have hcs := HAT0.out.is.cells
 have d0 : w0.cell? ⟨sb, 0, none⟩ = some (.slice ga S.x.gs.length gc) := hcs.cell 0
 have d1 : w0.cell? ⟨sb, 1, none⟩ = some (.int .i64 S.x.secs) := hcs.cell 1
 have d2 : w0.cell? ⟨sb, 2, none⟩ = some (.slice la S.x.ds.length lc) := hcs.cell 2
 have d3 : w0.cell? ⟨sb, 3, none⟩ = some (.slice wa S.x.ds.length acp) := hcs.cell 3
 have hb256 : t.length ≤ 256 ∧ t.length % 64 = 0 ∧ 0 < t.length := by
  have := hb
  unfold blkOk at this
  simp only [decide_eq_true_eq] at this
  exact ⟨this.2.2, this.2.1, by rcases t with _ | _; exact absurd rfl this.1; simp⟩
 obtain ⟨⟨x0, x1, x2, x3⟩, hx⟩ : ∃ z, z = sumF t := ⟨_, rfl⟩
 have HSM : Hid (∀ W, Calls Tryz.prog 17 #[.string ⟨t.toArray⟩] W fun e w' => e = .returned (.agg #[.int .u64 (x0 : Nat), .int .u64 (x1 : Nat), .int .u64 (x2 : Nat), .int .u64 (x3 : Nat)]) ∧ Below W.heap.size W w') := Lib.hid (fun W => by
  have h9 := sum_any t (by omega) W
  rw [← hx] at h9
  exact h9)
 have HWQ : Hid (IntKind.i64.wrap ((t.length : Int) / 64) = ((t.length / 64 : Nat) : Int)) := Lib.hid (by rw [IntWalk.i64_in _ (by omega)]; omega)
 have HX := Lib.hid hx
 clear hcs hdv hx
 go_wp2_with fail
 refine HTX.out.mono ?_
 rintro e wx ⟨rfl, hwx⟩
 subst hwx
 go_wp2_with fail
 refine HVR.out.mono ?_
 rintro e w1 ⟨rfl, hb1⟩
 have HAT1 := Lib.hid (HAT0.out.below hb1)
 have K1S := Lib.hid (HKS.out.below hb1)
 have K1T := Lib.hid (HKT.out.below hb1)
 have K1R := Lib.hid (HKR.out.below hb1)
 have HS1 : Hid (w.heap.size + 3 ≤ w1.heap.size) := Lib.hid (by have := hb1.size; have := HS0.out; omega)
 have hS0 : PuR w.heap.size (w.heap.size + 1) sb (stoC ⟨.slice ga S.x.gs.length gc, .slice la S.x.ds.length lc, .slice wa S.x.ds.length acp⟩ S bb dn) t w1.drew := ⟨K1S.out, K1T.out, HAT1.out.is.cells⟩
 clear hb1 c0 c1 e4 e5 d0 d1 d2 d3 HVR HTX
 go_upto_region 3 with fail
 go_cut [8] (fun v8 wx => ∃ g8, v8 = .pointer (some ⟨g8, 0, none⟩) ∧ Hid (Blk wx g8 49 (encPtr ⟨0, 0, 0, 0, false, ((t.length / 64 : Nat) : Int), level, S.txg, (x0 : Nat), (x1 : Nat), (x2 : Nat), (x3 : Nat)⟩) ∧ w1.heap.size ≤ g8 ∧ Below w1.heap.size w1 wx))
 case first =>
  refine wp_region_held_drew (S := PuR w.heap.size (w.heap.size + 1) sb (stoC ⟨.slice ga S.x.gs.length gc, .slice la S.x.ds.length lc, .slice wa S.x.ds.length acp⟩ S bb dn) t) (by kernel_rfl) hS0 (fun hS0 => ?_)
  refine rtv (i := 0) (v := ?vy0) (hy := ?yy0) (h := ?_)
  case yy0 => intro w hSw; (try dsimp only at hSw); go_simp; rw [(PuR.t hSw).cell 0]; rfl
  try simp only [Act.put, z1, z2, z3]
  refine rtd 1 ?_
  refine rtv (i := 2) (v := ?vy2) (hy := ?yy2) (h := ?_)
  case yy2 => intro w hSw; (try dsimp only at hSw); go_simp; rw [HWQ.out]
  try simp only [Act.put, z1, z2, z3]
  refine rtd 3 ?_
  refine rtv (i := 4) (v := ?vy4) (hy := ?yy4) (h := ?_)
  case yy4 => intro w hSw; (try dsimp only at hSw); go_simp; rw [(PuR.s hSw).cell 0]; rfl
  try simp only [Act.put, z1, z2, z3]
  refine rtd 5 ?_; refine rtd 6 ?_
  refine rtv (i := 7) (v := ?vy7) (hy := ?yy7) (h := ?_)
  case yy7 => intro w hSw; (try dsimp only at hSw); go_simp; rw [(PuR.b hSw).cell 5]; rfl
  try simp only [Act.put, z1, z2, z3]
  refine rtv (i := 8) (v := ?vy8) (hy := ?yy8) (h := ?_)
  case yy8 => intro w hSw; (try dsimp only at hSw); go_simp; rw [(PuR.t hSw).cell 0]; rfl
  try simp only [Act.put, z1, z2, z3]
  refine wpAnyH_ready (rs := [9, 11]) (by kernel_rfl) (by simp) ?_
  refine AllReadyH.cons (by simp only [List.getElem?_toArray, List.getElem?_cons_succ, List.getElem?_cons_zero]; rfl) (fun K hK => ?_) (AllReadyH.cons (by simp only [List.getElem?_toArray, List.getElem?_cons_succ, List.getElem?_cons_zero]; rfl) (fun K hK => ?_) AllReadyH.nil)
  ·go_simp
   refine (HSM.out w1.drew).mono ?_
   rintro e w6 ⟨rfl, hb6⟩
   have HB6 : Hid (Below w1.heap.size w1 w6) := Lib.hid ((Below.refl w1.heap.size w1).drew.trans (hb6.mono ((Below.refl w1.heap.size w1).drew).size))
   have HP6 := Lib.hid (hS0.below hb6)
   clear hb6
   try dsimp only
   refine hK.out _ _ (HP6.out) (fun hSyp9 => ?_)
   try simp only [Act.put, z1, z2, z3]
   refine rtd 10 ?_
   refine rr1 (i := 11) (h := fun K hK => ?_)
   go_simp
   skip
   refine hK.out _ _ ((HP6.out.below ((Below.refl _ _).alloc (Nat.le_refl _) (.cells (encPtr pD).toArray 49)))) (fun hSyp11 => ?_)
   try simp only [Act.put, z1, z2, z3]
   refine rr1 (i := 12) (h := fun K hK => ?_)
   rw [if_pos (by kernel_rfl)]
   refine wp_store_mid 49 (.tmp 8) (.tmp 66) rfl w6.heap.size (0) (encPtr ⟨0, 0, 0, 0, false, ((t.length / 64 : Nat) : Int), level, S.txg, (x0 : Nat), (x1 : Nat), (x2 : Nat), (x3 : Nat)⟩).toArray rfl rfl (blk_there (Blk.new w6 49 (encPtr pD)) (Nat.le_refl 12)) iszPt (all_oneCell_toArray (encPtr_ones _)) ?_
   refine hK.out _ _ (⟨(HP6.out.s.alloc _).away 0 _ (by have := HP6.out.s.lt; omega), (HP6.out.t.alloc _).away 0 _ (by have := HP6.out.t.lt; omega), (HP6.out.b.alloc _).away 0 _ (by have := HP6.out.b.lt; omega)⟩) (fun hSyp12 => ?_)
   try simp only [Act.put, z1, z2, z3]
   have HT : Hid (Blk ((w6.alloc (.cells (encPtr pD).toArray 49)).setCells w6.heap.size 0 (encPtr ⟨0, 0, 0, 0, false, ((t.length / 64 : Nat) : Int), level, S.txg, (x0 : Nat), (x1 : Nat), (x2 : Nat), (x3 : Nat)⟩)) w6.heap.size 49 (encPtr ⟨0, 0, 0, 0, false, ((t.length / 64 : Nat) : Int), level, S.txg, (x0 : Nat), (x1 : Nat), (x2 : Nat), (x3 : Nat)⟩) ∧ w1.heap.size ≤ w6.heap.size ∧ Below w1.heap.size w1 ((w6.alloc (.cells (encPtr pD).toArray 49)).setCells w6.heap.size 0 (encPtr ⟨0, 0, 0, 0, false, ((t.length / 64 : Nat) : Int), level, S.txg, (x0 : Nat), (x1 : Nat), (x2 : Nat), (x3 : Nat)⟩))) := Lib.hid ⟨(Blk.new w6 49 (encPtr pD)).put rfl, HB6.out.size, below_put (HB6.out.alloc HB6.out.size _) (by have := HB6.out.size; simp; omega) HB6.out.size⟩
   refine wpAnyH_done (by kernel_rfl) ?_ _
   go_wp2_with fail
   go_meet
   exact ⟨_, rfl, HT⟩
  ·go_simp
   skip
   refine hK.out _ _ ((hS0.below ((Below.refl _ _).alloc (Nat.le_refl _) (.cells (encPtr pD).toArray 49)))) (fun hSyq11 => ?_)
   try simp only [Act.put, z1, z2, z3]
   refine rr1 (i := 9) (h := fun K hK => ?_)
   go_simp
   refine (HSM.out (w1.drew.alloc (.cells (encPtr pD).toArray 49))).mono ?_
   rintro e w6 ⟨rfl, hb6⟩
   have HB6 : Hid (Below w1.heap.size w1 w6) := Lib.hid (((Below.refl _ _).drew.alloc (Nat.le_refl _) (.cells (encPtr pD).toArray 49)).trans (hb6.mono ((Below.refl w1.heap.size w1).drew.alloc (Nat.le_refl _) (.cells (encPtr pD).toArray 49)).size))
   have HP6 := Lib.hid ((hS0.below ((Below.refl _ _).alloc (Nat.le_refl _) (.cells (encPtr pD).toArray 49))).below hb6)
   have HX6 : Hid (Blk w6 w1.heap.size 49 (encPtr pD)) := Lib.hid ((Blk.new w1.drew _ (encPtr pD)).below hb6)
   clear hb6
   try dsimp only
   refine hK.out _ _ (HP6.out) (fun hSyq9 => ?_)
   try simp only [Act.put, z1, z2, z3]
   refine rtd 10 ?_
   refine rr1 (i := 12) (h := fun K hK => ?_)
   rw [if_pos (by kernel_rfl)]
   refine wp_store_mid 49 (.tmp 8) (.tmp 66) rfl w1.heap.size (0) (encPtr ⟨0, 0, 0, 0, false, ((t.length / 64 : Nat) : Int), level, S.txg, (x0 : Nat), (x1 : Nat), (x2 : Nat), (x3 : Nat)⟩).toArray rfl rfl (blk_there HX6.out (Nat.le_refl 12)) iszPt (all_oneCell_toArray (encPtr_ones _)) ?_
   refine hK.out _ _ (⟨HP6.out.s.away 0 _ (by have := HS1.out; omega), HP6.out.t.away 0 _ (by have := HS1.out; omega), HP6.out.b.away 0 _ (by have := hS0.b.lt; have e : w1.drew.heap.size = w1.heap.size := rfl; omega)⟩) (fun hSyq12 => ?_)
   try simp only [Act.put, z1, z2, z3]
   have HT : Hid (Blk (w6.setCells w1.heap.size 0 (encPtr ⟨0, 0, 0, 0, false, ((t.length / 64 : Nat) : Int), level, S.txg, (x0 : Nat), (x1 : Nat), (x2 : Nat), (x3 : Nat)⟩)) w1.heap.size 49 (encPtr ⟨0, 0, 0, 0, false, ((t.length / 64 : Nat) : Int), level, S.txg, (x0 : Nat), (x1 : Nat), (x2 : Nat), (x3 : Nat)⟩) ∧ w1.heap.size ≤ w1.heap.size ∧ Below w1.heap.size w1 (w6.setCells w1.heap.size 0 (encPtr ⟨0, 0, 0, 0, false, ((t.length / 64 : Nat) : Int), level, S.txg, (x0 : Nat), (x1 : Nat), (x2 : Nat), (x3 : Nat)⟩))) := Lib.hid ⟨HX6.out.put rfl, Nat.le_refl _, below_put HB6.out HB6.out.size (Nat.le_refl _)⟩
   refine wpAnyH_done (by kernel_rfl) ?_ _
   go_wp2_with fail
   go_meet
   exact ⟨_, rfl, HT⟩
 case rest =>
  obtain ⟨g8, rfl, HG8⟩ := hcut
  have HAT2 := Lib.hid (HAT1.out.below HG8.out.2.2)
  have K2S := Lib.hid (K1S.out.below HG8.out.2.2)
  have K2T := Lib.hid (K1T.out.below HG8.out.2.2)
  have K2R := Lib.hid (K1R.out.below HG8.out.2.2)
  have HG8N : Hid (¬ T g8 ∧ w.heap.size + 3 ≤ g8) := Lib.hid ⟨fun hf => by have := HAT1.out.is.lt _ hf; have := HG8.out.2.1; omega, by have := HG8.out.2.1; have := HS1.out; omega⟩
  have b0 : wc.cell? ⟨w.heap.size, 0, none⟩ = some (.pointer (some ⟨sb, 0, none⟩)) := K2S.out.cell 0
  have b5 : wc.cell? ⟨g8, 5, none⟩ = some (.int .i64 ((t.length / 64 : Nat) : Int)) := HG8.out.1.cell 5
  obtain ⟨sz, hsz⟩ : ∃ sz : Int, sz = ((t.length / 64 : Nat) : Int) := ⟨_, rfl⟩
  have HSZ := Lib.hid hsz
  rw [← hsz] at b5
  have HPC := Lib.hid (places_yes HAT2.out.is sz level HFN.out.2.2.2.2.1)
  obtain ⟨er, hper⟩ : ∃ er, er = (plcX S sz level).err := ⟨_, rfl⟩
  obtain ⟨l, hl⟩ : ∃ l, l = (plcX S sz level).l := ⟨_, rfl⟩
  obtain ⟨sn1, hsn1⟩ : ∃ sn1, sn1 = (plcX S sz level).sn := ⟨_, rfl⟩
  obtain ⟨es1, hes1⟩ : ∃ es1, es1 = (plcX S sz level).es := ⟨_, rfl⟩
  rw [← hper, ← hl, ← hsn1, ← hes1] at HPC
  have HRE : Hid (R = if er ≠ 0 then ⟨pD, er, { S with sn := sn1, es := es1 }⟩ else ⟨mkPt t level S.txg l, 0, { S with sn := sn1, es := es1, x := putsL t l S.x, born := S.born ++ [mkPt t level S.txg l] }⟩) := Lib.hid (by
   rw [HR.out]
   unfold putR
   rw [if_neg (by rw [HYES.out]; decide), ← HSZ.out, ← hper, ← hl, ← hsn1, ← hes1])
  have HL12 : Hid (er = 0 → l.length = 1 ∨ l.length = 2) := Lib.hid (fun h0 => by rw [hl]; exact plc_len S sz level (hper.symm.trans h0))
  have HLM : Hid (er = 0 → ∀ q ∈ l, mayC S.x.gs S.x.secs (q.1 : Nat) (q.2 : Nat) ((t.length / 64 : Nat) : Int) = true) := Lib.hid (fun h0 q hq => by
   refine HPL.out ?_ q ?_
   ·rw [← HSZ.out, ← hper]; exact h0
   ·rw [← HSZ.out, ← hl]; exact hq)
  clear hper hl hsn1 hes1 hsz HR
  go_wp2_with fail
  refine HPC.out.mono ?_
  rintro e w3 ⟨v, rfl, ⟨vao, vn, vc, rfl⟩, hv, hst⟩
  obtain ⟨T3, hat3, hfr3, hm3⟩ := HAT2.out.step hst
  have HAT3 := Lib.hid hat3
  have HNT3 : Hid (¬ T3 w.heap.size ∧ ¬ T3 (w.heap.size + 1) ∧ ¬ T3 (w.heap.size + 2) ∧ ¬ T3 g8) := Lib.hid ⟨hfr3 _ K2S.out.lt HNT.out.1, hfr3 _ K2T.out.lt HNT.out.2.1, hfr3 _ K2R.out.lt HNT.out.2.2, hfr3 _ HG8.out.1.lt HG8N.out.1⟩
  have K3S := Lib.hid (hm3.blk K2S.out HNT.out.1)
  have K3T := Lib.hid (hm3.blk K2T.out HNT.out.2.1)
  have K3R := Lib.hid (hm3.blk K2R.out HNT.out.2.2)
  have K38 := Lib.hid (hm3.blk HG8.out.1 HG8N.out.1)
  have HV := Lib.hid hv
  clear hv hst hat3 hfr3 hm3 HPC b0 b5
  by_cases her : er = 0
  ·obtain ⟨gl, hve, hgl, hkl⟩ := HV.out her
   rw [hve]
   subst her
   clear hve HV
   have hll : l.length ≤ 2 := by rcases HL12.out rfl with h | h <;> omega
   have HDL := Lib.hid (deleteP_any HAT3.out.is w.heap.size (w.heap.size + 1) g8 gl l.length t l K3S.out K3T.out hkl HNT3.out.1 HNT3.out.2.1 hll HFN.out.1 hb (HLM.out rfl) K HFN.out.2.1 HFN.out.2.2.1 HFN.out.2.2.2.1)
   have HKL := Lib.hid hkl
   have HKN := Lib.hid (HAT3.out.is.noType hkl (by unfold StoTy BookTy DevTy; decide))
   clear hgl hkl
   go_wp2_with fail
   refine HDL.out.mono ?_
   rintro e w4 ⟨rfl, hst⟩
   obtain ⟨T4, hat4, hfr4, hm4⟩ := HAT3.out.step hst
   have HAT4 := Lib.hid hat4
   have HNT4 : Hid (¬ T4 w.heap.size ∧ ¬ T4 g8 ∧ ¬ T4 (w.heap.size + 2)) := Lib.hid ⟨hfr4 _ K3S.out.lt HNT3.out.1, hfr4 _ K38.out.lt HNT3.out.2.2.2, hfr4 _ K3R.out.lt HNT3.out.2.2.1⟩
   have K4S := Lib.hid (hm4.blk K3S.out HNT3.out.1)
   have K4R := Lib.hid (hm4.blk K3R.out HNT3.out.2.2.1)
   have K48 := Lib.hid (hm4.blk K38.out HNT3.out.2.2.2)
   have K4L := Lib.hid (hm4.blk HKL.out HKN.out)
   clear hst hat4 hfr4 hm4 HDL
   rcases l with _ | ⟨⟨q0g, q0a⟩, _ | ⟨⟨q1g, q1a⟩, _ | ⟨q2, rr⟩⟩⟩
   ·exfalso
    rcases HL12.out (by trivial) with h | h <;> cases h
   ·have hgS : w.heap.size ≠ g8 := by have := HG8N.out.2; omega
    have hgR : w.heap.size + 2 ≠ g8 := by have := HG8N.out.2; omega
    have hg8 : w.heap.size + 3 ≤ g8 := HG8N.out.2
    obtain ⟨w5, hw5⟩ : ∃ w5, w5 = (((w4.setCell ⟨g8, 0, none⟩ (.int .i64 (q0g : Nat))).setCell ⟨g8, 1, none⟩ (.int .i64 (q0a : Nat))).setCell ⟨g8, 4, none⟩ (.bool false)) := ⟨_, rfl⟩
    have HAT5 : Hid (StoAt { S with sn := sn1, es := es1, x := putsL t [(q0g, q0a)] S.x } _ sb bb dn T w w5 T4) := Lib.hid (by rw [hw5]; exact (((HAT4.out.other (wd := w4.setCell ⟨g8, 0, none⟩ (.int .i64 (q0g : Nat))) K48.out (by unfold BookTy; decide) HNT4.out.2.1 (by omega) blk_gr).other (wd := (w4.setCell ⟨g8, 0, none⟩ (.int .i64 (q0g : Nat))).setCell ⟨g8, 1, none⟩ (.int .i64 (q0a : Nat))) (K48.out.setCell 0 (.int .i64 (q0g : Nat))) (by unfold BookTy; decide) HNT4.out.2.1 (by omega) blk_gr).other (wd := ((w4.setCell ⟨g8, 0, none⟩ (.int .i64 (q0g : Nat))).setCell ⟨g8, 1, none⟩ (.int .i64 (q0a : Nat))).setCell ⟨g8, 4, none⟩ (.bool false)) ((K48.out.setCell 0 (.int .i64 (q0g : Nat))).setCell 1 (.int .i64 (q0a : Nat))) (by unfold BookTy; decide) HNT4.out.2.1 (by omega) blk_gr))
    have HPW : Hid (PuW w.heap.size g8 (w.heap.size + 2) sb ⟨(q0g : Nat), (q0a : Nat), 0, 0, false, sz, level, S.txg, (x0 : Nat), (x1 : Nat), (x2 : Nat), (x3 : Nat)⟩ w5) := Lib.hid (by rw [hw5, HSZ.out]; exact ⟨(((K4S.out.other (a := ⟨g8, 0, none⟩) hgS _).other (a := ⟨g8, 1, none⟩) hgS _).other (a := ⟨g8, 4, none⟩) hgS _), (((K48.out.setCell 0 (.int .i64 (q0g : Nat))).setCell 1 (.int .i64 (q0a : Nat))).setCell 4 (.bool false)), (((K4R.out.other (a := ⟨g8, 0, none⟩) hgR _).other (a := ⟨g8, 1, none⟩) hgR _).other (a := ⟨g8, 4, none⟩) hgR _)⟩)
    have HRR : Hid (R = ⟨⟨(q0g : Nat), (q0a : Nat), 0, 0, false, sz, level, S.txg, (x0 : Nat), (x1 : Nat), (x2 : Nat), (x3 : Nat)⟩, 0, { S with sn := sn1, es := es1, x := putsL t [(q0g, q0a)] S.x, born := S.born ++ [⟨(q0g : Nat), (q0a : Nat), 0, 0, false, sz, level, S.txg, (x0 : Nat), (x1 : Nat), (x2 : Nat), (x3 : Nat)⟩] }⟩) := Lib.hid (by
     have hp : mkPt t level S.txg [(q0g, q0a)] = ⟨(q0g : Nat), (q0a : Nat), 0, 0, false, sz, level, S.txg, (x0 : Nat), (x1 : Nat), (x2 : Nat), (x3 : Nat)⟩ := by unfold mkPt; rw [← HX.out, ← HSZ.out]; rfl
     rw [HRE.out, if_neg (by simp), hp])
    have z0 : w4.cell? ⟨gl, 0, none⟩ = some (.int .i64 (q0g : Nat)) := K4L.out.cell 0
    have z1 : w4.cell? ⟨gl, 1, none⟩ = some (.int .i64 (q0a : Nat)) := K4L.out.cell 1
    have hgl : gl ≠ g8 := fun e => by
     have h1 := K4L.out
     have h2 := K48.out
     unfold Blk at h1 h2
     rw [e, h2] at h1
     simp only [Option.some.injEq, Obj.cells.injEq] at h1
     exact absurd h1.2.1 (by decide)
    have y0 : w4.cell? ⟨g8, 0, none⟩ = some (.int .i64 0) := K48.out.cell 0
    have y1 : w4.cell? ⟨g8, 1, none⟩ = some (.int .i64 0) := K48.out.cell 1
    have y2 : w4.cell? ⟨g8, 2, none⟩ = some (.int .i64 0) := K48.out.cell 2
    have y3 : w4.cell? ⟨g8, 3, none⟩ = some (.int .i64 0) := K48.out.cell 3
    have y4 : w4.cell? ⟨g8, 4, none⟩ = some (.bool false) := K48.out.cell 4
    have v0 := K48.out.frozen 0
    have v1 := K48.out.frozen 1
    have v2 := K48.out.frozen 2
    have v3 := K48.out.frozen 3
    have v4 := K48.out.frozen 4
    simp only [List.length_cons, List.length_nil, Nat.zero_add, Nat.reduceAdd]
    go_upto_region 13 with fail
    rw [← hw5]
    clear hw5 y0 y1 y2 y3 y4 v0 v1 v2 v3 v4 z0 z1 hgl
    have HA5 := Lib.hid (HAT5.out.below (Below.refl _ _).drew)
    have HA5b := Lib.hid (HA5.out.alloc (.cells (encPtr ⟨(q0g : Nat), (q0a : Nat), 0, 0, false, sz, level, S.txg, (x0 : Nat), (x1 : Nat), (x2 : Nat), (x3 : Nat)⟩).toArray 49))
    have hS5 : PuW w.heap.size g8 (w.heap.size + 2) sb ⟨(q0g : Nat), (q0a : Nat), 0, 0, false, sz, level, S.txg, (x0 : Nat), (x1 : Nat), (x2 : Nat), (x3 : Nat)⟩ w5.drew := HPW.out.below (Below.refl _ _).drew
    go_cut [100] (fun v wx => ∃ d Tz, v = .pointer (some ⟨sb, 0, none⟩) ∧ Hid (∀ d0, dn = some d0 → d = d0) ∧ Hid (StoAt { S with sn := sn1, es := es1, x := putsL t [(q0g, q0a)] S.x, born := S.born ++ [⟨(q0g : Nat), (q0a : Nat), 0, 0, false, sz, level, S.txg, (x0 : Nat), (x1 : Nat), (x2 : Nat), (x3 : Nat)⟩] } ⟨.slice ga S.x.gs.length gc, .slice la S.x.ds.length lc, .slice wa S.x.ds.length acp⟩ sb bb (some d) T w wx Tz) ∧ Hid (PuW w.heap.size g8 (w.heap.size + 2) sb ⟨(q0g : Nat), (q0a : Nat), 0, 0, false, sz, level, S.txg, (x0 : Nat), (x1 : Nat), (x2 : Nat), (x3 : Nat)⟩ wx) ∧ Hid (¬ Tz g8 ∧ ¬ Tz (w.heap.size + 2)))
    case first =>
     refine wp_region_held_drew (S := PuW w.heap.size g8 (w.heap.size + 2) sb ⟨(q0g : Nat), (q0a : Nat), 0, 0, false, sz, level, S.txg, (x0 : Nat), (x1 : Nat), (x2 : Nat), (x3 : Nat)⟩) (by kernel_rfl) hS5 (fun hS5 => ?_)
     refine rtv (i := 0) (v := ?vz0) (hy := ?yz0) (h := ?_)
     case yz0 => intro w hSw; (try dsimp only at hSw); go_simp; rw [(PuW.s hSw).cell 0]; rfl
     try simp only [Act.put, z1, z2, z3]
     refine rtv (i := 2) (v := ?vz2) (hy := ?yz2) (h := ?_)
     case yz2 => intro w hSw; (try dsimp only at hSw); go_simp; rw [(PuW.s hSw).cell 0]; rfl
     try simp only [Act.put, z1, z2, z3]
     refine rtg 7 ?vz7 ?yz7 ?_
     case yz7 => refine yieldsIf_load_mid (by kernel_rfl) 49 (.tmp 8) ?_ g8 (0) ?_ (encPtr ⟨(q0g : Nat), (q0a : Nat), 0, 0, false, sz, level, S.txg, (x0 : Nat), (x1 : Nat), (x2 : Nat), (x3 : Nat)⟩) _ (fun w' (hw : PuW _ _ _ _ _ w') => range0M hw.p) Tryz.underlying49 rfl iszPt <;> rfl
     refine wpAnyH_ready (rs := [1, 8]) (by kernel_rfl) (by simp) ?_
     refine AllReadyH.cons (by simp only [List.getElem?_toArray, List.getElem?_cons_succ, List.getElem?_cons_zero]; rfl) (fun K hK => ?_) (AllReadyH.cons (by simp only [List.getElem?_toArray, List.getElem?_cons_succ, List.getElem?_cons_zero]; rfl) (fun K hK => ?_) AllReadyH.nil)
     ·go_simp
      refine (work_any2 HA5.out.is).mono ?_
      rintro e w6 ⟨d, rfl, hst, hdd⟩
      obtain ⟨T6, hat6, hfr6, hm6⟩ := HA5.out.step hst
      have HAT6 := Lib.hid hat6
      have HD6 := Lib.hid hdd
      have HN6 : Hid (¬ T6 w.heap.size ∧ ¬ T6 g8 ∧ ¬ T6 (w.heap.size + 2)) := Lib.hid ⟨hfr6 _ (hS5).s.lt HNT4.out.1, hfr6 _ (hS5).p.lt HNT4.out.2.1, hfr6 _ (hS5).r.lt HNT4.out.2.2⟩
      have HP6 := Lib.hid ((hS5).mod hm6 HNT4.out)
      clear hst hdd hat6 hfr6 hm6
      try dsimp only
      refine hK.out _ _ (HP6.out) (fun hSzp1 => ?_)
      try simp only [Act.put, z1, z2, z3]
      refine wpAnyH_ready (rs := [3, 8]) (by kernel_rfl) (by simp) ?_
      refine AllReadyH.cons (by simp only [List.getElem?_toArray, List.getElem?_cons_succ, List.getElem?_cons_zero]; rfl) (fun K hK => ?_) (AllReadyH.cons (by simp only [List.getElem?_toArray, List.getElem?_cons_succ, List.getElem?_cons_zero]; rfl) (fun K hK => ?_) AllReadyH.nil)
      ·go_simp
       refine (work_some HAT6.out.is).mono ?_
       rintro e w7 ⟨rfl, hw7⟩
       rw [hw7]
       clear hw7
       try dsimp only
       refine hK.out _ _ (HP6.out) (fun hSzpp3 => ?_)
       try simp only [Act.put, z1, z2, z3]
       refine rtd 4 ?_; refine rtd 5 ?_
       obtain ⟨bv, hbv⟩ := HAT6.out.is.done
       obtain ⟨bo, bc, rfl⟩ := own_form (HAT6.out.is.app2 hbv).1
       have HBV := Lib.hid hbv
       have e6 : w6.cell? ⟨d, 1, none⟩ = some (.slice bo S.born.length bc) := hbv.cell 1
       clear hbv
       refine wpAnyH_ready (rs := [6, 8]) (by kernel_rfl) (by simp) ?_
       refine AllReadyH.cons (by simp only [List.getElem?_toArray, List.getElem?_cons_succ, List.getElem?_cons_zero]; rfl) (fun K hK => ?_) (AllReadyH.cons (by simp only [List.getElem?_toArray, List.getElem?_cons_succ, List.getElem?_cons_zero]; rfl) (fun K hK => ?_) AllReadyH.nil)
       ·go_simp
        clear e6
        refine hK.out _ _ (HP6.out) (fun hSzppp6 => ?_)
        try simp only [Act.put, z1, z2, z3]
        refine rr1 (i := 8) (h := fun K hK => ?_)
        rw [if_pos (by kernel_rfl)]
        refine wp_build_at (.tmp 107) rfl ⟨(q0g : Nat), (q0a : Nat), 0, 0, false, sz, level, S.txg, (x0 : Nat), (x1 : Nat), (x2 : Nat), (x3 : Nat)⟩ rfl ?_
        refine hK.out _ _ ((HP6.out.below ((Below.refl _ _).alloc (Nat.le_refl _) (.cells (encPtr ⟨(q0g : Nat), (q0a : Nat), 0, 0, false, sz, level, S.txg, (x0 : Nat), (x1 : Nat), (x2 : Nat), (x3 : Nat)⟩).toArray 49)))) (fun hSzppp8 => ?_)
        try simp only [Act.put, z1, z2, z3]
        have HAT6b := Lib.hid (HAT6.out.alloc (.cells (encPtr ⟨(q0g : Nat), (q0a : Nat), 0, 0, false, sz, level, S.txg, (x0 : Nat), (x1 : Nat), (x2 : Nat), (x3 : Nat)⟩).toArray 49))
        have HP6b := Lib.hid (HP6.out.below ((Below.refl _ _).alloc (Nat.le_refl _) (.cells (encPtr ⟨(q0g : Nat), (q0a : Nat), 0, 0, false, sz, level, S.txg, (x0 : Nat), (x1 : Nat), (x2 : Nat), (x3 : Nat)⟩).toArray 49)))
        have HGBb : Hid (Blk (w6.alloc (.cells (encPtr ⟨(q0g : Nat), (q0a : Nat), 0, 0, false, sz, level, S.txg, (x0 : Nat), (x1 : Nat), (x2 : Nat), (x3 : Nat)⟩).toArray 49)) w6.heap.size 49 (encPtr ⟨(q0g : Nat), (q0a : Nat), 0, 0, false, sz, level, S.txg, (x0 : Nat), (x1 : Nat), (x2 : Nat), (x3 : Nat)⟩)) := Lib.hid (Blk.new w6 _ (encPtr ⟨(q0g : Nat), (q0a : Nat), 0, 0, false, sz, level, S.txg, (x0 : Nat), (x1 : Nat), (x2 : Nat), (x3 : Nat)⟩))
        refine rr1 (i := 9) (h := fun K hK => ?_)
        rw [if_pos (by kernel_rfl)]
        obtain ⟨hrow, hTd, hTb, happ⟩ := HAT6b.out.is.app2 (HBV.out.alloc _)
        refine wp_app_ptrS (.tmp 106) (.tmp 108) rfl (.slice bo S.born.length bc) S.born rfl hrow w6.heap.size 1 ⟨(q0g : Nat), (q0a : Nat), 0, 0, false, sz, level, S.txg, (x0 : Nat), (x1 : Nat), (x2 : Nat), (x3 : Nat)⟩ rfl (range0M HGBb.out) HFN.out.2.2.2.2.2 ?_
        intro v9 w9 hown hgrow hat
        obtain ⟨hd9, hst9⟩ := happ ⟨(q0g : Nat), (q0a : Nat), 0, 0, false, sz, level, S.txg, (x0 : Nat), (x1 : Nat), (x2 : Nat), (x3 : Nat)⟩ v9 w9 hown hgrow hat
        obtain ⟨ao9, cap9, rfl⟩ := own_form hown
        obtain ⟨T9, hat9, hfr9, _⟩ := HAT6b.out.step hst9
        have HP9 := Lib.hid (HP6b.out.mod (mod_grown hgrow hTb) HN6.out)
        have HAT9 := Lib.hid (by simpa only [List.length_append, List.length_singleton] using hat9)
        have HN9 : Hid (¬ T9 g8 ∧ ¬ T9 (w.heap.size + 2)) := Lib.hid ⟨hfr9 _ HP6b.out.p.lt HN6.out.2.1, hfr9 _ HP6b.out.r.lt HN6.out.2.2⟩
        have HNE9 : Hid (w.heap.size ≠ d ∧ g8 ≠ d ∧ w.heap.size + 2 ≠ d) := Lib.hid ⟨fun e => HN6.out.1 (by rw [e]; exact hTd), fun e => HN6.out.2.1 (by rw [e]; exact hTd), fun e => HN6.out.2.2 (by rw [e]; exact hTd)⟩
        have e9 : w9.cell? ⟨d, 1, none⟩ = some (.slice bo S.born.length bc) := hd9.cell 1
        have f9 := hd9.frozen 1
        clear hrow hTd hTb happ hown hgrow hat hd9 hst9 hat9 hfr9
        refine hK.out _ _ (HP9.out) (fun hSzppp9 => ?_)
        try simp only [Act.put, z1, z2, z3]
        refine rtd 10 ?_; refine rtd 11 ?_
        refine rr1 (i := 12) (h := fun K hK => ?_)
        go_simp
        skip
        refine hK.out _ _ (⟨HP9.out.s.other HNE9.out.1 _, HP9.out.p.other HNE9.out.2.1 _, HP9.out.r.other HNE9.out.2.2 _⟩) (fun hSzppp12 => ?_)
        try simp only [Act.put, z1, z2, z3]
        have HP12 : Hid (PuW w.heap.size g8 (w.heap.size + 2) sb ⟨(q0g : Nat), (q0a : Nat), 0, 0, false, sz, level, S.txg, (x0 : Nat), (x1 : Nat), (x2 : Nat), (x3 : Nat)⟩ (w9.setCell ⟨d, 1, none⟩ (.slice ao9 (S.born.length + 1) cap9))) := Lib.hid (PuW.mk (HP9.out.s.other HNE9.out.1 _) (HP9.out.p.other HNE9.out.2.1 _) (HP9.out.r.other HNE9.out.2.2 _))
        refine wpAnyH_done (by kernel_rfl) ?_ _
        go_wp2_with fail
        go_meet
        exact ⟨d, T9, rfl, HD6, HAT9, HP12, HN9⟩
       ·rw [if_pos (by kernel_rfl)]
        refine wp_build_at (.tmp 107) rfl ⟨(q0g : Nat), (q0a : Nat), 0, 0, false, sz, level, S.txg, (x0 : Nat), (x1 : Nat), (x2 : Nat), (x3 : Nat)⟩ rfl ?_
        refine hK.out _ _ ((HP6.out.below ((Below.refl _ _).alloc (Nat.le_refl _) (.cells (encPtr ⟨(q0g : Nat), (q0a : Nat), 0, 0, false, sz, level, S.txg, (x0 : Nat), (x1 : Nat), (x2 : Nat), (x3 : Nat)⟩).toArray 49)))) (fun hSzppq8 => ?_)
        try simp only [Act.put, z1, z2, z3]
        have HAT6b := Lib.hid (HAT6.out.alloc (.cells (encPtr ⟨(q0g : Nat), (q0a : Nat), 0, 0, false, sz, level, S.txg, (x0 : Nat), (x1 : Nat), (x2 : Nat), (x3 : Nat)⟩).toArray 49))
        have HP6b := Lib.hid (HP6.out.below ((Below.refl _ _).alloc (Nat.le_refl _) (.cells (encPtr ⟨(q0g : Nat), (q0a : Nat), 0, 0, false, sz, level, S.txg, (x0 : Nat), (x1 : Nat), (x2 : Nat), (x3 : Nat)⟩).toArray 49)))
        have HGBb : Hid (Blk (w6.alloc (.cells (encPtr ⟨(q0g : Nat), (q0a : Nat), 0, 0, false, sz, level, S.txg, (x0 : Nat), (x1 : Nat), (x2 : Nat), (x3 : Nat)⟩).toArray 49)) w6.heap.size 49 (encPtr ⟨(q0g : Nat), (q0a : Nat), 0, 0, false, sz, level, S.txg, (x0 : Nat), (x1 : Nat), (x2 : Nat), (x3 : Nat)⟩)) := Lib.hid (Blk.new w6 _ (encPtr ⟨(q0g : Nat), (q0a : Nat), 0, 0, false, sz, level, S.txg, (x0 : Nat), (x1 : Nat), (x2 : Nat), (x3 : Nat)⟩))
        have e6b : (w6.alloc (.cells (encPtr ⟨(q0g : Nat), (q0a : Nat), 0, 0, false, sz, level, S.txg, (x0 : Nat), (x1 : Nat), (x2 : Nat), (x3 : Nat)⟩).toArray 49)).cell? ⟨d, 1, none⟩ = some (.slice bo S.born.length bc) := (HBV.out.alloc _).cell 1
        refine rr1 (i := 6) (h := fun K hK => ?_)
        go_simp
        clear e6b
        refine hK.out _ _ (HP6b.out) (fun hSzppq6 => ?_)
        try simp only [Act.put, z1, z2, z3]
        refine rr1 (i := 9) (h := fun K hK => ?_)
        rw [if_pos (by kernel_rfl)]
        obtain ⟨hrow, hTd, hTb, happ⟩ := HAT6b.out.is.app2 (HBV.out.alloc _)
        refine wp_app_ptrS (.tmp 106) (.tmp 108) rfl (.slice bo S.born.length bc) S.born rfl hrow w6.heap.size 1 ⟨(q0g : Nat), (q0a : Nat), 0, 0, false, sz, level, S.txg, (x0 : Nat), (x1 : Nat), (x2 : Nat), (x3 : Nat)⟩ rfl (range0M HGBb.out) HFN.out.2.2.2.2.2 ?_
        intro v9 w9 hown hgrow hat
        obtain ⟨hd9, hst9⟩ := happ ⟨(q0g : Nat), (q0a : Nat), 0, 0, false, sz, level, S.txg, (x0 : Nat), (x1 : Nat), (x2 : Nat), (x3 : Nat)⟩ v9 w9 hown hgrow hat
        obtain ⟨ao9, cap9, rfl⟩ := own_form hown
        obtain ⟨T9, hat9, hfr9, _⟩ := HAT6b.out.step hst9
        have HP9 := Lib.hid (HP6b.out.mod (mod_grown hgrow hTb) HN6.out)
        have HAT9 := Lib.hid (by simpa only [List.length_append, List.length_singleton] using hat9)
        have HN9 : Hid (¬ T9 g8 ∧ ¬ T9 (w.heap.size + 2)) := Lib.hid ⟨hfr9 _ HP6b.out.p.lt HN6.out.2.1, hfr9 _ HP6b.out.r.lt HN6.out.2.2⟩
        have HNE9 : Hid (w.heap.size ≠ d ∧ g8 ≠ d ∧ w.heap.size + 2 ≠ d) := Lib.hid ⟨fun e => HN6.out.1 (by rw [e]; exact hTd), fun e => HN6.out.2.1 (by rw [e]; exact hTd), fun e => HN6.out.2.2 (by rw [e]; exact hTd)⟩
        have e9 : w9.cell? ⟨d, 1, none⟩ = some (.slice bo S.born.length bc) := hd9.cell 1
        have f9 := hd9.frozen 1
        clear hrow hTd hTb happ hown hgrow hat hd9 hst9 hat9 hfr9
        refine hK.out _ _ (HP9.out) (fun hSzppq9 => ?_)
        try simp only [Act.put, z1, z2, z3]
        refine rtd 10 ?_; refine rtd 11 ?_
        refine rr1 (i := 12) (h := fun K hK => ?_)
        go_simp
        skip
        refine hK.out _ _ (⟨HP9.out.s.other HNE9.out.1 _, HP9.out.p.other HNE9.out.2.1 _, HP9.out.r.other HNE9.out.2.2 _⟩) (fun hSzppq12 => ?_)
        try simp only [Act.put, z1, z2, z3]
        have HP12 : Hid (PuW w.heap.size g8 (w.heap.size + 2) sb ⟨(q0g : Nat), (q0a : Nat), 0, 0, false, sz, level, S.txg, (x0 : Nat), (x1 : Nat), (x2 : Nat), (x3 : Nat)⟩ (w9.setCell ⟨d, 1, none⟩ (.slice ao9 (S.born.length + 1) cap9))) := Lib.hid (PuW.mk (HP9.out.s.other HNE9.out.1 _) (HP9.out.p.other HNE9.out.2.1 _) (HP9.out.r.other HNE9.out.2.2 _))
        refine wpAnyH_done (by kernel_rfl) ?_ _
        go_wp2_with fail
        go_meet
        exact ⟨d, T9, rfl, HD6, HAT9, HP12, HN9⟩
      ·rw [if_pos (by kernel_rfl)]
       refine wp_build_at (.tmp 107) rfl ⟨(q0g : Nat), (q0a : Nat), 0, 0, false, sz, level, S.txg, (x0 : Nat), (x1 : Nat), (x2 : Nat), (x3 : Nat)⟩ rfl ?_
       refine hK.out _ _ ((HP6.out.below ((Below.refl _ _).alloc (Nat.le_refl _) (.cells (encPtr ⟨(q0g : Nat), (q0a : Nat), 0, 0, false, sz, level, S.txg, (x0 : Nat), (x1 : Nat), (x2 : Nat), (x3 : Nat)⟩).toArray 49)))) (fun hSzpq8 => ?_)
       try simp only [Act.put, z1, z2, z3]
       have HAT6b := Lib.hid (HAT6.out.alloc (.cells (encPtr ⟨(q0g : Nat), (q0a : Nat), 0, 0, false, sz, level, S.txg, (x0 : Nat), (x1 : Nat), (x2 : Nat), (x3 : Nat)⟩).toArray 49))
       have HP6b := Lib.hid (HP6.out.below ((Below.refl _ _).alloc (Nat.le_refl _) (.cells (encPtr ⟨(q0g : Nat), (q0a : Nat), 0, 0, false, sz, level, S.txg, (x0 : Nat), (x1 : Nat), (x2 : Nat), (x3 : Nat)⟩).toArray 49)))
       have HGBb : Hid (Blk (w6.alloc (.cells (encPtr ⟨(q0g : Nat), (q0a : Nat), 0, 0, false, sz, level, S.txg, (x0 : Nat), (x1 : Nat), (x2 : Nat), (x3 : Nat)⟩).toArray 49)) w6.heap.size 49 (encPtr ⟨(q0g : Nat), (q0a : Nat), 0, 0, false, sz, level, S.txg, (x0 : Nat), (x1 : Nat), (x2 : Nat), (x3 : Nat)⟩)) := Lib.hid (Blk.new w6 _ (encPtr ⟨(q0g : Nat), (q0a : Nat), 0, 0, false, sz, level, S.txg, (x0 : Nat), (x1 : Nat), (x2 : Nat), (x3 : Nat)⟩))
       refine rr1 (i := 3) (h := fun K hK => ?_)
       go_simp
       refine (work_some HAT6b.out.is).mono ?_
       rintro e w7 ⟨rfl, hw7⟩
       rw [hw7]
       clear hw7
       try dsimp only
       refine hK.out _ _ (HP6b.out) (fun hSzpq3 => ?_)
       try simp only [Act.put, z1, z2, z3]
       refine rtd 4 ?_; refine rtd 5 ?_
       obtain ⟨bv, hbv⟩ := HAT6b.out.is.done
       obtain ⟨bo, bc, rfl⟩ := own_form (HAT6b.out.is.app2 hbv).1
       have HBV := Lib.hid hbv
       have e6 : (w6.alloc (.cells (encPtr ⟨(q0g : Nat), (q0a : Nat), 0, 0, false, sz, level, S.txg, (x0 : Nat), (x1 : Nat), (x2 : Nat), (x3 : Nat)⟩).toArray 49)).cell? ⟨d, 1, none⟩ = some (.slice bo S.born.length bc) := hbv.cell 1
       clear hbv
       refine rr1 (i := 6) (h := fun K hK => ?_)
       go_simp
       clear e6
       refine hK.out _ _ (HP6b.out) (fun hSzpq6 => ?_)
       try simp only [Act.put, z1, z2, z3]
       refine rr1 (i := 9) (h := fun K hK => ?_)
       rw [if_pos (by kernel_rfl)]
       obtain ⟨hrow, hTd, hTb, happ⟩ := HAT6b.out.is.app2 HBV.out
       refine wp_app_ptrS (.tmp 106) (.tmp 108) rfl (.slice bo S.born.length bc) S.born rfl hrow w6.heap.size 1 ⟨(q0g : Nat), (q0a : Nat), 0, 0, false, sz, level, S.txg, (x0 : Nat), (x1 : Nat), (x2 : Nat), (x3 : Nat)⟩ rfl (range0M HGBb.out) HFN.out.2.2.2.2.2 ?_
       intro v9 w9 hown hgrow hat
       obtain ⟨hd9, hst9⟩ := happ ⟨(q0g : Nat), (q0a : Nat), 0, 0, false, sz, level, S.txg, (x0 : Nat), (x1 : Nat), (x2 : Nat), (x3 : Nat)⟩ v9 w9 hown hgrow hat
       obtain ⟨ao9, cap9, rfl⟩ := own_form hown
       obtain ⟨T9, hat9, hfr9, _⟩ := HAT6b.out.step hst9
       have HP9 := Lib.hid (HP6b.out.mod (mod_grown hgrow hTb) HN6.out)
       have HAT9 := Lib.hid (by simpa only [List.length_append, List.length_singleton] using hat9)
       have HN9 : Hid (¬ T9 g8 ∧ ¬ T9 (w.heap.size + 2)) := Lib.hid ⟨hfr9 _ HP6b.out.p.lt HN6.out.2.1, hfr9 _ HP6b.out.r.lt HN6.out.2.2⟩
       have HNE9 : Hid (w.heap.size ≠ d ∧ g8 ≠ d ∧ w.heap.size + 2 ≠ d) := Lib.hid ⟨fun e => HN6.out.1 (by rw [e]; exact hTd), fun e => HN6.out.2.1 (by rw [e]; exact hTd), fun e => HN6.out.2.2 (by rw [e]; exact hTd)⟩
       have e9 : w9.cell? ⟨d, 1, none⟩ = some (.slice bo S.born.length bc) := hd9.cell 1
       have f9 := hd9.frozen 1
       clear hrow hTd hTb happ hown hgrow hat hd9 hst9 hat9 hfr9
       refine hK.out _ _ (HP9.out) (fun hSzpq9 => ?_)
       try simp only [Act.put, z1, z2, z3]
       refine rtd 10 ?_; refine rtd 11 ?_
       refine rr1 (i := 12) (h := fun K hK => ?_)
       go_simp
       skip
       refine hK.out _ _ (⟨HP9.out.s.other HNE9.out.1 _, HP9.out.p.other HNE9.out.2.1 _, HP9.out.r.other HNE9.out.2.2 _⟩) (fun hSzpq12 => ?_)
       try simp only [Act.put, z1, z2, z3]
       have HP12 : Hid (PuW w.heap.size g8 (w.heap.size + 2) sb ⟨(q0g : Nat), (q0a : Nat), 0, 0, false, sz, level, S.txg, (x0 : Nat), (x1 : Nat), (x2 : Nat), (x3 : Nat)⟩ (w9.setCell ⟨d, 1, none⟩ (.slice ao9 (S.born.length + 1) cap9))) := Lib.hid (PuW.mk (HP9.out.s.other HNE9.out.1 _) (HP9.out.p.other HNE9.out.2.1 _) (HP9.out.r.other HNE9.out.2.2 _))
       refine wpAnyH_done (by kernel_rfl) ?_ _
       go_wp2_with fail
       go_meet
       exact ⟨d, T9, rfl, HD6, HAT9, HP12, HN9⟩
     ·rw [if_pos (by kernel_rfl)]
      refine wp_build_at (.tmp 107) rfl ⟨(q0g : Nat), (q0a : Nat), 0, 0, false, sz, level, S.txg, (x0 : Nat), (x1 : Nat), (x2 : Nat), (x3 : Nat)⟩ rfl ?_
      refine hK.out _ _ ((hS5.below ((Below.refl _ _).alloc (Nat.le_refl _) (.cells (encPtr ⟨(q0g : Nat), (q0a : Nat), 0, 0, false, sz, level, S.txg, (x0 : Nat), (x1 : Nat), (x2 : Nat), (x3 : Nat)⟩).toArray 49)))) (fun hSzq8 => ?_)
      try simp only [Act.put, z1, z2, z3]
      refine rr1 (i := 1) (h := fun K hK => ?_)
      go_simp
      refine (work_any2 HA5b.out.is).mono ?_
      rintro e w6 ⟨d, rfl, hst, hdd⟩
      obtain ⟨T6, hat6, hfr6, hm6⟩ := HA5b.out.step hst
      have HAT6 := Lib.hid hat6
      have HD6 := Lib.hid hdd
      have HN6 : Hid (¬ T6 w.heap.size ∧ ¬ T6 g8 ∧ ¬ T6 (w.heap.size + 2)) := Lib.hid ⟨hfr6 _ (hS5.below ((Below.refl _ _).alloc (Nat.le_refl _) (.cells (encPtr ⟨(q0g : Nat), (q0a : Nat), 0, 0, false, sz, level, S.txg, (x0 : Nat), (x1 : Nat), (x2 : Nat), (x3 : Nat)⟩).toArray 49))).s.lt HNT4.out.1, hfr6 _ (hS5.below ((Below.refl _ _).alloc (Nat.le_refl _) (.cells (encPtr ⟨(q0g : Nat), (q0a : Nat), 0, 0, false, sz, level, S.txg, (x0 : Nat), (x1 : Nat), (x2 : Nat), (x3 : Nat)⟩).toArray 49))).p.lt HNT4.out.2.1, hfr6 _ (hS5.below ((Below.refl _ _).alloc (Nat.le_refl _) (.cells (encPtr ⟨(q0g : Nat), (q0a : Nat), 0, 0, false, sz, level, S.txg, (x0 : Nat), (x1 : Nat), (x2 : Nat), (x3 : Nat)⟩).toArray 49))).r.lt HNT4.out.2.2⟩
      have HP6 := Lib.hid ((hS5.below ((Below.refl _ _).alloc (Nat.le_refl _) (.cells (encPtr ⟨(q0g : Nat), (q0a : Nat), 0, 0, false, sz, level, S.txg, (x0 : Nat), (x1 : Nat), (x2 : Nat), (x3 : Nat)⟩).toArray 49))).mod hm6 HNT4.out)
      have HGB6 : Hid (Blk w6 w5.heap.size 49 (encPtr ⟨(q0g : Nat), (q0a : Nat), 0, 0, false, sz, level, S.txg, (x0 : Nat), (x1 : Nat), (x2 : Nat), (x3 : Nat)⟩)) := Lib.hid (hm6.blk (Blk.new w5.drew _ (encPtr ⟨(q0g : Nat), (q0a : Nat), 0, 0, false, sz, level, S.txg, (x0 : Nat), (x1 : Nat), (x2 : Nat), (x3 : Nat)⟩)) (fun hf => by have := HA5.out.is.lt _ hf; have e : w5.drew.heap.size = w5.heap.size := rfl; omega))
      clear hst hdd hat6 hfr6 hm6
      try dsimp only
      refine hK.out _ _ (HP6.out) (fun hSzq1 => ?_)
      try simp only [Act.put, z1, z2, z3]
      refine rr1 (i := 3) (h := fun K hK => ?_)
      go_simp
      refine (work_some HAT6.out.is).mono ?_
      rintro e w7 ⟨rfl, hw7⟩
      rw [hw7]
      clear hw7
      try dsimp only
      refine hK.out _ _ (HP6.out) (fun hSzq3 => ?_)
      try simp only [Act.put, z1, z2, z3]
      refine rtd 4 ?_; refine rtd 5 ?_
      obtain ⟨bv, hbv⟩ := HAT6.out.is.done
      obtain ⟨bo, bc, rfl⟩ := own_form (HAT6.out.is.app2 hbv).1
      have HBV := Lib.hid hbv
      have e6 : w6.cell? ⟨d, 1, none⟩ = some (.slice bo S.born.length bc) := hbv.cell 1
      clear hbv
      refine rr1 (i := 6) (h := fun K hK => ?_)
      go_simp
      clear e6
      refine hK.out _ _ (HP6.out) (fun hSzq6 => ?_)
      try simp only [Act.put, z1, z2, z3]
      refine rr1 (i := 9) (h := fun K hK => ?_)
      rw [if_pos (by kernel_rfl)]
      obtain ⟨hrow, hTd, hTb, happ⟩ := HAT6.out.is.app2 HBV.out
      refine wp_app_ptrS (.tmp 106) (.tmp 108) rfl (.slice bo S.born.length bc) S.born rfl hrow w5.heap.size 1 ⟨(q0g : Nat), (q0a : Nat), 0, 0, false, sz, level, S.txg, (x0 : Nat), (x1 : Nat), (x2 : Nat), (x3 : Nat)⟩ rfl (range0M HGB6.out) HFN.out.2.2.2.2.2 ?_
      intro v9 w9 hown hgrow hat
      obtain ⟨hd9, hst9⟩ := happ ⟨(q0g : Nat), (q0a : Nat), 0, 0, false, sz, level, S.txg, (x0 : Nat), (x1 : Nat), (x2 : Nat), (x3 : Nat)⟩ v9 w9 hown hgrow hat
      obtain ⟨ao9, cap9, rfl⟩ := own_form hown
      obtain ⟨T9, hat9, hfr9, _⟩ := HAT6.out.step hst9
      have HP9 := Lib.hid (HP6.out.mod (mod_grown hgrow hTb) HN6.out)
      have HAT9 := Lib.hid (by simpa only [List.length_append, List.length_singleton] using hat9)
      have HN9 : Hid (¬ T9 g8 ∧ ¬ T9 (w.heap.size + 2)) := Lib.hid ⟨hfr9 _ HP6.out.p.lt HN6.out.2.1, hfr9 _ HP6.out.r.lt HN6.out.2.2⟩
      have HNE9 : Hid (w.heap.size ≠ d ∧ g8 ≠ d ∧ w.heap.size + 2 ≠ d) := Lib.hid ⟨fun e => HN6.out.1 (by rw [e]; exact hTd), fun e => HN6.out.2.1 (by rw [e]; exact hTd), fun e => HN6.out.2.2 (by rw [e]; exact hTd)⟩
      have e9 : w9.cell? ⟨d, 1, none⟩ = some (.slice bo S.born.length bc) := hd9.cell 1
      have f9 := hd9.frozen 1
      clear hrow hTd hTb happ hown hgrow hat hd9 hst9 hat9 hfr9
      refine hK.out _ _ (HP9.out) (fun hSzq9 => ?_)
      try simp only [Act.put, z1, z2, z3]
      refine rtd 10 ?_; refine rtd 11 ?_
      refine rr1 (i := 12) (h := fun K hK => ?_)
      go_simp
      skip
      refine hK.out _ _ (⟨HP9.out.s.other HNE9.out.1 _, HP9.out.p.other HNE9.out.2.1 _, HP9.out.r.other HNE9.out.2.2 _⟩) (fun hSzq12 => ?_)
      try simp only [Act.put, z1, z2, z3]
      have HP12 : Hid (PuW w.heap.size g8 (w.heap.size + 2) sb ⟨(q0g : Nat), (q0a : Nat), 0, 0, false, sz, level, S.txg, (x0 : Nat), (x1 : Nat), (x2 : Nat), (x3 : Nat)⟩ (w9.setCell ⟨d, 1, none⟩ (.slice ao9 (S.born.length + 1) cap9))) := Lib.hid (PuW.mk (HP9.out.s.other HNE9.out.1 _) (HP9.out.p.other HNE9.out.2.1 _) (HP9.out.r.other HNE9.out.2.2 _))
      refine wpAnyH_done (by kernel_rfl) ?_ _
      go_wp2_with fail
      go_meet
      exact ⟨d, T9, rfl, HD6, HAT9, HP12, HN9⟩
    case rest =>
     obtain ⟨d, Tz, rfl, HD, HATZ, HPZ, HNZ⟩ := hcut
     have l8 : ∀ (op : Oper) (a : Act) (next : Act → World → Prop) (Q : Exit → Act → World → Prop), LoadW Tryz.prog op 49 (.pointer (some ⟨g8, 0, none⟩)) a wc next Q = next (a.put op.dst (.agg (encPtr ⟨(q0g : Nat), (q0a : Nat), 0, 0, false, sz, level, S.txg, (x0 : Nat), (x1 : Nat), (x2 : Nat), (x3 : Nat)⟩).toArray)) wc := fun op a next Q => loadW_blk HPZ.out.p Tryz.underlying49 rfl iszPt op a next Q
     have sR : ∀ (op : Oper) (a : Act) (next : Act → World → Prop) (Q : Exit → Act → World → Prop), StoreW Tryz.prog op 49 (.pointer (some ⟨w.heap.size + 2, 0, none⟩)) (.agg (encPtr ⟨(q0g : Nat), (q0a : Nat), 0, 0, false, sz, level, S.txg, (x0 : Nat), (x1 : Nat), (x2 : Nat), (x3 : Nat)⟩).toArray) a wc next Q = next (a.put op.dst undef) (wc.setCells (w.heap.size + 2) 0 (encPtr ⟨(q0g : Nat), (q0a : Nat), 0, 0, false, sz, level, S.txg, (x0 : Nat), (x1 : Nat), (x2 : Nat), (x3 : Nat)⟩)) := fun op a next Q => storeW_part (cs := encPtr ⟨(q0g : Nat), (q0a : Nat), 0, 0, false, sz, level, S.txg, (x0 : Nat), (x1 : Nat), (x2 : Nat), (x3 : Nat)⟩) HPZ.out.r (Nat.le_refl _) iszPt (encPtr_ones _) op a next Q
     have HBZ : Hid (Blk (wc.setCells (w.heap.size + 2) 0 (encPtr ⟨(q0g : Nat), (q0a : Nat), 0, 0, false, sz, level, S.txg, (x0 : Nat), (x1 : Nat), (x2 : Nat), (x3 : Nat)⟩)) (w.heap.size + 2) 49 (encPtr ⟨(q0g : Nat), (q0a : Nat), 0, 0, false, sz, level, S.txg, (x0 : Nat), (x1 : Nat), (x2 : Nat), (x3 : Nat)⟩)) := Lib.hid (HPZ.out.r.put rfl)
     have HFZ := Lib.hid ((HATZ.out.other HPZ.out.r (by unfold BookTy; decide) HNZ.out.2 (by omega) (setCells_grown (w.heap.size + 2) (encPtr ⟨(q0g : Nat), (q0a : Nat), 0, 0, false, sz, level, S.txg, (x0 : Nat), (x1 : Nat), (x2 : Nat), (x3 : Nat)⟩) wc 0)).fin)
     go_wp2_with fail
     refine bodyPost_ret (results_pt rfl _ _ (w.heap.size + 2) ⟨(q0g : Nat), (q0a : Nat), 0, 0, false, sz, level, S.txg, (x0 : Nat), (x1 : Nat), (x2 : Nat), (x3 : Nat)⟩ rfl HBZ.out) rfl ?_
     rw [HRR.out]
     exact ⟨rfl, some d, fun d0 e => by rw [HD.out d0 e], HFZ.out⟩
   ·have hgS : w.heap.size ≠ g8 := by have := HG8N.out.2; omega
    have hgR : w.heap.size + 2 ≠ g8 := by have := HG8N.out.2; omega
    have hg8 : w.heap.size + 3 ≤ g8 := HG8N.out.2
    obtain ⟨w5, hw5⟩ : ∃ w5, w5 = (((((w4.setCell ⟨g8, 0, none⟩ (.int .i64 (q0g : Nat))).setCell ⟨g8, 1, none⟩ (.int .i64 (q0a : Nat))).setCell ⟨g8, 4, none⟩ (.bool true)).setCell ⟨g8, 2, none⟩ (.int .i64 (q1g : Nat))).setCell ⟨g8, 3, none⟩ (.int .i64 (q1a : Nat))) := ⟨_, rfl⟩
    have HAT5 : Hid (StoAt { S with sn := sn1, es := es1, x := putsL t [(q0g, q0a), (q1g, q1a)] S.x } _ sb bb dn T w w5 T4) := Lib.hid (by rw [hw5]; exact (((((HAT4.out.other (wd := w4.setCell ⟨g8, 0, none⟩ (.int .i64 (q0g : Nat))) K48.out (by unfold BookTy; decide) HNT4.out.2.1 (by omega) blk_gr).other (wd := (w4.setCell ⟨g8, 0, none⟩ (.int .i64 (q0g : Nat))).setCell ⟨g8, 1, none⟩ (.int .i64 (q0a : Nat))) (K48.out.setCell 0 (.int .i64 (q0g : Nat))) (by unfold BookTy; decide) HNT4.out.2.1 (by omega) blk_gr).other (wd := ((w4.setCell ⟨g8, 0, none⟩ (.int .i64 (q0g : Nat))).setCell ⟨g8, 1, none⟩ (.int .i64 (q0a : Nat))).setCell ⟨g8, 4, none⟩ (.bool true)) ((K48.out.setCell 0 (.int .i64 (q0g : Nat))).setCell 1 (.int .i64 (q0a : Nat))) (by unfold BookTy; decide) HNT4.out.2.1 (by omega) blk_gr).other (wd := (((w4.setCell ⟨g8, 0, none⟩ (.int .i64 (q0g : Nat))).setCell ⟨g8, 1, none⟩ (.int .i64 (q0a : Nat))).setCell ⟨g8, 4, none⟩ (.bool true)).setCell ⟨g8, 2, none⟩ (.int .i64 (q1g : Nat))) (((K48.out.setCell 0 (.int .i64 (q0g : Nat))).setCell 1 (.int .i64 (q0a : Nat))).setCell 4 (.bool true)) (by unfold BookTy; decide) HNT4.out.2.1 (by omega) blk_gr).other (wd := ((((w4.setCell ⟨g8, 0, none⟩ (.int .i64 (q0g : Nat))).setCell ⟨g8, 1, none⟩ (.int .i64 (q0a : Nat))).setCell ⟨g8, 4, none⟩ (.bool true)).setCell ⟨g8, 2, none⟩ (.int .i64 (q1g : Nat))).setCell ⟨g8, 3, none⟩ (.int .i64 (q1a : Nat))) ((((K48.out.setCell 0 (.int .i64 (q0g : Nat))).setCell 1 (.int .i64 (q0a : Nat))).setCell 4 (.bool true)).setCell 2 (.int .i64 (q1g : Nat))) (by unfold BookTy; decide) HNT4.out.2.1 (by omega) blk_gr))
    have HPW : Hid (PuW w.heap.size g8 (w.heap.size + 2) sb ⟨(q0g : Nat), (q0a : Nat), (q1g : Nat), (q1a : Nat), true, sz, level, S.txg, (x0 : Nat), (x1 : Nat), (x2 : Nat), (x3 : Nat)⟩ w5) := Lib.hid (by rw [hw5, HSZ.out]; exact ⟨(((((K4S.out.other (a := ⟨g8, 0, none⟩) hgS _).other (a := ⟨g8, 1, none⟩) hgS _).other (a := ⟨g8, 4, none⟩) hgS _).other (a := ⟨g8, 2, none⟩) hgS _).other (a := ⟨g8, 3, none⟩) hgS _), (((((K48.out.setCell 0 (.int .i64 (q0g : Nat))).setCell 1 (.int .i64 (q0a : Nat))).setCell 4 (.bool true)).setCell 2 (.int .i64 (q1g : Nat))).setCell 3 (.int .i64 (q1a : Nat))), (((((K4R.out.other (a := ⟨g8, 0, none⟩) hgR _).other (a := ⟨g8, 1, none⟩) hgR _).other (a := ⟨g8, 4, none⟩) hgR _).other (a := ⟨g8, 2, none⟩) hgR _).other (a := ⟨g8, 3, none⟩) hgR _)⟩)
    have HRR : Hid (R = ⟨⟨(q0g : Nat), (q0a : Nat), (q1g : Nat), (q1a : Nat), true, sz, level, S.txg, (x0 : Nat), (x1 : Nat), (x2 : Nat), (x3 : Nat)⟩, 0, { S with sn := sn1, es := es1, x := putsL t [(q0g, q0a), (q1g, q1a)] S.x, born := S.born ++ [⟨(q0g : Nat), (q0a : Nat), (q1g : Nat), (q1a : Nat), true, sz, level, S.txg, (x0 : Nat), (x1 : Nat), (x2 : Nat), (x3 : Nat)⟩] }⟩) := Lib.hid (by
     have hp : mkPt t level S.txg [(q0g, q0a), (q1g, q1a)] = ⟨(q0g : Nat), (q0a : Nat), (q1g : Nat), (q1a : Nat), true, sz, level, S.txg, (x0 : Nat), (x1 : Nat), (x2 : Nat), (x3 : Nat)⟩ := by unfold mkPt; rw [← HX.out, ← HSZ.out]; rfl
     rw [HRE.out, if_neg (by simp), hp])
    have z0 : w4.cell? ⟨gl, 0, none⟩ = some (.int .i64 (q0g : Nat)) := K4L.out.cell 0
    have z1 : w4.cell? ⟨gl, 1, none⟩ = some (.int .i64 (q0a : Nat)) := K4L.out.cell 1
    have z2 : w4.cell? ⟨gl, 2, none⟩ = some (.int .i64 (q1g : Nat)) := K4L.out.cell 2
    have z3 : w4.cell? ⟨gl, 3, none⟩ = some (.int .i64 (q1a : Nat)) := K4L.out.cell 3
    have hgl : gl ≠ g8 := fun e => by
     have h1 := K4L.out
     have h2 := K48.out
     unfold Blk at h1 h2
     rw [e, h2] at h1
     simp only [Option.some.injEq, Obj.cells.injEq] at h1
     exact absurd h1.2.1 (by decide)
    have y0 : w4.cell? ⟨g8, 0, none⟩ = some (.int .i64 0) := K48.out.cell 0
    have y1 : w4.cell? ⟨g8, 1, none⟩ = some (.int .i64 0) := K48.out.cell 1
    have y2 : w4.cell? ⟨g8, 2, none⟩ = some (.int .i64 0) := K48.out.cell 2
    have y3 : w4.cell? ⟨g8, 3, none⟩ = some (.int .i64 0) := K48.out.cell 3
    have y4 : w4.cell? ⟨g8, 4, none⟩ = some (.bool false) := K48.out.cell 4
    have v0 := K48.out.frozen 0
    have v1 := K48.out.frozen 1
    have v2 := K48.out.frozen 2
    have v3 := K48.out.frozen 3
    have v4 := K48.out.frozen 4
    simp only [List.length_cons, List.length_nil, Nat.zero_add, Nat.reduceAdd]
    go_upto_region 13 with fail
    rw [← hw5]
    clear hw5 y0 y1 y2 y3 y4 v0 v1 v2 v3 v4 z0 z1 z2 z3 hgl
    have HA5 := Lib.hid (HAT5.out.below (Below.refl _ _).drew)
    have HA5b := Lib.hid (HA5.out.alloc (.cells (encPtr ⟨(q0g : Nat), (q0a : Nat), (q1g : Nat), (q1a : Nat), true, sz, level, S.txg, (x0 : Nat), (x1 : Nat), (x2 : Nat), (x3 : Nat)⟩).toArray 49))
    have hS5 : PuW w.heap.size g8 (w.heap.size + 2) sb ⟨(q0g : Nat), (q0a : Nat), (q1g : Nat), (q1a : Nat), true, sz, level, S.txg, (x0 : Nat), (x1 : Nat), (x2 : Nat), (x3 : Nat)⟩ w5.drew := HPW.out.below (Below.refl _ _).drew
    go_cut [100] (fun v wx => ∃ d Tz, v = .pointer (some ⟨sb, 0, none⟩) ∧ Hid (∀ d0, dn = some d0 → d = d0) ∧ Hid (StoAt { S with sn := sn1, es := es1, x := putsL t [(q0g, q0a), (q1g, q1a)] S.x, born := S.born ++ [⟨(q0g : Nat), (q0a : Nat), (q1g : Nat), (q1a : Nat), true, sz, level, S.txg, (x0 : Nat), (x1 : Nat), (x2 : Nat), (x3 : Nat)⟩] } ⟨.slice ga S.x.gs.length gc, .slice la S.x.ds.length lc, .slice wa S.x.ds.length acp⟩ sb bb (some d) T w wx Tz) ∧ Hid (PuW w.heap.size g8 (w.heap.size + 2) sb ⟨(q0g : Nat), (q0a : Nat), (q1g : Nat), (q1a : Nat), true, sz, level, S.txg, (x0 : Nat), (x1 : Nat), (x2 : Nat), (x3 : Nat)⟩ wx) ∧ Hid (¬ Tz g8 ∧ ¬ Tz (w.heap.size + 2)))
    case first =>
     refine wp_region_held_drew (S := PuW w.heap.size g8 (w.heap.size + 2) sb ⟨(q0g : Nat), (q0a : Nat), (q1g : Nat), (q1a : Nat), true, sz, level, S.txg, (x0 : Nat), (x1 : Nat), (x2 : Nat), (x3 : Nat)⟩) (by kernel_rfl) hS5 (fun hS5 => ?_)
     refine rtv (i := 0) (v := ?vx0) (hy := ?yx0) (h := ?_)
     case yx0 => intro w hSw; (try dsimp only at hSw); go_simp; rw [(PuW.s hSw).cell 0]; rfl
     try simp only [Act.put, z1, z2, z3]
     refine rtv (i := 2) (v := ?vx2) (hy := ?yx2) (h := ?_)
     case yx2 => intro w hSw; (try dsimp only at hSw); go_simp; rw [(PuW.s hSw).cell 0]; rfl
     try simp only [Act.put, z1, z2, z3]
     refine rtg 7 ?vx7 ?yx7 ?_
     case yx7 => refine yieldsIf_load_mid (by kernel_rfl) 49 (.tmp 8) ?_ g8 (0) ?_ (encPtr ⟨(q0g : Nat), (q0a : Nat), (q1g : Nat), (q1a : Nat), true, sz, level, S.txg, (x0 : Nat), (x1 : Nat), (x2 : Nat), (x3 : Nat)⟩) _ (fun w' (hw : PuW _ _ _ _ _ w') => range0M hw.p) Tryz.underlying49 rfl iszPt <;> rfl
     refine wpAnyH_ready (rs := [1, 8]) (by kernel_rfl) (by simp) ?_
     refine AllReadyH.cons (by simp only [List.getElem?_toArray, List.getElem?_cons_succ, List.getElem?_cons_zero]; rfl) (fun K hK => ?_) (AllReadyH.cons (by simp only [List.getElem?_toArray, List.getElem?_cons_succ, List.getElem?_cons_zero]; rfl) (fun K hK => ?_) AllReadyH.nil)
     ·go_simp
      refine (work_any2 HA5.out.is).mono ?_
      rintro e w6 ⟨d, rfl, hst, hdd⟩
      obtain ⟨T6, hat6, hfr6, hm6⟩ := HA5.out.step hst
      have HAT6 := Lib.hid hat6
      have HD6 := Lib.hid hdd
      have HN6 : Hid (¬ T6 w.heap.size ∧ ¬ T6 g8 ∧ ¬ T6 (w.heap.size + 2)) := Lib.hid ⟨hfr6 _ (hS5).s.lt HNT4.out.1, hfr6 _ (hS5).p.lt HNT4.out.2.1, hfr6 _ (hS5).r.lt HNT4.out.2.2⟩
      have HP6 := Lib.hid ((hS5).mod hm6 HNT4.out)
      clear hst hdd hat6 hfr6 hm6
      try dsimp only
      refine hK.out _ _ (HP6.out) (fun hSxp1 => ?_)
      try simp only [Act.put, z1, z2, z3]
      refine wpAnyH_ready (rs := [3, 8]) (by kernel_rfl) (by simp) ?_
      refine AllReadyH.cons (by simp only [List.getElem?_toArray, List.getElem?_cons_succ, List.getElem?_cons_zero]; rfl) (fun K hK => ?_) (AllReadyH.cons (by simp only [List.getElem?_toArray, List.getElem?_cons_succ, List.getElem?_cons_zero]; rfl) (fun K hK => ?_) AllReadyH.nil)
      ·go_simp
       refine (work_some HAT6.out.is).mono ?_
       rintro e w7 ⟨rfl, hw7⟩
       rw [hw7]
       clear hw7
       try dsimp only
       refine hK.out _ _ (HP6.out) (fun hSxpp3 => ?_)
       try simp only [Act.put, z1, z2, z3]
       refine rtd 4 ?_; refine rtd 5 ?_
       obtain ⟨bv, hbv⟩ := HAT6.out.is.done
       obtain ⟨bo, bc, rfl⟩ := own_form (HAT6.out.is.app2 hbv).1
       have HBV := Lib.hid hbv
       have e6 : w6.cell? ⟨d, 1, none⟩ = some (.slice bo S.born.length bc) := hbv.cell 1
       clear hbv
       refine wpAnyH_ready (rs := [6, 8]) (by kernel_rfl) (by simp) ?_
       refine AllReadyH.cons (by simp only [List.getElem?_toArray, List.getElem?_cons_succ, List.getElem?_cons_zero]; rfl) (fun K hK => ?_) (AllReadyH.cons (by simp only [List.getElem?_toArray, List.getElem?_cons_succ, List.getElem?_cons_zero]; rfl) (fun K hK => ?_) AllReadyH.nil)
       ·go_simp
        clear e6
        refine hK.out _ _ (HP6.out) (fun hSxppp6 => ?_)
        try simp only [Act.put, z1, z2, z3]
        refine rr1 (i := 8) (h := fun K hK => ?_)
        rw [if_pos (by kernel_rfl)]
        refine wp_build_at (.tmp 107) rfl ⟨(q0g : Nat), (q0a : Nat), (q1g : Nat), (q1a : Nat), true, sz, level, S.txg, (x0 : Nat), (x1 : Nat), (x2 : Nat), (x3 : Nat)⟩ rfl ?_
        refine hK.out _ _ ((HP6.out.below ((Below.refl _ _).alloc (Nat.le_refl _) (.cells (encPtr ⟨(q0g : Nat), (q0a : Nat), (q1g : Nat), (q1a : Nat), true, sz, level, S.txg, (x0 : Nat), (x1 : Nat), (x2 : Nat), (x3 : Nat)⟩).toArray 49)))) (fun hSxppp8 => ?_)
        try simp only [Act.put, z1, z2, z3]
        have HAT6b := Lib.hid (HAT6.out.alloc (.cells (encPtr ⟨(q0g : Nat), (q0a : Nat), (q1g : Nat), (q1a : Nat), true, sz, level, S.txg, (x0 : Nat), (x1 : Nat), (x2 : Nat), (x3 : Nat)⟩).toArray 49))
        have HP6b := Lib.hid (HP6.out.below ((Below.refl _ _).alloc (Nat.le_refl _) (.cells (encPtr ⟨(q0g : Nat), (q0a : Nat), (q1g : Nat), (q1a : Nat), true, sz, level, S.txg, (x0 : Nat), (x1 : Nat), (x2 : Nat), (x3 : Nat)⟩).toArray 49)))
        have HGBb : Hid (Blk (w6.alloc (.cells (encPtr ⟨(q0g : Nat), (q0a : Nat), (q1g : Nat), (q1a : Nat), true, sz, level, S.txg, (x0 : Nat), (x1 : Nat), (x2 : Nat), (x3 : Nat)⟩).toArray 49)) w6.heap.size 49 (encPtr ⟨(q0g : Nat), (q0a : Nat), (q1g : Nat), (q1a : Nat), true, sz, level, S.txg, (x0 : Nat), (x1 : Nat), (x2 : Nat), (x3 : Nat)⟩)) := Lib.hid (Blk.new w6 _ (encPtr ⟨(q0g : Nat), (q0a : Nat), (q1g : Nat), (q1a : Nat), true, sz, level, S.txg, (x0 : Nat), (x1 : Nat), (x2 : Nat), (x3 : Nat)⟩))
        refine rr1 (i := 9) (h := fun K hK => ?_)
        rw [if_pos (by kernel_rfl)]
        obtain ⟨hrow, hTd, hTb, happ⟩ := HAT6b.out.is.app2 (HBV.out.alloc _)
        refine wp_app_ptrS (.tmp 106) (.tmp 108) rfl (.slice bo S.born.length bc) S.born rfl hrow w6.heap.size 1 ⟨(q0g : Nat), (q0a : Nat), (q1g : Nat), (q1a : Nat), true, sz, level, S.txg, (x0 : Nat), (x1 : Nat), (x2 : Nat), (x3 : Nat)⟩ rfl (range0M HGBb.out) HFN.out.2.2.2.2.2 ?_
        intro v9 w9 hown hgrow hat
        obtain ⟨hd9, hst9⟩ := happ ⟨(q0g : Nat), (q0a : Nat), (q1g : Nat), (q1a : Nat), true, sz, level, S.txg, (x0 : Nat), (x1 : Nat), (x2 : Nat), (x3 : Nat)⟩ v9 w9 hown hgrow hat
        obtain ⟨ao9, cap9, rfl⟩ := own_form hown
        obtain ⟨T9, hat9, hfr9, _⟩ := HAT6b.out.step hst9
        have HP9 := Lib.hid (HP6b.out.mod (mod_grown hgrow hTb) HN6.out)
        have HAT9 := Lib.hid (by simpa only [List.length_append, List.length_singleton] using hat9)
        have HN9 : Hid (¬ T9 g8 ∧ ¬ T9 (w.heap.size + 2)) := Lib.hid ⟨hfr9 _ HP6b.out.p.lt HN6.out.2.1, hfr9 _ HP6b.out.r.lt HN6.out.2.2⟩
        have HNE9 : Hid (w.heap.size ≠ d ∧ g8 ≠ d ∧ w.heap.size + 2 ≠ d) := Lib.hid ⟨fun e => HN6.out.1 (by rw [e]; exact hTd), fun e => HN6.out.2.1 (by rw [e]; exact hTd), fun e => HN6.out.2.2 (by rw [e]; exact hTd)⟩
        have e9 : w9.cell? ⟨d, 1, none⟩ = some (.slice bo S.born.length bc) := hd9.cell 1
        have f9 := hd9.frozen 1
        clear hrow hTd hTb happ hown hgrow hat hd9 hst9 hat9 hfr9
        refine hK.out _ _ (HP9.out) (fun hSxppp9 => ?_)
        try simp only [Act.put, z1, z2, z3]
        refine rtd 10 ?_; refine rtd 11 ?_
        refine rr1 (i := 12) (h := fun K hK => ?_)
        go_simp
        skip
        refine hK.out _ _ (⟨HP9.out.s.other HNE9.out.1 _, HP9.out.p.other HNE9.out.2.1 _, HP9.out.r.other HNE9.out.2.2 _⟩) (fun hSxppp12 => ?_)
        try simp only [Act.put, z1, z2, z3]
        have HP12 : Hid (PuW w.heap.size g8 (w.heap.size + 2) sb ⟨(q0g : Nat), (q0a : Nat), (q1g : Nat), (q1a : Nat), true, sz, level, S.txg, (x0 : Nat), (x1 : Nat), (x2 : Nat), (x3 : Nat)⟩ (w9.setCell ⟨d, 1, none⟩ (.slice ao9 (S.born.length + 1) cap9))) := Lib.hid (PuW.mk (HP9.out.s.other HNE9.out.1 _) (HP9.out.p.other HNE9.out.2.1 _) (HP9.out.r.other HNE9.out.2.2 _))
        refine wpAnyH_done (by kernel_rfl) ?_ _
        go_wp2_with fail
        go_meet
        exact ⟨d, T9, rfl, HD6, HAT9, HP12, HN9⟩
       ·rw [if_pos (by kernel_rfl)]
        refine wp_build_at (.tmp 107) rfl ⟨(q0g : Nat), (q0a : Nat), (q1g : Nat), (q1a : Nat), true, sz, level, S.txg, (x0 : Nat), (x1 : Nat), (x2 : Nat), (x3 : Nat)⟩ rfl ?_
        refine hK.out _ _ ((HP6.out.below ((Below.refl _ _).alloc (Nat.le_refl _) (.cells (encPtr ⟨(q0g : Nat), (q0a : Nat), (q1g : Nat), (q1a : Nat), true, sz, level, S.txg, (x0 : Nat), (x1 : Nat), (x2 : Nat), (x3 : Nat)⟩).toArray 49)))) (fun hSxppq8 => ?_)
        try simp only [Act.put, z1, z2, z3]
        have HAT6b := Lib.hid (HAT6.out.alloc (.cells (encPtr ⟨(q0g : Nat), (q0a : Nat), (q1g : Nat), (q1a : Nat), true, sz, level, S.txg, (x0 : Nat), (x1 : Nat), (x2 : Nat), (x3 : Nat)⟩).toArray 49))
        have HP6b := Lib.hid (HP6.out.below ((Below.refl _ _).alloc (Nat.le_refl _) (.cells (encPtr ⟨(q0g : Nat), (q0a : Nat), (q1g : Nat), (q1a : Nat), true, sz, level, S.txg, (x0 : Nat), (x1 : Nat), (x2 : Nat), (x3 : Nat)⟩).toArray 49)))
        have HGBb : Hid (Blk (w6.alloc (.cells (encPtr ⟨(q0g : Nat), (q0a : Nat), (q1g : Nat), (q1a : Nat), true, sz, level, S.txg, (x0 : Nat), (x1 : Nat), (x2 : Nat), (x3 : Nat)⟩).toArray 49)) w6.heap.size 49 (encPtr ⟨(q0g : Nat), (q0a : Nat), (q1g : Nat), (q1a : Nat), true, sz, level, S.txg, (x0 : Nat), (x1 : Nat), (x2 : Nat), (x3 : Nat)⟩)) := Lib.hid (Blk.new w6 _ (encPtr ⟨(q0g : Nat), (q0a : Nat), (q1g : Nat), (q1a : Nat), true, sz, level, S.txg, (x0 : Nat), (x1 : Nat), (x2 : Nat), (x3 : Nat)⟩))
        have e6b : (w6.alloc (.cells (encPtr ⟨(q0g : Nat), (q0a : Nat), (q1g : Nat), (q1a : Nat), true, sz, level, S.txg, (x0 : Nat), (x1 : Nat), (x2 : Nat), (x3 : Nat)⟩).toArray 49)).cell? ⟨d, 1, none⟩ = some (.slice bo S.born.length bc) := (HBV.out.alloc _).cell 1
        refine rr1 (i := 6) (h := fun K hK => ?_)
        go_simp
        clear e6b
        refine hK.out _ _ (HP6b.out) (fun hSxppq6 => ?_)
        try simp only [Act.put, z1, z2, z3]
        refine rr1 (i := 9) (h := fun K hK => ?_)
        rw [if_pos (by kernel_rfl)]
        obtain ⟨hrow, hTd, hTb, happ⟩ := HAT6b.out.is.app2 (HBV.out.alloc _)
        refine wp_app_ptrS (.tmp 106) (.tmp 108) rfl (.slice bo S.born.length bc) S.born rfl hrow w6.heap.size 1 ⟨(q0g : Nat), (q0a : Nat), (q1g : Nat), (q1a : Nat), true, sz, level, S.txg, (x0 : Nat), (x1 : Nat), (x2 : Nat), (x3 : Nat)⟩ rfl (range0M HGBb.out) HFN.out.2.2.2.2.2 ?_
        intro v9 w9 hown hgrow hat
        obtain ⟨hd9, hst9⟩ := happ ⟨(q0g : Nat), (q0a : Nat), (q1g : Nat), (q1a : Nat), true, sz, level, S.txg, (x0 : Nat), (x1 : Nat), (x2 : Nat), (x3 : Nat)⟩ v9 w9 hown hgrow hat
        obtain ⟨ao9, cap9, rfl⟩ := own_form hown
        obtain ⟨T9, hat9, hfr9, _⟩ := HAT6b.out.step hst9
        have HP9 := Lib.hid (HP6b.out.mod (mod_grown hgrow hTb) HN6.out)
        have HAT9 := Lib.hid (by simpa only [List.length_append, List.length_singleton] using hat9)
        have HN9 : Hid (¬ T9 g8 ∧ ¬ T9 (w.heap.size + 2)) := Lib.hid ⟨hfr9 _ HP6b.out.p.lt HN6.out.2.1, hfr9 _ HP6b.out.r.lt HN6.out.2.2⟩
        have HNE9 : Hid (w.heap.size ≠ d ∧ g8 ≠ d ∧ w.heap.size + 2 ≠ d) := Lib.hid ⟨fun e => HN6.out.1 (by rw [e]; exact hTd), fun e => HN6.out.2.1 (by rw [e]; exact hTd), fun e => HN6.out.2.2 (by rw [e]; exact hTd)⟩
        have e9 : w9.cell? ⟨d, 1, none⟩ = some (.slice bo S.born.length bc) := hd9.cell 1
        have f9 := hd9.frozen 1
        clear hrow hTd hTb happ hown hgrow hat hd9 hst9 hat9 hfr9
        refine hK.out _ _ (HP9.out) (fun hSxppq9 => ?_)
        try simp only [Act.put, z1, z2, z3]
        refine rtd 10 ?_; refine rtd 11 ?_
        refine rr1 (i := 12) (h := fun K hK => ?_)
        go_simp
        skip
        refine hK.out _ _ (⟨HP9.out.s.other HNE9.out.1 _, HP9.out.p.other HNE9.out.2.1 _, HP9.out.r.other HNE9.out.2.2 _⟩) (fun hSxppq12 => ?_)
        try simp only [Act.put, z1, z2, z3]
        have HP12 : Hid (PuW w.heap.size g8 (w.heap.size + 2) sb ⟨(q0g : Nat), (q0a : Nat), (q1g : Nat), (q1a : Nat), true, sz, level, S.txg, (x0 : Nat), (x1 : Nat), (x2 : Nat), (x3 : Nat)⟩ (w9.setCell ⟨d, 1, none⟩ (.slice ao9 (S.born.length + 1) cap9))) := Lib.hid (PuW.mk (HP9.out.s.other HNE9.out.1 _) (HP9.out.p.other HNE9.out.2.1 _) (HP9.out.r.other HNE9.out.2.2 _))
        refine wpAnyH_done (by kernel_rfl) ?_ _
        go_wp2_with fail
        go_meet
        exact ⟨d, T9, rfl, HD6, HAT9, HP12, HN9⟩
      ·rw [if_pos (by kernel_rfl)]
       refine wp_build_at (.tmp 107) rfl ⟨(q0g : Nat), (q0a : Nat), (q1g : Nat), (q1a : Nat), true, sz, level, S.txg, (x0 : Nat), (x1 : Nat), (x2 : Nat), (x3 : Nat)⟩ rfl ?_
       refine hK.out _ _ ((HP6.out.below ((Below.refl _ _).alloc (Nat.le_refl _) (.cells (encPtr ⟨(q0g : Nat), (q0a : Nat), (q1g : Nat), (q1a : Nat), true, sz, level, S.txg, (x0 : Nat), (x1 : Nat), (x2 : Nat), (x3 : Nat)⟩).toArray 49)))) (fun hSxpq8 => ?_)
       try simp only [Act.put, z1, z2, z3]
       have HAT6b := Lib.hid (HAT6.out.alloc (.cells (encPtr ⟨(q0g : Nat), (q0a : Nat), (q1g : Nat), (q1a : Nat), true, sz, level, S.txg, (x0 : Nat), (x1 : Nat), (x2 : Nat), (x3 : Nat)⟩).toArray 49))
       have HP6b := Lib.hid (HP6.out.below ((Below.refl _ _).alloc (Nat.le_refl _) (.cells (encPtr ⟨(q0g : Nat), (q0a : Nat), (q1g : Nat), (q1a : Nat), true, sz, level, S.txg, (x0 : Nat), (x1 : Nat), (x2 : Nat), (x3 : Nat)⟩).toArray 49)))
       have HGBb : Hid (Blk (w6.alloc (.cells (encPtr ⟨(q0g : Nat), (q0a : Nat), (q1g : Nat), (q1a : Nat), true, sz, level, S.txg, (x0 : Nat), (x1 : Nat), (x2 : Nat), (x3 : Nat)⟩).toArray 49)) w6.heap.size 49 (encPtr ⟨(q0g : Nat), (q0a : Nat), (q1g : Nat), (q1a : Nat), true, sz, level, S.txg, (x0 : Nat), (x1 : Nat), (x2 : Nat), (x3 : Nat)⟩)) := Lib.hid (Blk.new w6 _ (encPtr ⟨(q0g : Nat), (q0a : Nat), (q1g : Nat), (q1a : Nat), true, sz, level, S.txg, (x0 : Nat), (x1 : Nat), (x2 : Nat), (x3 : Nat)⟩))
       refine rr1 (i := 3) (h := fun K hK => ?_)
       go_simp
       refine (work_some HAT6b.out.is).mono ?_
       rintro e w7 ⟨rfl, hw7⟩
       rw [hw7]
       clear hw7
       try dsimp only
       refine hK.out _ _ (HP6b.out) (fun hSxpq3 => ?_)
       try simp only [Act.put, z1, z2, z3]
       refine rtd 4 ?_; refine rtd 5 ?_
       obtain ⟨bv, hbv⟩ := HAT6b.out.is.done
       obtain ⟨bo, bc, rfl⟩ := own_form (HAT6b.out.is.app2 hbv).1
       have HBV := Lib.hid hbv
       have e6 : (w6.alloc (.cells (encPtr ⟨(q0g : Nat), (q0a : Nat), (q1g : Nat), (q1a : Nat), true, sz, level, S.txg, (x0 : Nat), (x1 : Nat), (x2 : Nat), (x3 : Nat)⟩).toArray 49)).cell? ⟨d, 1, none⟩ = some (.slice bo S.born.length bc) := hbv.cell 1
       clear hbv
       refine rr1 (i := 6) (h := fun K hK => ?_)
       go_simp
       clear e6
       refine hK.out _ _ (HP6b.out) (fun hSxpq6 => ?_)
       try simp only [Act.put, z1, z2, z3]
       refine rr1 (i := 9) (h := fun K hK => ?_)
       rw [if_pos (by kernel_rfl)]
       obtain ⟨hrow, hTd, hTb, happ⟩ := HAT6b.out.is.app2 HBV.out
       refine wp_app_ptrS (.tmp 106) (.tmp 108) rfl (.slice bo S.born.length bc) S.born rfl hrow w6.heap.size 1 ⟨(q0g : Nat), (q0a : Nat), (q1g : Nat), (q1a : Nat), true, sz, level, S.txg, (x0 : Nat), (x1 : Nat), (x2 : Nat), (x3 : Nat)⟩ rfl (range0M HGBb.out) HFN.out.2.2.2.2.2 ?_
       intro v9 w9 hown hgrow hat
       obtain ⟨hd9, hst9⟩ := happ ⟨(q0g : Nat), (q0a : Nat), (q1g : Nat), (q1a : Nat), true, sz, level, S.txg, (x0 : Nat), (x1 : Nat), (x2 : Nat), (x3 : Nat)⟩ v9 w9 hown hgrow hat
       obtain ⟨ao9, cap9, rfl⟩ := own_form hown
       obtain ⟨T9, hat9, hfr9, _⟩ := HAT6b.out.step hst9
       have HP9 := Lib.hid (HP6b.out.mod (mod_grown hgrow hTb) HN6.out)
       have HAT9 := Lib.hid (by simpa only [List.length_append, List.length_singleton] using hat9)
       have HN9 : Hid (¬ T9 g8 ∧ ¬ T9 (w.heap.size + 2)) := Lib.hid ⟨hfr9 _ HP6b.out.p.lt HN6.out.2.1, hfr9 _ HP6b.out.r.lt HN6.out.2.2⟩
       have HNE9 : Hid (w.heap.size ≠ d ∧ g8 ≠ d ∧ w.heap.size + 2 ≠ d) := Lib.hid ⟨fun e => HN6.out.1 (by rw [e]; exact hTd), fun e => HN6.out.2.1 (by rw [e]; exact hTd), fun e => HN6.out.2.2 (by rw [e]; exact hTd)⟩
       have e9 : w9.cell? ⟨d, 1, none⟩ = some (.slice bo S.born.length bc) := hd9.cell 1
       have f9 := hd9.frozen 1
       clear hrow hTd hTb happ hown hgrow hat hd9 hst9 hat9 hfr9
       refine hK.out _ _ (HP9.out) (fun hSxpq9 => ?_)
       try simp only [Act.put, z1, z2, z3]
       refine rtd 10 ?_; refine rtd 11 ?_
       refine rr1 (i := 12) (h := fun K hK => ?_)
       go_simp
       skip
       refine hK.out _ _ (⟨HP9.out.s.other HNE9.out.1 _, HP9.out.p.other HNE9.out.2.1 _, HP9.out.r.other HNE9.out.2.2 _⟩) (fun hSxpq12 => ?_)
       try simp only [Act.put, z1, z2, z3]
       have HP12 : Hid (PuW w.heap.size g8 (w.heap.size + 2) sb ⟨(q0g : Nat), (q0a : Nat), (q1g : Nat), (q1a : Nat), true, sz, level, S.txg, (x0 : Nat), (x1 : Nat), (x2 : Nat), (x3 : Nat)⟩ (w9.setCell ⟨d, 1, none⟩ (.slice ao9 (S.born.length + 1) cap9))) := Lib.hid (PuW.mk (HP9.out.s.other HNE9.out.1 _) (HP9.out.p.other HNE9.out.2.1 _) (HP9.out.r.other HNE9.out.2.2 _))
       refine wpAnyH_done (by kernel_rfl) ?_ _
       go_wp2_with fail
       go_meet
       exact ⟨d, T9, rfl, HD6, HAT9, HP12, HN9⟩
     ·rw [if_pos (by kernel_rfl)]
      refine wp_build_at (.tmp 107) rfl ⟨(q0g : Nat), (q0a : Nat), (q1g : Nat), (q1a : Nat), true, sz, level, S.txg, (x0 : Nat), (x1 : Nat), (x2 : Nat), (x3 : Nat)⟩ rfl ?_
      refine hK.out _ _ ((hS5.below ((Below.refl _ _).alloc (Nat.le_refl _) (.cells (encPtr ⟨(q0g : Nat), (q0a : Nat), (q1g : Nat), (q1a : Nat), true, sz, level, S.txg, (x0 : Nat), (x1 : Nat), (x2 : Nat), (x3 : Nat)⟩).toArray 49)))) (fun hSxq8 => ?_)
      try simp only [Act.put, z1, z2, z3]
      refine rr1 (i := 1) (h := fun K hK => ?_)
      go_simp
      refine (work_any2 HA5b.out.is).mono ?_
      rintro e w6 ⟨d, rfl, hst, hdd⟩
      obtain ⟨T6, hat6, hfr6, hm6⟩ := HA5b.out.step hst
      have HAT6 := Lib.hid hat6
      have HD6 := Lib.hid hdd
      have HN6 : Hid (¬ T6 w.heap.size ∧ ¬ T6 g8 ∧ ¬ T6 (w.heap.size + 2)) := Lib.hid ⟨hfr6 _ (hS5.below ((Below.refl _ _).alloc (Nat.le_refl _) (.cells (encPtr ⟨(q0g : Nat), (q0a : Nat), (q1g : Nat), (q1a : Nat), true, sz, level, S.txg, (x0 : Nat), (x1 : Nat), (x2 : Nat), (x3 : Nat)⟩).toArray 49))).s.lt HNT4.out.1, hfr6 _ (hS5.below ((Below.refl _ _).alloc (Nat.le_refl _) (.cells (encPtr ⟨(q0g : Nat), (q0a : Nat), (q1g : Nat), (q1a : Nat), true, sz, level, S.txg, (x0 : Nat), (x1 : Nat), (x2 : Nat), (x3 : Nat)⟩).toArray 49))).p.lt HNT4.out.2.1, hfr6 _ (hS5.below ((Below.refl _ _).alloc (Nat.le_refl _) (.cells (encPtr ⟨(q0g : Nat), (q0a : Nat), (q1g : Nat), (q1a : Nat), true, sz, level, S.txg, (x0 : Nat), (x1 : Nat), (x2 : Nat), (x3 : Nat)⟩).toArray 49))).r.lt HNT4.out.2.2⟩
      have HP6 := Lib.hid ((hS5.below ((Below.refl _ _).alloc (Nat.le_refl _) (.cells (encPtr ⟨(q0g : Nat), (q0a : Nat), (q1g : Nat), (q1a : Nat), true, sz, level, S.txg, (x0 : Nat), (x1 : Nat), (x2 : Nat), (x3 : Nat)⟩).toArray 49))).mod hm6 HNT4.out)
      have HGB6 : Hid (Blk w6 w5.heap.size 49 (encPtr ⟨(q0g : Nat), (q0a : Nat), (q1g : Nat), (q1a : Nat), true, sz, level, S.txg, (x0 : Nat), (x1 : Nat), (x2 : Nat), (x3 : Nat)⟩)) := Lib.hid (hm6.blk (Blk.new w5.drew _ (encPtr ⟨(q0g : Nat), (q0a : Nat), (q1g : Nat), (q1a : Nat), true, sz, level, S.txg, (x0 : Nat), (x1 : Nat), (x2 : Nat), (x3 : Nat)⟩)) (fun hf => by have := HA5.out.is.lt _ hf; have e : w5.drew.heap.size = w5.heap.size := rfl; omega))
      clear hst hdd hat6 hfr6 hm6
      try dsimp only
      refine hK.out _ _ (HP6.out) (fun hSxq1 => ?_)
      try simp only [Act.put, z1, z2, z3]
      refine rr1 (i := 3) (h := fun K hK => ?_)
      go_simp
      refine (work_some HAT6.out.is).mono ?_
      rintro e w7 ⟨rfl, hw7⟩
      rw [hw7]
      clear hw7
      try dsimp only
      refine hK.out _ _ (HP6.out) (fun hSxq3 => ?_)
      try simp only [Act.put, z1, z2, z3]
      refine rtd 4 ?_; refine rtd 5 ?_
      obtain ⟨bv, hbv⟩ := HAT6.out.is.done
      obtain ⟨bo, bc, rfl⟩ := own_form (HAT6.out.is.app2 hbv).1
      have HBV := Lib.hid hbv
      have e6 : w6.cell? ⟨d, 1, none⟩ = some (.slice bo S.born.length bc) := hbv.cell 1
      clear hbv
      refine rr1 (i := 6) (h := fun K hK => ?_)
      go_simp
      clear e6
      refine hK.out _ _ (HP6.out) (fun hSxq6 => ?_)
      try simp only [Act.put, z1, z2, z3]
      refine rr1 (i := 9) (h := fun K hK => ?_)
      rw [if_pos (by kernel_rfl)]
      obtain ⟨hrow, hTd, hTb, happ⟩ := HAT6.out.is.app2 HBV.out
      refine wp_app_ptrS (.tmp 106) (.tmp 108) rfl (.slice bo S.born.length bc) S.born rfl hrow w5.heap.size 1 ⟨(q0g : Nat), (q0a : Nat), (q1g : Nat), (q1a : Nat), true, sz, level, S.txg, (x0 : Nat), (x1 : Nat), (x2 : Nat), (x3 : Nat)⟩ rfl (range0M HGB6.out) HFN.out.2.2.2.2.2 ?_
      intro v9 w9 hown hgrow hat
      obtain ⟨hd9, hst9⟩ := happ ⟨(q0g : Nat), (q0a : Nat), (q1g : Nat), (q1a : Nat), true, sz, level, S.txg, (x0 : Nat), (x1 : Nat), (x2 : Nat), (x3 : Nat)⟩ v9 w9 hown hgrow hat
      obtain ⟨ao9, cap9, rfl⟩ := own_form hown
      obtain ⟨T9, hat9, hfr9, _⟩ := HAT6.out.step hst9
      have HP9 := Lib.hid (HP6.out.mod (mod_grown hgrow hTb) HN6.out)
      have HAT9 := Lib.hid (by simpa only [List.length_append, List.length_singleton] using hat9)
      have HN9 : Hid (¬ T9 g8 ∧ ¬ T9 (w.heap.size + 2)) := Lib.hid ⟨hfr9 _ HP6.out.p.lt HN6.out.2.1, hfr9 _ HP6.out.r.lt HN6.out.2.2⟩
      have HNE9 : Hid (w.heap.size ≠ d ∧ g8 ≠ d ∧ w.heap.size + 2 ≠ d) := Lib.hid ⟨fun e => HN6.out.1 (by rw [e]; exact hTd), fun e => HN6.out.2.1 (by rw [e]; exact hTd), fun e => HN6.out.2.2 (by rw [e]; exact hTd)⟩
      have e9 : w9.cell? ⟨d, 1, none⟩ = some (.slice bo S.born.length bc) := hd9.cell 1
      have f9 := hd9.frozen 1
      clear hrow hTd hTb happ hown hgrow hat hd9 hst9 hat9 hfr9
      refine hK.out _ _ (HP9.out) (fun hSxq9 => ?_)
      try simp only [Act.put, z1, z2, z3]
      refine rtd 10 ?_; refine rtd 11 ?_
      refine rr1 (i := 12) (h := fun K hK => ?_)
      go_simp
      skip
      refine hK.out _ _ (⟨HP9.out.s.other HNE9.out.1 _, HP9.out.p.other HNE9.out.2.1 _, HP9.out.r.other HNE9.out.2.2 _⟩) (fun hSxq12 => ?_)
      try simp only [Act.put, z1, z2, z3]
      have HP12 : Hid (PuW w.heap.size g8 (w.heap.size + 2) sb ⟨(q0g : Nat), (q0a : Nat), (q1g : Nat), (q1a : Nat), true, sz, level, S.txg, (x0 : Nat), (x1 : Nat), (x2 : Nat), (x3 : Nat)⟩ (w9.setCell ⟨d, 1, none⟩ (.slice ao9 (S.born.length + 1) cap9))) := Lib.hid (PuW.mk (HP9.out.s.other HNE9.out.1 _) (HP9.out.p.other HNE9.out.2.1 _) (HP9.out.r.other HNE9.out.2.2 _))
      refine wpAnyH_done (by kernel_rfl) ?_ _
      go_wp2_with fail
      go_meet
      exact ⟨d, T9, rfl, HD6, HAT9, HP12, HN9⟩
    case rest =>
     obtain ⟨d, Tz, rfl, HD, HATZ, HPZ, HNZ⟩ := hcut
     have l8 : ∀ (op : Oper) (a : Act) (next : Act → World → Prop) (Q : Exit → Act → World → Prop), LoadW Tryz.prog op 49 (.pointer (some ⟨g8, 0, none⟩)) a wc next Q = next (a.put op.dst (.agg (encPtr ⟨(q0g : Nat), (q0a : Nat), (q1g : Nat), (q1a : Nat), true, sz, level, S.txg, (x0 : Nat), (x1 : Nat), (x2 : Nat), (x3 : Nat)⟩).toArray)) wc := fun op a next Q => loadW_blk HPZ.out.p Tryz.underlying49 rfl iszPt op a next Q
     have sR : ∀ (op : Oper) (a : Act) (next : Act → World → Prop) (Q : Exit → Act → World → Prop), StoreW Tryz.prog op 49 (.pointer (some ⟨w.heap.size + 2, 0, none⟩)) (.agg (encPtr ⟨(q0g : Nat), (q0a : Nat), (q1g : Nat), (q1a : Nat), true, sz, level, S.txg, (x0 : Nat), (x1 : Nat), (x2 : Nat), (x3 : Nat)⟩).toArray) a wc next Q = next (a.put op.dst undef) (wc.setCells (w.heap.size + 2) 0 (encPtr ⟨(q0g : Nat), (q0a : Nat), (q1g : Nat), (q1a : Nat), true, sz, level, S.txg, (x0 : Nat), (x1 : Nat), (x2 : Nat), (x3 : Nat)⟩)) := fun op a next Q => storeW_part (cs := encPtr ⟨(q0g : Nat), (q0a : Nat), (q1g : Nat), (q1a : Nat), true, sz, level, S.txg, (x0 : Nat), (x1 : Nat), (x2 : Nat), (x3 : Nat)⟩) HPZ.out.r (Nat.le_refl _) iszPt (encPtr_ones _) op a next Q
     have HBZ : Hid (Blk (wc.setCells (w.heap.size + 2) 0 (encPtr ⟨(q0g : Nat), (q0a : Nat), (q1g : Nat), (q1a : Nat), true, sz, level, S.txg, (x0 : Nat), (x1 : Nat), (x2 : Nat), (x3 : Nat)⟩)) (w.heap.size + 2) 49 (encPtr ⟨(q0g : Nat), (q0a : Nat), (q1g : Nat), (q1a : Nat), true, sz, level, S.txg, (x0 : Nat), (x1 : Nat), (x2 : Nat), (x3 : Nat)⟩)) := Lib.hid (HPZ.out.r.put rfl)
     have HFZ := Lib.hid ((HATZ.out.other HPZ.out.r (by unfold BookTy; decide) HNZ.out.2 (by omega) (setCells_grown (w.heap.size + 2) (encPtr ⟨(q0g : Nat), (q0a : Nat), (q1g : Nat), (q1a : Nat), true, sz, level, S.txg, (x0 : Nat), (x1 : Nat), (x2 : Nat), (x3 : Nat)⟩) wc 0)).fin)
     go_wp2_with fail
     refine bodyPost_ret (results_pt rfl _ _ (w.heap.size + 2) ⟨(q0g : Nat), (q0a : Nat), (q1g : Nat), (q1a : Nat), true, sz, level, S.txg, (x0 : Nat), (x1 : Nat), (x2 : Nat), (x3 : Nat)⟩ rfl HBZ.out) rfl ?_
     rw [HRR.out]
     exact ⟨rfl, some d, fun d0 e => by rw [HD.out d0 e], HFZ.out⟩
   ·exfalso
    simp only [List.length_cons] at hll
    omega
  ·obtain ⟨ei, hei⟩ : ∃ ei : Int, ei = ((er : Nat) : Int) := ⟨_, rfl⟩
   have q9 : ¬ ei = 0 := by omega
   rw [← hei]
   have HEI := Lib.hid hei
   have HER := Lib.hid her
   clear hei her hb256 h1 h2 h3 h4 hS0
   have s0 : ∀ (op : Oper) (a : Act) (next : Act → World → Prop) (Q : Exit → Act → World → Prop), StoreW Tryz.prog op 49 (.pointer (some ⟨w.heap.size + 2, 0, none⟩)) (.agg #[.int .i64 0, .int .i64 0, .int .i64 0, .int .i64 0, .bool false, .int .i64 0, .int .i64 0, .int .i64 0, .int .u64 0, .int .u64 0, .int .u64 0, .int .u64 0]) a w3 next Q = next (a.put op.dst undef) (w3.setCells (w.heap.size + 2) 0 (encPtr pD)) := fun op a next Q => storeW_part (cs := encPtr pD) K3R.out (Nat.le_refl _) iszPt (encPtr_ones pD) op a next Q
   have HBR : Hid (Blk (w3.setCells (w.heap.size + 2) 0 (encPtr pD)) (w.heap.size + 2) 49 (encPtr pD)) := Lib.hid (K3R.out.put rfl)
   have HRR : Hid (R = ⟨pD, er, { S with sn := sn1, es := es1 }⟩) := Lib.hid (by rw [HRE.out, if_pos HER.out])
   have HFI := Lib.hid ((HAT3.out.other K3R.out (by unfold BookTy; decide) HNT3.out.2.2.1 (by omega) (setCells_grown (w.heap.size + 2) (encPtr pD) w3 0)).fin)
   have q6 : (ei == 0) = false := by simpa using q9
   have q7 : decide (ei = 0) = false := decide_eq_false q9
   have q8 : (ei != 0) = true := by simpa using q9
   go_wp2_with fail
   refine bodyPost_ret (results_pt rfl _ _ (w.heap.size + 2) pD rfl HBR.out) rfl ?_
   rw [HRR.out]
   exact ⟨by rw [HEI.out]; rfl, dn, fun d e => e, HFI.out⟩
theorem put_any {w : World} {sb : Nat} {S : StoT} {V : DvV} {bb : Nat} {dn : Option Nat} {T : Nat → Prop} (h : IsSto w sb S V bb dn T) (t : Bs) (level : Int) (htl : t.length ≤ 1000000) (hr : S.x.right = true) (K : Nat) (hK : S.x.deep K) (hK2 : K + 200 ≤ 1000000000) (hw : S.x.takes) (hkp : 0 ≤ S.keep ∧ S.keep ≤ 1000000000) (hbn : S.born.length ≤ 1000000)
  (hpl : (plcX S ((t.length / 64 : Nat) : Int) level).err = 0 → ∀ q ∈ (plcX S ((t.length / 64 : Nat) : Int) level).l, mayC S.x.gs S.x.secs (q.1 : Nat) (q.2 : Nat) ((t.length / 64 : Nat) : Int) = true) :
  Calls Tryz.prog 12 #[.pointer (some ⟨sb, 0, none⟩), .string ⟨t.toArray⟩, .int .i64 level] w (PutFn w sb V bb dn T (putR S t level)) := by
 by_cases hy : putOk S t level = true
 ·exact put_yes h t level htl hr K hK hK2 hw hkp hbn hpl hy
 ·exact put_no h t level htl hr K hK hK2 hw hkp hbn hpl (by simpa using hy)
end Go.Proofs.YtfaemcfjbbbbdaaGreat
namespace Go.Proofs.YtfaemcfjbbbbdaaGreat
open Go.RowKit
attribute [local go_sem ↓] Go.wp_at_zero Go.wp_at_succ
theorem IsSto.fix {w : World} {sb : Nat} {S : StoT} {V : DvV} {bb d : Nat} {T : Nat → Prop} (h : IsSto w sb S V bb (some d) T) (n : Nat) : T d ∧ StoStep { S with fixed := n } V sb bb (some d) T w (w.setCell ⟨d, 0, none⟩ (.int .i64 (n : Nat))) := by
 obtain ⟨eb, ms, bv, F, h, hT⟩ := h
 obtain ⟨hd, hrow⟩ := h.don
 have hTd : T d := (hT d).2 (.inr (.inr (.inr (.inl rfl))))
 have set1 : ∀ {k : Nat}, k ≠ d → (w.setCell ⟨d, 0, none⟩ (.int .i64 (n : Nat))).heap[k]? = w.heap[k]? := fun {k} hk => Below.heap_setCell _ _ _ _ hk
 have hnd : ∀ {k : Nat} {cs : Array Value} {e : Nat} {fr : Nat × Nat}, w.heap[k]? = some (Obj.cells cs e fr) → e ≠ 102 → k ≠ d := fun {k cs e fr} hk he e2 => by
  subst e2
  have h2 := hd
  unfold Blk at h2
  rw [hk] at h2
  simp only [Option.some.injEq, Obj.cells.injEq] at h2
  exact he h2.2.1
 refine ⟨hTd, T, ⟨eb, ms, bv, F, ⟨?_, ?_, ?_, h.sn, ?_, ?_⟩, hT⟩, (Mod.refl _ _).setCell (.inl hTd), fun g hg => .inl hg⟩
 ·have hb := h.blk
  exact hb.other (a := ⟨d, 0, none⟩) (hnd hb (by decide)) _
 ·exact h.dvs.keep (fun g hf => set1 (fun e => by
   subst e
   rcases h.dvs.type g hf _ _ _ hd with e1 | e1 | e1 | e1 | e1 <;> exact absurd e1 (by decide)))
 ·refine h.bok.typed (fun g cs e fr hg2 he => ?_)
  have e2 : e ≠ 102 := by rcases he with e3 | e3 | e3 | e3 | e3 | e3 <;> rw [e3] <;> decide
  rw [set1 (hnd hg2 e2)]
  exact hg2
 ·exact hd.setCell 0 _
 ·exact own_keep hrow (fun g hg2 => by
   obtain ⟨c2, f2, h2⟩ := own_type hrow hg2
   exact set1 (hnd h2 (by decide)))
theorem encCm_ones (s : Bs) (a b c : Int) : ∀ u ∈ encCm s a b c, u.oneCell' = true := by
 intro u hu
 simp only [encCm, List.mem_cons, List.not_mem_nil, or_false] at hu
 rcases hu with rfl | rfl | rfl | rfl <;> rfl
structure GeS (sb g3 : Nat) (sc : List Value) (p : PtrT) (w : World) : Prop where
 b : Blk w sb 41 sc
 p : Blk w g3 49 (encPtr p)
set_option maxRecDepth 100000 in
set_option maxHeartbeats 2000000 in
theorem get_yes {w : World} {sb : Nat} {S : StoT} {V : DvV} {bb : Nat} {dn : Option Nat} {T : Nat → Prop} (h : IsSto w sb S V bb dn T) (p : PtrT) (hr : S.x.right = true) (hp : p.ok) (hpr : ptrRight S.x.gs S.x.secs p = true) (hf : S.x.fits) {i : Nat} {d : Int} {s : Bs} (hl : lookX S.x p = some (i, d, s)) (hs : blkOk s = true) (hsz : p.size = ((s.length / 64 : Nat) : Int)) (hil : i + 1 ≤ (plL p).length) (K : Nat) (hK : S.x.deep K) (hK2 : K + 200 ≤ 1000000000)
  (hfx : S.fixed ≤ 1000000) (hmn : (mendedL s ((plL p).take (i + 1)) S.x 0).1 ≤ 1000) (hkp : Kept S.x (mendedL s ((plL p).take (i + 1)) S.x 0).2) :
  Calls Tryz.prog 13 #[.pointer (some ⟨sb, 0, none⟩), .agg (encPtr p).toArray] w fun e w' => e = .returned (.tuple #[.string ⟨s.toArray⟩, .int .i64 0]) ∧ ∃ dn', (∀ d, dn = some d → dn' = some d) ∧ StoStep { S with x := (mendedL s ((plL p).take (i + 1)) S.x 0).2, fixed := S.fixed + (mendedL s ((plL p).take (i + 1)) S.x 0).1 } V sb bb dn' T w w' := by
 obtain ⟨ga, gc, la, lc, wa, acp, rfl⟩ := h.form
 obtain ⟨mn, hmn2⟩ : ∃ mn, mn = (mendedL s ((plL p).take (i + 1)) S.x 0).1 := ⟨_, rfl⟩
 obtain ⟨x2, hx2⟩ : ∃ x2, x2 = (mendedL s ((plL p).take (i + 1)) S.x 0).2 := ⟨_, rfl⟩
 have HRD : Hid (∀ W T1, IsSto W sb S ⟨.slice ga S.x.gs.length gc, .slice la S.x.ds.length lc, .slice wa S.x.ds.length acp⟩ bb dn T1 → Calls Tryz.prog 38 #[.agg ([.slice ga S.x.gs.length gc, .int .i64 S.x.secs, .slice la S.x.ds.length lc, .slice wa S.x.ds.length acp]).toArray, .agg (encPtr p).toArray] W fun e w' => e = .returned (.tuple #[.agg (encCm s i d (mn : Nat)).toArray, .int .i64 0]) ∧ StoStep { S with x := x2 } ⟨.slice ga S.x.gs.length gc, .slice la S.x.ds.length lc, .slice wa S.x.ds.length acp⟩ sb bb dn T1 W w') := Lib.hid (fun W T1 hW => by
  obtain ⟨F, hd, _, hstp⟩ := hW.dvs
  have h1 := hread_any hd hr p hp hpr hf hl hs hsz hil K hK hK2
  rw [← hmn2, ← hx2] at h1
  exact h1.mono (fun e w' h2 => ⟨h2.1, (hstp _ _ h2.2 (by rw [hx2]; exact hkp.gs) (by rw [hx2]; exact hkp.secs)).1⟩))
 have HSC : Hid (x2.secs = S.x.secs) := Lib.hid (by rw [hx2]; exact hkp.secs)
 rw [← hmn2] at hmn ⊢
 rw [← hx2]
 have hbA : Below w.heap.size w (w.alloc (.cells (encPtr p).toArray 49)).drew := ((Below.refl _ _).alloc (Nat.le_refl _) _).drew
 have HAT := Lib.hid ((StoAt.start h).below hbA)
 have HATb := Lib.hid (HAT.out.alloc (.cells (encCm [] 0 0 0).toArray 105))
 have HSW : Hid (sb < w.heap.size) := Lib.hid h.cells.lt
 have hS0 : GeS sb w.heap.size (stoC ⟨.slice ga S.x.gs.length gc, .slice la S.x.ds.length lc, .slice wa S.x.ds.length acp⟩ S bb dn) p (w.alloc (.cells (encPtr p).toArray 49)).drew := ⟨HAT.out.is.cells, Blk.new w _ (encPtr p)⟩
 have HNT : Hid (¬ T w.heap.size) := Lib.hid (fun hf => by have := h.lt _ hf; omega)
 have HFX := Lib.hid hfx
 have HMN := Lib.hid hmn
 clear h hr hp hpr hf hl hs hsz hil hK hK2 hfx hmn hkp hmn2 hx2 hbA
 obtain ⟨fx, hfe⟩ : ∃ fx, fx = S.fixed + mn := ⟨_, rfl⟩
 rw [← hfe]
 have HFE := Lib.hid hfe
 clear hfe
 go_enter Tryz.func13, Tryz.ntmps13
 go_upto_region 3 with fail
 go_cut [6, 7] (fun v6 v7 wx => ∃ g6 T2, v6 = .pointer (some ⟨g6, 0, none⟩) ∧ v7 = .int .i64 0 ∧ Hid (StoAt { S with x := x2 } ⟨.slice ga S.x.gs.length gc, .slice la S.x.ds.length lc, .slice wa S.x.ds.length acp⟩ sb bb dn T w wx T2) ∧ Hid (Blk wx g6 105 (encCm s i d (mn : Nat))) ∧ Hid (¬ T2 g6))
 case first =>
  refine wp_region_held_drew (S := GeS sb w.heap.size (stoC ⟨.slice ga S.x.gs.length gc, .slice la S.x.ds.length lc, .slice wa S.x.ds.length acp⟩ S bb dn) p) (by kernel_rfl) hS0 (fun hS0 => ?_)
  refine rtd 0 ?_; refine rtd 1 ?_; refine rtd 2 ?_
  refine rtg 3 ?vy3 ?yy3 ?_
  case yy3 => refine yieldsIf_load_mid (by kernel_rfl) 37 (.tmp 13) ?_ sb (0) ?_ ([.slice ga S.x.gs.length gc, .int .i64 S.x.secs, .slice la S.x.ds.length lc, .slice wa S.x.ds.length acp]) _ (fun w' (hw : GeS _ _ _ _ w') => range_preS (cs := [.slice ga S.x.gs.length gc, .int .i64 S.x.secs, .slice la S.x.ds.length lc, .slice wa S.x.ds.length acp]) hw.b) Tryz.underlying37 rfl iszDsM <;> rfl
  refine rtg 4 ?vy4 ?yy4 ?_
  case yy4 => refine yieldsIf_load_mid (by kernel_rfl) 49 (.tmp 3) ?_ w.heap.size (0) ?_ (encPtr p) _ (fun w' (hw : GeS _ _ _ _ w') => range0M hw.p) Tryz.underlying49 rfl iszPt <;> rfl
  refine wpAnyH_ready (rs := [5, 9]) (by kernel_rfl) (by simp) ?_
  refine AllReadyH.cons (by simp only [List.getElem?_toArray, List.getElem?_cons_succ, List.getElem?_cons_zero]; rfl) (fun K hK => ?_) (AllReadyH.cons (by simp only [List.getElem?_toArray, List.getElem?_cons_succ, List.getElem?_cons_zero]; rfl) (fun K hK => ?_) AllReadyH.nil)
  ·go_simp
   refine (HRD.out _ _ HAT.out.is).mono ?_
   rintro e w6 ⟨rfl, hst⟩
   obtain ⟨T6, hat6, hfr6, hm6⟩ := HAT.out.step hst
   have HAT6 := Lib.hid hat6
   have HP6 : Hid (GeS sb w.heap.size (stoC ⟨.slice ga S.x.gs.length gc, .slice la S.x.ds.length lc, .slice wa S.x.ds.length acp⟩ S bb dn) p w6) := Lib.hid ⟨by have h9 := hat6.is.cells; unfold stoC at h9 ⊢; rw [← HSC.out]; exact h9, hm6.blk (hS0.p) HNT.out⟩
   clear hst hat6 hfr6 hm6
   try dsimp only
   refine hK.out _ _ (HP6.out) (fun hSyp5 => ?_)
   try simp only [Act.put, z1, z2, z3]
   refine rtd 6 ?_; refine rtd 7 ?_; refine rtd 8 ?_
   refine rr1 (i := 9) (h := fun K hK => ?_)
   go_simp
   skip
   refine hK.out _ _ (⟨HP6.out.b.alloc _, HP6.out.p.alloc _⟩) (fun hSyp9 => ?_)
   try simp only [Act.put, z1, z2, z3]
   refine rr1 (i := 10) (h := fun K hK => ?_)
   rw [if_pos (by kernel_rfl)]
   refine wp_store_mid 105 (.tmp 6) (.tmp 17) rfl w6.heap.size (0) (encCm s i d (mn : Nat)).toArray rfl rfl (blk_there (Blk.new w6 105 (encCm [] 0 0 0)) (Nat.le_refl 4)) infoCm (all_oneCell_toArray (encCm_ones _ _ _ _)) ?_
   refine hK.out _ _ (⟨(HP6.out.b.alloc _).away 0 _ (by have := HP6.out.b.lt; omega), (HP6.out.p.alloc _).away 0 _ (by have := HP6.out.p.lt; omega)⟩) (fun hSyp10 => ?_)
   try simp only [Act.put, z1, z2, z3]
   refine rtd 11 ?_
   have HT : Hid (StoAt { S with x := x2 } ⟨.slice ga S.x.gs.length gc, .slice la S.x.ds.length lc, .slice wa S.x.ds.length acp⟩ sb bb dn T w ((w6.alloc (.cells (encCm [] 0 0 0).toArray 105)).setCells w6.heap.size 0 (encCm s i d (mn : Nat))) T6 ∧ Blk ((w6.alloc (.cells (encCm [] 0 0 0).toArray 105)).setCells w6.heap.size 0 (encCm s i d (mn : Nat))) w6.heap.size 105 (encCm s i d (mn : Nat)) ∧ ¬ T6 w6.heap.size) := Lib.hid ⟨(HAT6.out.alloc _).other (Blk.new w6 _ (encCm [] 0 0 0)) (by unfold BookTy; decide) (HAT6.out.fresh (Nat.le_refl _)) HAT6.out.mo.size (setCells_grown _ _ _ _), (Blk.new w6 _ (encCm [] 0 0 0)).put rfl, HAT6.out.fresh (Nat.le_refl _)⟩
   refine wpAnyH_done (by kernel_rfl) ?_ _
   go_wp2_with fail
   go_meet
   exact ⟨_, T6, rfl, rfl, Lib.hid HT.out.1, Lib.hid HT.out.2.1, Lib.hid HT.out.2.2⟩
  ·go_simp
   skip
   refine hK.out _ _ (⟨hS0.b.alloc _, hS0.p.alloc _⟩) (fun hSyq9 => ?_)
   try simp only [Act.put, z1, z2, z3]
   refine rr1 (i := 5) (h := fun K hK => ?_)
   go_simp
   refine (HRD.out _ _ HATb.out.is).mono ?_
   rintro e w6 ⟨rfl, hst⟩
   obtain ⟨T6, hat6, hfr6, hm6⟩ := HATb.out.step hst
   have HAT6 := Lib.hid hat6
   have HP6 : Hid (GeS sb w.heap.size (stoC ⟨.slice ga S.x.gs.length gc, .slice la S.x.ds.length lc, .slice wa S.x.ds.length acp⟩ S bb dn) p w6) := Lib.hid ⟨by have h9 := hat6.is.cells; unfold stoC at h9 ⊢; rw [← HSC.out]; exact h9, hm6.blk (hS0.p.alloc _) HNT.out⟩
   have HX6 : Hid (Blk w6 (w.heap.size + 1) 105 (encCm [] 0 0 0) ∧ ¬ T6 (w.heap.size + 1)) := Lib.hid ⟨hm6.blk (Blk.newAt (g := w.heap.size + 1) _ _ (by simp)) (HAT.out.fresh (by simp)), hfr6 _ (by simp) (HAT.out.fresh (by simp))⟩
   clear hst hat6 hfr6 hm6
   try dsimp only
   refine hK.out _ _ (HP6.out) (fun hSyq5 => ?_)
   try simp only [Act.put, z1, z2, z3]
   refine rtd 6 ?_; refine rtd 7 ?_; refine rtd 8 ?_
   refine rr1 (i := 10) (h := fun K hK => ?_)
   rw [if_pos (by kernel_rfl)]
   refine wp_store_mid 105 (.tmp 6) (.tmp 17) rfl (w.heap.size + 1) (0) (encCm s i d (mn : Nat)).toArray rfl rfl (blk_there HX6.out.1 (Nat.le_refl 4)) infoCm (all_oneCell_toArray (encCm_ones _ _ _ _)) ?_
   refine hK.out _ _ (⟨HP6.out.b.away 0 _ (by have := HSW.out; omega), HP6.out.p.away 0 _ (by omega)⟩) (fun hSyq10 => ?_)
   try simp only [Act.put, z1, z2, z3]
   refine rtd 11 ?_
   have HT : Hid (StoAt { S with x := x2 } ⟨.slice ga S.x.gs.length gc, .slice la S.x.ds.length lc, .slice wa S.x.ds.length acp⟩ sb bb dn T w (w6.setCells (w.heap.size + 1) 0 (encCm s i d (mn : Nat))) T6 ∧ Blk (w6.setCells (w.heap.size + 1) 0 (encCm s i d (mn : Nat))) (w.heap.size + 1) 105 (encCm s i d (mn : Nat)) ∧ ¬ T6 (w.heap.size + 1)) := Lib.hid ⟨HAT6.out.other HX6.out.1 (by unfold BookTy; decide) HX6.out.2 (by omega) (setCells_grown _ _ _ _), HX6.out.1.put rfl, HX6.out.2⟩
   refine wpAnyH_done (by kernel_rfl) ?_ _
   go_wp2_with fail
   go_meet
   exact ⟨_, T6, rfl, rfl, Lib.hid HT.out.1, Lib.hid HT.out.2.1, Lib.hid HT.out.2.2⟩
 case rest =>
  obtain ⟨g6, T2, rfl, rfl, HAT2, HG6, HN6⟩ := hcut
  have HAT2d := Lib.hid (HAT2.out.below (Below.refl _ _).drew)
  have hS4 : Blk wc.drew g6 105 (encCm s i d (mn : Nat)) := HG6.out
  have HADD : Hid (IntKind.i64.wrap (((S.fixed : Nat) : Int) + ((mn : Nat) : Int)) = ((fx : Nat) : Int)) := Lib.hid (by have := HFX.out; have := HMN.out; have := HFE.out; rw [IntWalk.i64_in _ (by omega)]; omega)
  clear HATb hS0
  go_upto_region 4 with fail
  refine wp_region_held_drew (S := fun W => Blk W g6 105 (encCm s i d (mn : Nat))) (by kernel_rfl) hS4 (fun hS4 => ?_)
  refine rtd 0 ?_; refine rtd 5 ?_
  refine rtv (i := 6) (v := ?vx6) (hy := ?yx6) (h := ?_)
  case yx6 => intro w hSw; (try dsimp only at hSw); go_simp; rw [hSw.cell 3]; rfl
  try simp only [Act.put, z1, z2, z3]
  refine rr1 (i := 1) (h := fun K hK => ?_)
  go_simp
  refine (work_any2 HAT2d.out.is).mono ?_
  rintro e w7 ⟨dd, rfl, hst, hdd⟩
  obtain ⟨T7, hat7, hfr7, hm7⟩ := HAT2d.out.step hst
  have HAT7 := Lib.hid hat7
  have HD7 := Lib.hid hdd
  have HG7 := Lib.hid (hm7.blk hS4 HN6.out)
  have HN7 := Lib.hid (hfr7 _ hS4.lt HN6.out)
  clear hst hdd hat7 hfr7 hm7
  try dsimp only
  refine hK.out _ _ (HG7.out) (fun hSx1 => ?_)
  try simp only [Act.put, z1, z2, z3]
  refine rtd 2 ?_; refine rtd 3 ?_
  obtain ⟨bv, hbv⟩ := HAT7.out.is.done
  have e4 : w7.cell? ⟨dd, 0, none⟩ = some (.int .i64 (S.fixed : Nat)) := hbv.cell 0
  have f4 := hbv.frozen 0
  obtain ⟨hTd, hfx⟩ := HAT7.out.is.fix fx
  obtain ⟨T8, hat8, hfr8, _⟩ := HAT7.out.step hfx
  have HAT8 := Lib.hid hat8
  have HNE : Hid (g6 ≠ dd) := Lib.hid (fun e => HN7.out (by rw [e]; exact hTd))
  clear hbv hTd hfx hat8 hfr8
  refine rr1 (i := 4) (h := fun K hK => ?_)
  go_simp
  skip
  refine hK.out _ _ (HG7.out) (fun hSx4 => ?_)
  try simp only [Act.put, z1, z2, z3]
  refine rtv (i := 7) (v := ?vx7) (hy := ?yx7) (h := ?_)
  case yx7 => intro w hSw; (try dsimp only at hSw); go_simp; rw [HADD.out]
  try simp only [Act.put, z1, z2, z3]
  refine rtd 8 ?_; refine rtd 9 ?_
  refine rr1 (i := 10) (h := fun K hK => ?_)
  go_simp
  skip
  refine hK.out _ _ ((HG7.out.other (a := ⟨dd, 0, none⟩) HNE.out _)) (fun hSx10 => ?_)
  try simp only [Act.put, z1, z2, z3]
  have x0 : (w7.setCell ⟨dd, 0, none⟩ (.int .i64 ((fx : Nat) : Int))).cell? ⟨g6, 0, none⟩ = some (.string ⟨s.toArray⟩) := (HG7.out.other (a := ⟨dd, 0, none⟩) HNE.out _).cell 0
  refine wpAnyH_done (by kernel_rfl) ?_ _
  go_wp2_with fail
  go_ret2
  exact ⟨rfl, some dd, fun d0 e => by rw [HD7.out d0 e], HAT8.out.fin⟩
end Go.Proofs.YtfaemcfjbbbbdaaGreat
namespace Go.Proofs.YtfaemcfjbbbbdaaGreat
open Go.RowKit
theorem devX_getD {gs : Gs} {secs : Int} {al ll : List Bool} {k d : Nat} (hd : d < devsN gs) : (devX gs secs al ll k).ds.getD d dvD = (if d < k ∧ ll.getD d false = true then (freshD secs.toNat 0).lose else freshD secs.toNat 0) ∧ (devX gs secs al ll k).away.getD d true = (decide (d < k) && al.getD d false) := by
 unfold devX
 constructor
 ·rw [List.getD_eq_getElem?_getD, List.getElem?_map, List.getElem?_range hd]; rfl
 ·rw [List.getD_eq_getElem?_getD, List.getElem?_map, List.getElem?_range hd]; rfl
theorem devX_here {gs : Gs} {secs : Int} {al ll : List Bool} {d : Nat} (hd : d < devsN gs) : (devX gs secs al ll (devsN gs)).here d = (!al.getD d false && !ll.getD d false) := by
 obtain ⟨h1, h2⟩ := devX_getD (gs := gs) (secs := secs) (al := al) (ll := ll) (k := devsN gs) hd
 unfold DvsT.here
 rw [h1, h2, decide_eq_true hd, Bool.true_and]
 congr 1
 cases hl : ll.getD d false with
 | true => rw [if_pos ⟨hd, rfl⟩]; rfl
 | false => rw [if_neg (fun h => by cases h.2)]; rfl
theorem devX_out {gs : Gs} {secs : Int} {al ll : List Bool} {k d : Nat} (hd : devsN gs ≤ d) : (devX gs secs al ll k).ds.getD d dvD = dvD := by
 unfold devX
 rw [List.getD_eq_getElem?_getD, List.getElem?_eq_none (by simpa using hd)]
 rfl
theorem blank_get (n : Nat) (b : UInt8) (k : Nat) : (blankL n b).getD k [] = [] ∨ ((blankL n b).getD k []).length = 64 := by
 unfold blankL
 rw [List.getD_eq_getElem?_getD, List.getElem?_replicate]
 split
 ·right; simp
 ·left; rfl
def OneOut (gs : Gs) (al ll : List Bool) : Prop := ∀ g d e, g < gs.length → (wsum gs g).toNat ≤ d → d < (wsum gs g).toNat + (gs.getD g (0, 0)).2.toNat → (wsum gs g).toNat ≤ e → e < (wsum gs g).toNat + (gs.getD g (0, 0)).2.toNat → (al.getD d false = true ∨ ll.getD d false = true) → 2 ≤ (gs.getD g (0, 0)).2 ∧ ((al.getD e false = true ∨ ll.getD e false = true) → d = e)
theorem wsum_top {gs : Gs} {secs : Int} (hr : rightB gs secs = true) {g : Nat} (hg : g < gs.length) : (wsum gs g).toNat + (gs.getD g (0, 0)).2.toNat ≤ devsN gs := by
 have h1 := wsum_stepS hg
 have h2 := wsum_mono hr (gs.length - (g + 1)) (g + 1) (by omega)
 rw [show g + 1 + (gs.length - (g + 1)) = gs.length by omega] at h2
 have h3 := (wsum_bd hr g (by omega)).1
 have h4 := getD_right hr hg
 unfold devsN
 omega
theorem devX_ok {gs : Gs} {secs : Int} {al ll : List Bool} (hr : rightB gs secs = true) (ho : OneOut gs al ll) : (devX gs secs al ll (devsN gs)).one ∧ (devX gs secs al ll (devsN gs)).fits ∧ (devX gs secs al ll (devsN gs)).deep 0 := by
 have hsp := rightB_spec hr
 have hcase : ∀ i, (devX gs secs al ll (devsN gs)).ds.getD i dvD = freshD secs.toNat 0 ∨ (devX gs secs al ll (devsN gs)).ds.getD i dvD = (freshD secs.toNat 0).lose ∨ ((devX gs secs al ll (devsN gs)).ds.getD i dvD = dvD ∧ devsN gs ≤ i) := fun i => by
  by_cases hi : i < devsN gs
  ·rw [(devX_getD hi).1]
   split
   ·exact .inr (.inl rfl)
   ·exact .inl rfl
  ·exact .inr (.inr ⟨devX_out (by omega), by omega⟩)
 refine ⟨⟨fun i => ?_, ?_, fun g d e hg h1 h2 h3 h4 h5 h6 => ?_, fun g d hg h1 h2 h3 => ?_⟩, fun i k => ?_, fun i k => ?_⟩
 ·rcases hcase i with h | h | ⟨h, h2⟩
  ·rw [h]; exact .inl rfl
  ·rw [h]; exact .inl rfl
  ·right; rw [(devX_n gs secs al ll (devsN gs)).1]; exact h2
 ·refine (right_iff _).2 ⟨hr, (devX_n gs secs al ll (devsN gs)).1, by rw [(devX_n gs secs al ll (devsN gs)).1, (devX_n gs secs al ll (devsN gs)).2], fun i hi => ?_⟩
  rw [(devX_n gs secs al ll (devsN gs)).1] at hi
  have hl : (blankL secs.toNat 0).length = secs.toNat := blankL_len _ _
  show (((devX gs secs al ll (devsN gs)).ds.getD i dvD).med.length : Int) = secs
  rcases hcase i with h | h | ⟨h, h2⟩
  ·rw [h]; show ((blankL secs.toNat 0).length : Int) = secs; omega
  ·rw [h]; show ((blankL secs.toNat 0).length : Int) = secs; omega
  ·omega
 ·have ht := wsum_top hr (g := g) hg
  rw [devX_here (by have : (devX gs secs al ll (devsN gs)).gs = gs := rfl; rw [this] at h2; omega)] at h5
  rw [devX_here (by have : (devX gs secs al ll (devsN gs)).gs = gs := rfl; rw [this] at h4; omega)] at h6
  refine (ho g d e hg h1 h2 h3 h4 ?_).2 ?_
  ·cases ha : al.getD d false with
   | true => exact .inl rfl
   | false => right; rw [ha] at h5; simpa using h5
  ·cases ha : al.getD e false with
   | true => exact .inl rfl
   | false => right; rw [ha] at h6; simpa using h6
 ·have ht := wsum_top hr (g := g) hg
  rw [devX_here (by have : (devX gs secs al ll (devsN gs)).gs = gs := rfl; rw [this] at h2; omega)] at h3
  refine (ho g d d hg h1 h2 h1 h2 ?_).1
  cases ha : al.getD d false with
  | true => exact .inl rfl
  | false => right; rw [ha] at h3; simpa using h3
 ·have hn : fit1 (((devX gs secs al ll (devsN gs)).ds.getD i dvD).now k) = true := by
   unfold fit1
   rcases hcase i with h | h | ⟨h, h2⟩
   ·rw [h]; exact decide_eq_true (by simpa [DevT.now, freshD] using blank_get secs.toNat 0 k)
   ·rw [h]; exact decide_eq_true (by simpa [DevT.now, freshD, DevT.lose] using blank_get secs.toNat 0 k)
   ·rw [h]; exact decide_eq_true (by left; simp [DevT.now, dvD])
  exact hn
 ·rcases hcase i with h | h | ⟨h, h2⟩
  ·rw [h]; simp [freshD]
  ·rw [h]; simp [freshD, DevT.lose]
  ·rw [h]; simp [dvD]
theorem newSt_ok {gs : Gs} {secs : Int} {al ll : List Bool} {sn : SN} {txg keep : Int} (hr : rightB gs secs = true) (ho : OneOut gs al ll) (hl : sn.length = gs.length) (hs : ∀ j, j < gs.length → sn.getD j sD = ((sect (gs.getD j (0, 0)) secs).toNat, [])) : StOk (newSt gs secs al ll sn txg keep) [] 0 := by
 obtain ⟨h1, h2, h3⟩ := devX_ok hr ho
 exact ⟨h1, h2, h3, Inv.fresh hr hl hs, Cov.empty hl hs⟩
theorem out_nil (gs : Gs) : OneOut gs [] [] := fun g d e _ _ _ _ _ h => by rcases h with h | h <;> simp at h
theorem plc_may2 {S : StoT} {L : List St} {K : Nat} (h : StOk S L K) (size level : Int) : (plcX S size level).err = 0 → ∀ q ∈ (plcX S size level).l, mayC S.x.gs S.x.secs (q.1 : Nat) (q.2 : Nat) size = true := by
 intro he
 by_cases hs : 1 ≤ size ∧ size ≤ 4
 ·rcases plc_spec h (size := size) (level := level) hs.1 hs.2 with ⟨e, _⟩ | ⟨_, _, _, p, q, two, e, hr, _⟩
  ·rw [e] at he; cases he
  ·rw [e]; exact mayN hr
 ·exfalso
  have hg : ∀ two, (getA S.x.gs S.x.secs S.sn S.es size two) = ⟨(0, 0), (0, 0), 1, S.sn, S.es⟩ := fun two => by unfold getA; rw [if_neg hs]
  unfold plcX plc1 at he
  rw [hg true] at he
  dsimp only at he
  rw [hg false] at he
  split at he
  ·cases he
  ·split at he
   ·rw [if_neg (by decide)] at he; cases he
   ·cases he
theorem put_law {w : World} {sb : Nat} {S : StoT} {V : DvV} {bb : Nat} {dn : Option Nat} {T : Nat → Prop} {L : List St} {K : Nat} (h : IsSto w sb S V bb dn T) (hok : StOk S L K) (hK2 : K + 200 ≤ 1000000000) (hkp : 0 ≤ S.keep ∧ S.keep ≤ 1000000000) (hbn : S.born.length ≤ 1000000) (t : Bs) (level : Int) (htl : t.length ≤ 1000000) :
  Calls Tryz.prog 12 #[.pointer (some ⟨sb, 0, none⟩), .string ⟨t.toArray⟩, .int .i64 level] w (PutFn w sb V bb dn T (putR S t level)) := by
 exact put_any h t level htl hok.one.right K hok.deep hK2 hok.one.takes hkp hbn (plc_may2 hok _ level)
end Go.Proofs.YtfaemcfjbbbbdaaGreat
namespace Go.Proofs.YtfaemcfjbbbbdaaGreat
open Go.RowKit
def spB (s : Bs) (p : Nat) (b : UInt8) : Bs := s.set p (s.getD p 0 ^^^ b)
def DevT.spoil (δ : DevT) (k : Nat) (s : Bs) : DevT := if δ.cache k = [] then ⟨δ.med.set k s, δ.cache, δ.lost, δ.fuse⟩ else ⟨δ.med, cput δ.cache k ((δ.cache k).dropLast ++ [s]), δ.lost, δ.fuse⟩
theorem DevT.now_spoil {δ : DevT} {k : Nat} (s : Bs) (hk : k < δ.med.length) (j : Nat) : (δ.spoil k s).now j = if j = k then s else δ.now j := by
 unfold DevT.spoil
 split
 ·rename_i h
  unfold DevT.now
  dsimp only
  by_cases e : j = k
  ·subst e
   rw [if_pos rfl, h]
   simp [List.getD_eq_getElem?_getD, hk]
  ·rw [if_neg e]
   have e2 : (δ.med.set k s).getD j [] = δ.med.getD j [] := by rw [List.getD_eq_getElem?_getD, List.getElem?_set_ne (fun h9 => e h9.symm), ← List.getD_eq_getElem?_getD]
   rw [e2]
 ·unfold DevT.now cput
  dsimp only
  by_cases e : j = k
  ·rw [if_pos e, if_pos e]; simp
  ·rw [if_neg e, if_neg e]
theorem DevT.spoil_same (δ : DevT) (k : Nat) (s : Bs) : (δ.spoil k s).med.length = δ.med.length ∧ (δ.spoil k s).lost = δ.lost ∧ (δ.spoil k s).fuse = δ.fuse ∧ ∀ j, ((δ.spoil k s).cache j).length = (δ.cache j).length := by
 unfold DevT.spoil
 split
 ·exact ⟨List.length_set, rfl, rfl, fun j => rfl⟩
 ·rename_i h
  refine ⟨rfl, rfl, rfl, fun j => ?_⟩
  unfold cput
  dsimp only
  split
  ·rename_i e
   subst e
   have := List.length_pos_iff.2 h
   simp; omega
  ·rfl
theorem IsDevV.med_set {w : World} {db g n cap k : Nat} {δ : DevT} {mb : Nat} {c : List (Nat × Value)} {s : Bs} (h : IsDevV w db δ (.slice (some ⟨g, 0, none⟩) n cap) mb c) (hn : n = δ.med.length) : IsDevV (w.setCell ⟨g, k, none⟩ (.string ⟨s.toArray⟩)) db ⟨δ.med.set k s, δ.cache, δ.lost, δ.fuse⟩ (.slice (some ⟨g, 0, none⟩) n cap) mb c := by
 subst hn
 have hst := h.med.stored k (.string ⟨s.toArray⟩)
 have hne : ∀ {j : Nat}, j ≠ g → (w.setCell ⟨g, k, none⟩ (.string ⟨s.toArray⟩)).heap[j]? = w.heap[j]? := fun {j} hj => Below.heap_setCell _ _ _ _ hj
 have hrow : (Value.slice (some ⟨g, 0, none⟩) δ.med.length cap).ownBlock = some g := rfl
 refine ⟨?_, ?_, h.map.keep (hne (fun e => row_nmap h.med h.map (by rw [e]; rfl))), h.none_, fun j v hv => ⟨(h.some_ j v hv).1, own_keep (h.some_ j v hv).2 (fun x hx => hne (fun e => h.d1 j v x hv hx (by rw [e]; rfl)))⟩, h.d1, h.d2, h.fu, ?_, h.dep⟩
 ·unfold Blk
  rw [hne (fun e => row_nblk h.med h.blk (by decide) (by rw [e]; rfl))]
  exact h.blk
 ·have e3 : encS (bts (δ.med.set k s)) = (encS (bts δ.med)).set k (.string ⟨s.toArray⟩) := by simp [encS, bts, List.map_set]
  show World.ownsRow _ 0 _ 1 _ (δ.med.set k s).length (encS (bts (δ.med.set k s)))
  rw [List.length_set, e3]
  exact hst.1
 ·show (δ.med.set k s).length ≤ 4096
  rw [List.length_set]
  exact h.sz
theorem IsDevV.cache_set {w : World} {db g n cap k : Nat} {δ : DevT} {vm : Value} {mb : Nat} {c : List (Nat × Value)} {s : Bs} (h : IsDevV w db δ vm mb c) (hv : vget c k = some (.slice (some ⟨g, 0, none⟩) (n + 1) cap)) (hn : (δ.cache k).length = n + 1) : IsDevV (w.setCell ⟨g, n, none⟩ (.string ⟨s.toArray⟩)) db ⟨δ.med, cput δ.cache k ((δ.cache k).dropLast ++ [s]), δ.lost, δ.fuse⟩ vm mb c := by
 obtain ⟨hne0, hrow⟩ := h.some_ k _ hv
 rw [hn] at hrow
 have hst := hrow.stored n (.string ⟨s.toArray⟩)
 have hne : ∀ {j : Nat}, j ≠ g → (w.setCell ⟨g, n, none⟩ (.string ⟨s.toArray⟩)).heap[j]? = w.heap[j]? := fun {j} hj => Below.heap_setCell _ _ _ _ hj
 have hlen : ((δ.cache k).dropLast ++ [s]).length = n + 1 := by simp [hn]
 refine ⟨?_, own_keep h.med (fun x hx => hne (fun e => h.d1 k _ x hv (by rw [e]; rfl) hx)), h.map.keep (hne (fun e => row_nmap hrow h.map (by rw [e]; rfl))), fun j hj => ?_, fun j v hj => ?_, h.d1, h.d2, h.fu, h.sz, fun j => ?_⟩
 ·unfold Blk
  rw [hne (fun e => row_nblk hrow h.blk (by decide) (by rw [e]; rfl))]
  exact h.blk
 ·show cput δ.cache k _ j = []
  unfold cput
  by_cases e : j = k
  ·subst e; rw [hv] at hj; cases hj
  ·rw [if_neg e]; exact h.none_ j hj
 ·show cput δ.cache k _ j ≠ [] ∧ World.ownsRow _ 0 _ 1 v (cput δ.cache k _ j).length (encS (bts (cput δ.cache k _ j)))
  unfold cput
  by_cases e : j = k
  ·subst e
   rw [if_pos rfl, hlen]
   rw [hv] at hj
   obtain rfl := Option.some.inj hj
   refine ⟨by simp, ?_⟩
   have e3 : encS (bts ((δ.cache j).dropLast ++ [s])) = (encS (bts (δ.cache j))).set n (.string ⟨s.toArray⟩) := by
    apply List.ext_getElem?
    intro i
    rw [List.getElem?_set]
    by_cases hi : n = i
    ·subst hi
     rw [if_pos rfl, if_pos (by simp [encS, bts, hn])]
     simp [encS, bts, hn]
    ·rw [if_neg hi]
     by_cases h2 : i < n
     ·simp only [encS, bts, List.map_append, List.map_dropLast]
      rw [List.getElem?_append_left (by simp [hn]; omega), List.getElem?_dropLast, if_pos (by simp [hn]; omega)]
     ·rw [List.getElem?_eq_none (by simp [encS, bts, hn]; omega), List.getElem?_eq_none (by simp [encS, bts, hn]; omega)]
   rw [e3]
   exact hst.1
  ·rw [if_neg e]
   obtain ⟨h1, h2⟩ := h.some_ j v hj
   exact ⟨h1, own_keep h2 (fun x hx => hne (fun e2 => h.d2 j k v _ x e hj hv hx (by rw [e2]; rfl)))⟩
 ·show (cput δ.cache k _ j).length ≤ _
  unfold cput
  split
  ·rename_i e
   have := h.dep k
   rw [hlen]; omega
  ·exact h.dep j
end Go.Proofs.YtfaemcfjbbbbdaaGreat
namespace Go.Proofs.YtfaemcfjbbbbdaaGreat
theorem spB_len (s : Bs) (p : Nat) (b : UInt8) : (spB s p b).length = s.length := by unfold spB; rw [List.length_set]
def DvsT.full (x : DvsT) : Prop := ∀ i k, i < x.ds.length → k < (x.ds.getD i dvD).med.length → ((x.ds.getD i dvD).now k).length = 64
def spoilX (x : DvsT) (c : ColT) (pl : Nat) (b : UInt8) : DvsT := x.set c.1 ((x.ds.getD c.1 dvD).spoil c.2.1 (spB ((x.ds.getD c.1 dvD).now c.2.1) (pl % 64) b))
theorem spoilX_get {x : DvsT} {c : ColT} (hc : c.1 < x.ds.length) (pl : Nat) (b : UInt8) (i : Nat) : (spoilX x c pl b).ds.getD i dvD = if i = c.1 then (x.ds.getD c.1 dvD).spoil c.2.1 (spB ((x.ds.getD c.1 dvD).now c.2.1) (pl % 64) b) else x.ds.getD i dvD := DvsT.set_getD x c.1 i _ hc
theorem spoilX_kept {x : DvsT} {c : ColT} (hc : c.1 < x.ds.length) (hk : c.2.1 < (x.ds.getD c.1 dvD).med.length) (pl : Nat) (b : UInt8) : Kept x (spoilX x c pl b) ∧ (∀ K, x.deep K → (spoilX x c pl b).deep K) ∧ (x.full → (spoilX x c pl b).full) := by
 have hsame := DevT.spoil_same (x.ds.getD c.1 dvD) c.2.1 (spB ((x.ds.getD c.1 dvD).now c.2.1) (pl % 64) b)
 have hn : (spoilX x c pl b).ds.length = x.ds.length := by simp [spoilX, DvsT.set]
 refine ⟨⟨rfl, rfl, rfl, hn, fun i => ?_, fun hf i k => ?_⟩, fun K hK i k => ?_, fun hf i k hi hk2 => ?_⟩
 ·rw [spoilX_get hc]
  split
  ·rename_i e; subst e; exact ⟨hsame.1, hsame.2.1, fun h => by rw [hsame.2.2.1]; exact h⟩
  ·exact ⟨rfl, rfl, fun h => h⟩
 ·rw [spoilX_get hc]
  split
  ·rw [DevT.now_spoil _ hk]
   split
   ·have := hf c.1 c.2.1
    unfold fit1 at this ⊢
    simp only [decide_eq_true_eq] at this ⊢
    rcases this with h | h
    ·left; unfold spB; rw [h]; rfl
    ·right; rw [spB_len]; exact h
   ·exact hf c.1 k
  ·exact hf i k
 ·rw [spoilX_get hc]
  split
  ·rw [hsame.2.2.2]; exact hK c.1 k
  ·exact hK i k
 ·rw [spoilX_get hc] at hk2 ⊢
  rw [hn] at hi
  split
  ·rename_i e
   rw [if_pos e, hsame.1] at hk2
   rw [DevT.now_spoil _ hk]
   split
   ·rw [spB_len]; exact hf c.1 c.2.1 hc hk
   ·exact hf c.1 k hc hk2
  ·rename_i e
   rw [if_neg e] at hk2
   exact hf i k hi hk2
theorem spoil_col_other {x : DvsT} {c c2 : ColT} (hc : c.1 < x.ds.length) (hk : c.2.1 < (x.ds.getD c.1 dvD).med.length) (pl : Nat) (b : UInt8) (h : ¬ sameC c c2) : (spoilX x c pl b).col c2 = x.col c2 := by
 have kk := (spoilX_kept hc hk pl b).1
 unfold DvsT.col
 rw [kk.here]
 split
 ·have hm : ((spoilX x c pl b).ds.getD c2.1 dvD).mayE (colAt c2) = (x.ds.getD c2.1 dvD).mayE (colAt c2) := by
   unfold DevT.mayE
   rw [(kk.dev c2.1).1, (kk.dev c2.1).2.1]
  unfold DevT.readE
  rw [hm]
  split
  ·dsimp only
   rw [spoilX_get hc]
   split
   ·rename_i e
    rw [DevT.now_spoil _ hk, if_neg (by unfold colAt; intro e3; exact h ⟨e.symm, by simpa using e3.symm⟩), e]
   ·rfl
  ·rfl
 ·rfl
end Go.Proofs.YtfaemcfjbbbbdaaGreat
namespace Go.Proofs.YtfaemcfjbbbbdaaGreat
theorem DevT.writeE_full {δ : DevT} {a : Int} {s : Bs} (h : ∀ k, k < δ.med.length → (δ.now k).length = 64) : ∀ k, k < (δ.writeE a s).2.med.length → ((δ.writeE a s).2.now k).length = 64 := by
 unfold DevT.writeE
 split
 ·exact h
 ·split
  ·exact h
  ·rename_i h64
   split
   ·exact h
   ·intro k hk
    show ((δ.wrote a.toNat s).now k).length = 64
    rw [DevT.now_wrote]
    split
    ·omega
    ·exact h k hk
theorem putX_full {x : DvsT} (h : x.full) (c : ColT) (s : Bs) : (putX x c s).2.full := by
 unfold putX
 split
 ·intro i k hi hk
  dsimp only at hi hk ⊢
  have hl : (x.set c.1 ((x.ds.getD c.1 dvD).writeE (colAt c) s).2).ds.length = x.ds.length := by simp [DvsT.set]
  rw [hl] at hi
  by_cases hc : c.1 < x.ds.length
  ·rw [DvsT.set_getD x c.1 i _ hc] at hk ⊢
   split
   ·rename_i e
    rw [if_pos e] at hk
    exact DevT.writeE_full (fun k hk => h c.1 k hc hk) k hk
   ·rename_i e
    rw [if_neg e] at hk
    exact h i k hi hk
  ·have e : (x.set c.1 ((x.ds.getD c.1 dvD).writeE (colAt c) s).2).ds = x.ds := by
    unfold DvsT.set
    exact List.set_eq_of_length_le (by omega)
   rw [e] at hk ⊢
   exact h i k hi hk
 ·exact h
theorem putsX_full : ∀ (l : List (ColT × Bs)) (x : DvsT) (f : List Nat), x.full → (putsX x l f).2.full
 | [], x, f, h => h
 | (c, s) :: r, x, f, h => putsX_full r _ _ (putX_full h c s)
theorem writeX_full {x : DvsT} (h : x.full) (g a : Nat) (s : Bs) : (writeX x g a s).2.2.full := by
 unfold writeX
 split
 ·exact h
 ·split
  ·exact h
  ·exact putsX_full _ _ _ h
theorem putsL_full (t : Bs) : ∀ (l : List (Nat × Nat)) (x : DvsT), x.full → (putsL t l x).full
 | [], x, h => h
 | q :: r, x, h => putsL_full t r _ (writeX_full h q.1 q.2 t)
theorem putR_full {S : StoT} (h : S.x.full) (t : Bs) (level : Int) : (putR S t level).s.x.full := by
 unfold putR
 split
 ·exact h
 ·split
  ·exact h
  ·exact putsL_full t _ _ h
theorem new_full {gs : Gs} {secs : Int} {sn : SN} {txg keep : Int} : (newSt gs secs [] [] sn txg keep).x.full := by
 intro i k hi hk
 have e : (newSt gs secs [] [] sn txg keep).x = devX gs secs [] [] (devsN gs) := rfl
 rw [e] at hi hk ⊢
 rw [(devX_n gs secs [] [] (devsN gs)).1] at hi
 rw [(devX_getD hi).1, if_neg (by simp)] at hk ⊢
 show ((blankL secs.toNat 0).getD k []).length = 64
 rcases blank_get secs.toNat 0 k with h9 | h9
 ·exfalso
  have hk2 : k < (blankL secs.toNat 0).length := hk
  unfold blankL at h9 hk2
  rw [List.length_replicate] at hk2
  rw [List.getD_eq_getElem?_getD, List.getElem?_replicate, if_pos hk2] at h9
  have := congrArg List.length h9
  simp at this
 ·exact h9
end Go.Proofs.YtfaemcfjbbbbdaaGreat
namespace Go.Proofs.YtfaemcfjbbbbdaaGreat
theorem sumW_fst : ∀ (l : List Nat) (a b c d : Nat), a < m64 → (sumW l (a, b, c, d)).1 = (a + l.sum) % m64
 | [], a, b, c, d, h => by show a = _; rw [List.sum_nil, Nat.add_zero, Nat.mod_eq_of_lt h]
 | w :: r, a, b, c, d, h => by
  show (sumW r ((a + w) % m64, _, _, _)).1 = _
  rw [sumW_fst r _ _ _ _ (Nat.mod_lt _ (by unfold m64; omega)), List.sum_cons, Nat.mod_add_mod, Nat.add_assoc]
def wsumS : List Nat → Nat
 | [] => 0
 | w :: r => (r.length + 1) * w + wsumS r
theorem mod_step (b r a1 n s m : Nat) (hr : r = a1 % m) : ((b + r) % m + n * r + s) % m = (b + (n + 1) * a1 + s) % m := by
 have e1 : ((b + r) % m + n * r + s) % m = (b + r + n * r + s) % m := by
  rw [Nat.add_assoc, Nat.mod_add_mod, ← Nat.add_assoc]
 have e2 : b + r + n * r + s = b + s + (n + 1) * r := by rw [Nat.succ_mul]; omega
 have e3 : b + (n + 1) * a1 + s = b + s + (n + 1) * a1 := by omega
 rw [e1, e2, e3, hr, Nat.add_mod, Nat.mul_mod, Nat.mod_mod, ← Nat.mul_mod, ← Nat.add_mod]
theorem sumW_snd : ∀ (l : List Nat) (a b c d : Nat), b < m64 → (sumW l (a, b, c, d)).2.1 = (b + l.length * a + wsumS l) % m64
 | [], a, b, c, d, h => by show b = _; simp [wsumS, Nat.mod_eq_of_lt h]
 | w :: r, a, b, c, d, h => by
  show (sumW r ((a + w) % m64, (b + (a + w) % m64) % m64, _, _)).2.1 = _
  rw [sumW_snd r _ _ _ _ (Nat.mod_lt _ (by unfold m64; omega)), mod_step b _ (a + w) r.length (wsumS r) m64 rfl]
  congr 1
  simp only [wsumS, List.length_cons, Nat.mul_add]
  omega
theorem mod_ne {A x y m : Nat} (h : (A + x) % m = (A + y) % m) (hx : x < m) (hy : y < m) : x = y := by
 have h1 := Nat.mod_add_div (A + x) m
 have h2 := Nat.mod_add_div (A + y) m
 rw [h] at h1
 rcases Nat.lt_trichotomy ((A + x) / m) ((A + y) / m) with h3 | h3 | h3
 ·have : m * ((A + x) / m) + m ≤ m * ((A + y) / m) := by rw [← Nat.mul_succ]; exact Nat.mul_le_mul_left m h3
  omega
 ·rw [h3] at h1; omega
 ·have : m * ((A + y) / m) + m ≤ m * ((A + x) / m) := by rw [← Nat.mul_succ]; exact Nat.mul_le_mul_left m h3
  omega
theorem sum_one (l r : List Nat) (x y : Nat) (hx : x < 4294967296) (hy : y < 4294967296) (h : sumW (l ++ x :: r) (0, 0, 0, 0) = sumW (l ++ y :: r) (0, 0, 0, 0)) : x = y := by
 have h1 := congrArg (·.1) h
 try dsimp only at h1
 rw [sumW_fst _ _ _ _ _ (by unfold m64; omega), sumW_fst _ _ _ _ _ (by unfold m64; omega)] at h1
 simp only [List.sum_append, List.sum_cons, Nat.zero_add] at h1
 have e1 : l.sum + (x + r.sum) = (l.sum + r.sum) + x := by omega
 have e2 : l.sum + (y + r.sum) = (l.sum + r.sum) + y := by omega
 rw [e1, e2] at h1
 exact mod_ne h1 (by unfold m64; omega) (by unfold m64; omega)
theorem wsumS_append : ∀ (l r : List Nat), wsumS (l ++ r) = wsumS l + r.length * l.sum + wsumS r
 | [], r => by simp [wsumS]
 | w :: l, r => by
  show ((l ++ r).length + 1) * w + wsumS (l ++ r) = (l.length + 1) * w + wsumS l + r.length * (w :: l).sum + wsumS r
  rw [wsumS_append l r, List.length_append, List.sum_cons, Nat.mul_add, Nat.add_mul, Nat.add_mul, Nat.add_mul]
  omega
theorem sum_two (l m r : List Nat) (x1 x2 y1 y2 : Nat) (h1 : x1 < 4294967296) (h2 : x2 < 4294967296) (h3 : y1 < 4294967296) (h4 : y2 < 4294967296) (hn : m.length + r.length ≤ 1000) (h : sumW (l ++ x1 :: (m ++ x2 :: r)) (0, 0, 0, 0) = sumW (l ++ y1 :: (m ++ y2 :: r)) (0, 0, 0, 0)) : x1 = y1 ∧ x2 = y2 := by
 have a1 := congrArg (·.1) h
 have a2 := congrArg (·.2.1) h
 try dsimp only at a1 a2
 rw [sumW_fst _ _ _ _ _ (by unfold m64; omega), sumW_fst _ _ _ _ _ (by unfold m64; omega)] at a1
 rw [sumW_snd _ _ _ _ _ (by unfold m64; omega), sumW_snd _ _ _ _ _ (by unfold m64; omega)] at a2
 simp only [List.sum_append, List.sum_cons, Nat.zero_add] at a1
 have e1 : ∀ u v : Nat, l.sum + (u + (m.sum + (v + r.sum))) = (l.sum + m.sum + r.sum) + (u + v) := fun u v => by omega
 rw [e1, e1] at a1
 have b1 := mod_ne a1 (by unfold m64; omega) (by unfold m64; omega)
 have e2 : ∀ u v : Nat, 0 + (l ++ u :: (m ++ v :: r)).length * 0 + wsumS (l ++ u :: (m ++ v :: r)) = (wsumS l + (m.length + 1 + (r.length + 1)) * l.sum + wsumS m + (r.length + 1) * m.sum + wsumS r) + ((m.length + 1 + (r.length + 1)) * u + (r.length + 1) * v) := fun u v => by
  rw [wsumS_append]
  show 0 + _ * 0 + (wsumS l + (u :: (m ++ v :: r)).length * l.sum + (((m ++ v :: r).length + 1) * u + wsumS (m ++ v :: r))) = _
  rw [wsumS_append]
  show 0 + _ * 0 + (wsumS l + (u :: (m ++ v :: r)).length * l.sum + (((m ++ v :: r).length + 1) * u + (wsumS m + (v :: r).length * m.sum + ((r.length + 1) * v + wsumS r)))) = _
  simp only [List.length_cons, List.length_append]
  have e3 : m.length + (r.length + 1) + 1 = m.length + 1 + (r.length + 1) := by omega
  rw [e3]
  omega
 rw [e2, e2] at a2
 have bd : ∀ u v : Nat, u < 4294967296 → v < 4294967296 → (m.length + 1 + (r.length + 1)) * u + (r.length + 1) * v < m64 := fun u v hu hv => by
  have c1 : (m.length + 1 + (r.length + 1)) * u ≤ 1002 * 4294967296 := Nat.mul_le_mul (by omega) (by omega)
  have c2 : (r.length + 1) * v ≤ 1001 * 4294967296 := Nat.mul_le_mul (by omega) (by omega)
  unfold m64
  omega
 have b2 := mod_ne a2 (bd x1 x2 h1 h2) (bd y1 y2 h3 h4)
 have b3 : ∀ u : Nat, (m.length + 1 + (r.length + 1)) * u = (m.length + 1) * u + (r.length + 1) * u := fun u => Nat.add_mul _ _ _
 rw [b3, b3] at b2
 have c1 : (r.length + 1) * x1 + (r.length + 1) * x2 = (r.length + 1) * y1 + (r.length + 1) * y2 := by rw [← Nat.mul_add, ← Nat.mul_add, b1]
 have c2 : (m.length + 1) * x1 = (m.length + 1) * y1 := by
  rw [Nat.add_assoc, Nat.add_assoc, c1] at b2
  exact Nat.add_right_cancel b2
 have c3 := Nat.eq_of_mul_eq_mul_left (Nat.succ_pos m.length) c2
 exact ⟨c3, by omega⟩
end Go.Proofs.YtfaemcfjbbbbdaaGreat
namespace Go.Proofs.YtfaemcfjbbbbdaaGreat
theorem leN_inj : ∀ (a b : Bs), a.length = b.length → leN a = leN b → a = b
 | [], [], _, _ => rfl
 | [], _ :: _, h, _ => by simp at h
 | _ :: _, [], h, _ => by simp at h
 | x :: a, y :: b, h, e => by
  have e2 : x.toNat + 256 * leN a = y.toNat + 256 * leN b := e
  have hx := x.toNat_lt
  have hy := y.toNat_lt
  have e3 : x.toNat = y.toNat := by omega
  have e4 : leN a = leN b := by omega
  rw [UInt8.toNat_inj.1 e3, leN_inj a b (by simpa using h) e4]
def wordsQ (t : Bs) : List Nat := (List.range (t.length / 4)).map (word4 t)
theorem sumF_wordsQ {t : Bs} (h : t.length % 4 = 0) : sumF t = sumW (wordsQ t) (0, 0, 0, 0) := by
 unfold sumF padW wordsQ
 have e : (4 - t.length % 4) % 4 = 0 := by omega
 rw [e]
 have e2 : t ++ zeros 0 = t := by simp [zeros]
 rw [e2]
theorem wordsQ_len (t : Bs) : (wordsQ t).length = t.length / 4 := by simp [wordsQ]
theorem wordsQ_get (t : Bs) {k : Nat} (h : k < t.length / 4) : (wordsQ t).getD k 0 = word4 t k := by
 unfold wordsQ
 rw [List.getD_eq_getElem?_getD, List.getElem?_map, List.getElem?_range h]
 rfl
theorem word4_lt (t : Bs) (k : Nat) : word4 t k < 4294967296 := by
 have h := leN_lt ((t.drop (4 * k)).take 4)
 have h2 : ((t.drop (4 * k)).take 4).length ≤ 4 := by rw [List.length_take]; omega
 have h3 : 256 ^ ((t.drop (4 * k)).take 4).length ≤ 256 ^ 4 := Nat.pow_le_pow_right (by omega) h2
 unfold word4
 have : (256 : Nat) ^ 4 = 4294967296 := by decide
 omega
theorem word4_inj {t u : Bs} (hl : t.length = u.length) {k : Nat} (h : word4 t k = word4 u k) {j : Nat} (h1 : 4 * k ≤ j) (h2 : j < 4 * k + 4) : t.getD j 0 = u.getD j 0 := by
 unfold word4 at h
 have e := leN_inj _ _ (by simp [hl]) h
 have e2 : ((t.drop (4 * k)).take 4)[j - 4 * k]? = ((u.drop (4 * k)).take 4)[j - 4 * k]? := by rw [e]
 rw [List.getElem?_take_of_lt (by omega), List.getElem?_take_of_lt (by omega), List.getElem?_drop, List.getElem?_drop, show 4 * k + (j - 4 * k) = j by omega] at e2
 rw [List.getD_eq_getElem?_getD, List.getD_eq_getElem?_getD, e2]
theorem word4_same {t u : Bs} (hl : t.length = u.length) {k : Nat} (h : ∀ j, 4 * k ≤ j → j < 4 * k + 4 → t.getD j 0 = u.getD j 0) : word4 t k = word4 u k := by
 unfold word4
 congr 1
 apply List.ext_getElem?
 intro i
 by_cases hi : i < 4
 ·rw [List.getElem?_take_of_lt hi, List.getElem?_take_of_lt hi, List.getElem?_drop, List.getElem?_drop]
  have h9 := h (4 * k + i) (by omega) (by omega)
  by_cases hj : 4 * k + i < t.length
  ·rw [List.getD_eq_getElem?_getD, List.getD_eq_getElem?_getD, List.getElem?_eq_getElem hj, List.getElem?_eq_getElem (by omega)] at h9
   rw [List.getElem?_eq_getElem hj, List.getElem?_eq_getElem (by omega)]
   exact congrArg some h9
  ·rw [List.getElem?_eq_none (by omega), List.getElem?_eq_none (by omega)]
 ·rw [List.getElem?_eq_none (by rw [List.length_take]; omega), List.getElem?_eq_none (by rw [List.length_take]; omega)]
theorem at_one (l : List Nat) {i : Nat} (h : i < l.length) : l = l.take i ++ l.getD i 0 :: l.drop (i + 1) := by
 rw [List.getD_eq_getElem?_getD, List.getElem?_eq_getElem h]
 show l = l.take i ++ l[i] :: l.drop (i + 1)
 rw [List.getElem_cons_drop, List.take_append_drop]
theorem take_same {a b : List Nat} (hl : a.length = b.length) {i : Nat} (h : ∀ k, k < i → a.getD k 0 = b.getD k 0) : a.take i = b.take i := by
 apply List.ext_getElem?
 intro k
 by_cases hk : k < i
 ·rw [List.getElem?_take_of_lt hk, List.getElem?_take_of_lt hk]
  have h9 := h k hk
  by_cases hj : k < a.length
  ·rw [List.getD_eq_getElem?_getD, List.getD_eq_getElem?_getD, List.getElem?_eq_getElem hj, List.getElem?_eq_getElem (by omega)] at h9
   rw [List.getElem?_eq_getElem hj, List.getElem?_eq_getElem (by omega)]
   exact congrArg some h9
  ·rw [List.getElem?_eq_none (by omega), List.getElem?_eq_none (by omega)]
 ·rw [List.getElem?_eq_none (by rw [List.length_take]; omega), List.getElem?_eq_none (by rw [List.length_take]; omega)]
theorem drop_same {a b : List Nat} (hl : a.length = b.length) {i : Nat} (h : ∀ k, i ≤ k → a.getD k 0 = b.getD k 0) : a.drop i = b.drop i := by
 apply List.ext_getElem?
 intro k
 rw [List.getElem?_drop, List.getElem?_drop]
 have h9 := h (i + k) (by omega)
 by_cases hj : i + k < a.length
 ·rw [List.getD_eq_getElem?_getD, List.getD_eq_getElem?_getD, List.getElem?_eq_getElem hj, List.getElem?_eq_getElem (by omega)] at h9
  rw [List.getElem?_eq_getElem hj, List.getElem?_eq_getElem (by omega)]
  exact congrArg some h9
 ·rw [List.getElem?_eq_none (by omega), List.getElem?_eq_none (by omega)]
theorem words_all {t u : Bs} (hl : t.length = u.length) (h4 : t.length % 4 = 0) (h : ∀ k, k < t.length / 4 → word4 t k = word4 u k) : t = u := by
 apply List.ext_getElem?
 intro j
 by_cases hj : j < t.length
 ·have h9 := word4_inj hl (h (j / 4) (by omega)) (j := j) (by omega) (by omega)
  rw [List.getD_eq_getElem?_getD, List.getD_eq_getElem?_getD, List.getElem?_eq_getElem hj, List.getElem?_eq_getElem (by omega)] at h9
  rw [List.getElem?_eq_getElem hj, List.getElem?_eq_getElem (by omega)]
  exact congrArg some h9
 ·rw [List.getElem?_eq_none (by omega), List.getElem?_eq_none (by omega)]
theorem words_two {a b : List Nat} (hl : a.length = b.length) (hn : a.length ≤ 1000) (ha : ∀ k, a.getD k 0 < 4294967296) (hb : ∀ k, b.getD k 0 < 4294967296) (hs : sumW a (0, 0, 0, 0) = sumW b (0, 0, 0, 0)) {i j : Nat} (hij : i < j) (h : ∀ k, k ≠ i → k ≠ j → a.getD k 0 = b.getD k 0) : ∀ k, a.getD k 0 = b.getD k 0 := by
 have key : a.getD i 0 = b.getD i 0 ∧ a.getD j 0 = b.getD j 0 := by
  by_cases hi : i < a.length
  ·by_cases hj : j < a.length
   ·have e1 := at_one a hi
    have e2 := at_one b (show i < b.length by omega)
    have d1 := at_one (a.drop (i + 1)) (i := j - i - 1) (by rw [List.length_drop]; omega)
    have d2 := at_one (b.drop (i + 1)) (i := j - i - 1) (by rw [List.length_drop]; omega)
    have g1 : (a.drop (i + 1)).getD (j - i - 1) 0 = a.getD j 0 := by rw [List.getD_eq_getElem?_getD, List.getElem?_drop, show i + 1 + (j - i - 1) = j by omega, List.getD_eq_getElem?_getD]
    have g2 : (b.drop (i + 1)).getD (j - i - 1) 0 = b.getD j 0 := by rw [List.getD_eq_getElem?_getD, List.getElem?_drop, show i + 1 + (j - i - 1) = j by omega, List.getD_eq_getElem?_getD]
    have t1 : b.take i = a.take i := take_same hl.symm (fun k hk => (h k (by omega) (by omega)).symm)
    have t2 : (b.drop (i + 1)).take (j - i - 1) = (a.drop (i + 1)).take (j - i - 1) := take_same (by simp [hl]) (fun k hk => by
     rw [List.getD_eq_getElem?_getD, List.getD_eq_getElem?_getD, List.getElem?_drop, List.getElem?_drop, ← List.getD_eq_getElem?_getD, ← List.getD_eq_getElem?_getD]
     exact (h _ (by omega) (by omega)).symm)
    have t3 : (b.drop (i + 1)).drop (j - i - 1 + 1) = (a.drop (i + 1)).drop (j - i - 1 + 1) := drop_same (by simp [hl]) (fun k hk => by
     rw [List.getD_eq_getElem?_getD, List.getD_eq_getElem?_getD, List.getElem?_drop, List.getElem?_drop, ← List.getD_eq_getElem?_getD, ← List.getD_eq_getElem?_getD]
     exact (h _ (by omega) (by omega)).symm)
    rw [d1, g1] at e1
    rw [d2, g2, t1, t2, t3] at e2
    rw [e1, e2] at hs
    exact sum_two _ _ _ _ _ _ _ (ha i) (ha j) (hb i) (hb j) (by simp only [List.length_take, List.length_drop]; omega) hs
   ·have e1 := at_one a hi
    have e2 := at_one b (show i < b.length by omega)
    have t1 : b.take i = a.take i := take_same hl.symm (fun k hk => (h k (by omega) (by omega)).symm)
    have t3 : b.drop (i + 1) = a.drop (i + 1) := drop_same hl.symm (fun k hk => by
     by_cases hkj : k = j
     ·subst hkj
      rw [List.getD_eq_getElem?_getD, List.getD_eq_getElem?_getD, List.getElem?_eq_none (by omega), List.getElem?_eq_none (by omega)]
     ·exact (h k (by omega) hkj).symm)
    rw [t1, t3] at e2
    rw [e1, e2] at hs
    refine ⟨sum_one _ _ _ _ (ha i) (hb i) hs, ?_⟩
    rw [List.getD_eq_getElem?_getD, List.getD_eq_getElem?_getD, List.getElem?_eq_none (by omega), List.getElem?_eq_none (by omega)]
  ·constructor <;> rw [List.getD_eq_getElem?_getD, List.getD_eq_getElem?_getD, List.getElem?_eq_none (by omega), List.getElem?_eq_none (by omega)]
 intro k
 by_cases h1 : k = i
 ·rw [h1]; exact key.1
 ·by_cases h2 : k = j
  ·rw [h2]; exact key.2
  ·exact h k h1 h2
theorem sum_two_bytes {t u : Bs} (hl : t.length = u.length) (h4 : t.length % 4 = 0) (hmx : t.length ≤ 4000) (hs : sumF t = sumF u) {p q : Nat} (hpq : p / 4 ≠ q / 4) (h : ∀ j, j ≠ p → j ≠ q → t.getD j 0 = u.getD j 0) : t = u := by
 rw [sumF_wordsQ h4, sumF_wordsQ (by omega)] at hs
 have hlt : ∀ (v : Bs) k, (wordsQ v).getD k 0 < 4294967296 := fun v k => by
  by_cases hk : k < v.length / 4
  ·rw [wordsQ_get v hk]; exact word4_lt v k
  ·rw [List.getD_eq_getElem?_getD, List.getElem?_eq_none (by rw [wordsQ_len]; omega)]
   show 0 < _
   omega
 have hw : ∀ k, k ≠ p / 4 → k ≠ q / 4 → (wordsQ t).getD k 0 = (wordsQ u).getD k 0 := fun k h1 h2 => by
  by_cases hk : k < t.length / 4
  ·rw [wordsQ_get t hk, wordsQ_get u (by omega)]
   exact word4_same hl (fun j h3 h5 => h j (fun e => h1 (by omega)) (fun e => h2 (by omega)))
  ·rw [List.getD_eq_getElem?_getD, List.getD_eq_getElem?_getD, List.getElem?_eq_none (by rw [wordsQ_len]; omega), List.getElem?_eq_none (by rw [wordsQ_len]; omega)]
 have hll : (wordsQ t).length = (wordsQ u).length := by rw [wordsQ_len, wordsQ_len, hl]
 have hn : (wordsQ t).length ≤ 1000 := by rw [wordsQ_len]; omega
 refine words_all hl h4 (fun k hk => ?_)
 have h9 : (wordsQ t).getD k 0 = (wordsQ u).getD k 0 := by
  rcases Nat.lt_or_gt_of_ne hpq with h1 | h1
  ·exact words_two hll hn (hlt t) (hlt u) hs h1 hw k
  ·exact words_two hll hn (hlt t) (hlt u) hs h1 (fun k a b => hw k b a) k
 rw [wordsQ_get t hk, wordsQ_get u (by omega)] at h9
 exact h9
end Go.Proofs.YtfaemcfjbbbbdaaGreat
