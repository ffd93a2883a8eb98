/- The walks of space's fit and Find. -/
import Derived.Test.YtmnhdpojonlfhaaSpT
import Derived.Deep.DrawnRows
import Derived.Deep.DeepCutAuto
namespace Go.Proofs.Ytmnhdpojonlfhaa
open Go.RowKit
attribute [local go_sem ↓] Go.wp_at_zero Go.wp_at_succ

/-- the slice l[i:], as the program cuts it -/
theorem cutR (ao : Option Addr) (n cap i : Nat) (rs : List (Nat × Nat)) (w : World) (h : RSl w 2 ao n cap (encR rs)) (hn : n = rs.length) (hi : i ≤ n) :
    ∃ (A3 : Option Addr) (n3 c3 : Nat), (∀ W : World, (Instr.slice 41 (.slice ao n cap) (some (.int .i64 i)) none none).run Try.prog W = .ok (.slice A3 n3 c3) W) ∧ RSl w 2 A3 n3 c3 (encR (rs.drop i)) ∧ n3 = (rs.drop i).length := by
  have hu : Try.prog.underlying 41 = some (.slice (Try.prog.elem 41)) := by kernel_rfl
  have hz : ∀ W : World, (sizeOf (Try.prog.elem 41)).run Try.prog W = .ok 2 W := fun W => by kernel_rfl
  have hrun : ∀ W : World, (Instr.slice 41 (.slice ao n cap) (some (.int .i64 i)) none none).run Try.prog W = .ok (sliced ao i n cap 2) W := fun W => by
    rw [run_slice_l (P := Try.prog) (w := W) (t := 41) (a := ao) (len := n) (cap := cap) (ht := hu) (kl := .i64) (l := (i : Int)) (h0 := by omega) (h1 := by omega), hz]
    rfl
  have hl : n - i = (rs.drop i).length := by rw [List.length_drop, hn]
  cases ao with
  | none =>
    have h0 : cap = 0 := h.2.2.2.1 rfl
    have hn0 : n = 0 := by have := h.2.1; omega
    have hi0 : i = 0 := by omega
    subst hi0
    refine ⟨none, n, cap, fun W => ?_, ?_, by omega⟩
    · rw [hrun]; subst h0; subst hn0; rfl
    · simpa using h
  | some ad =>
    by_cases hn0 : 0 < n
    · obtain ⟨b, off, e, hlt, hc⟩ := h.2.2.2.2 hn0
      simp only [Option.some.injEq] at e
      subst e
      have hd := h.dropAt hi
      rw [encR_drop] at hd
      refine ⟨_, n - i, cap - i, fun W => ?_, hd, hl⟩
      rw [hrun]
      unfold sliced
      rw [show (Option.map (fun x : Addr => x.add (i * 2)) (some ⟨b, off, none⟩)) = some ⟨b, off + i * 2, none⟩ from by
        simp only [Option.map_some, Option.some.injEq]
        unfold Addr.add
        split <;> simp_all]
    · have hn0' := hn0
      have hi0 : i = 0 := by omega
      subst hi0
      refine ⟨(if cap = 0 then some ad else some (ad.add 0)), n, cap, fun W => ?_, ?_, by omega⟩
      · rw [hrun]; rfl
      · refine ⟨h.1, h.2.1, h.2.2.1, fun e => ?_, fun hp => absurd hp hn0'⟩
        split at e <;> simp at e

set_option maxHeartbeats 3200000 in
set_option maxRecDepth 100000 in
theorem fit_any (mb size f : Nat) (rs : List (Nat × Nat)) (n : Int) (w : World) (h : IsMap w mb size rs) (hf : f ≤ size) :
    Calls Try.prog 78 #[.pointer (some ⟨mb, 0, none⟩), .int .i64 n, .int .i64 f] w fun e w' => e = .returned (.int .i64 (optI (fitS size rs n f))) ∧ Below w.heap.size w w' := by
  obtain ⟨h1, h2, h3, h4, v, hb, ho⟩ := h
  obtain ⟨ao, cap, rfl, hsl⟩ := RSl.of_owns ho
  have hile := firstOf_le rs f
  obtain ⟨i, hii⟩ : ∃ i, i = firstOf rs f := ⟨_, rfl⟩
  have hcap : rs.length ≤ cap := hsl.2.1
  have hcap2 : cap ≤ 9223372036854775807 := by have := hsl.2.2.1; unfold maxLen at this; exact this
  obtain ⟨A3, n3, c3, hA, hr3, hn3⟩ := cutR ao rs.length cap i rs w hsl rfl (hii ▸ hile)
  have HF := Lib.hid (first_any mb f ao cap rs size w.drew (((hb.below (Below.refl _ _).drew)).cell 1) (hsl.below (Below.refl _ _).drew) h1 h3 h4)
  rw [← hii] at HF hile
  have hfs : fitS size rs n f = fitGo size n (rs.drop i) f := by rw [fitS, ← hii]
  rw [hfs]
  have hc0 : w.cell? ⟨mb, 0, none⟩ = some (.int .i64 size) := hb.cell 0
  have hc1 : w.cell? ⟨mb, 1, none⟩ = some (.slice ao rs.length cap) := hb.cell 1
  have hlt := hb.lt
  have HR := Lib.hid hr3
  have HN3 := Lib.hid hn3
  have hdm : ∀ r ∈ rs.drop i, r.1 + r.2 ≤ size := fun r hr => (h3.1 r (List.mem_of_mem_drop hr)).2
  obtain ⟨D, hD⟩ : ∃ D, D = rs.drop i := ⟨_, rfl⟩
  rw [← hD] at HR HN3 hdm ⊢
  have HDM := Lib.hid hdm
  have hD6 : D.length ≤ 65536 := by rw [hD, List.length_drop]; omega
  have HB := Lib.hid hb
  clear hb ho hsl hii hfs hr3 hn3 hdm hD h3
  go_enter Try.func78, Try.ntmps78
  go_wp2_with fail
  go_region_held3 (fun w' => w'.cell? ⟨mb, 1, none⟩ = some (.slice ao rs.length cap)) (go_keep)
    (first
      | (go_at_call 72; refine HF.out.mono ?_; rintro e w1 ⟨rfl, hb1⟩; have hd1 := (hb1.cell (p := ⟨mb, 1, none⟩) hlt).trans hc1))
  have HRW := Lib.hid (HR.out.below (((Below.refl _ _).drew.trans hb1).mono (Nat.le_refl _)))
  have hs1 : w1.cell? ⟨mb, 0, none⟩ = some (.int .i64 size) := (((Below.refl _ _).drew.trans hb1).cell (p := ⟨mb, 0, none⟩) hlt).trans hc0
  have HB1 := Lib.hid ((Below.refl w.heap.size w).drew.trans hb1)
  clear hc0 hc1 hlt hb1 hd1 hA
  go_wp2_with fail
  have hDn := HN3.out
  go_loopw [7, 20] (fun t i wr => ∃ k q : Nat, k ≤ n3 ∧ i = .int .i64 k ∧ t = .int .i64 q ∧ q ≤ size ∧ fitGo size n (D.drop k) q = fitGo size n D f ∧ Below w1.heap.size w1 wr ∧ Below w.heap.size w wr) (fun _ i _ => n3 - (intOf i).toNat)
  case atStart => exact ⟨0, f, by omega, rfl, rfl, hf, rfl, Below.refl _ _, HB1.out⟩
  case round =>
    obtain ⟨k, q, hk, rfl, rfl, hq, hgo, hbel, hbel2⟩ := hrel
    by_cases hkn : k < n3
    · obtain ⟨b, off, rfl, hb, hc⟩ := HRW.out.2.2.2.2 (by omega)
      have hkD : k < D.length := by omega
      obtain ⟨r, hr⟩ : ∃ r, r = D.getD k (0, 0) := ⟨_, rfl⟩
      obtain ⟨x, y⟩ := r
      have c0 : wr.cell? ⟨b, off + k * 2, none⟩ = some (.int .i64 x) := by rw [hbel.cell (p := ⟨b, _, none⟩) hb, hc _ (by omega), (encR_get D k hkD).1, ← hr]
      have c1 : wr.cell? ⟨b, off + k * 2 + 1, none⟩ = some (.int .i64 y) := by rw [Nat.add_assoc, hbel.cell (p := ⟨b, _, none⟩) hb, hc _ (by omega), (encR_get D k hkD).2, ← hr]
      have hm : x + y ≤ size := HDM.out (x, y) (by rw [hr, List.getD_eq_getElem?_getD, List.getElem?_eq_getElem hkD]; exact List.getElem_mem _)
      have hdr : D.drop k = (x, y) :: D.drop (k + 1) := by
        rw [List.drop_eq_getElem_cons hkD, hr, List.getD_eq_getElem?_getD, List.getElem?_eq_getElem hkD]; rfl
      rw [hdr] at hgo
      have HGO := Lib.hid hgo
      have hw1 : IntKind.i64.wrap ((x : Int) - (q : Int)) = (x : Int) - (q : Int) := IntWalk.i64_in _ (by omega)
      have hw2 : IntKind.i64.wrap ((x : Int) + (y : Int)) = (x : Int) + (y : Int) := IntWalk.i64_in _ (by omega)
      clear hdr hgo hr hc
      by_cases hd : n ≤ (x : Int) - (q : Int)
      · go_wp2_with fail
        go_ret
        exact ⟨by rw [← HGO.out, fitGo, if_pos hd]; rfl, by first | exact hbel2.alloc hbel2.size _ | exact (hbel2.alloc hbel2.size _).drewN _⟩
      · go_wp2_with fail
        go_roundw
        case rel =>
          refine ⟨k + 1, max q (x + y), by omega, by go_num, ?_, by omega, by rw [← HGO.out, fitGo, if_neg hd], hbel.alloc hbel.size _, hbel2.alloc hbel2.size _⟩
          congr 1
          split <;> omega
        case measure => simp [intOf]; omega
    · have hkn' : k = n3 := by omega
      have hdr : D.drop k = [] := List.drop_eq_nil_of_le (by omega)
      rw [hdr] at hgo
      have HGO := Lib.hid hgo
      clear hdr hgo
      subst hkn'
      have hsr : wr.cell? ⟨mb, 0, none⟩ = some (.int .i64 size) := (hbel.cell (p := ⟨mb, 0, none⟩) (block_lt_of_cell hs1)).trans hs1
      have hw1 : IntKind.i64.wrap ((size : Int) - (q : Int)) = (size : Int) - (q : Int) := IntWalk.i64_in _ (by omega)
      by_cases hd : n ≤ (size : Int) - (q : Int)
      · go_wp2_with fail
        go_ret
        exact ⟨by rw [← HGO.out, fitGo, if_pos hd]; rfl, hbel2⟩
      · go_wp2_with fail
        go_ret
        exact ⟨by rw [← HGO.out, fitGo, if_neg (by omega)]; rfl, hbel2⟩

set_option maxHeartbeats 3200000 in
set_option maxRecDepth 100000 in
theorem find_any (mb size : Nat) (rs : List (Nat × Nat)) (n f : Int) (w : World) (h : IsMap w mb size rs) :
    Calls Try.prog 35 #[.pointer (some ⟨mb, 0, none⟩), .int .i64 n, .int .i64 f] w fun e w' => e = .returned (.tuple #[.int .i64 ((findS size rs n f).getD 0), .bool (findS size rs n f).isSome]) ∧ Below w.heap.size w w' := by
  have hc0 : w.cell? ⟨mb, 0, none⟩ = some (.int .i64 size) := by
    obtain ⟨_, _, _, _, v, hb, _⟩ := h
    exact hb.cell 0
  by_cases hno : 1 ≤ n ∧ 0 ≤ f ∧ f ≤ size
  · obtain ⟨g1, g2, g3⟩ := hno
    obtain ⟨q, rfl⟩ : ∃ q : Nat, f = q := ⟨f.toNat, by omega⟩
    have e : findS size rs n q = match fitS size rs n q with | some x => some x | none => fitS size rs n 0 := by
      rw [findS, if_pos ⟨g1, g2, g3⟩]; rfl
    rw [e]
    have H1 := Lib.hid fun W (hW : Below w.heap.size w W) => fit_any mb size q rs n W (h.below hW) (by omega)
    have H2 := Lib.hid fun W (hW : Below w.heap.size w W) => fit_any mb size 0 rs n W (h.below hW) (by omega)
    obtain ⟨o1, ho1⟩ : ∃ o, o = fitS size rs n q := ⟨_, rfl⟩
    obtain ⟨o2, ho2⟩ : ∃ o, o = fitS size rs n 0 := ⟨_, rfl⟩
    rw [← ho1, ← ho2]
    rw [← ho1] at H1
    rw [← ho2] at H2
    clear h e ho1 ho2
    have hlt := block_lt_of_cell hc0
    rcases o1 with _ | x1
    · have H1' := Lib.hid fun W hW => (show Calls _ _ _ _ fun e w' => e = .returned (.int .i64 (-1)) ∧ _ from H1.out W hW)
      clear H1
      rcases o2 with _ | x2
      · have H2' := Lib.hid fun W hW => (show Calls _ _ _ _ fun e w' => e = .returned (.int .i64 (-1)) ∧ _ from H2.out W hW)
        clear H2
        go_enter Try.func35, Try.ntmps35
        go_wp2_with fail
        refine wp_loop_rounds 3 ?_
        rw [rounds_succ]
        go_wp2_with fail
        refine (H1'.out _ ((Below.refl _ _).alloc (Nat.le_refl _) _)).mono ?_
        rintro e w1 ⟨rfl, hb1⟩
        have hc1 : w1.cell? ⟨mb, 0, none⟩ = some (.int .i64 size) := by rw [hb1.cell (p := ⟨mb, 0, none⟩) (by simp; omega), World.cell?_alloc_past _ _ _ hlt]; exact hc0
        have hcA : w1.cell? ⟨w.heap.size, 1, none⟩ = some (.int .i64 0) := by rw [hb1.cell (p := ⟨w.heap.size, 1, none⟩) (by simp), World.cell?_alloc_at _ _ _ _ rfl]; rfl
        have hB1 : Below w.heap.size w w1 := ((Below.refl _ _).alloc (Nat.le_refl _) _).trans (hb1.mono (by simp))
        clear hb1
        go_wp2_with fail
        rw [rounds_succ]
        go_wp2_with fail
        refine (H2'.out _ hB1).mono ?_
        rintro e w2 ⟨rfl, hb2⟩
        have hB2 : Below w.heap.size w w2 := hB1.trans (hb2.mono hB1.size)
        clear hb2
        go_wp2_with fail
        rw [rounds_succ]
        go_wp2_with fail
        go_ret2
        exact ⟨rfl, hB2⟩
      · have H2' := Lib.hid fun W hW => (show Calls _ _ _ _ fun e w' => e = .returned (.int .i64 x2) ∧ _ from H2.out W hW)
        clear H2
        go_enter Try.func35, Try.ntmps35
        go_wp2_with fail
        refine wp_loop_rounds 3 ?_
        rw [rounds_succ]
        go_wp2_with fail
        refine (H1'.out _ ((Below.refl _ _).alloc (Nat.le_refl _) _)).mono ?_
        rintro e w1 ⟨rfl, hb1⟩
        have hc1 : w1.cell? ⟨mb, 0, none⟩ = some (.int .i64 size) := by rw [hb1.cell (p := ⟨mb, 0, none⟩) (by simp; omega), World.cell?_alloc_past _ _ _ hlt]; exact hc0
        have hcA : w1.cell? ⟨w.heap.size, 1, none⟩ = some (.int .i64 0) := by rw [hb1.cell (p := ⟨w.heap.size, 1, none⟩) (by simp), World.cell?_alloc_at _ _ _ _ rfl]; rfl
        have hB1 : Below w.heap.size w w1 := ((Below.refl _ _).alloc (Nat.le_refl _) _).trans (hb1.mono (by simp))
        clear hb1
        go_wp2_with fail
        rw [rounds_succ]
        go_wp2_with fail
        refine (H2'.out _ hB1).mono ?_
        rintro e w2 ⟨rfl, hb2⟩
        have hB2 : Below w.heap.size w w2 := hB1.trans (hb2.mono hB1.size)
        clear hb2
        go_wp2_with fail
        go_ret2
        exact ⟨rfl, hB2⟩
    · have H1' := Lib.hid fun W hW => (show Calls _ _ _ _ fun e w' => e = .returned (.int .i64 x1) ∧ _ from H1.out W hW)
      clear H1 H2
      go_enter Try.func35, Try.ntmps35
      go_wp2_with fail
      refine wp_loop_rounds 3 ?_
      rw [rounds_succ]
      go_wp2_with fail
      refine (H1'.out _ ((Below.refl _ _).alloc (Nat.le_refl _) _)).mono ?_
      rintro e w1 ⟨rfl, hb1⟩
      have hB1 : Below w.heap.size w w1 := ((Below.refl _ _).alloc (Nat.le_refl _) _).trans (hb1.mono (by simp))
      clear hb1
      go_wp2_with fail
      go_ret2
      exact ⟨rfl, hB1⟩
  · have e : findS size rs n f = none := by rw [findS, if_neg hno]
    rw [e]
    clear h e
    go_enter Try.func35, Try.ntmps35
    go_wp2_with fail
    all_goals (go_ret2; exact ⟨rfl, Below.refl _ _⟩)
end Go.Proofs.Ytmnhdpojonlfhaa
