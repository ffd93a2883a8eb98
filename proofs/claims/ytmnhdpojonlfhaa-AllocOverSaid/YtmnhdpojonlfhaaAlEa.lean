/- The walk of a book's each, with Take and with Free; Mark and Drop. -/
import Derived.Test.YtmnhdpojonlfhaaPtR
import Derived.Test.YtmnhdpojonlfhaaAlS
namespace Go.Proofs.Ytmnhdpojonlfhaa
open Go.RowKit
set_option linter.unusedSimpArgs false
attribute [local go_sem ↓] Go.wp_at_zero Go.wp_at_succ

/-- what Mark and Drop do -/
def EachFn (w : World) (bb eb : Nat) (gs : Gs) (secs : Int) (ms : List MT) (es : List Nat) (r : Int × SN) (e : Ending) (w' : World) : Prop :=
  e = .returned (.int .i64 r.1) ∧ ∃ eb' ms', IsBook w' bb eb' gs secs ms' es ∧ st2 ms' = r.2 ∧ (∀ k, foot bb eb' ms' k → foot bb eb ms k ∨ w.heap.size ≤ k) ∧ Mod (foot bb eb ms) w w'
theorem plN_nat (g1 a1 g2 a2 : Nat) (two : Bool) (sz lv bi s0 s1 s2 s3 : Int) : plN ⟨(g1 : Nat), (a1 : Nat), (g2 : Nat), (a2 : Nat), two, sz, lv, bi, s0, s1, s2, s3⟩ = if two = true then [(g1, a1), (g2, a2)] else [(g1, a1)] := by cases two <;> simp [plN]
theorem ptr_cells {w : World} {g e : Nat} {p0 p1 p2 p3 : Int} {p4 : Bool} {p5 p6 p7 p8 p9 p10 p11 : Int} (h : Blk w g e (encPtr ⟨p0, p1, p2, p3, p4, p5, p6, p7, p8, p9, p10, p11⟩)) : w.cell? ⟨g, 0, none⟩ = some (.int .i64 p0) ∧ w.cell? ⟨g, 1, none⟩ = some (.int .i64 p1) ∧ w.cell? ⟨g, 2, none⟩ = some (.int .i64 p2) ∧ w.cell? ⟨g, 3, none⟩ = some (.int .i64 p3) ∧ w.cell? ⟨g, 4, none⟩ = some (.bool p4) ∧ w.cell? ⟨g, 5, none⟩ = some (.int .i64 p5) ∧ w.cell? ⟨g, 6, none⟩ = some (.int .i64 p6) ∧ w.cell? ⟨g, 7, none⟩ = some (.int .i64 p7) ∧ w.cell? ⟨g, 8, none⟩ = some (.int .u64 p8) ∧ w.cell? ⟨g, 9, none⟩ = some (.int .u64 p9) ∧ w.cell? ⟨g, 10, none⟩ = some (.int .u64 p10) ∧ w.cell? ⟨g, 11, none⟩ = some (.int .u64 p11) :=
  ⟨h.cell 0, h.cell 1, h.cell 2, h.cell 3, h.cell 4, h.cell 5, h.cell 6, h.cell 7, h.cell 8, h.cell 9, h.cell 10, h.cell 11⟩
theorem IsMap.blk {w : World} {mb size : Nat} {rs : List (Nat × Nat)} (h : IsMap w mb size rs) : ∃ cs, Blk w mb 120 cs := by
  obtain ⟨_, _, _, _, v, h5, _⟩ := h
  exact ⟨_, h5⟩
theorem places_pl (g1 a1 g2 a2 : Nat) (two : Bool) (sz lv bi s0 s1 s2 s3 : Int) (hb : 1 ≤ bi) (W : World) :
    Calls Try.prog 117 #[.agg #[.int .i64 (g1 : Nat), .int .i64 (a1 : Nat), .int .i64 (g2 : Nat), .int .i64 (a2 : Nat), .bool two, .int .i64 sz, .int .i64 lv, .int .i64 bi, .int .u64 s0, .int .u64 s1, .int .u64 s2, .int .u64 s3]] W fun e w' =>
      ∃ g, e = .returned (.slice (some ⟨g, 0, none⟩) (plN ⟨(g1 : Nat), (a1 : Nat), (g2 : Nat), (a2 : Nat), two, sz, lv, bi, s0, s1, s2, s3⟩).length (plN ⟨(g1 : Nat), (a1 : Nat), (g2 : Nat), (a2 : Nat), two, sz, lv, bi, s0, s1, s2, s3⟩).length) ∧ W.heap.size ≤ g ∧
        Blk w' g 63 (encR (plN ⟨(g1 : Nat), (a1 : Nat), (g2 : Nat), (a2 : Nat), two, sz, lv, bi, s0, s1, s2, s3⟩)) ∧ Below W.heap.size W w' := by
  refine (places_any ⟨(g1 : Nat), (a1 : Nat), (g2 : Nat), (a2 : Nat), two, sz, lv, bi, s0, s1, s2, s3⟩ hb W).mono ?_
  rintro e w' ⟨g, he, hg, hbk, hbe⟩
  rw [he.out]
  refine ⟨g, ?_, hg, ?_, hbe⟩
  · rw [plN_nat]; cases two <;> rfl
  · rw [plN_nat]; cases two <;> exact hbk
theorem st2_set {ms : List MT} {i mb sz : Nat} {rs rs' : List (Nat × Nat)} (_hi : i < ms.length) (hm : ms.getD i mD = (mb, sz, rs)) : st2 (ms.set i (mb, sz, rs')) = setG (st2 ms) i rs' := by
  unfold setG
  rw [st2_get, hm]
  simp [st2, List.map_set]
theorem getD_mem_pl {pl : List (Nat × Nat)} {k : Nat} (h : k < pl.length) : pl.getD k (0, 0) ∈ pl := by rw [List.getD_eq_getElem?_getD, List.getElem?_eq_getElem h]; exact List.getElem_mem _
theorem drop_getD {pl : List (Nat × Nat)} {k : Nat} (h : k < pl.length) : pl.drop k = pl.getD k (0, 0) :: pl.drop (k + 1) := by
  rw [List.getD_eq_getElem?_getD, List.getElem?_eq_getElem h]
  exact List.drop_eq_getElem_cons h
theorem blk_ne {w : World} {g k e e2 : Nat} {cs cs2 : List Value} (h : Blk w g e cs) (h2 : Blk w k e2 cs2) (hne : e ≠ e2) : g ≠ k := by
  rintro rfl
  unfold Blk at h h2
  rw [h] at h2
  simp only [Option.some.injEq, Obj.cells.injEq] at h2
  exact hne h2.2.1
theorem owns_blk_ne {w : World} {base g k e e2 size n cap : Nat} {xs cs2 : List Value} (h : w.ownsRow base e size (.slice (some ⟨g, 0, none⟩) n cap) n xs) (h2 : Blk w k e2 cs2) (hne : e ≠ e2) : g ≠ k := by
  obtain ⟨cs, hb, _⟩ := owns_blk h
  exact blk_ne hb h2 hne
/-- what stays where one map is written -/
theorem tyOk_map {w : World} {mb : Nat} {cs : List Value} (h : Blk w mb 120 cs) : TyOk w (fun k => k = mb) := fun k hk _ => by
  subst hk
  exact ⟨_, _, h, .inr (.inl rfl)⟩
theorem pl_ok {gs : Gs} {secs : Int} {g1 a1 g2 a2 : Nat} {two : Bool} {sz lv bi s0 s1 s2 s3 : Int} (h : ptrRight gs secs ⟨(g1 : Nat), (a1 : Nat), (g2 : Nat), (a2 : Nat), two, sz, lv, bi, s0, s1, s2, s3⟩ = true) : ∀ x ∈ plN ⟨(g1 : Nat), (a1 : Nat), (g2 : Nat), (a2 : Nat), two, sz, lv, bi, s0, s1, s2, s3⟩, x.1 < gs.length ∧ x.2 ≤ 32768 := by
  obtain ⟨h1, h2, _, _⟩ := ptrRight_may h
  have m1 := mayC_spec h1
  dsimp only at h1 h2 m1
  intro x hx
  rw [plN_nat] at hx
  cases two
  · simp only [if_neg (show ¬ (false = true) by decide), List.mem_singleton] at hx
    subst hx
    dsimp only
    omega
  · have m2 := mayC_spec (h2 rfl).1
    simp only [if_true, List.mem_cons, List.not_mem_nil, or_false] at hx
    rcases hx with rfl | rfl <;> dsimp only <;> omega

theorem callFunc_take (args : Array Value) (W : World) : (callFunc 29 args).run Try.prog W = .ok (.enter 29 args) W := by kernel_rfl
set_option maxRecDepth 100000 in
set_option maxHeartbeats 6400000 in
theorem each_take (bb eb : Nat) (gs : Gs) (secs : Int) (ms : List MT) (es : List Nat) (p : PtrT) (w : World) (h : IsBook w bb eb gs secs ms es) (hp : p.ok) :
    Calls Try.prog 98 #[.pointer (some ⟨bb, 0, none⟩), .agg (encPtr p).toArray, .func (.func 29) #[] #[]] w (EachFn w bb eb gs secs ms es (eachA takeS gs secs (st2 ms) p)) := by
  have hcf := callFunc_take
  have hr0 := rightB_spec h.right
  obtain ⟨w0, hw0⟩ : ∃ w0, w0 = w.alloc (.cells (encPtr p).toArray 68) := ⟨_, rfl⟩
  have hA0 : Below w.heap.size w w0 := by rw [hw0]; exact (Below.refl _ _).alloc (Nat.le_refl _) _
  have hP0 : Blk w0 w.heap.size 68 (encPtr p) := by rw [hw0]; exact Blk.new w _ _
  have hb0 := h.below hA0
  obtain ⟨gb, gc, mv, mc, ec, b0, b1, b2, b3, hgsl, hmaps, _, hmvl, hebl, hbbl⟩ := hb0.parts
  have HRI := Lib.hid (pright_any (some ⟨gb, 0, none⟩) gs.length gc gs secs p w0.drew (hgsl.below (Below.refl _ _).drew) hp)
  have HA0 := Lib.hid hA0
  have HB0 := Lib.hid hb0
  have HH := Lib.hid h
  have HPO := Lib.hid hp
  have HLT := Lib.hid h.lt
  cases hright : ptrRight gs secs p
  · have HEA : Hid (eachA takeS gs secs (st2 ms) p = (1, st2 ms)) := Lib.hid (by unfold eachA; rw [hright]; rfl)
    rw [hright] at HRI
    rw [HEA.out]
    obtain ⟨ag, aa, bg, ba, two, sz, lv, bi, s0, s1, s2, s3⟩ := p
    obtain ⟨c0, c1, c2, c3, c4, c5, c6, c7, c8, c9, c10, c11⟩ := ptr_cells hP0
    clear hA0 hP0 hb0 h hp hright hgsl hmaps hcf
    show Calls _ _ #[.pointer (some ⟨bb, 0, none⟩), .agg #[.int .i64 ag, .int .i64 aa, .int .i64 bg, .int .i64 ba, .bool two, .int .i64 sz, .int .i64 lv, .int .i64 bi, .int .u64 s0, .int .u64 s1, .int .u64 s2, .int .u64 s3], .func (.func 29) #[] #[]] _ _
    go_enter Try.func98, Try.ntmps98
    go_wp2_with fail
    have hw0' : w0 = w.alloc (.cells #[.int .i64 ag, .int .i64 aa, .int .i64 bg, .int .i64 ba, .bool two, .int .i64 sz, .int .i64 lv, .int .i64 bi, .int .u64 s0, .int .u64 s1, .int .u64 s2, .int .u64 s3] 68) := hw0
    rw [← hw0']
    clear hw0 hw0'
    go_region_held3 (fun w' => w'.cell? ⟨bb, 0, none⟩ = some (.slice (some ⟨gb, 0, none⟩) gs.length gc) ∧ w'.cell? ⟨bb, 1, none⟩ = some (.int .i64 secs) ∧ w'.cell? ⟨w.heap.size, 0, none⟩ = some (.int .i64 ag) ∧ w'.cell? ⟨w.heap.size, 1, none⟩ = some (.int .i64 aa) ∧ w'.cell? ⟨w.heap.size, 2, none⟩ = some (.int .i64 bg) ∧ w'.cell? ⟨w.heap.size, 3, none⟩ = some (.int .i64 ba) ∧ w'.cell? ⟨w.heap.size, 4, none⟩ = some (.bool two) ∧ w'.cell? ⟨w.heap.size, 5, none⟩ = some (.int .i64 sz) ∧ w'.cell? ⟨w.heap.size, 6, none⟩ = some (.int .i64 lv) ∧ w'.cell? ⟨w.heap.size, 7, none⟩ = some (.int .i64 bi) ∧ w'.cell? ⟨w.heap.size, 8, none⟩ = some (.int .u64 s0) ∧ w'.cell? ⟨w.heap.size, 9, none⟩ = some (.int .u64 s1) ∧ w'.cell? ⟨w.heap.size, 10, none⟩ = some (.int .u64 s2) ∧ w'.cell? ⟨w.heap.size, 11, none⟩ = some (.int .u64 s3)) (go_keep)
      (first | (go_at_call 63; refine HRI.out.mono ?_; rintro e w5 ⟨rfl, hb5⟩; have HB5 := Lib.hid ((Below.refl w0.heap.size w0).drew.trans hb5); have hq5 : ∀ a u, w0.cell? a = some u → w5.cell? a = some u := fun a u hu => (HB5.out.cell (World.block_lt_of_cell? w0 a hu)).trans hu; have HQ5 := Lib.hid hq5; have t0 := hq5 _ _ c0; have t1 := hq5 _ _ c1; have t2 := hq5 _ _ c2; have t3 := hq5 _ _ c3; have t4 := hq5 _ _ c4; have t5 := hq5 _ _ c5; have t6 := hq5 _ _ c6; have t7 := hq5 _ _ c7; have t8 := hq5 _ _ c8; have t9 := hq5 _ _ c9; have t10 := hq5 _ _ c10; have t11 := hq5 _ _ c11; have u0 := hq5 _ _ b0; have u1 := hq5 _ _ b1; clear hq5 hb5))
    go_wp2_with fail
    go_ret
    exact ⟨rfl, eb, ms, HB0.out.below HB5.out, rfl, fun k hk => .inl hk, Mod.below (HA0.out.trans (HB5.out.mono HA0.out.size))⟩
  · have hm := ptrRight_may hright
    have mA := mayC_spec hm.1
    obtain ⟨ag, aa, bg, ba, two, sz, lv, bi, s0, s1, s2, s3⟩ := p
    dsimp only at hm mA
    obtain ⟨g1, rfl⟩ : ∃ x : Nat, ag = x := ⟨ag.toNat, by omega⟩
    obtain ⟨a1, rfl⟩ : ∃ x : Nat, aa = x := ⟨aa.toNat, by omega⟩
    obtain ⟨size, rfl⟩ : ∃ x : Nat, sz = x := ⟨sz.toNat, by omega⟩
    have hB : 0 ≤ bg ∧ 0 ≤ ba := by
      cases two
      · have := hm.2.2.1 rfl; omega
      · have m2 := mayC_spec (hm.2.1 rfl).1; omega
    obtain ⟨g2, rfl⟩ : ∃ x : Nat, bg = x := ⟨bg.toNat, by omega⟩
    obtain ⟨a2, rfl⟩ : ∃ x : Nat, ba = x := ⟨ba.toNat, by omega⟩
    have HPL := Lib.hid (fun W => places_pl g1 a1 g2 a2 two (size : Nat) lv bi s0 s1 s2 s3 hm.2.2.2.2.2.1 W)
    have hok := pl_ok hright
    have HEA := Lib.hid (show eachA takeS gs secs (st2 ms) ⟨(g1 : Nat), (a1 : Nat), (g2 : Nat), (a2 : Nat), two, (size : Nat), lv, bi, s0, s1, s2, s3⟩ = if (eachGo takeS gs secs (size : Nat) (plN ⟨(g1 : Nat), (a1 : Nat), (g2 : Nat), (a2 : Nat), two, (size : Nat), lv, bi, s0, s1, s2, s3⟩) (st2 ms)).1 = 0 then eachGo takeS gs secs (size : Nat) (plN ⟨(g1 : Nat), (a1 : Nat), (g2 : Nat), (a2 : Nat), two, (size : Nat), lv, bi, s0, s1, s2, s3⟩) (st2 ms) else ((eachGo takeS gs secs (size : Nat) (plN ⟨(g1 : Nat), (a1 : Nat), (g2 : Nat), (a2 : Nat), two, (size : Nat), lv, bi, s0, s1, s2, s3⟩) (st2 ms)).1, st2 ms) from by unfold eachA; rw [if_pos hright])
    have hpl2 : (plN ⟨(g1 : Nat), (a1 : Nat), (g2 : Nat), (a2 : Nat), two, (size : Nat), lv, bi, s0, s1, s2, s3⟩).length ≤ 2 := by rw [plN_nat]; cases two <;> simp
    obtain ⟨pl, hpl⟩ : ∃ l, l = plN ⟨(g1 : Nat), (a1 : Nat), (g2 : Nat), (a2 : Nat), two, (size : Nat), lv, bi, s0, s1, s2, s3⟩ := ⟨_, rfl⟩
    rw [← hpl] at HPL hok HEA hpl2
    rw [hright] at HRI
    obtain ⟨c0, c1, c2, c3, c4, c5, c6, c7, c8, c9, c10, c11⟩ := ptr_cells hP0
    have HP0 := Lib.hid hP0
    have HOK := Lib.hid hok
    have HR0 := Lib.hid hr0
    clear hA0 hP0 hb0 h hp hright hgsl hmaps hcf hm mA hB hok hpl hr0
    have hcf := callFunc_take
    show Calls _ _ #[.pointer (some ⟨bb, 0, none⟩), .agg #[.int .i64 (g1 : Nat), .int .i64 (a1 : Nat), .int .i64 (g2 : Nat), .int .i64 (a2 : Nat), .bool two, .int .i64 (size : Nat), .int .i64 lv, .int .i64 bi, .int .u64 s0, .int .u64 s1, .int .u64 s2, .int .u64 s3], .func (.func 29) #[] #[]] _ _
    go_enter Try.func98, Try.ntmps98
    go_wp2_with fail
    have hw0' : w0 = w.alloc (.cells #[.int .i64 (g1 : Nat), .int .i64 (a1 : Nat), .int .i64 (g2 : Nat), .int .i64 (a2 : Nat), .bool two, .int .i64 (size : Nat), .int .i64 lv, .int .i64 bi, .int .u64 s0, .int .u64 s1, .int .u64 s2, .int .u64 s3] 68) := hw0
    rw [← hw0']
    clear hw0 hw0'
    go_region_held3 (fun w' => w'.cell? ⟨bb, 0, none⟩ = some (.slice (some ⟨gb, 0, none⟩) gs.length gc) ∧ w'.cell? ⟨bb, 1, none⟩ = some (.int .i64 secs) ∧ w'.cell? ⟨w.heap.size, 0, none⟩ = some (.int .i64 (g1 : Nat)) ∧ w'.cell? ⟨w.heap.size, 1, none⟩ = some (.int .i64 (a1 : Nat)) ∧ w'.cell? ⟨w.heap.size, 2, none⟩ = some (.int .i64 (g2 : Nat)) ∧ w'.cell? ⟨w.heap.size, 3, none⟩ = some (.int .i64 (a2 : Nat)) ∧ w'.cell? ⟨w.heap.size, 4, none⟩ = some (.bool two) ∧ w'.cell? ⟨w.heap.size, 5, none⟩ = some (.int .i64 (size : Nat)) ∧ w'.cell? ⟨w.heap.size, 6, none⟩ = some (.int .i64 lv) ∧ w'.cell? ⟨w.heap.size, 7, none⟩ = some (.int .i64 bi) ∧ w'.cell? ⟨w.heap.size, 8, none⟩ = some (.int .u64 s0) ∧ w'.cell? ⟨w.heap.size, 9, none⟩ = some (.int .u64 s1) ∧ w'.cell? ⟨w.heap.size, 10, none⟩ = some (.int .u64 s2) ∧ w'.cell? ⟨w.heap.size, 11, none⟩ = some (.int .u64 s3)) (go_keep)
      (first | (go_at_call 63; refine HRI.out.mono ?_; rintro e w5 ⟨rfl, hb5⟩; have HB5 := Lib.hid ((Below.refl w0.heap.size w0).drew.trans hb5); have hq5 : ∀ a u, w0.cell? a = some u → w5.cell? a = some u := fun a u hu => (HB5.out.cell (World.block_lt_of_cell? w0 a hu)).trans hu; have HQ5 := Lib.hid hq5; have t0 := hq5 _ _ c0; have t1 := hq5 _ _ c1; have t2 := hq5 _ _ c2; have t3 := hq5 _ _ c3; have t4 := hq5 _ _ c4; have t5 := hq5 _ _ c5; have t6 := hq5 _ _ c6; have t7 := hq5 _ _ c7; have t8 := hq5 _ _ c8; have t9 := hq5 _ _ c9; have t10 := hq5 _ _ c10; have t11 := hq5 _ _ c11; have u0 := hq5 _ _ b0; have u1 := hq5 _ _ b1; clear hq5 hb5))
    clear HQ5 u0 u1 c0 c1 c2 c3 c4 c5 c6 c7 c8 c9 c10 c11 b0 b1 b2 b3
    have HBK5 := Lib.hid (HB0.out.below HB5.out)
    have HA5 := Lib.hid (HA0.out.trans (HB5.out.mono HA0.out.size))
    have HP5 := Lib.hid (HP0.out.below HB5.out)
    have HCP := Lib.hid (acopy_any bb eb gs secs ms es w5 HBK5.out)
    go_wp2_with fail
    refine HCP.out.mono ?_
    rintro e w6 ⟨cb, ce, bs, rfl, hbl, hbc, hfc, hb6⟩
    have HBC := Lib.hid hbc
    have hfc2 : ∀ k, foot cb ce (cpM ms bs) k → w.heap.size ≤ k := fun k hk => by have h1 := hfc k hk; have h2 := HA5.out.size; omega
    have HFC := Lib.hid hfc2
    have HA6 := Lib.hid (HA5.out.trans (hb6.mono HA5.out.size))
    have HBK6 := Lib.hid (HBK5.out.below hb6)
    have HP6 := Lib.hid (HP5.out.below hb6)
    obtain ⟨c0, c1, c2, c3, c4, c5, c6, c7, c8, c9, c10, c11⟩ := ptr_cells HP6.out
    clear hbc hfc hb6 hfc2 hbl t0 t1 t2 t3 t4 t5 t6 t7 t8 t9 t10 t11
    go_wp2_with fail
    refine (HPL.out _).mono ?_
    rintro e w7 ⟨gp, rfl, hgp, hbp, hb7⟩
    have HA7 := Lib.hid (HA6.out.trans (hb7.mono HA6.out.size))
    have HBK7 := Lib.hid (HBK6.out.below hb7)
    have HBC7 := Lib.hid (HBC.out.below hb7)
    have HP7 := Lib.hid (HP6.out.below hb7)
    have HBP := Lib.hid hbp
    have HM7 := Lib.hid (Mod.below (F := foot bb eb ms) HA7.out)
    clear hbp hb7 c0 c1 c2 c3 c4 c5 c6 c7 c8 c9 c10 c11 hgp
    go_wp2_with fail
    go_loopw [27] (fun i wr => ∃ (k : Nat) (mk : List MT), k ≤ pl.length ∧ i = .int .i64 (k : Nat) ∧ Hid (IsBook wr bb eb gs secs mk es) ∧ Hid (mk.map (·.1) = ms.map (·.1)) ∧ Hid (eachGo takeS gs secs (size : Nat) pl (st2 ms) = eachGo takeS gs secs (size : Nat) (pl.drop k) (st2 mk)) ∧ Hid (IsBook wr cb ce gs secs (cpM ms bs) es) ∧ Hid (Blk wr gp 63 (encR pl)) ∧ Hid (Blk wr w.heap.size 68 (encPtr ⟨(g1 : Nat), (a1 : Nat), (g2 : Nat), (a2 : Nat), two, (size : Nat), lv, bi, s0, s1, s2, s3⟩)) ∧ Hid (Mod (foot bb eb ms) w wr)) (fun i _ => pl.length - (intOf i).toNat)
    case atStart => exact ⟨0, ms, by omega, rfl, HBK7, Lib.hid rfl, Lib.hid (by rw [List.drop_zero]), HBC7, HBP, HP7, HM7⟩
    case round =>
      obtain ⟨k, mk, hk, rfl, hbk, hfst, hgo, hbc, hbp, hpb, hmod⟩ := hrel
      clear HBK7 HBC7 HBP HP7 HM7 HA7 HA6 HA5 HBK5 HBK6 HBC HP5 HP6 HP0 HCP HPL HRI
      by_cases hkn : k < pl.length
      · obtain ⟨x, hx⟩ : ∃ x, x = pl.getD k (0, 0) := ⟨_, rfl⟩
        have hxm : x ∈ pl := by rw [hx]; exact getD_mem_pl hkn
        obtain ⟨hx1, hx2⟩ := HOK.out x hxm
        have hdr := drop_getD hkn
        have hen := encR_get pl k hkn
        rw [← hx] at hdr hen
        obtain ⟨x1, x2⟩ := x
        dsimp only at hx1 hx2 hen
        have p0 : wr.cell? ⟨gp, k * 2, none⟩ = some (.int .i64 (x1 : Nat)) := (hbp.out.cell _).trans hen.1
        have p1 : wr.cell? ⟨gp, k * 2 + 1, none⟩ = some (.int .i64 (x2 : Nat)) := (hbp.out.cell _).trans hen.2
        obtain ⟨m, hm⟩ : ∃ m, m = mk.getD x1 mD := ⟨_, rfl⟩
        have hma := hbk.out.map_at hx1
        have hsm : ∀ {W W'} {rs'}, IsBook W bb eb gs secs mk es → W.grownBy W' (some (mk.getD x1 mD).1) → IsMap W' (mk.getD x1 mD).1 (mk.getD x1 mD).2.1 rs' → IsBook W' bb eb gs secs (mk.set x1 ((mk.getD x1 mD).1, (mk.getD x1 mD).2.1, rs')) es := fun hb hg hm => hb.setMap hx1 hg hm
        have hfm := hbk.out.footMap hx1
        have hsf := fun r => set_map_fst mk x1 r
        rw [← hm] at hma hsm hfm hsf
        obtain ⟨mb, sz, rs⟩ := m
        dsimp only at hma hsm hfm hsf
        obtain ⟨mcs, hmblk⟩ := hma.blk
        obtain ⟨gb2, gc2, mv2, mc2, ec2, b0, b1, b2, b3, hgsl, hmaps, _, hmvl, _, hbbl⟩ := hbk.out.parts
        have b4 := hmaps x1 hx1
        rw [← hm] at b4
        dsimp only at b4
        have hne1 : bb ≠ mb := by obtain ⟨gv, mv, ec, h1, _⟩ := hbk.out.mem; exact blk_ne h1 hmblk (by decide)
        have hne2 : mv2 ≠ mb := by
          obtain ⟨gv, mv, ec, h1, _, h3, _⟩ := hbk.out.mem
          have e2 := h1.cell 2
          rw [b2] at e2
          simp only [List.getElem?_cons_zero, List.getElem?_cons_succ, Option.some.injEq] at e2
          subst e2
          exact owns_blk_ne h3 hmblk (by decide)
        have hne3 : w.heap.size ≠ mb := blk_ne hpb.out hmblk (by decide)
        have hmbl : mb < wr.heap.size := hmblk.lt
        obtain ⟨t, ht⟩ : ∃ t, t = takesI gs secs (x1 : Nat) (size : Nat) := ⟨_, rfl⟩
        obtain ⟨W1, hW1⟩ : ∃ W1, W1 = wr.alloc (.cells #[.int .i64 (x1 : Nat), .int .i64 (x2 : Nat)] 63) := ⟨_, rfl⟩
        have hB1 : Below wr.heap.size wr W1 := by rw [hW1]; exact (Below.refl _ _).alloc (Nat.le_refl _) _
        have hX1 : Blk W1 wr.heap.size 63 [.int .i64 (x1 : Nat), .int .i64 (x2 : Nat)] := by rw [hW1]; exact Blk.new wr _ _
        have hTK := gtakes_any (some ⟨gb2, 0, none⟩) gs.length gc2 gs secs (x1 : Nat) (size : Nat) W1.drew ((hgsl.below hB1).below (Below.refl _ _).drew)
        rw [← ht] at hTK
        have hstep : eachGo takeS gs secs (size : Nat) pl (st2 ms) = if (takeS sz rs (x2 : Nat) t).1 = 0 then eachGo takeS gs secs (size : Nat) (pl.drop (k + 1)) (st2 (mk.set x1 (mb, sz, (takeS sz rs (x2 : Nat) t).2))) else ((takeS sz rs (x2 : Nat) t).1, st2 mk) := by
          rw [hgo.out, hdr, eachGo]
          dsimp only
          rw [st2_get, ← hm, ← ht, st2_set (by rw [hbk.out.mlen]; exact hx1) hm.symm]
        have hOP : ∀ W, Below W1.heap.size W1 W → Calls Try.prog 29 #[.pointer (some ⟨mb, 0, none⟩), .int .i64 (x2 : Nat), .int .i64 t] W fun e w' => e = .returned (.int .i64 (takeS sz rs (x2 : Nat) t).1) ∧ IsMap w' mb sz (takeS sz rs (x2 : Nat) t).2 ∧ W.grownBy w' (some mb) := fun W hW => take_any mb sz rs (x2 : Nat) t W ((hma.below hB1).below hW)
        have hcellsW : ∀ W, Below W1.heap.size W1 W → W.cell? ⟨bb, 0, none⟩ = some (.slice (some ⟨gb2, 0, none⟩) gs.length gc2) ∧ W.cell? ⟨bb, 1, none⟩ = some (.int .i64 secs) ∧ W.cell? ⟨bb, 2, none⟩ = some (.slice (some ⟨mv2, 0, none⟩) gs.length mc2) ∧ W.cell? ⟨mv2, x1, none⟩ = some (.pointer (some ⟨mb, 0, none⟩)) ∧ W.cell? ⟨wr.heap.size, 0, none⟩ = some (.int .i64 (x1 : Nat)) ∧ W.cell? ⟨wr.heap.size, 1, none⟩ = some (.int .i64 (x2 : Nat)) ∧ W.cell? ⟨w.heap.size, 5, none⟩ = some (.int .i64 (size : Nat)) := fun W hW => by
          have hB := hB1.trans (hW.mono hB1.size)
          exact ⟨(hB.cell (p := ⟨bb, 0, none⟩) hbbl).trans b0, (hB.cell (p := ⟨bb, 1, none⟩) hbbl).trans b1, (hB.cell (p := ⟨bb, 2, none⟩) hbbl).trans b2, (hB.cell (p := ⟨mv2, x1, none⟩) hmvl).trans b4, (hX1.below hW).cell 0, (hX1.below hW).cell 1, ((hpb.out.below hB).cell 5)⟩
        have hcellsG : ∀ W W', Below W1.heap.size W1 W → W.grownBy W' (some mb) → W'.cell? ⟨bb, 0, none⟩ = some (.slice (some ⟨gb2, 0, none⟩) gs.length gc2) ∧ W'.cell? ⟨bb, 1, none⟩ = some (.int .i64 secs) ∧ W'.cell? ⟨bb, 2, none⟩ = some (.slice (some ⟨mv2, 0, none⟩) gs.length mc2) ∧ W'.cell? ⟨mv2, x1, none⟩ = some (.pointer (some ⟨mb, 0, none⟩)) ∧ W'.cell? ⟨wr.heap.size, 0, none⟩ = some (.int .i64 (x1 : Nat)) ∧ W'.cell? ⟨wr.heap.size, 1, none⟩ = some (.int .i64 (x2 : Nat)) ∧ W'.cell? ⟨w.heap.size, 5, none⟩ = some (.int .i64 (size : Nat)) := fun W W' hW hg => by
          obtain ⟨k0, k1, k2, k3, k4, k5, k6⟩ := hcellsW W hW
          have far : ∀ a u, W.cell? a = some u → a.block ≠ mb → W'.cell? a = some u := fun a u hu hne => (hg.cell_far a (World.block_lt_of_cell? W a hu) (fun e => hne (Option.some.inj e))).trans hu
          exact ⟨far _ _ k0 hne1, far _ _ k1 hne1, far _ _ k2 hne1, far _ _ k3 hne2, far _ _ k4 (by show wr.heap.size ≠ mb; omega), far _ _ k5 (by show wr.heap.size ≠ mb; omega), far _ _ k6 hne3⟩
        obtain ⟨r0, r1, r2, r3, r4, r5, r6⟩ := hcellsW W1 (Below.refl _ _)
        have HTK := Lib.hid hTK
        have HOP := Lib.hid hOP
        have HCW := Lib.hid hcellsW
        have HCG := Lib.hid hcellsG
        have HSTEP := Lib.hid hstep
        have HSM : Hid (∀ W W' rs', IsBook W bb eb gs secs mk es → W.grownBy W' (some mb) → IsMap W' mb sz rs' → IsBook W' bb eb gs secs (mk.set x1 (mb, sz, rs')) es) := Lib.hid (fun W W' rs' => hsm)
        have HFM := Lib.hid hfm
        have HSF := Lib.hid hsf
        have HB1 := Lib.hid hB1
        have HMB := Lib.hid hmblk
        clear hTK hOP hcellsW hcellsG hstep hsm hfm hsf hB1 hX1 hma hmaps hgsl b0 b1 b2 b3 b4 hx hxm hdr hen hm ht hmblk
        obtain ⟨r, hr⟩ : ∃ r, r = (takeS sz rs (x2 : Nat) t).1 := ⟨_, rfl⟩
        obtain ⟨rs', hrs'⟩ : ∃ r, r = (takeS sz rs (x2 : Nat) t).2 := ⟨_, rfl⟩
        rw [← hr, ← hrs'] at HOP HSTEP
        clear hr hrs'
        by_cases hr0 : r = 0
        · subst hr0
          rw [if_pos rfl] at HSTEP
          go_wp2_with fail
          rw [← hW1]
          clear hW1 p0 p1
          go_region_held3 (fun w' => w'.cell? ⟨bb, 0, none⟩ = some (.slice (some ⟨gb2, 0, none⟩) gs.length gc2) ∧ w'.cell? ⟨bb, 1, none⟩ = some (.int .i64 secs) ∧ w'.cell? ⟨bb, 2, none⟩ = some (.slice (some ⟨mv2, 0, none⟩) gs.length mc2) ∧ w'.cell? ⟨mv2, x1, none⟩ = some (.pointer (some ⟨mb, 0, none⟩)) ∧ w'.cell? ⟨wr.heap.size, 0, none⟩ = some (.int .i64 (x1 : Nat)) ∧ w'.cell? ⟨wr.heap.size, 1, none⟩ = some (.int .i64 (x2 : Nat)) ∧ w'.cell? ⟨w.heap.size, 5, none⟩ = some (.int .i64 (size : Nat))) (go_keep)
            (first
              | (go_at_call 116; refine HTK.out.mono ?_; rintro e w8 ⟨rfl, hb8⟩; have HB8 := Lib.hid ((Below.refl W1.heap.size W1).drew.trans hb8); obtain ⟨s0, s1, s2, s3, s4, s5, s6⟩ := HCW.out w8 HB8.out; clear hb8)
              | (go_at_call 29; refine (HOP.out w8 HB8.out).mono ?_; rintro e w9 ⟨rfl, hm9, hg9⟩; clear s0 s1 s2 s3 s4 s5 s6; obtain ⟨s0, s1, s2, s3, s4, s5, s6⟩ := HCG.out w8 w9 HB8.out hg9; have HM9 := Lib.hid hm9; have HG9 := Lib.hid hg9; clear hm9 hg9))
          have hb8 := HB1.out.trans (HB8.out.mono HB1.out.size)
          have hmod9 : Mod (fun k => k = mb) w8 w9 := Mod.grown HG9.out rfl
          have hty9 : TyOk w8 (fun k => k = mb) := tyOk_map (HMB.out.below hb8)
          have HBK9 := Lib.hid (HSM.out w8 w9 rs' (hbk.out.below hb8) HG9.out HM9.out)
          have HBC9 := Lib.hid ((hbc.out.below hb8).keep hmod9 hty9 (fun k hk e => by subst e; have h1 := HFC.out k hk; have h2 := HFM.out; rw [foot_fst hfst.out] at h2; have h3 := HLT.out k h2; omega))
          have HBP9 := Lib.hid (hmod9.blk (hbp.out.below hb8) (fun e => by have := blk_ne hbp.out HMB.out (by decide); exact this e))
          have HPB9 := Lib.hid (hmod9.blk (hpb.out.below hb8) hne3)
          have HMD9 := Lib.hid ((hmod.out.trans' hb8).trans hmod9 (fun k _ e => by subst e; have h2 := HFM.out; rw [foot_fst hfst.out] at h2; exact h2))
          clear hb8 hmod9 hty9 s0 s1 s2 s3 s4 s5 s6 r0 r1 r2 r3 r4 r5 r6
          go_wp2_with fail
          go_roundw
          case rel => exact ⟨k + 1, _, by omega, by go_num, HBK9, Lib.hid ((HSF.out _).trans hfst.out), HSTEP, HBC9, HBP9, HPB9, HMD9⟩
          case measure => simp [intOf]; omega
        · have hr1 : (r == 0) = false := by simpa using hr0
          rw [if_neg hr0] at HSTEP
          have HR9 := Lib.hid hr0
          clear hr0
          go_wp2_with fail
          rw [← hW1]
          clear hW1 p0 p1
          go_region_held3 (fun w' => w'.cell? ⟨bb, 0, none⟩ = some (.slice (some ⟨gb2, 0, none⟩) gs.length gc2) ∧ w'.cell? ⟨bb, 1, none⟩ = some (.int .i64 secs) ∧ w'.cell? ⟨bb, 2, none⟩ = some (.slice (some ⟨mv2, 0, none⟩) gs.length mc2) ∧ w'.cell? ⟨mv2, x1, none⟩ = some (.pointer (some ⟨mb, 0, none⟩)) ∧ w'.cell? ⟨wr.heap.size, 0, none⟩ = some (.int .i64 (x1 : Nat)) ∧ w'.cell? ⟨wr.heap.size, 1, none⟩ = some (.int .i64 (x2 : Nat)) ∧ w'.cell? ⟨w.heap.size, 5, none⟩ = some (.int .i64 (size : Nat))) (go_keep)
            (first
              | (go_at_call 116; refine HTK.out.mono ?_; rintro e w8 ⟨rfl, hb8⟩; have HB8 := Lib.hid ((Below.refl W1.heap.size W1).drew.trans hb8); obtain ⟨s0, s1, s2, s3, s4, s5, s6⟩ := HCW.out w8 HB8.out; clear hb8)
              | (go_at_call 29; refine (HOP.out w8 HB8.out).mono ?_; rintro e w9 ⟨rfl, hm9, hg9⟩; clear s0 s1 s2 s3 s4 s5 s6; obtain ⟨s0, s1, s2, s3, s4, s5, s6⟩ := HCG.out w8 w9 HB8.out hg9; have HM9 := Lib.hid hm9; have HG9 := Lib.hid hg9; clear hm9 hg9))
          have hb8 := HB1.out.trans (HB8.out.mono HB1.out.size)
          have hmod9 : Mod (fun k => k = mb) w8 w9 := Mod.grown HG9.out rfl
          have hty9 : TyOk w8 (fun k => k = mb) := tyOk_map (HMB.out.below hb8)
          have HBK9 := Lib.hid (HSM.out w8 w9 rs' (hbk.out.below hb8) HG9.out HM9.out)
          have HBC9 := Lib.hid ((hbc.out.below hb8).keep hmod9 hty9 (fun k hk e => by subst e; have h1 := HFC.out k hk; have h2 := HFM.out; rw [foot_fst hfst.out] at h2; have h3 := HLT.out k h2; omega))
          have HBP9 := Lib.hid (hmod9.blk (hbp.out.below hb8) (fun e => by have := blk_ne hbp.out HMB.out (by decide); exact this e))
          have HPB9 := Lib.hid (hmod9.blk (hpb.out.below hb8) hne3)
          have HMD9 := Lib.hid ((hmod.out.trans' hb8).trans hmod9 (fun k _ e => by subst e; have h2 := HFM.out; rw [foot_fst hfst.out] at h2; exact h2))
          clear hb8 hmod9 hty9 s0 s1 s2 s3 s4 s5 s6 r0 r1 r2 r3 r4 r5 r6
          obtain ⟨gbx, gcx, mvx, mcx, ecx, d0, d1, d2, d3, _, _, _, _, _, _⟩ := HBC9.out.parts
          obtain ⟨gv', mv', ec', j1, _, _, _⟩ := HBK9.out.mem
          have e0 := j1.cell 0
          have e1 := j1.cell 1
          have e2 := j1.cell 2
          have e3 := j1.cell 3
          have f0 := j1.frozen 0
          have f1 := j1.frozen 1
          have f2 := j1.frozen 2
          have f3 := j1.frozen 3
          have J1 := Lib.hid j1
          have D0 := Lib.hid d0
          have D2 := Lib.hid d2
          have D3 := Lib.hid d3
          clear j1
          go_wp2_with fail
          go_ret
          rw [HEA.out, HSTEP.out]
          dsimp only
          rw [if_neg HR9.out]
          refine ⟨rfl, ce, cpM ms bs, HBC9.out.restore J1.out rfl D0.out D2.out D3.out, cpM_st2 ms bs, fun k hk => ?_, (((HMD9.out.setCell (.inl (.inl rfl))).setCell (.inl (.inl rfl))).setCell (.inl (.inl rfl))).setCell (.inl (.inl rfl))⟩
          rcases hk with rfl | hk
          · exact .inl (.inl rfl)
          · exact .inr (HFC.out k (.inr hk))
      · have hkk : k = pl.length := by omega
        subst hkk
        go_wp2_with fail
        go_ret
        rw [HEA.out, hgo.out, List.drop_length]
        exact ⟨rfl, eb, mk, hbk.out, rfl, fun k hk => .inl (by rw [foot_fst hfst.out] at hk; exact hk), hmod.out⟩

theorem callFunc_free (args : Array Value) (W : World) : (callFunc 33 args).run Try.prog W = .ok (.enter 33 args) W := by kernel_rfl
set_option maxRecDepth 100000 in
set_option maxHeartbeats 6400000 in
theorem each_free (bb eb : Nat) (gs : Gs) (secs : Int) (ms : List MT) (es : List Nat) (p : PtrT) (w : World) (h : IsBook w bb eb gs secs ms es) (hp : p.ok) :
    Calls Try.prog 98 #[.pointer (some ⟨bb, 0, none⟩), .agg (encPtr p).toArray, .func (.func 33) #[] #[]] w (EachFn w bb eb gs secs ms es (eachA freeS gs secs (st2 ms) p)) := by
  have hcf := callFunc_free
  have hr0 := rightB_spec h.right
  obtain ⟨w0, hw0⟩ : ∃ w0, w0 = w.alloc (.cells (encPtr p).toArray 68) := ⟨_, rfl⟩
  have hA0 : Below w.heap.size w w0 := by rw [hw0]; exact (Below.refl _ _).alloc (Nat.le_refl _) _
  have hP0 : Blk w0 w.heap.size 68 (encPtr p) := by rw [hw0]; exact Blk.new w _ _
  have hb0 := h.below hA0
  obtain ⟨gb, gc, mv, mc, ec, b0, b1, b2, b3, hgsl, hmaps, _, hmvl, hebl, hbbl⟩ := hb0.parts
  have HRI := Lib.hid (pright_any (some ⟨gb, 0, none⟩) gs.length gc gs secs p w0.drew (hgsl.below (Below.refl _ _).drew) hp)
  have HA0 := Lib.hid hA0
  have HB0 := Lib.hid hb0
  have HH := Lib.hid h
  have HPO := Lib.hid hp
  have HLT := Lib.hid h.lt
  cases hright : ptrRight gs secs p
  · have HEA : Hid (eachA freeS gs secs (st2 ms) p = (1, st2 ms)) := Lib.hid (by unfold eachA; rw [hright]; rfl)
    rw [hright] at HRI
    rw [HEA.out]
    obtain ⟨ag, aa, bg, ba, two, sz, lv, bi, s0, s1, s2, s3⟩ := p
    obtain ⟨c0, c1, c2, c3, c4, c5, c6, c7, c8, c9, c10, c11⟩ := ptr_cells hP0
    clear hA0 hP0 hb0 h hp hright hgsl hmaps hcf
    show Calls _ _ #[.pointer (some ⟨bb, 0, none⟩), .agg #[.int .i64 ag, .int .i64 aa, .int .i64 bg, .int .i64 ba, .bool two, .int .i64 sz, .int .i64 lv, .int .i64 bi, .int .u64 s0, .int .u64 s1, .int .u64 s2, .int .u64 s3], .func (.func 33) #[] #[]] _ _
    go_enter Try.func98, Try.ntmps98
    go_wp2_with fail
    have hw0' : w0 = w.alloc (.cells #[.int .i64 ag, .int .i64 aa, .int .i64 bg, .int .i64 ba, .bool two, .int .i64 sz, .int .i64 lv, .int .i64 bi, .int .u64 s0, .int .u64 s1, .int .u64 s2, .int .u64 s3] 68) := hw0
    rw [← hw0']
    clear hw0 hw0'
    go_region_held3 (fun w' => w'.cell? ⟨bb, 0, none⟩ = some (.slice (some ⟨gb, 0, none⟩) gs.length gc) ∧ w'.cell? ⟨bb, 1, none⟩ = some (.int .i64 secs) ∧ w'.cell? ⟨w.heap.size, 0, none⟩ = some (.int .i64 ag) ∧ w'.cell? ⟨w.heap.size, 1, none⟩ = some (.int .i64 aa) ∧ w'.cell? ⟨w.heap.size, 2, none⟩ = some (.int .i64 bg) ∧ w'.cell? ⟨w.heap.size, 3, none⟩ = some (.int .i64 ba) ∧ w'.cell? ⟨w.heap.size, 4, none⟩ = some (.bool two) ∧ w'.cell? ⟨w.heap.size, 5, none⟩ = some (.int .i64 sz) ∧ w'.cell? ⟨w.heap.size, 6, none⟩ = some (.int .i64 lv) ∧ w'.cell? ⟨w.heap.size, 7, none⟩ = some (.int .i64 bi) ∧ w'.cell? ⟨w.heap.size, 8, none⟩ = some (.int .u64 s0) ∧ w'.cell? ⟨w.heap.size, 9, none⟩ = some (.int .u64 s1) ∧ w'.cell? ⟨w.heap.size, 10, none⟩ = some (.int .u64 s2) ∧ w'.cell? ⟨w.heap.size, 11, none⟩ = some (.int .u64 s3)) (go_keep)
      (first | (go_at_call 63; refine HRI.out.mono ?_; rintro e w5 ⟨rfl, hb5⟩; have HB5 := Lib.hid ((Below.refl w0.heap.size w0).drew.trans hb5); have hq5 : ∀ a u, w0.cell? a = some u → w5.cell? a = some u := fun a u hu => (HB5.out.cell (World.block_lt_of_cell? w0 a hu)).trans hu; have HQ5 := Lib.hid hq5; have t0 := hq5 _ _ c0; have t1 := hq5 _ _ c1; have t2 := hq5 _ _ c2; have t3 := hq5 _ _ c3; have t4 := hq5 _ _ c4; have t5 := hq5 _ _ c5; have t6 := hq5 _ _ c6; have t7 := hq5 _ _ c7; have t8 := hq5 _ _ c8; have t9 := hq5 _ _ c9; have t10 := hq5 _ _ c10; have t11 := hq5 _ _ c11; have u0 := hq5 _ _ b0; have u1 := hq5 _ _ b1; clear hq5 hb5))
    go_wp2_with fail
    go_ret
    exact ⟨rfl, eb, ms, HB0.out.below HB5.out, rfl, fun k hk => .inl hk, Mod.below (HA0.out.trans (HB5.out.mono HA0.out.size))⟩
  · have hm := ptrRight_may hright
    have mA := mayC_spec hm.1
    obtain ⟨ag, aa, bg, ba, two, sz, lv, bi, s0, s1, s2, s3⟩ := p
    dsimp only at hm mA
    obtain ⟨g1, rfl⟩ : ∃ x : Nat, ag = x := ⟨ag.toNat, by omega⟩
    obtain ⟨a1, rfl⟩ : ∃ x : Nat, aa = x := ⟨aa.toNat, by omega⟩
    obtain ⟨size, rfl⟩ : ∃ x : Nat, sz = x := ⟨sz.toNat, by omega⟩
    have hB : 0 ≤ bg ∧ 0 ≤ ba := by
      cases two
      · have := hm.2.2.1 rfl; omega
      · have m2 := mayC_spec (hm.2.1 rfl).1; omega
    obtain ⟨g2, rfl⟩ : ∃ x : Nat, bg = x := ⟨bg.toNat, by omega⟩
    obtain ⟨a2, rfl⟩ : ∃ x : Nat, ba = x := ⟨ba.toNat, by omega⟩
    have HPL := Lib.hid (fun W => places_pl g1 a1 g2 a2 two (size : Nat) lv bi s0 s1 s2 s3 hm.2.2.2.2.2.1 W)
    have hok := pl_ok hright
    have HEA := Lib.hid (show eachA freeS gs secs (st2 ms) ⟨(g1 : Nat), (a1 : Nat), (g2 : Nat), (a2 : Nat), two, (size : Nat), lv, bi, s0, s1, s2, s3⟩ = if (eachGo freeS gs secs (size : Nat) (plN ⟨(g1 : Nat), (a1 : Nat), (g2 : Nat), (a2 : Nat), two, (size : Nat), lv, bi, s0, s1, s2, s3⟩) (st2 ms)).1 = 0 then eachGo freeS gs secs (size : Nat) (plN ⟨(g1 : Nat), (a1 : Nat), (g2 : Nat), (a2 : Nat), two, (size : Nat), lv, bi, s0, s1, s2, s3⟩) (st2 ms) else ((eachGo freeS gs secs (size : Nat) (plN ⟨(g1 : Nat), (a1 : Nat), (g2 : Nat), (a2 : Nat), two, (size : Nat), lv, bi, s0, s1, s2, s3⟩) (st2 ms)).1, st2 ms) from by unfold eachA; rw [if_pos hright])
    have hpl2 : (plN ⟨(g1 : Nat), (a1 : Nat), (g2 : Nat), (a2 : Nat), two, (size : Nat), lv, bi, s0, s1, s2, s3⟩).length ≤ 2 := by rw [plN_nat]; cases two <;> simp
    obtain ⟨pl, hpl⟩ : ∃ l, l = plN ⟨(g1 : Nat), (a1 : Nat), (g2 : Nat), (a2 : Nat), two, (size : Nat), lv, bi, s0, s1, s2, s3⟩ := ⟨_, rfl⟩
    rw [← hpl] at HPL hok HEA hpl2
    rw [hright] at HRI
    obtain ⟨c0, c1, c2, c3, c4, c5, c6, c7, c8, c9, c10, c11⟩ := ptr_cells hP0
    have HP0 := Lib.hid hP0
    have HOK := Lib.hid hok
    have HR0 := Lib.hid hr0
    clear hA0 hP0 hb0 h hp hright hgsl hmaps hcf hm mA hB hok hpl hr0
    have hcf := callFunc_free
    show Calls _ _ #[.pointer (some ⟨bb, 0, none⟩), .agg #[.int .i64 (g1 : Nat), .int .i64 (a1 : Nat), .int .i64 (g2 : Nat), .int .i64 (a2 : Nat), .bool two, .int .i64 (size : Nat), .int .i64 lv, .int .i64 bi, .int .u64 s0, .int .u64 s1, .int .u64 s2, .int .u64 s3], .func (.func 33) #[] #[]] _ _
    go_enter Try.func98, Try.ntmps98
    go_wp2_with fail
    have hw0' : w0 = w.alloc (.cells #[.int .i64 (g1 : Nat), .int .i64 (a1 : Nat), .int .i64 (g2 : Nat), .int .i64 (a2 : Nat), .bool two, .int .i64 (size : Nat), .int .i64 lv, .int .i64 bi, .int .u64 s0, .int .u64 s1, .int .u64 s2, .int .u64 s3] 68) := hw0
    rw [← hw0']
    clear hw0 hw0'
    go_region_held3 (fun w' => w'.cell? ⟨bb, 0, none⟩ = some (.slice (some ⟨gb, 0, none⟩) gs.length gc) ∧ w'.cell? ⟨bb, 1, none⟩ = some (.int .i64 secs) ∧ w'.cell? ⟨w.heap.size, 0, none⟩ = some (.int .i64 (g1 : Nat)) ∧ w'.cell? ⟨w.heap.size, 1, none⟩ = some (.int .i64 (a1 : Nat)) ∧ w'.cell? ⟨w.heap.size, 2, none⟩ = some (.int .i64 (g2 : Nat)) ∧ w'.cell? ⟨w.heap.size, 3, none⟩ = some (.int .i64 (a2 : Nat)) ∧ w'.cell? ⟨w.heap.size, 4, none⟩ = some (.bool two) ∧ w'.cell? ⟨w.heap.size, 5, none⟩ = some (.int .i64 (size : Nat)) ∧ w'.cell? ⟨w.heap.size, 6, none⟩ = some (.int .i64 lv) ∧ w'.cell? ⟨w.heap.size, 7, none⟩ = some (.int .i64 bi) ∧ w'.cell? ⟨w.heap.size, 8, none⟩ = some (.int .u64 s0) ∧ w'.cell? ⟨w.heap.size, 9, none⟩ = some (.int .u64 s1) ∧ w'.cell? ⟨w.heap.size, 10, none⟩ = some (.int .u64 s2) ∧ w'.cell? ⟨w.heap.size, 11, none⟩ = some (.int .u64 s3)) (go_keep)
      (first | (go_at_call 63; refine HRI.out.mono ?_; rintro e w5 ⟨rfl, hb5⟩; have HB5 := Lib.hid ((Below.refl w0.heap.size w0).drew.trans hb5); have hq5 : ∀ a u, w0.cell? a = some u → w5.cell? a = some u := fun a u hu => (HB5.out.cell (World.block_lt_of_cell? w0 a hu)).trans hu; have HQ5 := Lib.hid hq5; have t0 := hq5 _ _ c0; have t1 := hq5 _ _ c1; have t2 := hq5 _ _ c2; have t3 := hq5 _ _ c3; have t4 := hq5 _ _ c4; have t5 := hq5 _ _ c5; have t6 := hq5 _ _ c6; have t7 := hq5 _ _ c7; have t8 := hq5 _ _ c8; have t9 := hq5 _ _ c9; have t10 := hq5 _ _ c10; have t11 := hq5 _ _ c11; have u0 := hq5 _ _ b0; have u1 := hq5 _ _ b1; clear hq5 hb5))
    clear HQ5 u0 u1 c0 c1 c2 c3 c4 c5 c6 c7 c8 c9 c10 c11 b0 b1 b2 b3
    have HBK5 := Lib.hid (HB0.out.below HB5.out)
    have HA5 := Lib.hid (HA0.out.trans (HB5.out.mono HA0.out.size))
    have HP5 := Lib.hid (HP0.out.below HB5.out)
    have HCP := Lib.hid (acopy_any bb eb gs secs ms es w5 HBK5.out)
    go_wp2_with fail
    refine HCP.out.mono ?_
    rintro e w6 ⟨cb, ce, bs, rfl, hbl, hbc, hfc, hb6⟩
    have HBC := Lib.hid hbc
    have hfc2 : ∀ k, foot cb ce (cpM ms bs) k → w.heap.size ≤ k := fun k hk => by have h1 := hfc k hk; have h2 := HA5.out.size; omega
    have HFC := Lib.hid hfc2
    have HA6 := Lib.hid (HA5.out.trans (hb6.mono HA5.out.size))
    have HBK6 := Lib.hid (HBK5.out.below hb6)
    have HP6 := Lib.hid (HP5.out.below hb6)
    obtain ⟨c0, c1, c2, c3, c4, c5, c6, c7, c8, c9, c10, c11⟩ := ptr_cells HP6.out
    clear hbc hfc hb6 hfc2 hbl t0 t1 t2 t3 t4 t5 t6 t7 t8 t9 t10 t11
    go_wp2_with fail
    refine (HPL.out _).mono ?_
    rintro e w7 ⟨gp, rfl, hgp, hbp, hb7⟩
    have HA7 := Lib.hid (HA6.out.trans (hb7.mono HA6.out.size))
    have HBK7 := Lib.hid (HBK6.out.below hb7)
    have HBC7 := Lib.hid (HBC.out.below hb7)
    have HP7 := Lib.hid (HP6.out.below hb7)
    have HBP := Lib.hid hbp
    have HM7 := Lib.hid (Mod.below (F := foot bb eb ms) HA7.out)
    clear hbp hb7 c0 c1 c2 c3 c4 c5 c6 c7 c8 c9 c10 c11 hgp
    go_wp2_with fail
    go_loopw [27] (fun i wr => ∃ (k : Nat) (mk : List MT), k ≤ pl.length ∧ i = .int .i64 (k : Nat) ∧ Hid (IsBook wr bb eb gs secs mk es) ∧ Hid (mk.map (·.1) = ms.map (·.1)) ∧ Hid (eachGo freeS gs secs (size : Nat) pl (st2 ms) = eachGo freeS gs secs (size : Nat) (pl.drop k) (st2 mk)) ∧ Hid (IsBook wr cb ce gs secs (cpM ms bs) es) ∧ Hid (Blk wr gp 63 (encR pl)) ∧ Hid (Blk wr w.heap.size 68 (encPtr ⟨(g1 : Nat), (a1 : Nat), (g2 : Nat), (a2 : Nat), two, (size : Nat), lv, bi, s0, s1, s2, s3⟩)) ∧ Hid (Mod (foot bb eb ms) w wr)) (fun i _ => pl.length - (intOf i).toNat)
    case atStart => exact ⟨0, ms, by omega, rfl, HBK7, Lib.hid rfl, Lib.hid (by rw [List.drop_zero]), HBC7, HBP, HP7, HM7⟩
    case round =>
      obtain ⟨k, mk, hk, rfl, hbk, hfst, hgo, hbc, hbp, hpb, hmod⟩ := hrel
      clear HBK7 HBC7 HBP HP7 HM7 HA7 HA6 HA5 HBK5 HBK6 HBC HP5 HP6 HP0 HCP HPL HRI
      by_cases hkn : k < pl.length
      · obtain ⟨x, hx⟩ : ∃ x, x = pl.getD k (0, 0) := ⟨_, rfl⟩
        have hxm : x ∈ pl := by rw [hx]; exact getD_mem_pl hkn
        obtain ⟨hx1, hx2⟩ := HOK.out x hxm
        have hdr := drop_getD hkn
        have hen := encR_get pl k hkn
        rw [← hx] at hdr hen
        obtain ⟨x1, x2⟩ := x
        dsimp only at hx1 hx2 hen
        have p0 : wr.cell? ⟨gp, k * 2, none⟩ = some (.int .i64 (x1 : Nat)) := (hbp.out.cell _).trans hen.1
        have p1 : wr.cell? ⟨gp, k * 2 + 1, none⟩ = some (.int .i64 (x2 : Nat)) := (hbp.out.cell _).trans hen.2
        obtain ⟨m, hm⟩ : ∃ m, m = mk.getD x1 mD := ⟨_, rfl⟩
        have hma := hbk.out.map_at hx1
        have hsm : ∀ {W W'} {rs'}, IsBook W bb eb gs secs mk es → W.grownBy W' (some (mk.getD x1 mD).1) → IsMap W' (mk.getD x1 mD).1 (mk.getD x1 mD).2.1 rs' → IsBook W' bb eb gs secs (mk.set x1 ((mk.getD x1 mD).1, (mk.getD x1 mD).2.1, rs')) es := fun hb hg hm => hb.setMap hx1 hg hm
        have hfm := hbk.out.footMap hx1
        have hsf := fun r => set_map_fst mk x1 r
        rw [← hm] at hma hsm hfm hsf
        obtain ⟨mb, sz, rs⟩ := m
        dsimp only at hma hsm hfm hsf
        obtain ⟨mcs, hmblk⟩ := hma.blk
        obtain ⟨gb2, gc2, mv2, mc2, ec2, b0, b1, b2, b3, hgsl, hmaps, _, hmvl, _, hbbl⟩ := hbk.out.parts
        have b4 := hmaps x1 hx1
        rw [← hm] at b4
        dsimp only at b4
        have hne1 : bb ≠ mb := by obtain ⟨gv, mv, ec, h1, _⟩ := hbk.out.mem; exact blk_ne h1 hmblk (by decide)
        have hne2 : mv2 ≠ mb := by
          obtain ⟨gv, mv, ec, h1, _, h3, _⟩ := hbk.out.mem
          have e2 := h1.cell 2
          rw [b2] at e2
          simp only [List.getElem?_cons_zero, List.getElem?_cons_succ, Option.some.injEq] at e2
          subst e2
          exact owns_blk_ne h3 hmblk (by decide)
        have hne3 : w.heap.size ≠ mb := blk_ne hpb.out hmblk (by decide)
        have hmbl : mb < wr.heap.size := hmblk.lt
        obtain ⟨t, ht⟩ : ∃ t, t = takesI gs secs (x1 : Nat) (size : Nat) := ⟨_, rfl⟩
        obtain ⟨W1, hW1⟩ : ∃ W1, W1 = wr.alloc (.cells #[.int .i64 (x1 : Nat), .int .i64 (x2 : Nat)] 63) := ⟨_, rfl⟩
        have hB1 : Below wr.heap.size wr W1 := by rw [hW1]; exact (Below.refl _ _).alloc (Nat.le_refl _) _
        have hX1 : Blk W1 wr.heap.size 63 [.int .i64 (x1 : Nat), .int .i64 (x2 : Nat)] := by rw [hW1]; exact Blk.new wr _ _
        have hTK := gtakes_any (some ⟨gb2, 0, none⟩) gs.length gc2 gs secs (x1 : Nat) (size : Nat) W1.drew ((hgsl.below hB1).below (Below.refl _ _).drew)
        rw [← ht] at hTK
        have hstep : eachGo freeS gs secs (size : Nat) pl (st2 ms) = if (freeS sz rs (x2 : Nat) t).1 = 0 then eachGo freeS gs secs (size : Nat) (pl.drop (k + 1)) (st2 (mk.set x1 (mb, sz, (freeS sz rs (x2 : Nat) t).2))) else ((freeS sz rs (x2 : Nat) t).1, st2 mk) := by
          rw [hgo.out, hdr, eachGo]
          dsimp only
          rw [st2_get, ← hm, ← ht, st2_set (by rw [hbk.out.mlen]; exact hx1) hm.symm]
        have hOP : ∀ W, Below W1.heap.size W1 W → Calls Try.prog 33 #[.pointer (some ⟨mb, 0, none⟩), .int .i64 (x2 : Nat), .int .i64 t] W fun e w' => e = .returned (.int .i64 (freeS sz rs (x2 : Nat) t).1) ∧ IsMap w' mb sz (freeS sz rs (x2 : Nat) t).2 ∧ W.grownBy w' (some mb) := fun W hW => free_any mb sz rs (x2 : Nat) t W ((hma.below hB1).below hW)
        have hcellsW : ∀ W, Below W1.heap.size W1 W → W.cell? ⟨bb, 0, none⟩ = some (.slice (some ⟨gb2, 0, none⟩) gs.length gc2) ∧ W.cell? ⟨bb, 1, none⟩ = some (.int .i64 secs) ∧ W.cell? ⟨bb, 2, none⟩ = some (.slice (some ⟨mv2, 0, none⟩) gs.length mc2) ∧ W.cell? ⟨mv2, x1, none⟩ = some (.pointer (some ⟨mb, 0, none⟩)) ∧ W.cell? ⟨wr.heap.size, 0, none⟩ = some (.int .i64 (x1 : Nat)) ∧ W.cell? ⟨wr.heap.size, 1, none⟩ = some (.int .i64 (x2 : Nat)) ∧ W.cell? ⟨w.heap.size, 5, none⟩ = some (.int .i64 (size : Nat)) := fun W hW => by
          have hB := hB1.trans (hW.mono hB1.size)
          exact ⟨(hB.cell (p := ⟨bb, 0, none⟩) hbbl).trans b0, (hB.cell (p := ⟨bb, 1, none⟩) hbbl).trans b1, (hB.cell (p := ⟨bb, 2, none⟩) hbbl).trans b2, (hB.cell (p := ⟨mv2, x1, none⟩) hmvl).trans b4, (hX1.below hW).cell 0, (hX1.below hW).cell 1, ((hpb.out.below hB).cell 5)⟩
        have hcellsG : ∀ W W', Below W1.heap.size W1 W → W.grownBy W' (some mb) → W'.cell? ⟨bb, 0, none⟩ = some (.slice (some ⟨gb2, 0, none⟩) gs.length gc2) ∧ W'.cell? ⟨bb, 1, none⟩ = some (.int .i64 secs) ∧ W'.cell? ⟨bb, 2, none⟩ = some (.slice (some ⟨mv2, 0, none⟩) gs.length mc2) ∧ W'.cell? ⟨mv2, x1, none⟩ = some (.pointer (some ⟨mb, 0, none⟩)) ∧ W'.cell? ⟨wr.heap.size, 0, none⟩ = some (.int .i64 (x1 : Nat)) ∧ W'.cell? ⟨wr.heap.size, 1, none⟩ = some (.int .i64 (x2 : Nat)) ∧ W'.cell? ⟨w.heap.size, 5, none⟩ = some (.int .i64 (size : Nat)) := fun W W' hW hg => by
          obtain ⟨k0, k1, k2, k3, k4, k5, k6⟩ := hcellsW W hW
          have far : ∀ a u, W.cell? a = some u → a.block ≠ mb → W'.cell? a = some u := fun a u hu hne => (hg.cell_far a (World.block_lt_of_cell? W a hu) (fun e => hne (Option.some.inj e))).trans hu
          exact ⟨far _ _ k0 hne1, far _ _ k1 hne1, far _ _ k2 hne1, far _ _ k3 hne2, far _ _ k4 (by show wr.heap.size ≠ mb; omega), far _ _ k5 (by show wr.heap.size ≠ mb; omega), far _ _ k6 hne3⟩
        obtain ⟨r0, r1, r2, r3, r4, r5, r6⟩ := hcellsW W1 (Below.refl _ _)
        have HTK := Lib.hid hTK
        have HOP := Lib.hid hOP
        have HCW := Lib.hid hcellsW
        have HCG := Lib.hid hcellsG
        have HSTEP := Lib.hid hstep
        have HSM : Hid (∀ W W' rs', IsBook W bb eb gs secs mk es → W.grownBy W' (some mb) → IsMap W' mb sz rs' → IsBook W' bb eb gs secs (mk.set x1 (mb, sz, rs')) es) := Lib.hid (fun W W' rs' => hsm)
        have HFM := Lib.hid hfm
        have HSF := Lib.hid hsf
        have HB1 := Lib.hid hB1
        have HMB := Lib.hid hmblk
        clear hTK hOP hcellsW hcellsG hstep hsm hfm hsf hB1 hX1 hma hmaps hgsl b0 b1 b2 b3 b4 hx hxm hdr hen hm ht hmblk
        obtain ⟨r, hr⟩ : ∃ r, r = (freeS sz rs (x2 : Nat) t).1 := ⟨_, rfl⟩
        obtain ⟨rs', hrs'⟩ : ∃ r, r = (freeS sz rs (x2 : Nat) t).2 := ⟨_, rfl⟩
        rw [← hr, ← hrs'] at HOP HSTEP
        clear hr hrs'
        by_cases hr0 : r = 0
        · subst hr0
          rw [if_pos rfl] at HSTEP
          go_wp2_with fail
          rw [← hW1]
          clear hW1 p0 p1
          go_region_held3 (fun w' => w'.cell? ⟨bb, 0, none⟩ = some (.slice (some ⟨gb2, 0, none⟩) gs.length gc2) ∧ w'.cell? ⟨bb, 1, none⟩ = some (.int .i64 secs) ∧ w'.cell? ⟨bb, 2, none⟩ = some (.slice (some ⟨mv2, 0, none⟩) gs.length mc2) ∧ w'.cell? ⟨mv2, x1, none⟩ = some (.pointer (some ⟨mb, 0, none⟩)) ∧ w'.cell? ⟨wr.heap.size, 0, none⟩ = some (.int .i64 (x1 : Nat)) ∧ w'.cell? ⟨wr.heap.size, 1, none⟩ = some (.int .i64 (x2 : Nat)) ∧ w'.cell? ⟨w.heap.size, 5, none⟩ = some (.int .i64 (size : Nat))) (go_keep)
            (first
              | (go_at_call 116; refine HTK.out.mono ?_; rintro e w8 ⟨rfl, hb8⟩; have HB8 := Lib.hid ((Below.refl W1.heap.size W1).drew.trans hb8); obtain ⟨s0, s1, s2, s3, s4, s5, s6⟩ := HCW.out w8 HB8.out; clear hb8)
              | (go_at_call 33; refine (HOP.out w8 HB8.out).mono ?_; rintro e w9 ⟨rfl, hm9, hg9⟩; clear s0 s1 s2 s3 s4 s5 s6; obtain ⟨s0, s1, s2, s3, s4, s5, s6⟩ := HCG.out w8 w9 HB8.out hg9; have HM9 := Lib.hid hm9; have HG9 := Lib.hid hg9; clear hm9 hg9))
          have hb8 := HB1.out.trans (HB8.out.mono HB1.out.size)
          have hmod9 : Mod (fun k => k = mb) w8 w9 := Mod.grown HG9.out rfl
          have hty9 : TyOk w8 (fun k => k = mb) := tyOk_map (HMB.out.below hb8)
          have HBK9 := Lib.hid (HSM.out w8 w9 rs' (hbk.out.below hb8) HG9.out HM9.out)
          have HBC9 := Lib.hid ((hbc.out.below hb8).keep hmod9 hty9 (fun k hk e => by subst e; have h1 := HFC.out k hk; have h2 := HFM.out; rw [foot_fst hfst.out] at h2; have h3 := HLT.out k h2; omega))
          have HBP9 := Lib.hid (hmod9.blk (hbp.out.below hb8) (fun e => by have := blk_ne hbp.out HMB.out (by decide); exact this e))
          have HPB9 := Lib.hid (hmod9.blk (hpb.out.below hb8) hne3)
          have HMD9 := Lib.hid ((hmod.out.trans' hb8).trans hmod9 (fun k _ e => by subst e; have h2 := HFM.out; rw [foot_fst hfst.out] at h2; exact h2))
          clear hb8 hmod9 hty9 s0 s1 s2 s3 s4 s5 s6 r0 r1 r2 r3 r4 r5 r6
          go_wp2_with fail
          go_roundw
          case rel => exact ⟨k + 1, _, by omega, by go_num, HBK9, Lib.hid ((HSF.out _).trans hfst.out), HSTEP, HBC9, HBP9, HPB9, HMD9⟩
          case measure => simp [intOf]; omega
        · have hr1 : (r == 0) = false := by simpa using hr0
          rw [if_neg hr0] at HSTEP
          have HR9 := Lib.hid hr0
          clear hr0
          go_wp2_with fail
          rw [← hW1]
          clear hW1 p0 p1
          go_region_held3 (fun w' => w'.cell? ⟨bb, 0, none⟩ = some (.slice (some ⟨gb2, 0, none⟩) gs.length gc2) ∧ w'.cell? ⟨bb, 1, none⟩ = some (.int .i64 secs) ∧ w'.cell? ⟨bb, 2, none⟩ = some (.slice (some ⟨mv2, 0, none⟩) gs.length mc2) ∧ w'.cell? ⟨mv2, x1, none⟩ = some (.pointer (some ⟨mb, 0, none⟩)) ∧ w'.cell? ⟨wr.heap.size, 0, none⟩ = some (.int .i64 (x1 : Nat)) ∧ w'.cell? ⟨wr.heap.size, 1, none⟩ = some (.int .i64 (x2 : Nat)) ∧ w'.cell? ⟨w.heap.size, 5, none⟩ = some (.int .i64 (size : Nat))) (go_keep)
            (first
              | (go_at_call 116; refine HTK.out.mono ?_; rintro e w8 ⟨rfl, hb8⟩; have HB8 := Lib.hid ((Below.refl W1.heap.size W1).drew.trans hb8); obtain ⟨s0, s1, s2, s3, s4, s5, s6⟩ := HCW.out w8 HB8.out; clear hb8)
              | (go_at_call 33; refine (HOP.out w8 HB8.out).mono ?_; rintro e w9 ⟨rfl, hm9, hg9⟩; clear s0 s1 s2 s3 s4 s5 s6; obtain ⟨s0, s1, s2, s3, s4, s5, s6⟩ := HCG.out w8 w9 HB8.out hg9; have HM9 := Lib.hid hm9; have HG9 := Lib.hid hg9; clear hm9 hg9))
          have hb8 := HB1.out.trans (HB8.out.mono HB1.out.size)
          have hmod9 : Mod (fun k => k = mb) w8 w9 := Mod.grown HG9.out rfl
          have hty9 : TyOk w8 (fun k => k = mb) := tyOk_map (HMB.out.below hb8)
          have HBK9 := Lib.hid (HSM.out w8 w9 rs' (hbk.out.below hb8) HG9.out HM9.out)
          have HBC9 := Lib.hid ((hbc.out.below hb8).keep hmod9 hty9 (fun k hk e => by subst e; have h1 := HFC.out k hk; have h2 := HFM.out; rw [foot_fst hfst.out] at h2; have h3 := HLT.out k h2; omega))
          have HBP9 := Lib.hid (hmod9.blk (hbp.out.below hb8) (fun e => by have := blk_ne hbp.out HMB.out (by decide); exact this e))
          have HPB9 := Lib.hid (hmod9.blk (hpb.out.below hb8) hne3)
          have HMD9 := Lib.hid ((hmod.out.trans' hb8).trans hmod9 (fun k _ e => by subst e; have h2 := HFM.out; rw [foot_fst hfst.out] at h2; exact h2))
          clear hb8 hmod9 hty9 s0 s1 s2 s3 s4 s5 s6 r0 r1 r2 r3 r4 r5 r6
          obtain ⟨gbx, gcx, mvx, mcx, ecx, d0, d1, d2, d3, _, _, _, _, _, _⟩ := HBC9.out.parts
          obtain ⟨gv', mv', ec', j1, _, _, _⟩ := HBK9.out.mem
          have e0 := j1.cell 0
          have e1 := j1.cell 1
          have e2 := j1.cell 2
          have e3 := j1.cell 3
          have f0 := j1.frozen 0
          have f1 := j1.frozen 1
          have f2 := j1.frozen 2
          have f3 := j1.frozen 3
          have J1 := Lib.hid j1
          have D0 := Lib.hid d0
          have D2 := Lib.hid d2
          have D3 := Lib.hid d3
          clear j1
          go_wp2_with fail
          go_ret
          rw [HEA.out, HSTEP.out]
          dsimp only
          rw [if_neg HR9.out]
          refine ⟨rfl, ce, cpM ms bs, HBC9.out.restore J1.out rfl D0.out D2.out D3.out, cpM_st2 ms bs, fun k hk => ?_, (((HMD9.out.setCell (.inl (.inl rfl))).setCell (.inl (.inl rfl))).setCell (.inl (.inl rfl))).setCell (.inl (.inl rfl))⟩
          rcases hk with rfl | hk
          · exact .inl (.inl rfl)
          · exact .inr (HFC.out k (.inr hk))
      · have hkk : k = pl.length := by omega
        subst hkk
        go_wp2_with fail
        go_ret
        rw [HEA.out, hgo.out, List.drop_length]
        exact ⟨rfl, eb, mk, hbk.out, rfl, fun k hk => .inl (by rw [foot_fst hfst.out] at hk; exact hk), hmod.out⟩

/-- Mark -/
theorem mark_any (bb eb : Nat) (gs : Gs) (secs : Int) (ms : List MT) (es : List Nat) (p : PtrT) (w : World) (h : IsBook w bb eb gs secs ms es) (hp : p.ok) :
    Calls Try.prog 64 #[.pointer (some ⟨bb, 0, none⟩), .agg (encPtr p).toArray] w (EachFn w bb eb gs secs ms es (eachA takeS gs secs (st2 ms) p)) := by
  have hA0 : Below w.heap.size w (w.alloc (.cells (encPtr p).toArray 68)) := (Below.refl _ _).alloc (Nat.le_refl _) _
  have HC := Lib.hid (each_take bb eb gs secs ms es p _ (h.below hA0) hp)
  have HA := Lib.hid hA0
  have HL := Lib.hid h.lt
  clear hA0 h hp
  obtain ⟨ag, aa, bg, ba, two, sz, lv, bi, s0, s1, s2, s3⟩ := p
  generalize eachA takeS gs secs (st2 ms) _ = r at HC ⊢
  show Calls _ _ #[.pointer (some ⟨bb, 0, none⟩), .agg #[.int .i64 ag, .int .i64 aa, .int .i64 bg, .int .i64 ba, .bool two, .int .i64 sz, .int .i64 lv, .int .i64 bi, .int .u64 s0, .int .u64 s1, .int .u64 s2, .int .u64 s3]] _ _
  go_enter Try.func64, Try.ntmps64
  go_wp2_with fail
  refine HC.out.mono ?_
  rintro e w1 ⟨rfl, eb', ms', h1, h2, h3, h4⟩
  have H1 := Lib.hid h1
  have H2 := Lib.hid h2
  have H3 := Lib.hid h3
  have H4 := Lib.hid h4
  clear h1 h2 h3 h4
  go_wp2_with fail
  go_ret
  exact ⟨rfl, eb', ms', H1.out, H2.out, fun k hk => (H3.out k hk).elim .inl (fun h => .inr (Nat.le_trans HA.out.size h)), (Mod.below HA.out).trans H4.out (fun _ _ h => h)⟩
/-- Drop -/
theorem drop_any (bb eb : Nat) (gs : Gs) (secs : Int) (ms : List MT) (es : List Nat) (p : PtrT) (w : World) (h : IsBook w bb eb gs secs ms es) (hp : p.ok) :
    Calls Try.prog 62 #[.pointer (some ⟨bb, 0, none⟩), .agg (encPtr p).toArray] w (EachFn w bb eb gs secs ms es (eachA freeS gs secs (st2 ms) p)) := by
  have hA0 : Below w.heap.size w (w.alloc (.cells (encPtr p).toArray 68)) := (Below.refl _ _).alloc (Nat.le_refl _) _
  have HC := Lib.hid (each_free bb eb gs secs ms es p _ (h.below hA0) hp)
  have HA := Lib.hid hA0
  have HL := Lib.hid h.lt
  clear hA0 h hp
  obtain ⟨ag, aa, bg, ba, two, sz, lv, bi, s0, s1, s2, s3⟩ := p
  generalize eachA freeS gs secs (st2 ms) _ = r at HC ⊢
  show Calls _ _ #[.pointer (some ⟨bb, 0, none⟩), .agg #[.int .i64 ag, .int .i64 aa, .int .i64 bg, .int .i64 ba, .bool two, .int .i64 sz, .int .i64 lv, .int .i64 bi, .int .u64 s0, .int .u64 s1, .int .u64 s2, .int .u64 s3]] _ _
  go_enter Try.func62, Try.ntmps62
  go_wp2_with fail
  refine HC.out.mono ?_
  rintro e w1 ⟨rfl, eb', ms', h1, h2, h3, h4⟩
  have H1 := Lib.hid h1
  have H2 := Lib.hid h2
  have H3 := Lib.hid h3
  have H4 := Lib.hid h4
  clear h1 h2 h3 h4
  go_wp2_with fail
  go_ret
  exact ⟨rfl, eb', ms', H1.out, H2.out, fun k hk => (H3.out k hk).elim .inl (fun h => .inr (Nat.le_trans HA.out.size h)), (Mod.below HA.out).trans H4.out (fun _ _ h => h)⟩
end Go.Proofs.Ytmnhdpojonlfhaa
