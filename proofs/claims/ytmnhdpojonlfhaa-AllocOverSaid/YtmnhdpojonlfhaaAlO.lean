/- The walk of a book's order. -/
import Derived.Test.YtmnhdpojonlfhaaAlQ
import Derived.Test.YtmnhdpojonlfhaaAlY
import Derived.Deep.QuietTactic
import Derived.BigQuiet
namespace Go.Proofs.Ytmnhdpojonlfhaa
open Go.RowKit
attribute [local go_sem ↓] Go.wp_at_zero Go.wp_at_succ

theorem quiet_left {P : Program} {f : FuncId} {args : Array Value} {w : World} {n : Nat} {v : Value}
    (h : Calls P f args (w.drewN n) fun e w' => e = .returned v ∧ w.drewN n = w') : Calls P f args (w.drewN n) fun e w'' => e = .returned v ∧ ∃ m, w'' = w.drewN m :=
  h.mono fun _ _ ⟨he, hm⟩ => ⟨he, n, hm.symm⟩
def cmpI (a b : Int) : Int := if a < b then -1 else if b < a then 1 else 0
theorem cmpI_any (a b : Int) (w : World) : Calls Try.prog 108 #[.int .i64 a, .int .i64 b] w fun e w' => e = .returned (.int .i64 (cmpI a b)) ∧ w = w' := by
  unfold cmpI
  by_cases h1 : a < b
  · rw [if_pos h1]
    go_enter Try.func108, Try.ntmps108
    go_wp2
    go_ret
    exact ⟨rfl, rfl⟩
  · by_cases h2 : b < a
    · rw [if_neg h1, if_pos h2]
      go_enter Try.func108, Try.ntmps108
      go_wp2
      go_ret
      exact ⟨rfl, rfl⟩
    · rw [if_neg h1, if_neg h2]
      go_enter Try.func108, Try.ntmps108
      go_wp2
      go_ret
      exact ⟨rfl, rfl⟩
def flagI (b : Bool) : Int := if b then 1 else 0
theorem flag_any (b : Bool) (w : World) : Calls Try.prog 129 #[.bool b] w fun e w' => e = .returned (.int .i64 (flagI b)) ∧ w = w' := by
  cases b
  · go_enter Try.func129, Try.ntmps129
    go_wp2
    go_ret
    exact ⟨rfl, rfl⟩
  · go_enter Try.func129, Try.ntmps129
    go_wp2
    go_ret
    exact ⟨rfl, rfl⟩
def orI (a b : Int) : Int := if a ≠ 0 then a else b
theorem or2_any (a b : Int) (g : Nat) (w : World) (c0 : w.cell? ⟨g, 0, none⟩ = some (.int .i64 a)) (c1 : w.cell? ⟨g, 1, none⟩ = some (.int .i64 b)) :
    Calls Try.prog 107 #[.slice (some ⟨g, 0, none⟩) 2 2] w fun e w' => e = .returned (.int .i64 (orI a b)) ∧ w = w' := by
  unfold orI
  by_cases h1 : a = 0
  · rw [if_neg (by simpa using h1)]
    have hz : (a != 0) = false := by simpa using h1
    by_cases h2 : b = 0
    · have hz2 : (b != 0) = false := by simpa using h2
      have H2 := Lib.hid h2
      clear h1 h2
      go_enter Try.func107, Try.ntmps107
      go_wp2_with fail
      refine wp_loop_rounds 3 ?_
      rw [rounds_succ]
      go_wp2_with fail
      rw [rounds_succ]
      go_wp2_with fail
      rw [rounds_succ]
      go_wp2_with fail
      go_ret
      exact ⟨by rw [H2.out]; rfl, rfl⟩
    · have hz2 : (b != 0) = true := by simpa using h2
      clear h1 h2
      go_enter Try.func107, Try.ntmps107
      go_wp2_with fail
      refine wp_loop_rounds 3 ?_
      rw [rounds_succ]
      go_wp2_with fail
      rw [rounds_succ]
      go_wp2_with fail
      go_ret
      exact ⟨rfl, rfl⟩
  · rw [if_pos h1]
    have hz : (a != 0) = true := by simpa using h1
    clear h1
    go_enter Try.func107, Try.ntmps107
    go_wp2_with fail
    refine wp_loop_rounds 3 ?_
    rw [rounds_succ]
    go_wp2_with fail
    go_ret
    exact ⟨rfl, rfl⟩

/-- which of two groups comes first: the one with more that is free; one of them last -/
def cmpS (ms : List MT) (last : Int) (x y : Nat) : Int :=
  if (((x : Int) == last) != ((y : Int) == last)) = true then cmpI (flagI ((x : Int) == last)) (flagI ((y : Int) == last))
  else if cmpI (leftM (ms.getD y mD)) (leftM (ms.getD x mD)) ≠ 0 then cmpI (leftM (ms.getD y mD)) (leftM (ms.getD x mD)) else cmpI x y
theorem cmpI_neg {a b : Int} : cmpI a b < 0 ↔ a < b := by
  unfold cmpI
  split
  · simp_all
  · split <;> simp_all <;> omega
theorem cmpI_zero {a b : Int} : cmpI a b = 0 ↔ a = b := by
  unfold cmpI
  split
  · simp; omega
  · split
    · simp; omega
    · simp; omega
theorem cmpS_neg {ms : List MT} {last : Int} {x y : Nat} : cmpS ms last x y < 0 ↔ ((x : Int) ≠ last ∧ (y : Int) = last) ∨ (((x : Int) = last ↔ (y : Int) = last) ∧ (leftM (ms.getD y mD) < leftM (ms.getD x mD) ∨ (leftM (ms.getD y mD) = leftM (ms.getD x mD) ∧ x < y))) := by
  unfold cmpS flagI
  by_cases hx : (x : Int) = last <;> by_cases hy : (y : Int) = last
  · simp only [hx, hy, beq_self_eq_true, bne_self_eq_false, Bool.false_eq_true, if_false]
    have hxy : x = y := by omega
    subst hxy
    have : ¬ (cmpI (leftM (ms.getD x mD)) (leftM (ms.getD x mD)) ≠ 0) := by simp [cmpI_zero]
    rw [if_neg this, cmpI_neg]
    simp
  · have e : ((y : Int) == last) = false := by simpa using hy
    simp [hx, hy, e, cmpI]
  · have e : ((x : Int) == last) = false := by simpa using hx
    simp [hx, hy, e, cmpI]
  · have e : ((x : Int) == last) = false := by simpa using hx
    have e2 : ((y : Int) == last) = false := by simpa using hy
    simp only [e, e2, bne_self_eq_false, Bool.false_eq_true, if_false]
    by_cases hl : cmpI (leftM (ms.getD y mD)) (leftM (ms.getD x mD)) = 0
    · rw [if_neg (by simpa using hl), cmpI_neg]
      rw [cmpI_zero] at hl
      constructor
      · intro h; exact .inr ⟨⟨fun h => absurd h hx, fun h => absurd h hy⟩, .inr ⟨hl, by omega⟩⟩
      · rintro (⟨_, h⟩ | ⟨_, h | ⟨_, h⟩⟩)
        · exact absurd h hy
        · omega
        · omega
    · rw [if_pos (by simpa using hl), cmpI_neg]
      rw [cmpI_zero] at hl
      constructor
      · intro h; exact .inr ⟨⟨fun h => absurd h hx, fun h => absurd h hy⟩, .inl h⟩
      · rintro (⟨_, h⟩ | ⟨_, h | ⟨h, _⟩⟩)
        · exact absurd h hy
        · exact h
        · exact absurd h hl
theorem cmpS_swo (ms : List MT) (last : Int) (m : Nat) : Swo m (cmpS ms last) := by
  refine ⟨fun x y _ _ h1 h2 => ?_, fun x y z _ _ _ h1 h2 h3 => ?_⟩
  · rw [cmpS_neg] at h1 h2
    rcases h1 with ⟨a, b⟩ | ⟨a, b⟩ <;> rcases h2 with ⟨c, d⟩ | ⟨c, d⟩
    · omega
    · omega
    · omega
    · omega
  · rw [cmpS_neg] at h1 h2 h3
    rcases h3 with ⟨a, b⟩ | ⟨a, b⟩
    · omega
    · omega

set_option maxHeartbeats 1600000 in
set_option maxRecDepth 100000 in
theorem order1_any (B0 B1 bb eb : Nat) (gs : Gs) (secs : Int) (ms : List MT) (es : List Nat) (last : Int) (x y : Nat) (w : World) (h : IsBook w bb eb gs secs ms es) (h0 : w.cell? ⟨B0, 0, none⟩ = some (.pointer (some ⟨bb, 0, none⟩))) (h1 : w.cell? ⟨B1, 0, none⟩ = some (.int .i64 last)) (hx : x < gs.length) (hy : y < gs.length) :
    Calls Try.prog 128 #[.int .i64 (x : Nat), .int .i64 (y : Nat), .pointer (some ⟨B0, 0, none⟩), .pointer (some ⟨B1, 0, none⟩)] w fun e w' => e = .returned (.int .i64 (cmpS ms last x y)) ∧ Below w.heap.size w w' := by
  obtain ⟨gb, gc, mv, mc, ec, c0, c1, c2, c3, hgs, hmp, hes, hmv, heb, hbb⟩ := h.parts
  have hr := rightB_spec h.right
  have hn4 := hr.2.1
  have hml := h.mlen
  have hB0 := block_lt_of_cell h0
  have hB1 := block_lt_of_cell h1
  have dx := hmp x hx
  have dy := hmp y hy
  have hmx := h.maps (ms.getD x mD) (by rw [List.getD_eq_getElem?_getD, List.getElem?_eq_getElem (show x < ms.length by omega)]; exact List.getElem_mem _)
  have hmy := h.maps (ms.getD y mD) (by rw [List.getD_eq_getElem?_getD, List.getElem?_eq_getElem (show y < ms.length by omega)]; exact List.getElem_mem _)
  have HCS : Hid (cmpS ms last x y = if (((x : Int) == last) != ((y : Int) == last)) = true then cmpI (flagI ((x : Int) == last)) (flagI ((y : Int) == last)) else if cmpI (leftM (ms.getD y mD)) (leftM (ms.getD x mD)) ≠ 0 then cmpI (leftM (ms.getD y mD)) (leftM (ms.getD x mD)) else cmpI x y) := Lib.hid rfl
  obtain ⟨mx, hmxe⟩ : ∃ m, m = ms.getD x mD := ⟨_, rfl⟩
  obtain ⟨my, hmye⟩ : ∃ m, m = ms.getD y mD := ⟨_, rfl⟩
  rw [← hmxe] at dx hmx HCS
  rw [← hmye] at dy hmy HCS
  obtain ⟨x1, x2, x3⟩ := mx
  obtain ⟨y1, y2, y3⟩ := my
  have HLX := Lib.hid fun W (hW : Below w.heap.size w W) => (left_any x1 x2 x3 W (hmx.below hW)).mono fun e w' (hh : e = .returned (.int .i64 ((x2 : Int) - (sumR x3 : Int))) ∧ Below W.heap.size W w') => (show e = .returned (.int .i64 ((x2 : Int) - (sumR x3 : Int))) ∧ Below w.heap.size w w' from ⟨hh.1, hW.trans (hh.2.mono hW.size)⟩)
  have HLY := Lib.hid fun W (hW : Below w.heap.size w W) => (left_any y1 y2 y3 W (hmy.below hW)).mono fun e w' (hh : e = .returned (.int .i64 ((y2 : Int) - (sumR y3 : Int))) ∧ Below W.heap.size W w') => (show e = .returned (.int .i64 ((y2 : Int) - (sumR y3 : Int))) ∧ Below w.heap.size w w' from ⟨hh.1, hW.trans (hh.2.mono hW.size)⟩)
  obtain ⟨lx, hlx⟩ : ∃ l, l = (x2 : Int) - (sumR x3 : Int) := ⟨_, rfl⟩
  obtain ⟨ly, hly⟩ : ∃ l, l = (y2 : Int) - (sumR y3 : Int) := ⟨_, rfl⟩
  have hcs2 := HCS.out
  unfold leftM at hcs2
  dsimp only at hcs2
  rw [← hlx, ← hly] at hcs2
  rw [← hlx] at HLX
  rw [← hly] at HLY
  have HCS := Lib.hid hcs2
  obtain ⟨n, hn⟩ : ∃ n, n = gs.length := ⟨_, rfl⟩
  rw [← hn] at c2 hx hy
  dsimp only at dx dy
  have x0 : (0 : Int) ≤ (x : Int) := by omega
  have y0 : (0 : Int) ≤ (y : Int) := by omega
  have xn : (x : Int) < (n : Int) := by omega
  have yn : (y : Int) < (n : Int) := by omega
  have H0 := Lib.hid h0
  have H1 := Lib.hid h1
  have C2 := Lib.hid c2
  have DX := Lib.hid dx
  have DY := Lib.hid dy
  have hbe : Hid (w.heap.size = w.heap.size) := Lib.hid rfl
  clear h c0 c1 c3 hgs hmp hes hr hml hmx hmy hmxe hmye hlx hly hcs2 hn hn4 hbe
  go_enter Try.func128, Try.ntmps128
  go_wp2_with fail
  go_region_held3 (fun w' => w'.cell? ⟨B0, 0, none⟩ = some (.pointer (some ⟨bb, 0, none⟩)) ∧ w'.cell? ⟨bb, 2, none⟩ = some (.slice (some ⟨mv, 0, none⟩) n mc) ∧ w'.cell? ⟨mv, x, none⟩ = some (.pointer (some ⟨x1, 0, none⟩)) ∧ w'.cell? ⟨mv, y, none⟩ = some (.pointer (some ⟨y1, 0, none⟩))) (go_keep)
    (first
      | (go_at_call_of 31 (Value.pointer (some ⟨x1, 0, none⟩)); refine (HLX.out _ (by first | exact (Below.refl _ _).drew | assumption)).mono ?_; rintro e w1 ⟨rfl, hb1⟩; have ha0 := (hb1.cell (p := ⟨B0, 0, none⟩) hB0).trans H0.out; have ha1 := (hb1.cell (p := ⟨bb, 2, none⟩) hbb).trans C2.out; have ha2 := (hb1.cell (p := ⟨mv, x, none⟩) hmv).trans DX.out; have ha3 := (hb1.cell (p := ⟨mv, y, none⟩) hmv).trans DY.out)
      | (go_at_call_of 31 (Value.pointer (some ⟨y1, 0, none⟩)); refine (HLY.out _ (by first | exact (Below.refl _ _).drew | assumption)).mono ?_; rintro e w2 ⟨rfl, hb2⟩; have hd0 := (hb2.cell (p := ⟨B0, 0, none⟩) hB0).trans H0.out; have hd1 := (hb2.cell (p := ⟨bb, 2, none⟩) hbb).trans C2.out; have hd2 := (hb2.cell (p := ⟨mv, x, none⟩) hmv).trans DX.out; have hd3 := (hb2.cell (p := ⟨mv, y, none⟩) hmv).trans DY.out))
  have q1 : w2.cell? ⟨B1, 0, none⟩ = some (.int .i64 last) := (hb2.cell (p := ⟨B1, 0, none⟩) hB1).trans H1.out
  have B2 := Lib.hid hb2
  have hlt2 := hb2.size
  clear hb1 hb2 ha0 ha1 ha2 ha3 hd0 hd1 hd2 hd3 HLX HLY dx dy h0 h1 c2
  obtain ⟨b1, hb1⟩ : ∃ b : Bool, b = ((x : Int) == last) := ⟨_, rfl⟩
  obtain ⟨b2, hb2⟩ : ∃ b : Bool, b = ((y : Int) == last) := ⟨_, rfl⟩
  rw [← hb1, ← hb2] at HCS
  cases b1 with
  | true =>
    cases b2 with
    | true =>
      have e1 := hb1.symm
      have e2 := hb2.symm
      have HC2 : Hid (cmpS ms last x y = orI (cmpI ly lx) (cmpI x y)) := Lib.hid (by rw [HCS.out]; unfold orI; simp)
      clear hb1 hb2
      go_wp2_with fail
      refine (cmpI_any ly lx _).mono ?_
      rintro e w3 ⟨rfl, rfl⟩
      go_wp2_with fail
      refine (cmpI_any x y _).mono ?_
      rintro e w3 ⟨rfl, rfl⟩
      obtain ⟨ca, hca⟩ : ∃ c, c = cmpI ly lx := ⟨_, rfl⟩
      obtain ⟨cb, hcb⟩ : ∃ c, c = cmpI x y := ⟨_, rfl⟩
      rw [← hca, ← hcb] at HC2 ⊢
      clear hca hcb
      go_wp2_with fail
      refine (or2_any ca cb w2.heap.size _ (by rw [World.cell?_alloc_at _ _ _ _ rfl]; rfl) (by rw [World.cell?_alloc_at _ _ _ _ rfl]; rfl)).mono ?_
      rintro e w3 ⟨rfl, rfl⟩
      go_wp2_with fail
      go_ret
      exact ⟨by rw [HC2.out]; rfl, B2.out.alloc hlt2 _⟩
    | false =>
      have e1 := hb1.symm
      have e2 := hb2.symm
      have HC2 : Hid (cmpS ms last x y = cmpI (flagI true) (flagI false)) := Lib.hid (by rw [HCS.out]; simp)
      clear hb1 hb2
      go_wp2_with fail
      go_quiet (first | (go_at_call 129; exact quiet_left (flag_any _ _)) | (go_at_call 108; exact quiet_left (cmpI_any _ _ _)))
      go_wp2_with fail
      go_ret
      exact ⟨by rw [HC2.out]; rfl, below_drewN' B2.out _⟩
  | false =>
    cases b2 with
    | true =>
      have e1 := hb1.symm
      have e2 := hb2.symm
      have HC2 : Hid (cmpS ms last x y = cmpI (flagI false) (flagI true)) := Lib.hid (by rw [HCS.out]; simp)
      clear hb1 hb2
      go_wp2_with fail
      go_quiet (first | (go_at_call 129; exact quiet_left (flag_any _ _)) | (go_at_call 108; exact quiet_left (cmpI_any _ _ _)))
      go_wp2_with fail
      go_ret
      exact ⟨by rw [HC2.out]; rfl, below_drewN' B2.out _⟩
    | false =>
      have e1 := hb1.symm
      have e2 := hb2.symm
      have HC2 : Hid (cmpS ms last x y = orI (cmpI ly lx) (cmpI x y)) := Lib.hid (by rw [HCS.out]; unfold orI; simp)
      clear hb1 hb2
      go_wp2_with fail
      refine (cmpI_any ly lx _).mono ?_
      rintro e w3 ⟨rfl, rfl⟩
      go_wp2_with fail
      refine (cmpI_any x y _).mono ?_
      rintro e w3 ⟨rfl, rfl⟩
      obtain ⟨ca, hca⟩ : ∃ c, c = cmpI ly lx := ⟨_, rfl⟩
      obtain ⟨cb, hcb⟩ : ∃ c, c = cmpI x y := ⟨_, rfl⟩
      rw [← hca, ← hcb] at HC2 ⊢
      clear hca hcb
      go_wp2_with fail
      refine (or2_any ca cb w2.heap.size _ (by rw [World.cell?_alloc_at _ _ _ _ rfl]; rfl) (by rw [World.cell?_alloc_at _ _ _ _ rfl]; rfl)).mono ?_
      rintro e w3 ⟨rfl, rfl⟩
      go_wp2_with fail
      go_ret
      exact ⟨by rw [HC2.out]; rfl, B2.out.alloc hlt2 _⟩
end Go.Proofs.Ytmnhdpojonlfhaa
