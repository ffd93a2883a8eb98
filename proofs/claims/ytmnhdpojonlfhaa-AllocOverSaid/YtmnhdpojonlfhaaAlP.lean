/- The walk of a book's order, whole. -/
import Derived.Test.YtmnhdpojonlfhaaAlO
import Derived.Deep.DeepCutAuto
namespace Go.Proofs.Ytmnhdpojonlfhaa
open Go.RowKit

theorem callFunc_order1 (args : Array Value) (W : World) : (callFunc 128 args).run Try.prog W = .ok (.enter 128 args) W := by kernel_rfl
theorem encF_snoc (f : Nat → Nat) (k : Nat) : encF f (k + 1) = encF f k ++ [.int .i64 (f k : Nat)] := by
  unfold encF
  rw [List.range_succ, List.map_append]
  rfl
/-- the groups in order: a slice of the call's own -/
def OrderIs (w : World) (ms : List MT) (last : Int) (n : Nat) (e : Ending) (w' : World) : Prop :=
  ∃ g cap f, e = .returned (.slice (some ⟨g, 0, none⟩) n cap) ∧ Once n n f ∧ SortedTo (cmpS ms last) f n ∧ w'.ownsRow w.heap.size 3 1 (.slice (some ⟨g, 0, none⟩) n cap) n (encF f n) ∧ Below w.heap.size w w'

set_option maxHeartbeats 1600000 in
set_option maxRecDepth 100000 in
theorem order_any' (bb eb : Nat) (gs : Gs) (secs : Int) (ms : List MT) (es : List Nat) (last : Int) (w : World) (h : IsBook w bb eb gs secs ms es) :
    Calls Try.prog 115 #[.pointer (some ⟨bb, 0, none⟩), .int .i64 last] w (OrderIs w ms last gs.length) := by
  obtain ⟨gb, gc, mv, mc, ec, c0, c1, c2, c3, hgs, hmp, hes, hmv, heb, hbb⟩ := h.parts
  have hr := rightB_spec h.right
  obtain ⟨i0, hi, hz0, hz1, hz2⟩ := info_parts infoI
  have HB := Lib.hid h
  obtain ⟨n, hn⟩ : ∃ n, n = gs.length := ⟨_, rfl⟩
  have hn4 := hr.2.1
  have hn1 := hr.1
  rw [← hn] at c2 hn4 hn1 ⊢
  have HN := Lib.hid hn
  obtain ⟨wB, hwB⟩ : ∃ wB, wB = (w.alloc (.cells #[.pointer (some ⟨bb, 0, none⟩)] 98)).alloc (.cells #[.int .i64 last] 3) := ⟨_, rfl⟩
  have hbB : Below w.heap.size w wB := by rw [hwB]; exact ((Below.refl _ _).alloc (Nat.le_refl _) _).alloc (by simp) _
  have hB0 : wB.cell? ⟨w.heap.size, 0, none⟩ = some (.pointer (some ⟨bb, 0, none⟩)) := by
    rw [hwB]
    exact ((Blk.new w 98 [.pointer (some ⟨bb, 0, none⟩)]).alloc _).cell 0
  have hB1 : wB.cell? ⟨w.heap.size + 1, 0, none⟩ = some (.int .i64 last) := by
    rw [hwB]
    exact (Blk.newAt (w := w.alloc (.cells #[.pointer (some ⟨bb, 0, none⟩)] 98)) 3 [.int .i64 last] (by simp)).cell 0
  have hBs : w.heap.size + 2 ≤ wB.heap.size := by rw [hwB]; simp
  have c2B : wB.cell? ⟨bb, 2, none⟩ = some (.slice (some ⟨mv, 0, none⟩) n mc) := (hbB.cell (p := ⟨bb, 2, none⟩) hbb).trans c2
  have HbB := Lib.hid hbB
  have H0 := Lib.hid hB0
  have H1 := Lib.hid hB1
  clear h c0 c1 c2 c3 hgs hmp hes hr hn hbB hB1
  go_enter Try.func115, Try.ntmps115
  go_upto_region 1 with fail
  rw [← hwB]
  clear hwB
  go_wp2_with fail
  clear hB0 c2B
  go_loopw [5, 12] (fun v i wr => ∃ k : Nat, k ≤ n ∧ i = .int .i64 k ∧ Hid (wr.ownsRow (w.heap.size + 2) 3 1 v k (encF (fun i => i) k)) ∧ Hid (Below (w.heap.size + 2) wB wr)) (fun _ i _ => n - (intOf i).toNat)
  case atStart => exact ⟨0, by omega, rfl, Lib.hid (World.ownsRow_nil _ _ _ _), Lib.hid (Below.refl _ _)⟩
  case round =>
    obtain ⟨k, hk, rfl, HOW, HBR⟩ := hrel
    have hsr := HBR.out.size
    by_cases hkn : k < n
    · obtain ⟨ao1, cap1, rfl, _⟩ := RSl.of_owns HOW.out
      go_wp2_with (at_builtin; go_must (refine wpList_append_own _ rfl (.tmp 15) (.tmp 17) 127 rfl (w.heap.size + 2) 3 i0 (.int .i64 0) 1 8 Try.underlying127 hi hz0 hz1 hz2 rfl (by decide) (.slice ao1 k cap1) k (encF (fun i => i) k) rfl (HOW.out.alloc _) ⟨wr.heap.size, 0, none⟩ 1 1 [.int .i64 (k : Nat)] rfl rfl (Blk.news (Blk.newAt (w := wr) 3 [.int .i64 (k : Nat)] (by simp))) (by simp [Value.oneCell']) (by unfold maxLen; omega) (by omega) (by simp; omega) ?_; intro v1 w1 hown1 hgrow1 _))
      rw [← encF_snoc (fun i => i) k] at hown1
      go_roundw
      case rel => exact ⟨k + 1, by omega, by go_num, Lib.hid hown1, Lib.hid (below_own (base := w.heap.size + 2) (HBR.out.alloc (by omega) _) (HOW.out.alloc _) hgrow1 (by simp; omega) (Nat.le_refl _))⟩
      case measure => simp [intOf]; omega
    · have hkn' : k = n := by omega
      subst hkn'
      obtain ⟨g, cap, rfl, hg⟩ := owns_headv HOW.out (by omega)
      have hglt := (HOW.out.lt g rfl).2
      have hBr : Below w.heap.size w wr := HbB.out.trans (HBR.out.mono (by omega))
      have hbook := HB.out.below hBr
      have hfl := hbook.lt
      have hfoot : ∀ x, foot bb eb ms x → x ≠ g := fun x hx e => by have := HB.out.lt x hx; omega
      obtain ⟨cs, hgb, _⟩ := owns_blk HOW.out
      have hq0 : wr.cell? ⟨w.heap.size, 0, none⟩ = some (.pointer (some ⟨bb, 0, none⟩)) := (HBR.out.cell (p := ⟨w.heap.size, 0, none⟩) (by show w.heap.size < w.heap.size + 2; omega)).trans H0.out
      have hq1 : wr.cell? ⟨w.heap.size + 1, 0, none⟩ = some (.int .i64 last) := (HBR.out.cell (p := ⟨w.heap.size + 1, 0, none⟩) (by show w.heap.size + 1 < w.heap.size + 2; omega)).trans H1.out
      have HS := Lib.hid (sortFunc_any 128 #[.pointer (some ⟨w.heap.size, 0, none⟩), .pointer (some ⟨w.heap.size + 1, 0, none⟩)] (cmpS ms last) (w.heap.size + 2) g k k cap (fun i => i) wr HOW.out (by omega) hn4 ⟨fun i hi => hi, fun i j _ _ h => h, fun y hy => ⟨y, hy, rfl⟩⟩ (cmpS_swo ms last k) callFunc_order1 (fun x y hx hy W hW => by
        have hMod : Mod (fun t => t = g) wr W := Mod.grown hW rfl
        have hty : TyOk wr (fun t => t = g) := fun t ht _ => by subst ht; exact ⟨_, _, hgb, .inr (.inr rfl)⟩
        have hb2 := hbook.keep hMod hty (fun x hx e => hfoot x hx e)
        refine order1_any w.heap.size (w.heap.size + 1) bb eb gs secs ms es last x y W hb2 ?_ ?_ (by have := HN.out; omega) (by have := HN.out; omega)
        · rw [World.cell?_of_block (w := wr) (hMod.block w.heap.size (by omega) (by show ¬ w.heap.size = g; omega))]; exact hq0
        · rw [World.cell?_of_block (w := wr) (hMod.block (w.heap.size + 1) (by omega) (by show ¬ w.heap.size + 1 = g; omega))]; exact hq1))
      have HBr := Lib.hid hBr
      clear hbook hfl hfoot hgb hq0 hq1 hBr
      go_wp2_with fail
      refine HS.out.mono ?_
      rintro e w1 ⟨rfl, f, ho, hs, how, hgr⟩
      have hfin : OrderIs w ms last k (.returned (.slice (some ⟨g, 0, none⟩) k cap)) w1 := ⟨g, cap, f, rfl, ho, hs, owns_weaken how (by omega), HBr.out.grown hgr HBr.out.size (fun t ht => by simp only [Option.some.injEq] at ht; omega)⟩
      clear ho hs how hgr
      go_wp2_with fail
      go_ret
      exact hfin
end Go.Proofs.Ytmnhdpojonlfhaa
