/- The walks of swapRange and rotate at pointers. -/
import Derived.Test.YtbkknpodipapoaaVsW
import Derived.Test.YtbkknpodipapoaaBig
namespace Go.Proofs.Ytbkknpodipapoaa
open Go.RowKit
set_option linter.unusedSimpArgs false
attribute [local go_sem ↓] Go.wp_at_zero Go.wp_at_succ

theorem encPtr_one (p : PtrT) : ∀ u ∈ encPtr p, u.oneCell' = true := by
  intro u hu
  simp only [encPtr, List.mem_cons, List.not_mem_nil, or_false] at hu
  rcases hu with rfl | rfl | rfl | rfl | rfl | rfl | rfl | rfl | rfl | rfl | rfl | rfl <;> rfl
theorem infoSz : (Try.prog.info? 30).map (·.size) = some 12 := by kernel_rfl
theorem wp_loadP {dst : Option Tmp} {x : Operand} {ty : TypeId} {pos : String} {after : Array Edge} {guard : Option (Nat × Bool)} {a : Act} {w : World} {next : Act → World → Prop} {Q : Exit → Act → World → Prop} :
    Oper.wp Try.prog ⟨dst, .load 30 x, ty, pos, after, guard⟩ a w next Q = LoadW Try.prog ⟨dst, .load 30 x, ty, pos, after, guard⟩ 30 (a.eval x) a w next Q := rfl
theorem wp_storeP {dst : Option Tmp} {x y : Operand} {ty : TypeId} {pos : String} {after : Array Edge} {guard : Option (Nat × Bool)} {a : Act} {w : World} {next : Act → World → Prop} {Q : Exit → Act → World → Prop} :
    Oper.wp Try.prog ⟨dst, .store 30 x y, ty, pos, after, guard⟩ a w next Q = StoreW Try.prog ⟨dst, .store 30 x y, ty, pos, after, guard⟩ 30 (a.eval x) (a.eval y) a w next Q := rfl
theorem quiet_loadP {C : World → Prop} {dst : Option Tmp} {x : Operand} {ty : TypeId} {pos : String} {after : Array Edge} {guard : Option (Nat × Bool)} {a : Act} {w : World} {v : Value} :
    Oper.quietAt Try.prog ⟨dst, .load 30 x, ty, pos, after, guard⟩ a C w v = LoadQ Try.prog C 30 (a.eval x) w v := rfl
theorem load_ptr {w : World} {g o : Nat} {p : PtrT} (h : w.rangeAt g o (encPtr p)) (op : Oper) (a : Act) (next : Act → World → Prop) (Q : Exit → Act → World → Prop) : LoadW Try.prog op 30 (.pointer (some ⟨g, o, none⟩)) a w next Q = next (a.put op.dst (.agg (encPtr p).toArray)) w :=
  loadW_mid h Try.underlying30 rfl infoSz op a next Q
theorem store_ptr {w : World} {g o : Nat} (p : PtrT) (h : w.there g o 12) (op : Oper) (a : Act) (next : Act → World → Prop) (Q : Exit → Act → World → Prop) : StoreW Try.prog op 30 (.pointer (some ⟨g, o, none⟩)) (.agg (encPtr p).toArray) a w next Q = next (a.put op.dst undef) (w.setCells g o (encPtr p)) :=
  storeW_mid h infoSz (encPtr_one p) op a next Q
abbrev VRow (w : World) (base g n cap : Nat) (el : Nat → PtrT) (f : Nat → Nat) : Prop := w.ownsRow base 30 12 (.slice (some ⟨g, 0, none⟩) n cap) n (encE el f n)
theorem swap_facts {W : World} {base g n cap : Nat} {el : Nat → PtrT} {f : Nat → Nat} (h : VRow W base g n cap el f) {p q : Nat} (hp : p < n) (hq : q < n) (hne : p ≠ q) : ∃ cx cy : List Value,
    (∀ op a next Q, LoadW Try.prog op 30 (.pointer (some ⟨g, p * 12, none⟩)) a W next Q = next (a.put op.dst (.agg cx.toArray)) W) ∧
    (∀ op a next Q, LoadW Try.prog op 30 (.pointer (some ⟨g, q * 12, none⟩)) a W next Q = next (a.put op.dst (.agg cy.toArray)) W) ∧
    (∀ op a next Q, StoreW Try.prog op 30 (.pointer (some ⟨g, p * 12, none⟩)) (.agg cy.toArray) a W next Q = next (a.put op.dst undef) (W.setCells g (p * 12) cy)) ∧
    (∀ op a next Q, StoreW Try.prog op 30 (.pointer (some ⟨g, q * 12, none⟩)) (.agg cx.toArray) a (W.setCells g (p * 12) cy) next Q = next (a.put op.dst undef) ((W.setCells g (p * 12) cy).setCells g (q * 12) cx)) ∧
    Hid (VRow ((W.setCells g (p * 12) cy).setCells g (q * 12) cx) base g n cap el (sw2 f p q)) ∧ Hid (W.grownBy ((W.setCells g (p * 12) cy).setCells g (q * 12) cx) (some g)) := by
  have h1 := row_store h hp (f q)
  have h2 := row_store h1 hq (f p)
  rw [encE_congr (el := el) (n := n) (fun t _ => (upd_sw2 f p q t).resolve_right hne)] at h2
  exact ⟨encPtr (el (f p)), encPtr (el (f q)), load_ptr (row_range h hp), load_ptr (row_range h hq), store_ptr (el (f q)) (row_there h hp), store_ptr (el (f p)) (row_there h1 hq), h2, grown_trans (setCells_grown _ _ _ _) (setCells_grown _ _ _ _)⟩
theorem read_facts {W : World} {base g n cap : Nat} {el : Nat → PtrT} {f : Nat → Nat} (h : VRow W base g n cap el f) {p : Nat} (hp : p < n) : ∃ cx : List Value, Hid (cx = encPtr (el (f p))) ∧
    ∀ (b : BW W) (C : World → Prop) (v : Value), LoadQ Try.prog C 30 (.pointer (some ⟨g, p * 12, none⟩)) b.w v = (Value.agg cx.toArray = v) :=
  ⟨_, rfl, fun b C v => loadQ_mid (row_range (owns_below h b.bel) hp) Try.underlying30 rfl infoSz C v⟩
attribute [local go_sem ↓] wp_loadP wp_storeP quiet_loadP
set_option maxRecDepth 100000 in
set_option maxHeartbeats 3200000 in
theorem swapRange_any (fv : Value) (el : Nat → PtrT) (base g n cap x y cnt : Nat) (f : Nat → Nat) (w : World) (h : VRow w base g n cap el f) (hx : x + cnt ≤ n) (hy : y + cnt ≤ n) (hd : x + cnt ≤ y ∨ y + cnt ≤ x) (hm : n ≤ 1000) :
    Calls Try.prog 46 #[.slice (some ⟨g, 0, none⟩) n cap, .int .i64 (x : Nat), .int .i64 (y : Nat), .int .i64 (cnt : Nat), fv] w fun e w' => e = .returned (.tuple #[]) ∧ ∃ f', Sw f f' x y cnt ∧ VRow w' base g n cap el f' ∧ w.grownBy w' (some g) := by
  have H0 := Lib.hid h
  clear h
  go_enter Try.func46, Try.ntmps46
  go_wp2_with fail
  go_loopw [10] (fun i wr => ∃ (k : Nat) (f' : Nat → Nat), k ≤ cnt ∧ i = .int .i64 (k : Nat) ∧ Hid (Sw f f' x y k) ∧ Hid (VRow wr base g n cap el f') ∧ Hid (w.grownBy wr (some g))) (fun i _ => cnt - (intOf i).toNat)
  case atStart => exact ⟨0, f, by omega, rfl, Lib.hid (Sw.zero f x y), H0, Lib.hid (World.grownBy.refl _ _)⟩
  case round =>
    obtain ⟨k, f', hk, rfl, HS, HO, HG⟩ := hrel
    clear H0
    by_cases hkc : k < cnt
    · have a1 : IntKind.i64.wrap ((x : Int) + (k : Int)) = (x : Int) + (k : Int) := IntWalk.i64_in _ (by omega)
      have a2 : IntKind.i64.wrap ((y : Int) + (k : Int)) = (y : Int) + (k : Int) := IntWalk.i64_in _ (by omega)
      have b1 : (0 : Int) ≤ (x : Int) + (k : Int) := by omega
      have b2 : (0 : Int) ≤ (y : Int) + (k : Int) := by omega
      have b3 : (x : Int) + (k : Int) < (n : Int) := by omega
      have b4 : (y : Int) + (k : Int) < (n : Int) := by omega
      have n1 : ((x : Int) + (k : Int)).toNat = x + k := by omega
      have n2 : ((y : Int) + (k : Int)).toNat = y + k := by omega
      obtain ⟨cx, cy, l1, l2, s1, s2, HO2, HG2⟩ := swap_facts (W := wr.drew) HO.out (show x + k < n by omega) (show y + k < n by omega) (by omega)
      have HST := Lib.hid (HS.out.step (show x + k < y ∨ y + k < x by omega))
      go_wp2_with fail
      go_big_region
      all_goals go_wp2_with fail
      go_roundw
      case rel => exact ⟨k + 1, _, by omega, by go_num, HST, HO2, Lib.hid (grown_trans HG.out (grown_trans (grown_drew _ _) HG2.out))⟩
      case measure => simp [intOf]; omega
    · obtain rfl : k = cnt := by omega
      go_wp2_with fail
      go_end0
      exact ⟨rfl, f', HS.out, HO.out, HG.out⟩
set_option maxRecDepth 100000 in
set_option maxHeartbeats 3200000 in
theorem rotate_any (fv : Value) (el : Nat → PtrT) (base g n cap a m b : Nat) (f : Nat → Nat) (w : World) (h : VRow w base g n cap el f) (ham : a < m) (hmb : m < b) (hb : b ≤ n) (hm : n ≤ 1000) :
    Calls Try.prog 45 #[.slice (some ⟨g, 0, none⟩) n cap, .int .i64 (a : Nat), .int .i64 (m : Nat), .int .i64 (b : Nat), fv] w fun e w' => e = .returned (.tuple #[]) ∧ ∃ h, RotIs f h a m b ∧ VRow w' base g n cap el h ∧ w.grownBy w' (some g) := by
  have H0 := Lib.hid h
  have c1 : IntKind.i64.wrap ((m : Int) - (a : Int)) = ((m - a : Nat) : Int) := by rw [IntWalk.i64_in _ (by omega)]; omega
  have c2 : IntKind.i64.wrap ((b : Int) - (m : Int)) = ((b - m : Nat) : Int) := by rw [IntWalk.i64_in _ (by omega)]; omega
  clear h
  go_enter Try.func45, Try.ntmps45
  go_wp2_with fail
  go_loopw [10, 11] (fun vi vj wr => ∃ (i j : Nat) (f' : Nat → Nat), 0 < i ∧ 0 < j ∧ i ≤ m - a ∧ j ≤ b - m ∧ vi = .int .i64 (i : Nat) ∧ vj = .int .i64 (j : Nat) ∧ Hid (∀ h, RotIs f' h (m - i) m (m + j) → RotIs f h a m b) ∧ Hid (VRow wr base g n cap el f') ∧ Hid (w.grownBy wr (some g))) (fun i j _ => (intOf i).toNat + (intOf j).toNat)
  case atStart => exact ⟨m - a, b - m, f, by omega, by omega, by omega, by omega, by go_num, by go_num, Lib.hid (fun h hr => by rw [show m - (m - a) = a by omega, show m + (b - m) = b by omega] at hr; exact hr), H0, Lib.hid (World.grownBy.refl _ _)⟩
  case round =>
    obtain ⟨i, j, f', hi, hj, him, hjm, rfl, rfl, HS, HO, HG⟩ := hrel
    clear H0 c1 c2
    have d1 : IntKind.i64.wrap ((m : Int) - (i : Int)) = ((m - i : Nat) : Int) := by rw [IntWalk.i64_in _ (by omega)]; omega
    rcases Nat.lt_trichotomy i j with hij | hij | hij
    · have d2 : IntKind.i64.wrap ((m : Int) + (j : Int)) = ((m + j : Nat) : Int) := by rw [IntWalk.i64_in _ (by omega)]; omega
      have d3 : IntKind.i64.wrap (((m + j : Nat) : Int) - (i : Int)) = ((m + j - i : Nat) : Int) := by rw [IntWalk.i64_in _ (by omega)]; omega
      have d4 : IntKind.i64.wrap ((j : Int) - (i : Int)) = ((j - i : Nat) : Int) := by rw [IntWalk.i64_in _ (by omega)]; omega
      have HC := Lib.hid (swapRange_any fv el base g n cap (m - i) (m + j - i) i f' wr HO.out (by omega) (by omega) (by omega) hm)
      have HR := Lib.hid (fun g' (hs : Sw f' g' (m - i) (m + j - i) i) h (hr : RotIs g' h (m - i) m (m + (j - i))) => HS.out h (rot_less (by omega) hij hs hr))
      have hne : ((i : Int) = (j : Int)) = False := by simp; omega
      have hgt : ¬ (j : Int) < (i : Int) := by omega
      go_wp2_with fail
      rw [show (m : Int) + (j : Int) - (i : Int) = ((m + j - i : Nat) : Int) by omega]
      refine HC.out.mono ?_
      rintro e w1 ⟨rfl, f1, hs, h1, h2⟩
      have hn := HR.out f1 hs
      go_wp2_with fail
      go_roundw
      case rel => exact ⟨i, j - i, f1, hi, by omega, him, by omega, rfl, by go_num, Lib.hid hn, h1, Lib.hid (grown_trans HG.out h2)⟩
      case measure => simp [intOf]; omega
    · subst hij
      have HC := Lib.hid (swapRange_any fv el base g n cap (m - i) m i f' wr HO.out (by omega) (by omega) (by omega) hm)
      go_wp2_with fail
      refine HC.out.mono ?_
      rintro e w1 ⟨rfl, f1, hs, h1, h2⟩
      have hn := HS.out f1 (rot_last (by omega) hs)
      go_wp2_with fail
      go_end0
      exact ⟨rfl, f1, hn, h1, grown_trans HG.out h2⟩
    · have d4 : IntKind.i64.wrap ((i : Int) - (j : Int)) = ((i - j : Nat) : Int) := by rw [IntWalk.i64_in _ (by omega)]; omega
      have HC := Lib.hid (swapRange_any fv el base g n cap (m - i) m j f' wr HO.out (by omega) (by omega) (by omega) hm)
      have HR := Lib.hid (fun g' (hs : Sw f' g' (m - i) m j) h (hr : RotIs g' h (m - i + j) m (m + j)) => HS.out h (rot_more (by omega) hij hs hr))
      have hne : ((i : Int) = (j : Int)) = False := by simp; omega
      have hgt : (j : Int) < (i : Int) := by omega
      go_wp2_with fail
      refine HC.out.mono ?_
      rintro e w1 ⟨rfl, f1, hs, h1, h2⟩
      have hn := HR.out f1 hs
      go_wp2_with fail
      go_roundw
      case rel => exact ⟨i - j, j, f1, by omega, hj, by omega, hjm, by go_num, rfl, Lib.hid (fun h hr => hn h (by rw [show m - (i - j) = m - i + j by omega] at hr; exact hr)), h1, Lib.hid (grown_trans HG.out h2)⟩
      case measure => simp [intOf]; omega
end Go.Proofs.Ytbkknpodipapoaa
