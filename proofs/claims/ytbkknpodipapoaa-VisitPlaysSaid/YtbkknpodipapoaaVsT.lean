/- The walk of the library's stable sort at pointers. -/
import Derived.Test.YtbkknpodipapoaaVsU
import Derived.Test.YtbkknpodipapoaaVsS
namespace Go.Proofs.Ytbkknpodipapoaa
open Go.RowKit
set_option linter.unusedSimpArgs false
attribute [local go_sem ↓] Go.wp_at_zero Go.wp_at_succ

theorem symMerge_any (F : Nat) (el : Nat → PtrT) (c : Nat → Nat → Int) (base g n cap : Nat) (hm : n ≤ 1000) (hc : SwoL c) (hF : CmpOk F el c) : ∀ N, SymIH F el c base g n cap N
  | 0 => fun a m b f w _ _ _ _ h _ => by omega
  | N + 1 => fun a m b f w h h1 h2 h3 h4 hok => by
    have ih := symMerge_any F el c base g n cap hm hc hF N
    by_cases e1 : m = a + 1
    · subst e1
      exact symL_any F el c base g n cap a b f w h h2 h3 hm hc hF hok
    · by_cases e2 : b = m + 1
      · subst e2
        exact symR_any F el c base g n cap a m f w h (by omega) h3 hm hc hF hok
      · exact symG_any F el c base g n cap a m b f w h (by omega) (by omega) h3 hm hc hF hok (fun a' m' b' f' w' r1 r2 r3 r4 r5 r6 => ih a' m' b' f' w' r1 r2 r3 r4 (by omega) r6)
set_option maxRecDepth 100000 in
set_option maxHeartbeats 6400000 in
theorem stable_any (F : Nat) (el : Nat → PtrT) (c : Nat → Nat → Int) (base g n cap : Nat) (w : World) (h : VRow w base g n cap el id) (hm : n ≤ 500) (hc : SwoL c) (hF : CmpOk F el c) :
    Calls Try.prog 37 #[.slice (some ⟨g, 0, none⟩) n cap, .int .i64 (n : Nat), .func (.func F) #[] #[]] w fun e w' => e = .returned (.tuple #[]) ∧ ∃ h, Bk c h 0 n ∧ VRow w' base g n cap el h ∧ w.grownBy w' (some g) := by
  have H0 := Lib.hid h
  have HF := Lib.hid hF
  have HC := Lib.hid hc
  have HSM := Lib.hid (symMerge_any F el c base g n cap (by omega) hc hF 100000)
  clear h hF hc
  go_enter Try.func37, Try.ntmps37
  go_wp2_with fail
  go_loopw [7, 8] (fun va vb wr => ∃ (a : Nat) (f : Nat → Nat), a ≤ n ∧ Hid (va = .int .i64 (a : Nat)) ∧ Hid (vb = .int .i64 ((a + 20 : Nat) : Int)) ∧ Hid (PreS c f 20 a) ∧ Hid (∀ p, a ≤ p → f p = p) ∧ Hid (VRow wr base g n cap el f) ∧ Hid (w.grownBy wr (some g))) (fun i j _ => n - (intOf i).toNat)
  case atStart => exact ⟨0, id, by omega, Lib.hid rfl, Lib.hid (by go_num), Lib.hid (PreS.zero c id (by omega)), Lib.hid (fun p _ => rfl), H0, Lib.hid (World.grownBy.refl _ _)⟩
  case round =>
    obtain ⟨a, f, han, hva, hvb, HP, HI, HO, HG⟩ := hrel
    obtain rfl := hva.out
    obtain rfl := hvb.out
    clear hva hvb H0
    have hnum : ∀ n', n' ≤ n → ∀ p q, a ≤ p → p < q → q < n' → f p < f q := fun n' _ p q h1 h2 h3 => by rw [HI.out p h1, HI.out q (by omega)]; exact h2
    have HNUM := Lib.hid hnum
    clear hnum
    by_cases hb : a + 20 ≤ n
    · have HC1 := Lib.hid (isortP_any F el c base g n cap a (a + 20) f wr HO.out (by omega) hb (by omega) HC.out HF.out (HNUM.out (a + 20) hb))
      have hbz : ((a + 20 : Nat) : Int) ≤ (n : Int) := by omega
      go_wp2_with fail
      refine HC1.out.mono ?_
      rintro e w1 ⟨rfl, f1, k0, k1, k2⟩
      have HS1 := Lib.hid (first_step (by omega) HP.out HI.out k0)
      have HO1 := Lib.hid k1
      have HG1 := Lib.hid (grown_trans HG.out k2)
      clear k0 k1 k2 HC1
      go_wp2_with fail
      go_roundw
      case rel => exact ⟨a + 20, f1, hb, Lib.hid (by go_num), Lib.hid (by go_num), Lib.hid HS1.out.1, Lib.hid HS1.out.2, HO1, HG1⟩
      case measure => simp [intOf]; omega
    · have hbz : ¬ ((a + 20 : Nat) : Int) ≤ (n : Int) := by omega
      have HC1 := Lib.hid (isortP_any F el c base g n cap a n f wr HO.out han (Nat.le_refl _) (by omega) HC.out HF.out (HNUM.out n (Nat.le_refl _)))
      go_wp2_with fail
      refine HC1.out.mono ?_
      rintro e w1 ⟨rfl, f1, k0, k1, k2⟩
      have HS1 := Lib.hid (first_last (by omega) HP.out HI.out han (by omega) k0)
      have HO1 := Lib.hid k1
      have HG1 := Lib.hid (grown_trans HG.out k2)
      clear k0 k1 k2 HC1 HO HG HP HI HNUM
      obtain ⟨wo, hwo⟩ : ∃ wo : World, wo = w1 := ⟨_, rfl⟩
      go_wp2_with fail
      go_loopw [6] (fun vs wr => ∃ (s : Nat) (f : Nat → Nat), 0 < s ∧ s ≤ 2 * n + 20 ∧ Hid (vs = .int .i64 (s : Nat)) ∧ Hid (SegS c f s n 0) ∧ Hid (VRow wr base g n cap el f) ∧ Hid (w.grownBy wr (some g))) (fun i _ => n - (intOf i).toNat)
      case atStart => exact ⟨20, f1, by omega, by omega, Lib.hid rfl, HS1, HO1, HG1⟩
      case round =>
        clear HS1 HO1 HG1 hwo
        obtain ⟨s, f, hs, hs2, hvs, HS, HO, HG⟩ := hrel
        obtain rfl := hvs.out
        clear hvs hb hbz
        by_cases hsn : s < n
        · obtain ⟨wo2, rfl⟩ : ∃ wo2 : World, wo2 = wr := ⟨_, rfl⟩
          have hd2 : IntKind.i64.wrap (2 * (s : Int)) = ((2 * s : Nat) : Int) := by rw [IntWalk.i64_in _ (by omega)]; omega
          go_wp2_with fail
          go_loopw [7, 8] (fun va vb wr => ∃ (a : Nat) (f : Nat → Nat), a ≤ n ∧ Hid (va = .int .i64 (a : Nat)) ∧ Hid (vb = .int .i64 ((a + 2 * s : Nat) : Int)) ∧ Hid (PreS c f (2 * s) a) ∧ Hid (SegS c f s n a) ∧ Hid (VRow wr base g n cap el f) ∧ Hid (w.grownBy wr (some g))) (fun i j _ => n - (intOf i).toNat)
          case atStart => exact ⟨0, f, by omega, Lib.hid rfl, Lib.hid (by go_num), Lib.hid (PreS.zero c f (by omega)), HS, HO, HG⟩
          case round =>
            clear HS HO HG
            obtain ⟨a, f, han, hva, hvb, HP, HS, HO, HG⟩ := hrel
            obtain rfl := hva.out
            obtain rfl := hvb.out
            clear hva hvb
            by_cases hb : a + 2 * s ≤ n
            · have HC1 := Lib.hid (HSM.out a (a + s) (a + 2 * s) f wr HO.out (by omega) (by omega) hb (by omega) (round_ok HS.out hs hb))
              have hbz : ((a + 2 * s : Nat) : Int) ≤ (n : Int) := by omega
              have e1 : IntKind.i64.wrap ((a : Int) + (s : Int)) = ((a + s : Nat) : Int) := by rw [IntWalk.i64_in _ (by omega)]; omega
              go_wp2_with fail
              rw [show ((a : Int) + 2 * (s : Int)) = ((a + 2 * s : Nat) : Int) by omega]
              refine HC1.out.mono ?_
              rintro e w1 ⟨rfl, f1, k0, k1, k2⟩
              have HS1 := Lib.hid (round_step hs HP.out HS.out hb k0)
              have HO1 := Lib.hid k1
              have HG1 := Lib.hid (grown_trans HG.out k2)
              clear k0 k1 k2 HC1
              go_wp2_with fail
              go_roundw
              case rel => exact ⟨a + 2 * s, f1, hb, Lib.hid (by go_num), Lib.hid (by go_num), Lib.hid HS1.out.1, Lib.hid HS1.out.2, HO1, HG1⟩
              case measure => simp [intOf]; omega
            · have hbz : ¬ ((a + 2 * s : Nat) : Int) ≤ (n : Int) := by omega
              by_cases hl : a + s < n
              · have HC1 := Lib.hid (HSM.out a (a + s) n f wr HO.out (by omega) hl (Nat.le_refl _) (by omega) (last_ok HS.out hs hl (by omega)))
                have e1 : IntKind.i64.wrap ((a : Int) + (s : Int)) = ((a + s : Nat) : Int) := by rw [IntWalk.i64_in _ (by omega)]; omega
                have e2 : ((a + s : Nat) : Int) < (n : Int) := by omega
                go_wp2_with fail
                refine HC1.out.mono ?_
                rintro e w1 ⟨rfl, f1, k0, k1, k2⟩
                have HS1 := Lib.hid (last_step hs HP.out HS.out hl (by omega) k0)
                have HO1 := Lib.hid k1
                have HG1 := Lib.hid (grown_trans HG.out k2)
                clear k0 k1 k2 HC1
                go_wp2_with fail
                go_roundw
                case rel => exact ⟨2 * s, f1, by omega, by omega, Lib.hid (by go_num), HS1, HO1, HG1⟩
                case measure => simp [intOf]; omega
              · have HS1 := Lib.hid (last_none hs HP.out HS.out han (by omega))
                have e2 : ¬ ((a + s : Nat) : Int) < (n : Int) := by omega
                go_wp2_with fail
                go_roundw
                case rel => exact ⟨2 * s, f, by omega, by omega, Lib.hid (by go_num), HS1, HO, HG⟩
                case measure => simp [intOf]; omega
        · have HB := Lib.hid (HS.out.all (by omega))
          go_wp2_with fail
          go_end0
          exact ⟨rfl, f, HB.out, HO.out, HG.out⟩
set_option maxRecDepth 100000 in
theorem sortStable_any (F : Nat) (el : Nat → PtrT) (c : Nat → Nat → Int) (base g n cap : Nat) (w : World) (h : VRow w base g n cap el id) (hm : n ≤ 500) (hc : SwoL c) (hF : CmpOk F el c) :
    Calls Try.prog 24 #[.slice (some ⟨g, 0, none⟩) n cap, .func (.func F) #[] #[]] w fun e w' => e = .returned (.tuple #[]) ∧ ∃ h, Bk c h 0 n ∧ VRow w' base g n cap el h ∧ w.grownBy w' (some g) := by
  have HC1 := Lib.hid (stable_any F el c base g n cap w h hm hc hF)
  clear h hc hF
  go_enter Try.func24, Try.ntmps24
  go_wp2_with fail
  refine HC1.out.mono ?_
  rintro e w1 ⟨rfl, hp⟩
  have HP := Lib.hid hp
  clear hp
  go_wp2_with fail
  go_end0
  exact ⟨rfl, HP.out⟩
end Go.Proofs.Ytbkknpodipapoaa
