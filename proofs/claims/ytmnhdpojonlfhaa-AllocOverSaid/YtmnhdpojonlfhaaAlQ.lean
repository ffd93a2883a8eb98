/- The walk of the library's insertion sort at ints, and SortFunc of few. -/
import Derived.Test.YtmnhdpojonlfhaaAlB
import Derived.Test.YtmnhdpojonlfhaaCore3
import Derived.Deep.RegionHeld3
import Derived.Deep.DrawnRows
import Derived.Deep.QuietTactic
import Derived.BigQuiet
namespace Go.Proofs.Ytmnhdpojonlfhaa
open Go.RowKit
attribute [local go_sem ↓] Go.wp_at_zero Go.wp_at_succ

def encF (f : Nat → Nat) (n : Nat) : List Value := (List.range n).map fun i => .int .i64 (f i : Nat)
theorem encF_length (f : Nat → Nat) (n : Nat) : (encF f n).length = n := by simp [encF]
theorem encF_get (f : Nat → Nat) (n j : Nat) (h : j < n) : (encF f n)[j]? = some (.int .i64 (f j : Nat)) := by simp [encF, h]
theorem encF_one (f : Nat → Nat) (n : Nat) : ∀ u ∈ encF f n, u.oneCell' = true := by
  intro u hu
  obtain ⟨s, _, rfl⟩ := List.mem_map.1 hu
  rfl
/-- two neighbours exchanged -/
def sw (f : Nat → Nat) (j : Nat) (i : Nat) : Nat := if i = j then f (j - 1) else if i = j - 1 then f j else f i
theorem encF_sw (f : Nat → Nat) (n j : Nat) (h0 : 0 < j) (h : j < n) : ((encF f n).set j (.int .i64 (f (j - 1) : Nat))).set (j - 1) (.int .i64 (f j : Nat)) = encF (sw f j) n := by
  apply List.ext_getElem?
  intro t
  simp only [List.getElem?_set, List.length_set, encF_length]
  rcases Nat.lt_or_ge t n with ht | ht
  · rw [encF_get _ _ _ ht, encF_get _ _ _ ht]
    unfold sw
    by_cases e1 : j - 1 = t
    · rw [if_pos e1, if_pos (by omega), if_neg (by omega), if_pos e1.symm]
    · rw [if_neg e1]
      by_cases e2 : j = t
      · rw [if_pos e2, if_pos (by omega), if_pos e2.symm]
      · rw [if_neg e2, if_neg (fun h => e2 h.symm), if_neg (fun h => e1 h.symm)]
  · rw [if_neg (by omega), if_neg (by omega), List.getElem?_eq_none (by rw [encF_length]; exact ht), List.getElem?_eq_none (by rw [encF_length]; exact ht)]

/-- a strict weak order on what is below m -/
structure Swo (m : Nat) (c : Nat → Nat → Int) : Prop where
  asymm : ∀ x y, x < m → y < m → c x y < 0 → ¬ c y x < 0
  ntrans : ∀ x y z, x < m → y < m → z < m → ¬ c x y < 0 → ¬ c y z < 0 → ¬ c x z < 0
/-- places of all that is below m, each once -/
structure Once (n m : Nat) (f : Nat → Nat) : Prop where
  lt : ∀ i, i < n → f i < m
  inj : ∀ i j, i < n → j < n → f i = f j → i = j
  surj : ∀ y, y < m → ∃ i, i < n ∧ f i = y
def SortedTo (c : Nat → Nat → Int) (f : Nat → Nat) (i : Nat) : Prop := ∀ p q, p < q → q < i → ¬ c (f q) (f p) < 0
/-- all but place j are sorted, and what is behind j isn't less -/
def SortedBut (c : Nat → Nat → Int) (f : Nat → Nat) (i j : Nat) : Prop := (∀ p q, p < q → q ≤ i → p ≠ j → q ≠ j → ¬ c (f q) (f p) < 0) ∧ ∀ q, j < q → q ≤ i → ¬ c (f q) (f j) < 0
theorem once_sw {n m : Nat} {f : Nat → Nat} (h : Once n m f) {j : Nat} (h0 : 0 < j) (hj : j < n) : Once n m (sw f j) := by
  refine ⟨fun i hi => ?_, fun a b ha hb he => ?_, fun y hy => ?_⟩
  · unfold sw
    split
    · exact h.lt _ (by omega)
    · split
      · exact h.lt _ hj
      · exact h.lt _ hi
  · have hs : ∀ t, t ≠ j → t ≠ j - 1 → sw f j t = f t := fun t h1 h2 => by unfold sw; rw [if_neg h1, if_neg h2]
    have hsj : sw f j j = f (j - 1) := by unfold sw; rw [if_pos rfl]
    have hsj1 : sw f j (j - 1) = f j := by unfold sw; rw [if_neg (by omega), if_pos rfl]
    by_cases a1 : a = j
    · rw [a1, hsj] at he
      by_cases b1 : b = j
      · omega
      · by_cases b2 : b = j - 1
        · rw [b2, hsj1] at he; have := h.inj _ _ (by omega) hj he; omega
        · rw [hs b b1 b2] at he; have := h.inj _ _ (by omega) hb he; omega
    · by_cases a2 : a = j - 1
      · rw [a2, hsj1] at he
        by_cases b1 : b = j
        · rw [b1, hsj] at he; have := h.inj _ _ hj (by omega) he; omega
        · by_cases b2 : b = j - 1
          · omega
          · rw [hs b b1 b2] at he; have := h.inj _ _ hj hb he; omega
      · rw [hs a a1 a2] at he
        by_cases b1 : b = j
        · rw [b1, hsj] at he; have := h.inj _ _ ha (by omega) he; omega
        · by_cases b2 : b = j - 1
          · rw [b2, hsj1] at he; have := h.inj _ _ ha hj he; omega
          · rw [hs b b1 b2] at he; exact h.inj _ _ ha hb he
  · obtain ⟨i, hi, he⟩ := h.surj y hy
    by_cases e1 : i = j
    · exact ⟨j - 1, by omega, by unfold sw; rw [if_neg (by omega), if_pos rfl, ← e1]; exact he⟩
    · by_cases e2 : i = j - 1
      · exact ⟨j, hj, by unfold sw; rw [if_pos rfl, ← e2]; exact he⟩
      · exact ⟨i, hi, by unfold sw; rw [if_neg e1, if_neg e2]; exact he⟩
/-- the order is one -/
theorem sorted_uniq {n : Nat} {c : Nat → Nat → Int} {f f' : Nat → Nat} (ho : Once n n f) (ho' : Once n n f') (hs : SortedTo c f n) (hs' : SortedTo c f' n) (ht : ∀ x y, x < n → y < n → x ≠ y → c x y < 0 ∨ c y x < 0) : ∀ i, i < n → f i = f' i := by
  intro i
  induction i using Nat.strongRecOn with
  | _ i ih =>
    intro hi
    rcases Nat.decEq (f i) (f' i) with hne | he
    · obtain ⟨p, hp, hpe⟩ := ho'.surj (f i) (ho.lt i hi)
      obtain ⟨q, hq, hqe⟩ := ho.surj (f' i) (ho'.lt i hi)
      have hpi : i < p := by
        rcases Nat.lt_trichotomy p i with h | h | h
        · have h1 := ih p h hp
          have := ho.inj p i hp hi (h1.trans hpe)
          omega
        · rw [h] at hpe; exact absurd hpe.symm hne
        · exact h
      have hqi : i < q := by
        rcases Nat.lt_trichotomy q i with h | h | h
        · have h1 := ih q h hq
          have := ho'.inj q i hq hi (h1.symm.trans hqe)
          omega
        · rw [h] at hqe; exact absurd hqe hne
        · exact h
      have a1 := hs' i p hpi hp
      have a2 := hs i q hqi hq
      rw [hpe] at a1
      rw [hqe] at a2
      rcases ht (f i) (f' i) (ho.lt i hi) (ho'.lt i hi) hne with h | h
      · exact absurd h a1
      · exact absurd h a2
    · exact he
theorem sorted_start {c : Nat → Nat → Int} {f : Nat → Nat} {i : Nat} (h : SortedTo c f i) : SortedBut c f i i :=
  ⟨fun p q h1 h2 _ h4 => h p q h1 (by omega), fun q h1 h2 => by omega⟩
theorem sorted_end {n m : Nat} {c : Nat → Nat → Int} {f : Nat → Nat} {i j : Nat} (hc : Swo m c) (ho : Once n m f) (hi : i < n) (hj : j ≤ i) (h : SortedBut c f i j) (he : j = 0 ∨ ¬ c (f j) (f (j - 1)) < 0) : SortedTo c f (i + 1) := by
  intro p q h1 h2
  by_cases e1 : q = j
  · subst e1
    rcases he with he | he
    · omega
    · by_cases e2 : p = q - 1
      · rw [e2]; exact he
      · exact hc.ntrans _ _ _ (ho.lt _ (by omega)) (ho.lt _ (by omega)) (ho.lt _ (by omega)) he (h.1 p (q - 1) (by omega) (by omega) (by omega) (by omega))
  · by_cases e2 : p = j
    · subst e2; exact h.2 q h1 (by omega)
    · exact h.1 p q h1 (by omega) e2 e1
theorem sorted_sw {n m : Nat} {c : Nat → Nat → Int} {f : Nat → Nat} {i j : Nat} (hc : Swo m c) (ho : Once n m f) (hi : i < n) (h0 : 0 < j) (hj : j ≤ i) (h : SortedBut c f i j) (hlt : c (f j) (f (j - 1)) < 0) : SortedBut c (sw f j) i (j - 1) := by
  have hs : ∀ t, t ≠ j → t ≠ j - 1 → sw f j t = f t := fun t h1 h2 => by unfold sw; rw [if_neg h1, if_neg h2]
  have hsj : sw f j j = f (j - 1) := by unfold sw; rw [if_pos rfl]
  have hsj1 : sw f j (j - 1) = f j := by unfold sw; rw [if_neg (by omega), if_pos rfl]
  refine ⟨fun p q h1 h2 h3 h4 => ?_, fun q h1 h2 => ?_⟩
  · by_cases e1 : q = j
    · rw [e1, hsj, hs p (by omega) (by omega)]
      exact h.1 p (j - 1) (by omega) (by omega) (by omega) (by omega)
    · by_cases e2 : p = j
      · rw [e2, hsj, hs q e1 (by omega)]
        exact h.1 (j - 1) q (by omega) h2 (by omega) e1
      · rw [hs p e2 h3, hs q e1 h4]
        exact h.1 p q h1 h2 e2 e1
  · rw [hsj1]
    by_cases e1 : q = j
    · rw [e1, hsj]
      exact hc.asymm _ _ (ho.lt _ (by omega)) (ho.lt _ (by omega)) hlt
    · rw [hs q e1 (by omega)]
      exact h.2 q (by omega) h2

/-- behind a sort: another order of the same -/
def Sorted (w : World) (base g n m cap : Nat) (c : Nat → Nat → Int) (w' : World) : Prop := ∃ f, Once n m f ∧ SortedTo c f n ∧ w'.ownsRow base 3 1 (.slice (some ⟨g, 0, none⟩) n cap) n (encF f n) ∧ w.grownBy w' (some g)

set_option maxHeartbeats 3200000 in
set_option maxRecDepth 100000 in
theorem isort_any (F : Nat) (capt : Array Value) (c : Nat → Nat → Int) (base g n m cap : Nat) (f : Nat → Nat) (w : World) (h : w.ownsRow base 3 1 (.slice (some ⟨g, 0, none⟩) n cap) n (encF f n)) (hn : 0 < n) (hm : n ≤ 1000) (ho : Once n m f) (hc : Swo m c)
    (hF : ∀ args W, (callFunc F args).run Try.prog W = .ok (.enter F args) W)
    (hf : ∀ x y, x < m → y < m → ∀ W, w.grownBy W (some g) → Calls Try.prog F (#[.int .i64 (x : Nat), .int .i64 (y : Nat)] ++ capt) W fun e W' => e = .returned (.int .i64 (c x y)) ∧ Below W.heap.size W W') :
    Calls Try.prog 136 #[.slice (some ⟨g, 0, none⟩) n cap, .int .i64 0, .int .i64 n, .func (.func F) #[] capt] w fun e w' => e = .returned (.tuple #[]) ∧ Sorted w base g n m cap c w' := by
  have HF := Lib.hid hf
  have HO0 := Lib.hid ho
  have H0 := Lib.hid h
  have HC := Lib.hid hc
  clear hf ho h hc
  go_enter Try.func136, Try.ntmps136
  go_wp2_with fail
  go_loopw [8] (fun i wr => ∃ (k : Nat) (f : Nat → Nat), 1 ≤ k ∧ k ≤ n ∧ i = .int .i64 k ∧ Hid (Once n m f) ∧ Hid (SortedTo c f k) ∧ Hid (wr.ownsRow base 3 1 (.slice (some ⟨g, 0, none⟩) n cap) n (encF f n)) ∧ Hid (w.grownBy wr (some g))) (fun i _ => n - (intOf i).toNat)
  case atStart => exact ⟨1, f, by omega, by omega, rfl, HO0, Lib.hid (fun p q h1 h2 => by omega), H0, Lib.hid (World.grownBy.refl _ _)⟩
  case round =>
    obtain ⟨k, f, hk1, hk, rfl, HO, HST, HOW, HG⟩ := hrel
    clear HO0 H0
    by_cases hkn : k < n
    · obtain ⟨wo, rfl⟩ : ∃ wo : World, wo = wr := ⟨_, rfl⟩
      go_wp2_with fail
      go_loopw [9] (fun i wr => ∃ (j : Nat) (f : Nat → Nat), j ≤ k ∧ i = .int .i64 j ∧ Hid (Once n m f) ∧ Hid (SortedBut c f k j) ∧ Hid (wr.ownsRow base 3 1 (.slice (some ⟨g, 0, none⟩) n cap) n (encF f n)) ∧ Hid (w.grownBy wr (some g))) (fun i _ => (intOf i).toNat)
      case atStart => exact ⟨k, f, by omega, rfl, HO, Lib.hid (sorted_start HST.out), HOW, HG⟩
      case round =>
        obtain ⟨j, f', hj, rfl, HO', HSB, HOW', HG'⟩ := hrel
        by_cases hj0 : j = 0
        · have hd : decide (0 < j) = false := by simp; omega
          have HE := Lib.hid (sorted_end HC.out HO'.out hkn hj HSB.out (.inl hj0))
          clear hj0
          go_wp2_with fail
          go_quiet (fail)
          go_wp2_with fail
          go_roundw
          case rel => exact ⟨k + 1, f', by omega, by omega, by go_num, HO', HE, HOW', Lib.hid (grown_trans HG'.out ⟨rfl, rfl, rfl, Nat.le_refl _, fun _ _ _ => rfl⟩)⟩
          case measure => simp [intOf]; omega
        · obtain ⟨p, rfl⟩ : ∃ p, j = p + 1 := ⟨j - 1, by omega⟩
          have hown := HOW'.out
          have c0 : wr.cell? ⟨g, p + 1, none⟩ = some (.int .i64 (f' (p + 1) : Nat)) := by rw [hown.cellAt (p + 1) (by omega), encF_get _ _ _ (by omega)]
          have c1 : wr.cell? ⟨g, p, none⟩ = some (.int .i64 (f' p : Nat)) := by rw [hown.cellAt p (by omega), encF_get _ _ _ (by omega)]
          have l0 := HO'.out.lt (p + 1) (by omega)
          have l1 := HO'.out.lt p (by omega)
          obtain ⟨x, hx⟩ : ∃ x, x = f' (p + 1) := ⟨_, rfl⟩
          obtain ⟨y, hy⟩ : ∃ y, y = f' p := ⟨_, rfl⟩
          rw [← hx] at c0 l0
          rw [← hy] at c1 l1
          have HX := Lib.hid hx
          have HY := Lib.hid hy
          have HCAL := Lib.hid fun W (hW : wr.grownBy W (some g)) => HF.out x y l0 l1 W (grown_trans HG'.out hW)
          have hwp : IntKind.i64.wrap (p : Int) = (p : Int) := IntWalk.i64_in _ (by omega)
          have jz : (p : Int) + 1 < (n : Int) := by omega
          have jz1 : (p : Int) < (n : Int) := by omega
          have hjaz : (0 : Int) < (p : Int) + 1 := by omega
          have p0 : (0 : Int) ≤ (p : Int) + 1 := by omega
          have e0 : ((p : Int) + 1).toNat = p + 1 := by omega
          have hgl := (hown.lt g rfl).2
          have HF1 := Lib.hid (hown.frozenAt (p + 1))
          have HF2 := Lib.hid (hown.frozenAt p)
          clear hown hx hy
          by_cases hlt : c x y < 0
          · have hd2 : decide (c x y < 0) = true := by simpa using hlt
            have hlt' : c (f' (p + 1)) (f' (p + 1 - 1)) < 0 := by rw [Nat.add_sub_cancel, ← HX.out, ← HY.out]; exact hlt
            have HSW := Lib.hid (sorted_sw HC.out HO'.out hkn (by omega) hj HSB.out hlt')
            have HOS := Lib.hid (once_sw HO'.out (show 0 < p + 1 by omega) (by omega))
            have hef := encF_sw f' n (p + 1) (by omega) (by omega)
            rw [Nat.add_sub_cancel, ← HX.out, ← HY.out] at hef
            have HEF := Lib.hid hef
            clear hlt' hef
            go_wp2_with fail
            go_region_held3 (fun w' => w'.cell? ⟨g, p + 1, none⟩ = some (.int .i64 (x : Nat)) ∧ w'.cell? ⟨g, p, none⟩ = some (.int .i64 (y : Nat))) (go_keep)
              ((refine (HCAL.out _ (grown_drew _ _)).mono ?_; rintro e w1 ⟨rfl, hbl⟩; have hd0 := (hbl.cell (p := ⟨g, p + 1, none⟩) hgl).trans c0; have hd1 := (hbl.cell (p := ⟨g, p, none⟩) hgl).trans c1))
            have O1 := Lib.hid (owns_below HOW'.out ((Below.refl _ _).drew.trans hbl))
            have f1 : w1.frozen? ⟨g, p + 1, none⟩ = false := O1.out.frozenAt (p + 1)
            have f2 : w1.frozen? ⟨g, p, none⟩ = false := O1.out.frozenAt p
            have G1 := Lib.hid (grown_trans HG'.out (grown_of_below (r := some g) ((Below.refl _ _).drew.trans hbl)))
            obtain ⟨j1, hj1⟩ : ∃ j1, j1 = p + 1 := ⟨_, rfl⟩
            rw [← hj1] at hd0 f1 e0
            have J1 := Lib.hid hj1
            have hne : j1 ≠ p := by omega
            obtain ⟨v1, k1⟩ := cell?_setCell_some (w := w1) (p := ⟨g, j1, none⟩) (x := .int .i64 (y : Nat)) (q := ⟨g, p, none⟩) (v := .int .i64 (y : Nat)) hd1
            obtain ⟨v2, k2⟩ := cell?_setCell_some (w := w1) (p := ⟨g, p, none⟩) (x := .int .i64 (x : Nat)) (q := ⟨g, j1, none⟩) (v := .int .i64 (x : Nat)) hd0
            clear hj1 hbl
            go_wp2_with fail
            go_region
            go_wp2_with fail
            go_roundw
            case rel =>
              have h1 := (O1.out.stored j1 (.int .i64 (y : Nat))).1
              have h2 := (h1.stored p (.int .i64 (x : Nat))).1
              rw [J1.out] at h2
              rw [HEF.out] at h2
              refine ⟨p, sw f' (p + 1), by omega, by go_num, HOS, HSW, Lib.hid ?_, Lib.hid ?_⟩
              · rw [J1.out]; exact owns_drewN (k := 1) h2
              · exact grown_trans (grown_setCell (j := p) (u := .int .i64 (x : Nat)) (grown_setCell (j := j1) (u := .int .i64 (y : Nat)) G1.out)) (grown_drew _ _)
            case measure => simp [intOf] <;> omega
          · have hd2 : decide (c x y < 0) = false := by simpa using hlt
            have hge : ¬ c (f' (p + 1)) (f' (p + 1 - 1)) < 0 := by rw [Nat.add_sub_cancel, ← HX.out, ← HY.out]; exact hlt
            have HE := Lib.hid (sorted_end HC.out HO'.out hkn hj HSB.out (.inr hge))
            clear hge
            go_wp2_with fail
            go_region_held3 (fun w' => w'.cell? ⟨g, p + 1, none⟩ = some (.int .i64 (x : Nat)) ∧ w'.cell? ⟨g, p, none⟩ = some (.int .i64 (y : Nat))) (go_keep)
              ((refine (HCAL.out _ (grown_drew _ _)).mono ?_; rintro e w1 ⟨rfl, hbl⟩; have hd0 := (hbl.cell (p := ⟨g, p + 1, none⟩) hgl).trans c0; have hd1 := (hbl.cell (p := ⟨g, p, none⟩) hgl).trans c1))
            have hbl' := (Below.refl wr.heap.size wr).drew.trans hbl
            go_wp2_with fail
            go_roundw
            case rel => exact ⟨k + 1, f', by omega, by omega, by go_num, HO', HE, Lib.hid (owns_below HOW'.out hbl'), Lib.hid (grown_trans HG'.out (grown_of_below hbl'))⟩
            case measure => simp [intOf]; omega
    · have hkn' : k = n := by omega
      subst hkn'
      go_wp2_with fail
      go_end0
      exact ⟨rfl, f, HO.out, HST.out, HOW.out, HG.out⟩

theorem sortFunc_any (F : Nat) (capt : Array Value) (c : Nat → Nat → Int) (base g n m cap : Nat) (f : Nat → Nat) (w : World) (h : w.ownsRow base 3 1 (.slice (some ⟨g, 0, none⟩) n cap) n (encF f n)) (hn : 0 < n) (hm : n ≤ 4) (ho : Once n m f) (hc : Swo m c)
    (hF : ∀ args W, (callFunc F args).run Try.prog W = .ok (.enter F args) W)
    (hf : ∀ x y, x < m → y < m → ∀ W, w.grownBy W (some g) → Calls Try.prog F (#[.int .i64 (x : Nat), .int .i64 (y : Nat)] ++ capt) W fun e W' => e = .returned (.int .i64 (c x y)) ∧ Below W.heap.size W W') :
    Calls Try.prog 127 #[.slice (some ⟨g, 0, none⟩) n cap, .func (.func F) #[] capt] w fun e w' => e = .returned (.tuple #[]) ∧ Sorted w base g n m cap c w' := by
  have HI := Lib.hid (isort_any F capt c base g n m cap f w h hn (by omega) ho hc hF hf)
  have HL := Lib.hid (len_small n w hm)
  have HP : Hid (∀ l : Int, Calls Try.prog 133 #[.slice (some ⟨g, 0, none⟩) n cap, .int .i64 0, .int .i64 n, .int .i64 l, .func (.func F) #[] capt] w fun e w' => e = .returned (.tuple #[]) ∧ Sorted w base g n m cap c w') := Lib.hid (by
    intro l
    clear h ho hc hF hf HL
    have h12 : (n : Int) ≤ 12 := by omega
    go_enter Try.func133, Try.ntmps133
    go_wp2_with fail
    refine wp_loop_rounds 1 ?_
    rw [rounds_succ]
    go_wp2_with fail
    refine HI.out.mono ?_
    rintro e w1 ⟨rfl, hs⟩
    go_wp2_with fail
    refine bodyPost_ret (results_none rfl _ _ _) rfl ?_
    exact ⟨rfl, hs⟩)
  clear h ho hc hF hf HI
  go_enter Try.func127, Try.ntmps127
  go_wp2_with fail
  refine HL.out.mono ?_
  rintro e w1 ⟨l, rfl, rfl⟩
  go_wp2_with fail
  refine (HP.out l).mono ?_
  rintro e w1 ⟨rfl, hs⟩
  go_wp2_with fail
  go_end0
  exact ⟨rfl, hs⟩
end Go.Proofs.Ytmnhdpojonlfhaa
