/- polderref22.Next: the block with the least mark behind a mark. -/
import Derived.Test.YtbkknpodipapoaaVsPa
namespace Go.Proofs.Ytbkknpodipapoaa
open Go.RowKit
set_option linter.unusedSimpArgs false
attribute [local go_sem ↓] Go.wp_at_zero Go.wp_at_succ
attribute [local go_sem ↓] wp_loadP wp_storeP quiet_loadP

def candN (all : Bool) (m : MarkT) (p : PtrT) : Bool := all || decide (ltM m (markOf p))
theorem candN_mark (all : Bool) (m : MarkT) {p q : PtrT} (h : markOf p = markOf q) : candN all m p = candN all m q := by unfold candN; rw [h]
def Best (l : List PtrT) (c : PtrT → Bool) (k : Nat) (b : Int) : Prop :=
  (b = -1 ∧ ∀ i, i < k → c (l.getD i pD) = false) ∨ ∃ j : Nat, j < k ∧ b = (j : Int) ∧ c (l.getD j pD) = true ∧ ∀ i, i < k → c (l.getD i pD) = true → ltM (markOf (l.getD j pD)) (markOf (l.getD i pD)) ∨ markOf (l.getD j pD) = markOf (l.getD i pD) ∧ j ≤ i
theorem Best.zero (l : List PtrT) (c : PtrT → Bool) : Best l c 0 (-1) := .inl ⟨rfl, fun i hi => absurd hi (by omega)⟩
theorem Best.skip {l : List PtrT} {c : PtrT → Bool} {k : Nat} {b : Int} (h : Best l c k b) (hc : c (l.getD k pD) = false) : Best l c (k + 1) b := by
  rcases h with ⟨h1, h2⟩ | ⟨j, h1, h2, h3, h4⟩
  · refine .inl ⟨h1, fun i hi => ?_⟩
    by_cases e : i = k
    · rw [e]; exact hc
    · exact h2 i (by omega)
  · refine .inr ⟨j, by omega, h2, h3, fun i hi hci => ?_⟩
    by_cases e : i = k
    · rw [e, hc] at hci; cases hci
    · exact h4 i (by omega) hci
theorem Best.first {l : List PtrT} {c : PtrT → Bool} {k : Nat} {b : Int} (h : Best l c k b) (hb : b < 0) (hc : c (l.getD k pD) = true) : Best l c (k + 1) (k : Int) := by
  rcases h with ⟨h1, h2⟩ | ⟨j, h1, h2, h3, h4⟩
  · refine .inr ⟨k, by omega, rfl, hc, fun i hi hci => ?_⟩
    by_cases e : i = k
    · rw [e]; exact .inr ⟨rfl, Nat.le_refl _⟩
    · rw [h2 i (by omega)] at hci; cases hci
  · omega
theorem Best.less {l : List PtrT} {c : PtrT → Bool} {k j : Nat} (h : Best l c k (j : Int)) (hc : c (l.getD k pD) = true) (hl : ltM (markOf (l.getD k pD)) (markOf (l.getD j pD))) : Best l c (k + 1) (k : Int) := by
  rcases h with ⟨h1, h2⟩ | ⟨j', h1, h2, h3, h4⟩
  · omega
  · obtain rfl : j = j' := by omega
    refine .inr ⟨k, by omega, rfl, hc, fun i hi hci => ?_⟩
    by_cases e : i = k
    · rw [e]; exact .inr ⟨rfl, Nat.le_refl _⟩
    · rcases h4 i (by omega) hci with h5 | ⟨h5, _⟩
      · exact .inl (ltM_trans hl h5)
      · exact .inl (h5 ▸ hl)
theorem Best.keep {l : List PtrT} {c : PtrT → Bool} {k j : Nat} (h : Best l c k (j : Int)) (hl : ¬ ltM (markOf (l.getD k pD)) (markOf (l.getD j pD))) : Best l c (k + 1) (j : Int) := by
  rcases h with ⟨h1, h2⟩ | ⟨j', h1, h2, h3, h4⟩
  · omega
  · obtain rfl : j = j' := by omega
    refine .inr ⟨j, by omega, rfl, h3, fun i hi hci => ?_⟩
    by_cases e : i = k
    · subst e
      by_cases he : markOf (l.getD j pD) = markOf (l.getD i pD)
      · exact .inr ⟨he, by omega⟩
      · rcases ltM_total he with h5 | h5
        · exact .inl h5
        · exact absurd h5 hl
    · exact h4 i (by omega) hci
theorem Best.lt {l : List PtrT} {c : PtrT → Bool} {k j : Nat} (h : Best l c k (j : Int)) : j < k := by
  rcases h with ⟨h1, h2⟩ | ⟨j', h1, h2, h3, h4⟩ <;> omega
theorem Best.cases {l : List PtrT} {c : PtrT → Bool} {k : Nat} {b : Int} (h : Best l c k b) : b = -1 ∨ ∃ j : Nat, b = (j : Int) ∧ j < k := by
  rcases h with ⟨h1, h2⟩ | ⟨j', h1, h2, h3, h4⟩
  · exact .inl h1
  · exact .inr ⟨j', h2, h1⟩
theorem getP_mem {l : List PtrT} {j : Nat} (h : j < l.length) : l.getD j pD ∈ l := by
  rw [List.getD_eq_getElem?_getD, List.getElem?_eq_getElem h]
  exact List.getElem_mem h
theorem mem_getD {l : List PtrT} {p : PtrT} (h : p ∈ l) : ∃ j, j < l.length ∧ l.getD j pD = p := by
  obtain ⟨j, hj, e⟩ := List.getElem_of_mem h
  exact ⟨j, hj, by rw [List.getD_eq_getElem?_getD, List.getElem?_eq_getElem hj]; exact e⟩
theorem Best.none {l : List PtrT} {c : PtrT → Bool} (h : Best l c l.length (-1)) : (ordL l).filter c = [] := by
  rcases h with ⟨h1, h2⟩ | ⟨j', h1, h2, h3, h4⟩
  · refine List.filter_eq_nil_iff.2 fun p hp => ?_
    obtain ⟨j, hj, e⟩ := mem_getD (ordL_sub hp)
    have := h2 j hj
    rw [e] at this
    simp [this]
  · omega
theorem find_first {l : List PtrT} {j : Nat} (hj : j < l.length) (h : ∀ i, i < j → markOf (l.getD i pD) ≠ markOf (l.getD j pD)) : firstM l (markOf (l.getD j pD)) = some (l.getD j pD) := by
  induction l generalizing j with
  | nil => simp at hj
  | cons a r ih =>
    unfold firstM at ih ⊢
    match j, hj, h with
    | 0, _, _ =>
      show List.find? (fun q => decide (markOf q = markOf a)) (a :: r) = some a
      simp
    | j + 1, hj, h =>
      have h0 := h 0 (by omega)
      show List.find? (fun q => decide (markOf q = markOf (r.getD j pD))) (a :: r) = some (r.getD j pD)
      rw [List.find?_cons_of_neg (by simpa using h0)]
      exact ih (by simpa using hj) (fun i hi => h (i + 1) (by omega))
theorem Best.head {l : List PtrT} {c : PtrT → Bool} {j : Nat} (hcm : ∀ p q, markOf p = markOf q → c p = c q) (h : Best l c l.length (j : Int)) : ∃ r, (ordL l).filter c = l.getD j pD :: r := by
  rcases h with ⟨h1, h2⟩ | ⟨j', h1, h2, h3, h4⟩
  · omega
  · obtain rfl : j = j' := by omega
    have hf : firstM l (markOf (l.getD j pD)) = some (l.getD j pD) := find_first h1 (fun i hi e => by
      have hci : c (l.getD i pD) = true := by rw [hcm _ _ e]; exact h3
      rcases h4 i (by omega) hci with h5 | ⟨_, h5⟩
      · rw [e] at h5; exact ltM_irrefl _ h5
      · omega)
    obtain ⟨q, hq, e⟩ := (ordL_marks l (markOf (l.getD j pD))).2 ⟨_, getP_mem h1, rfl⟩
    have hq2 := (ordL_is l).first q hq
    rw [e, hf] at hq2
    obtain rfl := Option.some.inj hq2
    have hm : l.getD j pD ∈ (ordL l).filter c := List.mem_filter.2 ⟨hq, h3⟩
    have hs : ((ordL l).filter c).Pairwise (fun p q => ltM (markOf p) (markOf q)) := (ordL_is l).sorted.filter _
    cases hd : (ordL l).filter c with
    | nil => rw [hd] at hm; cases hm
    | cons a r =>
      rw [hd] at hm hs
      rcases List.mem_cons.1 hm with e1 | e1
      · exact ⟨r, by rw [← e1]⟩
      · exfalso
        have hlt := (List.pairwise_cons.1 hs).1 _ e1
        have ha : a ∈ (ordL l).filter c := by rw [hd]; exact List.mem_cons_self ..
        obtain ⟨i, hi, ei⟩ := mem_getD (ordL_sub (List.mem_filter.1 ha).1)
        have hci := (List.mem_filter.1 ha).2
        rw [← ei] at hci hlt
        rcases h4 i hi hci with h5 | ⟨h5, _⟩
        · exact ltM_asymm h5 hlt
        · rw [h5] at hlt; exact ltM_irrefl _ hlt
def headP : List PtrT → PtrT × Bool
  | [] => (pD, false)
  | p :: _ => (p, true)
theorem results_ptr_slot {fn : Func} {p q : Tmp} (h : fn.results = #[.cell p 30, .tmp q]) (tmps : Array Value) (w : World) (g : Nat) (x : PtrT) (b : Value)
    (hp : tmps.getD p undef = .pointer (some ⟨g, 0, none⟩)) (hq : tmps.getD q undef = b) (hg : Blk w g 30 (encPtr x)) :
    (results fn tmps).run Try.prog w = .ok (.tuple #[.agg (encPtr x).toArray, b]) w := by
  have hp' : tmps[p]?.getD undef = .pointer (some ⟨g, 0, none⟩) := by simpa using hp
  have hq' : tmps[q]?.getD undef = b := by simpa using hq
  have e1 := run_loadVar_mid (P := Try.prog) w g 0 30 (encPtr x) _ (range0 hg) Try.underlying30 rfl infoSz
  simp [results, h, hp', hq', asAddr, e1]
def RNext (l : List PtrT) (all : Bool) (m : MarkT) (w : World) (e : Ending) (w' : World) : Prop := e = .returned (.tuple #[.agg (encPtr (headP ((ordL l).filter (candN all m))).1).toArray, .bool (headP ((ordL l).filter (candN all m))).2]) ∧ Below w.heap.size w w'
set_option maxRecDepth 100000 in
set_option maxHeartbeats 6400000 in
theorem rnext_any (ao : Option Addr) (n cap : Nat) (l : List PtrT) (m : MarkT) (all : Bool) (w : World) (h : PSl w ao n cap l) :
    Calls Try.prog 35 #[.slice ao n cap, .agg (encM m).toArray, .bool all] w (RNext l all m w) := by
  have hmx := BW.mx h
  have HL := Lib.hid h.len
  have H := Lib.hid h
  clear h
  have HOF := Lib.hid (fun p W => rof_any p W)
  have HLS := Lib.hid (fun x y W => rless_any x y W)
  have B0 := Lib.hid (((Below.refl w.heap.size w).alloc (Nat.le_refl _) (.cells (encM m).toArray 48)).alloc (by simp) (.cells zeroL.toArray 30))
  have M0 : Hid (Blk ((w.alloc (.cells (encM m).toArray 48)).alloc (.cells zeroL.toArray 30)) w.heap.size 48 (encM m)) := Lib.hid ((Blk.new _ _ _).alloc _)
  have Z0 : Hid (Blk ((w.alloc (.cells (encM m).toArray 48)).alloc (.cells zeroL.toArray 30)) (w.heap.size + 1) 30 zeroL) := Lib.hid (Blk.newAt (w := w.alloc _) 30 zeroL (by simp))
  obtain ⟨c, hc⟩ : ∃ c, c = candN all m := ⟨_, rfl⟩
  have HC1 : Hid (∀ p, all = true → c p = true) := Lib.hid (fun p e => by rw [hc, e]; rfl)
  have HC2 : Hid (∀ p, all = false → c p = decide (ltM m (markOf p))) := Lib.hid (fun p e => by rw [hc, e]; rfl)
  have HCM : Hid (∀ p q, markOf p = markOf q → c p = c q) := Lib.hid (fun p q e => by rw [hc]; exact candN_mark all m e)
  have HR : Hid (∀ e w', e = .returned (.tuple #[.agg (encPtr (headP ((ordL l).filter c)).1).toArray, .bool (headP ((ordL l).filter c)).2]) → Below w.heap.size w w' → RNext l all m w e w') := Lib.hid (fun e w' h1 h2 => ⟨by rw [← hc]; exact h1, h2⟩)
  obtain ⟨R, hR⟩ : ∃ R, R = RNext l all m w := ⟨_, rfl⟩
  rw [← hR] at HR ⊢
  clear hc hR
  obtain ⟨mb, mg, ma⟩ := m
  have HQ : Hid (∀ (x : PtrT) W, Calls Try.prog 19 #[.agg #[.int .i64 mb, .int .i64 mg, .int .i64 ma], .agg (encM (markOf x)).toArray] W fun e w' => e = .returned (.bool (decide (ltM ⟨mb, mg, ma⟩ (markOf x)))) ∧ Below W.heap.size W w') := Lib.hid (fun x W => rless_any ⟨mb, mg, ma⟩ (markOf x) W)
  show Calls _ _ #[_, .agg #[.int .i64 mb, .int .i64 mg, .int .i64 ma], _] _ _
  go_enter Try.func35, Try.ntmps35
  go_wp2_with fail
  go_loopw [8, 9] (fun ub i wr => ∃ (k : Nat) (b : Int), k ≤ n ∧ ub = .int .i64 b ∧ i = .int .i64 (k : Nat) ∧ Hid (Best l c k b) ∧ Hid (Blk wr w.heap.size 48 (encM ⟨mb, mg, ma⟩)) ∧ Hid (Blk wr (w.heap.size + 1) 30 zeroL) ∧ Hid (Below w.heap.size w wr)) (fun _ i _ => n - (intOf i).toNat)
  case atStart => exact ⟨0, -1, by omega, rfl, rfl, Lib.hid (Best.zero l c), M0, Z0, B0⟩
  case round =>
    obtain ⟨k, b, hk, rfl, rfl, HBe, HM, HZ, HB⟩ := hrel
    clear M0 Z0 B0
    by_cases hkn : k < n
    · obtain ⟨bb, off, rfl, hb, hr⟩ := (H.out.below HB.out).read (by omega)
      have m0 : ∀ q : BW wr, q.w.cell? ⟨w.heap.size, 0, none⟩ = some (.int .i64 mb) := fun q => q.cell (HM.out.cell 0)
      have m1 : ∀ q : BW wr, q.w.cell? ⟨w.heap.size, 1, none⟩ = some (.int .i64 mg) := fun q => q.cell (HM.out.cell 1)
      have m2 : ∀ q : BW wr, q.w.cell? ⟨w.heap.size, 2, none⟩ = some (.int .i64 ma) := fun q => q.cell (HM.out.cell 2)
      have lx := read_at (hr k hkn) hb
      have HRD := Lib.hid (fun j (hj : j < n) => hr j hj)
      have HBB := Lib.hid hb
      obtain ⟨px, hpx⟩ : ∃ p, p = l.getD k pD := ⟨_, rfl⟩
      have HPX := Lib.hid hpx
      have HQX := Lib.hid (HQ.out px)
      obtain ⟨d, hd⟩ : ∃ d, d = decide (ltM ⟨mb, mg, ma⟩ (markOf px)) := ⟨_, rfl⟩
      have HDD := Lib.hid hd
      rw [← hd] at HQX
      rw [← hpx] at lx
      clear hr hb hpx hd
      cases all with
      | true =>
        go_wp2_with fail
        refine wp_region_below (by kernel_rfl) (by kernel_rfl) ?_
        repeat (go_big_quiet_step (first | (go_at_call_of 20 px; refine Calls.bw_of (HOF.out px _))))
        refine wpQuiet_nil ?_
        rintro _ ⟨q, rfl⟩
        have M1 := Lib.hid (HM.out.below q.bel)
        have Z1 := Lib.hid (HZ.out.below q.bel)
        have B1 := Lib.hid (HB.out.trans (q.bel.mono HB.out.size))
        have HCX : Hid (c (l.getD k pD) = true) := Lib.hid (HC1.out _ (by simp))
        have lq : ∀ (q2 : BW q.w) (C : World → Prop) (v : Value), LoadQ Try.prog C 30 (.pointer (some ⟨bb, off + k * 12, none⟩)) q2.w v = (Value.agg (encPtr px).toArray = v) := by rw [HPX.out]; exact fun q2 => read_at (rangeAt_below (HRD.out k hkn) HBB.out q.bel) (Nat.lt_of_lt_of_le HBB.out q.bel.size) q2
        clear lx m0 m1 m2 HQX
        rcases HBe.out.cases with rfl | ⟨j, rfl, hj⟩
        · have N1 := Lib.hid (HBe.out.first (by decide) HCX.out)
          clear HBe
          go_wp2_with fail
          refine wp_region_below (by kernel_rfl) (by kernel_rfl) ?_
          repeat (go_big_quiet_step (first | (go_at_call_of 20 px; refine Calls.bw_of (HOF.out px _))))
          refine wpQuiet_nil ?_
          rintro _ ⟨q2, rfl⟩
          have M2 := Lib.hid (M1.out.below q2.bel)
          have Z2 := Lib.hid (Z1.out.below q2.bel)
          have B2 := Lib.hid (B1.out.trans (q2.bel.mono B1.out.size))
          go_wp2_with fail
          go_roundw
          case rel => exact ⟨k + 1, (k : Int), by omega, rfl, by go_num, N1, M2, Z2, B2⟩
          case measure => simp [intOf]; omega
        · have jz : (j : Int) < (n : Int) := by omega
          have hjn : j < n := by omega
          have jd : decide ((j : Int) < 0) = false := by simp
          obtain ⟨py, hpy⟩ : ∃ p, p = l.getD j pD := ⟨_, rfl⟩
          have ly : ∀ (q2 : BW q.w) (C : World → Prop) (v : Value), LoadQ Try.prog C 30 (.pointer (some ⟨bb, off + j * 12, none⟩)) q2.w v = (Value.agg (encPtr py).toArray = v) := by rw [hpy]; exact fun q2 => read_at (rangeAt_below (HRD.out j hjn) HBB.out q.bel) (Nat.lt_of_lt_of_le HBB.out q.bel.size) q2
          have HL2 := Lib.hid (HLS.out (markOf px) (markOf py))
          obtain ⟨d2, hd2⟩ : ∃ d, d = decide (ltM (markOf px) (markOf py)) := ⟨_, rfl⟩
          have HN2 : Hid (d2 = true → Best l c (k + 1) (k : Int)) := Lib.hid (fun e => HBe.out.less HCX.out (by rw [e, hpy, HPX.out] at hd2; exact of_decide_eq_true hd2.symm))
          have HN3 : Hid (d2 = false → Best l c (k + 1) (j : Int)) := Lib.hid (fun e => HBe.out.keep (by rw [e, hpy, HPX.out] at hd2; exact of_decide_eq_false hd2.symm))
          rw [← hd2] at HL2
          clear hd2 hpy HBe
          have AL : Hid (∀ W, Calls Try.prog 19 #[.agg (encM (markOf px)).toArray, .agg (encM (markOf py)).toArray] W fun e w' => e = .returned (.bool d2) ∧ Below W.heap.size W w') := HL2
          cases d2 with
          | true =>
            have N1 := Lib.hid (HN2.out rfl)
            go_wp2_with fail
            refine wp_region_below (by kernel_rfl) (by kernel_rfl) ?_
            repeat (go_big_quiet_step (first | (go_at_call_of 20 px; refine Calls.bw_of (HOF.out px _)) | (go_at_call_of 20 py; refine Calls.bw_of (HOF.out py _)) | (go_at_call_of 19 px; refine Calls.bw_of (AL.out _))))
            refine wpQuiet_nil ?_
            rintro _ ⟨q2, rfl⟩
            have M2 := Lib.hid (M1.out.below q2.bel)
            have Z2 := Lib.hid (Z1.out.below q2.bel)
            have B2 := Lib.hid (B1.out.trans (q2.bel.mono B1.out.size))
            go_wp2_with fail
            go_roundw
            case rel => exact ⟨k + 1, (k : Int), by omega, rfl, by go_num, N1, M2, Z2, B2⟩
            case measure => simp [intOf]; omega
          | false =>
            have N1 := Lib.hid (HN3.out rfl)
            go_wp2_with fail
            refine wp_region_below (by kernel_rfl) (by kernel_rfl) ?_
            repeat (go_big_quiet_step (first | (go_at_call_of 20 px; refine Calls.bw_of (HOF.out px _)) | (go_at_call_of 20 py; refine Calls.bw_of (HOF.out py _)) | (go_at_call_of 19 px; refine Calls.bw_of (AL.out _))))
            refine wpQuiet_nil ?_
            rintro _ ⟨q2, rfl⟩
            have M2 := Lib.hid (M1.out.below q2.bel)
            have Z2 := Lib.hid (Z1.out.below q2.bel)
            have B2 := Lib.hid (B1.out.trans (q2.bel.mono B1.out.size))
            go_wp2_with fail
            go_roundw
            case rel => exact ⟨k + 1, (j : Int), by omega, rfl, by go_num, N1, M2, Z2, B2⟩
            case measure => simp [intOf]; omega
      | false =>
        cases d with
        | true =>
          go_wp2_with fail
          refine wp_region_below (by kernel_rfl) (by kernel_rfl) ?_
          repeat (go_big_quiet_step (first | (go_at_call_of 19 mb; refine Calls.bw_of (HQX.out _)) | (go_at_call_of 20 px; refine Calls.bw_of (HOF.out px _))))
          refine wpQuiet_nil ?_
          rintro _ ⟨q, rfl⟩
          have M1 := Lib.hid (HM.out.below q.bel)
          have Z1 := Lib.hid (HZ.out.below q.bel)
          have B1 := Lib.hid (HB.out.trans (q.bel.mono HB.out.size))
          have HCX : Hid (c (l.getD k pD) = true) := Lib.hid (by rw [HC2.out _ (by simp), ← HPX.out]; exact HDD.out.symm)
          have lq : ∀ (q2 : BW q.w) (C : World → Prop) (v : Value), LoadQ Try.prog C 30 (.pointer (some ⟨bb, off + k * 12, none⟩)) q2.w v = (Value.agg (encPtr px).toArray = v) := by rw [HPX.out]; exact fun q2 => read_at (rangeAt_below (HRD.out k hkn) HBB.out q.bel) (Nat.lt_of_lt_of_le HBB.out q.bel.size) q2
          clear lx m0 m1 m2 HQX
          rcases HBe.out.cases with rfl | ⟨j, rfl, hj⟩
          · have N1 := Lib.hid (HBe.out.first (by decide) HCX.out)
            clear HBe
            go_wp2_with fail
            refine wp_region_below (by kernel_rfl) (by kernel_rfl) ?_
            repeat (go_big_quiet_step (first | (go_at_call_of 20 px; refine Calls.bw_of (HOF.out px _))))
            refine wpQuiet_nil ?_
            rintro _ ⟨q2, rfl⟩
            have M2 := Lib.hid (M1.out.below q2.bel)
            have Z2 := Lib.hid (Z1.out.below q2.bel)
            have B2 := Lib.hid (B1.out.trans (q2.bel.mono B1.out.size))
            go_wp2_with fail
            go_roundw
            case rel => exact ⟨k + 1, (k : Int), by omega, rfl, by go_num, N1, M2, Z2, B2⟩
            case measure => simp [intOf]; omega
          · have jz : (j : Int) < (n : Int) := by omega
            have hjn : j < n := by omega
            have jd : decide ((j : Int) < 0) = false := by simp
            obtain ⟨py, hpy⟩ : ∃ p, p = l.getD j pD := ⟨_, rfl⟩
            have ly : ∀ (q2 : BW q.w) (C : World → Prop) (v : Value), LoadQ Try.prog C 30 (.pointer (some ⟨bb, off + j * 12, none⟩)) q2.w v = (Value.agg (encPtr py).toArray = v) := by rw [hpy]; exact fun q2 => read_at (rangeAt_below (HRD.out j hjn) HBB.out q.bel) (Nat.lt_of_lt_of_le HBB.out q.bel.size) q2
            have HL2 := Lib.hid (HLS.out (markOf px) (markOf py))
            obtain ⟨d2, hd2⟩ : ∃ d, d = decide (ltM (markOf px) (markOf py)) := ⟨_, rfl⟩
            have HN2 : Hid (d2 = true → Best l c (k + 1) (k : Int)) := Lib.hid (fun e => HBe.out.less HCX.out (by rw [e, hpy, HPX.out] at hd2; exact of_decide_eq_true hd2.symm))
            have HN3 : Hid (d2 = false → Best l c (k + 1) (j : Int)) := Lib.hid (fun e => HBe.out.keep (by rw [e, hpy, HPX.out] at hd2; exact of_decide_eq_false hd2.symm))
            rw [← hd2] at HL2
            clear hd2 hpy HBe
            have AL : Hid (∀ W, Calls Try.prog 19 #[.agg (encM (markOf px)).toArray, .agg (encM (markOf py)).toArray] W fun e w' => e = .returned (.bool d2) ∧ Below W.heap.size W w') := HL2
            cases d2 with
            | true =>
              have N1 := Lib.hid (HN2.out rfl)
              go_wp2_with fail
              refine wp_region_below (by kernel_rfl) (by kernel_rfl) ?_
              repeat (go_big_quiet_step (first | (go_at_call_of 20 px; refine Calls.bw_of (HOF.out px _)) | (go_at_call_of 20 py; refine Calls.bw_of (HOF.out py _)) | (go_at_call_of 19 px; refine Calls.bw_of (AL.out _))))
              refine wpQuiet_nil ?_
              rintro _ ⟨q2, rfl⟩
              have M2 := Lib.hid (M1.out.below q2.bel)
              have Z2 := Lib.hid (Z1.out.below q2.bel)
              have B2 := Lib.hid (B1.out.trans (q2.bel.mono B1.out.size))
              go_wp2_with fail
              go_roundw
              case rel => exact ⟨k + 1, (k : Int), by omega, rfl, by go_num, N1, M2, Z2, B2⟩
              case measure => simp [intOf]; omega
            | false =>
              have N1 := Lib.hid (HN3.out rfl)
              go_wp2_with fail
              refine wp_region_below (by kernel_rfl) (by kernel_rfl) ?_
              repeat (go_big_quiet_step (first | (go_at_call_of 20 px; refine Calls.bw_of (HOF.out px _)) | (go_at_call_of 20 py; refine Calls.bw_of (HOF.out py _)) | (go_at_call_of 19 px; refine Calls.bw_of (AL.out _))))
              refine wpQuiet_nil ?_
              rintro _ ⟨q2, rfl⟩
              have M2 := Lib.hid (M1.out.below q2.bel)
              have Z2 := Lib.hid (Z1.out.below q2.bel)
              have B2 := Lib.hid (B1.out.trans (q2.bel.mono B1.out.size))
              go_wp2_with fail
              go_roundw
              case rel => exact ⟨k + 1, (j : Int), by omega, rfl, by go_num, N1, M2, Z2, B2⟩
              case measure => simp [intOf]; omega
        | false =>
          have HCX : Hid (c (l.getD k pD) = false) := Lib.hid (by rw [HC2.out _ (by simp), ← HPX.out]; exact HDD.out.symm)
          have N1 := Lib.hid (HBe.out.skip HCX.out)
          go_wp2_with fail
          refine wp_region_below (by kernel_rfl) (by kernel_rfl) ?_
          repeat (go_big_quiet_step (first | (go_at_call_of 19 mb; refine Calls.bw_of (HQX.out _)) | (go_at_call_of 20 px; refine Calls.bw_of (HOF.out px _))))
          refine wpQuiet_nil ?_
          rintro _ ⟨q, rfl⟩
          have M1 := Lib.hid (HM.out.below q.bel)
          have Z1 := Lib.hid (HZ.out.below q.bel)
          have B1 := Lib.hid (HB.out.trans (q.bel.mono HB.out.size))
          clear lx m0 m1 m2 HQX HBe
          go_wp2_with fail
          go_roundw
          case rel => exact ⟨k + 1, b, by omega, rfl, by go_num, N1, M1, Z1, B1⟩
          case measure => simp [intOf]; omega
    · obtain rfl : k = n := by omega
      rcases HBe.out.cases with rfl | ⟨j, rfl, hj⟩
      · have HD : Hid ((ordL l).filter c = []) := Lib.hid (by
          have := HBe.out
          rw [← HL.out] at this
          exact this.none)
        have s1 : ∀ (op : Oper) (a : Act) (next : Act → World → Prop) (Q : Exit → Act → World → Prop), StoreW Try.prog op 30 (.pointer (some ⟨w.heap.size + 1, 0, none⟩)) (.agg #[.int .i64 0, .int .i64 0, .int .i64 0, .int .i64 0, .bool false, .int .i64 0, .int .i64 0, .int .i64 0, .int .u64 0, .int .u64 0, .int .u64 0, .int .u64 0]) a wr next Q = next (a.put op.dst undef) (wr.setCells (w.heap.size + 1) 0 (encPtr pD)) := store_ptr pD (HZ.out.there rfl)
        have Z1 : Hid (Blk (wr.setCells (w.heap.size + 1) 0 (encPtr pD)) (w.heap.size + 1) 30 (encPtr pD)) := Lib.hid (HZ.out.setAll (vs := encPtr pD) rfl)
        have B1 : Hid (Below w.heap.size w (wr.setCells (w.heap.size + 1) 0 (encPtr pD))) := Lib.hid (HB.out.grown (setCells_grown (w.heap.size + 1) (encPtr pD) wr 0) HB.out.size (fun k e => by have := Option.some.inj e; omega))
        go_wp2_with fail
        refine bodyPost_ret (results_ptr_slot rfl _ _ (w.heap.size + 1) pD _ rfl rfl Z1.out) rfl ?_
        exact HR.out _ _ (by rw [HD.out]; rfl) B1.out
      · have HD : Hid (∃ r, (ordL l).filter c = l.getD j pD :: r) := Lib.hid (by
          have := HBe.out
          rw [← HL.out] at this
          exact this.head HCM.out)
        obtain ⟨bb, off, rfl, hb, hr⟩ := (H.out.below HB.out).read (by omega)
        have l1 := load_ptr (hr j hj)
        obtain ⟨px, hpx⟩ : ∃ p, p = l.getD j pD := ⟨_, rfl⟩
        have s1 := store_ptr px (HZ.out.there rfl)
        rw [← hpx] at l1
        have HPX := Lib.hid hpx
        have jz : (j : Int) < (k : Int) := by omega
        have jd : decide ((j : Int) < 0) = false := by simp
        have Z1 : Hid (Blk (wr.setCells (w.heap.size + 1) 0 (encPtr px)) (w.heap.size + 1) 30 (encPtr px)) := Lib.hid (HZ.out.setAll (vs := encPtr px) rfl)
        have B1 : Hid (Below w.heap.size w (wr.setCells (w.heap.size + 1) 0 (encPtr px))) := Lib.hid (HB.out.grown (setCells_grown (w.heap.size + 1) (encPtr px) wr 0) HB.out.size (fun k e => by have := Option.some.inj e; omega))
        clear hpx hr hb
        go_wp2_with fail
        refine bodyPost_ret (results_ptr_slot rfl _ _ (w.heap.size + 1) px _ rfl rfl Z1.out) rfl ?_
        obtain ⟨r, hrr⟩ := HD.out
        exact HR.out _ _ (by rw [hrr, HPX.out]; rfl) B1.out
end Go.Proofs.Ytbkknpodipapoaa
