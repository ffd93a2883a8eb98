/- The walks of package par: Again, and the library's functions that it calls. -/
import Derived.Test.YtmnhdpojonlfhaaDoorParL
import Derived.Test.YtmnhdpojonlfhaaDoorCore2
import Derived.Deep.RegionLaw
import Derived.Lib.SliceRun
namespace Go.Proofs.YtmnhdpojonlfhaaDoor
open Go.RowKit

theorem infoS : (Tryd.prog.info? 9).map (fun i => (i.zero, i.size, i.bytes)) = some (some (.string ⟨#[]⟩), 1, 16) := by kernel_rfl

set_option maxRecDepth 100000 in
theorem cloneS_any (ao : Option Addr) (n cap : Nat) (cs : List Value) (w : World) (h : RSl w 1 ao n cap cs) (h1 : ∀ u ∈ cs, u.oneCell' = true) (hm : n ≤ 1000000000) :
    Calls Tryd.prog 22 #[.slice ao n cap] w fun e w' => ∃ v, e = .returned v ∧ w'.ownsRow w.heap.size 9 1 v n cs ∧ Below w.heap.size w w' := by
  obtain ⟨i0, hi, hi0, hi1, hi2⟩ := info_parts infoS
  have he := fun (W : World) => Lib.run_eql_slice_nil (P := Tryd.prog) W 22 9 ao n cap 0 0 Tryd.underlying22
  cases ao with
  | none =>
    have hc : cap = 0 := h.2.2.2.1 rfl
    have hn : n = 0 := by have := h.2.1; omega
    subst hn
    subst hc
    have hcs : cs = [] := List.eq_nil_of_length_eq_zero (by have := h.1; simpa using this)
    subst hcs
    simp only [Option.isNone_none] at he
    clear h h1
    go_enter Tryd.func22, Tryd.ntmps22
    go_wp2_with fail
    go_ret
    exact ⟨_, rfl, World.ownsRow_nil _ _ _ _, Below.refl _ _⟩
  | some ad =>
    simp only [Option.isNone_some] at he
    have hmade := World.ownsRow_made (base := w.heap.size) (e := 9) (size := 1) w #[] 0 (Nat.le_refl _) (by unfold maxLen; omega) rfl
    have H := Lib.hid h
    have HN := Lib.hid (RSl.news (h.below ((Below.refl _ _).alloc (Nat.le_refl _) (.cells #[] 9))))
    have H1 := Lib.hid h1
    clear h h1
    go_enter Tryd.func22, Tryd.ntmps22
    go_wp2_with (at_builtin; refine wpList_append_own _ rfl (.tmp 5) (.tmp 6) 22 rfl w.heap.size 9 i0 (.string ⟨#[]⟩) 1 16 Tryd.underlying22 hi hi0 hi1 hi2 rfl (by decide) (.slice (some ⟨w.heap.size, 0, none⟩) 0 0) 0 [] rfl hmade ad n cap cs rfl (by rw [H.out.1]) HN.out H1.out (by unfold maxLen; omega) (by omega) (by simp) ?_; intro v1 w1 hown1 hgrow1 _; simp only [Nat.zero_add, List.nil_append] at hown1)
    go_ret
    exact ⟨_, rfl, hown1, below_own ((Below.refl _ _).alloc (Nat.le_refl _) _) hmade hgrow1 (by simp) (Nat.le_refl _)⟩

theorem zeroStr (w : World) : (zeroValue 9).run Tryd.prog w = .ok (.string ⟨#[]⟩) w := by kernel_rfl

set_option maxHeartbeats 800000 in
set_option maxRecDepth 100000 in
/-- One element of a row of the call's own is deleted, in place. -/
theorem delS_any (base g i n cap : Nat) (xs : List ByteArray) (w : World) (h : w.ownsRow base 9 1 (.slice (some ⟨g, 0, none⟩) n cap) n (encS xs)) (hi : i < n) (hm : n ≤ 1000000000) :
    Calls Tryd.prog 21 #[.slice (some ⟨g, 0, none⟩) n cap, .int .i64 i, .int .i64 ((i : Int) + 1)] w fun e w' =>
      e = .returned (.slice (some ⟨g, 0, none⟩) (n - 1) cap) ∧ w'.ownsRow base 9 1 (.slice (some ⟨g, 0, none⟩) (n - 1) cap) (n - 1) (encS (xs.take i ++ xs.drop (i + 1))) ∧ w.grownBy w' (some g) := by
  obtain ⟨i0, hi0, hz0, hz1, hz2⟩ := info_parts infoS
  obtain ⟨cs, hblk, hbase, hnc, hcm, hcl, hct⟩ := owns_blk h
  simp only [Nat.mul_one] at hcl hct
  have hlx : xs.length = n := by have := h.1; simpa [encS] using this
  have hmx : cap ≤ 9223372036854775807 := by unfold maxLen at hcm; omega
  obtain ⟨news, hnews⟩ : ∃ news, news = encS (xs.drop (i + 1)) := ⟨_, rfl⟩
  have hnl : news.length = n - (i + 1) := by rw [hnews, encS_length, List.length_drop, hlx]
  have hget : ∀ t u, news[t]? = some u → cs[i + 1 + t]? = some u := by
    intro t u hu
    have ht : t < n - (i + 1) := by rw [← hnl]; exact (List.getElem?_eq_some_iff.1 hu).1
    rw [hnews, encS, List.map_drop, List.getElem?_drop] at hu
    rw [← encS, ← hct, List.getElem?_take, if_pos (by omega)] at hu
    exact hu
  obtain ⟨A, hA, hsrc⟩ : ∃ A : Addr, (if cap = i + 1 then some (⟨g, 0, none⟩ : Addr) else some ⟨g, i + 1, none⟩) = some A ∧ Hid (∀ t u, news[t]? = some u → w.drew.cell? (A.add t) = some u) := by
    by_cases hc : cap = i + 1
    · refine ⟨⟨g, 0, none⟩, by simp [hc], fun t u hu => ?_⟩
      have h0 : news.length = 0 := by rw [hnl]; omega
      rw [List.length_eq_zero_iff.1 h0] at hu
      simp at hu
    · refine ⟨⟨g, i + 1, none⟩, by simp [hc], fun t u hu => ?_⟩
      rw [Addr.add_lit, hblk.drew.cell]
      exact hget t u hu
  have s1 : Hid (news.length = (n - (i + 1)) * 1) := by rw [Nat.mul_one]; exact hnl
  have s2 : Hid (∀ u ∈ news, u.oneCell' = true) := by rw [hnews]; exact encS_one _
  have s3 : Hid (∀ t, t < news.length → (w.drew.cell? ⟨g, 0 + i * 1 + t, none⟩).isSome = true ∧ w.drew.frozen? ⟨g, 0 + i * 1 + t, none⟩ = false) := by
    intro t ht
    rw [hnl] at ht
    rw [hblk.drew.cell, hblk.drew.frozen, List.getElem?_eq_getElem (by rw [hcl]; omega)]
    exact ⟨rfl, rfl⟩
  have hz : ((i : Int) == (i : Int) + 1) = false := by simp; omega
  have hblk1 : Blk (w.drew.setCells g (0 + i * 1) news) g 9 (cs.take i ++ news ++ cs.drop (i + news.length)) := by
    have := hblk.drew.setCells news (0 + i * 1) (by rw [hnl, hcl]; omega)
    simpa using this
  obtain ⟨W1, hW1⟩ : ∃ W1, W1 = w.drew.setCells g (0 + i * 1) news := ⟨_, rfl⟩
  rw [← hW1] at hblk1
  have hcll : (cs.take i ++ news ++ cs.drop (i + news.length)).length = cap := by simp only [List.length_append, List.length_take, List.length_drop, hnl, hcl]; omega
  have hclr : ∀ ty, (Builtin.clear_ #[22] ty #[.slice (some ⟨g, i + (n - (i + 1)), none⟩) (n - (i + (n - (i + 1)))) (cap - (i + (n - (i + 1))))]).run Tryd.prog W1 = .ok (.tuple #[]) (W1.setCells g (i + (n - (i + 1))) (List.replicate (n - (i + (n - (i + 1)))) (.string ⟨#[]⟩))) :=
    fun ty => Lib.run_clear_slice W1 _ _ ty _ Tryd.underlying22 zeroStr rfl rfl g _ _ _ (by omega) (fun t ht => by rw [hblk1.cell, List.getElem?_eq_getElem (by rw [hcll]; omega)]; rfl) (fun t ht => hblk1.frozen _)
  have HW := Lib.hid hW1
  have hic : i ≤ cap := by omega
  have hic1 : i + 1 ≤ cap := by omega
  have hI0 : (0 : Int) ≤ (i : Int) + 1 := by omega
  have hI1 : (i : Int) + 1 ≤ (n : Int) := by omega
  have HB1 := Lib.hid hblk1
  have HN := Lib.hid hnews
  have HNL := Lib.hid hnl
  have HCL := Lib.hid hcl
  have HCT := Lib.hid hct
  have HX := Lib.hid hlx
  have H := Lib.hid h
  have HBK := Lib.hid hblk
  have hcll := Lib.hid hcll
  clear hW1 hblk1 hnews hnl hcl hct hlx h hblk hget
  go_enter Tryd.func21, Tryd.ntmps21
  go_wp2_with fail
  go_region_law (refine step_append_room rfl (.tmp 22) (.tmp 25) 22 rfl 9 i0 1 Tryd.underlying22 hi0 hz1 g 0 i cap (by simp [Act.eval, Act.put]) A (n - (i + 1)) (cap - (i + 1)) news (by simp [Act.eval, Act.put]) s1.out hsrc.out s2.out (by omega) s3.out ?_; rw [← HW.out])
  go_wp2
  go_ret
  refine ⟨by rw [show n - 1 = i + (n - (i + 1)) by omega]; rfl, ?_, ?_⟩
  · have h2 := HB1.out.setCells (List.replicate (n - (i + (n - (i + 1)))) (.string ⟨#[]⟩)) (i + (n - (i + 1))) (by rw [hcll.out]; simp; omega)
    have e1 : i + (n - (i + 1)) = n - 1 := by omega
    have e2 : n - (n - 1) = 1 := by omega
    rw [e1, e2] at h2
    rw [e1, e2]
    have e3 : (cs.take i ++ news).length = n - 1 := by simp only [List.length_append, List.length_take, HNL.out, HCL.out]; omega
    have e4 : (cs.take i ++ news ++ cs.drop (i + news.length)).take (n - 1) = cs.take i ++ news := by rw [← e3]; exact List.take_left
    have h3 := blk_owns (base := base) (n := n - 1) (cap := cap) (size := 1) h2 hbase (by omega) hcm (by
      rw [e4, List.length_append, List.length_append, e3, List.length_drop, hcll.out]; simp; omega)
    have e5 : encS (xs.take i ++ xs.drop (i + 1)) = cs.take i ++ news := by
      rw [encS_append, ← HN.out, encS_take, ← HCT.out, List.take_take, Nat.min_eq_left (by omega)]
    rw [e4, Nat.mul_one, List.append_assoc, ← e3, List.take_left, e3] at h3
    rw [e5]
    exact h3
  · exact grown_trans (grown_trans (grown_drew w _) (by rw [HW.out]; exact setCells_grown _ _ _ _)) (setCells_grown _ _ _ _)

/-- Again's two library calls: what is handed on to Make. -/
theorem again_at (ao : Option Addr) (n cap i : Nat) (ss : List ByteArray) (w : World) (hsl : SSl w ao n cap ss) (hm : n ≤ 1000000000) (hi : i < n) (h2 : 2 ≤ n) (R : Ending → World → Prop)
    (hmk : ∀ ao' cap' W, Below w.heap.size w W → SSl W ao' (n - 1) cap' (ss.take i ++ ss.drop (i + 1)) → Calls Tryd.prog 9 #[.slice ao' (n - 1) cap'] W fun e W' => ∃ (s : ByteArray) (x : Int), e = .returned (.tuple #[.string s, .int .i64 x]) ∧ Below W.heap.size W W' ∧ ∀ W'', Below w.heap.size w W'' → R e W'') :
    Calls Tryd.prog 11 #[.slice ao n cap, .int .i64 i] w R := by
  have HC := Lib.hid (cloneS_any ao n cap (encS ss) w hsl (encS_one _) hm)
  have HM := Lib.hid hmk
  have hz : ((n : Int) < 2) = False := by simp; omega
  have hz1 : ¬ (n : Int) < 2 := by omega
  have hz2 : ¬ (i : Int) < 0 := by omega
  have hz3 : ¬ (n : Int) ≤ (i : Int) := by omega
  clear hsl hmk hz
  go_enter Tryd.func11, Tryd.ntmps11
  go_wp2_with fail
  refine HC.out.mono ?_
  rintro e w1 ⟨v, rfl, hown, hb1⟩
  obtain ⟨ao1, cap1, rfl, hr1⟩ := RSl.of_owns hown
  obtain ⟨g, rfl, hg⟩ := owns_head hown (by omega)
  have HD := Lib.hid (delS_any w.heap.size g i n cap1 ss w1 hown hi hm)
  have HB1 := Lib.hid hb1
  clear hown hb1 hr1
  go_wp2_with fail
  refine HD.out.mono ?_
  rintro e w2 ⟨rfl, hown2, hgr⟩
  have HB2 := Lib.hid (HB1.out.grown hgr HB1.out.size (fun k hk => by simp at hk; omega))
  have hs2 := SSl.of_owns hown2
  have HS2 := Lib.hid hs2
  clear hown2 hgr hs2
  go_wp2_with fail
  refine (HM.out _ _ w2 HB2.out HS2.out).mono ?_
  rintro e w3 ⟨s, x, rfl, hb3, hR⟩
  have HR := Lib.hid (hR w3 (HB2.out.trans (hb3.mono HB2.out.size)))
  clear hR
  go_wp2_with fail
  exact HR.out

theorem again_yes (ao : Option Addr) (n cap i m : Nat) (ss : List ByteArray) (w : World) (hsl : SSl w ao n cap ss) (hm : n ≤ 1000000000) (hi : i < n) (h2 : 2 ≤ n) (hmm : m ≤ 1000000)
    (hs : ∀ s ∈ ss.take i ++ ss.drop (i + 1), s.size = m) :
    Calls Tryd.prog 11 #[.slice ao n cap, .int .i64 i] w fun e w' => e = .returned (.tuple #[.string (xorS m (ss.take i ++ ss.drop (i + 1))), .int .i64 0]) ∧ Below w.heap.size w w' :=
  again_at ao n cap i ss w hsl hm hi h2 _ fun ao' cap' W hW hS => (make_yes ao' (n - 1) cap' m _ W hS (by omega) (by omega) hmm hs).mono fun e W' ⟨he, hb⟩ => ⟨_, _, he, hb, fun W'' hW'' => ⟨he, hW''⟩⟩
theorem again_odd (ao : Option Addr) (n cap i : Nat) (ss : List ByteArray) (w : World) (hsl : SSl w ao n cap ss) (hm : n ≤ 1000000000) (hi : i < n) (h2 : 2 ≤ n)
    (hs : evenL (ss.take i ++ ss.drop (i + 1)) = false) :
    Calls Tryd.prog 11 #[.slice ao n cap, .int .i64 i] w fun e w' => e = .returned (.tuple #[.string ByteArray.empty, .int .i64 1]) ∧ Below w.heap.size w w' :=
  again_at ao n cap i ss w hsl hm hi h2 _ fun ao' cap' W hW hS => (make_no ao' (n - 1) cap' _ W hS (by omega) (.inr hs)).mono fun e W' ⟨he, hb⟩ => ⟨_, _, he, hb, fun W'' hW'' => ⟨he, hW''⟩⟩

end Go.Proofs.YtmnhdpojonlfhaaDoor
