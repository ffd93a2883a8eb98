/- Parts of the proof of the statement that the last file of this claim proves: lemmas, without any condition of their own beyond those that each states. -/
import Derived.Test.YtfaemcfjbbbbdaaGreatYE4
set_option linter.unusedVariables false
set_option linter.unusedSimpArgs false
set_option linter.unnecessarySimpa false
namespace Go.Proofs.YtfaemcfjbbbbdaaGreat
def DvsT.calm (x : DvsT) : Prop := ∀ i, (x.ds.getD i dvD).fuse = -1 ∨ x.ds.length ≤ i
theorem Kept.here {x y : DvsT} (k : Kept x y) (d : Nat) : y.here d = x.here d := by
 unfold DvsT.here
 rw [k.away, (k.dev d).2.1]
theorem Kept.calm {x y : DvsT} (k : Kept x y) (h : x.calm) : y.calm := fun i => by
 rcases h i with h1 | h1
 ·exact .inl ((k.dev i).2.2 h1)
 ·exact .inr (by rw [k.n]; exact h1)
theorem putX_ok {x : DvsT} {c : ColT} {s : Bs} (hc : x.calm) (hi : c.1 < x.ds.length) (hh : x.here c.1 = true) (hm : c.2.1 < (x.ds.getD c.1 dvD).med.length) (hs : s.length = 64) : (putX x c s).1 = true := by
 unfold putX
 rw [if_pos hh]
 have hl : (x.ds.getD c.1 dvD).lost = false := by
  unfold DvsT.here at hh
  simp only [Bool.and_eq_true, Bool.not_eq_true'] at hh
  exact hh.2
 have hme : (x.ds.getD c.1 dvD).mayE (colAt c) = 0 := by
  unfold DevT.mayE colAt
  rw [if_neg (by rw [hl]; decide), if_neg (by omega)]
 have hf : (x.ds.getD c.1 dvD).fuse = -1 := (hc c.1).resolve_right (by omega)
 unfold DevT.writeE
 rw [if_neg (by rw [hme]; decide), if_neg (by omega), if_neg (by rw [hf]; decide)]
 rfl
theorem putX_no {x : DvsT} {c : ColT} {s : Bs} (hh : x.here c.1 = false) : putX x c s = (false, x) := by
 unfold putX
 rw [if_neg (by rw [hh]; decide)]
theorem putsX_miss : ∀ (l : List (ColT × Bs)) (x : DvsT) (f : List Nat), x.calm → (∀ c ∈ l, c.1.1 < x.ds.length ∧ c.1.2.1 < (x.ds.getD c.1.1 dvD).med.length ∧ c.2.length = 64) → ∀ d, d ∈ (putsX x l f).1 → d ∈ f ∨ (x.here d = false ∧ ∃ c ∈ l, c.1.1 = d)
 | [], x, f, _, _, d, hd => .inl hd
 | (c, s) :: r, x, f, hc, h, d, hd => by
  obtain ⟨h1, h2, h3⟩ := h (c, s) (List.mem_cons_self ..)
  have k := putX_kept x c s h1
  unfold putsX at hd
  have hr : ∀ q ∈ r, q.1.1 < (putX x c s).2.ds.length ∧ q.1.2.1 < ((putX x c s).2.ds.getD q.1.1 dvD).med.length ∧ q.2.length = 64 := fun q hq => by
   obtain ⟨a1, a2, a3⟩ := h q (List.mem_cons_of_mem _ hq)
   exact ⟨by rw [k.n]; exact a1, by rw [(k.dev q.1.1).1]; exact a2, a3⟩
  rcases putsX_miss r _ _ (k.calm hc) hr d hd with h4 | ⟨h4, q, hq, e⟩
  ·cases hh : x.here c.1 with
   | true =>
    rw [if_pos (putX_ok hc h1 hh h2 h3)] at h4
    exact .inl h4
   | false =>
    rw [putX_no hh] at h4
    rw [if_neg (by simp)] at h4
    unfold addF at h4
    split at h4
    ·exact .inl h4
    ·rcases List.mem_append.1 h4 with h5 | h5
     ·exact .inl h5
     ·rw [List.mem_singleton.1 h5]
      exact .inr ⟨hh, (c, s), List.mem_cons_self .., rfl⟩
  ·rw [k.here] at h4
   exact .inr ⟨h4, q, List.mem_cons_of_mem _ hq, e⟩
theorem colsL_rng {gs : Gs} {secs : Int} {g a size : Nat} (h : mayC gs secs g a size = true) {i : Nat} (hi : i < (colsL gs g a size).length) : (wsum gs g).toNat ≤ ((colsL gs g a size).getD i cD).1 ∧ ((colsL gs g a size).getD i cD).1 < (wsum gs g).toNat + (gs.getD g (0, 0)).2.toNat := by
 obtain ⟨hr, _, hg, hs1, hs4, _⟩ := mayC_spec h
 have hg' : g < gs.length := by omega
 have hgr := getD_right hr hg'
 unfold colsL at hi ⊢
 split
 ·rename_i hk
  rw [if_pos hk, mirL_length] at hi
  rw [mirL_get _ _ _ _ _ hi]
  have h1 : i / size < (gs.getD g (0, 0)).2.toNat := Nat.div_lt_of_lt_mul (by rw [Nat.mul_comm]; exact hi)
  exact ⟨Nat.le_add_right _ _, Nat.add_lt_add_left h1 _⟩
 ·rename_i hk
  rw [if_neg hk] at hi
  rw [(parL_pos _ _ _ _ i hi).1]
  have h1 : (a + i) % (gs.getD g (0, 0)).2.toNat < (gs.getD g (0, 0)).2.toNat := Nat.mod_lt _ (by omega)
  omega
end Go.Proofs.YtfaemcfjbbbbdaaGreat
namespace Go.Proofs.YtfaemcfjbbbbdaaGreat
theorem makeB_64 {l : List Bs} (hne : l ≠ []) (h : ∀ s ∈ l, s.length = 64) : (makeB l).length = 64 := by
 have he : evenL (bts l) = true := evenL_of _ 64 (fun s hs => by
  obtain ⟨t, ht, rfl⟩ := List.mem_map.1 hs
  exact h t ht)
 unfold makeB
 rw [if_neg (by rw [he]; simp [hne]), xorL_length]
 cases l with
 | nil => exact absurd rfl hne
 | cons a r => exact h a (by simp)
theorem encL_64 {l : List ColT} {data : List Bs} (hd : ∀ s ∈ data, s.length = 64) (hne : 0 < data.length) (hrow : ∀ i, i < l.length → (l.getD i cD).2.2.1 = true → rowL l (l.getD i cD).2.2.2 ≠ []) : ∀ i, i < l.length → ((encL l data).getD i []).length = 64 := by
 have hdat : ∀ k, k < l.length → (l.getD k cD).2.2.1 = false → ((dataL data 0 l).getD k []).length = 64 := fun k hk hp => by
  rw [dataL_get data l 0 k hk, if_neg (by rw [hp]; decide)]
  have hm : (0 + dcount l k) % data.length < data.length := Nat.mod_lt _ hne
  rw [List.getD_eq_getElem?_getD, List.getElem?_eq_getElem hm]
  exact hd _ (List.getElem_mem _)
 intro i hi
 rw [encL_get l data hi]
 split
 ·rename_i hp
  refine makeB_64 (by simpa using hrow i hi hp) fun s hs => ?_
  obtain ⟨k, hk, rfl⟩ := List.mem_map.1 hs
  unfold rowL at hk
  obtain ⟨h1, h2⟩ := List.mem_filter.1 hk
  simp only [Bool.and_eq_true, Bool.not_eq_true'] at h2
  exact hdat k (List.mem_range.1 h1) h2.2
 ·rename_i hp
  exact hdat i hi (by simpa using hp)
theorem parL_data' (first wide at_ : Nat) : ∀ n, ∀ c ∈ parL first wide at_ n, c.2.2.1 = true → ∃ e ∈ parL first wide at_ n, e.2.2.1 = false ∧ e.2.2.2 = c.2.2.2
 | 0, c, hc, _ => by cases hc
 | n + 1, c, hc, hp => by
  have hx : ∃ o : List ColT, parL first wide at_ (n + 1) = parS first wide at_ o (n / (wide - 1)) false ∧ (o = parL first wide at_ n ∨ o = parS first wide at_ (parL first wide at_ n) (n / (wide - 1)) true) := by
   refine ⟨_, rfl, ?_⟩
   split
   ·exact .inr rfl
   ·exact .inl rfl
  obtain ⟨o, he, ho⟩ := hx
  rw [he] at hc ⊢
  have hlast : ∀ r : Nat, r = n / (wide - 1) → ∃ e ∈ parS first wide at_ o (n / (wide - 1)) false, e.2.2.1 = false ∧ e.2.2.2 = r := fun r hr => ⟨_, List.mem_append_right _ (List.mem_singleton.2 rfl), rfl, hr.symm⟩
  have hold : ∀ e ∈ o, e ∈ parS first wide at_ o (n / (wide - 1)) false := fun e h => List.mem_append_left _ h
  rcases List.mem_append.1 hc with h1 | h1
  ·rcases ho with rfl | rfl
   ·obtain ⟨e, h2, h3⟩ := parL_data' first wide at_ n c h1 hp
    exact ⟨e, hold e h2, h3⟩
   ·rcases List.mem_append.1 h1 with h2 | h2
    ·obtain ⟨e, h3, h4⟩ := parL_data' first wide at_ n c h2 hp
     exact ⟨e, hold e (List.mem_append_left _ h3), h4⟩
    ·refine hlast _ ?_
     rw [List.mem_singleton.1 h2]
  ·rw [List.mem_singleton.1 h1] at hp
   cases hp
theorem colsL_row (gs : Gs) (g a size : Nat) : ∀ i, i < (colsL gs g a size).length → ((colsL gs g a size).getD i cD).2.2.1 = true → rowL (colsL gs g a size) ((colsL gs g a size).getD i cD).2.2.2 ≠ [] := by
 intro i hi hp
 have hmem : (colsL gs g a size).getD i cD ∈ colsL gs g a size := by rw [List.getD_eq_getElem?_getD, List.getElem?_eq_getElem hi]; exact List.getElem_mem _
 have hx : ∃ e ∈ colsL gs g a size, e.2.2.1 = false ∧ e.2.2.2 = ((colsL gs g a size).getD i cD).2.2.2 := by
  by_cases hk : (gs.getD g (0, 0)).1 = 0
  ·exfalso
   unfold colsL at hp hi
   rw [if_pos hk] at hp hi
   rw [mirL_length] at hi
   rw [mirL_get _ _ _ _ _ hi] at hp
   cases hp
  ·have e : colsL gs g a size = parL (wsum gs g).toNat (gs.getD g (0, 0)).2.toNat a size := by unfold colsL; rw [if_neg hk]
   rw [e] at hmem hp ⊢
   exact parL_data' _ _ _ _ _ hmem hp
 obtain ⟨e, he, h1, h2⟩ := hx
 obtain ⟨k, hk, rfl⟩ := List.getElem_of_mem he
 intro h0
 have : k ∈ rowL (colsL gs g a size) ((colsL gs g a size).getD i cD).2.2.2 := by
  unfold rowL
  refine List.mem_filter.2 ⟨List.mem_range.2 hk, ?_⟩
  have e2 : (colsL gs g a size).getD k cD = (colsL gs g a size)[k] := by simp [List.getD_eq_getElem?_getD, hk]
  rw [e2, h1, decide_eq_true h2]
  rfl
 rw [h0] at this
 cases this
theorem secL_64 {s : Bs} (h : s.length % 64 = 0) : ∀ t ∈ secL s, t.length = 64 := by
 intro t ht
 unfold secL secK at ht
 obtain ⟨i, hi, rfl⟩ := List.mem_map.1 ht
 have := List.mem_range.1 hi
 rw [List.length_drop, List.length_take]
 omega
end Go.Proofs.YtfaemcfjbbbbdaaGreat
namespace Go.Proofs.YtfaemcfjbbbbdaaGreat
open Go.RowKit
attribute [local go_sem ↓] Go.wp_at_zero Go.wp_at_succ
set_option maxRecDepth 100000 in
theorem hbad_any {w : World} {x : DvsT} {V : DvV} {F : Nat → Prop} (h : IsDvs w x V F) (hr : x.right = true) (p : PtrT) (g a : Nat) (s : Bs) (hs : blkOk s = true) (hp : p.size = ((s.length / 64 : Nat) : Int)) (hm : mayC x.gs x.secs g a ((s.length / 64 : Nat) : Int) = true) (hf : x.fits) :
  Calls Tryz.prog 94 #[V.val x.secs, .agg (encPtr p).toArray, .agg #[.int .i64 (g : Nat), .int .i64 (a : Nat)], .string ⟨s.toArray⟩] w fun e w' => ∃ v, e = .returned v ∧ w'.ownsRow w.heap.size 3 1 v (badX x g a s).length (encNs (badX x g a s)) ∧ Below w.heap.size w w' := by
 obtain ⟨ga, gc, la, lc, wa, wc, hV, hg⟩ := h.form
 have HRW := Lib.hid (fun W (hW : Below w.heap.size w W) => raw_any (h.below hW) hr g a (s.length / 64) hm)
 have hVV : V.val x.secs = .agg #[.slice ga x.gs.length gc, .int .i64 x.secs, .slice la x.ds.length lc, .slice wa x.ds.length wc] := by rw [hV]; rfl
 rw [hVV] at HRW ⊢
 have hLn := rawX_len x g a (s.length / 64)
 have HBD := Lib.hid (fun W (hW : Below w.heap.size w W) gb cap (hgt : SSl W (some ⟨gb, 0, none⟩) (rawX x g a (s.length / 64)).length cap (bts (rawX x g a (s.length / 64)))) => bad_any ga gc x.gs x.secs g a s W (hg.below hW) hs hm (rawX x g a (s.length / 64)) gb cap hgt hLn (raw_fits hf _ _ _))
 have hn0 : 0 < (rawX x g a (s.length / 64)).length := by rw [hLn]; have := (colsL_len hm).1; omega
 rw [← hLn] at HRW
 obtain ⟨n, hn⟩ : ∃ n, n = (rawX x g a (s.length / 64)).length := ⟨_, rfl⟩
 rw [← hn] at HRW HBD hn0
 have HN0 := Lib.hid hn0
 obtain ⟨ag, aa, bg, ba, two, psize, lev, bir, s0, s1, s2, s3⟩ := p
 obtain rfl : psize = _ := hp
 obtain ⟨psz, hpz⟩ : ∃ psz : Int, psz = ((s.length / 64 : Nat) : Int) := ⟨_, rfl⟩
 have HBV : Hid (badX x g a s = badK (encL (colsL x.gs g a (s.length / 64)) (secL s)) (rawX x g a (s.length / 64)) n) := Lib.hid (by unfold badX; rw [← hn])
 obtain ⟨dsn, hdsn⟩ : ∃ dsn, dsn = x.ds.length := ⟨_, rfl⟩
 obtain ⟨gsn, hgsn⟩ : ∃ gsn, gsn = x.gs.length := ⟨_, rfl⟩
 rw [← hdsn, ← hgsn] at HRW ⊢
 rw [← hgsn] at HBD
 simp only [encPtr]
 rw [← hpz] at HRW ⊢
 clear hdsn hgsn hn hLn hn0 hVV hV hg hf hm hs hr h hpz
 have hb0 : Below w.heap.size w (((w.alloc (.cells #[.slice ga gsn gc, .int .i64 x.secs, .slice la dsn lc, .slice wa dsn wc] 37)).alloc (.cells #[.int .i64 ag, .int .i64 aa, .int .i64 bg, .int .i64 ba, .bool two, .int .i64 psz, .int .i64 lev, .int .i64 bir, .int .u64 s0, .int .u64 s1, .int .u64 s2, .int .u64 s3] 49)).alloc (.cells #[.int .i64 (g : Nat), .int .i64 (a : Nat)] 44)) := (((Below.refl _ _).alloc (Nat.le_refl _) _).alloc (by simp) _).alloc (by simp; omega) _
 have HB0 := Lib.hid hb0
 go_enter Tryz.func94, Tryz.ntmps94
 go_wp2_with fail
 refine (HRW.out _ hb0).mono ?_
 rintro e w1 ⟨v, rfl, hown, hb1⟩
 simp only [Nat.add_assoc, Nat.reduceAdd]
 obtain ⟨gb, cap, rfl⟩ := own_form1 hown HN0.out
 have HB1 := Lib.hid (HB0.out.trans (hb1.mono HB0.out.size))
 have HBC := Lib.hid (HBD.out w1 HB1.out gb cap (rsl_of_owns hown))
 have k4 : Blk w1 w.heap.size 37 [.slice ga gsn gc, .int .i64 x.secs, .slice la dsn lc, .slice wa dsn wc] := ((((Blk.new w _ [.slice ga gsn gc, .int .i64 x.secs, .slice la dsn lc, .slice wa dsn wc]).alloc _).alloc _)).below hb1
 have k6 : Blk w1 (w.heap.size + 2) 44 [.int .i64 (g : Nat), .int .i64 (a : Nat)] := (Blk.newAt (g := w.heap.size + 2) _ [.int .i64 (g : Nat), .int .i64 (a : Nat)] (by simp)).below hb1
 have a0 : w1.cell? ⟨w.heap.size, 0, none⟩ = some (.slice ga gsn gc) := k4.cell 0
 have a1 : w1.cell? ⟨w.heap.size, 1, none⟩ = some (.int .i64 x.secs) := k4.cell 1
 have c0 : w1.cell? ⟨w.heap.size + 2, 0, none⟩ = some (.int .i64 (g : Nat)) := k6.cell 0
 have c1 : w1.cell? ⟨w.heap.size + 2, 1, none⟩ = some (.int .i64 (a : Nat)) := k6.cell 1
 clear hb0 hb1 k4 k6 hown HRW HBD
 go_wp2_with fail
 refine HBC.out.mono ?_
 rintro e w2 ⟨v, rfl, hv, hb2⟩
 have HV := Lib.hid hv
 have HB2 := Lib.hid (HB1.out.trans (hb2.mono HB1.out.size))
 clear hv hb2
 go_wp2_with fail
 go_ret
 refine ⟨v, rfl, ?_, HB2.out⟩
 rw [HBV.out]
 exact row_lower HV.out HB1.out.size
theorem iszDsM : (Tryz.prog.info? 37).map (·.size) = some 4 := by kernel_rfl
theorem iszPlM : (Tryz.prog.info? 44).map (·.size) = some 2 := by kernel_rfl
theorem iszPtM : (Tryz.prog.info? 49).map (·.size) = some 12 := by kernel_rfl
structure MdS (g4 g5 pb : Nat) (dv pt pl : List Value) (w : World) : Prop where
 d : Blk w g4 37 dv
 p : Blk w g5 49 pt
 l : Blk w pb 44 pl
theorem MdS.below {g4 g5 pb : Nat} {dv pt pl : List Value} {w w' : World} (h : MdS g4 g5 pb dv pt pl w) (hb : Below w.heap.size w w') : MdS g4 g5 pb dv pt pl w' := ⟨h.d.below hb, h.p.below hb, h.l.below hb⟩
theorem range0M {W : World} {g e : Nat} {cs : List Value} (h : Blk W g e cs) : W.rangeAt g 0 cs := fun j v hv => by rw [Nat.zero_add, h.cell, hv]
theorem mended_cons (s : Bs) (L : List (Int × Int)) (x : DvsT) (k n : Nat) (hk : k < L.length) : mendedL s (L.drop k) x n = mendedL s (L.drop (k + 1)) (mendX x (L.getD k (0, 0)).1.toNat (L.getD k (0, 0)).2.toNat s (badX x (L.getD k (0, 0)).1.toNat (L.getD k (0, 0)).2.toNat s)).2 (n + (mendX x (L.getD k (0, 0)).1.toNat (L.getD k (0, 0)).2.toNat s (badX x (L.getD k (0, 0)).1.toNat (L.getD k (0, 0)).2.toNat s)).1) := by
 rw [List.drop_eq_getElem_cons hk]
 have e : L[k] = L.getD k (0, 0) := by simp [List.getD_eq_getElem?_getD, hk]
 rw [e]
 rfl
theorem mend_kept {x : DvsT} (hr : x.right = true) {g a : Nat} {s : Bs} (hs : blkOk s = true) (hm : mayC x.gs x.secs g a ((s.length / 64 : Nat) : Int) = true) {K : Nat} (hK : x.deep K) : Kept x (mendX x g a s (badX x g a s)).2 ∧ (mendX x g a s (badX x g a s)).2.deep (K + 32) ∧ (mendX x g a s (badX x g a s)).1 ≤ 32 := by
 have hb := badX_spec (s := s) hm
 rw [mendX_eq hr hs hm]
 obtain ⟨a1, a2, a3, a4⟩ := mendsX_kept (colsL x.gs g a (s.length / 64)) (encL (colsL x.gs g a (s.length / 64)) (secL s)) (badX x g a s) x 0 K hb.1 (fun i hi => by rw [(right_spec hr).2.1]; exact colsL_dev hm hi) hK
 exact ⟨a1, fun i k => Nat.le_trans (a2 i k) (by have := hb.2; omega), by have := hb.2; omega⟩
theorem PlOk.kept {x y : DvsT} {p : PtrT} {q : Int × Int} (h : PlOk x p q) (k : Kept x y) : PlOk y p q := ⟨h.g, h.a, h.s, by rw [k.gs, k.secs]; exact h.may⟩
set_option maxRecDepth 100000 in
set_option maxHeartbeats 1000000 in
theorem mended_any {w : World} {x : DvsT} {V : DvV} {F : Nat → Prop} (h : IsDvs w x V F) (hr : x.right = true) (p : PtrT) (hbi : 1 ≤ p.birth) (hok : ∀ q ∈ plL p, PlOk x p q) (s : Bs) (hs : blkOk s = true) (hp : p.size = ((s.length / 64 : Nat) : Int)) (hf : x.fits) (K : Nat) (hK : x.deep K) (hK2 : K + 200 ≤ 1000000000) (m : Nat) (hm1 : 1 ≤ m) (hml : m ≤ (plL p).length) :
  Calls Tryz.prog 70 #[V.val x.secs, .agg (encPtr p).toArray, .string ⟨s.toArray⟩, .int .i64 (m : Nat)] w fun e w' => e = .returned (.int .i64 ((mendedL s ((plL p).take m) x 0).1 : Nat)) ∧ DvsStep (mendedL s ((plL p).take m) x 0).2 V F w w' := by
 obtain ⟨ga, gc, la, lc, wa, wc, hV, hg⟩ := h.form
 have HPL := Lib.hid (fun W => pl_places p hbi W)
 have hVV : ∀ y : DvsT, y.secs = x.secs → V.val y.secs = .agg #[.slice ga x.gs.length gc, .int .i64 x.secs, .slice la x.ds.length lc, .slice wa x.ds.length wc] := fun y e => by rw [hV, e]; rfl
 rw [hVV x rfl]
 have HBA : Hid (∀ (y : DvsT) (W : World) (Fy : Nat → Prop), IsDvs W y V Fy → Kept x y → ∀ q ∈ plL p, Calls Tryz.prog 94 #[.agg #[.slice ga x.gs.length gc, .int .i64 x.secs, .slice la x.ds.length lc, .slice wa x.ds.length wc], .agg (encPtr p).toArray, .agg #[.int .i64 q.1, .int .i64 q.2], .string ⟨s.toArray⟩] W fun e w' => ∃ v, e = .returned v ∧ w'.ownsRow W.heap.size 3 1 v (badX y q.1.toNat q.2.toNat s).length (encNs (badX y q.1.toNat q.2.toNat s)) ∧ Below W.heap.size W w') := Lib.hid (fun y W Fy hy k q hq => by
  have o := (hok q hq).kept k
  have hmy := o.may
  have h1 := hbad_any hy (k.right hr) p q.1.toNat q.2.toNat s hs hp (by rw [Int.toNat_of_nonneg o.g, Int.toNat_of_nonneg o.a, ← hp]; exact hmy) (k.fit hf)
  rw [hVV y k.secs, Int.toNat_of_nonneg o.g, Int.toNat_of_nonneg o.a] at h1
  exact h1)
 have HME : Hid (∀ (y : DvsT) (W : World) (Fy : Nat → Prop) (lo : Option Addr) (lcap Ky : Nat), IsDvs W y V Fy → Kept x y → y.deep Ky → Ky + 100 ≤ 1000000000 → ∀ q ∈ plL p, W.ownsRow 0 3 1 (.slice lo (badX y q.1.toNat q.2.toNat s).length lcap) (badX y q.1.toNat q.2.toNat s).length (encNs (badX y q.1.toNat q.2.toNat s)) → (∀ g, (Value.slice lo (badX y q.1.toNat q.2.toNat s).length lcap).ownBlock = some g → ¬ Fy g) → Calls Tryz.prog 93 #[.agg #[.slice ga x.gs.length gc, .int .i64 x.secs, .slice la x.ds.length lc, .slice wa x.ds.length wc], .agg #[.int .i64 q.1, .int .i64 q.2], .string ⟨s.toArray⟩, .slice lo (badX y q.1.toNat q.2.toNat s).length lcap] W fun e w' => e = .returned (.int .i64 ((mendX y q.1.toNat q.2.toNat s (badX y q.1.toNat q.2.toNat s)).1 : Nat)) ∧ DvsStep (mendX y q.1.toNat q.2.toNat s (badX y q.1.toNat q.2.toNat s)).2 V Fy W w') := Lib.hid (fun y W Fy lo lcap Ky hy k hK hK2 q hq hrow hF => by
  have o := (hok q hq).kept k
  have hmy : mayC y.gs y.secs (q.1.toNat : Nat) (q.2.toNat : Nat) ((s.length / 64 : Nat) : Int) = true := by rw [Int.toNat_of_nonneg o.g, Int.toNat_of_nonneg o.a, ← hp]; exact o.may
  have hb := badX_spec (s := s) hmy
  have h1 := vmend_any hy (k.right hr) q.1.toNat q.2.toNat s hs hmy Ky hK (badX y q.1.toNat q.2.toNat s) lcap hb.1 hb.2 hK2 lo hrow hF
  rw [hVV y k.secs, Int.toNat_of_nonneg o.g, Int.toNat_of_nonneg o.a] at h1
  exact h1)
 have HKP : Hid (∀ (y : DvsT) (Ky : Nat), Kept x y → y.deep Ky → ∀ q ∈ plL p, Kept x (mendX y q.1.toNat q.2.toNat s (badX y q.1.toNat q.2.toNat s)).2 ∧ (mendX y q.1.toNat q.2.toNat s (badX y q.1.toNat q.2.toNat s)).2.deep (Ky + 32) ∧ (mendX y q.1.toNat q.2.toNat s (badX y q.1.toNat q.2.toNat s)).1 ≤ 32) := Lib.hid (fun y Ky k hK q hq => by
  have o := (hok q hq).kept k
  obtain ⟨a1, a2, a3⟩ := mend_kept (k.right hr) (g := q.1.toNat) (a := q.2.toNat) hs (by rw [Int.toNat_of_nonneg o.g, Int.toNat_of_nonneg o.a, ← hp]; exact o.may) hK
  exact ⟨k.trans a1, a2, a3⟩)
 obtain ⟨R, hR⟩ : ∃ R, R = mendedL s ((plL p).take m) x 0 := ⟨_, rfl⟩
 rw [← hR]
 have HR0 : Hid (mendedL s (((plL p).take m).drop 0) x 0 = R) := Lib.hid hR.symm
 obtain ⟨L, hL⟩ : ∃ L, L = plL p := ⟨_, rfl⟩
 have hLn : 1 ≤ L.length ∧ L.length ≤ 2 := by rw [hL, plL_len]; split <;> omega
 rw [← hL] at HPL HBA HME HKP HR0 hml
 have HTK : Hid ((L.take m).length = m) := Lib.hid (by rw [List.length_take]; omega)
 have HGD : Hid (∀ k, k < m → (L.take m).getD k (0, 0) = L.getD k (0, 0) ∧ L.getD k (0, 0) ∈ L) := Lib.hid (fun k hk => ⟨by rw [List.getD_eq_getElem?_getD, List.getElem?_take_of_lt hk, ← List.getD_eq_getElem?_getD], by rw [List.getD_eq_getElem?_getD, List.getElem?_eq_getElem (by omega)]; exact List.getElem_mem _⟩)
 obtain ⟨dsn, hdsn⟩ : ∃ dsn, dsn = x.ds.length := ⟨_, rfl⟩
 obtain ⟨gsn, hgsn⟩ : ∃ gsn, gsn = x.gs.length := ⟨_, rfl⟩
 rw [← hdsn, ← hgsn] at HBA HME ⊢
 have HAT0 := Lib.hid (DvsAt.start h)
 have HK := Lib.hid hK
 have hlt := fun g => h.lt g
 clear hdsn hgsn hV hVV hg hok hf hL hp hr h hs hK hR
 obtain ⟨ag, aa, bg, ba, two, psize, lev, bir, s0, s1, s2, s3⟩ := p
 simp only [encPtr] at HPL HBA ⊢
 obtain ⟨n, hn⟩ : ∃ n, n = L.length := ⟨_, rfl⟩
 rw [← hn] at HPL hml hLn
 have HNL := Lib.hid hn
 have HLT := Lib.hid hlt
 clear hn hbi hlt
 have hb0 : Below w.heap.size w ((w.alloc (.cells #[.slice ga gsn gc, .int .i64 x.secs, .slice la dsn lc, .slice wa dsn wc] 37)).alloc (.cells #[.int .i64 ag, .int .i64 aa, .int .i64 bg, .int .i64 ba, .bool two, .int .i64 psize, .int .i64 lev, .int .i64 bir, .int .u64 s0, .int .u64 s1, .int .u64 s2, .int .u64 s3] 49)) := ((Below.refl _ _).alloc (Nat.le_refl _) _).alloc (by simp) _
 have HB0 := Lib.hid hb0
 clear hb0
 go_enter Tryz.func70, Tryz.ntmps70
 go_wp2_with fail
 refine (HPL.out _).mono ?_
 rintro e w3 ⟨g, rfl, hg, hG, hb3⟩
 simp only [Nat.add_assoc, Nat.reduceAdd]
 have HB3 := Lib.hid (HB0.out.trans (hb3.mono HB0.out.size))
 have HAT3 := Lib.hid (HAT0.out.below HB3.out)
 have HBX : Hid (Blk w3 w.heap.size 37 [.slice ga gsn gc, .int .i64 x.secs, .slice la dsn lc, .slice wa dsn wc] ∧ Blk w3 (w.heap.size + 1) 49 [.int .i64 ag, .int .i64 aa, .int .i64 bg, .int .i64 ba, .bool two, .int .i64 psize, .int .i64 lev, .int .i64 bir, .int .u64 s0, .int .u64 s1, .int .u64 s2, .int .u64 s3] ∧ Blk w3 g 44 (encPc L) ∧ w.heap.size + 2 ≤ g) := Lib.hid ⟨(((Blk.new w _ [.slice ga gsn gc, .int .i64 x.secs, .slice la dsn lc, .slice wa dsn wc]).alloc _)).below hb3, (Blk.newAt (g := w.heap.size + 1) _ [.int .i64 ag, .int .i64 aa, .int .i64 bg, .int .i64 ba, .bool two, .int .i64 psize, .int .i64 lev, .int .i64 bir, .int .u64 s0, .int .u64 s1, .int .u64 s2, .int .u64 s3] (by simp)).below hb3, hG, by simpa using hg⟩
 have HFN : Hid (¬ F w.heap.size ∧ ¬ F (w.heap.size + 1) ∧ ¬ F g) := Lib.hid (by
  have h1 := HLT.out
  have h2 := HBX.out.2.2.2
  exact ⟨fun h => by have := h1 _ h; omega, fun h => by have := h1 _ h; omega, fun h => by have := h1 _ h; omega⟩)
 clear hg hG hb3 HB0 HPL HAT0
 have q0 : (m : Int) ≤ (n : Int) := by omega
 go_wp2_with fail
 go_loopw [9, 17] (fun v9 vi wr => ∃ (k nf : Nat) (xk : DvsT) (Fk : Nat → Prop), vi = .int .i64 (k : Nat) ∧ v9 = .int .i64 (nf : Nat) ∧ nf ≤ 32 * k ∧ k ≤ m ∧ Hid (DvsAt xk V F w wr Fk) ∧ Hid (Blk wr w.heap.size 37 [.slice ga gsn gc, .int .i64 x.secs, .slice la dsn lc, .slice wa dsn wc] ∧ Blk wr (w.heap.size + 1) 49 [.int .i64 ag, .int .i64 aa, .int .i64 bg, .int .i64 ba, .bool two, .int .i64 psize, .int .i64 lev, .int .i64 bir, .int .u64 s0, .int .u64 s1, .int .u64 s2, .int .u64 s3] ∧ Blk wr g 44 (encPc L)) ∧ Hid (¬ Fk w.heap.size ∧ ¬ Fk (w.heap.size + 1) ∧ ¬ Fk g) ∧ Hid (mendedL s ((L.take m).drop k) xk nf = R) ∧ Hid (Kept x xk ∧ xk.deep (K + 32 * k))) (fun _ vi _ => m - (intOf vi).toNat)
 case atStart => exact ⟨0, 0, x, F, rfl, rfl, Nat.le_refl _, Nat.zero_le _, HAT3, Lib.hid ⟨HBX.out.1, HBX.out.2.1, HBX.out.2.2.1⟩, HFN, HR0, Lib.hid ⟨Kept.refl x, HK.out⟩⟩
 case round =>
  obtain ⟨k, nf, xk, Fk, rfl, rfl, hnf, hk, HAT, HBR, HFR, HPU, HXK⟩ := hrel
  clear HR0 HAT3 HFN
  by_cases hkm : k < m
  ·have q1 : (k : Int) < (m : Int) := by omega
   have q2 : 0 ≤ (k : Int) := by omega
   have q3 : (k : Int) < (n : Int) := by omega
   obtain ⟨⟨pg, pa⟩, hq⟩ : ∃ q : Int × Int, q = L.getD k (0, 0) := ⟨_, rfl⟩
   obtain ⟨hgd1, hgd2⟩ := HGD.out k hkm
   have hpu := HPU.out
   rw [mended_cons s (L.take m) xk k nf (by rw [HTK.out]; exact hkm), hgd1, ← hq] at hpu
   rw [← hq] at hgd2
   obtain ⟨c0, c1⟩ := pl_cell HBR.out.2.2 (k := k) (by rw [← HNL.out]; omega)
   rw [← hq] at c0 c1
   dsimp only at c0 c1 hpu
   obtain ⟨bl, hbl⟩ : ∃ bl, bl = badX xk pg.toNat pa.toNat s := ⟨_, rfl⟩
   have hkp := HKP.out xk (K + 32 * k) HXK.out.1 HXK.out.2 _ hgd2
   have hba := fun W Fy hy => HBA.out xk W Fy hy HXK.out.1 _ hgd2
   have hme := fun W Fy lo lcap hy => HME.out xk W Fy lo lcap (K + 32 * k) hy HXK.out.1 HXK.out.2 (by omega) _ hgd2
   dsimp only at hkp hba hme
   rw [← hbl] at hpu hkp hba hme
   obtain ⟨mn, x2, hmx⟩ : ∃ mn x2, mendX xk pg.toNat pa.toNat s bl = (mn, x2) := ⟨_, _, rfl⟩
   rw [hmx] at hpu hkp hme
   have HPU2 := Lib.hid hpu
   have hm32 : mn ≤ 32 := hkp.2.2
   have HX2 : Hid (Kept x x2 ∧ x2.deep (K + 32 * (k + 1))) := Lib.hid ⟨hkp.1, by rw [Nat.mul_succ, ← Nat.add_assoc]; exact hkp.2.1⟩
   have hbA : Below wr.heap.size wr (wr.alloc (.cells #[.int .i64 pg, .int .i64 pa] 44)).drew := ((Below.refl _ _).alloc (Nat.le_refl _) _).drew
   have HAT5 := Lib.hid (HAT.out.below hbA)
   have hS0 : MdS w.heap.size (w.heap.size + 1) wr.heap.size [.slice ga gsn gc, .int .i64 x.secs, .slice la dsn lc, .slice wa dsn wc] [.int .i64 ag, .int .i64 aa, .int .i64 bg, .int .i64 ba, .bool two, .int .i64 psize, .int .i64 lev, .int .i64 bir, .int .u64 s0, .int .u64 s1, .int .u64 s2, .int .u64 s3] [.int .i64 pg, .int .i64 pa] (wr.alloc (.cells #[.int .i64 pg, .int .i64 pa] 44)).drew := ⟨HBR.out.1.below hbA, HBR.out.2.1.below hbA, Blk.new wr _ [.int .i64 pg, .int .i64 pa]⟩
   have HG5 : Hid (Blk (wr.alloc (.cells #[.int .i64 pg, .int .i64 pa] 44)).drew g 44 (encPc L)) := Lib.hid (HBR.out.2.2.below hbA)
   have HF5 : Hid (∀ W' : World, (wr.alloc (.cells #[.int .i64 pg, .int .i64 pa] 44)).drew.heap.size ≤ W'.heap.size → w.heap.size < W'.heap.size ∧ w.heap.size + 1 < W'.heap.size ∧ g < W'.heap.size ∧ wr.heap.size < W'.heap.size) := Lib.hid (fun W' h => by
    have h1 := HBR.out.1.lt
    have h2 := HBR.out.2.1.lt
    have h3 := HBR.out.2.2.lt
    have h4 : wr.heap.size + 1 ≤ W'.heap.size := by simpa using h
    omega)
   have HNP : Hid (¬ Fk wr.heap.size) := Lib.hid (fun h => by have := HAT.out.is.lt _ h; omega)
   have HBAD := Lib.hid (hba _ _ HAT5.out.is)
   have HMD := Lib.hid hme
   clear hpu hq hgd1 hgd2 hkp hba hme hmx hbl hbA
   go_upto_region 5 with fail
   refine wp_region_held_drew (S := MdS w.heap.size (w.heap.size + 1) wr.heap.size [.slice ga gsn gc, .int .i64 x.secs, .slice la dsn lc, .slice wa dsn wc] [.int .i64 ag, .int .i64 aa, .int .i64 bg, .int .i64 ba, .bool two, .int .i64 psize, .int .i64 lev, .int .i64 bir, .int .u64 s0, .int .u64 s1, .int .u64 s2, .int .u64 s3] [.int .i64 pg, .int .i64 pa]) (by kernel_rfl) hS0 (fun hS0 => ?_)
   refine rtd 0 ?_
   refine rtg 1 ?vy1 ?yy1 ?_
   case yy1 => refine yieldsIf_load_mid (by kernel_rfl) 37 (.tmp 4) ?_ w.heap.size (0) ?_ ([.slice ga gsn gc, .int .i64 x.secs, .slice la dsn lc, .slice wa dsn wc]) _ (fun w' (hw : MdS _ _ _ _ _ _ w') => range0M hw.d) Tryz.underlying37 rfl iszDsM <;> rfl
   refine rtg 2 ?vy2 ?yy2 ?_
   case yy2 => refine yieldsIf_load_mid (by kernel_rfl) 44 (.tmp 11) ?_ wr.heap.size (0) ?_ ([.int .i64 pg, .int .i64 pa]) _ (fun w' (hw : MdS _ _ _ _ _ _ w') => range0M hw.l) Tryz.underlying44 rfl iszPlM <;> rfl
   refine rtd 3 ?_
   refine rtg 4 ?vy4 ?yy4 ?_
   case yy4 => refine yieldsIf_load_mid (by kernel_rfl) 37 (.tmp 4) ?_ w.heap.size (0) ?_ ([.slice ga gsn gc, .int .i64 x.secs, .slice la dsn lc, .slice wa dsn wc]) _ (fun w' (hw : MdS _ _ _ _ _ _ w') => range0M hw.d) Tryz.underlying37 rfl iszDsM <;> rfl
   refine rtg 5 ?vy5 ?yy5 ?_
   case yy5 => refine yieldsIf_load_mid (by kernel_rfl) 49 (.tmp 5) ?_ (w.heap.size + 1) (0) ?_ ([.int .i64 ag, .int .i64 aa, .int .i64 bg, .int .i64 ba, .bool two, .int .i64 psize, .int .i64 lev, .int .i64 bir, .int .u64 s0, .int .u64 s1, .int .u64 s2, .int .u64 s3]) _ (fun w' (hw : MdS _ _ _ _ _ _ w') => range0M hw.p) Tryz.underlying49 rfl iszPtM <;> rfl
   refine rtg 6 ?vy6 ?yy6 ?_
   case yy6 => refine yieldsIf_load_mid (by kernel_rfl) 44 (.tmp 11) ?_ wr.heap.size (0) ?_ ([.int .i64 pg, .int .i64 pa]) _ (fun w' (hw : MdS _ _ _ _ _ _ w') => range0M hw.l) Tryz.underlying44 rfl iszPlM <;> rfl
   refine rtd 7 ?_
   refine rr1 (i := 8) (h := fun K hK => ?_)
   go_simp
   refine HBAD.out.mono ?_
   rintro e w6 ⟨v, rfl, hrow, hb6⟩
   obtain ⟨lo, lcap, rfl⟩ := own_form hrow
   have HAT6 := Lib.hid (HAT5.out.below hb6)
   have HS6 := Lib.hid (hS0.below hb6)
   have HG6 := Lib.hid (HG5.out.below hb6)
   have HF6 := Lib.hid (HF5.out w6 hb6.size)
   have HMK := Lib.hid (HMD.out w6 Fk lo lcap HAT6.out.is (row_lower hrow (Nat.zero_le _)) (fun g' hg' hf => by have h1 := (hrow.lt g' hg').1; have h2 := HAT5.out.is.lt g' hf; omega))
   clear hrow hb6 HBAD HMD
   try dsimp only
   refine hK.out _ _ (HS6.out) (fun hSy8 => ?_)
   try simp only [Act.put, z1, z2, z3]
   refine rr1 (i := 9) (h := fun K hK => ?_)
   go_simp
   refine HMK.out.mono ?_
   rintro e w7 ⟨rfl, hstep⟩
   obtain ⟨F2, hat7, hfr7, hm7⟩ := HAT6.out.step hstep
   have HAT7 := Lib.hid hat7
   have HS7 : Hid (MdS w.heap.size (w.heap.size + 1) wr.heap.size [.slice ga gsn gc, .int .i64 x.secs, .slice la dsn lc, .slice wa dsn wc] [.int .i64 ag, .int .i64 aa, .int .i64 bg, .int .i64 ba, .bool two, .int .i64 psize, .int .i64 lev, .int .i64 bir, .int .u64 s0, .int .u64 s1, .int .u64 s2, .int .u64 s3] [.int .i64 pg, .int .i64 pa] w7) := Lib.hid ⟨hm7.blk HS6.out.d HFR.out.1, hm7.blk HS6.out.p HFR.out.2.1, hm7.blk HS6.out.l HNP.out⟩
   have HG7 := Lib.hid (hm7.blk HG6.out HFR.out.2.2)
   have HFR7 : Hid (¬ F2 w.heap.size ∧ ¬ F2 (w.heap.size + 1) ∧ ¬ F2 g) := Lib.hid ⟨hfr7 _ HF6.out.1 HFR.out.1, hfr7 _ HF6.out.2.1 HFR.out.2.1, hfr7 _ HF6.out.2.2.1 HFR.out.2.2⟩
   clear hstep hat7 hfr7 hm7
   try dsimp only
   refine hK.out _ _ (HS7.out) (fun hSy9 => ?_)
   try simp only [Act.put, z1, z2, z3]
   refine rtd 10 ?_; refine rtd 11 ?_
   refine wpAnyH_done (by kernel_rfl) ?_ _
   try dsimp only
   go_wp2_with fail
   go_roundw
   case rel => exact ⟨k + 1, nf + mn, x2, F2, by go_num, by (rw [IntWalk.i64_in _ (by omega)]; rfl), by omega, by omega, HAT7, Lib.hid ⟨HS7.out.d, HS7.out.p, HG7.out⟩, HFR7, HPU2, HX2⟩
   case measure => simp [intOf]; omega
  ·have q1 : ¬ (k : Int) < (m : Int) := by omega
   obtain rfl : k = m := by omega
   have hfx : (nf, xk) = R := by
    have := HPU.out
    rw [List.drop_eq_nil_of_le (by rw [HTK.out]; exact Nat.le_refl _)] at this
    exact this
   have HFX := Lib.hid hfx
   clear hfx
   go_wp2_with fail
   go_ret
   rw [← HFX.out]
   exact ⟨rfl, HAT.out.fin⟩
end Go.Proofs.YtfaemcfjbbbbdaaGreat
namespace Go.Proofs.YtfaemcfjbbbbdaaGreat
open Go.RowKit
attribute [local go_sem ↓] Go.wp_at_zero Go.wp_at_succ
theorem DvsAt.setCell {x : DvsT} {V : DvV} {F F1 : Nat → Prop} {w wc : World} (h : DvsAt x V F w wc F1) {g j : Nat} {u : Value} (hg : ¬ F1 g) (hw : w.heap.size ≤ g) : DvsAt x V F w (wc.setCell ⟨g, j, none⟩ u) F1 :=
 ⟨h.is.keep (fun k hk => Below.heap_setCell _ _ _ _ (fun e => hg (by have e2 : k = g := e; rw [← e2]; exact hk))), h.mo.setCell (.inr hw), h.nw, fun i cs e fr hi h1 h2 => by
  have hb := h.ty i cs e fr hi h1 h2
  rw [Below.heap_setCell _ _ _ _ (fun e2 => by have e3 : i = g := e2; have := (Array.getElem?_eq_some_iff.1 hi).1; omega)]
  exact hb⟩
theorem DvsAt.alloc {x : DvsT} {V : DvV} {F F1 : Nat → Prop} {w wc : World} (h : DvsAt x V F w wc F1) (o : Obj) : DvsAt x V F w (wc.alloc o) F1 := h.below ((Below.refl _ _).alloc (Nat.le_refl _) _)
set_option maxRecDepth 100000 in
set_option maxHeartbeats 1000000 in
theorem hread_any {w : World} {x : DvsT} {V : DvV} {F : Nat → Prop} (h : IsDvs w x V F) (hr : x.right = true) (p : PtrT) (hp : p.ok) (hpr : ptrRight x.gs x.secs p = true) (hf : x.fits) {i : Nat} {d : Int} {s : Bs} (hl : lookX x p = some (i, d, s)) (hs : blkOk s = true) (hsz : p.size = ((s.length / 64 : Nat) : Int)) (hil : i + 1 ≤ (plL p).length) (K : Nat) (hK : x.deep K) (hK2 : K + 200 ≤ 1000000000) :
  Calls Tryz.prog 38 #[V.val x.secs, .agg (encPtr p).toArray] w fun e w' => e = .returned (.tuple #[.agg (encCm s i d ((mendedL s ((plL p).take (i + 1)) x 0).1 : Nat)).toArray, .int .i64 0]) ∧ DvsStep (mendedL s ((plL p).take (i + 1)) x 0).2 V F w w' := by
 obtain ⟨ga, gc, la, lc, wa, wc, hV, hg⟩ := h.form
 have HLK := Lib.hid (fun W (hW : Below w.heap.size w W) => look_any (h.below hW) hr p hp hpr hf hl)
 have HMD := Lib.hid (fun W F' (hW : IsDvs W x V F') => mended_any hW hr p (ptrRight_birth hpr) (plL_ok hpr) s hs hsz hf K hK hK2 (i + 1) (by omega) hil)
 have hVV : V.val x.secs = .agg #[.slice ga x.gs.length gc, .int .i64 x.secs, .slice la x.ds.length lc, .slice wa x.ds.length wc] := by rw [hV]; rfl
 rw [hVV] at HLK HMD ⊢
 have hi2 : i ≤ 1 := by have := plL_len p; split at this <;> omega
 obtain ⟨R, hR⟩ : ∃ R, R = mendedL s ((plL p).take (i + 1)) x 0 := ⟨_, rfl⟩
 rw [← hR] at HMD ⊢
 have HAT0 := Lib.hid (DvsAt.start h)
 have HLT := Lib.hid (fun g => h.lt g)
 obtain ⟨dsn, hdsn⟩ : ∃ dsn, dsn = x.ds.length := ⟨_, rfl⟩
 obtain ⟨gsn, hgsn⟩ : ∃ gsn, gsn = x.gs.length := ⟨_, rfl⟩
 rw [← hdsn, ← hgsn] at HLK HMD ⊢
 clear hdsn hgsn hV hVV hg hf hl hp hpr hr h hs hR hK hK2 hil hsz
 obtain ⟨ag, aa, bg, ba, two, psize, lev, bir, s0, s1, s2, s3⟩ := p
 rw [show ((i + 1 : Nat) : Int) = (i : Int) + 1 by omega] at HMD
 simp only [encPtr] at HLK HMD ⊢
 obtain ⟨mn, x2⟩ := R
 dsimp only at HMD ⊢
 have hb0 : Below w.heap.size w (((w.alloc (.cells #[.slice ga gsn gc, .int .i64 x.secs, .slice la dsn lc, .slice wa dsn wc] 37)).alloc (.cells #[.int .i64 ag, .int .i64 aa, .int .i64 bg, .int .i64 ba, .bool two, .int .i64 psize, .int .i64 lev, .int .i64 bir, .int .u64 s0, .int .u64 s1, .int .u64 s2, .int .u64 s3] 49)).alloc (.cells #[.string ⟨#[]⟩, .int .i64 0, .int .i64 0, .int .i64 0] 105)) := (((Below.refl _ _).alloc (Nat.le_refl _) _).alloc (by simp) _).alloc (by simp; omega) _
 go_enter Tryz.func38, Tryz.ntmps38
 go_wp2_with fail
 refine (HLK.out _ hb0).mono ?_
 rintro e w1 ⟨rfl, hb1⟩
 simp only [Nat.add_assoc, Nat.reduceAdd]
 have HB1 : Hid (Below w.heap.size w w1) := Lib.hid (hb0.trans (hb1.mono hb0.size))
 have k2 : Blk w1 w.heap.size 37 [.slice ga gsn gc, .int .i64 x.secs, .slice la dsn lc, .slice wa dsn wc] := ((((Blk.new w _ [.slice ga gsn gc, .int .i64 x.secs, .slice la dsn lc, .slice wa dsn wc]).alloc _).alloc _)).below hb1
 have k3 : Blk w1 (w.heap.size + 1) 49 [.int .i64 ag, .int .i64 aa, .int .i64 bg, .int .i64 ba, .bool two, .int .i64 psize, .int .i64 lev, .int .i64 bir, .int .u64 s0, .int .u64 s1, .int .u64 s2, .int .u64 s3] := ((Blk.newAt (g := w.heap.size + 1) _ [.int .i64 ag, .int .i64 aa, .int .i64 bg, .int .i64 ba, .bool two, .int .i64 psize, .int .i64 lev, .int .i64 bir, .int .u64 s0, .int .u64 s1, .int .u64 s2, .int .u64 s3] (by simp)).alloc _).below hb1
 have k4 : Blk w1 (w.heap.size + 2) 105 [.string ⟨#[]⟩, .int .i64 0, .int .i64 0, .int .i64 0] := (Blk.newAt (g := w.heap.size + 2) _ [.string ⟨#[]⟩, .int .i64 0, .int .i64 0, .int .i64 0] (by simp)).below hb1
 have HS1 : Hid (w.heap.size + 3 ≤ w1.heap.size) := Lib.hid (by have := hb1.size; simpa using this)
 have HAT1 := Lib.hid (HAT0.out.below HB1.out)
 have HATA := Lib.hid (HAT1.out.alloc (.cells #[.string ⟨s.toArray⟩, .int .i64 (i : Nat), .int .i64 d, .int .i64 0] 105))
 have HMC := Lib.hid (HMD.out _ _ HATA.out.is)
 have K4 := Lib.hid (k4.alloc (.cells #[.string ⟨s.toArray⟩, .int .i64 (i : Nat), .int .i64 d, .int .i64 0] 105))
 have K6 : Hid (Blk (w1.alloc (.cells #[.string ⟨s.toArray⟩, .int .i64 (i : Nat), .int .i64 d, .int .i64 0] 105)) w1.heap.size 105 [.string ⟨s.toArray⟩, .int .i64 (i : Nat), .int .i64 d, .int .i64 0]) := Lib.hid (Blk.new w1 _ [.string ⟨s.toArray⟩, .int .i64 (i : Nat), .int .i64 d, .int .i64 0])
 have a0 : (w1.alloc (.cells #[.string ⟨s.toArray⟩, .int .i64 (i : Nat), .int .i64 d, .int .i64 0] 105)).cell? ⟨w.heap.size, 0, none⟩ = some (.slice ga gsn gc) := (k2.alloc _).cell 0
 have a1 : (w1.alloc (.cells #[.string ⟨s.toArray⟩, .int .i64 (i : Nat), .int .i64 d, .int .i64 0] 105)).cell? ⟨w.heap.size, 1, none⟩ = some (.int .i64 x.secs) := (k2.alloc _).cell 1
 have a2 : (w1.alloc (.cells #[.string ⟨s.toArray⟩, .int .i64 (i : Nat), .int .i64 d, .int .i64 0] 105)).cell? ⟨w.heap.size, 2, none⟩ = some (.slice la dsn lc) := (k2.alloc _).cell 2
 have a3 : (w1.alloc (.cells #[.string ⟨s.toArray⟩, .int .i64 (i : Nat), .int .i64 d, .int .i64 0] 105)).cell? ⟨w.heap.size, 3, none⟩ = some (.slice wa dsn wc) := (k2.alloc _).cell 3
 have b0 : (w1.alloc (.cells #[.string ⟨s.toArray⟩, .int .i64 (i : Nat), .int .i64 d, .int .i64 0] 105)).cell? ⟨w.heap.size + 1, 0, none⟩ = some (.int .i64 ag) := (k3.alloc _).cell 0
 have b1 : (w1.alloc (.cells #[.string ⟨s.toArray⟩, .int .i64 (i : Nat), .int .i64 d, .int .i64 0] 105)).cell? ⟨w.heap.size + 1, 1, none⟩ = some (.int .i64 aa) := (k3.alloc _).cell 1
 have b2 : (w1.alloc (.cells #[.string ⟨s.toArray⟩, .int .i64 (i : Nat), .int .i64 d, .int .i64 0] 105)).cell? ⟨w.heap.size + 1, 2, none⟩ = some (.int .i64 bg) := (k3.alloc _).cell 2
 have b3 : (w1.alloc (.cells #[.string ⟨s.toArray⟩, .int .i64 (i : Nat), .int .i64 d, .int .i64 0] 105)).cell? ⟨w.heap.size + 1, 3, none⟩ = some (.int .i64 ba) := (k3.alloc _).cell 3
 have b4 : (w1.alloc (.cells #[.string ⟨s.toArray⟩, .int .i64 (i : Nat), .int .i64 d, .int .i64 0] 105)).cell? ⟨w.heap.size + 1, 4, none⟩ = some (.bool two) := (k3.alloc _).cell 4
 have b5 : (w1.alloc (.cells #[.string ⟨s.toArray⟩, .int .i64 (i : Nat), .int .i64 d, .int .i64 0] 105)).cell? ⟨w.heap.size + 1, 5, none⟩ = some (.int .i64 psize) := (k3.alloc _).cell 5
 have b6 : (w1.alloc (.cells #[.string ⟨s.toArray⟩, .int .i64 (i : Nat), .int .i64 d, .int .i64 0] 105)).cell? ⟨w.heap.size + 1, 6, none⟩ = some (.int .i64 lev) := (k3.alloc _).cell 6
 have b7 : (w1.alloc (.cells #[.string ⟨s.toArray⟩, .int .i64 (i : Nat), .int .i64 d, .int .i64 0] 105)).cell? ⟨w.heap.size + 1, 7, none⟩ = some (.int .i64 bir) := (k3.alloc _).cell 7
 have b8 : (w1.alloc (.cells #[.string ⟨s.toArray⟩, .int .i64 (i : Nat), .int .i64 d, .int .i64 0] 105)).cell? ⟨w.heap.size + 1, 8, none⟩ = some (.int .u64 s0) := (k3.alloc _).cell 8
 have b9 : (w1.alloc (.cells #[.string ⟨s.toArray⟩, .int .i64 (i : Nat), .int .i64 d, .int .i64 0] 105)).cell? ⟨w.heap.size + 1, 9, none⟩ = some (.int .u64 s1) := (k3.alloc _).cell 9
 have b10 : (w1.alloc (.cells #[.string ⟨s.toArray⟩, .int .i64 (i : Nat), .int .i64 d, .int .i64 0] 105)).cell? ⟨w.heap.size + 1, 10, none⟩ = some (.int .u64 s2) := (k3.alloc _).cell 10
 have b11 : (w1.alloc (.cells #[.string ⟨s.toArray⟩, .int .i64 (i : Nat), .int .i64 d, .int .i64 0] 105)).cell? ⟨w.heap.size + 1, 11, none⟩ = some (.int .u64 s3) := (k3.alloc _).cell 11
 clear hb0 hb1 k2 k3 k4 HLK HMD HAT0
 simp only [encCm]
 go_upto_region 3 with fail
 try simp only [encCm]
 go_wp2_with fail
 refine HMC.out.mono ?_
 rintro e w3 ⟨rfl, hstep⟩
 obtain ⟨F2, hat3, hfr3, hm3⟩ := HATA.out.step hstep
 have hs1 := HS1.out
 have hf4 : ¬ F (w.heap.size + 2) := fun hf => by have := HLT.out _ hf; omega
 have hf6 : ¬ F w1.heap.size := fun hf => by have := HLT.out _ hf; omega
 have n4 : ¬ F2 (w.heap.size + 2) := hfr3 _ (by simp; omega) hf4
 have n6 : ¬ F2 w1.heap.size := hfr3 _ (by simp) hf6
 have k4 := hm3.blk K4.out hf4
 have k6 := hm3.blk K6.out hf6
 have HNE : Hid (w.heap.size + 2 ≠ w1.heap.size) := Lib.hid (by omega)
 obtain ⟨wE, hwE⟩ : ∃ wE, wE = ((((w3.setCell ⟨w1.heap.size, 3, none⟩ (.int .i64 (mn : Nat))).setCell ⟨w.heap.size + 2, 0, none⟩ (.string ⟨s.toArray⟩)).setCell ⟨w.heap.size + 2, 1, none⟩ (.int .i64 (i : Nat))).setCell ⟨w.heap.size + 2, 2, none⟩ (.int .i64 d)).setCell ⟨w.heap.size + 2, 3, none⟩ (.int .i64 (mn : Nat)) := ⟨_, rfl⟩
 have HWE := Lib.hid hwE
 have HBK : Hid (Blk wE (w.heap.size + 2) 105 (encCm s i d (mn : Nat))) := Lib.hid (by
  rw [hwE]
  exact (((((k4.other (a := ⟨w1.heap.size, 3, none⟩) HNE.out _).setCell 0 _).setCell 1 _).setCell 2 _).setCell 3 _))
 have HDE : Hid (DvsAt x2 V F w wE F2) := Lib.hid (by
  rw [hwE]
  exact (((((hat3.setCell n6 (by omega)).setCell n4 (by omega)).setCell n4 (by omega)).setCell n4 (by omega)).setCell n4 (by omega)))
 have k6a := k6.setCell 3 (.int .i64 (mn : Nat))
 have k4a := k4.other (a := ⟨w1.heap.size, 3, none⟩) HNE.out (.int .i64 (mn : Nat))
 have g3 : w3.cell? ⟨w1.heap.size, 3, none⟩ = some (.int .i64 0) := k6.cell 3
 have g3f := k6.frozen 3
 have u0 : (w3.setCell ⟨w1.heap.size, 3, none⟩ (.int .i64 (mn : Nat))).cell? ⟨w1.heap.size, 0, none⟩ = some (.string ⟨s.toArray⟩) := k6a.cell 0
 have u1 : (w3.setCell ⟨w1.heap.size, 3, none⟩ (.int .i64 (mn : Nat))).cell? ⟨w1.heap.size, 1, none⟩ = some (.int .i64 (i : Nat)) := k6a.cell 1
 have u2 : (w3.setCell ⟨w1.heap.size, 3, none⟩ (.int .i64 (mn : Nat))).cell? ⟨w1.heap.size, 2, none⟩ = some (.int .i64 d) := k6a.cell 2
 have u3 : (w3.setCell ⟨w1.heap.size, 3, none⟩ (.int .i64 (mn : Nat))).cell? ⟨w1.heap.size, 3, none⟩ = some (.int .i64 (mn : Nat)) := k6a.cell 3
 have v0 : (w3.setCell ⟨w1.heap.size, 3, none⟩ (.int .i64 (mn : Nat))).cell? ⟨w.heap.size + 2, 0, none⟩ = some (.string ⟨#[]⟩) := k4a.cell 0
 have v1 : (w3.setCell ⟨w1.heap.size, 3, none⟩ (.int .i64 (mn : Nat))).cell? ⟨w.heap.size + 2, 1, none⟩ = some (.int .i64 0) := k4a.cell 1
 have v2 : (w3.setCell ⟨w1.heap.size, 3, none⟩ (.int .i64 (mn : Nat))).cell? ⟨w.heap.size + 2, 2, none⟩ = some (.int .i64 0) := k4a.cell 2
 have v3 : (w3.setCell ⟨w1.heap.size, 3, none⟩ (.int .i64 (mn : Nat))).cell? ⟨w.heap.size + 2, 3, none⟩ = some (.int .i64 0) := k4a.cell 3
 have f0 := k4a.frozen 0
 have f1 := k4a.frozen 1
 have f2 := k4a.frozen 2
 have f3 := k4a.frozen 3
 clear k4 k6 k4a k6a n4 n6 hf4 hf6 hs1 hat3 hfr3 hm3 hstep hwE HNE a0 a1 a2 a3 b0 b1 b2 b3 b4 b5 b6 b7 b8 b9 b10 b11
 go_wp2_with fail
 rw [← HWE.out]
 refine bodyPost_ret (results_cm rfl _ _ (w.heap.size + 2) s i d (mn : Nat) rfl HBK.out) rfl ?_
 exact ⟨rfl, HDE.out.fin⟩
end Go.Proofs.YtfaemcfjbbbbdaaGreat
namespace Go.Proofs.YtfaemcfjbbbbdaaGreat
open Go.RowKit
def BookTy (e : Nat) : Prop := e = 90 ∨ e = 31 ∨ e = 91 ∨ e = 3 ∨ e = 154 ∨ e = 130
theorem own_typed {w w' : World} {b e k n : Nat} {v : Value} {xs : List Value} (h : w.ownsRow b e k v n xs) (hk : ∀ (g : Nat) cs fr, w.heap[g]? = some (Obj.cells cs e fr) → w'.heap[g]? = some (Obj.cells cs e fr)) : w'.ownsRow b e k v n xs :=
 own_keep h (fun g hg => by
  obtain ⟨cs, fr, h1⟩ := own_type h hg
  rw [h1]; exact hk g cs fr h1)
theorem IsBook.typed {w w' : World} {bb eb : Nat} {gs : Gs} {secs : Int} {ms : List MT} {es : List Nat} (h : IsBook w bb eb gs secs ms es) (hk : ∀ (g : Nat) cs e fr, w.heap[g]? = some (Obj.cells cs e fr) → BookTy e → w'.heap[g]? = some (Obj.cells cs e fr)) : IsBook w' bb eb gs secs ms es := by
 obtain ⟨gv, mv, ec, a1, a2, a3, a4⟩ := h.mem
 refine ⟨h.right, h.mlen, h.elen, ⟨gv, mv, ec, hk _ _ _ _ a1 (.inl rfl), own_typed a2 (fun g cs fr hg => hk g cs _ fr hg (.inr (.inl rfl))), own_typed a3 (fun g cs fr hg => hk g cs _ fr hg (.inr (.inr (.inl rfl)))), own_typed a4 (fun g cs fr hg => hk g cs _ fr hg (.inr (.inr (.inr (.inl rfl)))))⟩, fun m hm => ?_, h.nodup⟩
 obtain ⟨h1, h2, h3, h4, v, h5, h6⟩ := h.maps m hm
 exact ⟨h1, h2, h3, h4, v, hk _ _ _ _ h5 (.inr (.inr (.inr (.inr (.inl rfl))))), own_typed h6 (fun g cs fr hg => hk g cs _ fr hg (.inr (.inr (.inr (.inr (.inr rfl))))))⟩
theorem IsBook.noturn {w w' : World} {bb eb : Nat} {gs : Gs} {secs : Int} {ms : List MT} {es : List Nat} (h : IsBook w bb eb gs secs ms es) (hn : NoTurn w w') : IsBook w' bb eb gs secs ms es :=
 h.typed (fun g cs e fr hg he => hn g cs e fr hg (by rcases he with rfl | rfl | rfl | rfl | rfl | rfl <;> decide) (by rcases he with rfl | rfl | rfl | rfl | rfl | rfl <;> decide))
def DevTy (e : Nat) : Prop := e = 31 ∨ e = 76 ∨ e = 4 ∨ e = 121 ∨ e = 9
theorem IsDvs.type {w : World} {x : DvsT} {V : DvV} {F : Nat → Prop} (h : IsDvs w x V F) : ∀ g, F g → ∀ cs e fr, w.heap[g]? = some (Obj.cells cs e fr) → DevTy e := by
 obtain ⟨dbs, Fd, h, hF⟩ := h
 intro g hg cs e fr hb
 have key : ∀ {e' k : Nat} {v : Value} {n : Nat} {xs : List Value}, w.ownsRow 0 e' k v n xs → v.ownBlock = some g → e = e' := fun hr hv => by
  obtain ⟨c1, f1, h1⟩ := own_type hr hv
  rw [h1] at hb
  simp only [Option.some.injEq, Obj.cells.injEq] at hb
  exact hb.2.1.symm
 rcases (hF g).1 hg with h1 | h1 | h1 | ⟨i, hi, h1⟩
 ·exact .inl (key h.grp h1)
 ·exact .inr (.inl (key h.lst h1))
 ·exact .inr (.inr (.inl (key h.awy h1)))
 ·rcases (h.dev i hi).type g h1 cs e fr hb with h4 | h4
  ·exact .inr (.inr (.inr (.inl h4)))
  ·exact .inr (.inr (.inr (.inr h4)))
structure StoT where
 x : DvsT
 sn : SN
 es : List Nat
 txg : Int
 keep : Int
 mt : Bool
 fixed : Nat
 born : List PtrT
def stoC (V : DvV) (S : StoT) (bb : Nat) (dn : Option Nat) : List Value := [V.g, .int .i64 S.x.secs, V.l, V.a, .pointer (some ⟨bb, 0, none⟩), .int .i64 S.txg, .int .i64 S.keep, .bool S.mt, .pointer (dn.map fun d => ⟨d, 0, none⟩)]
def DoneAt (w : World) (dn : Option Nat) (S : StoT) (bv : Value) : Prop := match dn with
 | none => S.fixed = 0 ∧ S.born = [] ∧ bv = .slice none 0 0
 | some d => Blk w d 102 [.int .i64 (S.fixed : Nat), bv] ∧ w.ownsRow 0 49 12 bv S.born.length (encPs S.born)
structure StoV (w : World) (sb : Nat) (S : StoT) (V : DvV) (bb eb : Nat) (ms : List MT) (dn : Option Nat) (bv : Value) (F : Nat → Prop) : Prop where
 blk : Blk w sb 41 (stoC V S bb dn)
 dvs : IsDvs w S.x V F
 bok : IsBook w bb eb S.x.gs S.x.secs ms S.es
 sn : st2 ms = S.sn
 don : DoneAt w dn S bv
def stoF (sb bb eb : Nat) (ms : List MT) (dn : Option Nat) (bv : Value) (F : Nat → Prop) : Nat → Prop := fun k => F k ∨ foot bb eb ms k ∨ k = sb ∨ dn = some k ∨ bv.ownBlock = some k
def IsSto (w : World) (sb : Nat) (S : StoT) (V : DvV) (bb : Nat) (dn : Option Nat) (T : Nat → Prop) : Prop := ∃ eb ms bv F, StoV w sb S V bb eb ms dn bv F ∧ ∀ k, T k ↔ stoF sb bb eb ms dn bv F k
def StoTy (e : Nat) : Prop := BookTy e ∨ DevTy e ∨ e = 41 ∨ e = 102 ∨ e = 49
theorem DoneAt.keep {w w' : World} {dn : Option Nat} {S : StoT} {bv : Value} (h : DoneAt w dn S bv) (hk : ∀ k, dn = some k ∨ bv.ownBlock = some k → w'.heap[k]? = w.heap[k]?) : DoneAt w' dn S bv := by
 cases dn with
 | none => exact h
 | some d =>
  obtain ⟨h1, h2⟩ := h
  refine ⟨?_, own_keep h2 (fun g hg => hk g (.inr hg))⟩
  unfold Blk at h1 ⊢
  rw [hk d (.inl rfl)]
  exact h1
theorem DoneAt.lt {w : World} {dn : Option Nat} {S : StoT} {bv : Value} (h : DoneAt w dn S bv) : (∀ d, dn = some d → d < w.heap.size) ∧ ∀ g, bv.ownBlock = some g → g < w.heap.size := by
 cases dn with
 | none => exact ⟨(fun d e => by cases e), (fun g hg => by rw [h.2.2] at hg; cases hg)⟩
 | some d => exact ⟨(fun d e => by cases e; exact h.1.lt), (fun g hg => (h.2.lt g hg).2)⟩
theorem IsSto.lt {w : World} {sb : Nat} {S : StoT} {V : DvV} {bb : Nat} {dn : Option Nat} {T : Nat → Prop} (h : IsSto w sb S V bb dn T) : ∀ k, T k → k < w.heap.size := by
 obtain ⟨eb, ms, bv, F, h, hT⟩ := h
 intro k hk
 rcases (hT k).1 hk with h1 | h1 | h1 | h1 | h1
 ·exact h.dvs.lt k h1
 ·exact h.bok.lt k h1
 ·rw [h1]; exact h.blk.lt
 ·exact h.don.lt.1 k h1
 ·exact h.don.lt.2 k h1
theorem StoV.keep {w w' : World} {sb : Nat} {S : StoT} {V : DvV} {bb eb : Nat} {ms : List MT} {dn : Option Nat} {bv : Value} {F : Nat → Prop} (h : StoV w sb S V bb eb ms dn bv F) (hk : ∀ k, stoF sb bb eb ms dn bv F k → w'.heap[k]? = w.heap[k]?)
  (ht : ∀ (g : Nat) cs e fr, w.heap[g]? = some (Obj.cells cs e fr) → BookTy e → w'.heap[g]? = some (Obj.cells cs e fr)) : StoV w' sb S V bb eb ms dn bv F := by
 refine ⟨?_, h.dvs.keep (fun g hg => hk g (.inl hg)), h.bok.typed ht, h.sn, h.don.keep (fun k hk2 => hk k (by rcases hk2 with h1 | h1; exact .inr (.inr (.inr (.inl h1))); exact .inr (.inr (.inr (.inr h1)))))⟩
 have := h.blk
 unfold Blk at this ⊢
 rw [hk sb (.inr (.inr (.inl rfl)))]
 exact this
theorem IsSto.keep {w w' : World} {sb : Nat} {S : StoT} {V : DvV} {bb : Nat} {dn : Option Nat} {T : Nat → Prop} (h : IsSto w sb S V bb dn T) (hk : ∀ k, T k → w'.heap[k]? = w.heap[k]?)
  (ht : ∀ (g : Nat) cs e fr, w.heap[g]? = some (Obj.cells cs e fr) → BookTy e → w'.heap[g]? = some (Obj.cells cs e fr)) : IsSto w' sb S V bb dn T := by
 obtain ⟨eb, ms, bv, F, h, hT⟩ := h
 exact ⟨eb, ms, bv, F, h.keep (fun k hk2 => hk k ((hT k).2 hk2)) ht, hT⟩
theorem IsSto.below {w w' : World} {sb : Nat} {S : StoT} {V : DvV} {bb : Nat} {dn : Option Nat} {T : Nat → Prop} (h : IsSto w sb S V bb dn T) (hb : Below w.heap.size w w') : IsSto w' sb S V bb dn T :=
 h.keep (fun k hk => hb.block k (h.lt k hk)) (fun g cs e fr hg _ => by rw [hb.block g (Array.getElem?_eq_some_iff.1 hg).1]; exact hg)
theorem IsSto.other {w w' : World} {sb : Nat} {S : StoT} {V : DvV} {bb : Nat} {dn : Option Nat} {T : Nat → Prop} {g0 e0 : Nat} {cs0 : Array Value} {fr0 : Nat × Nat} (h : IsSto w sb S V bb dn T) (hg : w.heap[g0]? = some (Obj.cells cs0 e0 fr0)) (he : ¬ BookTy e0) (hT : ¬ T g0) (hgr : w.grownBy w' (some g0)) : IsSto w' sb S V bb dn T :=
 h.keep (fun k hk => hgr.block k (h.lt k hk) (fun e => hT (by rw [← Option.some.inj e]; exact hk))) (fun g cs e fr hg2 he2 => by
  rw [hgr.block g (Array.getElem?_eq_some_iff.1 hg2).1 (fun e3 => by
   have := Option.some.inj e3
   subst this
   rw [hg] at hg2
   simp only [Option.some.injEq, Obj.cells.injEq] at hg2
   exact he (hg2.2.1 ▸ he2))]
  exact hg2)
def StoStep (S' : StoT) (V : DvV) (sb bb : Nat) (dn' : Option Nat) (T : Nat → Prop) (w w' : World) : Prop := ∃ T', IsSto w' sb S' V bb dn' T' ∧ Mod T w w' ∧ ∀ g, T' g → T g ∨ w.heap.size ≤ g
end Go.Proofs.YtfaemcfjbbbbdaaGreat
namespace Go.Proofs.YtfaemcfjbbbbdaaGreat
open Go.RowKit
attribute [local go_sem ↓] Go.wp_at_zero Go.wp_at_succ
theorem IsSto.cells {w : World} {sb : Nat} {S : StoT} {V : DvV} {bb : Nat} {dn : Option Nat} {T : Nat → Prop} (h : IsSto w sb S V bb dn T) : Blk w sb 41 (stoC V S bb dn) := by
 obtain ⟨eb, ms, bv, F, h, hT⟩ := h
 exact h.blk
theorem IsSto.stay {w w' : World} {sb : Nat} {S : StoT} {V : DvV} {bb : Nat} {dn : Option Nat} {T : Nat → Prop} (h : IsSto w sb S V bb dn T) (hb : Below w.heap.size w w') : StoStep S V sb bb dn T w w' := ⟨T, h.below hb, Mod.below hb, fun g hg => .inl hg⟩
theorem work_some {w : World} {sb : Nat} {S : StoT} {V : DvV} {bb d : Nat} {T : Nat → Prop} (h : IsSto w sb S V bb (some d) T) :
  Calls Tryz.prog 37 #[.pointer (some ⟨sb, 0, none⟩)] w fun e w' => e = .returned (.pointer (some ⟨d, 0, none⟩)) ∧ w' = w := by
 have hB := h.cells
 have e8 : w.cell? ⟨sb, 8, none⟩ = some (.pointer (some ⟨d, 0, none⟩)) := hB.cell 8
 clear h hB
 go_enter Tryz.func37, Tryz.ntmps37
 go_wp2_with fail
 go_ret
 exact ⟨rfl, rfl⟩
theorem IsSto.begin {w : World} {sb : Nat} {S : StoT} {V : DvV} {bb : Nat} {T : Nat → Prop} (h : IsSto w sb S V bb none T) :
  StoStep S V sb bb (some w.heap.size) T w ((w.alloc (.cells #[.int .i64 0, .slice none 0 0] 102)).setCell ⟨sb, 8, none⟩ (.pointer (some ⟨w.heap.size, 0, none⟩))) := by
 have hsl : sb < w.heap.size := h.cells.lt
 obtain ⟨eb, ms, bv, F, h, hT⟩ := h
 obtain ⟨d1, d2, d3⟩ := h.don
 subst d3
 have hbA : Below w.heap.size w (w.alloc (.cells #[.int .i64 0, .slice none 0 0] 102)) := (Below.refl _ _).alloc (Nat.le_refl _) _
 have hne : ∀ k, ¬ k = sb → ∀ v, ((w.alloc (.cells #[.int .i64 0, .slice none 0 0] 102)).setCell ⟨sb, 8, none⟩ v).heap[k]? = (w.alloc (.cells #[.int .i64 0, .slice none 0 0] 102)).heap[k]? := fun k hk v => Below.heap_setCell _ _ _ _ hk
 have hsb : w.heap[sb]? = some (Obj.cells (stoC V S bb none).toArray 41 (0, 0)) := h.blk
 have hFs : ¬ F sb := fun hf => by
  have := h.dvs.type sb hf _ _ _ hsb
  rcases this with h1 | h1 | h1 | h1 | h1 <;> exact absurd h1 (by decide)
 refine ⟨stoF sb bb eb ms (some w.heap.size) (.slice none 0 0) F, ⟨eb, ms, .slice none 0 0, F, ⟨?_, ?_, ?_, h.sn, ?_, ?_⟩, fun k => Iff.rfl⟩, ?_, ?_⟩
 ·exact ((h.blk.alloc _).setCell 8 (.pointer (some ⟨w.heap.size, 0, none⟩)))
 ·exact (h.dvs.below hbA).keep (fun g hg => hne g (fun e => hFs (e ▸ hg)) _)
 ·refine (h.bok.below hbA).typed (fun g cs e fr hg he => ?_)
  rw [hne g (fun e2 => by
   subst e2
   have h1 := h.blk.alloc (.cells #[.int .i64 0, .slice none 0 0] 102)
   unfold Blk at h1
   rw [h1] at hg
   simp only [Option.some.injEq, Obj.cells.injEq] at hg
   rcases he with e3 | e3 | e3 | e3 | e3 | e3 <;> exact absurd (hg.2.1.trans e3) (by decide))]
  exact hg
 ·rw [d1]
  exact (Blk.new w 102 [.int .i64 0, .slice none 0 0]).other (by show w.heap.size ≠ sb; omega) _
 ·rw [d2]
  exact ⟨rfl, .inl ⟨rfl, rfl⟩⟩
 ·exact (Mod.below hbA).setCell (.inl ((hT sb).2 (.inr (.inr (.inl rfl)))))
 ·rintro k (h1 | h1 | h1 | h1 | h1)
  ·exact .inl ((hT k).2 (.inl h1))
  ·exact .inl ((hT k).2 (.inr (.inl h1)))
  ·exact .inl ((hT k).2 (.inr (.inr (.inl h1))))
  ·exact .inr (by have := Option.some.inj h1; omega)
  ·cases h1
theorem work_any {w : World} {sb : Nat} {S : StoT} {V : DvV} {bb : Nat} {dn : Option Nat} {T : Nat → Prop} (h : IsSto w sb S V bb dn T) :
  Calls Tryz.prog 37 #[.pointer (some ⟨sb, 0, none⟩)] w fun e w' => ∃ d, e = .returned (.pointer (some ⟨d, 0, none⟩)) ∧ StoStep S V sb bb (some d) T w w' := by
 cases dn with
 | some d => exact (work_some h).mono (fun e w' h1 => ⟨d, h1.1, by rw [h1.2]; exact h.stay (Below.refl _ _)⟩)
 | none =>
  have HB := Lib.hid h.begin
  have hB := h.cells
  have e8 : w.cell? ⟨sb, 8, none⟩ = some (.pointer none) := hB.cell 8
  have f8 := hB.frozen 8
  have hne : w.heap.size ≠ sb := by have := hB.lt; omega
  have k8 : ((w.alloc (.cells #[.int .i64 0, .slice none 0 0] 102)).setCell ⟨sb, 8, none⟩ (.pointer (some ⟨w.heap.size, 0, none⟩))).cell? ⟨sb, 8, none⟩ = some (.pointer (some ⟨w.heap.size, 0, none⟩)) := ((hB.alloc (.cells #[.int .i64 0, .slice none 0 0] 102)).setCell 8 (.pointer (some ⟨w.heap.size, 0, none⟩))).cell 8
  have g8 : (w.alloc (.cells #[.int .i64 0, .slice none 0 0] 102)).cell? ⟨sb, 8, none⟩ = some (.pointer none) := (hB.alloc _).cell 8
  have gf8 := (hB.alloc (.cells #[.int .i64 0, .slice none 0 0] 102)).frozen 8
  clear h hB
  go_enter Tryz.func37, Tryz.ntmps37
  go_wp2_with fail
  go_ret
  exact ⟨_, rfl, HB.out⟩
end Go.Proofs.YtfaemcfjbbbbdaaGreat
namespace Go.Proofs.YtfaemcfjbbbbdaaGreat
open Go.RowKit
attribute [local go_sem ↓] Go.wp_at_zero Go.wp_at_succ
section
variable {w w' : World} {sb : Nat} {S : StoT} {V : DvV} {bb : Nat} {dn : Option Nat} {T : Nat → Prop}
theorem IsSto.dvs (h : IsSto w sb S V bb dn T) : ∃ F, IsDvs w S.x V F ∧ (∀ k, F k → T k) ∧ ∀ x' w', DvsStep x' V F w w' → x'.gs = S.x.gs → x'.secs = S.x.secs → StoStep { S with x := x' } V sb bb dn T w w' ∧ NoTurn w w' := by
 obtain ⟨eb, ms, bv, F, h, hT⟩ := h
 refine ⟨F, h.dvs, fun k hk => (hT k).2 (.inl hk), fun x' w' hs hg hc => ?_⟩
 obtain ⟨F', a1, a2, a3, a4⟩ := hs
 refine ⟨⟨stoF sb bb eb ms dn bv F', ⟨eb, ms, bv, F', ⟨?_, a1, ?_, h.sn, ?_⟩, fun k => Iff.rfl⟩, a2.mono (fun k _ hk => (hT k).2 (.inl hk)), ?_⟩, a4⟩
 ·have : stoC V { S with x := x' } bb dn = stoC V S bb dn := by unfold stoC; rw [hc]
  rw [this]
  exact a4 _ _ _ _ h.blk (by decide) (by decide)
 ·show IsBook w' bb eb x'.gs x'.secs ms S.es
  rw [hg, hc]
  exact h.bok.noturn a4
 ·have hd := h.don
  cases dn with
  | none => exact hd
  | some d =>
   obtain ⟨h1, h2⟩ := hd
   exact ⟨a4 _ _ _ _ h1 (by decide) (by decide), own_typed h2 (fun g cs fr hg => a4 g cs _ fr hg (by decide) (by decide))⟩
 ·rintro k (h1 | h1 | h1 | h1 | h1)
  ·rcases a3 k h1 with h2 | h2
   ·exact .inl ((hT k).2 (.inl h2))
   ·exact .inr h2
  ·exact .inl ((hT k).2 (.inr (.inl h1)))
  ·exact .inl ((hT k).2 (.inr (.inr (.inl h1))))
  ·exact .inl ((hT k).2 (.inr (.inr (.inr (.inl h1)))))
  ·exact .inl ((hT k).2 (.inr (.inr (.inr (.inr h1)))))
theorem IsSto.bok (h : IsSto w sb S V bb dn T) : ∃ eb ms, IsBook w bb eb S.x.gs S.x.secs ms S.es ∧ st2 ms = S.sn ∧ ∀ r e w', GetFn w bb eb S.x.gs S.x.secs ms r e w' → StoStep { S with sn := r.sn, es := r.es } V sb bb dn T w w' := by
 obtain ⟨eb, ms, bv, F, h, hT⟩ := h
 refine ⟨eb, ms, h.bok, h.sn, fun r e w' hg => ?_⟩
 obtain ⟨_, eb', ms', b1, b2, b3, b4⟩ := hg
 have hty := h.bok.tyOk
 have key : ∀ k, k < w.heap.size → (∀ cs e fr, w.heap[k]? = some (Obj.cells cs e fr) → e ≠ 90 ∧ e ≠ 154 ∧ e ≠ 3) → w'.heap[k]? = w.heap[k]? := fun k hk he => b4.block k hk (fun hf => by
  obtain ⟨cs, e, h1, h2⟩ := hty k hf hk
  obtain ⟨e1, e2, e3⟩ := he _ _ _ h1
  rcases h2 with h2 | h2 | h2
  ·exact e1 h2
  ·exact e2 h2
  ·exact e3 h2)
 have keyT : ∀ {k : Nat} {cs : Array Value} {e : Nat} {fr : Nat × Nat}, w.heap[k]? = some (Obj.cells cs e fr) → (e ≠ 90 ∧ e ≠ 154 ∧ e ≠ 3) → w'.heap[k]? = some (Obj.cells cs e fr) := fun {k cs e fr} hk he => by
  rw [key k (Array.getElem?_eq_some_iff.1 hk).1 (fun cs2 e2 fr2 h2 => by
   rw [hk] at h2
   simp only [Option.some.injEq, Obj.cells.injEq] at h2
   rw [← h2.2.1]; exact he)]
  exact hk
 refine ⟨stoF sb bb eb' ms' dn bv F, ⟨eb', ms', bv, F, ⟨?_, ?_, b1, b2, ?_⟩, fun k => Iff.rfl⟩, b4.mono (fun k _ hk => (hT k).2 (.inr (.inl hk))), ?_⟩
 ·exact keyT h.blk (by decide)
 ·exact h.dvs.keep (fun g hg => key g (h.dvs.lt g hg) (fun cs e fr h2 => by
   rcases h.dvs.type g hg cs e fr h2 with e1 | e1 | e1 | e1 | e1 <;> subst e1 <;> decide))
 ·have hd := h.don
  cases dn with
  | none => exact hd
  | some d =>
   obtain ⟨h1, h2⟩ := hd
   exact ⟨keyT h1 (by decide), own_typed h2 (fun g cs fr hg => keyT hg (by decide))⟩
 ·rintro k (h1 | h1 | h1 | h1 | h1)
  ·exact .inl ((hT k).2 (.inl h1))
  ·rcases b3 k h1 with h2 | h2
   ·exact .inl ((hT k).2 (.inr (.inl h2)))
   ·exact .inr h2
  ·exact .inl ((hT k).2 (.inr (.inr (.inl h1))))
  ·exact .inl ((hT k).2 (.inr (.inr (.inr (.inl h1)))))
  ·exact .inl ((hT k).2 (.inr (.inr (.inr (.inr h1)))))
theorem StoV.self {eb : Nat} {ms : List MT} {bv : Value} {F : Nat → Prop} (h : StoV w sb S V bb eb ms dn bv F) {g : Nat} {cs : Array Value} {fr : Nat × Nat} (hg : w.heap[g]? = some (Obj.cells cs 41 fr)) : ¬ F g ∧ ¬ foot bb eb ms g ∧ dn ≠ some g ∧ bv.ownBlock ≠ some g := by
 refine ⟨fun hf => ?_, fun hf => ?_, fun hf => ?_, fun hf => ?_⟩
 ·rcases h.dvs.type g hf _ _ _ hg with e1 | e1 | e1 | e1 | e1 <;> exact absurd e1 (by decide)
 ·obtain ⟨c2, e, h1, h2⟩ := h.bok.tyOk g hf (h.bok.lt g hf)
  rw [hg] at h1
  simp only [Option.some.injEq, Obj.cells.injEq] at h1
  rw [← h1.2.1] at h2
  rcases h2 with h2 | h2 | h2 <;> exact absurd h2 (by decide)
 ·subst hf
  have := h.don.1
  unfold Blk at this
  rw [hg] at this
  simp only [Option.some.injEq, Obj.cells.injEq] at this
  exact absurd this.2.1 (by decide)
 ·cases dn with
  | none => rw [h.don.2.2] at hf; cases hf
  | some d =>
   obtain ⟨c2, f2, h1⟩ := own_type h.don.2 hf
   rw [hg] at h1
   simp only [Option.some.injEq, Obj.cells.injEq] at h1
   exact absurd h1.2.1 (by decide)
theorem IsSto.shift {sb2 : Nat} {m : Bool} (h : IsSto w sb S V bb dn T) (hB : Blk w sb2 41 (stoC V { S with mt := m } bb dn)) : ∃ T2, IsSto w sb2 { S with mt := m } V bb dn T2 ∧ (∀ k, T2 k → T k ∨ k = sb2) ∧ (sb2 ≠ sb → ¬ T2 sb) := by
 obtain ⟨eb, ms, bv, F, h, hT⟩ := h
 refine ⟨stoF sb2 bb eb ms dn bv F, ⟨eb, ms, bv, F, ⟨hB, h.dvs, h.bok, h.sn, h.don⟩, fun k => Iff.rfl⟩, ?_, fun hne hk => ?_⟩
 ·rintro k (h1 | h1 | h1 | h1 | h1)
  ·exact .inl ((hT k).2 (.inl h1))
  ·exact .inl ((hT k).2 (.inr (.inl h1)))
  ·exact .inr h1
  ·exact .inl ((hT k).2 (.inr (.inr (.inr (.inl h1)))))
  ·exact .inl ((hT k).2 (.inr (.inr (.inr (.inr h1)))))
 ·obtain ⟨n1, n2, n3, n4⟩ := h.self h.blk
  rcases hk with h1 | h1 | h1 | h1 | h1
  ·exact n1 h1
  ·exact n2 h1
  ·exact hne h1.symm
  ·exact n3 h1
  ·exact n4 h1
end
theorem sfixed_any {w : World} {sb : Nat} {S : StoT} {V : DvV} {bb : Nat} {dn : Option Nat} {T : Nat → Prop} (h : IsSto w sb S V bb dn T) :
  Calls Tryz.prog 23 #[.pointer (some ⟨sb, 0, none⟩)] w fun e w' => e = .returned (.int .i64 (S.fixed : Nat)) ∧ ∃ d, StoStep S V sb bb (some d) T w w' := by
 have HW := Lib.hid (work_any h)
 clear h
 go_enter Tryz.func23, Tryz.ntmps23
 go_wp2_with fail
 refine HW.out.mono ?_
 rintro e w1 ⟨d, rfl, hs⟩
 have HS := Lib.hid hs
 obtain ⟨T1, h1, _, _⟩ := hs
 obtain ⟨eb, ms, bv, F, h1, _⟩ := h1
 have hd := h1.don.1
 have e0 : w1.cell? ⟨d, 0, none⟩ = some (.int .i64 (S.fixed : Nat)) := hd.cell 0
 clear h1 hd
 go_wp2_with fail
 go_ret
 exact ⟨rfl, d, HS.out⟩
end Go.Proofs.YtfaemcfjbbbbdaaGreat
namespace Go.Proofs.YtfaemcfjbbbbdaaGreat
open Go.RowKit
attribute [local go_sem ↓] Go.wp_at_zero Go.wp_at_succ
theorem stext_any (s : Bs) (hs : s.length ≤ 1000000) (w : World) : Calls Tryz.prog 30 #[.string ⟨s.toArray⟩] w fun e w' => e = .returned (.bool (blkOk s)) ∧ w' = w := by
 have hq : ∀ b : Bool, (blkOk s = b) → Hid (blkOk s = b) := fun b h => Lib.hid h
 cases s with
 | nil =>
  have HB := Lib.hid (show blkOk [] = false from rfl)
  go_enter Tryz.func30, Tryz.ntmps30
  go_wp2_with fail
  go_ret
  exact ⟨by rw [HB.out]; rfl, rfl⟩
 | cons a r =>
  have HBK : Hid (blkOk (a :: r) = decide (((r.length : Int) + 1) % 64 = 0 ∧ (r.length : Int) + 1 ≤ 256)) := Lib.hid (by
   unfold blkOk
   refine decide_eq_decide.2 ⟨fun h => ?_, fun h => ⟨by simp, ?_⟩⟩
   ·have h2 := h.2
    simp only [List.length_cons] at h2
    omega
   ·simp only [List.length_cons]
    omega)
  have hr : r.length ≤ 1000000 := by simp only [List.length_cons] at hs; omega
  clear hs hq
  go_enter Tryz.func30, Tryz.ntmps30
  go_wp2_with fail
  all_goals go_ret
  ·rename_i h1
   refine ⟨?_, rfl⟩
   rw [HBK.out]
   show Ending.returned (.bool (decide ((r.length : Int) + 1 ≤ 256))) = _
   exact congrArg (fun b => Ending.returned (Value.bool b)) (decide_eq_decide.2 ⟨fun h => ⟨h1, h⟩, fun h => h.2⟩)
  ·rename_i h1
   refine ⟨?_, rfl⟩
   rw [HBK.out, decide_eq_false (fun h => h1 h.1)]
   rfl
end Go.Proofs.YtfaemcfjbbbbdaaGreat
namespace Go.Proofs.YtfaemcfjbbbbdaaGreat
open Go.RowKit
attribute [local go_sem ↓] Go.wp_at_zero Go.wp_at_succ
structure StoAt (S : StoT) (V : DvV) (sb bb : Nat) (dn : Option Nat) (T : Nat → Prop) (w wc : World) (T1 : Nat → Prop) : Prop where
 is : IsSto wc sb S V bb dn T1
 mo : Mod T w wc
 nw : ∀ g, T1 g → T g ∨ w.heap.size ≤ g
section
variable {S S2 : StoT} {V : DvV} {sb bb : Nat} {dn dn2 : Option Nat} {T T1 : Nat → Prop} {w wc wd : World}
theorem StoAt.start (h : IsSto w sb S V bb dn T) : StoAt S V sb bb dn T w w T := ⟨h, Mod.refl _ _, fun _ hg => .inl hg⟩
theorem StoAt.below (h : StoAt S V sb bb dn T w wc T1) (hb : Below wc.heap.size wc wd) : StoAt S V sb bb dn T w wd T1 := ⟨h.is.below hb, h.mo.trans' hb, h.nw⟩
theorem StoAt.step (h : StoAt S V sb bb dn T w wc T1) (k : StoStep S2 V sb bb dn2 T1 wc wd) : ∃ T2, StoAt S2 V sb bb dn2 T w wd T2 ∧ (∀ g, g < wc.heap.size → ¬ T1 g → ¬ T2 g) ∧ Mod T1 wc wd := by
 obtain ⟨T2, a1, a2, a3⟩ := k
 refine ⟨T2, ⟨a1, h.mo.trans a2 (fun g hg hf => (h.nw g hf).resolve_right (by omega)), fun g hg => ?_⟩, fun g hg hn hf => (a3 g hf).elim hn (by omega), a2⟩
 rcases a3 g hg with h1 | h1
 ·exact h.nw g h1
 ·exact .inr (Nat.le_trans h.mo.size h1)
theorem StoAt.fin (h : StoAt S V sb bb dn T w wc T1) : StoStep S V sb bb dn T w wc := ⟨T1, h.is, h.mo, h.nw⟩
theorem StoAt.alloc (h : StoAt S V sb bb dn T w wc T1) (o : Obj) : StoAt S V sb bb dn T w (wc.alloc o) T1 := h.below ((Below.refl _ _).alloc (Nat.le_refl _) _)
theorem StoAt.other (h : StoAt S V sb bb dn T w wc T1) {g0 e0 : Nat} {cs0 : List Value} (hg : Blk wc g0 e0 cs0) (he : ¬ BookTy e0) (hT : ¬ T1 g0) (hw : w.heap.size ≤ g0) (hgr : wc.grownBy wd (some g0)) : StoAt S V sb bb dn T w wd T1 :=
 ⟨h.is.other hg he hT hgr, h.mo.trans (mod_grown hgr (F := fun x => x = g0) (fun g e => (Option.some.inj e).symm)) (fun x hx e => by omega), h.nw⟩
theorem StoAt.fresh (h : StoAt S V sb bb dn T w wc T1) {g : Nat} (hg : wc.heap.size ≤ g) : ¬ T1 g := fun hf => by have := h.is.lt g hf; omega
end
theorem IsSto.form {w : World} {sb : Nat} {S : StoT} {V : DvV} {bb : Nat} {dn : Option Nat} {T : Nat → Prop} (h : IsSto w sb S V bb dn T) : ∃ ga gc la lc wa wc, V = ⟨.slice ga S.x.gs.length gc, .slice la S.x.ds.length lc, .slice wa S.x.ds.length wc⟩ := by
 obtain ⟨eb, ms, bv, F, h, hT⟩ := h
 obtain ⟨ga, gc, la, lc, wa, wc, hV, _⟩ := h.dvs.form
 exact ⟨ga, gc, la, lc, wa, wc, hV⟩
set_option maxRecDepth 100000 in
theorem as_any {w : World} {sb : Nat} {S : StoT} {V : DvV} {bb : Nat} {dn : Option Nat} {T : Nat → Prop} (h : IsSto w sb S V bb dn T) (m : Bool) :
  Calls Tryz.prog 14 #[.pointer (some ⟨sb, 0, none⟩), .bool m] w fun e w' => ∃ d sb2 T1, e = .returned (.pointer (some ⟨sb2, 0, none⟩)) ∧ IsSto w' sb S V bb (some d) T1 ∧ Mod T w w' ∧ (∀ g, T1 g → T g ∨ w.heap.size ≤ g) ∧
   Blk w' sb2 41 (stoC V { S with mt := m } bb (some d)) ∧ w.heap.size ≤ sb2 ∧ ¬ T1 sb2 := by
 have HW := Lib.hid (work_any h)
 obtain ⟨ga, gc, la, lc, wa, wc, rfl⟩ := h.form
 clear h
 obtain ⟨dsn, hdsn⟩ : ∃ dsn, dsn = S.x.ds.length := ⟨_, rfl⟩
 obtain ⟨gsn, hgsn⟩ : ∃ gsn, gsn = S.x.gs.length := ⟨_, rfl⟩
 rw [← hdsn, ← hgsn] at HW ⊢
 clear hdsn hgsn
 go_enter Tryz.func14, Tryz.ntmps14
 go_wp2_with fail
 refine HW.out.mono ?_
 rintro e w1 ⟨d, rfl, T1, h1, hm, hn⟩
 have H1 := Lib.hid h1
 have HM := Lib.hid hm
 have HN := Lib.hid hn
 have hB := h1.cells
 have e0 : w1.cell? ⟨sb, 0, none⟩ = some (.slice ga gsn gc) := hB.cell 0
 have e1 : w1.cell? ⟨sb, 1, none⟩ = some (.int .i64 S.x.secs) := hB.cell 1
 have e2 : w1.cell? ⟨sb, 2, none⟩ = some (.slice la dsn lc) := hB.cell 2
 have e3 : w1.cell? ⟨sb, 3, none⟩ = some (.slice wa dsn wc) := hB.cell 3
 have e4 : w1.cell? ⟨sb, 4, none⟩ = some (.pointer (some ⟨bb, 0, none⟩)) := hB.cell 4
 have e5 : w1.cell? ⟨sb, 5, none⟩ = some (.int .i64 S.txg) := hB.cell 5
 have e6 : w1.cell? ⟨sb, 6, none⟩ = some (.int .i64 S.keep) := hB.cell 6
 have e7 : w1.cell? ⟨sb, 7, none⟩ = some (.bool S.mt) := hB.cell 7
 have e8 : w1.cell? ⟨sb, 8, none⟩ = some (.pointer (some ⟨d, 0, none⟩)) := hB.cell 8
 clear h1 hm hn hB HW
 go_wp2_with fail
 go_ret
 refine ⟨d, w1.heap.size, T1, rfl, H1.out.below ((Below.refl _ _).alloc (Nat.le_refl _) _), HM.out.trans' ((Below.refl _ _).alloc (Nat.le_refl _) _), HN.out, Blk.new w1 _ _, HM.out.size, fun hf => by have := H1.out.lt _ hf; omega⟩
structure PlcR where
 l : List (Nat × Nat)
 err : Nat
 sn : SN
 es : List Nat
noncomputable def plc1 (gs : Gs) (secs : Int) (sn : SN) (es : List Nat) (size : Int) : PlcR := ⟨[(getA gs secs sn es size false).p], (getA gs secs sn es size false).err, (getA gs secs sn es size false).sn, (getA gs secs sn es size false).es⟩
noncomputable def plcX (S : StoT) (size level : Int) : PlcR :=
 if leftA S.sn < S.keep + 16 then ⟨[], 8, S.sn, S.es⟩
 else if 0 < level ∨ S.mt = true then
  if (getA S.x.gs S.x.secs S.sn S.es size true).err = 0 then ⟨[(getA S.x.gs S.x.secs S.sn S.es size true).p, (getA S.x.gs S.x.secs S.sn S.es size true).q], 0, (getA S.x.gs S.x.secs S.sn S.es size true).sn, (getA S.x.gs S.x.secs S.sn S.es size true).es⟩
  else plc1 S.x.gs S.x.secs (getA S.x.gs S.x.secs S.sn S.es size true).sn (getA S.x.gs S.x.secs S.sn S.es size true).es size
 else plc1 S.x.gs S.x.secs S.sn S.es size
def encPn (l : List (Nat × Nat)) : List Value := l.flatMap fun q => [.int .i64 (q.1 : Nat), .int .i64 (q.2 : Nat)]
end Go.Proofs.YtfaemcfjbbbbdaaGreat
namespace Go.Proofs.YtfaemcfjbbbbdaaGreat
open Go.RowKit
attribute [local go_sem ↓] Go.wp_at_zero Go.wp_at_succ
theorem IsSto.noType {w : World} {sb : Nat} {S : StoT} {V : DvV} {bb : Nat} {dn : Option Nat} {T : Nat → Prop} (h : IsSto w sb S V bb dn T) {g e : Nat} {cs : List Value} (hg : Blk w g e cs) (he : ¬ StoTy e) : ¬ T g := by
 obtain ⟨eb, ms, bv, F, h, hT⟩ := h
 have hg2 : w.heap[g]? = some (Obj.cells cs.toArray e (0, 0)) := hg
 intro hk
 refine he ?_
 rcases (hT g).1 hk with h1 | h1 | h1 | h1 | h1
 ·exact .inr (.inl (h.dvs.type g h1 _ _ _ hg2))
 ·obtain ⟨c2, e2, h2, h3⟩ := h.bok.tyOk g h1 (h.bok.lt g h1)
  rw [hg2] at h2
  simp only [Option.some.injEq, Obj.cells.injEq] at h2
  rw [h2.2.1]
  rcases h3 with h3 | h3 | h3
  ·exact .inl (.inl h3)
  ·exact .inl (.inr (.inr (.inr (.inr (.inl h3)))))
  ·exact .inl (.inr (.inr (.inr (.inl h3))))
 ·subst h1
  have h2 : w.heap[g]? = _ := h.blk
  rw [hg2] at h2
  simp only [Option.some.injEq, Obj.cells.injEq] at h2
  exact .inr (.inr (.inl h2.2.1))
 ·subst h1
  have h2 : w.heap[g]? = _ := h.don.1
  rw [hg2] at h2
  simp only [Option.some.injEq, Obj.cells.injEq] at h2
  exact .inr (.inr (.inr (.inl h2.2.1)))
 ·cases dn with
  | none => rw [h.don.2.2] at h1; cases h1
  | some d =>
   obtain ⟨c2, f2, h2⟩ := own_type h.don.2 h1
   rw [hg2] at h2
   simp only [Option.some.injEq, Obj.cells.injEq] at h2
   exact .inr (.inr (.inr (.inr h2.2.1)))
theorem sget_any {w : World} {sb : Nat} {S : StoT} {V : DvV} {bb : Nat} {dn : Option Nat} {T : Nat → Prop} (h : IsSto w sb S V bb dn T) (size : Int) (two : Bool) {r : GetR} (hr : r = getA S.x.gs S.x.secs S.sn S.es size two) :
  Calls Tryz.prog 63 #[.pointer (some ⟨bb, 0, none⟩), .int .i64 size, .bool two] w fun e w' => e = .returned (.tuple #[.agg #[.int .i64 (r.p.1 : Nat), .int .i64 (r.p.2 : Nat)], .agg #[.int .i64 (r.q.1 : Nat), .int .i64 (r.q.2 : Nat)], .int .i64 (r.err : Nat)]) ∧ StoStep { S with sn := r.sn, es := r.es } V sb bb dn T w w' := by
 obtain ⟨eb, ms, h1, h2, h3⟩ := h.bok
 have hg := get_any bb eb S.x.gs S.x.secs ms S.es size two w h1
 rw [h2, ← hr] at hg
 exact hg.mono (fun e w' hf => ⟨hf.1, h3 r e w' hf⟩)
theorem sleft_any {w : World} {sb : Nat} {S : StoT} {V : DvV} {bb : Nat} {dn : Option Nat} {T : Nat → Prop} (h : IsSto w sb S V bb dn T) :
  Calls Tryz.prog 11 #[.pointer (some ⟨bb, 0, none⟩)] w fun e w' => e = .returned (.int .i64 (leftA S.sn)) ∧ Below w.heap.size w w' := by
 obtain ⟨eb, ms, h1, h2, h3⟩ := h.bok
 have hg := aleft_any bb eb S.x.gs S.x.secs ms S.es w h1
 rw [leftB_A, h2] at hg
 exact hg
set_option maxRecDepth 100000 in
set_option maxHeartbeats 1000000 in
theorem places_yes {w : World} {sb : Nat} {S : StoT} {V : DvV} {bb : Nat} {dn : Option Nat} {T : Nat → Prop} (h : IsSto w sb S V bb dn T) (size level : Int) (hk : 0 ≤ S.keep ∧ S.keep ≤ 1000000000) :
  Calls Tryz.prog 32 #[.pointer (some ⟨sb, 0, none⟩), .int .i64 size, .int .i64 level] w fun e w' => ∃ v, e = .returned (.tuple #[v, .int .i64 ((plcX S size level).err : Nat)]) ∧ (∃ ao n c, v = Value.slice ao n c) ∧ ((plcX S size level).err = 0 → ∃ g, v = .slice (some ⟨g, 0, none⟩) (plcX S size level).l.length (plcX S size level).l.length ∧ w.heap.size ≤ g ∧ Blk w' g 44 (encPn (plcX S size level).l)) ∧
   StoStep { S with sn := (plcX S size level).sn, es := (plcX S size level).es } V sb bb dn T w w' := by
 obtain ⟨R, hR⟩ : ∃ R, R = plcX S size level := ⟨_, rfl⟩
 rw [← hR]
 have HR := Lib.hid hR
 have H := Lib.hid h
 have hB := h.cells
 have hw : IsSto w.drew sb S V bb dn T := h.below (Below.refl _ _).drew
 have HQ : Hid (∀ q : BW w, IsSto q.w sb S V bb dn T) := Lib.hid (fun q => h.below q.bel)
 have HLF := Lib.hid (fun q : BW w => sleft_any (HQ.out q))
 have e4 : ∀ q : BW w, q.w.cell? ⟨sb, 4, none⟩ = some (.pointer (some ⟨bb, 0, none⟩)) := fun q => (HQ.out q).cells.cell 4
 have e6 : ∀ q : BW w, q.w.cell? ⟨sb, 6, none⟩ = some (.int .i64 S.keep) := fun q => (HQ.out q).cells.cell 6
 obtain ⟨lf, hlf⟩ : ∃ lf, lf = leftA S.sn := ⟨_, rfl⟩
 rw [← hlf] at HLF
 have HLF2 := Lib.hid hlf
 have hkw : IntKind.i64.wrap (S.keep + 16) = S.keep + 16 := IntWalk.i64_in _ (by omega)
 clear hR h hB hw hlf
 go_enter Tryz.func32, Tryz.ntmps32
 go_upto_region 1 with fail
 refine wp_region_below (by kernel_rfl) (by kernel_rfl) ?_
 repeat (go_big_quiet_step (refine Calls.bw_of (HLF.out _)))
 refine wpQuiet_nil ?_
 rintro _ ⟨q, rfl⟩
 have HATQ : Hid (StoAt S V sb bb dn T w q.w T) := Lib.hid ((StoAt.start H.out).below q.bel)
 have d7 : q.w.cell? ⟨sb, 7, none⟩ = some (.bool S.mt) := (HQ.out q).cells.cell 7
 have d4 := e4 q
 by_cases hL : lf < S.keep + 16
 ·have HRE : Hid (R = ⟨[], 8, S.sn, S.es⟩) := Lib.hid (by rw [HR.out]; unfold plcX; rw [if_pos (by rw [← HLF2.out]; exact hL)])
  go_wp2_with fail
  go_ret2
  rw [HRE.out]
  exact ⟨_, rfl, ⟨_, _, _, rfl⟩, (fun h => by cases h), HATQ.out.fin⟩
 ·by_cases hlev : 0 < level
  ·have HCC : Hid (0 < level ∨ S.mt = true) := Lib.hid (.inl hlev)
   have HG1 := Lib.hid (sget_any HATQ.out.is size true rfl)
   obtain ⟨r, hr⟩ : ∃ r, r = getA S.x.gs S.x.secs S.sn S.es size true := ⟨_, rfl⟩
   rw [← hr] at HG1
   have HRR := Lib.hid hr
   clear hr
   go_wp2_with fail
   refine HG1.out.mono ?_
   rintro e wA ⟨rfl, hsA⟩
   obtain ⟨T2, hatA, hfrA, hmA⟩ := HATQ.out.step hsA
   have HATA := Lib.hid hatA
   have h4 : wA.cell? ⟨sb, 4, none⟩ = some (.pointer (some ⟨bb, 0, none⟩)) := hatA.is.cells.cell 4
   have hsz := hatA.is.cells.lt
   clear hsA hatA hfrA hmA HG1
   dsimp only
   by_cases her : r.err = 0
   ·rw [her]
    have HRE : Hid (R = ⟨[r.p, r.q], 0, r.sn, r.es⟩) := Lib.hid (by
     rw [HR.out]
     unfold plcX
     rw [if_neg (by rw [← HLF2.out]; omega), if_pos HCC.out, ← HRR.out, if_pos her])
    clear h4 e4 e6
    go_wp2_with fail
    go_ret2
    rw [HRE.out]
    refine ⟨_, rfl, ⟨_, _, _, rfl⟩, fun _ => ⟨wA.heap.size + 2, rfl, by have := HATA.out.mo.size; omega, Blk.newAt (g := wA.heap.size + 2) _ [.int .i64 (r.p.1 : Nat), .int .i64 (r.p.2 : Nat), .int .i64 (r.q.1 : Nat), .int .i64 (r.q.2 : Nat)] (by simp)⟩, ?_⟩
    exact (((HATA.out.alloc _).alloc _).alloc _).fin
   ·have q9 : ((r.err : Nat) : Int) ≠ 0 := by omega
    have HATC := Lib.hid ((HATA.out.alloc (.cells #[.int .i64 (r.p.1 : Nat), .int .i64 (r.p.2 : Nat)] 44)).alloc (.cells #[.int .i64 (r.q.1 : Nat), .int .i64 (r.q.2 : Nat)] 44))
    have HG2 := Lib.hid (sget_any HATC.out.is size false rfl)
    have d4 := (show ((wA.alloc (.cells #[.int .i64 (r.p.1 : Nat), .int .i64 (r.p.2 : Nat)] 44)).alloc (.cells #[.int .i64 (r.q.1 : Nat), .int .i64 (r.q.2 : Nat)] 44)).cell? ⟨sb, 4, none⟩ = some (.pointer (some ⟨bb, 0, none⟩)) from HATC.out.is.cells.cell 4)
    have HRE : Hid (R = plc1 S.x.gs S.x.secs r.sn r.es size) := Lib.hid (by
     rw [HR.out]
     unfold plcX
     rw [if_neg (by rw [← HLF2.out]; omega), if_pos HCC.out, ← HRR.out, if_neg her])
    clear e4 e6
    go_wp2_with fail
    refine HG2.out.mono ?_
    rintro e wB ⟨rfl, hsB⟩
    obtain ⟨T3, hatB, hfrB, hmB⟩ := HATC.out.step hsB
    have HATB := Lib.hid hatB
    clear hsB hatB hfrB hmB d4 HG2
    dsimp only
    obtain ⟨r2, hr2⟩ : ∃ r2, r2 = getA S.x.gs S.x.secs r.sn r.es size false := ⟨_, rfl⟩
    have HR2 : Hid (R = ⟨[r2.p], r2.err, r2.sn, r2.es⟩) := Lib.hid (by rw [HRE.out]; unfold plc1; rw [← hr2])
    rw [← hr2] at HATB ⊢
    clear hr2
    go_wp2_with fail
    go_ret2
    rw [HR2.out]
    refine ⟨_, rfl, ⟨_, _, _, rfl⟩, fun _ => ⟨wB.heap.size + 2, rfl, by have := HATB.out.mo.size; omega, Blk.newAt (g := wB.heap.size + 2) _ [.int .i64 (r2.p.1 : Nat), .int .i64 (r2.p.2 : Nat)] (by simp)⟩, ?_⟩
    exact (((HATB.out.alloc _).alloc _).alloc _).fin
  ·obtain ⟨mv, hmv⟩ : ∃ mv, mv = S.mt := ⟨_, rfl⟩
   rw [← hmv] at d7
   cases mv with
   | true =>
    have HCC : Hid (0 < level ∨ S.mt = true) := Lib.hid (.inr hmv.symm)
    clear hmv
    have HG1 := Lib.hid (sget_any HATQ.out.is size true rfl)
    obtain ⟨r, hr⟩ : ∃ r, r = getA S.x.gs S.x.secs S.sn S.es size true := ⟨_, rfl⟩
    rw [← hr] at HG1
    have HRR := Lib.hid hr
    clear hr
    go_wp2_with fail
    refine HG1.out.mono ?_
    rintro e wA ⟨rfl, hsA⟩
    obtain ⟨T2, hatA, hfrA, hmA⟩ := HATQ.out.step hsA
    have HATA := Lib.hid hatA
    have h4 : wA.cell? ⟨sb, 4, none⟩ = some (.pointer (some ⟨bb, 0, none⟩)) := hatA.is.cells.cell 4
    have hsz := hatA.is.cells.lt
    clear hsA hatA hfrA hmA HG1
    dsimp only
    by_cases her : r.err = 0
    ·rw [her]
     have HRE : Hid (R = ⟨[r.p, r.q], 0, r.sn, r.es⟩) := Lib.hid (by
      rw [HR.out]
      unfold plcX
      rw [if_neg (by rw [← HLF2.out]; omega), if_pos HCC.out, ← HRR.out, if_pos her])
     clear h4 e4 e6
     go_wp2_with fail
     go_ret2
     rw [HRE.out]
     refine ⟨_, rfl, ⟨_, _, _, rfl⟩, fun _ => ⟨wA.heap.size + 2, rfl, by have := HATA.out.mo.size; omega, Blk.newAt (g := wA.heap.size + 2) _ [.int .i64 (r.p.1 : Nat), .int .i64 (r.p.2 : Nat), .int .i64 (r.q.1 : Nat), .int .i64 (r.q.2 : Nat)] (by simp)⟩, ?_⟩
     exact (((HATA.out.alloc _).alloc _).alloc _).fin
    ·have q9 : ((r.err : Nat) : Int) ≠ 0 := by omega
     have HATC := Lib.hid ((HATA.out.alloc (.cells #[.int .i64 (r.p.1 : Nat), .int .i64 (r.p.2 : Nat)] 44)).alloc (.cells #[.int .i64 (r.q.1 : Nat), .int .i64 (r.q.2 : Nat)] 44))
     have HG2 := Lib.hid (sget_any HATC.out.is size false rfl)
     have d4 := (show ((wA.alloc (.cells #[.int .i64 (r.p.1 : Nat), .int .i64 (r.p.2 : Nat)] 44)).alloc (.cells #[.int .i64 (r.q.1 : Nat), .int .i64 (r.q.2 : Nat)] 44)).cell? ⟨sb, 4, none⟩ = some (.pointer (some ⟨bb, 0, none⟩)) from HATC.out.is.cells.cell 4)
     have HRE : Hid (R = plc1 S.x.gs S.x.secs r.sn r.es size) := Lib.hid (by
      rw [HR.out]
      unfold plcX
      rw [if_neg (by rw [← HLF2.out]; omega), if_pos HCC.out, ← HRR.out, if_neg her])
     clear e4 e6
     go_wp2_with fail
     refine HG2.out.mono ?_
     rintro e wB ⟨rfl, hsB⟩
     obtain ⟨T3, hatB, hfrB, hmB⟩ := HATC.out.step hsB
     have HATB := Lib.hid hatB
     clear hsB hatB hfrB hmB d4 HG2
     dsimp only
     obtain ⟨r2, hr2⟩ : ∃ r2, r2 = getA S.x.gs S.x.secs r.sn r.es size false := ⟨_, rfl⟩
     have HR2 : Hid (R = ⟨[r2.p], r2.err, r2.sn, r2.es⟩) := Lib.hid (by rw [HRE.out]; unfold plc1; rw [← hr2])
     rw [← hr2] at HATB ⊢
     clear hr2
     go_wp2_with fail
     go_ret2
     rw [HR2.out]
     refine ⟨_, rfl, ⟨_, _, _, rfl⟩, fun _ => ⟨wB.heap.size + 2, rfl, by have := HATB.out.mo.size; omega, Blk.newAt (g := wB.heap.size + 2) _ [.int .i64 (r2.p.1 : Nat), .int .i64 (r2.p.2 : Nat)] (by simp)⟩, ?_⟩
     exact (((HATB.out.alloc _).alloc _).alloc _).fin
   | false =>
    have HCC : Hid (¬ (0 < level ∨ S.mt = true)) := Lib.hid (by rw [← hmv]; exact fun h => h.elim hlev (by decide))
    clear hmv
    have HG2 := Lib.hid (sget_any HATQ.out.is size false rfl)
    have d4 := d4
    have HRE : Hid (R = plc1 S.x.gs S.x.secs S.sn S.es size) := Lib.hid (by
     rw [HR.out]
     unfold plcX
     rw [if_neg (by rw [← HLF2.out]; omega), if_neg HCC.out])
    clear e4 e6
    go_wp2_with fail
    refine HG2.out.mono ?_
    rintro e wB ⟨rfl, hsB⟩
    obtain ⟨T3, hatB, hfrB, hmB⟩ := HATQ.out.step hsB
    have HATB := Lib.hid hatB
    clear hsB hatB hfrB hmB d4 HG2
    dsimp only
    obtain ⟨r2, hr2⟩ : ∃ r2, r2 = getA S.x.gs S.x.secs S.sn S.es size false := ⟨_, rfl⟩
    have HR2 : Hid (R = ⟨[r2.p], r2.err, r2.sn, r2.es⟩) := Lib.hid (by rw [HRE.out]; unfold plc1; rw [← hr2])
    rw [← hr2] at HATB ⊢
    clear hr2
    go_wp2_with fail
    go_ret2
    rw [HR2.out]
    refine ⟨_, rfl, ⟨_, _, _, rfl⟩, fun _ => ⟨wB.heap.size + 2, rfl, by have := HATB.out.mo.size; omega, Blk.newAt (g := wB.heap.size + 2) _ [.int .i64 (r2.p.1 : Nat), .int .i64 (r2.p.2 : Nat)] (by simp)⟩, ?_⟩
    exact (((HATB.out.alloc _).alloc _).alloc _).fin
end Go.Proofs.YtfaemcfjbbbbdaaGreat
namespace Go.Proofs.YtfaemcfjbbbbdaaGreat
open Go.RowKit
attribute [local go_sem ↓] Go.wp_at_zero Go.wp_at_succ
structure PuS (gS gT gP sb : Nat) (dv : List Value) (pl : List Value) (t : Bs) (w : World) : Prop where
 s : Blk w gS 32 [.pointer (some ⟨sb, 0, none⟩)]
 t : Blk w gT 9 [.string ⟨t.toArray⟩]
 p : Blk w gP 44 pl
 d : w.rangeAt sb 0 dv
theorem range_preS {W : World} {g e : Nat} {cs ds : List Value} (h : Blk W g e (cs ++ ds)) : W.rangeAt g 0 cs := fun j v hv => by
 rw [Nat.zero_add, h.cell, List.getElem?_append_left (by rcases Nat.lt_or_ge j cs.length with h1 | h1; exact h1; rw [List.getElem?_eq_none h1] at hv; cases hv)]
 exact hv
set_option maxRecDepth 100000 in
theorem put1_any {w : World} {sb : Nat} {S : StoT} {V : DvV} {bb : Nat} {dn : Option Nat} {T : Nat → Prop} (h : IsSto w sb S V bb dn T) (gS gT g8 : Nat) (t : Bs) (hS : Blk w gS 32 [.pointer (some ⟨sb, 0, none⟩)]) (hT : Blk w gT 9 [.string ⟨t.toArray⟩]) (hnS : ¬ T gS) (hnT : ¬ T gT) (g a : Nat) (hr : S.x.right = true) (ht : blkOk t = true)
  (hm : mayC S.x.gs S.x.secs g a ((t.length / 64 : Nat) : Int) = true) (K : Nat) (hK : S.x.deep K) (hK2 : K + 100 ≤ 1000000000) (hw : (writeX S.x g a t).2.1 = 0) (hkp : (writeX S.x g a t).2.2.gs = S.x.gs ∧ (writeX S.x g a t).2.2.secs = S.x.secs) :
  Calls Tryz.prog 34 #[.agg #[.int .i64 (g : Nat), .int .i64 (a : Nat)], .pointer (some ⟨gS, 0, none⟩), .pointer (some ⟨gT, 0, none⟩), .pointer (some ⟨g8, 0, none⟩)] w fun e w' => e = .returned (.bool false) ∧ StoStep { S with x := (writeX S.x g a t).2.2 } V sb bb dn T w w' := by
 have hbA : Below w.heap.size w (w.alloc (.cells #[.int .i64 (g : Nat), .int .i64 (a : Nat)] 44)).drew := ((Below.refl _ _).alloc (Nat.le_refl _) _).drew
 have HAT := Lib.hid ((StoAt.start h).below hbA)
 obtain ⟨F, hd, hFT, hstp⟩ := HAT.out.is.dvs
 have hwr := vwrite_any hd hr g a t ht hm K hK hK2
 rw [hw] at hwr
 obtain ⟨ga, gc, la, lc, wa, wc, rfl⟩ := h.form
 have HWR : Hid (Calls Tryz.prog 35 #[.agg #[.slice ga S.x.gs.length gc, .int .i64 S.x.secs, .slice la S.x.ds.length lc, .slice wa S.x.ds.length wc], .agg #[.int .i64 (g : Nat), .int .i64 (a : Nat)], .string ⟨t.toArray⟩] (w.alloc (.cells #[.int .i64 (g : Nat), .int .i64 (a : Nat)] 44)).drew fun e w' => e = .returned (.tuple #[.int .i64 ((writeX S.x g a t).1 : Nat), .int .i64 ((0 : Nat) : Int)]) ∧ StoStep { S with x := (writeX S.x g a t).2.2 } ⟨.slice ga S.x.gs.length gc, .slice la S.x.ds.length lc, .slice wa S.x.ds.length wc⟩ sb bb dn T (w.alloc (.cells #[.int .i64 (g : Nat), .int .i64 (a : Nat)] 44)).drew w') := Lib.hid (hwr.mono (fun e w' h2 => ⟨h2.1, (hstp _ _ h2.2 hkp.1 hkp.2).1⟩))
 obtain ⟨nf, hnf⟩ : ∃ nf, nf = (writeX S.x g a t).1 := ⟨_, rfl⟩
 rw [← hnf] at HWR
 have hS0 : PuS gS gT w.heap.size sb [.slice ga S.x.gs.length gc, .int .i64 S.x.secs, .slice la S.x.ds.length lc, .slice wa S.x.ds.length wc] [.int .i64 (g : Nat), .int .i64 (a : Nat)] t (w.alloc (.cells #[.int .i64 (g : Nat), .int .i64 (a : Nat)] 44)).drew :=
  ⟨hS.below hbA, hT.below hbA, Blk.new w _ [.int .i64 (g : Nat), .int .i64 (a : Nat)], range_preS (cs := [.slice ga S.x.gs.length gc, .int .i64 S.x.secs, .slice la S.x.ds.length lc, .slice wa S.x.ds.length wc]) HAT.out.is.cells⟩
 obtain ⟨dsn, hdsn⟩ : ∃ dsn, dsn = S.x.ds.length := ⟨_, rfl⟩
 obtain ⟨gsn, hgsn⟩ : ∃ gsn, gsn = S.x.gs.length := ⟨_, rfl⟩
 rw [← hdsn, ← hgsn] at HWR hS0 HAT
 rw [← hdsn, ← hgsn]
 obtain ⟨x', hx'⟩ : ∃ x', x' = (writeX S.x g a t).2.2 := ⟨_, rfl⟩
 have HSC : Hid (x'.secs = S.x.secs) := Lib.hid (by rw [hx']; exact hkp.2)
 rw [← hx'] at HWR ⊢
 have HNF : Hid (¬ T gS ∧ ¬ T gT ∧ ¬ T w.heap.size) := Lib.hid ⟨hnS, hnT, fun hf => by have := h.lt _ hf; omega⟩
 clear hnS hnT hdsn hgsn hnf hw hwr hkp hd hFT hstp hK hm ht hr hS hT hbA h hx'
 go_enter Tryz.func34, Tryz.ntmps34
 go_upto_region 1 with fail
 refine wp_region_held_drew (S := PuS gS gT w.heap.size sb [.slice ga gsn gc, .int .i64 S.x.secs, .slice la dsn lc, .slice wa dsn wc] [.int .i64 (g : Nat), .int .i64 (a : Nat)] t) (by kernel_rfl) hS0 (fun hS0 => ?_)
 refine rtv (i := 0) (v := ?vy0) (hy := ?yy0) (h := ?_)
 case yy0 => intro w hSw; (try dsimp only at hSw); go_simp; rw [(PuS.s hSw).cell 0]; rfl
 try simp only [Act.put, z1, z2, z3]
 refine rtd 1 ?_; refine rtd 2 ?_
 refine rtg 3 ?vy3 ?yy3 ?_
 case yy3 => refine yieldsIf_load_mid (by kernel_rfl) 37 (.tmp 11) ?_ sb (0) ?_ ([.slice ga gsn gc, .int .i64 S.x.secs, .slice la dsn lc, .slice wa dsn wc]) _ (fun w' (hw : PuS _ _ _ _ _ _ _ w') => hw.d) Tryz.underlying37 rfl iszDsM <;> rfl
 refine rtg 4 ?vy4 ?yy4 ?_
 case yy4 => refine yieldsIf_load_mid (by kernel_rfl) 44 (.tmp 4) ?_ w.heap.size (0) ?_ ([.int .i64 (g : Nat), .int .i64 (a : Nat)]) _ (fun w' (hw : PuS _ _ _ _ _ _ _ w') => range0M hw.p) Tryz.underlying44 rfl iszPlM <;> rfl
 refine rtv (i := 5) (v := ?vy5) (hy := ?yy5) (h := ?_)
 case yy5 => intro w hSw; (try dsimp only at hSw); go_simp; rw [(PuS.t hSw).cell 0]; rfl
 try simp only [Act.put, z1, z2, z3]
 refine rr1 (i := 6) (h := fun K hK => ?_)
 go_simp
 refine HWR.out.mono ?_
 rintro e w6 ⟨rfl, hstep⟩
 obtain ⟨T2, hat6, hfr6, hm6⟩ := HAT.out.step hstep
 have HAT6 := Lib.hid hat6
 have HP6 : Hid (PuS gS gT w.heap.size sb [.slice ga gsn gc, .int .i64 S.x.secs, .slice la dsn lc, .slice wa dsn wc] [.int .i64 (g : Nat), .int .i64 (a : Nat)] t w6) := Lib.hid ⟨hm6.blk hS0.s HNF.out.1, hm6.blk hS0.t HNF.out.2.1, hm6.blk hS0.p HNF.out.2.2, by have := range_preS (cs := [.slice ga gsn gc, .int .i64 x'.secs, .slice la dsn lc, .slice wa dsn wc]) hat6.is.cells; rw [HSC.out] at this; exact this⟩
 clear hstep hat6 hfr6 hm6
 try dsimp only
 refine hK.out _ _ (HP6.out) (fun hSy6 => ?_)
 try simp only [Act.put, z1, z2, z3]
 refine rtd 7 ?_; refine rtd 8 ?_; refine rtd 9 ?_; refine rtd 10 ?_; refine rtd 11 ?_
 refine wpAnyH_done (by kernel_rfl) ?_ _
 try dsimp only
 go_wp2_with fail
 go_ret
 exact ⟨rfl, HAT6.out.fin⟩
end Go.Proofs.YtfaemcfjbbbbdaaGreat
namespace Go.Proofs.YtfaemcfjbbbbdaaGreat
open Go.RowKit
attribute [local go_sem ↓] Go.wp_at_zero Go.wp_at_succ
theorem putsX_kept : ∀ (l : List (ColT × Bs)) (x : DvsT) (f : List Nat) (K : Nat), (∀ c ∈ l, c.1.1 < x.ds.length) → x.deep K → Kept x (putsX x l f).2 ∧ (putsX x l f).2.deep (K + l.length)
 | [], x, f, K, _, hK => ⟨Kept.refl x, hK⟩
 | (c, s) :: r, x, f, K, h, hK => by
  have hc := h (c, s) (List.mem_cons_self ..)
  have k1 := putX_kept x c s hc
  have d1 := putX_deep hK c s hc
  unfold putsX
  obtain ⟨a1, a2⟩ := putsX_kept r (putX x c s).2 (if (putX x c s).1 = true then f else addF f c.1) (K + 1) (fun q hq => by rw [k1.n]; exact h q (List.mem_cons_of_mem _ hq)) d1
  refine ⟨k1.trans a1, ?_⟩
  simp only [List.length_cons]
  rw [show K + (r.length + 1) = K + 1 + r.length by omega]
  exact a2
theorem write_kept {x : DvsT} (hr : x.right = true) {g a : Nat} {s : Bs} (hs : blkOk s = true) (hm : mayC x.gs x.secs g a ((s.length / 64 : Nat) : Int) = true) {K : Nat} (hK : x.deep K) : Kept x (writeX x g a s).2.2 ∧ (writeX x g a s).2.2.deep (K + 32) := by
 obtain ⟨f, x', hp⟩ : ∃ f x', putsX x ((colsL x.gs g a (s.length / 64)).zip (encL (colsL x.gs g a (s.length / 64)) (secL s))) [] = (f, x') := ⟨_, _, rfl⟩
 rw [writeX_eq hr hs hm hp]
 have hk := putsX_kept ((colsL x.gs g a (s.length / 64)).zip (encL (colsL x.gs g a (s.length / 64)) (secL s))) x [] K (fun c hc => by
  obtain ⟨h1, _⟩ := List.of_mem_zip hc
  obtain ⟨i, hi, e⟩ := List.getElem_of_mem h1
  have := colsL_dev hm hi
  rw [(right_spec hr).2.1, ← e]
  rwa [List.getD_eq_getElem?_getD, List.getElem?_eq_getElem hi] at this) hK
 rw [hp] at hk
 refine ⟨hk.1, fun i k => Nat.le_trans (hk.2 i k) ?_⟩
 rw [List.length_zip, encL_length, Nat.min_self]
 have := (colsL_len hm).2
 omega
def putsL (t : Bs) : List (Nat × Nat) → DvsT → DvsT
 | [], x => x
 | q :: r, x => putsL t r (writeX x q.1 q.2 t).2.2
theorem putsL_step (t : Bs) (l : List (Nat × Nat)) (x : DvsT) (k : Nat) (hk : k < l.length) : putsL t (l.drop k) x = putsL t (l.drop (k + 1)) (writeX x (l.getD k (0, 0)).1 (l.getD k (0, 0)).2 t).2.2 := by
 rw [List.drop_eq_getElem_cons hk]
 have e : l[k] = l.getD k (0, 0) := by simp [List.getD_eq_getElem?_getD, hk]
 rw [e]
 rfl
def DvsT.takes (x : DvsT) : Prop := ∀ y, Kept x y → ∀ g a t, blkOk t = true → mayC y.gs y.secs (g : Nat) (a : Nat) ((t.length / 64 : Nat) : Int) = true → (writeX y g a t).2.1 = 0
theorem pn_cell {W : World} {g e : Nat} {l : List (Nat × Nat)} (h : Blk W g e (encPn l)) {k : Nat} (hk : k < l.length) :
  W.cell? ⟨g, k * 2, none⟩ = some (.int .i64 ((l.getD k (0, 0)).1 : Nat)) ∧ W.cell? ⟨g, k * 2 + 1, none⟩ = some (.int .i64 ((l.getD k (0, 0)).2 : Nat)) := by
 refine ⟨?_, ?_⟩
 ·have := flat_get (f := fun q : Nat × Nat => [Value.int .i64 (q.1 : Nat), .int .i64 (q.2 : Nat)]) (K := 2) (fun _ => rfl) l k 0 (0, 0) hk (by omega)
  rw [h.cell]; exact this
 ·have := flat_get (f := fun q : Nat × Nat => [Value.int .i64 (q.1 : Nat), .int .i64 (q.2 : Nat)]) (K := 2) (fun _ => rfl) l k 1 (0, 0) hk (by omega)
  rw [h.cell]; exact this
set_option maxRecDepth 100000 in
set_option maxHeartbeats 1000000 in
theorem indexP_any {w : World} {sb : Nat} {S : StoT} {V : DvV} {bb : Nat} {dn : Option Nat} {T : Nat → Prop} (h : IsSto w sb S V bb dn T) (gS gT g8 gl cap : Nat) (t : Bs) (l : List (Nat × Nat)) (hS : Blk w gS 32 [.pointer (some ⟨sb, 0, none⟩)]) (hT : Blk w gT 9 [.string ⟨t.toArray⟩]) (hl : Blk w gl 44 (encPn l)) (hnS : ¬ T gS) (hnT : ¬ T gT) (hln : l.length ≤ 2)
  (hr : S.x.right = true) (ht : blkOk t = true) (hm : ∀ q ∈ l, mayC S.x.gs S.x.secs (q.1 : Nat) (q.2 : Nat) ((t.length / 64 : Nat) : Int) = true) (K : Nat) (hK : S.x.deep K) (hK2 : K + 200 ≤ 1000000000) (hw : S.x.takes) :
  Calls Tryz.prog 64 #[.slice (some ⟨gl, 0, none⟩) l.length cap, .func (.func 34) #[] #[.pointer (some ⟨gS, 0, none⟩), .pointer (some ⟨gT, 0, none⟩), .pointer (some ⟨g8, 0, none⟩)]] w fun e w' => e = .returned (.int .i64 (-1)) ∧ StoStep { S with x := putsL t l S.x } V sb bb dn T w w' := by
 obtain ⟨R, hR⟩ : ∃ R, R = putsL t l S.x := ⟨_, rfl⟩
 rw [← hR]
 have HR0 : Hid (putsL t (l.drop 0) S.x = R) := Lib.hid hR.symm
 have HP1 : Hid (∀ (y : DvsT) (W : World) (Ty : Nat → Prop) (k : Nat), IsSto W sb { S with x := y } V bb dn Ty → Kept S.x y → y.deep (K + 32 * k) → k < l.length → Blk W gS 32 [.pointer (some ⟨sb, 0, none⟩)] → Blk W gT 9 [.string ⟨t.toArray⟩] → ¬ Ty gS → ¬ Ty gT →
   Calls Tryz.prog 34 #[.agg #[.int .i64 ((l.getD k (0, 0)).1 : Nat), .int .i64 ((l.getD k (0, 0)).2 : Nat)], .pointer (some ⟨gS, 0, none⟩), .pointer (some ⟨gT, 0, none⟩), .pointer (some ⟨g8, 0, none⟩)] W fun e w' => e = .returned (.bool false) ∧ StoStep { S with x := (writeX y (l.getD k (0, 0)).1 (l.getD k (0, 0)).2 t).2.2 } V sb bb dn Ty W w') := Lib.hid (fun y W Ty k hy kp hK hk h1 h2 n1 n2 => by
  have hq := hm (l.getD k (0, 0)) (by rw [List.getD_eq_getElem?_getD, List.getElem?_eq_getElem hk]; exact List.getElem_mem _)
  have hmy : mayC y.gs y.secs ((l.getD k (0, 0)).1 : Nat) ((l.getD k (0, 0)).2 : Nat) ((t.length / 64 : Nat) : Int) = true := by rw [kp.gs, kp.secs]; exact hq
  have hwk := write_kept (kp.right hr) ht hmy hK
  exact put1_any hy gS gT g8 t h1 h2 n1 n2 (l.getD k (0, 0)).1 (l.getD k (0, 0)).2 (kp.right hr) ht hmy (K + 32 * k) hK (by omega) (hw y kp _ _ t ht hmy) ⟨hwk.1.gs, hwk.1.secs⟩)
 have HKP : Hid (∀ (y : DvsT) (k : Nat), Kept S.x y → y.deep (K + 32 * k) → k < l.length → Kept S.x (writeX y (l.getD k (0, 0)).1 (l.getD k (0, 0)).2 t).2.2 ∧ (writeX y (l.getD k (0, 0)).1 (l.getD k (0, 0)).2 t).2.2.deep (K + 32 * (k + 1))) := Lib.hid (fun y k kp hK hk => by
  have hq := hm (l.getD k (0, 0)) (by rw [List.getD_eq_getElem?_getD, List.getElem?_eq_getElem hk]; exact List.getElem_mem _)
  have hwk := write_kept (kp.right hr) ht (by rw [kp.gs, kp.secs]; exact hq) hK
  exact ⟨kp.trans hwk.1, by rw [Nat.mul_succ, ← Nat.add_assoc]; exact hwk.2⟩)
 have HAT0 := Lib.hid (StoAt.start h)
 have HBX : Hid (Blk w gS 32 [.pointer (some ⟨sb, 0, none⟩)] ∧ Blk w gT 9 [.string ⟨t.toArray⟩] ∧ Blk w gl 44 (encPn l)) := Lib.hid ⟨hS, hT, hl⟩
 have HNT : Hid (¬ T gS ∧ ¬ T gT) := Lib.hid ⟨hnS, hnT⟩
 have HKK := Lib.hid hK
 obtain ⟨n, hn⟩ : ∃ n, n = l.length := ⟨_, rfl⟩
 rw [← hn] at hln ⊢
 have HNL := Lib.hid hn
 clear hR h hS hT hl hnS hnT hr ht hm hK hw hn
 go_enter Tryz.func64, Tryz.ntmps64
 go_wp2_with fail
 go_loopw [8] (fun i wr => ∃ (k : Nat) (xk : DvsT) (Tk : Nat → Prop), k ≤ n ∧ i = .int .i64 k ∧ Hid (StoAt { S with x := xk } V sb bb dn T w wr Tk) ∧ Hid (Blk wr gS 32 [.pointer (some ⟨sb, 0, none⟩)] ∧ Blk wr gT 9 [.string ⟨t.toArray⟩] ∧ Blk wr gl 44 (encPn l)) ∧ Hid (¬ Tk gS ∧ ¬ Tk gT) ∧ Hid (putsL t (l.drop k) xk = R) ∧ Hid (Kept S.x xk ∧ xk.deep (K + 32 * k))) (fun i _ => n - (intOf i).toNat)
 case atStart => exact ⟨0, S.x, T, by omega, rfl, HAT0, HBX, HNT, HR0, Lib.hid ⟨Kept.refl _, HKK.out⟩⟩
 case round =>
  obtain ⟨k, xk, Tk, hk, rfl, HAT, HBR, HNK, HPU, HXK⟩ := hrel
  clear HAT0 HBX HNT HR0 HKK
  by_cases hkn : k < n
  ·have hkl : k < l.length := by rw [← HNL.out]; exact hkn
   obtain ⟨c0, c1⟩ := pn_cell HBR.out.2.2 hkl
   have hpu := HPU.out
   rw [putsL_step t l xk k hkl] at hpu
   have HC := Lib.hid (HP1.out xk wr Tk k HAT.out.is HXK.out.1 HXK.out.2 hkl HBR.out.1 HBR.out.2.1 HNK.out.1 HNK.out.2)
   have HX2 := Lib.hid (HKP.out xk k HXK.out.1 HXK.out.2 hkl)
   obtain ⟨x2, hx2⟩ : ∃ x2, x2 = (writeX xk (l.getD k (0, 0)).1 (l.getD k (0, 0)).2 t).2.2 := ⟨_, rfl⟩
   rw [← hx2] at hpu HC HX2
   have HPU2 := Lib.hid hpu
   obtain ⟨⟨qg, qa⟩, hq⟩ : ∃ q : Nat × Nat, q = l.getD k (0, 0) := ⟨_, rfl⟩
   rw [← hq] at c0 c1 HC
   dsimp only at c0 c1 HC
   clear hpu hx2 hq
   go_wp2_with fail
   refine HC.out.mono ?_
   rintro e w1 ⟨rfl, hstep⟩
   obtain ⟨T2, hat2, hfr2, hm2⟩ := HAT.out.step hstep
   have HAT2 := Lib.hid hat2
   have HB2 : Hid (Blk w1 gS 32 [.pointer (some ⟨sb, 0, none⟩)] ∧ Blk w1 gT 9 [.string ⟨t.toArray⟩] ∧ Blk w1 gl 44 (encPn l)) := Lib.hid ⟨hm2.blk HBR.out.1 HNK.out.1, hm2.blk HBR.out.2.1 HNK.out.2, hm2.blk HBR.out.2.2 (HAT.out.is.noType HBR.out.2.2 (by unfold StoTy BookTy DevTy; decide))⟩
   have HN2 : Hid (¬ T2 gS ∧ ¬ T2 gT) := Lib.hid ⟨hfr2 _ HBR.out.1.lt HNK.out.1, hfr2 _ HBR.out.2.1.lt HNK.out.2⟩
   clear hstep hat2 hfr2 hm2 HC c0 c1
   go_wp2_with fail
   go_roundw
   case rel => exact ⟨k + 1, x2, T2, by omega, by go_num, HAT2, HB2, HN2, HPU2, HX2⟩
   case measure => simp [intOf]; omega
  ·have hkn' : k = n := by omega
   subst hkn'
   have hfx : xk = R := by
    have := HPU.out
    rw [List.drop_eq_nil_of_le (by rw [HNL.out]; exact Nat.le_refl _)] at this
    exact this
   have HFX := Lib.hid hfx
   clear hfx
   go_wp2_with fail
   go_ret
   rw [← HFX.out]
   exact ⟨rfl, HAT.out.fin⟩
set_option maxRecDepth 100000 in
theorem deleteP_any {w : World} {sb : Nat} {S : StoT} {V : DvV} {bb : Nat} {dn : Option Nat} {T : Nat → Prop} (h : IsSto w sb S V bb dn T) (gS gT g8 gl cap : Nat) (t : Bs) (l : List (Nat × Nat)) (hS : Blk w gS 32 [.pointer (some ⟨sb, 0, none⟩)]) (hT : Blk w gT 9 [.string ⟨t.toArray⟩]) (hl : Blk w gl 44 (encPn l)) (hnS : ¬ T gS) (hnT : ¬ T gT) (hln : l.length ≤ 2)
  (hr : S.x.right = true) (ht : blkOk t = true) (hm : ∀ q ∈ l, mayC S.x.gs S.x.secs (q.1 : Nat) (q.2 : Nat) ((t.length / 64 : Nat) : Int) = true) (K : Nat) (hK : S.x.deep K) (hK2 : K + 200 ≤ 1000000000) (hw : S.x.takes) :
  Calls Tryz.prog 33 #[.slice (some ⟨gl, 0, none⟩) l.length cap, .func (.func 34) #[] #[.pointer (some ⟨gS, 0, none⟩), .pointer (some ⟨gT, 0, none⟩), .pointer (some ⟨g8, 0, none⟩)]] w fun e w' => e = .returned (.slice (some ⟨gl, 0, none⟩) l.length cap) ∧ StoStep { S with x := putsL t l S.x } V sb bb dn T w w' := by
 have HI := Lib.hid (indexP_any h gS gT g8 gl cap t l hS hT hl hnS hnT hln hr ht hm K hK hK2 hw)
 obtain ⟨R, hR⟩ : ∃ R, R = putsL t l S.x := ⟨_, rfl⟩
 rw [← hR] at HI ⊢
 obtain ⟨n, hn⟩ : ∃ n, n = l.length := ⟨_, rfl⟩
 rw [← hn] at HI ⊢
 clear h hS hT hl hnS hnT hln hr ht hm hK hK2 hw hR hn
 go_enter Tryz.func33, Tryz.ntmps33
 go_wp2_with fail
 refine HI.out.mono ?_
 rintro e w1 ⟨rfl, hst⟩
 have HST := Lib.hid hst
 clear hst HI
 go_wp2_with fail
 go_ret
 exact ⟨rfl, HST.out⟩
end Go.Proofs.YtfaemcfjbbbbdaaGreat
namespace Go.Proofs.YtfaemcfjbbbbdaaGreat
theorem addF_nodup {f : List Nat} (d : Nat) (h : f.Nodup) : (addF f d).Nodup := by
 unfold addF
 split
 ·exact h
 ·rename_i hd
  exact List.nodup_append.2 ⟨h, by simp, fun a ha b hb => by rw [List.mem_singleton.1 hb]; exact fun e => hd (e ▸ ha)⟩
theorem putsX_nodup : ∀ (l : List (ColT × Bs)) (x : DvsT) (f : List Nat), f.Nodup → (putsX x l f).1.Nodup
 | [], x, f, h => h
 | (c, s) :: r, x, f, h => by
  unfold putsX
  refine putsX_nodup r _ _ ?_
  split
  ·exact h
  ·exact addF_nodup _ h
theorem short_of {f : List Nat} (hn : f.Nodup) (h : ∀ a ∈ f, ∀ b ∈ f, a = b) : f.length ≤ 1 := by
 rcases f with _ | ⟨a, _ | ⟨b, r⟩⟩
 ·simp
 ·simp
 ·exfalso
  have e := h a (by simp) b (by simp)
  subst e
  simp at hn
theorem parL_lenE (first wide at_ : Nat) (hw : 3 ≤ wide ∧ wide ≤ 8) : ∀ i, (parL first wide at_ i).length = i + (i + wide - 2) / (wide - 1)
 | 0 => by
  show 0 = _
  rcases (by omega : wide = 3 ∨ wide = 4 ∨ wide = 5 ∨ wide = 6 ∨ wide = 7 ∨ wide = 8) with rfl | rfl | rfl | rfl | rfl | rfl <;> rfl
 | i + 1 => by
  have ih := parL_lenE first wide at_ hw i
  unfold parL
  rw [parS_length]
  split
  ·rename_i h
   rw [parS_length, ih]
   rcases (by omega : wide = 3 ∨ wide = 4 ∨ wide = 5 ∨ wide = 6 ∨ wide = 7 ∨ wide = 8) with rfl | rfl | rfl | rfl | rfl | rfl <;> omega
  ·rename_i h
   rw [ih]
   rcases (by omega : wide = 3 ∨ wide = 4 ∨ wide = 5 ∨ wide = 6 ∨ wide = 7 ∨ wide = 8) with rfl | rfl | rfl | rfl | rfl | rfl <;> omega
theorem colsL_sec {gs : Gs} {secs : Int} {g a size : Nat} (h : mayC gs secs g a size = true) {i : Nat} (hi : i < (colsL gs g a size).length) : ((((colsL gs g a size).getD i cD).2.1 : Nat) : Int) < secs := by
 obtain ⟨hr, _, hg, hs1, hs4, _, _, _, _, hok⟩ := mayC_spec h
 have hg' : g < gs.length := by omega
 have hgr := getD_right hr hg'
 have hsec := (rightB_spec hr).2.2.1
 have htop := hok.top
 have htk : takesI gs secs g size = takes (gs.getD g (0, 0)) size := by
  unfold takesI hasB
  rw [hr, decide_eq_true (by omega), if_pos ⟨rfl, by omega, by omega⟩, Int.toNat_natCast]
 unfold stOf at htop
 simp only [Int.toNat_natCast] at htop
 rw [htk] at htop
 unfold takes sect at htop
 unfold colsL at hi ⊢
 split
 ·rename_i hk
  rw [if_pos hk, mirL_length] at hi
  rw [mirL_get _ _ _ _ _ hi]
  rw [if_pos hk, if_neg (by omega)] at htop
  have h1 : i % size < size := Nat.mod_lt _ (by omega)
  dsimp only
  omega
 ·rename_i hk
  rw [if_neg hk] at hi
  have hk1 : (gs.getD g (0, 0)).1 = 1 := by omega
  obtain ⟨w, hw⟩ : ∃ w, w = (gs.getD g (0, 0)).2 := ⟨_, rfl⟩
  rw [if_neg hk, if_pos hk1, ← hw] at htop
  rw [← hw] at hi hgr ⊢
  rw [(parL_pos _ _ _ _ i hi).2]
  have hw38 : 3 ≤ w ∧ w ≤ 8 := by omega
  rw [parL_lenE _ _ _ (by omega)] at hi
  unfold par_ at htop
  rcases (by omega : w = 3 ∨ w = 4 ∨ w = 5 ∨ w = 6 ∨ w = 7 ∨ w = 8) with rfl | rfl | rfl | rfl | rfl | rfl <;> (simp only [show ((3 : Int)).toNat = 3 from rfl, show ((4 : Int)).toNat = 4 from rfl, show ((5 : Int)).toNat = 5 from rfl, show ((6 : Int)).toNat = 6 from rfl, show ((7 : Int)).toNat = 7 from rfl, show ((8 : Int)).toNat = 8 from rfl] at hi ⊢; omega)
structure DvsT.one (x : DvsT) : Prop where
 calm : x.calm
 right : x.right = true
 eq : ∀ g d e, g < x.gs.length → (wsum x.gs g).toNat ≤ d → d < (wsum x.gs g).toNat + (x.gs.getD g (0, 0)).2.toNat → (wsum x.gs g).toNat ≤ e → e < (wsum x.gs g).toNat + (x.gs.getD g (0, 0)).2.toNat → x.here d = false → x.here e = false → d = e
 wide : ∀ g d, g < x.gs.length → (wsum x.gs g).toNat ≤ d → d < (wsum x.gs g).toNat + (x.gs.getD g (0, 0)).2.toNat → x.here d = false → 2 ≤ (x.gs.getD g (0, 0)).2
theorem DvsT.one.kept {x y : DvsT} (h : x.one) (k : Kept x y) : y.one :=
 ⟨k.calm h.calm, k.right h.right, fun g d e hg => by rw [k.gs] at hg ⊢; rw [k.here, k.here]; exact h.eq g d e hg, fun g d hg => by rw [k.gs] at hg ⊢; rw [k.here]; exact h.wide g d hg⟩
theorem DvsT.one.takes {x : DvsT} (h : x.one) : x.takes := fun y k g a t ht hm => by
 have hy := h.kept k
 have hsz : t.length % 64 = 0 := by
  unfold blkOk at ht
  simp only [decide_eq_true_eq] at ht
  exact ht.2.1
 obtain ⟨f, x', hp⟩ : ∃ f x', putsX y ((colsL y.gs g a (t.length / 64)).zip (encL (colsL y.gs g a (t.length / 64)) (secL t))) [] = (f, x') := ⟨_, _, rfl⟩
 rw [writeX_eq hy.right ht hm hp]
 obtain ⟨hr, _, hg, hs1, hs4, _⟩ := mayC_spec hm
 have hg' : g < y.gs.length := by omega
 have hgr := getD_right hr hg'
 have hrs := right_spec hy.right
 have hsl : 0 < (secL t).length := by unfold secL; rw [secK_len]; omega
 have hcol : ∀ c ∈ (colsL y.gs g a (t.length / 64)).zip (encL (colsL y.gs g a (t.length / 64)) (secL t)), ∃ i, i < (colsL y.gs g a (t.length / 64)).length ∧ c.1 = (colsL y.gs g a (t.length / 64)).getD i cD ∧ c.2 = (encL (colsL y.gs g a (t.length / 64)) (secL t)).getD i [] := fun c hc => by
  obtain ⟨i, hi, e⟩ := List.getElem_of_mem hc
  rw [List.length_zip, encL_length, Nat.min_self] at hi
  rw [List.getElem_zip] at e
  refine ⟨i, hi, ?_, ?_⟩
  ·rw [← e]; simp [List.getD_eq_getElem?_getD, hi]
  ·rw [← e]; simp [List.getD_eq_getElem?_getD, encL_length, hi]
 have hmiss := putsX_miss ((colsL y.gs g a (t.length / 64)).zip (encL (colsL y.gs g a (t.length / 64)) (secL t))) y [] hy.calm (fun c hc => by
  obtain ⟨i, hi, e1, e2⟩ := hcol c hc
  have hd := colsL_dev hm hi
  have hsc := colsL_sec hm hi
  rw [e1, e2]
  have hdl : ((colsL y.gs g a (t.length / 64)).getD i cD).1 < y.ds.length := by rw [hrs.2.1]; exact hd
  refine ⟨hdl, ?_, encL_64 (secL_64 hsz) hsl (colsL_row y.gs g a (t.length / 64)) i hi⟩
  have := hrs.2.2.2 _ hdl
  omega)
 rw [hp] at hmiss
 dsimp only at hmiss
 have hin : ∀ d ∈ f, y.here d = false ∧ (wsum y.gs g).toNat ≤ d ∧ d < (wsum y.gs g).toNat + (y.gs.getD g (0, 0)).2.toNat := fun d hd => by
  rcases hmiss d hd with h1 | ⟨h1, c, hc, e⟩
  ·cases h1
  ·obtain ⟨i, hi, e1, _⟩ := hcol c hc
   have := colsL_rng hm hi
   rw [← e1, e] at this
   exact ⟨h1, this⟩
 have hnd := putsX_nodup ((colsL y.gs g a (t.length / 64)).zip (encL (colsL y.gs g a (t.length / 64)) (secL t))) y [] List.nodup_nil
 rw [hp] at hnd
 dsimp only at hnd
 have hlen := short_of hnd (fun d hd e he => by
  obtain ⟨a1, a2, a3⟩ := hin d hd
  obtain ⟨b1, b2, b3⟩ := hin e he
  exact hy.eq g d e hg' a2 a3 b2 b3 a1 b1)
 dsimp only
 rw [if_neg]
 rintro (⟨h1, h2⟩ | ⟨h1, h2⟩)
 ·rcases f with _ | ⟨d, r⟩
  ·have h3 : (0 : Int) = (y.gs.getD g (0, 0)).2 := h2
   omega
  ·obtain ⟨a1, a2, a3⟩ := hin d (by simp)
   have hw := hy.wide g d hg' a2 a3 a1
   omega
 ·omega
end Go.Proofs.YtfaemcfjbbbbdaaGreat
namespace Go.Proofs.YtfaemcfjbbbbdaaGreat
theorem wsum_stepS {gs : Gs} {g : Nat} (h : g < gs.length) : wsum gs (g + 1) = wsum gs g + (gs.getD g (0, 0)).2 := by
 unfold wsum
 rw [List.take_succ_eq_append_getElem h, List.map_append, List.sum_append]
 have e : gs.getD g (0, 0) = gs[g] := by simp [List.getD_eq_getElem?_getD, h]
 rw [e]
 congr 1
 exact Int.add_zero _
theorem wsum_mono {gs : Gs} {secs : Int} (hr : rightB gs secs = true) : ∀ (n g : Nat), g + n ≤ gs.length → wsum gs g ≤ wsum gs (g + n)
 | 0, g, _ => Int.le_refl _
 | n + 1, g, h => by
  have h1 := wsum_mono hr n g (by omega)
  have h2 := wsum_stepS (gs := gs) (g := g + n) (by omega)
  have h3 := getD_right hr (show g + n < gs.length by omega)
  rw [← Nat.add_assoc, h2]
  omega
theorem wsum_apart {gs : Gs} {secs : Int} (hr : rightB gs secs = true) {g g2 : Nat} (hg : g < g2) (h2 : g2 < gs.length) : wsum gs g + (gs.getD g (0, 0)).2 ≤ wsum gs g2 := by
 rw [← wsum_stepS (show g < gs.length by omega)]
 have := wsum_mono hr (g2 - (g + 1)) (g + 1) (by omega)
 rwa [show g + 1 + (g2 - (g + 1)) = g2 by omega] at this
theorem colsL_flat {gs : Gs} {secs : Int} {g a size : Nat} (h : mayC gs secs g a size = true) {i : Nat} (hi : i < (colsL gs g a size).length) :
  ∃ x, sHas (stOf gs secs size (g, a)) g x ∧ ((gs.getD g (0, 0)).1 = 0 → ((colsL gs g a size).getD i cD).2.1 = 16 + x) ∧ ((gs.getD g (0, 0)).1 ≠ 0 → ((colsL gs g a size).getD i cD).1 = (wsum gs g).toNat + x % (gs.getD g (0, 0)).2.toNat ∧ ((colsL gs g a size).getD i cD).2.1 = 16 + x / (gs.getD g (0, 0)).2.toNat) := by
 obtain ⟨hr, _, hg, hs1, hs4, _⟩ := mayC_spec h
 have hg' : g < gs.length := by omega
 have hgr := getD_right hr hg'
 have htk : takesI gs secs g size = takes (gs.getD g (0, 0)) size := by
  unfold takesI hasB
  rw [hr, decide_eq_true (by omega), if_pos ⟨rfl, by omega, by omega⟩, Int.toNat_natCast]
 by_cases hk : (gs.getD g (0, 0)).1 = 0
 ·have e : colsL gs g a size = mirL (wsum gs g).toNat a size (gs.getD g (0, 0)).2.toNat := by unfold colsL; rw [if_pos hk]
  rw [e] at hi ⊢
  rw [mirL_length] at hi
  rw [mirL_get _ _ _ _ _ hi]
  have h1 : i % size < size := Nat.mod_lt _ (by omega)
  refine ⟨a + i % size, ⟨rfl, ?_, ?_⟩, fun _ => by dsimp only; omega, fun h => absurd hk h⟩
  ·show a ≤ a + _; omega
  ·show a + i % size < a + (takesI gs secs (g : Nat) size).toNat
   rw [htk]
   unfold takes
   rw [if_pos hk]
   omega
 ·have e : colsL gs g a size = parL (wsum gs g).toNat (gs.getD g (0, 0)).2.toNat a size := by unfold colsL; rw [if_neg hk]
  rw [e] at hi ⊢
  have hp := parL_pos (wsum gs g).toNat (gs.getD g (0, 0)).2.toNat a size i hi
  refine ⟨a + i, ⟨rfl, ?_, ?_⟩, fun h => absurd h hk, fun _ => hp⟩
  ·show a ≤ a + i; omega
  ·show a + i < a + (takesI gs secs (g : Nat) size).toNat
   rw [htk]
   unfold takes par_
   rw [if_neg hk]
   have hw38 : 3 ≤ (gs.getD g (0, 0)).2 ∧ (gs.getD g (0, 0)).2 ≤ 8 := by omega
   rw [parL_lenE _ _ _ (by omega)] at hi
   clear hp e htk
   generalize (gs.getD g (0, 0)).2 = w at *
   rcases (by omega : w = 3 ∨ w = 4 ∨ w = 5 ∨ w = 6 ∨ w = 7 ∨ w = 8) with rfl | rfl | rfl | rfl | rfl | rfl <;> (simp only [show ((3 : Int)).toNat = 3 from rfl, show ((4 : Int)).toNat = 4 from rfl, show ((5 : Int)).toNat = 5 from rfl, show ((6 : Int)).toNat = 6 from rfl, show ((7 : Int)).toNat = 7 from rfl, show ((8 : Int)).toNat = 8 from rfl] at hi ⊢; omega)
theorem cols_apart {gs : Gs} {secs : Int} {g a size g2 a2 size2 : Nat} (h1 : mayC gs secs g a size = true) (h2 : mayC gs secs g2 a2 size2 = true) (hd : Dis (stOf gs secs size (g, a)) (stOf gs secs size2 (g2, a2))) {i j : Nat} (hi : i < (colsL gs g a size).length) (hj : j < (colsL gs g2 a2 size2).length) :
  ¬ (((colsL gs g a size).getD i cD).1 = ((colsL gs g2 a2 size2).getD j cD).1 ∧ ((colsL gs g a size).getD i cD).2.1 = ((colsL gs g2 a2 size2).getD j cD).2.1) := by
 rintro ⟨e1, e2⟩
 obtain ⟨hr, _, hg, _⟩ := mayC_spec h1
 obtain ⟨_, _, hg2, _⟩ := mayC_spec h2
 have r1 := colsL_rng h1 hi
 have r2 := colsL_rng h2 hj
 have b1 := (wsum_bd hr g (by omega)).1
 have b2 := (wsum_bd hr g2 (by omega)).1
 have w1 := getD_right hr (show g < gs.length by omega)
 have w2 := getD_right hr (show g2 < gs.length by omega)
 rcases Nat.lt_trichotomy g g2 with h3 | h3 | h3
 ·have := wsum_apart hr h3 (by omega); omega
 ·subst h3
  obtain ⟨x, hx, x0, x1⟩ := colsL_flat h1 hi
  obtain ⟨y, hy, y0, y1⟩ := colsL_flat h2 hj
  have hxy : x = y := by
   by_cases hk : (gs.getD g (0, 0)).1 = 0
   ·have := x0 hk; have := y0 hk; omega
   ·obtain ⟨p1, p2⟩ := x1 hk
    obtain ⟨q1, q2⟩ := y1 hk
    have m1 : x % (gs.getD g (0, 0)).2.toNat = y % (gs.getD g (0, 0)).2.toNat := by omega
    have m2 : x / (gs.getD g (0, 0)).2.toNat = y / (gs.getD g (0, 0)).2.toNat := by omega
    have n1 := Nat.mod_add_div x (gs.getD g (0, 0)).2.toNat
    have n2 := Nat.mod_add_div y (gs.getD g (0, 0)).2.toNat
    rw [m1, m2, n2] at n1
    exact n1.symm
  subst hxy
  exact hd g x hx hy
 ·have := wsum_apart hr h3 (by omega); omega
end Go.Proofs.YtfaemcfjbbbbdaaGreat
namespace Go.Proofs.YtfaemcfjbbbbdaaGreat
theorem writeE_now (δ : DevT) (a : Int) (s : Bs) (k : Nat) (h : (a.toNat ≠ k) ∨ (δ.writeE a s).1 ≠ 0) : (δ.writeE a s).2.now k = δ.now k := by
 unfold DevT.writeE at h ⊢
 split
 ·rfl
 ·split
  ·rfl
  ·split
   ·rfl
   ·rename_i h1 h2 h3
    rw [if_neg h1, if_neg h2, if_neg h3] at h
    dsimp only
    rw [DevT.now_wrote]
    rcases h with h | h
    ·rw [if_neg (fun e => h e.symm)]
    ·exact absurd rfl h
theorem col_put_other {x : DvsT} {c c2 : ColT} {s : Bs} (hc : c.1 < x.ds.length) (h : ¬ (c.1 = c2.1 ∧ c.2.1 = c2.2.1)) : (putX x c s).2.col c2 = x.col c2 := by
 have k := putX_kept x c s hc
 unfold DvsT.col
 rw [k.here]
 split
 ·have hm : ((putX x c s).2.ds.getD c2.1 dvD).mayE (colAt c2) = (x.ds.getD c2.1 dvD).mayE (colAt c2) := by
   unfold DevT.mayE
   rw [(k.dev c2.1).1, (k.dev c2.1).2.1]
  unfold DevT.readE
  rw [hm]
  split
  ·dsimp only
   unfold putX
   split
   ·dsimp only
    rw [DvsT.set_getD x c.1 c2.1 _ hc]
    split
    ·rename_i e
     rw [writeE_now _ _ _ _ (.inl (by unfold colAt; intro e3; exact h ⟨e.symm, by simpa using e3⟩)), e]
    ·rfl
   ·rfl
  ·rfl
 ·rfl
theorem col_put_same {x : DvsT} {c : ColT} {s : Bs} (hcm : x.calm) (hc : c.1 < x.ds.length) (hh : x.here c.1 = true) (hm : c.2.1 < (x.ds.getD c.1 dvD).med.length) (hs : s.length = 64) : (putX x c s).2.col c = s := by
 have k := putX_kept x c s hc
 have hl : (x.ds.getD c.1 dvD).lost = false := by
  unfold DvsT.here at hh
  simp only [Bool.and_eq_true, Bool.not_eq_true'] at hh
  exact hh.2
 have hme : (x.ds.getD c.1 dvD).mayE (colAt c) = 0 := by
  unfold DevT.mayE colAt
  rw [if_neg (by rw [hl]; decide), if_neg (by omega)]
 have hf : (x.ds.getD c.1 dvD).fuse = -1 := (hcm c.1).resolve_right (by omega)
 have hme2 : ((putX x c s).2.ds.getD c.1 dvD).mayE (colAt c) = 0 := by
  rw [← hme]
  unfold DevT.mayE
  rw [(k.dev c.1).1, (k.dev c.1).2.1]
 unfold DvsT.col
 rw [k.here, if_pos hh]
 unfold DevT.readE
 rw [if_pos hme2]
 dsimp only
 unfold putX
 rw [if_pos hh]
 dsimp only
 rw [DvsT.set_getD x c.1 c.1 _ hc, if_pos rfl]
 unfold DevT.writeE
 rw [if_neg (by rw [hme]; decide), if_neg (by omega), if_neg (by rw [hf]; decide)]
 dsimp only
 rw [DevT.now_wrote, if_pos rfl]
def sameC (c e : ColT) : Prop := c.1 = e.1 ∧ c.2.1 = e.2.1
theorem col_miss {x : DvsT} {c : ColT} (h : x.here c.1 = false) : x.col c = [] := by
 unfold DvsT.col
 rw [if_neg (by rw [h]; decide)]
theorem cols_put_other : ∀ (l : List (ColT × Bs)) (x : DvsT) (f : List Nat) (c2 : ColT), (∀ c ∈ l, c.1.1 < x.ds.length) → (∀ c ∈ l, ¬ sameC c.1 c2) → (putsX x l f).2.col c2 = x.col c2
 | [], x, f, c2, _, _ => rfl
 | (c, s) :: r, x, f, c2, h, hn => by
  have hc := h (c, s) (List.mem_cons_self ..)
  have k := putX_kept x c s hc
  unfold putsX
  rw [cols_put_other r _ _ c2 (fun q hq => by rw [k.n]; exact h q (List.mem_cons_of_mem _ hq)) (fun q hq => hn q (List.mem_cons_of_mem _ hq))]
  exact col_put_other hc (hn (c, s) (List.mem_cons_self ..))
theorem cols_put_same : ∀ (l : List (ColT × Bs)) (x : DvsT) (f : List Nat), x.calm → (∀ c ∈ l, c.1.1 < x.ds.length ∧ c.1.2.1 < (x.ds.getD c.1.1 dvD).med.length ∧ c.2.length = 64) → l.Pairwise (fun a b => ¬ sameC a.1 b.1) → ∀ q ∈ l, x.here q.1.1 = true → (putsX x l f).2.col q.1 = q.2
 | [], x, f, _, _, _, q, hq, _ => by cases hq
 | (c, s) :: r, x, f, hcm, h, hp, q, hq, hh => by
  obtain ⟨h1, h2, h3⟩ := h (c, s) (List.mem_cons_self ..)
  have k := putX_kept x c s h1
  rw [List.pairwise_cons] at hp
  have hr : ∀ q ∈ r, q.1.1 < (putX x c s).2.ds.length ∧ q.1.2.1 < ((putX x c s).2.ds.getD q.1.1 dvD).med.length ∧ q.2.length = 64 := fun q hq => by
   obtain ⟨a1, a2, a3⟩ := h q (List.mem_cons_of_mem _ hq)
   exact ⟨by rw [k.n]; exact a1, by rw [(k.dev q.1.1).1]; exact a2, a3⟩
  unfold putsX
  rcases List.mem_cons.1 hq with rfl | hq
  ·rw [cols_put_other r _ _ c (fun e he => (hr e he).1) (fun e he hs => hp.1 e he ⟨hs.1.symm, hs.2.symm⟩)]
   exact col_put_same hcm h1 hh h2 h3
  ·exact cols_put_same r _ _ (k.calm hcm) hr hp.2 q hq (by rw [k.here]; exact hh)
theorem cols_self {gs : Gs} {secs : Int} {g a size : Nat} (h : mayC gs secs g a size = true) {i j : Nat} (hi : i < (colsL gs g a size).length) (hj : j < (colsL gs g a size).length) (e : sameC ((colsL gs g a size).getD i cD) ((colsL gs g a size).getD j cD)) : i = j := by
 obtain ⟨e1, e2⟩ := e
 unfold colsL at hi hj e1 e2
 split at hi
 ·rename_i hk
  rw [if_pos hk] at hj e1 e2
  rw [mirL_length] at hi hj
  rw [mirL_get _ _ _ _ _ hi, mirL_get _ _ _ _ _ hj] at e1 e2
  dsimp only at e1 e2
  have n1 := Nat.mod_add_div i size
  have n2 := Nat.mod_add_div j size
  have m1 : i / size = j / size := by omega
  have m2 : i % size = j % size := by omega
  rw [m1, m2, n2] at n1
  exact n1.symm
 ·rename_i hk
  rw [if_neg hk] at hj e1 e2
  obtain ⟨p1, p2⟩ := parL_pos _ _ _ _ i hi
  obtain ⟨q1, q2⟩ := parL_pos _ _ _ _ j hj
  rw [p1, q1] at e1
  rw [p2, q2] at e2
  have n1 := Nat.mod_add_div (a + i) (gs.getD g (0, 0)).2.toNat
  have n2 := Nat.mod_add_div (a + j) (gs.getD g (0, 0)).2.toNat
  have m1 : (a + i) % (gs.getD g (0, 0)).2.toNat = (a + j) % (gs.getD g (0, 0)).2.toNat := by omega
  have m2 : (a + i) / (gs.getD g (0, 0)).2.toNat = (a + j) / (gs.getD g (0, 0)).2.toNat := by omega
  rw [m1, m2, n2] at n1
  omega
theorem zip_pair {gs : Gs} {secs : Int} {g a size : Nat} (h : mayC gs secs g a size = true) (T : List Bs) : ((colsL gs g a size).zip T).Pairwise (fun a b => ¬ sameC a.1 b.1) := by
 rw [List.pairwise_iff_getElem]
 intro i j hi hj hij e
 rw [List.length_zip] at hi hj
 rw [List.getElem_zip, List.getElem_zip] at e
 have hi2 : i < (colsL gs g a size).length := by omega
 have hj2 : j < (colsL gs g a size).length := by omega
 have e1 : (colsL gs g a size)[i] = (colsL gs g a size).getD i cD := by simp [List.getD_eq_getElem?_getD, hi2]
 have e2 : (colsL gs g a size)[j] = (colsL gs g a size).getD j cD := by simp [List.getD_eq_getElem?_getD, hj2]
 dsimp only at e
 rw [e1, e2] at e
 have := cols_self h hi2 hj2 e
 omega
end Go.Proofs.YtfaemcfjbbbbdaaGreat
namespace Go.Proofs.YtfaemcfjbbbbdaaGreat
def shownL (x : DvsT) (g a : Nat) (t : Bs) : List Bs := ((colsL x.gs g a (t.length / 64)).zip (encL (colsL x.gs g a (t.length / 64)) (secL t))).map fun q => if x.here q.1.1 = true then q.2 else []
theorem zip_fits {x : DvsT} (hr : x.right = true) {g a : Nat} {t : Bs} (ht : blkOk t = true) (hm : mayC x.gs x.secs (g : Nat) (a : Nat) ((t.length / 64 : Nat) : Int) = true) : ∀ c ∈ (colsL x.gs g a (t.length / 64)).zip (encL (colsL x.gs g a (t.length / 64)) (secL t)), c.1.1 < x.ds.length ∧ c.1.2.1 < (x.ds.getD c.1.1 dvD).med.length ∧ c.2.length = 64 := by
 have hsz : t.length % 64 = 0 := by
  unfold blkOk at ht
  simp only [decide_eq_true_eq] at ht
  exact ht.2.1
 obtain ⟨_, _, hg, hs1, hs4, _⟩ := mayC_spec hm
 have hrs := right_spec hr
 have hsl : 0 < (secL t).length := by unfold secL; rw [secK_len]; omega
 intro c hc
 obtain ⟨i, hi, e⟩ := List.getElem_of_mem hc
 rw [List.length_zip, encL_length, Nat.min_self] at hi
 rw [List.getElem_zip] at e
 have e1 : c.1 = (colsL x.gs g a (t.length / 64)).getD i cD := by rw [← e]; simp [List.getD_eq_getElem?_getD, hi]
 have e2 : c.2 = (encL (colsL x.gs g a (t.length / 64)) (secL t)).getD i [] := by rw [← e]; simp [List.getD_eq_getElem?_getD, encL_length, hi]
 have hd := colsL_dev hm hi
 have hsc := colsL_sec hm hi
 rw [e1, e2]
 have hdl : ((colsL x.gs g a (t.length / 64)).getD i cD).1 < x.ds.length := by rw [hrs.2.1]; exact hd
 refine ⟨hdl, ?_, encL_64 (secL_64 hsz) hsl (colsL_row x.gs g a (t.length / 64)) i hi⟩
 have := hrs.2.2.2 _ hdl
 omega
theorem putsX_kep : ∀ (l : List (ColT × Bs)) (x : DvsT) (f : List Nat), (∀ c ∈ l, c.1.1 < x.ds.length) → Kept x (putsX x l f).2
 | [], x, f, _ => Kept.refl x
 | (c, s) :: r, x, f, h => by
  have k := putX_kept x c s (h (c, s) (List.mem_cons_self ..))
  unfold putsX
  exact k.trans (putsX_kep r _ _ (fun q hq => by rw [k.n]; exact h q (List.mem_cons_of_mem _ hq)))
theorem raw_write {x : DvsT} (hcm : x.calm) (hr : x.right = true) {g a : Nat} {t : Bs} (ht : blkOk t = true) (hm : mayC x.gs x.secs (g : Nat) (a : Nat) ((t.length / 64 : Nat) : Int) = true) : rawX (writeX x g a t).2.2 g a (t.length / 64) = shownL x g a t := by
 obtain ⟨f, x', hp⟩ : ∃ f x', putsX x ((colsL x.gs g a (t.length / 64)).zip (encL (colsL x.gs g a (t.length / 64)) (secL t))) [] = (f, x') := ⟨_, _, rfl⟩
 rw [writeX_eq hr ht hm hp]
 have hz := zip_fits hr ht hm
 have hk : Kept x x' := by
  have := putsX_kep ((colsL x.gs g a (t.length / 64)).zip (encL (colsL x.gs g a (t.length / 64)) (secL t))) x [] (fun c hc => (hz c hc).1)
  rw [hp] at this
  exact this
 have hsame := cols_put_same ((colsL x.gs g a (t.length / 64)).zip (encL (colsL x.gs g a (t.length / 64)) (secL t))) x [] hcm hz (zip_pair hm _)
 rw [hp] at hsame
 dsimp only at hsame ⊢
 unfold rawX shownL
 rw [hk.gs]
 have e : colsL x.gs g a (t.length / 64) = ((colsL x.gs g a (t.length / 64)).zip (encL (colsL x.gs g a (t.length / 64)) (secL t))).map Prod.fst := by
  rw [List.map_fst_zip]
  rw [encL_length]
  exact Nat.le_refl _
 conv => lhs; rw [e]
 rw [List.map_map]
 refine List.map_congr_left fun q hq => ?_
 show x'.col q.1 = _
 cases hh : x.here q.1.1 with
 | true => rw [if_pos rfl]; exact hsame q hq hh
 | false =>
  rw [if_neg (by decide)]
  exact col_miss (by rw [hk.here]; exact hh)
end Go.Proofs.YtfaemcfjbbbbdaaGreat
namespace Go.Proofs.YtfaemcfjbbbbdaaGreat
theorem secK_flat (s : Bs) : ∀ k, (secK s k).flatten = s.take (64 * k)
 | 0 => by simp [secK]
 | k + 1 => by
  rw [secK_succ, List.flatten_append, secK_flat s k, List.flatten_singleton]
  have e : (s.take (64 * k + 64)).take (64 * k) = s.take (64 * k) := by rw [List.take_take, Nat.min_eq_left (by omega)]
  rw [← e, List.take_append_drop, Nat.mul_succ]
theorem secL_flat {s : Bs} (h : s.length % 64 = 0) : (secL s).flatten = s := by
 unfold secL
 rw [secK_flat, show 64 * (s.length / 64) = s.length by omega, List.take_length]
theorem secL_len (s : Bs) : (secL s).length = s.length / 64 := by unfold secL; rw [secK_len]
theorem dcount_none {l : List ColT} (h : ∀ i, i < l.length → (l.getD i cD).2.2.1 = false) : ∀ k, k ≤ l.length → dcount l k = k
 | 0, _ => by have := dcount_le l 0; omega
 | k + 1, hk => by
  rw [dcount_succ l k (by omega), dcount_none h k (by omega), if_neg (by rw [h k (by omega)]; decide)]
theorem enc_mir {first a size m : Nat} (data : List Bs) (hd : data.length = size) {i : Nat} (hi : i < m * size) : (encL (mirL first a size m) data).getD i [] = data.getD (i % size) [] := by
 have hp : ∀ i, i < (mirL first a size m).length → ((mirL first a size m).getD i cD).2.2.1 = false := fun i hi => by
  rw [mirL_length] at hi
  rw [mirL_get _ _ _ _ _ hi]
 have hi2 : i < (mirL first a size m).length := by rw [mirL_length]; exact hi
 rw [encL_get _ _ hi2, if_neg (by rw [hp i hi2]; decide), dataL_get _ _ _ _ hi2, if_neg (by rw [hp i hi2]; decide), dcount_none hp i (by omega), Nat.zero_add, hd]
end Go.Proofs.YtfaemcfjbbbbdaaGreat
namespace Go.Proofs.YtfaemcfjbbbbdaaGreat
def xf (p : Nat → Bool) (f : Nat → UInt8) : Nat → UInt8
 | 0 => 0
 | n + 1 => xf p f n ^^^ (if p n = true then f n else 0)
theorem x_swap (a b c d : UInt8) : (a ^^^ b) ^^^ (c ^^^ d) = (a ^^^ c) ^^^ (b ^^^ d) := by
 rw [UInt8.xor_assoc, UInt8.xor_assoc]
 congr 1
 rw [← UInt8.xor_assoc, ← UInt8.xor_assoc, UInt8.xor_comm b c]
theorem xf_split (p q : Nat → Bool) (f : Nat → UInt8) : ∀ n, xf p f n = xf (fun i => p i && q i) f n ^^^ xf (fun i => p i && !q i) f n
 | 0 => by simp [xf]
 | n + 1 => by
  simp only [xf]
  rw [xf_split p q f n, x_swap]
  congr 1
  by_cases h1 : p n = true <;> by_cases h2 : q n = true <;> simp [h1, h2]
theorem xf_congr {p q : Nat → Bool} {f g : Nat → UInt8} : ∀ {n : Nat}, (∀ i, i < n → p i = q i ∧ (p i = true → f i = g i)) → xf p f n = xf q g n
 | 0, _ => rfl
 | n + 1, h => by
  simp only [xf]
  rw [xf_congr (fun i hi => h i (by omega))]
  obtain ⟨h1, h2⟩ := h n (by omega)
  rw [← h1]
  by_cases hp : p n = true
  ·rw [if_pos hp, if_pos hp, h2 hp]
  ·rw [if_neg hp, if_neg hp]
theorem xf_none {p : Nat → Bool} {f : Nat → UInt8} : ∀ {n : Nat}, (∀ i, i < n → p i = false) → xf p f n = 0
 | 0, _ => rfl
 | n + 1, h => by
  simp only [xf]
  rw [xf_none (fun i hi => h i (by omega)), h n (by omega), if_neg (by decide)]
  rfl
theorem xf_one {p : Nat → Bool} {f : Nat → UInt8} {k : Nat} : ∀ {n : Nat}, k < n → (∀ i, i < n → p i = decide (i = k)) → xf p f n = f k
 | 0, hk, _ => by omega
 | n + 1, hk, h => by
  simp only [xf]
  rw [h n (by omega)]
  by_cases e : n = k
  ·subst e
   rw [xf_none (fun i hi => by rw [h i (by omega)]; exact decide_eq_false (by omega)), if_pos (by simp)]
   exact UInt8.zero_xor
  ·rw [xf_one (show k < n by omega) (fun i hi => h i (by omega)), if_neg (by simp [e])]
   exact UInt8.xor_zero
theorem xf_list (p : Nat → Bool) (F : Nat → Bs) (b : Nat) : ∀ n, xorAt b (bts (((List.range n).filter p).map F)) = xf p (fun i => (F i).getD b 0) n
 | 0 => rfl
 | n + 1 => by
  rw [List.range_succ, List.filter_append, List.map_append, bts, List.map_append, xorAt_append]
  simp only [xf]
  congr 1
  ·exact xf_list p F b n
  ·by_cases hp : p n = true
   ·simp only [List.filter_cons, hp, if_true, List.filter_nil, List.map_cons, List.map_nil]
    rw [xorAt_cons, xorAt_nil]
    show (F n).toArray.toList.getD b 0 ^^^ 0 = _
    rw [UInt8.xor_zero]
   ·simp only [List.filter_cons, hp, if_false, List.filter_nil, List.map_nil]
    rfl
def RowOk (l : List ColT) : Prop := ∀ i, i < l.length → (l.getD i cD).2.2.1 = false → ∃ q, q < l.length ∧ (l.getD q cD).2.2.1 = true ∧ (l.getD q cD).2.2.2 = (l.getD i cD).2.2.2 ∧ ∀ k, k < l.length → (l.getD k cD).2.2.1 = true → (l.getD k cD).2.2.2 = (l.getD i cD).2.2.2 → k = q
theorem makeB_is {l : List Bs} (hne : l ≠ []) (h : ∀ s ∈ l, s.length = 64) : makeB l = xorL 64 (bts l) := by
 have he : evenL (bts l) = true := evenL_of _ 64 (fun s hs => by
  obtain ⟨t, ht, rfl⟩ := List.mem_map.1 hs
  exact h t ht)
 unfold makeB
 rw [if_neg (by rw [he]; simp [hne])]
 congr 1
 cases l with
 | nil => exact absurd rfl hne
 | cons a r => exact h a (by simp)
theorem bs_ext {a b : Bs} (hl : a.length = b.length) (h : ∀ j, j < a.length → a.getD j 0 = b.getD j 0) : a = b := by
 refine List.ext_getElem hl fun i h1 h2 => ?_
 have := h i h1
 rwa [List.getD_eq_getElem?_getD, List.getD_eq_getElem?_getD, List.getElem?_eq_getElem h1, List.getElem?_eq_getElem h2] at this
section
variable {l : List ColT} {data : List Bs}
theorem row_zero (hro : RowOk l) (h64 : ∀ i, i < l.length → ((encL l data).getD i []).length = 64) {i : Nat} (hi : i < l.length) (hp : (l.getD i cD).2.2.1 = false) {b : Nat} (hb : b < 64) : xf (fun j => decide ((l.getD j cD).2.2.2 = (l.getD i cD).2.2.2)) (fun j => ((encL l data).getD j []).getD b 0) l.length = 0 := by
 obtain ⟨q, hq, hq1, hq2, hq3⟩ := hro i hi hp
 rw [xf_split _ (fun j => (l.getD j cD).2.2.1)]
 have e1 : xf (fun j => decide ((l.getD j cD).2.2.2 = (l.getD i cD).2.2.2) && (l.getD j cD).2.2.1) (fun j => ((encL l data).getD j []).getD b 0) l.length = ((encL l data).getD q []).getD b 0 := xf_one (f := fun j => ((encL l data).getD j []).getD b 0) hq (fun k hk => by
  by_cases e : k = q
  ·subst e; rw [hq1, hq2]; simp
  ·rw [decide_eq_false e]
   cases h1 : (l.getD k cD).2.2.1 with
   | false => simp
   | true =>
    have : ¬ (l.getD k cD).2.2.2 = (l.getD i cD).2.2.2 := fun h2 => e (hq3 k hk h1 h2)
    rw [decide_eq_false this]; rfl)
 have hne : rowL l (l.getD q cD).2.2.2 ≠ [] := fun h0 => by
  have : i ∈ rowL l (l.getD q cD).2.2.2 := by
   unfold rowL
   refine List.mem_filter.2 ⟨List.mem_range.2 hi, ?_⟩
   rw [hp, decide_eq_true hq2.symm]
   rfl
  rw [h0] at this
  cases this
 have hd : ∀ k, k < l.length → (l.getD k cD).2.2.1 = false → (dataL data 0 l).getD k [] = (encL l data).getD k [] := fun k hk h1 => by rw [encL_get l data hk, if_neg (by rw [h1]; decide)]
 have e2 : ((encL l data).getD q []).getD b 0 = xf (fun j => decide ((l.getD j cD).2.2.2 = (l.getD i cD).2.2.2) && !(l.getD j cD).2.2.1) (fun j => ((encL l data).getD j []).getD b 0) l.length := by
  rw [encL_get l data hq, if_pos hq1, makeB_is (by simpa using hne) (fun s hs => ?_), xorL_getD _ _ _ hb]
  ·unfold rowL
   rw [xf_list, hq2]
   refine xf_congr fun k hk => ⟨rfl, fun h1 => ?_⟩
   simp only [Bool.and_eq_true, Bool.not_eq_true'] at h1
   rw [hd k hk h1.2]
  ·obtain ⟨k, hk, rfl⟩ := List.mem_map.1 hs
   unfold rowL at hk
   obtain ⟨h1, h2⟩ := List.mem_filter.1 hk
   simp only [Bool.and_eq_true, Bool.not_eq_true'] at h2
   have hk2 := List.mem_range.1 h1
   rw [hd k hk2 h2.2]
   exact h64 k hk2
 rw [e1, e2]
 exact UInt8.xor_self
theorem again_enc (hro : RowOk l) (h64 : ∀ i, i < l.length → ((encL l data).getD i []).length = 64) {i : Nat} (hi : i < l.length) (hp : (l.getD i cD).2.2.1 = false) : makeB ((agK l i l.length).map fun j => (encL l data).getD j []) = (encL l data).getD i [] := by
 obtain ⟨q, hq, hq1, hq2, hq3⟩ := hro i hi hp
 have hqi : q ≠ i := fun e => by rw [e, hp] at hq1; cases hq1
 have hne : agK l i l.length ≠ [] := fun h0 => by
  have : q ∈ agK l i l.length := by
   unfold agK
   exact List.mem_filter.2 ⟨List.mem_range.2 hq, decide_eq_true ⟨hq2, hqi⟩⟩
  rw [h0] at this
  cases this
 have h6 : ∀ s ∈ (agK l i l.length).map fun j => (encL l data).getD j [], s.length = 64 := fun s hs => by
  obtain ⟨k, hk, rfl⟩ := List.mem_map.1 hs
  unfold agK at hk
  exact h64 k (List.mem_range.1 (List.mem_filter.1 hk).1)
 rw [makeB_is (by simpa using hne) h6]
 refine bs_ext (by rw [xorL_length, h64 i hi]) fun b hb => ?_
 rw [xorL_length] at hb
 rw [xorL_getD _ _ _ hb]
 have hz := row_zero hro h64 hi hp hb
 rw [xf_split _ (fun j => decide (j ≠ i))] at hz
 have e1 : xf (fun j => decide ((l.getD j cD).2.2.2 = (l.getD i cD).2.2.2) && !decide (j ≠ i)) (fun j => ((encL l data).getD j []).getD b 0) l.length = ((encL l data).getD i []).getD b 0 := xf_one (f := fun j => ((encL l data).getD j []).getD b 0) hi (fun k hk => by
  by_cases e : k = i
  ·subst e; simp
  ·simp [e])
 rw [e1] at hz
 have e2 : xorAt b (bts ((agK l i l.length).map fun j => (encL l data).getD j [])) = xf (fun j => decide ((l.getD j cD).2.2.2 = (l.getD i cD).2.2.2) && decide (j ≠ i)) (fun j => ((encL l data).getD j []).getD b 0) l.length := by
  unfold agK
  rw [xf_list]
  exact xf_congr fun k hk => ⟨by simp, fun _ => rfl⟩
 rw [e2]
 exact UInt8.xor_eq_zero_iff.1 hz
end
end Go.Proofs.YtfaemcfjbbbbdaaGreat
namespace Go.Proofs.YtfaemcfjbbbbdaaGreat
def parQ (wide : Nat) : Nat → List (Bool × Nat)
 | 0 => []
 | i + 1 => (if i % (wide - 1) = 0 then parQ wide i ++ [(true, i / (wide - 1))] else parQ wide i) ++ [(false, i / (wide - 1))]
theorem parL_Q (first wide at_ : Nat) : ∀ n, (parL first wide at_ n).map (fun c => (c.2.2.1, c.2.2.2)) = parQ wide n
 | 0 => rfl
 | n + 1 => by
  unfold parL parQ
  unfold parS
  rw [List.map_append]
  congr 1
  split
  ·rw [List.map_append, parL_Q]; rfl
  ·exact parL_Q first wide at_ n
def qD : Bool × Nat := (false, 0)
theorem parL_q (first wide at_ n i : Nat) (hi : i < (parL first wide at_ n).length) : ((parL first wide at_ n).getD i cD).2.2.1 = ((parQ wide n).getD i qD).1 ∧ ((parL first wide at_ n).getD i cD).2.2.2 = ((parQ wide n).getD i qD).2 := by
 rw [← parL_Q first wide at_ n]
 simp [List.getD_eq_getElem?_getD, hi]
theorem parQ_len (first wide at_ n : Nat) : (parQ wide n).length = (parL first wide at_ n).length := by rw [← parL_Q first wide at_ n, List.length_map]
def rowQ (l : List (Bool × Nat)) : Bool := (List.range l.length).all fun i => (l.getD i qD).1 || (List.range l.length).any fun q => (l.getD q qD).1 && decide ((l.getD q qD).2 = (l.getD i qD).2) && (List.range l.length).all fun k => !(l.getD k qD).1 || !decide ((l.getD k qD).2 = (l.getD i qD).2) || decide (k = q)
def nearQ (w : Nat) (l : List (Bool × Nat)) : Bool := (List.range l.length).all fun i => (List.range l.length).all fun j => !decide ((l.getD i qD).2 = (l.getD j qD).2) || decide (i < j + w)
theorem rowQ_ok {w n : Nat} (h : 3 ≤ w ∧ w ≤ 8) (hn : n ≤ 4) : rowQ (parQ w n) = true ∧ nearQ w (parQ w n) = true := by
 rcases (by omega : w = 3 ∨ w = 4 ∨ w = 5 ∨ w = 6 ∨ w = 7 ∨ w = 8) with rfl | rfl | rfl | rfl | rfl | rfl <;> rcases (by omega : n = 0 ∨ n = 1 ∨ n = 2 ∨ n = 3 ∨ n = 4) with rfl | rfl | rfl | rfl | rfl <;> exact ⟨by decide, by decide⟩
theorem parL_row {first w at_ n : Nat} (h : 3 ≤ w ∧ w ≤ 8) (hn : n ≤ 4) : RowOk (parL first w at_ n) := by
 intro i hi hp
 have hl := parQ_len first w at_ n
 have hq := (rowQ_ok h hn).1
 unfold rowQ at hq
 rw [List.all_eq_true] at hq
 have h1 := hq i (List.mem_range.2 (by omega))
 obtain ⟨e1, e2⟩ := parL_q first w at_ n i hi
 rw [← e1, hp, Bool.false_or, List.any_eq_true] at h1
 obtain ⟨q, hqm, h2⟩ := h1
 have hql : q < (parL first w at_ n).length := by have := List.mem_range.1 hqm; omega
 simp only [Bool.and_eq_true, decide_eq_true_eq, List.all_eq_true] at h2
 obtain ⟨f1, f2⟩ := parL_q first w at_ n q hql
 refine ⟨q, hql, f1.trans h2.1.1, by rw [f2, e2]; exact h2.1.2, fun k hk k1 k2 => ?_⟩
 have h3 := h2.2 k (List.mem_range.2 (by omega))
 obtain ⟨g1, g2⟩ := parL_q first w at_ n k hk
 rw [← g1, k1, ← g2, ← e2, k2] at h3
 simpa using h3
theorem parL_near {first w at_ n : Nat} (h : 3 ≤ w ∧ w ≤ 8) (hn : n ≤ 4) {i j : Nat} (hi : i < (parL first w at_ n).length) (hj : j < (parL first w at_ n).length) (e : ((parL first w at_ n).getD i cD).2.2.2 = ((parL first w at_ n).getD j cD).2.2.2) : i < j + w := by
 have hl := parQ_len first w at_ n
 have hq := (rowQ_ok h hn).2
 unfold nearQ at hq
 rw [List.all_eq_true] at hq
 have h1 := hq i (List.mem_range.2 (by omega))
 rw [List.all_eq_true] at h1
 have h2 := h1 j (List.mem_range.2 (by omega))
 rw [← (parL_q first w at_ n i hi).2, ← (parL_q first w at_ n j hj).2, e] at h2
 simpa using h2
theorem mod_apart {w i j : Nat} (hw : 0 < w) (h : i ≠ j) (h1 : i < j + w) (h2 : j < i + w) (a : Nat) : (a + i) % w ≠ (a + j) % w := by
 intro e
 have n1 := Nat.mod_add_div (a + i) w
 have n2 := Nat.mod_add_div (a + j) w
 rw [e] at n1
 rcases Nat.lt_trichotomy ((a + i) / w) ((a + j) / w) with h3 | h3 | h3
 ·have : w * ((a + i) / w) + w ≤ w * ((a + j) / w) := by rw [← Nat.mul_succ]; exact Nat.mul_le_mul_left w h3
  omega
 ·rw [h3] at n1; omega
 ·have : w * ((a + j) / w) + w ≤ w * ((a + i) / w) := by rw [← Nat.mul_succ]; exact Nat.mul_le_mul_left w h3
  omega
theorem parL_dev {first w at_ n : Nat} (h : 3 ≤ w ∧ w ≤ 8) (hn : n ≤ 4) {i j : Nat} (hi : i < (parL first w at_ n).length) (hj : j < (parL first w at_ n).length) (e : ((parL first w at_ n).getD i cD).2.2.2 = ((parL first w at_ n).getD j cD).2.2.2) (hij : i ≠ j) : ((parL first w at_ n).getD i cD).1 ≠ ((parL first w at_ n).getD j cD).1 := by
 rw [(parL_pos first w at_ n i hi).1, (parL_pos first w at_ n j hj).1]
 have := mod_apart (show 0 < w by omega) hij (parL_near h hn hi hj e) (parL_near h hn hj hi e.symm) at_
 omega
def catD (l : List ColT) (F : Nat → Bs) (is : List Nat) : Bs := is.flatMap fun i => if (l.getD i cD).2.2.1 = true then [] else F i
theorem dcount_mono (l : List ColT) (k : Nat) : ∀ m, k + m ≤ l.length → dcount l k ≤ dcount l (k + m)
 | 0, _ => Nat.le_refl _
 | m + 1, h => by
  have h1 := dcount_mono l k m (by omega)
  have h2 := dcount_succ l (k + m) (by omega)
  rw [← Nat.add_assoc, h2]
  omega
theorem cat_enc {l : List ColT} {data : List Bs} (hd : data.length = dcount l l.length) : ∀ k, k ≤ l.length → catD l (fun i => (encL l data).getD i []) (List.range k) = (data.take (dcount l k)).flatten
 | 0, _ => by
  have := dcount_le l 0
  rw [show dcount l 0 = 0 by omega]
  rfl
 | k + 1, hk => by
  have ih := cat_enc hd k (by omega)
  unfold catD at ih ⊢
  rw [List.range_succ, List.flatMap_append, ih, dcount_succ l k (by omega)]
  by_cases hp : (l.getD k cD).2.2.1 = true
  ·rw [if_pos hp, Nat.add_zero, List.flatMap_cons, List.flatMap_nil, if_pos hp, List.append_nil, List.append_nil]
  ·have hm := dcount_mono l (k + 1) (l.length - (k + 1)) (by omega)
   rw [dcount_succ l k (by omega), if_neg hp, show k + 1 + (l.length - (k + 1)) = l.length by omega] at hm
   rw [if_neg hp]
   have hlt : dcount l k < data.length := by omega
   rw [List.take_succ_eq_append_getElem hlt, List.flatten_append]
   congr 1
   rw [List.flatMap_cons, List.flatMap_nil, if_neg hp, List.append_nil, List.flatten_singleton]
   dsimp only
   rw [encL_get l data (by omega), if_neg hp, dataL_get data l 0 k (by omega), if_neg hp, Nat.zero_add, Nat.mod_eq_of_lt hlt, List.getD_eq_getElem?_getD, List.getElem?_eq_getElem hlt]
   rfl
theorem withGo_text {l : List ColT} {got : List Bs} {dev : Int} {E : Nat → Bs} : ∀ (is : List Nat) (out : Bs), (∀ i ∈ is, (l.getD i cD).2.2.1 = false → withS l got dev i ≠ [] → withS l got dev i = E i) → withGo l got dev is out = [] ∨ withGo l got dev is out = out ++ catD l E is
 | [], out, _ => .inr (by simp [withGo, catD])
 | i :: r, out, h => by
  by_cases hp : (l.getD i cD).2.2.1 = true
  ·have e : withGo l got dev (i :: r) out = withGo l got dev r out := by
    show (if (l.getD i cD).2.2.1 = true then _ else _) = _
    rw [if_pos hp]
   rw [e]
   have e2 : catD l E (i :: r) = catD l E r := by simp only [catD, List.flatMap_cons, if_pos hp, List.nil_append]
   rw [e2]
   exact withGo_text r out (fun j hj => h j (List.mem_cons_of_mem _ hj))
  ·have hp2 : (l.getD i cD).2.2.1 = false := by simpa using hp
   by_cases hs : withS l got dev i = []
   ·exact .inl (withGo_stop hp2 hs)
   ·rw [withGo_more hp2 hs, h i (List.mem_cons_self ..) hp2 hs]
    have e2 : catD l E (i :: r) = E i ++ catD l E r := by simp only [catD, List.flatMap_cons, if_neg hp]
    rw [e2, ← List.append_assoc]
    exact withGo_text r _ (fun j hj => h j (List.mem_cons_of_mem _ hj))
theorem withGo_all {l : List ColT} {got : List Bs} {dev : Int} {E : Nat → Bs} : ∀ (is : List Nat) (out : Bs), (∀ i ∈ is, (l.getD i cD).2.2.1 = false → withS l got dev i = E i ∧ E i ≠ []) → withGo l got dev is out = out ++ catD l E is
 | [], out, _ => by simp [withGo, catD]
 | i :: r, out, h => by
  by_cases hp : (l.getD i cD).2.2.1 = true
  ·have e : withGo l got dev (i :: r) out = withGo l got dev r out := by
    show (if (l.getD i cD).2.2.1 = true then _ else _) = _
    rw [if_pos hp]
   rw [e]
   have e2 : catD l E (i :: r) = catD l E r := by simp only [catD, List.flatMap_cons, if_pos hp, List.nil_append]
   rw [e2]
   exact withGo_all r out (fun j hj => h j (List.mem_cons_of_mem _ hj))
  ·have hp2 : (l.getD i cD).2.2.1 = false := by simpa using hp
   obtain ⟨h1, h2⟩ := h i (List.mem_cons_self ..) hp2
   rw [withGo_more hp2 (by rw [h1]; exact h2), h1]
   have e2 : catD l E (i :: r) = E i ++ catD l E r := by simp only [catD, List.flatMap_cons, if_neg hp]
   rw [e2, ← List.append_assoc]
   exact withGo_all r _ (fun j hj => h j (List.mem_cons_of_mem _ hj))
def Shown (l : List ColT) (data got : List Bs) : Prop := got.length = l.length ∧ ∀ i, i < l.length → got.getD i [] = [] ∨ got.getD i [] = (encL l data).getD i []
structure BlkL (l : List ColT) (data : List Bs) (t : Bs) : Prop where
 row : RowOk l
 e64 : ∀ i, i < l.length → ((encL l data).getD i []).length = 64
 cat : catD l (fun i => (encL l data).getD i []) (List.range l.length) = t
theorem again_shown {l : List ColT} {data got : List Bs} {t : Bs} (hb : BlkL l data t) (hs : Shown l data got) {i : Nat} (hi : i < l.length) (hp : (l.getD i cD).2.2.1 = false) : (againT l got i = [] ∨ againT l got i = (encL l data).getD i []) ∧ ((∀ j, j < l.length → (l.getD j cD).2.2.2 = (l.getD i cD).2.2.2 → j ≠ i → got.getD j [] = (encL l data).getD j []) → againT l got i = (encL l data).getD i []) := by
 have key : (∀ j, j < l.length → (l.getD j cD).2.2.2 = (l.getD i cD).2.2.2 → j ≠ i → got.getD j [] = (encL l data).getD j []) → againT l got i = (encL l data).getD i [] := fun h => by
  have e : (agK l i l.length).map (fun j => got.getD j []) = (agK l i l.length).map (fun j => (encL l data).getD j []) := List.map_congr_left fun j hj => by
   unfold agK at hj
   obtain ⟨h1, h2⟩ := List.mem_filter.1 hj
   simp only [decide_eq_true_eq] at h2
   exact h j (List.mem_range.1 h1) h2.1 h2.2
  rw [againT_eq, e, again_enc hb.row hb.e64 hi hp, if_neg]
  intro hm
  obtain ⟨j, hj, e0⟩ := List.mem_map.1 hm
  unfold agK at hj
  have := hb.e64 j (List.mem_range.1 (List.mem_filter.1 hj).1)
  rw [e0] at this
  simp at this
 refine ⟨?_, key⟩
 by_cases hx : [] ∈ (agK l i l.length).map (fun j => got.getD j [])
 ·left; rw [againT_eq, if_pos hx]
 ·right
  refine key fun j hj h1 h2 => ?_
  rcases hs.2 j hj with h3 | h3
  ·exact absurd (List.mem_map.2 ⟨j, by unfold agK; exact List.mem_filter.2 ⟨List.mem_range.2 hj, decide_eq_true ⟨h1, h2⟩⟩, h3⟩) hx
  ·exact h3
theorem without_text {l : List ColT} {data got : List Bs} {t : Bs} (hb : BlkL l data t) (hs : Shown l data got) (dev : Int) : withoutT l got dev = [] ∨ withoutT l got dev = t := by
 unfold withoutT
 rcases withGo_text (E := fun i => (encL l data).getD i []) (List.range l.length) [] (fun i hi hp hne => by
  have hi2 := List.mem_range.1 hi
  unfold withS at hne ⊢
  split
  ·rename_i hd
   rw [if_pos hd] at hne
   exact (again_shown hb hs hi2 hp).1.resolve_left hne
  ·rename_i hd
   rw [if_neg hd] at hne
   exact (hs.2 i hi2).resolve_left hne) with h | h
 ·exact .inl h
 ·right; rw [h, List.nil_append, hb.cat]
end Go.Proofs.YtfaemcfjbbbbdaaGreat
namespace Go.Proofs.YtfaemcfjbbbbdaaGreat
theorem blk_parts {t : Bs} (ht : blkOk t = true) : t ≠ [] ∧ t.length % 64 = 0 ∧ t.length ≤ 256 := by
 unfold blkOk at ht
 simpa using ht
theorem secL_pos {t : Bs} (ht : blkOk t = true) : 0 < (secL t).length := by
 obtain ⟨h1, h2, h3⟩ := blk_parts ht
 rw [secL_len]
 have : 0 < t.length := List.length_pos_iff.2 h1
 omega
theorem par_blk {gs : Gs} {secs : Int} {g a : Nat} {t : Bs} (ht : blkOk t = true) (hm : mayC gs secs g a ((t.length / 64 : Nat) : Int) = true) (hk : (gs.getD g (0, 0)).1 ≠ 0) : BlkL (colsL gs g a (t.length / 64)) (secL t) t ∧ (∀ i j, i < (colsL gs g a (t.length / 64)).length → j < (colsL gs g a (t.length / 64)).length → ((colsL gs g a (t.length / 64)).getD i cD).2.2.2 = ((colsL gs g a (t.length / 64)).getD j cD).2.2.2 → i ≠ j → ((colsL gs g a (t.length / 64)).getD i cD).1 ≠ ((colsL gs g a (t.length / 64)).getD j cD).1) := by
 obtain ⟨h1, h2, h3⟩ := blk_parts ht
 obtain ⟨hr, _, hg, hs1, hs4, _⟩ := mayC_spec hm
 have hgr := getD_right hr (show g < gs.length by omega)
 have e : colsL gs g a (t.length / 64) = parL (wsum gs g).toNat (gs.getD g (0, 0)).2.toNat a (t.length / 64) := by unfold colsL; rw [if_neg hk]
 have e64 := encL_64 (l := colsL gs g a (t.length / 64)) (secL_64 h2) (secL_pos ht) (colsL_row gs g a (t.length / 64))
 have hw : 3 ≤ (gs.getD g (0, 0)).2.toNat ∧ (gs.getD g (0, 0)).2.toNat ≤ 8 := by omega
 rw [e] at e64 ⊢
 refine ⟨⟨parL_row hw (by omega), e64, ?_⟩, fun i j hi hj => parL_dev hw (by omega) hi hj⟩
 have hdc : (secL t).length = dcount (parL (wsum gs g).toNat (gs.getD g (0, 0)).2.toNat a (t.length / 64)) (parL (wsum gs g).toNat (gs.getD g (0, 0)).2.toNat a (t.length / 64)).length := by
  unfold dcount
  rw [List.take_length]
  have := parL_data (wsum gs g).toNat (gs.getD g (0, 0)).2.toNat a (t.length / 64)
  unfold dataC at this
  rw [this, secL_len]
 rw [cat_enc hdc _ (Nat.le_refl _), ← hdc, List.take_length, secL_flat h2]
theorem chunk_get {got : List Bs} {k size j : Nat} (hj : j < size) (hl : k * size + j < got.length) : ((got.drop (k * size)).take size)[j]? = some (got.getD (k * size + j) []) := by
 rw [List.getElem?_take_of_lt hj, List.getElem?_drop, List.getD_eq_getElem?_getD, List.getElem?_eq_getElem hl]
 rfl
theorem row_lt {k m size j : Nat} (hk : k < m) (hj : j < size) : k * size + j < m * size := by
 have : (k + 1) * size ≤ m * size := Nat.mul_le_mul_right size hk
 rw [Nat.succ_mul] at this
 omega
theorem mir_chunk {first a size m : Nat} {data got : List Bs} (hd : data.length = size) (hs : Shown (mirL first a size m) data got) {k : Nat} (hk : k < m) (hn : [] ∉ (got.drop (k * size)).take size) : (got.drop (k * size)).take size = data := by
 have hgl : got.length = m * size := by rw [hs.1, mirL_length]
 refine List.ext_getElem? fun j => ?_
 by_cases hj : j < size
 ·have hlt := row_lt hk hj
  have hc := chunk_get (got := got) (k := k) hj (by omega)
  rw [hc, List.getElem?_eq_getElem (show j < data.length by omega)]
  have hne : got.getD (k * size + j) [] ≠ [] := fun e => hn (List.mem_of_getElem? (by rw [hc, e]))
  rcases hs.2 (k * size + j) (by rw [mirL_length]; exact hlt) with h | h
  ·exact absurd h hne
  ·rw [h, enc_mir data hd hlt]
   have e : (k * size + j) % size = j := by rw [Nat.add_comm, Nat.add_mul_mod_self_right, Nat.mod_eq_of_lt hj]
   rw [e, List.getD_eq_getElem?_getD, List.getElem?_eq_getElem (by omega)]
   rfl
 ·rw [List.getElem?_eq_none (by rw [List.length_take]; omega), List.getElem?_eq_none (by omega)]
theorem tries_text {gs : Gs} {secs : Int} {g a : Nat} {t : Bs} {got : List Bs} (ht : blkOk t = true) (hm : mayC gs secs g a ((t.length / 64 : Nat) : Int) = true) (hs : Shown (colsL gs g a (t.length / 64)) (secL t) got) : ∀ q ∈ triesI gs g a (t.length / 64) got, q.2 = t := by
 intro q hq
 unfold triesI at hq
 by_cases hk : (gs.getD g (0, 0)).1 = 0
 ·rw [if_pos hk] at hq
  have e : colsL gs g a (t.length / 64) = mirL (wsum gs g).toNat a (t.length / 64) (gs.getD g (0, 0)).2.toNat := by unfold colsL; rw [if_pos hk]
  rw [e] at hs hq
  unfold mirTo at hq
  obtain ⟨k, hkm, hq2⟩ := List.mem_filterMap.1 hq
  split at hq2
  ·cases hq2
  ·rename_i hn
   have := mir_chunk (secL_len t) hs (List.mem_range.1 hkm) hn
   rw [this, secL_flat (blk_parts ht).2.1] at hq2
   rw [← Option.some.inj hq2]
 ·rw [if_neg hk] at hq
  obtain ⟨d, hd, hq2⟩ := List.mem_filterMap.1 hq
  unfold parF at hq2
  split at hq2
  ·cases hq2
  ·rename_i hn
   rw [← Option.some.inj hq2]
   exact (without_text (par_blk ht hm hk).1 hs d).resolve_left hn
theorem shownL_len (x : DvsT) (g a : Nat) (t : Bs) : (shownL x g a t).length = (colsL x.gs g a (t.length / 64)).length := by
 unfold shownL
 rw [List.length_map, List.length_zip, encL_length, Nat.min_self]
theorem shownL_get (x : DvsT) (g a : Nat) (t : Bs) {i : Nat} (hi : i < (colsL x.gs g a (t.length / 64)).length) : (shownL x g a t).getD i [] = if x.here ((colsL x.gs g a (t.length / 64)).getD i cD).1 = true then (encL (colsL x.gs g a (t.length / 64)) (secL t)).getD i [] else [] := by
 unfold shownL
 have h2 : i < ((colsL x.gs g a (t.length / 64)).zip (encL (colsL x.gs g a (t.length / 64)) (secL t))).length := by rw [List.length_zip, encL_length, Nat.min_self]; exact hi
 have h3 : i < (encL (colsL x.gs g a (t.length / 64)) (secL t)).length := by rw [encL_length]; exact hi
 rw [List.getD_eq_getElem?_getD, List.getElem?_map, List.getElem?_eq_getElem h2, List.getElem_zip]
 simp only [Option.map_some, Option.getD_some]
 rw [List.getD_eq_getElem?_getD, List.getElem?_eq_getElem hi, List.getD_eq_getElem?_getD, List.getElem?_eq_getElem h3]
 rfl
theorem shown_shown (x : DvsT) (g a : Nat) (t : Bs) : Shown (colsL x.gs g a (t.length / 64)) (secL t) (shownL x g a t) := by
 refine ⟨shownL_len x g a t, fun i hi => ?_⟩
 rw [shownL_get x g a t hi]
 split
 ·exact .inr rfl
 ·exact .inl rfl
theorem compactTo_mem (d : Array Int) : ∀ n i, i < n → n ≤ d.size → d[i]! ∈ Lib.compactUpTo d n
 | 0, i, h, _ => by omega
 | n + 1, i, h, hn => by
  rw [Lib.compactUpTo_succ]
  by_cases hi : i < n
  ·exact List.mem_append_left _ (compactTo_mem d n i hi (by omega))
  ·have e : i = n := by omega
   subst e
   by_cases hk : Lib.keeps d i = true
   ·rw [if_pos hk]; exact List.mem_append_right _ (List.mem_singleton.2 rfl)
   ·rw [if_neg hk, List.append_nil]
    unfold Lib.keeps at hk
    simp only [decide_eq_true_eq, not_or, ne_eq, Classical.not_not] at hk
    rw [hk.2]
    exact compactTo_mem d i (i - 1) (by omega) (by omega)
theorem mem_compact {v : Int} {l : List Int} (h : v ∈ l) : v ∈ Lib.compact l := by
 obtain ⟨i, hi, rfl⟩ := List.getElem_of_mem h
 have := compactTo_mem l.toArray l.length i hi (by simp)
 simpa [Lib.compact, hi] using this
theorem devsI_mem {l : List ColT} {d : Nat} (h : ∃ c ∈ l, c.1 = d) : (d : Int) ∈ devsI l := by
 unfold devsI
 refine mem_compact ?_
 rw [List.mem_mergeSort]
 obtain ⟨c, hc, rfl⟩ := h
 exact List.mem_map.2 ⟨c, hc, rfl⟩
theorem tries_some {x : DvsT} (h : x.one) {g a : Nat} {t : Bs} (ht : blkOk t = true) (hm : mayC x.gs x.secs g a ((t.length / 64 : Nat) : Int) = true) : triesI x.gs g a (t.length / 64) (shownL x g a t) ≠ [] := by
 obtain ⟨h1, h2, h3⟩ := blk_parts ht
 obtain ⟨hr, _, hg, hs1, hs4, _⟩ := mayC_spec hm
 have hg' : g < x.gs.length := by omega
 have hgr := getD_right hr hg'
 have e64 := encL_64 (l := colsL x.gs g a (t.length / 64)) (secL_64 h2) (secL_pos ht) (colsL_row x.gs g a (t.length / 64))
 have hne : ∀ {q : Int × Bs}, q ∈ triesI x.gs g a (t.length / 64) (shownL x g a t) → triesI x.gs g a (t.length / 64) (shownL x g a t) ≠ [] := fun hq e => by rw [e] at hq; cases hq
 have hget : ∀ i, i < (colsL x.gs g a (t.length / 64)).length → x.here ((colsL x.gs g a (t.length / 64)).getD i cD).1 = true → (shownL x g a t).getD i [] = (encL (colsL x.gs g a (t.length / 64)) (secL t)).getD i [] := fun i hi hh => by rw [shownL_get x g a t hi, if_pos hh]
 have hsl := shownL_len x g a t
 by_cases hk : (x.gs.getD g (0, 0)).1 = 0
 ·have e : colsL x.gs g a (t.length / 64) = mirL (wsum x.gs g).toNat a (t.length / 64) (x.gs.getD g (0, 0)).2.toNat := by unfold colsL; rw [if_pos hk]
  obtain ⟨k, hkm, hkh⟩ : ∃ k, k < (x.gs.getD g (0, 0)).2.toNat ∧ x.here ((wsum x.gs g).toNat + k) = true := by
   cases h0 : x.here (wsum x.gs g).toNat with
   | true => exact ⟨0, by omega, h0⟩
   | false =>
    have hw := h.wide g (wsum x.gs g).toNat hg' (Nat.le_refl _) (by omega) h0
    refine ⟨1, by omega, ?_⟩
    cases h1 : x.here ((wsum x.gs g).toNat + 1) with
    | true => rfl
    | false =>
     have := h.eq g (wsum x.gs g).toNat ((wsum x.gs g).toNat + 1) hg' (Nat.le_refl _) (by omega) (by omega) (by omega) h0 h1
     omega
  have hcl : (colsL x.gs g a (t.length / 64)).length = (x.gs.getD g (0, 0)).2.toNat * (t.length / 64) := by rw [e, mirL_length]
  refine hne (q := ((((colsL x.gs g a (t.length / 64)).getD (k * (t.length / 64)) cD).1 : Nat), (((shownL x g a t).drop (k * (t.length / 64))).take (t.length / 64)).flatten)) ?_
  unfold triesI
  rw [if_pos hk]
  unfold mirTo
  refine List.mem_filterMap.2 ⟨k, List.mem_range.2 hkm, ?_⟩
  rw [if_neg]
  intro hm0
  obtain ⟨j, hj⟩ := List.getElem?_of_mem hm0
  have hjs : j < t.length / 64 := by
   have := (List.getElem?_eq_some_iff.1 hj).1
   rw [List.length_take] at this
   omega
  have hlt := row_lt hkm hjs
  rw [chunk_get hjs (by omega)] at hj
  have hlt2 : k * (t.length / 64) + j < (colsL x.gs g a (t.length / 64)).length := by omega
  have hdev : ((colsL x.gs g a (t.length / 64)).getD (k * (t.length / 64) + j) cD).1 = (wsum x.gs g).toNat + k := by
   rw [e, mirL_get _ _ _ _ _ hlt]
   dsimp only
   congr 1
   rw [Nat.mul_comm, Nat.mul_add_div (by omega), Nat.div_eq_of_lt hjs, Nat.add_zero]
  have h5 := hget _ hlt2 (by rw [hdev]; exact hkh)
  rw [Option.some.inj hj] at h5
  have h6 := e64 _ hlt2
  rw [← h5] at h6
  simp at h6
 ·obtain ⟨hb, hdv⟩ := par_blk ht hm hk
  have htne : t ≠ [] := h1
  have hrng := fun i (hi : i < (colsL x.gs g a (t.length / 64)).length) => colsL_rng hm hi
  have hfin : ∀ d : Int, d ∈ parD (colsL x.gs g a (t.length / 64)) → (∀ i, i < (colsL x.gs g a (t.length / 64)).length → ((colsL x.gs g a (t.length / 64)).getD i cD).2.2.1 = false → withS (colsL x.gs g a (t.length / 64)) (shownL x g a t) d i = (encL (colsL x.gs g a (t.length / 64)) (secL t)).getD i []) → triesI x.gs g a (t.length / 64) (shownL x g a t) ≠ [] := fun d hd hs => by
   have hw : withoutT (colsL x.gs g a (t.length / 64)) (shownL x g a t) d = t := by
    unfold withoutT
    rw [withGo_all (E := fun i => (encL (colsL x.gs g a (t.length / 64)) (secL t)).getD i []) _ [] (fun i hi hp => ⟨hs i (List.mem_range.1 hi) hp, fun e0 => by
     have := hb.e64 i (List.mem_range.1 hi)
     rw [e0] at this
     simp at this⟩), List.nil_append, hb.cat]
   refine hne (q := (d, t)) ?_
   unfold triesI
   rw [if_neg hk]
   refine List.mem_filterMap.2 ⟨d, hd, ?_⟩
   unfold parF
   rw [hw, if_neg htne]
  by_cases hall : ∀ i, i < (colsL x.gs g a (t.length / 64)).length → ((colsL x.gs g a (t.length / 64)).getD i cD).2.2.1 = false → x.here ((colsL x.gs g a (t.length / 64)).getD i cD).1 = true
  ·refine hfin (-1) (List.mem_cons_self ..) fun i hi hp => ?_
   unfold withS
   rw [if_neg (by omega)]
   exact hget i hi (hall i hi hp)
  ·obtain ⟨i0, hi0⟩ := Classical.not_forall.1 hall
   obtain ⟨hi1, hi2⟩ := Classical.not_imp.1 hi0
   obtain ⟨hp0, hh0⟩ := Classical.not_imp.1 hi2
   have hh1 : x.here ((colsL x.gs g a (t.length / 64)).getD i0 cD).1 = false := by simpa using hh0
   have honly : ∀ i, i < (colsL x.gs g a (t.length / 64)).length → ((colsL x.gs g a (t.length / 64)).getD i cD).1 ≠ ((colsL x.gs g a (t.length / 64)).getD i0 cD).1 → x.here ((colsL x.gs g a (t.length / 64)).getD i cD).1 = true := fun i hi hne2 => by
    cases hh : x.here ((colsL x.gs g a (t.length / 64)).getD i cD).1 with
    | true => rfl
    | false =>
     obtain ⟨r1, r2⟩ := hrng i hi
     obtain ⟨s1, s2⟩ := hrng i0 hi1
     exact absurd (h.eq g _ _ hg' r1 r2 s1 s2 hh hh1) hne2
   refine hfin (((colsL x.gs g a (t.length / 64)).getD i0 cD).1 : Nat) (List.mem_cons_of_mem _ (devsI_mem ⟨(colsL x.gs g a (t.length / 64)).getD i0 cD, ?_, rfl⟩)) fun i hi hp => ?_
   ·unfold dataC
    refine List.mem_filter.2 ⟨?_, by rw [hp0]; rfl⟩
    rw [List.getD_eq_getElem?_getD, List.getElem?_eq_getElem hi1]
    exact List.getElem_mem _
   ·unfold withS
    by_cases hd : ((colsL x.gs g a (t.length / 64)).getD i cD).1 = ((colsL x.gs g a (t.length / 64)).getD i0 cD).1
    ·rw [if_pos (by rw [hd])]
     refine (again_shown hb (shown_shown x g a t) hi hp).2 fun j hj hrow hji => ?_
     exact hget j hj (honly j hj (fun e => hdv j i hj hi hrow hji (e.trans hd.symm)))
    ·rw [if_neg (by omega)]
     exact hget i hi (honly i hi hd)
theorem at_whole {x : DvsT} (h : x.one) {p : PtrT} {g a : Nat} {t : Bs} (ht : blkOk t = true) (hm : mayC x.gs x.secs g a ((t.length / 64 : Nat) : Int) = true) (hp : p.sumIs t = true) (hw : rawX x g a (t.length / 64) = shownL x g a t) : ∃ d, atX x p g a (t.length / 64) = some (d, t) := by
 unfold atX
 rw [hw]
 have h1 := tries_text ht hm (shown_shown x g a t)
 have h2 := tries_some h ht hm
 cases hT : triesI x.gs g a (t.length / 64) (shownL x g a t) with
 | nil => exact absurd hT h2
 | cons q r =>
  have h3 := h1 q (by rw [hT]; exact List.mem_cons_self ..)
  obtain ⟨d, s⟩ := q
  dsimp only at h3
  subst h3
  exact ⟨d, by simp [List.find?, hp]⟩
end Go.Proofs.YtfaemcfjbbbbdaaGreat
namespace Go.Proofs.YtfaemcfjbbbbdaaGreat
open Go.RowKit
theorem wp_app_ptrS {o : Oper} {a : Act} {K : Act → World → Prop} {Q : Exit → Act → World → Prop} {w : World} (s x : Operand)
  (ho : o.op = .call { callee := .builtin .append, args := #[s, x], argTypes := #[58, 58] }) (v : Value) (got : List PtrT) (hs : a.eval s = v) (hown : w.ownsRow 0 49 12 v got.length (encPs got))
  (b c : Nat) (p : PtrT) (hx : a.eval x = .slice (some ⟨b, 0, none⟩) 1 c) (hn : w.rangeAt b 0 (encPtr p)) (hm : got.length ≤ 1000000)
  (h : ∀ v' w', w'.ownsRow 0 49 12 v' (got ++ [p]).length (encPs (got ++ [p])) → w.grownBy w' v.ownBlock → (v'.ownBlock = v.ownBlock ∨ v'.ownBlock = some w.heap.size) → K (a.put o.dst v') w') : Oper.wp Tryz.prog o a w K Q := by
 obtain ⟨i0, hi, hi0, hi1, hi2⟩ := info_parts infoPt
 have e1 : encPs [p] = encPtr p := by simp [encPs]
 obtain ⟨v', w', hr, h2, h3, h4, h5⟩ := run_append_own_at (P := Tryz.prog) w 0 58 o.type 49 i0 (.agg #[.int .i64 0, .int .i64 0, .int .i64 0, .int .i64 0, .bool false, .int .i64 0, .int .i64 0, .int .i64 0, .int .u64 0, .int .u64 0, .int .u64 0, .int .u64 0]) 12 96 Tryz.underlying58 hi hi0 hi1 hi2 rfl (Nat.succ_pos 11)
  v got.length (encPs got) hown ⟨b, 0, none⟩ 1 c (encPs [p]) (encPs_length [p]) (fun j u hj => by rw [Addr.add_mid]; rw [e1] at hj; exact hn j u hj) (encPs_one [p]) (by unfold maxLen; omega) (by omega) (Nat.zero_le _)
 unfold Oper.wp execOp
 simp only [ho, resolve, invoke, builtin, Sem.run_bind, Sem.run_pure, Result.andThen_ok, List.map_toArray, List.map_cons, List.map_nil, hs, hx, hr]
 refine h v' w' ?_ h3 h5
 rw [← encPs_append] at h2
 rw [List.length_append]
 exact h2
theorem IsSto.app {w : World} {sb : Nat} {S : StoT} {V : DvV} {bb d : Nat} {T : Nat → Prop} (h : IsSto w sb S V bb (some d) T) : ∃ bv, Blk w d 102 [.int .i64 (S.fixed : Nat), bv] ∧ w.ownsRow 0 49 12 bv S.born.length (encPs S.born) ∧
  ∀ p v' w1, w1.ownsRow 0 49 12 v' (S.born ++ [p]).length (encPs (S.born ++ [p])) → w.grownBy w1 bv.ownBlock → (v'.ownBlock = bv.ownBlock ∨ v'.ownBlock = some w.heap.size) →
   Blk w1 d 102 [.int .i64 (S.fixed : Nat), bv] ∧ StoStep { S with born := S.born ++ [p] } V sb bb (some d) T w (w1.setCell ⟨d, 1, none⟩ v') := by
 obtain ⟨eb, ms, bv, F, h, hT⟩ := h
 obtain ⟨hd, hrow⟩ := h.don
 refine ⟨bv, hd, hrow, fun p v' w1 ho hg hat => ?_⟩
 have hty : ∀ g, bv.ownBlock = some g → ∃ cs fr, w.heap[g]? = some (Obj.cells cs 49 fr) := fun g hg => own_type hrow hg
 have keep1 : ∀ {k : Nat} {cs : Array Value} {e : Nat} {fr : Nat × Nat}, w.heap[k]? = some (Obj.cells cs e fr) → e ≠ 49 → w1.heap[k]? = some (Obj.cells cs e fr) := fun {k cs e fr} hk he => by
  rw [hg.block k (Array.getElem?_eq_some_iff.1 hk).1 (fun e2 => by
   obtain ⟨c2, f2, h2⟩ := hty k e2.symm
   rw [hk] at h2
   simp only [Option.some.injEq, Obj.cells.injEq] at h2
   exact he h2.2.1)]
  exact hk
 have hd1 : Blk w1 d 102 [.int .i64 (S.fixed : Nat), bv] := keep1 hd (by decide)
 have hs1 : Blk w1 sb 41 (stoC V S bb (some d)) := keep1 h.blk (by decide)
 have hne : sb ≠ d := fun e => by
  subst e
  have h1 := h.blk
  have h2 := hd
  unfold Blk at h1 h2
  rw [h1] at h2
  simp only [Option.some.injEq, Obj.cells.injEq] at h2
  exact absurd h2.2.1 (by decide)
 have set1 : ∀ {k : Nat}, k ≠ d → (w1.setCell ⟨d, 1, none⟩ v').heap[k]? = w1.heap[k]? := fun {k} hk => Below.heap_setCell _ _ _ _ hk
 have hnd : ∀ {k : Nat} {cs : Array Value} {e : Nat} {fr : Nat × Nat}, w.heap[k]? = some (Obj.cells cs e fr) → e ≠ 102 → k ≠ d := fun {k cs e fr} hk he e2 => by
  subst e2
  have h2 := hd
  unfold Blk at h2
  rw [hk] at h2
  simp only [Option.some.injEq, Obj.cells.injEq] at h2
  exact he h2.2.1
 have hnd1 : ∀ {k : Nat} {cs : Array Value} {e : Nat} {fr : Nat × Nat}, w1.heap[k]? = some (Obj.cells cs e fr) → e ≠ 102 → k ≠ d := fun {k cs e fr} hk he e2 => by
  subst e2
  have h2 := hd1
  unfold Blk at h2
  rw [hk] at h2
  simp only [Option.some.injEq, Obj.cells.injEq] at h2
  exact he h2.2.1
 have hnF : ∀ g, F g → ¬ bv.ownBlock = some g ∧ g ≠ d := fun g hf => ⟨fun e => by
  obtain ⟨c2, f2, h2⟩ := hty g e
  rcases h.dvs.type g hf _ _ _ h2 with e1 | e1 | e1 | e1 | e1 <;> exact absurd e1 (by decide), fun e => by
  subst e
  rcases h.dvs.type g hf _ _ _ hd with e1 | e1 | e1 | e1 | e1 <;> exact absurd e1 (by decide)⟩
 have hrow2 : (w1.setCell ⟨d, 1, none⟩ v').ownsRow 0 49 12 v' (S.born ++ [p]).length (encPs (S.born ++ [p])) := own_keep ho (fun g hg2 => by
  obtain ⟨c2, f2, h2⟩ := own_type ho hg2
  exact set1 (hnd1 h2 (by decide)))
 refine ⟨hd1, stoF sb bb eb ms (some d) v' F, ⟨eb, ms, v', F, ⟨?_, ?_, ?_, h.sn, ?_, hrow2⟩, fun k => Iff.rfl⟩, ?_, ?_⟩
 ·exact hs1.other (a := ⟨d, 1, none⟩) hne _
 ·exact h.dvs.keep (fun g hf => by
   rw [set1 (hnF g hf).2, hg.block g (h.dvs.lt g hf) (fun e => (hnF g hf).1 e.symm)])
 ·refine h.bok.typed (fun g cs e fr hg2 he => ?_)
  have e1 : e ≠ 49 := by rcases he with e3 | e3 | e3 | e3 | e3 | e3 <;> rw [e3] <;> decide
  have e2 : e ≠ 102 := by rcases he with e3 | e3 | e3 | e3 | e3 | e3 <;> rw [e3] <;> decide
  rw [set1 (hnd hg2 e2)]
  exact keep1 hg2 e1
 ·exact hd1.setCell 1 v'
 ·have m1 : Mod T w w1 := mod_grown hg (fun g e => (hT g).2 (.inr (.inr (.inr (.inr e)))))
  exact m1.setCell (.inl ((hT d).2 (.inr (.inr (.inr (.inl rfl))))))
 ·rintro k (h1 | h1 | h1 | h1 | h1)
  ·exact .inl ((hT k).2 (.inl h1))
  ·exact .inl ((hT k).2 (.inr (.inl h1)))
  ·exact .inl ((hT k).2 (.inr (.inr (.inl h1))))
  ·exact .inl ((hT k).2 (.inr (.inr (.inr (.inl h1)))))
  ·rcases hat with h2 | h2
   ·exact .inl ((hT k).2 (.inr (.inr (.inr (.inr (h2 ▸ h1))))))
   ·rw [h2] at h1
    exact .inr (by have := Option.some.inj h1; omega)
theorem work_any2 {w : World} {sb : Nat} {S : StoT} {V : DvV} {bb : Nat} {dn : Option Nat} {T : Nat → Prop} (h : IsSto w sb S V bb dn T) :
  Calls Tryz.prog 37 #[.pointer (some ⟨sb, 0, none⟩)] w fun e w' => ∃ d, e = .returned (.pointer (some ⟨d, 0, none⟩)) ∧ StoStep S V sb bb (some d) T w w' ∧ (∀ d0, dn = some d0 → d = d0) := by
 cases dn with
 | some d => exact (work_some h).mono (fun e w' h1 => ⟨d, h1.1, by rw [h1.2]; exact h.stay (Below.refl _ _), fun d0 e => Option.some.inj e⟩)
 | none => exact (work_any h).mono (fun e w' ⟨d, h1, h2⟩ => ⟨d, h1, h2, (fun d0 e => by cases e)⟩)
theorem IsSto.app2 {w : World} {sb : Nat} {S : StoT} {V : DvV} {bb d : Nat} {T : Nat → Prop} (h : IsSto w sb S V bb (some d) T) {bv : Value} (hb : Blk w d 102 [.int .i64 (S.fixed : Nat), bv]) : w.ownsRow 0 49 12 bv S.born.length (encPs S.born) ∧ T d ∧ (∀ g, bv.ownBlock = some g → T g) ∧
  ∀ p v' w1, w1.ownsRow 0 49 12 v' (S.born ++ [p]).length (encPs (S.born ++ [p])) → w.grownBy w1 bv.ownBlock → (v'.ownBlock = bv.ownBlock ∨ v'.ownBlock = some w.heap.size) →
   Blk w1 d 102 [.int .i64 (S.fixed : Nat), bv] ∧ StoStep { S with born := S.born ++ [p] } V sb bb (some d) T w (w1.setCell ⟨d, 1, none⟩ v') := by
 obtain ⟨bv2, h1, h2, h3⟩ := h.app
 have e : bv2 = bv := by
  unfold Blk at h1 hb
  rw [h1] at hb
  simp only [Option.some.injEq, Obj.cells.injEq] at hb
  simpa using hb.1
 subst e
 obtain ⟨eb, ms, bv3, F, hv, hT⟩ := h
 have e3 : bv3 = bv2 := by
  have h4 := hv.don.1
  unfold Blk at h1 h4
  rw [h1] at h4
  simp only [Option.some.injEq, Obj.cells.injEq] at h4
  simpa using h4.1.symm
 subst e3
 exact ⟨h2, (hT d).2 (.inr (.inr (.inr (.inl rfl)))), fun g hg => (hT g).2 (.inr (.inr (.inr (.inr hg)))), h3⟩
theorem IsSto.done {w : World} {sb : Nat} {S : StoT} {V : DvV} {bb d : Nat} {T : Nat → Prop} (h : IsSto w sb S V bb (some d) T) : ∃ bv, Blk w d 102 [.int .i64 (S.fixed : Nat), bv] := by
 obtain ⟨bv, h1, _⟩ := h.app
 exact ⟨bv, h1⟩
def mkPt (t : Bs) (level txg : Int) (l : List (Nat × Nat)) : PtrT :=
 ⟨((l.getD 0 (0, 0)).1 : Nat), ((l.getD 0 (0, 0)).2 : Nat), ((l.getD 1 (0, 0)).1 : Nat), ((l.getD 1 (0, 0)).2 : Nat), decide (1 < l.length), ((t.length / 64 : Nat) : Int), level, txg, ((sumF t).1 : Nat), ((sumF t).2.1 : Nat), ((sumF t).2.2.1 : Nat), ((sumF t).2.2.2 : Nat)⟩
structure PutR where
 p : PtrT
 err : Nat
 s : StoT
def putOk (S : StoT) (t : Bs) (level : Int) : Bool := blkOk t && decide (0 ≤ level ∧ level ≤ 3 ∧ 1 ≤ S.txg ∧ S.txg ≤ 4294967295)
noncomputable def putR (S : StoT) (t : Bs) (level : Int) : PutR :=
 if putOk S t level = false then ⟨pD, 1, S⟩
 else if (plcX S ((t.length / 64 : Nat) : Int) level).err ≠ 0 then ⟨pD, (plcX S ((t.length / 64 : Nat) : Int) level).err, { S with sn := (plcX S ((t.length / 64 : Nat) : Int) level).sn, es := (plcX S ((t.length / 64 : Nat) : Int) level).es }⟩
 else ⟨mkPt t level S.txg (plcX S ((t.length / 64 : Nat) : Int) level).l, 0, { S with sn := (plcX S ((t.length / 64 : Nat) : Int) level).sn, es := (plcX S ((t.length / 64 : Nat) : Int) level).es, x := putsL t (plcX S ((t.length / 64 : Nat) : Int) level).l S.x, born := S.born ++ [mkPt t level S.txg (plcX S ((t.length / 64 : Nat) : Int) level).l] }⟩
theorem plc_len (S : StoT) (size level : Int) (h : (plcX S size level).err = 0) : (plcX S size level).l.length = 1 ∨ (plcX S size level).l.length = 2 := by
 unfold plcX at h ⊢
 split
 ·rename_i h1; rw [if_pos h1] at h; exact absurd h (by simp)
 ·split
  ·split
   ·exact .inr rfl
   ·exact .inl rfl
  ·exact .inl rfl
end Go.Proofs.YtfaemcfjbbbbdaaGreat
namespace Go.Proofs.YtfaemcfjbbbbdaaGreat
def Whole (x : DvsT) (g a : Nat) (t : Bs) : Prop := rawX x g a (t.length / 64) = shownL x g a t
theorem shownL_kept {x y : DvsT} (k : Kept x y) (g a : Nat) (t : Bs) : shownL y g a t = shownL x g a t := by
 unfold shownL
 rw [k.gs]
 exact List.map_congr_left fun q _ => by rw [k.here]
theorem write_puts {x : DvsT} (hr : x.right = true) {g a : Nat} {t : Bs} (ht : blkOk t = true) (hm : mayC x.gs x.secs (g : Nat) (a : Nat) ((t.length / 64 : Nat) : Int) = true) : (writeX x g a t).2.2 = (putsX x ((colsL x.gs g a (t.length / 64)).zip (encL (colsL x.gs g a (t.length / 64)) (secL t))) []).2 := by
 obtain ⟨f, x', hp⟩ : ∃ f x', putsX x ((colsL x.gs g a (t.length / 64)).zip (encL (colsL x.gs g a (t.length / 64)) (secL t))) [] = (f, x') := ⟨_, _, rfl⟩
 rw [writeX_eq hr ht hm hp, hp]
theorem write_kep {x : DvsT} (hr : x.right = true) {g a : Nat} {t : Bs} (ht : blkOk t = true) (hm : mayC x.gs x.secs (g : Nat) (a : Nat) ((t.length / 64 : Nat) : Int) = true) : Kept x (writeX x g a t).2.2 := by
 rw [write_puts hr ht hm]
 exact putsX_kep _ x [] (fun c hc => (zip_fits hr ht hm c hc).1)
theorem whole_write {x : DvsT} (hcm : x.calm) (hr : x.right = true) {g a : Nat} {t : Bs} (ht : blkOk t = true) (hm : mayC x.gs x.secs (g : Nat) (a : Nat) ((t.length / 64 : Nat) : Int) = true) : Whole (writeX x g a t).2.2 g a t := by
 unfold Whole
 rw [raw_write hcm hr ht hm, shownL_kept (write_kep hr ht hm)]
theorem cols_mem {gs : Gs} {g a size : Nat} {c : ColT} (h : c ∈ colsL gs g a size) : ∃ i, i < (colsL gs g a size).length ∧ c = (colsL gs g a size).getD i cD := by
 obtain ⟨i, hi, rfl⟩ := List.getElem_of_mem h
 exact ⟨i, hi, by simp [List.getD_eq_getElem?_getD, hi]⟩
theorem whole_other {x : DvsT} (hr : x.right = true) {g a g2 a2 : Nat} {t t2 : Bs} (h : Whole x g a t) (hm1 : mayC x.gs x.secs (g : Nat) (a : Nat) ((t.length / 64 : Nat) : Int) = true) (ht : blkOk t2 = true) (hm : mayC x.gs x.secs (g2 : Nat) (a2 : Nat) ((t2.length / 64 : Nat) : Int) = true) (hd : Dis (stOf x.gs x.secs ((t.length / 64 : Nat) : Int) (g, a)) (stOf x.gs x.secs ((t2.length / 64 : Nat) : Int) (g2, a2))) : Whole (writeX x g2 a2 t2).2.2 g a t := by
 have k := write_kep hr ht hm
 unfold Whole at h ⊢
 rw [shownL_kept k, ← h]
 unfold rawX
 rw [k.gs]
 refine List.map_congr_left fun c hc => ?_
 obtain ⟨i, hi, rfl⟩ := cols_mem hc
 rw [write_puts hr ht hm]
 refine cols_put_other _ x [] _ (fun q hq => (zip_fits hr ht hm q hq).1) fun q hq => ?_
 obtain ⟨j, hj, e⟩ := cols_mem (List.of_mem_zip (a := q.1) (b := q.2) hq).1
 rw [e]
 rintro ⟨e1, e2⟩
 exact cols_apart hm1 hm hd hi hj ⟨e1.symm, e2.symm⟩
theorem mend_whole {x : DvsT} (hr : x.right = true) {g a : Nat} {t : Bs} (h : Whole x g a t) (ht : blkOk t = true) (hm : mayC x.gs x.secs (g : Nat) (a : Nat) ((t.length / 64 : Nat) : Int) = true) : mendX x g a t (badX x g a t) = (0, x) := by
 rw [mendX_eq hr ht hm]
 have hb : ∀ i ∈ badX x g a t, i < (colsL x.gs g a (t.length / 64)).length ∧ x.here ((colsL x.gs g a (t.length / 64)).getD i cD).1 = false := fun i hi => by
  have h1 := (badX_spec hm).1 i hi
  refine ⟨h1, ?_⟩
  unfold badX badK at hi
  have h2 := (List.mem_filter.1 hi).2
  simp only [decide_eq_true_eq] at h2
  rw [show rawX x g a (t.length / 64) = shownL x g a t from h, shownL_get x g a t h1] at h2
  cases hh : x.here ((colsL x.gs g a (t.length / 64)).getD i cD).1 with
  | false => rfl
  | true => rw [if_pos hh] at h2; exact absurd rfl h2
 generalize badX x g a t = bl at hb
 have key : ∀ (bl : List Nat) (n : Nat), (∀ i ∈ bl, i < (colsL x.gs g a (t.length / 64)).length ∧ x.here ((colsL x.gs g a (t.length / 64)).getD i cD).1 = false) → mendsX (colsL x.gs g a (t.length / 64)) (encL (colsL x.gs g a (t.length / 64)) (secL t)) x bl n = (n, x) := by
  intro bl
  induction bl with
  | nil => intro n _; rfl
  | cons i r ih =>
   intro n hb
   obtain ⟨h1, h2⟩ := hb i (List.mem_cons_self ..)
   unfold mendsX
   rw [if_pos h1, putX_no h2]
   exact ih n (fun j hj => hb j (List.mem_cons_of_mem _ hj))
 exact key bl 0 hb
theorem mended_whole {x : DvsT} (hr : x.right = true) {t : Bs} (ht : blkOk t = true) : ∀ (l : List (Int × Int)) (n : Nat), (∀ q ∈ l, Whole x q.1.toNat q.2.toNat t ∧ mayC x.gs x.secs ((q.1.toNat : Nat) : Int) ((q.2.toNat : Nat) : Int) ((t.length / 64 : Nat) : Int) = true) → mendedL t l x n = (n, x)
 | [], n, _ => rfl
 | q :: r, n, h => by
  obtain ⟨h1, h2⟩ := h q (List.mem_cons_self ..)
  unfold mendedL
  rw [mend_whole hr h1 ht h2]
  exact mended_whole hr ht r n (fun p hp => h p (List.mem_cons_of_mem _ hp))
structure PWhole (x : DvsT) (p : PtrT) (t : Bs) : Prop where
 blk : blkOk t = true
 size : p.size = ((t.length / 64 : Nat) : Int)
 sum : p.sumIs t = true
 right : ptrRight x.gs x.secs p = true
 ok : p.ok
 whole : ∀ q ∈ plL p, Whole x q.1.toNat q.2.toNat t
theorem PWhole.may {x : DvsT} {p : PtrT} {t : Bs} (h : PWhole x p t) : ∀ q ∈ plL p, mayC x.gs x.secs ((q.1.toNat : Nat) : Int) ((q.2.toNat : Nat) : Int) ((t.length / 64 : Nat) : Int) = true := fun q hq => by
 have hp := plL_ok h.right q hq
 rw [← h.size, Int.toNat_of_nonneg hp.g, Int.toNat_of_nonneg hp.a]
 exact hp.may
theorem PWhole.look {x : DvsT} {p : PtrT} {t : Bs} (h : PWhole x p t) (ho : x.one) : ∃ d, lookX x p = some (0, d, t) := by
 obtain ⟨q, r, e⟩ : ∃ q r, plL p = q :: r := by unfold plL; split <;> exact ⟨_, _, rfl⟩
 have hq : q ∈ plL p := by rw [e]; exact List.mem_cons_self ..
 have hs : p.size.toNat = t.length / 64 := by rw [h.size, Int.toNat_natCast]
 obtain ⟨d, hd⟩ := at_whole ho h.blk (h.may q hq) h.sum (h.whole q hq)
 refine ⟨d, ?_⟩
 unfold lookX
 rw [e]
 unfold lookL
 rw [hs, hd]
theorem PWhole.mended {x : DvsT} {p : PtrT} {t : Bs} (h : PWhole x p t) (hr : x.right = true) (m n : Nat) : mendedL t ((plL p).take m) x n = (n, x) :=
 mended_whole hr h.blk _ n (fun q hq => ⟨h.whole q (List.mem_of_mem_take hq), h.may q (List.mem_of_mem_take hq)⟩)
structure StOk (S : StoT) (L : List St) (K : Nat) : Prop where
 one : S.x.one
 fits : S.x.fits
 deep : S.x.deep K
 inv : Inv S.x.gs S.x.secs S.sn S.es
 cov : Cov S.x.gs S.x.secs S.sn L
theorem getA_no {gs : Gs} {secs : Int} {sn : SN} {es : List Nat} {size : Int} {two : Bool} (h1 : 1 ≤ size) (h2 : size ≤ 4) (h : (getA gs secs sn es size two).err ≠ 0) : getA gs secs sn es size two = ⟨(0, 0), (0, 0), 8, sn, es⟩ := by
 unfold getA at h ⊢
 rw [if_pos ⟨h1, h2⟩] at h ⊢
 cases h0 : oneA gs secs sn es size (-1) with
 | none => rfl
 | some x =>
  rw [h0] at h
  dsimp only at h ⊢
  cases two with
  | false => rw [if_neg (by decide)] at h; exact absurd rfl h
  | true =>
   rw [if_pos rfl] at h ⊢
   cases h3 : oneA gs secs (putS gs secs sn size x) (putE gs secs es size x) size (x.1 : Nat) with
   | none => rfl
   | some y => rw [h3] at h; exact absurd rfl h
theorem plc1_spec {S : StoT} {L : List St} {K : Nat} (h : StOk S L K) {size : Int} (h1 : 1 ≤ size) (h2 : size ≤ 4) :
  ((plc1 S.x.gs S.x.secs S.sn S.es size).err = 8 ∧ (plc1 S.x.gs S.x.secs S.sn S.es size).sn = S.sn ∧ (plc1 S.x.gs S.x.secs S.sn S.es size).es = S.es) ∨
  ((plc1 S.x.gs S.x.secs S.sn S.es size).err = 0 ∧ Inv S.x.gs S.x.secs (plc1 S.x.gs S.x.secs S.sn S.es size).sn (plc1 S.x.gs S.x.secs S.sn S.es size).es ∧ Cov S.x.gs S.x.secs (plc1 S.x.gs S.x.secs S.sn S.es size).sn (L ++ (plc1 S.x.gs S.x.secs S.sn S.es size).l.map (stOf S.x.gs S.x.secs size)) ∧ ∃ p q two, (plc1 S.x.gs S.x.secs S.sn S.es size).l = plN (mkP p q two size) ∧ ptrRight S.x.gs S.x.secs (mkP p q two size) = true ∧ (two = false → q = (0, 0)) ∧ two = false) := by
 unfold plc1
 dsimp only
 rcases h.inv.rightGet h.cov size false with ⟨he, _⟩ | ⟨he, _, _, hc, _, hq⟩
 ·rw [getA_no h1 h2 he]
  exact .inl ⟨rfl, rfl, rfl⟩
 ·refine .inr ⟨he, h.inv.get size false, ?_, (getA S.x.gs S.x.secs S.sn S.es size false).p, (0, 0), false, ?_, ?_, fun _ => rfl, rfl⟩
  ·simpa [strs] using hc
  ·rw [plN_mk]; simp
  ·have := Cov.right h.inv.right h1 h2 hc hq
   rw [hq rfl] at this
   exact this
theorem plc_spec {S : StoT} {L : List St} {K : Nat} (h : StOk S L K) {size level : Int} (h1 : 1 ≤ size) (h2 : size ≤ 4) :
  ((plcX S size level).err = 8 ∧ (plcX S size level).sn = S.sn ∧ (plcX S size level).es = S.es) ∨
  ((plcX S size level).err = 0 ∧ Inv S.x.gs S.x.secs (plcX S size level).sn (plcX S size level).es ∧ Cov S.x.gs S.x.secs (plcX S size level).sn (L ++ (plcX S size level).l.map (stOf S.x.gs S.x.secs size)) ∧ ∃ p q two, (plcX S size level).l = plN (mkP p q two size) ∧ ptrRight S.x.gs S.x.secs (mkP p q two size) = true ∧ (two = false → q = (0, 0)) ∧ (two = true → 0 < level ∨ S.mt = true)) := by
 unfold plcX
 split
 ·exact .inl ⟨rfl, rfl, rfl⟩
 ·split
  ·rename_i hlev
   split
   ·rename_i he0
    rcases h.inv.rightGet h.cov size true with ⟨he, _⟩ | ⟨he, _, _, hc, _, hq⟩
    ·exact absurd he0 he
    ·refine .inr ⟨rfl, h.inv.get size true, ?_, (getA S.x.gs S.x.secs S.sn S.es size true).p, (getA S.x.gs S.x.secs S.sn S.es size true).q, true, ?_, Cov.right h.inv.right h1 h2 hc hq, hq, fun _ => hlev⟩
     ·simpa [strs] using hc
     ·rw [plN_mk]; simp
   ·rename_i he0
    rw [getA_no h1 h2 he0]
    rcases plc1_spec h h1 h2 with ⟨a1, a2, a3⟩ | ⟨a1, a2, a3, p, q, two, a4, a5, a6, a7⟩
    ·exact .inl ⟨a1, a2, a3⟩
    ·exact .inr ⟨a1, a2, a3, p, q, two, a4, a5, a6, fun e => by rw [a7] at e; cases e⟩
  ·rcases plc1_spec h h1 h2 with ⟨a1, a2, a3⟩ | ⟨a1, a2, a3, p, q, two, a4, a5, a6, a7⟩
   ·exact .inl ⟨a1, a2, a3⟩
   ·exact .inr ⟨a1, a2, a3, p, q, two, a4, a5, a6, fun e => by rw [a7] at e; cases e⟩
theorem mkPt_eq (t : Bs) (level txg : Int) (p q : Nat × Nat) (two : Bool) (hq : two = false → q = (0, 0)) : mkPt t level txg (plN (mkP p q two ((t.length / 64 : Nat) : Int))) = ⟨p.1, p.2, q.1, q.2, two, ((t.length / 64 : Nat) : Int), level, txg, ((sumF t).1 : Nat), ((sumF t).2.1 : Nat), ((sumF t).2.2.1 : Nat), ((sumF t).2.2.2 : Nat)⟩ := by
 rw [plN_mk]
 cases two
 ·rw [hq rfl]; simp [mkPt]
 ·simp [mkPt]
end Go.Proofs.YtfaemcfjbbbbdaaGreat
namespace Go.Proofs.YtfaemcfjbbbbdaaGreat
open Go.RowKit
theorem wp_storeDs {dst : Option Tmp} {x y : Operand} {ty : TypeId} {pos : String} {after : Array Edge} {guard : Option (Nat × Bool)} {a : Act} {w : World} {next : Act → World → Prop} {Q : Exit → Act → World → Prop} :
  Oper.wp Tryz.prog ⟨dst, .store 37 x y, ty, pos, after, guard⟩ a w next Q = StoreW Tryz.prog ⟨dst, .store 37 x y, ty, pos, after, guard⟩ 37 (a.eval x) (a.eval y) a w next Q := rfl
attribute [local go_sem ↓] wp_loadCo wp_storeCo wp_loadDs wp_storeDs wp_loadGr wp_storeGr
theorem iszGe2 : (Tryz.prog.info? 24).map (·.size) = some 2 := by kernel_rfl
theorem infoB1 : (Tryz.prog.info? 4).map (fun i => (i.zero, i.size, i.bytes)) = some (some (.bool false), 1, 1) := by kernel_rfl
theorem infoPD : (Tryz.prog.info? 76).map (fun i => (i.zero, i.size, i.bytes)) = some (some (.pointer none), 1, 8) := by kernel_rfl
theorem make_bools (n : Nat) (hn : n ≤ 1000000) (w : World) : (Instr.makeSlice 29 (.int .i64 (n : Int)) (.int .i64 (n : Int))).run Tryz.prog w = .ok (.slice (some ⟨w.heap.size, 0, none⟩) n n) (w.alloc (.cells (boolsV (List.replicate n false)).toArray 4)) := by
 obtain ⟨i0, hi, hi0, hi1, hi2⟩ := info_parts infoB1
 have := run_make (P := Tryz.prog) w 29 4 i0 (.bool false) Tryz.underlying29 hi hi0 .i64 .i64 (n : Int) (n : Int) (by omega) (by omega) (by rw [hi2]; omega) (by omega)
 rw [this, hi1]
 simp only [Int.toNat_natCast]
 have e : (madeCells (Value.bool false).cells (n * 1)).toList = boolsV (List.replicate n false) := by
  rw [Nat.mul_one, boolsV, List.map_replicate]
  exact toList_madeCells_one _ _
 rw [← e]
theorem devsN_bd {gs : Gs} {secs : Int} (hr : rightB gs secs = true) : devsN gs ≤ 32 := by
 have h1 := (wsum_bd hr gs.length (Nat.le_refl _)).2
 have h2 := (rightB_spec hr).2.1
 unfold devsN
 omega
theorem ptrsD_one (l : Nat) : ∀ u ∈ ptrsD [l], u.oneCell' = true := by simp [ptrsD, Value.oneCell']
theorem ptrsD_append (a b : List Nat) : ptrsD (a ++ b) = ptrsD a ++ ptrsD b := by simp [ptrsD]
theorem dvs_ones4 (s1 s2 s3 : Option Addr) (n1 c1 n2 c2 n3 c3 : Nat) (z : Int) : ∀ u ∈ [Value.slice s1 n1 c1, .int .i64 z, .slice s2 n2 c2, .slice s3 n3 c3], u.oneCell' = true := by
 intro u hu
 simp only [List.mem_cons, List.not_mem_nil, or_false] at hu
 rcases hu with rfl | rfl | rfl | rfl <;> rfl
theorem results_dvs {fn : Func} {p u : Tmp} (h : fn.results = #[.cell p 37, .tmp u]) (tmps : Array Value) (w : World) (g : Nat) (a b c d : Value)
  (hp : tmps.getD p undef = .pointer (some ⟨g, 0, none⟩)) (hg : Blk w g 37 [a, b, c, d]) :
  (results fn tmps).run Tryz.prog w = .ok (.tuple #[.agg #[a, b, c, d], tmps.getD u undef]) w := by
 have hp' : tmps[p]?.getD undef = .pointer (some ⟨g, 0, none⟩) := by simpa using hp
 have e1 := run_loadVar_mid (P := Tryz.prog) w g 0 37 [a, b, c, d] _ (fun j v hv => by rw [Nat.zero_add, hg.cell, hv]) Tryz.underlying37 rfl iszDsM
 simp [results, h, hp', asAddr, e1]
theorem own_set {w : World} {b e k n g e2 : Nat} {v : Value} {xs cs ds : List Value} (h : w.ownsRow b e k v n xs) (hb : Blk w g e2 cs) (he : e ≠ e2) : (w.setCells g 0 ds).ownsRow b e k v n xs :=
 own_keep h (fun g' hg' => (setCells_grown g ds w 0).block g' (h.lt g' hg').2 (fun e3 => by
  have e4 := Option.some.inj e3
  subst e4
  exact row_nblk h hb he hg'))
def freshX (gs : Gs) (secs : Int) (sz : Nat) : DvsT := ⟨gs, secs, List.replicate (devsN gs) (freshD sz 0), List.replicate (devsN gs) false⟩
structure VnK (w : World) (ga : Option Addr) (gc n : Nat) (gs : Gs) (secs : Int) (N sz : Nat) (vg va : Value) (k : Nat) (dbs : List Nat) (Fd : Nat → Nat → Prop) (wr : World) : Prop where
 geo : Blk wr w.heap.size 24 [.slice ga n gc, .int .i64 secs]
 res : Blk wr (w.heap.size + 1) 37 [.slice none 0 0, .int .i64 0, .slice none 0 0, .slice none 0 0]
 grp : wr.ownsRow 0 31 2 vg n (encG gs)
 awy : wr.ownsRow 0 4 1 va N (boolsV (List.replicate N false))
 dl : dbs.length = k
 dev : ∀ i, i < k → IsDev wr (dbs.getD i 0) (freshD sz 0) (Fd i)
 dj : ∀ i j g, i < k → j < k → i ≠ j → Fd i g → ¬ Fd j g
 dn : ∀ i g, i < k → Fd i g → w.heap.size ≤ g
 gn : ∀ g, vg.ownBlock = some g → w.heap.size ≤ g
 an : ∀ g, va.ownBlock = some g → w.heap.size ≤ g
 bel : Below w.heap.size w wr
def vnB (w : World) (vg va : Value) (k : Nat) (Fd : Nat → Nat → Prop) (g : Nat) : Prop := g = w.heap.size ∨ g = w.heap.size + 1 ∨ vg.ownBlock = some g ∨ va.ownBlock = some g ∨ ∃ i, i < k ∧ Fd i g
section
variable {w : World} {ga : Option Addr} {gc n : Nat} {gs : Gs} {secs : Int} {N sz : Nat} {vg va : Value} {k : Nat} {dbs : List Nat} {Fd : Nat → Nat → Prop} {wr wd : World}
theorem VnK.keep (h : VnK w ga gc n gs secs N sz vg va k dbs Fd wr) (hk : ∀ g, vnB w vg va k Fd g → wd.heap[g]? = wr.heap[g]?) (hb : Below w.heap.size w wd) : VnK w ga gc n gs secs N sz vg va k dbs Fd wd := by
 refine ⟨?_, ?_, own_keep h.grp (fun g hg => hk g (.inr (.inr (.inl hg)))), own_keep h.awy (fun g hg => hk g (.inr (.inr (.inr (.inl hg))))), h.dl, fun i hi => (h.dev i hi).keep (fun g hg => hk g (.inr (.inr (.inr (.inr ⟨i, hi, hg⟩))))), h.dj, h.dn, h.gn, h.an, hb⟩
 ·unfold Blk; rw [hk _ (.inl rfl)]; exact h.geo
 ·unfold Blk; rw [hk _ (.inr (.inl rfl))]; exact h.res
theorem VnK.lt (h : VnK w ga gc n gs secs N sz vg va k dbs Fd wr) : ∀ g, vnB w vg va k Fd g → g < wr.heap.size := by
 rintro g (rfl | rfl | h1 | h1 | ⟨i, hi, h1⟩)
 ·exact h.geo.lt
 ·exact h.res.lt
 ·exact (h.grp.lt g h1).2
 ·exact (h.awy.lt g h1).2
 ·exact (h.dev i hi).lt g h1
theorem VnK.below (h : VnK w ga gc n gs secs N sz vg va k dbs Fd wr) (hb : Below wr.heap.size wr wd) : VnK w ga gc n gs secs N sz vg va k dbs Fd wd :=
 h.keep (fun g hg => hb.block g (h.lt g hg)) (h.bel.trans (hb.mono h.bel.size))
theorem dvs_ones (s1 s2 : Option Addr) (n1 c1 n2 c2 : Nat) (z : Int) : ∀ u ∈ [Value.slice s1 n1 c1, .int .i64 z, .slice none 0 0, .slice s2 n2 c2], u.oneCell' = true := by
 intro u hu
 simp only [List.mem_cons, List.not_mem_nil, or_false] at hu
 rcases hu with rfl | rfl | rfl | rfl <;> rfl
theorem VnK.start {w1 W : World} {gm g6 : Nat} {cs ds : List Value} (hg : Blk W w.heap.size 24 [.slice ga n gc, .int .i64 secs]) (hr : Blk w1 (w.heap.size + 1) 37 [.slice none 0 0, .int .i64 0, .slice none 0 0, .slice none 0 0]) (b1 : Below w.heap.size w w1) (hb : Below w1.heap.size w1 W) (h1 : W.ownsRow 0 31 2 vg n (encG gs)) (h2 : Blk W gm 4 (boolsV (List.replicate N false))) (h3 : Blk W g6 37 cs) (hs : w.heap.size + 2 ≤ w1.heap.size) (h6 : w1.heap.size ≤ g6) (hm : w1.heap.size ≤ gm) (hN : N ≤ 1000) (hgn : ∀ g, vg.ownBlock = some g → w.heap.size ≤ g) :
  VnK w ga gc n gs secs N sz vg (.slice (some ⟨gm, 0, none⟩) N N) 0 [] (fun _ _ => False) (W.setCells g6 0 ds) := by
 have hrow : W.ownsRow 0 4 1 (.slice (some ⟨gm, 0, none⟩) N N) N (boolsV (List.replicate N false)) := by
  have := blk_owns (base := 0) (n := N) (cap := N) (size := 1) h2 (Nat.zero_le _) (Nat.le_refl _) (by unfold maxLen; omega) (by simp [boolsV])
  rwa [List.take_of_length_le (by simp [boolsV])] at this
 refine ⟨hg.away 0 ds (by omega), (hr.below hb).away 0 ds (by omega), own_set h1 h3 (by decide), own_set hrow h3 (by decide), rfl, fun i hi => absurd hi (by omega), fun i j g hi => absurd hi (by omega), fun i g hi => absurd hi (by omega), hgn, fun g hg2 => ?_, ?_⟩
 ·have e : gm = g := by simpa [Value.ownBlock] using hg2
  omega
 ·exact (b1.trans (hb.mono b1.size)).trans ⟨(setCells_grown g6 ds W 0).os, (setCells_grown g6 ds W 0).tape, (setCells_grown g6 ds W 0).output, (setCells_grown g6 ds W 0).size, fun k hk => (setCells_grown g6 ds W 0).block k (by have := b1.size; have := hb.size; omega) (fun e => by have := Option.some.inj e; omega)⟩
theorem VnK.type (h : VnK w ga gc n gs secs N sz vg va k dbs Fd wr) : ∀ g, vnB w vg va k Fd g → ∀ cs e fr, wr.heap[g]? = some (Obj.cells cs e fr) → e ≠ 76 ∧ (e = 37 → g = w.heap.size + 1) := by
 intro g hg cs e fr hb
 have key : ∀ {e' : Nat} {cs' : List Value}, Blk wr g e' cs' → e = e' := fun h1 => by
  unfold Blk at h1
  rw [h1] at hb
  simp only [Option.some.injEq, Obj.cells.injEq] at hb
  exact hb.2.1.symm
 have key2 : ∀ {e' k' n' : Nat} {v : Value} {xs : List Value}, wr.ownsRow 0 e' k' v n' xs → v.ownBlock = some g → e = e' := fun hr hv => by
  obtain ⟨c1, f1, h1⟩ := own_type hr hv
  rw [h1] at hb
  simp only [Option.some.injEq, Obj.cells.injEq] at hb
  exact hb.2.1.symm
 rcases hg with rfl | rfl | h1 | h1 | ⟨i, hi, h1⟩
 ·have e1 := key h.geo; subst e1; exact ⟨by decide, fun e => absurd e (by decide)⟩
 ·have e1 := key h.res; subst e1; exact ⟨by decide, fun _ => rfl⟩
 ·have e1 := key2 h.grp h1; subst e1; exact ⟨by decide, fun e => absurd e (by decide)⟩
 ·have e1 := key2 h.awy h1; subst e1; exact ⟨by decide, fun e => absurd e (by decide)⟩
 ·rcases (h.dev i hi).type g h1 cs e fr hb with e1 | e1 <;> subst e1 <;> exact ⟨by decide, fun e => absurd e (by decide)⟩
theorem VnK.app {b2 n2 g6 : Nat} {v2 u : Value} {xs cs : List Value} (h : VnK w ga gc n gs secs N sz vg va k dbs Fd wr) (ho : wr.ownsRow b2 76 1 v2 n2 xs) (hg : wr.grownBy wd v2.ownBlock) (hb2 : w.heap.size ≤ b2) (h6 : w.heap.size + 2 ≤ g6) (hB : Blk wr g6 37 cs) (j : Nat) : VnK w ga gc n gs secs N sz vg va k dbs Fd (wd.setCell ⟨g6, j, none⟩ u) := by
 refine h.keep (fun g hg2 => ?_) ?_
 ·have hlt := h.lt g hg2
  have hne : ¬ v2.ownBlock = some g := fun e => by
   obtain ⟨c1, f1, h1⟩ := own_type ho e
   exact (h.type g hg2 _ _ _ h1).1 rfl
  have hn6 : g ≠ g6 := fun e => by
   subst e
   have := (h.type g hg2 _ _ _ hB).2 rfl
   omega
  rw [Below.heap_setCell _ _ _ _ hn6]
  exact hg.block g hlt (fun e => hne e.symm)
 ·exact (below_own (B := w.heap.size) h.bel ho hg h.bel.size hb2).setCell (by show w.heap.size ≤ g6; omega) _
theorem VnK.more {db : Nat} {F : Nat → Prop} (h : VnK w ga gc n gs secs N sz vg va k dbs Fd wr) (hd : IsDev wr db (freshD sz 0) F) {B : Nat} (hF : ∀ g, F g → B ≤ g) (hB : w.heap.size ≤ B) (hlt : ∀ i g, i < k → Fd i g → g < B) : VnK w ga gc n gs secs N sz vg va (k + 1) (dbs ++ [db]) (fun i => if i = k then F else Fd i) wr := by
 refine ⟨h.geo, h.res, h.grp, h.awy, by simp [h.dl], fun i hi => ?_, fun i j g hi hj hij h1 h2 => ?_, fun i g hi h1 => ?_, h.gn, h.an, h.bel⟩
 ·by_cases e : i = k
  ·subst e
   rw [if_pos rfl, List.getD_eq_getElem?_getD, List.getElem?_append_right (by rw [h.dl]; exact Nat.le_refl _), h.dl]
   simpa using hd
  ·rw [if_neg e, List.getD_eq_getElem?_getD, List.getElem?_append_left (by rw [h.dl]; omega), ← List.getD_eq_getElem?_getD]
   exact h.dev i (by omega)
 ·try dsimp only at h1 h2
  by_cases ei : i = k
  ·subst ei
   rw [if_pos rfl] at h1
   rw [if_neg (fun e => hij e.symm)] at h2
   have a1 := hF g h1
   have a2 := hlt j g (by omega) h2
   omega
  ·rw [if_neg ei] at h1
   by_cases ej : j = k
   ·subst ej
    rw [if_pos rfl] at h2
    have a1 := hF g h2
    have a2 := hlt i g (by omega) h1
    omega
   ·rw [if_neg ej] at h2
    exact h.dj i j g (by omega) (by omega) hij h1 h2
 ·try dsimp only at h1
  by_cases ei : i = k
  ·rw [if_pos ei] at h1
   have := hF g h1
   omega
  ·rw [if_neg ei] at h1
   exact h.dn i g (by omega) h1
theorem VnK.fin {vl : Value} {b2 : Nat} (h : VnK w ga gc n gs secs N sz vg va N dbs Fd wr) (ho : wr.ownsRow b2 76 1 vl N (ptrsD dbs)) (hb2 : w.heap.size ≤ b2) (hn : n = gs.length) (hN : N = devsN gs) (hs : secs = (sz : Nat)) (h1 : 1 ≤ secs) (h2 : secs ≤ 4096) (h3 : N ≤ 1000) :
  ∃ F, IsDvs wr (freshX gs secs sz) ⟨vg, vl, va⟩ F ∧ ∀ g, F g → w.heap.size ≤ g := by
 have hgd : ∀ i, i < N → (List.replicate (devsN gs) (freshD sz 0)).getD i dvD = freshD sz 0 := fun i hi => by
  rw [List.getD_eq_getElem?_getD, List.getElem?_replicate, if_pos (by omega)]; rfl
 have hne : ∀ {e' k' n' : Nat} {v : Value} {xs : List Value} (i g : Nat), i < N → Fd i g → wr.ownsRow 0 e' k' v n' xs → e' ≠ 121 → e' ≠ 9 → v.ownBlock ≠ some g := fun i g hi hf hr e1 e2 hv => by
  obtain ⟨c1, f1, h4⟩ := own_type hr hv
  rcases (h.dev i hi).type g hf _ _ _ h4 with e | e
  ·exact e1 e
  ·exact e2 e
 refine ⟨_, ⟨dbs, Fd, ⟨?_, ?_, ?_, ?_, ?_, fun i hi => ?_, fun i j g hi hj => ?_, fun i g hi hf => ?_, ⟨h1, h2⟩, ?_⟩, fun g => Iff.rfl⟩, ?_⟩
 ·show wr.ownsRow 0 _ 2 vg gs.length _
  rw [← hn]; exact h.grp
 ·show wr.ownsRow 0 _ 1 vl dbs.length _
  rw [h.dl]; exact owns_weaken ho (Nat.zero_le _)
 ·show wr.ownsRow 0 _ 1 va (List.replicate (devsN gs) false).length (boolsV (List.replicate (devsN gs) false))
  rw [List.length_replicate, ← hN]; exact h.awy
 ·show dbs.length = (List.replicate _ _).length
  rw [h.dl, List.length_replicate, hN]
 ·show (List.replicate _ _).length = (List.replicate _ _).length
  rw [List.length_replicate, List.length_replicate]
 ·have hi2 : i < N := by rw [hN]; simpa [freshX] using hi
  show IsDev wr (dbs.getD i 0) ((List.replicate (devsN gs) (freshD sz 0)).getD i dvD) (Fd i)
  rw [hgd i hi2]
  exact h.dev i hi2
 ·have hi2 : i < N := by rw [hN]; simpa [freshX] using hi
  have hj2 : j < N := by rw [hN]; simpa [freshX] using hj
  exact h.dj i j g hi2 hj2
 ·have hi2 : i < N := by rw [hN]; simpa [freshX] using hi
  exact ⟨hne i g hi2 hf h.grp (by decide) (by decide), hne i g hi2 hf (owns_weaken ho (Nat.zero_le _)) (by decide) (by decide), hne i g hi2 hf h.awy (by decide) (by decide)⟩
 ·show (List.replicate _ _).length ≤ 1000
  rw [List.length_replicate, ← hN]; exact h3
 ·rintro g (hg | hg | hg | ⟨i, hi, hg⟩)
  ·exact h.gn g hg
  ·exact Nat.le_trans hb2 (ho.lt g hg).1
  ·exact h.an g hg
  ·exact h.dn i g (by rw [hN]; simpa [freshX] using hi) hg
end
set_option maxHeartbeats 1600000 in
set_option maxRecDepth 100000 in
theorem vnew_any (ga : Option Addr) (n gc : Nat) (gs : Gs) (secs : Int) (w : World) (h : GSl w ga n gc gs) (hr : rightB gs secs = true) :
  Calls Tryz.prog 51 #[.agg #[.slice ga n gc, .int .i64 secs], .int .u8 0] w fun e w' => ∃ V F, e = .returned (.tuple #[V.val secs, .int .i64 0]) ∧ IsDvs w' (freshX gs secs secs.toNat) V F ∧ (∀ g, F g → w.heap.size ≤ g) ∧ Below w.heap.size w w' := by
 have hl := h.len
 have hsp := rightB_spec hr
 obtain ⟨sz, hsz⟩ : ∃ sz : Nat, secs = (sz : Nat) := ⟨secs.toNat, by omega⟩
 have hszt : secs.toNat = sz := by omega
 rw [hszt]
 obtain ⟨N, hN⟩ : ∃ N, N = devsN gs := ⟨_, rfl⟩
 have hNb : N ≤ 32 := by rw [hN]; exact devsN_bd hr
 obtain ⟨p0, hp, hp0, hp1, hp2⟩ := info_parts infoPD
 obtain ⟨w0, hw0⟩ : ∃ w0, w0 = (w.alloc (.cells #[.slice ga n gc, .int .i64 secs] 24)).alloc (.cells #[.slice none 0 0, .int .i64 0, .slice none 0 0, .slice none 0 0] 37) := ⟨_, rfl⟩
 have hb0 : Below w.heap.size w w0 := by rw [hw0]; exact ((Below.refl _ _).alloc (Nat.le_refl _) _).alloc (by simp) _
 have hg0 : Blk w0 w.heap.size 24 [.slice ga n gc, .int .i64 secs] := by rw [hw0]; exact (Blk.new w _ _).alloc _
 have hd0 : Blk w0 (w.heap.size + 1) 37 [.slice none 0 0, .int .i64 0, .slice none 0 0, .slice none 0 0] := by rw [hw0]; exact Blk.newAt (w := w.alloc _) _ _ (by simp)
 have hs0 : w0.heap.size = w.heap.size + 2 := by rw [hw0]; simp
 have hRT := fun W (hW : Below w.heap.size w W) => gright_any ga n gc gs secs W (h.below hW)
 rw [hr] at hRT
 have HRT := Lib.hid hRT
 have HDV : Hid (∀ W, Below w.heap.size w W → Calls Tryz.prog 59 #[.agg #[.slice ga n gc, .int .i64 secs]] W fun e w' => e = .returned (.int .i64 (N : Nat)) ∧ Below W.heap.size W w') := Lib.hid (fun W hW => by rw [hN]; exact gdevs_any ga n gc gs secs W (h.below hW) hr)
 have HCL : Hid (∀ W, Below w.heap.size w W → Calls Tryz.prog 54 #[.slice ga n gc] W fun e w' => ∃ v, e = .returned v ∧ w'.ownsRow W.heap.size 31 2 v n (encG gs) ∧ Below W.heap.size W w') := Lib.hid (fun W hW => cloneG_any ga n gc (encG gs) W (RSl.below h hW) (encG_one _) (by omega))
 have HNW : Hid (∀ W, Calls Tryz.prog 74 #[.int .i64 secs] W fun e w' => ∃ db F, e = .returned (.tuple #[.pointer (some ⟨db, 0, none⟩), .int .i64 0]) ∧ IsDev w' db (freshD sz 0) F ∧ (∀ g, F g → W.heap.size ≤ g) ∧ Below W.heap.size W w') := Lib.hid (fun W => by rw [hsz]; exact dnew_any sz W (by omega) (by omega))
 have HFR : Hid (∀ (W : World) db F, IsDev W db (freshD sz 0) F → Calls Tryz.prog 75 #[.pointer (some ⟨db, 0, none⟩), .int .u8 0] W fun e w' => e = .returned (.tuple #[]) ∧ DevStep db (freshD sz 0) F W w') := Lib.hid (fun W db F hW => by
  have := dfresh_any hW 0
  have e : (freshD sz 0).med.length = sz := by show (blankL sz 0).length = sz; rw [blankL_len]
  rw [e] at this
  exact this)
 have hmk := make_bools N (by omega)
 have HL := Lib.hid hl
 have HS := Lib.hid hsp
 have HSZ := Lib.hid hsz
 have HNE := Lib.hid hN
 have HB0 := Lib.hid hb0
 have HG0 := Lib.hid hg0
 have HD0 := Lib.hid hd0
 have hsec1 : 24 ≤ secs := hsp.2.2.1
 have hsec2 : secs ≤ 4096 := hsp.2.2.2.1
 have hn4 : n ≤ 4 := by omega
 clear h hr hRT hl hsp hsz hszt hN hb0 hg0 hd0
 go_enter Tryz.func51, Tryz.ntmps51
 go_upto_region 1 with fail
 rw [← hw0]
 clear hw0
 have c0 : w0.cell? ⟨w.heap.size, 0, none⟩ = some (.slice ga n gc) := HG0.out.cell 0
 have c1 : w0.cell? ⟨w.heap.size, 1, none⟩ = some (.int .i64 secs) := HG0.out.cell 1
 go_wp2_with fail
 refine (HRT.out _ HB0.out).mono ?_
 rintro e w1 ⟨rfl, hb1⟩
 have B1 : Hid (Below w.heap.size w w1) := Lib.hid (HB0.out.trans (hb1.mono (by omega)))
 have HG1 := Lib.hid (HG0.out.below hb1)
 have HD1 := Lib.hid (HD0.out.below hb1)
 have hsz1 : w.heap.size + 2 ≤ w1.heap.size := by have := hb1.size; omega
 clear hb1 c0 c1
 go_upto_region 3 with fail
 go_cut [6] (fun v wx => ∃ (g6 : Nat) (vg va : Value), v = .pointer (some ⟨g6, 0, none⟩) ∧ Hid (Blk wx g6 37 [vg, .int .i64 secs, .slice none 0 0, va]) ∧ Hid (VnK w ga gc n gs secs N sz vg va 0 [] (fun _ _ => False) wx) ∧ w.heap.size + 2 ≤ g6)
 case first =>
  have hS0 : Blk w1.drew w.heap.size 24 [.slice ga n gc, .int .i64 secs] := HG1.out
  have HBD : Hid (Below w1.heap.size w1 w1.drew) := Lib.hid (Below.refl _ _).drew
  refine wp_region_held_drew (S := fun W => Blk W w.heap.size 24 [.slice ga n gc, .int .i64 secs]) (by kernel_rfl) hS0 (fun hS0 => ?_)
  refine rtd 0 ?_
  refine rtv (i := 1) (v := ?vc1) (hy := ?yc1) (h := ?_)
  case yc1 => intro w hSw; (try dsimp only at hSw); go_simp; rw [hSw.cell 0]; rfl
  try simp only [Act.put, z1, z2, z3]
  refine rtd 3 ?_
  refine rtv (i := 4) (v := ?vc4) (hy := ?yc4) (h := ?_)
  case yc4 => intro w hSw; (try dsimp only at hSw); go_simp; rw [hSw.cell 1]; rfl
  try simp only [Act.put, z1, z2, z3]
  refine rtg 6 ?vc6 ?yc6 ?_
  case yc6 => refine yieldsIf_load_mid (by kernel_rfl) 24 (.tmp 2) ?_ w.heap.size (0) ?_ ([.slice ga n gc, .int .i64 secs]) _ (fun w' (hw : Blk w' _ _ _) => range0M hw) Tryz.underlying24 rfl iszGe2 <;> rfl
  refine wpAnyH_ready (rs := [2, 10]) (by kernel_rfl) (by simp) ?_
  refine AllReadyH.cons (by simp only [List.getElem?_toArray, List.getElem?_cons_succ, List.getElem?_cons_zero]; rfl) (fun K hK => ?_) (AllReadyH.cons (by simp only [List.getElem?_toArray, List.getElem?_cons_succ, List.getElem?_cons_zero]; rfl) (fun K hK => ?_) AllReadyH.nil)
  ·go_simp
   refine (HCL.out _ (B1.out.trans (HBD.out.mono (by omega)))).mono ?_
   rintro e wz1 ⟨vz1, rfl, hoz1, hbz1⟩
   obtain ⟨aoz1, cpz1, rfl⟩ := own_form hoz1
   have HCz1 : Hid ((wz1).ownsRow 0 31 2 (Value.slice aoz1 n cpz1) n (encG gs)) := Lib.hid (owns_weaken hoz1 (Nat.zero_le _))
   have HCNz1 : Hid (∀ g, (Value.slice aoz1 n cpz1).ownBlock = some g → w.heap.size ≤ g) := Lib.hid (fun g hg => by have := (hoz1.lt g hg).1; have := HBD.out.size; omega)
   have HBz1 : Hid (Below w1.heap.size w1 (wz1)) := Lib.hid (HBD.out.trans (hbz1.mono HBD.out.size))
   have HSz1 : Hid (Blk (wz1) w.heap.size 24 [.slice ga n gc, .int .i64 secs]) := Lib.hid (hS0.below hbz1)
   clear hbz1 hoz1
   try dsimp only
   refine hK.out _ _ (HSz1.out) (fun hSca2 => ?_)
   try simp only [Act.put, z1, z2, z3]
   refine rtd 5 ?_
   refine wpAnyH_ready (rs := [7, 10]) (by kernel_rfl) (by simp) ?_
   refine AllReadyH.cons (by simp only [List.getElem?_toArray, List.getElem?_cons_succ, List.getElem?_cons_zero]; rfl) (fun K hK => ?_) (AllReadyH.cons (by simp only [List.getElem?_toArray, List.getElem?_cons_succ, List.getElem?_cons_zero]; rfl) (fun K hK => ?_) AllReadyH.nil)
   ·go_simp
    refine (HDV.out _ (B1.out.trans (HBz1.out.mono (by omega)))).mono ?_
    rintro e wz2 ⟨rfl, hbz2⟩
    have HBz2 : Hid (Below w1.heap.size w1 (wz2)) := Lib.hid (HBz1.out.trans (hbz2.mono HBz1.out.size))
    have HCz2 : Hid ((wz2).ownsRow 0 31 2 (Value.slice aoz1 n cpz1) n (encG gs)) := Lib.hid (owns_below HCz1.out hbz2)
    have HSz2 : Hid (Blk (wz2) w.heap.size 24 [.slice ga n gc, .int .i64 secs]) := Lib.hid (HSz1.out.below hbz2)
    clear hbz2
    try dsimp only
    refine hK.out _ _ (HSz2.out) (fun hScaa7 => ?_)
    try simp only [Act.put, z1, z2, z3]
    refine wpAnyH_ready (rs := [8, 10]) (by kernel_rfl) (by simp) ?_
    refine AllReadyH.cons (by simp only [List.getElem?_toArray, List.getElem?_cons_succ, List.getElem?_cons_zero]; rfl) (fun K hK => ?_) (AllReadyH.cons (by simp only [List.getElem?_toArray, List.getElem?_cons_succ, List.getElem?_cons_zero]; rfl) (fun K hK => ?_) AllReadyH.nil)
    ·go_simp
     skip
     refine hK.out _ _ (HSz2.out.alloc _) (fun hScaaa8 => ?_)
     try simp only [Act.put, z1, z2, z3]
     have HMz3 : Hid (Blk ((wz2).alloc (.cells (boolsV (List.replicate N false)).toArray 4)) (wz2.heap.size) 4 (boolsV (List.replicate N false))) := Lib.hid (Blk.newAt _ _ (by simp))
     have HMGz3 : Hid (w1.heap.size ≤ wz2.heap.size) := Lib.hid (by have := HBz2.out.size; simpa using this)
     have hbz3 : Below (wz2).heap.size (wz2) ((wz2).alloc (.cells (boolsV (List.replicate N false)).toArray 4)) := (Below.refl _ _).alloc (Nat.le_refl _) _
     have HBz3 : Hid (Below w1.heap.size w1 ((wz2).alloc (.cells (boolsV (List.replicate N false)).toArray 4))) := Lib.hid (HBz2.out.trans (hbz3.mono HBz2.out.size))
     have HCz3 : Hid (((wz2).alloc (.cells (boolsV (List.replicate N false)).toArray 4)).ownsRow 0 31 2 (Value.slice aoz1 n cpz1) n (encG gs)) := Lib.hid (owns_below HCz2.out hbz3)
     have HSz3 : Hid (Blk ((wz2).alloc (.cells (boolsV (List.replicate N false)).toArray 4)) w.heap.size 24 [.slice ga n gc, .int .i64 secs]) := Lib.hid (HSz2.out.below hbz3)
     clear hbz3
     refine rtd 9 ?_
     refine rr1 (i := 10) (h := fun K hK => ?_)
     go_simp
     skip
     refine hK.out _ _ (HSz3.out.alloc _) (fun hScaaa10 => ?_)
     try simp only [Act.put, z1, z2, z3]
     have HAz4 : Hid (Blk (((wz2).alloc (.cells (boolsV (List.replicate N false)).toArray 4)).alloc (.cells #[.slice none 0 0, .int .i64 0, .slice none 0 0, .slice none 0 0] 37)) (wz2.heap.size + 1) 37 [.slice none 0 0, .int .i64 0, .slice none 0 0, .slice none 0 0]) := Lib.hid (Blk.newAt _ _ (by simp))
     have HAGz4 : Hid (w1.heap.size ≤ wz2.heap.size + 1) := Lib.hid (by have := HBz3.out.size; simpa using this)
     have hbz4 : Below ((wz2).alloc (.cells (boolsV (List.replicate N false)).toArray 4)).heap.size ((wz2).alloc (.cells (boolsV (List.replicate N false)).toArray 4)) (((wz2).alloc (.cells (boolsV (List.replicate N false)).toArray 4)).alloc (.cells #[.slice none 0 0, .int .i64 0, .slice none 0 0, .slice none 0 0] 37)) := (Below.refl _ _).alloc (Nat.le_refl _) _
     have HBz4 : Hid (Below w1.heap.size w1 (((wz2).alloc (.cells (boolsV (List.replicate N false)).toArray 4)).alloc (.cells #[.slice none 0 0, .int .i64 0, .slice none 0 0, .slice none 0 0] 37))) := Lib.hid (HBz3.out.trans (hbz4.mono HBz3.out.size))
     have HCz4 : Hid ((((wz2).alloc (.cells (boolsV (List.replicate N false)).toArray 4)).alloc (.cells #[.slice none 0 0, .int .i64 0, .slice none 0 0, .slice none 0 0] 37)).ownsRow 0 31 2 (Value.slice aoz1 n cpz1) n (encG gs)) := Lib.hid (owns_below HCz3.out hbz4)
     have HMz4 : Hid (Blk (((wz2).alloc (.cells (boolsV (List.replicate N false)).toArray 4)).alloc (.cells #[.slice none 0 0, .int .i64 0, .slice none 0 0, .slice none 0 0] 37)) (wz2.heap.size) 4 (boolsV (List.replicate N false))) := Lib.hid (HMz3.out.below hbz4)
     have HSz4 : Hid (Blk (((wz2).alloc (.cells (boolsV (List.replicate N false)).toArray 4)).alloc (.cells #[.slice none 0 0, .int .i64 0, .slice none 0 0, .slice none 0 0] 37)) w.heap.size 24 [.slice ga n gc, .int .i64 secs]) := Lib.hid (HSz3.out.below hbz4)
     clear hbz4
     refine rr1 (i := 11) (h := fun K hK => ?_)
     rw [if_pos (by kernel_rfl)]
     refine wp_store_mid 37 (.tmp 6) (.tmp 22) rfl (wz2.heap.size + 1) (0) ([Value.slice aoz1 n cpz1, .int .i64 secs, .slice none 0 0, Value.slice (some ⟨wz2.heap.size, 0, none⟩) N N]).toArray rfl rfl (blk_there HAz4.out (Nat.le_refl 4)) iszDsM (all_oneCell_toArray (dvs_ones _ _ _ _ _ _ _)) ?_
     refine hK.out _ _ ((HSz4.out.away 0 _ (by have := HAGz4.out; have := hsz1; omega))) (fun hScaaa11 => ?_)
     try simp only [Act.put, z1, z2, z3]
     refine wpAnyH_done (by kernel_rfl) ?_ _
     have HT : Hid (Blk ((((wz2).alloc (.cells (boolsV (List.replicate N false)).toArray 4)).alloc (.cells #[.slice none 0 0, .int .i64 0, .slice none 0 0, .slice none 0 0] 37)).setCells (wz2.heap.size + 1) 0 [Value.slice aoz1 n cpz1, .int .i64 secs, .slice none 0 0, Value.slice (some ⟨wz2.heap.size, 0, none⟩) N N]) (wz2.heap.size + 1) 37 [Value.slice aoz1 n cpz1, .int .i64 secs, .slice none 0 0, Value.slice (some ⟨wz2.heap.size, 0, none⟩) N N] ∧ VnK w ga gc n gs secs N sz (Value.slice aoz1 n cpz1) (Value.slice (some ⟨wz2.heap.size, 0, none⟩) N N) 0 [] (fun _ _ => False) ((((wz2).alloc (.cells (boolsV (List.replicate N false)).toArray 4)).alloc (.cells #[.slice none 0 0, .int .i64 0, .slice none 0 0, .slice none 0 0] 37)).setCells (wz2.heap.size + 1) 0 [Value.slice aoz1 n cpz1, .int .i64 secs, .slice none 0 0, Value.slice (some ⟨wz2.heap.size, 0, none⟩) N N])) := Lib.hid ⟨HAz4.out.put rfl, VnK.start HSz4.out HD1.out B1.out HBz4.out HCz4.out HMz4.out HAz4.out hsz1 HAGz4.out HMGz3.out (by omega) HCNz1.out⟩
     go_wp2_with fail
     go_meet
     exact ⟨_, _, _, rfl, Lib.hid HT.out.1, Lib.hid HT.out.2, by have := HAGz4.out; omega⟩
    ·go_simp
     skip
     refine hK.out _ _ (HSz2.out.alloc _) (fun hScaab10 => ?_)
     try simp only [Act.put, z1, z2, z3]
     have HAz5 : Hid (Blk ((wz2).alloc (.cells #[.slice none 0 0, .int .i64 0, .slice none 0 0, .slice none 0 0] 37)) (wz2.heap.size) 37 [.slice none 0 0, .int .i64 0, .slice none 0 0, .slice none 0 0]) := Lib.hid (Blk.newAt _ _ (by simp))
     have HAGz5 : Hid (w1.heap.size ≤ wz2.heap.size) := Lib.hid (by have := HBz2.out.size; simpa using this)
     have hbz5 : Below (wz2).heap.size (wz2) ((wz2).alloc (.cells #[.slice none 0 0, .int .i64 0, .slice none 0 0, .slice none 0 0] 37)) := (Below.refl _ _).alloc (Nat.le_refl _) _
     have HBz5 : Hid (Below w1.heap.size w1 ((wz2).alloc (.cells #[.slice none 0 0, .int .i64 0, .slice none 0 0, .slice none 0 0] 37))) := Lib.hid (HBz2.out.trans (hbz5.mono HBz2.out.size))
     have HCz5 : Hid (((wz2).alloc (.cells #[.slice none 0 0, .int .i64 0, .slice none 0 0, .slice none 0 0] 37)).ownsRow 0 31 2 (Value.slice aoz1 n cpz1) n (encG gs)) := Lib.hid (owns_below HCz2.out hbz5)
     have HSz5 : Hid (Blk ((wz2).alloc (.cells #[.slice none 0 0, .int .i64 0, .slice none 0 0, .slice none 0 0] 37)) w.heap.size 24 [.slice ga n gc, .int .i64 secs]) := Lib.hid (HSz2.out.below hbz5)
     clear hbz5
     refine rr1 (i := 8) (h := fun K hK => ?_)
     go_simp
     skip
     refine hK.out _ _ (HSz5.out.alloc _) (fun hScaab8 => ?_)
     try simp only [Act.put, z1, z2, z3]
     have HMz6 : Hid (Blk (((wz2).alloc (.cells #[.slice none 0 0, .int .i64 0, .slice none 0 0, .slice none 0 0] 37)).alloc (.cells (boolsV (List.replicate N false)).toArray 4)) (wz2.heap.size + 1) 4 (boolsV (List.replicate N false))) := Lib.hid (Blk.newAt _ _ (by simp))
     have HMGz6 : Hid (w1.heap.size ≤ wz2.heap.size + 1) := Lib.hid (by have := HBz5.out.size; simpa using this)
     have hbz6 : Below ((wz2).alloc (.cells #[.slice none 0 0, .int .i64 0, .slice none 0 0, .slice none 0 0] 37)).heap.size ((wz2).alloc (.cells #[.slice none 0 0, .int .i64 0, .slice none 0 0, .slice none 0 0] 37)) (((wz2).alloc (.cells #[.slice none 0 0, .int .i64 0, .slice none 0 0, .slice none 0 0] 37)).alloc (.cells (boolsV (List.replicate N false)).toArray 4)) := (Below.refl _ _).alloc (Nat.le_refl _) _
     have HBz6 : Hid (Below w1.heap.size w1 (((wz2).alloc (.cells #[.slice none 0 0, .int .i64 0, .slice none 0 0, .slice none 0 0] 37)).alloc (.cells (boolsV (List.replicate N false)).toArray 4))) := Lib.hid (HBz5.out.trans (hbz6.mono HBz5.out.size))
     have HCz6 : Hid ((((wz2).alloc (.cells #[.slice none 0 0, .int .i64 0, .slice none 0 0, .slice none 0 0] 37)).alloc (.cells (boolsV (List.replicate N false)).toArray 4)).ownsRow 0 31 2 (Value.slice aoz1 n cpz1) n (encG gs)) := Lib.hid (owns_below HCz5.out hbz6)
     have HAz6 : Hid (Blk (((wz2).alloc (.cells #[.slice none 0 0, .int .i64 0, .slice none 0 0, .slice none 0 0] 37)).alloc (.cells (boolsV (List.replicate N false)).toArray 4)) (wz2.heap.size) 37 [.slice none 0 0, .int .i64 0, .slice none 0 0, .slice none 0 0]) := Lib.hid (HAz5.out.below hbz6)
     have HSz6 : Hid (Blk (((wz2).alloc (.cells #[.slice none 0 0, .int .i64 0, .slice none 0 0, .slice none 0 0] 37)).alloc (.cells (boolsV (List.replicate N false)).toArray 4)) w.heap.size 24 [.slice ga n gc, .int .i64 secs]) := Lib.hid (HSz5.out.below hbz6)
     clear hbz6
     refine rtd 9 ?_
     refine rr1 (i := 11) (h := fun K hK => ?_)
     rw [if_pos (by kernel_rfl)]
     refine wp_store_mid 37 (.tmp 6) (.tmp 22) rfl (wz2.heap.size) (0) ([Value.slice aoz1 n cpz1, .int .i64 secs, .slice none 0 0, Value.slice (some ⟨wz2.heap.size + 1, 0, none⟩) N N]).toArray rfl rfl (blk_there HAz6.out (Nat.le_refl 4)) iszDsM (all_oneCell_toArray (dvs_ones _ _ _ _ _ _ _)) ?_
     refine hK.out _ _ ((HSz6.out.away 0 _ (by have := HAGz5.out; have := hsz1; omega))) (fun hScaab11 => ?_)
     try simp only [Act.put, z1, z2, z3]
     refine wpAnyH_done (by kernel_rfl) ?_ _
     have HT : Hid (Blk ((((wz2).alloc (.cells #[.slice none 0 0, .int .i64 0, .slice none 0 0, .slice none 0 0] 37)).alloc (.cells (boolsV (List.replicate N false)).toArray 4)).setCells (wz2.heap.size) 0 [Value.slice aoz1 n cpz1, .int .i64 secs, .slice none 0 0, Value.slice (some ⟨wz2.heap.size + 1, 0, none⟩) N N]) (wz2.heap.size) 37 [Value.slice aoz1 n cpz1, .int .i64 secs, .slice none 0 0, Value.slice (some ⟨wz2.heap.size + 1, 0, none⟩) N N] ∧ VnK w ga gc n gs secs N sz (Value.slice aoz1 n cpz1) (Value.slice (some ⟨wz2.heap.size + 1, 0, none⟩) N N) 0 [] (fun _ _ => False) ((((wz2).alloc (.cells #[.slice none 0 0, .int .i64 0, .slice none 0 0, .slice none 0 0] 37)).alloc (.cells (boolsV (List.replicate N false)).toArray 4)).setCells (wz2.heap.size) 0 [Value.slice aoz1 n cpz1, .int .i64 secs, .slice none 0 0, Value.slice (some ⟨wz2.heap.size + 1, 0, none⟩) N N])) := Lib.hid ⟨HAz6.out.put rfl, VnK.start HSz6.out HD1.out B1.out HBz6.out HCz6.out HMz6.out HAz6.out hsz1 HAGz5.out HMGz6.out (by omega) HCNz1.out⟩
     go_wp2_with fail
     go_meet
     exact ⟨_, _, _, rfl, Lib.hid HT.out.1, Lib.hid HT.out.2, by have := HAGz5.out; omega⟩
   ·go_simp
    skip
    refine hK.out _ _ (HSz1.out.alloc _) (fun hScab10 => ?_)
    try simp only [Act.put, z1, z2, z3]
    have HAz7 : Hid (Blk ((wz1).alloc (.cells #[.slice none 0 0, .int .i64 0, .slice none 0 0, .slice none 0 0] 37)) (wz1.heap.size) 37 [.slice none 0 0, .int .i64 0, .slice none 0 0, .slice none 0 0]) := Lib.hid (Blk.newAt _ _ (by simp))
    have HAGz7 : Hid (w1.heap.size ≤ wz1.heap.size) := Lib.hid (by have := HBz1.out.size; simpa using this)
    have hbz7 : Below (wz1).heap.size (wz1) ((wz1).alloc (.cells #[.slice none 0 0, .int .i64 0, .slice none 0 0, .slice none 0 0] 37)) := (Below.refl _ _).alloc (Nat.le_refl _) _
    have HBz7 : Hid (Below w1.heap.size w1 ((wz1).alloc (.cells #[.slice none 0 0, .int .i64 0, .slice none 0 0, .slice none 0 0] 37))) := Lib.hid (HBz1.out.trans (hbz7.mono HBz1.out.size))
    have HCz7 : Hid (((wz1).alloc (.cells #[.slice none 0 0, .int .i64 0, .slice none 0 0, .slice none 0 0] 37)).ownsRow 0 31 2 (Value.slice aoz1 n cpz1) n (encG gs)) := Lib.hid (owns_below HCz1.out hbz7)
    have HSz7 : Hid (Blk ((wz1).alloc (.cells #[.slice none 0 0, .int .i64 0, .slice none 0 0, .slice none 0 0] 37)) w.heap.size 24 [.slice ga n gc, .int .i64 secs]) := Lib.hid (HSz1.out.below hbz7)
    clear hbz7
    refine rr1 (i := 7) (h := fun K hK => ?_)
    go_simp
    refine (HDV.out _ (B1.out.trans (HBz7.out.mono (by omega)))).mono ?_
    rintro e wz8 ⟨rfl, hbz8⟩
    have HBz8 : Hid (Below w1.heap.size w1 (wz8)) := Lib.hid (HBz7.out.trans (hbz8.mono HBz7.out.size))
    have HCz8 : Hid ((wz8).ownsRow 0 31 2 (Value.slice aoz1 n cpz1) n (encG gs)) := Lib.hid (owns_below HCz7.out hbz8)
    have HAz8 : Hid (Blk (wz8) (wz1.heap.size) 37 [.slice none 0 0, .int .i64 0, .slice none 0 0, .slice none 0 0]) := Lib.hid (HAz7.out.below hbz8)
    have HSz8 : Hid (Blk (wz8) w.heap.size 24 [.slice ga n gc, .int .i64 secs]) := Lib.hid (HSz7.out.below hbz8)
    clear hbz8
    try dsimp only
    refine hK.out _ _ (HSz8.out) (fun hScab7 => ?_)
    try simp only [Act.put, z1, z2, z3]
    refine rr1 (i := 8) (h := fun K hK => ?_)
    go_simp
    skip
    refine hK.out _ _ (HSz8.out.alloc _) (fun hScab8 => ?_)
    try simp only [Act.put, z1, z2, z3]
    have HMz9 : Hid (Blk ((wz8).alloc (.cells (boolsV (List.replicate N false)).toArray 4)) (wz8.heap.size) 4 (boolsV (List.replicate N false))) := Lib.hid (Blk.newAt _ _ (by simp))
    have HMGz9 : Hid (w1.heap.size ≤ wz8.heap.size) := Lib.hid (by have := HBz8.out.size; simpa using this)
    have hbz9 : Below (wz8).heap.size (wz8) ((wz8).alloc (.cells (boolsV (List.replicate N false)).toArray 4)) := (Below.refl _ _).alloc (Nat.le_refl _) _
    have HBz9 : Hid (Below w1.heap.size w1 ((wz8).alloc (.cells (boolsV (List.replicate N false)).toArray 4))) := Lib.hid (HBz8.out.trans (hbz9.mono HBz8.out.size))
    have HCz9 : Hid (((wz8).alloc (.cells (boolsV (List.replicate N false)).toArray 4)).ownsRow 0 31 2 (Value.slice aoz1 n cpz1) n (encG gs)) := Lib.hid (owns_below HCz8.out hbz9)
    have HAz9 : Hid (Blk ((wz8).alloc (.cells (boolsV (List.replicate N false)).toArray 4)) (wz1.heap.size) 37 [.slice none 0 0, .int .i64 0, .slice none 0 0, .slice none 0 0]) := Lib.hid (HAz8.out.below hbz9)
    have HSz9 : Hid (Blk ((wz8).alloc (.cells (boolsV (List.replicate N false)).toArray 4)) w.heap.size 24 [.slice ga n gc, .int .i64 secs]) := Lib.hid (HSz8.out.below hbz9)
    clear hbz9
    refine rtd 9 ?_
    refine rr1 (i := 11) (h := fun K hK => ?_)
    rw [if_pos (by kernel_rfl)]
    refine wp_store_mid 37 (.tmp 6) (.tmp 22) rfl (wz1.heap.size) (0) ([Value.slice aoz1 n cpz1, .int .i64 secs, .slice none 0 0, Value.slice (some ⟨wz8.heap.size, 0, none⟩) N N]).toArray rfl rfl (blk_there HAz9.out (Nat.le_refl 4)) iszDsM (all_oneCell_toArray (dvs_ones _ _ _ _ _ _ _)) ?_
    refine hK.out _ _ ((HSz9.out.away 0 _ (by have := HAGz7.out; have := hsz1; omega))) (fun hScab11 => ?_)
    try simp only [Act.put, z1, z2, z3]
    refine wpAnyH_done (by kernel_rfl) ?_ _
    have HT : Hid (Blk (((wz8).alloc (.cells (boolsV (List.replicate N false)).toArray 4)).setCells (wz1.heap.size) 0 [Value.slice aoz1 n cpz1, .int .i64 secs, .slice none 0 0, Value.slice (some ⟨wz8.heap.size, 0, none⟩) N N]) (wz1.heap.size) 37 [Value.slice aoz1 n cpz1, .int .i64 secs, .slice none 0 0, Value.slice (some ⟨wz8.heap.size, 0, none⟩) N N] ∧ VnK w ga gc n gs secs N sz (Value.slice aoz1 n cpz1) (Value.slice (some ⟨wz8.heap.size, 0, none⟩) N N) 0 [] (fun _ _ => False) (((wz8).alloc (.cells (boolsV (List.replicate N false)).toArray 4)).setCells (wz1.heap.size) 0 [Value.slice aoz1 n cpz1, .int .i64 secs, .slice none 0 0, Value.slice (some ⟨wz8.heap.size, 0, none⟩) N N])) := Lib.hid ⟨HAz9.out.put rfl, VnK.start HSz9.out HD1.out B1.out HBz9.out HCz9.out HMz9.out HAz9.out hsz1 HAGz7.out HMGz9.out (by omega) HCNz1.out⟩
    go_wp2_with fail
    go_meet
    exact ⟨_, _, _, rfl, Lib.hid HT.out.1, Lib.hid HT.out.2, by have := HAGz7.out; omega⟩
  ·go_simp
   skip
   refine hK.out _ _ (hS0.alloc _) (fun hScb10 => ?_)
   try simp only [Act.put, z1, z2, z3]
   have HAz10 : Hid (Blk ((w1.drew).alloc (.cells #[.slice none 0 0, .int .i64 0, .slice none 0 0, .slice none 0 0] 37)) (w1.heap.size) 37 [.slice none 0 0, .int .i64 0, .slice none 0 0, .slice none 0 0]) := Lib.hid (Blk.newAt _ _ (by simp))
   have HAGz10 : Hid (w1.heap.size ≤ w1.heap.size) := Lib.hid (by have := HBD.out.size; simpa using this)
   have hbz10 : Below (w1.drew).heap.size (w1.drew) ((w1.drew).alloc (.cells #[.slice none 0 0, .int .i64 0, .slice none 0 0, .slice none 0 0] 37)) := (Below.refl _ _).alloc (Nat.le_refl _) _
   have HBz10 : Hid (Below w1.heap.size w1 ((w1.drew).alloc (.cells #[.slice none 0 0, .int .i64 0, .slice none 0 0, .slice none 0 0] 37))) := Lib.hid (HBD.out.trans (hbz10.mono HBD.out.size))
   have HSz10 : Hid (Blk ((w1.drew).alloc (.cells #[.slice none 0 0, .int .i64 0, .slice none 0 0, .slice none 0 0] 37)) w.heap.size 24 [.slice ga n gc, .int .i64 secs]) := Lib.hid (hS0.below hbz10)
   clear hbz10
   refine rr1 (i := 2) (h := fun K hK => ?_)
   go_simp
   refine (HCL.out _ (B1.out.trans (HBz10.out.mono (by omega)))).mono ?_
   rintro e wz11 ⟨vz11, rfl, hoz11, hbz11⟩
   obtain ⟨aoz11, cpz11, rfl⟩ := own_form hoz11
   have HCz11 : Hid ((wz11).ownsRow 0 31 2 (Value.slice aoz11 n cpz11) n (encG gs)) := Lib.hid (owns_weaken hoz11 (Nat.zero_le _))
   have HCNz11 : Hid (∀ g, (Value.slice aoz11 n cpz11).ownBlock = some g → w.heap.size ≤ g) := Lib.hid (fun g hg => by have := (hoz11.lt g hg).1; have := HBz10.out.size; omega)
   have HBz11 : Hid (Below w1.heap.size w1 (wz11)) := Lib.hid (HBz10.out.trans (hbz11.mono HBz10.out.size))
   have HAz11 : Hid (Blk (wz11) (w1.heap.size) 37 [.slice none 0 0, .int .i64 0, .slice none 0 0, .slice none 0 0]) := Lib.hid (HAz10.out.below hbz11)
   have HSz11 : Hid (Blk (wz11) w.heap.size 24 [.slice ga n gc, .int .i64 secs]) := Lib.hid (HSz10.out.below hbz11)
   clear hbz11 hoz11
   try dsimp only
   refine hK.out _ _ (HSz11.out) (fun hScb2 => ?_)
   try simp only [Act.put, z1, z2, z3]
   refine rtd 5 ?_
   refine rr1 (i := 7) (h := fun K hK => ?_)
   go_simp
   refine (HDV.out _ (B1.out.trans (HBz11.out.mono (by omega)))).mono ?_
   rintro e wz12 ⟨rfl, hbz12⟩
   have HBz12 : Hid (Below w1.heap.size w1 (wz12)) := Lib.hid (HBz11.out.trans (hbz12.mono HBz11.out.size))
   have HCz12 : Hid ((wz12).ownsRow 0 31 2 (Value.slice aoz11 n cpz11) n (encG gs)) := Lib.hid (owns_below HCz11.out hbz12)
   have HAz12 : Hid (Blk (wz12) (w1.heap.size) 37 [.slice none 0 0, .int .i64 0, .slice none 0 0, .slice none 0 0]) := Lib.hid (HAz11.out.below hbz12)
   have HSz12 : Hid (Blk (wz12) w.heap.size 24 [.slice ga n gc, .int .i64 secs]) := Lib.hid (HSz11.out.below hbz12)
   clear hbz12
   try dsimp only
   refine hK.out _ _ (HSz12.out) (fun hScb7 => ?_)
   try simp only [Act.put, z1, z2, z3]
   refine rr1 (i := 8) (h := fun K hK => ?_)
   go_simp
   skip
   refine hK.out _ _ (HSz12.out.alloc _) (fun hScb8 => ?_)
   try simp only [Act.put, z1, z2, z3]
   have HMz13 : Hid (Blk ((wz12).alloc (.cells (boolsV (List.replicate N false)).toArray 4)) (wz12.heap.size) 4 (boolsV (List.replicate N false))) := Lib.hid (Blk.newAt _ _ (by simp))
   have HMGz13 : Hid (w1.heap.size ≤ wz12.heap.size) := Lib.hid (by have := HBz12.out.size; simpa using this)
   have hbz13 : Below (wz12).heap.size (wz12) ((wz12).alloc (.cells (boolsV (List.replicate N false)).toArray 4)) := (Below.refl _ _).alloc (Nat.le_refl _) _
   have HBz13 : Hid (Below w1.heap.size w1 ((wz12).alloc (.cells (boolsV (List.replicate N false)).toArray 4))) := Lib.hid (HBz12.out.trans (hbz13.mono HBz12.out.size))
   have HCz13 : Hid (((wz12).alloc (.cells (boolsV (List.replicate N false)).toArray 4)).ownsRow 0 31 2 (Value.slice aoz11 n cpz11) n (encG gs)) := Lib.hid (owns_below HCz12.out hbz13)
   have HAz13 : Hid (Blk ((wz12).alloc (.cells (boolsV (List.replicate N false)).toArray 4)) (w1.heap.size) 37 [.slice none 0 0, .int .i64 0, .slice none 0 0, .slice none 0 0]) := Lib.hid (HAz12.out.below hbz13)
   have HSz13 : Hid (Blk ((wz12).alloc (.cells (boolsV (List.replicate N false)).toArray 4)) w.heap.size 24 [.slice ga n gc, .int .i64 secs]) := Lib.hid (HSz12.out.below hbz13)
   clear hbz13
   refine rtd 9 ?_
   refine rr1 (i := 11) (h := fun K hK => ?_)
   rw [if_pos (by kernel_rfl)]
   refine wp_store_mid 37 (.tmp 6) (.tmp 22) rfl (w1.heap.size) (0) ([Value.slice aoz11 n cpz11, .int .i64 secs, .slice none 0 0, Value.slice (some ⟨wz12.heap.size, 0, none⟩) N N]).toArray rfl rfl (blk_there HAz13.out (Nat.le_refl 4)) iszDsM (all_oneCell_toArray (dvs_ones _ _ _ _ _ _ _)) ?_
   refine hK.out _ _ ((HSz13.out.away 0 _ (by have := HAGz10.out; have := hsz1; omega))) (fun hScb11 => ?_)
   try simp only [Act.put, z1, z2, z3]
   refine wpAnyH_done (by kernel_rfl) ?_ _
   have HT : Hid (Blk (((wz12).alloc (.cells (boolsV (List.replicate N false)).toArray 4)).setCells (w1.heap.size) 0 [Value.slice aoz11 n cpz11, .int .i64 secs, .slice none 0 0, Value.slice (some ⟨wz12.heap.size, 0, none⟩) N N]) (w1.heap.size) 37 [Value.slice aoz11 n cpz11, .int .i64 secs, .slice none 0 0, Value.slice (some ⟨wz12.heap.size, 0, none⟩) N N] ∧ VnK w ga gc n gs secs N sz (Value.slice aoz11 n cpz11) (Value.slice (some ⟨wz12.heap.size, 0, none⟩) N N) 0 [] (fun _ _ => False) (((wz12).alloc (.cells (boolsV (List.replicate N false)).toArray 4)).setCells (w1.heap.size) 0 [Value.slice aoz11 n cpz11, .int .i64 secs, .slice none 0 0, Value.slice (some ⟨wz12.heap.size, 0, none⟩) N N])) := Lib.hid ⟨HAz13.out.put rfl, VnK.start HSz13.out HD1.out B1.out HBz13.out HCz13.out HMz13.out HAz13.out hsz1 HAGz10.out HMGz13.out (by omega) HCNz11.out⟩
   go_wp2_with fail
   go_meet
   exact ⟨_, _, _, rfl, Lib.hid HT.out.1, Lib.hid HT.out.2, by have := HAGz10.out; omega⟩
 case rest =>
  obtain ⟨g6, vg, va, rfl, HG6, HK0, h6⟩ := hcut
  obtain ⟨al, cl, rfl⟩ := own_form HK0.out.awy
  have c2 : wc.cell? ⟨g6, 3, none⟩ = some (.slice al N cl) := HG6.out.cell 3
  go_wp2_with fail
  clear c2
  go_loopw [26] (fun v wr => ∃ (k : Nat) (vl : Value) (dbs : List Nat) (Fd : Nat → Nat → Prop), k ≤ N ∧ v = .int .i64 (k : Nat) ∧ Hid (Blk wr g6 37 [vg, .int .i64 secs, vl, .slice al N cl]) ∧ Hid (wr.ownsRow w.heap.size 76 1 vl k (ptrsD dbs)) ∧ Hid (VnK w ga gc n gs secs N sz vg (.slice al N cl) k dbs Fd wr)) (fun v _ => N - (intOf v).toNat)
  case atStart => exact ⟨0, _, [], _, by omega, rfl, HG6, Lib.hid (World.ownsRow_nil _ _ _ _), HK0⟩
  case round =>
   obtain ⟨k, vl, dbs, Fd, hk, rfl, BK, OW, KK⟩ := hrel
   clear HG6 HK0
   obtain ⟨mo, mc, rfl⟩ := own_form OW.out
   have HWR : Hid (w.heap.size ≤ wr.heap.size) := Lib.hid KK.out.bel.size
   by_cases hkn : k < N
   ·have q1 : (k : Int) < (N : Int) := by omega
    have c1 : wr.cell? ⟨w.heap.size, 1, none⟩ = some (.int .i64 secs) := KK.out.geo.cell 1
    go_wp2_with fail
    refine (HNW.out _).mono ?_
    rintro e w2 ⟨db, F, rfl, hd, hF, hb2⟩
    have HD := Lib.hid hd
    have HF := Lib.hid hF
    have HB2 := Lib.hid hb2
    clear hd hF hb2
    go_wp2_with fail
    refine (HFR.out _ _ _ HD.out).mono ?_
    rintro e w3 ⟨rfl, F2, hd2, hm2, hn2⟩
    have B3 : Hid (Below wr.heap.size wr w3) := Lib.hid (HB2.out.trans (hm2.toBelow HF.out HB2.out.size))
    have HF2 : Hid (∀ g, F2 g → wr.heap.size ≤ g) := Lib.hid (fun g hg => by
     rcases hn2 g hg with h9 | h9
     ·exact HF.out g h9
     ·have := HB2.out.size; omega)
    have HLT : Hid (∀ i g, i < k → Fd i g → g < wr.heap.size) := Lib.hid (fun i g hi hg => (KK.out.dev i hi).lt g hg)
    have KM := Lib.hid ((KK.out.below B3.out).more hd2 HF2.out HWR.out HLT.out)
    have BK3 := Lib.hid (BK.out.below B3.out)
    have O3 := Lib.hid (owns_below OW.out B3.out)
    have d2 : w3.cell? ⟨g6, 2, none⟩ = some (.slice mo k mc) := BK3.out.cell 2
    have HW3 : Hid (w.heap.size ≤ w3.heap.size) := Lib.hid (Nat.le_trans HWR.out B3.out.size)
    clear hd2 hm2 hn2 c1
    go_wp2_with (at_builtin; go_must (refine wpList_append_own _ rfl (.tmp 38) (.tmp 40) 35 rfl w.heap.size 76 p0 (.pointer none) 1 8 Tryz.underlying35 hp hp0 hp1 hp2 rfl (by decide) (.slice mo k mc) k (ptrsD dbs) rfl (O3.out.alloc _) ⟨w3.heap.size, 0, none⟩ 1 1 (ptrsD [db]) rfl rfl (Blk.news (Blk.newAt (w := w3) 76 (ptrsD [db]) (by simp))) (ptrsD_one _) (by unfold maxLen; omega) (by omega) (by have := HW3.out; simp; omega) ?_; intro v4 w4 hown4 hgrow4 _; rw [← ptrsD_append] at hown4; have BK4 := Lib.hid ((BK3.out.alloc (.cells (ptrsD [db]).toArray 76)).ownKept (O3.out.alloc _) (by decide) hgrow4); have hcb4 := BK4.out.cell 2; have hfb4 := BK4.out.frozen 2; obtain ⟨vo, vc, rfl⟩ := own_form hown4; have O4 := Lib.hid hown4; have G4 := Lib.hid hgrow4; clear hown4 hgrow4))
    have KA := Lib.hid ((KM.out.below ((Below.refl _ _).alloc (Nat.le_refl _) (.cells (ptrsD [db]).toArray 76))).app (O3.out.alloc _) G4.out (Nat.le_refl _) h6 (BK3.out.alloc _) 2 (u := .slice vo (k + 1) vc))
    go_roundw
    case rel => exact ⟨k + 1, _, dbs ++ [db], _, by omega, by go_num, Lib.hid (BK4.out.setCell 2 _), Lib.hid (owns_setOther O4.out BK4.out (by decide)), KA⟩
    case measure => simp [intOf]; omega
   ·have hkn' : k = N := by omega
    subst hkn'
    have q1 : ¬ (k : Int) < (k : Int) := by omega
    obtain ⟨F, hi, hF⟩ := KK.out.fin OW.out (Nat.le_refl _) HL.out.symm HNE.out HSZ.out (by omega) hsec2 (by omega)
    obtain ⟨ao2, cp2, rfl⟩ := own_form KK.out.grp
    have HI := Lib.hid hi
    have HF := Lib.hid hF
    have hr1 : wr.rangeAt g6 0 [.slice ao2 n cp2, .int .i64 secs, .slice mo k mc, .slice al k cl] := range_all BK.out
    have hr2 := KK.out.res
    have l2 := fun (op : Oper) (a : Act) (next : Act → World → Prop) (Q : Exit → Act → World → Prop) => loadW_mid (P := Tryz.prog) (t := 37) hr1 Tryz.underlying37 rfl iszDsM op a next Q
    have s2 := fun (op : Oper) (a : Act) (next : Act → World → Prop) (Q : Exit → Act → World → Prop) => storeW_part (P := Tryz.prog) (t := 37) (o := 0) (cs := [.slice ao2 n cp2, .int .i64 secs, .slice mo k mc, .slice al k cl]) hr2 (Nat.le_refl 4) iszDsM (dvs_ones4 _ _ _ _ _ _ _ _ _ _) op a next Q
    have HBE : Hid (Below w.heap.size w wr) := Lib.hid KK.out.bel
    have HR2 : Hid (Blk (wr.setCells (w.heap.size + 1) 0 [.slice ao2 n cp2, .int .i64 secs, .slice mo k mc, .slice al k cl]) (w.heap.size + 1) 37 [.slice ao2 n cp2, .int .i64 secs, .slice mo k mc, .slice al k cl]) := Lib.hid (hr2.put rfl)
    have HT : Hid (IsDvs (wr.setCells (w.heap.size + 1) 0 [.slice ao2 n cp2, .int .i64 secs, .slice mo k mc, .slice al k cl]) (freshX gs secs sz) ⟨.slice ao2 n cp2, .slice mo k mc, .slice al k cl⟩ F) := Lib.hid (HI.out.keep (fun g hg => (setCells_grown (w.heap.size + 1) _ wr 0).block g (HI.out.lt g hg) (fun e => by
     have e2 := Option.some.inj e
     subst e2
     have h9 := HI.out.type _ hg _ _ _ hr2
     unfold DevTy at h9
     revert h9
     decide)))
    have HBF : Hid (Below w.heap.size w (wr.setCells (w.heap.size + 1) 0 [.slice ao2 n cp2, .int .i64 secs, .slice mo k mc, .slice al k cl])) := Lib.hid (KK.out.bel.grown (setCells_grown _ _ _ _) HBE.out.size (fun k e => by have := Option.some.inj e; omega))
    clear hi hF hr1 hr2
    go_wp2_with fail
    refine bodyPost_ret (results_dvs rfl _ _ (w.heap.size + 1) _ _ _ _ rfl HR2.out) rfl ?_
    exact ⟨_, rfl, F, HT.out, HF.out, HBF.out⟩
end Go.Proofs.YtfaemcfjbbbbdaaGreat
namespace Go.Proofs.YtfaemcfjbbbbdaaGreat
open Go.RowKit
set_option maxRecDepth 100000 in
theorem vnew_no (ga : Option Addr) (n gc : Nat) (gs : Gs) (secs : Int) (w : World) (h : GSl w ga n gc gs) (hr : rightB gs secs = false) :
  Calls Tryz.prog 51 #[.agg #[.slice ga n gc, .int .i64 secs], .int .u8 0] w fun e w' => e = .returned (.tuple #[.agg #[.slice none 0 0, .int .i64 0, .slice none 0 0, .slice none 0 0], .int .i64 1]) ∧ Below w.heap.size w w' := by
 obtain ⟨w0, hw0⟩ : ∃ w0, w0 = (w.alloc (.cells #[.slice ga n gc, .int .i64 secs] 24)).alloc (.cells #[.slice none 0 0, .int .i64 0, .slice none 0 0, .slice none 0 0] 37) := ⟨_, rfl⟩
 have hb0 : Below w.heap.size w w0 := by rw [hw0]; exact ((Below.refl _ _).alloc (Nat.le_refl _) _).alloc (by simp) _
 have hg0 : Blk w0 w.heap.size 24 [.slice ga n gc, .int .i64 secs] := by rw [hw0]; exact (Blk.new w _ _).alloc _
 have hd0 : Blk w0 (w.heap.size + 1) 37 [.slice none 0 0, .int .i64 0, .slice none 0 0, .slice none 0 0] := by rw [hw0]; exact Blk.newAt (w := w.alloc _) _ _ (by simp)
 have hs0 : w0.heap.size = w.heap.size + 2 := by rw [hw0]; simp
 have hRT := gright_any ga n gc gs secs w0 (h.below hb0)
 rw [hr] at hRT
 have HRT := Lib.hid hRT
 have HB0 := Lib.hid hb0
 have HD0 := Lib.hid hd0
 have c0 : w0.cell? ⟨w.heap.size, 0, none⟩ = some (.slice ga n gc) := hg0.cell 0
 have c1 : w0.cell? ⟨w.heap.size, 1, none⟩ = some (.int .i64 secs) := hg0.cell 1
 clear h hr hRT hb0 hg0 hd0
 go_enter Tryz.func51, Tryz.ntmps51
 go_upto_region 1 with fail
 rw [← hw0]
 clear hw0
 go_wp2_with fail
 refine HRT.out.mono ?_
 rintro e w1 ⟨rfl, hb1⟩
 have HD1 := Lib.hid (HD0.out.below hb1)
 have B1 : Hid (Below w.heap.size w w1) := Lib.hid (HB0.out.trans (hb1.mono (by omega)))
 have d0 := HD1.out.cell 0
 have d1 := HD1.out.cell 1
 have d2 := HD1.out.cell 2
 have d3 := HD1.out.cell 3
 have f0 := HD1.out.frozen 0
 have f1 := HD1.out.frozen 1
 have f2 := HD1.out.frozen 2
 have f3 := HD1.out.frozen 3
 have hsz1 : w.heap.size + 2 ≤ w1.heap.size := by have := hb1.size; omega
 clear hb1 c0 c1
 go_wp2_with fail
 refine bodyPost_ret (results_dvs rfl _ _ (w.heap.size + 1) _ _ _ _ rfl ((((HD1.out.setCell 0 _).setCell 1 _).setCell 2 _).setCell 3 _)) rfl ?_
 exact ⟨rfl, (((B1.out.setCell (by show w.heap.size ≤ w.heap.size + 1; omega) _).setCell (by show w.heap.size ≤ w.heap.size + 1; omega) _).setCell (by show w.heap.size ≤ w.heap.size + 1; omega) _).setCell (by show w.heap.size ≤ w.heap.size + 1; omega) _⟩
def devX (gs : Gs) (secs : Int) (al ll : List Bool) (k : Nat) : DvsT := ⟨gs, secs, (List.range (devsN gs)).map (fun i => if i < k ∧ ll.getD i false = true then (freshD secs.toNat 0).lose else freshD secs.toNat 0), (List.range (devsN gs)).map (fun i => decide (i < k) && al.getD i false)⟩
theorem devX_zero (gs : Gs) (secs : Int) (al ll : List Bool) : devX gs secs al ll 0 = freshX gs secs secs.toNat := by
 unfold devX freshX
 congr 1
 ·apply List.ext_getElem <;> simp
 ·apply List.ext_getElem <;> simp
theorem devX_n (gs : Gs) (secs : Int) (al ll : List Bool) (k : Nat) : (devX gs secs al ll k).ds.length = devsN gs ∧ (devX gs secs al ll k).away.length = devsN gs := by
 unfold devX
 simp
theorem devX_succ {gs : Gs} {secs : Int} {al ll : List Bool} {k : Nat} (hk : k < devsN gs) : devX gs secs al ll (k + 1) = ⟨gs, secs, if ll.getD k false = true then (devX gs secs al ll k).ds.set k ((freshD secs.toNat 0).lose) else (devX gs secs al ll k).ds, (devX gs secs al ll k).away.set k (al.getD k false)⟩ := by
 unfold devX
 congr 1
 ·by_cases hl : ll.getD k false = true
  ·rw [if_pos hl]
   apply List.ext_getElem
   ·simp
   ·intro i h1 h2
    simp only [List.length_map, List.length_range] at h1
    rw [List.getElem_set]
    simp only [List.getElem_map, List.getElem_range]
    by_cases e : k = i
    ·subst e; rw [if_pos rfl, if_pos ⟨by omega, hl⟩]
    ·rw [if_neg e]
     by_cases e2 : i < k
     ·simp [e2, Nat.lt_succ_of_lt e2]
     ·have e3 : ¬ i < k + 1 := by omega
      simp [e2, e3]
  ·rw [if_neg hl]
   apply List.ext_getElem
   ·simp
   ·intro i h1 h2
    simp only [List.getElem_map, List.getElem_range]
    by_cases e : k = i
    ·subst e; rw [if_neg (fun h => hl h.2), if_neg (fun h => hl h.2)]
    ·by_cases e2 : i < k
     ·simp [e2, Nat.lt_succ_of_lt e2]
     ·have e3 : ¬ i < k + 1 := by omega
      simp [e2, e3]
 ·apply List.ext_getElem
  ·simp
  ·intro i h1 h2
   simp only [List.length_map, List.length_range] at h1
   rw [List.getElem_set]
   simp only [List.getElem_map, List.getElem_range]
   by_cases e : k = i
   ·subst e; rw [if_pos rfl, decide_eq_true (by omega), Bool.true_and]
   ·rw [if_neg e]
    by_cases e2 : i < k
    ·rw [decide_eq_true e2, decide_eq_true (by omega)]
    ·rw [decide_eq_false e2, decide_eq_false (by omega)]
theorem devX_at {gs : Gs} {secs : Int} {al ll : List Bool} {k : Nat} (hk : k < devsN gs) : (devX gs secs al ll k).ds.getD k dvD = freshD secs.toNat 0 := by
 unfold devX
 simp [List.getD_eq_getElem?_getD, hk]
theorem IsDvs.setAway {w : World} {x : DvsT} {V : DvV} {F : Nat → Prop} {i : Nat} (h : IsDvs w x V F) (hi : i < x.ds.length) (b : Bool) : ∃ ba ca, V.a = .slice (some ⟨ba, 0, none⟩) x.ds.length ca ∧ w.cell? ⟨ba, i, none⟩ = some (.bool (x.away.getD i true)) ∧ w.frozen? ⟨ba, i, none⟩ = false ∧ F ba ∧ IsDvs (w.setCell ⟨ba, i, none⟩ (.bool b)) ⟨x.gs, x.secs, x.ds, x.away.set i b⟩ V F := by
 obtain ⟨dbs, Fd, h, hF⟩ := h
 obtain ⟨ba, ca, e, hc⟩ := h.acell (by omega)
 have ha := h.awy
 rw [e] at ha
 rw [h.n2] at ha
 have hst := ha.stored i (.bool b)
 have hba : V.a.ownBlock = some ba := by rw [e]; rfl
 have hne : ∀ {g : Nat}, g ≠ ba → (w.setCell ⟨ba, i, none⟩ (.bool b)).heap[g]? = w.heap[g]? := fun {g} hg => Below.heap_setCell _ _ _ _ hg
 refine ⟨ba, ca, e, hc i hi, ha.frozenAt i, (hF ba).2 (.inr (.inr (.inl hba))), dbs, Fd, ⟨own_keep h.grp (fun g hg => hne (fun e2 => ?_)), own_keep h.lst (fun g hg => hne (fun e2 => ?_)), ?_, h.n1, by simp [h.n2], fun j hj => (h.dev j hj).keep (fun g hg => hne (fun e2 => ?_)), h.dj, h.dg, h.sec, h.num⟩, fun g => hF g⟩
 ·obtain ⟨c1, f1, h1⟩ := own_type h.grp hg
  obtain ⟨c2, f2, h2⟩ := own_type h.awy hba
  rw [e2, h2] at h1
  simp only [Option.some.injEq, Obj.cells.injEq] at h1
  exact absurd h1.2.1 (by decide)
 ·obtain ⟨c1, f1, h1⟩ := own_type h.lst hg
  obtain ⟨c2, f2, h2⟩ := own_type h.awy hba
  rw [e2, h2] at h1
  simp only [Option.some.injEq, Obj.cells.injEq] at h1
  exact absurd h1.2.1 (by decide)
 ·show (w.setCell ⟨ba, i, none⟩ (.bool b)).ownsRow 0 _ 1 V.a (x.away.set i b).length (boolsV (x.away.set i b))
  rw [List.length_set, h.n2, e]
  have e3 : boolsV (x.away.set i b) = (boolsV x.away).set i (.bool b) := by simp [boolsV, List.map_set]
  rw [e3]
  exact hst.1
 ·exact (h.dg j g hj hg).2.2 (by rw [e2]; exact hba)
theorem vlose_any {w : World} {x : DvsT} {V : DvV} {F : Nat → Prop} {i : Nat} (h : IsDvs w x V F) (hi : i < x.ds.length) : ∃ bl cl db, V.l = .slice (some ⟨bl, 0, none⟩) x.ds.length cl ∧ w.cell? ⟨bl, i, none⟩ = some (.pointer (some ⟨db, 0, none⟩)) ∧ Calls Tryz.prog 52 #[.pointer (some ⟨db, 0, none⟩)] w fun e w' => e = .returned (.tuple #[]) ∧ DvsStep (x.set i (x.ds.getD i dvD).lose) V F w w' := by
 obtain ⟨dbs, Fd, h, hF⟩ := h
 obtain ⟨bl, cl, e, hc⟩ := h.lcell (by omega)
 refine ⟨bl, cl, dbs.getD i 0, e, hc i hi, (dlose_any (h.dev i hi)).mono ?_⟩
 rintro e w' ⟨rfl, hs⟩
 exact ⟨rfl, h.step hF hi hs⟩
def devOk (gs : Gs) (secs : Int) : Bool := rightB gs secs && decide (secs ≤ 200)
def BSl (w : World) (ao : Option Addr) (n cap : Nat) (l : List Bool) : Prop := RSl w 1 ao n cap (boolsV l)
theorem BSl.len {w : World} {ao : Option Addr} {n cap : Nat} {l : List Bool} (h : BSl w ao n cap l) : l.length = n := by
 have := h.1
 simpa [boolsV] using this
theorem BSl.below {w w' : World} {ao : Option Addr} {n cap : Nat} {l : List Bool} (h : BSl w ao n cap l) (hb : Below w.heap.size w w') : BSl w' ao n cap l := RSl.below h hb
theorem BSl.cells {w : World} {ao : Option Addr} {n cap : Nat} {l : List Bool} (h : BSl w ao n cap l) (hn : 0 < n) : ∃ b off, ao = some ⟨b, off, none⟩ ∧ b < w.heap.size ∧ ∀ k, k < n → w.cell? ⟨b, off + k, none⟩ = some (.bool (l.getD k false)) := by
 have hl := h.len
 obtain ⟨b, off, e, hb, hc⟩ := h.2.2.2.2 hn
 refine ⟨b, off, e, hb, fun k hk => ?_⟩
 rw [hc k (by omega)]
 have : k < l.length := by omega
 simp [boolsV, List.getD_eq_getElem?_getD, this]
end Go.Proofs.YtfaemcfjbbbbdaaGreat
