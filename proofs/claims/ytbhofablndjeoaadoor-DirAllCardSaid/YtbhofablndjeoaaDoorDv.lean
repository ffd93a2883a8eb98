/- Directories in the law's store, in plain words. -/
import Derived.Test.YtbhofablndjeoaaDoorDu
namespace Go.Proofs.YtbhofablndjeoaaDoor
set_option linter.unusedVariables false
/-- a store that doesn't fail, asked so often at most -/
structure Rd (k : Nat) (st : MemT) : Prop where
  f : st.fails = 0
  c : st.count ≤ 20000 * k
  l : st.L.length ≤ 6000 * k
  t : ∀ t ∈ st.L, t.length ≤ 256
theorem Rd.ok {k : Nat} {st : MemT} (h : Rd k st) (hk : k ≤ 150) : memOk' st.count st.L := ⟨by have := h.c; omega, by have := h.l; omega, h.t⟩
theorem Rd.grew {k : Nat} {st s2 : MemT} (h : Rd k st) (hg : Grew 6000 st s2) : Rd (k + 1) s2 := ⟨hg.f.trans h.f, by have := hg.c; have := h.c; omega, by have := hg.l; have := h.l; omega, hg.t h.t⟩
theorem Rd.read {k K : Nat} {st s2 : MemT} (h : Rd k st) (hg : Grew K st s2) (hK : K ≤ 20000) (hL : s2.L = st.L) : Rd (k + 1) s2 := ⟨hg.f.trans h.f, by have := hg.c; have := h.c; omega, by rw [hL]; have := h.l; omega, hg.t h.t⟩
theorem Rd.mono {k j : Nat} {st : MemT} (h : Rd k st) (hk : k ≤ j) : Rd j st := ⟨h.f, by have := h.c; omega, by have := h.l; omega, h.t⟩
theorem Rd.start : Rd 0 s0 := ⟨rfl, by decide, by decide, fun t ht => by cases ht⟩
theorem cost_writeD (n : NodeT) (off : Int) (s : Bs) (hs : s.length ≤ 520) : Cost 6000 (writeM memF n off s) := by
  unfold writeM
  split
  · exact (cost_err _).mono (by omega)
  · split
    · exact (cost_ret _).mono (by omega)
    · exact (cost_bind (cost_grown _ _) (fun n' => cost_writeTo _ _ _ _)).mono (by omega)
/-- what a directory holds -/
structure DI (L : List Bs) (d : NodeT) (D : Nat → Option NodeT) : Prop where
  nw : NW L d
  sz : d.size % 128 = 0
  le : d.size ≤ 4096
  none_ : ∀ id, id < 32 → D id = none → ∀ j, j < 128 → B L d (id * 128 + j) = 0
  some_ : ∀ id n, id < 32 → D id = some n → n.root.wf ∧ NdMay n ∧ ((id : Int) + 1) * 128 ≤ d.size ∧ ∃ s, nodeBs n = .ok s ∧ ∀ j, j < 128 → B L d (id * 128 + j) = gb s j
theorem DI.start (L : List Bs) : DI L nD (fun _ => none) := ⟨NW.start L, by decide, by decide, fun id _ _ j _ => B_start L _, fun id n _ h => by cases h⟩
theorem DI.mono {L : List Bs} {d : NodeT} {D : Nat → Option NodeT} (h : DI L d D) (X : List Bs) : DI (L ++ X) d D := by
  obtain ⟨a, b, c⟩ := h.nw.mono X
  exact ⟨a, h.sz, h.le, fun id hi hn j hj => by rw [b]; exact h.none_ id hi hn j hj, fun id n hi hn => by
    obtain ⟨h1, h2, h3, s, h4, h5⟩ := h.some_ id n hi hn
    exact ⟨h1, h2, h3, s, h4, fun j hj => by rw [b]; exact h5 j hj⟩⟩
def dRes (x : Option NodeT) : NodeT × Bool := match x with | none => (nD, false) | some n => (n, true)
theorem rd_text {L : List Bs} {d : NodeT} (hd : NW L d) (o : Nat) : ∀ t, t = segB L d o (min (o + 128) d.size.toNat) → (t ++ zeros (128 - t.length)).length = 128 ∧ ∀ j, j < 128 → gb (t ++ zeros (128 - t.length)) j = B L d (o + j) := by
  intro t ht
  have hl : t.length ≤ 128 := by rw [ht, seg_len]; omega
  refine ⟨by simp [zeros]; omega, fun j hj => ?_⟩
  rw [gb_pad]
  by_cases hlt : j < t.length
  · rw [ht] at hlt ⊢
    rw [seg_len] at hlt
    rw [seg_gb d hlt]
  · rw [gb_out (by omega)]
    rw [ht, seg_len] at hlt
    have := hd.s0
    exact (hd.tail _ (by omega)).symm
theorem DI.read {L : List Bs} {d : NodeT} {D : Nat → Option NodeT} (h : DI L d D) {id : Nat} (hi : id < 32) {t : Bs} (ht : t = segB L d (id * 128) (min (id * 128 + 128) d.size.toNat)) : readNd (t ++ zeros (128 - t.length)) = .ok (dRes (D id)) := by
  obtain ⟨h1, h2⟩ := rd_text h.nw (id * 128) t ht
  cases hD : D id with
  | none =>
    refine readNd_zero ?_
    have hz := h.none_ id hi hD
    unfold allZero
    rw [List.all_eq_true]
    intro x hx
    obtain ⟨j, hj, rfl⟩ := List.mem_iff_getElem.1 hx
    have := h2 j (by omega)
    rw [hz j (by omega), gb_at hj] at this
    simp [this]
  | some n =>
    obtain ⟨w, _, _, s, hs, hb⟩ := h.some_ id n hi hD
    have e : t ++ zeros (128 - t.length) = s := by
      apply eq_gb
      · rw [h1, nodeBs_len hs]
      · intro j hj
        rw [h2 j (by omega), hb j (by omega)]
    rw [e]
    exact node_back hs w
theorem cost_dread (d : NodeT) (id : Nat) : Cost 300 (dreadM memF d id) := cost_bind (cost_read _ _ _) (fun t => cost_pure _)
theorem rd_dread {k : Nat} {st : MemT} {d : NodeT} {D : Nat → Option NodeT} (h : Rd k st) (hd : DI st.L d D) {id : Nat} (hi : id < 32) : ∃ s2, dreadM memF d id st = (.ok (dRes (D id)), s2) ∧ s2.L = st.L ∧ s2.count ≤ st.count + 300 ∧ Rd (k + 1) s2 := by
  obtain ⟨s2, e, hl, hf⟩ := (run_read hd.nw.wf hd.nw.s1 ((id * 128 : Nat) : Int) 128 (by omega) (by omega)).at h.f
  have hg := cost_dread d id st
  have e1 : (min (((id * 128 : Nat) : Int) + 128) d.size).toNat = min (id * 128 + 128) d.size.toNat := by have := hd.nw.s0; omega
  have e2 : (((id * 128 : Nat) : Int)).toNat = id * 128 := by omega
  rw [e1, e2] at e
  have e3 : dreadM memF d id st = (.ok (dRes (D id)), s2) := (M.bind_ok e).trans (by
    show (readNd _, s2) = _
    rw [hd.read hi rfl])
  rw [e3] at hg
  exact ⟨s2, e3, hl, hg.c, h.read hg (by omega) hl⟩
theorem rd_dget {k : Nat} {st : MemT} {d : NodeT} {D : Nat → Option NodeT} (h : Rd k st) (hd : DI st.L d D) (id : Int) : ∃ s2, dgetM memF d id st = ((if idOk id then .ok (dRes (D id.toNat)) else .error 1), s2) ∧ s2.L = st.L ∧ Rd (k + 1) s2 := by
  unfold dgetM
  by_cases hi : idOk id
  · rw [if_pos hi, if_pos hi]
    obtain ⟨s2, e, hl, _, hr⟩ := rd_dread h hd (show id.toNat < 32 by have := hi.1; have := hi.2; omega)
    exact ⟨s2, e, hl, hr⟩
  · rw [if_neg hi, if_neg hi]
    exact ⟨st, rfl, rfl, h.mono (by omega)⟩
/-- a directory with another entry -/
def dUpd (D : Nat → Option NodeT) (id : Nat) (x : Option NodeT) : Nat → Option NodeT := fun i => if i = id then x else D i
theorem dwrite {k : Nat} {st : MemT} {d : NodeT} {D : Nat → Option NodeT} (h : Rd k st) (hk : k ≤ 148) (hd : DI st.L d D) (id : Nat) (hi : id < 32) (s : Bs) (hs : s.length = 128) :
    ∃ q s2, writeM memF d ((id * 128 : Nat) : Int) s st = (.ok q, s2) ∧ Rd (k + 1) s2 ∧ (∃ X, s2.L = st.L ++ X) ∧ NW s2.L q ∧ q.size = max d.size ((id : Int) * 128 + 128) ∧ ∀ j, B s2.L q j = if id * 128 ≤ j ∧ j < id * 128 + 128 then gb s (j - id * 128) else B st.L d j := by
  have hl := h.l
  have hg := cost_writeD d ((id * 128 : Nat) : Int) s (by omega) st
  obtain ⟨q, L', r, _, t, z, b⟩ := run_write hd.nw ((id * 128 : Nat) : Int) s (by omega) (by omega) (by omega)
  obtain ⟨s2, e, rfl, hf⟩ := r.at h.f
  rw [e] at hg
  have hne : s ≠ [] := fun e => by rw [e] at hs; simp at hs
  refine ⟨q, s2, e, h.grew hg, t.ext, t.ok, ?_, fun j => ?_⟩
  · rw [z, if_neg hne, hs]; omega
  · have := b j
    rw [hs] at this
    have e2 : (((id * 128 : Nat) : Int)).toNat = id * 128 := by omega
    rw [e2] at this
    exact this
theorem rd_dset {k : Nat} {st : MemT} {d : NodeT} {D : Nat → Option NodeT} (h : Rd k st) (hk : k ≤ 148) (hd : DI st.L d D) (id : Int) (n : NodeT) (hw : n.root.wf) :
    (¬ (idOk id ∧ NdMay n) ∧ dsetM memF d id n = M.err 1) ∨ (idOk id ∧ NdMay n ∧ ∃ q s2, dsetM memF d id n st = (.ok q, s2) ∧ Rd (k + 1) s2 ∧ (∃ X, s2.L = st.L ++ X) ∧ DI s2.L q (dUpd D id.toNat (some n)) ∧ q.size = max d.size ((id + 1) * 128)) := by
  by_cases hi : idOk id
  · rcases nodeBs_ok (n := n) with ⟨s, hs, hm⟩ | ⟨hs, hm⟩
    · right
      refine ⟨hi, hm, ?_⟩
      have i0 := hi.1
      have i1 := hi.2
      obtain ⟨q, s2, e, hr, hx, nw, z, b⟩ := dwrite h hk hd id.toNat (by omega) s (nodeBs_len hs)
      have h0 := hd.le
      have hsz := hd.sz
      have hs0 := hd.nw.s0
      refine ⟨q, s2, ?_, hr, hx, ⟨nw, by rw [z]; omega, by rw [z]; omega, fun i hi2 hn j hj => ?_, fun i m hi2 hn => ?_⟩, by rw [z]; omega⟩
      · unfold dsetM; rw [if_pos hi, hs]; exact e
      · unfold dUpd at hn
        by_cases hii : i = id.toNat
        · rw [if_pos hii] at hn; cases hn
        · rw [if_neg hii] at hn
          rw [b, if_neg (by omega)]
          exact hd.none_ i hi2 hn j hj
      · unfold dUpd at hn
        by_cases hii : i = id.toNat
        · rw [if_pos hii] at hn
          injection hn with hn
          subst hn
          refine ⟨hw, hm, by rw [z]; omega, s, hs, fun j hj => ?_⟩
          rw [b, if_pos (by omega)]
          congr 1; omega
        · rw [if_neg hii] at hn
          obtain ⟨h1, h2, h3, s', h4, h5⟩ := hd.some_ i m hi2 hn
          refine ⟨h1, h2, by rw [z]; omega, s', h4, fun j hj => ?_⟩
          rw [b, if_neg (by omega)]
          exact h5 j hj
    · left
      exact ⟨fun h => hm h.2, by unfold dsetM; rw [if_pos hi, hs]⟩
  · left
    exact ⟨fun h => hi h.1, by unfold dsetM; rw [if_neg hi]⟩
theorem rd_ddrop {k : Nat} {st : MemT} {d : NodeT} {D : Nat → Option NodeT} (h : Rd k st) (hk : k ≤ 147) (hd : DI st.L d D) (id : Int) :
    ∃ r s2, ddropM memF d id st = (r, s2) ∧ Rd (k + 2) s2 ∧ (∃ X, s2.L = st.L ++ X) ∧ ((¬ idOk id ∧ r = .error 1 ∧ s2.L = st.L) ∨ (idOk id ∧ D id.toNat = none ∧ r = .error 7 ∧ s2.L = st.L) ∨ (idOk id ∧ (∃ n, D id.toNat = some n) ∧ ∃ q, r = .ok q ∧ DI s2.L q (dUpd D id.toNat none) ∧ q.size = d.size)) := by
  obtain ⟨s1, e1, hl1, hr1⟩ := rd_dget h hd id
  by_cases hi : idOk id
  · rw [if_pos hi] at e1
    cases hD : D id.toNat with
    | none =>
      rw [hD] at e1
      have e : ddropM memF d id st = (.error 7, s1) := (M.bind_ok e1).trans rfl
      exact ⟨_, _, e, hr1.mono (by omega), ⟨[], by rw [hl1]; simp⟩, .inr (.inl ⟨hi, rfl, rfl, hl1⟩)⟩
    | some n =>
      rw [hD] at e1
      have i0 := hi.1
      have i1 := hi.2
      have hd1 : DI s1.L d D := by rw [hl1]; exact hd
      obtain ⟨q, s2, e2, hr, hx, nw, z, b⟩ := dwrite hr1 (by omega) hd1 id.toNat (by omega) (zeros 128) (by simp [zeros])
      have e : ddropM memF d id st = (.ok q, s2) := (M.bind_ok e1).trans e2
      obtain ⟨_, _, hin, _⟩ := hd.some_ id.toNat n (by omega) hD
      have h0 := hd.le
      have hsz := hd.sz
      have hs0 := hd.nw.s0
      rw [hl1] at hx b
      have hzq : q.size = d.size := by rw [z]; omega
      refine ⟨_, _, e, hr, hx, .inr (.inr ⟨hi, ⟨n, rfl⟩, q, rfl, ⟨nw, by rw [hzq]; exact hsz, by rw [hzq]; exact h0, fun i hi2 hn j hj => ?_, fun i m hi2 hn => ?_⟩, hzq⟩)⟩
      · unfold dUpd at hn
        by_cases hii : i = id.toNat
        · rw [b, if_pos (by omega), gb_zeros]
        · rw [if_neg hii] at hn
          rw [b, if_neg (by omega)]
          exact hd.none_ i hi2 hn j hj
      · unfold dUpd at hn
        by_cases hii : i = id.toNat
        · rw [if_pos hii] at hn; cases hn
        · rw [if_neg hii] at hn
          obtain ⟨h1, h2, h3, s', h4, h5⟩ := hd.some_ i m hi2 hn
          refine ⟨h1, h2, by rw [hzq]; exact h3, s', h4, fun j hj => ?_⟩
          rw [b, if_neg (by omega)]
          exact h5 j hj
  · rw [if_neg hi] at e1
    exact ⟨_, _, M.bind_err e1, hr1.mono (by omega), ⟨[], by rw [hl1]; simp⟩, .inl ⟨hi, rfl, hl1⟩⟩
/-- the numbers of objects -/
def dLst (D : Nat → Option NodeT) (k : Nat) : List Nat := (List.range k).filter fun i => (D i).isSome
theorem dLst_succ (D : Nat → Option NodeT) (k : Nat) : dLst D (k + 1) = if (D k).isSome then dLst D k ++ [k] else dLst D k := by
  unfold dLst
  rw [List.range_succ, List.filter_append]
  by_cases h : (D k).isSome = true
  · rw [if_pos h]; simp [h]
  · rw [if_neg h]; simp [h]
theorem rd_dlistTo {d : NodeT} {D : Nat → Option NodeT} {L0 : List Bs} (hd : DI L0 d D) : ∀ {f id k : Nat} {st : MemT}, Rd k st → st.L = L0 → id + f ≤ 32 → ∃ s2, dlistTo memF d f id (dLst D id) st = (.ok (dLst D (id + f)), s2) ∧ s2.L = L0 ∧ s2.count ≤ st.count + 300 * f ∧ s2.fails = 0 ∧ ∀ t ∈ s2.L, t.length ≤ 256
  | 0, id, k, st, h, hL, _ => ⟨st, rfl, hL, by omega, h.f, h.t⟩
  | f + 1, id, k, st, h, hL, hi => by
    obtain ⟨s1, e1, hl1, hc1, hr1⟩ := rd_dread h (by rw [hL]; exact hd) (show id < 32 by omega)
    obtain ⟨s2, e2, hl2, hc2, hf2, ht2⟩ := rd_dlistTo hd (f := f) (id := id + 1) hr1 (hl1.trans hL) (by omega)
    refine ⟨s2, ?_, hl2, by omega, hf2, ht2⟩
    refine (M.bind_ok e1).trans ?_
    have e3 : (if (dRes (D id)).2 = true then dLst D id ++ [id] else dLst D id) = dLst D (id + 1) := by
      rw [dLst_succ]
      cases D id <;> rfl
    rw [e3, show id + (f + 1) = id + 1 + f by omega]
    exact e2
theorem rd_dlist {k : Nat} {st : MemT} {d : NodeT} {D : Nat → Option NodeT} (h : Rd k st) (hd : DI st.L d D) : ∃ s2, dlistM memF d st = (.ok (dLst D 32), s2) ∧ s2.L = st.L ∧ Rd (k + 1) s2 := by
  have hm : dmost d ≤ 32 := by unfold dmost; omega
  obtain ⟨s2, e, hl, hc, hf, ht⟩ := rd_dlistTo hd (f := dmost d) (id := 0) h rfl (by omega)
  have e2 : dLst D (0 + dmost d) = dLst D 32 := by
    rw [Nat.zero_add]
    have key : ∀ j, dmost d + j ≤ 32 → dLst D (dmost d + j) = dLst D (dmost d) := by
      intro j
      induction j with
      | zero => intro _; rfl
      | succ j ih =>
        intro hj
        rw [show dmost d + (j + 1) = dmost d + j + 1 by omega, dLst_succ, ih (by omega)]
        cases hD : D (dmost d + j) with
        | none => rfl
        | some n =>
          obtain ⟨_, _, h3, _⟩ := hd.some_ _ n (by omega) hD
          have hz := hd.sz
          have h0 := hd.nw.s0
          unfold dmost at h3 hj
          omega
    have := key (32 - dmost d) (by omega)
    rw [show dmost d + (32 - dmost d) = 32 by omega] at this
    exact this.symm
  refine ⟨s2, ?_, hl, ⟨hf, by have := h.c; omega, by rw [hl]; have := h.l; omega, ht⟩⟩
  unfold dlistM
  rw [← e2]
  exact e
end Go.Proofs.YtbhofablndjeoaaDoor
