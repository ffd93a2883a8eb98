/- dir.All in plain words. -/
import Derived.Test.YtbhofablndjeoaaDoorDv
namespace Go.Proofs.YtbhofablndjeoaaDoor
set_option linter.unusedVariables false
section
variable {σ : Type} (S : StF σ)
/-- the pointers of an object, as its root's level says -/
def tallM (n : NodeT) : M σ (List PtrT) := allM S (n.root.level.toNat + 1) n.root []
def dallL (d : NodeT) : List Nat → List PtrT → M σ (List PtrT)
  | [], out => M.ret out
  | id :: l, out => M.bind (dreadM S d id) fun r => M.bind (tallM S r.1) fun p => dallL d l (out ++ p)
def dallM (d : NodeT) : M σ (List PtrT) := M.bind (tallM S d) fun out => M.bind (dlistM S d) fun l => dallL S d l out
end
/-- a root of four levels at most -/
def lvOk (n : NodeT) : Prop := 0 ≤ n.root.level ∧ n.root.level ≤ 3
/-- each root that is met is -/
def DPre {σ : Type} (S : StF σ) (d : NodeT) : List Nat → σ → Prop
  | [], _ => True
  | id :: l, s => ∀ r s1, dreadM S d id s = (.ok r, s1) → lvOk r.1 ∧ ∀ p s2, tallM S r.1 s1 = (.ok p, s2) → DPre S d l s2
section
variable {σ : Type} {S : StF σ}
theorem links4 {p : PtrT} {s s' : σ} {l : List PtrT} (h : linksM S p s = (.ok l, s')) : l.length = 4 := by
  unfold linksM at h
  rcases M.bind_cases h with ⟨x, s1, h1, h2⟩ | ⟨e, s1, h1, h2⟩
  · injection h2 with h2 _
    cases x with
    | data t => simp [linksOf] at h2
    | hole => simp only [linksOf, Except.ok.injEq] at h2; rw [← h2]; rfl
    | index q =>
      simp only [linksOf, Except.ok.injEq] at h2
      rw [← h2]
      unfold itemM at h1
      split at h1
      · injection h1 with h1 _; injection h1 with h1; cases h1
      · rcases M.bind_cases h1 with ⟨t, s2, h3, h4⟩ | ⟨e, s2, h3, h4⟩
        · injection h4 with h4 _
          unfold nodeRead at h4
          split at h4
          · split at h4
            · split at h4
              · split at h4
                · injection h4 with h4; injection h4 with h4; rw [← h4]; rfl
                · cases h4
              · injection h4 with h4; cases h4
            · cases h4
          · cases h4
        · injection h4 with h4 _; cases h4
  · injection h2 with h2 _; cases h2
/-- how many pointers a tree has at most, by its level -/
def tnn : Nat → Nat
  | 0 => 1
  | k + 1 => 1 + 4 * tnn k
theorem len_allL {f : PtrT → List PtrT → M σ (List PtrT)} {K : Nat} (lv : Int) (hf : ∀ x o s o' s', (isNone x = true ∨ x.level = lv - 1) → f x o s = (.ok o', s') → o'.length ≤ o.length + K) : ∀ (l out : List PtrT) (s : σ) (o : List PtrT) (s' : σ), allL f lv l out s = (.ok o, s') → o.length ≤ out.length + l.length * K
  | [], out, s, o, s', h => by injection h with h _; injection h with h; subst h; omega
  | x :: r, out, s, o, s', h => by
    unfold allL at h
    split at h
    · injection h with h _; cases h
    · rename_i hc
      rcases M.bind_cases h with ⟨o1, s1, h1, h2⟩ | ⟨e, s1, h1, h2⟩
      · have a := hf _ _ _ _ _ (by
          by_cases hn : isNone x = true
          · exact .inl hn
          · exact .inr (Classical.byContradiction fun hl => hc ⟨hn, hl⟩)) h1
        have b := len_allL lv hf r o1 s1 o s' h2
        simp only [List.length_cons, Nat.succ_mul]; omega
      · injection h2 with h2 _; cases h2
theorem len_all : ∀ (k : Nat) (p : PtrT) (out : List PtrT) (s : σ) (o : List PtrT) (s' : σ), allM S (k + 1) p out s = (.ok o, s') → (isNone p = true ∨ p.level = (k : Int)) → o.length ≤ out.length + tnn k
  | k, p, out, s, o, s', h, hl => by
    unfold allM at h
    split at h
    · injection h with h _; injection h with h; subst h; omega
    · rename_i hn
      have hl2 := hl.resolve_left hn
      cases k with
      | zero =>
        rw [if_pos (by omega)] at h
        injection h with h _; injection h with h; subst h; simp [tnn]
      | succ k =>
        rw [if_neg (by omega)] at h
        rcases M.bind_cases h with ⟨l, s1, h1, h2⟩ | ⟨e, s1, h1, h2⟩
        · have := len_allL (K := tnn k) p.level (fun x o s o' s' hx hr => len_all k x o s o' s' hr (hx.imp id (fun hx => by omega))) l _ _ _ _ h2
          rw [links4 h1] at this
          simp only [List.length_append, List.length_singleton] at this
          unfold tnn; omega
        · injection h2 with h2 _; cases h2
theorem tnn_le {k : Nat} (h : k ≤ 3) : tnn k ≤ 85 := by
  have : k = 0 ∨ k = 1 ∨ k = 2 ∨ k = 3 := by omega
  rcases this with rfl | rfl | rfl | rfl <;> decide
theorem len_tall {n : NodeT} (hn : lvOk n) {s s' : σ} {o : List PtrT} (h : tallM S n s = (.ok o, s')) : o.length ≤ 85 := by
  obtain ⟨h0, h1⟩ := hn
  have := len_all n.root.level.toNat n.root [] s o s' h (.inr (by omega))
  have := tnn_le (show n.root.level.toNat ≤ 3 by omega)
  simp at *; omega
end
/-- a store that only is asked: as the one that doesn't fail, or lost -/
def Gd {α : Type} (m : M MemT α) : Prop := ∀ L, ∃ r, (∀ c, ∃ c', m ⟨L, c, 0⟩ = (r, ⟨L, c', 0⟩)) ∧ ∀ c f, ∃ c', m ⟨L, c, f⟩ = (r, ⟨L, c', f⟩) ∨ m ⟨L, c, f⟩ = (.error 6, ⟨L, c', f⟩)
section
variable {α β : Type}
theorem gd_pure (e : Except Nat α) : Gd (fun s => (e, s) : M MemT α) := fun L => ⟨e, fun c => ⟨c, rfl⟩, fun c f => ⟨c, .inl rfl⟩⟩
theorem gd_ret (a : α) : Gd (M.ret a : M MemT α) := gd_pure (.ok a)
theorem gd_err (n : Nat) : Gd (M.err n : M MemT α) := gd_pure (.error n)
theorem gd_bind {x : M MemT α} {f : α → M MemT β} (hx : Gd x) (hf : ∀ v, Gd (f v)) : Gd (M.bind x f) := fun L => by
  obtain ⟨r, h1, h2⟩ := hx L
  cases r with
  | error e =>
    refine ⟨.error e, fun c => ?_, fun c fl => ?_⟩
    · obtain ⟨c', h⟩ := h1 c; exact ⟨c', M.bind_err h⟩
    · obtain ⟨c', h | h⟩ := h2 c fl
      · exact ⟨c', .inl (M.bind_err h)⟩
      · exact ⟨c', .inr (M.bind_err h)⟩
  | ok v =>
    obtain ⟨r2, h3, h4⟩ := hf v L
    refine ⟨r2, fun c => ?_, fun c fl => ?_⟩
    · obtain ⟨c', h⟩ := h1 c
      obtain ⟨c2, h'⟩ := h3 c'
      exact ⟨c2, (M.bind_ok h).trans h'⟩
    · obtain ⟨c', h | h⟩ := h2 c fl
      · obtain ⟨c2, h' | h'⟩ := h4 c' fl
        · exact ⟨c2, .inl ((M.bind_ok h).trans h')⟩
        · exact ⟨c2, .inr ((M.bind_ok h).trans h')⟩
      · exact ⟨c', .inr (M.bind_err h)⟩
theorem gd_get (p : PtrT) : Gd (memF.get p) := fun L => by
  have aw : ∀ c, awakeB c 0 = true := fun c => by simp [awakeB]
  by_cases h : p.aa < 0 ∨ (L.length : Int) ≤ p.aa
  · refine ⟨.error 6, fun c => ⟨c + 1, ?_⟩, fun c f => ⟨c + 1, .inr ?_⟩⟩ <;> (unfold memF; dsimp only; rw [if_pos (.inr h)])
  · refine ⟨.ok (L.getD p.aa.toNat []), fun c => ⟨c + 1, ?_⟩, fun c f => ⟨c + 1, ?_⟩⟩
    · unfold memF; dsimp only; rw [if_neg (fun h1 => h1.elim (fun h1 => by rw [aw] at h1; cases h1) h)]
    · unfold memF; dsimp only
      by_cases ha : awakeB (c + 1) f = false
      · exact .inr (by rw [if_pos (.inl ha)])
      · exact .inl (by rw [if_neg (fun h1 => h1.elim ha h)])
theorem gd_item (p : PtrT) : Gd (itemM memF p) := by
  unfold itemM
  split
  · exact gd_ret _
  · exact gd_bind (gd_get p) (fun t => gd_pure _)
theorem gd_links (p : PtrT) : Gd (linksM memF p) := gd_bind (gd_item p) (fun x => gd_pure _)
theorem gd_leaf : ∀ (k : Nat) (p : PtrT) (i : Nat), Gd (leafM memF k p i)
  | 0, p, i => gd_ret _
  | k + 1, p, i => by
    unfold leafM
    split
    · exact gd_ret _
    · exact gd_bind (gd_links p) (fun l => gd_leaf k _ _)
theorem gd_block (n : NodeT) (i : Nat) : Gd (blockM memF n i) := by
  unfold blockM
  split
  · split
    · exact gd_ret _
    · exact gd_bind (gd_leaf _ _ _) (fun p => gd_bind (gd_item p) (fun x => gd_pure _))
  · exact gd_err _
theorem gd_bytes (n : NodeT) (i : Nat) : Gd (bytesM memF n i) := gd_bind (gd_block n i) (fun x => gd_ret _)
theorem gd_readTo (n : NodeT) (off till : Nat) : ∀ (f i : Nat) (out : Bs), Gd (readTo memF n off till f i out)
  | 0, _, _ => gd_ret _
  | f + 1, i, out => by
    unfold readTo
    split
    · exact gd_bind (gd_bytes n i) (fun s => gd_readTo n off till f _ _)
    · exact gd_ret _
theorem gd_read (n : NodeT) (off size : Int) : Gd (readM memF n off size) := by
  unfold readM
  split
  · exact gd_err _
  · split
    · exact gd_ret _
    · exact gd_readTo _ _ _ _ _ _
theorem gd_allL {f : PtrT → List PtrT → M MemT (List PtrT)} (hf : ∀ x o, Gd (f x o)) (lv : Int) : ∀ (l out : List PtrT), Gd (allL f lv l out)
  | [], out => gd_ret _
  | x :: r, out => by
    unfold allL
    split
    · exact gd_err _
    · exact gd_bind (hf x out) (fun o => gd_allL hf lv r o)
theorem gd_all : ∀ (f : Nat) (p : PtrT) (out : List PtrT), Gd (allM memF f p out)
  | 0, _, _ => gd_ret _
  | f + 1, p, out => by
    unfold allM
    split
    · exact gd_ret _
    · split
      · exact gd_ret _
      · exact gd_bind (gd_links p) (fun l => gd_allL (fun x o => gd_all f x o) _ _ _)
theorem gd_dread (d : NodeT) (id : Nat) : Gd (dreadM memF d id) := gd_bind (gd_read _ _ _) (fun s => gd_pure _)
theorem gd_dlistTo (d : NodeT) : ∀ (f id : Nat) (out : List Nat), Gd (dlistTo memF d f id out)
  | 0, _, _ => gd_ret _
  | f + 1, id, out => gd_bind (gd_dread d id) (fun r => gd_dlistTo d f _ _)
theorem gd_tall (n : NodeT) : Gd (tallM memF n) := gd_all _ _ _
theorem gd_dallL (d : NodeT) : ∀ (l : List Nat) (out : List PtrT), Gd (dallL memF d l out)
  | [], _ => gd_ret _
  | id :: l, out => gd_bind (gd_dread d id) (fun r => gd_bind (gd_tall r.1) (fun p => gd_dallL d l _))
theorem gd_dall (d : NodeT) : Gd (dallM memF d) := gd_bind (gd_tall d) (fun out => gd_bind (gd_dlistTo d _ _ _) (fun l => gd_dallL d l out))
/-- what it answers on blocks L, failing or not, within K askings -/
def Fx (K : Nat) (m : M MemT α) (L : List Bs) (a : α) : Prop := (∀ c, ∃ c', c' ≤ c + K ∧ m ⟨L, c, 0⟩ = (.ok a, ⟨L, c', 0⟩)) ∧ ∀ c f, ∃ c', c' ≤ c + K ∧ (m ⟨L, c, f⟩ = (.ok a, ⟨L, c', f⟩) ∨ m ⟨L, c, f⟩ = (.error 6, ⟨L, c', f⟩))
theorem Gd.fx {m : M MemT α} {L : List Bs} {a : α} {K : Nat} (h : Gd m) (hr : Run m L a L) (hc : Cost K m) : Fx K m L a := by
  obtain ⟨r, h1, h2⟩ := h L
  obtain ⟨c1, e1⟩ := h1 0
  obtain ⟨c2, e2⟩ := hr 0
  rw [e1] at e2
  injection e2 with e2 _
  subst e2
  refine ⟨fun c => ?_, fun c f => ?_⟩
  · obtain ⟨c', e⟩ := h1 c
    have := (hc ⟨L, c, 0⟩).c
    rw [e] at this
    exact ⟨c', this, e⟩
  · obtain ⟨c', e⟩ := h2 c f
    have := (hc ⟨L, c, f⟩).c
    rcases e with e | e <;> rw [e] at this
    · exact ⟨c', this, .inl e⟩
    · exact ⟨c', this, .inr e⟩
theorem Fx.ret (L : List Bs) (a : α) : Fx 0 (M.ret a) L a := ⟨fun c => ⟨c, by omega, rfl⟩, fun c f => ⟨c, by omega, .inl rfl⟩⟩
theorem Fx.mono {m : M MemT α} {L : List Bs} {a : α} {K J : Nat} (h : Fx K m L a) (hk : K ≤ J) : Fx J m L a := ⟨fun c => by
  obtain ⟨c', h1, h2⟩ := h.1 c; exact ⟨c', by omega, h2⟩, fun c f => by
  obtain ⟨c', h1, h2⟩ := h.2 c f; exact ⟨c', by omega, h2⟩⟩
theorem Fx.bind {x : M MemT α} {f : α → M MemT β} {L : List Bs} {a : α} {b : β} {K J : Nat} (h1 : Fx K x L a) (h2 : Fx J (f a) L b) : Fx (K + J) (M.bind x f) L b := by
  refine ⟨fun c => ?_, fun c fl => ?_⟩
  · obtain ⟨c', k, h⟩ := h1.1 c
    obtain ⟨c2, k2, h'⟩ := h2.1 c'
    exact ⟨c2, by omega, (M.bind_ok h).trans h'⟩
  · obtain ⟨c', k, h | h⟩ := h1.2 c fl
    · obtain ⟨c2, k2, h' | h'⟩ := h2.2 c' fl
      · exact ⟨c2, by omega, .inl ((M.bind_ok h).trans h')⟩
      · exact ⟨c2, by omega, .inr ((M.bind_ok h).trans h')⟩
    · exact ⟨c', by omega, .inr (M.bind_err h)⟩
end
theorem NW.lvOk {L : List Bs} {n : NodeT} (h : NW L n) : lvOk n := by
  have hw := h.wf
  by_cases hn : isNone n.root = true
  · have e := none_iff.1 hn
    unfold Go.Proofs.YtbhofablndjeoaaDoor.lvOk
    rw [e]; decide
  · have := hw.level (by simpa using hn)
    have := lvl_le3 n.size
    unfold Go.Proofs.YtbhofablndjeoaaDoor.lvOk
    omega
theorem ka_le {k : Nat} (h : k ≤ 3) : ka (k + 1) ≤ 85 := by
  have : k = 0 ∨ k = 1 ∨ k = 2 ∨ k = 3 := by omega
  rcases this with rfl | rfl | rfl | rfl <;> decide
theorem fx_tall {L : List Bs} {n : NodeT} (h : NW L n) : Fx 85 (tallM memF n) L (nPtrs L n) := by
  have hw := h.wf
  by_cases hn : isNone n.root = true
  · have e := none_iff.1 hn
    have e1 : tallM memF n = M.ret [] := by
      unfold tallM; rw [e]; unfold allM; rw [if_pos none_pD]
    have e2 : nPtrs L n = [] := by unfold nPtrs; rw [e, ptrs_none]
    rw [e1, e2]
    exact (Fx.ret _ _).mono (by omega)
  · have hl := hw.level (by simpa using hn)
    have e1 : tallM memF n = allM memF (lvl n.size + 1) n.root [] := by
      unfold tallM; rw [hl]; rfl
    rw [e1]
    have := (gd_all (lvl n.size + 1) n.root []).fx (run_all [] hw (lvl_le3 _)) ((cost_all _ _ _).mono (ka_le (lvl_le3 _)))
    rw [List.nil_append] at this
    exact this
theorem nPtrs_len {L : List Bs} {n : NodeT} (h : NW L n) : (nPtrs L n).length ≤ 85 := by
  obtain ⟨c', _, e⟩ := (fx_tall h).1 0
  exact len_tall h.lvOk e
theorem DI.node {L : List Bs} {d : NodeT} {D : Nat → Option NodeT} (h : DI L d D) {id : Nat} (hi : id < 32) : Fx 300 (dreadM memF d id) L (dRes (D id)) :=
  (gd_dread d id).fx (by
    have e1 : (min (((id * 128 : Nat) : Int) + 128) d.size).toNat = min (id * 128 + 128) d.size.toNat := by have := h.nw.s0; omega
    have e2 : (((id * 128 : Nat) : Int)).toNat = id * 128 := by omega
    have hr := run_read h.nw.wf h.nw.s1 ((id * 128 : Nat) : Int) 128 (by omega) (by omega)
    rw [e1, e2] at hr
    intro c
    obtain ⟨c', e⟩ := hr c
    exact ⟨c', (M.bind_ok e).trans (by
      show (readNd _, _) = _
      rw [h.read hi rfl])⟩) (cost_dread d id)
theorem DI.listTo {L : List Bs} {d : NodeT} {D : Nat → Option NodeT} (h : DI L d D) : ∀ {f id : Nat}, id + f ≤ 32 → Fx (300 * f) (dlistTo memF d f id (dLst D id)) L (dLst D (id + f))
  | 0, id, _ => Fx.ret _ _
  | f + 1, id, hi => by
    refine (Fx.bind (h.node (show id < 32 by omega)) (J := 300 * f) ?_).mono (by omega)
    have e3 : (if (dRes (D id)).2 = true then dLst D id ++ [id] else dLst D id) = dLst D (id + 1) := by
      rw [dLst_succ]
      cases D id <;> rfl
    rw [e3, show id + (f + 1) = id + 1 + f by omega]
    exact h.listTo (by omega)
theorem DI.most {L : List Bs} {d : NodeT} {D : Nat → Option NodeT} (h : DI L d D) : dmost d ≤ 32 ∧ dLst D (dmost d) = dLst D 32 := by
  have hm : dmost d ≤ 32 := by unfold dmost; omega
  refine ⟨hm, ?_⟩
  have key : ∀ j, dmost d + j ≤ 32 → dLst D (dmost d + j) = dLst D (dmost d) := by
    intro j
    induction j with
    | zero => intro _; rfl
    | succ j ih =>
      intro hj
      rw [show dmost d + (j + 1) = dmost d + j + 1 by omega, dLst_succ, ih (by omega)]
      cases hD : D (dmost d + j) with
      | none => rfl
      | some n =>
        obtain ⟨_, _, h3, _⟩ := h.some_ _ n (by omega) hD
        have hz := h.sz
        have h0 := h.nw.s0
        unfold dmost at h3 hj
        omega
  have := key (32 - dmost d) (by omega)
  rw [show dmost d + (32 - dmost d) = 32 by omega] at this
  exact this.symm
theorem DI.list {L : List Bs} {d : NodeT} {D : Nat → Option NodeT} (h : DI L d D) : Fx 9600 (dlistM memF d) L (dLst D 32) := by
  obtain ⟨h1, h2⟩ := h.most
  have := h.listTo (f := dmost d) (id := 0) (by omega)
  rw [Nat.zero_add, h2] at this
  exact this.mono (by omega)
/-- the pointers of what a directory holds at a number -/
def oPtrs (L : List Bs) (D : Nat → Option NodeT) (id : Nat) : List PtrT := match D id with | some n => nPtrs L n | none => []
/-- each object is a right tree -/
def Objs (L : List Bs) (D : Nat → Option NodeT) : Prop := ∀ id n, id < 32 → D id = some n → NW L n
theorem Objs.mono {L : List Bs} {D : Nat → Option NodeT} (h : Objs L D) (X : List Bs) : Objs (L ++ X) D := fun id n hi hn => ((h id n hi hn).mono X).1
theorem oPtrs_mono {L : List Bs} {D : Nat → Option NodeT} (h : Objs L D) (X : List Bs) {id : Nat} (hi : id < 32) : oPtrs (L ++ X) D id = oPtrs L D id := by
  unfold oPtrs
  cases hD : D id with
  | none => rfl
  | some n => exact ((h id n hi hD).mono X).2.2
theorem dLst_in {D : Nat → Option NodeT} {k id : Nat} : id ∈ dLst D k ↔ id < k ∧ ∃ n, D id = some n := by
  unfold dLst
  rw [List.mem_filter, List.mem_range]
  cases D id <;> simp
theorem dLst_len (D : Nat → Option NodeT) (k : Nat) : (dLst D k).length ≤ k := by
  have := List.length_filter_le (fun i => (D i).isSome) (List.range k)
  rw [List.length_range] at this
  exact this
theorem fx_dallL {L : List Bs} {d : NodeT} {D : Nat → Option NodeT} (h : DI L d D) (ho : Objs L D) : ∀ {l : List Nat} (out : List PtrT), (∀ id ∈ l, id < 32 ∧ ∃ n, D id = some n) → Fx (385 * l.length) (dallL memF d l out) L (out ++ l.flatMap (oPtrs L D))
  | [], out, _ => by simp only [List.flatMap_nil, List.append_nil]; exact Fx.ret _ _
  | id :: l, out, hl => by
    obtain ⟨hi, n, hn⟩ := hl id (by simp)
    have h1 := h.node hi
    rw [hn] at h1
    have h2 := fx_tall (ho id n hi hn)
    have e : oPtrs L D id = nPtrs L n := by unfold oPtrs; rw [hn]
    rw [List.flatMap_cons, e, ← List.append_assoc]
    exact (Fx.bind (J := 85 + 385 * l.length) h1 (Fx.bind h2 (fx_dallL h ho (out ++ nPtrs L n) (fun x hx => hl x (List.mem_cons_of_mem _ hx))))).mono (by rw [List.length_cons]; omega)
def dPtrs (L : List Bs) (d : NodeT) (D : Nat → Option NodeT) : List PtrT := nPtrs L d ++ (dLst D 32).flatMap (oPtrs L D)
theorem fx_dall {L : List Bs} {d : NodeT} {D : Nat → Option NodeT} (h : DI L d D) (ho : Objs L D) : Fx 22100 (dallM memF d) L (dPtrs L d D) :=
  (Fx.bind (fx_tall h.nw) (Fx.bind h.list (fx_dallL h ho _ (fun id hid => dLst_in.1 hid)))).mono (by have := dLst_len D 32; omega)
/-- the roots that dir.All meets -/
theorem dpre {L : List Bs} {d : NodeT} {D : Nat → Option NodeT} (h : DI L d D) (ho : Objs L D) : ∀ {l : List Nat}, (∀ id ∈ l, id < 32 ∧ ∃ n, D id = some n) → ∀ st : MemT, st.L = L → DPre memF d l st
  | [], _, _, _ => trivial
  | id :: l, hl, st, hL => by
    obtain ⟨L', c, f⟩ := st
    obtain rfl : L' = L := hL
    obtain ⟨hi, n, hn⟩ := hl id (by simp)
    have h1 := h.node hi
    rw [hn] at h1
    have hw := ho id n hi hn
    intro r s1 e1
    obtain ⟨c1, _, e | e⟩ := h1.2 c f
    · rw [e] at e1
      injection e1 with e1 e2
      injection e1 with e1
      subst e1 e2
      refine ⟨hw.lvOk, fun p s2 e3 => ?_⟩
      have e5 : tallM memF (dRes (some n)).1 = tallM memF n := rfl
      rw [e5] at e3
      obtain ⟨c2, _, e4 | e4⟩ := (fx_tall hw).2 c1 f
      · rw [e4] at e3
        injection e3 with e3 e6
        subst e6
        exact dpre h ho (fun x hx => hl x (List.mem_cons_of_mem _ hx)) _ rfl
      · rw [e4] at e3
        injection e3 with e3 _
        cases e3
    · rw [e] at e1
      injection e1 with e1 _
      cases e1
theorem rd_write {k : Nat} {st : MemT} (h : Rd k st) (hk : k ≤ 148) (o : Nat) (s : Bs) (ho : o < 3000) (hs : s.length ≤ 500) :
    ∃ q s2, writeM memF nD (o : Int) s st = (.ok q, s2) ∧ Rd (k + 1) s2 ∧ (∃ X, s2.L = st.L ++ X) ∧ NW s2.L q := by
  have hl := h.l
  have hg := cost_writeD nD (o : Int) s (by omega) st
  obtain ⟨q, L', r, _, t, z, b⟩ := run_write (NW.start st.L) (o : Int) s (by omega) (by omega) (by omega)
  obtain ⟨s2, e, rfl, hf⟩ := r.at h.f
  rw [e] at hg
  exact ⟨q, s2, e, h.grew hg, t.ext, t.ok⟩
/-- where the law stands behind i objects -/
structure DaS (st : MemT) (d : NodeT) (D : Nat → Option NodeT) (i k : Nat) : Prop where
  rd : Rd k st
  di : DI st.L d D
  ob : Objs st.L D
  dom : ∀ id, id < 32 → ((∃ n, D id = some n) ↔ id < i)
theorem DaS.start : DaS s0 nD (fun _ => none) 0 0 := ⟨Rd.start, DI.start _, (fun id n _ h => by cases h), fun id _ => ⟨fun hh => (by obtain ⟨n, h⟩ := hh; cases h), fun h => by omega⟩⟩
theorem Fx.at0 {α : Type} {m : M MemT α} {K k : Nat} {a : α} {st : MemT} (h : Fx K m st.L a) (hK : K ≤ 20000) (hr : Rd k st) : ∃ s2, m st = (.ok a, s2) ∧ s2.L = st.L ∧ Rd (k + 1) s2 := by
  obtain ⟨L, c, f⟩ := st
  obtain ⟨hf, hc, hl, ht⟩ := hr
  dsimp only at hf hc hl ht h
  subst hf
  obtain ⟨c', k', e⟩ := h.1 c
  exact ⟨_, e, rfl, rfl, by dsimp only; omega, by dsimp only; omega, ht⟩
theorem DaS.round {st : MemT} {d : NodeT} {D : Nat → Option NodeT} {i k : Nat} (h : DaS st d D i k) (hk : k ≤ 100) (hi : i < 12) (o : Nat) (s : Bs) (ho : o < 3000) (hs : s.length ≤ 500) :
    ∃ n s1 s2 q s3 D', writeM memF nD (o : Int) s st = (.ok n, s1) ∧ NW s1.L n ∧ tallM memF n s1 = (.ok (nPtrs s1.L n), s2) ∧ dsetM memF d (i : Int) n s2 = (.ok q, s3) ∧ DaS s3 q D' (i + 1) (k + 3) ∧ Rd (k + 1) s1 ∧ Rd (k + 2) s2 ∧ (nPtrs s1.L n).length ≤ 85 ∧ oPtrs s3.L D' i = nPtrs s1.L n ∧ ∀ j, j < i → oPtrs s3.L D' j = oPtrs st.L D j := by
  obtain ⟨n, s1, e1, r1, ⟨X1, x1⟩, hn⟩ := rd_write h.rd (by omega) o s ho hs
  obtain ⟨s2, e2, l2, r2⟩ := (fx_tall hn).at0 (by omega) r1
  have hL1 : s1.L.length ≤ 1000000 := by have := r1.l; omega
  have hok := hn.wf.ok (lvl_le3 _) hL1
  have hd1 : DI s2.L d D := by rw [l2, x1]; exact h.di.mono X1
  have hids : idOk (i : Int) := ⟨by omega, by omega⟩
  have hmay : NdMay n := ⟨hn.s0, by have := hn.s1; unfold maxC; omega, hok.1⟩
  rcases rd_dset r2 (by omega) hd1 (i : Int) n hok.2 with ⟨h1, _⟩ | ⟨_, _, q, s3, e3, r3, ⟨X3, x3⟩, hd3, _⟩
  · exact absurd ⟨hids, hmay⟩ h1
  · rw [show (i : Int).toNat = i by omega] at hd3
    have x4 : s3.L = st.L ++ (X1 ++ X3) := by rw [x3, l2, x1, List.append_assoc]
    have hn3 := hn.mono X3
    have x5 : s3.L = s1.L ++ X3 := by rw [x3, l2]
    refine ⟨n, s1, s2, q, s3, _, e1, hn, e2, e3, ⟨r3, hd3, ?_, ?_⟩, r1, r2, nPtrs_len hn, ?_, ?_⟩
    · intro id m hid hm
      unfold dUpd at hm
      by_cases he : id = i
      · rw [if_pos he] at hm
        injection hm with hm
        subst hm
        rw [x5]; exact hn3.1
      · rw [if_neg he] at hm
        rw [x4]; exact ((h.ob id m hid hm).mono _).1
    · intro id hid
      unfold dUpd
      by_cases he : id = i
      · rw [if_pos he]; exact ⟨fun _ => by omega, fun _ => ⟨n, rfl⟩⟩
      · rw [if_neg he, h.dom id hid]; omega
    · unfold oPtrs dUpd
      rw [if_pos rfl]
      dsimp only
      rw [x5]; exact hn3.2.2
    · intro j hj
      have e : oPtrs s3.L (dUpd D i (some n)) j = oPtrs s3.L D j := by
        unfold oPtrs dUpd
        rw [if_neg (by omega)]
      rw [e, x4]
      exact oPtrs_mono h.ob _ (by omega)
theorem dLst_dom {D : Nat → Option NodeT} {i : Nat} (h : ∀ id, id < 32 → ((∃ n, D id = some n) ↔ id < i)) : ∀ k, k ≤ 32 → dLst D k = List.range (min k i)
  | 0, _ => by simp [dLst]
  | k + 1, hk => by
    rw [dLst_succ, dLst_dom h k (by omega)]
    have hd := h k (by omega)
    by_cases hki : k < i
    · obtain ⟨n, hn⟩ := hd.2 hki
      rw [hn, show min (k + 1) i = k + 1 by omega, show min k i = k by omega, List.range_succ]
      rfl
    · have hn : D k = none := by
        cases hD : D k with
        | none => rfl
        | some n => exact absurd (hd.1 ⟨n, hD⟩) hki
      rw [hn, show min (k + 1) i = i by omega, show min k i = i by omega]
      rfl
/-- a head, then the lists of the first i numbers -/
def preL (P : List PtrT) (O : Nat → List PtrT) (i : Nat) : List PtrT := P ++ (List.range i).flatMap O
theorem preL_zero (P : List PtrT) (O : Nat → List PtrT) : preL P O 0 = P := by simp [preL]
theorem preL_succ (P : List PtrT) (O : Nat → List PtrT) (i : Nat) : preL P O (i + 1) = preL P O i ++ O i := by
  unfold preL
  rw [List.range_succ, List.flatMap_append, List.append_assoc]
  simp
theorem preL_pre (P : List PtrT) (O : Nat → List PtrT) {i : Nat} : ∀ {n : Nat}, i ≤ n → ∃ R, preL P O n = preL P O i ++ R
  | 0, h => ⟨[], by rw [show i = 0 by omega]; simp⟩
  | n + 1, h => by
    by_cases he : i = n + 1
    · exact ⟨[], by rw [he]; simp⟩
    · obtain ⟨R, e⟩ := preL_pre P O (show i ≤ n by omega)
      exact ⟨R ++ O n, by rw [preL_succ, e, List.append_assoc]⟩
theorem preL_get (P : List PtrT) (O : Nat → List PtrT) {i n j : Nat} (hi : i < n) (hj : j < (O i).length) : (preL P O i).length + j < (preL P O n).length ∧ (preL P O n).getD ((preL P O i).length + j) pD = (O i).getD j pD := by
  obtain ⟨R, e⟩ := preL_pre P O (show i + 1 ≤ n by omega)
  rw [e, preL_succ]
  refine ⟨by simp only [List.length_append]; omega, ?_⟩
  simp only [List.getD_eq_getElem?_getD]
  rw [List.append_assoc, List.getElem?_append_right (by omega), Nat.add_sub_cancel_left, List.getElem?_append_left hj]
theorem preL_getP (P : List PtrT) (O : Nat → List PtrT) {n j : Nat} (hj : j < P.length) : j < (preL P O n).length ∧ (preL P O n).getD j pD = P.getD j pD := by
  unfold preL
  refine ⟨by simp only [List.length_append]; omega, ?_⟩
  simp only [List.getD_eq_getElem?_getD]
  rw [List.getElem?_append_left hj]
theorem preL_len (P : List PtrT) (O : Nat → List PtrT) (hP : P.length ≤ 85) : ∀ (n : Nat), (∀ j, j < n → (O j).length ≤ 85) → (preL P O n).length ≤ 85 * (n + 1)
  | 0, _ => by rw [preL_zero]; omega
  | n + 1, h => by
    have := preL_len P O hP n (fun j hj => h j (by omega))
    have := h n (by omega)
    rw [preL_succ, List.length_append]; omega
theorem DaS.ends {st : MemT} {d : NodeT} {D : Nat → Option NodeT} {i k : Nat} (h : DaS st d D i k) (hi : i ≤ 12) (hk : k ≤ 100) :
    ∃ s1 s2, dallM memF d st = (.ok (preL (nPtrs st.L d) (oPtrs st.L D) i), s1) ∧ s1.L = st.L ∧ tallM memF d s1 = (.ok (nPtrs st.L d), s2) ∧ s2.L = st.L ∧ Rd (k + 2) s1 ∧ Rd (k + 3) s2 ∧
    (nPtrs st.L d).length ≤ 85 ∧ (∀ j, j < i → (oPtrs st.L D j).length ≤ 85) ∧ ∀ (s : MemT), s.L = st.L → s.count = 0 → ∃ s3, s3.count ≤ 22100 ∧ s3.L = st.L ∧ (dallM memF d s = (.ok (preL (nPtrs st.L d) (oPtrs st.L D) i), s3) ∨ dallM memF d s = (.error 6, s3)) := by
  have e : dPtrs st.L d D = preL (nPtrs st.L d) (oPtrs st.L D) i := by
    unfold dPtrs preL
    rw [dLst_dom h.dom 32 (Nat.le_refl _), show min 32 i = i by omega]
  have hx := fx_dall h.di h.ob
  rw [e] at hx
  obtain ⟨L, c, f⟩ := st
  obtain ⟨hf, hc, hl, ht⟩ := h.rd
  dsimp only at hf hc hl ht
  subst hf
  obtain ⟨c1, k1, e1⟩ := hx.1 c
  obtain ⟨c2, k2, e2⟩ := (fx_tall h.di.nw).1 c1
  refine ⟨_, _, e1, rfl, e2, rfl, ⟨rfl, by dsimp only; omega, by dsimp only; omega, ht⟩, ⟨rfl, by dsimp only; omega, by dsimp only; omega, ht⟩, nPtrs_len h.di.nw, fun j hj => ?_, fun s hs h0 => ?_⟩
  · obtain ⟨n, hn⟩ := (h.dom j (by omega)).2 hj
    have : oPtrs L D j = nPtrs L n := by unfold oPtrs; rw [hn]
    dsimp only
    rw [this]
    exact nPtrs_len (h.ob j n (by omega) hn)
  · obtain ⟨L', c', f'⟩ := s
    obtain rfl : L' = L := hs
    obtain rfl : c' = 0 := h0
    obtain ⟨c3, k3, e3⟩ := hx.2 0 f'
    exact ⟨⟨L', c3, f'⟩, by dsimp only; omega, rfl, e3⟩
theorem ptrs_wf {L : List Bs} (hL : L.length ≤ 1000000) : ∀ {k : Nat} {p : PtrT}, WF L k p → k ≤ 3 → ∀ q ∈ ptrs L k p, q.wf
  | 0, p, h, hk, q, hq => by
    unfold ptrs at hq
    split at hq
    · cases hq
    · rw [List.mem_singleton] at hq; rw [hq]; exact (h.ok hk hL).2
  | k + 1, p, h, hk, q, hq => by
    unfold ptrs at hq
    split at hq
    · cases hq
    · rcases List.mem_cons.1 hq with hq | hq
      · rw [hq]; exact (h.ok hk hL).2
      · obtain ⟨x, hx, hq⟩ := List.mem_flatMap.1 hq
        exact ptrs_wf hL (h.kids x hx) (by omega) q hq
theorem nPtrs_wf {L : List Bs} (hL : L.length ≤ 1000000) {n : NodeT} (h : NW L n) : ∀ q ∈ nPtrs L n, q.wf := ptrs_wf hL h.wf (lvl_le3 _)
theorem getD_wf {l : List PtrT} (h : ∀ q ∈ l, q.wf) (j : Nat) : (l.getD j pD).wf := by
  by_cases hj : j < l.length
  · rw [List.getD_eq_getElem?_getD, List.getElem?_eq_getElem hj]; exact h _ (List.getElem_mem _)
  · rw [List.getD_eq_getElem?_getD, List.getElem?_eq_none (by omega)]; exact pD_ok.2
theorem DaS.wfs {st : MemT} {d : NodeT} {D : Nat → Option NodeT} {i k : Nat} (h : DaS st d D i k) (hi : i ≤ 12) (hk : k ≤ 100) : (∀ q ∈ nPtrs st.L d, q.wf) ∧ ∀ j, j < i → ∀ q ∈ oPtrs st.L D j, q.wf := by
  have hL : st.L.length ≤ 1000000 := by have := h.rd.l; omega
  refine ⟨nPtrs_wf hL h.di.nw, fun j hj => ?_⟩
  obtain ⟨n, hn⟩ := (h.dom j (by omega)).2 hj
  have : oPtrs st.L D j = nPtrs st.L n := by unfold oPtrs; rw [hn]
  rw [this]
  exact nPtrs_wf hL (h.ob j n (by omega) hn)
theorem dpre_all {L : List Bs} {d : NodeT} {D : Nat → Option NodeT} (h : DI L d D) (ho : Objs L D) (st : MemT) (hL : st.L = L) : ∀ out s1 l s2, tallM memF d st = (.ok out, s1) → dlistM memF d s1 = (.ok l, s2) → DPre memF d l s2 := by
  obtain ⟨L', c, f⟩ := st
  obtain rfl : L' = L := hL
  intro out s1 l s2 e1 e2
  obtain ⟨c1, _, e3 | e3⟩ := (fx_tall h.nw).2 c f
  · rw [e3] at e1
    injection e1 with _ e1
    subst e1
    obtain ⟨c2, _, e4 | e4⟩ := h.list.2 c1 f
    · rw [e4] at e2
      injection e2 with e2 e5
      injection e2 with e2
      subst e2 e5
      exact dpre h ho (fun id hid => dLst_in.1 hid) _ rfl
    · rw [e4] at e2
      injection e2 with e2 _
      cases e2
  · rw [e3] at e1
    injection e1 with e1 _
    cases e1
end Go.Proofs.YtbhofablndjeoaaDoor
