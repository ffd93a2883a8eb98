/- Stores as contracts; the walk of tree.item. -/
import Derived.Test.YtbhofablndjeoaaDoorTrA
namespace Go.Proofs.YtbhofablndjeoaaDoor
open Go.RowKit
set_option linter.unusedSimpArgs false
set_option linter.unusedVariables false
attribute [local go_sem ↓] wp_loadPt wp_storePt

/-- what a store's Get answers -/
def GetR : Except Nat Bs → Ending → Prop
  | .ok t, e => e = .returned (.tuple #[.string ⟨t.toArray⟩, .int .i64 0]) ∧ t.length ≤ 1000000
  | .error n, e => ∃ t : Bs, e = .returned (.tuple #[.string ⟨t.toArray⟩, .int .i64 (n : Nat)]) ∧ n ≠ 0
def PutR : Except Nat PtrT → Ending → Prop
  | .ok p, e => e = .returned (.tuple #[.agg (encPtr p).toArray, .int .i64 0]) ∧ p.wf
  | .error n, e => e = .returned (.tuple #[.agg (encPtr pD).toArray, .int .i64 (n : Nat)]) ∧ n ≠ 0
/-- a store behind an interface value: what it is in memory, and what its methods do -/
structure StoreC {σ : Type} (S : StF σ) (ty : TypeId) (a : Addr) where
  Is : World → σ → (Nat → Prop) → Prop
  Ok : σ → Prop
  kg : FuncId
  kp : FuncId
  mget : ∀ (n : Nat) (w : World), (method (n + 1) ty (.pointer (some a)) "Get").run Tryd.prog w = .ok (kg, .pointer (some a)) w
  nget : ∀ (n : Nat) (w : World), (nilAhead (n + 1) ty (.pointer (some a)) "Get").run Tryd.prog w = .ok (some false) w
  mput : ∀ (n : Nat) (w : World), (method (n + 1) ty (.pointer (some a)) "Put").run Tryd.prog w = .ok (kp, .pointer (some a)) w
  nput : ∀ (n : Nat) (w : World), (nilAhead (n + 1) ty (.pointer (some a)) "Put").run Tryd.prog w = .ok (some false) w
  cg : ∀ (args : Array Value) (w : World), (callFunc kg args).run Tryd.prog w = .ok (.enter kg args) w
  cp : ∀ (args : Array Value) (w : World), (callFunc kp args).run Tryd.prog w = .ok (.enter kp args) w
  lt : ∀ {w s F}, Is w s F → ∀ k, F k → k < w.heap.size
  kinds : ∀ {w s F}, Is w s F → ∀ (k : Nat) (cs : Array Value) (e : TypeId) (fr : Nat × Nat), F k → w.heap[k]? = some (.cells cs e fr) → e ≠ 5 ∧ e ≠ 92
  keep : ∀ {w w' s F}, Is w s F → w.heap.size ≤ w'.heap.size → (∀ k, F k → w'.heap[k]? = w.heap[k]?) → Is w' s F
  okget : ∀ p s, Ok (S.get p s).2 → Ok s
  okput : ∀ t l s, Ok (S.put t l s).2 → Ok s
  get : ∀ {w s F} (p : PtrT), Is w s F → p.wf → Ok (S.get p s).2 → Calls Tryd.prog kg #[.pointer (some a), .agg (encPtr p).toArray] w fun e w' => GetR (S.get p s).1 e ∧ ∃ F', Is w' (S.get p s).2 F' ∧ Mod F w w' ∧ ∀ k, F' k → F k ∨ w.heap.size ≤ k
  put : ∀ {w s F} (t : Bs) (l : Nat), Is w s F → t.length ≤ 256 → l ≤ 3 → Ok (S.put t l s).2 → Calls Tryd.prog kp #[.pointer (some a), .string ⟨t.toArray⟩, .int .i64 (l : Nat)] w fun e w' => PutR (S.put t l s).1 e ∧ ∃ F', Is w' (S.put t l s).2 F' ∧ Mod F w w' ∧ ∀ k, F' k → F k ∨ w.heap.size ≤ k
section
variable {σ : Type} {S : StF σ} {ty : TypeId} {a : Addr} (C : StoreC S ty a)
/-- from w to w' the store has gone on; what is not its own is as it was -/
def StoreC.Step (F : Nat → Prop) (s' : σ) (w w' : World) : Prop := ∃ F', C.Is w' s' F' ∧ Mod F w w' ∧ ∀ k, F' k → F k ∨ w.heap.size ≤ k
variable {C}
theorem StoreC.below {w w' : World} {s : σ} {F : Nat → Prop} (h : C.Is w s F) (hb : Below w.heap.size w w') : C.Is w' s F := C.keep h hb.size (fun k hk => hb.block k (C.lt h k hk))
theorem StoreC.Step.refl {w : World} {s : σ} {F : Nat → Prop} (h : C.Is w s F) : C.Step F s w w := ⟨F, h, Mod.refl _ _, fun _ hk => .inl hk⟩
theorem StoreC.Step.below {w w1 w2 : World} {s : σ} {F : Nat → Prop} (h : C.Step F s w w1) (hb : Below w1.heap.size w1 w2) : C.Step F s w w2 := by
  obtain ⟨F', h1, h2, h3⟩ := h
  exact ⟨F', StoreC.below h1 hb, h2.trans' hb, h3⟩
theorem StoreC.Step.mk' {w w1 w2 : World} {s : σ} {F : Nat → Prop} (hb : Below w.heap.size w w1) (h : C.Step F s w1 w2) : C.Step F s w w2 := by
  obtain ⟨F', h1, h2, h3⟩ := h
  refine ⟨F', h1, (Mod.below hb).self h2, fun k hk => (h3 k hk).imp id (fun h => Nat.le_trans hb.size h)⟩
/-- a step, and then another one, of the store as it is then -/
theorem StoreC.Step.trans {w w1 w2 : World} {s1 s2 : σ} {F F1 : Nat → Prop} (h1 : Mod F w w1) (hF : ∀ k, F1 k → F k ∨ w.heap.size ≤ k) (h2 : C.Step F1 s2 w1 w2) : C.Step F s2 w w2 := by
  obtain ⟨F', a1, a2, a3⟩ := h2
  refine ⟨F', a1, h1.trans a2 (fun x hx hf => (hF x hf).resolve_right (by omega)), fun k hk => ?_⟩
  rcases a3 k hk with h | h
  · exact hF k h
  · exact .inr (Nat.le_trans h1.size h)
/-- behind w: the store is s now, its blocks are F1; what was there and is not its own is as it was -/
def StoreC.At (C : StoreC S ty a) (F : Nat → Prop) (s : σ) (w wc : World) (F1 : Nat → Prop) : Prop := C.Is wc s F1 ∧ Mod F w wc ∧ ∀ k, F1 k → F k ∨ w.heap.size ≤ k
section
variable {w wc wd : World} {s s2 : σ} {F F1 : Nat → Prop}
theorem StoreC.At.start (h : C.Is w s F) : C.At F s w w F := ⟨h, Mod.refl _ _, fun _ hk => .inl hk⟩
theorem StoreC.At.below (h : C.At F s w wc F1) (hb : Below wc.heap.size wc wd) : C.At F s w wd F1 := ⟨StoreC.below h.1 hb, h.2.1.trans' hb, h.2.2⟩
theorem StoreC.At.size (h : C.At F s w wc F1) : w.heap.size ≤ wc.heap.size := h.2.1.size
theorem StoreC.At.lt (h : C.At F s w wc F1) : ∀ k, F1 k → k < wc.heap.size := C.lt h.1
theorem StoreC.At.fresh (h : C.At F s w wc F1) {g : Nat} (hg : wc.heap.size ≤ g) : ¬ F1 g := fun hf => by have := h.lt g hf; omega
theorem StoreC.At.put {g o : Nat} {vs : List Value} (h : C.At F s w wc F1) (h1 : w.heap.size ≤ g) (h2 : ¬ F1 g) : C.At F s w (wc.setCells g o vs) F1 := by
  have k := setCells_grown g vs wc o
  refine ⟨C.keep h.1 k.size (fun x hx => k.block x (h.lt x hx) (fun e => by simp only [Option.some.injEq] at e; exact h2 (by rw [e] at hx; exact hx))), h.2.1.put (.inr h1), h.2.2⟩
theorem StoreC.At.set {g j : Nat} {u : Value} (h : C.At F s w wc F1) (h1 : w.heap.size ≤ g) (h2 : ¬ F1 g) : C.At F s w (wc.setCell ⟨g, j, none⟩ u) F1 := h.put (o := j) (vs := [u]) h1 h2
theorem StoreC.At.step (h : C.At F s w wc F1) (k : C.Step F1 s2 wc wd) : ∃ F2, C.At F s2 w wd F2 ∧ (∀ x, x < wc.heap.size → ¬ F1 x → ¬ F2 x) ∧ Mod F1 wc wd := by
  obtain ⟨F2, a1, a2, a3⟩ := k
  refine ⟨F2, ⟨a1, h.2.1.trans a2 (fun x hx hf => (h.2.2 x hf).resolve_right (by omega)), fun x hx => ?_⟩, fun x hx hn hf => (a3 x hf).elim hn (by omega), a2⟩
  rcases a3 x hx with h1 | h1
  · exact h.2.2 x h1
  · exact .inr (Nat.le_trans h.size h1)
theorem StoreC.At.fin (h : C.At F s w wc F1) : C.Step F s w wc := ⟨F1, h.1, h.2.1, h.2.2⟩
end
end
/-- what a right item is -/
def Item.good : Item → Prop
  | .data s => s.length ≤ 256 ∧ s.length % 64 = 0
  | .index l => l.length = 4 ∧ ∀ p ∈ l, p.wf
  | .hole => True
theorem ptrOf_wf (s : Bs) (hs : s.length = 64) : (ptrOf s).wf := by
  have h4 : ∀ i, i < 6 → w4 s i < 4294967296 := fun i hi => num4 s (4 * i) (by omega)
  have h8 : ∀ i, i < 4 → w8 s i < 18446744073709551616 := fun i hi => num8 s (24 + 8 * i) (by omega)
  have a0 := h4 0 (by omega)
  have a1 := h4 1 (by omega)
  have a2 := h4 2 (by omega)
  have a3 := h4 3 (by omega)
  have a5 := h4 5 (by omega)
  have b0 := h8 0 (by omega)
  have b1 := h8 1 (by omega)
  have b2 := h8 2 (by omega)
  have b3 := h8 3 (by omega)
  constructor
  · constructor <;> (unfold I64' ptrOf; dsimp only; omega)
  all_goals (unfold U64' ptrOf; dsimp only; omega)
theorem nodeRead_good {s : Bs} {level : Int} {x : Item} (h : nodeRead s level = .ok x) : x.good := by
  unfold nodeRead at h
  split at h
  · split at h
    · rename_i ht
      simp only [textOk, Bool.and_eq_true, decide_eq_true_eq, Bool.or_eq_true] at ht
      split at h
      · split at h
        · simp only [Except.ok.injEq] at h
          subst h
          have hl : s.length = 256 := ht.2.resolve_left (by omega)
          refine ⟨rfl, fun p hp => ?_⟩
          simp only [indexOf, List.mem_cons, List.not_mem_nil, or_false] at hp
          rcases hp with rfl | rfl | rfl | rfl <;> exact ptrOf_wf _ (sub_length _ _ _ (by omega))
        · simp at h
      · simp only [Except.ok.injEq] at h
        subst h
        exact ⟨ht.1.2, ht.1.1.2⟩
    · simp at h
  · simp at h
theorem nodeRead_err {s : Bs} {level : Int} {n : Nat} (h : nodeRead s level = .error n) : n ≠ 0 := by
  unfold nodeRead at h
  split at h
  · split at h
    · split at h
      · split at h
        · simp at h
        · simp only [Except.error.injEq] at h; omega
      · simp at h
    · simp only [Except.error.injEq] at h; omega
  · simp only [Except.error.injEq] at h; omega
def ItemR : Except Nat Item → Ending → Prop
  | .ok x, e => e = .returned (.tuple #[encItem x, .int .i64 0]) ∧ x.good
  | .error n, e => e = .returned (.tuple #[.nilIface, .int .i64 (n : Nat)]) ∧ n ≠ 0
section
variable {σ : Type} {S : StF σ} {ty : TypeId} {a : Addr} {C : StoreC S ty a}
set_option maxHeartbeats 1000000 in
set_option maxRecDepth 100000 in
theorem item_any {w : World} {s : σ} {F : Nat → Prop} (h : C.Is w s F) (p : PtrT) (hp : p.wf) (hok : C.Ok (itemM S p s).2) :
    Calls Tryd.prog 46 #[.iface ty (.pointer (some a)), .agg (encPtr p).toArray] w fun e w' => ItemR (itemM S p s).1 e ∧ C.Step F (itemM S p s).2 w w' := by
  have hb := Blk.new w 35 (encPtr p)
  have hbel : Below w.heap.size w (w.alloc (.cells (encPtr p).toArray 35)) := (Below.refl _ _).alloc (Nat.le_refl _) _
  obtain ⟨w0, hw0⟩ : ∃ w0, w0 = w.alloc (.cells (encPtr p).toArray 35) := ⟨_, rfl⟩
  rw [← hw0] at hb hbel
  have hld := fun op a next Q => loadW_blk (P := Tryd.prog) hb Tryd.underlying35 rfl iszPt op a next Q
  have HB := Lib.hid hb
  have HBEL := Lib.hid hbel
  clear hb hbel
  by_cases hn : isNone p = true
  · have e : itemM S p = M.ret .hole := by unfold itemM; rw [if_pos hn]
    rw [e]
    have HN := Lib.hid hn
    clear hn e hok
    go_enter Tryd.func46, Tryd.ntmps46
    go_upto_region 1 with fail
    rw [← hw0]
    clear hw0
    go_wp2_with fail
    refine (None_any p hp w0).mono ?_
    rintro e w1 ⟨rfl, hb1⟩
    rw [HN.out]
    have hfin : C.Step F s w w1 := .below (.refl h) (HBEL.out.trans (hb1.mono HBEL.out.size))
    go_wp2_with fail
    go_ret2
    exact ⟨⟨rfl, trivial⟩, hfin⟩
  · have hn' : isNone p = false := by simpa using hn
    have e : itemM S p = M.bind (S.get p) fun t s => (nodeRead t p.level, s) := by unfold itemM; rw [if_neg hn]
    rw [e] at hok ⊢
    have HN := Lib.hid hn'
    clear hn hn' e
    have hmg := C.mget
    have hng := C.nget
    have hcg := C.cg
    have hc4 : w0.cell? ⟨w.heap.size, 6, none⟩ = some (.int .i64 p.level) := HB.out.cell 6
    rcases hg : S.get p s with ⟨r | t, s1⟩
    · have hx := M.bind_err (f := fun t s => (nodeRead t p.level, s)) hg
      rw [hx] at hok ⊢
      have HG := Lib.hid fun w2 (hb2 : Below w0.heap.size w0 w2) => C.get p (StoreC.below (StoreC.below h HBEL.out) hb2) hp (by rw [hg]; exact hok)
      rw [hg] at HG
      clear hx hok hg
      go_enter Tryd.func46, Tryd.ntmps46
      go_upto_region 1 with fail
      rw [← hw0]
      clear hw0
      go_wp2_with fail
      refine (None_any p hp w0).mono ?_
      rintro e w1 ⟨rfl, hb1⟩
      rw [HN.out]
      have HB1 := Lib.hid hb1
      have hld1 := fun op a next Q => loadW_blk (P := Tryd.prog) (HB.out.below hb1) Tryd.underlying35 rfl iszPt op a next Q
      clear hb1 hld
      go_wp2_with fail
      refine (HG.out w1 HB1.out).mono ?_
      rintro e w2 ⟨⟨t, rfl, hr0⟩, hstep⟩
      have hfin : C.Step F s1 w w2 := .mk' (HBEL.out.trans (HB1.out.mono HBEL.out.size)) hstep
      have hr1 : ((r : Int) != 0) = true := by simpa using hr0
      clear hstep
      go_wp2_with fail
      go_ret2
      exact ⟨⟨rfl, hr0⟩, hfin⟩
    · have hx := M.bind_ok (f := fun t s => (nodeRead t p.level, s)) hg
      rw [hx] at hok ⊢
      have HG := Lib.hid fun w2 (hb2 : Below w0.heap.size w0 w2) => C.get p (StoreC.below (StoreC.below h HBEL.out) hb2) hp (by rw [hg]; exact hok)
      rw [hg] at HG
      clear hx hok hg
      go_enter Tryd.func46, Tryd.ntmps46
      go_upto_region 1 with fail
      rw [← hw0]
      clear hw0
      go_wp2_with fail
      refine (None_any p hp w0).mono ?_
      rintro e w1 ⟨rfl, hb1⟩
      rw [HN.out]
      have HB1 := Lib.hid hb1
      have hld1 := fun op a next Q => loadW_blk (P := Tryd.prog) (HB.out.below hb1) Tryd.underlying35 rfl iszPt op a next Q
      clear hb1 hld
      go_wp2_with fail
      refine (HG.out w1 HB1.out).mono ?_
      rintro e w2 ⟨⟨rfl, hlt⟩, hstep⟩
      have hstep2 : C.Step F s1 w w2 := .mk' (HBEL.out.trans (HB1.out.mono HBEL.out.size)) hstep
      have hnf : ¬ F w.heap.size := fun hf => by have := C.lt h _ hf; omega
      have hb2 := hstep.choose_spec.2.1.blk (HB.out.below HB1.out) hnf
      have hc6 : w2.cell? ⟨w.heap.size, 6, none⟩ = some (.int .i64 p.level) := hb2.cell 6
      clear hstep hb2
      have HST := Lib.hid hstep2
      clear hstep2
      go_wp2_with fail
      refine (node_Read_any t p.level (by omega) w2).mono ?_
      rintro e w3 ⟨rfl, hb3⟩
      have hfin : C.Step F s1 w w3 := HST.out.below hb3
      rcases hnr : nodeRead t p.level with n | x
      · have hn0 := nodeRead_err hnr
        have HNR := Lib.hid hnr
        clear hnr
        go_wp2_with fail
        go_ret2
        refine ⟨?_, hfin⟩
        rw [HNR.out]
        exact ⟨rfl, hn0⟩
      · have hgd := nodeRead_good hnr
        have HNR := Lib.hid hnr
        clear hnr
        go_wp2_with fail
        go_ret2
        refine ⟨?_, hfin⟩
        rw [HNR.out]
        exact ⟨rfl, hgd⟩
end
end Go.Proofs.YtbhofablndjeoaaDoor
