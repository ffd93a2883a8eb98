/- The walk of dir.All. -/
import Derived.Test.YtbhofablndjeoaaDoorDwA
import Derived.Test.YtbhofablndjeoaaDoorDz
namespace Go.Proofs.YtbhofablndjeoaaDoor
open Go.RowKit
set_option linter.unusedSimpArgs false
set_option linter.unusedVariables false
attribute [local go_sem ↓] wp_loadPt wp_storePt wp_loadNd wp_storeNd wp_bldNd
/-- append of whatever slice that can be read, nil too, to what the call owns, and where the row lies then -/
theorem wpList_append_rsl_at {P : Program} {w : World} {ops : Array Oper} {rest : List Oper} {o : Oper} {a : Act} {Q : Exit → Act → World → Prop} (hgd : o.guard = none) (s x : Operand) (t : TypeId)
    (ho : o.op = .call { callee := .builtin .append, args := #[s, x], argTypes := #[t, t] })
    (base : Nat) (e : TypeId) (i : TypeInfo) (z : Value) (size bytes : Nat) (ht : P.underlying t = some (.slice e)) (hi : P.info? e = some i) (hz : i.zero = some z)
    (hsize : i.size = size) (hby : i.bytes = bytes) (hzs : z.cells.size = size) (hsz : 0 < size)
    (v : Value) (n : Nat) (xs : List Value) (hs : a.eval s = v) (hown : w.ownsRow base e size v n xs)
    (ao : Option Addr) (m c : Nat) (news : List Value) (hx : a.eval x = .slice ao m c) (hr : RSl w size ao m c news) (h1 : ∀ u ∈ news, u.oneCell' = true)
    (h63 : n + m ≤ maxLen) (hbytes : (n + m) * bytes ≤ 140737488355328) (hbase : base ≤ w.heap.size)
    (h : ∀ v' w', w'.ownsRow base e size v' (n + m) (xs ++ news) → w.grownBy w' v.ownBlock → (v'.ownBlock = v.ownBlock ∨ v'.ownBlock = some w.heap.size) → wpList P ops Q rest (a.put o.dst v') w') : wpList P ops Q (o :: rest) a w := by
  cases ao with
  | none =>
    have hc : c = 0 := hr.2.2.2.1 rfl
    have hm : m = 0 := by have := hr.2.1; omega
    subst hc hm
    have hn : news = [] := List.eq_nil_of_length_eq_zero (by have := hr.1; simpa using this)
    subst hn
    refine wpList_append_own_none hgd s x t ho base e i size ht hi v n xs hs hown hx (h v w ?_ (World.grownBy.refl _ _) (.inl rfl))
    simpa using hown
  | some ad =>
    exact wpList_append_own_at w hgd s x t ho base e i z size bytes ht hi hz hsize hby hzs hsz v n xs hs hown ad m c news hx hr.1 (RSl.news hr) h1 h63 hbytes hbase (fun v' w' a1 a2 _ a4 => h v' w' a1 a2 a4)
section
variable {σ : Type} {S : StF σ} {ty : TypeId} {a : Addr} {C : StoreC S ty a}
theorem owns_base {w : World} {b b' e k n : Nat} {v : Value} {xs : List Value} (h : w.ownsRow b e k v n xs) (hb : b' ≤ b) : w.ownsRow b' e k v n xs := by
  obtain ⟨h1, h2⟩ := h
  refine ⟨h1, ?_⟩
  rcases h2 with h2 | ⟨g, cap, cur, h3, h4, h5⟩
  · exact .inl h2
  · exact .inr ⟨g, cap, cur, h3, by omega, h5⟩
theorem At.join {F0 F1 F2 : Nat → Prop} {wB wr wc : World} {s0 s2 : σ} (h : C.At F0 s0 wB wr F1) (k : C.At F1 s2 wr wc F2) : C.At F0 s2 wB wc F2 :=
  ⟨k.1, h.2.1.trans k.2.1 (fun x hx hf => (h.2.2 x hf).resolve_right (by omega)), fun x hx => by
    rcases k.2.2 x hx with h1 | h1
    · exact h.2.2 x h1
    · exact .inr (Nat.le_trans h.size h1)⟩
theorem AllSt.over {F0 F1 F2 : Nat → Prop} {wB wr wc : World} {s0 s2 : σ} {v : Value} {out : List PtrT} (h : C.At F0 s0 wB wr F1) (k : AllSt C F1 wr wc s2 F2 v out) : AllSt C F0 wB wc s2 F2 v out :=
  ⟨At.join h k.at_, owns_base k.row h.size, k.dis⟩
/-- more is appended -/
theorem AllSt.app {F0 F : Nat → Prop} {wB w w' : World} {st : σ} {v v' : Value} {out p : List PtrT} (h : AllSt C F0 wB w st F v out) (hown : w'.ownsRow wB.heap.size 35 12 v' (out.length + p.length) (encPs out ++ encPs p)) (hg : w.grownBy w' v.ownBlock) (hat : v'.ownBlock = v.ownBlock ∨ v'.ownBlock = some w.heap.size) : AllSt C F0 wB w' st F v' (out ++ p) := by
  refine ⟨⟨C.keep h.at_.1 hg.size (fun x hx => hg.block x (h.at_.lt x hx) (fun e => h.dis x e.symm hx)), ?_, h.at_.2.2⟩, ?_, ?_⟩
  · refine h.at_.2.1.trans (Mod.grownO (F := fun k => v.ownBlock = some k) hg (fun g hg => hg)) (fun x hx hv => ?_)
    have := (h.row.lt x hv).1
    omega
  · rw [List.length_append, encPs_append]
    exact hown
  · intro g hgg hF
    rcases hat with e | e
    · exact h.dis g (by rw [← e]; exact hgg) hF
    · rw [e] at hgg
      have := h.at_.lt g hF
      simp only [Option.some.injEq] at hgg
      omega
/-- where All stands: the store, the row that grows, the directory's block, and the row of numbers -/
structure DaI (C : StoreC S ty a) (F : Nat → Prop) (w wr : World) (d : NodeT) (s1 : σ) (F1 : Nat → Prop) (v : Value) (out : List PtrT) (vl : Value) (l : List Nat) : Prop where
  st : AllSt C F w wr s1 F1 v out
  bn : Blk wr w.heap.size 37 (encN d)
  f0 : ¬ F1 w.heap.size
  ll : ∃ b, wr.ownsRow b 3 1 vl l.length (encI l)
  fl : ∀ g, vl.ownBlock = some g → ¬ F1 g
/-- rows of unlike elements lie in unlike blocks -/
theorem owns_apart {w : World} {b b' e e' k k' n n' : Nat} {v v' : Value} {xs xs' : List Value} (h : w.ownsRow b e k v n xs) (h' : w.ownsRow b' e' k' v' n' xs') (he : e ≠ e') (g : Nat) (hg : v.ownBlock = some g) : v'.ownBlock ≠ some g := by
  intro hg'
  rcases h.2 with ⟨h1, _⟩ | ⟨g1, cap, cur, h1, _, h2, _⟩
  · rw [h1] at hg; cases hg
  · rcases h'.2 with ⟨h3, _⟩ | ⟨g2, cap2, cur2, h3, _, h4, _⟩
    · rw [h3] at hg'; cases hg'
    · rw [h1] at hg
      rw [h3] at hg'
      simp only [Value.ownBlock, Option.some.injEq] at hg hg'
      subst hg
      subst hg'
      rw [h2] at h4
      simp only [Option.some.injEq, Obj.cells.injEq] at h4
      exact he h4.2.1
theorem owns_nblk {w : World} {b e e' k n g : Nat} {v : Value} {xs cs : List Value} (h : w.ownsRow b e k v n xs) (hb : Blk w g e' cs) (he : e ≠ e') : v.ownBlock ≠ some g := by
  intro hg
  rcases h.2 with ⟨h1, _⟩ | ⟨g1, cap, cur, h1, _, h2, _⟩
  · rw [h1] at hg; cases hg
  · rw [h1] at hg
    simp only [Value.ownBlock, Option.some.injEq] at hg
    subst hg
    unfold Blk at hb
    rw [hb] at h2
    simp only [Option.some.injEq, Obj.cells.injEq] at h2
    exact he h2.2.1.symm
theorem grown_row {w w' : World} {b e k n : Nat} {v : Value} {r : Option Nat} {xs : List Value} (hg : w.grownBy w' r) (h : w.ownsRow b e k v n xs) (hn : ∀ g, v.ownBlock = some g → r ≠ some g) : w'.ownsRow b e k v n xs :=
  rowK (F := fun g => r = some g) (Mod.grownO hg (fun g hg => hg)) h (fun g hgg hr => hn g hgg hr)
section
variable {F F1 : Nat → Prop} {w wr wc : World} {d : NodeT} {s1 s2 : σ} {v vl : Value} {out : List PtrT} {l : List Nat}
theorem DaI.below (h : DaI C F w wr d s1 F1 v out vl l) (hb : Below wr.heap.size wr wc) : DaI C F w wc d s1 F1 v out vl l :=
  ⟨h.st.below hb, h.bn.below hb, h.f0, by obtain ⟨b, k⟩ := h.ll; exact ⟨b, owns_below k hb⟩, h.fl⟩
theorem DaI.step (h : DaI C F w wr d s1 F1 v out vl l) (hs : C.Step F1 s2 wr wc) : ∃ F2, DaI C F w wc d s2 F2 v out vl l ∧ (∀ x, x < wr.heap.size → ¬ F1 x → ¬ F2 x) ∧ Mod F1 wr wc := by
  obtain ⟨F2, h1, h2, h3⟩ := h.st.step hs
  obtain ⟨b, k⟩ := h.ll
  exact ⟨F2, ⟨h1, h3.blk h.bn h.f0, h2 _ h.bn.lt h.f0, ⟨b, rowK h3 k h.fl⟩, fun g hg => h2 g (k.lt g hg).2 (h.fl g hg)⟩, h2, h3⟩
/-- behind another All the row of its own lies beside -/
theorem DaI.all (h : DaI C F w wr d s1 F1 v out vl l) {F2 : Nat → Prop} {vp : Value} {p : List PtrT} (k : AllSt C F1 wr wc s2 F2 vp p) : DaI C F w wc d s2 F2 v out vl l ∧ (∃ b, wc.ownsRow b 35 12 vp p.length (encPs p)) ∧ (∀ g, vp.ownBlock = some g → ¬ F2 g) ∧ ∀ g, v.ownBlock = some g → vp.ownBlock ≠ some g := by
  obtain ⟨F3, h1, h2, h3⟩ := h.step k.at_.fin
  obtain ⟨b, kl⟩ := h.ll
  refine ⟨⟨⟨At.join h.st.at_ k.at_, h1.st.row, fun g hg hf => ?_⟩, h1.bn, fun hf => ?_, h1.ll, fun g hg hf => ?_⟩, ⟨_, k.row⟩, k.dis, fun g hg e => ?_⟩
  · rcases k.at_.2.2 g hf with h4 | h4
    · exact h.st.dis g hg h4
    · have := (h.st.row.lt g hg).2; omega
  · rcases k.at_.2.2 _ hf with h4 | h4
    · exact h.f0 h4
    · have := h.bn.lt; omega
  · rcases k.at_.2.2 g hf with h4 | h4
    · exact h.fl g hg h4
    · have := (kl.lt g hg).2; omega
  · have := (h.st.row.lt g hg).2
    have := (k.row.lt g e).1
    omega
/-- and is appended -/
theorem DaI.app (h : DaI C F w wr d s1 F1 v out vl l) {v' : Value} {p : List PtrT} (hown : wc.ownsRow w.heap.size 35 12 v' (out.length + p.length) (encPs out ++ encPs p)) (hg : wr.grownBy wc v.ownBlock) (hat : v'.ownBlock = v.ownBlock ∨ v'.ownBlock = some wr.heap.size) : DaI C F w wc d s1 F1 v' (out ++ p) vl l := by
  have hne := owns_nblk h.st.row h.bn (by decide)
  obtain ⟨b, kl⟩ := h.ll
  refine ⟨h.st.app hown hg hat, ?_, h.f0, ⟨b, grown_row hg kl (fun g hgg => owns_apart kl h.st.row (by decide) g hgg)⟩, h.fl⟩
  unfold Blk
  rw [hg.block _ h.bn.lt (fun e => hne e.symm)]
  exact h.bn
theorem DaI.cell {bl o n cap k : Nat} (h : DaI C F w wr d s1 F1 v out (.slice (some ⟨bl, o, none⟩) n cap) l) (hk : k < l.length) : wr.cell? ⟨bl, o + k, none⟩ = some (.int .i64 ((l.getD k 0 : Nat) : Int)) := by
  obtain ⟨b, kl⟩ := h.ll
  obtain ⟨ao, c, e⟩ := row_formD kl
  simp only [Value.slice.injEq] at e
  obtain ⟨rfl, rfl, rfl⟩ := e
  obtain ⟨b', o', e, hc⟩ := rsl_int (rsl_of_owns kl) (by omega)
  simp only [Option.some.injEq, Addr.mk.injEq, and_true] at e
  obtain ⟨rfl, rfl⟩ := e
  exact hc wr (Below.refl _ _) k hk
end
/-- the numbers that List answers are below what it looks at -/
theorem listTo_lt (d : NodeT) : ∀ (f id : Nat) (out : List Nat) (s s' : σ) (l : List Nat), dlistTo S d f id out s = (.ok l, s') → (∀ x ∈ out, x < id + f) → (∀ x ∈ l, x < id + f) ∧ l.length ≤ out.length + f
  | 0, id, out, s, s', l, h, ho => by injection h with h _; injection h with h; subst h; exact ⟨ho, by omega⟩
  | f + 1, id, out, s, s', l, h, ho => by
    rcases M.bind_cases h with ⟨r, s1, h1, h2⟩ | ⟨e, s1, h1, h2⟩
    · have := listTo_lt d f (id + 1) _ s1 s' l h2 (fun x hx => by
        split at hx
        · rcases List.mem_append.1 hx with hx | hx
          · have := ho x hx; omega
          · simp only [List.mem_singleton] at hx; omega
        · have := ho x hx; omega)
      refine ⟨fun x hx => by have := this.1 x hx; omega, ?_⟩
      have h3 := this.2
      split at h3
      · simp only [List.length_append, List.length_singleton] at h3; omega
      · omega
    · injection h2 with h2 _; cases h2
theorem list_lt {d : NodeT} {s s' : σ} {l : List Nat} (h : dlistM S d s = (.ok l, s')) : (∀ x ∈ l, x < 32) ∧ l.length ≤ 32 := by
  have := listTo_lt d (dmost d) 0 [] s s' l h (fun x hx => by cases hx)
  have hm : dmost d ≤ 32 := by unfold dmost; omega
  exact ⟨fun x hx => by have := this.1 x hx; omega, by have := this.2; simp at this; omega⟩
theorem back_tall {Ok : σ → Prop} (hg : ∀ p, Back Ok (S.get p)) (n : NodeT) : Back Ok (tallM S n) := back_all hg _ _ _
theorem back_dallL {Ok : σ → Prop} (hg : ∀ p, Back Ok (S.get p)) (d : NodeT) : ∀ (l : List Nat) (out : List PtrT), Back Ok (dallL S d l out)
  | [], _ => back_ret _
  | id :: l, out => back_bind (back_dread hg d id) (fun r => back_bind (back_tall hg r.1) (fun p => back_dallL hg d l _))
set_option maxHeartbeats 4000000 in
set_option maxRecDepth 100000 in
theorem dall_any {w : World} {st : σ} {F : Nat → Prop} (h : C.Is w st F) (d : NodeT) (hd : d.wf) (hds : 0 ≤ d.size ∧ d.size ≤ 1000000) (hlv : lvOk d) (hpre : ∀ out s1 l s2, tallM S d st = (.ok out, s1) → dlistM S d s1 = (.ok l, s2) → DPre S d l s2) (hok : C.Ok (dallM S d st).2) :
    Calls Tryd.prog 27 #[.iface ty (.pointer (some a)), .agg (encN d).toArray] w (AllsR C w F (dallM S d st)) := by
  obtain ⟨w0, hw0⟩ : ∃ w0, w0 = w.alloc (.cells (encN d).toArray 37) := ⟨_, rfl⟩
  have hb : Blk w0 w.heap.size 37 (encN d) := by rw [hw0]; exact Blk.new w _ _
  have hbel : Below w.heap.size w w0 := by rw [hw0]; exact (Below.refl _ _).alloc (Nat.le_refl _) _
  have hat : C.At F st w w0 F := (StoreC.At.start h).below hbel
  have HF0 : Hid (¬ F w.heap.size) := Lib.hid (fun hf => by have := C.lt h _ hf; omega)
  have hbt : ∀ out, Back C.Ok (M.bind (dlistM S d) fun l => dallL S d l out) := fun out => back_bind (back_dlistTo C.bg d _ _ _) (fun l => back_dallL C.bg d l out)
  have hokt : C.Ok (tallM S d st).2 := back_first hbt (by exact hok)
  have HTA : Hid (Calls Tryd.prog 17 #[.iface ty (.pointer (some a)), .agg (encN d).toArray] w0 (AllsR C w0 F (tallM S d st))) := Lib.hid (All_any (C := C) hat.1 d hd d.root.level.toNat (by have := hlv.2; omega) (.inr (by have := hlv.1; omega)) hokt)
  have HAT := Lib.hid hat
  have HB := Lib.hid hb
  obtain ⟨R, hR⟩ : ∃ R, dallM S d st = R := ⟨_, rfl⟩
  rw [hR] at hok ⊢
  have HOK := Lib.hid hok
  have HPRE := Lib.hid hpre
  have hld := fun op a next Q => loadW_blk (P := Tryd.prog) HB.out Tryd.underlying37 rfl iszNd op a next Q
  obtain ⟨i0, hi, hi0, hi1, hi2⟩ := info_parts infoPt
  clear hok hb hbel hat hokt hpre
  rcases ht : tallM S d st with ⟨r | out0, s1⟩
  · have HRE : Hid (R = (.error r, s1)) := Lib.hid (by rw [← hR]; exact M.bind_err ht)
    rw [ht] at HTA
    clear hR ht hbt
    go_enter Tryd.func27, Tryd.ntmps27
    go_upto_region 1 with fail
    rw [show w.alloc (.cells (encN d).toArray 37) = w0 from hw0.symm]
    clear hw0
    go_wp2_with fail
    refine HTA.out.mono ?_
    rintro e w1 ⟨rfl, hr0, hstep⟩
    have hr1 : ((r : Int) != 0) = true := by simpa using hr0
    obtain ⟨F2, hat2, _⟩ := HAT.out.step hstep
    have HAT2 := Lib.hid hat2
    have HR0 := Lib.hid hr0
    clear hstep hat2 hld hr0
    go_wp2_with fail
    go_ret2
    rw [HRE.out]
    exact ⟨rfl, HR0.out, HAT2.out.fin⟩
  · have hE : M.bind (dlistM S d) (fun l => dallL S d l out0) s1 = R := by rw [← hR]; exact (M.bind_ok (f := fun out => M.bind (dlistM S d) fun l => dallL S d l out) ht).symm
    have HLO : Hid (out0.length ≤ 85) := Lib.hid (len_tall hlv ht)
    have HPR1 : Hid (∀ l s2, dlistM S d s1 = (.ok l, s2) → DPre S d l s2) := Lib.hid (fun l s2 e => HPRE.out out0 s1 l s2 ht e)
    rw [ht] at HTA
    have HOKL : Hid (C.Ok (dlistM S d s1).2) := Lib.hid (back_first (f := fun l => dallL S d l out0) (fun l => back_dallL C.bg d l out0) (by rw [hE]; exact HOK.out))
    clear hR ht hbt HPRE
    rcases hl : dlistM S d s1 with ⟨r | l, s2⟩
    · have HRE : Hid (R = (.error r, s2)) := Lib.hid (by rw [← hE]; exact M.bind_err hl)
      have HL := Lib.hid hl
      clear hE hl
      go_enter Tryd.func27, Tryd.ntmps27
      go_upto_region 1 with fail
      rw [show w.alloc (.cells (encN d).toArray 37) = w0 from hw0.symm]
      clear hw0
      go_wp2_with fail
      refine HTA.out.mono ?_
      rintro e w1 ⟨v1, F1, rfl, hs1⟩
      have HS1 := Lib.hid hs1
      have HDL := Lib.hid (dlist_any (C := C) hs1.at_.1 d hd hds HOKL.out)
      rw [HL.out] at HDL
      have hld1 := fun op a next Q => loadW_blk (P := Tryd.prog) (HS1.out.at_.2.1.blk HB.out HF0.out) Tryd.underlying37 rfl iszNd op a next Q
      clear hs1 hld
      go_wp2_with fail
      refine HDL.out.mono ?_
      rintro e w2 ⟨rfl, hr0, hstep⟩
      have hr1 : ((r : Int) != 0) = true := by simpa using hr0
      obtain ⟨F2, hat2, _⟩ := (At.join HAT.out HS1.out.at_).step hstep
      have HAT2 := Lib.hid hat2
      have HR0 := Lib.hid hr0
      clear hstep hat2 hld1 hr0
      go_wp2_with fail
      go_ret2
      rw [HRE.out]
      exact ⟨rfl, HR0.out, HAT2.out.fin⟩
    · have HE0 : Hid (dallL S d l out0 s2 = R) := Lib.hid (by rw [← hE]; exact (M.bind_ok (f := fun l => dallL S d l out0) hl).symm)
      have HL := Lib.hid hl
      have HLL := Lib.hid (list_lt hl)
      have HPR := Lib.hid (HPR1.out l s2 hl)
      have hl32 := (list_lt hl).2
      clear hE hl HPR1
      go_enter Tryd.func27, Tryd.ntmps27
      go_upto_region 1 with fail
      rw [show w.alloc (.cells (encN d).toArray 37) = w0 from hw0.symm]
      clear hw0
      go_wp2_with fail
      refine HTA.out.mono ?_
      rintro e w1 ⟨v1, F1, rfl, hs1⟩
      have HS1 := Lib.hid hs1
      have HDL := Lib.hid (dlist_any (C := C) hs1.at_.1 d hd hds HOKL.out)
      rw [HL.out] at HDL
      have hld1 := fun op a next Q => loadW_blk (P := Tryd.prog) (HS1.out.at_.2.1.blk HB.out HF0.out) Tryd.underlying37 rfl iszNd op a next Q
      clear hs1 hld
      go_wp2_with fail
      refine HDL.out.mono ?_
      rintro e w2 ⟨vl, F2, rfl, hls⟩
      have HI0 : Hid (DaI C F w w2 d s2 F2 v1 out0 vl l) := Lib.hid (by
        have h1 := AllSt.over HAT.out HS1.out
        have hb1 := HS1.out.at_.2.1.blk HB.out HF0.out
        have hf1 : ¬ F1 w.heap.size := fun hf => by
          rcases HS1.out.at_.2.2 _ hf with h4 | h4
          · exact HF0.out h4
          · have := HB.out.lt; omega
        refine ⟨⟨At.join h1.at_ hls.at_, hls.at_.2.1.row h1.row h1.dis, fun g hg hf => ?_⟩, hls.at_.2.1.blk hb1 hf1, fun hf => ?_, ⟨_, hls.row⟩, hls.dis⟩
        · rcases hls.at_.2.2 g hf with h4 | h4
          · exact h1.dis g hg h4
          · have := (h1.row.lt g hg).2; omega
        · rcases hls.at_.2.2 _ hf with h4 | h4
          · exact hf1 h4
          · have := hb1.lt; omega)
      obtain ⟨aol, cpl, rfl⟩ := row_formD hls.row
      clear hls hld1 HTA HDL HS1
      go_wp2_with fail
      go_loopw [6, 35] (fun v6 vi wr => ∃ (i : Nat) (out : List PtrT) (s3 : σ) (F3 : Nat → Prop), vi = .int .i64 i ∧ i ≤ l.length ∧ Hid (DaI C F w wr d s3 F3 v6 out (.slice aol l.length cpl) l) ∧ Hid (dallL S d (l.drop i) out s3 = R) ∧ Hid (DPre S d (l.drop i) s3) ∧ Hid (out.length ≤ 85 * (i + 1))) (fun _ vi _ => l.length - (intOf vi).toNat)
      case atStart => exact ⟨0, out0, s2, F2, rfl, Nat.zero_le _, HI0, HE0, HPR, Lib.hid (by have := HLO.out; omega)⟩
      case round =>
        obtain ⟨i, out, s3, F3, rfl, hik, HI, HE, HP, HOL⟩ := hrel
        by_cases hlt : i < l.length
        · obtain ⟨ao6, cp6, rfl⟩ := row_formD HI.out.st.row
          have q1 : (i : Int) < (l.length : Int) := by omega
          have q2 : 0 ≤ (i : Int) := by omega
          obtain ⟨bl, ol, rfl⟩ : ∃ bl ol, aol = some ⟨bl, ol, none⟩ := by
            obtain ⟨b, kl⟩ := HI.out.ll
            obtain ⟨b', o', e, _⟩ := rsl_int (rsl_of_owns kl) (by omega)
            exact ⟨b', o', e⟩
          obtain ⟨x, hx⟩ : ∃ x, x = l.getD i 0 := ⟨_, rfl⟩
          have c38 : wr.cell? ⟨bl, ol + i, none⟩ = some (.int .i64 (x : Nat)) := by rw [hx]; exact HI.out.cell hlt
          have hdrop : l.drop i = x :: l.drop (i + 1) := by
            rw [List.drop_eq_getElem_cons hlt, hx]; simp [List.getD_eq_getElem?_getD, hlt]
          have hx32 : x < 32 := HLL.out.1 x (by rw [hx]; simp [List.getD_eq_getElem?_getD, hlt])
          have hE : M.bind (dreadM S d x) (fun r => M.bind (tallM S r.1) fun p => dallL S d (l.drop (i + 1)) (out ++ p)) s3 = R := by
            have := HE.out; rw [hdrop] at this; exact this
          have hP := HP.out
          rw [hdrop] at hP
          have hokr : C.Ok (dreadM S d x s3).2 := back_first (f := fun r => M.bind (tallM S r.1) fun p => dallL S d (l.drop (i + 1)) (out ++ p)) (fun r => back_bind (back_tall C.bg r.1) (fun p => back_dallL C.bg d _ _)) (by rw [hE]; exact HOK.out)
          have HRD := Lib.hid (dread_any (C := C) HI.out.st.at_.1 d hd x (by omega) hokr)
          have hld3 := fun op a next Q => loadW_blk (P := Tryd.prog) HI.out.bn Tryd.underlying37 rfl iszNd op a next Q
          clear hx hdrop
          rcases hr : dreadM S d x s3 with ⟨r | ⟨n, b⟩, s4⟩
          · rw [M.bind_err hr] at hE
            rw [hr] at HRD
            have HRE := Lib.hid hE
            clear hE hr hokr hP
            go_wp2_with fail
            refine HRD.out.mono ?_
            rintro e w3 ⟨hrd, hre, hstep⟩
            unfold RdR at hrd
            subst hrd
            obtain ⟨F4, hI4, _⟩ := HI.out.step hstep
            have hr0 := hre r rfl
            have hr1 : ((r : Int) != 0) = true := by simpa using hr0
            have hst8 := fun op a next Q => store_newNd nD w3 op a next Q
            have HI4 := Lib.hid (hI4.below (wc := w3.alloc (.cells (encN nD).toArray 37)) ((Below.refl _ _).alloc (Nat.le_refl _) _))
            have HR0 := Lib.hid hr0
            clear hI4 hstep hre hld3 hr0
            unfold ndB errV
            go_wp2_with fail
            go_ret2
            rw [← HRE.out]
            exact ⟨rfl, HR0.out, HI4.out.st.at_.fin⟩
          · rw [M.bind_ok hr] at hE
            have hnw := dread_wf hr
            obtain ⟨hlvn, hP2⟩ := hP _ _ hr
            rw [hr] at HRD
            have HP2 := Lib.hid hP2
            have hokt : C.Ok (tallM S n s4).2 := back_first (f := fun p => dallL S d (l.drop (i + 1)) (out ++ p)) (fun p => back_dallL C.bg d _ _) (by rw [hE]; exact HOK.out)
            have HOKT := Lib.hid hokt
            have HLVN := Lib.hid hlvn
            have HNW := Lib.hid hnw
            have HE2 := Lib.hid hE
            clear hE hr hokr hP hP2 hokt hlvn hnw
            go_wp2_with fail
            refine HRD.out.mono ?_
            rintro e w3 ⟨hrd, hre, hstep⟩
            unfold RdR at hrd
            subst hrd
            obtain ⟨F4, hI4, _⟩ := HI.out.step hstep
            have hst8 := fun op a next Q => store_newNd n w3 op a next Q
            obtain ⟨w4, hw4⟩ : ∃ w4, w4 = w3.alloc (.cells (encN n).toArray 37) := ⟨_, rfl⟩
            obtain ⟨g4, hg4⟩ : ∃ g4, g4 = w3.heap.size := ⟨_, rfl⟩
            have HI5 : Hid (DaI C F w w4 d s4 F4 (.slice ao6 out.length cp6) out (.slice (some ⟨bl, ol, none⟩) l.length cpl) l) := Lib.hid (by rw [hw4]; exact hI4.below ((Below.refl _ _).alloc (Nat.le_refl _) _))
            have HB4 : Hid (Blk w4 g4 37 (encN n)) := Lib.hid (by rw [hw4, hg4]; exact Blk.new w3 _ _)
            clear hI4 hstep hre hld3
            unfold ndB errV
            go_upto_region 11 with fail
            rw [← hw4, ← hg4]
            clear hw4 hst8 hg4
            have HTA : Hid (Calls Tryd.prog 17 #[.iface ty (.pointer (some a)), .agg (encN n).toArray] w4 (AllsR C w4 F4 (tallM S n s4))) := Lib.hid (All_any (C := C) HI5.out.st.at_.1 n HNW.out n.root.level.toNat (by have := HLVN.out.2; omega) (.inr (by have := HLVN.out.1; omega)) HOKT.out)
            have hld4 := fun op a next Q => loadW_blk (P := Tryd.prog) HB4.out Tryd.underlying37 rfl iszNd op a next Q
            rcases ht : tallM S n s4 with ⟨r | p, s5⟩
            · have hE := HE2.out
              try dsimp only at hE
              rw [M.bind_err ht] at hE
              rw [ht] at HTA
              have HRE := Lib.hid hE
              clear hE ht
              go_wp2_with fail
              refine HTA.out.mono ?_
              rintro e w5 ⟨rfl, hr0, hstep⟩
              have hr1 : ((r : Int) != 0) = true := by simpa using hr0
              obtain ⟨F5, hI6, _⟩ := HI5.out.step hstep
              have HI6 := Lib.hid hI6
              have HR0 := Lib.hid hr0
              clear hI6 hstep hld4 hr0
              go_wp2_with fail
              go_ret2
              rw [← HRE.out]
              exact ⟨rfl, HR0.out, HI6.out.st.at_.fin⟩
            · have hE := HE2.out
              try dsimp only at hE
              rw [M.bind_ok ht] at hE
              have HE3 := Lib.hid hE
              have HP3 := Lib.hid (HP2.out p s5 ht)
              have hpl := len_tall HLVN.out ht
              rw [ht] at HTA
              clear hE ht HE2 HP2
              go_wp2_with fail
              refine HTA.out.mono ?_
              rintro e w5 ⟨vp, F5, rfl, hsp⟩
              obtain ⟨hI6, ⟨bp, hvp⟩, _, _⟩ := HI5.out.all hsp
              obtain ⟨aop, cpp, rfl⟩ := row_formD hvp
              have HI6 := Lib.hid hI6
              have HRP := Lib.hid (rsl_of_owns hvp)
              have hol := HOL.out
              have m1 : out.length + p.length ≤ maxLen := by unfold maxLen; omega
              have m2 : (out.length + p.length) * 96 ≤ 140737488355328 := by omega
              have m3 : w.heap.size ≤ w5.heap.size := hI6.st.at_.size
              have HROW := Lib.hid hI6.st.row
              clear hsp hI6 hvp hld4 HTA HRD hol
              go_wp2_with (at_builtin; go_must (refine wpList_append_rsl_at rfl (.tmp 59) (.tmp 60) 52 rfl w.heap.size 35 i0 (.agg #[.int .i64 0, .int .i64 0, .int .i64 0, .int .i64 0, .bool false, .int .i64 0, .int .i64 0, .int .i64 0, .int .u64 0, .int .u64 0, .int .u64 0, .int .u64 0]) 12 96 Tryd.underlying52 hi hi0 hi1 hi2 rfl (Nat.succ_pos 11) (.slice ao6 out.length cp6) out.length (encPs out) rfl HROW.out aop p.length cpp (encPs p) rfl HRP.out (encPs_one _) m1 m2 m3 ?_; intro v9 w9 hown hgrow hat9))
              have HI9 := Lib.hid (HI6.out.app hown hgrow hat9)
              clear hown hgrow hat9 m1 m2 m3 HROW
              go_roundw
              case rel => exact ⟨i + 1, out ++ p, s5, F5, by go_num, by omega, HI9, HE3, HP3, Lib.hid (by have := HOL.out; rw [List.length_append]; omega)⟩
              case measure => simp [intOf]; omega
        · have q1 : ¬ (i : Int) < (l.length : Int) := by omega
          have hE : R = (.ok out, s3) := by
            have := HE.out
            rw [List.drop_eq_nil_of_le (by omega)] at this
            exact this.symm
          have HRE := Lib.hid hE
          clear hE
          go_wp2_with fail
          go_ret2
          rw [HRE.out]
          exact ⟨_, F3, rfl, HI.out.st⟩
end
end Go.Proofs.YtbhofablndjeoaaDoor
