/- The walk of dir.List. -/
import Derived.Test.YtbhofablndjeoaaDoorDrC
import Derived.Test.YtbhofablndjeoaaDoorTrZ
namespace Go.Proofs.YtbhofablndjeoaaDoor
open Go.RowKit
set_option linter.unusedSimpArgs false
set_option linter.unusedVariables false
attribute [local go_sem ↓] wp_loadPt wp_storePt wp_loadNd wp_storeNd wp_bldNd
def encI (l : List Nat) : List Value := l.map fun (k : Nat) => Value.int .i64 (k : Int)
theorem row_formD {w : World} {b e k n : Nat} {v : Value} {xs : List Value} (h : w.ownsRow b e k v n xs) : ∃ ao cap, v = .slice ao n cap := by
  rcases h.2 with ⟨rfl, rfl⟩ | ⟨g, cap, cur, rfl, _⟩
  · exact ⟨none, 0, rfl⟩
  · exact ⟨_, cap, rfl⟩
theorem infoInt : (Tryd.prog.info? 3).map (fun i => (i.zero, i.size, i.bytes)) = some (some (.int .i64 0), 1, 8) := by kernel_rfl
section
variable {σ : Type} {S : StF σ} {ty : TypeId} {a : Addr} {C : StoreC S ty a}
/-- a store beside a growing row of numbers -/
structure LsSt (C : StoreC S ty a) (F0 : Nat → Prop) (wB w : World) (st : σ) (F : Nat → Prop) (v : Value) (out : List Nat) : Prop where
  at_ : C.At F0 st wB w F
  row : w.ownsRow wB.heap.size 3 1 v out.length (encI out)
  dis : ∀ g, v.ownBlock = some g → ¬ F g
theorem rowK {F : Nat → Prop} {w w' : World} {b n e k : Nat} {v : Value} {xs : List Value} (h : Mod F w w') (hr : w.ownsRow b e k v n xs) (hd : ∀ g, v.ownBlock = some g → ¬ F g) : w'.ownsRow b e k v n xs := by
  obtain ⟨h1, h2⟩ := hr
  refine ⟨h1, ?_⟩
  rcases h2 with h2 | ⟨g, cap, cur, rfl, hbg, hg, hx⟩
  · exact .inl h2
  · refine .inr ⟨g, cap, cur, rfl, hbg, ?_, hx⟩
    rw [h.block g (Array.getElem?_eq_some_iff.1 hg).1 (hd g rfl)]
    exact hg
theorem LsSt.below {F0 F : Nat → Prop} {wB w w' : World} {st : σ} {v : Value} {out : List Nat} (h : LsSt C F0 wB w st F v out) (hb : Below w.heap.size w w') : LsSt C F0 wB w' st F v out :=
  ⟨h.at_.below hb, owns_below h.row hb, h.dis⟩
theorem LsSt.step {F0 F : Nat → Prop} {wB w w' : World} {st s2 : σ} {v : Value} {out : List Nat} (h : LsSt C F0 wB w st F v out) (hs : C.Step F s2 w w') : ∃ F2, LsSt C F0 wB w' s2 F2 v out ∧ (∀ x, x < w.heap.size → ¬ F x → ¬ F2 x) ∧ Mod F w w' := by
  obtain ⟨F2, h1, h2, h3⟩ := h.at_.step hs
  exact ⟨F2, ⟨h1, rowK h3 h.row h.dis, fun g hg => h2 g (h.row.lt g hg).2 (h.dis g hg)⟩, h2, h3⟩
theorem LsSt.grow {F0 F : Nat → Prop} {wB w w' : World} {st : σ} {v v' : Value} {out : List Nat} {x : Nat} (h : LsSt C F0 wB w st F v out) (hown : w'.ownsRow wB.heap.size 3 1 v' (out.length + 1) (encI out ++ [.int .i64 (x : Nat)])) (hg : w.grownBy w' v.ownBlock) (hat : v'.ownBlock = v.ownBlock ∨ v'.ownBlock = some w.heap.size) : LsSt C F0 wB w' st F v' (out ++ [x]) := by
  refine ⟨⟨C.keep h.at_.1 hg.size (fun x hx => hg.block x (h.at_.lt x hx) (fun e => h.dis x e.symm hx)), ?_, h.at_.2.2⟩, ?_, ?_⟩
  · refine h.at_.2.1.trans (Mod.grownO (F := fun k => v.ownBlock = some k) hg (fun g hg => hg)) (fun x hx hv => ?_)
    have := (h.row.lt x hv).1
    omega
  · rw [List.length_append]
    have e : encI (out ++ [x]) = encI out ++ [.int .i64 (x : Nat)] := by simp [encI]
    rw [e]
    exact hown
  · intro g hgg hF
    rcases hat with e | e
    · exact h.dis g (by rw [← e]; exact hgg) hF
    · rw [e] at hgg
      have := h.at_.lt g hF
      simp only [Option.some.injEq] at hgg
      omega
/-- where List stands -/
structure LsI (C : StoreC S ty a) (F : Nat → Prop) (w wr : World) (d : NodeT) (s1 : σ) (F1 : Nat → Prop) (v : Value) (out : List Nat) : Prop where
  st : LsSt C F w wr s1 F1 v out
  bn : Blk wr w.heap.size 37 (encN d)
  f0 : ¬ F1 w.heap.size
  nv : ¬ v.ownBlock = some w.heap.size
theorem LsI.below {F F1 : Nat → Prop} {w wr wc : World} {d : NodeT} {s1 : σ} {v : Value} {out : List Nat} (h : LsI C F w wr d s1 F1 v out) (hb : Below wr.heap.size wr wc) : LsI C F w wc d s1 F1 v out := ⟨h.st.below hb, h.bn.below hb, h.f0, h.nv⟩
theorem LsI.step {F F1 : Nat → Prop} {w wr wc : World} {d : NodeT} {s1 s2 : σ} {v : Value} {out : List Nat} (h : LsI C F w wr d s1 F1 v out) (hs : C.Step F1 s2 wr wc) : ∃ F2, LsI C F w wc d s2 F2 v out := by
  obtain ⟨F2, h1, h2, h3⟩ := h.st.step hs
  exact ⟨F2, h1, h3.blk h.bn h.f0, h2 _ h.bn.lt h.f0, h.nv⟩
def LstR (C : StoreC S ty a) (w : World) (F : Nat → Prop) : Except Nat (List Nat) × σ → Ending → World → Prop
  | (.ok out, st), e, w' => ∃ v' F', e = .returned (.tuple #[v', .int .i64 0]) ∧ LsSt C F w w' st F' v' out
  | (.error n, st), e, w' => e = .returned (.tuple #[.slice none 0 0, .int .i64 (n : Nat)]) ∧ n ≠ 0 ∧ C.Step F st w w'
theorem back_dread {Ok : σ → Prop} (hg : ∀ p, Back Ok (S.get p)) (d : NodeT) (id : Nat) : Back Ok (dreadM S d id) := by
  unfold dreadM
  refine back_bind ?_ (fun t => back_pure _)
  unfold readM
  split
  · exact back_err _
  · split
    · exact back_ret _
    · exact back_readTo hg _ _ _ _ _ _
theorem back_dlistTo {Ok : σ → Prop} (hg : ∀ p, Back Ok (S.get p)) (d : NodeT) : ∀ (f id : Nat) (out : List Nat), Back Ok (dlistTo S d f id out)
  | 0, _, _ => back_ret _
  | f + 1, id, out => back_bind (back_dread hg d id) (fun r => back_dlistTo hg d f _ _)
set_option maxHeartbeats 4000000 in
set_option maxRecDepth 100000 in
theorem dlist_any {w : World} {st : σ} {F : Nat → Prop} (h : C.Is w st F) (d : NodeT) (hd : d.wf) (hds : 0 ≤ d.size ∧ d.size ≤ 1000000) (hok : C.Ok (dlistM S d st).2) :
    Calls Tryd.prog 21 #[.iface ty (.pointer (some a)), .agg (encN d).toArray] w (LstR C w F (dlistM S d st)) := by
  obtain ⟨w0, hw0⟩ : ∃ w0, w0 = w.alloc (.cells (encN d).toArray 37) := ⟨_, rfl⟩
  have hb : Blk w0 w.heap.size 37 (encN d) := by rw [hw0]; exact Blk.new w _ _
  have hbel : Below w.heap.size w w0 := by rw [hw0]; exact (Below.refl _ _).alloc (Nat.le_refl _) _
  have hI : LsI C F w w0 d st F (.slice none 0 0) [] := ⟨⟨(StoreC.At.start h).below hbel, World.ownsRow_nil _ _ _ _, fun g hg => by cases hg⟩, hb, fun hf => by have := C.lt h _ hf; omega, fun e => by cases e⟩
  have HI0 := Lib.hid hI
  obtain ⟨R, hR⟩ : ∃ R, dlistM S d st = R := ⟨_, rfl⟩
  obtain ⟨k, hk⟩ : ∃ k, k = dmost d := ⟨_, rfl⟩
  have hk32 : k ≤ 32 := by rw [hk]; unfold dmost; omega
  have HE0 : Hid (dlistTo S d (k - 0) 0 [] st = R) := Lib.hid (by rw [hk]; exact hR)
  rw [hR] at hok ⊢
  have HOK := Lib.hid hok
  obtain ⟨hd0, hd1⟩ := hds
  have HQ : Hid (min 32 ((d.size + 128 - 1) / 128) = (k : Int)) := Lib.hid (by rw [hk]; unfold dmost; omega)
  have c0 : w0.cell? ⟨w.heap.size, 0, none⟩ = some (.int .i64 d.size) := hb.cell 0
  obtain ⟨i0, hi, hi0, hi1, hi2⟩ := info_parts infoInt
  clear hok hb hbel hI hR hk
  go_enter Tryd.func21, Tryd.ntmps21
  go_upto_region 1 with fail
  rw [show w.alloc (.cells (encN d).toArray 37) = w0 from hw0.symm]
  clear hw0
  go_wp2_with fail
  rw [HQ.out]
  go_loopw [6, 17] (fun v6 vi wr => ∃ (i : Nat) (out : List Nat) (s1 : σ) (F1 : Nat → Prop), vi = .int .i64 i ∧ i ≤ k ∧ Hid (LsI C F w wr d s1 F1 v6 out) ∧ Hid (dlistTo S d (k - i) i out s1 = R) ∧ Hid (out.length ≤ i)) (fun _ vi _ => k - (intOf vi).toNat)
  case atStart => exact ⟨0, [], st, F, rfl, Nat.zero_le _, HI0, HE0, Lib.hid (Nat.le_refl _)⟩
  case round =>
    obtain ⟨i, out, s1, F1, rfl, hik, HI, HE, HOL⟩ := hrel
    by_cases hlt : i < k
    · have q1 : (i : Int) < (k : Int) := by omega
      obtain ⟨f, hf⟩ : ∃ f, k - i = f + 1 := ⟨k - i - 1, by omega⟩
      have hE : M.bind (dreadM S d i) (fun r => dlistTo S d f (i + 1) (if r.2 then out ++ [i] else out)) s1 = R := by have := HE.out; rw [hf] at this; exact this
      have hokr : C.Ok (dreadM S d i s1).2 := back_first (fun r => back_dlistTo C.bg d f (i + 1) (if r.2 then out ++ [i] else out)) (by rw [hE]; exact HOK.out)
      have HRD := Lib.hid (dread_any (C := C) HI.out.st.at_.1 d hd i (by omega) hokr)
      rcases hr : dreadM S d i s1 with ⟨r | ⟨x, b⟩, s2⟩
      · rw [M.bind_err hr] at hE
        rw [hr] at HRD
        have HRE := Lib.hid hE
        clear hE hr hokr hf
        have hld := fun op a next Q => loadW_blk (P := Tryd.prog) HI.out.bn Tryd.underlying37 rfl iszNd op a next Q
        go_wp2_with fail
        refine HRD.out.mono ?_
        rintro e w2 ⟨hrd, hre, hstep⟩
        unfold RdR at hrd
        subst hrd
        obtain ⟨F2, hI2⟩ := HI.out.step hstep
        have hr0 := hre r rfl
        have hr1 : ((r : Int) != 0) = true := by simpa using hr0
        have hst8 := fun op a next Q => store_newNd nD w2 op a next Q
        have HI3 := Lib.hid (hI2.below (wc := w2.alloc (.cells (encN nD).toArray 37)) ((Below.refl _ _).alloc (Nat.le_refl _) _))
        clear hI2 hstep hre hld
        unfold ndB errV
        go_wp2_with fail
        go_ret2
        rw [← HRE.out]
        exact ⟨rfl, hr0, HI3.out.st.at_.fin⟩
      · rw [M.bind_ok hr] at hE
        rw [hr] at HRD
        have HRE := Lib.hid hE
        have HF : Hid (k - (i + 1) = f) := Lib.hid (by omega)
        clear hE hr hokr hf
        have hld := fun op a next Q => loadW_blk (P := Tryd.prog) HI.out.bn Tryd.underlying37 rfl iszNd op a next Q
        go_wp2_with fail
        refine HRD.out.mono ?_
        rintro e w2 ⟨hrd, hre, hstep⟩
        unfold RdR at hrd
        subst hrd
        obtain ⟨F2, hI2⟩ := HI.out.step hstep
        have hst8 := fun op a next Q => store_newNd x w2 op a next Q
        have HI3 := Lib.hid (hI2.below (wc := w2.alloc (.cells (encN x).toArray 37)) ((Below.refl _ _).alloc (Nat.le_refl _) _))
        obtain ⟨w3, hw3⟩ : ∃ w3, w3 = w2.alloc (.cells (encN x).toArray 37) := ⟨_, rfl⟩
        rw [← hw3] at HI3
        clear hI2 hstep hre hld
        cases b with
        | false =>
          unfold ndB errV
          go_upto_region 6 with fail
          rw [← hw3]
          clear hw3 hst8
          go_wp2_with fail
          go_roundw
          case rel => exact ⟨i + 1, out, s2, F2, by go_num, by omega, HI3, Lib.hid (by rw [HF.out]; exact HRE.out), Lib.hid (by have := HOL.out; omega)⟩
          case measure => simp [intOf]; omega
        | true =>
          unfold ndB errV
          go_upto_region 6 with fail
          rw [← hw3]
          clear hw3 hst8
          obtain ⟨ao6, cp6, rfl⟩ := row_formD HI3.out.st.row
          have HI4 := Lib.hid (HI3.out.below (wc := w3.alloc (.cells #[.int .i64 (i : Nat)] 3)) ((Below.refl _ _).alloc (Nat.le_refl _) _))
          have HNB := Lib.hid (Blk.news (Blk.new w3 3 [.int .i64 (i : Nat)]))
          have hol := HOL.out
          have m1 : out.length + 1 ≤ maxLen := by unfold maxLen; omega
          have m2 : (out.length + 1) * 8 ≤ 140737488355328 := by omega
          have m3 : w.heap.size ≤ (w3.alloc (.cells #[.int .i64 (i : Nat)] 3)).heap.size := HI4.out.st.at_.size
          clear hol
          go_wp2_with (at_builtin; go_must (refine wpList_append_own_at _ rfl (.tmp 32) (.tmp 34) 60 rfl w.heap.size 3 i0 (.int .i64 0) 1 8 Tryd.underlying60 hi hi0 hi1 hi2 rfl (Nat.succ_pos 0) (.slice ao6 out.length cp6) out.length (encI out) rfl HI4.out.st.row ⟨w3.heap.size, 0, none⟩ 1 1 [.int .i64 (i : Nat)] rfl rfl HNB.out (by simp [Value.oneCell']) m1 m2 m3 ?_; intro v6' w4 hown hgrow _ hat))
          have HI5 : Hid (LsI C F w w4 d s2 F2 v6' (out ++ [i])) := Lib.hid ⟨HI4.out.st.grow hown hgrow hat, by
            have hne : ¬ (Value.slice ao6 out.length cp6).ownBlock = some w.heap.size := HI4.out.nv
            unfold Blk
            rw [hgrow.block _ HI4.out.bn.lt (fun e => hne e.symm)]
            exact HI4.out.bn, HI4.out.f0, fun e => by
            rcases hat with h | h
            · exact HI4.out.nv (h ▸ e)
            · rw [h] at e
              have := HI4.out.bn.lt
              simp only [Option.some.injEq] at e
              omega⟩
          clear hown hgrow hat m1 m2 m3
          go_roundw
          case rel => exact ⟨i + 1, out ++ [i], s2, F2, by go_num, by omega, HI5, Lib.hid (by rw [HF.out]; exact HRE.out), Lib.hid (by have := HOL.out; simp; omega)⟩
          case measure => simp [intOf]; omega
    · have q1 : ¬ (i : Int) < (k : Int) := by omega
      have hE : R = (.ok out, s1) := by
        have := HE.out
        rw [show k - i = 0 by omega] at this
        exact this.symm
      have HRE := Lib.hid hE
      clear hE
      go_wp2_with fail
      go_ret2
      rw [HRE.out]
      exact ⟨_, F1, rfl, HI.out.st⟩
end
end Go.Proofs.YtbhofablndjeoaaDoor
