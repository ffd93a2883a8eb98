/- The walk of the statement VisitDead. -/
import Derived.Test.YtbkknpodipapoaaVsWl
import Derived.Maps.AppendAt
namespace Go.Proofs.Ytbkknpodipapoaa
open Go.RowKit
set_option linter.unusedSimpArgs false
attribute [local go_sem ↓] Go.wp_at_zero Go.wp_at_succ
attribute [local go_sem ↓] wp_loadP wp_storeP quiet_loadP wp_buildP

/-- append of one at a row of pointers of one's own, and where the new row lies -/
theorem wpList_app_at {ops : Array Oper} {rest : List Oper} {o : Oper} {a : Act} {Q : Exit → Act → World → Prop} {w : World} (hgd : o.guard = none) (s x : Operand)
    (ho : o.op = .call { callee := .builtin .append, args := #[s, x], argTypes := #[22, 22] }) (base : Nat) (v : Value) (got xs : List PtrT) (hs : a.eval s = v) (hown : PRow w base v got)
    (b off c : Nat) (hx : a.eval x = .slice (some ⟨b, off, none⟩) xs.length c) (hn : w.rangeAt b off (encPs xs)) (hm : got.length + xs.length ≤ 1000000) (hbase : base ≤ w.heap.size)
    (h : ∀ v' w', PRow w' base v' (got ++ xs) → w.grownBy w' v.ownBlock → (v'.ownBlock = v.ownBlock ∨ v'.ownBlock = some w.heap.size) → wpList Try.prog ops Q rest (a.put o.dst v') w') : wpList Try.prog ops Q (o :: rest) a w := by
  obtain ⟨i0, hi, hi0, hi1, hi2⟩ := info_parts infoPt
  refine wpList_append_own_at w hgd s x 22 ho base 30 i0 (.agg #[.int .i64 0, .int .i64 0, .int .i64 0, .int .i64 0, .bool false, .int .i64 0, .int .i64 0, .int .i64 0, .int .u64 0, .int .u64 0, .int .u64 0, .int .u64 0]) 12 96 Try.underlying22 hi hi0 hi1 hi2 rfl (Nat.succ_pos 11)
    v got.length (encPs got) hs hown ⟨b, off, none⟩ xs.length c (encPs xs) hx (encPs_length xs) (fun j u hj => by rw [Addr.add_mid]; exact hn j u hj) (encPs_one xs) (by unfold maxLen; omega) (by omega) hbase (fun v' w' h1 h2 _ h4 => h v' w' (by rw [← encPs_append, ← List.length_append] at h1; exact h1) h2 h4)
/-- append of a slice that is only read -/
theorem wpList_app_psl {ops : Array Oper} {rest : List Oper} {o : Oper} {a : Act} {Q : Exit → Act → World → Prop} {w : World} (hgd : o.guard = none) (s x : Operand)
    (ho : o.op = .call { callee := .builtin .append, args := #[s, x], argTypes := #[22, 22] }) (base : Nat) (v : Value) (got xs : List PtrT) (hs : a.eval s = v) (hown : PRow w base v got)
    (ao : Option Addr) (n c : Nat) (hx : a.eval x = .slice ao n c) (hn : PSl w ao n c xs) (hm : got.length + xs.length ≤ 1000000) (hbase : base ≤ w.heap.size)
    (h : ∀ v' w', PRow w' base v' (got ++ xs) → w.grownBy w' v.ownBlock → wpList Try.prog ops Q rest (a.put o.dst v') w') : wpList Try.prog ops Q (o :: rest) a w := by
  obtain ⟨i0, hi, hi0, hi1, hi2⟩ := info_parts infoPt
  have hl := hn.len
  refine wpList_append_rsl hgd s x 22 ho base 30 i0 (.agg #[.int .i64 0, .int .i64 0, .int .i64 0, .int .i64 0, .bool false, .int .i64 0, .int .i64 0, .int .i64 0, .int .u64 0, .int .u64 0, .int .u64 0, .int .u64 0]) 12 96 Try.underlying22 hi hi0 hi1 hi2 rfl (Nat.succ_pos 11)
    v got.length (encPs got) hs hown ao n c (encPs xs) hx hn (encPs_one xs) (by unfold maxLen; omega) (by omega) hbase (fun v' w' h1 h2 => h v' w' (by rw [← encPs_append, ← hl, ← List.length_append] at h1; exact h1) h2)
/-- two rows of pointers, apart -/
structure Two (base : Nat) (wr : World) (v1 v2 : Value) (l1 l2 : List PtrT) : Prop where
  r1 : PRow wr base v1 l1
  r2 : PRow wr base v2 l2
  ne : ∀ g, v1.ownBlock = some g → v2.ownBlock ≠ some g
theorem Two.symm {base : Nat} {wr : World} {v1 v2 : Value} {l1 l2 : List PtrT} (h : Two base wr v1 v2 l1 l2) : Two base wr v2 v1 l2 l1 := ⟨h.r2, h.r1, fun g h2 h1 => h.ne g h1 h2⟩
theorem Two.below {base : Nat} {wr w' : World} {v1 v2 : Value} {l1 l2 : List PtrT} (h : Two base wr v1 v2 l1 l2) (hb : Below wr.heap.size wr w') : Two base w' v1 v2 l1 l2 := ⟨owns_below h.r1 hb, owns_below h.r2 hb, h.ne⟩
theorem Two.step {base : Nat} {wr w' : World} {v1 v2 v' : Value} {l1 l2 l' : List PtrT} (h : Two base wr v1 v2 l1 l2) (hr : PRow w' base v' l') (hg : wr.grownBy w' v1.ownBlock) (hl : v'.ownBlock = v1.ownBlock ∨ v'.ownBlock = some wr.heap.size) : Two base w' v' v2 l' l2 := by
  refine ⟨hr, h.r2.kept hg ?_, fun g h1 h2 => ?_⟩
  · cases e : v2.ownBlock with
    | none => exact .inl rfl
    | some g => exact .inr (fun e2 => h.ne g e2.symm e)
  · rcases hl with e | e
    · exact h.ne g (e ▸ h1) h2
    · rw [h1] at e
      have := (h.r2.lt g h2).2
      rw [Option.some.inj e] at this
      omega
def oldL (l : List PtrT) (prev : Int) (k : Nat) : List PtrT := (l.take k).filter fun p => decide (p.birth ≤ prev)
def ownL (l : List PtrT) (prev : Int) (k : Nat) : List PtrT := ((List.range k).filter fun i => decide ((l.getD i pD).birth ≤ prev) && decide (i % 2 = 0)).map fun i => l.getD i pD
def moreL (l : List PtrT) (prev : Int) (k : Nat) : List PtrT := (l.take k).filter fun p => decide (prev < p.birth)
theorem take_getD {l : List PtrT} {k : Nat} (h : k < l.length) : l.take (k + 1) = l.take k ++ [l.getD k pD] := by
  rw [List.take_succ_eq_append_getElem h, List.getD_eq_getElem?_getD, List.getElem?_eq_getElem h]
  rfl
theorem oldL_step {l : List PtrT} {prev : Int} {k : Nat} (h : k < l.length) : oldL l prev (k + 1) = oldL l prev k ++ if (l.getD k pD).birth ≤ prev then [l.getD k pD] else [] := by
  unfold oldL
  rw [take_getD h, List.filter_append]
  obtain ⟨x, hx⟩ : ∃ x, x = l.getD k pD := ⟨_, rfl⟩
  rw [← hx]
  split
  · rename_i hc; simp [hc]
  · rename_i hc; simp [hc]
theorem moreL_step {l : List PtrT} {prev : Int} {k : Nat} (h : k < l.length) : moreL l prev (k + 1) = moreL l prev k ++ if prev < (l.getD k pD).birth then [l.getD k pD] else [] := by
  unfold moreL
  rw [take_getD h, List.filter_append]
  obtain ⟨x, hx⟩ : ∃ x, x = l.getD k pD := ⟨_, rfl⟩
  rw [← hx]
  split
  · rename_i hc; simp [hc]
  · rename_i hc; simp [hc]
theorem ownL_step (l : List PtrT) (prev : Int) (k : Nat) : ownL l prev (k + 1) = ownL l prev k ++ if (l.getD k pD).birth ≤ prev ∧ k % 2 = 0 then [l.getD k pD] else [] := by
  unfold ownL
  rw [List.range_succ, List.filter_append, List.map_append]
  split
  · rename_i hc
    rw [List.filter_cons_of_pos (by rw [Bool.and_eq_true, decide_eq_true_eq, decide_eq_true_eq]; exact hc)]
    rfl
  · rename_i hc
    rw [List.filter_cons_of_neg (by rw [Bool.and_eq_true, decide_eq_true_eq, decide_eq_true_eq]; exact hc)]
    rfl
theorem ownL_mem {l : List PtrT} {prev : Int} {k : Nat} (hk : k ≤ l.length) {p : PtrT} (h : p ∈ ownL l prev k) : p ∈ oldL l prev k := by
  unfold ownL at h
  obtain ⟨i, hi, rfl⟩ := List.mem_map.1 h
  have h1 := List.mem_filter.1 hi
  have h2 := List.mem_range.1 h1.1
  unfold oldL
  rw [List.mem_filter]
  refine ⟨?_, (Bool.and_eq_true_iff.1 h1.2).1⟩
  rw [List.getD_eq_getElem?_getD, List.getElem?_eq_getElem (by omega)]
  exact List.mem_take_iff_getElem.2 ⟨i, by omega, rfl⟩
/-- Dead is what neither neighbour holds -/
theorem dead_law (elder younger more : List PtrT) (prev : Int) :
    deadL (ownL elder prev elder.length ++ moreL more prev more.length) younger prev = withoutL (ownL elder prev elder.length ++ moreL more prev more.length) (oldL elder prev elder.length ++ younger) := by
  unfold deadL withoutL
  rw [List.filter_filter]
  refine List.filter_congr fun p hp => ?_
  have hp' := ordL_sub hp
  have hb : memM (oldL elder prev elder.length ++ younger) (markOf p) = (memM (oldL elder prev elder.length) (markOf p) || memM younger (markOf p)) := by
    unfold memM
    rw [List.any_append]
  have ho : memM (oldL elder prev elder.length) (markOf p) = decide (p.birth ≤ prev) := by
    rw [Bool.eq_iff_iff, memM_iff, decide_eq_true_eq]
    constructor
    · rintro ⟨q, hq, e⟩
      have h1 := (List.mem_filter.1 hq).2
      have h2 : q.birth = p.birth := congrArg MarkT.b e
      simp only [decide_eq_true_eq] at h1
      omega
    · intro hle
      rcases List.mem_append.1 hp' with h1 | h1
      · exact ⟨p, ownL_mem (Nat.le_refl _) h1, rfl⟩
      · have h2 := (List.mem_filter.1 h1).2
        simp only [decide_eq_true_eq] at h2
        omega
  rw [hb, ho, Bool.not_or]
theorem oldL_len (l : List PtrT) (prev : Int) (k : Nat) : (oldL l prev k).length ≤ l.length := Nat.le_trans (List.length_filter_le _ _) (by rw [List.length_take]; omega)
theorem moreL_len (l : List PtrT) (prev : Int) (k : Nat) : (moreL l prev k).length ≤ l.length := Nat.le_trans (List.length_filter_le _ _) (by rw [List.length_take]; omega)
theorem ownL_len (l : List PtrT) (prev : Int) (k : Nat) : (ownL l prev k).length ≤ k := by
  unfold ownL
  rw [List.length_map]
  refine Nat.le_trans (List.length_filter_le _ _) ?_
  simp
theorem rangeAt_single {w : World} {p : PtrT} {g : Nat} (h : Blk w g 30 (encPtr p)) : w.rangeAt g 0 (encPs [p]) := fun j u hj => by rw [Nat.zero_add, h.cell, ← encPs_single, hj]
theorem PSl.readAt {w : World} {b off n cap : Nat} {l : List PtrT} (h : PSl w (some ⟨b, off, none⟩) n cap l) {k : Nat} (hk : k < n) : w.rangeAt b (off + k * 12) (encPtr (l.getD k pD)) := by
  obtain ⟨b', off', e, _, hr⟩ := h.read (by omega)
  simp only [Option.some.injEq, Addr.mk.injEq, and_true] at e
  obtain ⟨rfl, rfl⟩ := e
  exact hr k hk
set_option maxRecDepth 100000 in
set_option maxHeartbeats 6400000 in
theorem visitdead_any (ao : Option Addr) (n cap : Nat) (l : List PtrT) (bo : Option Addr) (m cap' : Nat) (ly : List PtrT) (mo : Option Addr) (r capm : Nat) (lm : List PtrT) (prev : Int) (w : World) (h : QSl w ao n cap l) (h' : QSl w bo m cap' ly) (h'' : QSl w mo r capm lm) (_hp : -9223372036854775808 ≤ prev ∧ prev ≤ 9223372036854775807) :
    Calls Try.prog 4 #[.slice ao n cap, .slice bo m cap', .slice mo r capm, .int .i64 prev] w fun e w' => e = .returned (.bool true) ∧ Below w.heap.size w w' := by
  have hmx := BW.mx h.1
  have hmx' := BW.mx h'.1
  have hmx'' := BW.mx h''.1
  have H := Lib.hid h.1
  have H' := Lib.hid h'.1
  have H'' := Lib.hid h''.1
  have HL := Lib.hid h.1.len
  have HL' := Lib.hid h'.1.len
  have HL'' := Lib.hid h''.1.len
  have HA := Lib.hid (fun W => awake22_any W)
  clear h h' h''
  by_cases hn60 : 60 < n
  · have hd1 : decide ((60 : Int) < (n : Int)) = true := by simp; omega
    go_enter Try.func4, Try.ntmps4
    go_wp2_with fail
    refine (HA.out _).mono ?_
    rintro e w1 ⟨rfl, hb1⟩
    have B1 := Lib.hid hb1
    clear hb1
    go_wp2_with fail
    refine (HA.out _).mono ?_
    rintro e w2 ⟨rfl, hb2⟩
    have B2 := Lib.hid (B1.out.trans (hb2.mono B1.out.size))
    clear hb2
    go_wp2_with fail
    go_ret
    exact ⟨rfl, B2.out⟩
  · have hd1 : decide ((60 : Int) < (n : Int)) = false := by simp; omega
    by_cases hm60 : 60 < m
    · have hd2 : decide ((60 : Int) < (m : Int)) = true := by simp; omega
      go_enter Try.func4, Try.ntmps4
      go_wp2_with fail
      refine (HA.out _).mono ?_
      rintro e w1 ⟨rfl, hb1⟩
      have B1 := Lib.hid hb1
      clear hb1
      go_wp2_with fail
      refine (HA.out _).mono ?_
      rintro e w2 ⟨rfl, hb2⟩
      have B2 := Lib.hid (B1.out.trans (hb2.mono B1.out.size))
      clear hb2
      go_wp2_with fail
      go_ret
      exact ⟨rfl, B2.out⟩
    · have hd2 : decide ((60 : Int) < (m : Int)) = false := by simp; omega
      by_cases hr60 : 60 < r
      · have hd3 : decide ((60 : Int) < (r : Int)) = true := by simp; omega
        go_enter Try.func4, Try.ntmps4
        go_wp2_with fail
        refine (HA.out _).mono ?_
        rintro e w1 ⟨rfl, hb1⟩
        have B1 := Lib.hid hb1
        clear hb1
        go_wp2_with fail
        refine (HA.out _).mono ?_
        rintro e w2 ⟨rfl, hb2⟩
        have B2 := Lib.hid (B1.out.trans (hb2.mono B1.out.size))
        clear hb2
        go_wp2_with fail
        go_ret
        exact ⟨rfl, B2.out⟩
      · have hd3 : decide ((60 : Int) < (r : Int)) = false := by simp; omega
        have HN : Hid (n ≤ 60 ∧ m ≤ 60 ∧ r ≤ 60) := Lib.hid (by omega)
        clear hn60 hm60 hr60
        go_enter Try.func4, Try.ntmps4
        go_wp2_with fail
        refine (HA.out _).mono ?_
        rintro e w1 ⟨rfl, hb1⟩
        have B1 := Lib.hid hb1
        have T1 : Hid (Two w.heap.size w1 (.slice none 0 0) (.slice none 0 0) (oldL l prev 0) (ownL l prev 0)) := Lib.hid ⟨World.ownsRow_nil _ _ _ _, World.ownsRow_nil _ _ _ _, fun g h => by cases h⟩
        clear hb1
        go_wp2_with fail
        go_loopw [9, 10, 11] (fun u1 u2 i wr => ∃ (k : Nat) (v1 v2 : Value), k ≤ n ∧ Hid (i = .int .i64 (k : Nat)) ∧ Hid (v1 = u1) ∧ Hid (v2 = u2) ∧ Hid (Two w.heap.size wr v1 v2 (oldL l prev k) (ownL l prev k)) ∧ Hid (Below w.heap.size w wr)) (fun _ _ i _ => n - (intOf i).toNat)
        case atStart => exact ⟨0, _, _, by omega, Lib.hid rfl, Lib.hid rfl, Lib.hid rfl, T1, B1⟩
        case round =>
          obtain ⟨k, v1, v2, hk, hi, e1, e2, HT, HB⟩ := hrel
          obtain rfl := hi.out
          obtain rfl := e1.out
          obtain rfl := e2.out
          clear hi e1 e2 T1 B1
          by_cases hkn : k < n
          · obtain ⟨b, off, rfl, hb, hr⟩ := (H.out.below HB.out).read (by omega)
            have l1 := load_ptr (hr k hkn)
            have c7 := hr k hkn 7 _ rfl
            obtain ⟨x, hx⟩ : ∃ x, x = l.getD k pD := ⟨_, rfl⟩
            have HSo := Lib.hid (oldL_step (l := l) (prev := prev) (k := k) (by rw [HL.out]; exact hkn))
            have HSw := Lib.hid (ownL_step l prev k)
            rw [← hx] at l1 c7 HSo HSw
            obtain ⟨y, hy⟩ : ∃ y, y = x.birth := ⟨_, rfl⟩
            rw [← hy] at c7 HSo HSw
            have s1 := build_ptr wr x
            have hszO : (oldL l prev k).length + [x].length ≤ 1000000 := by have := oldL_len l prev k; have := HL.out; have := HN.out; simp; omega
            have hszW : (ownL l prev k).length + [x].length ≤ 1000000 := by have := ownL_len l prev k; have := HN.out; simp; omega
            have BA := Lib.hid ((Below.refl wr.heap.size wr).alloc (Nat.le_refl _) (.cells (encPtr x).toArray 30))
            have TA := Lib.hid (HT.out.below BA.out)
            have HBA := Lib.hid (HB.out.trans (BA.out.mono HB.out.size))
            have HNW := Lib.hid (rangeAt_single (Blk.new wr 30 (encPtr x)))
            have m3 := HBA.out.size
            have LD := Lib.hid (hr k hkn)
            have HBL := Lib.hid hb
            rw [← hx] at LD
            have HXE := Lib.hid hx
            clear hr hb hx hy
            by_cases hle : y ≤ prev
            · rw [if_pos hle] at HSo
              by_cases hpar : k % 2 = 0
              · rw [if_pos ⟨hle, hpar⟩] at HSw
                have p1 : Int.tmod (k : Int) 2 = 0 := by rw [Int.tmod_eq_emod_of_nonneg (by omega)]; omega
                go_wp2_with (at_builtin; go_must (refine wpList_app_at rfl (.tmp 46) (.tmp 51) rfl w.heap.size v1 (oldL l prev k) [x] rfl TA.out.r1 wr.heap.size 0 1 rfl HNW.out hszO m3 ?_; intro v3 w2 hown hgrow hloc))
                have HB2 := Lib.hid (below_own (base := w.heap.size) HBA.out TA.out.r1 hgrow m3 (Nat.le_refl _))
                have T2 := Lib.hid (TA.out.step hown hgrow hloc)
                have l2 := load_ptr ((H.out.below HB2.out).readAt hkn)
                rw [← HXE.out] at l2
                have s2 := build_ptr w2 x
                have BA2 := Lib.hid ((Below.refl w2.heap.size w2).alloc (Nat.le_refl _) (.cells (encPtr x).toArray 30))
                have TA2 := Lib.hid (T2.out.symm.below BA2.out)
                have HBA2 := Lib.hid (HB2.out.trans (BA2.out.mono HB2.out.size))
                have HNW2 := Lib.hid (rangeAt_single (Blk.new w2 30 (encPtr x)))
                have m4 := HBA2.out.size
                clear hown hgrow hloc l1 s1
                rw [l2]
                go_wp2_with (at_builtin; go_must (refine wpList_app_at rfl (.tmp 56) (.tmp 61) rfl w.heap.size v2 (ownL l prev k) [x] rfl TA2.out.r1 w2.heap.size 0 1 rfl HNW2.out hszW m4 ?_; intro v4 w3 hown hgrow hloc))
                have HB3 := Lib.hid (below_own (base := w.heap.size) HBA2.out TA2.out.r1 hgrow m4 (Nat.le_refl _))
                have T3 := Lib.hid (TA2.out.step hown hgrow hloc).symm
                rw [← HSo.out, ← HSw.out] at T3
                clear hown hgrow hloc
                go_roundw
                case rel => exact ⟨k + 1, v3, v4, by omega, Lib.hid (by go_num), Lib.hid rfl, Lib.hid rfl, T3, HB3⟩
                case measure => simp [intOf]; omega
              · rw [if_neg (fun h => hpar h.2), List.append_nil] at HSw
                have p1 : Int.tmod (k : Int) 2 = 1 := by rw [Int.tmod_eq_emod_of_nonneg (by omega)]; omega
                go_wp2_with (at_builtin; go_must (refine wpList_app_at rfl (.tmp 46) (.tmp 51) rfl w.heap.size v1 (oldL l prev k) [x] rfl TA.out.r1 wr.heap.size 0 1 rfl HNW.out hszO m3 ?_; intro v3 w2 hown hgrow hloc))
                have HB2 := Lib.hid (below_own (base := w.heap.size) HBA.out TA.out.r1 hgrow m3 (Nat.le_refl _))
                have T2 := Lib.hid (TA.out.step hown hgrow hloc)
                rw [← HSo.out, ← HSw.out] at T2
                clear hown hgrow hloc
                go_roundw
                case rel => exact ⟨k + 1, v3, v2, by omega, Lib.hid (by go_num), Lib.hid rfl, Lib.hid rfl, T2, HB2⟩
                case measure => simp [intOf]; omega
            · rw [if_neg hle, List.append_nil] at HSo
              rw [if_neg (fun h => hle h.1), List.append_nil] at HSw
              rw [← HSo.out, ← HSw.out] at HT
              go_wp2_with fail
              go_roundw
              case rel => exact ⟨k + 1, v1, v2, by omega, Lib.hid (by go_num), Lib.hid rfl, Lib.hid rfl, HT, HB⟩
              case measure => simp [intOf]; omega
          · obtain rfl : k = n := by omega
            obtain ⟨po, co, rfl, hpo⟩ := psl_of_row HT.out.r1
            have TW : Hid (Two w.heap.size wr (.slice po (oldL l prev k).length co) v2 (oldL l prev k) (ownL l prev k ++ moreL lm prev 0)) := Lib.hid (by
              rw [show moreL lm prev 0 = [] from rfl, List.append_nil]
              exact HT.out)
            clear hpo
            obtain ⟨wo, rfl⟩ : ∃ wo : World, wo = wr := ⟨_, rfl⟩
            go_wp2_with fail
            go_loopw [10, 12] (fun u2 i wr => ∃ (j : Nat) (v2 : Value), j ≤ r ∧ Hid (i = .int .i64 (j : Nat)) ∧ Hid (v2 = u2) ∧ Hid (Two w.heap.size wr (.slice po (oldL l prev k).length co) v2 (oldL l prev k) (ownL l prev k ++ moreL lm prev j)) ∧ Hid (Below w.heap.size w wr)) (fun _ i _ => r - (intOf i).toNat)
            case atStart => exact ⟨0, _, by omega, Lib.hid rfl, Lib.hid rfl, TW, HB⟩
            case round =>
              obtain ⟨j, v2, hj, hi, e2, HT2, HB⟩ := hrel
              obtain rfl := hi.out
              obtain rfl := e2.out
              clear hi e2 TW HT
              by_cases hjr : j < r
              · obtain ⟨b, off, rfl, hb, hr⟩ := (H''.out.below HB.out).read (by omega)
                have l1 := load_ptr (hr j hjr)
                have c7 := hr j hjr 7 _ rfl
                obtain ⟨x, hx⟩ : ∃ x, x = lm.getD j pD := ⟨_, rfl⟩
                have HSo := Lib.hid (moreL_step (l := lm) (prev := prev) (k := j) (by rw [HL''.out]; exact hjr))
                rw [← hx] at l1 c7 HSo
                obtain ⟨y, hy⟩ : ∃ y, y = x.birth := ⟨_, rfl⟩
                rw [← hy] at c7 HSo
                have s1 := build_ptr wr x
                have hsz : (ownL l prev k ++ moreL lm prev j).length + [x].length ≤ 1000000 := by have := ownL_len l prev k; have := moreL_len lm prev j; have := HL''.out; have := HN.out; simp; omega
                have BA := Lib.hid ((Below.refl wr.heap.size wr).alloc (Nat.le_refl _) (.cells (encPtr x).toArray 30))
                have TA := Lib.hid (HT2.out.symm.below BA.out)
                have HBA := Lib.hid (HB.out.trans (BA.out.mono HB.out.size))
                have HNW := Lib.hid (rangeAt_single (Blk.new wr 30 (encPtr x)))
                have m3 := HBA.out.size
                clear hr hb hx hy
                by_cases hle : prev < y
                · rw [if_pos hle] at HSo
                  go_wp2_with (at_builtin; go_must (refine wpList_app_at rfl (.tmp 76) (.tmp 81) rfl w.heap.size v2 (ownL l prev k ++ moreL lm prev j) [x] rfl TA.out.r1 wr.heap.size 0 1 rfl HNW.out hsz m3 ?_; intro v3 w2 hown hgrow hloc))
                  have HB2 := Lib.hid (below_own (base := w.heap.size) HBA.out TA.out.r1 hgrow m3 (Nat.le_refl _))
                  have T2 := Lib.hid (TA.out.step hown hgrow hloc).symm
                  rw [List.append_assoc, ← HSo.out] at T2
                  clear hown hgrow hloc
                  go_roundw
                  case rel => exact ⟨j + 1, v3, by omega, Lib.hid (by go_num), Lib.hid rfl, T2, HB2⟩
                  case measure => simp [intOf]; omega
                · rw [if_neg hle, List.append_nil] at HSo
                  rw [← HSo.out] at HT2
                  go_wp2_with fail
                  go_roundw
                  case rel => exact ⟨j + 1, v2, by omega, Lib.hid (by go_num), Lib.hid rfl, HT2, HB⟩
                  case measure => simp [intOf]; omega
              · obtain rfl : j = r := by omega
                obtain ⟨pw, cw, rfl, hpw⟩ := psl_of_row HT2.out.r2
                have PO := Lib.hid (rsl_of_owns HT2.out.r1)
                have PW := Lib.hid hpw
                have HLaw := Lib.hid (dead_law l ly lm prev)
                rw [HL.out, HL''.out] at HLaw
                obtain ⟨lo, hlo⟩ : ∃ lo, lo = oldL l prev k := ⟨_, rfl⟩
                obtain ⟨lw, hlw⟩ : ∃ lw, lw = ownL l prev k ++ moreL lm prev j := ⟨_, rfl⟩
                have hnw : lw.length ≤ 120 := by have := ownL_len l prev k; have := moreL_len lm prev j; have := HL''.out; have := HN.out; rw [hlw]; simp; omega
                have hno : lo.length ≤ 60 := by have := oldL_len l prev k; have := HL.out; have := HN.out; rw [hlo]; omega
                rw [← hlo, ← hlw] at HLaw
                rw [← hlo] at PO ⊢
                rw [← hlw] at PW ⊢
                have PO' : Hid (PSl wr po lo.length co lo) := PO
                have HD := Lib.hid (dead_psl pw bo _ m cw cap' lw ly prev wr PW.out (H'.out.below HB.out) (by omega))
                clear hpw HT2 hlo hlw PO
                go_wp2_with fail
                refine HD.out.mono ?_
                rintro e w2 ⟨pd, cd, rfl, hpd, hb2⟩
                have PD := Lib.hid hpd
                have PO2 := Lib.hid (PO'.out.below hb2)
                have PW2 := Lib.hid (PW.out.below hb2)
                have HB2 := Lib.hid (HB.out.trans (hb2.mono HB.out.size))
                have RN : Hid (PRow (w2.alloc (.cells #[] 30)) w2.heap.size (.slice (some ⟨w2.heap.size, 0, none⟩) 0 0) []) := Lib.hid (World.ownsRow_made (base := w2.heap.size) (e := 30) (size := 12) w2 #[] 0 (Nat.le_refl _) (by unfold maxLen; omega) rfl)
                have BA := Lib.hid ((Below.refl w2.heap.size w2).alloc (Nat.le_refl _) (.cells #[] 30))
                have POA := Lib.hid (PO2.out.below BA.out)
                have m3 := BA.out.size
                have hsz : ([] : List PtrT).length + lo.length ≤ 1000000 := by simp; omega
                clear hpd hb2 PW HD
                have HF := Lib.hid (fun v3 w3 (_ : PRow w3 w2.heap.size v3 ([] ++ lo)) (hg : (w2.alloc (.cells #[] 30)).grownBy w3 (Value.slice (some ⟨w2.heap.size, 0, none⟩) 0 0).ownBlock) =>
                  show Below w2.heap.size w2 w3 ∧ w2.heap.size ≤ w3.heap.size ∧ PSl w3 bo m cap' ly from
                    have hb := below_own (base := w2.heap.size) BA.out RN.out hg m3 (Nat.le_refl _)
                    ⟨hb, hb.size, (H'.out.below HB2.out).below hb⟩)
                have hsz2 : ([] ++ lo : List PtrT).length + ly.length ≤ 1000000 := by have := HL'.out; have := HN.out; simp; omega
                go_wp2_with (at_builtin; first | (refine wpList_app_psl rfl (.tmp 87) (.tmp 88) rfl w2.heap.size (.slice (some ⟨w2.heap.size, 0, none⟩) 0 0) [] lo rfl RN.out po lo.length co rfl POA.out hsz m3 ?_; intro v3 w3 hown hgrow) | (refine wpList_app_psl rfl (.tmp 89) (.tmp 90) rfl w2.heap.size v3 ([] ++ lo) ly rfl hown bo m cap' rfl (HF.out v3 w3 hown hgrow).2.2 hsz2 (HF.out v3 w3 hown hgrow).2.1 ?_; intro v4 w4 hown4 hgrow4))
                obtain ⟨hb3, hs3, _⟩ := HF.out v3 w3 hown hgrow
                have hb4 := below_own (base := w2.heap.size) hb3 hown hgrow4 hs3 (Nat.le_refl _)
                rw [List.nil_append] at hown4
                obtain ⟨pb, cb, rfl, hpb⟩ := psl_of_row hown4
                have HWi := Lib.hid (without_psl pw pb _ _ cw cb lw (lo ++ ly) w4 (PW2.out.below hb4) hpb (by omega))
                rw [← HLaw.out] at HWi
                have PD4 := Lib.hid (PD.out.below hb4)
                have HB4 := Lib.hid (HB2.out.trans (hb4.mono HB2.out.size))
                clear hown hgrow hb3 hs3 hb4 hown4 hgrow4 hpb PD PW2 POA PO2
                refine HWi.out.mono ?_
                rintro e w5 ⟨pr, cr, rfl, hpr, hb5⟩
                have HS5 := Lib.hid (same_ps _ _ _ _ _ _ _ _ w5 (PD4.out.below hb5) hpr)
                rw [decide_eq_true rfl] at HS5
                have HB5 := Lib.hid (HB4.out.trans (hb5.mono HB4.out.size))
                clear hpr hb5 PD4
                go_wp2_with fail
                refine HS5.out.mono ?_
                rintro e w6 ⟨rfl, hb6⟩
                have HB6 := Lib.hid (HB5.out.trans (hb6.mono HB5.out.size))
                clear hb6
                go_wp2_with fail
                go_ret
                exact ⟨rfl, HB6.out⟩
end Go.Proofs.Ytbkknpodipapoaa
