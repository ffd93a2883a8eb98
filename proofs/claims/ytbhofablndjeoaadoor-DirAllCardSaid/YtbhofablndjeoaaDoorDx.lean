/- Directories that are laid in two orders, in plain words. -/
import Derived.Test.YtbhofablndjeoaaDoorDv
namespace Go.Proofs.YtbhofablndjeoaaDoor
set_option linter.unusedVariables false
/-- a directory goes no further than its last entry -/
def SzI (d : NodeT) (D : Nat → Option NodeT) : Prop := d.size = 0 ∨ ∃ j, j < 32 ∧ (∃ n, D j = some n) ∧ d.size = ((j : Int) + 1) * 128
theorem SzI.start : SzI nD (fun _ => none) := .inl rfl
/-- the node of a number -/
def idN (id : Int) : NodeT := ⟨max id 0, pD⟩
theorem idN_wf (id : Int) : (idN id).root.wf := pD_ok.2
theorem rd_dset6 {k : Nat} {st : MemT} {d : NodeT} {D : Nat → Option NodeT} (h : Rd k st) (hk : k ≤ 148) (hd : DI st.L d D) (hs : SzI d D) (id : Int) :
    (¬ idOk id ∧ dsetM memF d id (idN id) st = (.error 1, st)) ∨ (idOk id ∧ ∃ q s2, dsetM memF d id (idN id) st = (.ok q, s2) ∧ Rd (k + 1) s2 ∧ (∃ X, s2.L = st.L ++ X) ∧ DI s2.L q (dUpd D id.toNat (some ⟨id, pD⟩)) ∧ SzI q (dUpd D id.toNat (some ⟨id, pD⟩))) := by
  by_cases hi : idOk id
  · right
    have i0 := hi.1
    have i1 := hi.2
    have e : idN id = ⟨id, pD⟩ := by unfold idN; rw [Int.max_eq_left i0]
    have hm : NdMay (idN id) := by rw [e]; exact ⟨i0, by unfold maxC; show id ≤ _; omega, pD_ok.1⟩
    rcases rd_dset h hk hd id (idN id) pD_ok.2 with ⟨h, _⟩ | ⟨_, _, q, s2, h1, h2, h3, h4, h5⟩
    · exact absurd ⟨hi, hm⟩ h
    · rw [e] at h1 h4
      refine ⟨hi, q, s2, by rw [e]; exact h1, h2, h3, h4, ?_⟩
      right
      have hsz := hd.sz
      have hs0 := hd.nw.s0
      by_cases hc : d.size ≤ (id + 1) * 128
      · exact ⟨id.toNat, by omega, ⟨_, by unfold dUpd; rw [if_pos rfl]⟩, by rw [h5]; omega⟩
      · rcases hs with hs | ⟨j, hj, ⟨n, hn⟩, hz⟩
        · omega
        · refine ⟨j, hj, ?_, by rw [h5]; omega⟩
          unfold dUpd
          by_cases hji : j = id.toNat
          · rw [if_pos hji]; exact ⟨_, rfl⟩
          · rw [if_neg hji]; exact ⟨n, hn⟩
  · left
    refine ⟨hi, ?_⟩
    unfold dsetM
    rw [if_neg hi]; rfl
/-- what is among the first i numbers -/
def Among (f : Nat → Int) (i j : Nat) : Prop := ∃ k, k < i ∧ f k = (j : Int)
structure OrdI (D : Nat → Option NodeT) (f : Nat → Int) (i : Nat) : Prop where
  yes : ∀ j, j < 32 → Among f i j → D j = some ⟨(j : Int), pD⟩
  no : ∀ j, j < 32 → ¬ Among f i j → D j = none
theorem OrdI.start (f : Nat → Int) : OrdI (fun _ => none) f 0 := ⟨fun j _ h => by obtain ⟨k, hk, _⟩ := h; omega, fun j _ _ => rfl⟩
theorem among_succ {f : Nat → Int} {i j : Nat} : Among f (i + 1) j ↔ Among f i j ∨ f i = (j : Int) := by
  constructor
  · rintro ⟨k, hk, e⟩
    by_cases h : k = i
    · subst h; exact .inr e
    · exact .inl ⟨k, by omega, e⟩
  · rintro (⟨k, hk, e⟩ | e)
    · exact ⟨k, by omega, e⟩
    · exact ⟨i, by omega, e⟩
theorem OrdI.step {D : Nat → Option NodeT} {f : Nat → Int} {i : Nat} (h : OrdI D f i) (hi : idOk (f i)) : OrdI (dUpd D (f i).toNat (some ⟨f i, pD⟩)) f (i + 1) := by
  have i0 := hi.1
  refine ⟨fun j hj ha => ?_, fun j hj ha => ?_⟩
  · unfold dUpd
    by_cases e : j = (f i).toNat
    · rw [if_pos e]
      have : f i = (j : Int) := by omega
      rw [this]
    · rw [if_neg e]
      rcases among_succ.1 ha with h1 | h1
      · exact h.yes j hj h1
      · omega
  · unfold dUpd
    by_cases e : j = (f i).toNat
    · exact absurd (among_succ.2 (.inr (by omega))) ha
    · rw [if_neg e]
      exact h.no j hj (fun h1 => ha (among_succ.2 (.inl h1)))
theorem OrdI.skip {D : Nat → Option NodeT} {f : Nat → Int} {i : Nat} (h : OrdI D f i) (hi : ¬ idOk (f i)) : OrdI D f (i + 1) := by
  have key : ∀ j, j < 32 → (Among f (i + 1) j ↔ Among f i j) := fun j hj => by
    rw [among_succ]
    constructor
    · rintro (h | h)
      · exact h
      · exact absurd ⟨by omega, by omega⟩ hi
    · exact .inl
  exact ⟨fun j hj ha => h.yes j hj ((key j hj).1 ha), fun j hj ha => h.no j hj (fun h1 => ha ((key j hj).2 h1))⟩
/-- turned numbers are the same numbers -/
theorem among_turn {f : Nat → Int} {n t j : Nat} (hn : 0 < n) : Among (fun k => f ((k + t) % n)) n j ↔ Among f n j := by
  constructor
  · rintro ⟨k, hk, e⟩
    exact ⟨(k + t) % n, Nat.mod_lt _ hn, e⟩
  · rintro ⟨k, hk, e⟩
    refine ⟨(k + (n - t % n)) % n, Nat.mod_lt _ hn, ?_⟩
    have ht := Nat.mod_lt t hn
    have h1 : ((k + (n - t % n)) % n + t) % n = k := by
      rw [Nat.mod_add_mod]
      have h2 : k + (n - t % n) + t = k + n * (t / n + 1) := by
        have := Nat.div_add_mod t n
        rw [Nat.mul_add, Nat.mul_one]
        omega
      rw [h2, Nat.add_mul_mod_self_left, Nat.mod_eq_of_lt hk]
    show f (((k + (n - t % n)) % n + t) % n) = (j : Int)
    rw [h1]; exact e
/-- two directories of the same numbers -/
structure Same2 (a b : NodeT) (Da Db : Nat → Option NodeT) : Prop where
  lst : dLst Da 32 = dLst Db 32
  size : a.size = b.size
  ent : ∀ j, j ∈ dLst Da 32 → j < 32 ∧ Da j = some ⟨(j : Int), pD⟩ ∧ Db j = some ⟨(j : Int), pD⟩
theorem same2 {L : List Bs} {a b : NodeT} {Da Db : Nat → Option NodeT} {f : Nat → Int} {n t : Nat} (hn : 0 < n) (ha : DI L a Da) (hb : DI L b Db) (sa : SzI a Da) (sb : SzI b Db) (oa : OrdI Da f n) (ob : OrdI Db (fun k => f ((k + t) % n)) n) : Same2 a b Da Db := by
  have key : ∀ j, j < 32 → Da j = Db j := fun j hj => by
    by_cases h : Among f n j
    · rw [oa.yes j hj h, ob.yes j hj ((among_turn hn).2 h)]
    · rw [oa.no j hj h, ob.no j hj (fun h1 => h ((among_turn hn).1 h1))]
  have a0 := ha.nw.s0
  have b0 := hb.nw.s0
  refine ⟨?_, ?_, fun j hj => ?_⟩
  · unfold dLst
    apply List.filter_congr
    intro j hj
    rw [key j (List.mem_range.1 hj)]
  · have h1 : a.size ≤ b.size := by
      rcases sa with h | ⟨j, hj, ⟨n, hn⟩, hz⟩
      · omega
      · obtain ⟨_, _, h3, _⟩ := hb.some_ j n hj (by rw [← key j hj]; exact hn)
        omega
    have h2 : b.size ≤ a.size := by
      rcases sb with h | ⟨j, hj, ⟨n, hn⟩, hz⟩
      · omega
      · obtain ⟨_, _, h3, _⟩ := ha.some_ j n hj (by rw [key j hj]; exact hn)
        omega
    omega
  · unfold dLst at hj
    rw [List.mem_filter, List.mem_range] at hj
    obtain ⟨hj, hs⟩ := hj
    by_cases h : Among f n j
    · have := oa.yes j hj h
      exact ⟨hj, this, by rw [← key j hj]; exact this⟩
    · rw [oa.no j hj h] at hs; cases hs
/-- an act of an order: the directory, behind it -/
theorem od_step {k i : Nat} {st : MemT} {d : NodeT} {D : Nat → Option NodeT} {f : Nat → Int} (h : Rd k st) (hk : k ≤ 148) (hd : DI st.L d D) (hs : SzI d D) (ho : OrdI D f i) {id : Int} (hid : id = f i) : ∃ rv s2 d' D', dsetM memF d id (idN id) st = (rv, s2) ∧ Rd (k + 1) s2 ∧ (∃ X, s2.L = st.L ++ X) ∧ DI s2.L d' D' ∧ SzI d' D' ∧ OrdI D' f (i + 1) ∧ ((rv = .error 1 ∧ d' = d) ∨ rv = .ok d') := by
  rcases rd_dset6 h hk hd hs id with ⟨hn, e⟩ | ⟨hi, q, s2, e, hr, hx, hd2, hs2⟩
  · exact ⟨_, _, d, D, e, h.mono (by omega), ⟨[], by simp⟩, hd, hs, ho.skip (by rw [← hid]; exact hn), .inl ⟨rfl, rfl⟩⟩
  · refine ⟨_, _, q, _, e, hr, hx, hd2, hs2, ?_, .inr rfl⟩
    have := ho.step (by rw [← hid]; exact hi)
    rw [← hid] at this
    exact this
end Go.Proofs.YtbhofablndjeoaaDoor
