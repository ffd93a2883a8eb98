/- The law's store Mem as a StoreC. -/
import Derived.Test.YtbhofablndjeoaaDoorTmC
namespace Go.Proofs.YtbhofablndjeoaaDoor
open Go.RowKit
set_option linter.unusedSimpArgs false
set_option linter.unusedVariables false
def memOk (s : MemT) : Prop := memOk' s.count s.L
def memFoot (mb : Nat) (v : Value) (k : Nat) : Prop := k = mb ∨ v.ownBlock = some k
def memIs (mb : Nat) (w : World) (s : MemT) (F : Nat → Prop) : Prop := ∃ v, IsMem w mb s v ∧ ∀ k, F k ↔ memFoot mb v k
theorem memP_wf {m n lv : Nat} (hm : m < 1000000) (hn : n ≤ 256) (hl : lv ≤ 3) : (memP m n lv).wf := by
  constructor
  · constructor <;> (simp only [memP]; (try unfold I64'); omega)
  all_goals (simp only [memP]; unfold U64'; omega)
theorem IsMem.step {w w' : World} {mb : Nat} {st' : MemT} {v v' : Value} {F : Nat → Prop} (hF : ∀ k, F k ↔ memFoot mb v k) (h : IsMem w' mb st' v') (hm : Mod (fun k => k = mb ∨ v.ownBlock = some k) w w') (ho : ∀ k, v'.ownBlock = some k → v.ownBlock = some k ∨ w.heap.size ≤ k) :
    ∃ F', memIs mb w' st' F' ∧ Mod F w w' ∧ ∀ k, F' k → F k ∨ w.heap.size ≤ k :=
  ⟨memFoot mb v', ⟨v', h, fun k => Iff.rfl⟩, hm.mono (fun x _ hx => (hF x).2 hx), fun k hk => hk.elim (fun e => .inl ((hF k).2 (.inl e))) (fun e => (ho k e).imp (fun e => (hF k).2 (.inr e)) id)⟩
theorem mem_get {mb : Nat} {w : World} {s : MemT} {F : Nat → Prop} (p : PtrT) (h : memIs mb w s F) (hok : memOk (memF.get p s).2) :
    Calls Tryd.prog 122 #[.pointer (some ⟨mb, 0, none⟩), .agg (encPtr p).toArray] w fun e w' => GetR (memF.get p s).1 e ∧ ∃ F', memIs mb w' (memF.get p s).2 F' ∧ Mod F w w' ∧ ∀ k, F' k → F k ∨ w.heap.size ≤ k := by
  obtain ⟨v, hm, hF⟩ := h
  have hst : (memF.get p s).2 = s.next := by unfold memF; dsimp only; split <;> rfl
  rw [hst] at hok ⊢
  have hc : s.count + 1 < 1000000000 := hok.1
  have fin : ∀ {w' : World}, IsMem w' mb s.next v → Mod (fun k => k = mb) w w' → ∃ F', memIs mb w' s.next F' ∧ Mod F w w' ∧ ∀ k, F' k → F k ∨ w.heap.size ≤ k := fun h1 h2 => IsMem.step hF h1 (h2.mono (fun x _ hx => .inl hx)) (fun k hk => .inl hk)
  by_cases ha : awakeB (s.count + 1) s.fails = true
  · by_cases hb : p.aa < 0 ∨ (s.L.length : Int) ≤ p.aa
    · have e : (memF.get p s).1 = .error 6 := by unfold memF; dsimp only; rw [if_pos (.inr hb)]
      rw [e]
      refine (mget_bad hm p hc ha hb).mono ?_
      rintro e w' ⟨rfl, h1, h2⟩
      exact ⟨⟨[], rfl, by decide⟩, fin h1 h2⟩
    · obtain ⟨j, hj⟩ : ∃ j : Nat, p.aa = j := ⟨p.aa.toNat, by omega⟩
      have hjl : j < s.L.length := by omega
      have e : (memF.get p s).1 = .ok s.L[j] := by
        unfold memF; dsimp only
        rw [if_neg (fun h => h.elim (fun h => by rw [ha] at h; cases h) hb), hj, Int.toNat_natCast, List.getD_eq_getElem?_getD, List.getElem?_eq_getElem hjl]; rfl
      rw [e]
      refine (mget_ok hm p hc ha j hj hjl).mono ?_
      rintro e w' ⟨rfl, h1, h2⟩
      exact ⟨⟨rfl, by have := hok.2.2 _ (List.getElem_mem hjl : s.L[j] ∈ s.next.L); omega⟩, fin h1 h2⟩
  · have ha' : awakeB (s.count + 1) s.fails = false := by simpa using ha
    have e : (memF.get p s).1 = .error 6 := by unfold memF; dsimp only; rw [if_pos (.inl ha')]
    rw [e]
    refine (mget_sleep hm p hc ha').mono ?_
    rintro e w' ⟨rfl, h1, h2⟩
    exact ⟨⟨[], rfl, by decide⟩, fin h1 h2⟩
theorem mem_put {mb : Nat} {w : World} {s : MemT} {F : Nat → Prop} (t : Bs) (l : Nat) (h : memIs mb w s F) (ht : t.length ≤ 256) (hl : l ≤ 3) (hok : memOk (memF.put t l s).2) :
    Calls Tryd.prog 123 #[.pointer (some ⟨mb, 0, none⟩), .string ⟨t.toArray⟩, .int .i64 (l : Nat)] w fun e w' => PutR (memF.put t l s).1 e ∧ ∃ F', memIs mb w' (memF.put t l s).2 F' ∧ Mod F w w' ∧ ∀ k, F' k → F k ∨ w.heap.size ≤ k := by
  obtain ⟨v, hm, hF⟩ := h
  by_cases ha : awakeB (s.count + 1) s.fails = true
  · have e : memF.put t l s = (.ok (memP s.L.length t.length l), { s with count := s.count + 1, L := s.L ++ [t] }) := by unfold memF; dsimp only; rw [if_neg (by rw [ha]; decide)]
    rw [e] at hok ⊢
    have hlen : s.L.length < 1000000 := by have := hok.2.1; simp at this; omega
    refine (mput_ok hm t l hl ht hlen hok.1 ha).mono ?_
    rintro e w' ⟨rfl, v', h1, h2, h3⟩
    exact ⟨⟨rfl, memP_wf hlen ht hl⟩, IsMem.step hF h1 h2 h3⟩
  · have ha' : awakeB (s.count + 1) s.fails = false := by simpa using ha
    have e : memF.put t l s = (.error 8, s.next) := by unfold memF; dsimp only; rw [if_pos ha']; rfl
    rw [e] at hok ⊢
    refine (mput_sleep hm t l hok.1 ha').mono ?_
    rintro e w' ⟨rfl, h1, h2⟩
    exact ⟨⟨rfl, by decide⟩, IsMem.step hF h1 (h2.mono (fun x _ hx => .inl hx)) (fun k hk => .inl hk)⟩
theorem mem_kinds {mb : Nat} {w : World} {s : MemT} {F : Nat → Prop} (h : memIs mb w s F) (k : Nat) (cs : Array Value) (e : TypeId) (fr : Nat × Nat) (hk : F k) (hh : w.heap[k]? = some (.cells cs e fr)) : e ≠ 5 ∧ e ≠ 92 := by
  obtain ⟨v, hm, hF⟩ := h
  rcases (hF k).1 hk with rfl | hv
  · have := hm.blk
    unfold Blk at this
    rw [this] at hh
    simp only [Option.some.injEq, Obj.cells.injEq] at hh
    rw [← hh.2.1]
    exact ⟨by decide, by decide⟩
  · rcases hm.row.2 with ⟨rfl, _⟩ | ⟨g, cap, cur, rfl, _, hg, _⟩
    · cases hv
    · simp only [Value.ownBlock, Option.some.injEq] at hv
      subst hv
      rw [hg] at hh
      simp only [Option.some.injEq, Obj.cells.injEq] at hh
      rw [← hh.2.1]
      exact ⟨by decide, by decide⟩
/-- the law's store is a store -/
def memC (mb : Nat) : StoreC memF 24 ⟨mb, 0, none⟩ where
  Is := memIs mb
  Ok := memOk
  kg := 122
  kp := 123
  mget := fun n w => by kernel_rfl
  nget := fun n w => by kernel_rfl
  mput := fun n w => by kernel_rfl
  nput := fun n w => by kernel_rfl
  cg := fun args w => by kernel_rfl
  cp := fun args w => by kernel_rfl
  lt := fun {w s F} h k hk => by
    obtain ⟨v, hm, hF⟩ := h
    rcases (hF k).1 hk with rfl | hv
    · exact hm.blk.lt
    · exact (hm.row.lt k hv).2
  kinds := fun {w s F} h k cs e fr hk hh => mem_kinds h k cs e fr hk hh
  keep := fun {w w' s F} h hs hb => by
    obtain ⟨v, hm, hF⟩ := h
    refine ⟨v, ⟨?_, ?_, hm.nb, hm.cnt, hm.fls⟩, hF⟩
    · unfold Blk; rw [hb mb ((hF mb).2 (.inl rfl))]; exact hm.blk
    · obtain ⟨h1, h2⟩ := hm.row
      refine ⟨h1, h2.imp id ?_⟩
      rintro ⟨g, cap, cur, rfl, hbg, hg, hx⟩
      exact ⟨g, cap, cur, rfl, hbg, by rw [hb g ((hF g).2 (.inr rfl))]; exact hg, hx⟩
  okget := fun p s h => by
    have hst : (memF.get p s).2 = s.next := by unfold memF; dsimp only; split <;> rfl
    rw [hst] at h
    exact ⟨by have := h.1; simp only [MemT.next] at this; omega, h.2⟩
  okput := fun t l s h => by
    unfold memF at h
    dsimp only at h
    split at h
    · exact ⟨by have := h.1; dsimp only at this; omega, h.2⟩
    · refine ⟨by have := h.1; dsimp only at this; omega, by have := h.2.1; simp at this; omega, fun t ht => h.2.2 t (List.mem_append_left _ ht)⟩
  get := fun {w s F} p h hp hok => mem_get p h hok
  put := fun {w s F} t l h ht hl hok => mem_put t l h ht hl hok
end Go.Proofs.YtbhofablndjeoaaDoor
