/- Loads and stores of values of many cells, kept whole in a walk. -/
import Derived.Test.YtbhofablndjeoaaDoorCore2
import Derived.Deep.MidRow
import Derived.Deep.DrawnRows
import Derived.Deep.QuietTactic
import Derived.BigQuiet
import Derived.BigRegion
namespace Go.Proofs.YtbhofablndjeoaaDoor
open Go.RowKit

/-- a load of a value, kept whole -/
def LoadW (P : Program) (o : Oper) (t : TypeId) (v : Value) (a : Act) (w : World) (next : Act → World → Prop) (Q : Exit → Act → World → Prop) : Prop :=
  o.upon P a next Q ((do let x ← Instr.loadAt t v; pure (Next.value x) : Sem Next).run P w)
/-- a store of a value, kept whole -/
def StoreW (P : Program) (o : Oper) (t : TypeId) (v u : Value) (a : Act) (w : World) (next : Act → World → Prop) (Q : Exit → Act → World → Prop) : Prop :=
  o.upon P a next Q ((do Instr.storeAt t v u; pure Next.skip : Sem Next).run P w)
theorem wp_loadW {P : Program} {dst : Option Tmp} {t : TypeId} {x : Operand} {ty : TypeId} {pos : String} {after : Array Edge} {guard : Option (Nat × Bool)} {a : Act} {w : World} {next : Act → World → Prop} {Q : Exit → Act → World → Prop} :
    Oper.wp P ⟨dst, .load t x, ty, pos, after, guard⟩ a w next Q = LoadW P ⟨dst, .load t x, ty, pos, after, guard⟩ t (a.eval x) a w next Q := rfl
theorem wp_storeW {P : Program} {dst : Option Tmp} {t : TypeId} {x y : Operand} {ty : TypeId} {pos : String} {after : Array Edge} {guard : Option (Nat × Bool)} {a : Act} {w : World} {next : Act → World → Prop} {Q : Exit → Act → World → Prop} :
    Oper.wp P ⟨dst, .store t x y, ty, pos, after, guard⟩ a w next Q = StoreW P ⟨dst, .store t x y, ty, pos, after, guard⟩ t (a.eval x) (a.eval y) a w next Q := rfl
theorem loadW_mid {P : Program} {t : TypeId} {b o : Nat} {cs : List Value} {d : TypeDesc} {w : World} (hc : w.rangeAt b o cs) (hu : P.underlying t = some d) (hd : d.isRow = true) (hi : (P.info? t).map (·.size) = some cs.length) (op : Oper) (a : Act) (next : Act → World → Prop) (Q : Exit → Act → World → Prop) :
    LoadW P op t (.pointer (some ⟨b, o, none⟩)) a w next Q = next (a.put op.dst (.agg cs.toArray)) w := by
  unfold LoadW
  rw [Sem.run_bind, run_loadAt_mid w b o t cs d hc hu hd hi]
  rfl
theorem storeW_mid {P : Program} {t : TypeId} {b o : Nat} {cs : List Value} {w : World} (ht : w.there b o cs.length) (hi : (P.info? t).map (·.size) = some cs.length) (h1 : ∀ u ∈ cs, u.oneCell' = true) (op : Oper) (a : Act) (next : Act → World → Prop) (Q : Exit → Act → World → Prop) :
    StoreW P op t (.pointer (some ⟨b, o, none⟩)) (.agg cs.toArray) a w next Q = next (a.put op.dst undef) (w.setCells b o cs) := by
  unfold StoreW
  have := run_storeAt_mid (P := P) w b o t cs.toArray (by simpa using ht) (by simpa using hi) (all_oneCell_toArray h1)
  rw [Sem.run_bind, this, List.toList_toArray]
  rfl

/-- the same in a region of which one walk serves all orders -/
def LoadQ (P : Program) (C : World → Prop) (t : TypeId) (u : Value) (w : World) (v : Value) : Prop :=
  Oper.quietUpon P C w v ((do let x ← Instr.loadAt t u; pure (Next.value x) : Sem Next).run P w)
theorem quiet_loadW {P : Program} {C : World → Prop} {dst : Option Tmp} {t : TypeId} {x : Operand} {ty : TypeId} {pos : String} {after : Array Edge} {guard : Option (Nat × Bool)} {a : Act} {w : World} {v : Value} :
    Oper.quietAt P ⟨dst, .load t x, ty, pos, after, guard⟩ a C w v = LoadQ P C t (a.eval x) w v := rfl
theorem loadQ_mid {P : Program} {t : TypeId} {b o : Nat} {cs : List Value} {d : TypeDesc} {w : World} (hc : w.rangeAt b o cs) (hu : P.underlying t = some d) (hd : d.isRow = true) (hi : (P.info? t).map (·.size) = some cs.length) (C : World → Prop) (v : Value) :
    LoadQ P C t (.pointer (some ⟨b, o, none⟩)) w v = (Value.agg cs.toArray = v) := by
  unfold LoadQ
  rw [Sem.run_bind, run_loadAt_mid w b o t cs d hc hu hd hi]
  show (w = w ∧ Value.agg cs.toArray = v) = _
  simp

/-- a world behind w, in which what was there is as it was -/
structure BW (w0 : World) where
  w : World
  bel : Below w0.heap.size w0 w
instance (w0 : World) : Nonempty (BW w0) := ⟨⟨w0, Below.refl _ _⟩⟩
theorem BW.cell {w0 : World} (p : BW w0) {a : Addr} {v : Value} (h : w0.cell? a = some v) : p.w.cell? a = some v := (p.bel.cell (World.block_lt_of_cell? w0 _ h)).trans h
theorem Calls.bw_of {P : Program} {f : FuncId} {args : Array Value} {w0 : World} {p : BW w0} {v : Value} (h : Calls P f args p.w fun e w' => e = .returned v ∧ Below p.w.heap.size p.w w') :
    Calls P f args p.w fun e w'' => e = .returned v ∧ ∃ q : BW w0, w'' = q.w :=
  h.mono fun _ _ ⟨he, hb⟩ => ⟨he, ⟨_, p.bel.trans (hb.mono p.bel.size)⟩, rfl⟩
/-- A REGION THAT DRAWS ITS ORDER, whose operations read and whose callees turn nothing: walked once. Each operation: go_big_quiet_step (refine Calls.bw_of ..); at the end: refine wpQuiet_nil ?_; rintro _ ⟨wq, rfl⟩ -/
theorem wp_region_below {P : Program} {id : Nat} {Q : Exit → Act → World → Prop} {a : Act} {w : World} {l : List Oper} (hm : P.follows .mixedOrders = true) (hB : Region.lexB .any l.toArray = true)
    (h : wpQuiet P l.toArray (fun w' => ∃ p : BW w, w' = p.w) (fun a' => ∀ w', (∃ p : BW w, w' = p.w) → Q .normal a' w') l a) : (Code.region id l.toArray true).wp P Q a w := by
  refine wp_region_quiet (C := fun w' => ∃ p : BW w, w' = p.w) hm hB ⟨⟨w.drew, (Below.refl _ _).drew⟩, rfl⟩ ?_
  rw [List.toList_toArray]
  exact h
/-- a new block, all of which is stored at once -/
theorem setCells_alloc_from (w : World) (e : TypeId) : ∀ (cs z pre : List Value), z.length = cs.length → (w.alloc (.cells (pre ++ z).toArray e)).setCells w.heap.size pre.length cs = w.alloc (.cells (pre ++ cs).toArray e)
  | [], z, pre, h => by
    have e : z = [] := List.eq_nil_of_length_eq_zero (by simpa using h)
    subst e
    rfl
  | c :: cs, z, pre, h => by
    cases z with
    | nil => simp at h
    | cons z0 zs =>
      rw [World.setCells, World.setCell_alloc_new]
      have e1 : (pre ++ z0 :: zs).toArray.setIfInBounds pre.length c = ((pre ++ [c]) ++ zs).toArray := by simp
      have h2 := setCells_alloc_from w e cs zs (pre ++ [c]) (by simpa using h)
      rw [e1, show pre.length + 1 = (pre ++ [c]).length by simp, h2]
      simp
theorem setCells_alloc (w : World) (e : TypeId) (cs z : List Value) (h : z.length = cs.length) : (w.alloc (.cells z.toArray e)).setCells w.heap.size 0 cs = w.alloc (.cells cs.toArray e) := by
  have := setCells_alloc_from w e cs z [] h
  simpa using this

end Go.Proofs.YtbhofablndjeoaaDoor
