/- Operations on values of many cells, kept whole in a walk (printed by mkAg.py). -/
import Derived.Test.YtbhofablndjeoaaDoorFe
import Derived.Test.YtbhofablndjeoaaDoorBig
import Derived.Test.YtbhofablndjeoaaDoorMo
import Derived.Test.YtbhofablndjeoaaDoorTrP
import Derived.Test.YtbhofablndjeoaaDoorSh
import Derived.IntWalk
import Derived.Laws.BytesArg
import Derived.Lib.TrimByte
import Derived.Deep.RegionHeld3
import Derived.Deep.RegionWith
import Derived.Shelf.Strings.BuilderK
namespace Go.Proofs.YtbhofablndjeoaaDoor
open Go.RowKit
set_option linter.unusedSimpArgs false

/-- a comparison, kept whole -/
def BnQ (P : Program) (C : World → Prop) (op : BinOp) (t : TypeId) (x y : Operand) (u1 u2 : Value) (w : World) (v : Value) : Prop :=
  Oper.quietUpon P C w v ((do let r ← (do eqGuard op t x y u1 u2; binOp op t u1 u2); pure (Next.value r) : Sem Next).run P w)
def BnW (P : Program) (o : Oper) (op : BinOp) (t : TypeId) (x y : Operand) (u1 u2 : Value) (a : Act) (w : World) (next : Act → World → Prop) (Q : Exit → Act → World → Prop) : Prop :=
  o.upon P a next Q ((do let r ← (do eqGuard op t x y u1 u2; binOp op t u1 u2); pure (Next.value r) : Sem Next).run P w)
theorem loadW_blk {P : Program} {t : TypeId} {g e : Nat} {cs : List Value} {d : TypeDesc} {w : World} (h : Blk w g e cs) (hu : P.underlying t = some d) (hd : d.isRow = true) (hi : (P.info? t).map (·.size) = some cs.length) (op : Oper) (a : Act) (next : Act → World → Prop) (Q : Exit → Act → World → Prop) :
    LoadW P op t (.pointer (some ⟨g, 0, none⟩)) a w next Q = next (a.put op.dst (.agg cs.toArray)) w :=
  loadW_mid (fun j v hv => by rw [Nat.zero_add, h.cell, hv]) hu hd hi op a next Q
theorem loadW_part {P : Program} {t : TypeId} {g e o : Nat} {cs zs : List Value} {d : TypeDesc} {w : World} (h : Blk w g e zs) (hz : (zs.drop o).take cs.length = cs) (hu : P.underlying t = some d) (hd : d.isRow = true) (hi : (P.info? t).map (·.size) = some cs.length) (op : Oper) (a : Act) (next : Act → World → Prop) (Q : Exit → Act → World → Prop) :
    LoadW P op t (.pointer (some ⟨g, o, none⟩)) a w next Q = next (a.put op.dst (.agg cs.toArray)) w :=
  loadW_mid (fun j v hv => by
    have hj : j < cs.length := (List.getElem?_eq_some_iff.1 hv).1
    rw [h.cell, ← List.getElem?_drop, ← hv, ← hz, List.getElem?_take, if_pos hj]) hu hd hi op a next Q
theorem blk_there {w : World} {g e o n : Nat} {cs : List Value} (h : Blk w g e cs) (hl : o + n ≤ cs.length) : w.there g o n := fun j hj => by
  rw [h.cell, h.frozen]
  exact ⟨by simp; omega, rfl⟩
theorem storeW_part {P : Program} {t : TypeId} {g e o : Nat} {cs zs : List Value} {w : World} (h : Blk w g e zs) (hl : o + cs.length ≤ zs.length) (hi : (P.info? t).map (·.size) = some cs.length) (h1 : ∀ u ∈ cs, u.oneCell' = true) (op : Oper) (a : Act) (next : Act → World → Prop) (Q : Exit → Act → World → Prop) :
    StoreW P op t (.pointer (some ⟨g, o, none⟩)) (.agg cs.toArray) a w next Q = next (a.put op.dst undef) (w.setCells g o cs) :=
  storeW_mid (blk_there h hl) hi h1 op a next Q
theorem Blk.put {w : World} {g e : Nat} {cs vs : List Value} (h : Blk w g e cs) (hl : cs.length = vs.length) : Blk (w.setCells g 0 vs) g e vs := by
  have := h.setCells vs 0 (by omega)
  rw [List.take_zero, List.nil_append, Nat.zero_add, ← hl, List.drop_length, List.append_nil] at this
  exact this
theorem Blk.away {w : World} {g e g' : Nat} {cs : List Value} (h : Blk w g e cs) (o : Nat) (vs : List Value) (hne : g ≠ g') : Blk (w.setCells g' o vs) g e cs := by
  have := setCells_grown g' vs w o
  have hl := h.lt
  unfold Blk at h ⊢
  rw [this.block g hl (by simpa using fun e => hne e)]
  exact h
theorem Mod.put {F : Nat → Prop} {w w' : World} {g o : Nat} {vs : List Value} (h : Mod F w w') (hg : F g ∨ w.heap.size ≤ g) : Mod F w (w'.setCells g o vs) := by
  have k := setCells_grown g vs w' o
  refine ⟨k.os.trans h.os, k.tape.trans h.tape, k.output.trans h.output, Nat.le_trans h.size k.size, fun x hx hn => ?_⟩
  rw [k.block x (Nat.lt_of_lt_of_le hx h.size) (fun e => by simp only [Option.some.injEq] at e; rcases hg with h1 | h1 <;> first | exact hn (e ▸ h1) | omega)]
  exact h.block x hx hn
theorem below_put {B : Nat} {w w' : World} {g o : Nat} {vs : List Value} (h : Below B w w') (hB : B ≤ w'.heap.size) (hg : B ≤ g) : Below B w (w'.setCells g o vs) :=
  h.grown (setCells_grown g vs w' o) hB (fun k hk => by simp only [Option.some.injEq] at hk; omega)
def encN (n : NodeT) : List Value := .int .i64 n.size :: encPtr n.root
theorem encPtr_ones (p : PtrT) : ∀ u ∈ encPtr p, u.oneCell' = true := by
  intro u hu
  simp only [encPtr, List.mem_cons, List.not_mem_nil, or_false] at hu
  rcases hu with rfl | rfl | rfl | rfl | rfl | rfl | rfl | rfl | rfl | rfl | rfl | rfl <;> rfl
theorem encN_ones (n : NodeT) : ∀ u ∈ encN n, u.oneCell' = true := by
  intro u hu
  rcases List.mem_cons.1 hu with rfl | h
  · rfl
  · exact encPtr_ones _ u h
theorem encPtr_inj {p q : PtrT} : encPtr p = encPtr q ↔ p = q := by
  constructor
  · intro h
    cases p; cases q
    simpa [encPtr] using h
  · rintro rfl; rfl
theorem encN_inj {p q : NodeT} : encN p = encN q ↔ p = q := by
  constructor
  · intro h
    cases p; cases q
    simp only [encN, List.cons.injEq, Value.int.injEq, true_and, encPtr_inj] at h
    simp [h]
  · rintro rfl; rfl
theorem encPs_inj : ∀ {a b : List PtrT}, encPs a = encPs b ↔ a = b
  | [], [] => by simp
  | [], b :: r => by simp [encPs, encPtr]
  | a :: r, [] => by simp [encPs, encPtr]
  | a :: r, b :: r' => by
    have e : ∀ (x : PtrT) l, encPs (x :: l) = encPtr x ++ encPs l := fun x l => by simp [encPs]
    rw [e, e, List.cons.injEq, ← encPs_inj (a := r), ← encPtr_inj]
    constructor
    · intro h
      exact List.append_inj h (by simp [encPtr])
    · rintro ⟨h1, h2⟩; rw [h1, h2]
structure NodeT.wf (n : NodeT) : Prop where
  size : I64' n.size
  root : n.root.wf
def kPtr : List LK := [.int .i64, .int .i64, .int .i64, .int .i64, .bool, .int .i64, .int .i64, .int .i64, .int .u64, .int .u64, .int .u64, .int .u64]
theorem wf_i64 {x : Int} (h : I64' x) : (Lit.int .i64 x).wf = true := by
  have h1 : IntKind.i64.min = -9223372036854775808 := by decide
  have h2 : IntKind.i64.max = 9223372036854775807 := by decide
  show (decide (IntKind.i64.min ≤ x) && decide (x ≤ IntKind.i64.max)) = true
  rw [h1, h2]
  unfold I64' at h
  simp [h]
theorem wf_u64 {x : Int} (h : U64' x) : (Lit.int .u64 x).wf = true := by
  have h1 : IntKind.u64.min = 0 := by decide
  have h2 : IntKind.u64.max = 18446744073709551615 := by decide
  show (decide (IntKind.u64.min ≤ x) && decide (x ≤ IntKind.u64.max)) = true
  rw [h1, h2]
  unfold U64' at h
  simp only [h.1, decide_true, Bool.true_and, decide_eq_true_eq]
  omega
theorem fitsPtr {p : PtrT} (h : p.wf) : fits kPtr (encPtr p) :=
  ⟨⟨_, rfl, wf_i64 h.ok.ag⟩, ⟨_, rfl, wf_i64 h.ok.aa⟩, ⟨_, rfl, wf_i64 h.ok.bg⟩, ⟨_, rfl, wf_i64 h.ok.ba⟩, ⟨_, rfl⟩, ⟨_, rfl, wf_i64 h.ok.size⟩, ⟨_, rfl, wf_i64 h.ok.level⟩, ⟨_, rfl, wf_i64 h.ok.birth⟩, ⟨_, rfl, wf_u64 h.s0⟩, ⟨_, rfl, wf_u64 h.s1⟩, ⟨_, rfl, wf_u64 h.s2⟩, ⟨_, rfl, wf_u64 h.s3⟩, trivial⟩
theorem pD_wf : pD.wf := by
  constructor
  · constructor <;> (unfold I64' pD; decide)
  all_goals (unfold U64' pD; decide)
theorem fitsPs : ∀ {l : List PtrT}, (∀ p ∈ l, p.wf) → fits (List.replicate l.length kPtr).flatten (encPs l)
  | [], _ => trivial
  | p :: r, h => by
    have e : encPs (p :: r) = encPtr p ++ encPs r := by simp [encPs]
    rw [e, List.length_cons, List.replicate_succ, List.flatten_cons]
    exact fits_append (fitsPtr (h p (by simp))) (fitsPs (fun q hq => h q (by simp [hq])))
theorem fitsN {n : NodeT} (h : n.wf) : fits (.int .i64 :: kPtr) (encN n) := ⟨⟨_, rfl, wf_i64 h.size⟩, fitsPtr h.root⟩
theorem iszPt : (Tryd.prog.info? 35).map (·.size) = some 12 := by kernel_rfl
theorem wp_loadPt {dst : Option Tmp} {x : Operand} {ty : TypeId} {pos : String} {after : Array Edge} {guard : Option (Nat × Bool)} {a : Act} {w : World} {next : Act → World → Prop} {Q : Exit → Act → World → Prop} :
    Oper.wp Tryd.prog ⟨dst, .load 35 x, ty, pos, after, guard⟩ a w next Q = LoadW Tryd.prog ⟨dst, .load 35 x, ty, pos, after, guard⟩ 35 (a.eval x) a w next Q := rfl
theorem wp_storePt {dst : Option Tmp} {x y : Operand} {ty : TypeId} {pos : String} {after : Array Edge} {guard : Option (Nat × Bool)} {a : Act} {w : World} {next : Act → World → Prop} {Q : Exit → Act → World → Prop} :
    Oper.wp Tryd.prog ⟨dst, .store 35 x y, ty, pos, after, guard⟩ a w next Q = StoreW Tryd.prog ⟨dst, .store 35 x y, ty, pos, after, guard⟩ 35 (a.eval x) (a.eval y) a w next Q := rfl
theorem quiet_loadPt {C : World → Prop} {dst : Option Tmp} {x : Operand} {ty : TypeId} {pos : String} {after : Array Edge} {guard : Option (Nat × Bool)} {a : Act} {w : World} {v : Value} :
    Oper.quietAt Tryd.prog ⟨dst, .load 35 x, ty, pos, after, guard⟩ a C w v = LoadQ Tryd.prog C 35 (a.eval x) w v := rfl
theorem quiet_binPt {C : World → Prop} {dst : Option Tmp} {op : BinOp} {x y : Operand} {t' ty : TypeId} {pos : String} {after : Array Edge} {guard : Option (Nat × Bool)} {a : Act} {w : World} {v : Value} :
    Oper.quietAt Tryd.prog ⟨dst, .binOp op 35 x y t', ty, pos, after, guard⟩ a C w v = BnQ Tryd.prog C op 35 x y (a.eval x) (a.eval y) w v := rfl
theorem wp_binPt {dst : Option Tmp} {op : BinOp} {x y : Operand} {t' ty : TypeId} {pos : String} {after : Array Edge} {guard : Option (Nat × Bool)} {a : Act} {w : World} {next : Act → World → Prop} {Q : Exit → Act → World → Prop} :
    Oper.wp Tryd.prog ⟨dst, .binOp op 35 x y t', ty, pos, after, guard⟩ a w next Q = BnW Tryd.prog ⟨dst, .binOp op 35 x y t', ty, pos, after, guard⟩ op 35 x y (a.eval x) (a.eval y) a w next Q := rfl
theorem iszSm : (Tryd.prog.info? 33).map (·.size) = some 4 := by kernel_rfl
theorem wp_loadSm {dst : Option Tmp} {x : Operand} {ty : TypeId} {pos : String} {after : Array Edge} {guard : Option (Nat × Bool)} {a : Act} {w : World} {next : Act → World → Prop} {Q : Exit → Act → World → Prop} :
    Oper.wp Tryd.prog ⟨dst, .load 33 x, ty, pos, after, guard⟩ a w next Q = LoadW Tryd.prog ⟨dst, .load 33 x, ty, pos, after, guard⟩ 33 (a.eval x) a w next Q := rfl
theorem wp_storeSm {dst : Option Tmp} {x y : Operand} {ty : TypeId} {pos : String} {after : Array Edge} {guard : Option (Nat × Bool)} {a : Act} {w : World} {next : Act → World → Prop} {Q : Exit → Act → World → Prop} :
    Oper.wp Tryd.prog ⟨dst, .store 33 x y, ty, pos, after, guard⟩ a w next Q = StoreW Tryd.prog ⟨dst, .store 33 x y, ty, pos, after, guard⟩ 33 (a.eval x) (a.eval y) a w next Q := rfl
theorem quiet_loadSm {C : World → Prop} {dst : Option Tmp} {x : Operand} {ty : TypeId} {pos : String} {after : Array Edge} {guard : Option (Nat × Bool)} {a : Act} {w : World} {v : Value} :
    Oper.quietAt Tryd.prog ⟨dst, .load 33 x, ty, pos, after, guard⟩ a C w v = LoadQ Tryd.prog C 33 (a.eval x) w v := rfl
theorem quiet_binSm {C : World → Prop} {dst : Option Tmp} {op : BinOp} {x y : Operand} {t' ty : TypeId} {pos : String} {after : Array Edge} {guard : Option (Nat × Bool)} {a : Act} {w : World} {v : Value} :
    Oper.quietAt Tryd.prog ⟨dst, .binOp op 33 x y t', ty, pos, after, guard⟩ a C w v = BnQ Tryd.prog C op 33 x y (a.eval x) (a.eval y) w v := rfl
theorem wp_binSm {dst : Option Tmp} {op : BinOp} {x y : Operand} {t' ty : TypeId} {pos : String} {after : Array Edge} {guard : Option (Nat × Bool)} {a : Act} {w : World} {next : Act → World → Prop} {Q : Exit → Act → World → Prop} :
    Oper.wp Tryd.prog ⟨dst, .binOp op 33 x y t', ty, pos, after, guard⟩ a w next Q = BnW Tryd.prog ⟨dst, .binOp op 33 x y t', ty, pos, after, guard⟩ op 33 x y (a.eval x) (a.eval y) a w next Q := rfl
theorem run_eqPt {p q : PtrT} (hp : p.wf) (hq : q.wf) (W : World) : (Op.equalIn 10000 35 (.agg (encPtr p).toArray) (.agg (encPtr q).toArray)).run Tryd.prog W = .ok (decide (p = q)) W := by
  obtain ⟨r, h1, h2⟩ := run_eq_flat (P := Tryd.prog) (n := 4) (t := 35) (ks := kPtr) (by kernel_rfl) (by kernel_rfl) (by decide) (by decide) (by kernel_rfl) (by kernel_rfl) (fitsPtr hp) (fitsPtr hq) W
  have e : r = decide (p = q) := by
    rw [Bool.eq_iff_iff, h2, encPtr_inj]
    simp
  rw [← e]
  exact h1
theorem grdPt : Tryd.prog.eqGuardType Tryd.prog.depth 35 = false := by kernel_rfl
theorem bnW_eqlPt {p q : PtrT} (hp : p.wf) (hq : q.wf) (o : Oper) (x y : Operand) (a : Act) (W : World) (next : Act → World → Prop) (Q : Exit → Act → World → Prop) : BnW Tryd.prog o .eql 35 x y (.agg (encPtr p).toArray) (.agg (encPtr q).toArray) a W next Q = next (a.put o.dst (.bool (decide (p = q)))) W := by
  unfold BnW
  rw [Sem.run_bind, Sem.run_bind, run_eqGuard_agg W _ _ _ _ _ _ grdPt, Result.andThen_ok, run_eql_struct, run_eqPt hp hq]
  rfl
theorem bnW_neqPt {p q : PtrT} (hp : p.wf) (hq : q.wf) (o : Oper) (x y : Operand) (a : Act) (W : World) (next : Act → World → Prop) (Q : Exit → Act → World → Prop) : BnW Tryd.prog o .neq 35 x y (.agg (encPtr p).toArray) (.agg (encPtr q).toArray) a W next Q = next (a.put o.dst (.bool (!decide (p = q)))) W := by
  unfold BnW
  rw [Sem.run_bind, Sem.run_bind, run_eqGuard_agg W _ _ _ _ _ _ grdPt, Result.andThen_ok, run_neq_struct, run_eqPt hp hq]
  rfl
theorem bnQ_eqlPt {p q : PtrT} (hp : p.wf) (hq : q.wf) (C : World → Prop) (x y : Operand) (W : World) (v : Value) : BnQ Tryd.prog C .eql 35 x y (.agg (encPtr p).toArray) (.agg (encPtr q).toArray) W v = (Value.bool (decide (p = q)) = v) := by
  unfold BnQ
  rw [Sem.run_bind, Sem.run_bind, run_eqGuard_agg W _ _ _ _ _ _ grdPt, Result.andThen_ok, run_eql_struct, run_eqPt hp hq]
  show (W = W ∧ _) = _
  simp
theorem bnQ_neqPt {p q : PtrT} (hp : p.wf) (hq : q.wf) (C : World → Prop) (x y : Operand) (W : World) (v : Value) : BnQ Tryd.prog C .neq 35 x y (.agg (encPtr p).toArray) (.agg (encPtr q).toArray) W v = (Value.bool (!decide (p = q)) = v) := by
  unfold BnQ
  rw [Sem.run_bind, Sem.run_bind, run_eqGuard_agg W _ _ _ _ _ _ grdPt, Result.andThen_ok, run_neq_struct, run_eqPt hp hq]
  show (W = W ∧ _) = _
  simp
/-- held against none -/
theorem bnW_nilPt {p : PtrT} (hp : p.wf) (o : Oper) (x y : Operand) (a : Act) (W : World) (next : Act → World → Prop) (Q : Exit → Act → World → Prop) : BnW Tryd.prog o .eql 35 x y (.agg (encPtr p).toArray) (.agg #[.int .i64 0, .int .i64 0, .int .i64 0, .int .i64 0, .bool false, .int .i64 0, .int .i64 0, .int .i64 0, .int .u64 0, .int .u64 0, .int .u64 0, .int .u64 0]) a W next Q = next (a.put o.dst (.bool (isNone p))) W := bnW_eqlPt hp pD_wf o x y a W next Q
/-- a new variable, that is stored into at once -/
theorem store_newPt (p : PtrT) (w : World) (op : Oper) (a : Act) (next : Act → World → Prop) (Q : Exit → Act → World → Prop) : StoreW Tryd.prog op 35 (.pointer (some ⟨w.heap.size, 0, none⟩)) (.agg (encPtr p).toArray) a (w.alloc (.cells #[.int .i64 0, .int .i64 0, .int .i64 0, .int .i64 0, .bool false, .int .i64 0, .int .i64 0, .int .i64 0, .int .u64 0, .int .u64 0, .int .u64 0, .int .u64 0] 35)) next Q = next (a.put op.dst undef) (w.alloc (.cells (encPtr p).toArray 35)) := by
  have h := Blk.new w 35 (#[.int .i64 0, .int .i64 0, .int .i64 0, .int .i64 0, .bool false, .int .i64 0, .int .i64 0, .int .i64 0, .int .u64 0, .int .u64 0, .int .u64 0, .int .u64 0]).toList
  have e := setCells_alloc w 35 (encPtr p) (#[.int .i64 0, .int .i64 0, .int .i64 0, .int .i64 0, .bool false, .int .i64 0, .int .i64 0, .int .i64 0, .int .u64 0, .int .u64 0, .int .u64 0, .int .u64 0]).toList rfl
  have s := storeW_part (P := Tryd.prog) (t := 35) (o := 0) (cs := encPtr p) h (Nat.le_refl 12) iszPt (encPtr_ones p) op a next Q
  rw [e] at s
  exact s
/-- a variable of which the zero value is stored -/
theorem storeZPt {w : World} {g e : Nat} {zs : List Value} (h : Blk w g e zs) (hl : zs.length = 12) (op : Oper) (a : Act) (next : Act → World → Prop) (Q : Exit → Act → World → Prop) : StoreW Tryd.prog op 35 (.pointer (some ⟨g, 0, none⟩)) (.agg #[.int .i64 0, .int .i64 0, .int .i64 0, .int .i64 0, .bool false, .int .i64 0, .int .i64 0, .int .i64 0, .int .u64 0, .int .u64 0, .int .u64 0, .int .u64 0]) a w next Q = next (a.put op.dst undef) (w.setCells g 0 (encPtr pD)) :=
  storeW_part (P := Tryd.prog) (t := 35) (o := 0) (cs := encPtr pD) h (by rw [hl]; exact Nat.le_refl 12) iszPt (encPtr_ones _) op a next Q
theorem encPs_sub (l : List PtrT) (k : Nat) (hk : k < l.length) : ((encPs l).drop (k * 12)).take 12 = encPtr l[k] := by
  induction l generalizing k with
  | nil => simp at hk
  | cons p r ih =>
    have e : encPs (p :: r) = encPtr p ++ encPs r := by simp [encPs]
    rw [e]
    cases k with
    | zero => rw [Nat.zero_mul, List.drop_zero, List.take_left' (by rfl)]; rfl
    | succ k =>
      rw [show (k + 1) * 12 = (encPtr p).length + k * 12 by simp [encPtr]; omega, ← List.drop_drop, List.drop_left, ih k (by simpa using hk)]
      rfl
theorem encPs_ext (l : List PtrT) (k : Nat) (hk : k < l.length) : (encPs l).toArray.extract (k * 12) (k * 12 + 12) = (encPtr l[k]).toArray := by
  rw [List.extract_toArray, List.extract_eq_take_drop, show k * 12 + 12 - k * 12 = 12 by omega, encPs_sub l k hk]
theorem encPs_setCells (l : List PtrT) (k : Nat) (p : PtrT) (hk : k < l.length) : (encPs l).take (k * 12) ++ encPtr p ++ (encPs l).drop (k * 12 + 12) = encPs (l.set k p) := by
  induction l generalizing k with
  | nil => simp at hk
  | cons q r ih =>
    have e : ∀ q r, encPs (q :: r) = encPtr q ++ encPs r := fun q r => by simp [encPs]
    cases k with
    | zero =>
      rw [List.set_cons_zero, e, e, Nat.zero_mul, List.take_zero, List.nil_append, Nat.zero_add, List.drop_left' (by rfl)]
    | succ k =>
      have hl : (encPtr q).length = 12 := rfl
      rw [List.set_cons_succ, e, e, ← ih k (by simpa using hk), show (k + 1) * 12 = (encPtr q).length + k * 12 by rw [hl]; omega, List.take_length_add_append, show (encPtr q).length + k * 12 + 12 = (encPtr q).length + (k * 12 + 12) by omega, List.drop_length_add_append]
      simp
end Go.Proofs.YtbhofablndjeoaaDoor
/- Operations on nodes, and rows of four pointers, kept whole in a walk (printed by mkAg.py). -/
namespace Go.Proofs.YtbhofablndjeoaaDoor
open Go.RowKit
set_option linter.unusedSimpArgs false

theorem iszNd : (Tryd.prog.info? 37).map (·.size) = some 13 := by kernel_rfl
theorem wp_loadNd {dst : Option Tmp} {x : Operand} {ty : TypeId} {pos : String} {after : Array Edge} {guard : Option (Nat × Bool)} {a : Act} {w : World} {next : Act → World → Prop} {Q : Exit → Act → World → Prop} :
    Oper.wp Tryd.prog ⟨dst, .load 37 x, ty, pos, after, guard⟩ a w next Q = LoadW Tryd.prog ⟨dst, .load 37 x, ty, pos, after, guard⟩ 37 (a.eval x) a w next Q := rfl
theorem wp_storeNd {dst : Option Tmp} {x y : Operand} {ty : TypeId} {pos : String} {after : Array Edge} {guard : Option (Nat × Bool)} {a : Act} {w : World} {next : Act → World → Prop} {Q : Exit → Act → World → Prop} :
    Oper.wp Tryd.prog ⟨dst, .store 37 x y, ty, pos, after, guard⟩ a w next Q = StoreW Tryd.prog ⟨dst, .store 37 x y, ty, pos, after, guard⟩ 37 (a.eval x) (a.eval y) a w next Q := rfl
theorem quiet_loadNd {C : World → Prop} {dst : Option Tmp} {x : Operand} {ty : TypeId} {pos : String} {after : Array Edge} {guard : Option (Nat × Bool)} {a : Act} {w : World} {v : Value} :
    Oper.quietAt Tryd.prog ⟨dst, .load 37 x, ty, pos, after, guard⟩ a C w v = LoadQ Tryd.prog C 37 (a.eval x) w v := rfl
theorem quiet_binNd {C : World → Prop} {dst : Option Tmp} {op : BinOp} {x y : Operand} {t' ty : TypeId} {pos : String} {after : Array Edge} {guard : Option (Nat × Bool)} {a : Act} {w : World} {v : Value} :
    Oper.quietAt Tryd.prog ⟨dst, .binOp op 37 x y t', ty, pos, after, guard⟩ a C w v = BnQ Tryd.prog C op 37 x y (a.eval x) (a.eval y) w v := rfl
theorem wp_binNd {dst : Option Tmp} {op : BinOp} {x y : Operand} {t' ty : TypeId} {pos : String} {after : Array Edge} {guard : Option (Nat × Bool)} {a : Act} {w : World} {next : Act → World → Prop} {Q : Exit → Act → World → Prop} :
    Oper.wp Tryd.prog ⟨dst, .binOp op 37 x y t', ty, pos, after, guard⟩ a w next Q = BnW Tryd.prog ⟨dst, .binOp op 37 x y t', ty, pos, after, guard⟩ op 37 x y (a.eval x) (a.eval y) a w next Q := rfl
theorem iszA4 : (Tryd.prog.info? 108).map (·.size) = some 48 := by kernel_rfl
theorem wp_loadA4 {dst : Option Tmp} {x : Operand} {ty : TypeId} {pos : String} {after : Array Edge} {guard : Option (Nat × Bool)} {a : Act} {w : World} {next : Act → World → Prop} {Q : Exit → Act → World → Prop} :
    Oper.wp Tryd.prog ⟨dst, .load 108 x, ty, pos, after, guard⟩ a w next Q = LoadW Tryd.prog ⟨dst, .load 108 x, ty, pos, after, guard⟩ 108 (a.eval x) a w next Q := rfl
theorem wp_storeA4 {dst : Option Tmp} {x y : Operand} {ty : TypeId} {pos : String} {after : Array Edge} {guard : Option (Nat × Bool)} {a : Act} {w : World} {next : Act → World → Prop} {Q : Exit → Act → World → Prop} :
    Oper.wp Tryd.prog ⟨dst, .store 108 x y, ty, pos, after, guard⟩ a w next Q = StoreW Tryd.prog ⟨dst, .store 108 x y, ty, pos, after, guard⟩ 108 (a.eval x) (a.eval y) a w next Q := rfl
theorem quiet_loadA4 {C : World → Prop} {dst : Option Tmp} {x : Operand} {ty : TypeId} {pos : String} {after : Array Edge} {guard : Option (Nat × Bool)} {a : Act} {w : World} {v : Value} :
    Oper.quietAt Tryd.prog ⟨dst, .load 108 x, ty, pos, after, guard⟩ a C w v = LoadQ Tryd.prog C 108 (a.eval x) w v := rfl
theorem quiet_binA4 {C : World → Prop} {dst : Option Tmp} {op : BinOp} {x y : Operand} {t' ty : TypeId} {pos : String} {after : Array Edge} {guard : Option (Nat × Bool)} {a : Act} {w : World} {v : Value} :
    Oper.quietAt Tryd.prog ⟨dst, .binOp op 108 x y t', ty, pos, after, guard⟩ a C w v = BnQ Tryd.prog C op 108 x y (a.eval x) (a.eval y) w v := rfl
theorem wp_binA4 {dst : Option Tmp} {op : BinOp} {x y : Operand} {t' ty : TypeId} {pos : String} {after : Array Edge} {guard : Option (Nat × Bool)} {a : Act} {w : World} {next : Act → World → Prop} {Q : Exit → Act → World → Prop} :
    Oper.wp Tryd.prog ⟨dst, .binOp op 108 x y t', ty, pos, after, guard⟩ a w next Q = BnW Tryd.prog ⟨dst, .binOp op 108 x y t', ty, pos, after, guard⟩ op 108 x y (a.eval x) (a.eval y) a w next Q := rfl
theorem iszIx : (Tryd.prog.info? 110).map (·.size) = some 48 := by kernel_rfl
theorem wp_loadIx {dst : Option Tmp} {x : Operand} {ty : TypeId} {pos : String} {after : Array Edge} {guard : Option (Nat × Bool)} {a : Act} {w : World} {next : Act → World → Prop} {Q : Exit → Act → World → Prop} :
    Oper.wp Tryd.prog ⟨dst, .load 110 x, ty, pos, after, guard⟩ a w next Q = LoadW Tryd.prog ⟨dst, .load 110 x, ty, pos, after, guard⟩ 110 (a.eval x) a w next Q := rfl
theorem wp_storeIx {dst : Option Tmp} {x y : Operand} {ty : TypeId} {pos : String} {after : Array Edge} {guard : Option (Nat × Bool)} {a : Act} {w : World} {next : Act → World → Prop} {Q : Exit → Act → World → Prop} :
    Oper.wp Tryd.prog ⟨dst, .store 110 x y, ty, pos, after, guard⟩ a w next Q = StoreW Tryd.prog ⟨dst, .store 110 x y, ty, pos, after, guard⟩ 110 (a.eval x) (a.eval y) a w next Q := rfl
theorem quiet_loadIx {C : World → Prop} {dst : Option Tmp} {x : Operand} {ty : TypeId} {pos : String} {after : Array Edge} {guard : Option (Nat × Bool)} {a : Act} {w : World} {v : Value} :
    Oper.quietAt Tryd.prog ⟨dst, .load 110 x, ty, pos, after, guard⟩ a C w v = LoadQ Tryd.prog C 110 (a.eval x) w v := rfl
theorem quiet_binIx {C : World → Prop} {dst : Option Tmp} {op : BinOp} {x y : Operand} {t' ty : TypeId} {pos : String} {after : Array Edge} {guard : Option (Nat × Bool)} {a : Act} {w : World} {v : Value} :
    Oper.quietAt Tryd.prog ⟨dst, .binOp op 110 x y t', ty, pos, after, guard⟩ a C w v = BnQ Tryd.prog C op 110 x y (a.eval x) (a.eval y) w v := rfl
theorem wp_binIx {dst : Option Tmp} {op : BinOp} {x y : Operand} {t' ty : TypeId} {pos : String} {after : Array Edge} {guard : Option (Nat × Bool)} {a : Act} {w : World} {next : Act → World → Prop} {Q : Exit → Act → World → Prop} :
    Oper.wp Tryd.prog ⟨dst, .binOp op 110 x y t', ty, pos, after, guard⟩ a w next Q = BnW Tryd.prog ⟨dst, .binOp op 110 x y t', ty, pos, after, guard⟩ op 110 x y (a.eval x) (a.eval y) a w next Q := rfl
theorem run_eqNd {p q : NodeT} (hp : p.wf) (hq : q.wf) (W : World) : (Op.equalIn 10000 37 (.agg (encN p).toArray) (.agg (encN q).toArray)).run Tryd.prog W = .ok (decide (p = q)) W := by
  obtain ⟨r, h1, h2⟩ := run_eq_flat (P := Tryd.prog) (n := 5) (t := 37) (ks := .int .i64 :: kPtr) (by kernel_rfl) (by kernel_rfl) (by decide) (by decide) (by kernel_rfl) (by kernel_rfl) (fitsN hp) (fitsN hq) W
  have e : r = decide (p = q) := by
    rw [Bool.eq_iff_iff, h2, encN_inj]
    simp
  rw [← e]
  exact h1
theorem grdNd : Tryd.prog.eqGuardType Tryd.prog.depth 37 = false := by kernel_rfl
theorem bnW_eqlNd {p q : NodeT} (hp : p.wf) (hq : q.wf) (o : Oper) (x y : Operand) (a : Act) (W : World) (next : Act → World → Prop) (Q : Exit → Act → World → Prop) : BnW Tryd.prog o .eql 37 x y (.agg (encN p).toArray) (.agg (encN q).toArray) a W next Q = next (a.put o.dst (.bool (decide (p = q)))) W := by
  unfold BnW
  rw [Sem.run_bind, Sem.run_bind, run_eqGuard_agg W _ _ _ _ _ _ grdNd, Result.andThen_ok, run_eql_struct, run_eqNd hp hq]
  rfl
theorem bnW_neqNd {p q : NodeT} (hp : p.wf) (hq : q.wf) (o : Oper) (x y : Operand) (a : Act) (W : World) (next : Act → World → Prop) (Q : Exit → Act → World → Prop) : BnW Tryd.prog o .neq 37 x y (.agg (encN p).toArray) (.agg (encN q).toArray) a W next Q = next (a.put o.dst (.bool (!decide (p = q)))) W := by
  unfold BnW
  rw [Sem.run_bind, Sem.run_bind, run_eqGuard_agg W _ _ _ _ _ _ grdNd, Result.andThen_ok, run_neq_struct, run_eqNd hp hq]
  rfl
theorem bnQ_eqlNd {p q : NodeT} (hp : p.wf) (hq : q.wf) (C : World → Prop) (x y : Operand) (W : World) (v : Value) : BnQ Tryd.prog C .eql 37 x y (.agg (encN p).toArray) (.agg (encN q).toArray) W v = (Value.bool (decide (p = q)) = v) := by
  unfold BnQ
  rw [Sem.run_bind, Sem.run_bind, run_eqGuard_agg W _ _ _ _ _ _ grdNd, Result.andThen_ok, run_eql_struct, run_eqNd hp hq]
  show (W = W ∧ _) = _
  simp
theorem bnQ_neqNd {p q : NodeT} (hp : p.wf) (hq : q.wf) (C : World → Prop) (x y : Operand) (W : World) (v : Value) : BnQ Tryd.prog C .neq 37 x y (.agg (encN p).toArray) (.agg (encN q).toArray) W v = (Value.bool (!decide (p = q)) = v) := by
  unfold BnQ
  rw [Sem.run_bind, Sem.run_bind, run_eqGuard_agg W _ _ _ _ _ _ grdNd, Result.andThen_ok, run_neq_struct, run_eqNd hp hq]
  show (W = W ∧ _) = _
  simp
theorem run_eqA4 {p q : List PtrT} (hl : p.length = 4) (hm : q.length = 4) (hp : ∀ x ∈ p, x.wf) (hq : ∀ x ∈ q, x.wf) (W : World) : (Op.equalIn 10000 108 (.agg (encPs p).toArray) (.agg (encPs q).toArray)).run Tryd.prog W = .ok (decide (p = q)) W := by
  obtain ⟨r, h1, h2⟩ := run_eq_flat (P := Tryd.prog) (n := 5) (t := 108) (ks := (List.replicate 4 kPtr).flatten) (by kernel_rfl) (by kernel_rfl) (by decide) (by decide) (by kernel_rfl) (by kernel_rfl) (hl ▸ fitsPs hp) (hm ▸ fitsPs hq) W
  have e : r = decide (p = q) := by
    rw [Bool.eq_iff_iff, h2, encPs_inj]
    simp
  rw [← e]
  exact h1
theorem grdA4 : Tryd.prog.eqGuardType Tryd.prog.depth 108 = false := by kernel_rfl
theorem bnW_eqlA4 {p q : List PtrT} (hl : p.length = 4) (hm : q.length = 4) (hp : ∀ x ∈ p, x.wf) (hq : ∀ x ∈ q, x.wf) (o : Oper) (x y : Operand) (a : Act) (W : World) (next : Act → World → Prop) (Q : Exit → Act → World → Prop) : BnW Tryd.prog o .eql 108 x y (.agg (encPs p).toArray) (.agg (encPs q).toArray) a W next Q = next (a.put o.dst (.bool (decide (p = q)))) W := by
  unfold BnW
  rw [Sem.run_bind, Sem.run_bind, run_eqGuard_agg W _ _ _ _ _ _ grdA4, Result.andThen_ok, run_eql_struct, run_eqA4 hl hm hp hq]
  rfl
theorem bnW_neqA4 {p q : List PtrT} (hl : p.length = 4) (hm : q.length = 4) (hp : ∀ x ∈ p, x.wf) (hq : ∀ x ∈ q, x.wf) (o : Oper) (x y : Operand) (a : Act) (W : World) (next : Act → World → Prop) (Q : Exit → Act → World → Prop) : BnW Tryd.prog o .neq 108 x y (.agg (encPs p).toArray) (.agg (encPs q).toArray) a W next Q = next (a.put o.dst (.bool (!decide (p = q)))) W := by
  unfold BnW
  rw [Sem.run_bind, Sem.run_bind, run_eqGuard_agg W _ _ _ _ _ _ grdA4, Result.andThen_ok, run_neq_struct, run_eqA4 hl hm hp hq]
  rfl
theorem bnQ_eqlA4 {p q : List PtrT} (hl : p.length = 4) (hm : q.length = 4) (hp : ∀ x ∈ p, x.wf) (hq : ∀ x ∈ q, x.wf) (C : World → Prop) (x y : Operand) (W : World) (v : Value) : BnQ Tryd.prog C .eql 108 x y (.agg (encPs p).toArray) (.agg (encPs q).toArray) W v = (Value.bool (decide (p = q)) = v) := by
  unfold BnQ
  rw [Sem.run_bind, Sem.run_bind, run_eqGuard_agg W _ _ _ _ _ _ grdA4, Result.andThen_ok, run_eql_struct, run_eqA4 hl hm hp hq]
  show (W = W ∧ _) = _
  simp
theorem bnQ_neqA4 {p q : List PtrT} (hl : p.length = 4) (hm : q.length = 4) (hp : ∀ x ∈ p, x.wf) (hq : ∀ x ∈ q, x.wf) (C : World → Prop) (x y : Operand) (W : World) (v : Value) : BnQ Tryd.prog C .neq 108 x y (.agg (encPs p).toArray) (.agg (encPs q).toArray) W v = (Value.bool (!decide (p = q)) = v) := by
  unfold BnQ
  rw [Sem.run_bind, Sem.run_bind, run_eqGuard_agg W _ _ _ _ _ _ grdA4, Result.andThen_ok, run_neq_struct, run_eqA4 hl hm hp hq]
  show (W = W ∧ _) = _
  simp
theorem zs4_wf : ∀ x ∈ zs4, x.wf := by
  intro x hx
  simp only [zs4, List.mem_cons, List.not_mem_nil, or_false] at hx
  rcases hx with rfl | rfl | rfl | rfl <;> exact pD_wf
theorem bnW_nilA4 {p : List PtrT} (hl : p.length = 4) (hp : ∀ x ∈ p, x.wf) (o : Oper) (x y : Operand) (a : Act) (W : World) (next : Act → World → Prop) (Q : Exit → Act → World → Prop) : BnW Tryd.prog o .eql 108 x y (.agg (encPs p).toArray) (.agg #[.int .i64 0, .int .i64 0, .int .i64 0, .int .i64 0, .bool false, .int .i64 0, .int .i64 0, .int .i64 0, .int .u64 0, .int .u64 0, .int .u64 0, .int .u64 0, .int .i64 0, .int .i64 0, .int .i64 0, .int .i64 0, .bool false, .int .i64 0, .int .i64 0, .int .i64 0, .int .u64 0, .int .u64 0, .int .u64 0, .int .u64 0, .int .i64 0, .int .i64 0, .int .i64 0, .int .i64 0, .bool false, .int .i64 0, .int .i64 0, .int .i64 0, .int .u64 0, .int .u64 0, .int .u64 0, .int .u64 0, .int .i64 0, .int .i64 0, .int .i64 0, .int .i64 0, .bool false, .int .i64 0, .int .i64 0, .int .i64 0, .int .u64 0, .int .u64 0, .int .u64 0, .int .u64 0]) a W next Q = next (a.put o.dst (.bool (decide (p = zs4)))) W := bnW_eqlA4 hl rfl hp zs4_wf o x y a W next Q
/-- a new variable, that is stored into at once -/
theorem store_newNd (p : NodeT) (w : World) (op : Oper) (a : Act) (next : Act → World → Prop) (Q : Exit → Act → World → Prop) : StoreW Tryd.prog op 37 (.pointer (some ⟨w.heap.size, 0, none⟩)) (.agg (encN p).toArray) a (w.alloc (.cells #[.int .i64 0, .int .i64 0, .int .i64 0, .int .i64 0, .int .i64 0, .bool false, .int .i64 0, .int .i64 0, .int .i64 0, .int .u64 0, .int .u64 0, .int .u64 0, .int .u64 0] 37)) next Q = next (a.put op.dst undef) (w.alloc (.cells (encN p).toArray 37)) := by
  have h := Blk.new w 37 (#[.int .i64 0, .int .i64 0, .int .i64 0, .int .i64 0, .int .i64 0, .bool false, .int .i64 0, .int .i64 0, .int .i64 0, .int .u64 0, .int .u64 0, .int .u64 0, .int .u64 0]).toList
  have e := setCells_alloc w 37 (encN p) (#[.int .i64 0, .int .i64 0, .int .i64 0, .int .i64 0, .int .i64 0, .bool false, .int .i64 0, .int .i64 0, .int .i64 0, .int .u64 0, .int .u64 0, .int .u64 0, .int .u64 0]).toList rfl
  have s := storeW_part (P := Tryd.prog) (t := 37) (o := 0) (cs := encN p) h (Nat.le_refl 13) iszNd (encN_ones p) op a next Q
  rw [e] at s
  exact s
/-- a variable of which the zero value is stored -/
theorem storeZNd {w : World} {g e : Nat} {zs : List Value} (h : Blk w g e zs) (hl : zs.length = 13) (op : Oper) (a : Act) (next : Act → World → Prop) (Q : Exit → Act → World → Prop) : StoreW Tryd.prog op 37 (.pointer (some ⟨g, 0, none⟩)) (.agg #[.int .i64 0, .int .i64 0, .int .i64 0, .int .i64 0, .int .i64 0, .bool false, .int .i64 0, .int .i64 0, .int .i64 0, .int .u64 0, .int .u64 0, .int .u64 0, .int .u64 0]) a w next Q = next (a.put op.dst undef) (w.setCells g 0 (encN nD)) :=
  storeW_part (P := Tryd.prog) (t := 37) (o := 0) (cs := encN nD) h (by rw [hl]; exact Nat.le_refl 13) iszNd (encN_ones _) op a next Q
/-- a new variable, that is stored into at once -/
theorem store_newA4 (p : List PtrT) (hl : p.length = 4) (w : World) (op : Oper) (a : Act) (next : Act → World → Prop) (Q : Exit → Act → World → Prop) : StoreW Tryd.prog op 108 (.pointer (some ⟨w.heap.size, 0, none⟩)) (.agg (encPs p).toArray) a (w.alloc (.cells #[.int .i64 0, .int .i64 0, .int .i64 0, .int .i64 0, .bool false, .int .i64 0, .int .i64 0, .int .i64 0, .int .u64 0, .int .u64 0, .int .u64 0, .int .u64 0, .int .i64 0, .int .i64 0, .int .i64 0, .int .i64 0, .bool false, .int .i64 0, .int .i64 0, .int .i64 0, .int .u64 0, .int .u64 0, .int .u64 0, .int .u64 0, .int .i64 0, .int .i64 0, .int .i64 0, .int .i64 0, .bool false, .int .i64 0, .int .i64 0, .int .i64 0, .int .u64 0, .int .u64 0, .int .u64 0, .int .u64 0, .int .i64 0, .int .i64 0, .int .i64 0, .int .i64 0, .bool false, .int .i64 0, .int .i64 0, .int .i64 0, .int .u64 0, .int .u64 0, .int .u64 0, .int .u64 0] 108)) next Q = next (a.put op.dst undef) (w.alloc (.cells (encPs p).toArray 108)) := by
  have h := Blk.new w 108 (#[.int .i64 0, .int .i64 0, .int .i64 0, .int .i64 0, .bool false, .int .i64 0, .int .i64 0, .int .i64 0, .int .u64 0, .int .u64 0, .int .u64 0, .int .u64 0, .int .i64 0, .int .i64 0, .int .i64 0, .int .i64 0, .bool false, .int .i64 0, .int .i64 0, .int .i64 0, .int .u64 0, .int .u64 0, .int .u64 0, .int .u64 0, .int .i64 0, .int .i64 0, .int .i64 0, .int .i64 0, .bool false, .int .i64 0, .int .i64 0, .int .i64 0, .int .u64 0, .int .u64 0, .int .u64 0, .int .u64 0, .int .i64 0, .int .i64 0, .int .i64 0, .int .i64 0, .bool false, .int .i64 0, .int .i64 0, .int .i64 0, .int .u64 0, .int .u64 0, .int .u64 0, .int .u64 0]).toList
  have e := setCells_alloc w 108 (encPs p) (#[.int .i64 0, .int .i64 0, .int .i64 0, .int .i64 0, .bool false, .int .i64 0, .int .i64 0, .int .i64 0, .int .u64 0, .int .u64 0, .int .u64 0, .int .u64 0, .int .i64 0, .int .i64 0, .int .i64 0, .int .i64 0, .bool false, .int .i64 0, .int .i64 0, .int .i64 0, .int .u64 0, .int .u64 0, .int .u64 0, .int .u64 0, .int .i64 0, .int .i64 0, .int .i64 0, .int .i64 0, .bool false, .int .i64 0, .int .i64 0, .int .i64 0, .int .u64 0, .int .u64 0, .int .u64 0, .int .u64 0, .int .i64 0, .int .i64 0, .int .i64 0, .int .i64 0, .bool false, .int .i64 0, .int .i64 0, .int .i64 0, .int .u64 0, .int .u64 0, .int .u64 0, .int .u64 0]).toList (by rw [encPs_length, hl]; rfl)
  have s := storeW_part (P := Tryd.prog) (t := 108) (o := 0) (cs := encPs p) h (by rw [encPs_length, hl]; exact Nat.le_refl 48) (by rw [encPs_length, hl]; exact iszA4) (encPs_one p) op a next Q
  rw [e] at s
  exact s
/-- a variable of which the zero value is stored -/
theorem storeZA4 {w : World} {g e : Nat} {zs : List Value} (h : Blk w g e zs) (hl : zs.length = 48) (op : Oper) (a : Act) (next : Act → World → Prop) (Q : Exit → Act → World → Prop) : StoreW Tryd.prog op 108 (.pointer (some ⟨g, 0, none⟩)) (.agg #[.int .i64 0, .int .i64 0, .int .i64 0, .int .i64 0, .bool false, .int .i64 0, .int .i64 0, .int .i64 0, .int .u64 0, .int .u64 0, .int .u64 0, .int .u64 0, .int .i64 0, .int .i64 0, .int .i64 0, .int .i64 0, .bool false, .int .i64 0, .int .i64 0, .int .i64 0, .int .u64 0, .int .u64 0, .int .u64 0, .int .u64 0, .int .i64 0, .int .i64 0, .int .i64 0, .int .i64 0, .bool false, .int .i64 0, .int .i64 0, .int .i64 0, .int .u64 0, .int .u64 0, .int .u64 0, .int .u64 0, .int .i64 0, .int .i64 0, .int .i64 0, .int .i64 0, .bool false, .int .i64 0, .int .i64 0, .int .i64 0, .int .u64 0, .int .u64 0, .int .u64 0, .int .u64 0]) a w next Q = next (a.put op.dst undef) (w.setCells g 0 (encPs zs4)) :=
  storeW_part (P := Tryd.prog) (t := 108) (o := 0) (cs := encPs zs4) h (by rw [hl]; exact Nat.le_refl 48) iszA4 (encPs_one _) op a next Q
/-- a new variable, that is stored into at once -/
theorem store_newIx (p : List PtrT) (hl : p.length = 4) (w : World) (op : Oper) (a : Act) (next : Act → World → Prop) (Q : Exit → Act → World → Prop) : StoreW Tryd.prog op 110 (.pointer (some ⟨w.heap.size, 0, none⟩)) (.agg (encPs p).toArray) a (w.alloc (.cells #[.int .i64 0, .int .i64 0, .int .i64 0, .int .i64 0, .bool false, .int .i64 0, .int .i64 0, .int .i64 0, .int .u64 0, .int .u64 0, .int .u64 0, .int .u64 0, .int .i64 0, .int .i64 0, .int .i64 0, .int .i64 0, .bool false, .int .i64 0, .int .i64 0, .int .i64 0, .int .u64 0, .int .u64 0, .int .u64 0, .int .u64 0, .int .i64 0, .int .i64 0, .int .i64 0, .int .i64 0, .bool false, .int .i64 0, .int .i64 0, .int .i64 0, .int .u64 0, .int .u64 0, .int .u64 0, .int .u64 0, .int .i64 0, .int .i64 0, .int .i64 0, .int .i64 0, .bool false, .int .i64 0, .int .i64 0, .int .i64 0, .int .u64 0, .int .u64 0, .int .u64 0, .int .u64 0] 110)) next Q = next (a.put op.dst undef) (w.alloc (.cells (encPs p).toArray 110)) := by
  have h := Blk.new w 110 (#[.int .i64 0, .int .i64 0, .int .i64 0, .int .i64 0, .bool false, .int .i64 0, .int .i64 0, .int .i64 0, .int .u64 0, .int .u64 0, .int .u64 0, .int .u64 0, .int .i64 0, .int .i64 0, .int .i64 0, .int .i64 0, .bool false, .int .i64 0, .int .i64 0, .int .i64 0, .int .u64 0, .int .u64 0, .int .u64 0, .int .u64 0, .int .i64 0, .int .i64 0, .int .i64 0, .int .i64 0, .bool false, .int .i64 0, .int .i64 0, .int .i64 0, .int .u64 0, .int .u64 0, .int .u64 0, .int .u64 0, .int .i64 0, .int .i64 0, .int .i64 0, .int .i64 0, .bool false, .int .i64 0, .int .i64 0, .int .i64 0, .int .u64 0, .int .u64 0, .int .u64 0, .int .u64 0]).toList
  have e := setCells_alloc w 110 (encPs p) (#[.int .i64 0, .int .i64 0, .int .i64 0, .int .i64 0, .bool false, .int .i64 0, .int .i64 0, .int .i64 0, .int .u64 0, .int .u64 0, .int .u64 0, .int .u64 0, .int .i64 0, .int .i64 0, .int .i64 0, .int .i64 0, .bool false, .int .i64 0, .int .i64 0, .int .i64 0, .int .u64 0, .int .u64 0, .int .u64 0, .int .u64 0, .int .i64 0, .int .i64 0, .int .i64 0, .int .i64 0, .bool false, .int .i64 0, .int .i64 0, .int .i64 0, .int .u64 0, .int .u64 0, .int .u64 0, .int .u64 0, .int .i64 0, .int .i64 0, .int .i64 0, .int .i64 0, .bool false, .int .i64 0, .int .i64 0, .int .i64 0, .int .u64 0, .int .u64 0, .int .u64 0, .int .u64 0]).toList (by rw [encPs_length, hl]; rfl)
  have s := storeW_part (P := Tryd.prog) (t := 110) (o := 0) (cs := encPs p) h (by rw [encPs_length, hl]; exact Nat.le_refl 48) (by rw [encPs_length, hl]; exact iszIx) (encPs_one p) op a next Q
  rw [e] at s
  exact s
end Go.Proofs.YtbhofablndjeoaaDoor
/- The walks of numbers as bytes. -/
namespace Go.Proofs.YtbhofablndjeoaaDoor
open Go.RowKit
set_option linter.unusedSimpArgs false
set_option linter.unusedVariables false

theorem info8 : (Tryd.prog.info? 5).map (fun i => (i.zero, i.size, i.bytes)) = some (some (.int .u8 0), 1, 1) := by kernel_rfl
theorem leB_length : ∀ k n, (leB k n).length = k
  | 0, _ => rfl
  | k + 1, n => by simp [leB, leB_length k]
theorem leB_snoc : ∀ k n, leB (k + 1) n = leB k n ++ [UInt8.ofNat (n / 256 ^ k)]
  | 0, n => by simp [leB]
  | k + 1, n => by
    rw [leB, leB_snoc k (n / 256), leB, Nat.div_div_eq_div_mul, Nat.pow_succ, Nat.mul_comm 256]
    rfl
theorem run_string_of_owns {P : Program} {w : World} {base e0 n cap : Nat} {ao : Option Addr} {l : List UInt8} (h : w.ownsRow base e0 1 (.slice ao n cap) n (enc8 l))
    (src e dst : TypeId) (hs : P.underlying src = some (.slice e)) (he : P.underlying e = some (.int .u8)) (hd : P.underlying dst = some .string) :
    (convert src dst (.slice ao n cap)).run P w = .ok (.string ⟨l.toArray⟩) w := by
  cases ao with
  | some a =>
    rcases h.2 with ⟨h1, h0⟩ | ⟨g, cap', cur, h1, _⟩
    · simp at h1
    · simp only [Value.slice.injEq, Option.some.injEq] at h1
      obtain ⟨rfl, _, rfl⟩ := h1
      exact run_string_of_own h src e dst hs he hd
  | none =>
    rcases h.2 with ⟨h1, h0⟩ | ⟨g, cap', cur, h1, _⟩
    · subst h0
      have hl : l = [] := List.eq_nil_of_length_eq_zero (by have := h.1; simpa [enc8] using this)
      subst hl
      exact run_convert_bytes_nil w src e hs he 0 cap dst hd
    · simp at h1
theorem byte_of (x k : Nat) : (x : Int) / 2 ^ (8 * k) % 256 = ((UInt8.ofNat (x / 256 ^ k)).toNat : Int) := by
  have h1 : (2 : Nat) ^ (8 * k) = 256 ^ k := by rw [Nat.pow_mul]
  have h2 : ((2 : Int) ^ (8 * k)) = ((256 ^ k : Nat) : Int) := by rw [← h1]; simp
  rw [h2, UInt8.toNat_ofNat']
  simp
set_option maxHeartbeats 1000000 in
set_option maxRecDepth 100000 in
theorem laid_any (x n : Nat) (w : World) (hx : x < 18446744073709551616) (hn : n ≤ 8) :
    Calls Tryd.prog 90 #[.int .u64 x, .int .i64 n] w fun e w' => e = .returned (.string ⟨(leB n x).toArray⟩) ∧ Below w.heap.size w w' := by
  obtain ⟨i0, hi, hz0, hz1, hz2⟩ := info_parts info8
  have HX := Lib.hid hx
  clear hx
  go_enter Tryd.func90, Tryd.ntmps90
  go_wp2_with fail
  go_loopw [5, 8] (fun v i wr => ∃ k : Nat, k ≤ n ∧ i = .int .i64 k ∧ Hid (wr.ownsRow w.heap.size 5 1 v k (enc8 (leB k x))) ∧ Hid (Below w.heap.size w wr)) (fun _ i _ => n - (intOf i).toNat)
  case atStart => exact ⟨0, by omega, rfl, Lib.hid (World.ownsRow_nil _ _ _ _), Lib.hid (Below.refl _ _)⟩
  case round =>
    obtain ⟨k, hk, rfl, HOW, HBR⟩ := hrel
    have hsr := HBR.out.size
    by_cases hkn : k < n
    · obtain ⟨ao1, cap1, rfl, _⟩ := RSl.of_owns HOW.out
      have hb : (x : Int) / 2 ^ (8 * k) % 256 = ((UInt8.ofNat (x / 256 ^ k)).toNat : Int) := by
        exact byte_of x k
      have HB := Lib.hid hb
      clear hb
      go_wp2_with (at_builtin; go_must (refine wpList_append_own _ rfl (.tmp 11) (.tmp 17) 86 rfl w.heap.size 5 i0 (.int .u8 0) 1 1 Tryd.underlying86 hi hz0 hz1 hz2 rfl (by decide) (.slice ao1 k cap1) k (enc8 (leB k x)) rfl (HOW.out.alloc _) ⟨wr.heap.size, 0, none⟩ 1 1 [.int .u8 ((x : Int) / 2 ^ (8 * k) % 256)] rfl rfl (Blk.news (Blk.newAt (w := wr) 5 [.int .u8 ((x : Int) / 2 ^ (8 * k) % 256)] (by simp))) (by simp [Value.oneCell']) (by unfold maxLen; omega) (by omega) (by simp; omega) ?_; intro v1 w1 hown1 hgrow1 _))
      have e1 : enc8 (leB k x) ++ [Value.int .u8 ((x : Int) / 2 ^ (8 * k) % 256)] = enc8 (leB (k + 1) x) := by rw [leB_snoc, HB.out]; simp [enc8]
      rw [e1] at hown1
      clear e1
      go_roundw
      case rel => exact ⟨k + 1, by omega, by go_num, Lib.hid hown1, Lib.hid (below_own (HBR.out.alloc (by omega) _) (HOW.out.alloc _) hgrow1 (by simp; omega) (Nat.le_refl _))⟩
      case measure => simp [intOf]; omega
    · obtain rfl : k = n := by omega
      obtain ⟨ao1, cap1, rfl, _⟩ := RSl.of_owns HOW.out
      have hs : (convert 86 9 (.slice ao1 k cap1)).run Tryd.prog wr = .ok (.string ⟨(leB k x).toArray⟩) wr := by
        exact run_string_of_owns HOW.out _ _ _ Tryd.underlying86 Tryd.underlying5 Tryd.underlying9
      go_wp2_with fail
      go_ret
      exact ⟨rfl, HBR.out⟩
theorem sz64 : Hid (18446744073709551615 = 18446744073709551615) := Lib.hid rfl
set_option maxRecDepth 100000 in
theorem le_U32_any (n : Nat) (w : World) (hn : n ≤ 4294967295) : Calls Tryd.prog 91 #[.int .i64 n] w fun e w' => e = .returned (.string ⟨(leB 4 n).toArray⟩) ∧ Below w.heap.size w w' := by
  have h1 : ¬ (4294967295 : Int) < (n : Int) := by omega
  go_enter Tryd.func91, Tryd.ntmps91
  go_wp2_with fail
  refine (laid_any n 4 _ (by omega) (by omega)).mono ?_
  rintro e w1 ⟨rfl, hb⟩
  go_wp2_with fail
  go_ret
  exact ⟨rfl, hb⟩
set_option maxRecDepth 100000 in
theorem le_U64_any (n : Nat) (w : World) (hn : n < 18446744073709551616) : Calls Tryd.prog 72 #[.int .u64 n] w fun e w' => e = .returned (.string ⟨(leB 8 n).toArray⟩) ∧ Below w.heap.size w w' := by
  have HN := Lib.hid hn
  clear hn
  go_enter Tryd.func72, Tryd.ntmps72
  go_wp2_with fail
  refine (laid_any n 8 _ HN.out (by omega)).mono ?_
  rintro e w1 ⟨rfl, hb⟩
  go_wp2_with fail
  go_ret
  exact ⟨rfl, hb⟩
/-- a text with zero bytes behind it, up to a multiple -/
def padTo (s : Bs) (k : Nat) : Bs := s ++ zeros ((k - s.length % k) % k)
theorem pad64_eq (s : Bs) : padTo s 64 = pad64 s := rfl
theorem repeat0_any (n : Nat) (w : World) (hn : n ≤ 140737488355328) : Calls Tryd.prog 43 #[.string ⟨#[0]⟩, .int .i64 n] w fun e w' => e = .returned (.string ⟨(zeros n).toArray⟩) ∧ Below w.heap.size w w' := by
  refine (Tryd.strings_Repeat ⟨#[0]⟩ n w (by omega) (by show 1 * n ≤ _; omega)).mono ?_
  rintro e w' ⟨rfl, hb⟩
  refine ⟨?_, hb⟩
  have h : ∀ n, Lib.repeatL [0] n = zeros n := by
    intro n
    induction n with
    | zero => rfl
    | succ n ih => rw [Lib.repeatL, ih, zeros, zeros, List.replicate_succ]; rfl
  rw [show (⟨#[0]⟩ : ByteArray).data.toList = [0] from rfl, h]
theorem str_append (a b : Bs) : (⟨a.toArray⟩ : ByteArray) ++ ⟨b.toArray⟩ = ⟨(a ++ b).toArray⟩ := by
  apply ByteArray.ext
  simp
theorem neg_mod (r k : Nat) (h : r < k) : -(r : Int) % (k : Int) = (((k - r) % k : Nat) : Int) := by
  rw [show -(r : Int) = ((k : Int) - r) + k * (-1) by omega, Int.add_mul_emod_self_left, show ((k : Int) - (r : Int)) = ((k - r : Nat) : Int) by omega, Int.natCast_emod]
set_option maxRecDepth 100000 in
theorem le_Pad_any (s : Bs) (k : Nat) (w : World) (hs : s.length ≤ 9223372036854000000) (h1 : 1 ≤ k) (hk : k ≤ 4096) : Calls Tryd.prog 55 #[.string ⟨s.toArray⟩, .int .i64 k] w fun e w' => e = .returned (.string ⟨(padTo s k).toArray⟩) ∧ Below w.heap.size w w' := by
  have h2 : ¬ (k : Int) < 1 := by omega
  have h3 : ¬ (4096 : Int) < (k : Int) := by omega
  have hm : s.length % k < k := Nat.mod_lt _ (by omega)
  have hm2 : (k - s.length % k) % k < k := Nat.mod_lt _ (by omega)
  have hl : ¬ 9223372036854775807 < s.length + (zeros ((k - s.length % k) % k)).length := by simp [zeros]; omega
  have e := Lib.hid (neg_mod (s.length % k) k hm)
  rw [Int.natCast_emod] at e
  go_enter Tryd.func55, Tryd.ntmps55
  go_wp2_with fail
  rw [e.out]
  refine (repeat0_any _ _ (by omega)).mono ?_
  rintro e' w1 ⟨rfl, hb⟩
  go_wp2_with fail
  go_ret
  exact ⟨by rw [padTo, str_append]; rfl, hb⟩
theorem le_New_any (s : Bs) (w : World) : Calls Tryd.prog 76 #[.string ⟨s.toArray⟩] w fun e w' => e = .returned (.pointer (some ⟨w.heap.size, 0, none⟩)) ∧ w' = w.alloc (.cells #[.string ⟨s.toArray⟩, .int .i64 0] 162) := by
  go_enter Tryd.func76, Tryd.ntmps76
  go_wp2_with fail
  go_ret
  exact ⟨rfl, rfl⟩
/-- a reader of bytes: at a place -/
def RdAt (w : World) (b : Nat) (s : Bs) (at_ : Nat) : Prop := Blk w b 162 [.string ⟨s.toArray⟩, .int .i64 at_]
set_option maxRecDepth 100000 in
theorem le_Left_any (b : Nat) (s : Bs) (k : Nat) (w : World) (h : RdAt w b s k) (hk : k ≤ s.length) (hs : s.length ≤ 9223372036854775807) :
    Calls Tryd.prog 93 #[.pointer (some ⟨b, 0, none⟩)] w fun e w' => e = .returned (.int .i64 ((s.length : Int) - k)) ∧ ∃ n, w' = w.drewN n := by
  have c0 : w.cell? ⟨b, 0, none⟩ = some (.string ⟨s.toArray⟩) := Blk.cell h 0
  have c1 : w.cell? ⟨b, 1, none⟩ = some (.int .i64 k) := Blk.cell h 1
  clear h
  go_enter Tryd.func93, Tryd.ntmps93
  go_wp2_with fail
  go_quiet (fail)
  go_wp2_with fail
  go_ret
  exact ⟨rfl, _, rfl⟩
theorem str_get (s : Bs) (i : Nat) (h : i < s.length) : (⟨s.toArray⟩ : ByteArray)[i]'(by show i < s.toArray.size; simpa using h) = s[i] := by
  show s.toArray[i]'(by simpa using h) = s[i]
  simp
theorem leN_lt : ∀ l : Bs, leN l < 256 ^ l.length
  | [] => by simp [leN]
  | b :: r => by
    have h := leN_lt r
    have hb := b.toNat_lt
    rw [leN, List.length_cons, Nat.pow_succ]
    omega
theorem leN_snoc : ∀ (l : Bs) (c : UInt8), leN (l ++ [c]) = leN l + 256 ^ l.length * c.toNat
  | [], c => by simp [leN]
  | b :: r, c => by
    rw [List.cons_append, leN, leN_snoc r c, leN, List.length_cons, Nat.pow_succ, Nat.mul_add, ← Nat.mul_assoc, Nat.mul_comm 256 (256 ^ r.length)]
    omega
theorem sub_length (s : Bs) (k j : Nat) (h : k + j ≤ s.length) : (sub s k j).length = j := by simp [sub]; omega
theorem sub_snoc (s : Bs) (k j : Nat) (h : k + j < s.length) : sub s k (j + 1) = sub s k j ++ [s[k + j]] := by
  unfold sub
  rw [List.take_succ_eq_append_getElem (by simp; omega)]
  simp
theorem or_u64 (a c j : Nat) (ha : a < 256 ^ j) (hc : c < 256) (hj : j < 8) : bits BinOp.or IntKind.u64 (a : Int) (IntKind.u64.wrap (IntKind.u64.wrap (c : Int) * 2 ^ (8 * j))) = ((a + 256 ^ j * c : Nat) : Int) := by
  have hp : (2 : Nat) ^ (8 * j) = 256 ^ j := by rw [Nat.pow_mul]
  have h8 : 256 ^ j * 256 ≤ 2 ^ 64 := by
    have : 256 ^ (j + 1) ≤ 256 ^ 8 := Nat.pow_le_pow_right (by omega) (by omega)
    rw [Nat.pow_succ] at this
    exact this
  have hsum : a + 256 ^ j * c < 2 ^ 64 := by
    have : 256 ^ j * c ≤ 256 ^ j * 255 := Nat.mul_le_mul_left _ (by omega)
    omega
  have hpp : 0 < 256 ^ j := Nat.pow_pos (by omega)
  have h1 : IntKind.u64.wrap (c : Int) = c := IntWalk.u64_in _ (by omega)
  have h2 : ((c : Int) * 2 ^ (8 * j)) = ((256 ^ j * c : Nat) : Int) := by
    rw [show ((2 : Int) ^ (8 * j)) = ((2 ^ (8 * j) : Nat) : Int) by simp, hp, Nat.mul_comm]
    rfl
  have h3 : IntKind.u64.wrap ((256 ^ j * c : Nat) : Int) = ((256 ^ j * c : Nat) : Int) := IntWalk.u64_in _ (by omega)
  rw [h1, h2, h3]
  have key : (BitVec.ofInt 64 (a : Int) ||| BitVec.ofInt 64 ((256 ^ j * c : Nat) : Int)).toNat = a + 256 ^ j * c := by
    rw [BitVec.ofInt_natCast, BitVec.ofInt_natCast, BitVec.toNat_or, BitVec.toNat_ofNat, BitVec.toNat_ofNat, Nat.mod_eq_of_lt (by omega), Nat.mod_eq_of_lt (by omega), Nat.or_comm, ← hp, ← Nat.two_pow_add_eq_or_of_lt (by rw [hp]; exact ha), Nat.add_comm]
  show IntKind.u64.wrap (((BitVec.ofInt 64 (a : Int) ||| BitVec.ofInt 64 ((256 ^ j * c : Nat) : Int)).toNat : Nat) : Int) = _
  rw [key]
  exact IntWalk.u64_in _ (by omega)
set_option maxHeartbeats 1000000 in
set_option maxRecDepth 100000 in
theorem number_short (b : Nat) (s : Bs) (k n : Nat) (w : World) (h : RdAt w b s k) (hk : k ≤ s.length) (hs : s.length ≤ 9223372036854775807) (hn : s.length < k + n) (hn8 : n ≤ 8) :
    Calls Tryd.prog 92 #[.pointer (some ⟨b, 0, none⟩), .int .i64 n] w fun e w' => e = .returned (.tuple #[.int .u64 0, .int .i64 2]) ∧ ∃ n, w' = w.drewN n := by
  have H := Lib.hid h
  clear h
  have h1 : (s.length : Int) - k < n := by omega
  go_enter Tryd.func92, Tryd.ntmps92
  go_wp2_with fail
  refine (le_Left_any b s k w H.out hk hs).mono ?_
  rintro e w1 ⟨rfl, nd, rfl⟩
  go_wp2_with fail
  go_ret2
  exact ⟨rfl, _, rfl⟩
set_option maxHeartbeats 1000000 in
set_option maxRecDepth 100000 in
theorem number_any (b : Nat) (s : Bs) (k n : Nat) (w : World) (h : RdAt w b s k) (hs : s.length ≤ 9223372036854775000) (hn : k + n ≤ s.length) (hn8 : n ≤ 8) :
    Calls Tryd.prog 92 #[.pointer (some ⟨b, 0, none⟩), .int .i64 n] w fun e w' => e = .returned (.tuple #[.int .u64 (leN (sub s k n)), .int .i64 0]) ∧ RdAt w' b s (k + n) ∧ ∃ m, w' = (w.drewN m).setCell ⟨b, 1, none⟩ (.int .i64 ((k + n : Nat) : Int)) := by
  have H := Lib.hid h
  have c0 : w.cell? ⟨b, 0, none⟩ = some (.string ⟨s.toArray⟩) := Blk.cell h 0
  have c1 : w.cell? ⟨b, 1, none⟩ = some (.int .i64 k) := Blk.cell h 1
  have f1 : w.frozen? ⟨b, 1, none⟩ = false := Blk.frozen h 1
  clear h
  have h1 : ¬ (s.length : Int) - k < n := by omega
  go_enter Tryd.func92, Tryd.ntmps92
  go_wp2_with fail
  refine (le_Left_any b s k w H.out (by omega) (by omega)).mono ?_
  rintro e w1 ⟨rfl, nd, rfl⟩
  go_wp2_with fail
  go_loopw [6, 13] (fun x i wr => ∃ j m : Nat, j ≤ n ∧ i = .int .i64 j ∧ x = .int .u64 (leN (sub s k j)) ∧ Hid (wr = w.drewN m)) (fun _ i _ => n - (intOf i).toNat)
  case atStart => exact ⟨0, nd, by omega, rfl, rfl, Lib.hid rfl⟩
  case round =>
    obtain ⟨j, m, hj, rfl, rfl, HW⟩ := hrel
    obtain rfl := HW.out
    by_cases hjn : j < n
    · have hkj : k + j < s.length := by omega
      go_wp2_with fail
      have e1 : IntKind.i64.wrap ((k : Int) + (j : Int)) = (k : Int) + (j : Int) := IntWalk.i64_in _ (by omega)
      have e2 : 0 ≤ (k : Int) + (j : Int) := by omega
      have e3 : ((k : Int) + (j : Int)).toNat = k + j := by omega
      have e4 : (k : Int) + (j : Int) < (s.length : Int) := by omega
      go_quiet (fail)
      go_wp2_with fail
      go_roundw
      case rel =>
        refine ⟨j + 1, _, by omega, by go_num, ?_, Lib.hid rfl⟩
        have hb : leN (sub s k j) < 256 ^ j := by have := leN_lt (sub s k j); rwa [sub_length s k j (by omega)] at this
        have hc := str_get s (k + j) hkj
        rw [hc, or_u64 _ _ _ hb (UInt8.toNat_lt _) (by omega), sub_snoc s k j hkj, leN_snoc, sub_length s k j (by omega)]
      case measure => simp [intOf]; omega
    · obtain rfl : j = n := by omega
      go_wp2_with fail
      go_ret2
      have hw : (w.drewN m).setCell ⟨b, 1, none⟩ (.int .i64 ((k : Int) + j)) = (w.drewN m).setCell ⟨b, 1, none⟩ (.int .i64 ((k + j : Nat) : Int)) := by go_num
      exact ⟨rfl, (Blk.setCell (H.out.drewN (n := m)) 1 _ : _), m, rfl⟩
end Go.Proofs.YtbhofablndjeoaaDoor
/- The walks of readers of bytes, and of pointers read. -/
namespace Go.Proofs.YtbhofablndjeoaaDoor
open Go.RowKit
set_option linter.unusedSimpArgs false
set_option linter.unusedVariables false

theorem mod_of_set (w : World) (m b : Nat) (u : Value) : Mod (fun x => x = b) w ((w.drewN m).setCell ⟨b, 1, none⟩ u) := ((Mod.refl _ w).drewN m).setCell (.inl rfl)
theorem str_extract (s : Bs) (i j : Nat) : (⟨s.toArray⟩ : ByteArray).extract i j = ⟨((s.take j).drop i).toArray⟩ := by
  apply ByteArray.ext
  rw [ByteArray.data_extract]
  simp [List.extract, List.drop_take]
theorem num4 (s : Bs) (k : Nat) (h : k + 4 ≤ s.length) : leN (sub s k 4) < 4294967296 := by
  have := leN_lt (sub s k 4)
  rw [sub_length s k 4 h] at this
  exact this
theorem num8 (s : Bs) (k : Nat) (h : k + 8 ≤ s.length) : leN (sub s k 8) < 18446744073709551616 := by
  have := leN_lt (sub s k 8)
  rw [sub_length s k 8 h] at this
  exact this
set_option maxRecDepth 100000 in
theorem rd_U32_any (b : Nat) (s : Bs) (k : Nat) (w : World) (h : RdAt w b s k) (hs : s.length ≤ 1000000) (hn : k + 4 ≤ s.length) :
    Calls Tryd.prog 94 #[.pointer (some ⟨b, 0, none⟩)] w fun e w' => e = .returned (.tuple #[.int .i64 (leN (sub s k 4)), .int .i64 0]) ∧ RdAt w' b s (k + 4) ∧ Mod (fun x => x = b) w w' := by
  have hl := num4 s k hn
  have H := Lib.hid h
  clear h
  go_enter Tryd.func94, Tryd.ntmps94
  go_wp2_with fail
  refine (number_any b s k 4 w H.out (by omega) (by omega) (by omega)).mono ?_
  rintro e w1 ⟨rfl, hr, m, hw⟩
  have hg : Mod (fun x => x = b) w w1 := by rw [hw]; exact mod_of_set _ _ _ _
  clear hw
  go_wp2_with fail
  go_ret2
  exact ⟨rfl, hr, hg⟩
set_option maxRecDepth 100000 in
theorem rd_U64_any (b : Nat) (s : Bs) (k : Nat) (w : World) (h : RdAt w b s k) (hs : s.length ≤ 1000000) (hn : k + 8 ≤ s.length) :
    Calls Tryd.prog 100 #[.pointer (some ⟨b, 0, none⟩)] w fun e w' => e = .returned (.tuple #[.int .u64 (leN (sub s k 8)), .int .i64 0]) ∧ RdAt w' b s (k + 8) ∧ Mod (fun x => x = b) w w' := by
  have H := Lib.hid h
  clear h
  go_enter Tryd.func100, Tryd.ntmps100
  go_wp2_with fail
  refine (number_any b s k 8 w H.out (by omega) (by omega) (by omega)).mono ?_
  rintro e w1 ⟨rfl, hr, m, hw⟩
  have hg : Mod (fun x => x = b) w w1 := by rw [hw]; exact mod_of_set _ _ _ _
  clear hw
  go_wp2_with fail
  go_ret2
  exact ⟨rfl, hr, hg⟩
theorem trimB_zero (l : Bs) : (Lib.trimB l 0).isEmpty = allZero l := by
  have hd : ∀ l : Bs, (l.dropWhile (· == 0)).isEmpty = allZero l := by
    intro l
    induction l with
    | nil => rfl
    | cons b r ih =>
      unfold allZero at ih ⊢
      by_cases hb : b = 0
      · simp [hb, ih]
      · simp [hb]
  have hr : ∀ l : Bs, allZero l.reverse = allZero l := fun l => by simp [allZero]
  have key : ∀ l : Bs, allZero (l.dropWhile (· == 0)) = allZero l := by
    intro l
    induction l with
    | nil => rfl
    | cons b r ih =>
      unfold allZero at ih ⊢
      by_cases hb : b = 0
      · simp [hb, ih]
      · simp [hb]
  unfold Lib.trimB Lib.trimLeftB Lib.trimRightB
  rw [hd, hr, key, hr]
theorem trim0_any (l : Bs) (w : World) (hl : l.length ≤ 1000000) : Calls Tryd.prog 52 #[.string ⟨l.toArray⟩, .string ⟨#[0]⟩] w fun e w' => e = .returned (.string ⟨(Lib.trimB l 0).toArray⟩) ∧ ∃ n, w' = w.drewN n := by
  refine (Tryd.strings_Trim_one ⟨l.toArray⟩ 0 (by decide) w (by show l.toArray.size ≤ _; simp; omega)).mono ?_
  rintro e w' ⟨rfl, h⟩
  refine ⟨by simp, ?_⟩
  rcases h with rfl | rfl
  · exact ⟨0, rfl⟩
  · exact ⟨1, rfl⟩
set_option maxRecDepth 100000 in
theorem rd_Zeros_any (b : Nat) (s : Bs) (k : Nat) (w : World) (h : RdAt w b s k) (hs : s.length ≤ 1000000) (hn : k ≤ s.length) :
    Calls Tryd.prog 77 #[.pointer (some ⟨b, 0, none⟩)] w fun e w' => e = .returned (.bool (allZero (s.drop k))) ∧ ∃ n, w' = w.drewN n := by
  have c0 : w.cell? ⟨b, 0, none⟩ = some (.string ⟨s.toArray⟩) := Blk.cell h 0
  have c1 : w.cell? ⟨b, 1, none⟩ = some (.int .i64 k) := Blk.cell h 1
  clear h
  have hz := Lib.hid (trimB_zero (s.drop k))
  go_enter Tryd.func77, Tryd.ntmps77
  go_wp2_with fail
  have h1 : 0 ≤ (k : Int) := by omega
  have h2 : (k : Int) ≤ (s.length : Int) := by omega
  have hl : (s.drop k).length ≤ 1000000 := by simp; omega
  have HT : ∀ n, Calls Tryd.prog 52 #[.string ((⟨s.toArray⟩ : ByteArray).extract k s.length), .string ⟨#[0]⟩] (w.drewN n) fun e w' => e = .returned (.string ⟨(Lib.trimB (s.drop k) 0).toArray⟩) ∧ ∃ m, w' = (w.drewN n).drewN m := fun n => by
    rw [str_extract, List.take_length]; exact trim0_any (s.drop k) _ hl
  have HT := Lib.hid HT
  go_quiet ((go_at_call 52; exact Calls.quiet_of (HT.out _)))
  go_wp2_with fail
  go_ret
  exact ⟨by rw [hz.out]; rfl, _, rfl⟩
/-- results that are a variable of many cells, and a slot -/
theorem res_cell_tmp {P : Program} {fn : Func} {p u : Tmp} {ty : TypeId} (h : fn.results = #[.cell p ty, .tmp u]) (tmps : Array Value) (w : World) (g : Nat) (t : TypeId) (cs : List Value) (d : TypeDesc)
    (hp : tmps.getD p undef = .pointer (some ⟨g, 0, none⟩)) (hg : Blk w g t cs)
    (hu : P.underlying ty = some d) (hd : (match d with | .struct _ | .array _ _ => true | _ => false) = true) (hi : (P.info? ty).map (·.size) = some cs.length) :
    (results fn tmps).run P w = .ok (.tuple #[.agg cs.toArray, tmps.getD u undef]) w := by
  have hp' : tmps[p]?.getD undef = .pointer (some ⟨g, 0, none⟩) := by simpa using hp
  simp [results, h, hp', asAddr, run_loadVar_row w g t ty cs.toArray (0, 0) d hg hu hd (by simpa using hi)]
theorem res_cell {P : Program} {fn : Func} {p : Tmp} {ty : TypeId} (h : fn.results = #[.cell p ty]) (tmps : Array Value) (w : World) (g : Nat) (t : TypeId) (cs : List Value) (d : TypeDesc)
    (hp : tmps.getD p undef = .pointer (some ⟨g, 0, none⟩)) (hg : Blk w g t cs)
    (hu : P.underlying ty = some d) (hd : (match d with | .struct _ | .array _ _ => true | _ => false) = true) (hi : (P.info? ty).map (·.size) = some cs.length) :
    (results fn tmps).run P w = .ok (.agg cs.toArray) w := by
  have hp' : tmps[p]?.getD undef = .pointer (some ⟨g, 0, none⟩) := by simpa using hp
  simp [results, h, hp', asAddr, run_loadVar_row w g t ty cs.toArray (0, 0) d hg hu hd (by simpa using hi)]
def u64s (l : List Nat) : List Value := l.map fun (n : Nat) => Value.int .u64 (n : Int)
/-- the sums that a reader reads -/
def sumR4 (s : Bs) (k : Nat) (j : Nat) : List Nat := (List.range j).map fun i => leN (sub s (k + 8 * i) 8)
theorem sumSet (s : Bs) (k j : Nat) (hj : j < 4) : (u64s (sumR4 s k j) ++ List.replicate (4 - j) (Value.int .u64 0)).set j (.int .u64 (leN (sub s (k + 8 * j) 8) : Nat)) = u64s (sumR4 s k (j + 1)) ++ List.replicate (4 - (j + 1)) (.int .u64 0) := by
  have hl : (u64s (sumR4 s k j)).length = j := by simp [u64s, sumR4]
  rw [List.set_append_right _ _ (by omega), hl, Nat.sub_self, show 4 - j = (4 - (j + 1)) + 1 by omega, List.replicate_succ, List.set_cons_zero]
  simp [u64s, sumR4, List.range_succ]
set_option maxHeartbeats 1000000 in
set_option maxRecDepth 100000 in
theorem fl_Read_any (b : Nat) (s : Bs) (k : Nat) (w : World) (h : RdAt w b s k) (hs : s.length ≤ 1000000) (hn : k + 32 ≤ s.length) :
    Calls Tryd.prog 95 #[.pointer (some ⟨b, 0, none⟩)] w fun e w' => e = .returned (.tuple #[.agg (u64s (sumR4 s k 4)).toArray, .int .i64 0]) ∧ RdAt w' b s (k + 32) ∧ Mod (fun x => x = b) w w' := by
  have H := Lib.hid h
  clear h
  go_enter Tryd.func95, Tryd.ntmps95
  go_upto_region 2 with fail
  obtain ⟨wa, hwa⟩ : ∃ wa, wa = (w.alloc (.cells #[.int .u64 0, .int .u64 0, .int .u64 0, .int .u64 0] 33)).alloc (.cells #[.int .u64 0, .int .u64 0, .int .u64 0, .int .u64 0] 33) := ⟨_, rfl⟩
  have hsa : wa.heap.size = w.heap.size + 2 := by rw [hwa]; simp
  have hba : Below w.heap.size w wa := by rw [hwa]; exact ((Below.refl _ _).alloc (Nat.le_refl _) _).alloc (by simp) _
  have hra : Blk wa w.heap.size 33 [.int .u64 0, .int .u64 0, .int .u64 0, .int .u64 0] := by rw [hwa]; exact (Blk.new w _ [.int .u64 0, .int .u64 0, .int .u64 0, .int .u64 0]).alloc _
  have hrb : Blk wa (w.heap.size + 1) 33 [.int .u64 0, .int .u64 0, .int .u64 0, .int .u64 0] := by rw [hwa]; exact Blk.newAt (w := w.alloc _) _ [.int .u64 0, .int .u64 0, .int .u64 0, .int .u64 0] (by simp)
  have hblt := H.out.lt
  have HSA := Lib.hid hsa
  have HBA := Lib.hid hba
  have HRA := Lib.hid hra
  have HRB := Lib.hid hrb
  rw [← hwa]
  clear hwa hsa hba hra hrb
  go_wp2_with fail
  go_loopw [8] (fun i wr => ∃ j : Nat, j ≤ 4 ∧ i = .int .i64 j ∧ Hid (RdAt wr b s (k + 8 * j)) ∧ Hid (Blk wr (w.heap.size + 1) 33 (u64s (sumR4 s k j) ++ List.replicate (4 - j) (.int .u64 0))) ∧ Hid (Blk wr w.heap.size 33 [.int .u64 0, .int .u64 0, .int .u64 0, .int .u64 0]) ∧ Hid (Mod (fun x => x = b) w wr)) (fun i _ => 4 - (intOf i).toNat)
  case atStart => exact ⟨0, by omega, rfl, Lib.hid (H.out.below HBA.out), HRB, HRA, Lib.hid (Mod.below HBA.out)⟩
  case round =>
    obtain ⟨j, hj, rfl, HR, HC, HT, HG⟩ := hrel
    have hjl : (u64s (sumR4 s k j)).length = j := by simp [u64s, sumR4]
    by_cases hj4 : j < 4
    · have hcv : ∃ u, Hid (wr.cell? ⟨w.heap.size + 1, j, none⟩ = some u) := by
        refine ⟨.int .u64 0, Lib.hid ?_⟩
        rw [HC.out.cell, List.getElem?_append_right (by rw [hjl]; exact Nat.le_refl _), hjl, Nat.sub_self]
        rw [show 4 - j = (4 - (j + 1)) + 1 by omega]; rfl
      obtain ⟨u, HCV⟩ := hcv
      have hjb := H.out.lt
      go_wp2_with fail
      refine (rd_U64_any b s (k + 8 * j) wr HR.out hs (by omega)).mono ?_
      rintro e w1 ⟨rfl, hr1, hg1⟩
      have cv : w1.cell? ⟨w.heap.size + 1, j, none⟩ = some u := by
        exact hg1.cell (by show ¬ w.heap.size + 1 = b; omega) HCV.out
      have fz : w1.frozen? ⟨w.heap.size + 1, j, none⟩ = false := (hg1.blk HC.out (by show ¬ w.heap.size + 1 = b; omega)).frozen j
      go_wp2_with fail
      go_roundw
      case rel =>
        have hc1 := hg1.blk HC.out (by show ¬ w.heap.size + 1 = b; omega)
        have ht1 := hg1.blk HT.out (by show ¬ w.heap.size = b; omega)
        have hne : b ≠ w.heap.size + 1 := by omega
        refine ⟨j + 1, by omega, by go_num, Lib.hid (Blk.other hr1 hne _), Lib.hid ?_, Lib.hid (ht1.other (by show w.heap.size ≠ w.heap.size + 1; omega) _), Lib.hid ((HG.out.self hg1).setCell (.inr (by omega)))⟩
        have h2 := hc1.setCell j (.int .u64 (leN (sub s (k + 8 * j) 8) : Nat))
        rw [sumSet] at h2
        exact h2
        exact hj4
      case measure => simp [intOf]; omega
    · obtain rfl : j = 4 := by omega
      obtain ⟨a0, a1, a2, a3, ha⟩ : ∃ a0 a1 a2 a3 : Nat, sumR4 s k 4 = [a0, a1, a2, a3] := ⟨_, _, _, _, rfl⟩
      have hc : Blk wr (w.heap.size + 1) 33 [.int .u64 (a0 : Nat), .int .u64 (a1 : Nat), .int .u64 (a2 : Nat), .int .u64 (a3 : Nat)] := by have := HC.out; rw [ha] at this; exact this
      have HA := Lib.hid ha
      clear ha
      have q0 := hc.cell 0
      have q1 := hc.cell 1
      have q2 := hc.cell 2
      have q3 := hc.cell 3
      have c0 := HT.out.cell 0
      have c1 := HT.out.cell 1
      have c2 := HT.out.cell 2
      have c3 := HT.out.cell 3
      have f0 := HT.out.frozen 0
      have f1 := HT.out.frozen 1
      have f2 := HT.out.frozen 2
      have f3 := HT.out.frozen 3
      have hfin := (((HT.out.setCell 0 (.int .u64 (a0 : Nat))).setCell 1 (.int .u64 (a1 : Nat))).setCell 2 (.int .u64 (a2 : Nat))).setCell 3 (.int .u64 (a3 : Nat))
      have HF := Lib.hid hfin
      have hne : b ≠ w.heap.size := by omega
      have hr2 := (((HR.out.other (a := ⟨w.heap.size, 0, none⟩) hne (.int .u64 (a0 : Nat))).other (a := ⟨w.heap.size, 1, none⟩) hne (.int .u64 (a1 : Nat))).other (a := ⟨w.heap.size, 2, none⟩) hne (.int .u64 (a2 : Nat))).other (a := ⟨w.heap.size, 3, none⟩) hne (.int .u64 (a3 : Nat))
      have HR2 := Lib.hid hr2
      clear hc hfin hr2
      go_wp2_with fail
      refine bodyPost_ret (res_cell_tmp rfl _ _ w.heap.size 33 _ _ rfl HF.out Tryd.underlying33 rfl rfl) rfl ?_
      exact ⟨by rw [HA.out]; rfl, HR2.out, (((HG.out.setCell (.inr (Nat.le_refl _))).setCell (.inr (Nat.le_refl _))).setCell (.inr (Nat.le_refl _))).setCell (.inr (Nat.le_refl _))⟩
end Go.Proofs.YtbhofablndjeoaaDoor
/- The walk of ptr.Read. -/
namespace Go.Proofs.YtbhofablndjeoaaDoor
open Go.RowKit
set_option linter.unusedSimpArgs false
set_option linter.unusedVariables false
attribute [local go_sem ↓] wp_loadPt wp_storePt wp_loadSm

def i64s (l : List Nat) : List Value := l.map fun (n : Nat) => Value.int .i64 (n : Int)
def w4s (s : Bs) (j : Nat) : List Nat := (List.range j).map fun i => leN (sub s (4 * i) 4)
theorem w4Set (s : Bs) (j : Nat) (hj : j < 6) : (i64s (w4s s j) ++ List.replicate (6 - j) (Value.int .i64 0)).set j (.int .i64 (leN (sub s (4 * j) 4) : Nat)) = i64s (w4s s (j + 1)) ++ List.replicate (6 - (j + 1)) (.int .i64 0) := by
  have hl : (i64s (w4s s j)).length = j := by simp [i64s, w4s]
  rw [List.set_append_right _ _ (by omega), hl, Nat.sub_self, show 6 - j = (6 - (j + 1)) + 1 by omega, List.replicate_succ, List.set_cons_zero]
  simp [i64s, w4s, List.range_succ]
theorem and255 (n : Nat) (h : n < 4294967296) : bits BinOp.and IntKind.i64 (n : Int) 255 = ((n % 256 : Nat) : Int) := by
  have key : (BitVec.ofInt 64 (n : Int) &&& BitVec.ofInt 64 255).toNat = n % 256 := by
    rw [show (255 : Int) = ((255 : Nat) : Int) from rfl, BitVec.ofInt_natCast, BitVec.ofInt_natCast, BitVec.toNat_and, BitVec.toNat_ofNat, BitVec.toNat_ofNat, Nat.mod_eq_of_lt (by omega), Nat.mod_eq_of_lt (by omega)]
    exact Nat.and_two_pow_sub_one_eq_mod n 8
  show IntKind.i64.wrap (((BitVec.ofInt 64 (n : Int) &&& BitVec.ofInt 64 255).toNat : Nat) : Int) = _
  rw [key]
  exact IntWalk.i64_in _ (by omega)
def PtrRd (s : Bs) (w : World) (e : Ending) (w' : World) : Prop := e = .returned (.tuple #[.agg (encPtr (if ptrFits s then ptrOf s else pD)).toArray, .int .i64 (if ptrFits s then 0 else 3)]) ∧ Below w.heap.size w w'
theorem PtrRd.yes {s : Bs} {w w' : World} {e : Ending} (h : ptrFits s = true) (he : e = .returned (.tuple #[.agg (encPtr (ptrOf s)).toArray, .int .i64 0])) (hb : Below w.heap.size w w') : PtrRd s w e w' := by
  unfold PtrRd; rw [if_pos h, if_pos h]; exact ⟨he, hb⟩
theorem PtrRd.no {s : Bs} {w w' : World} {e : Ending} (h : ptrFits s = false) (he : e = .returned (.tuple #[.agg (encPtr pD).toArray, .int .i64 3])) (hb : Below w.heap.size w w') : PtrRd s w e w' := by
  unfold PtrRd; rw [if_neg (by simp [h]), if_neg (by simp [h])]; exact ⟨he, hb⟩
def zPtr : List Value := encPtr pD
set_option maxHeartbeats 2000000 in
set_option maxRecDepth 100000 in
theorem ptr_Read_any (s : Bs) (w : World) (hs : s.length = 64) :
    Calls Tryd.prog 80 #[.string ⟨s.toArray⟩] w (PtrRd s w) := by
  have h1 : ¬ (s.length : Int) < 64 := by omega
  have h2 : ¬ (64 : Int) < (s.length : Int) := by omega
  have HS := Lib.hid hs
  clear hs
  go_enter Tryd.func80, Tryd.ntmps80
  go_wp2_with fail
  refine (le_New_any s _).mono ?_
  rintro e w1 ⟨rfl, hw1⟩
  have hs1 : w1.heap.size = w.heap.size + 2 := by rw [hw1]; simp
  have hb1 : Below w.heap.size w w1 := by rw [hw1]; exact ((Below.refl _ _).alloc (Nat.le_refl _) _).alloc (by simp) _
  have hres : Blk w1 w.heap.size 35 zPtr := by rw [hw1]; exact (Blk.new w 35 zPtr).alloc _
  have hrd : RdAt w1 (w.heap.size + 1) s 0 := by rw [hw1]; exact Blk.newAt (w := w.alloc _) 162 [.string ⟨s.toArray⟩, .int .i64 0] (by simp)
  clear hw1
  have HS1 := Lib.hid hs1
  clear hs1
  go_upto_region 7 with fail
  obtain ⟨wa, hwa⟩ : ∃ wa, wa = w1.alloc (.cells #[.int .i64 0, .int .i64 0, .int .i64 0, .int .i64 0, .int .i64 0, .int .i64 0] 165) := ⟨_, rfl⟩
  have hba : Below w1.heap.size w1 wa := by rw [hwa]; exact (Below.refl _ _).alloc (Nat.le_refl _) _
  have hl0 : Blk wa w1.heap.size 165 (i64s (w4s s 0) ++ List.replicate (6 - 0) (Value.int .i64 0)) := by rw [hwa]; exact Blk.new w1 165 _
  have HRD := Lib.hid (hrd.below hba)
  have HRES := Lib.hid (hres.below hba)
  have HL0 := Lib.hid hl0
  have HBA := Lib.hid (hb1.trans (hba.mono hb1.size))
  have hsa : w1.heap.size < wa.heap.size := by rw [hwa]; simp
  rw [← hwa]
  clear hwa hba hl0 hrd hres hb1
  have e1 := HS1.out
  rw [e1] at HL0 hsa ⊢
  clear e1
  go_wp2_with fail
  go_loopw [21] (fun i wr => ∃ j : Nat, j ≤ 6 ∧ i = .int .i64 j ∧ Hid (RdAt wr (w.heap.size + 1) s (4 * j)) ∧ Hid (Blk wr (w.heap.size + 2) 165 (i64s (w4s s j) ++ List.replicate (6 - j) (.int .i64 0))) ∧ Hid (Blk wr w.heap.size 35 zPtr) ∧ Hid (Below w.heap.size w wr)) (fun i _ => 6 - (intOf i).toNat)
  case atStart => exact ⟨0, by omega, rfl, HRD, HL0, HRES, HBA⟩
  case round =>
    obtain ⟨j, hj, rfl, HR, HC, HT, HG⟩ := hrel
    have hjl : (i64s (w4s s j)).length = j := by simp [i64s, w4s]
    by_cases hj6 : j < 6
    · have hcv : ∃ u, Hid (wr.cell? ⟨w.heap.size + 2, j, none⟩ = some u) := by
        refine ⟨.int .i64 0, Lib.hid ?_⟩
        rw [HC.out.cell, List.getElem?_append_right (by rw [hjl]; exact Nat.le_refl _), hjl, Nat.sub_self]
        rw [show 6 - j = (6 - (j + 1)) + 1 by omega]; rfl
      obtain ⟨u, HCV⟩ := hcv
      go_wp2_with fail
      refine (rd_U32_any (w.heap.size + 1) s (4 * j) wr HR.out (by have := HS.out; omega) (by have := HS.out; omega)).mono ?_
      rintro e w2 ⟨rfl, hr1, hg1⟩
      have cv : w2.cell? ⟨w.heap.size + 2, j, none⟩ = some u := hg1.cell (by show ¬ w.heap.size + 2 = w.heap.size + 1; omega) HCV.out
      have fz : w2.frozen? ⟨w.heap.size + 2, j, none⟩ = false := (hg1.blk HC.out (by show ¬ w.heap.size + 2 = w.heap.size + 1; omega)).frozen j
      go_wp2_with fail
      go_roundw
      case rel =>
        have hc1 := hg1.blk HC.out (by show ¬ w.heap.size + 2 = w.heap.size + 1; omega)
        have ht1 := hg1.blk HT.out (by show ¬ w.heap.size = w.heap.size + 1; omega)
        have hg2 : Below w.heap.size w w2 := HG.out.trans (hg1.toBelow (fun k hk => by rw [hk]; omega) HG.out.size)
        refine ⟨j + 1, by omega, by go_num, Lib.hid (Blk.other hr1 (by show w.heap.size + 1 ≠ w.heap.size + 2; omega) _), Lib.hid ?_, Lib.hid (ht1.other (by show w.heap.size ≠ w.heap.size + 2; omega) _), Lib.hid (hg2.setCell (by show w.heap.size ≤ w.heap.size + 2; omega) _)⟩
        have h2 := hc1.setCell j (.int .i64 (leN (sub s (4 * j) 4) : Nat))
        rw [w4Set s j hj6] at h2
        exact h2
      case measure => simp [intOf]; omega
    · obtain rfl : j = 6 := by omega
      go_wp2_with fail
      refine (fl_Read_any (w.heap.size + 1) s 24 wr HR.out (by have := HS.out; omega) (by have := HS.out; omega)).mono ?_
      rintro e w2 ⟨rfl, hr1, hg1⟩
      obtain ⟨a0, a1, a2, a3, ha⟩ : ∃ a0 a1 a2 a3 : Nat, sumR4 s 24 4 = [a0, a1, a2, a3] := ⟨_, _, _, _, rfl⟩
      obtain ⟨b0, b1, b2, b3, b4, b5, hb⟩ : ∃ b0 b1 b2 b3 b4 b5 : Nat, w4s s 6 = [b0, b1, b2, b3, b4, b5] := ⟨_, _, _, _, _, _, rfl⟩
      have hc1 := hg1.blk HC.out (by show ¬ w.heap.size + 2 = w.heap.size + 1; omega)
      have ht1 := hg1.blk HT.out (by show ¬ w.heap.size = w.heap.size + 1; omega)
      have hg2 : Below w.heap.size w w2 := HG.out.trans (hg1.toBelow (fun k hk => by rw [hk]; omega) HG.out.size)
      rw [hb] at hc1
      rw [ha, show (u64s [a0, a1, a2, a3]).toArray = #[.int .u64 (a0 : Nat), .int .u64 (a1 : Nat), .int .u64 (a2 : Nat), .int .u64 (a3 : Nat)] from rfl]
      have HA := Lib.hid ha
      have HB := Lib.hid hb
      clear ha hb
      have HC1 : Hid (Blk w2 (w.heap.size + 2) 165 [.int .i64 (b0 : Nat), .int .i64 (b1 : Nat), .int .i64 (b2 : Nat), .int .i64 (b3 : Nat), .int .i64 (b4 : Nat), .int .i64 (b5 : Nat)]) := Lib.hid hc1
      clear hc1
      go_upto_region 13 with fail
      obtain ⟨w3, hw3⟩ : ∃ w3, w3 = w2.alloc (.cells #[.int .u64 (a0 : Nat), .int .u64 (a1 : Nat), .int .u64 (a2 : Nat), .int .u64 (a3 : Nat)] 33) := ⟨_, rfl⟩
      have hb3 : Below w2.heap.size w2 w3 := by rw [hw3]; exact (Below.refl _ _).alloc (Nat.le_refl _) _
      have hsm : Blk w3 w2.heap.size 33 [.int .u64 (a0 : Nat), .int .u64 (a1 : Nat), .int .u64 (a2 : Nat), .int .u64 (a3 : Nat)] := by rw [hw3]; exact Blk.new w2 _ [.int .u64 (a0 : Nat), .int .u64 (a1 : Nat), .int .u64 (a2 : Nat), .int .u64 (a3 : Nat)]
      rw [← hw3]
      clear hw3
      have c0 := (HC1.out.below hb3).cell 0
      have c1 := (HC1.out.below hb3).cell 1
      have c2 := (HC1.out.below hb3).cell 2
      have c3 := (HC1.out.below hb3).cell 3
      have c4 := (HC1.out.below hb3).cell 4
      have c5 := (HC1.out.below hb3).cell 5
      have HSM := Lib.hid hsm
      have HR3 := Lib.hid (Blk.below hr1 hb3)
      have HT3 := Lib.hid (ht1.below hb3)
      have HG3 := Lib.hid (hg2.trans (hb3.mono hg2.size))
      have hst : ∀ (w' : World), Blk w' w.heap.size 35 zPtr → ∀ op a next Q, StoreW Tryd.prog op 35 (.pointer (some ⟨w.heap.size, 0, none⟩)) (.agg #[.int .i64 0, .int .i64 0, .int .i64 0, .int .i64 0, .bool false, .int .i64 0, .int .i64 0, .int .i64 0, .int .u64 0, .int .u64 0, .int .u64 0, .int .u64 0]) a w' next Q = next (a.put op.dst undef) (w'.setCells w.heap.size 0 zPtr) := fun w' h op a next Q => storeW_part (o := 0) (cs := encPtr pD) h (by decide) iszPt (encPtr_ones _) op a next Q
      have HST := Lib.hid hst
      clear hst
      have hb4 : b4 < 4294967296 := by
        have h := num4 s 16 (by have := HS.out; omega)
        have e : (w4s s 6)[4]? = some b4 := by rw [HB.out]; rfl
        simp [w4s] at e
        omega
      clear hb3 hsm hg1 hr1 ht1 hg2
      by_cases hx : 131071 < b4
      · have hx1 : (131071 : Int) < (b4 : Int) := by omega
        have hs3 := HST.out w3 HT3.out
        go_wp2_with fail
        refine bodyPost_ret (res_cell_tmp rfl _ _ w.heap.size 35 _ _ rfl (HT3.out.put (vs := zPtr) rfl) Tryd.underlying35 rfl iszPt) rfl ?_
        refine PtrRd.no ?_ rfl (below_put HG3.out HG3.out.size (Nat.le_refl _))
        have e : (w4s s 6)[4]? = some b4 := by rw [HB.out]; rfl
        simp [w4s] at e
        unfold ptrFits w4
        rw [show 4 * 4 = 16 from rfl, e]
        simp; omega
      · have hx1 : ¬ (131071 : Int) < (b4 : Int) := by omega
        have e4 : w4 s 4 = b4 := by
          have e : (w4s s 6)[4]? = some b4 := by rw [HB.out]; rfl
          simp [w4s] at e
          exact e
        have E4 := Lib.hid e4
        clear e4
        go_wp2_with fail
        refine (rd_Zeros_any (w.heap.size + 1) s 56 w3 HR3.out (by have := HS.out; omega) (by have := HS.out; omega)).mono ?_
        rintro e w4' ⟨rfl, nd, rfl⟩
        by_cases hz : allZero (s.drop 56) = true
        · have HZ := Lib.hid hz
          rw [HZ.out]
          clear hz
          have hld := fun op a next Q => loadW_blk (P := Tryd.prog) (HSM.out.drewN (n := nd)) Tryd.underlying33 rfl iszSm op a next Q
          have hv : Value.agg #[.int .i64 (b0 : Nat), .int .i64 (b1 : Nat), .int .i64 (b2 : Nat), .int .i64 (b3 : Nat), .bool (decide (0 < (b4 : Int) / 65536)), .int .i64 (bits BinOp.and IntKind.i64 (b4 : Int) 255), .int .i64 (bits BinOp.and IntKind.i64 ((b4 : Int) / 256) 255), .int .i64 (b5 : Nat), .int .u64 (a0 : Nat), .int .u64 (a1 : Nat), .int .u64 (a2 : Nat), .int .u64 (a3 : Nat)] = .agg (encPtr (ptrOf s)).toArray := by
            have hB := HB.out
            have hA := HA.out
            simp [w4s, List.range, List.range.loop] at hB
            simp [sumR4, List.range, List.range.loop] at hA
            obtain ⟨k0, k1, k2, k3, k4, k5⟩ := hB
            obtain ⟨l0, l1, l2, l3⟩ := hA
            have e1 := and255 b4 hb4
            have e2 := and255 (b4 / 256) (by omega)
            rw [Int.natCast_ediv] at e2
            rw [show ((256 : Nat) : Int) = 256 from rfl] at e2
            rw [e1, e2]
            simp only [ptrOf, encPtr, w4, w8, Nat.mul_zero, Nat.mul_one, Nat.add_zero, Nat.reduceMul, Nat.reduceAdd, k0, k1, k2, k3, k4, k5, l0, l1, l2, l3]
            rw [show (decide (0 < (b4 : Int) / 65536)) = decide (0 < b4 / 65536) by rw [decide_eq_decide]; omega]
          have HV := Lib.hid hv
          clear hv
          go_wp2_with fail
          rw [HV.out, storeW_part (o := 0) (cs := encPtr (ptrOf s)) HT3.out.drewN (Nat.le_refl 12) iszPt (encPtr_ones _)]
          go_wp2_with fail
          refine bodyPost_ret (res_cell_tmp rfl _ _ w.heap.size 35 _ _ rfl (HT3.out.drewN.put (vs := encPtr (ptrOf s)) rfl) Tryd.underlying35 rfl iszPt) rfl ?_
          refine PtrRd.yes ?_ rfl (below_put (below_drewN' HG3.out _) HG3.out.size (Nat.le_refl _))
          have := HZ.out
          unfold allZero at this
          unfold ptrFits
          rw [this, E4.out]
          simp; omega
        · have hz' : allZero (s.drop 56) = false := by simpa using hz
          have HZ := Lib.hid hz'
          rw [HZ.out]
          clear hz hz'
          have hs3 := HST.out (w3.drewN nd) HT3.out.drewN
          go_wp2_with fail
          refine bodyPost_ret (res_cell_tmp rfl _ _ w.heap.size 35 _ _ rfl (HT3.out.drewN.put (vs := zPtr) rfl) Tryd.underlying35 rfl iszPt) rfl ?_
          refine PtrRd.no ?_ rfl (below_put (below_drewN' HG3.out _) HG3.out.size (Nat.le_refl _))
          have := HZ.out
          unfold allZero at this
          unfold ptrFits
          rw [this]
          simp
end Go.Proofs.YtbhofablndjeoaaDoor
/- The walks of pointers laid into bytes. -/
namespace Go.Proofs.YtbhofablndjeoaaDoor
open Go.RowKit
set_option linter.unusedSimpArgs false
set_option linter.unusedVariables false

def ints (l : List Int) : List Value := l.map fun x => Value.int .i64 x
def inB (most : Int) (x : Int) : Bool := decide (0 ≤ x) && decide (x ≤ most)
set_option maxHeartbeats 1000000 in
theorem within_any (most : Int) (l : List Int) (ao : Option Addr) (cap : Nat) (w : World) (h : RSl w 1 ao l.length cap (ints l)) :
    Calls Tryd.prog 73 #[.int .i64 most, .slice ao l.length cap] w fun e w' => e = .returned (.bool (l.all (inB most))) ∧ w' = w := by
  have hle := h.2.1
  have hcm := h.2.2.1
  unfold maxLen at hcm
  have hp := Lib.hid h.2.2.2.2
  clear h
  go_enter Tryd.func73, Tryd.ntmps73
  go_wp2_with fail
  go_loop [9] (fun i => ∃ k : Nat, k ≤ l.length ∧ i = .int .i64 k ∧ Hid ((l.take k).all (inB most) = true)) (fun i => l.length - (intOf i).toNat)
  case atStart => exact ⟨0, by omega, rfl, Lib.hid rfl⟩
  case round =>
    obtain ⟨k, hk, rfl, HT⟩ := hrel
    by_cases hkl : k < l.length
    · obtain ⟨b, off, hao, hlt, hc⟩ := hp.out (by omega)
      have c := hc k (by omega)
      have hx : (ints l)[k]? = some (.int .i64 l[k]) := by simp [ints, hkl]
      rw [hx] at c
      have hall : ∀ r : Bool, inB most l[k] = r → (l.take (k + 1)).all (inB most) = r := by
        intro r hr
        rw [List.take_succ_eq_append_getElem hkl, List.all_append, HT.out]
        simp [hr]
      have HALL := Lib.hid hall
      have hany : inB most l[k] = false → l.all (inB most) = false := by
        intro hr
        rw [List.all_eq_false]
        exact ⟨l[k], List.getElem_mem hkl, by simp [hr]⟩
      have HANY := Lib.hid hany
      obtain ⟨x, hxe⟩ : ∃ x, x = l[k] := ⟨_, rfl⟩
      rw [← hxe] at c HALL HANY
      clear hxe hall hany hx hc
      subst hao
      by_cases h0 : x < 0
      · go_wp2_with fail
        go_ret
        exact ⟨by rw [HANY.out (by simp [inB]; omega)]; rfl, rfl⟩
      · by_cases h1 : most < x
        · go_wp2_with fail
          go_ret
          exact ⟨by rw [HANY.out (by simp [inB]; omega)]; rfl, rfl⟩
        · go_wp2_with fail
          go_round
          case rel => exact ⟨k + 1, by omega, by go_num, Lib.hid (HALL.out true (by simp [inB]; omega))⟩
          case measure => simp [intOf]; omega
    · obtain rfl : k = l.length := by omega
      go_wp2_with fail
      go_ret
      have := HT.out
      rw [List.take_length] at this
      exact ⟨by rw [this]; rfl, rfl⟩
set_option maxHeartbeats 1000000 in
theorem small_any (l : List Nat) (ao : Option Addr) (cap : Nat) (w : World) (h : RSl w 1 ao l.length cap (i64s l)) (hl : l.length ≤ 100) (hx : ∀ x ∈ l, x ≤ 4294967295) :
    Calls Tryd.prog 74 #[.slice ao l.length cap] w fun e w' => e = .returned (.string ⟨(l.flatMap (leB 4)).toArray⟩) ∧ Below w.heap.size w w' := by
  have H := Lib.hid h
  have HX := Lib.hid hx
  clear h hx
  go_enter Tryd.func74, Tryd.ntmps74
  go_wp2_with fail
  go_loopw [3, 8] (fun s i wr => ∃ k : Nat, k ≤ l.length ∧ i = .int .i64 k ∧ s = .string ⟨((l.take k).flatMap (leB 4)).toArray⟩ ∧ Hid (Below w.heap.size w wr)) (fun _ i _ => l.length - (intOf i).toNat)
  case atStart => exact ⟨0, by omega, rfl, rfl, Lib.hid (Below.refl _ _)⟩
  case round =>
    obtain ⟨k, hk, rfl, rfl, HB⟩ := hrel
    by_cases hkl : k < l.length
    · obtain ⟨b, off, hao, hlt, hc⟩ := (H.out.below HB.out).2.2.2.2 (by omega)
      have c := hc k (by omega)
      have hx : (i64s l)[k]? = some (.int .i64 (l[k] : Nat)) := by simp [i64s, hkl]
      rw [hx] at c
      have htk : (l.take (k + 1)).flatMap (leB 4) = (l.take k).flatMap (leB 4) ++ leB 4 l[k] := by
        rw [List.take_succ_eq_append_getElem hkl, List.flatMap_append]; simp
      have HTK := Lib.hid htk
      have hle := HX.out l[k] (List.getElem_mem hkl)
      obtain ⟨x, hxe⟩ : ∃ x, x = l[k] := ⟨_, rfl⟩
      rw [← hxe] at c HTK hle
      have hln : ∀ l : List Nat, (l.flatMap (leB 4)).length = 4 * l.length := fun l => by
        induction l with
        | nil => rfl
        | cons a r ih => rw [List.flatMap_cons, List.length_append, ih, leB_length, List.length_cons]; omega
      have hb : ¬ 9223372036854775807 < ((l.take k).flatMap (leB 4)).length + (leB 4 x).length := by
        rw [hln, leB_length, List.length_take]; omega
      clear hxe htk hx hc hln
      subst hao
      generalize hout : (l.take k).flatMap (leB 4) = out at *
      have HO := Lib.hid hout
      clear hout
      go_wp2_with fail
      refine (le_U32_any x wr hle).mono ?_
      rintro e w1 ⟨rfl, hb1⟩
      go_wp2_with fail
      go_roundw
      case rel => exact ⟨k + 1, by omega, by go_num, by rw [HTK.out, str_append], Lib.hid (HB.out.trans (hb1.mono HB.out.size))⟩
      case measure => simp [intOf]; omega
    · obtain rfl : k = l.length := by omega
      go_wp2_with fail
      go_ret
      exact ⟨by rw [List.take_length]; rfl, HB.out⟩
theorem run_index_one {P : Program} {t e : TypeId} {len : Nat} {cs : Array Value} {v : Value} (k : Nat) (hu : P.underlying t = some (.array len e)) (ha : ∀ w, (isAgg e).run P w = .ok false w) (hz : ∀ w, (sizeOf e).run P w = .ok 1 w) (hk : k < len) (hc : cs[k]? = some v) (W : World) :
    (Instr.index t (.agg cs) (.int .i64 (k : Nat))).run P W = .ok v W := by
  have h0 : (0 : Int) ≤ (k : Int) := by omega
  have h1 : (k : Int) < (len : Int) := by omega
  simp [Instr.index, asIntOf, run_underlying hu, hz, part, ha, hk, hc]
theorem run_index_agg {P : Program} {t e : TypeId} {len n : Nat} {cs : Array Value} (k : Nat) (hu : P.underlying t = some (.array len e)) (ha : ∀ w, (isAgg e).run P w = .ok true w) (hz : ∀ w, (sizeOf e).run P w = .ok n w) (hk : k < len) (W : World) :
    (Instr.index t (.agg cs) (.int .i64 (k : Nat))).run P W = .ok (.agg (cs.extract (k * n) (k * n + n))) W := by
  have h0 : (0 : Int) ≤ (k : Int) := by omega
  have h1 : (k : Int) < (len : Int) := by omega
  simp [Instr.index, asIntOf, run_underlying hu, hz, part, ha, hk]
set_option maxHeartbeats 1000000 in
set_option maxRecDepth 100000 in
theorem fl_Bytes_any (a0 a1 a2 a3 : Nat) (w : World) (h0 : a0 < 18446744073709551616) (h1 : a1 < 18446744073709551616) (h2 : a2 < 18446744073709551616) (h3 : a3 < 18446744073709551616) :
    Calls Tryd.prog 75 #[.agg #[.int .u64 (a0 : Nat), .int .u64 (a1 : Nat), .int .u64 (a2 : Nat), .int .u64 (a3 : Nat)]] w fun e w' => e = .returned (.string ⟨(leB 8 a0 ++ leB 8 a1 ++ leB 8 a2 ++ leB 8 a3).toArray⟩) ∧ Below w.heap.size w w' := by
  have HX : Hid (∀ x ∈ [a0, a1, a2, a3], x < 18446744073709551616) := Lib.hid (by simp [h0, h1, h2, h3])
  clear h0 h1 h2 h3
  go_enter Tryd.func75, Tryd.ntmps75
  go_wp2_with fail
  go_loopw [3, 7] (fun s i wr => ∃ k : Nat, k ≤ 4 ∧ i = .int .i64 k ∧ s = .string ⟨(([a0, a1, a2, a3].take k).flatMap (leB 8)).toArray⟩ ∧ Hid (Below w.heap.size w wr)) (fun _ i _ => 4 - (intOf i).toNat)
  case atStart => exact ⟨0, by omega, rfl, rfl, Lib.hid ((Below.refl _ _).alloc (Nat.le_refl _) _)⟩
  case round =>
    obtain ⟨k, hk, rfl, rfl, HB⟩ := hrel
    by_cases hkl : k < 4
    · have hk4 : k = 0 ∨ k = 1 ∨ k = 2 ∨ k = 3 := by omega
      rcases hk4 with rfl | rfl | rfl | rfl
      · have hix : ∀ W, (Instr.index 33 (.agg #[.int .u64 (a0 : Nat), .int .u64 (a1 : Nat), .int .u64 (a2 : Nat), .int .u64 (a3 : Nat)]) (.int .i64 0)).run Tryd.prog W = .ok (.int .u64 (a0 : Nat)) W := fun W => run_index_one 0 Tryd.underlying33 (fun _ => by kernel_rfl) (fun _ => by kernel_rfl) (by omega) rfl W
        go_wp2_with fail
        refine (le_U64_any a0 wr (HX.out a0 (by simp))).mono ?_
        rintro e w1 ⟨rfl, hb1⟩
        have hb : ¬ 9223372036854775807 < 0 + (leB 8 a0).length := by simp only [List.length_append, leB_length]; omega
        go_wp2_with fail
        go_roundw
        case rel => exact ⟨1, by omega, by go_num, by simp [str_append], Lib.hid (HB.out.trans (hb1.mono HB.out.size))⟩
        case measure => simp [intOf]
      · have hix : ∀ W, (Instr.index 33 (.agg #[.int .u64 (a0 : Nat), .int .u64 (a1 : Nat), .int .u64 (a2 : Nat), .int .u64 (a3 : Nat)]) (.int .i64 1)).run Tryd.prog W = .ok (.int .u64 (a1 : Nat)) W := fun W => run_index_one 1 Tryd.underlying33 (fun _ => by kernel_rfl) (fun _ => by kernel_rfl) (by omega) rfl W
        go_wp2_with fail
        refine (le_U64_any a1 wr (HX.out a1 (by simp))).mono ?_
        rintro e w1 ⟨rfl, hb1⟩
        have hb : ¬ 9223372036854775807 < (leB 8 a0).length + (leB 8 a1).length := by simp only [List.length_append, leB_length]; omega
        go_wp2_with fail
        go_roundw
        case rel => exact ⟨2, by omega, by go_num, by simp [str_append], Lib.hid (HB.out.trans (hb1.mono HB.out.size))⟩
        case measure => simp [intOf]
      · have hix : ∀ W, (Instr.index 33 (.agg #[.int .u64 (a0 : Nat), .int .u64 (a1 : Nat), .int .u64 (a2 : Nat), .int .u64 (a3 : Nat)]) (.int .i64 2)).run Tryd.prog W = .ok (.int .u64 (a2 : Nat)) W := fun W => run_index_one 2 Tryd.underlying33 (fun _ => by kernel_rfl) (fun _ => by kernel_rfl) (by omega) rfl W
        go_wp2_with fail
        refine (le_U64_any a2 wr (HX.out a2 (by simp))).mono ?_
        rintro e w1 ⟨rfl, hb1⟩
        have hb : ¬ 9223372036854775807 < (leB 8 a0 ++ leB 8 a1).length + (leB 8 a2).length := by simp only [List.length_append, leB_length]; omega
        go_wp2_with fail
        go_roundw
        case rel => exact ⟨3, by omega, by go_num, by simp [str_append], Lib.hid (HB.out.trans (hb1.mono HB.out.size))⟩
        case measure => simp [intOf]
      · have hix : ∀ W, (Instr.index 33 (.agg #[.int .u64 (a0 : Nat), .int .u64 (a1 : Nat), .int .u64 (a2 : Nat), .int .u64 (a3 : Nat)]) (.int .i64 3)).run Tryd.prog W = .ok (.int .u64 (a3 : Nat)) W := fun W => run_index_one 3 Tryd.underlying33 (fun _ => by kernel_rfl) (fun _ => by kernel_rfl) (by omega) rfl W
        go_wp2_with fail
        refine (le_U64_any a3 wr (HX.out a3 (by simp))).mono ?_
        rintro e w1 ⟨rfl, hb1⟩
        have hb : ¬ 9223372036854775807 < (leB 8 a0 ++ leB 8 a1 ++ leB 8 a2).length + (leB 8 a3).length := by simp only [List.length_append, leB_length]; omega
        go_wp2_with fail
        go_roundw
        case rel => exact ⟨4, by omega, by go_num, by simp [str_append], Lib.hid (HB.out.trans (hb1.mono HB.out.size))⟩
        case measure => simp [intOf]
    · obtain rfl : k = 4 := by omega
      go_wp2_with fail
      go_ret
      exact ⟨by simp, HB.out⟩
end Go.Proofs.YtbhofablndjeoaaDoor
/- The walk of ptr.Bytes, ptr.None. -/
namespace Go.Proofs.YtbhofablndjeoaaDoor
open Go.RowKit
set_option linter.unusedSimpArgs false
set_option linter.unusedVariables false
attribute [local go_sem ↓] wp_loadPt wp_storePt wp_binPt

set_option maxRecDepth 100000 in
theorem None_any (p : PtrT) (hp : p.wf) (w : World) : Calls Tryd.prog 47 #[.agg (encPtr p).toArray] w fun e w' => e = .returned (.bool (isNone p)) ∧ Below w.heap.size w w' := by
  have hb := Blk.new w 35 (encPtr p)
  have hld := fun op a next Q => loadW_blk (P := Tryd.prog) hb Tryd.underlying35 rfl iszPt op a next Q
  have heq := fun o x y a W next Q => bnW_nilPt hp o x y a W next Q
  have hbel : Below w.heap.size w (w.alloc (.cells (encPtr p).toArray 35)) := (Below.refl _ _).alloc (Nat.le_refl _) _
  clear hb
  go_enter Tryd.func47, Tryd.ntmps47
  go_wp2_with fail
  go_ret
  exact ⟨rfl, hbel⟩
def small5 (p : PtrT) : List Int := [p.ag, p.aa, p.bg, p.ba, p.birth]
def small2 (p : PtrT) : List Int := [p.size, p.level]
theorem may_eq (p : PtrT) : ptrMay p = ((small5 p).all (inB 4294967295) && (small2 p).all (inB 255)) := by
  simp [ptrMay, small5, small2, inB, U32', Bool.and_assoc]
def PtrBy (p : PtrT) (w : World) (e : Ending) (w' : World) : Prop := e = .returned (.tuple #[.string ⟨(if ptrMay p then ptrBytes p else []).toArray⟩, .int .i64 (if ptrMay p then 0 else 1)]) ∧ Below w.heap.size w w'
theorem PtrBy.yes {p : PtrT} {w w' : World} {e : Ending} (h : ptrMay p = true) (he : e = .returned (.tuple #[.string ⟨(ptrBytes p).toArray⟩, .int .i64 0])) (hb : Below w.heap.size w w') : PtrBy p w e w' := by
  unfold PtrBy; rw [if_pos h, if_pos h]; exact ⟨he, hb⟩
theorem PtrBy.no {p : PtrT} {w w' : World} {e : Ending} (h : ptrMay p = false) (he : e = .returned (.tuple #[.string ⟨#[]⟩, .int .i64 1])) (hb : Below w.heap.size w w') : PtrBy p w e w' := by
  unfold PtrBy; rw [if_neg (by simp [h]), if_neg (by simp [h])]; exact ⟨he, hb⟩
theorem rsl_ints (w : World) (l : List Int) (e : Nat) (hl : l.length ≤ 100) : RSl (w.alloc (.cells (ints l).toArray e)) 1 (some ⟨w.heap.size, 0, none⟩) l.length l.length (ints l) := (Blk.new w e (ints l)).rsl (by simp [ints]) (by unfold maxLen; omega)
set_option maxHeartbeats 1000000 in
theorem small_at (p : PtrT) (hm : ptrMay p = true) (one : Int) (ho : one = (ptrOne p : Nat)) (w2 W : World) (g : Nat) (hW : Below w2.heap.size w2 W) (hg : Blk W g 3 [.int .i64 p.ag, .int .i64 p.aa, .int .i64 p.bg, .int .i64 p.ba, .int .i64 one, .int .i64 p.birth]) :
    Calls Tryd.prog 74 #[.slice (some ⟨g, 0, none⟩) 6 6] W fun e w' => e = .returned (.string ⟨([p.ag.toNat, p.aa.toNat, p.bg.toNat, p.ba.toNat, ptrOne p, p.birth.toNat].flatMap (leB 4)).toArray⟩) ∧ Below W.heap.size W w' ∧ Below w2.heap.size w2 w' := by
  have h := may_eq p
  rw [hm] at h
  simp [small5, small2, inB] at h
  have h1 : ptrOne p ≤ 131071 := by
    unfold ptrOne
    cases p.two <;> simp <;> omega
  have e : [Value.int .i64 p.ag, .int .i64 p.aa, .int .i64 p.bg, .int .i64 p.ba, .int .i64 one, .int .i64 p.birth] = i64s [p.ag.toNat, p.aa.toNat, p.bg.toNat, p.ba.toNat, ptrOne p, p.birth.toNat] := by
    simp only [i64s, List.map, ho]
    rw [show ((p.ag.toNat : Nat) : Int) = p.ag by omega, show ((p.aa.toNat : Nat) : Int) = p.aa by omega, show ((p.bg.toNat : Nat) : Int) = p.bg by omega, show ((p.ba.toNat : Nat) : Int) = p.ba by omega, show ((p.birth.toNat : Nat) : Int) = p.birth by omega]
  rw [e] at hg
  refine (small_any [p.ag.toNat, p.aa.toNat, p.bg.toNat, p.ba.toNat, ptrOne p, p.birth.toNat] (some ⟨g, 0, none⟩) 6 W (hg.rsl rfl (by unfold maxLen; show 6 ≤ _; omega)) (by show 6 ≤ 100; omega) ?_).mono ?_
  · intro x hx
    simp only [List.mem_cons, List.not_mem_nil, or_false] at hx
    rcases hx with rfl | rfl | rfl | rfl | rfl | rfl <;> omega
  · rintro e w' ⟨rfl, hb⟩
    exact ⟨rfl, hb, hW.trans (hb.mono hW.size)⟩
theorem flB_at (p : PtrT) (hp : p.wf) (w2 W : World) (hW : Below w2.heap.size w2 W) :
    Calls Tryd.prog 75 #[.agg #[.int .u64 p.s0, .int .u64 p.s1, .int .u64 p.s2, .int .u64 p.s3]] W fun e w' => e = .returned (.string ⟨(leB 8 p.s0.toNat ++ leB 8 p.s1.toNat ++ leB 8 p.s2.toNat ++ leB 8 p.s3.toNat).toArray⟩) ∧ Below W.heap.size W w' ∧ Below w2.heap.size w2 w' := by
  have h0 := hp.s0
  have h1 := hp.s1
  have h2 := hp.s2
  have h3 := hp.s3
  unfold U64' at h0 h1 h2 h3
  have h := fl_Bytes_any p.s0.toNat p.s1.toNat p.s2.toNat p.s3.toNat W (by omega) (by omega) (by omega) (by omega)
  rw [show ((p.s0.toNat : Nat) : Int) = p.s0 by omega, show ((p.s1.toNat : Nat) : Int) = p.s1 by omega, show ((p.s2.toNat : Nat) : Int) = p.s2 by omega, show ((p.s3.toNat : Nat) : Int) = p.s3 by omega] at h
  refine h.mono ?_
  rintro e w' ⟨rfl, hb⟩
  exact ⟨rfl, hb, hW.trans (hb.mono hW.size)⟩
theorem ptrBytes_eq (p : PtrT) : padTo ([p.ag.toNat, p.aa.toNat, p.bg.toNat, p.ba.toNat, ptrOne p, p.birth.toNat].flatMap (leB 4) ++ (leB 8 p.s0.toNat ++ leB 8 p.s1.toNat ++ leB 8 p.s2.toNat ++ leB 8 p.s3.toNat)) 64 = ptrBytes p := by
  have hl : ([p.ag.toNat, p.aa.toNat, p.bg.toNat, p.ba.toNat, ptrOne p, p.birth.toNat].flatMap (leB 4) ++ (leB 8 p.s0.toNat ++ leB 8 p.s1.toNat ++ leB 8 p.s2.toNat ++ leB 8 p.s3.toNat)).length = 56 := by simp [leB_length]
  unfold padTo
  rw [hl]
  simp [ptrBytes]
theorem pad_at (l1 l2 : Bs) (hl : l1.length + l2.length ≤ 100) (w2 W : World) (hW : Below w2.heap.size w2 W) : Calls Tryd.prog 55 #[.string ((⟨l1.toArray⟩ : ByteArray) ++ ⟨l2.toArray⟩), .int .i64 64] W fun e w' => e = .returned (.string ⟨(padTo (l1 ++ l2) 64).toArray⟩) ∧ Below w2.heap.size w2 w' := by
  rw [str_append]
  refine (le_Pad_any (l1 ++ l2) 64 W (by simp; omega) (by omega) (by omega)).mono ?_
  rintro e w' ⟨rfl, hb⟩
  exact ⟨rfl, hW.trans (hb.mono hW.size)⟩
set_option maxHeartbeats 4000000 in
set_option maxRecDepth 100000 in
theorem ptr_Bytes_any (p : PtrT) (hp : p.wf) (w : World) : Calls Tryd.prog 54 #[.agg (encPtr p).toArray] w (PtrBy p w) := by
  obtain ⟨wa, hwa⟩ : ∃ wa, wa = w.alloc (.cells (encPtr p).toArray 35) := ⟨_, rfl⟩
  have hbk : Blk wa w.heap.size 35 (encPtr p) := by rw [hwa]; exact Blk.new w _ _
  have hbel : Below w.heap.size w wa := by rw [hwa]; exact (Below.refl _ _).alloc (Nat.le_refl _) _
  have hsz : wa.heap.size = w.heap.size + 1 := by rw [hwa]; simp
  have c0 : wa.cell? ⟨w.heap.size, 0, none⟩ = some (.int .i64 p.ag) := hbk.cell 0
  have c1 : wa.cell? ⟨w.heap.size, 1, none⟩ = some (.int .i64 p.aa) := hbk.cell 1
  have c2 : wa.cell? ⟨w.heap.size, 2, none⟩ = some (.int .i64 p.bg) := hbk.cell 2
  have c3 : wa.cell? ⟨w.heap.size, 3, none⟩ = some (.int .i64 p.ba) := hbk.cell 3
  have c7 : wa.cell? ⟨w.heap.size, 7, none⟩ = some (.int .i64 p.birth) := hbk.cell 7
  have HBK := Lib.hid hbk
  have HBEL := Lib.hid hbel
  have HSZ := Lib.hid hsz
  clear hbk hbel hsz
  go_enter Tryd.func54, Tryd.ntmps54
  go_upto_region 1 with fail
  rw [← hwa]
  clear hwa
  go_wp2_with fail
  refine (within_any 4294967295 (small5 p) (some ⟨wa.heap.size, 0, none⟩) 5 _ (rsl_ints wa (small5 p) 3 (by show 5 ≤ 100; omega))).mono ?_
  rintro e w1 ⟨rfl, rfl⟩
  have c5 := (HBK.out.alloc (.cells (ints (small5 p)).toArray 3)).cell 5
  have c6 := (HBK.out.alloc (.cells (ints (small5 p)).toArray 3)).cell 6
  obtain ⟨w1, hw1⟩ : ∃ w1, w1 = wa.alloc (.cells (ints (small5 p)).toArray 3) := ⟨_, rfl⟩
  have HB1 : Hid (Below wa.heap.size wa w1) := by rw [hw1]; exact Lib.hid ((Below.refl _ _).alloc (Nat.le_refl _) _)
  rw [← hw1] at c5 c6 ⊢
  have d5 : w1.cell? ⟨w.heap.size, 5, none⟩ = some (.int .i64 p.size) := c5
  have d6 : w1.cell? ⟨w.heap.size, 6, none⟩ = some (.int .i64 p.level) := c6
  clear hw1 c0 c1 c2 c3 c7 c5 c6
  have hmay := may_eq p
  by_cases h5 : (small5 p).all (inB 4294967295) = true
  · rw [h5] at hmay ⊢
    have HM := Lib.hid hmay
    have H5 := Lib.hid h5
    clear hmay h5
    go_wp2_with fail
    refine (within_any 255 (small2 p) (some ⟨w1.heap.size, 0, none⟩) 2 _ (rsl_ints w1 (small2 p) 3 (by show 2 ≤ 100; omega))).mono ?_
    rintro e w2 ⟨rfl, hw2⟩
    have HB2 : Hid (Below w1.heap.size w1 w2) := by rw [hw2]; exact Lib.hid ((Below.refl _ _).alloc (Nat.le_refl _) _)
    have HBa : Hid (Below wa.heap.size wa w2) := Lib.hid (HB1.out.trans (HB2.out.mono HB1.out.size))
    clear hw2
    by_cases h2 : (small2 p).all (inB 255) = true
    · rw [h2]
      have hm : ptrMay p = true := by rw [HM.out, h2]; rfl
      have HM := Lib.hid hm
      have H2 := Lib.hid h2
      have hb := HBK.out.below HBa.out
      have b1 : 0 ≤ p.size ∧ p.size ≤ 255 ∧ 0 ≤ p.level ∧ p.level ≤ 255 := by simp [small2, inB] at h2; omega
      obtain ⟨s1, s2, s3, s4⟩ := b1
      have c0 : w2.cell? ⟨w.heap.size, 0, none⟩ = some (.int .i64 p.ag) := hb.cell 0
      have c1 : w2.cell? ⟨w.heap.size, 1, none⟩ = some (.int .i64 p.aa) := hb.cell 1
      have c2 : w2.cell? ⟨w.heap.size, 2, none⟩ = some (.int .i64 p.bg) := hb.cell 2
      have c3 : w2.cell? ⟨w.heap.size, 3, none⟩ = some (.int .i64 p.ba) := hb.cell 3
      have c4 : w2.cell? ⟨w.heap.size, 4, none⟩ = some (.bool p.two) := hb.cell 4
      have c5 : w2.cell? ⟨w.heap.size, 5, none⟩ = some (.int .i64 p.size) := hb.cell 5
      have c6 : w2.cell? ⟨w.heap.size, 6, none⟩ = some (.int .i64 p.level) := hb.cell 6
      have c7 : w2.cell? ⟨w.heap.size, 7, none⟩ = some (.int .i64 p.birth) := hb.cell 7
      have HBK2 := Lib.hid hb
      clear hb h2 hm
      by_cases htw : p.two = true
      · rw [htw] at c4
        have HTW := Lib.hid htw
        clear htw
        go_upto_region 6 with fail
        have c8 : w2.cell? ⟨w.heap.size, 8, none⟩ = some (.int .u64 p.s0) := HBK2.out.cell 8
        have c9 : w2.cell? ⟨w.heap.size, 9, none⟩ = some (.int .u64 p.s1) := HBK2.out.cell 9
        have c10 : w2.cell? ⟨w.heap.size, 10, none⟩ = some (.int .u64 p.s2) := HBK2.out.cell 10
        have c11 : w2.cell? ⟨w.heap.size, 11, none⟩ = some (.int .u64 p.s3) := HBK2.out.cell 11
        have ho : p.size + p.level * 256 + 65536 = (ptrOne p : Nat) := by unfold ptrOne; rw [HTW.out]; simp; omega
        have HSM := Lib.hid fun W g (hW : Below w2.heap.size w2 W) (hg : Blk W g 3 [.int .i64 p.ag, .int .i64 p.aa, .int .i64 p.bg, .int .i64 p.ba, .int .i64 (p.size + p.level * 256 + 65536), .int .i64 p.birth]) => small_at p HM.out _ ho w2 W g hW hg
        clear ho
        have HK : Hid (∀ w', Below w2.heap.size w2 w' → w'.cell? ⟨w.heap.size, 0, none⟩ = some (.int .i64 p.ag) ∧ w'.cell? ⟨w.heap.size, 1, none⟩ = some (.int .i64 p.aa) ∧ w'.cell? ⟨w.heap.size, 2, none⟩ = some (.int .i64 p.bg) ∧ w'.cell? ⟨w.heap.size, 3, none⟩ = some (.int .i64 p.ba) ∧ w'.cell? ⟨w.heap.size, 7, none⟩ = some (.int .i64 p.birth) ∧ w'.cell? ⟨w.heap.size, 8, none⟩ = some (.int .u64 p.s0) ∧ w'.cell? ⟨w.heap.size, 9, none⟩ = some (.int .u64 p.s1) ∧ w'.cell? ⟨w.heap.size, 10, none⟩ = some (.int .u64 p.s2) ∧ w'.cell? ⟨w.heap.size, 11, none⟩ = some (.int .u64 p.s3)) := Lib.hid fun w' h => ⟨(HBK2.out.below h).cell 0, (HBK2.out.below h).cell 1, (HBK2.out.below h).cell 2, (HBK2.out.below h).cell 3, (HBK2.out.below h).cell 7, (HBK2.out.below h).cell 8, (HBK2.out.below h).cell 9, (HBK2.out.below h).cell 10, (HBK2.out.below h).cell 11⟩
        have HFL := Lib.hid fun W (hW : Below w2.heap.size w2 W) => flB_at p hp w2 W hW
        generalize hl1 : [p.ag.toNat, p.aa.toNat, p.bg.toNat, p.ba.toNat, ptrOne p, p.birth.toNat].flatMap (leB 4) = l1 at *
        generalize hl2 : leB 8 p.s0.toNat ++ leB 8 p.s1.toNat ++ leB 8 p.s2.toNat ++ leB 8 p.s3.toNat = l2 at *
        have hs1 : l1.length = 24 := by rw [← hl1]; simp [leB_length]
        have hs2 : l2.length = 32 := by rw [← hl2]; simp [leB_length]
        have hs : ¬ 9223372036854775807 < l1.length + l2.length := by omega
        have HPD := Lib.hid fun W (hW : Below w2.heap.size w2 W) => pad_at l1 l2 (by omega) w2 W hW
        have HL1 := Lib.hid hl1
        have HL2 := Lib.hid hl2
        clear hl1 hl2 hs1 hs2
        go_region_held3 (fun w' => w'.cell? ⟨w.heap.size, 0, none⟩ = some (.int .i64 p.ag) ∧ w'.cell? ⟨w.heap.size, 1, none⟩ = some (.int .i64 p.aa) ∧ w'.cell? ⟨w.heap.size, 2, none⟩ = some (.int .i64 p.bg) ∧ w'.cell? ⟨w.heap.size, 3, none⟩ = some (.int .i64 p.ba) ∧ w'.cell? ⟨w.heap.size, 7, none⟩ = some (.int .i64 p.birth) ∧ w'.cell? ⟨w.heap.size, 8, none⟩ = some (.int .u64 p.s0) ∧ w'.cell? ⟨w.heap.size, 9, none⟩ = some (.int .u64 p.s1) ∧ w'.cell? ⟨w.heap.size, 10, none⟩ = some (.int .u64 p.s2) ∧ w'.cell? ⟨w.heap.size, 11, none⟩ = some (.int .u64 p.s3)) (first | go_keep | exact HK.out _ hc5 | exact HK.out _ hc3 | exact HK.out _ hcF)
          (first
            | (go_at_call 74; first
                | (refine (HSM.out _ _ (((Below.refl _ _).alloc (Nat.le_refl _) _).drew) (Blk.new w2 _ [.int .i64 p.ag, .int .i64 p.aa, .int .i64 p.bg, .int .i64 p.ba, .int .i64 (p.size + p.level * 256 + 65536), .int .i64 p.birth]).drew).mono ?_; rintro e w3 ⟨rfl, hb3, hc3⟩)
                | (refine (HSM.out _ _ hcF ((Blk.new w2 _ [.int .i64 p.ag, .int .i64 p.aa, .int .i64 p.bg, .int .i64 p.ba, .int .i64 (p.size + p.level * 256 + 65536), .int .i64 p.birth]).drew.below hbF)).mono ?_; rintro e w3 ⟨rfl, hb3, hc3⟩)
                | (refine (HSM.out _ _ (hcF.alloc hcF.size _) (Blk.new _ _ [.int .i64 p.ag, .int .i64 p.aa, .int .i64 p.bg, .int .i64 p.ba, .int .i64 (p.size + p.level * 256 + 65536), .int .i64 p.birth])).mono ?_; rintro e w3 ⟨rfl, hb3, hc3⟩))
            | (go_at_call 75; first
                | (refine (HFL.out _ ((Below.refl _ _).drew)).mono ?_; rintro e wF ⟨rfl, hbF, hcF⟩)
                | (refine (HFL.out _ (((Below.refl _ _).alloc (Nat.le_refl _) _).drew)).mono ?_; rintro e wF ⟨rfl, hbF, hcF⟩)
                | (refine (HFL.out _ hc3).mono ?_; rintro e wF ⟨rfl, hbF, hcF⟩))
            | (go_at_call 55; first
                | (refine (HPD.out _ hc3).mono ?_; rintro e w5 ⟨rfl, hc5⟩)
                | (refine (HPD.out _ hcF).mono ?_; rintro e w5 ⟨rfl, hc5⟩)))
        all_goals
          go_wp2_with fail
          go_ret2
          refine PtrBy.yes HM.out ?_ (HBEL.out.trans ((HBa.out.trans (hc5.mono HBa.out.size)).mono HBEL.out.size))
          rw [← ptrBytes_eq, HL1.out, HL2.out]
          rfl
      · have htw' : p.two = false := by simpa using htw
        rw [htw'] at c4
        have HTW := Lib.hid htw'
        clear htw htw'
        go_upto_region 6 with fail
        have c8 : w2.cell? ⟨w.heap.size, 8, none⟩ = some (.int .u64 p.s0) := HBK2.out.cell 8
        have c9 : w2.cell? ⟨w.heap.size, 9, none⟩ = some (.int .u64 p.s1) := HBK2.out.cell 9
        have c10 : w2.cell? ⟨w.heap.size, 10, none⟩ = some (.int .u64 p.s2) := HBK2.out.cell 10
        have c11 : w2.cell? ⟨w.heap.size, 11, none⟩ = some (.int .u64 p.s3) := HBK2.out.cell 11
        have ho : p.size + p.level * 256 = (ptrOne p : Nat) := by unfold ptrOne; rw [HTW.out]; simp; omega
        have HSM := Lib.hid fun W g (hW : Below w2.heap.size w2 W) (hg : Blk W g 3 [.int .i64 p.ag, .int .i64 p.aa, .int .i64 p.bg, .int .i64 p.ba, .int .i64 (p.size + p.level * 256), .int .i64 p.birth]) => small_at p HM.out _ ho w2 W g hW hg
        clear ho
        have HK : Hid (∀ w', Below w2.heap.size w2 w' → w'.cell? ⟨w.heap.size, 0, none⟩ = some (.int .i64 p.ag) ∧ w'.cell? ⟨w.heap.size, 1, none⟩ = some (.int .i64 p.aa) ∧ w'.cell? ⟨w.heap.size, 2, none⟩ = some (.int .i64 p.bg) ∧ w'.cell? ⟨w.heap.size, 3, none⟩ = some (.int .i64 p.ba) ∧ w'.cell? ⟨w.heap.size, 7, none⟩ = some (.int .i64 p.birth) ∧ w'.cell? ⟨w.heap.size, 8, none⟩ = some (.int .u64 p.s0) ∧ w'.cell? ⟨w.heap.size, 9, none⟩ = some (.int .u64 p.s1) ∧ w'.cell? ⟨w.heap.size, 10, none⟩ = some (.int .u64 p.s2) ∧ w'.cell? ⟨w.heap.size, 11, none⟩ = some (.int .u64 p.s3)) := Lib.hid fun w' h => ⟨(HBK2.out.below h).cell 0, (HBK2.out.below h).cell 1, (HBK2.out.below h).cell 2, (HBK2.out.below h).cell 3, (HBK2.out.below h).cell 7, (HBK2.out.below h).cell 8, (HBK2.out.below h).cell 9, (HBK2.out.below h).cell 10, (HBK2.out.below h).cell 11⟩
        have HFL := Lib.hid fun W (hW : Below w2.heap.size w2 W) => flB_at p hp w2 W hW
        generalize hl1 : [p.ag.toNat, p.aa.toNat, p.bg.toNat, p.ba.toNat, ptrOne p, p.birth.toNat].flatMap (leB 4) = l1 at *
        generalize hl2 : leB 8 p.s0.toNat ++ leB 8 p.s1.toNat ++ leB 8 p.s2.toNat ++ leB 8 p.s3.toNat = l2 at *
        have hs1 : l1.length = 24 := by rw [← hl1]; simp [leB_length]
        have hs2 : l2.length = 32 := by rw [← hl2]; simp [leB_length]
        have hs : ¬ 9223372036854775807 < l1.length + l2.length := by omega
        have HPD := Lib.hid fun W (hW : Below w2.heap.size w2 W) => pad_at l1 l2 (by omega) w2 W hW
        have HL1 := Lib.hid hl1
        have HL2 := Lib.hid hl2
        clear hl1 hl2 hs1 hs2
        go_region_held3 (fun w' => w'.cell? ⟨w.heap.size, 0, none⟩ = some (.int .i64 p.ag) ∧ w'.cell? ⟨w.heap.size, 1, none⟩ = some (.int .i64 p.aa) ∧ w'.cell? ⟨w.heap.size, 2, none⟩ = some (.int .i64 p.bg) ∧ w'.cell? ⟨w.heap.size, 3, none⟩ = some (.int .i64 p.ba) ∧ w'.cell? ⟨w.heap.size, 7, none⟩ = some (.int .i64 p.birth) ∧ w'.cell? ⟨w.heap.size, 8, none⟩ = some (.int .u64 p.s0) ∧ w'.cell? ⟨w.heap.size, 9, none⟩ = some (.int .u64 p.s1) ∧ w'.cell? ⟨w.heap.size, 10, none⟩ = some (.int .u64 p.s2) ∧ w'.cell? ⟨w.heap.size, 11, none⟩ = some (.int .u64 p.s3)) (first | go_keep | exact HK.out _ hc5 | exact HK.out _ hc3 | exact HK.out _ hcF)
          (first
            | (go_at_call 74; first
                | (refine (HSM.out _ _ (((Below.refl _ _).alloc (Nat.le_refl _) _).drew) (Blk.new w2 _ [.int .i64 p.ag, .int .i64 p.aa, .int .i64 p.bg, .int .i64 p.ba, .int .i64 (p.size + p.level * 256), .int .i64 p.birth]).drew).mono ?_; rintro e w3 ⟨rfl, hb3, hc3⟩)
                | (refine (HSM.out _ _ hcF ((Blk.new w2 _ [.int .i64 p.ag, .int .i64 p.aa, .int .i64 p.bg, .int .i64 p.ba, .int .i64 (p.size + p.level * 256), .int .i64 p.birth]).drew.below hbF)).mono ?_; rintro e w3 ⟨rfl, hb3, hc3⟩)
                | (refine (HSM.out _ _ (hcF.alloc hcF.size _) (Blk.new _ _ [.int .i64 p.ag, .int .i64 p.aa, .int .i64 p.bg, .int .i64 p.ba, .int .i64 (p.size + p.level * 256), .int .i64 p.birth])).mono ?_; rintro e w3 ⟨rfl, hb3, hc3⟩))
            | (go_at_call 75; first
                | (refine (HFL.out _ ((Below.refl _ _).drew)).mono ?_; rintro e wF ⟨rfl, hbF, hcF⟩)
                | (refine (HFL.out _ (((Below.refl _ _).alloc (Nat.le_refl _) _).drew)).mono ?_; rintro e wF ⟨rfl, hbF, hcF⟩)
                | (refine (HFL.out _ hc3).mono ?_; rintro e wF ⟨rfl, hbF, hcF⟩))
            | (go_at_call 55; first
                | (refine (HPD.out _ hc3).mono ?_; rintro e w5 ⟨rfl, hc5⟩)
                | (refine (HPD.out _ hcF).mono ?_; rintro e w5 ⟨rfl, hc5⟩)))
        all_goals
          go_wp2_with fail
          go_ret2
          refine PtrBy.yes HM.out ?_ (HBEL.out.trans ((HBa.out.trans (hc5.mono HBa.out.size)).mono HBEL.out.size))
          rw [← ptrBytes_eq, HL1.out, HL2.out]
          rfl
    · have h2' : (small2 p).all (inB 255) = false := by simpa using h2
      rw [h2']
      have hm : ptrMay p = false := by rw [HM.out, h2']; rfl
      have HM := Lib.hid hm
      clear h2 h2' hm
      go_wp2_with fail
      go_ret2
      exact PtrBy.no HM.out rfl (HBEL.out.trans (HBa.out.mono HBEL.out.size))
  · have h5' : (small5 p).all (inB 4294967295) = false := by simpa using h5
    rw [h5'] at hmay ⊢
    have hm : ptrMay p = false := by rw [hmay]; rfl
    have HM := Lib.hid hm
    clear hmay h5 h5' hm
    go_wp2_with fail
    go_ret2
    exact PtrBy.no HM.out rfl (HBEL.out.trans (HB1.out.mono HBEL.out.size))
end Go.Proofs.YtbhofablndjeoaaDoor
/- The walks of package node. -/
namespace Go.Proofs.YtbhofablndjeoaaDoor
open Go.RowKit
set_option linter.unusedSimpArgs false
set_option linter.unusedVariables false
attribute [local go_sem ↓] wp_loadPt wp_storePt wp_loadA4

/-- a builder in a block of the call's own -/
def Bld (w : World) (b : Nat) (l : Bs) : Prop := Lib.IsBuilderF 92 5 b b (Lib.byteCells l) w
theorem Bld.new (w : World) : Bld (w.alloc (.cells #[.pointer none, .slice none 0 0] 92)) w.heap.size [] := Lib.IsBuilderF.of (Lib.fresh_isBuilder 92 5 w)
theorem Bld.lt {w : World} {b : Nat} {l : Bs} (h : Bld w b l) : b < w.heap.size := by
  rcases h with h | h
  · exact h.lt
  · exact h.lt
/-- a builder stays where nothing of its kinds is written -/
theorem Bld.kept {w w' : World} {b : Nat} {l : Bs} (h : Bld w b l) (hk : ∀ (k : Nat) (cs : Array Value) (e : TypeId) (fr : Nat × Nat), w.heap[k]? = some (.cells cs e fr) → (e = 5 ∨ e = 92) → w'.heap[k]? = w.heap[k]?) : Bld w' b l := by
  have key : ∀ p, Lib.BuilderAtF 92 5 b b p (Lib.byteCells l) w → Lib.BuilderAtF 92 5 b b p (Lib.byteCells l) w' := by
    rintro p ⟨h1, v, h2, h3, h4⟩
    refine ⟨h1, v, ?_, ?_, h4⟩
    · rw [hk _ _ _ _ h2 (.inr rfl)]; exact h2
    · obtain ⟨a1, a2⟩ := h3
      refine ⟨a1, ?_⟩
      rcases a2 with a2 | ⟨g, cap, cur, f, c1, c2, c3, c4⟩
      · exact .inl a2
      · exact .inr ⟨g, cap, cur, f, c1, c2, by rw [hk _ _ _ _ c3 (.inl rfl)]; exact c3, c4⟩
  rcases h with h | h
  · exact .inl (key _ h)
  · exact .inr (key _ h)
theorem Bld.below {w w' : World} {b : Nat} {l : Bs} (h : Bld w b l) (hb : Below w.heap.size w w') : Bld w' b l :=
  h.kept fun k cs e fr hk _ => hb.block k (Array.getElem?_eq_some_iff.1 hk).1
theorem bld_Write (b : Nat) (l s : Bs) (w : World) (h : Bld w b l) (hl : l.length + s.length ≤ 100000000) :
    Calls Tryd.prog 33 #[.pointer (some ⟨b, 0, none⟩), .string ⟨s.toArray⟩] w fun e w' => e = .returned (.tuple #[.int .i64 (s.length : Nat), .nilIface]) ∧ Bld w' b (l ++ s) ∧ Below b w w' ∧ Lib.OthersKept 5 (some b) w w' := by
  have hlt := h.lt
  have hsz : (⟨s.toArray⟩ : ByteArray).size = s.length := by show s.toArray.size = _; simp
  refine (Any.Builder_WriteString_k { Tryd.lays105 with } Tryd.Builder_Extra_105 b b (Lib.byteCells l) ⟨s.toArray⟩ w h (by rw [hsz, Lib.byteCells_length]; omega) (Nat.le_of_lt hlt)).mono ?_
  rintro e w' ⟨rfl, h1, h2, h3⟩
  rw [hsz]
  refine ⟨rfl, .inr ?_, h2, h3⟩
  have e1 : Lib.byteCells l ++ Lib.strCells ⟨s.toArray⟩ = Lib.byteCells (l ++ s) := by simp [Lib.byteCells, Lib.strCells]
  rw [← e1]
  exact h1
theorem bld_String (b : Nat) (l : Bs) (w : World) (h : Bld w b l) : Calls Tryd.prog 34 #[.pointer (some ⟨b, 0, none⟩)] w fun e w' => e = .returned (.string ⟨l.toArray⟩) ∧ Below b w w' ∧ Lib.OthersKept 5 (some b) w w' := by
  refine (Tryd.Builder_String_any_k b b l w h (Nat.le_of_lt h.lt)).mono ?_
  rintro e w' ⟨rfl, _, h2, h3⟩
  exact ⟨rfl, h2, h3⟩
set_option maxRecDepth 100000 in
theorem Data_Text_any (s : Bs) (w : World) (hs : s.length ≤ 1000000) : Calls Tryd.prog 63 #[.agg #[.string ⟨s.toArray⟩]] w fun e w' => e = .returned (.string ⟨(dataText s).toArray⟩) ∧ Below w.heap.size w w' := by
  by_cases hl : s.length ≤ 256
  · have h1 : ¬ (256 : Int) < (s.length : Int) := by omega
    have e : dataText s = padTo s 64 := by unfold dataText; rw [if_pos hl]; rfl
    have E := Lib.hid e
    clear e
    go_enter Tryd.func63, Tryd.ntmps63
    go_wp2_with fail
    refine (le_Pad_any s 64 _ (by omega) (by omega) (by omega)).mono ?_
    rintro e' w1 ⟨rfl, hb⟩
    have hb2 := ((Below.refl _ w).alloc (Nat.le_refl _) (.cells #[.string ⟨s.toArray⟩] 130)).trans (hb.mono (by simp))
    go_wp2_with fail
    go_ret
    exact ⟨by rw [E.out]; rfl, hb2⟩
  · have h1 : (256 : Int) < (s.length : Int) := by omega
    have e : dataText s = [] := by unfold dataText; rw [if_neg hl]
    have E := Lib.hid e
    clear e
    go_enter Tryd.func63, Tryd.ntmps63
    go_wp2_with fail
    go_ret
    exact ⟨by rw [E.out]; rfl, (Below.refl _ w).alloc (Nat.le_refl _) _⟩
theorem Hole_Text_any (w : World) : Calls Tryd.prog 125 #[.agg #[]] w fun e w' => e = .returned (.string ⟨#[]⟩) ∧ Below w.heap.size w w' := by
  go_enter Tryd.func125, Tryd.ntmps125
  go_wp2_with fail
  go_ret
  exact ⟨rfl, (Below.refl _ w).alloc (Nat.le_refl _) _⟩
theorem Level_any (size : Int) (w : World) (hs : I64' size) : Calls Tryd.prog 36 #[.int .i64 size] w fun e w' => e = .returned (.int .i64 (lvl size : Nat)) ∧ w' = w := by
  unfold I64' at hs
  obtain ⟨hs1, hs2⟩ := hs
  go_enter Tryd.func36, Tryd.ntmps36
  go_wp2_with fail
  go_loop [3, 4] (fun lv most => ∃ k m : Nat, lv = .int .i64 k ∧ most = .int .i64 m ∧ Hid ((k = 0 ∧ m = 256) ∨ (k = 1 ∧ m = 1024 ∧ 256 < size) ∨ (k = 2 ∧ m = 4096 ∧ 1024 < size) ∨ (k = 3 ∧ m = 16384 ∧ 4096 < size))) (fun lv _ => 3 - (intOf lv).toNat)
  case atStart => exact ⟨0, 256, rfl, rfl, Lib.hid (.inl ⟨rfl, rfl⟩)⟩
  case round =>
    obtain ⟨k, m, rfl, rfl, HH⟩ := hrel
    rcases HH.out with ⟨rfl, rfl⟩ | ⟨rfl, rfl, hq⟩ | ⟨rfl, rfl, hq⟩ | ⟨rfl, rfl, hq⟩
    · by_cases hx : 256 < size
      · have hd : decide ((256 : Int) < size) = true := by simpa using hx
        go_wp2_with fail
        go_round
        case rel => exact ⟨1, 1024, rfl, rfl, Lib.hid (.inr (.inl ⟨rfl, rfl, hx⟩))⟩
        case measure => simp [intOf]
      · go_wp2_with fail
        go_ret
        exact ⟨by unfold lvl; rw [if_pos (by omega)]; rfl, rfl⟩
    · by_cases hx : 1024 < size
      · go_wp2_with fail
        go_round
        case rel => exact ⟨2, 4096, rfl, rfl, Lib.hid (.inr (.inr (.inl ⟨rfl, rfl, hx⟩)))⟩
        case measure => simp [intOf]
      · go_wp2_with fail
        go_ret
        exact ⟨by unfold lvl; rw [if_neg (by omega), if_pos (by omega)]; rfl, rfl⟩
    · by_cases hx : 4096 < size
      · go_wp2_with fail
        go_round
        case rel => exact ⟨3, 16384, rfl, rfl, Lib.hid (.inr (.inr (.inr ⟨rfl, rfl, hx⟩)))⟩
        case measure => simp [intOf]
      · go_wp2_with fail
        go_ret
        exact ⟨by unfold lvl; rw [if_neg (by omega), if_neg (by omega), if_pos (by omega)]; rfl, rfl⟩
    · by_cases hx : 16384 < size
      · go_wp2_with fail
        go_ret
        exact ⟨by unfold lvl; rw [if_neg (by omega), if_neg (by omega), if_neg (by omega)]; rfl, rfl⟩
      · go_wp2_with fail
        go_ret
        exact ⟨by unfold lvl; rw [if_neg (by omega), if_neg (by omega), if_neg (by omega)]; rfl, rfl⟩
end Go.Proofs.YtbhofablndjeoaaDoor
/- The walks of package node: indexes. -/
namespace Go.Proofs.YtbhofablndjeoaaDoor
open Go.RowKit
set_option linter.unusedSimpArgs false
set_option linter.unusedVariables false
attribute [local go_sem ↓] wp_loadPt wp_storePt wp_loadA4

theorem aggPt (w : World) : (isAgg 35).run Tryd.prog w = .ok true w := by kernel_rfl
theorem sizePt (w : World) : (sizeOf 35).run Tryd.prog w = .ok 12 w := by kernel_rfl
theorem index_A4 (l : List PtrT) (k : Nat) (hk : k < l.length) (h4 : l.length = 4) (W : World) : (Instr.index 108 (.agg (encPs l).toArray) (.int .i64 (k : Nat))).run Tryd.prog W = .ok (.agg (encPtr l[k]).toArray) W := by
  have h := run_index_agg (P := Tryd.prog) (cs := (encPs l).toArray) k Tryd.underlying108 aggPt sizePt (by omega) W
  rw [encPs_ext l k hk] at h
  exact h
def IdxT (l : List PtrT) (w : World) (e : Ending) (w' : World) : Prop := e = .returned (.string ⟨(indexText l).toArray⟩) ∧ Below w.heap.size w w'
set_option maxHeartbeats 2000000 in
set_option maxRecDepth 100000 in
theorem Index_Text_any (l : List PtrT) (hl : l.length = 4) (hwf : ∀ p ∈ l, p.wf) (w : World) : Calls Tryd.prog 62 #[.agg (encPs l).toArray] w (IdxT l w) := by
  obtain ⟨wa, hwa⟩ : ∃ wa, wa = (w.alloc (.cells (encPs l).toArray 110)).alloc (.cells #[.pointer none, .slice none 0 0] 92) := ⟨_, rfl⟩
  have hbk : Blk wa w.heap.size 110 (encPs l) := by rw [hwa]; exact (Blk.new w _ _).alloc _
  have hbel : Below w.heap.size w wa := by rw [hwa]; exact ((Below.refl _ _).alloc (Nat.le_refl _) _).alloc (by simp) _
  have hbl : Bld wa (w.heap.size + 1) [] := by
    rw [hwa]
    have := Bld.new (w.alloc (.cells (encPs l).toArray 110))
    rw [show (w.alloc (.cells (encPs l).toArray 110)).heap.size = w.heap.size + 1 by simp] at this
    exact this
  have hld := fun op a next Q => loadW_blk (P := Tryd.prog) hbk Tryd.underlying108 rfl (by rw [encPs_length, hl]; exact iszA4) op a next Q
  have HBEL := Lib.hid hbel
  have HBL := Lib.hid hbl
  have HL := Lib.hid hl
  clear hbk hbel hbl hl
  go_enter Tryd.func62, Tryd.ntmps62
  go_upto_region 2 with fail
  rw [← hwa]
  clear hwa
  go_wp2_with fail
  clear hld
  go_loopw [10] (fun i wr => ∃ k : Nat, k ≤ 4 ∧ i = .int .i64 k ∧ Hid ((l.take k).all ptrMay = true) ∧ Hid (Bld wr (w.heap.size + 1) ((l.take k).flatMap ptrBytes)) ∧ Hid (Below w.heap.size w wr)) (fun i _ => 4 - (intOf i).toNat)
  case atStart => exact ⟨0, by omega, rfl, Lib.hid rfl, HBL, HBEL⟩
  case round =>
    obtain ⟨k, hk, rfl, HT, HBD, HBR⟩ := hrel
    by_cases hk4 : k < 4
    · have hkl : k < l.length := by rw [HL.out]; exact hk4
      have hix := index_A4 l k hkl HL.out wr
      have hst := store_newPt l[k] wr
      have hpw := hwf l[k] (List.getElem_mem hkl)
      have hb1 := Blk.new wr 35 (encPtr l[k])
      have hld := fun op a next Q => loadW_blk (P := Tryd.prog) hb1 Tryd.underlying35 rfl iszPt op a next Q
      have htk : l.take (k + 1) = l.take k ++ [l[k]] := List.take_succ_eq_append_getElem hkl
      have HTK := Lib.hid htk
      have HALL : Hid (ptrMay l[k] = false → l.all ptrMay = false) := Lib.hid (fun hr => by
        rw [List.all_eq_false]
        exact ⟨l[k], List.getElem_mem hkl, by simp [hr]⟩)
      obtain ⟨p, hp⟩ : ∃ p, p = l[k] := ⟨_, rfl⟩
      rw [← hp] at hix hst hpw hld HTK HALL
      have HB1 : Hid (Below wr.heap.size wr (wr.alloc (.cells (encPtr p).toArray 35))) := Lib.hid ((Below.refl _ _).alloc (Nat.le_refl _) _)
      clear hb1 htk hp
      go_wp2_with fail
      refine (ptr_Bytes_any p hpw _).mono ?_
      rintro e w2 ⟨rfl, hb2⟩
      have HB2 : Hid (Below wr.heap.size wr w2) := Lib.hid (HB1.out.trans (hb2.mono HB1.out.size))
      clear hb2
      by_cases hm : ptrMay p = true
      · rw [if_pos hm, if_pos hm]
        have HM := Lib.hid hm
        clear hm
        have hbd2 := HBD.out.below HB2.out
        have hlen : ((l.take k).flatMap ptrBytes).length = 64 * (l.take k).length := by
          have : ∀ l : List PtrT, (l.flatMap ptrBytes).length = 64 * l.length := fun l => by
            induction l with
            | nil => rfl
            | cons a r ih => rw [List.flatMap_cons, List.length_append, ih, List.length_cons]; simp [ptrBytes, leB_length, zeros]; omega
          exact this _
        have hpl : (ptrBytes p).length = 64 := by simp [ptrBytes, leB_length, zeros]
        have hsum : ((l.take k).flatMap ptrBytes).length + (ptrBytes p).length ≤ 100000000 := by rw [hlen, hpl, List.length_take]; omega
        have HW := Lib.hid (bld_Write (w.heap.size + 1) ((l.take k).flatMap ptrBytes) (ptrBytes p) w2 hbd2 hsum)
        clear hbd2 hlen hpl hsum
        go_wp2_with fail
        refine HW.out.mono ?_
        rintro e w3 ⟨rfl, hbd3, hb3, _⟩
        go_wp2_with fail
        go_roundw
        case rel => exact ⟨k + 1, by omega, by go_num, Lib.hid (by rw [HTK.out, List.all_append, HT.out]; simp [HM.out]), Lib.hid (by rw [HTK.out, List.flatMap_append]; simpa using hbd3), Lib.hid ((HBR.out.trans (HB2.out.mono HBR.out.size)).trans (hb3.mono (by omega)))⟩
        case measure => simp [intOf]; omega
      · rw [if_neg hm, if_neg hm]
        have hm' : ptrMay p = false := by simpa using hm
        have hfin : IdxT l w (.returned (.string ⟨#[]⟩)) w2 := ⟨by unfold indexText; rw [if_neg (by simp [HALL.out hm'])], HBR.out.trans (HB2.out.mono HBR.out.size)⟩
        clear hm hm'
        go_wp2_with fail
        go_ret
        exact hfin
    · obtain rfl : k = 4 := by omega
      have htk : l.take 4 = l := List.take_of_length_le (by rw [HL.out]; omega)
      have hall := HT.out
      have hbd := HBD.out
      rw [htk] at hall hbd
      have HA := Lib.hid hall
      have HS := Lib.hid (bld_String (w.heap.size + 1) (l.flatMap ptrBytes) wr hbd)
      clear htk hall hbd
      go_wp2_with fail
      refine HS.out.mono ?_
      rintro e w2 ⟨rfl, hb2, _⟩
      have hfin : IdxT l w (.returned (.string ⟨(l.flatMap ptrBytes).toArray⟩)) w2 := ⟨by unfold indexText; rw [if_pos HA.out], HBR.out.trans (hb2.mono (by omega))⟩
      go_wp2_with fail
      go_ret
      exact hfin
end Go.Proofs.YtbhofablndjeoaaDoor
/- The walks of package node: reading. -/
namespace Go.Proofs.YtbhofablndjeoaaDoor
open Go.RowKit
set_option linter.unusedSimpArgs false
set_option linter.unusedVariables false
attribute [local go_sem ↓] wp_loadPt wp_storePt wp_loadA4 wp_loadIx

/-- an item as an interface value -/
def encItem : Item → Value
  | .data s => .iface 130 (.agg #[.string ⟨s.toArray⟩])
  | .index l => .iface 110 (.agg (encPs l).toArray)
  | .hole => .iface 83 (.agg #[])
/-- the pointers of an index's text, the first k; none behind them -/
def idxTo (s : Bs) (k : Nat) : List PtrT := (List.range 4).map fun i => if i < k then ptrOf (sub s (64 * i) 64) else pD
theorem idxTo_len (s : Bs) (k : Nat) : (idxTo s k).length = 4 := by simp [idxTo]
theorem idxTo_set (s : Bs) (k : Nat) (hk : k < 4) : (idxTo s k).set k (ptrOf (sub s (64 * k) 64)) = idxTo s (k + 1) := by
  match k, hk with
  | 0, _ => rfl
  | 1, _ => rfl
  | 2, _ => rfl
  | 3, _ => rfl
theorem idxTo_all (s : Bs) : idxTo s 4 = indexOf s := rfl
theorem sub_mid (s : Bs) (k n : Nat) : (s.take ((k + 1) * n)).drop (k * n) = sub s (n * k) n := by
  unfold sub
  rw [List.drop_take, Nat.mul_comm n k, Nat.succ_mul, Nat.add_sub_cancel_left]
theorem upto_succ {q : Nat → Prop} {k : Nat} (h : ∀ j, j < k → q j) (hk : q k) : ∀ j, j < k + 1 → q j := by
  intro j hj
  by_cases e : j = k
  · rw [e]; exact hk
  · exact h j (by omega)
def IdxR (s : Bs) (w : World) (e : Ending) (w' : World) : Prop := e = .returned (.tuple #[if indexFits s then encItem (.index (indexOf s)) else .nilIface, .int .i64 (if indexFits s then 0 else 3)]) ∧ Below w.heap.size w w'
theorem IdxR.no {s : Bs} {w w' : World} (k : Nat) (hk : k < 4) (h : ptrFits (sub s (64 * k) 64) = false) (hb : Below w.heap.size w w') : IdxR s w (.returned (.tuple #[.nilIface, .int .i64 3])) w' := by
  have : indexFits s = false := by
    unfold indexFits
    match k, hk with
    | 0, _ => simp at h; simp [h]
    | 1, _ => simp at h; simp [h]
    | 2, _ => simp at h; simp [h]
    | 3, _ => simp at h; simp [h]
  unfold IdxR
  rw [if_neg (by simp [this]), if_neg (by simp [this])]
  exact ⟨rfl, hb⟩
set_option maxHeartbeats 2000000 in
set_option maxRecDepth 100000 in
theorem node_index_any (s : Bs) (hs : s.length = 256) (w : World) : Calls Tryd.prog 85 #[.string ⟨s.toArray⟩] w (IdxR s w) := by
  obtain ⟨wa, hwa⟩ : ∃ wa, wa = w.alloc (.cells (encPs zs4).toArray 110) := ⟨_, rfl⟩
  have hbk : Blk wa w.heap.size 110 (encPs (idxTo s 0)) := by rw [hwa]; exact Blk.new w _ (encPs zs4)
  have hbel : Below w.heap.size w wa := by rw [hwa]; exact (Below.refl _ _).alloc (Nat.le_refl _) _
  have HBK := Lib.hid hbk
  have HBEL := Lib.hid hbel
  have HS := Lib.hid hs
  clear hbk hbel hs
  go_enter Tryd.func85, Tryd.ntmps85
  go_upto_region 2 with fail
  have e0 : (w.alloc (.cells #[.int .i64 0, .int .i64 0, .int .i64 0, .int .i64 0, .bool false, .int .i64 0, .int .i64 0, .int .i64 0, .int .u64 0, .int .u64 0, .int .u64 0, .int .u64 0, .int .i64 0, .int .i64 0, .int .i64 0, .int .i64 0, .bool false, .int .i64 0, .int .i64 0, .int .i64 0, .int .u64 0, .int .u64 0, .int .u64 0, .int .u64 0, .int .i64 0, .int .i64 0, .int .i64 0, .int .i64 0, .bool false, .int .i64 0, .int .i64 0, .int .i64 0, .int .u64 0, .int .u64 0, .int .u64 0, .int .u64 0, .int .i64 0, .int .i64 0, .int .i64 0, .int .i64 0, .bool false, .int .i64 0, .int .i64 0, .int .i64 0, .int .u64 0, .int .u64 0, .int .u64 0, .int .u64 0] 110)) = wa := hwa.symm
  rw [e0]
  clear e0 hwa
  go_wp2_with fail
  go_loopw [8] (fun i wr => ∃ k : Nat, k ≤ 4 ∧ i = .int .i64 k ∧ Hid (∀ j, j < k → ptrFits (sub s (64 * j) 64) = true) ∧ Hid (Blk wr w.heap.size 110 (encPs (idxTo s k))) ∧ Hid (Below w.heap.size w wr)) (fun i _ => 4 - (intOf i).toNat)
  case atStart => exact ⟨0, by omega, rfl, Lib.hid (by intro j hj; omega), HBK, HBEL⟩
  case round =>
    obtain ⟨k, hk, rfl, HT, HBD, HBR⟩ := hrel
    by_cases hk4 : k < 4
    · have hsl : 64 * k + 64 ≤ s.length := by rw [HS.out]; omega
      have b1 : ((k : Int) * 64) ≤ s.length := by omega
      go_wp2_with fail
      rw [str_extract, sub_mid s k 64]
      refine (ptr_Read_any (sub s (64 * k) 64) wr (sub_length s (64 * k) 64 hsl)).mono ?_
      rintro e w2 ⟨rfl, hb2⟩
      have HB2 := Lib.hid hb2
      clear hb2
      by_cases hf : ptrFits (sub s (64 * k) 64) = true
      · rw [if_pos hf, if_pos hf]
        obtain ⟨p, hp⟩ : ∃ p, p = ptrOf (sub s (64 * k) 64) := ⟨_, rfl⟩
        rw [← hp]
        have hst := store_newPt p w2
        have hb1 := Blk.new w2 35 (encPtr p)
        have hld := fun op a next Q => loadW_blk (P := Tryd.prog) hb1 Tryd.underlying35 rfl iszPt op a next Q
        have HB1 : Hid (Below w2.heap.size w2 (w2.alloc (.cells (encPtr p).toArray 35))) := Lib.hid ((Below.refl _ _).alloc (Nat.le_refl _) _)
        have HB3 := Lib.hid (HB2.out.trans (HB1.out.mono HB2.out.size))
        have hbd := HBD.out.below HB3.out
        have hst2 := fun op a next Q => storeW_part (P := Tryd.prog) (t := 35) (o := k * 12) (cs := encPtr p) hbd (by rw [encPs_length, idxTo_len]; show k * 12 + 12 ≤ 48; omega) iszPt (encPtr_ones p) op a next Q
        have hbd2 := hbd.setCells (encPtr p) (k * 12) (by rw [encPs_length, idxTo_len]; show k * 12 + 12 ≤ 48; omega)
        rw [show k * 12 + (encPtr p).length = k * 12 + 12 from rfl, encPs_setCells _ k p (by rw [idxTo_len]; exact hk4), hp, idxTo_set s k hk4, ← hp] at hbd2
        have HBD2 := Lib.hid hbd2
        have HF := Lib.hid hf
        clear hb1 hp hbd hbd2 hf
        go_wp2_with fail
        go_roundw
        case rel => exact ⟨k + 1, by omega, by go_num, Lib.hid (upto_succ HT.out HF.out), HBD2, Lib.hid (below_put (HBR.out.trans (HB3.out.mono HBR.out.size)) (by have := HBR.out.size; have := HB3.out.size; omega) (Nat.le_refl _))⟩
        case measure => simp [intOf]; omega
      · rw [if_neg hf, if_neg hf]
        have hf' : ptrFits (sub s (64 * k) 64) = false := by simpa using hf
        have HN := Lib.hid (fun w' hb => IdxR.no (w := w) (w' := w') k hk4 hf' hb)
        have hst := store_newPt pD w2
        have HB3 : Hid (Below w.heap.size w (w2.alloc (.cells (encPtr pD).toArray 35))) := Lib.hid ((HBR.out.trans (HB2.out.mono HBR.out.size)).alloc (by have := HBR.out.size; have := HB2.out.size; omega) _)
        clear hf hf'
        go_wp2_with fail
        go_ret2
        exact HN.out _ HB3.out
    · obtain rfl : k = 4 := by omega
      have hfit : indexFits s = true := by
        have h0 := HT.out 0 (by omega)
        have h1 := HT.out 1 (by omega)
        have h2 := HT.out 2 (by omega)
        have h3 := HT.out 3 (by omega)
        unfold indexFits
        simp at h0 h1 h2 h3
        simp [h0, h1, h2, h3]
      have hld := fun op a next Q => loadW_blk (P := Tryd.prog) (t := 110) HBD.out Tryd.underlying110 rfl (by rw [encPs_length, idxTo_len]; exact iszIx) op a next Q
      have HFIT := Lib.hid hfit
      clear hfit
      go_wp2_with fail
      go_ret2
      unfold IdxR
      rw [if_pos HFIT.out, if_pos HFIT.out]
      exact ⟨rfl, HBR.out⟩
def NodeR (s : Bs) (level : Int) (w : World) (e : Ending) (w' : World) : Prop :=
  e = .returned (.tuple #[match nodeRead s level with | .ok x => encItem x | .error _ => .nilIface, .int .i64 (match nodeRead s level with | .ok _ => 0 | .error n => (n : Nat))]) ∧ Below w.heap.size w w'
theorem NodeR.ok {s : Bs} {level : Int} {w w' : World} {x : Item} (h : nodeRead s level = .ok x) (hb : Below w.heap.size w w') : NodeR s level w (.returned (.tuple #[encItem x, .int .i64 0])) w' := by
  unfold NodeR; rw [h]; exact ⟨rfl, hb⟩
theorem NodeR.err {s : Bs} {level : Int} {w w' : World} {n : Nat} (h : nodeRead s level = .error n) (hb : Below w.heap.size w w') : NodeR s level w (.returned (.tuple #[.nilIface, .int .i64 (n : Nat)])) w' := by
  unfold NodeR; rw [h]; exact ⟨rfl, hb⟩
set_option maxHeartbeats 2000000 in
set_option maxRecDepth 100000 in
theorem node_Read_any (s : Bs) (level : Int) (hs : s.length ≤ 1000000000) (w : World) : Calls Tryd.prog 61 #[.string ⟨s.toArray⟩, .int .i64 level] w (NodeR s level w) := by
  by_cases hl : levelOk level = true
  · have hl' : 0 ≤ level ∧ level ≤ 3 := by simpa [levelOk] using hl
    obtain ⟨l0, l3⟩ := hl'
    have l0' : ¬ level < 0 := by omega
    have l3' : ¬ 3 < level := by omega
    by_cases ht : textOk s level = true
    · have ht' := ht
      simp only [textOk, Bool.and_eq_true, decide_eq_true_eq, Bool.or_eq_true] at ht'
      obtain ⟨⟨⟨t0, t1⟩, t2⟩, t3⟩ := ht'
      have q0 : (⟨s.toArray⟩ : ByteArray).data.toList = s := rfl
      have qs : s.isEmpty = false := by cases s <;> simp_all
      have q1 : ((s.length : Int) % 64 != 0) = false := by simp; omega
      have q2 : ¬ (256 : Int) < (s.length : Int) := by omega
      by_cases hp : 0 < level
      · have q3 : ((s.length : Int) != 256) = false := by
          have := t3.resolve_left (by omega)
          simp [this]
        have HI := Lib.hid (node_index_any s (t3.resolve_left (by omega)) w)
        have hnr : nodeRead s level = if indexFits s then .ok (.index (indexOf s)) else .error 3 := by
          unfold nodeRead
          rw [if_pos hl, if_pos ht, if_pos hp]
        have HNR := Lib.hid hnr
        clear hnr ht hl t1 t3
        go_enter Tryd.func61, Tryd.ntmps61
        go_wp2_with fail
        refine HI.out.mono ?_
        rintro e w' ⟨rfl, hb⟩
        by_cases hf : indexFits s = true
        · rw [if_pos hf, if_pos hf]
          have hfin : NodeR s level w (.returned (.tuple #[encItem (.index (indexOf s)), .int .i64 0])) w' := NodeR.ok (by rw [HNR.out, if_pos hf]) hb
          clear hf hb
          go_wp2_with fail
          go_ret2
          exact hfin
        · rw [if_neg hf, if_neg hf]
          have hfin : NodeR s level w (.returned (.tuple #[.nilIface, .int .i64 3])) w' := NodeR.err (n := 3) (by rw [HNR.out, if_neg hf]) hb
          clear hf hb
          go_wp2_with fail
          go_ret2
          exact hfin
      · have hfin : NodeR s level w (.returned (.tuple #[encItem (.data s), .int .i64 0])) w := NodeR.ok (by
          unfold nodeRead
          rw [if_pos hl, if_pos ht, if_neg hp]) (Below.refl _ _)
        have HF := Lib.hid hfin
        clear ht hl t1 t3 hfin
        go_enter Tryd.func61, Tryd.ntmps61
        go_wp2_with fail
        go_ret2
        exact HF.out
    · have hfin : NodeR s level w (.returned (.tuple #[.nilIface, .int .i64 3])) w := NodeR.err (n := 3) (by
        unfold nodeRead
        rw [if_pos hl, if_neg ht]) (Below.refl _ _)
      have HF := Lib.hid hfin
      have ht' : ¬ (0 < s.length ∧ s.length % 64 = 0 ∧ s.length ≤ 256 ∧ (level ≤ 0 ∨ s.length = 256)) := by
        intro h
        apply ht
        simp [textOk, h.1, h.2.1, h.2.2.1, h.2.2.2]
      clear ht hl hfin
      by_cases c0 : s = []
      · have qs : s.isEmpty = true := by simp [c0]
        have QS := Lib.hid c0
        clear c0 ht'
        go_enter Tryd.func61, Tryd.ntmps61
        go_wp2_with fail
        go_ret2
        exact HF.out
      · have qs : s.isEmpty = false := by cases s <;> simp_all
        have hp0 : 0 < s.length := List.length_pos_iff.2 c0
        clear c0
        by_cases c1 : s.length % 64 = 0
        · have q1 : ((s.length : Int) % 64 != 0) = false := by simp; omega
          by_cases c2 : s.length ≤ 256
          · have q2 : ¬ (256 : Int) < (s.length : Int) := by omega
            have hp : 0 < level := by omega
            have q3 : ((s.length : Int) != 256) = true := by simp; omega
            clear ht' c1
            go_enter Tryd.func61, Tryd.ntmps61
            go_wp2_with fail
            go_ret2
            exact HF.out
          · have q2 : (256 : Int) < (s.length : Int) := by omega
            clear ht' c1
            go_enter Tryd.func61, Tryd.ntmps61
            go_wp2_with fail
            go_ret2
            exact HF.out
        · have q1 : ((s.length : Int) % 64 != 0) = true := by simp; omega
          clear ht' c1
          go_enter Tryd.func61, Tryd.ntmps61
          go_wp2_with fail
          go_ret2
          exact HF.out
  · have hfin : NodeR s level w (.returned (.tuple #[.nilIface, .int .i64 1])) w := NodeR.err (n := 1) (by
      unfold nodeRead
      rw [if_neg hl]) (Below.refl _ _)
    have HF := Lib.hid hfin
    have hl' : ¬ (0 ≤ level ∧ level ≤ 3) := by
      intro h
      apply hl
      simp [levelOk, h.1, h.2]
    clear hl hfin
    by_cases c0 : level < 0
    · go_enter Tryd.func61, Tryd.ntmps61
      go_wp2_with fail
      go_ret2
      exact HF.out
    · have c1 : 3 < level := by omega
      go_enter Tryd.func61, Tryd.ntmps61
      go_wp2_with fail
      go_ret2
      exact HF.out
end Go.Proofs.YtbhofablndjeoaaDoor
