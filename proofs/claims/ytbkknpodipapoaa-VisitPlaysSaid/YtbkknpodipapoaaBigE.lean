/- Comparisons of pointers and of marks, kept whole in a walk. -/
import Derived.Test.YtbkknpodipapoaaVsG
import Derived.Laws.StructEq
import Derived.ChangeKeysEq
namespace Go.Proofs.Ytbkknpodipapoaa
open Go.RowKit
set_option linter.unusedSimpArgs false

/-- a comparison, kept whole -/
def BinQ (P : Program) (C : World → Prop) (op : BinOp) (t : TypeId) (x y : Operand) (u1 u2 : Value) (w : World) (v : Value) : Prop :=
  Oper.quietUpon P C w v ((do let r ← (do eqGuard op t x y u1 u2; binOp op t u1 u2); pure (Next.value r) : Sem Next).run P w)
def BinW (P : Program) (o : Oper) (op : BinOp) (t : TypeId) (x y : Operand) (u1 u2 : Value) (a : Act) (w : World) (next : Act → World → Prop) (Q : Exit → Act → World → Prop) : Prop :=
  o.upon P a next Q ((do let r ← (do eqGuard op t x y u1 u2; binOp op t u1 u2); pure (Next.value r) : Sem Next).run P w)
theorem quiet_binP {C : World → Prop} {dst : Option Tmp} {op : BinOp} {x y : Operand} {t' ty : TypeId} {pos : String} {after : Array Edge} {guard : Option (Nat × Bool)} {a : Act} {w : World} {v : Value} :
    Oper.quietAt Try.prog ⟨dst, .binOp op 30 x y t', ty, pos, after, guard⟩ a C w v = BinQ Try.prog C op 30 x y (a.eval x) (a.eval y) w v := rfl
theorem quiet_binM {C : World → Prop} {dst : Option Tmp} {op : BinOp} {x y : Operand} {t' ty : TypeId} {pos : String} {after : Array Edge} {guard : Option (Nat × Bool)} {a : Act} {w : World} {v : Value} :
    Oper.quietAt Try.prog ⟨dst, .binOp op 34 x y t', ty, pos, after, guard⟩ a C w v = BinQ Try.prog C op 34 x y (a.eval x) (a.eval y) w v := rfl
theorem wp_binP {dst : Option Tmp} {op : BinOp} {x y : Operand} {t' ty : TypeId} {pos : String} {after : Array Edge} {guard : Option (Nat × Bool)} {a : Act} {w : World} {next : Act → World → Prop} {Q : Exit → Act → World → Prop} :
    Oper.wp Try.prog ⟨dst, .binOp op 30 x y t', ty, pos, after, guard⟩ a w next Q = BinW Try.prog ⟨dst, .binOp op 30 x y t', ty, pos, after, guard⟩ op 30 x y (a.eval x) (a.eval y) a w next Q := rfl
theorem infoU64 : (Try.prog.info? 26).isSome = true := by kernel_rfl
theorem run_eq_sum (a0 a1 a2 a3 b0 b1 b2 b3 : Int) (W : World) : (Op.equalIn 9999 28 (.agg #[.int .u64 a0, .int .u64 a1, .int .u64 a2, .int .u64 a3]) (.agg #[.int .u64 b0, .int .u64 b1, .int .u64 b2, .int .u64 b3])).run Try.prog W = .ok (decide (a0 = b0 ∧ a1 = b1 ∧ a2 = b2 ∧ a3 = b3)) W := by
  obtain ⟨i, hi⟩ := Option.isSome_iff_exists.1 infoU64
  have hc : Try.prog.cellsOf 26 = 1 := by kernel_rfl
  rw [show (9999 : Nat) = 9998 + 1 from rfl, run_equalIn_array (w := W) 9998 _ _ Try.underlying28 hi, hc]
  by_cases h0 : a0 = b0
  · by_cases h1 : a1 = b1
    · by_cases h2 : a2 = b2
      · by_cases h3 : a3 = b3
        · subst h0 h1 h2 h3
          simp [Op.eqItems, List.range, List.range.loop, go_sem]
        · have e : (a3 == b3) = false := by simpa using h3
          subst h0 h1 h2
          simp [Op.eqItems, List.range, List.range.loop, go_sem, e, h3]
      · have e : (a2 == b2) = false := by simpa using h2
        subst h0 h1
        simp [Op.eqItems, List.range, List.range.loop, go_sem, e, h2]
    · have e : (a1 == b1) = false := by simpa using h1
      subst h0
      simp [Op.eqItems, List.range, List.range.loop, go_sem, e, h1]
  · have e : (a0 == b0) = false := by simpa using h0
    simp [Op.eqItems, List.range, List.range.loop, go_sem, e, h0]
theorem run_neq_ptr (p q : PtrT) (x y : Operand) (W : World) : (do eqGuard .neq 30 x y (.agg (encPtr p).toArray) (.agg (encPtr q).toArray); binOp .neq 30 (.agg (encPtr p).toArray) (.agg (encPtr q).toArray) : Sem Value).run Try.prog W = .ok (.bool (!decide (p = q))) W := by
  obtain ⟨p0, p1, p2, p3, p4, p5, p6, p7, p8, p9, p10, p11⟩ := p
  obtain ⟨q0, q1, q2, q3, q4, q5, q6, q7, q8, q9, q10, q11⟩ := q
  simp only [PtrT.mk.injEq, encPtr]
  by_cases h0 : p0 = q0
  · by_cases h1 : p1 = q1
    · by_cases h2 : p2 = q2
      · by_cases h3 : p3 = q3
        · by_cases h4 : p4 = q4
          · by_cases h5 : p5 = q5
            · by_cases h6 : p6 = q6
              · by_cases h7 : p7 = q7
                · by_cases h8 : p8 = q8 ∧ p9 = q9 ∧ p10 = q10 ∧ p11 = q11
                  · obtain ⟨rfl, rfl, rfl, rfl⟩ := h8
                    have hs := run_eq_sum p8 p9 p10 p11 p8 p9 p10 p11 W
                    rw [decide_eq_true (⟨rfl, rfl, rfl, rfl⟩ : p8 = p8 ∧ p9 = p9 ∧ p10 = p10 ∧ p11 = p11)] at hs
                    subst h0 h1 h2 h3 h4 h5 h6 h7
                    go_simp
                  · have hs := run_eq_sum p8 p9 p10 p11 q8 q9 q10 q11 W
                    rw [decide_eq_false h8] at hs
                    subst h0 h1 h2 h3 h4 h5 h6 h7
                    go_simp
                    try simp [h8]
                · have e : (p7 == q7) = false := by simpa using h7
                  subst h0 h1 h2 h3 h4 h5 h6
                  go_simp
              · have e : (p6 == q6) = false := by simpa using h6
                subst h0 h1 h2 h3 h4 h5
                go_simp
            · have e : (p5 == q5) = false := by simpa using h5
              subst h0 h1 h2 h3 h4
              go_simp
          · have e : (p4 == q4) = false := by simpa using h4
            subst h0 h1 h2 h3
            go_simp
        · have e : (p3 == q3) = false := by simpa using h3
          subst h0 h1 h2
          go_simp
      · have e : (p2 == q2) = false := by simpa using h2
        subst h0 h1
        go_simp
    · have e : (p1 == q1) = false := by simpa using h1
      subst h0
      go_simp
  · have e : (p0 == q0) = false := by simpa using h0
    go_simp
theorem run_cmp_mark (m n : MarkT) (x y : Operand) (W : World) :
    (do eqGuard .eql 34 x y (.agg (encM m).toArray) (.agg (encM n).toArray); binOp .eql 34 (.agg (encM m).toArray) (.agg (encM n).toArray) : Sem Value).run Try.prog W = .ok (.bool (decide (m = n))) W ∧
    (do eqGuard .neq 34 x y (.agg (encM m).toArray) (.agg (encM n).toArray); binOp .neq 34 (.agg (encM m).toArray) (.agg (encM n).toArray) : Sem Value).run Try.prog W = .ok (.bool (!decide (m = n))) W := by
  obtain ⟨xb, xg, xa⟩ := m
  obtain ⟨yb, yg, ya⟩ := n
  simp only [MarkT.mk.injEq, encM]
  by_cases h1 : xb = yb
  · by_cases h2 : xg = yg
    · by_cases h3 : xa = ya
      · subst h1 h2 h3
        constructor <;> go_simp
      · have e3 : (xa == ya) = false := by simpa using h3
        constructor <;> go_simp
    · have e3 : (xg == yg) = false := by simpa using h2
      constructor <;> go_simp
  · have e3 : (xb == yb) = false := by simpa using h1
    constructor <;> go_simp
theorem binQ_neqP (p q : PtrT) (C : World → Prop) (x y : Operand) (W : World) (v : Value) : BinQ Try.prog C .neq 30 x y (.agg (encPtr p).toArray) (.agg (encPtr q).toArray) W v = (Value.bool (!decide (p = q)) = v) := by
  unfold BinQ
  rw [Sem.run_bind, run_neq_ptr]
  show (W = W ∧ _) = _
  simp
theorem binW_neqP (p q : PtrT) (o : Oper) (x y : Operand) (a : Act) (W : World) (next : Act → World → Prop) (Q : Exit → Act → World → Prop) : BinW Try.prog o .neq 30 x y (.agg (encPtr p).toArray) (.agg (encPtr q).toArray) a W next Q = next (a.put o.dst (.bool (!decide (p = q)))) W := by
  unfold BinW
  rw [Sem.run_bind, run_neq_ptr]
  rfl
theorem binQ_neqM (m n : MarkT) (C : World → Prop) (x y : Operand) (W : World) (v : Value) : BinQ Try.prog C .neq 34 x y (.agg (encM m).toArray) (.agg (encM n).toArray) W v = (Value.bool (!decide (m = n)) = v) := by
  unfold BinQ
  rw [Sem.run_bind, (run_cmp_mark m n x y W).2]
  show (W = W ∧ _) = _
  simp
end Go.Proofs.Ytbkknpodipapoaa
