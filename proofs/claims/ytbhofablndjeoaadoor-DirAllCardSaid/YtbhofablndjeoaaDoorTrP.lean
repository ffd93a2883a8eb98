/- Trees of blocks as functions over any store. -/
import Derived.Test.YtbhofablndjeoaaDoorPtT
namespace Go.Proofs.YtbhofablndjeoaaDoor
open Go.RowKit

abbrev Bs := List UInt8
def zeros (n : Nat) : Bs := List.replicate n 0
/-- the k lowest bytes of a number -/
def leB : Nat → Nat → Bs
  | 0, _ => []
  | k + 1, n => UInt8.ofNat n :: leB k (n / 256)
/-- the number that bytes are -/
def leN : Bs → Nat
  | [] => 0
  | b :: r => b.toNat + 256 * leN r
def U32' (x : Int) : Bool := decide (0 ≤ x) && decide (x ≤ 4294967295)
def U64' (x : Int) : Prop := 0 ≤ x ∧ x < 18446744073709551616
/-- may a pointer be laid into bytes? -/
def ptrMay (p : PtrT) : Bool := U32' p.ag && U32' p.aa && U32' p.bg && U32' p.ba && U32' p.birth && (decide (0 ≤ p.size) && decide (p.size ≤ 255)) && (decide (0 ≤ p.level) && decide (p.level ≤ 255))
def ptrOne (p : PtrT) : Nat := (p.size + p.level * 256 + if p.two then 65536 else 0).toNat
def ptrBytes (p : PtrT) : Bs :=
  leB 4 p.ag.toNat ++ leB 4 p.aa.toNat ++ leB 4 p.bg.toNat ++ leB 4 p.ba.toNat ++ leB 4 (ptrOne p) ++ leB 4 p.birth.toNat ++ leB 8 p.s0.toNat ++ leB 8 p.s1.toNat ++ leB 8 p.s2.toNat ++ leB 8 p.s3.toNat ++ zeros 8
/-- n bytes from a place on -/
def sub (s : Bs) (o n : Nat) : Bs := (s.drop o).take n
def w4 (s : Bs) (i : Nat) : Nat := leN (sub s (4 * i) 4)
def w8 (s : Bs) (i : Nat) : Nat := leN (sub s (24 + 8 * i) 8)
def ptrOf (s : Bs) : PtrT :=
  ⟨w4 s 0, w4 s 1, w4 s 2, w4 s 3, decide (0 < w4 s 4 / 65536), (w4 s 4 % 256 : Nat), (w4 s 4 / 256 % 256 : Nat), w4 s 5, w8 s 0, w8 s 1, w8 s 2, w8 s 3⟩
/-- is that the text of a pointer (of 64 bytes)? -/
def ptrFits (s : Bs) : Bool := decide (w4 s 4 ≤ 131071) && decide ((s.drop 56).all (· == 0))
structure PtrT.wf (p : PtrT) : Prop where
  ok : p.ok
  s0 : U64' p.s0
  s1 : U64' p.s1
  s2 : U64' p.s2
  s3 : U64' p.s3

def isNone (p : PtrT) : Bool := decide (p = pD)
inductive Item where
  | data (s : Bs)
  | index (l : List PtrT)
  | hole
  deriving Inhabited, DecidableEq
structure NodeT where
  size : Int
  root : PtrT
  deriving DecidableEq
def nD : NodeT := ⟨0, pD⟩
def zs4 : List PtrT := [pD, pD, pD, pD]

/-- a computation on a store, that may fail -/
def M (σ α : Type) := σ → Except Nat α × σ
/-- a store: what it answers, and what it is then -/
structure StF (σ : Type) where
  get : PtrT → M σ Bs
  put : Bs → Nat → M σ PtrT
section
variable {σ α β : Type}
def M.ret (a : α) : M σ α := fun s => (.ok a, s)
def M.err (n : Nat) : M σ α := fun s => (.error n, s)
def M.bind (x : M σ α) (f : α → M σ β) : M σ β := fun s =>
  match x s with
  | (.ok a, s') => f a s'
  | (.error e, s') => (.error e, s')
theorem M.bind_ok {x : M σ α} {f : α → M σ β} {s s' : σ} {a : α} (h : x s = (.ok a, s')) : M.bind x f s = f a s' := by unfold M.bind; rw [h]
theorem M.bind_err {x : M σ α} {f : α → M σ β} {s s' : σ} {e : Nat} (h : x s = (.error e, s')) : M.bind x f s = (.error e, s') := by unfold M.bind; rw [h]
theorem M.bind_cases {x : M σ α} {f : α → M σ β} {s : σ} {r : Except Nat β × σ} (h : M.bind x f s = r) : (∃ a s', x s = (.ok a, s') ∧ f a s' = r) ∨ ∃ e s', x s = (.error e, s') ∧ r = (.error e, s') := by
  unfold M.bind at h
  rcases hx : x s with ⟨a | a, s'⟩ <;> rw [hx] at h
  · exact .inr ⟨a, s', rfl, h.symm⟩
  · exact .inl ⟨a, s', rfl, h⟩
end

def indexOf (s : Bs) : List PtrT := [ptrOf (sub s 0 64), ptrOf (sub s 64 64), ptrOf (sub s 128 64), ptrOf (sub s 192 64)]
def indexFits (s : Bs) : Bool := ptrFits (sub s 0 64) && ptrFits (sub s 64 64) && ptrFits (sub s 128 64) && ptrFits (sub s 192 64)
def levelOk (level : Int) : Bool := decide (0 ≤ level) && decide (level ≤ 3)
def textOk (s : Bs) (level : Int) : Bool := decide (0 < s.length) && decide (s.length % 64 = 0) && decide (s.length ≤ 256) && (decide (level ≤ 0) || decide (s.length = 256))
/-- a block's item -/
def nodeRead (s : Bs) (level : Int) : Except Nat Item :=
  if levelOk level then
    if textOk s level then
      if 0 < level then (if indexFits s then .ok (.index (indexOf s)) else .error 3) else .ok (.data s)
    else .error 3
  else .error 1
def pad64 (s : Bs) : Bs := s ++ zeros ((64 - s.length % 64) % 64)
def dataText (s : Bs) : Bs := if s.length ≤ 256 then pad64 s else []
def indexText (l : List PtrT) : Bs := if l.all ptrMay then l.flatMap ptrBytes else []
def itemText : Item → Bs
  | .data s => dataText s
  | .index l => indexText l
  | .hole => []
def lvl (size : Int) : Nat := if size ≤ 256 then 0 else if size ≤ 1024 then 1 else if size ≤ 4096 then 2 else 3

section
variable {σ : Type} (S : StF σ)
def itemM (p : PtrT) : M σ Item := if isNone p then M.ret .hole else M.bind (S.get p) fun t s => (nodeRead t p.level, s)
def linksOf : Item → Except Nat (List PtrT)
  | .index l => .ok l
  | .hole => .ok zs4
  | .data _ => .error 3
def linksM (p : PtrT) : M σ (List PtrT) := M.bind (itemM S p) fun x s => (linksOf x, s)
def leafM : Nat → PtrT → Nat → M σ PtrT
  | 0, p, _ => M.ret p
  | k + 1, p, i => if isNone p then M.ret p else M.bind (linksM S p) fun l => leafM k (l.getD (i / 4 ^ k) pD) (i % 4 ^ k)
def noIndex : Item → Except Nat Item
  | .index _ => .error 3
  | x => .ok x
def blockM (n : NodeT) (i : Nat) : M σ Item :=
  if i < 64 then
    if lvl n.size < 3 ∧ 4 ^ lvl n.size ≤ i then M.ret .hole
    else M.bind (leafM S (lvl n.size) n.root i) fun p => M.bind (itemM S p) fun x s => (noIndex x, s)
  else M.err 1
def bytesM (n : NodeT) (i : Nat) : M σ Bs := M.bind (blockM S n i) fun x => M.ret (itemText x ++ zeros (256 - (itemText x).length))
/-- bytes of block i that lie in [off, till) -/
def piece (s : Bs) (off till i : Nat) : Bs := (s.take (min (till - i * 256) 256)).drop (off - i * 256)
def readTo (n : NodeT) (off till : Nat) : Nat → Nat → Bs → M σ Bs
  | 0, _, out => M.ret out
  | f + 1, i, out => if i * 256 < till then M.bind (bytesM S n i) fun s => readTo n off till f (i + 1) (out ++ piece s off till i) else M.ret out
def readM (n : NodeT) (off size : Int) : M σ Bs :=
  if off < 0 ∨ size < 0 then M.err 1
  else if n.size ≤ off then M.ret []
  else readTo S n off.toNat (off + min size (n.size - off)).toNat 66 (off.toNat / 256) []
def putM (l : List PtrT) (level : Nat) : M σ PtrT := if l = zs4 then M.ret pD else S.put (indexText l) level
def setM : Nat → PtrT → Nat → Bs → M σ PtrT
  | 0, _, _, s => if s = [] then M.ret pD else S.put (dataText s) 0
  | k + 1, p, i, s => M.bind (linksM S p) fun l => M.bind (setM k (l.getD (i / 4 ^ k) pD) (i % 4 ^ k) s) fun q => putM S (l.set (i / 4 ^ k) q) (k + 1)
def grownTo : Nat → Nat → PtrT → M σ PtrT
  | 0, _, r => M.ret r
  | k + 1, lv, r => if isNone r then M.ret r else M.bind (putM S [r, pD, pD, pD] (lv + 1)) fun p => grownTo k (lv + 1) p
def grownM (n : NodeT) (size : Int) : M σ NodeT := M.bind (grownTo S (lvl size - lvl n.size) (lvl n.size) n.root) fun r => M.ret ⟨max n.size size, r⟩
/-- a text with bytes written over it from a place on -/
def over (old : Bs) (frm : Nat) (s : Bs) : Bs :=
  (old ++ zeros (frm - old.length)).take frm ++ s ++ (old ++ zeros (frm - old.length)).drop (frm + s.length)
def laidM (n : NodeT) (i frm : Nat) (s : Bs) : M σ NodeT :=
  M.bind (blockM S n i) fun x => M.bind (setM S (lvl n.size) n.root i (over (itemText x) frm s)) fun r => M.ret ⟨n.size, r⟩
def writeTo : Nat → NodeT → Nat → Bs → M σ NodeT
  | 0, n, _, _ => M.ret n
  | f + 1, n, off, s => if s = [] then M.ret n else
      M.bind (laidM S n (off / 256) (off % 256) (s.take (min s.length (256 - off % 256)))) fun n' =>
        writeTo f n' (off + min s.length (256 - off % 256)) (s.drop (min s.length (256 - off % 256)))
def writeM (n : NodeT) (off : Int) (s : Bs) : M σ NodeT :=
  if off < 0 ∨ 16384 < off ∨ 16384 - off < s.length then M.err 1
  else if s = [] then M.ret n
  else M.bind (grownM S n (off + s.length)) fun n' => writeTo S (s.length + 1) n' off.toNat s
def cutL (f : PtrT → Int → M σ PtrT) (w : Nat) (b : Int) : Nat → Nat → List PtrT → M σ (List PtrT)
  | 0, _, l => M.ret l
  | c + 1, k, l => M.bind (f (l.getD k pD) (b - (k : Int) * (w : Int))) fun q => cutL f w b c (k + 1) (l.set k q)
def cutM : Nat → PtrT → Int → M σ PtrT
  | 0, p, b => if b ≤ 0 ∨ isNone p then M.ret pD else M.ret p
  | k + 1, p, b =>
    if b ≤ 0 ∨ isNone p then M.ret pD
    else if (4 ^ (k + 1) : Nat) ≤ b then M.ret p
    else M.bind (linksM S p) fun l => M.bind (cutL (cutM k) (4 ^ k) b 4 0 l) fun l' => if l' = l then M.ret p else putM S l' (k + 1)
def loweredM : Nat → PtrT → M σ PtrT
  | 0, p => M.ret p
  | k + 1, p => if isNone p then M.ret p else M.bind (linksM S p) fun l => loweredM k (l.getD 0 pD)
def allZero (s : Bs) : Bool := s.all (· == 0)
def trimmedM (n : NodeT) : M σ NodeT :=
  if n.size.toNat % 256 = 0 then M.ret n else
    M.bind (blockM S n (n.size.toNat / 256)) fun x =>
      if (itemText x).length ≤ n.size.toNat % 256 ∨ allZero ((itemText x).drop (n.size.toNat % 256)) then M.ret n
      else M.bind (setM S (lvl n.size) n.root (n.size.toNat / 256) ((itemText x).take (n.size.toNat % 256))) fun r => M.ret ⟨n.size, r⟩
def truncM (n : NodeT) (size : Int) : M σ NodeT :=
  if size < 0 ∨ 16384 < size then M.err 1
  else if n.size ≤ size then grownM S n size
  else M.bind (loweredM S (lvl n.size - lvl size) n.root) fun p => M.bind (cutM S (lvl size) p ((size + 255) / 256)) fun q => trimmedM S ⟨size, q⟩
def allL (f : PtrT → List PtrT → M σ (List PtrT)) (lv : Int) : List PtrT → List PtrT → M σ (List PtrT)
  | [], out => M.ret out
  | x :: r, out => if ¬ isNone x ∧ x.level ≠ lv - 1 then M.err 3 else M.bind (f x out) fun o => allL f lv r o
def allM : Nat → PtrT → List PtrT → M σ (List PtrT)
  | 0, _, out => M.ret out
  | f + 1, p, out => if isNone p then M.ret out else if p.level = 0 then M.ret (out ++ [p]) else M.bind (linksM S p) fun l => allL (allM f) p.level l (out ++ [p])
end
end Go.Proofs.YtbhofablndjeoaaDoor
/- What is right behind a run of a tree's functions was right ahead of it. -/
namespace Go.Proofs.YtbhofablndjeoaaDoor
set_option linter.unusedVariables false
section
variable {σ α β : Type} {S : StF σ} {Ok : σ → Prop}
def Back (Ok : σ → Prop) (m : M σ α) : Prop := ∀ s, Ok (m s).2 → Ok s
theorem back_ret (a : α) : Back Ok (M.ret a : M σ α) := fun _ h => h
theorem back_err (n : Nat) : Back Ok (M.err n : M σ α) := fun _ h => h
theorem back_pure (f : σ → Except Nat α) : Back Ok (fun s => (f s, s) : M σ α) := fun _ h => h
theorem back_first {x : M σ α} {f : α → M σ β} (hf : ∀ a, Back Ok (f a)) {s : σ} (h : Ok (M.bind x f s).2) : Ok (x s).2 := by
  unfold M.bind at h
  rcases hx : x s with ⟨r | a, s1⟩ <;> rw [hx] at h
  · exact h
  · exact hf a s1 h
theorem back_bind {x : M σ α} {f : α → M σ β} (hx : Back Ok x) (hf : ∀ a, Back Ok (f a)) : Back Ok (M.bind x f) := fun s h => hx s (back_first hf h)
theorem back_allL {f : PtrT → List PtrT → M σ (List PtrT)} (hf : ∀ x o, Back Ok (f x o)) (lv : Int) : ∀ (l out : List PtrT), Back Ok (allL f lv l out)
  | [], _ => back_ret _
  | x :: r, out => by
    unfold allL
    split
    · exact back_err _
    · exact back_bind (hf x out) (fun o => back_allL hf lv r o)
theorem back_cutL {f : PtrT → Int → M σ PtrT} (hf : ∀ x o, Back Ok (f x o)) (w : Nat) (b : Int) : ∀ (c k : Nat) (l : List PtrT), Back Ok (cutL f w b c k l)
  | 0, _, _ => back_ret _
  | c + 1, k, l => back_bind (hf _ _) (fun q => back_cutL hf w b c _ _)
theorem back_putM (hp : ∀ t l, Back Ok (S.put t l)) (l : List PtrT) (level : Nat) : Back Ok (putM S l level) := by
  unfold putM
  by_cases h : l = zs4
  · rw [if_pos h]; exact back_ret _
  · rw [if_neg h]; exact hp _ _
theorem back_grownTo (hp : ∀ t l, Back Ok (S.put t l)) : ∀ (k lv : Nat) (r : PtrT), Back Ok (grownTo S k lv r)
  | 0, _, _ => back_ret _
  | k + 1, lv, r => by
    unfold grownTo
    split
    · exact back_ret _
    · exact back_bind (back_putM hp _ _) (fun p => back_grownTo hp k _ _)
theorem back_grown (hp : ∀ t l, Back Ok (S.put t l)) (n : NodeT) (size : Int) : Back Ok (grownM S n size) := back_bind (back_grownTo hp _ _ _) (fun r => back_ret _)
variable (hg : ∀ p, Back Ok (S.get p)) (hp : ∀ t l, Back Ok (S.put t l))
include hg
theorem back_item (p : PtrT) : Back Ok (itemM S p) := by
  unfold itemM
  split
  · exact back_ret _
  · exact back_bind (hg p) (fun t => back_pure _)
theorem back_links (p : PtrT) : Back Ok (linksM S p) := back_bind (back_item hg p) (fun x => back_pure _)
theorem back_leaf : ∀ (k : Nat) (p : PtrT) (i : Nat), Back Ok (leafM S k p i)
  | 0, p, i => back_ret _
  | k + 1, p, i => by
    unfold leafM
    split
    · exact back_ret _
    · exact back_bind (back_links hg p) (fun l => back_leaf k _ _)
theorem back_block (n : NodeT) (i : Nat) : Back Ok (blockM S n i) := by
  unfold blockM
  split
  · split
    · exact back_ret _
    · exact back_bind (back_leaf hg _ _ _) (fun p => back_bind (back_item hg p) (fun x => back_pure _))
  · exact back_err _
theorem back_bytes (n : NodeT) (i : Nat) : Back Ok (bytesM S n i) := back_bind (back_block hg n i) (fun x => back_ret _)
theorem back_readTo (n : NodeT) (off till : Nat) : ∀ (f i : Nat) (out : Bs), Back Ok (readTo S n off till f i out)
  | 0, _, _ => back_ret _
  | f + 1, i, out => by
    unfold readTo
    split
    · exact back_bind (back_bytes hg n i) (fun s => back_readTo n off till f _ _)
    · exact back_ret _
theorem back_lowered : ∀ (k : Nat) (p : PtrT), Back Ok (loweredM S k p)
  | 0, p => back_ret _
  | k + 1, p => by
    unfold loweredM
    split
    · exact back_ret _
    · exact back_bind (back_links hg p) (fun l => back_lowered k _)
theorem back_all : ∀ (f : Nat) (p : PtrT) (out : List PtrT), Back Ok (allM S f p out)
  | 0, _, _ => back_ret _
  | f + 1, p, out => by
    unfold allM
    split
    · exact back_ret _
    · split
      · exact back_ret _
      · exact back_bind (back_links hg p) (fun l => back_allL (fun x o => back_all f x o) _ _ _)
include hp
theorem back_set : ∀ (k : Nat) (p : PtrT) (i : Nat) (s : Bs), Back Ok (setM S k p i s)
  | 0, p, i, s => by
    unfold setM
    by_cases h : s = []
    · rw [if_pos h]; exact back_ret _
    · rw [if_neg h]; exact hp _ _
  | k + 1, p, i, s => back_bind (back_links hg p) (fun l => back_bind (back_set k _ _ _) (fun q => back_putM hp _ _))
theorem back_laid (n : NodeT) (i frm : Nat) (s : Bs) : Back Ok (laidM S n i frm s) := back_bind (back_block hg n i) (fun x => back_bind (back_set hg hp _ _ _ _) (fun r => back_ret _))
theorem back_writeTo : ∀ (f : Nat) (n : NodeT) (off : Nat) (s : Bs), Back Ok (writeTo S f n off s)
  | 0, _, _, _ => back_ret _
  | f + 1, n, off, s => by
    unfold writeTo
    split
    · exact back_ret _
    · exact back_bind (back_laid hg hp _ _ _ _) (fun n' => back_writeTo f _ _ _)
theorem back_write (n : NodeT) (off : Int) (s : Bs) : Back Ok (writeM S n off s) := by
  unfold writeM
  split
  · exact back_err _
  · split
    · exact back_ret _
    · exact back_bind (back_grown hp _ _) (fun n' => back_writeTo hg hp _ _ _ _)
theorem back_cut : ∀ (k : Nat) (p : PtrT) (b : Int), Back Ok (cutM S k p b)
  | 0, p, b => by
    unfold cutM
    split <;> exact back_ret _
  | k + 1, p, b => by
    unfold cutM
    split
    · exact back_ret _
    · split
      · exact back_ret _
      · refine back_bind (back_links hg p) (fun l => back_bind (back_cutL (fun x o => back_cut k x o) _ _ _ _ _) (fun l' => ?_))
        split
        · exact back_ret _
        · exact back_putM hp _ _
theorem back_trimmed (n : NodeT) : Back Ok (trimmedM S n) := by
  unfold trimmedM
  split
  · exact back_ret _
  · refine back_bind (back_block hg _ _) (fun x => ?_)
    split
    · exact back_ret _
    · exact back_bind (back_set hg hp _ _ _ _) (fun r => back_ret _)
theorem back_trunc (n : NodeT) (size : Int) : Back Ok (truncM S n size) := by
  unfold truncM
  split
  · exact back_err _
  · split
    · exact back_grown hp _ _
    · exact back_bind (back_lowered hg _ _) (fun p => back_bind (back_cut hg hp _ _ _) (fun q => back_trimmed hg hp _))
end
end Go.Proofs.YtbhofablndjeoaaDoor
/- The law's store as functions. -/
namespace Go.Proofs.YtbhofablndjeoaaDoor
open Go.RowKit
/-- the state of a Mem: its blocks, how often it was asked, and when it stops -/
structure MemT where
  L : List Bs
  count : Nat
  fails : Nat
def bts (L : List Bs) : List ByteArray := L.map fun s => ⟨s.toArray⟩
/-- is it awake behind n askings? -/
def awakeB (n fails : Nat) : Bool := decide (fails = 0) || decide (n < fails)
def memP (m : Nat) (len : Nat) (lv : Nat) : PtrT := ⟨0, (m : Int), 0, 0, false, ((len / 64 : Nat) : Int), (lv : Nat), 1, 0, 0, 0, 0⟩
def memF : StF MemT where
  get := fun p s =>
    if awakeB (s.count + 1) s.fails = false ∨ p.aa < 0 ∨ (s.L.length : Int) ≤ p.aa then (.error 6, { s with count := s.count + 1 })
    else (.ok (s.L.getD p.aa.toNat []), { s with count := s.count + 1 })
  put := fun t lv s =>
    if awakeB (s.count + 1) s.fails = false then (.error 8, { s with count := s.count + 1 })
    else (.ok (memP s.L.length t.length lv), { s with count := s.count + 1, L := s.L ++ [t] })
def memOk' (count : Nat) (L : List Bs) : Prop := count < 1000000000 ∧ L.length ≤ 1000000 ∧ ∀ t ∈ L, t.length ≤ 256
end Go.Proofs.YtbhofablndjeoaaDoor
/- Numbers and pointers as bytes and back. -/
namespace Go.Proofs.YtbhofablndjeoaaDoor
theorem leB_len : ∀ (k n : Nat), (leB k n).length = k
  | 0, _ => rfl
  | k + 1, n => by simp [leB, leB_len k]
theorem leN_leB : ∀ (k n : Nat), n < 256 ^ k → leN (leB k n) = n
  | 0, n, h => by simp at h; simp [leB, leN, h]
  | k + 1, n, h => by
    have h1 : n / 256 < 256 ^ k := by rw [Nat.div_lt_iff_lt_mul (by omega)]; rw [Nat.pow_succ] at h; exact h
    have h2 : (UInt8.ofNat n).toNat = n % 256 := by simp
    simp only [leB, leN, leN_leB k _ h1, h2]
    omega
theorem zeros_length (n : Nat) : (zeros n).length = n := by simp [zeros]
theorem ptrBytes_length (p : PtrT) : (ptrBytes p).length = 64 := by
  simp [ptrBytes, leB_len, zeros_length]
theorem U32_of {x : Int} (h : U32' x = true) : 0 ≤ x ∧ x ≤ 4294967295 := by
  simpa [U32'] using h
structure MayP (p : PtrT) : Prop where
  ag : 0 ≤ p.ag ∧ p.ag ≤ 4294967295
  aa : 0 ≤ p.aa ∧ p.aa ≤ 4294967295
  bg : 0 ≤ p.bg ∧ p.bg ≤ 4294967295
  ba : 0 ≤ p.ba ∧ p.ba ≤ 4294967295
  birth : 0 ≤ p.birth ∧ p.birth ≤ 4294967295
  size : 0 ≤ p.size ∧ p.size ≤ 255
  level : 0 ≤ p.level ∧ p.level ≤ 255
theorem mayP {p : PtrT} (h : ptrMay p = true) : MayP p := by
  simp only [ptrMay, Bool.and_eq_true] at h
  obtain ⟨⟨⟨⟨⟨⟨h1, h2⟩, h3⟩, h4⟩, h5⟩, h6, h7⟩, h8, h9⟩ := h
  exact ⟨U32_of h1, U32_of h2, U32_of h3, U32_of h4, U32_of h5, ⟨by simpa using h6, by simpa using h7⟩, ⟨by simpa using h8, by simpa using h9⟩⟩
theorem ptrOne_le {p : PtrT} (h : ptrMay p = true) : ptrOne p ≤ 131071 := by
  have m := mayP h
  have := m.size; have := m.level
  unfold ptrOne
  split <;> omega
theorem w4_bytes (p : PtrT) : w4 (ptrBytes p) 0 = leN (leB 4 p.ag.toNat) ∧ w4 (ptrBytes p) 1 = leN (leB 4 p.aa.toNat) ∧ w4 (ptrBytes p) 2 = leN (leB 4 p.bg.toNat) ∧ w4 (ptrBytes p) 3 = leN (leB 4 p.ba.toNat) ∧ w4 (ptrBytes p) 4 = leN (leB 4 (ptrOne p)) ∧ w4 (ptrBytes p) 5 = leN (leB 4 p.birth.toNat) :=
  ⟨rfl, rfl, rfl, rfl, rfl, rfl⟩
theorem w8_bytes (p : PtrT) : w8 (ptrBytes p) 0 = leN (leB 8 p.s0.toNat) ∧ w8 (ptrBytes p) 1 = leN (leB 8 p.s1.toNat) ∧ w8 (ptrBytes p) 2 = leN (leB 8 p.s2.toNat) ∧ w8 (ptrBytes p) 3 = leN (leB 8 p.s3.toNat) :=
  ⟨rfl, rfl, rfl, rfl⟩
theorem ptr_fits {p : PtrT} (h : ptrMay p = true) : ptrFits (ptrBytes p) = true := by
  have h1 := ptrOne_le h
  have h2 : w4 (ptrBytes p) 4 = ptrOne p := by rw [(w4_bytes p).2.2.2.2.1, leN_leB _ _ (by omega)]
  have h3 : (ptrBytes p).drop 56 = zeros 8 := rfl
  unfold ptrFits
  rw [h2, h3]
  simp [h1, zeros]
theorem ptr_back {p : PtrT} (h : ptrMay p = true) (hw : p.wf) : ptrOf (ptrBytes p) = p := by
  have m := mayP h
  obtain ⟨a0, a1, a2, a3, a4, a5⟩ := w4_bytes p
  obtain ⟨b0, b1, b2, b3⟩ := w8_bytes p
  have h1 := ptrOne_le h
  have s0 := hw.s0; have s1 := hw.s1; have s2 := hw.s2; have s3 := hw.s3
  unfold U64' at s0 s1 s2 s3
  have := m.ag; have := m.aa; have := m.bg; have := m.ba; have := m.birth; have := m.size; have := m.level
  rw [leN_leB _ _ (by omega)] at a0 a1 a2 a3 a4 a5 b0 b1 b2 b3
  unfold ptrOf
  rw [a0, a1, a2, a3, a4, a5, b0, b1, b2, b3]
  have q0 : ((p.ag.toNat : Nat) : Int) = p.ag := by omega
  have q1 : ((p.aa.toNat : Nat) : Int) = p.aa := by omega
  have q2 : ((p.bg.toNat : Nat) : Int) = p.bg := by omega
  have q3 : ((p.ba.toNat : Nat) : Int) = p.ba := by omega
  have q4 : ((p.birth.toNat : Nat) : Int) = p.birth := by omega
  have t0 : ((p.s0.toNat : Nat) : Int) = p.s0 := Int.toNat_of_nonneg s0.1
  have t1 : ((p.s1.toNat : Nat) : Int) = p.s1 := Int.toNat_of_nonneg s1.1
  have t2 : ((p.s2.toNat : Nat) : Int) = p.s2 := Int.toNat_of_nonneg s2.1
  have t3 : ((p.s3.toNat : Nat) : Int) = p.s3 := Int.toNat_of_nonneg s3.1
  have e4 : decide (0 < ptrOne p / 65536) = p.two := by
    unfold ptrOne
    cases p.two
    · simp; omega
    · simp; omega
  have e5 : ((ptrOne p % 256 : Nat) : Int) = p.size := by unfold ptrOne; split <;> omega
  have e6 : ((ptrOne p / 256 % 256 : Nat) : Int) = p.level := by unfold ptrOne; split <;> omega
  rw [e4, e5, e6, q0, q1, q2, q3, q4, t0, t1, t2, t3]
theorem sub_at (a b c : Bs) (o n : Nat) (h1 : a.length = o) (h2 : b.length = n) : sub (a ++ (b ++ c)) o n = b := by
  subst h1 h2
  simp [sub]
theorem four (a b c d : PtrT) : indexText [a, b, c, d] = if [a, b, c, d].all ptrMay then ptrBytes a ++ (ptrBytes b ++ (ptrBytes c ++ (ptrBytes d ++ []))) else [] := by
  unfold indexText; rfl
theorem subs4 {A B C D : Bs} (ha : A.length = 64) (hb : B.length = 64) (hc : C.length = 64) (hd : D.length = 64) : sub (A ++ (B ++ (C ++ (D ++ [])))) 0 64 = A ∧ sub (A ++ (B ++ (C ++ (D ++ [])))) 64 64 = B ∧ sub (A ++ (B ++ (C ++ (D ++ [])))) 128 64 = C ∧ sub (A ++ (B ++ (C ++ (D ++ [])))) 192 64 = D := by
  refine ⟨?_, ?_, ?_, ?_⟩
  · exact sub_at [] A _ 0 64 rfl ha
  · exact sub_at A B _ 64 64 ha hb
  · have := sub_at (A ++ B) C (D ++ []) 128 64 (by simp [ha, hb]) hc
    rw [List.append_assoc] at this; exact this
  · have := sub_at (A ++ (B ++ C)) D [] 192 64 (by simp [ha, hb, hc]) hd
    rw [List.append_assoc, List.append_assoc] at this; exact this
theorem subs (a b c d : PtrT) (t : Bs) (h : t = ptrBytes a ++ (ptrBytes b ++ (ptrBytes c ++ (ptrBytes d ++ [])))) : sub t 0 64 = ptrBytes a ∧ sub t 64 64 = ptrBytes b ∧ sub t 128 64 = ptrBytes c ∧ sub t 192 64 = ptrBytes d := by
  rw [h]
  exact subs4 (ptrBytes_length _) (ptrBytes_length _) (ptrBytes_length _) (ptrBytes_length _)
theorem of_four {l : List PtrT} (h : l.length = 4) : ∃ a b c d, l = [a, b, c, d] := by
  rcases l with _ | ⟨a, _ | ⟨b, _ | ⟨c, _ | ⟨d, _ | ⟨e, r⟩⟩⟩⟩⟩
  · simp at h
  · simp at h
  · simp at h
  · simp at h
  · exact ⟨a, b, c, d, rfl⟩
  · simp at h
theorem indexText_le (l : List PtrT) (h : l.length ≤ 4) : (indexText l).length ≤ 256 := by
  have : ∀ l : List PtrT, (l.flatMap ptrBytes).length = 64 * l.length := by
    intro l
    induction l with
    | nil => rfl
    | cons a r ih => simp only [List.flatMap_cons, List.length_append, ptrBytes_length, ih, List.length_cons]; omega
  unfold indexText
  split
  · rw [this]; omega
  · simp
/-- an index's text is an index's -/
theorem index_back {l : List PtrT} (h4 : l.length = 4) (hm : ∀ p ∈ l, ptrMay p = true ∧ p.wf) : (indexText l).length = 256 ∧ indexFits (indexText l) = true ∧ indexOf (indexText l) = l := by
  obtain ⟨a, b, c, d, rfl⟩ := of_four h4
  have ha := hm a (by simp); have hb := hm b (by simp); have hc := hm c (by simp); have hd := hm d (by simp)
  have e := four a b c d
  rw [if_pos (by simp [ha.1, hb.1, hc.1, hd.1])] at e
  obtain ⟨s0, s1, s2, s3⟩ := subs a b c d _ e
  refine ⟨by rw [e]; simp [ptrBytes_length], ?_, ?_⟩
  · unfold indexFits
    rw [s0, s1, s2, s3, ptr_fits ha.1, ptr_fits hb.1, ptr_fits hc.1, ptr_fits hd.1]; rfl
  · unfold indexOf
    rw [s0, s1, s2, s3, ptr_back ha.1 ha.2, ptr_back hb.1 hb.2, ptr_back hc.1 hc.2, ptr_back hd.1 hd.2]
end Go.Proofs.YtbhofablndjeoaaDoor
/- Trees in the law's store: what they are and hold. -/
namespace Go.Proofs.YtbhofablndjeoaaDoor
set_option linter.unusedVariables false
/-- on a store that doesn't fail: what is answered, and the blocks then -/
def Run {α : Type} (m : M MemT α) (L : List Bs) (a : α) (L' : List Bs) : Prop := ∀ c, ∃ c', m ⟨L, c, 0⟩ = (.ok a, ⟨L', c', 0⟩)
section
variable {α β : Type} {L L1 L2 : List Bs}
theorem Run.ret (a : α) : Run (M.ret a) L a L := fun c => ⟨c, rfl⟩
theorem Run.bind {x : M MemT α} {f : α → M MemT β} {a : α} {b : β} (h1 : Run x L a L1) (h2 : Run (f a) L1 b L2) : Run (M.bind x f) L b L2 := fun c => by
  obtain ⟨c1, e1⟩ := h1 c
  obtain ⟨c2, e2⟩ := h2 c1
  exact ⟨c2, by rw [M.bind_ok e1, e2]⟩
theorem Run.pure {e : Except Nat α} {a : α} (h : e = .ok a) : Run (fun s => (e, s)) L a L := fun c => ⟨c, by rw [h]⟩
theorem run_get {m n lv : Nat} {t : Bs} (h : L[m]? = some t) : Run (memF.get (memP m n lv)) L t L := fun c => by
  have hm : m < L.length := by
    by_cases hm : m < L.length
    · exact hm
    · rw [List.getElem?_eq_none (by omega)] at h; cases h
  refine ⟨c + 1, ?_⟩
  unfold memF
  dsimp only
  rw [if_neg (by simp [awakeB, memP]; omega)]
  simp [memP, List.getD_eq_getElem?_getD, h]
theorem run_put (t : Bs) (lv : Nat) : Run (memF.put t lv) L (memP L.length t.length lv) (L ++ [t]) := fun c => by
  refine ⟨c + 1, ?_⟩
  unfold memF
  dsimp only
  rw [if_neg (by simp [awakeB])]
end
theorem memP_some (m n lv : Nat) : isNone (memP m n lv) = false := by simp [isNone, memP, pD]
theorem none_iff {p : PtrT} : isNone p = true ↔ p = pD := by simp [isNone]
theorem memP_ok {m n lv : Nat} (hm : m < 1000000) (hn : n ≤ 256) (hl : lv ≤ 3) : ptrMay (memP m n lv) = true ∧ (memP m n lv).wf := by
  constructor
  · simp [ptrMay, memP, U32']; exact ⟨⟨decide_eq_true (by omega), decide_eq_true (by omega), decide_eq_true (by omega)⟩, decide_eq_true (by omega)⟩
  · constructor
    · constructor <;> (simp only [memP]; (try unfold I64'); omega)
    all_goals (simp only [memP]; unfold U64'; omega)
theorem pD_ok : ptrMay pD = true ∧ pD.wf := by
  constructor
  · decide
  · constructor
    · constructor <;> (unfold I64' pD; dsimp only; omega)
    all_goals (unfold U64' pD; dsimp only; omega)
/-- a right tree -/
def WF (L : List Bs) : Nat → PtrT → Prop
  | 0, p => p = pD ∨ ∃ m t, L[m]? = some t ∧ p = memP m t.length 0 ∧ 0 < t.length ∧ t.length ≤ 256 ∧ t.length % 64 = 0
  | k + 1, p => p = pD ∨ ∃ m t, L[m]? = some t ∧ p = memP m 256 (k + 1) ∧ t.length = 256 ∧ indexFits t = true ∧ ∀ q ∈ indexOf t, WF L k q
def lnk (L : List Bs) (p : PtrT) : List PtrT := if isNone p then zs4 else indexOf (L.getD p.aa.toNat [])
def dat (L : List Bs) (p : PtrT) : Bs := if isNone p then [] else L.getD p.aa.toNat []
/-- the text of a block -/
def blk (L : List Bs) : Nat → PtrT → Nat → Bs
  | 0, p, _ => dat L p
  | k + 1, p, i => blk L k ((lnk L p).getD (i / 4 ^ k) pD) (i % 4 ^ k)
/-- the pointers of a tree -/
def ptrs (L : List Bs) : Nat → PtrT → List PtrT
  | 0, p => if isNone p then [] else [p]
  | k + 1, p => if isNone p then [] else p :: (lnk L p).flatMap (ptrs L k)
section
variable {L : List Bs}
theorem WF.none (k : Nat) : WF L k pD := by cases k <;> exact .inl rfl
theorem none_pD : isNone pD = true := by decide
theorem lnk_none : lnk L pD = zs4 := by unfold lnk; rw [if_pos none_pD]
theorem dat_none : dat L pD = [] := by unfold dat; rw [if_pos none_pD]
theorem lnk_some {m n lv : Nat} {t : Bs} (h : L[m]? = some t) : lnk L (memP m n lv) = indexOf t := by
  unfold lnk; rw [memP_some]; simp [memP, List.getD_eq_getElem?_getD, h]
theorem dat_some {m n lv : Nat} {t : Bs} (h : L[m]? = some t) : dat L (memP m n lv) = t := by
  unfold dat; rw [memP_some]; simp [memP, List.getD_eq_getElem?_getD, h]
theorem ptrs_none (k : Nat) : ptrs L k pD = [] := by cases k <;> rfl
theorem zs4_getD (j : Nat) : zs4.getD j pD = pD := by
  unfold zs4
  match j with
  | 0 => rfl
  | 1 => rfl
  | 2 => rfl
  | 3 => rfl
  | j + 4 => rfl
theorem blk_none : ∀ (k i : Nat), blk L k pD i = []
  | 0, i => dat_none
  | k + 1, i => by unfold blk; rw [lnk_none, zs4_getD]; exact blk_none k _
theorem WF.lnk4 {k : Nat} {p : PtrT} (h : WF L (k + 1) p) : (lnk L p).length = 4 := by
  rcases h with rfl | ⟨m, t, h1, rfl, _⟩
  · rw [lnk_none]; rfl
  · rw [lnk_some h1]; rfl
theorem WF.kids {k : Nat} {p : PtrT} (h : WF L (k + 1) p) : ∀ q ∈ lnk L p, WF L k q := by
  intro q hq
  rcases h with rfl | ⟨m, t, h1, rfl, h2, h3, h4⟩
  · rw [lnk_none] at hq
    simp [zs4] at hq
    rw [hq]; exact WF.none k
  · rw [lnk_some h1] at hq; exact h4 q hq
theorem getD_memP {α : Type} {l : List α} {j : Nat} {d : α} (P : α → Prop) (h : ∀ q ∈ l, P q) (hd : P d) : P (l.getD j d) := by
  rw [List.getD_eq_getElem?_getD]
  by_cases hj : j < l.length
  · rw [List.getElem?_eq_getElem hj]; exact h _ (List.getElem_mem hj)
  · rw [List.getElem?_eq_none (by omega)]; exact hd
theorem WF.kid {k : Nat} {p : PtrT} (h : WF L (k + 1) p) (j : Nat) : WF L k ((lnk L p).getD j pD) := getD_memP (WF L k) h.kids (WF.none k)
theorem get_ext {X : List Bs} {m : Nat} {t : Bs} (h : L[m]? = some t) : (L ++ X)[m]? = some t := by
  rw [List.getElem?_append_left (by by_cases hm : m < L.length; exact hm; rw [List.getElem?_eq_none (by omega)] at h; cases h)]; exact h
theorem get_lt {m : Nat} {t : Bs} (h : L[m]? = some t) : m < L.length := by
  by_cases hm : m < L.length
  · exact hm
  · rw [List.getElem?_eq_none (by omega)] at h; cases h
theorem ptrs_some0 {m n lv : Nat} : ptrs L 0 (memP m n lv) = [memP m n lv] := by unfold ptrs; rw [memP_some]; rfl
theorem ptrs_some {k m n lv : Nat} {t : Bs} (h : L[m]? = some t) : ptrs L (k + 1) (memP m n lv) = memP m n lv :: (indexOf t).flatMap (ptrs L k) := by
  unfold ptrs; rw [memP_some, lnk_some h]; rfl
theorem flatMap_same {α β : Type} {f g : α → List β} : ∀ {l : List α}, (∀ a ∈ l, f a = g a) → l.flatMap f = l.flatMap g
  | [], _ => rfl
  | a :: l, h => by simp only [List.flatMap_cons, h a (by simp), flatMap_same fun b hb => h b (List.mem_cons_of_mem _ hb)]
/-- what a tree is hangs on its own blocks alone -/
theorem WF.same {L2 : List Bs} : ∀ {k : Nat} {p : PtrT}, WF L k p → (∀ x ∈ ptrs L k p, L2[x.aa.toNat]? = L[x.aa.toNat]?) → WF L2 k p ∧ (∀ i, blk L2 k p i = blk L k p i) ∧ ptrs L2 k p = ptrs L k p
  | 0, p, h, hs => by
    rcases h with rfl | ⟨m, t, h1, rfl, h2⟩
    · exact ⟨WF.none 0, fun i => by rw [blk_none, blk_none], by rw [ptrs_none, ptrs_none]⟩
    · have h3 : L2[m]? = some t := by
        have := hs (memP m t.length 0) (by rw [ptrs_some0]; simp)
        simpa [memP, h1] using this
      exact ⟨.inr ⟨m, t, h3, rfl, h2⟩, fun i => by unfold blk; rw [dat_some h1, dat_some h3], by rw [ptrs_some0, ptrs_some0]⟩
  | k + 1, p, h, hs => by
    rcases h with rfl | ⟨m, t, h1, rfl, h2, h3, h4⟩
    · exact ⟨WF.none _, fun i => by rw [blk_none, blk_none], by rw [ptrs_none, ptrs_none]⟩
    · rw [ptrs_some h1] at hs
      have h5 : L2[m]? = some t := by
        have := hs (memP m 256 (k + 1)) (by simp)
        simpa [memP, h1] using this
      have ih : ∀ q ∈ indexOf t, WF L2 k q ∧ (∀ i, blk L2 k q i = blk L k q i) ∧ ptrs L2 k q = ptrs L k q := fun q hq => WF.same (h4 q hq) (fun x hx => hs x (List.mem_cons_of_mem _ (List.mem_flatMap.2 ⟨q, hq, hx⟩)))
      refine ⟨.inr ⟨m, t, h5, rfl, h2, h3, fun q hq => (ih q hq).1⟩, fun i => ?_, ?_⟩
      · unfold blk
        rw [lnk_some h1, lnk_some h5]
        exact getD_memP (fun q => ∀ i, blk L2 k q i = blk L k q i) (fun q hq => (ih q hq).2.1) (fun i => by rw [blk_none, blk_none]) _
      · rw [ptrs_some h1, ptrs_some h5]
        congr 1
        exact flatMap_same fun q hq => (ih q hq).2.2
theorem WF.bound : ∀ {k : Nat} {p : PtrT}, WF L k p → ∀ x ∈ ptrs L k p, 0 ≤ x.aa ∧ x.aa < L.length
  | 0, p, h, x, hx => by
    rcases h with rfl | ⟨m, t, h1, rfl, h2⟩
    · rw [ptrs_none] at hx; cases hx
    · rw [ptrs_some0] at hx
      simp only [List.mem_cons, List.not_mem_nil, or_false] at hx
      subst hx
      have := get_lt h1
      simp only [memP]; omega
  | k + 1, p, h, x, hx => by
    rcases h with rfl | ⟨m, t, h1, rfl, h2, h3, h4⟩
    · rw [ptrs_none] at hx; cases hx
    · rw [ptrs_some h1] at hx
      rcases List.mem_cons.1 hx with rfl | hx
      · have := get_lt h1
        simp only [memP]; omega
      · obtain ⟨q, hq, hx⟩ := List.mem_flatMap.1 hx
        exact WF.bound (h4 q hq) x hx
theorem WF.mono {k : Nat} {p : PtrT} (h : WF L k p) (X : List Bs) : WF (L ++ X) k p ∧ (∀ i, blk (L ++ X) k p i = blk L k p i) ∧ ptrs (L ++ X) k p = ptrs L k p :=
  h.same fun x hx => by
    have := h.bound x hx
    rw [List.getElem?_append_left (by omega)]
theorem WF.ok {k : Nat} {p : PtrT} (h : WF L k p) (hk : k ≤ 3) (hL : L.length ≤ 1000000) : ptrMay p = true ∧ p.wf := by
  cases k with
  | zero =>
    rcases h with rfl | ⟨m, t, h1, rfl, h2, h3, _⟩
    · exact pD_ok
    · have := get_lt h1; exact memP_ok (by omega) h3 (by omega)
  | succ k =>
    rcases h with rfl | ⟨m, t, h1, rfl, _⟩
    · exact pD_ok
    · have := get_lt h1; exact memP_ok (by omega) (by omega) hk
theorem WF.level {k : Nat} {p : PtrT} (h : WF L k p) (hn : isNone p = false) : p.level = (k : Int) := by
  cases k with
  | zero =>
    rcases h with rfl | ⟨m, t, h1, rfl, _⟩
    · cases hn
    · rfl
  | succ k =>
    rcases h with rfl | ⟨m, t, h1, rfl, _⟩
    · cases hn
    · rfl
theorem WF.blk_len : ∀ {k : Nat} {p : PtrT}, WF L k p → ∀ i, (blk L k p i).length ≤ 256 ∧ (blk L k p i).length % 64 = 0
  | 0, p, h, i => by
    rcases h with rfl | ⟨m, t, h1, rfl, h2, h3, h4⟩
    · rw [blk_none]; simp
    · unfold blk; rw [dat_some h1]; exact ⟨h3, h4⟩
  | k + 1, p, h, i => WF.blk_len (h.kid _) _
theorem run_item {q : PtrT} (h : WF L 0 q) : ∃ x, Run (itemM memF q) L x L ∧ noIndex x = .ok x ∧ itemText x = dat L q := by
  rcases h with rfl | ⟨m, t, h1, rfl, h2, h3, h4⟩
  · exact ⟨.hole, by unfold itemM; rw [if_pos none_pD]; exact Run.ret _, rfl, by rw [dat_none]; rfl⟩
  · refine ⟨.data t, ?_, rfl, ?_⟩
    · unfold itemM
      rw [if_neg (by rw [memP_some]; decide)]
      refine Run.bind (run_get h1) (Run.pure ?_)
      have hl : (memP m t.length 0).level = 0 := rfl
      rw [hl]
      unfold nodeRead
      have e2 : textOk t 0 = true := by simp [textOk, h4, h3]; omega
      rw [if_pos (by decide), if_pos e2, if_neg (by decide)]
    · rw [dat_some h1]
      have e : (64 - t.length % 64) % 64 = 0 := by omega
      simp [itemText, dataText, h3, pad64, e, zeros]
theorem run_links {k : Nat} {p : PtrT} (h : WF L (k + 1) p) (hk : k + 1 ≤ 3) : Run (linksM memF p) L (lnk L p) L := by
  rcases h with rfl | ⟨m, t, h1, rfl, h2, h3, h4⟩
  · rw [lnk_none]
    unfold linksM itemM
    rw [if_pos none_pD]
    exact Run.bind (Run.ret _) (Run.pure rfl)
  · rw [lnk_some h1]
    unfold linksM itemM
    rw [if_neg (by rw [memP_some]; decide)]
    refine Run.bind (a := .index (indexOf t)) (Run.bind (run_get h1) (Run.pure ?_)) (Run.pure rfl)
    have hl : (memP m 256 (k + 1)).level = ((k + 1 : Nat) : Int) := rfl
    rw [hl]
    unfold nodeRead
    have e2 : textOk t ((k + 1 : Nat) : Int) = true := by simp [textOk, h2]
    have e1 : levelOk ((k + 1 : Nat) : Int) = true := by simp [levelOk]; omega
    rw [if_pos e1, if_pos e2, if_pos (by omega), if_pos h3]
theorem run_leaf : ∀ {k : Nat} {p : PtrT} (i : Nat), WF L k p → k ≤ 3 → ∃ q, Run (leafM memF k p i) L q L ∧ WF L 0 q ∧ dat L q = blk L k p i
  | 0, p, i, h, _ => ⟨p, Run.ret _, h, rfl⟩
  | k + 1, p, i, h, hk => by
    by_cases hn : isNone p = true
    · have hp := none_iff.1 hn
      subst hp
      exact ⟨pD, by unfold leafM; rw [if_pos none_pD]; exact Run.ret _, WF.none 0, by rw [blk_none, dat_none]⟩
    · obtain ⟨q, h1, h2, h3⟩ := run_leaf (i % 4 ^ k) (h.kid (i / 4 ^ k)) (by omega)
      refine ⟨q, ?_, h2, h3⟩
      unfold leafM
      rw [if_neg hn]
      exact Run.bind (run_links h hk) h1
end
end Go.Proofs.YtbhofablndjeoaaDoor
/- Trees in the law's store: blocks set, read, written. -/
namespace Go.Proofs.YtbhofablndjeoaaDoor
set_option linter.unusedVariables false
def gb (s : Bs) (j : Nat) : UInt8 := s.getD j 0
theorem gb_at {s : Bs} {j : Nat} (h : j < s.length) : gb s j = s[j] := by simp [gb, List.getD_eq_getElem?_getD, h]
theorem gb_out {s : Bs} {j : Nat} (h : s.length ≤ j) : gb s j = 0 := by simp [gb, List.getD_eq_getElem?_getD, List.getElem?_eq_none h]
theorem gb_left {a b : Bs} {j : Nat} (h : j < a.length) : gb (a ++ b) j = gb a j := by simp [gb, List.getD_eq_getElem?_getD, List.getElem?_append_left h]
theorem gb_right {a b : Bs} {j : Nat} (h : a.length ≤ j) : gb (a ++ b) j = gb b (j - a.length) := by simp [gb, List.getD_eq_getElem?_getD, List.getElem?_append_right h]
theorem gb_zeros (n j : Nat) : gb (zeros n) j = 0 := by
  by_cases h : j < n
  · rw [gb_at (by simpa [zeros] using h)]; simp [zeros]
  · exact gb_out (by simp [zeros]; omega)
theorem gb_pad (a : Bs) (n j : Nat) : gb (a ++ zeros n) j = gb a j := by
  by_cases h : j < a.length
  · exact gb_left h
  · rw [gb_right (by omega), gb_zeros, gb_out (by omega)]
theorem gb_take {a : Bs} {n j : Nat} : gb (a.take n) j = if j < n then gb a j else 0 := by
  simp only [gb, List.getD_eq_getElem?_getD, List.getElem?_take]
  split <;> rfl
theorem gb_drop {a : Bs} {n j : Nat} : gb (a.drop n) j = gb a (n + j) := by
  simp only [gb, List.getD_eq_getElem?_getD, List.getElem?_drop]
theorem gb_nil (j : Nat) : gb [] j = 0 := rfl
theorem gb_over (old : Bs) (frm : Nat) (s : Bs) (j : Nat) : gb (over old frm s) j = if frm ≤ j ∧ j < frm + s.length then gb s (j - frm) else gb old j := by
  unfold over
  have e := gb_pad old (frm - old.length)
  have hl : frm ≤ (old ++ zeros (frm - old.length)).length := by simp [zeros]; omega
  generalize old ++ zeros (frm - old.length) = o at e hl
  by_cases h1 : j < frm
  · rw [if_neg (by omega), gb_left (by simp; omega), gb_left (by simp; omega), gb_take, if_pos h1, e]
  · by_cases h2 : j < frm + s.length
    · rw [if_pos ⟨by omega, h2⟩, gb_left (by simp; omega), gb_right (by simp; omega)]
      congr 1; simp; omega
    · rw [if_neg (by omega), gb_right (by simp; omega), gb_drop, ← e]
      congr 1; simp; omega
theorem over_len (old : Bs) (frm : Nat) (s : Bs) : (over old frm s).length = max old.length (frm + s.length) := by
  unfold over
  simp [zeros]
  omega
theorem gb_pad64 (s : Bs) (j : Nat) : gb (pad64 s) j = gb s j := gb_pad _ _ _
/-- from P to Q: what is new are new blocks' pointers -/
def Nw (L L' : List Bs) (P Q : List PtrT) : Prop := P.Nodup → (∀ x ∈ P, 0 ≤ x.aa ∧ x.aa < L.length) → Q.Nodup ∧ ∀ x ∈ Q, 0 ≤ x.aa ∧ x.aa < L'.length ∧ (x ∈ P ∨ L.length ≤ x.aa)
section
variable {L L1 L2 L' : List Bs}
theorem Nw.refl (P : List PtrT) (h : L.length ≤ L'.length) : Nw L L' P P := fun h1 h2 => ⟨h1, fun x hx => ⟨(h2 x hx).1, by have := (h2 x hx).2; omega, .inl hx⟩⟩
theorem Nw.trans {P Q R : List PtrT} (h : L.length ≤ L1.length) (h1 : Nw L L1 P Q) (h2 : Nw L1 L2 Q R) : Nw L L2 P R := fun n b => by
  obtain ⟨a1, a2⟩ := h1 n b
  obtain ⟨b1, b2⟩ := h2 a1 (fun x hx => ⟨(a2 x hx).1, (a2 x hx).2.1⟩)
  refine ⟨b1, fun x hx => ⟨(b2 x hx).1, (b2 x hx).2.1, ?_⟩⟩
  rcases (b2 x hx).2.2 with h | h
  · exact (a2 x h).2.2
  · exact .inr (by omega)
theorem Nw.sub {P Q : List PtrT} (h : L.length ≤ L'.length) (hs : Q.Sublist P) : Nw L L' P Q := fun n b => ⟨n.sublist hs, fun x hx => ⟨(b x (hs.subset hx)).1, by have := (b x (hs.subset hx)).2; omega, .inl (hs.subset hx)⟩⟩
theorem Nw.nil (P : List PtrT) : Nw L L' P [] := fun _ _ => ⟨List.nodup_nil, fun x hx => by cases hx⟩
theorem Nw.mid {A C P Q : List PtrT} (h : L.length ≤ L'.length) (h1 : Nw L L' P Q) : Nw L L' (A ++ P ++ C) (A ++ Q ++ C) := fun n b => by
  rw [List.append_assoc, List.nodup_append, List.nodup_append] at n
  obtain ⟨n1, ⟨n2, n3, n4⟩, n5⟩ := n
  obtain ⟨q1, q2⟩ := h1 n2 (fun x hx => b x (by simp [hx]))
  refine ⟨?_, fun x hx => ?_⟩
  · rw [List.append_assoc, List.nodup_append, List.nodup_append]
    refine ⟨n1, ⟨q1, n3, fun x hx y hy e => ?_⟩, fun x hx y hy e => ?_⟩
    · subst e
      rcases (q2 x hx).2.2 with h | h
      · exact n4 x h x hy rfl
      · have := (b x (by simp [hy])).2; omega
    · subst e
      rcases List.mem_append.1 hy with hy | hy
      · rcases (q2 x hy).2.2 with h | h
        · exact n5 x hx x (List.mem_append_left _ h) rfl
        · have := (b x (by simp [hx])).2; omega
      · exact n5 x hx x (List.mem_append_right _ hy) rfl
  · simp only [List.mem_append] at hx
    rcases hx with (hx | hx) | hx
    · have := b x (by simp [hx]); exact ⟨this.1, by omega, .inl (by simp [hx])⟩
    · refine ⟨(q2 x hx).1, (q2 x hx).2.1, ((q2 x hx).2.2).imp (fun h => by simp [h]) id⟩
    · have := b x (by simp [hx]); exact ⟨this.1, by omega, .inl (by simp [hx])⟩
def flatP (L : List Bs) (k : Nat) (l : List PtrT) : List PtrT := l.flatMap (ptrs L k)
def AllWF (L : List Bs) (k : Nat) (l : List PtrT) : Prop := ∀ q ∈ l, WF L k q
theorem AllWF.mono {k : Nat} {l : List PtrT} (h : AllWF L k l) (X : List Bs) : AllWF (L ++ X) k l ∧ flatP (L ++ X) k l = flatP L k l :=
  ⟨fun q hq => ((h q hq).mono X).1, flatMap_same fun q hq => ((h q hq).mono X).2.2⟩
theorem AllWF.get {k : Nat} {l : List PtrT} (h : AllWF L k l) (j : Nat) : WF L k (l.getD j pD) := getD_memP (WF L k) h (WF.none k)
theorem AllWF.put {k : Nat} {l : List PtrT} {q : PtrT} (h : AllWF L k l) (hq : WF L k q) (i : Nat) : AllWF L k (l.set i q) := fun x hx => by
  rcases List.mem_or_eq_of_mem_set hx with h1 | rfl
  · exact h x h1
  · exact hq
theorem AllWF.blk {k : Nat} {l : List PtrT} (h : AllWF L k l) (X : List Bs) (j i : Nat) : blk (L ++ X) k (l.getD j pD) i = blk L k (l.getD j pD) i := ((h.get j).mono X).2.1 i
theorem flat_set {k i : Nat} {l : List PtrT} {q : PtrT} (X : List Bs) (h : AllWF L k l) (hi : i < l.length) (hw : Nw L (L ++ X) (ptrs L k (l.getD i pD)) (ptrs (L ++ X) k q)) : Nw L (L ++ X) (flatP L k l) (flatP (L ++ X) k (l.set i q)) := by
  have e1 : l = l.take i ++ l.getD i pD :: l.drop (i + 1) := by
    rw [List.getD_eq_getElem?_getD, List.getElem?_eq_getElem hi]; simp
  have e2 : l.set i q = l.take i ++ q :: l.drop (i + 1) := List.set_eq_take_append_cons_drop.trans (if_pos hi)
  have h1 : flatP L k l = flatP L k (l.take i) ++ ptrs L k (l.getD i pD) ++ flatP L k (l.drop (i + 1)) := by
    conv => lhs; rw [e1]
    simp [flatP]
  have h2 : flatP (L ++ X) k (l.set i q) = flatP (L ++ X) k (l.take i) ++ ptrs (L ++ X) k q ++ flatP (L ++ X) k (l.drop (i + 1)) := by
    rw [e2]; simp [flatP]
  have a1 : AllWF L k (l.take i) := fun x hx => h x (List.mem_of_mem_take hx)
  have a2 : AllWF L k (l.drop (i + 1)) := fun x hx => h x (List.mem_of_mem_drop hx)
  rw [h1, h2, (a1.mono X).2, (a2.mono X).2]
  exact Nw.mid (by simp) hw
theorem set_getDp {l : List PtrT} {i j : Nat} {q : PtrT} (hi : i < l.length) : (l.set i q).getD j pD = if j = i then q else l.getD j pD := by
  simp only [List.getD_eq_getElem?_getD, List.getElem?_set]
  by_cases h : j = i
  · subst h; simp [hi]
  · rw [if_neg (fun e => h e.symm), if_neg h]
/-- a new tree -/
structure Made (L L' : List Bs) (k : Nat) (P : List PtrT) (q : PtrT) : Prop where
  ext : ∃ X, L' = L ++ X
  wf : WF L' k q
  nw : Nw L L' P (ptrs L' k q)
theorem ptrs_flat {k : Nat} {p : PtrT} (h : WF L (k + 1) p) : (flatP L k (lnk L p)).Sublist (ptrs L (k + 1) p) := by
  by_cases hn : isNone p = true
  · have := none_iff.1 hn
    subst this
    rw [lnk_none, ptrs_none]
    simp [flatP, zs4, ptrs_none]
  · unfold ptrs
    rw [if_neg hn]
    exact List.sublist_cons_self _ _
theorem run_putM {k : Nat} {l : List PtrT} (h4 : l.length = 4) (hw : AllWF L k l) (hk : k + 1 ≤ 3) (hL : L.length + 1 ≤ 1000000) :
    ∃ q L', Run (putM memF l (k + 1)) L q L' ∧ L'.length ≤ L.length + 1 ∧ Made L L' (k + 1) (flatP L k l) q ∧ lnk L' q = l := by
  by_cases hz : l = zs4
  · refine ⟨pD, L, ?_, by omega, ⟨⟨[], by simp⟩, WF.none _, ?_⟩, ?_⟩
    · unfold putM; rw [if_pos hz]; exact Run.ret _
    · rw [ptrs_none]; exact Nw.nil _
    · rw [lnk_none, hz]
  · have hok : ∀ p ∈ l, ptrMay p = true ∧ p.wf := fun p hp => (hw p hp).ok (by omega) (by omega)
    obtain ⟨e1, e2, e3⟩ := index_back h4 hok
    have hm : (L ++ [indexText l])[L.length]? = some (indexText l) := by simp
    obtain ⟨m1, m2⟩ := hw.mono [indexText l]
    refine ⟨memP L.length 256 (k + 1), L ++ [indexText l], ?_, by simp, ⟨⟨_, rfl⟩, ?_, ?_⟩, ?_⟩
    · unfold putM
      rw [if_neg hz]
      have := run_put (L := L) (indexText l) (k + 1)
      rw [e1] at this
      exact this
    · exact .inr ⟨L.length, indexText l, hm, rfl, e1, e2, by rw [e3]; exact m1⟩
    · rw [ptrs_some hm, e3]
      show Nw L _ (flatP L k l) (memP L.length 256 (k + 1) :: flatP (L ++ [indexText l]) k l)
      rw [m2]
      intro n b
      refine ⟨List.nodup_cons.2 ⟨fun hx => ?_, n⟩, fun x hx => ?_⟩
      · have := (b _ hx).2
        simp [memP] at this
      · rcases List.mem_cons.1 hx with rfl | hx
        · refine ⟨by simp [memP], by simp [memP]; omega, .inr (by simp [memP])⟩
        · have := b x hx
          exact ⟨this.1, by simp; omega, .inl hx⟩
    · rw [lnk_some hm, e3]
theorem idx_lt {k i : Nat} (h : i < 4 ^ (k + 1)) : i / 4 ^ k < 4 := by
  rw [Nat.div_lt_iff_lt_mul (Nat.pow_pos (by omega)), Nat.mul_comm]; rw [Nat.pow_succ] at h; exact h
theorem idx_mod (k i : Nat) : i % 4 ^ k < 4 ^ k := Nat.mod_lt _ (Nat.pow_pos (by omega))
theorem idx_eq {k i j : Nat} (h1 : i / 4 ^ k = j / 4 ^ k) (h2 : i % 4 ^ k = j % 4 ^ k) : i = j := by
  rw [← Nat.div_add_mod i (4 ^ k), ← Nat.div_add_mod j (4 ^ k), h1, h2]
theorem run_set : ∀ {k : Nat} {L : List Bs} {p : PtrT} (i : Nat) (s : Bs), WF L k p → k ≤ 3 → i < 4 ^ k → s.length ≤ 256 → L.length + (k + 1) ≤ 1000000 →
    ∃ q L', Run (setM memF k p i s) L q L' ∧ L'.length ≤ L.length + (k + 1) ∧ Made L L' k (ptrs L k p) q ∧ ∀ j, j < 4 ^ k → blk L' k q j = if j = i then pad64 s else blk L k p j
  | 0, L, p, i, s, h, _, hi, hs, hL => by
    have hi0 : i = 0 := by simpa using hi
    subst hi0
    by_cases h0 : s = []
    · subst h0
      refine ⟨pD, L, ?_, by omega, ⟨⟨[], by simp⟩, WF.none _, ?_⟩, ?_⟩
      · unfold setM; rw [if_pos rfl]; exact Run.ret _
      · rw [ptrs_none]; exact Nw.nil _
      · intro j hj
        have : j = 0 := by simpa using hj
        rw [if_pos this, blk_none]; rfl
    · have hpos : 0 < s.length := List.length_pos_iff.2 h0
      have e : dataText s = pad64 s := by unfold dataText; rw [if_pos hs]
      have hl : (pad64 s).length = s.length + (64 - s.length % 64) % 64 := by simp [pad64, zeros]
      have hm : (L ++ [pad64 s])[L.length]? = some (pad64 s) := by simp
      refine ⟨memP L.length (pad64 s).length 0, L ++ [pad64 s], ?_, by simp, ⟨⟨_, rfl⟩, ?_, ?_⟩, ?_⟩
      · unfold setM; rw [if_neg h0, e]; exact run_put _ _
      · exact .inr ⟨L.length, pad64 s, hm, rfl, by omega, by omega, by omega⟩
      · rw [ptrs_some0]
        intro n b
        refine ⟨by simp, fun x hx => ?_⟩
        simp only [List.mem_cons, List.not_mem_nil, or_false] at hx
        subst hx
        refine ⟨by simp [memP], by simp [memP]; omega, .inr (by simp [memP])⟩
      · intro j hj
        have : j = 0 := by simpa using hj
        rw [if_pos this]; unfold blk; rw [dat_some hm]
  | k + 1, L, p, i, s, h, hk, hi, hs, hL => by
    have h4 := h.lnk4
    have hd := idx_lt hi
    obtain ⟨q, L1, r1, l1, m1, b1⟩ := run_set (i % 4 ^ k) s (h.kid (i / 4 ^ k)) (by omega) (idx_mod k i) hs (by omega)
    obtain ⟨X, rfl⟩ := m1.ext
    have hw1 : AllWF (L ++ X) k ((lnk L p).set (i / 4 ^ k) q) := AllWF.put (AllWF.mono h.kids X).1 m1.wf _
    obtain ⟨q2, L2, r2, l2, m2, b2⟩ := run_putM (l := (lnk L p).set (i / 4 ^ k) q) (by simp [h4]) hw1 hk (by omega)
    obtain ⟨Y, rfl⟩ := m2.ext
    refine ⟨q2, _, ?_, by omega, ⟨⟨X ++ Y, by simp⟩, m2.wf, ?_⟩, ?_⟩
    · unfold setM
      exact Run.bind (run_links h hk) (Run.bind r1 r2)
    · have a1 : Nw L (L ++ X) (flatP L k (lnk L p)) (flatP (L ++ X) k ((lnk L p).set (i / 4 ^ k) q)) := flat_set X h.kids (by omega) m1.nw
      exact Nw.trans (Nat.le_refl _) (Nw.sub (L' := L) (Nat.le_refl _) (ptrs_flat h)) (Nw.trans (by simp) a1 m2.nw)
    · intro j hj
      unfold blk
      rw [b2, hw1.blk Y, set_getDp (by omega)]
      by_cases hji : j / 4 ^ k = i / 4 ^ k
      · rw [if_pos hji, b1 _ (idx_mod k j)]
        by_cases he : j % 4 ^ k = i % 4 ^ k
        · rw [if_pos he, if_pos (idx_eq hji he)]
        · rw [if_neg he, if_neg (fun e => he (by rw [e])), hji]
      · rw [if_neg hji, if_neg (fun e => hji (by rw [e])), AllWF.blk h.kids X]
end
end Go.Proofs.YtbhofablndjeoaaDoor
/- Trees in the law's store: grown, written, read. -/
namespace Go.Proofs.YtbhofablndjeoaaDoor
set_option linter.unusedVariables false
theorem lvl_le3 (x : Int) : lvl x ≤ 3 := by unfold lvl; split <;> (try split) <;> (try split) <;> omega
theorem lvl_fit {x : Int} (h : x ≤ 16384) : x ≤ 256 * (4 ^ lvl x : Nat) := by
  unfold lvl
  split
  · simp; omega
  · split
    · simp; omega
    · split
      · simp; omega
      · simp; omega
theorem lvl_up {a b : Int} (h : a ≤ b) : lvl a ≤ lvl b := by
  unfold lvl
  repeat' split
  all_goals omega
theorem pow_up {a b : Nat} (h : a ≤ b) : 4 ^ a ≤ 4 ^ b := Nat.pow_le_pow_right (by omega) h
def byt (L : List Bs) (k : Nat) (p : PtrT) (j : Nat) : UInt8 := if j < 256 * 4 ^ k then gb (blk L k p (j / 256)) (j % 256) else 0
/-- an object's byte; 0 where there is none -/
def B (L : List Bs) (n : NodeT) (j : Nat) : UInt8 := byt L (lvl n.size) n.root j
structure NW (L : List Bs) (n : NodeT) : Prop where
  s0 : 0 ≤ n.size
  s1 : n.size ≤ 16384
  wf : WF L (lvl n.size) n.root
  tail : ∀ j : Nat, n.size ≤ j → B L n j = 0
  zero : n.size = 0 → n.root = pD
def nPtrs (L : List Bs) (n : NodeT) : List PtrT := ptrs L (lvl n.size) n.root
theorem NW.start (L : List Bs) : NW L nD := ⟨by decide, by decide, WF.none _, fun j _ => by
  show byt L (lvl 0) pD j = 0
  unfold byt
  rw [blk_none]; split <;> rfl, fun _ => rfl⟩
theorem B_start (L : List Bs) (j : Nat) : B L nD j = 0 := (NW.start L).tail j (by simp [nD])
theorem NW.mono {L : List Bs} {n : NodeT} (h : NW L n) (X : List Bs) : NW (L ++ X) n ∧ (∀ j, B (L ++ X) n j = B L n j) ∧ nPtrs (L ++ X) n = nPtrs L n := by
  obtain ⟨a, b, c⟩ := h.wf.mono X
  have e : ∀ j, B (L ++ X) n j = B L n j := fun j => by unfold B byt; rw [b]
  exact ⟨⟨h.s0, h.s1, a, fun j hj => by rw [e]; exact h.tail j hj, h.zero⟩, e, c⟩
section
variable {L : List Bs}
theorem run_grownTo : ∀ {k lv : Nat} {L : List Bs} {r : PtrT}, WF L lv r → lv + k ≤ 3 → L.length + k ≤ 1000000 →
    ∃ q L', Run (grownTo memF k lv r) L q L' ∧ L'.length ≤ L.length + k ∧ Made L L' (lv + k) (ptrs L lv r) q ∧ ∀ i, i < 4 ^ (lv + k) → blk L' (lv + k) q i = if i < 4 ^ lv then blk L lv r i else []
  | 0, lv, L, r, h, _, _ => ⟨r, L, Run.ret _, by omega, ⟨⟨[], by simp⟩, h, Nw.refl _ (Nat.le_refl _)⟩, fun i hi => by have hi' : i < 4 ^ lv := hi; rw [if_pos hi']; rfl⟩
  | k + 1, lv, L, r, h, hk, hL => by
    by_cases hn : isNone r = true
    · have := none_iff.1 hn
      subst this
      refine ⟨pD, L, ?_, by omega, ⟨⟨[], by simp⟩, WF.none _, ?_⟩, fun i _ => by rw [blk_none, blk_none]; simp⟩
      · unfold grownTo; rw [if_pos none_pD]; exact Run.ret _
      · rw [ptrs_none]; exact Nw.nil _
    · have hw : AllWF L lv [r, pD, pD, pD] := fun q hq => by
        simp only [List.mem_cons, List.not_mem_nil, or_false] at hq
        rcases hq with rfl | rfl | rfl | rfl
        · exact h
        · exact WF.none _
        · exact WF.none _
        · exact WF.none _
      obtain ⟨p, L1, r1, l1, m1, e1⟩ := run_putM (k := lv) (l := [r, pD, pD, pD]) rfl hw (by omega) (by omega)
      obtain ⟨X, rfl⟩ := m1.ext
      obtain ⟨q, L2, r2, l2, m2, b2⟩ := run_grownTo (k := k) m1.wf (by omega) (by omega)
      obtain ⟨Y, rfl⟩ := m2.ext
      have ee : lv + 1 + k = lv + (k + 1) := by omega
      have hf : flatP L lv [r, pD, pD, pD] = ptrs L lv r := by simp [flatP, ptrs_none]
      rw [ee] at m2 b2
      refine ⟨q, _, ?_, by omega, ⟨⟨X ++ Y, by simp⟩, m2.wf, ?_⟩, fun i hi => ?_⟩
      · unfold grownTo; rw [if_neg hn]; exact Run.bind r1 r2
      · have := m1.nw
        rw [hf] at this
        exact Nw.trans (by simp) this m2.nw
      · rw [b2 i hi]
        by_cases h1 : i < 4 ^ lv
        · have h2 : i < 4 ^ (lv + 1) := by rw [Nat.pow_succ]; omega
          rw [if_pos h1, if_pos h2]
          show blk (L ++ X) lv ((lnk (L ++ X) p).getD (i / 4 ^ lv) pD) (i % 4 ^ lv) = _
          rw [e1, Nat.div_eq_of_lt h1, Nat.mod_eq_of_lt h1]
          exact (h.mono X).2.1 i
        · rw [if_neg h1]
          by_cases h2 : i < 4 ^ (lv + 1)
          · rw [if_pos h2]
            show blk (L ++ X) lv ((lnk (L ++ X) p).getD (i / 4 ^ lv) pD) (i % 4 ^ lv) = _
            rw [e1]
            have h3 : i / 4 ^ lv ≠ 0 := fun h => h1 (by rw [Nat.div_eq_zero_iff] at h; rcases h with h | h; exact absurd h (Nat.pos_iff_ne_zero.1 (Nat.pow_pos (by omega))); exact h)
            have h4 : [r, pD, pD, pD].getD (i / 4 ^ lv) pD = pD := by
              generalize i / 4 ^ lv = j at h3
              match j, h3 with
              | 0, h3 => exact absurd rfl h3
              | 1, _ => rfl
              | 2, _ => rfl
              | 3, _ => rfl
              | j + 4, _ => rfl
            rw [h4, blk_none]
          · rw [if_neg h2]
/-- from an object to another one -/
structure To (L L' : List Bs) (n n' : NodeT) : Prop where
  ext : ∃ X, L' = L ++ X
  ok : NW L' n'
  nw : Nw L L' (nPtrs L n) (nPtrs L' n')
theorem run_grown {n : NodeT} {size : Int} (h : NW L n) (hs : size ≤ 16384) (hL : L.length + 3 ≤ 1000000) :
    ∃ n' L', Run (grownM memF n size) L n' L' ∧ L'.length ≤ L.length + 3 ∧ To L L' n n' ∧ n'.size = max n.size size ∧ ∀ j, B L' n' j = B L n j := by
  have hl : ∀ m : Int, lvl n.size ≤ lvl (max n.size m) := fun m => lvl_up (by omega)
  have hk : lvl n.size + (lvl size - lvl n.size) = lvl (max n.size size) := by
    by_cases hc : n.size ≤ size
    · have := lvl_up hc
      rw [Int.max_eq_right hc]; omega
    · have := lvl_up (show size ≤ n.size by omega)
      rw [Int.max_eq_left (by omega)]; omega
  have hle := lvl_le3 (max n.size size)
  obtain ⟨q, L', r1, l1, m1, b1⟩ := run_grownTo (k := lvl size - lvl n.size) h.wf (by omega) (by omega)
  rw [hk] at m1 b1
  have s0 := h.s0; have s1 := h.s1
  have hB : ∀ j, B L' ⟨max n.size size, q⟩ j = B L n j := fun j => by
    show byt L' (lvl (max n.size size)) q j = byt L (lvl n.size) n.root j
    unfold byt
    have hp := pow_up (hl size)
    by_cases h1 : j < 256 * 4 ^ lvl (max n.size size)
    · rw [if_pos h1, b1 _ (by omega)]
      by_cases h2 : j < 256 * 4 ^ lvl n.size
      · rw [if_pos h2, if_pos (by omega)]
      · rw [if_neg h2, if_neg (by omega)]; rfl
    · rw [if_neg h1, if_neg (by omega)]
  refine ⟨⟨max n.size size, q⟩, L', Run.bind r1 (Run.ret _), by omega, ⟨m1.ext, ⟨by show 0 ≤ max n.size size; omega, by show max n.size size ≤ 16384; omega, m1.wf, fun j hj => ?_, fun hz => ?_⟩, m1.nw⟩, rfl, hB⟩
  · rw [hB]; exact h.tail j (by have : max n.size size ≤ (j : Int) := hj; omega)
  · have hz' : max n.size size = 0 := hz
    have h0 := h.zero (by omega)
    have hw : WF L' (lvl (max n.size size)) q := m1.wf
    have e1 : lvl size - lvl n.size = 0 := by
      have := lvl_up (show size ≤ n.size by omega)
      omega
    obtain ⟨c', hc⟩ := r1 0
    rw [e1, h0] at hc
    have : grownTo memF 0 (lvl n.size) pD ⟨L, 0, 0⟩ = (.ok pD, ⟨L, 0, 0⟩) := rfl
    rw [this] at hc
    injection hc with hc _
    injection hc with hc
    exact hc.symm
theorem run_block {n : NodeT} (h : WF L (lvl n.size) n.root) (i : Nat) (hi : i < 64) : ∃ x, Run (blockM memF n i) L x L ∧ itemText x = if i < 4 ^ lvl n.size then blk L (lvl n.size) n.root i else [] := by
  by_cases hh : lvl n.size < 3 ∧ 4 ^ lvl n.size ≤ i
  · refine ⟨.hole, ?_, ?_⟩
    · unfold blockM; rw [if_pos hi, if_pos hh]; exact Run.ret _
    · rw [if_neg (by omega)]; rfl
  · have hlt : i < 4 ^ lvl n.size := by
      by_cases h3 : lvl n.size < 3
      · omega
      · have := lvl_le3 n.size
        have e : lvl n.size = 3 := by omega
        rw [e]; exact hi
    obtain ⟨q, r1, w1, d1⟩ := run_leaf i h (lvl_le3 _)
    obtain ⟨x, r2, e2, t2⟩ := run_item w1
    refine ⟨x, ?_, ?_⟩
    · unfold blockM; rw [if_pos hi, if_neg hh]
      exact Run.bind r1 (Run.bind r2 (Run.pure e2))
    · rw [if_pos hlt, t2, d1]
theorem byt_blk {k : Nat} {p : PtrT} {j : Nat} (h : j < 256 * 4 ^ k) : byt L k p j = gb (blk L k p (j / 256)) (j % 256) := if_pos h
theorem run_laid {n : NodeT} (h : WF L (lvl n.size) n.root) (i frm : Nat) (s : Bs) (hi : i < 4 ^ lvl n.size) (hs : frm + s.length ≤ 256) (hL : L.length + 4 ≤ 1000000) :
    ∃ n' L', Run (laidM memF n i frm s) L n' L' ∧ L'.length ≤ L.length + 4 ∧ n'.size = n.size ∧ Made L L' (lvl n.size) (nPtrs L n) n'.root ∧ ∀ j, B L' n' j = if i * 256 + frm ≤ j ∧ j < i * 256 + frm + s.length then gb s (j - (i * 256 + frm)) else B L n j := by
  have hl3 := lvl_le3 n.size
  have hp3 := pow_up hl3
  obtain ⟨x, r1, t1⟩ := run_block h i (by omega)
  rw [if_pos hi] at t1
  have hbl := h.blk_len i
  obtain ⟨q, L', r2, l2, m2, b2⟩ := run_set i (over (itemText x) frm s) h hl3 hi (by rw [over_len, t1]; omega) (by omega)
  refine ⟨⟨n.size, q⟩, L', Run.bind r1 (Run.bind r2 (Run.ret _)), by omega, rfl, m2, fun j => ?_⟩
  show byt L' (lvl n.size) q j = if _ then _ else byt L (lvl n.size) n.root j
  by_cases hj : j < 256 * 4 ^ lvl n.size
  · rw [byt_blk hj, byt_blk hj, b2 _ (by omega)]
    by_cases e : j / 256 = i
    · rw [if_pos e, gb_pad64, gb_over, t1, e]
      by_cases hc : frm ≤ j % 256 ∧ j % 256 < frm + s.length
      · rw [if_pos hc, if_pos (by omega)]; congr 1; omega
      · rw [if_neg hc, if_neg (by omega)]
    · rw [if_neg e, if_neg (by omega)]
  · unfold byt
    rw [if_neg hj, if_neg hj, if_neg (by omega)]
theorem run_writeTo : ∀ {f : Nat} {L : List Bs} {n : NodeT} (off : Nat) (s : Bs), WF L (lvl n.size) n.root → s.length < f → (off : Int) + s.length ≤ n.size → n.size ≤ 16384 → L.length + 4 * s.length ≤ 1000000 →
    ∃ n' L', Run (writeTo memF f n off s) L n' L' ∧ L'.length ≤ L.length + 4 * s.length ∧ n'.size = n.size ∧ Made L L' (lvl n.size) (nPtrs L n) n'.root ∧ ∀ j, B L' n' j = if off ≤ j ∧ j < off + s.length then gb s (j - off) else B L n j
  | 0, L, n, off, s, h, hf, _, _, _ => by omega
  | f + 1, L, n, off, s, h, hf, ho, hm, hL => by
    by_cases h0 : s = []
    · subst h0
      refine ⟨n, L, ?_, by omega, rfl, ⟨⟨[], by simp⟩, h, Nw.refl _ (Nat.le_refl _)⟩, fun j => by rw [if_neg (by simp only [List.length_nil]; omega)]⟩
      unfold writeTo; rw [if_pos rfl]; exact Run.ret _
    · have hpos : 0 < s.length := List.length_pos_iff.2 h0
      obtain ⟨m, hmm⟩ : ∃ m, m = min s.length (256 - off % 256) := ⟨_, rfl⟩
      have hfit := lvl_fit hm
      have htl : (s.take m).length = m := by simp; omega
      obtain ⟨n1, L1, r1, l1, z1, m1, b1⟩ := run_laid h (off / 256) (off % 256) (s.take m) (by omega) (by rw [htl]; omega) (by omega)
      obtain ⟨X, rfl⟩ := m1.ext
      obtain ⟨n2, L2, r2, l2, z2, m2, b2⟩ := run_writeTo (f := f) (n := n1) (off + m) (s.drop m) (by rw [z1]; exact m1.wf) (by simp; omega) (by rw [z1]; simp; omega) (by rw [z1]; exact hm) (by simp at l1 ⊢; omega)
      obtain ⟨Y, rfl⟩ := m2.ext
      rw [z1] at m2 z2
      refine ⟨n2, _, ?_, ?_, z2, ⟨⟨X ++ Y, by simp⟩, m2.wf, ?_⟩, fun j => ?_⟩
      · unfold writeTo
        rw [if_neg h0, ← hmm]
        exact Run.bind r1 r2
      · simp at l1 l2 ⊢; omega
      · have e : nPtrs (L ++ X) n1 = ptrs (L ++ X) (lvl n.size) n1.root := by unfold nPtrs; rw [z1]
        have := m2.nw
        rw [e] at this
        exact Nw.trans (by simp) m1.nw this
      · rw [b2, b1, htl]
        have hd : (s.drop m).length = s.length - m := by simp
        rw [hd]
        by_cases c1 : off + m ≤ j ∧ j < off + m + (s.length - m)
        · rw [if_pos c1, if_pos (by omega), gb_drop]; congr 1; omega
        · rw [if_neg c1]
          by_cases c2 : off / 256 * 256 + off % 256 ≤ j ∧ j < off / 256 * 256 + off % 256 + m
          · rw [if_pos c2, if_pos (by omega), gb_take, if_pos (by omega)]; congr 1; omega
          · rw [if_neg c2, if_neg (by omega)]
theorem run_write {n : NodeT} (h : NW L n) (off : Int) (s : Bs) (h0 : 0 ≤ off) (h1 : off + s.length ≤ 16384) (hL : L.length + 100000 ≤ 1000000) :
    ∃ n' L', Run (writeM memF n off s) L n' L' ∧ L'.length ≤ L.length + 100000 ∧ To L L' n n' ∧ n'.size = (if s = [] then n.size else max n.size (off + s.length)) ∧ ∀ j, B L' n' j = if off.toNat ≤ j ∧ j < off.toNat + s.length then gb s (j - off.toNat) else B L n j := by
  have hsl : s.length ≤ 16384 := by omega
  by_cases hs : s = []
  · subst hs
    refine ⟨n, L, ?_, by omega, ⟨⟨[], by simp⟩, h, Nw.refl _ (Nat.le_refl _)⟩, by rw [if_pos rfl], fun j => by rw [if_neg (by simp only [List.length_nil]; omega)]⟩
    unfold writeM; rw [if_neg (by simp; simp at h1; omega), if_pos rfl]; exact Run.ret _
  · have hpos : 0 < s.length := List.length_pos_iff.2 hs
    obtain ⟨n1, L1, r1, l1, t1, z1, b1⟩ := run_grown (size := off + s.length) h h1 (by omega)
    have s0 := h.s0; have s1 := h.s1
    obtain ⟨X, rfl⟩ := t1.ext
    obtain ⟨n2, L2, r2, l2, z2, m2, b2⟩ := run_writeTo (f := s.length + 1) off.toNat s t1.ok.wf (by omega) (by rw [z1]; omega) (by rw [z1]; omega) (by omega)
    obtain ⟨Y, rfl⟩ := m2.ext
    have hB : ∀ j, B (L ++ X ++ Y) n2 j = if off.toNat ≤ j ∧ j < off.toNat + s.length then gb s (j - off.toNat) else B L n j := fun j => by rw [b2, b1]
    rw [z1] at z2
    refine ⟨n2, _, ?_, by omega, ⟨⟨X ++ Y, by simp⟩, ⟨by rw [z2]; omega, by rw [z2]; omega, ?_, fun j hj => ?_, fun hz => by omega⟩, ?_⟩, by rw [if_neg hs]; exact z2, hB⟩
    · unfold writeM
      rw [if_neg (by omega), if_neg hs]
      exact Run.bind r1 r2
    · rw [z2, ← z1]; exact m2.wf
    · rw [z2] at hj
      rw [hB, if_neg (by omega)]; exact h.tail j (by omega)
    · have e : nPtrs (L ++ X ++ Y) n2 = ptrs (L ++ X ++ Y) (lvl n1.size) n2.root := by unfold nPtrs; rw [z2, z1]
      rw [e]
      exact Nw.trans (by simp) t1.nw m2.nw
/-- the bytes from a to b -/
def segB (L : List Bs) (n : NodeT) (a b : Nat) : Bs := (List.range' a (b - a)).map (B L n)
theorem seg_app (n : NodeT) {a b c : Nat} (h1 : a ≤ b) (h2 : b ≤ c) : segB L n a b ++ segB L n b c = segB L n a c := by
  unfold segB
  rw [← List.map_append]
  congr 1
  have := List.range'_append (s := a) (m := b - a) (n := c - b) (step := 1)
  rw [show c - a = (b - a) + (c - b) by omega, ← this]
  congr 2; omega
theorem seg_nil (n : NodeT) {a b : Nat} (h : b ≤ a) : segB L n a b = [] := by unfold segB; rw [show b - a = 0 by omega]; rfl
theorem seg_len (n : NodeT) (a b : Nat) : (segB L n a b).length = b - a := by simp [segB]
theorem seg_gb (n : NodeT) {a b j : Nat} (h : j < b - a) : gb (segB L n a b) j = B L n (a + j) := by
  rw [gb_at (by rw [seg_len]; exact h)]
  simp [segB]
theorem eq_gb {a b : Bs} (hl : a.length = b.length) (h : ∀ j, j < a.length → gb a j = gb b j) : a = b := by
  apply List.ext_getElem hl
  intro j h1 h2
  have := h j h1
  rw [gb_at h1, gb_at h2] at this
  exact this
theorem run_readTo {n : NodeT} (h : WF L (lvl n.size) n.root) (hs : n.size ≤ 16384) (off till : Nat) (ht : (till : Int) ≤ n.size) : ∀ {f i : Nat} (out : Bs), till ≤ 256 * (i + f) → off / 256 ≤ i →
    Run (readTo memF n off till f i out) L (out ++ segB L n (max off (i * 256)) till) L
  | 0, i, out, hf, hi => by
    rw [seg_nil n (by omega), List.append_nil]; exact Run.ret _
  | f + 1, i, out, hf, hi => by
    have hfit := lvl_fit hs
    have hl3 := lvl_le3 n.size
    have hp3 := pow_up hl3
    unfold readTo
    by_cases hlt : i * 256 < till
    · rw [if_pos hlt]
      have hi64 : i < 4 ^ lvl n.size := by omega
      obtain ⟨x, r1, t1⟩ := run_block h i (by omega)
      rw [if_pos hi64] at t1
      have hbl := (h.blk_len i).1
      have hby : Run (bytesM memF n i) L (itemText x ++ zeros (256 - (itemText x).length)) L := Run.bind r1 (Run.ret _)
      refine Run.bind hby ?_
      have ih := run_readTo h hs off till ht (f := f) (i := i + 1) (out ++ piece (itemText x ++ zeros (256 - (itemText x).length)) off till i) (by omega) (by omega)
      have e : out ++ piece (itemText x ++ zeros (256 - (itemText x).length)) off till i ++ segB L n (max off ((i + 1) * 256)) till = out ++ segB L n (max off (i * 256)) till := by
        rw [List.append_assoc]
        congr 1
        have hpl : (itemText x ++ zeros (256 - (itemText x).length)).length = 256 := by rw [t1]; simp [zeros]; omega
        have hps : piece (itemText x ++ zeros (256 - (itemText x).length)) off till i = segB L n (max off (i * 256)) (min till ((i + 1) * 256)) := by
          apply eq_gb
          · rw [seg_len]; unfold piece; rw [List.length_drop, List.length_take, hpl]; omega
          · intro j hj
            unfold piece at hj ⊢
            rw [List.length_drop, List.length_take, hpl] at hj
            rw [gb_drop, gb_take, if_pos (by omega), gb_pad, t1, seg_gb n (by omega)]
            show _ = byt L (lvl n.size) n.root _
            rw [byt_blk (by omega)]
            have e1 : (max off (i * 256) + j) / 256 = i := by omega
            rw [e1]; congr 1; omega
        rw [hps]
        by_cases hc : till ≤ (i + 1) * 256
        · rw [seg_nil n (show till ≤ max off ((i + 1) * 256) by omega), List.append_nil, Nat.min_eq_left hc]
        · rw [Nat.min_eq_right (by omega), Nat.max_eq_right (show off ≤ (i + 1) * 256 by omega)]
          exact seg_app n (by omega) (by omega)
      rw [e] at ih
      exact ih
    · rw [if_neg hlt, seg_nil n (by omega), List.append_nil]; exact Run.ret _
theorem run_read {n : NodeT} (h : WF L (lvl n.size) n.root) (hs : n.size ≤ 16384) (off size : Int) (h0 : 0 ≤ off) (h1 : 0 ≤ size) :
    Run (readM memF n off size) L (segB L n off.toNat (min (off + size) n.size).toNat) L := by
  unfold readM
  rw [if_neg (by omega)]
  by_cases hc : n.size ≤ off
  · rw [if_pos hc, seg_nil n (by omega)]; exact Run.ret _
  · rw [if_neg hc]
    have e : (off + min size (n.size - off)).toNat = (min (off + size) n.size).toNat := by omega
    rw [e]
    have := run_readTo h hs off.toNat (min (off + size) n.size).toNat (by omega) (f := 66) (i := off.toNat / 256) [] (by omega) (Nat.le_refl _)
    rw [show max off.toNat (off.toNat / 256 * 256) = off.toNat by omega, List.nil_append] at this
    exact this
end
end Go.Proofs.YtbhofablndjeoaaDoor
/- Trees in the law's store: cut, and all pointers. -/
namespace Go.Proofs.YtbhofablndjeoaaDoor
set_option linter.unusedVariables false
/-- so many blocks at most a cut lays -/
def cc : Nat → Nat
  | 0 => 0
  | k + 1 => 4 * cc k + 1
section
variable {L : List Bs}
theorem Made.mono {L L1 : List Bs} {k : Nat} {P : List PtrT} {q : PtrT} (h : Made L L1 k P q) (X : List Bs) : Made L (L1 ++ X) k P q := by
  obtain ⟨⟨Y, rfl⟩, h2, h3⟩ := h
  obtain ⟨a, b, c⟩ := h2.mono X
  refine ⟨⟨Y ++ X, by simp⟩, a, ?_⟩
  rw [c]
  exact Nw.trans (by simp) h3 (Nw.refl _ (by simp))
theorem run_cutL {f : PtrT → Int → M MemT PtrT} {kk : Nat} (hf : ∀ {L : List Bs} {p : PtrT} (b : Int), WF L kk p → L.length + cc kk ≤ 1000000 → ∃ q L', Run (f p b) L q L' ∧ L'.length ≤ L.length + cc kk ∧ Made L L' kk (ptrs L kk p) q ∧ ∀ i : Nat, i < 4 ^ kk → blk L' kk q i = if (i : Int) < b then blk L kk p i else []) (b : Int) :
    ∀ {c k : Nat} {L : List Bs} {l : List PtrT}, l.length = 4 → k + c = 4 → AllWF L kk l → L.length + c * cc kk ≤ 1000000 →
    ∃ l' L', Run (cutL f (4 ^ kk) b c k l) L l' L' ∧ L'.length ≤ L.length + c * cc kk ∧ (∃ X, L' = L ++ X) ∧ l'.length = 4 ∧ AllWF L' kk l' ∧ Nw L L' (flatP L kk l) (flatP L' kk l') ∧
      ∀ j i : Nat, j < 4 → i < 4 ^ kk → blk L' kk (l'.getD j pD) i = if k ≤ j then (if (i : Int) < b - (j : Int) * ((4 ^ kk : Nat) : Int) then blk L kk (l.getD j pD) i else []) else blk L kk (l.getD j pD) i
  | 0, k, L, l, h4, hk, hw, hL => ⟨l, L, Run.ret _, by omega, ⟨[], by simp⟩, h4, hw, Nw.refl _ (Nat.le_refl _), fun j i hj hi => by rw [if_neg (by omega)]⟩
  | c + 1, k, L, l, h4, hk, hw, hL => by
    have ec : (c + 1) * cc kk = c * cc kk + cc kk := Nat.succ_mul _ _
    obtain ⟨q, L1, r1, l1, m1, b1⟩ := hf (b - (k : Int) * ((4 ^ kk : Nat) : Int)) (hw.get k) (by omega)
    obtain ⟨X, rfl⟩ := m1.ext
    have hw1 : AllWF (L ++ X) kk (l.set k q) := AllWF.put (hw.mono X).1 m1.wf k
    obtain ⟨l2, L2, r2, l2l, ⟨Y, rfl⟩, h42, hw2, nw2, b2⟩ := run_cutL hf b (c := c) (k := k + 1) (L := L ++ X) (l := l.set k q) (by simp [h4]) (by omega) hw1 (by omega)
    refine ⟨l2, _, Run.bind r1 r2, by omega, ⟨X ++ Y, by simp⟩, h42, hw2, ?_, fun j i hj hi => ?_⟩
    · exact Nw.trans (by simp) (flat_set X hw (by omega) m1.nw) nw2
    · rw [b2 j i hj hi, set_getDp (by omega)]
      by_cases e : j = k
      · subst e
        rw [if_neg (show ¬ j + 1 ≤ j by omega), if_pos rfl, if_pos (Nat.le_refl _), b1 i hi]
      · rw [if_neg e, AllWF.blk hw X]
        by_cases h1 : k + 1 ≤ j
        · rw [if_pos h1, if_pos (show k ≤ j by omega)]
        · rw [if_neg h1, if_neg (show ¬ k ≤ j by omega)]
theorem run_cut : ∀ {k : Nat} {L : List Bs} {p : PtrT} (b : Int), WF L k p → k ≤ 3 → L.length + cc k ≤ 1000000 →
    ∃ q L', Run (cutM memF k p b) L q L' ∧ L'.length ≤ L.length + cc k ∧ Made L L' k (ptrs L k p) q ∧ ∀ i : Nat, i < 4 ^ k → blk L' k q i = if (i : Int) < b then blk L k p i else []
  | 0, L, p, b, h, _, _ => by
    unfold cutM
    by_cases hc : b ≤ 0 ∨ isNone p = true
    · refine ⟨pD, L, by rw [if_pos hc]; exact Run.ret _, by omega, ⟨⟨[], by simp⟩, WF.none _, by rw [ptrs_none]; exact Nw.nil _⟩, fun i hi => ?_⟩
      rw [blk_none]
      rcases hc with hc | hc
      · rw [if_neg (by omega)]
      · rw [none_iff.1 hc, blk_none]; simp
    · refine ⟨p, L, by rw [if_neg hc]; exact Run.ret _, by omega, ⟨⟨[], by simp⟩, h, Nw.refl _ (Nat.le_refl _)⟩, fun i hi => ?_⟩
      have : i = 0 := by simpa using hi
      rw [if_pos (by omega)]
  | k + 1, L, p, b, h, hk, hL => by
    unfold cutM
    by_cases hc : b ≤ 0 ∨ isNone p = true
    · refine ⟨pD, L, by rw [if_pos hc]; exact Run.ret _, by omega, ⟨⟨[], by simp⟩, WF.none _, by rw [ptrs_none]; exact Nw.nil _⟩, fun i hi => ?_⟩
      rw [blk_none]
      rcases hc with hc | hc
      · rw [if_neg (by omega)]
      · rw [none_iff.1 hc, blk_none]; simp
    · by_cases hb : ((4 ^ (k + 1) : Nat) : Int) ≤ b
      · refine ⟨p, L, by rw [if_neg hc, if_pos hb]; exact Run.ret _, by omega, ⟨⟨[], by simp⟩, h, Nw.refl _ (Nat.le_refl _)⟩, fun i hi => ?_⟩
        rw [if_pos (by omega)]
      · have ec : cc (k + 1) = 4 * cc k + 1 := rfl
        obtain ⟨l', L1, r1, l1, ⟨X, rfl⟩, h4, hw1, nw1, b1⟩ := run_cutL (f := cutM memF k) (kk := k) (fun b h hL => run_cut b h (by omega) hL) b (c := 4) (k := 0) h.lnk4 rfl h.kids (by omega)
        have hb0 : ∀ i : Nat, i < 4 ^ (k + 1) → blk (L ++ X) k (l'.getD (i / 4 ^ k) pD) (i % 4 ^ k) = if (i : Int) < b then blk L (k + 1) p i else [] := fun i hi => by
          rw [b1 _ _ (idx_lt hi) (idx_mod k i), if_pos (Nat.zero_le _)]
          have e := Nat.div_add_mod i (4 ^ k)
          have e2 : ((i % 4 ^ k : Nat) : Int) < b - ((i / 4 ^ k : Nat) : Int) * ((4 ^ k : Nat) : Int) ↔ (i : Int) < b := by
            have : (i : Int) = ((4 ^ k : Nat) : Int) * ((i / 4 ^ k : Nat) : Int) + ((i % 4 ^ k : Nat) : Int) := by
              rw [← Int.natCast_mul, ← Int.natCast_add, e]
            rw [Int.mul_comm] at this
            omega
          by_cases h1 : (i : Int) < b
          · rw [if_pos h1, if_pos (e2.2 h1)]; rfl
          · rw [if_neg h1, if_neg (fun h => h1 (e2.1 h))]
        by_cases he : l' = lnk L p
        · obtain ⟨w1, w2, w3⟩ := h.mono X
          refine ⟨p, L ++ X, ?_, by omega, ⟨⟨X, rfl⟩, w1, by rw [w3]; exact Nw.refl _ (by simp)⟩, fun i hi => ?_⟩
          · rw [if_neg hc, if_neg hb]
            refine Run.bind (run_links h hk) (Run.bind r1 ?_)
            rw [if_pos he]; exact Run.ret _
          · rw [← hb0 i hi, w2, he, AllWF.blk h.kids X]; rfl
        · obtain ⟨q, L2, r2, l2, m2, e2⟩ := run_putM h4 hw1 hk (by omega)
          obtain ⟨Y, rfl⟩ := m2.ext
          refine ⟨q, _, ?_, by omega, ⟨⟨X ++ Y, by simp⟩, m2.wf, ?_⟩, fun i hi => ?_⟩
          · rw [if_neg hc, if_neg hb]
            refine Run.bind (run_links h hk) (Run.bind r1 ?_)
            rw [if_neg he]; exact r2
          · exact Nw.trans (Nat.le_refl _) (Nw.sub (L' := L) (Nat.le_refl _) (ptrs_flat h)) (Nw.trans (by simp) nw1 m2.nw)
          · rw [← hb0 i hi]
            show blk _ k ((lnk _ q).getD (i / 4 ^ k) pD) (i % 4 ^ k) = _
            rw [e2, hw1.blk Y]
theorem run_lowered : ∀ {k t : Nat} {p : PtrT}, WF L (t + k) p → t + k ≤ 3 → ∃ q, Run (loweredM memF k p) L q L ∧ WF L t q ∧ (ptrs L t q).Sublist (ptrs L (t + k) p) ∧ ∀ i, i < 4 ^ t → blk L t q i = blk L (t + k) p i
  | 0, t, p, h, hk => ⟨p, Run.ret _, h, List.Sublist.refl _, fun i _ => rfl⟩
  | k + 1, t, p, h, hk => by
    by_cases hn : isNone p = true
    · have := none_iff.1 hn
      subst this
      refine ⟨pD, ?_, WF.none _, by rw [ptrs_none]; exact List.nil_sublist _, fun i hi => by rw [blk_none, blk_none]⟩
      unfold loweredM; rw [if_pos none_pD]; exact Run.ret _
    · have h' : WF L (t + k + 1) p := h
      obtain ⟨q, r1, w1, p1, b1⟩ := run_lowered (k := k) (t := t) (h'.kid 0) (by omega)
      refine ⟨q, ?_, w1, ?_, fun i hi => ?_⟩
      · unfold loweredM; rw [if_neg hn]; exact Run.bind (run_links h' (by omega)) r1
      · refine p1.trans (List.Sublist.trans ?_ (ptrs_flat h'))
        obtain ⟨a, b, c, d, e⟩ := of_four h'.lnk4
        rw [e]
        simp [flatP]
      · rw [b1 i hi]
        have hlt : i < 4 ^ (t + k) := Nat.lt_of_lt_of_le hi (pow_up (by omega))
        show _ = blk L (t + k) ((lnk L p).getD (i / 4 ^ (t + k)) pD) (i % 4 ^ (t + k))
        rw [Nat.div_eq_of_lt hlt, Nat.mod_eq_of_lt hlt]
theorem gb_zero {s : Bs} (h : allZero s = true) (j : Nat) : gb s j = 0 := by
  by_cases hj : j < s.length
  · rw [gb_at hj]
    simp only [allZero, List.all_eq_true] at h
    simpa using h _ (List.getElem_mem hj)
  · exact gb_out (by omega)
theorem run_trimmed {n : NodeT} (h : WF L (lvl n.size) n.root) (h0 : 0 ≤ n.size) (h1 : n.size ≤ 16384) (hL : L.length + 4 ≤ 1000000) (hb : ∀ i : Nat, (n.size + 255) / 256 ≤ (i : Int) → i < 4 ^ lvl n.size → blk L (lvl n.size) n.root i = []) :
    ∃ n' L', Run (trimmedM memF n) L n' L' ∧ L'.length ≤ L.length + 4 ∧ n'.size = n.size ∧ Made L L' (lvl n.size) (nPtrs L n) n'.root ∧ (n.root = pD → n.size = 0 → n'.root = pD) ∧ ∀ j : Nat, B L' n' j = if (j : Int) < n.size then B L n j else 0 := by
  obtain ⟨m, hm⟩ : ∃ m : Nat, n.size = m := ⟨n.size.toNat, by omega⟩
  have hmt : n.size.toNat = m := by omega
  have hfit := lvl_fit h1
  have hl3 := lvl_le3 n.size
  have hp3 := pow_up hl3
  have hout : ∀ j : Nat, m ≤ j → j / 256 ≠ m / 256 ∨ m % 256 = 0 → B L n j = 0 := fun j hj hc => by
    show byt L (lvl n.size) n.root j = 0
    unfold byt
    split
    · rw [hb _ (by omega) (by omega)]; rfl
    · rfl
  unfold trimmedM
  rw [hmt]
  by_cases h2 : m % 256 = 0
  · refine ⟨n, L, by rw [if_pos h2]; exact Run.ret _, by omega, rfl, ⟨⟨[], by simp⟩, h, Nw.refl _ (Nat.le_refl _)⟩, fun h _ => h, fun j => ?_⟩
    by_cases hj : (j : Int) < n.size
    · rw [if_pos hj]
    · rw [if_neg hj]; exact hout j (by omega) (.inr h2)
  · have hi : m / 256 < 4 ^ lvl n.size := by omega
    obtain ⟨x, r1, t1⟩ := run_block h (m / 256) (by omega)
    rw [if_pos hi] at t1
    rw [if_neg h2]
    by_cases hc : (itemText x).length ≤ m % 256 ∨ allZero ((itemText x).drop (m % 256)) = true
    · refine ⟨n, L, ?_, by omega, rfl, ⟨⟨[], by simp⟩, h, Nw.refl _ (Nat.le_refl _)⟩, fun h _ => h, fun j => ?_⟩
      · refine Run.bind r1 ?_
        rw [if_pos hc]; exact Run.ret _
      · by_cases hj : (j : Int) < n.size
        · rw [if_pos hj]
        · rw [if_neg hj]
          by_cases he : j / 256 = m / 256
          · show byt L (lvl n.size) n.root j = 0
            unfold byt
            split
            · rw [he, ← t1]
              rcases hc with hc | hc
              · exact gb_out (by omega)
              · have := gb_zero hc (j % 256 - m % 256)
                rw [gb_drop] at this
                rw [← this]; congr 1; omega
            · rfl
          · exact hout j (by omega) (.inl he)
    · obtain ⟨q, L', r2, l2, m2, b2⟩ := run_set (m / 256) ((itemText x).take (m % 256)) h hl3 hi (by simp; omega) (by omega)
      refine ⟨⟨n.size, q⟩, L', ?_, by omega, rfl, m2, fun _ hz => by omega, fun j => ?_⟩
      · refine Run.bind r1 ?_
        rw [if_neg hc]; exact Run.bind r2 (Run.ret _)
      · show byt L' (lvl n.size) q j = if _ then byt L (lvl n.size) n.root j else 0
        by_cases hj : j < 256 * 4 ^ lvl n.size
        · rw [byt_blk hj, byt_blk hj, b2 _ (by omega)]
          by_cases he : j / 256 = m / 256
          · rw [if_pos he, gb_pad64, gb_take, t1, he]
            by_cases hlt : (j : Int) < n.size
            · rw [if_pos hlt, if_pos (by omega)]
            · rw [if_neg hlt, if_neg (by omega)]
          · rw [if_neg he]
            by_cases hlt : (j : Int) < n.size
            · rw [if_pos hlt]
            · rw [if_neg hlt, hb _ (by omega) (by omega)]; rfl
        · unfold byt
          rw [if_neg hj, if_neg hj]; simp
theorem cc_le {k : Nat} (h : k ≤ 3) : cc k ≤ 21 := by
  have : k = 0 ∨ k = 1 ∨ k = 2 ∨ k = 3 := by omega
  rcases this with rfl | rfl | rfl | rfl <;> decide
theorem run_trunc {n : NodeT} (h : NW L n) (size : Int) (h0 : 0 ≤ size) (h1 : size ≤ 16384) (hL : L.length + 100 ≤ 1000000) :
    ∃ n' L', Run (truncM memF n size) L n' L' ∧ L'.length ≤ L.length + 100 ∧ To L L' n n' ∧ n'.size = size ∧ ∀ j : Nat, B L' n' j = if (j : Int) < size then B L n j else 0 := by
  have s0 := h.s0
  unfold truncM
  rw [if_neg (by omega)]
  by_cases hc : n.size ≤ size
  · rw [if_pos hc]
    obtain ⟨n', L', r, l, t, z, b⟩ := run_grown (size := size) h h1 (by omega)
    refine ⟨n', L', r, by omega, t, by rw [z]; omega, fun j => ?_⟩
    rw [b]
    by_cases hj : (j : Int) < size
    · rw [if_pos hj]
    · rw [if_neg hj]; exact h.tail j (by omega)
  · rw [if_neg hc]
    have hle := lvl_up (show size ≤ n.size by omega)
    have hl3 := lvl_le3 n.size
    obtain ⟨k, hk⟩ : ∃ k, lvl n.size = lvl size + k := ⟨lvl n.size - lvl size, by omega⟩
    have hwf := h.wf
    rw [hk] at hwf
    obtain ⟨p, r1, w1, p1, b1⟩ := run_lowered (k := k) (t := lvl size) hwf (by omega)
    have hcc := cc_le (show lvl size ≤ 3 by omega)
    obtain ⟨q, L2, r2, l2, m2, b2⟩ := run_cut ((size + 255) / 256) w1 (by omega) (by omega)
    obtain ⟨X, rfl⟩ := m2.ext
    obtain ⟨n', L3, r3, l3, z3, m3, e3, b3⟩ := run_trimmed (n := ⟨size, q⟩) m2.wf h0 h1 (by omega) (fun i hi hlt => by
      show blk (L ++ X) (lvl size) q i = []
      have hi' : (size + 255) / 256 ≤ (i : Int) := hi
      rw [b2 i hlt, if_neg (by omega)])
    obtain ⟨Y, rfl⟩ := m3.ext
    have z3' : n'.size = size := z3
    have hfit := lvl_fit h1
    have hB : ∀ j : Nat, B (L ++ X ++ Y) n' j = if (j : Int) < size then B L n j else 0 := fun j => by
      rw [b3]
      show (if (j : Int) < size then byt (L ++ X) (lvl size) q j else 0) = _
      by_cases hj : (j : Int) < size
      · rw [if_pos hj, if_pos hj]
        have hj1 : j < 256 * 4 ^ lvl size := by omega
        have hj2 : j < 256 * 4 ^ lvl n.size := Nat.lt_of_lt_of_le hj1 (Nat.mul_le_mul_left _ (pow_up hle))
        show _ = byt L (lvl n.size) n.root j
        rw [byt_blk hj1, byt_blk hj2, b2 _ (by omega), if_pos (by omega), b1 _ (by omega), hk]
      · rw [if_neg hj, if_neg hj]
    refine ⟨n', _, ?_, by omega, ⟨⟨X ++ Y, by simp⟩, ⟨by omega, by omega, by rw [z3']; exact m3.wf, fun j hj => by rw [hB, if_neg (by omega)], fun hz => ?_⟩, ?_⟩, z3', hB⟩
    · rw [show lvl n.size - lvl size = k by omega]
      exact Run.bind r1 (Run.bind r2 r3)
    · have hs0 : size = 0 := by omega
      refine e3 ?_ hs0
      show q = pD
      subst hs0
      obtain ⟨c', hcc⟩ := r2 0
      have : cutM memF (lvl 0) p ((0 + 255) / 256) ⟨L, 0, 0⟩ = (.ok pD, ⟨L, 0, 0⟩) := by
        show cutM memF 0 p 0 _ = _
        unfold cutM; rw [if_pos (.inl (by omega))]; rfl
      rw [this] at hcc
      injection hcc with hcc _
      injection hcc with hcc
      exact hcc.symm
    · have e : nPtrs (L ++ X ++ Y) n' = ptrs (L ++ X ++ Y) (lvl size) n'.root := by unfold nPtrs; rw [z3']
      rw [e]
      have a1 : Nw L L (nPtrs L n) (ptrs L (lvl size) p) := by
        unfold nPtrs; rw [hk]; exact Nw.sub (Nat.le_refl _) p1
      exact Nw.trans (Nat.le_refl _) a1 (Nw.trans (by simp) m2.nw m3.nw)
theorem run_allL {f : PtrT → List PtrT → M MemT (List PtrT)} {k : Nat} (hf : ∀ {p : PtrT} (out : List PtrT), WF L k p → Run (f p out) L (out ++ ptrs L k p) L) : ∀ {l : List PtrT} (out : List PtrT), AllWF L k l → Run (allL f ((k + 1 : Nat) : Int) l out) L (out ++ flatP L k l) L
  | [], out, _ => by simp only [flatP, List.flatMap_nil, List.append_nil]; exact Run.ret _
  | x :: r, out, h => by
    have hx := h x (by simp)
    have e : out ++ flatP L k (x :: r) = out ++ ptrs L k x ++ flatP L k r := by simp [flatP]
    rw [e]
    unfold allL
    rw [if_neg (fun hc => hc.2 (by rw [hx.level (by simpa using hc.1)]; omega))]
    exact Run.bind (hf out hx) (run_allL hf _ (fun q hq => h q (List.mem_cons_of_mem _ hq)))
theorem run_all : ∀ {k : Nat} {p : PtrT} (out : List PtrT), WF L k p → k ≤ 3 → Run (allM memF (k + 1) p out) L (out ++ ptrs L k p) L
  | k, p, out, h, hk => by
    unfold allM
    by_cases hn : isNone p = true
    · have := none_iff.1 hn
      subst this
      rw [if_pos none_pD, ptrs_none, List.append_nil]; exact Run.ret _
    · have hlv := h.level (by simpa using hn)
      rw [if_neg hn]
      cases k with
      | zero =>
        rw [if_pos (by rw [hlv]; rfl)]
        unfold ptrs
        rw [if_neg hn]; exact Run.ret _
      | succ k =>
        rw [if_neg (by rw [hlv]; omega)]
        refine Run.bind (run_links h hk) ?_
        rw [hlv]
        have e : out ++ ptrs L (k + 1) p = out ++ [p] ++ flatP L k (lnk L p) := by
          conv => lhs; unfold ptrs
          rw [if_neg hn]; simp [flatP]
        rw [e]
        exact run_allL (fun out h => run_all out h (by omega)) _ h.kids
end
end Go.Proofs.YtbhofablndjeoaaDoor
/- Trees in the law's store: what a run costs at most, and a store that fails. -/
namespace Go.Proofs.YtbhofablndjeoaaDoor
set_option linter.unusedVariables false
/-- within K more askings, and with blocks that are none too long -/
structure Grew (K : Nat) (s s' : MemT) : Prop where
  c : s'.count ≤ s.count + K
  l : s'.L.length ≤ s.L.length + K
  f : s'.fails = s.fails
  t : (∀ t ∈ s.L, t.length ≤ 256) → ∀ t ∈ s'.L, t.length ≤ 256
theorem Grew.refl (s : MemT) : Grew 0 s s := ⟨Nat.le_refl _, Nat.le_refl _, rfl, fun h => h⟩
theorem Grew.trans {a b : Nat} {s s1 s2 : MemT} (h1 : Grew a s s1) (h2 : Grew b s1 s2) : Grew (a + b) s s2 :=
  ⟨by have := h1.c; have := h2.c; omega, by have := h1.l; have := h2.l; omega, h2.f.trans h1.f, fun h => h2.t (h1.t h)⟩
theorem Grew.mono {a b : Nat} {s s1 : MemT} (h : Grew a s s1) (hab : a ≤ b) : Grew b s s1 := ⟨by have := h.c; omega, by have := h.l; omega, h.f, h.t⟩
section
variable {α β : Type}
def Cost (K : Nat) (m : M MemT α) : Prop := ∀ s, Grew K s (m s).2
def Post (P : α → Prop) (m : M MemT α) : Prop := ∀ s a s', m s = (.ok a, s') → P a
theorem Cost.mono {a b : Nat} {m : M MemT α} (h : Cost a m) (hab : a ≤ b) : Cost b m := fun s => (h s).mono hab
theorem cost_ret (a : α) : Cost 0 (M.ret a : M MemT α) := fun s => Grew.refl s
theorem cost_err (n : Nat) : Cost 0 (M.err n : M MemT α) := fun s => Grew.refl s
theorem cost_pure (e : MemT → Except Nat α) : Cost 0 (fun s => (e s, s) : M MemT α) := fun s => Grew.refl s
theorem cost_bindP {a b : Nat} {x : M MemT α} {f : α → M MemT β} (P : α → Prop) (hp : Post P x) (hx : Cost a x) (hf : ∀ v, P v → Cost b (f v)) : Cost (a + b) (M.bind x f) := fun s => by
  have h1 := hx s
  rcases h : x s with ⟨r | v, s1⟩
  · rw [M.bind_err h]; rw [h] at h1; exact h1.mono (by omega)
  · rw [M.bind_ok h]; rw [h] at h1; exact h1.trans (hf v (hp s v s1 h) s1)
theorem cost_bind {a b : Nat} {x : M MemT α} {f : α → M MemT β} (hx : Cost a x) (hf : ∀ v, Cost b (f v)) : Cost (a + b) (M.bind x f) := cost_bindP (fun _ => True) (fun _ _ _ _ => trivial) hx (fun v _ => hf v)
theorem cost_get (p : PtrT) : Cost 1 (memF.get p) := fun s => by
  unfold memF; dsimp only
  split <;> exact ⟨Nat.le_refl _, by dsimp only; omega, rfl, fun h => h⟩
theorem cost_put (t : Bs) (lv : Nat) (ht : t.length ≤ 256) : Cost 1 (memF.put t lv) := fun s => by
  unfold memF; dsimp only
  split
  · exact ⟨Nat.le_refl _, by dsimp only; omega, rfl, fun h => h⟩
  · refine ⟨Nat.le_refl _, by simp, rfl, fun h x hx => ?_⟩
    simp only [List.mem_append, List.mem_cons, List.not_mem_nil, or_false] at hx
    rcases hx with hx | rfl
    · exact h x hx
    · exact ht
theorem cost_item (p : PtrT) : Cost 1 (itemM memF p) := by
  unfold itemM
  split
  · exact (cost_ret _).mono (by omega)
  · exact cost_bind (cost_get p) (fun t => cost_pure _)
theorem cost_links (p : PtrT) : Cost 1 (linksM memF p) := cost_bind (cost_item p) (fun t => cost_pure _)
theorem post_links (p : PtrT) : Post (fun l : List PtrT => l.length = 4) (linksM memF p) := fun s l s' h => by
  unfold linksM at h
  rcases M.bind_cases h with ⟨x, s1, h1, h2⟩ | ⟨e, s1, h1, h2⟩
  · injection h2 with h2 _
    cases x with
    | data t => simp [linksOf] at h2
    | hole => simp only [linksOf, Except.ok.injEq] at h2; rw [← h2]; rfl
    | index q =>
      simp only [linksOf, Except.ok.injEq] at h2
      rw [← h2]
      unfold itemM at h1
      split at h1
      · injection h1 with h1 _; injection h1 with h1; cases h1
      · rcases M.bind_cases h1 with ⟨t, s2, h3, h4⟩ | ⟨e, s2, h3, h4⟩
        · injection h4 with h4 _
          unfold nodeRead at h4
          split at h4
          · split at h4
            · split at h4
              · split at h4
                · injection h4 with h4; injection h4 with h4; rw [← h4]; rfl
                · cases h4
              · injection h4 with h4; cases h4
            · cases h4
          · cases h4
        · injection h4 with h4 _; cases h4
  · injection h2 with h2 _; cases h2
theorem cost_leaf : ∀ (k : Nat) (p : PtrT) (i : Nat), Cost k (leafM memF k p i)
  | 0, p, i => cost_ret _
  | k + 1, p, i => by
    unfold leafM
    split
    · exact (cost_ret _).mono (by omega)
    · exact (cost_bind (cost_links p) (fun l => cost_leaf k _ _)).mono (by omega)
theorem cost_block (n : NodeT) (i : Nat) : Cost 4 (blockM memF n i) := by
  unfold blockM
  split
  · split
    · exact (cost_ret _).mono (by omega)
    · have := lvl_le3 n.size
      exact (cost_bind (cost_leaf _ _ _) (fun q => cost_bind (cost_item q) (fun x => cost_pure _))).mono (by omega)
  · exact (cost_err _).mono (by omega)
theorem cost_bytes (n : NodeT) (i : Nat) : Cost 4 (bytesM memF n i) := cost_bind (cost_block n i) (fun x => cost_ret _)
theorem cost_readTo (n : NodeT) (off till : Nat) : ∀ (f i : Nat) (out : Bs), Cost (4 * f) (readTo memF n off till f i out)
  | 0, _, _ => cost_ret _
  | f + 1, i, out => by
    unfold readTo
    split
    · exact (cost_bind (cost_bytes n i) (fun s => cost_readTo n off till f _ _)).mono (by omega)
    · exact (cost_ret _).mono (by omega)
theorem cost_read (n : NodeT) (off size : Int) : Cost 300 (readM memF n off size) := by
  unfold readM
  split
  · exact (cost_err _).mono (by omega)
  · split
    · exact (cost_ret _).mono (by omega)
    · exact (cost_readTo _ _ _ _ _ _).mono (by omega)
theorem cost_putM (l : List PtrT) (lv : Nat) (h : l.length = 4) : Cost 1 (putM memF l lv) := by
  unfold putM
  by_cases h1 : l = zs4
  · rw [if_pos h1]; exact (cost_ret _).mono (by omega)
  · rw [if_neg h1]; exact cost_put _ _ (indexText_le l (by omega))
theorem cost_set : ∀ (k : Nat) (p : PtrT) (i : Nat) (s : Bs), Cost (2 * k + 1) (setM memF k p i s)
  | 0, p, i, s => by
    unfold setM
    by_cases h1 : s = []
    · rw [if_pos h1]; exact (cost_ret _).mono (by omega)
    · rw [if_neg h1]
      refine cost_put _ _ ?_
      unfold dataText
      split
      · simp [pad64, zeros]; omega
      · simp
  | k + 1, p, i, s => by
    unfold setM
    exact (cost_bindP (fun l : List PtrT => l.length = 4) (post_links p) (cost_links p) (fun l hl => cost_bind (cost_set k _ _ _) (fun q => cost_putM _ _ (by simp [hl])))).mono (by omega)
theorem cost_grownTo : ∀ (k lv : Nat) (r : PtrT), Cost k (grownTo memF k lv r)
  | 0, _, _ => cost_ret _
  | k + 1, lv, r => by
    unfold grownTo
    split
    · exact (cost_ret _).mono (by omega)
    · exact (cost_bind (cost_putM _ _ rfl) (fun p => cost_grownTo k _ _)).mono (by omega)
theorem cost_grown (n : NodeT) (size : Int) : Cost 3 (grownM memF n size) := by
  have := lvl_le3 size
  exact (cost_bind (cost_grownTo _ _ _) (fun r => cost_ret _)).mono (by omega)
theorem cost_laid (n : NodeT) (i frm : Nat) (s : Bs) : Cost 11 (laidM memF n i frm s) := by
  have := lvl_le3 n.size
  exact (cost_bind (cost_block n i) (fun x => cost_bind (cost_set _ _ _ _) (fun r => cost_ret _))).mono (by omega)
theorem cost_writeTo : ∀ (f : Nat) (n : NodeT) (off : Nat) (s : Bs), Cost (11 * f) (writeTo memF f n off s)
  | 0, _, _, _ => cost_ret _
  | f + 1, n, off, s => by
    unfold writeTo
    split
    · exact (cost_ret _).mono (by omega)
    · exact (cost_bind (cost_laid _ _ _ _) (fun n' => cost_writeTo f _ _ _)).mono (by omega)
theorem cost_write (n : NodeT) (off : Int) (s : Bs) (hs : s.length ≤ 16384) : Cost 200000 (writeM memF n off s) := by
  unfold writeM
  split
  · exact (cost_err _).mono (by omega)
  · split
    · exact (cost_ret _).mono (by omega)
    · exact (cost_bind (cost_grown _ _) (fun n' => cost_writeTo _ _ _ _)).mono (by omega)
theorem cost_cutL {f : PtrT → Int → M MemT PtrT} {K : Nat} (hf : ∀ p b, Cost K (f p b)) (w : Nat) (b : Int) : ∀ (c k : Nat) (l : List PtrT), Cost (c * K) (cutL f w b c k l)
  | 0, _, _ => (cost_ret _).mono (by omega)
  | c + 1, k, l => by
    unfold cutL
    exact (cost_bind (hf _ _) (fun q => cost_cutL hf w b c _ _)).mono (by rw [Nat.succ_mul]; omega)
theorem post_cutL {f : PtrT → Int → M MemT PtrT} (w : Nat) (b : Int) : ∀ (c k : Nat) (l : List PtrT), Post (fun l' : List PtrT => l'.length = l.length) (cutL f w b c k l)
  | 0, _, l => fun s a s' h => by injection h with h _; injection h with h; rw [h]
  | c + 1, k, l => fun s a s' h => by
    rcases M.bind_cases h with ⟨x, s1, h1, h2⟩ | ⟨e, s1, h1, h2⟩
    · have := post_cutL w b c _ _ _ _ _ h2
      simpa using this
    · injection h2 with h2 _; cases h2
def kc : Nat → Nat
  | 0 => 0
  | k + 1 => 4 * kc k + 2
theorem cost_cut : ∀ (k : Nat) (p : PtrT) (b : Int), Cost (kc k) (cutM memF k p b)
  | 0, p, b => by
    unfold cutM
    split <;> exact cost_ret _
  | k + 1, p, b => by
    have e : kc (k + 1) = 4 * kc k + 2 := rfl
    unfold cutM
    split
    · exact (cost_ret _).mono (by omega)
    · split
      · exact (cost_ret _).mono (by omega)
      · refine (cost_bindP (b := 4 * kc k + 1) (fun l : List PtrT => l.length = 4) (post_links p) (cost_links p) (fun l hl => cost_bindP (b := 1) (fun l' : List PtrT => l'.length = l.length) (post_cutL _ _ _ _ _) (cost_cutL (fun p b => cost_cut k p b) _ _ _ _ _) (fun l' hl' => ?_))).mono (by omega)
        split
        · exact (cost_ret _).mono (by omega)
        · exact cost_putM _ _ (by omega)
theorem cost_lowered : ∀ (k : Nat) (p : PtrT), Cost k (loweredM memF k p)
  | 0, _ => cost_ret _
  | k + 1, p => by
    unfold loweredM
    split
    · exact (cost_ret _).mono (by omega)
    · exact (cost_bind (cost_links p) (fun l => cost_lowered k _)).mono (by omega)
theorem cost_trimmed (n : NodeT) : Cost 11 (trimmedM memF n) := by
  have := lvl_le3 n.size
  unfold trimmedM
  split
  · exact (cost_ret _).mono (by omega)
  · refine (cost_bind (b := 7) (cost_block _ _) (fun x => ?_)).mono (by omega)
    split
    · exact (cost_ret _).mono (by omega)
    · exact (cost_bind (cost_set _ _ _ _) (fun r => cost_ret _)).mono (by omega)
theorem kc_le {k : Nat} (h : k ≤ 3) : kc k ≤ 42 := by
  have : k = 0 ∨ k = 1 ∨ k = 2 ∨ k = 3 := by omega
  rcases this with rfl | rfl | rfl | rfl <;> decide
theorem cost_trunc (n : NodeT) (size : Int) : Cost 100 (truncM memF n size) := by
  unfold truncM
  split
  · exact (cost_err _).mono (by omega)
  · split
    · exact (cost_grown _ _).mono (by omega)
    · have := lvl_le3 n.size
      have := kc_le (lvl_le3 size)
      exact (cost_bind (cost_lowered _ _) (fun p => cost_bind (cost_cut _ _ _) (fun q => cost_trimmed _))).mono (by omega)
theorem cost_allL {f : PtrT → List PtrT → M MemT (List PtrT)} {K : Nat} (hf : ∀ x o, Cost K (f x o)) (lv : Int) : ∀ (l out : List PtrT), Cost (l.length * K) (allL f lv l out)
  | [], out => (cost_ret _).mono (by omega)
  | x :: r, out => by
    unfold allL
    split
    · exact (cost_err _).mono (by omega)
    · exact (cost_bind (hf x out) (fun o => cost_allL hf lv r o)).mono (by simp [Nat.succ_mul]; omega)
def ka : Nat → Nat
  | 0 => 0
  | k + 1 => 4 * ka k + 1
theorem cost_all : ∀ (f : Nat) (p : PtrT) (out : List PtrT), Cost (ka f) (allM memF f p out)
  | 0, _, _ => cost_ret _
  | f + 1, p, out => by
    have e : ka (f + 1) = 4 * ka f + 1 := rfl
    unfold allM
    split
    · exact (cost_ret _).mono (by omega)
    · split
      · exact (cost_ret _).mono (by omega)
      · exact (cost_bindP (fun l : List PtrT => l.length = 4) (post_links p) (cost_links p) (fun l hl => by
          have := cost_allL (fun x o => cost_all f x o) p.level l (out ++ [p])
          rw [hl] at this; exact this)).mono (by omega)
/-- beside a store that doesn't fail one that does: as that one, or an error -/
def Sim (m : M MemT α) : Prop := ∀ L c f r L', (∀ c', ∃ c2, m ⟨L, c', 0⟩ = (r, ⟨L', c2, 0⟩)) → ∃ c2 L2, (m ⟨L, c, f⟩ = (r, ⟨L2, c2, f⟩) ∧ L2 = L') ∨ ∃ e, (e = 6 ∨ e = 8) ∧ m ⟨L, c, f⟩ = (.error e, ⟨L2, c2, f⟩)
/-- what is answered hangs on the blocks alone -/
def Det (m : M MemT α) : Prop := ∀ L, ∃ r L', ∀ c, ∃ c', m ⟨L, c, 0⟩ = (r, ⟨L', c', 0⟩)
def GoodM (m : M MemT α) : Prop := Det m ∧ Sim m
theorem good_pure (e : Except Nat α) : GoodM (fun s => (e, s) : M MemT α) := by
  refine ⟨fun L => ⟨e, L, fun c => ⟨c, rfl⟩⟩, fun L c f r L' h => ?_⟩
  obtain ⟨c2, h1⟩ := h 0
  injection h1 with h1 h2
  injection h2 with h2 h3
  exact ⟨c, L, .inl ⟨by rw [h1], h2⟩⟩
theorem good_ret (a : α) : GoodM (M.ret a : M MemT α) := good_pure (.ok a)
theorem good_err (n : Nat) : GoodM (M.err n : M MemT α) := good_pure (.error n)
theorem good_bind {x : M MemT α} {f : α → M MemT β} (hx : GoodM x) (hf : ∀ v, GoodM (f v)) : GoodM (M.bind x f) := by
  constructor
  · intro L
    obtain ⟨r, L1, h1⟩ := hx.1 L
    cases r with
    | error e => exact ⟨.error e, L1, fun c => by obtain ⟨c', h⟩ := h1 c; exact ⟨c', M.bind_err h⟩⟩
    | ok v =>
      obtain ⟨r2, L2, h2⟩ := (hf v).1 L1
      exact ⟨r2, L2, fun c => by obtain ⟨c', h⟩ := h1 c; obtain ⟨c2, h3⟩ := h2 c'; exact ⟨c2, by rw [M.bind_ok h, h3]⟩⟩
  · intro L c fl r L' h
    obtain ⟨r1, L1, h1⟩ := hx.1 L
    obtain ⟨c2, L2, h2⟩ := hx.2 L c fl r1 L1 h1
    rcases h2 with ⟨h2, rfl⟩ | ⟨e, he, h2⟩
    · cases r1 with
      | error e =>
        obtain ⟨c3, h3⟩ := h1 0
        obtain ⟨c4, h4⟩ := h 0
        rw [M.bind_err h3] at h4
        injection h4 with h4 h5
        injection h5 with h5 h6
        exact ⟨c2, L2, .inl ⟨by rw [M.bind_err h2, h4], h5⟩⟩
      | ok v =>
        obtain ⟨r3, L3, h3⟩ := (hf v).1 L2
        obtain ⟨c4, h4⟩ := h1 0
        obtain ⟨c5, h5⟩ := h3 c4
        obtain ⟨c6, h6⟩ := h 0
        rw [M.bind_ok h4, h5] at h6
        injection h6 with h6 h7
        injection h7 with h7 h8
        subst h6 h7
        rw [M.bind_ok h2]
        exact (hf v).2 L2 c2 fl _ _ h3
    · exact ⟨c2, L2, .inr ⟨e, he, M.bind_err h2⟩⟩
theorem good_get (p : PtrT) : GoodM (memF.get p) := by
  have aw : ∀ c, awakeB c 0 = true := fun c => by simp [awakeB]
  constructor
  · intro L
    by_cases h : p.aa < 0 ∨ (L.length : Int) ≤ p.aa
    · refine ⟨.error 6, L, fun c => ⟨c + 1, ?_⟩⟩
      unfold memF; dsimp only; rw [if_pos (.inr h)]
    · refine ⟨.ok (L.getD p.aa.toNat []), L, fun c => ⟨c + 1, ?_⟩⟩
      unfold memF; dsimp only; rw [if_neg (fun h1 => h1.elim (fun h1 => by rw [aw] at h1; cases h1) h)]
  · intro L c f r L' h
    obtain ⟨c2, h1⟩ := h 0
    unfold memF at h1 ⊢
    dsimp only at h1 ⊢
    by_cases ha : awakeB (c + 1) f = false
    · exact ⟨c + 1, L, .inr ⟨6, .inl rfl, by rw [if_pos (.inl ha)]⟩⟩
    · by_cases hb : p.aa < 0 ∨ (L.length : Int) ≤ p.aa
      · rw [if_pos (.inr hb)] at h1
        injection h1 with h1 h2
        injection h2 with h2 h3
        exact ⟨c + 1, L, .inl ⟨by rw [if_pos (.inr hb), h1], h2⟩⟩
      · rw [if_neg (fun h1 => h1.elim (fun h1 => by rw [aw] at h1; cases h1) hb)] at h1
        injection h1 with h1 h2
        injection h2 with h2 h3
        exact ⟨c + 1, L, .inl ⟨by rw [if_neg (fun h1 => h1.elim ha hb), h1], h2⟩⟩
theorem good_put (t : Bs) (lv : Nat) : GoodM (memF.put t lv) := by
  have aw : ∀ c, awakeB c 0 = true := fun c => by simp [awakeB]
  constructor
  · intro L
    refine ⟨.ok (memP L.length t.length lv), L ++ [t], fun c => ⟨c + 1, ?_⟩⟩
    unfold memF; dsimp only; rw [if_neg (by rw [aw]; decide)]
  · intro L c f r L' h
    obtain ⟨c2, h1⟩ := h 0
    unfold memF at h1 ⊢
    dsimp only at h1 ⊢
    rw [if_neg (by rw [aw]; decide)] at h1
    injection h1 with h1 h2
    injection h2 with h2 h3
    by_cases ha : awakeB (c + 1) f = false
    · exact ⟨c + 1, L, .inr ⟨8, .inr rfl, by rw [if_pos ha]⟩⟩
    · exact ⟨c + 1, L ++ [t], .inl ⟨by rw [if_neg ha, h1], h2⟩⟩
theorem good_item (p : PtrT) : GoodM (itemM memF p) := by
  unfold itemM
  split
  · exact good_ret _
  · exact good_bind (good_get p) (fun t => good_pure _)
theorem good_links (p : PtrT) : GoodM (linksM memF p) := good_bind (good_item p) (fun x => good_pure _)
theorem good_leaf : ∀ (k : Nat) (p : PtrT) (i : Nat), GoodM (leafM memF k p i)
  | 0, _, _ => good_ret _
  | k + 1, p, i => by
    unfold leafM
    split
    · exact good_ret _
    · exact good_bind (good_links p) (fun l => good_leaf k _ _)
theorem good_block (n : NodeT) (i : Nat) : GoodM (blockM memF n i) := by
  unfold blockM
  split
  · split
    · exact good_ret _
    · exact good_bind (good_leaf _ _ _) (fun q => good_bind (good_item q) (fun x => good_pure _))
  · exact good_err _
theorem good_putM (l : List PtrT) (lv : Nat) : GoodM (putM memF l lv) := by
  unfold putM
  by_cases h1 : l = zs4
  · rw [if_pos h1]; exact good_ret _
  · rw [if_neg h1]; exact good_put _ _
theorem good_set : ∀ (k : Nat) (p : PtrT) (i : Nat) (s : Bs), GoodM (setM memF k p i s)
  | 0, p, i, s => by
    unfold setM
    by_cases h1 : s = []
    · rw [if_pos h1]; exact good_ret _
    · rw [if_neg h1]; exact good_put _ _
  | k + 1, p, i, s => good_bind (good_links p) (fun l => good_bind (good_set k _ _ _) (fun q => good_putM _ _))
theorem good_grownTo : ∀ (k lv : Nat) (r : PtrT), GoodM (grownTo memF k lv r)
  | 0, _, _ => good_ret _
  | k + 1, lv, r => by
    unfold grownTo
    split
    · exact good_ret _
    · exact good_bind (good_putM _ _) (fun p => good_grownTo k _ _)
theorem good_grown (n : NodeT) (size : Int) : GoodM (grownM memF n size) := good_bind (good_grownTo _ _ _) (fun r => good_ret _)
theorem good_laid (n : NodeT) (i frm : Nat) (s : Bs) : GoodM (laidM memF n i frm s) := good_bind (good_block n i) (fun x => good_bind (good_set _ _ _ _) (fun r => good_ret _))
theorem good_writeTo : ∀ (f : Nat) (n : NodeT) (off : Nat) (s : Bs), GoodM (writeTo memF f n off s)
  | 0, _, _, _ => good_ret _
  | f + 1, n, off, s => by
    unfold writeTo
    split
    · exact good_ret _
    · exact good_bind (good_laid _ _ _ _) (fun n' => good_writeTo f _ _ _)
theorem good_write (n : NodeT) (off : Int) (s : Bs) : GoodM (writeM memF n off s) := by
  unfold writeM
  split
  · exact good_err _
  · split
    · exact good_ret _
    · exact good_bind (good_grown _ _) (fun n' => good_writeTo _ _ _ _)
theorem good_cutL {f : PtrT → Int → M MemT PtrT} (hf : ∀ p b, GoodM (f p b)) (w : Nat) (b : Int) : ∀ (c k : Nat) (l : List PtrT), GoodM (cutL f w b c k l)
  | 0, _, _ => good_ret _
  | c + 1, k, l => good_bind (hf _ _) (fun q => good_cutL hf w b c _ _)
theorem good_cut : ∀ (k : Nat) (p : PtrT) (b : Int), GoodM (cutM memF k p b)
  | 0, p, b => by
    unfold cutM
    split <;> exact good_ret _
  | k + 1, p, b => by
    unfold cutM
    split
    · exact good_ret _
    · split
      · exact good_ret _
      · refine good_bind (good_links p) (fun l => good_bind (good_cutL (fun p b => good_cut k p b) _ _ _ _ _) (fun l' => ?_))
        split
        · exact good_ret _
        · exact good_putM _ _
theorem good_lowered : ∀ (k : Nat) (p : PtrT), GoodM (loweredM memF k p)
  | 0, _ => good_ret _
  | k + 1, p => by
    unfold loweredM
    split
    · exact good_ret _
    · exact good_bind (good_links p) (fun l => good_lowered k _)
theorem good_trimmed (n : NodeT) : GoodM (trimmedM memF n) := by
  unfold trimmedM
  split
  · exact good_ret _
  · refine good_bind (good_block _ _) (fun x => ?_)
    split
    · exact good_ret _
    · exact good_bind (good_set _ _ _ _) (fun r => good_ret _)
theorem good_trunc (n : NodeT) (size : Int) : GoodM (truncM memF n size) := by
  unfold truncM
  split
  · exact good_err _
  · split
    · exact good_grown _ _
    · exact good_bind (good_lowered _ _) (fun p => good_bind (good_cut _ _ _) (fun q => good_trimmed _))
end
end Go.Proofs.YtbhofablndjeoaaDoor
/- The document's example, computed. -/
namespace Go.Proofs.YtbhofablndjeoaaDoor
def s0 : MemT := ⟨[], 0, 0⟩
def awW : Except Nat NodeT × MemT := writeM memF nD 600 [120] s0
def awN : NodeT := match awW.1 with | .ok n => n | .error _ => nD
def isOk {α : Type} [DecidableEq α] (r : Except Nat α) (a : α) : Bool := match r with | .ok b => decide (b = a) | .error _ => false
theorem isOk_eq {α : Type} [DecidableEq α] {r : Except Nat α} {a : α} (h : isOk r a = true) : r = .ok a := by
  cases r with
  | ok b => simp only [isOk, decide_eq_true_eq] at h; rw [h]
  | error n => cases h
theorem aw_write : awW.1 = .ok awN := isOk_eq (by decide +kernel)
theorem aw_node : awN.size = 601 ∧ awN.root.level = 1 := by decide +kernel
theorem aw_block : (blockM memF awN 1 awW.2).1 = .ok .hole := isOk_eq (by decide +kernel)
theorem aw_read : (readM memF awN 0 601 (blockM memF awN 1 awW.2).2).1 = .ok (over [] 600 [120]) := isOk_eq (by decide +kernel)
end Go.Proofs.YtbhofablndjeoaaDoor
/- The law's acts on trees, in plain words. -/
namespace Go.Proofs.YtbhofablndjeoaaDoor
set_option linter.unusedVariables false
/-- an act of polderlaw14 -/
structure ActA where
  d : UInt8
  off : Int
  n : Int
  b : UInt8
structure ActA.ok (x : ActA) : Prop where
  off : I64' x.off
  n : I64' x.n
def aT : ActA := ⟨0, 0, 0, 0⟩
theorem aT_ok : aT.ok := by constructor <;> (unfold I64' aT; dsimp only; omega)
instance : Inhabited ActA := ⟨aT⟩
def fillS (x : ActA) : Bs := List.replicate (min (max x.n 0) 1500).toNat x.b
def doneM (n : NodeT) (x : ActA) : M MemT NodeT := if x.d.toNat % 4 = 2 then truncM memF n x.off else writeM memF n x.off (fillS x)
theorem fillS_len (x : ActA) : (fillS x).length ≤ 1500 := by unfold fillS; simp; omega
theorem cost_writeN (n : NodeT) (off : Int) (s : Bs) (hs : s.length ≤ 1500) : Cost 17000 (writeM memF n off s) := by
  unfold writeM
  split
  · exact (cost_err _).mono (by omega)
  · split
    · exact (cost_ret _).mono (by omega)
    · exact (cost_bind (cost_grown _ _) (fun n' => cost_writeTo _ _ _ _)).mono (by omega)
theorem cost_done (n : NodeT) (x : ActA) : Cost 17000 (doneM n x) := by
  unfold doneM
  split
  · exact (cost_trunc _ _).mono (by omega)
  · exact cost_writeN _ _ _ (fillS_len x)
theorem good_done (n : NodeT) (x : ActA) : GoodM (doneM n x) := by
  unfold doneM
  split
  · exact good_trunc _ _
  · exact good_write _ _ _
/-- a store that doesn't fail, asked so often at most -/
structure Rn (k : Nat) (st : MemT) : Prop where
  f : st.fails = 0
  c : st.count ≤ 17000 * k
  l : st.L.length ≤ 17000 * k
  t : ∀ t ∈ st.L, t.length ≤ 256
theorem Rn.ok {k : Nat} {st : MemT} (h : Rn k st) (hk : k ≤ 50) : memOk' st.count st.L := ⟨by have := h.c; omega, by have := h.l; omega, h.t⟩
theorem Rn.grew {k : Nat} {st s2 : MemT} (h : Rn k st) (hg : Grew 17000 st s2) : Rn (k + 1) s2 := ⟨hg.f.trans h.f, by have := hg.c; have := h.c; omega, by have := hg.l; have := h.l; omega, hg.t h.t⟩
theorem Rn.mono {k j : Nat} {st : MemT} (h : Rn k st) (hk : k ≤ j) : Rn j st := ⟨h.f, by have := h.c; omega, by have := h.l; omega, h.t⟩
theorem Rn.start : Rn 0 s0 := ⟨rfl, by decide, by decide, fun t ht => by cases ht⟩
theorem Run.at {α : Type} {m : M MemT α} {st : MemT} {a : α} {L' : List Bs} (h : Run m st.L a L') (hf : st.fails = 0) : ∃ s2, m st = (.ok a, s2) ∧ s2.L = L' ∧ s2.fails = 0 := by
  obtain ⟨L, c, f⟩ := st
  dsimp only at hf h
  subst hf
  obtain ⟨c', h⟩ := h c
  exact ⟨_, h, rfl, rfl⟩
def txt (L : List Bs) (n : NodeT) : Bs := segB L n 0 n.size.toNat
theorem txt_mono {L : List Bs} {n : NodeT} (h : NW L n) (X : List Bs) : txt (L ++ X) n = txt L n := by
  unfold txt segB
  congr 1
  exact funext (h.mono X).2.1
theorem txt_len (L : List Bs) (n : NodeT) : (txt L n).length = n.size.toNat := by unfold txt; rw [seg_len]; omega
theorem txt_gb {L : List Bs} {n : NodeT} (h : NW L n) (j : Nat) : gb (txt L n) j = B L n j := by
  by_cases hj : j < n.size.toNat
  · unfold txt; rw [seg_gb n (by omega), Nat.zero_add]
  · rw [gb_out (by rw [txt_len]; omega)]
    have := h.s0
    exact (h.tail j (by omega)).symm
theorem rn_whole {k : Nat} {st : MemT} {n : NodeT} (h : Rn k st) (hn : NW st.L n) : ∃ s2, readM memF n 0 n.size st = (.ok (txt st.L n), s2) ∧ s2.L = st.L ∧ Rn (k + 1) s2 := by
  obtain ⟨s2, e, hl, hf⟩ := (run_read hn.wf hn.s1 0 n.size (by omega) hn.s0).at h.f
  have hg := cost_read n 0 n.size st
  rw [e] at hg
  refine ⟨s2, ?_, hl, h.grew (hg.mono (by omega))⟩
  rw [e]
  have : min (0 + n.size) n.size = n.size := by omega
  rw [this]; rfl
def Uq (L : List Bs) (n : NodeT) : Prop := (nPtrs L n).Nodup
theorem To.uq {L L' : List Bs} {n n' : NodeT} (h : To L L' n n') (hn : NW L n) (hu : Uq L n) : Uq L' n' := (h.nw hu (hn.wf.bound)).1
theorem Uq.mono {L : List Bs} {n : NodeT} (h : Uq L n) (hn : NW L n) (X : List Bs) : Uq (L ++ X) n := by
  unfold Uq; rw [(hn.mono X).2.2]; exact h
theorem Uq.start (L : List Bs) : Uq L nD := List.nodup_nil
def aft (r : Except Nat NodeT) (n : NodeT) : NodeT := match r with | .ok q => q | .error _ => n
/-- what an act does on a store that doesn't fail -/
theorem rn_done {k : Nat} {st : MemT} {n : NodeT} (h : Rn k st) (hk : k ≤ 50) (hn : NW st.L n) (hu : Uq st.L n) (x : ActA) :
    ∃ r s2, doneM n x st = (r, s2) ∧ Rn (k + 1) s2 ∧ (∃ X, s2.L = st.L ++ X) ∧ NW s2.L (aft r n) ∧ Uq s2.L (aft r n) ∧ (r = .error 1 ∧ doneM n x = M.err 1 ∨ ∃ q, r = .ok q) := by
  have hg := cost_done n x st
  have hl := h.l
  have key : ∀ r s2, doneM n x st = (r, s2) → Rn (k + 1) s2 := fun r s2 e => by rw [e] at hg; exact h.grew hg
  have bad : doneM n x = M.err 1 → ∃ r s2, doneM n x st = (r, s2) ∧ Rn (k + 1) s2 ∧ (∃ X, s2.L = st.L ++ X) ∧ NW s2.L (aft r n) ∧ Uq s2.L (aft r n) ∧ (r = .error 1 ∧ doneM n x = M.err 1 ∨ ∃ q, r = .ok q) := fun e =>
    ⟨.error 1, st, by rw [e]; rfl, key _ _ (by rw [e]; rfl), ⟨[], by simp⟩, hn, hu, .inl ⟨rfl, e⟩⟩
  have good : ∀ n' L', Run (doneM n x) st.L n' L' → To st.L L' n n' → ∃ r s2, doneM n x st = (r, s2) ∧ Rn (k + 1) s2 ∧ (∃ X, s2.L = st.L ++ X) ∧ NW s2.L (aft r n) ∧ Uq s2.L (aft r n) ∧ (r = .error 1 ∧ doneM n x = M.err 1 ∨ ∃ q, r = .ok q) := fun n' L' r t => by
    obtain ⟨s2, e, hl, hf⟩ := r.at h.f
    subst hl
    exact ⟨.ok n', s2, e, key _ _ e, t.ext, t.ok, t.uq hn hu, .inr ⟨n', rfl⟩⟩
  by_cases hd : x.d.toNat % 4 = 2
  · have e : doneM n x = truncM memF n x.off := by unfold doneM; rw [if_pos hd]
    by_cases hb : x.off < 0 ∨ 16384 < x.off
    · exact bad (by rw [e]; unfold truncM; rw [if_pos hb])
    · obtain ⟨n', L', r, _, t, _⟩ := run_trunc hn x.off (by omega) (by omega) (by omega)
      rw [← e] at r
      exact good n' L' r t
  · have e : doneM n x = writeM memF n x.off (fillS x) := by unfold doneM; rw [if_neg hd]
    by_cases hb : x.off < 0 ∨ 16384 < x.off ∨ 16384 - x.off < (fillS x).length
    · exact bad (by rw [e]; unfold writeM; rw [if_pos hb])
    · obtain ⟨n', L', r, _, t, _⟩ := run_write hn x.off (fillS x) (by omega) (by omega) (by omega)
      rw [← e] at r
      exact good n' L' r t
end Go.Proofs.YtbhofablndjeoaaDoor
/- The laws on trees, in plain words. -/
namespace Go.Proofs.YtbhofablndjeoaaDoor
set_option linter.unusedVariables false
/-- what a write makes of an object -/
structure Wrote (L L' : List Bs) (n q : NodeT) (o : Nat) (s : Bs) : Prop where
  ext : ∃ X, L' = L ++ X
  nw : NW L' q
  size : q.size = if s = [] then n.size else max n.size ((o : Int) + s.length)
  B : ∀ j, B L' q j = if o ≤ j ∧ j < o + s.length then gb s (j - o) else B L n j
theorem rn_write {k : Nat} {st : MemT} {n : NodeT} (h : Rn k st) (hk : k ≤ 50) (hn : NW st.L n) (o : Nat) (s : Bs) (ho : o ≤ 14000) (hs : s.length ≤ 1500) :
    ∃ q s2, writeM memF n o s st = (.ok q, s2) ∧ Rn (k + 1) s2 ∧ Wrote st.L s2.L n q o s ∧ (Uq st.L n → Uq s2.L q) := by
  have hg := cost_writeN n o s hs st
  have hl := h.l
  obtain ⟨q, L', r, _, t, z, b⟩ := run_write hn o s (by omega) (by omega) (by omega)
  obtain ⟨s2, e, rfl, hf⟩ := r.at h.f
  rw [e] at hg
  exact ⟨q, s2, e, h.grew hg, ⟨t.ext, t.ok, z, b⟩, t.uq hn⟩
theorem rn_read {k : Nat} {st : MemT} {n : NodeT} (h : Rn k st) (hn : NW st.L n) (off size : Nat) :
    ∃ s2, readM memF n off size st = (.ok (segB st.L n off (min (off + size) n.size.toNat)), s2) ∧ s2.L = st.L ∧ Rn (k + 1) s2 := by
  obtain ⟨s2, e, hl, hf⟩ := (run_read hn.wf hn.s1 off size (by omega) (by omega)).at h.f
  have hg := cost_read n off size st
  rw [e] at hg
  refine ⟨s2, ?_, hl, h.grew (hg.mono (by omega))⟩
  rw [e]
  have h0 := hn.s0
  have e1 : (min ((off : Int) + size) n.size).toNat = min (off + size) n.size.toNat := by omega
  have e2 : ((off : Int)).toNat = off := by omega
  rw [e1, e2]
theorem txt_eq {L : List Bs} {a b : NodeT} (ha : NW L a) (hb : NW L b) (hs : a.size = b.size) (h : ∀ j, B L a j = B L b j) : txt L a = txt L b := by
  apply eq_gb
  · rw [txt_len, txt_len, hs]
  · intro j _
    rw [txt_gb ha, txt_gb hb, h]
theorem read_part {L : List Bs} {a : NodeT} (ha : NW L a) (o : Nat) (s : Bs) (hs : s = [] ∨ (o : Int) + s.length ≤ a.size) (h : ∀ j, j < s.length → B L a (o + j) = gb s j) : segB L a o (min (o + s.length) a.size.toNat) = s := by
  rcases hs with rfl | hs
  · exact seg_nil _ (by simp; omega)
  · have e : min (o + s.length) a.size.toNat = o + s.length := by omega
    rw [e]
    apply eq_gb
    · rw [seg_len]; omega
    · intro j hj
      rw [seg_len] at hj
      rw [seg_gb a hj, h j (by omega)]
/-- what is written in parts is what is written at once -/
theorem parts_end {L0 L1 L2 L3 : List Bs} {n a b d : NodeT} {o c : Nat} {s : Bs} (hn : NW L0 n) (hc : c ≤ s.length) (w1 : Wrote L0 L1 n a o s) (w2 : Wrote L1 L2 n b o (s.take c)) (w3 : Wrote L2 L3 b d (o + c) (s.drop c)) :
    txt L3 d = txt L3 a ∧ segB L3 a o (min (o + c) a.size.toNat) = s.take c ∧ segB L3 a (o + c) (min (o + c + (s.length - c)) a.size.toNat) = s.drop c := by
  obtain ⟨X1, rfl⟩ := w1.ext
  obtain ⟨X2, rfl⟩ := w2.ext
  obtain ⟨X3, rfl⟩ := w3.ext
  have ha2 := w1.nw.mono X2
  have ha3 := ha2.1.mono X3
  have hn1 := hn.mono X1
  have hn2 := hn1.1.mono X2
  have lt : (s.take c).length = c := by simp; omega
  have ld : (s.drop c).length = s.length - c := by simp
  have hB : ∀ j, B (L0 ++ X1 ++ X2 ++ X3) a j = if o ≤ j ∧ j < o + s.length then gb s (j - o) else B L0 n j := fun j => by rw [ha3.2.1, ha2.2.1, w1.B]
  have s0 := hn.s0
  have hsz := w1.size
  have hsz2 := w2.size
  have hsz3 := w3.size
  have hse : d.size = a.size := by
    rw [hsz3, hsz2, hsz]
    by_cases h0 : s = []
    · subst h0; simp
    · have hp : 0 < s.length := List.length_pos_iff.2 h0
      rw [if_neg h0]
      by_cases hc0 : c = 0
      · subst hc0; simp [h0]
      · have ht : s.take c ≠ [] := fun e => by have := congrArg List.length e; rw [lt] at this; simp at this; omega
        rw [if_neg ht, lt]
        by_cases hcl : c = s.length
        · have hd : s.drop c = [] := by rw [hcl]; simp
          rw [if_pos hd, hcl]
        · have hd : s.drop c ≠ [] := fun e => by have := congrArg List.length e; rw [ld] at this; simp at this; omega
          rw [if_neg hd, ld]; omega
  refine ⟨txt_eq w3.nw ha3.1 hse (fun j => ?_), ?_, ?_⟩
  · rw [hB, w3.B, ld, w2.B, lt, hn1.2.1]
    by_cases c1 : o + c ≤ j ∧ j < o + c + (s.length - c)
    · rw [if_pos c1, if_pos (by omega), gb_drop]; congr 1; omega
    · rw [if_neg c1]
      by_cases c2 : o ≤ j ∧ j < o + c
      · rw [if_pos c2, if_pos (by omega), gb_take, if_pos (by omega)]
      · rw [if_neg c2, if_neg (by omega)]
  · have := read_part ha3.1 o (s.take c) (by
      rw [lt]
      by_cases h0 : c = 0
      · left; rw [h0]; rfl
      · right
        have h1 : s ≠ [] := fun e => by subst e; simp at hc; omega
        rw [hsz, if_neg h1]; omega) (fun j hj => by rw [lt] at hj; rw [hB, if_pos (by omega), gb_take, if_pos (by omega)]; congr 1; omega)
    rw [lt] at this; exact this
  · have := read_part ha3.1 (o + c) (s.drop c) (by
      rw [ld]
      by_cases h0 : s = []
      · left; rw [h0]; simp
      · right; rw [hsz, if_neg h0]; omega) (fun j hj => by rw [ld] at hj; rw [hB, if_pos (by omega), gb_drop]; congr 1; omega)
    rw [ld] at this; exact this
end Go.Proofs.YtbhofablndjeoaaDoor
