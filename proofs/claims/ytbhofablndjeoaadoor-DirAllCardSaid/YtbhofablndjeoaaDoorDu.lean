/- Directories as functions over any store; nodes' bytes and back. -/
import Derived.Test.YtbhofablndjeoaaDoorTrP
namespace Go.Proofs.YtbhofablndjeoaaDoor
set_option linter.unusedVariables false
def maxC : Nat := 4611686018427387903
/-- the bytes of a count -/
def intBs (x : Int) : Bs := if x < 0 ∨ (maxC : Int) < x then [] else leB 8 x.toNat
def rdN (s : Bs) (k : Nat) : Nat := leN (sub s k 8)
/-- a node's bytes -/
def nodeBs (n : NodeT) : Except Nat Bs :=
  if n.size < 0 ∨ (maxC : Int) < n.size then .error 1
  else if ptrMay n.root then .ok (leB 8 n.size.toNat ++ leB 8 1 ++ ptrBytes n.root ++ zeros 48) else .error 1
/-- the node that bytes are -/
def readNd (s : Bs) : Except Nat (NodeT × Bool) :=
  if allZero s then .ok (nD, false)
  else if rdN s 0 ≤ maxC ∧ rdN s 8 = 1 then
    (if ptrFits (sub s 16 64) then (if allZero (s.drop 80) then .ok (⟨(rdN s 0 : Nat), ptrOf (sub s 16 64)⟩, true) else .error 3) else .error 3)
  else .error 3
section
variable {σ : Type} (S : StF σ)
def dreadM (d : NodeT) (id : Nat) : M σ (NodeT × Bool) := M.bind (readM S d ((id * 128 : Nat) : Int) 128) fun s st => (readNd (s ++ zeros (128 - s.length)), st)
def idOk (id : Int) : Prop := 0 ≤ id ∧ id < 32
instance (id : Int) : Decidable (idOk id) := by unfold idOk; infer_instance
def dgetM (d : NodeT) (id : Int) : M σ (NodeT × Bool) := if idOk id then dreadM S d id.toNat else M.err 1
def dsetM (d : NodeT) (id : Int) (n : NodeT) : M σ NodeT :=
  if idOk id then (match nodeBs n with | .ok s => writeM S d ((id.toNat * 128 : Nat) : Int) s | .error e => M.err e) else M.err 1
def ddropM (d : NodeT) (id : Int) : M σ NodeT := M.bind (dgetM S d id) fun r => if r.2 then writeM S d ((id.toNat * 128 : Nat) : Int) (zeros 128) else M.err 7
/-- how many numbers are looked at -/
def dmost (d : NodeT) : Nat := (min 32 ((d.size + 127) / 128)).toNat
def dlistTo (d : NodeT) : Nat → Nat → List Nat → M σ (List Nat)
  | 0, _, out => M.ret out
  | f + 1, id, out => M.bind (dreadM S d id) fun r => dlistTo d f (id + 1) (if r.2 then out ++ [id] else out)
def dlistM (d : NodeT) : M σ (List Nat) := dlistTo S d (dmost d) 0 []
end
theorem sub_pre {a b : Bs} {o n : Nat} (h : o + n ≤ a.length) : sub (a ++ b) o n = sub a o n := by
  unfold sub
  rw [List.drop_append_of_le_length (by omega), List.take_append_of_le_length (by simp; omega)]
theorem sub_post {a b : Bs} {o n : Nat} (h : a.length ≤ o) : sub (a ++ b) o n = sub b (o - a.length) n := by
  unfold sub
  rw [List.drop_append, List.drop_eq_nil_of_le h, List.nil_append]
theorem sub_all {a : Bs} {n : Nat} (h : a.length = n) : sub a 0 n = a := by
  unfold sub; rw [List.drop_zero, ← h, List.take_length]
theorem nodeBs_len {n : NodeT} {s : Bs} (h : nodeBs n = .ok s) : s.length = 128 := by
  unfold nodeBs at h
  split at h
  · cases h
  · split at h
    · injection h with h
      rw [← h]
      simp [leB_len, ptrBytes_length, zeros]
    · cases h
/-- what may be laid -/
def NdMay (n : NodeT) : Prop := 0 ≤ n.size ∧ n.size ≤ maxC ∧ ptrMay n.root = true
theorem nodeBs_ok {n : NodeT} : (∃ s, nodeBs n = .ok s ∧ NdMay n) ∨ (nodeBs n = .error 1 ∧ ¬ NdMay n) := by
  unfold nodeBs NdMay
  by_cases h1 : n.size < 0 ∨ (maxC : Int) < n.size
  · rw [if_pos h1]; exact .inr ⟨rfl, fun h => by omega⟩
  · rw [if_neg h1]
    by_cases h2 : ptrMay n.root = true
    · rw [if_pos h2]; exact .inl ⟨_, rfl, by omega, by omega, h2⟩
    · rw [if_neg h2]; exact .inr ⟨rfl, fun h => h2 h.2.2⟩
/-- a node's bytes are that node's -/
theorem node_back {n : NodeT} {s : Bs} (h : nodeBs n = .ok s) (hw : n.root.wf) : readNd s = .ok (n, true) := by
  have hlen := nodeBs_len h
  unfold nodeBs at h
  split at h
  · cases h
  · rename_i h1
    split at h
    · rename_i h2
      injection h with h
      have e0 : sub s 0 8 = leB 8 n.size.toNat := by
        rw [← h, List.append_assoc, List.append_assoc, sub_pre (by simp [leB_len]), sub_all (leB_len _ _)]
      have e1 : sub s 8 8 = leB 8 1 := by
        rw [← h, List.append_assoc, List.append_assoc, sub_post (by simp [leB_len]), leB_len, sub_pre (by simp [leB_len]), sub_all (leB_len _ _)]
      have e2 : sub s 16 64 = ptrBytes n.root := by
        rw [← h, List.append_assoc, sub_post (by simp [leB_len])]
        rw [show 16 - (leB 8 n.size.toNat ++ leB 8 1).length = 0 by simp [leB_len], sub_pre (by simp [ptrBytes_length]), sub_all (ptrBytes_length _)]
      have e3 : s.drop 80 = zeros 48 := by
        rw [← h, List.drop_append, List.drop_eq_nil_of_le (by simp [leB_len, ptrBytes_length]), List.nil_append]
        simp [leB_len, ptrBytes_length]
      have hm : n.size.toNat < 256 ^ 8 := by unfold maxC at h1; omega
      have r0 : rdN s 0 = n.size.toNat := by unfold rdN; rw [e0, leN_leB _ _ hm]
      have r1 : rdN s 8 = 1 := by unfold rdN; rw [e1, leN_leB _ _ (by decide)]
      have hz : allZero s = false := by
        cases hz : allZero s
        · rfl
        · have h8 : gb s 8 = 0 := gb_zero hz 8
          have h8' : gb (sub s 8 8) 0 = gb s 8 := by unfold sub; rw [gb_take, if_pos (by omega), gb_drop]
          rw [e1] at h8'
          rw [← h8'] at h8
          exact absurd h8 (by decide)
      have hz2 : allZero (zeros 48) = true := by simp [allZero, zeros]
      unfold readNd
      rw [hz, if_neg (by decide), r0, r1, if_pos ⟨by unfold maxC at *; omega, rfl⟩, e2, ptr_fits h2, if_pos rfl, e3, hz2, if_pos rfl, ptr_back h2 hw]
      have : ((n.size.toNat : Nat) : Int) = n.size := by omega
      rw [this]
    · cases h
theorem readNd_zero {s : Bs} (h : allZero s = true) : readNd s = .ok (nD, false) := by unfold readNd; rw [if_pos h]
theorem readNd_wf {s : Bs} (hs : s.length = 128) {r : NodeT × Bool} (h : readNd s = .ok r) : (0 ≤ r.1.size ∧ r.1.size ≤ maxC) := by
  unfold readNd at h
  split at h
  · injection h with h; rw [← h]; exact ⟨by decide, by decide⟩
  · split at h
    · rename_i h1
      split at h
      · split at h
        · injection h with h; rw [← h]; exact ⟨by dsimp only; omega, by dsimp only; omega⟩
        · cases h
      · cases h
    · cases h
end Go.Proofs.YtbhofablndjeoaaDoor
