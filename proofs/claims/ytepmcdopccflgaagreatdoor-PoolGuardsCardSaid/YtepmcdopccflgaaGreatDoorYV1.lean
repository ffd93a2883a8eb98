/- Parts of the proof of the statement that the last file of this claim proves:lemmas,without any condition of their own beyond those that each states. -/
import Derived.Deep.RegionHeld
import Derived.Deep.MidRow
import Derived.WalkKit
import Derived.WalkSpells
import Derived.WalkLawsBesides
import Derived.SliceStrings
import Derived.Lib.Hide
import Derived.Laws.AppendOwnNone
import Derived.Deep.Slices
import Derived.Lib.SmallJoins
import Derived.ChangeSame
import Derived.ChangeArms
import Derived.OpenShut
import Derived.Test.YtepmcdopccflgaaGreatDoorProg
import Derived.MapKept
import Derived.Shelf.Strings.Builder1
import Derived.Shelf.Strings.Builder2
import Derived.Shelf.Strings.OnBuilder
import Derived.Shelf.Strings.Trim
import Derived.Shelf.Strings.BuilderF
import Derived.Shelf.Sort.Plain
import Derived.Shelf.Strings.Prefix
import Derived.Shelf.Bits.Mul64
import Derived.Shelf.Strings.Repeat
import Derived.Ground.Names2Prog
import Derived.Shelf.Slices.CompactI
import Derived.IntWalk
import Derived.Laws.AppendOwn
import Derived.Maps.AppendAt
import Derived.Deep.RegionHeld3
import Derived.Deep.RegionWith
import Derived.DeepKeys
import Derived.Laws.StructEq
import Derived.Deep.DrawnRows
import Derived.Deep.QuietTactic
import Derived.BigQuiet
import Derived.BigRegion
import Derived.Laws.BytesArg
import Derived.Lib.TrimByte
import Derived.Shelf.Strings.BuilderK
import Derived.Carry
import Derived.Lib.SliceRun
set_option linter.unusedVariables false
set_option linter.unusedSimpArgs false
set_option linter.unnecessarySimpa false
set_option maxHeartbeats 4000000
set_option maxRecDepth 100000
namespace Go.Proofs.YtepmcdopccflgaaGreatDoor
open Go.RowKit Go.Proofs.Tryz
theorem _root_.Go.RowKit.Hid.o {p:Prop} (h:Hid p):p:=h
theorem _root_.Go.Shut.o {p:Prop} (h:Shut p):p:=h
theorem a8:type_of%@List.getD_eq_getElem?_getD:=@List.getD_eq_getElem?_getD
theorem b9:type_of%@List.getElem?_eq_getElem:=@List.getElem?_eq_getElem
theorem d8:type_of%@Nat.le_refl:=@Nat.le_refl
theorem i4:type_of%@Below.refl:=@Below.refl
theorem i5:type_of%@Option.some.injEq:=@Option.some.injEq
theorem i6:type_of%@if_pos:=@if_pos
theorem i7:type_of%@List.length_append:=@List.length_append
theorem i8:type_of%@Array.getElem?_eq_some_iff:=@Array.getElem?_eq_some_iff
theorem i9:type_of%@if_neg:=@if_neg
theorem l5:type_of%@Tryz.underlying51:=@Tryz.underlying51
theorem l6:type_of%@Nat.le_trans:=@Nat.le_trans
theorem l7:type_of%@wp_region_held_drew:=@wp_region_held_drew
theorem l9:type_of%@bodyPost_ret:=@bodyPost_ret
theorem m5:type_of%@yieldsIf_load_mid:=@yieldsIf_load_mid
theorem m6:type_of%@Tryz.underlying43:=@Tryz.underlying43
theorem m7:type_of%@List.getElem?_eq_none:=@List.getElem?_eq_none
theorem m8:type_of%@List.take_succ_eq_append_getElem:=@List.take_succ_eq_append_getElem
theorem m9:type_of%@List.getElem?_cons_succ:=@List.getElem?_cons_succ
theorem n5:type_of%@List.getElem_mem:=@List.getElem_mem
theorem n7:type_of%@Obj.cells.injEq:=@Obj.cells.injEq
theorem n8:type_of%@List.getElem?_cons_zero:=@List.getElem?_cons_zero
theorem n9:type_of%@List.getElem?_toArray:=@List.getElem?_toArray
theorem o4:type_of%@Tryz.underlying53:=@Tryz.underlying53
theorem o7:type_of%@congrArg:=@congrArg
theorem r8:type_of%@wpAnyH_done:=@wpAnyH_done
theorem r9:type_of%@Nat.zero_add:=@Nat.zero_add
theorem s7:type_of%@Int.toNat_natCast:=@Int.toNat_natCast
theorem s8:type_of%@List.mem_cons:=@List.mem_cons
theorem y7:type_of%@Result.andThen_ok:=@Result.andThen_ok
theorem y8:type_of%@Bool.and_eq_true:=@Bool.and_eq_true
theorem y9:type_of%@List.mem_singleton:=@List.mem_singleton
theorem z6:type_of%@Nat.zero_le:=@Nat.zero_le
theorem z7:type_of%@List.length_take:=@List.length_take
theorem z8:type_of%@AllReadyH.cons:=@AllReadyH.cons
theorem bLn:type_of%@List.length_cons:=@List.length_cons
theorem bLo:type_of%@IntWalk.i64_in:=@IntWalk.i64_in
theorem bLp:type_of%@List.not_mem_nil:=@List.not_mem_nil
theorem bLq:type_of%@List.take_of_length_le:=@List.take_of_length_le
theorem bLr:type_of%@Sem.run_bind:=@Sem.run_bind
theorem bLs:type_of%@List.eq_nil_of_length_eq_zero:=@List.eq_nil_of_length_eq_zero
theorem bLt:type_of%@decide_eq_true_eq:=@decide_eq_true_eq
theorem bLu:type_of%@all_oneCell_toArray:=@all_oneCell_toArray
theorem bLv:type_of%@Nat.le_succ:=@Nat.le_succ
theorem bLw:type_of%@List.length_replicate:=@List.length_replicate
theorem bLx:type_of%@Int.toNat_of_nonneg:=@Int.toNat_of_nonneg
theorem bLy:type_of%@List.length_set:=@List.length_set
theorem bLz:type_of%@List.take_length:=@List.take_length
theorem bMa:type_of%@World.ownsRow_nil:=@World.ownsRow_nil
theorem bMb:type_of%@List.flatMap_cons:=@List.flatMap_cons
theorem bMc:type_of%@Nat.add_assoc:=@Nat.add_assoc
theorem bMd:type_of%@List.append_assoc:=@List.append_assoc
theorem bMe:type_of%@List.length_drop:=@List.length_drop
theorem bMf:type_of%@List.mem_cons_self:=@List.mem_cons_self
theorem bMg:type_of%@List.mem_cons_of_mem:=@List.mem_cons_of_mem
theorem bMh:type_of%@List.getElem?_map:=@List.getElem?_map
theorem bMi:type_of%@decide_eq_true:=@decide_eq_true
theorem bMj:type_of%@decide_eq_false:=@decide_eq_false
theorem bMk:type_of%@List.range_succ:=@List.range_succ
theorem bMl:type_of%@rounds_succ:=@rounds_succ
theorem bMm:type_of%@Value.slice.injEq:=@Value.slice.injEq
theorem bMn:type_of%@List.mem_map:=@List.mem_map
theorem bMo:type_of%@info_parts:=@info_parts
theorem bMp:type_of%@List.mem_range:=@List.mem_range
theorem bMq:type_of%@List.getElem?_append_right:=@List.getElem?_append_right
theorem bMr:type_of%@World.cell?_alloc_at:=@World.cell?_alloc_at
theorem bMs:type_of%@Option.some.inj:=@Option.some.inj
theorem bMt:type_of%@List.nil_append:=@List.nil_append
theorem bMu:type_of%@List.mem_append:=@List.mem_append
theorem bMv:type_of%@List.append_nil:=@List.append_nil
theorem bMw:type_of%@Tryz.underlying3:=@Tryz.underlying3
theorem bMx:type_of%@wp_store_mid:=@wp_store_mid
theorem bMy:type_of%@List.getElem?_eq_some_iff:=@List.getElem?_eq_some_iff
theorem bMz:type_of%@List.getElem?_append_left:=@List.getElem?_append_left
theorem bNa:type_of%@List.map_append:=@List.map_append
theorem bNb:type_of%@wp_loop_rounds:=@wp_loop_rounds
theorem bNc:type_of%@Nat.lt_of_lt_of_le:=@Nat.lt_of_lt_of_le
theorem bNd:type_of%@Nat.mod_lt:=@Nat.mod_lt
theorem bNe:type_of%@wpList_append_own:=@wpList_append_own
theorem bNf:type_of%@Tryz.underlying55:=@Tryz.underlying55
theorem bNg:type_of%@List.ext_getElem?:=@List.ext_getElem?
theorem bNh:type_of%@List.drop_eq_getElem_cons:=@List.drop_eq_getElem_cons
theorem bNi:type_of%@World.cell?_of_block:=@World.cell?_of_block
theorem bNj:type_of%@List.drop_eq_nil_of_le:=@List.drop_eq_nil_of_le
theorem bNk:type_of%@List.getElem?_take:=@List.getElem?_take
theorem bNl:type_of%@Addr.mk.injEq:=@Addr.mk.injEq
theorem bNm:type_of%@List.length_nil:=@List.length_nil
theorem bNn:type_of%@List.flatMap_append:=@List.flatMap_append
theorem bNo:type_of%@or_false:=@or_false
theorem bNp:type_of%@Tryz.underlying24:=@Tryz.underlying24
theorem bNq:type_of%@List.replicate_append_replicate:=@List.replicate_append_replicate
theorem bNr:type_of%@Bool.not_eq_true':=@Bool.not_eq_true'
theorem bNs:type_of%@List.pairwise_append:=@List.pairwise_append
theorem bNt:type_of%@Tryz.underlying246:=@Tryz.underlying246
theorem bNu:type_of%@Below.heap_setCell:=@Below.heap_setCell
theorem bNv:type_of%@AllReadyIn.nil:=@AllReadyIn.nil
theorem bNw:type_of%@List.ext_getElem:=@List.ext_getElem
theorem bNx:type_of%@Tryz.underlying69:=@Tryz.underlying69
theorem bNy:type_of%@run_underlying:=@run_underlying
theorem bNz:type_of%@List.filter_append:=@List.filter_append
theorem bOa:type_of%@wpList_append_own_at:=@wpList_append_own_at
theorem bOb:type_of%@List.mem_iff_getElem:=@List.mem_iff_getElem
theorem bOc:type_of%@List.replicate_succ:=@List.replicate_succ
theorem bOd:type_of%@Array.length_toList:=@Array.length_toList
theorem bOe:type_of%@List.pairwise_iff_getElem:=@List.pairwise_iff_getElem
theorem bOf:type_of%@List.drop_zero:=@List.drop_zero
theorem bOg:type_of%@List.take_append_drop:=@List.take_append_drop
theorem bOh:type_of%@Tryz.underlying311:=@Tryz.underlying311
theorem bOi:type_of%@Tryz.underlying107:=@Tryz.underlying107
theorem bOj:type_of%@Tryz.underlying5:=@Tryz.underlying5
theorem bOk:type_of%@Tryz.underlying62:=@Tryz.underlying62
theorem bOl:type_of%@Tryz.underlying49:=@Tryz.underlying49
theorem bOm:type_of%@List.size_toArray:=@List.size_toArray
theorem bOn:type_of%@List.take_succ_cons:=@List.take_succ_cons
theorem bOo:type_of%@List.map_congr_left:=@List.map_congr_left
variable {dst:Option Tmp} {w w' w0 w1 w2 w3 w5:World} {b base base' cap clock db e e' e0 fuel g g' i id j k m mb n off:Nat} {Q:Exit→Act→World→Prop} {r:Option Nat} {K next:Act→World→Prop} {u v v' vm:Value} {args z:Array Value} {ss:List ByteArray} {a a':Act} {o oi:Oper} {cs vs xs ys zs:List Value} {f f':Nat→Nat} {F G:Nat→Prop} {ao:Option Addr} {guard:Option (Nat×Bool)} {ad:Addr} {y:Operand} {l' listed:Array Bool} {ops:Array Oper} {secs:Int} {op:BinOp} {after:Array Edge} {c:List (Nat×Value)} {rest:List Oper} {P:Program}
abbrev bB (w w':World):Prop:=Below w.heap.size w w'
abbrev cZ (w:World) (b k:Nat) (v:Value):Prop:=w.cell? ⟨b,k,none⟩=some v
abbrev rZ (w:World) (v:Value) (e:Ending) (w':World):Prop:=e= .returned v∧Below w.heap.size w w'
instance :Coe Int Value:=⟨fun n=> .int .i64 n⟩
instance :Coe Nat Value:=⟨fun n=> .int .i64 n⟩
instance :Coe Bool Value:=⟨fun b=> .bool b⟩
instance :Coe Nat Addr:=⟨fun b=>⟨b,0,none⟩⟩
abbrev zA:List Value:=[.int .i64 0,.int .i64 0,.int .i64 0,.int .i64 0,.bool false,.int .i64 0,.int .i64 0,.int .i64 0,.int .u64 0,.int .u64 0,.int .u64 0,.int .u64 0,.int .i64 0,.int .i64 0,.int .i64 0,.int .i64 0,.bool false,.int .i64 0,.int .i64 0,.int .i64 0,.int .u64 0,.int .u64 0,.int .u64 0,.int .u64 0,.int .i64 0,.int .i64 0,.int .i64 0,.int .i64 0,.bool false,.int .i64 0,.int .i64 0,.int .i64 0,.int .u64 0,.int .u64 0,.int .u64 0,.int .u64 0,.int .i64 0,.int .i64 0,.int .i64 0,.int .i64 0,.bool false,.int .i64 0,.int .i64 0,.int .i64 0,.int .u64 0,.int .u64 0,.int .u64 0,.int .u64 0]
abbrev yA:Array Value:=#[.int .i64 0,.int .i64 0,.int .i64 0,.int .i64 0,.bool false,.int .i64 0,.int .i64 0,.int .i64 0,.int .u64 0,.int .u64 0,.int .u64 0,.int .u64 0,.int .i64 0,.int .i64 0,.int .i64 0,.int .i64 0,.bool false,.int .i64 0,.int .i64 0,.int .i64 0,.int .u64 0,.int .u64 0,.int .u64 0,.int .u64 0,.int .i64 0,.int .i64 0,.int .i64 0,.int .i64 0,.bool false,.int .i64 0,.int .i64 0,.int .i64 0,.int .u64 0,.int .u64 0,.int .u64 0,.int .u64 0,.int .i64 0,.int .i64 0,.int .i64 0,.int .i64 0,.bool false,.int .i64 0,.int .i64 0,.int .i64 0,.int .u64 0,.int .u64 0,.int .u64 0,.int .u64 0]
abbrev zB:List Value:=[.int .i64 0,.int .i64 0,.int .i64 0,.int .i64 0,.int .i64 0,.bool false,.int .i64 0,.int .i64 0,.int .i64 0,.int .u64 0,.int .u64 0,.int .u64 0,.int .u64 0,.slice none 0 0,.int .i64 0,.int .i64 0,.int .i64 0,.int .i64 0,.int .i64 0,.int .i64 0,.int .i64 0,.int .i64 0,.int .i64 0,.slice none 0 0]
abbrev yB:Array Value:=#[.int .i64 0,.int .i64 0,.int .i64 0,.int .i64 0,.int .i64 0,.bool false,.int .i64 0,.int .i64 0,.int .i64 0,.int .u64 0,.int .u64 0,.int .u64 0,.int .u64 0,.slice none 0 0,.int .i64 0,.int .i64 0,.int .i64 0,.int .i64 0,.int .i64 0,.int .i64 0,.int .i64 0,.int .i64 0,.int .i64 0,.slice none 0 0]
abbrev zC:List Value:=[.slice none 0 0,.int .i64 0,.slice none 0 0,.slice none 0 0]
abbrev yC:Array Value:=#[.slice none 0 0,.int .i64 0,.slice none 0 0,.slice none 0 0]
abbrev zD:List Value:=[.int .i64 0,.int .i64 0,.int .i64 0,.int .i64 0,.int .i64 0,.bool false,.int .i64 0,.int .i64 0,.int .i64 0,.int .u64 0,.int .u64 0,.int .u64 0,.int .u64 0]
abbrev yD:Array Value:=#[.int .i64 0,.int .i64 0,.int .i64 0,.int .i64 0,.int .i64 0,.bool false,.int .i64 0,.int .i64 0,.int .i64 0,.int .u64 0,.int .u64 0,.int .u64 0,.int .u64 0]
abbrev zE:List Value:=[.int .i64 0,.int .i64 0,.int .i64 0,.int .i64 0,.bool false,.int .i64 0,.int .i64 0,.int .i64 0,.int .u64 0,.int .u64 0,.int .u64 0,.int .u64 0]
abbrev yE:Array Value:=#[.int .i64 0,.int .i64 0,.int .i64 0,.int .i64 0,.bool false,.int .i64 0,.int .i64 0,.int .i64 0,.int .u64 0,.int .u64 0,.int .u64 0,.int .u64 0]
abbrev zF:List Value:=[.int .i64 0,.int .i64 0]
abbrev yF:Array Value:=#[.int .i64 0,.int .i64 0]
abbrev zG:List Value:=[.int .i64 0,.int .i64 0,.int .i64 0,.int .i64 0,.int .i64 0,.int .i64 0,.bool false,.int .i64 0,.int .i64 0,.int .i64 0,.int .u64 0,.int .u64 0,.int .u64 0,.int .u64 0]
abbrev yG:Array Value:=#[.int .i64 0,.int .i64 0,.int .i64 0,.int .i64 0,.int .i64 0,.int .i64 0,.bool false,.int .i64 0,.int .i64 0,.int .i64 0,.int .u64 0,.int .u64 0,.int .u64 0,.int .u64 0]
abbrev zH:List Value:=[.int .i64 0,.int .i64 0,.int .i64 0,.int .i64 0,.int .i64 0,.int .i64 0,.int .i64 0,.int .i64 0,.int .i64 0]
abbrev yH:Array Value:=#[.int .i64 0,.int .i64 0,.int .i64 0,.int .i64 0,.int .i64 0,.int .i64 0,.int .i64 0,.int .i64 0,.int .i64 0]
abbrev zI:List Value:=[.int .i64 0,.int .i64 0,.bool false,.int .i64 0]
abbrev yI:Array Value:=#[.int .i64 0,.int .i64 0,.bool false,.int .i64 0]
abbrev zJ:List Value:=[.string ⟨#[]⟩,.int .i64 0,.int .i64 0,.int .i64 0]
abbrev yJ:Array Value:=#[.string ⟨#[]⟩,.int .i64 0,.int .i64 0,.int .i64 0]
theorem hZ {p:Prop} (h:p):Hid p:=Lib.hid h
theorem bZ {o:Obj}:bB w (w.alloc o):=(i4 _ _).alloc (d8 _) _
theorem nZ {α:Type} (x:α):∃y,y=x:=⟨_,rfl⟩
theorem z1 {α:Type} (l:List α) (i:Nat) (a:α):l.toArray.setIfInBounds i a=(l.set i a).toArray:=List.setIfInBounds_toArray ..
theorem z2 {α:Type} (x y:α) (l:List α):(x::l).set 0 y=y::l:=List.set_cons_zero
theorem z3 {α:Type} (x y:α) (l:List α) (n:Nat):(x::l).set (n+1) y=x::l.set n y:=List.set_cons_succ
section
variable {P:Program} {ops:Array Oper} {Q:Exit→Act→World→Prop} {md:Region.Mode} {S:World→Prop}
theorem sB (l:ops[i]?=some oi:=by(simp only[n9,m9,n8];rfl))
  (d:(Region.noSelect ops&&(Region.free md ops listed i&&(Region.ready md ops listed).contains i))=true:=by kernel_rfl)
  (p:Region.wanted oi (yielded ops a.tmps)=true:=by kernel_rfl) (s:S w:=by first|assumption|trivial)
  (x:∀c a w,Q (.panic c) (a.put oi.dst v) w→Q (.panic c) a w:=by exact fun _ _ _ h=>h)
  (hy:∀w,S w→(execOp a.eval oi).run P w= .ok (.value v) w)
  (h:wpAnyH P md ops Q S fuel (listed.setIfInBounds i true) (a.put oi.dst v) w):wpAnyH P md ops Q S (fuel+1) listed a w:=by
 simp only[y8] at d;exact wpAnyH_take l d.1 d.2.1 d.2.2 x (.inl ⟨p,hy⟩) s h
theorem rtu (l:ops[i]?=some oi:=by(simp only[n9,m9,n8];rfl))
  (d:(Region.noSelect ops&&(Region.free md ops listed i&&(Region.ready md ops listed).contains i))=true:=by kernel_rfl)
  (p:Region.wanted oi (yielded ops a.tmps)=false:=by kernel_rfl) (s:S w:=by first|assumption|trivial)
  (x:∀c a w,Q (.panic c) (a.put oi.dst undef) w→Q (.panic c) a w:=by exact fun _ _ _ h=>h)
  (h:wpAnyH P md ops Q S fuel (listed.setIfInBounds i true) (a.put oi.dst undef) w):wpAnyH P md ops Q S (fuel+1) listed a w:=by
 simp only[y8] at d;exact wpAnyH_take l d.1 d.2.1 d.2.2 x (.inr ⟨p,rfl⟩) s h
theorem mX (i:Nat) (v:Value)
  (hy:(Region.wanted oi (yielded ops a.tmps)=true∧∀w,S w→(execOp a.eval oi).run P w= .ok (.value v) w)∨(Region.wanted oi (yielded ops a.tmps)=false∧v=undef))
  (h:wpAnyH P md ops Q S fuel l' a' w)
  (l:ops[i]?=some oi:=by(simp only[n9,m9,n8];rfl))
  (d:(Region.noSelect ops&&(Region.free md ops listed i&&(Region.ready md ops listed).contains i))=true:=by kernel_rfl)
  (p:S w:=by first|assumption|trivial)
  (s:∀c a w,Q (.panic c) (a.put oi.dst v) w→Q (.panic c) a w:=by exact fun _ _ _ h=>h)
  (x:a.put oi.dst v=a':=by(simp only[Act.put,z1,z2,z3];rfl))
  (A:listed.setIfInBounds i true=l':=by first|(simp only[z1,z2,z3];rfl)|rfl):wpAnyH P md ops Q S (fuel+1) listed a w:=by
 subst x A;simp only[y8] at d;exact wpAnyH_take l d.1 d.2.1 d.2.2 s hy p h
theorem aE (i:Nat)
  (h:wpAnyH P md ops Q S fuel l' a' w)
  (l:ops[i]?=some oi:=by(simp only[n9,m9,n8];rfl))
  (hy:∀w,S w→(execOp a.eval oi).run P w= .ok (.value v) w:=by(intro w d;(try dsimp only at d);go_simp;try with_reducible rfl))
  (p:(Region.noSelect ops&&(Region.free md ops listed i&&(Region.ready md ops listed).contains i))=true:=by kernel_rfl)
  (s:Region.wanted oi (yielded ops a.tmps)=true:=by kernel_rfl) (x:S w:=by first|assumption|trivial)
  (A:∀c a w,Q (.panic c) (a.put oi.dst v) w→Q (.panic c) a w:=by exact fun _ _ _ h=>h)
  (C:a.put oi.dst v=a':=by(simp only[Act.put,z1,z2,z3];rfl))
  (D:listed.setIfInBounds i true=l':=by first|(simp only[z1,z2,z3];rfl)|rfl):wpAnyH P md ops Q S (fuel+1) listed a w:=
 mX i v (.inl ⟨s,hy⟩) h l p x A C D
theorem jL (i:Nat)
  (h:wpAnyH P md ops Q S fuel l' a' w)
  (d:ops[i]?=some oi:=by(simp only[n9,m9,n8];rfl))
  (l:(Region.noSelect ops&&(Region.free md ops listed i&&(Region.ready md ops listed).contains i))=true:=by kernel_rfl)
  (p:Region.wanted oi (yielded ops a.tmps)=false:=by kernel_rfl) (s:S w:=by first|assumption|trivial)
  (x:∀c a w,Q (.panic c) (a.put oi.dst undef) w→Q (.panic c) a w:=by exact fun _ _ _ h=>h)
  (A:a.put oi.dst undef=a':=by(simp only[Act.put,z1,z2,z3];rfl))
  (C:listed.setIfInBounds i true=l':=by first|(simp only[z1,z2,z3];rfl)|rfl):wpAnyH P md ops Q S (fuel+1) listed a w:=
 mX i undef (.inr ⟨p,rfl⟩) h d l s x A C
theorem dY (l:ops[i]?=some o:=by(simp only[n9,m9,n8];rfl)) (hr:Region.ready md ops listed=[i]:=by kernel_rfl)
  (h:∀d:Act→World→Prop,Shut (∀a w,S w→(S w→wpAnyH P md ops Q S fuel (listed.setIfInBounds i true) a w)→d a w)→if Region.wanted o (yielded ops a.tmps)=true then Oper.wp P o a w d Q else d (a.put o.dst undef) w):wpAnyH P md ops Q S (fuel+1) listed a w:=
 wpAnyH_ready hr (by simp) (z8 l h AllReadyH.nil)
theorem rc {rs:List Nat}
  (h:∀d:Act→World→Prop,Shut (∀a w,S w→(S w→wpAnyH P md ops Q S fuel (listed.setIfInBounds i true) a w)→d a w)→if Region.wanted o (yielded ops a.tmps)=true then Oper.wp P o a w d Q else d (a.put o.dst undef) w)
  (l:AllReadyH P md ops Q S fuel listed a w rs) (p:ops[i]?=some o:=by(simp only[n9,m9,n8];rfl)):AllReadyH P md ops Q S fuel listed a w (i::rs):=z8 p h l
theorem rn:AllReadyH P md ops Q S fuel listed a w []:=AllReadyH.nil
theorem vB (rs:List Nat) (h:AllReadyH P md ops Q S fuel listed a w rs) (hr:Region.ready md ops listed=rs:=by kernel_rfl) (d:rs≠[]:=by simp):wpAnyH P md ops Q S (fuel+1) listed a w:=wpAnyH_ready hr d h
end
def RSl (w:World) (k:Nat) (ao:Option Addr) (n cap:Nat) (cs:List Value):Prop:=
 cs.length=n*k∧n≤cap∧cap≤maxLen∧(ao=none→cap=0)∧
 (0<n→∃b off,ao=some ⟨b,off,none⟩∧b<w.heap.size∧∀j,j<n*k→w.cell? ⟨b,off+j,none⟩=cs[j]?)
theorem RSl.below (h:RSl w k ao n cap cs) (l:bB w w'):RSl w' k ao n cap cs:=by
 obtain⟨h1,h2,s,x,A⟩:=h;refine⟨h1,h2,s,x,fun C=>?_⟩
 obtain⟨b,off,e,d,D⟩:=A C;exact⟨b,off,e,bNc d l.size,fun j E=>(l.cell (p:=⟨b,off+j,none⟩) d).trans (D j E)⟩
theorem RSl.nil (w:World) (k:Nat):RSl w k none 0 0 []:=⟨by simp,d8 _,by unfold maxLen;omega,fun _=>rfl,fun h=>absurd h (by omega)⟩
theorem RSl.of_owns {size:Nat} (h:w.ownsRow base e size v n xs):
  ∃ao cap,v= .slice ao n cap∧RSl w size ao n cap xs:=by
 rcases h.2 with⟨rfl,rfl⟩|⟨g,cap,d,rfl,C,hg,l,p,A,ht⟩
 ·have s:=bLs (by simpa using h.1)
  subst s;exact⟨none,0,rfl,RSl.nil _ _⟩
 ·refine⟨some g,cap,rfl,h.1,l,p,fun e=>by simp at e,fun D=>⟨g,0,rfl,(i8.1 hg).1,fun j x=>?_⟩⟩
  rw[r9,cell_of_row w g j d e (0,0) hg,←ht,bNk,i6 x];simp
def cV (ss:List ByteArray):List Value:=ss.map Value.string
theorem bBc (ss:List ByteArray) (j:Nat) (h:j<ss.length):(cV ss)[j]?=some (.string (ss.getD j ByteArray.empty)):=by simp[cV,h]
def sS (w:World) (ao:Option Addr) (n cap:Nat) (ss:List ByteArray):Prop:=RSl w 1 ao n cap (cV ss)
theorem sS.len (h:sS w ao n cap ss):ss.length=n:=by have:=h.1;simpa[cV] using this
theorem sS.below (h:sS w ao n cap ss) (d:bB w w'):sS w' ao n cap ss:=RSl.below h d
theorem sS.pos (h:sS w ao n cap ss) (l:0<n):
  ∃b off,ao=some ⟨b,off,none⟩∧b<w.heap.size∧∀j,j<n→w.cell? ⟨b,off+j,none⟩=some (.string (ss.getD j ByteArray.empty)):=by
 obtain⟨b,off,e,d,p⟩:=h.2.2.2.2 l;refine⟨b,off,e,d,fun j s=>?_⟩
 rw[p j (by omega),bBc ss j (by rw[h.len];exact s)]
theorem RSl.news (h:RSl w k (some ad) n cap cs):∀j u,cs[j]?=some u→w.cell? (ad.add j)=some u:=by
 intro j u d;obtain⟨p,_,_,_,hp⟩:=h;have l:j<n*k:=by rw[←p];exact(bMy.1 d).1
 have s:0<n:=by
  rcases Nat.eq_zero_or_pos n with rfl|h
  ·simp at l
  ·exact h
 obtain⟨b,off,e,A,x⟩:=hp s;simp only[i5] at e;subst e;rw[show(⟨b,off,none⟩:Addr).add j=⟨b,off+j,none⟩ from by unfold Addr.add;split<;>simp_all]
 rw[x j l,d]
theorem cF {B size:Nat} (l:Below B w w1) (h:w1.ownsRow base e size v n xs) (hg:w1.grownBy w2 v.ownBlock) (p:B≤w1.heap.size) (d:B≤base):Below B w w2:=
 l.grown hg p fun k s=>l6 d (h.lt k s).1
theorem aD {size:Nat} (h:w.ownsRow base e size v n xs) (p:bB w w'):w'.ownsRow base e size v n xs:=by
 refine⟨h.1,?_⟩;rcases h.2 with h2|⟨g,cap,l,s,hg,d,r⟩
 ·exact Or.inl h2
 ·exact Or.inr ⟨g,cap,l,s,hg,by rw[p.block g (i8.1 d).1];exact d,r⟩
theorem cY {size:Nat} (h:w.ownsRow base e size v n xs) (l:base'≤base):w.ownsRow base' e size v n xs:=by
 refine⟨h.1,?_⟩;rcases h.2 with h2|⟨g,cap,d,p,hg,r⟩
 ·exact Or.inl h2
 ·exact Or.inr ⟨g,cap,d,p,l6 l hg,r⟩
theorem bIw (a b:UInt8):bits BinOp.xor IntKind.u8 (a.toNat:Int) (b.toNat:Int)=((a^^^b).toNat:Int):=by
 have d:(BitVec.ofInt 8 (a.toNat:Int)^^^BitVec.ofInt 8 (b.toNat:Int)).toNat=a.toNat^^^b.toNat:=by
  rw[BitVec.ofInt_natCast,BitVec.ofInt_natCast,BitVec.toNat_xor,BitVec.toNat_ofNat,BitVec.toNat_ofNat,Nat.mod_eq_of_lt a.toNat_lt,Nat.mod_eq_of_lt b.toNat_lt]
 show IntKind.u8.wrap (((BitVec.ofInt 8 (a.toNat:Int)^^^BitVec.ofInt 8 (b.toNat:Int)).toNat:Nat):Int)=_
 rw[d,UInt8.toNat_xor];refine wraps_u8 _ (Int.natCast_nonneg _) ?_;have:a.toNat^^^b.toNat<2 ^ 8:=Nat.xor_lt_two_pow a.toNat_lt b.toNat_lt;omega
def qU (l:List UInt8):List Value:=l.map fun b=>Value.int .u8 b.toNat
theorem bCp (l:List UInt8) (i:Nat) (x:UInt8):(qU l).set i (.int .u8 x.toNat)=qU (l.set i x):=by simp[qU,List.map_set]
theorem bAj (l:List UInt8) (i:Nat) (h:i<l.length):(qU l)[i]?=some (.int .u8 l[i].toNat):=by simp[qU,h]
theorem aZa (n:Nat):(madeCells (Value.int .u8 0).cells (n*1)).toList=qU (List.replicate n 0):=by
 rw[Nat.mul_one,qU,List.map_replicate];exact toList_madeCells_one _ _
theorem pQ {l:List UInt8} (h:w.ownsRow base e0 1 (.slice (some g) n cap) n (qU l))
  (d e dst:TypeId) (s:P.underlying d=some (.slice e)) (x:P.underlying e=some (.int .u8)) (A:P.underlying dst=some .string):
  (convert d dst (.slice (some g) n cap)).run P w= .ok (.string ⟨l.toArray⟩) w:=by
 have p:l.length=n:=by have:=h.1;simpa[qU] using this
 have:=run_convert_bytes_arg w d e s x g 0 n cap (l.map fun b=>(b.toNat:Int)) (by simpa using p) (fun i C=>by
  rw[r9,h.cellAt i (by omega),bAj _ _ (by omega)]
  simp[List.getD,p,C]) dst A
 rw[this];congr 2;simp only[strOfNums,List.map_map];congr 2
 conv=>rhs;rw[←List.map_id l]
 exact bOo fun b _=>by simp
def Blk (w:World) (g e:Nat) (cs:List Value):Prop:=w.heap[g]?=some (.cells cs.toArray e (0,0))
theorem Blk.lt (h:Blk w g e cs):g<w.heap.size:=(i8.1 h).1
theorem Blk.cell (h:Blk w g e cs) (j:Nat):w.cell? ⟨g,j,none⟩=cs[j]?:=by
 rw[cell_of_row w g j cs.toArray e (0,0) h];simp
theorem Blk.frozen (h:Blk w g e cs) (j:Nat):w.frozen? ⟨g,j,none⟩=false:=frozen_of_row w g j cs.toArray e h
theorem Blk.setCell (h:Blk w g e cs) (j:Nat) (v:Value):Blk (w.setCell ⟨g,j,none⟩ v) g e (cs.set j v):=by
 have:=heap_setCell_same w g j cs.toArray e v h;unfold Blk;rw[this];simp
theorem Blk.other (h:Blk w g e cs) {a:Addr} (d:g≠a.block) (v:Value):Blk (w.setCell a v) g e cs:=by
 unfold Blk;rw[heap_setCell_other w a g v d];exact h
theorem Blk.below (h:Blk w g e cs) (d:bB w w'):Blk w' g e cs:=by
 unfold Blk;rw[d.block g h.lt];exact h
theorem Blk.alloc (h:Blk w g e cs) (o:Obj):Blk (w.alloc o) g e cs:=h.below (bZ)
theorem Blk.new (w:World) (e:Nat) (cs:List Value):Blk (w.alloc (.cells cs.toArray e)) w.heap.size e cs:=heap_alloc_new w _
theorem Blk.drew (h:Blk w g e cs):Blk w.drew g e cs:=h
theorem Blk.setCells (vs:List Value):∀{w:World} {cs:List Value} (o:Nat),Blk w g e cs→o+vs.length≤cs.length→Blk (w.setCells g o vs) g e (cs.take o++vs++cs.drop (o+vs.length)):=by
 induction vs with
 |nil=>
  intro w cs o h _;simpa[World.setCells] using h
 |cons v r d=>
  intro w cs o h l;simp only[bLn] at l;have h2:=d (o+1) (h.setCell o v) (by simp;omega)
  have e:cs.take o++v::r++cs.drop (o+(r.length+1))=(cs.set o v).take (o+1)++r++(cs.set o v).drop (o+1+r.length):=by
   have h1:(cs.set o v).take (o+1)=cs.take o++[v]:=by
    rw[m8 (by simp;omega),List.take_set_of_le (d8 _)]
    simp
   rw[h1,List.drop_set_of_lt (by omega)]
   simp only[bMd,List.cons_append,bMt];congr 4;omega
  rw[bLn,e];exact h2
theorem aJ (g:Nat) (vs:List Value):∀(w:World) (o:Nat),w.grownBy (w.setCells g o vs) (some g):=by
 induction vs with
 |nil=>exact fun w o=>World.grownBy.refl w _
 |cons v r h=>
  intro w o;have h2:=h (w.setCell ⟨g,o,none⟩ v) (o+1);refine⟨h2.os,h2.tape,h2.output,l6 (by simp[World.setCell]) h2.size,fun k l d=>?_⟩
  show((w.setCell ⟨g,o,none⟩ v).setCells g (o+1) r).heap[k]?=_
  rw[h2.block k (by simpa[World.setCell] using l) d,heap_setCell_other w ⟨g,o,none⟩ k v (fun e=>d (by simp[e]))]
theorem eV {a b c:World} (h:a.grownBy b r) (k:b.grownBy c r):a.grownBy c r:=
 ⟨k.os.trans h.os,k.tape.trans h.tape,k.output.trans h.output,l6 h.size k.size,fun i d l=>(k.block i (bNc d h.size) l).trans (h.block i d l)⟩
theorem rO (w:World) (r:Option Nat):w.grownBy w.drew r:=⟨rfl,rfl,rfl,d8 _,fun _ _ _=>rfl⟩
theorem gK {size:Nat} (h:w.ownsRow base e size (.slice (some g) n cap) n xs):
  ∃cs,Blk w g e cs∧base≤g∧n≤cap∧cap≤maxLen∧cs.length=cap*size∧cs.take (n*size)=xs:=by
 rcases h.2 with⟨d,_⟩|⟨g',C,l,d,A,hg,p,s,x,ht⟩
 ·simp at d
 ·simp only[bMm,i5,bNl,and_true,true_and] at d
  obtain⟨rfl,rfl⟩:=d;exact⟨l.toList,by simpa[Blk] using hg,A,p,s,by simpa using x,ht⟩
theorem gQ {size:Nat} (h:Blk w g e cs) (p:base≤g) (d:n≤cap) (s:cap≤maxLen) (l:cs.length=cap*size):
  w.ownsRow base e size (.slice (some g) n cap) n (cs.take (n*size)):=by
 refine⟨?_,.inr ⟨g,cap,cs.toArray,rfl,p,h,d,s,by simpa using l,by simp⟩⟩
 rw[z7,l];exact Nat.min_eq_left (Nat.mul_le_mul_right _ d)
theorem aWf {size:Nat} (h:w.ownsRow base e size (.slice ao n cap) n xs) (x:0<n):∃g,ao=some ⟨g,0,none⟩∧base≤g:=by
 rcases h.2 with⟨d,h0⟩|⟨g',p,s,d,l,_⟩
 ·omega
 ·simp only[bMm] at d
  exact⟨g',d.1,l⟩
theorem oW {size:Nat} (h:w.ownsRow base e size v n xs) (x:0<n):∃g cap,v= .slice (some ⟨g,0,none⟩) n cap∧base≤g:=by
 rcases h.2 with⟨_,h0⟩|⟨g',d,s,l,p,_⟩
 ·omega
 ·exact⟨g',d,l,p⟩
theorem Blk.newAt (e:Nat) (cs:List Value) (h:w.heap.size=g):Blk (w.alloc (.cells cs.toArray e)) g e cs:=by
 subst h;exact Blk.new w e cs
theorem Blk.drewN (h:Blk w g e cs):Blk (w.drewN n) g e cs:=h
theorem dB {B:Nat} {a:World} (h:Below B a w) (n:Nat):Below B a (w.drewN n):=h.trans ⟨rfl,rfl,rfl,d8 _,fun _ _=>rfl⟩
theorem mH {size:Nat} (h:w.ownsRow base e size v n xs):(w.drewN k).ownsRow base e size v n xs:=h
theorem Blk.news (h:Blk w g e cs):∀j u,cs[j]?=some u→w.cell? ((g:Addr).add j)=some u:=by
 intro j u d;rw[show(g:Addr).add j=⟨g,j,none⟩ from by unfold Addr.add;split<;>simp_all]
 rw[h.cell,d]
theorem yQ (p:o.guard=none) (s x:Operand) (t tn:TypeId)
  (C:o.op= .call {callee:= .builtin .append,args:=#[s,x],argTypes:=#[t,tn]}) (v d r:Value) (w':World) (D:a.eval s=v) (E:a.eval x=d)
  (l:∀ty,(Builtin.append_ #[t,tn] ty #[v,d]).run P w= .ok r w') (h:wpList P ops Q rest (a.put o.dst r) w'):wpList P ops Q (o::rest) a w:=by
 refine wpList_plain p fun K A=>?_
 unfold Oper.wp;simp[execOp,C,resolve,invoke,builtin,D,E,l,Result.andThen];exact A _ _ h
theorem yU (p:o.guard=none) (s x:Operand) (t:TypeId)
  (A:o.op= .call {callee:= .builtin .append,args:=#[s,x],argTypes:=#[t,t]})
  (base:Nat) (e:TypeId) (i:TypeInfo) (z:Value) (size d:Nat) (ht:P.underlying t=some (.slice e)) (C:P.info? e=some i) (U:i.zero=some z)
  (I:i.size=size) (N:i.bytes=d) (O:z.cells.size=size) (R:0<size)
  (v:Value) (n:Nat) (xs:List Value) (D:a.eval s=v) (l:w.ownsRow base e size v n xs)
  (ao:Option Addr) (m c:Nat) (news:List Value) (E:a.eval x= .slice ao m c) (hr:RSl w size ao m c news) (h1:∀u∈news,u.oneCell'=true)
  (T:n+m≤maxLen) (H:(n+m)*d≤140737488355328) (J:base≤w.heap.size)
  (h:∀v' w',w'.ownsRow base e size v' (n+m) (xs++news)→w.grownBy w' v.ownBlock→wpList P ops Q rest (a.put o.dst v') w'):wpList P ops Q (o::rest) a w:=by
 cases ao with
 |none=>
  have V:=hr.2.2.2.1 rfl;have W:m=0:=by have:=hr.2.1;omega
  subst V W;have X:=bLs (by have:=hr.1;simpa using this)
  subst X;refine wpList_append_own_none p s x t A base e i size ht C v n xs D l E (h v w ?_ (World.grownBy.refl _ _));simpa using l
 |some ad=>
  exact bNe w p s x t A base e i z size d ht C U I N O R v n xs D l ad m c news E hr.1 (RSl.news hr) h1 T H J (fun v' w' Y Z _=>h v' w' Y Z)
theorem RSl.takeAt (h:RSl w k ao n cap cs) (l:i≤n) (p:ao=none→i=0):RSl w k ao i i (cs.take (i*k)):=by
 obtain⟨h1,h2,C,D,s⟩:=h;have E:i*k≤n*k:=Nat.mul_le_mul_right _ l;refine⟨by rw[z7,h1];omega,d8 _,by omega,p,fun H=>?_⟩
 obtain⟨b,off,e,d,x⟩:=s (by omega)
 refine⟨b,off,e,d,fun j A=>?_⟩
 rw[x j (by omega),bNk,i6 A]
theorem RSl.dropAt (h:RSl w k (some ⟨b,off,none⟩) n cap cs) (p:i≤n):RSl w k (if cap=i then some ⟨b,off,none⟩ else some ⟨b,off+i*k,none⟩) (n-i) (cap-i) (cs.drop (i*k)):=by
 obtain⟨h1,h2,D,E,s⟩:=h;have H:i*k≤n*k:=Nat.mul_le_mul_right _ p;refine⟨by rw[bMe,h1,Nat.sub_mul],by omega,by omega,fun e=>by split at e<;>simp at e,fun I=>?_⟩
 have d:¬cap=i:=by omega
 rw[i9 d];obtain⟨b',C,e,l,x⟩:=s (by omega)
 simp only[i5,bNl,and_true] at e;obtain⟨rfl,rfl⟩:=e;refine⟨b,off+i*k,rfl,l,fun j A=>?_⟩
 rw[Nat.sub_mul] at A;rw[bMc,x (i*k+j) (by omega),List.getElem?_drop]
theorem Blk.rsl (h:Blk w g e cs) (d:cs.length=n*k) (l:n≤maxLen):RSl w k (some g) n n cs:=
 ⟨d,d8 _,l,fun e=>by simp at e,fun _=>⟨g,0,rfl,h.lt,fun j _=>by rw[r9];exact h.cell j⟩⟩
theorem bI (h:w.ownsRow base e k (.slice ao n cap) n cs):RSl w k ao n cap cs:=by
 obtain⟨d,c,e,hr⟩:=RSl.of_owns h;simp only[bMm,true_and] at e;obtain⟨rfl,rfl⟩:=e;exact hr
theorem aO {size:Nat} (h:w.ownsRow base e size v n xs) (d:Blk w g e' cs) (p:e≠e'):(w.setCell ⟨g,j,none⟩ u).ownsRow base e size v n xs:=by
 refine⟨h.1,?_⟩;rcases h.2 with h2|⟨g',cap,s,A,hg,l,r⟩
 ·exact Or.inl h2
 ·refine Or.inr ⟨g',cap,s,A,hg,?_,r⟩
  have x:g'≠g:=by
   rintro rfl;unfold Blk at d;rw[l] at d;simp only[i5,n7] at d;exact p d.2.1
  rw[heap_setCell_other w ⟨g,j,none⟩ g' u x];exact l
theorem aCn (h:bB w w'):w.grownBy (w'.setCell ⟨g,j,none⟩ u) (some g):=by
 refine⟨h.os,h.tape,h.output,l6 h.size (by simp[World.setCell]),fun k l d=>?_⟩
 rw[heap_setCell_other w' ⟨g,j,none⟩ k u (fun e=>d (by simp[e])),h.block k l]
theorem cU (h:bB w w'):w.grownBy w' r:=⟨h.os,h.tape,h.output,h.size,fun k d _=>h.block k d⟩
theorem getD_some (cs:List Value) (j:Nat) (h:j<cs.length):cs[j]?=some (cs.getD j undef):=by
 rw[b9 h,a8,b9 h];rfl
theorem gF {a b:Bool} (h:a=b):Ending.returned a= .returned b:=by rw[h]
def eL (p:Nat→Bool) (n:Nat):Int:=match(List.range n).find? p with|some i=>i|none=> -1
theorem fI {p:Nat→Bool} (h:k<n) (hp:p k=true) (d:∀j,j<k→p j=false):eL p n=k:=by
 have:(List.range n).find? p=some k:=by
  rw[List.find?_range_eq_some];exact⟨hp,by simpa using h,fun j l=>by simp[d j l]⟩
 simp[eL,this]
theorem eF {p:Nat→Bool} (d:∀j,j<n→p j=false):eL p n= -1:=by
 have:(List.range n).find? p=none:=by
  rw[List.find?_eq_none];intro j h;simp[d j (by simpa using h)]
 simp[eL,this]
theorem pW (p:Nat→Bool) (n:Nat):decide (0≤eL p n)=(List.range n).any p:=by
 unfold eL
 cases h:(List.range n).find? p with
 |none=>
  have:=List.find?_eq_none.1 h;rw[show(List.range n).any p=false from by simpa using this]
  rfl
 |some i=>
  rw[show(List.range n).any p=true from List.any_eq_true.2 ⟨i,List.mem_of_find?_eq_some h,List.find?_some h⟩];simp
section
open Go.RowKit Go.ChangeShapes Go.WideShapes Go.Deep
variable {dst:Option Tmp} {w w' w0 w1 w2 w3 w5:World} {b base base' cap clock db e e' e0 fuel g g' i id j k m mb n off:Nat} {Q:Exit→Act→World→Prop} {r:Option Nat} {K next:Act→World→Prop} {u v v' vm:Value} {args z:Array Value} {ss:List ByteArray} {a a':Act} {o oi:Oper} {cs vs xs ys zs:List Value} {f f':Nat→Nat} {F G:Nat→Prop} {ao:Option Addr} {guard:Option (Nat×Bool)} {ad:Addr} {y:Operand} {l' listed:Array Bool} {ops:Array Oper} {secs:Int} {op:BinOp} {after:Array Edge} {c:List (Nat×Value)} {rest:List Oper} {P:Program}
inductive LK where
 |int (k:IntKind)|bool|str|any
def LK.ok:LK→Value→Prop
 | .int k,v=>∃n,v= .int k n∧(Lit.int k n).wf=true
 | .bool,v=>∃b,v= .bool b
 | .str,v=>∃s,v= .string s
 | .any,_=>True
def fits:List LK→List Value→Prop
 |[],[]=>True
 |k::ks,v::vs=>k.ok v∧fits ks vs
 |_,_=>False
theorem lB:∀{ks:List LK} {vs:List Value},fits ks vs→vs.length=ks.length
 |[],[],_=>rfl
 |_::_,_::_,h=>by simp[lB h.2]
theorem aCl:∀{a:List LK} {b:List LK} {x y:List Value},fits a x→fits b y→fits (a++b) (x++y)
 |[],_,[],_,_,d=>d
 |_::_,_,_::_,_,h,d=>⟨h.1,aCl h.2 d⟩
section
variable (P:Program)
def oX (F:TypeId→Option (List LK)):List Field→Nat→Option (List LK)
 |[],_=>some []
 |f::r,o=>
  if f.offset=o then
   match F f.type with
   |some l=>if l.length=P.cellsOf f.type then(oX F r (o+l.length)).map (l++·) else none
   |none=>none
  else none
def aXw:Nat→TypeId→Option (List LK)
 |0,_=>none
 |n+1,t=>
  match P.underlying t with
  |some (.int k)=>some [.int k]
  |some .bool=>some [.bool]
  |some .string=>some [.str]
  |some (.struct fs)=>match oX P (aXw n) fs.toList 0 with
   |some l=>if l.length=P.cellsOf t then some l else none
   |none=>none
  |some (.array m e)=>match aXw n e with
   |some l=>if l.length=P.cellsOf e∧m*P.cellsOf e=P.cellsOf t then some (List.replicate m l).flatten else none
   |none=>none
  |_=>none
end
theorem jQ {α:Type} {f:α→List Value} {K:Nat} (h:∀a,(f a).length=K):∀(l:List α) (i j:Nat) (d:α),i<l.length→j<K→(l.flatMap f)[i*K+j]?=(f (l.getD i d))[j]?
 |[],i,j,d,p,_=>by simp at p
 |a::l,0,j,d,_,s=>by
  rw[bMb,Nat.zero_mul,r9,bMz (by rw[h];exact s)]
  simp
 |a::l,i+1,j,d,p,s=>by
  rw[bMb,bMq (by rw[h,Nat.succ_mul];omega),h,show(i+1)*K+j-K=i*K+j by rw[Nat.succ_mul];omega,jQ h l i j d (by simpa using p) s]
  simp
end
structure aC where
 ag:Int
 aa:Int
 bg:Int
 ba:Int
 two:Bool
 size:Int
 level:Int
 birth:Int
 s0:Int
 s1:Int
 s2:Int
 s3:Int
 deriving DecidableEq
def eY (x:Int):Prop:= -9223372036854775808≤x∧x≤9223372036854775807
structure aC.ok (p:aC):Prop where
 ag:eY p.ag
 aa:eY p.aa
 bg:eY p.bg
 ba:eY p.ba
 size:eY p.size
 level:eY p.level
 birth:eY p.birth
def aA (p:aC):List Value:=[.int .i64 p.ag,.int .i64 p.aa,.int .i64 p.bg,.int .i64 p.ba,.bool p.two,.int .i64 p.size,.int .i64 p.level,.int .i64 p.birth,.int .u64 p.s0,.int .u64 p.s1,.int .u64 p.s2,.int .u64 p.s3]
def pD:aC:=⟨0,0,0,0,false,0,0,0,0,0,0,0⟩
def aF (l:List aC):List Value:=l.flatMap aA
theorem rR (a b:List aC):aF (a++b)=aF a++aF b:=by simp[aF]
theorem nV (l:List aC):∀u∈aF l,u.oneCell'=true:=by
 intro u d;simp only[aF,List.mem_flatMap,aA,s8,bLp,bNo] at d;obtain⟨c,_,h⟩:=d;rcases h with rfl|rfl|rfl|rfl|rfl|rfl|rfl|rfl|rfl|rfl|rfl|rfl<;>rfl
theorem aQ (l:List aC):(aF l).length=l.length*12:=by
 unfold aF
 induction l with
 |nil=>rfl
 |cons a r d=>simp only[bMb,i7,d,bLn];simp[aA];omega
theorem aXc (l:List aC) (k i:Nat) (d:k<l.length) (h:i<12):(aF l)[k*12+i]?=(aA (l.getD k pD))[i]?:=jQ (f:=aA) (K:=12) (fun _=>rfl) l k i pD d h
theorem aMh:(prog.info? 51).map (fun i=>(i.zero,i.size,i.bytes))=some (some (.agg yE),12,96):=by kernel_rfl
abbrev Bs:=List UInt8
def aP (n:Nat):Bs:=List.replicate n 0
def bS:Nat→Nat→Bs
 |0,_=>[]
 |k+1,n=>UInt8.ofNat n::bS k (n/256)
def nU:Bs→Nat
 |[]=>0
 |b::r=>b.toNat+256*nU r
def aKe (x:Int):Bool:=decide (0≤x)&&decide (x≤4294967295)
def aDc (x:Int):Prop:=0≤x∧x<18446744073709551616
def cT (p:aC):Bool:=aKe p.ag&&aKe p.aa&&aKe p.bg&&aKe p.ba&&aKe p.birth&&(decide (0≤p.size)&&decide (p.size≤255))&&(decide (0≤p.level)&&decide (p.level≤255))
def fG (p:aC):Nat:=(p.size+p.level*256+if p.two then 65536 else 0).toNat
def aR (p:aC):Bs:=
 bS 4 p.ag.toNat++bS 4 p.aa.toNat++bS 4 p.bg.toNat++bS 4 p.ba.toNat++bS 4 (fG p)++bS 4 p.birth.toNat++bS 8 p.s0.toNat++bS 8 p.s1.toNat++bS 8 p.s2.toNat++bS 8 p.s3.toNat++aP 8
def dW (s:Bs) (o n:Nat):Bs:=(s.drop o).take n
def w4 (s:Bs) (i:Nat):Nat:=nU (dW s (4*i) 4)
def w8 (s:Bs) (i:Nat):Nat:=nU (dW s (24+8*i) 8)
def iC (s:Bs):aC:=
 ⟨w4 s 0,w4 s 1,w4 s 2,w4 s 3,decide (0<w4 s 4/65536),(w4 s 4%256:Nat),(w4 s 4/256%256:Nat),w4 s 5,w8 s 0,w8 s 1,w8 s 2,w8 s 3⟩
def fD (s:Bs):Bool:=decide (w4 s 4≤131071)&&decide ((s.drop 56).all (·== 0))
structure aC.wf (p:aC):Prop where
 ok:p.ok
 s0:aDc p.s0
 s1:aDc p.s1
 s2:aDc p.s2
 s3:aDc p.s3
def isNone (p:aC):Bool:=decide (p=pD)
inductive xE where
 |data (s:Bs)
 |index (l:List aC)
 |hole
 deriving Inhabited,DecidableEq
structure aM where
 size:Int
 root:aC
 deriving DecidableEq
def nD:aM:=⟨0,pD⟩
def nL:List aC:=[pD,pD,pD,pD]
def M (σ α:Type):=σ→Except Nat α×σ
structure StF (σ:Type) where
 get:aC→M σ Bs
 put:Bs→Nat→M σ aC
section
variable {σ α β:Type}
def M.ret (a:α):M σ α:=fun s=>(.ok a,s)
def M.err (n:Nat):M σ α:=fun s=>(.error n,s)
def M.bind (x:M σ α) (f:α→M σ β):M σ β:=fun s=>
 match x s with
 |(.ok a,s')=>f a s'
 |(.error e,s')=>(.error e,s')
theorem M.bind_ok {x:M σ α} {f:α→M σ β} {s d:σ} {a:α} (h:x s=(.ok a,d)):M.bind x f s=f a d:=by unfold M.bind;rw[h]
theorem M.bind_err {x:M σ α} {f:α→M σ β} {s d:σ} (h:x s=(.error e,d)):M.bind x f s=(.error e,d):=by unfold M.bind;rw[h]
theorem M.bind_cases {x:M σ α} {f:α→M σ β} {s:σ} {r:Except Nat β×σ} (h:M.bind x f s=r):(∃a d,x s=(.ok a,d)∧f a d=r)∨∃e d,x s=(.error e,d)∧r=(.error e,d):=by
 unfold M.bind at h;rcases hx:x s with⟨a|a,d⟩<;>rw[hx] at h
 ·exact .inr ⟨a,d,rfl,h.symm⟩
 ·exact .inl ⟨a,d,rfl,h⟩
end
def pI (s:Bs):List aC:=[iC (dW s 0 64),iC (dW s 64 64),iC (dW s 128 64),iC (dW s 192 64)]
def iH (s:Bs):Bool:=fD (dW s 0 64)&&fD (dW s 64 64)&&fD (dW s 128 64)&&fD (dW s 192 64)
def aDk (level:Int):Bool:=decide (0≤level)&&decide (level≤3)
def wR (s:Bs) (level:Int):Bool:=decide (0<s.length)&&decide (s.length%64=0)&&decide (s.length≤256)&&(decide (level≤0)||decide (s.length=256))
def cP (s:Bs) (level:Int):Except Nat xE:=
 if aDk level then
  if wR s level then
   if 0<level then(if iH s then .ok (.index (pI s)) else .error 3) else .ok (.data s)
  else .error 3
 else .error 1
def kA (s:Bs):Bs:=s++aP ((64-s.length%64)%64)
def aV (s:Bs):Bs:=if s.length≤256 then kA s else[]
def bX (l:List aC):Bs:=if l.all cT then l.flatMap aR else[]
def eG:xE→Bs
 | .data s=>aV s
 | .index l=>bX l
 | .hole=>[]
def gC (size:Int):Nat:=if size≤256 then 0 else if size≤1024 then 1 else if size≤4096 then 2 else 3
section
variable {σ:Type} (S:StF σ)
def iD (p:aC):M σ xE:=if isNone p then M.ret .hole else M.bind (S.get p) fun t s=>(cP t p.level,s)
def mR:xE→Except Nat (List aC)
 | .index l=> .ok l
 | .hole=> .ok nL
 | .data _=> .error 3
def fH (p:aC):M σ (List aC):=M.bind (iD S p) fun x s=>(mR x,s)
def kJ:Nat→aC→Nat→M σ aC
 |0,p,_=>M.ret p
 |k+1,p,i=>if isNone p then M.ret p else M.bind (fH S p) fun l=>kJ k (l.getD (i/4 ^ k) pD) (i%4 ^ k)
def nK:xE→Except Nat xE
 | .index _=> .error 3
 |x=> .ok x
def fE (n:aM) (i:Nat):M σ xE:=
 if i<64 then
  if gC n.size<3∧4 ^ gC n.size≤i then M.ret .hole
  else M.bind (kJ S (gC n.size) n.root i) fun p=>M.bind (iD S p) fun x s=>(nK x,s)
 else M.err 1
def kW (n:aM) (i:Nat):M σ Bs:=M.bind (fE S n i) fun x=>M.ret (eG x++aP (256-(eG x).length))
def aCe (s:Bs) (off till i:Nat):Bs:=(s.take (min (till-i*256) 256)).drop (off-i*256)
def iK (n:aM) (off till:Nat):Nat→Nat→Bs→M σ Bs
 |0,_,out=>M.ret out
 |f+1,i,out=>if i*256<till then M.bind (kW S n i) fun s=>iK n off till f (i+1) (out++aCe s off till i) else M.ret out
def sK (n:aM) (off size:Int):M σ Bs:=
 if off<0∨size<0 then M.err 1
 else if n.size≤off then M.ret []
 else iK S n off.toNat (off+min size (n.size-off)).toNat 66 (off.toNat/256) []
def lW (l:List aC) (level:Nat):M σ aC:=if l=nL then M.ret pD else S.put (bX l) level
def iN:Nat→aC→Nat→Bs→M σ aC
 |0,_,_,s=>if s=[] then M.ret pD else S.put (aV s) 0
 |k+1,p,i,s=>M.bind (fH S p) fun l=>M.bind (iN k (l.getD (i/4 ^ k) pD) (i%4 ^ k) s) fun q=>lW S (l.set (i/4 ^ k) q) (k+1)
def jZ:Nat→Nat→aC→M σ aC
 |0,_,r=>M.ret r
 |k+1,lv,r=>if isNone r then M.ret r else M.bind (lW S [r,pD,pD,pD] (lv+1)) fun p=>jZ k (lv+1) p
def kI (n:aM) (size:Int):M σ aM:=M.bind (jZ S (gC size-gC n.size) (gC n.size) n.root) fun r=>M.ret ⟨max n.size size,r⟩
def over (old:Bs) (frm:Nat) (s:Bs):Bs:=
 (old++aP (frm-old.length)).take frm++s++(old++aP (frm-old.length)).drop (frm+s.length)
def iE (n:aM) (i frm:Nat) (s:Bs):M σ aM:=
 M.bind (fE S n i) fun x=>M.bind (iN S (gC n.size) n.root i (over (eG x) frm s)) fun r=>M.ret ⟨n.size,r⟩
def eB:Nat→aM→Nat→Bs→M σ aM
 |0,n,_,_=>M.ret n
 |f+1,n,off,s=>if s=[] then M.ret n else
  M.bind (iE S n (off/256) (off%256) (s.take (min s.length (256-off%256)))) fun n'=>
   eB f n' (off+min s.length (256-off%256)) (s.drop (min s.length (256-off%256)))
def eS (n:aM) (off:Int) (s:Bs):M σ aM:=
 if off<0∨16384<off∨16384-off<s.length then M.err 1
 else if s=[] then M.ret n
 else M.bind (kI S n (off+s.length)) fun n'=>eB S (s.length+1) n' off.toNat s
def kL:Nat→aC→M σ aC
 |0,p=>M.ret p
 |k+1,p=>if isNone p then M.ret p else M.bind (fH S p) fun l=>kL k (l.getD 0 pD)
def cG (s:Bs):Bool:=s.all (·== 0)
def tC (f:aC→List aC→M σ (List aC)) (lv:Int):List aC→List aC→M σ (List aC)
 |[],out=>M.ret out
 |x::r,out=>if ¬isNone x∧x.level≠lv-1 then M.err 3 else M.bind (f x out) fun o=>tC f lv r o
def iO:Nat→aC→List aC→M σ (List aC)
 |0,_,out=>M.ret out
 |f+1,p,out=>if isNone p then M.ret out else if p.level=0 then M.ret (out++[p]) else M.bind (fH S p) fun l=>tC (iO f) p.level l (out++[p])
end
section
variable {σ α β:Type} {S:StF σ} {Ok:σ→Prop}
def kZ (Ok:σ→Prop) (m:M σ α):Prop:=∀s,Ok (m s).2→Ok s
theorem cO (a:α):kZ Ok (M.ret a:M σ α):=fun _ h=>h
theorem aFd (n:Nat):kZ Ok (M.err n:M σ α):=fun _ h=>h
theorem qL (f:σ→Except Nat α):kZ Ok (fun s=>(f s,s):M σ α):=fun _ h=>h
theorem dE {x:M σ α} {f:α→M σ β} (d:∀a,kZ Ok (f a)) {s:σ} (h:Ok (M.bind x f s).2):Ok (x s).2:=by
 unfold M.bind at h;rcases hx:x s with⟨r|a,l⟩<;>rw[hx] at h
 ·exact h
 ·exact d a l h
theorem cX {x:M σ α} {f:α→M σ β} (d:kZ Ok x) (l:∀a,kZ Ok (f a)):kZ Ok (M.bind x f):=fun s h=>d s (dE l h)
theorem vA {f:aC→List aC→M σ (List aC)} (d:∀x o,kZ Ok (f x o)) (h:Int):∀(l out:List aC),kZ Ok (tC f h l out)
 |[],_=>cO _
 |x::r,out=>by
  unfold tC;split
  ·exact aFd _
  ·exact cX (d x out) (vA d h r)
theorem uP (hp:∀t l,kZ Ok (S.put t l)) (l:List aC) (level:Nat):kZ Ok (lW S l level):=by
 unfold lW;by_cases h:l=nL
 ·rw[i6 h];exact cO _
 ·rw[i9 h];exact hp _ _
theorem rS (hp:∀t l,kZ Ok (S.put t l)):∀(k d:Nat) (r:aC),kZ Ok (jZ S k d r)
 |0,_,_=>cO _
 |k+1,d,r=>by
  unfold jZ;split
  ·exact cO _
  ·exact cX (uP hp _ _) (fun p=>rS hp k _ _)
theorem aSp (hp:∀t l,kZ Ok (S.put t l)) (n:aM) (size:Int):kZ Ok (kI S n size):=cX (rS hp _ _ _) (fun r=>cO _)
variable (hg:∀p,kZ Ok (S.get p)) (hp:∀t l,kZ Ok (S.put t l))
include hg
theorem aAm (p:aC):kZ Ok (iD S p):=by
 unfold iD;split
 ·exact cO _
 ·exact cX (hg p) (fun t=>qL _)
theorem rQ (p:aC):kZ Ok (fH S p):=cX (aAm hg p) (fun x=>qL _)
theorem aAl:∀(k:Nat) (p:aC) (i:Nat),kZ Ok (kJ S k p i)
 |0,p,i=>cO _
 |k+1,p,i=>by
  unfold kJ;split
  ·exact cO _
  ·exact cX (rQ hg p) (fun l=>aAl k _ _)
theorem aEu (n:aM) (i:Nat):kZ Ok (fE S n i):=by
 unfold fE;split
 ·split
  ·exact cO _
  ·exact cX (aAl hg _ _ _) (fun p=>cX (aAm hg p) (fun x=>qL _))
 ·exact aFd _
theorem aTh (n:aM) (i:Nat):kZ Ok (kW S n i):=cX (aEu hg n i) (fun x=>cO _)
theorem aBr (n:aM) (off d:Nat):∀(f i:Nat) (out:Bs),kZ Ok (iK S n off d f i out)
 |0,_,_=>cO _
 |f+1,i,out=>by
  unfold iK;split
  ·exact cX (aTh hg n i) (fun s=>aBr n off d f _ _)
  ·exact cO _
theorem yX:∀(k:Nat) (p:aC),kZ Ok (kL S k p)
 |0,p=>cO _
 |k+1,p=>by
  unfold kL;split
  ·exact cO _
  ·exact cX (rQ hg p) (fun l=>yX k _)
theorem aGh:∀(f:Nat) (p:aC) (out:List aC),kZ Ok (iO S f p out)
 |0,_,_=>cO _
 |f+1,p,out=>by
  unfold iO;split
  ·exact cO _
  ·split
   ·exact cO _
   ·exact cX (rQ hg p) (fun l=>vA (fun x o=>aGh f x o) _ _ _)
include hp
theorem yM:∀(k:Nat) (p:aC) (i:Nat) (s:Bs),kZ Ok (iN S k p i s)
 |0,p,i,s=>by
  unfold iN;by_cases h:s=[]
  ·rw[i6 h];exact cO _
  ·rw[i9 h];exact hp _ _
 |k+1,p,i,s=>cX (rQ hg p) (fun l=>cX (yM k _ _ _) (fun q=>uP hp _ _))
theorem aWa (n:aM) (i d:Nat) (s:Bs):kZ Ok (iE S n i d s):=cX (aEu hg n i) (fun x=>cX (yM hg hp _ _ _ _) (fun r=>cO _))
theorem nN:∀(f:Nat) (n:aM) (off:Nat) (s:Bs),kZ Ok (eB S f n off s)
 |0,_,_,_=>cO _
 |f+1,n,off,s=>by
  unfold eB;split
  ·exact cO _
  ·exact cX (aWa hg hp _ _ _ _) (fun d=>nN f _ _ _)
theorem aSo (n:aM) (off:Int) (s:Bs):kZ Ok (eS S n off s):=by
 unfold eS;split
 ·exact aFd _
 ·split
  ·exact cO _
  ·exact cX (aSp hp _ _) (fun d=>nN hg hp _ _ _ _)
end
structure bLk where
 L:List Bs
 count:Nat
 fails:Nat
def eQ (L:List Bs):List ByteArray:=L.map fun s=>⟨s.toArray⟩
theorem iQ:∀(k n:Nat),(bS k n).length=k
 |0,_=>rfl
 |k+1,n=>by simp[bS,iQ k]
theorem pR:∀(k n:Nat),n<256 ^ k→nU (bS k n)=n
 |0,n,h=>by simp at h;simp[bS,nU,h]
 |k+1,n,h=>by
  have h1:n/256<256 ^ k:=by rw[Nat.div_lt_iff_lt_mul (by omega)];rw[Nat.pow_succ] at h;exact h
  have h2:(UInt8.ofNat n).toNat=n%256:=by simp
  simp only[bS,nU,pR k _ h1,h2];omega
theorem aLz (n:Nat):(aP n).length=n:=by simp[aP]
theorem bY (p:aC):(aR p).length=64:=by
 simp[aR,iQ,aLz]
theorem aFj {x:Int} (h:aKe x=true):0≤x∧x≤4294967295:=by
 simpa[aKe] using h
structure bLm (p:aC):Prop where
 ag:0≤p.ag∧p.ag≤4294967295
 aa:0≤p.aa∧p.aa≤4294967295
 bg:0≤p.bg∧p.bg≤4294967295
 ba:0≤p.ba∧p.ba≤4294967295
 birth:0≤p.birth∧p.birth≤4294967295
 size:0≤p.size∧p.size≤255
 level:0≤p.level∧p.level≤255
theorem bKh {p:aC} (h:cT p=true):bLm p:=by
 simp only[cT,y8] at h;obtain⟨⟨⟨⟨⟨⟨h1,h2⟩,d⟩,l⟩,s⟩,x,A⟩,C,D⟩:=h;exact⟨aFj h1,aFj h2,aFj d,aFj l,aFj s,⟨by simpa using x,by simpa using A⟩,⟨by simpa using C,by simpa using D⟩⟩
theorem aIf {p:aC} (h:cT p=true):fG p≤131071:=by
 have m:=bKh h;have:=m.size;have:=m.level;unfold fG;split<;>omega
theorem aQe (p:aC):w4 (aR p) 0=nU (bS 4 p.ag.toNat)∧w4 (aR p) 1=nU (bS 4 p.aa.toNat)∧w4 (aR p) 2=nU (bS 4 p.bg.toNat)∧w4 (aR p) 3=nU (bS 4 p.ba.toNat)∧w4 (aR p) 4=nU (bS 4 (fG p))∧w4 (aR p) 5=nU (bS 4 p.birth.toNat):=
 ⟨rfl,rfl,rfl,rfl,rfl,rfl⟩
theorem bBm (p:aC):w8 (aR p) 0=nU (bS 8 p.s0.toNat)∧w8 (aR p) 1=nU (bS 8 p.s1.toNat)∧w8 (aR p) 2=nU (bS 8 p.s2.toNat)∧w8 (aR p) 3=nU (bS 8 p.s3.toNat):=
 ⟨rfl,rfl,rfl,rfl⟩
theorem tI {p:aC} (h:cT p=true):fD (aR p)=true:=by
 have h1:=aIf h;have h2:w4 (aR p) 4=fG p:=by rw[(aQe p).2.2.2.2.1,pR _ _ (by omega)]
 have d:(aR p).drop 56=aP 8:=rfl;unfold fD;rw[h2,d];simp[h1,aP]
theorem tL {p:aC} (h:cT p=true) (d:p.wf):iC (aR p)=p:=by
 have m:=bKh h;obtain⟨l,s,x,A,C,D⟩:=aQe p;obtain⟨E,H,I,J⟩:=bBm p;have h1:=aIf h;have s0:=d.s0;have N:=d.s1;have O:=d.s2;have R:=d.s3;unfold aDc at s0 N O R;have:=m.ag;have:=m.aa;have:=m.bg;have:=m.ba;have:=m.birth;have:=m.size;have:=m.level;rw[pR _ _ (by omega)] at l s x A C D E H I J
 unfold iC;rw[l,s,x,A,C,D,E,H,I,J];have T:((p.ag.toNat:Nat):Int)=p.ag:=by omega
 have U:((p.aa.toNat:Nat):Int)=p.aa:=by omega
 have V:((p.bg.toNat:Nat):Int)=p.bg:=by omega
 have W:((p.ba.toNat:Nat):Int)=p.ba:=by omega
 have X:((p.birth.toNat:Nat):Int)=p.birth:=by omega
 have Y:decide (0<fG p/65536)=p.two:=by
  unfold fG;cases p.two
  ·simp;omega
  ·simp;omega
 have Z:((fG p%256:Nat):Int)=p.size:=by unfold fG;split<;>omega
 have ab:((fG p/256%256:Nat):Int)=p.level:=by unfold fG;split<;>omega
 rw[Y,Z,ab,T,U,V,W,X,bLx s0.1,bLx N.1,bLx O.1,bLx R.1]
theorem aLf (a b c:Bs) (o n:Nat) (h1:a.length=o) (h2:b.length=n):dW (a++(b++c)) o n=b:=by
 subst h1 h2;simp[dW]
theorem bLd (a b c d:aC):bX [a,b,c,d]=if[a,b,c,d].all cT then aR a++(aR b++(aR c++(aR d++[]))) else[]:=by
 unfold bX;rfl
theorem bKl {d B C h:Bs} (l:d.length=64) (p:B.length=64) (s:C.length=64) (x:h.length=64):dW (d++(B++(C++(h++[])))) 0 64=d∧dW (d++(B++(C++(h++[])))) 64 64=B∧dW (d++(B++(C++(h++[])))) 128 64=C∧dW (d++(B++(C++(h++[])))) 192 64=h:=by
 refine⟨?_,?_,?_,?_⟩
 ·exact aLf [] d _ 0 64 rfl l
 ·exact aLf d B _ 64 64 l p
 ·have:=aLf (d++B) C (h++[]) 128 64 (by simp[l,p]) s
  rw[bMd] at this;exact this
 ·have:=aLf (d++(B++C)) h [] 192 64 (by simp[l,p,s]) x
  rw[bMd,bMd] at this;exact this
theorem bLe (a b c d:aC) (t:Bs) (h:t=aR a++(aR b++(aR c++(aR d++[])))):dW t 0 64=aR a∧dW t 64 64=aR b∧dW t 128 64=aR c∧dW t 192 64=aR d:=by
 rw[h];exact bKl (bY _) (bY _) (bY _) (bY _)
theorem bGt {l:List aC} (h:l.length=4):∃a b c d,l=[a,b,c,d]:=by
 rcases l with _|⟨a,_|⟨b,_|⟨c,_|⟨d,_|⟨e,r⟩⟩⟩⟩⟩
 ·simp at h
 ·simp at h
 ·simp at h
 ·simp at h
 ·exact⟨a,b,c,d,rfl⟩
 ·simp at h
theorem aTl {l:List aC} (I:l.length=4) (h:∀p∈l,cT p=true∧p.wf):(bX l).length=256∧iH (bX l)=true∧pI (bX l)=l:=by
 obtain⟨a,b,c,d,rfl⟩:=bGt I;have s:=h a (by simp);have x:=h b (by simp);have A:=h c (by simp);have C:=h d (by simp)
 have e:=bLd a b c d;rw[i6 (by simp[s.1,x.1,A.1,C.1])] at e
 obtain⟨s0,D,E,H⟩:=bLe a b c d _ e;refine⟨by rw[e];simp[bY],?_,?_⟩
 ·unfold iH
  rw[s0,D,E,H,tI s.1,tI x.1,tI A.1,tI C.1];rfl
 ·unfold pI
  rw[s0,D,E,H,tL s.1 s.2,tL x.1 x.2,tL A.1 A.2,tL C.1 C.2]
theorem aIs:cT pD=true∧pD.wf:=by
 constructor
 ·decide
 ·constructor
  ·constructor<;>(unfold eY pD;dsimp only;omega)
  all_goals (unfold aDc pD;dsimp only;omega)
def lnk (L:List Bs) (p:aC):List aC:=if isNone p then nL else pI (L.getD p.aa.toNat [])
def dat (L:List Bs) (p:aC):Bs:=if isNone p then[] else L.getD p.aa.toNat []
def blk (L:List Bs):Nat→aC→Nat→Bs
 |0,p,_=>dat L p
 |k+1,p,i=>blk L k ((lnk L p).getD (i/4 ^ k) pD) (i%4 ^ k)
def gb (s:Bs) (j:Nat):UInt8:=s.getD j 0
theorem bHs {s:Bs} (h:j<s.length):gb s j=s[j]:=by simp[gb,a8,h]
theorem aTk {s:Bs} (h:s.length≤j):gb s j=0:=by simp[gb,a8,m7 h]
theorem bGg {a b:Bs} (h:j<a.length):gb (a++b) j=gb a j:=by simp[gb,a8,bMz h]
theorem bCo {a b:Bs} (h:a.length≤j):gb (a++b) j=gb b (j-a.length):=by simp[gb,a8,bMq h]
theorem bBy (n j:Nat):gb (aP n) j=0:=by
 by_cases h:j<n
 ·rw[bHs (by simpa[aP] using h)];simp[aP]
 ·exact aTk (by simp[aP];omega)
theorem bLl (a:Bs) (n j:Nat):gb (a++aP n) j=gb a j:=by
 by_cases h:j<a.length
 ·exact bGg h
 ·rw[bCo (by omega),bBy,aTk (by omega)]
theorem bGc {a:Bs}:gb (a.take n) j=if j<n then gb a j else 0:=by
 simp only[gb,a8,bNk];split<;>rfl
theorem bGs {a:Bs}:gb (a.drop n) j=gb a (n+j):=by
 simp only[gb,a8,List.getElem?_drop]
def byt (L:List Bs) (k:Nat) (p:aC) (j:Nat):UInt8:=if j<256*4 ^ k then gb (blk L k p (j/256)) (j%256) else 0
def B (L:List Bs) (n:aM) (j:Nat):UInt8:=byt L (gC n.size) n.root j
section
variable {L:List Bs}
theorem bFg {s:Bs} (h:cG s=true) (j:Nat):gb s j=0:=by
 by_cases d:j<s.length
 ·rw[bHs d]
  simp only[cG,List.all_eq_true] at h;simpa using h _ (n5 d)
 ·exact aTk (by omega)
end
def s0:bLk:=⟨[],0,0⟩
structure bKb where
 d:UInt8
 off:Int
 n:Int
 b:UInt8
def aT:bKb:=⟨0,0,0,0⟩
instance :Inhabited bKb:=⟨aT⟩
structure bC where
 med:List Bs
 cache:Nat→List Bs
 lost:Bool
 fuse:Int
def eN:bC:=⟨[],fun _=>[],true,0⟩
instance :Inhabited bC:=⟨eN⟩
def aDd (c:Nat→List Bs) (k:Nat) (l:List Bs):Nat→List Bs:=fun j=>if j=k then l else c j
def bC.now (δ:bC) (k:Nat):Bs:=match(δ.cache k).getLast? with|some s=>s|none=>δ.med.getD k []
def bC.mayE (δ:bC) (a:Int):Nat:=if δ.lost=true then 6 else if a<0∨(δ.med.length:Int)≤a then 5 else 0
def bC.readE (δ:bC) (a:Int):Bs×Nat:=if δ.mayE a=0 then(δ.now a.toNat,0) else([],δ.mayE a)
def bC.wrote (δ:bC) (k:Nat) (s:Bs):bC:=⟨δ.med,aDd δ.cache k (δ.cache k++[s]),δ.lost,max (δ.fuse-1) (-1)⟩
def bC.writeE (δ:bC) (a:Int) (s:Bs):Nat×bC:=
 if δ.mayE a≠0 then(δ.mayE a,δ) else if s.length≠64 then(1,δ) else if δ.fuse=0 then(6,δ) else(0,δ.wrote a.toNat s)
def kF (n:Nat) (b:UInt8):List Bs:=List.replicate n (List.replicate 64 b)
def iA (n:Nat) (b:UInt8):bC:=⟨kF n b,fun _=>[],false,-1⟩
theorem bC.now_wrote (δ:bC) (k j:Nat) (s:Bs):(δ.wrote k s).now j=if j=k then s else δ.now j:=by
 unfold bC.now bC.wrote aDd;dsimp only;by_cases h:j=k
 ·rw[i6 h,i6 h,List.getLast?_append];rfl
 ·rw[i9 h,i9 h]
structure Mod (F:Nat→Prop) (w w':World):Prop where
 os:w'.os=w.os
 tape:w'.tape=w.tape
 output:w'.output=w.output
 size:w.heap.size≤w'.heap.size
 block:∀k,k<w.heap.size→¬F k→w'.heap[k]?=w.heap[k]?
theorem Mod.refl (F:Nat→Prop) (w:World):Mod F w w:=⟨rfl,rfl,rfl,d8 _,fun _ _ _=>rfl⟩
theorem Mod.below (h:bB w w'):Mod F w w':=⟨h.os,h.tape,h.output,h.size,fun k d _=>h.block k d⟩
theorem Mod.grown (h:w.grownBy w' (some g)) (hg:F g):Mod F w w':=
 ⟨h.os,h.tape,h.output,h.size,fun k d l=>h.block k d (fun e=>l (by simp only[i5] at e;rw[e];exact hg))⟩
theorem Mod.trans {a b c:World} (h:Mod F a b) (k:Mod G b c) (p:∀x,x<a.heap.size→G x→F x):Mod F a c:=
 ⟨k.os.trans h.os,k.tape.trans h.tape,k.output.trans h.output,l6 h.size k.size,fun i d l=>(k.block i (bNc d h.size) (fun hg=>l (p i d hg))).trans (h.block i d l)⟩
theorem Mod.trans' {a b c:World} (h:Mod F a b) (k:bB b c):Mod F a c:=h.trans (G:=fun _=>False) (Mod.below k) (fun _ _ h=>h.elim)
theorem Mod.mono {a b:World} (h:Mod F a b) (l:∀x,x<a.heap.size→F x→G x):Mod G a b:=
 ⟨h.os,h.tape,h.output,h.size,fun i d p=>h.block i d (fun s=>p (l i d s))⟩
theorem Mod.toBelow {B:Nat} (h:Mod F w w') (hF:∀k,F k→B≤k) (l:B≤w.heap.size):Below B w w':=
 ⟨h.os,h.tape,h.output,h.size,fun k p=>h.block k (by omega) (fun d=>by have:=hF k d;omega)⟩
theorem Mod.setCell (h:Mod F w w') (hg:F g∨w.heap.size≤g):Mod F w (w'.setCell ⟨g,j,none⟩ u):=
 ⟨h.os,h.tape,h.output,l6 h.size (by simp[World.setCell]),fun k l d=>by
  rw[heap_setCell_other w' ⟨g,j,none⟩ k u (fun e=>by
   rcases hg with hg|hg
   ·exact d (by rw[e];exact hg)
   ·have:k=g:=e
    omega)]
  exact h.block k l d⟩
theorem Mod.blk (h:Mod F w w') (d:Blk w g e cs) (hg:¬F g):Blk w' g e cs:=by
 unfold Blk;rw[h.block g d.lt hg];exact d
theorem Mod.cell (h:Mod F w w') (hg:¬F g) (d:w.cell? ⟨g,j,none⟩=some u):w'.cell? ⟨g,j,none⟩=some u:=by
 rw[bNi (w:=w) (h.block g (World.block_lt_of_cell? w _ d) hg)];exact d
theorem Mod.drew (h:Mod F w w'):Mod F w w'.drew:=h.trans' ⟨rfl,rfl,rfl,d8 _,fun _ _=>rfl⟩
theorem Mod.drewN (h:Mod F w w') (n:Nat):Mod F w (w'.drewN n):=h.trans' ⟨rfl,rfl,rfl,d8 _,fun _ _=>rfl⟩
theorem Mod.alloc (h:Mod F w w') (o:Obj):Mod F w (w'.alloc o):=h.trans' (bZ)
theorem Mod.self {a b c:World} (h:Mod F a b) (k:Mod F b c):Mod F a c:=h.trans k (fun _ _ h=>h)
section
open Go.RowKit Go.MapKept
variable {dst:Option Tmp} {w w' w0 w1 w2 w3 w5:World} {b base base' cap clock db e e' e0 fuel g g' i id j k m mb n off:Nat} {Q:Exit→Act→World→Prop} {r:Option Nat} {K next:Act→World→Prop} {u v v' vm:Value} {args z:Array Value} {ss:List ByteArray} {a a':Act} {o oi:Oper} {cs vs xs ys zs:List Value} {f f':Nat→Nat} {F G:Nat→Prop} {ao:Option Addr} {guard:Option (Nat×Bool)} {ad:Addr} {y:Operand} {l' listed:Array Bool} {ops:Array Oper} {secs:Int} {op:BinOp} {after:Array Edge} {c:List (Nat×Value)} {rest:List Oper} {P:Program}
def kvI (es:List MapEntry) (c:List (Nat×Value)):Prop:=es.map (fun e=>(e.key,e.val))=c.map fun x=>(Value.int .i64 (x.1:Int),x.2)
def Stp (l:List MapEntry) (k:Nat):Prop:=(∀b∈l.map (·.born),b<k)∧(l.map (·.born)).Nodup
def jA (w:World) (g:Nat) (c:List (Nat×Value)):Prop:=∃es clock,w.heap[g]?=some (.map es clock)∧kvI es.toList c∧Stp es.toList clock
theorem jA.lt (h:jA w g c):g<w.heap.size:=by
 obtain⟨es,k,h,_⟩:=h;exact(i8.1 h).1
theorem jA.keep (h:jA w g c) (d:w'.heap[g]?=w.heap[g]?):jA w' g c:=by
 obtain⟨es,k,h,h2⟩:=h;exact⟨es,k,by rw[d];exact h,h2⟩
theorem jA.below (h:jA w g c) (d:bB w w'):jA w' g c:=h.keep (d.block g h.lt)
theorem jA.new (w:World):jA (w.alloc (.map #[] 0)) w.heap.size []:=⟨#[],0,heap_alloc_new w _,rfl,by simp[Stp]⟩
def fK:List (Nat×Value)→Nat→Option Value
 |[],_=>none
 |x::c,k=>if x.1=k then some x.2 else fK c k
def uD:List (Nat×Value)→Nat→Value→List (Nat×Value)
 |[],k,v=>[(k,v)]
 |x::c,k,v=>if x.1=k then(k,v)::c else x::uD c k v
def aPt:List (Nat×Value)→Nat→Nat→Nat
 |[],_,i=>i
 |x::c,k,i=>if x.1=k then i else aPt c k (i+1)
theorem aCp {n:TypeDesc} {q:IntKind} (d:n= .int q) (k:Nat):∀(es:List MapEntry) (c:List (Nat×Value)) (i:Nat),kvI es c→Instr.findNow n (.int .i64 (k:Int)) es i=some ((fK c k).map fun v=>(aPt c k i,v))
 |[],c,i,h=>by
  have p:c=[]:=by unfold kvI at h;simpa using h.symm
  subst p;rfl
 |e::es,[],i,h=>by unfold kvI at h;simp at h
 |e::es,x::c,i,h=>by
  unfold kvI at h;simp only[List.map_cons,List.cons.injEq,Prod.mk.injEq] at h;obtain⟨⟨h1,h2⟩,s⟩:=h;have A:=aCp d k es c (i+1) s;subst d;unfold Instr.findNow;rw[h1];simp only[Instr.sameNow,if_true];by_cases l:x.1=k
  ·subst l
   simp[fK,aPt,h2]
  ·have:((k:Int) == (x.1:Int))=false:=by simp;omega
   rw[this];simp only[fK,aPt,i9 l];exact A
section
variable {P:Program} {t kt et:TypeId} {q:IntKind}
theorem vQ (h:P.underlying kt=some (.int q)) (e:Bool) (x:Int) (d:World):(Instr.checkKey e 10000 kt x).run P d= .ok () d:=by
 rw[show(10000:Nat)=9999+1 from rfl,Instr.checkKey,bLr,bNy h d];simp[go_sem]
theorem sH (l:P.underlying kt=some (.int q)) (k:Nat) {es:List MapEntry} (h:kvI es c) (d:World):(Instr.findKey kt (.int .i64 (k:Int)) es).run P d= .ok ((fK c k).map fun v=>(aPt c k 0,v)) d:=by
 unfold Instr.findKey;rw[bLr,bNy l d];simp only[y7];rw[aCp rfl k es c 0 h];rfl
theorem tK (ht:P.underlying t=some (.map kt et)) (d:P.underlying kt=some (.int q)) (h:jA w g c) (k:Nat) {z:Value} (l:(zeroValue et).run P w= .ok z w):(Instr.lookup t (.map (some g)) (.int .i64 (k:Int)) false).run P w= .ok ((fK c k).getD z) w:=by
 obtain⟨es,clock,h1,h2,_⟩:=h;unfold Instr.lookup;rw[bLr,bNy ht w];simp only[y7];rw[bLr,MapKept.run_getObj_map h1];simp only[y7];simp only[bLr,Sem.run_pure,y7,vQ d,sH d k h2]
 cases p:fK c k with
 |none=>simp[l]
 |some v=>simp
def bEd (w:World) (g:Nat) (es:Array MapEntry) (clock:Nat):World:={w with heap:=w.heap.setIfInBounds g (.map es clock)}
theorem wX (w:World) (g:Nat) (es:Array MapEntry) (clock:Nat):w.grownBy (bEd w g es clock) (some g):=⟨rfl,rfl,rfl,by simp[bEd],fun k h d=>by
 show(w.heap.setIfInBounds g _)[k]?=_
 rw[Array.getElem?_setIfInBounds_ne (fun e=>d (by rw[e]))]⟩
theorem aKp (hg:g<w.heap.size) {es:Array MapEntry} (h:kvI es.toList c) (d:Stp es.toList clock):jA (bEd w g es clock) g c:=
 ⟨es,clock,by show(w.heap.setIfInBounds g _)[g]?=_;rw[Array.getElem?_setIfInBounds_self_of_lt hg],h,d⟩
theorem aGr {es:List MapEntry} (h:kvI es c):es.length=c.length:=by
 have:=o7 List.length h;simpa using this
theorem aJx (h:fK c k=none):uD c k v=c++[(k,v)]:=by
 induction c with
 |nil=>rfl
 |cons x c d=>
  unfold fK at h;split at h
  ·cases h
  ·rename_i l
   unfold uD;rw[i9 l,d h];rfl
theorem aHt:∀{c:List (Nat×Value)} {u:Value} (i:Nat),fK c k=some u→∃j,aPt c k i=i+j∧j<c.length∧(c.map Prod.fst)[j]?=some k∧uD c k v=c.set j (k,v)
 |[],u,i,h=>by cases h
 |x::c,u,i,h=>by
  unfold fK at h;split at h
  ·rename_i d
   exact⟨0,by unfold aPt;rw[i6 d];rfl,by simp,by simp[d],by unfold uD;rw[i6 d];rfl⟩
  ·rename_i d
   obtain⟨j,h1,h2,l,p⟩:=aHt (i+1) h;exact⟨j+1,by unfold aPt;rw[i9 d,h1];omega,by simp;omega,by simpa using l,by unfold uD;rw[i9 d,p];rfl⟩
theorem uI (ht:P.underlying t=some (.map kt et)) (I:P.underlying kt=some (.int q)) (h:jA w g c) (k:Nat) (v:Value):
  ∃w',(Instr.mapUpdate t (.map (some g)) (.int .i64 (k:Int)) v).run P w= .ok () w'∧jA w' g (uD c k v)∧w.grownBy w' (some g):=by
 have H:=h.lt;obtain⟨es,clock,h1,h2,p⟩:=h;unfold Instr.mapUpdate;rw[bLr,bNy ht w];simp only[y7];rw[bLr,MapKept.run_getObj_map h1];simp only[y7];simp only[bLr,Sem.run_pure,y7,vQ I,sH I k h2]
 cases J:fK c k with
 |none=>
  simp only[Option.map_none];rw[MapKept.run_setObj_map _ h1];refine⟨_,rfl,aKp H (es:=es.push ⟨.int .i64 (k:Int),v,clock⟩) (clock:=clock+1) ?_ ?_,wX w g _ _⟩
  ·rw[aJx J]
   unfold kvI at h2⊢;rw[Array.toList_push,bNa,bNa,h2];rfl
  ·unfold Stp at p⊢
   rw[Array.toList_push,bNa];refine⟨fun b C=>?_,List.nodup_append.2 ⟨p.2,by simp,fun a T b C e=>?_⟩⟩
   ·rcases bMu.1 C with s|s
    ·have:=p.1 b s;omega
    ·simp at s;omega
   ·have s:=p.1 a T
    simp at C;omega
 |some u=>
  obtain⟨j,U,D,x,V⟩:=aHt (v:=v) 0 J;have A:j<es.size:=by rw[←bOd,aGr h2];exact D
  have O:es[j].key= .int .i64 (k:Int):=by
   have d:=o7 (fun l=>l[j]?) h2
   simp only[bMh] at d;rw[b9 (by rw[bOd];exact A)] at d
   simp only[bMh] at x;rw[b9 D] at d x;simp only[Option.map_some,i5,Prod.mk.injEq] at d x;have N:=d.1;rw[x] at N;simpa using N
  have R:(Instr.keyThatStays (.int .i64 (k:Int)) (.int .i64 (k:Int))).run P w= .ok (.int .i64 (k:Int)) w:=by
   unfold Instr.keyThatStays;rw[show Instr.sameBits 10000 (.int .i64 (k:Int)) (.int .i64 (k:Int))=true by simp[Instr.sameBits],i6 rfl]
   rfl
  have hg:(((es[j]?).map (·.key)).getD (.int .i64 (k:Int)))= .int .i64 (k:Int):=by
   rw[Array.getElem?_eq_getElem A];exact O
  simp only[Option.map_some,U,r9,hg,R,bLr,y7];rw[MapKept.run_setObj_map _ h1];refine⟨_,rfl,aKp H (clock:=clock) ?_ (by
   have W:(es.modify j fun e=>{key:=Value.int .i64 (k:Int),val:=v,born:=e.born}).toList.map (·.born)=es.toList.map (·.born):=by
    rw[Array.toList_modify];apply bNg;intro m;simp only[bMh,List.getElem?_modify]
    cases es.toList[m]? with
    |none=>rfl
    |some e=>simp only[Option.map_some];split<;>rfl
   unfold Stp;rw[W];exact p),wX w g _ _⟩
  rw[V];unfold kvI at h2⊢;rw[Array.toList_modify,List.map_set];apply bNg;intro m;have d:=o7 (fun l=>l[m]?) h2
  simp only[bMh] at d;simp only[bMh,List.getElem?_modify,List.getElem?_set,List.length_map];by_cases E:j=m
  ·subst E
   rw[i6 rfl,i6 D,b9 (by rw[bOd];exact A)]
   simp
  ·rw[i9 E,←d]
   cases X:es.toList[m]? with
   |none=>rfl
   |some e=>simp[E]
end
end
end Go.Proofs.YtepmcdopccflgaaGreatDoor
namespace Go.Proofs
open Go.Shelf
def Tryz.lays156_ren:Go.Shelf.Ren:=⟨fun|156=>257|165=>190|166=>128|169=>129|240=>194|241=>242|276=>244|277=>282|n=>n,fun|31=>80|9=>9|3=>3|4=>4|0=>0|20=>20|72=>217|76=>221|70=>215|37=>162|75=>220|127=>302|164=>352|5=>5|80=>223|n=>n,fun|n=>n⟩
theorem Tryz.lays156:Go.Proofs.Lays.n156 prog Tryz.lays156_ren:={
 mixed:=by kernel_rfl
 f156:=func257.trans (congrArg some (by kernel_rfl))
 f165:=func190.trans (congrArg some (by kernel_rfl))
 f166:=func128.trans (congrArg some (by kernel_rfl))
 f169:=func129.trans (congrArg some (by kernel_rfl))
 f240:=func194.trans (congrArg some (by kernel_rfl))
 f241:=func242.trans (congrArg some (by kernel_rfl))
 f276:=func244.trans (congrArg some (by kernel_rfl))
 f277:=func282.trans (congrArg some (by kernel_rfl))
 t0:=underlying0
 a0:=isAgg0
 z0:=sizeOf0
 v0:=zeroValue0
 t3:=underlying3
 a3:=isAgg3
 z3:=sizeOf3
 v3:=zeroValue3
 t4:=underlying4
 a4:=isAgg4
 z4:=sizeOf4
 v4:=zeroValue4
 t9:=underlying9
 a9:=isAgg9
 z9:=sizeOf9
 v9:=zeroValue9
 t20:=underlying20
 a20:=isAgg20
 z20:=sizeOf20
 v20:=zeroValue20
 t31:=underlying80
 a31:=isAgg80
 z31:=sizeOf80
 v31:=zeroValue80
 t37:=underlying162
 a37:=isAgg162
 z37:=sizeOf162
 v37:=zeroValue162
 t70:=underlying215
 a70:=isAgg215
 z70:=sizeOf215
 v70:=zeroValue215
 t72:=underlying217
 a72:=isAgg217
 z72:=sizeOf217
 v72:=zeroValue217
 t75:=underlying220
 a75:=isAgg220
 z75:=sizeOf220
 v75:=zeroValue220
 t76:=underlying221
 a76:=isAgg221
 z76:=sizeOf221
 v76:=zeroValue221
 t127:=underlying302
 a127:=isAgg302
 z127:=sizeOf302
 v127:=zeroValue302
 t164:=underlying352
 a164:=isAgg352
 z164:=sizeOf352
 v164:=zeroValue352}
theorem Tryz.Builder_Extra_156:Builder.Extra prog Tryz.lays156_ren:={
 sizeBuilder:=by kernel_rfl
 liesBuilder:=by kernel_rfl
 t5:=underlying5
 a5:=isAgg5
 z5:=sizeOf5
 v5:=zeroValue5
 infoByte:=by kernel_rfl
 cellsByte:=by kernel_rfl
 sizeByte:=by kernel_rfl
 neB5:=by decide}
open Go.RowKit Go.Proofs.Tryz in
theorem Tryz.strings_Join (bk o c:Nat) (xs:List ByteArray) (sep:ByteArray) (w:World) (hcells:∀(j:Nat) x,xs[j]?=some x→w.cell? ⟨bk,o+j,none⟩=some (.string x)) (hbk:bk<w.heap.size) (hN:xs.length≤140737488355328) (hcap:xs.length≤c) (hlen:(Lib.join (xs.map (·.data.toList)) sep.data.toList).length≤140737488355328):
  Calls prog 257 #[.slice (some ⟨bk,o,none⟩) xs.length c,.string sep] w fun e w'=>e= .returned (.string ⟨(Lib.join (xs.map (·.data.toList)) sep.data.toList).toArray⟩)∧Below w.heap.size w w':=Any.strings_Join Tryz.lays156 Tryz.Builder_Extra_156 bk o c xs sep w hcells hbk hN hcap hlen
def Tryz.lays160_ren:Go.Shelf.Ren:=⟨fun|160=>198|232=>248|231=>247|227=>249|234=>251|233=>250|236=>253|235=>252|228=>284|271=>287|151=>286|197=>285|120=>308|152=>307|260=>306|137=>313|119=>314|224=>315|225=>316|217=>318|266=>319|n=>n,fun|9=>9|4=>4|3=>3|5=>5|117=>359|116=>358|0=>0|124=>362|21=>21|105=>399|46=>268|119=>419|139=>422|138=>421|n=>n,fun|3=>1|4=>2|n=>n⟩
theorem Tryz.lays160:Go.Proofs.Lays.n160 prog Tryz.lays160_ren:={
 mixed:=by kernel_rfl
 f119:=func314.trans (congrArg some (by kernel_rfl))
 f120:=func308.trans (congrArg some (by kernel_rfl))
 f137:=func313.trans (congrArg some (by kernel_rfl))
 f151:=func286.trans (congrArg some (by kernel_rfl))
 f152:=func307.trans (congrArg some (by kernel_rfl))
 f160:=func198.trans (congrArg some (by kernel_rfl))
 f197:=func285.trans (congrArg some (by kernel_rfl))
 f217:=func318.trans (congrArg some (by kernel_rfl))
 f224:=func315.trans (congrArg some (by kernel_rfl))
 f225:=func316.trans (congrArg some (by kernel_rfl))
 f227:=func249.trans (congrArg some (by kernel_rfl))
 f228:=func284.trans (congrArg some (by kernel_rfl))
 f231:=func247.trans (congrArg some (by kernel_rfl))
 f232:=func248.trans (congrArg some (by kernel_rfl))
 f233:=func250.trans (congrArg some (by kernel_rfl))
 f234:=func251.trans (congrArg some (by kernel_rfl))
 f235:=func252.trans (congrArg some (by kernel_rfl))
 f236:=func253.trans (congrArg some (by kernel_rfl))
 f260:=func306.trans (congrArg some (by kernel_rfl))
 f266:=func319.trans (congrArg some (by kernel_rfl))
 f271:=func287.trans (congrArg some (by kernel_rfl))
 t0:=underlying0
 a0:=isAgg0
 z0:=sizeOf0
 v0:=zeroValue0
 t3:=underlying3
 a3:=isAgg3
 z3:=sizeOf3
 v3:=zeroValue3
 t4:=underlying4
 a4:=isAgg4
 z4:=sizeOf4
 v4:=zeroValue4
 t5:=underlying5
 a5:=isAgg5
 z5:=sizeOf5
 v5:=zeroValue5
 t9:=underlying9
 a9:=isAgg9
 z9:=sizeOf9
 v9:=zeroValue9
 t21:=underlying21
 a21:=isAgg21
 z21:=sizeOf21
 v21:=zeroValue21
 t46:=underlying268
 a46:=isAgg268
 z46:=sizeOf268
 v46:=zeroValue268
 t105:=underlying399
 a105:=isAgg399
 z105:=sizeOf399
 v105:=zeroValue399
 t116:=underlying358
 a116:=isAgg358
 z116:=sizeOf358
 t117:=underlying359
 a117:=isAgg359
 z117:=sizeOf359
 v117:=zeroValue359
 t119:=underlying419
 a119:=isAgg419
 z119:=sizeOf419
 t124:=underlying362
 a124:=isAgg362
 z124:=sizeOf362
 v124:=zeroValue362
 t138:=underlying421
 a138:=isAgg421
 z138:=sizeOf421
 v138:=zeroValue421
 t139:=underlying422
 a139:=isAgg422
 z139:=sizeOf422
 v139:=zeroValue422
 g3:=by kernel_rfl
 g4:=by kernel_rfl}
open Go.RowKit Go.Proofs.Tryz in
theorem Tryz.strings_Trim_one (s:ByteArray) (c:UInt8) (hc:c.toNat<128) (w:World) (hs:s.size≤9223372036854775807):
  Calls prog 198 #[.string s,.string ⟨#[c]⟩] w fun e w'=>e= .returned (.string ⟨(Lib.trimB s.data.toList c).toArray⟩)∧(w'=w∨w'=w.drew):=Any.strings_Trim_one Tryz.lays160 s c hc w hs
def Tryz.lays189_ren:Go.Shelf.Ren:=⟨fun|189=>216|125=>155|257=>269|128=>227|129=>228|294=>296|295=>297|296=>298|297=>299|298=>300|299=>301|216=>302|300=>303|301=>304|328=>310|329=>272|330=>273|331=>311|332=>312|215=>229|343=>317|n=>n,fun|28=>107|3=>3|46=>268|0=>0|51=>338|53=>47|4=>4|183=>331|182=>330|131=>335|5=>5|9=>9|218=>383|222=>387|228=>413|229=>414|n=>n,fun|n=>n⟩
theorem Tryz.lays189:Go.Proofs.Lays.n189 prog Tryz.lays189_ren:={
 mixed:=by kernel_rfl
 f125:=func155.trans (congrArg some (by kernel_rfl))
 f128:=func227.trans (congrArg some (by kernel_rfl))
 f129:=func228.trans (congrArg some (by kernel_rfl))
 f189:=func216.trans (congrArg some (by kernel_rfl))
 f215:=func229.trans (congrArg some (by kernel_rfl))
 f216:=func302.trans (congrArg some (by kernel_rfl))
 f257:=func269.trans (congrArg some (by kernel_rfl))
 f294:=func296.trans (congrArg some (by kernel_rfl))
 f295:=func297.trans (congrArg some (by kernel_rfl))
 f296:=func298.trans (congrArg some (by kernel_rfl))
 f297:=func299.trans (congrArg some (by kernel_rfl))
 f298:=func300.trans (congrArg some (by kernel_rfl))
 f299:=func301.trans (congrArg some (by kernel_rfl))
 f300:=func303.trans (congrArg some (by kernel_rfl))
 f301:=func304.trans (congrArg some (by kernel_rfl))
 f328:=func310.trans (congrArg some (by kernel_rfl))
 f329:=func272.trans (congrArg some (by kernel_rfl))
 f330:=func273.trans (congrArg some (by kernel_rfl))
 f331:=func311.trans (congrArg some (by kernel_rfl))
 f332:=func312.trans (congrArg some (by kernel_rfl))
 f343:=func317.trans (congrArg some (by kernel_rfl))
 t0:=underlying0
 a0:=isAgg0
 z0:=sizeOf0
 v0:=zeroValue0
 t3:=underlying3
 a3:=isAgg3
 z3:=sizeOf3
 v3:=zeroValue3
 t4:=underlying4
 a4:=isAgg4
 z4:=sizeOf4
 v4:=zeroValue4
 t5:=underlying5
 a5:=isAgg5
 z5:=sizeOf5
 v5:=zeroValue5
 t9:=underlying9
 a9:=isAgg9
 z9:=sizeOf9
 v9:=zeroValue9
 t28:=underlying107
 a28:=isAgg107
 z28:=sizeOf107
 v28:=zeroValue107
 t46:=underlying268
 a46:=isAgg268
 z46:=sizeOf268
 v46:=zeroValue268
 t51:=underlying338
 a51:=isAgg338
 z51:=sizeOf338
 v51:=zeroValue338
 t53:=underlying47
 a53:=isAgg47
 z53:=sizeOf47
 v53:=zeroValue47
 t131:=underlying335
 a131:=isAgg335
 z131:=sizeOf335
 v131:=zeroValue335
 t182:=underlying330
 a182:=isAgg330
 z182:=sizeOf330
 v182:=zeroValue330
 t183:=underlying331
 a183:=isAgg331
 z183:=sizeOf331
 v183:=zeroValue331
 t218:=underlying383
 a218:=isAgg383
 z218:=sizeOf383
 v218:=zeroValue383
 t222:=underlying387
 a222:=isAgg387
 z222:=sizeOf387
 v222:=zeroValue387
 t228:=underlying413
 a228:=isAgg413
 z228:=sizeOf413
 v228:=zeroValue413
 t229:=underlying414
 a229:=isAgg414
 z229:=sizeOf414
 v229:=zeroValue414}
open Go.Sort Go.RowKit in
theorem Tryz.slices_Sort_int (blk off cap:Nat) (zs:List Int) (w:World) (hH:Holds (Value.int .i64) w blk off zs.toArray) (hblk:blk<w.heap.size) (hsz:zs.length<4611686018427387904):
  Calls prog 216 #[.slice (some ⟨blk,off,none⟩) zs.length cap] w fun e w'=>
   e= .returned (.tuple #[])∧∃n os,w'=grow (putRow (Value.int .i64) (Sort.ahead w n) blk off (zs.mergeSort fun x y=>decide (x≤y)).toArray) os:=Any.slices_Sort_int Tryz.lays189 blk off cap zs w hH hblk hsz
def Tryz.lays105_ren:Go.Shelf.Ren:=⟨fun|105=>125|212=>188|99=>189|165=>190|166=>128|170=>191|169=>129|263=>239|264=>240|206=>241|240=>194|241=>242|276=>244|277=>282|n=>n,fun|9=>9|3=>3|4=>4|20=>20|0=>0|46=>268|109=>297|5=>5|72=>217|76=>221|51=>338|146=>346|53=>47|148=>348|70=>215|37=>162|75=>220|127=>302|164=>352|80=>223|n=>n,fun|n=>n⟩
theorem Tryz.lays105:Go.Proofs.Lays.n105 prog Tryz.lays105_ren:={
 mixed:=by kernel_rfl
 f99:=func189.trans (congrArg some (by kernel_rfl))
 f105:=func125.trans (congrArg some (by kernel_rfl))
 f165:=func190.trans (congrArg some (by kernel_rfl))
 f166:=func128.trans (congrArg some (by kernel_rfl))
 f169:=func129.trans (congrArg some (by kernel_rfl))
 f170:=func191.trans (congrArg some (by kernel_rfl))
 f206:=func241.trans (congrArg some (by kernel_rfl))
 f212:=func188.trans (congrArg some (by kernel_rfl))
 f240:=func194.trans (congrArg some (by kernel_rfl))
 f241:=func242.trans (congrArg some (by kernel_rfl))
 f263:=func239.trans (congrArg some (by kernel_rfl))
 f264:=func240.trans (congrArg some (by kernel_rfl))
 f276:=func244.trans (congrArg some (by kernel_rfl))
 f277:=func282.trans (congrArg some (by kernel_rfl))
 t0:=underlying0
 a0:=isAgg0
 z0:=sizeOf0
 v0:=zeroValue0
 t3:=underlying3
 a3:=isAgg3
 z3:=sizeOf3
 v3:=zeroValue3
 t4:=underlying4
 a4:=isAgg4
 z4:=sizeOf4
 v4:=zeroValue4
 t5:=underlying5
 a5:=isAgg5
 z5:=sizeOf5
 v5:=zeroValue5
 t9:=underlying9
 a9:=isAgg9
 z9:=sizeOf9
 v9:=zeroValue9
 t20:=underlying20
 a20:=isAgg20
 z20:=sizeOf20
 v20:=zeroValue20
 t37:=underlying162
 a37:=isAgg162
 z37:=sizeOf162
 v37:=zeroValue162
 t46:=underlying268
 a46:=isAgg268
 z46:=sizeOf268
 v46:=zeroValue268
 t51:=underlying338
 a51:=isAgg338
 z51:=sizeOf338
 v51:=zeroValue338
 t53:=underlying47
 a53:=isAgg47
 z53:=sizeOf47
 v53:=zeroValue47
 t70:=underlying215
 a70:=isAgg215
 z70:=sizeOf215
 v70:=zeroValue215
 t72:=underlying217
 a72:=isAgg217
 z72:=sizeOf217
 v72:=zeroValue217
 t75:=underlying220
 a75:=isAgg220
 z75:=sizeOf220
 v75:=zeroValue220
 t76:=underlying221
 a76:=isAgg221
 z76:=sizeOf221
 v76:=zeroValue221
 t109:=underlying297
 a109:=isAgg297
 z109:=sizeOf297
 v109:=zeroValue297
 t127:=underlying302
 a127:=isAgg302
 z127:=sizeOf302
 v127:=zeroValue302
 t146:=underlying346
 a146:=isAgg346
 z146:=sizeOf346
 v146:=zeroValue346
 t148:=underlying348
 a148:=isAgg348
 z148:=sizeOf348
 v148:=zeroValue348
 t164:=underlying352
 a164:=isAgg352
 z164:=sizeOf352
 v164:=zeroValue352}
theorem Tryz.Builder_Extra_105:Builder.Extra prog Tryz.lays105_ren:={
 sizeBuilder:=by kernel_rfl
 liesBuilder:=by kernel_rfl
 t5:=underlying5
 a5:=isAgg5
 z5:=sizeOf5
 v5:=zeroValue5
 infoByte:=by kernel_rfl
 cellsByte:=by kernel_rfl
 sizeByte:=by kernel_rfl
 neB5:=by decide}
open Go.RowKit Go.Proofs.Tryz Go.Lib in
theorem Tryz.strings_Repeat (s:ByteArray) (c:Nat) (w:World) (hc:c≤9223372036854775807) (hlen:s.size*c≤140737488355328):
  Calls prog 125 #[.string s,.int .i64 c] w fun e w'=>e= .returned (.string ⟨(Lib.repeatL s.data.toList c).toArray⟩)∧Below w.heap.size w w':=Any.strings_Repeat Tryz.lays105 Tryz.Builder_Extra_105 s c w hc hlen
def Tryz.laysNm220_ren:Go.Shelf.Ren:=⟨fun|20=>290|n=>n,fun|22=>107|3=>3|4=>4|0=>0|n=>n,fun|n=>n⟩
theorem Tryz.laysNm220:Go.Proofs.Lays2.n20 prog Tryz.laysNm220_ren:={
 mixed:=by kernel_rfl
 f20:=func290.trans (congrArg some (by kernel_rfl))
 t0:=underlying0
 a0:=isAgg0
 z0:=sizeOf0
 v0:=zeroValue0
 t3:=underlying3
 a3:=isAgg3
 z3:=sizeOf3
 v3:=zeroValue3
 t4:=underlying4
 a4:=isAgg4
 z4:=sizeOf4
 v4:=zeroValue4
 t22:=underlying107
 a22:=isAgg107
 z22:=sizeOf107
 v22:=zeroValue107
 i3:=by kernel_rfl}
open Go.RowKit Go.Proofs.Tryz Go.Lib Go.Sort in
theorem Tryz.slices_Compact_int (blk off cap:Nat) (zs:List Int) (w:World) (hH:Holds (Value.int .i64) w blk off zs.toArray) (hsz:zs.length≤9223372036854775807) (hcap:zs.length≤cap):
  Calls prog 290 #[.slice (some ⟨blk,off,none⟩) zs.length cap] w fun e w'=>e= .returned (.slice (some ⟨blk,off,none⟩) (Lib.compact zs).length cap)∧∃q,w'=putRow (Value.int .i64) (Sort.ahead w q) blk off (Lib.compact zs++List.replicate (zs.length-(Lib.compact zs).length) 0).toArray:=Any.slices_Compact_int Tryz.laysNm220 blk off cap zs w hH hsz hcap
end Go.Proofs
namespace Go.Proofs.YtepmcdopccflgaaGreatDoor
open Go.RowKit Go.Proofs.Tryz
variable {dst:Option Tmp} {w w' w0 w1 w2 w3 w5:World} {b base base' cap clock db e e' e0 fuel g g' i id j k m mb n off:Nat} {Q:Exit→Act→World→Prop} {r:Option Nat} {K next:Act→World→Prop} {u v v' vm:Value} {args z:Array Value} {ss:List ByteArray} {a a':Act} {o oi:Oper} {cs vs xs ys zs:List Value} {f f':Nat→Nat} {F G:Nat→Prop} {ao:Option Addr} {guard:Option (Nat×Bool)} {ad:Addr} {y:Operand} {l' listed:Array Bool} {ops:Array Oper} {secs:Int} {op:BinOp} {after:Array Edge} {c:List (Nat×Value)} {rest:List Oper} {P:Program}
theorem dH (h:Mod F w w') (hr:w.ownsRow b e k v n xs) (p:∀g,v.ownBlock=some g→¬F g):w'.ownsRow b e k v n xs:=by
 obtain⟨h1,h2⟩:=hr;refine⟨h1,?_⟩;rcases h2 with h2|⟨g,cap,d,rfl,l,hg,s⟩
 ·exact .inl h2
 ·refine .inr ⟨g,cap,d,rfl,l,?_,s⟩
  rw[h.block g (i8.1 hg).1 (p g rfl)];exact hg
theorem aY (h:w.ownsRow b e k v n xs):∃ao cap,v= .slice ao n cap:=by
 rcases h.2 with⟨rfl,rfl⟩|⟨g,cap,d,rfl,_⟩
 ·exact⟨none,0,rfl⟩
 ·exact⟨_,cap,rfl⟩
theorem bT (h:w.ownsRow b e k v n xs) (l:0<n):∃g cap,v= .slice (some ⟨g,0,none⟩) n cap:=by
 rcases h.2 with⟨_,rfl⟩|⟨g,cap,d,rfl,_⟩
 ·omega
 ·exact⟨_,cap,rfl⟩
theorem iM (h:w.grownBy w' r) (hr:∀g,r=some g→F g):Mod F w w':=
 ⟨h.os,h.tape,h.output,h.size,fun k d l=>h.block k d (fun e=>l (hr k e.symm))⟩
theorem uO {l:List Bs} (h:w.ownsRow b 9 1 (.slice (some g) n cap) n (cV (eQ l))) (d:j<l.length):w.cell? ⟨g,j,none⟩=some (.string ⟨(l.getD j []).toArray⟩):=by
 have p:l.length=n:=by have:=h.1;simpa[cV,eQ] using this
 rw[h.cellAt j (by omega)]
 simp[cV,eQ,b9 d]
structure iB (w:World) (db:Nat) (δ:bC) (vm:Value) (mb:Nat) (c:List (Nat×Value)):Prop where
 blk:Blk w db 139 [vm,.map (some mb),.bool δ.lost,.int .i64 δ.fuse]
 med:w.ownsRow 0 9 1 vm δ.med.length (cV (eQ δ.med))
 map:jA w mb c
 none_:∀k,fK c k=none→δ.cache k=[]
 some_:∀k v,fK c k=some v→δ.cache k≠[]∧w.ownsRow 0 9 1 v (δ.cache k).length (cV (eQ (δ.cache k)))
 d1:∀k v g,fK c k=some v→v.ownBlock=some g→vm.ownBlock≠some g
 d2:∀j k u v g,j≠k→fK c j=some u→fK c k=some v→u.ownBlock=some g→v.ownBlock≠some g
 fu: -1≤δ.fuse∧δ.fuse≤1000000000
 sz:δ.med.length≤4096∧∀k v,fK c k=some v→k<δ.med.length
 dep:∀k,(δ.cache k).length≤1000000000
def aPd (db:Nat) (vm:Value) (mb:Nat) (c:List (Nat×Value)):Nat→Prop:=fun g=>g=db∨g=mb∨vm.ownBlock=some g∨∃k v,fK c k=some v∧v.ownBlock=some g
def dJ (w:World) (db:Nat) (δ:bC) (F:Nat→Prop):Prop:=∃vm mb c,iB w db δ vm mb c∧∀g,F g↔aPd db vm mb c g
theorem iB.lt {δ:bC} (h:iB w db δ vm mb c):∀g,aPd db vm mb c g→g<w.heap.size:=by
 rintro g (rfl|rfl|hg|⟨k,v,d,hg⟩)
 ·exact h.blk.lt
 ·exact h.map.lt
 ·exact(h.med.lt g hg).2
 ·exact((h.some_ k v d).2.lt g hg).2
theorem dJ.lt {δ:bC} (h:dJ w db δ F):∀g,F g→g<w.heap.size:=by
 obtain⟨vm,mb,c,h,hF⟩:=h;exact fun g hg=>h.lt g ((hF g).1 hg)
theorem dQ (hr:w.ownsRow b e k v n xs) (l:∀g,v.ownBlock=some g→w'.heap[g]?=w.heap[g]?):w'.ownsRow b e k v n xs:=by
 obtain⟨h1,h2⟩:=hr;refine⟨h1,?_⟩;rcases h2 with h2|⟨g,cap,d,rfl,h,hg,p⟩
 ·exact .inl h2
 ·exact .inr ⟨g,cap,d,rfl,h,by rw[l g rfl];exact hg,p⟩
theorem dJ.keep {δ:bC} (h:dJ w db δ F) (d:∀g,F g→w'.heap[g]?=w.heap[g]?):dJ w' db δ F:=by
 obtain⟨vm,mb,c,h,hF⟩:=h;refine⟨vm,mb,c,⟨?_,?_,h.map.keep (d _ ((hF mb).2 (.inr (.inl rfl)))),h.none_,fun k v l=>⟨(h.some_ k v l).1,?_⟩,h.d1,h.d2,h.fu,h.sz,h.dep⟩,hF⟩
 ·unfold Blk
  rw[d _ ((hF db).2 (.inl rfl))];exact h.blk
 ·exact dQ h.med (fun g hg=>d g ((hF g).2 (.inr (.inr (.inl hg)))))
 ·exact dQ (h.some_ k v l).2 (fun g hg=>d g ((hF g).2 (.inr (.inr (.inr ⟨k,v,l,hg⟩)))))
theorem dJ.below {δ:bC} (h:dJ w db δ F) (d:bB w w'):dJ w' db δ F:=h.keep (fun g hg=>d.block g (h.lt g hg))
theorem bHa (w:World):(zeroValue 80).run prog w= .ok (.slice none 0 0) w:=by kernel_rfl
theorem aOd {δ:bC} (h:dJ w db δ F) (k:Nat) (J:k<δ.med.length):
  Calls prog 231 #[.pointer (some db),(k:Nat)] w fun e w'=>e= .returned (.string ⟨(δ.now k).toArray⟩)∧bB w w':=by
 obtain⟨vm,mb,c,h,hF⟩:=h;have R:=h.blk.cell 1;have c0:=h.blk.cell 0;have A:=tK (P:=prog) (t:=137) underlying137 underlying3 h.map k (bHa w);obtain⟨g,cap,rfl⟩:=bT h.med (by omega)
 have D:=uO h.med J;have T:(k:Int)<(δ.med.length:Int):=by omega
 have U:0≤(k:Int):=by omega
 cases d:fK c k with
 |none=>
  have E:=h.none_ k d;have l:δ.now k=δ.med.getD k []:=by unfold bC.now;rw[E];rfl
  rw[d] at A;rw[l];obtain⟨t,ht⟩:=nZ (δ.med.getD k []);rw[←ht] at D⊢;clear d E l h hF ht;go_in;go_wp21;go_ret;exact⟨rfl,i4 _ _⟩
 |some v=>
  obtain⟨C,p⟩:=h.some_ k v d;have s:=List.length_pos_iff.2 C;obtain⟨V,O,rfl⟩:=bT p s;obtain⟨n,l⟩:∃n,(δ.cache k).length=n+1:=⟨(δ.cache k).length-1,by omega⟩
  have I:=uO p (j:=n) (by omega)
  have H:=h.dep k;have x:δ.now k=(δ.cache k).getD n []:=by
   have N:(δ.cache k).getLast?=some ((δ.cache k).getD n []):=by
    rw[List.getLast?_eq_getElem?,l,Nat.add_sub_cancel,a8,b9 (show n<(δ.cache k).length by omega)]
    rfl
   unfold bC.now;rw[N]
  rw[d,l] at A;rw[x];obtain⟨t,ht⟩:=nZ ((δ.cache k).getD n []);rw[←ht] at I⊢;have W:(0:Int)<((n+1:Nat):Int):=by omega
  have X:(n:Int)<((n+1:Nat):Int):=by omega
  have Y:n≤9223372036854775807:=by omega
  clear d C p s h hF l x H ht D;go_in;go_wp21;go_ret;exact⟨rfl,i4 _ _⟩
theorem zX:(prog.info? 9).map (fun i=>(i.zero,i.size,i.bytes))=some (some (.string ⟨#[]⟩),1,16):=by kernel_rfl
theorem aUd (s x:Operand)
  (H:o.op= .call {callee:= .builtin .append,args:=#[s,x],argTypes:=#[80,80]}) (base:Nat) (v:Value) (l:List Bs) (I:a.eval s=v) (A:w.ownsRow base 9 1 v l.length (cV (eQ l)))
  (b c:Nat) (t:Bs) (J:a.eval x= .slice (some b) 1 c) (N:w.cell? ⟨b,0,none⟩=some (.string ⟨t.toArray⟩)) (V:l.length≤1000000000) (p:base≤w.heap.size)
  (h:∀v' w',w'.ownsRow base 9 1 v' (l++[t]).length (cV (eQ (l++[t])))→w.grownBy w' v.ownBlock→(v'.ownBlock=v.ownBlock∨v'.ownBlock=some w.heap.size)→K (a.put o.dst v') w'):Oper.wp prog o a w K Q:=by
 obtain⟨O,R,C,D,E⟩:=bMo zX;obtain⟨v',w',hr,h2,T,W,U⟩:=run_append_own_at (P:=prog) w base 80 o.type 9 O (.string ⟨#[]⟩) 1 16 underlying80 R C D E rfl (Nat.succ_pos 0)
  v l.length (cV (eQ l)) A b 1 c [.string ⟨t.toArray⟩] rfl (fun j u d=>by
   match j,d with
   |0,d=>
    simp at d;subst d;simpa[Addr.add] using N) (by simp[Value.oneCell']) (by unfold maxLen;omega) (by omega) p
 unfold Oper.wp execOp;simp only[H,resolve,invoke,builtin,bLr,Sem.run_pure,y7,List.map_toArray,List.map_cons,List.map_nil,I,J,hr];refine h v' w' ?_ T U;have e:cV (eQ (l++[t]))=cV (eQ l)++[.string ⟨t.toArray⟩]:=by simp[cV,eQ]
 rw[e,i7];exact h2
theorem aQn (x y z:Operand) (d:o.op= .mapUpdate 137 x y z) (g k:Nat) (v:Value) (l:a.eval x= .map (some g)) (hy:a.eval y=(k:Nat)) (p:a.eval z=v)
  (c:List (Nat×Value)) (s:jA w g c) (h:∀w',jA w' g (uD c k v)→w.grownBy w' (some g)→K (a.put o.dst undef) w'):Oper.wp prog o a w K Q:=by
 obtain⟨w',hr,h1,h2⟩:=uI (P:=prog) (t:=137) underlying137 underlying3 s k v;unfold Oper.wp execOp;simp only[d,l,hy,p,bLr,hr,y7,Sem.run_pure];exact h w' h1 h2
theorem aFa (x y:Operand) (d:o.op= .lookup 137 x y false) (g k:Nat) (v:Value) (l:a.eval x= .map (some g)) (hy:a.eval y=(k:Nat))
  (hr:(Instr.lookup 137 (.map (some g)) (k:Nat) false).run prog w= .ok v w) (h:K (a.put o.dst v) w):Oper.wp prog o a w K Q:=by
 unfold Oper.wp execOp;simp only[d,l,hy,bLr,hr,y7,Sem.run_pure];exact h
theorem qN (c:List (Nat×Value)) (k:Nat) (v:Value) (j:Nat):fK (uD c k v) j=if j=k then some v else fK c j:=by
 induction c with
 |nil=>
  unfold uD fK;by_cases h:k=j
  ·rw[i6 h,i6 h.symm]
  ·rw[i9 h,i9 (fun e=>h e.symm)];rfl
 |cons x c l=>
  unfold uD;by_cases d:x.1=k
  ·rw[i6 d]
   unfold fK;by_cases h:k=j
   ·rw[i6 h,i6 h.symm]
   ·rw[i9 h,i9 (fun e=>h e.symm),i9 (fun e=>h (d.symm.trans e))]
  ·rw[i9 d]
   unfold fK;by_cases h:x.1=j
   ·rw[i6 h,i6 h,i9 (fun e=>d (h.trans e))]
   ·rw[i9 h,i9 h,l]
def fP (db:Nat) (δ':bC) (F:Nat→Prop) (w w':World):Prop:=∃F',dJ w' db δ' F'∧Mod F w w'∧∀g,F' g→F g∨w.heap.size≤g
theorem dJ.stay {δ:bC} (h:dJ w db δ F) (d:bB w w'):fP db δ F w w':=⟨F,h.below d,Mod.below d,fun g hg=> .inl hg⟩
theorem aAe {δ:bC} (h:dJ w db δ F):
  Calls prog 82 #[.pointer (some db)] w fun e w'=>e= .returned (.bool δ.lost)∧bB w w':=by
 obtain⟨vm,mb,c,h,hF⟩:=h;have c2:=h.blk.cell 2;go_in;go_wp21;go_ret;exact⟨rfl,i4 _ _⟩
theorem aYe {δ:bC} (h:dJ w db δ F):
  Calls prog 116 #[.pointer (some db)] w fun e w'=>e= .returned (δ.med.length:Nat)∧bB w w':=by
 obtain⟨vm,mb,c,h,hF⟩:=h;have c0:=h.blk.cell 0;obtain⟨ao,cap,rfl⟩:=aY h.med;go_in;go_wp21;go_ret;exact⟨rfl,i4 _ _⟩
theorem aNc {δ:bC} (h:dJ w db δ F) (a:Int):
  Calls prog 172 #[.pointer (some db),a] w fun e w'=>e= .returned (δ.mayE a:Nat)∧bB w w':=by
 have x:=hZ (aAe h);have D:=hZ h;obtain⟨vm,mb,c,h,hF⟩:=h;obtain⟨ao,cap,rfl⟩:=aY h.med;have A:=hZ (fun w' (C:bB w w')=>(h.blk.below C).cell 0)
 cases l:δ.lost with
 |true=>
  have p:δ.mayE a=6:=by unfold bC.mayE;rw[i6 l]
  rw[l] at x;rw[p];go_in;go_wp21;refine x.o.mono ?_;rintro e w1 ⟨rfl,d⟩;have s:=hZ d;go_wp21;go_ret;exact⟨rfl,s.o⟩
 |false=>
  rw[l] at x;by_cases h0:a<0
  ·have p:δ.mayE a=5:=by unfold bC.mayE;rw[l,i9 (by decide),i6 (.inl h0)]
   rw[p];go_in;go_wp21;refine x.o.mono ?_;rintro e w1 ⟨rfl,d⟩;have s:=hZ d;have c0:=A.o w1 d;go_wp21;go_ret;exact⟨rfl,s.o⟩
  ·by_cases h1:(δ.med.length:Int)≤a
   case' _=>
    have p:δ.mayE a=5:=by unfold bC.mayE;rw[l,i9 (by decide),i6 (.inr h1)]
   rotate_left
   case' _=>
    have p:δ.mayE a=0:=by unfold bC.mayE;rw[l,i9 (by decide),i9 (by omega)]
   all_goals
    rw[p];go_in;go_wp21;refine x.o.mono ?_;rintro e w1 ⟨rfl,d⟩;have s:=hZ d;have c0:=A.o w1 d;go_wp2_with fail;go_ret;exact⟨rfl,s.o⟩
theorem aIp {δ:bC} {a:Int} (h:δ.mayE a=0):δ.lost=false∧0≤a∧a<δ.med.length:=by
 unfold bC.mayE at h;split at h
 ·cases h
 ·rename_i d
  split at h
  ·cases h
  ·exact⟨by simpa using d,by omega,by omega⟩
theorem aNl {δ:bC} (h:dJ w db δ F) (a:Int):
  Calls prog 192 #[.pointer (some db),a] w fun e w'=>e= .returned (.tuple #[.string ⟨(δ.readE a).1.toArray⟩,.int .i64 ((δ.readE a).2:Nat)])∧bB w w':=by
 have s:=hZ (aNc h a);have I:=hZ h;by_cases d:δ.mayE a=0
 case' _=>
  have l:δ.readE a=(δ.now a.toNat,0):=by unfold bC.readE;rw[i6 d]
  obtain⟨_,h0,h1⟩:=aIp d;rw[d] at s;rw[l];obtain⟨k,rfl⟩:∃k:Nat,a=k:=⟨a.toNat,by omega⟩
  have E:=hZ (fun w' (H:bB w w')=>aOd (h.below H) k (by omega))
  clear l d h h0 h1;rw[show((k:Int)).toNat=k by omega]
  go_in;go_wp21;refine s.o.mono ?_;rintro e w1 ⟨rfl,A⟩;have x:=hZ A;clear A;go_wp21;refine(E.o w1 x.o).mono ?_;rintro e w2 ⟨rfl,p⟩;have C:=hZ (x.o.trans (p.mono x.o.size))
 rotate_left
 case' _=>
  have l:δ.readE a=([],δ.mayE a):=by unfold bC.readE;rw[i9 d]
  rw[l];obtain⟨m,D⟩:=nZ (δ.mayE a);rw[←D] at d s⊢;have q:((m:Int) != 0)=true:=by simpa using d
  clear l D h;go_in;go_wp21;refine s.o.mono ?_;rintro e w1 ⟨rfl,p⟩;have C:=hZ p
 all_goals
  clear p;go_wp21;go_ret2;exact⟨rfl,C.o⟩
theorem qZ (h:w.ownsRow b e k v n xs) (d:Blk w g e' cs) (l:e≠e'):v.ownBlock≠some g:=by
 intro hg;rcases h.2 with⟨h1,_⟩|⟨s,cap,p,h1,_,h2,_⟩
 ·rw[h1] at hg;cases hg
 ·rw[h1] at hg
  simp only[Value.ownBlock,i5] at hg;subst hg;unfold Blk at d;rw[d] at h2;simp only[i5,n7] at h2;exact l h2.2.1.symm
theorem lK (h:w.ownsRow b e k v n xs) (d:jA w g c):v.ownBlock≠some g:=by
 intro hg;obtain⟨es,p,d,_⟩:=d;rcases h.2 with⟨h1,_⟩|⟨s,cap,l,h1,_,h2,_⟩
 ·rw[h1] at hg;cases hg
 ·rw[h1] at hg
  simp only[Value.ownBlock,i5] at hg;subst hg;rw[d] at h2;cases h2
theorem tT (h:Blk w g e cs) (d:jA w m c):g≠m:=by
 rintro rfl;obtain⟨es,l,d,_⟩:=d;unfold Blk at h;rw[d] at h;cases h
theorem dJ.fuse {δ:bC} (h:dJ w db δ F) (f:Int) (p: -1≤f∧f≤1000000000):dJ (w.setCell ⟨db,3,none⟩ f) db ⟨δ.med,δ.cache,δ.lost,f⟩ F∧Mod F w (w.setCell ⟨db,3,none⟩ f):=by
 obtain⟨vm,mb,c,h,hF⟩:=h;have d:Mod (fun g=>g=db) w (w.setCell ⟨db,3,none⟩ f):=(Mod.refl _ w).setCell (.inl rfl)
 refine⟨⟨vm,mb,c,⟨?_,dH d h.med (fun g hg e=>qZ h.med h.blk (by decide) (by rw[hg,e])),h.map.keep (d.block mb h.map.lt (fun e=>tT h.blk h.map e.symm)),h.none_,fun k v l=>⟨(h.some_ k v l).1,dH d (h.some_ k v l).2 (fun g hg e=>qZ (h.some_ k v l).2 h.blk (by decide) (by rw[hg,e]))⟩,h.d1,h.d2,p,h.sz,h.dep⟩,hF⟩,d.mono (fun g _ hg=>by rw[hg];exact((hF db).2 (.inl rfl)))⟩
 have:=h.blk.setCell 3 f;simpa using this
theorem aTd {δ:bC} (h:dJ w db δ F) (d:δ.fuse=0):
  Calls prog 173 #[.pointer (some db)] w fun e w'=>e= .returned true∧bB w w':=by
 obtain⟨vm,mb,c,h,hF⟩:=h;have c3:=h.blk.cell 3;rw[d] at c3;go_in;go_wp21;go_ret;exact⟨rfl,i4 _ _⟩
theorem aHq {δ:bC} (h:dJ w db δ F) (p:δ.fuse≠0):
  Calls prog 173 #[.pointer (some db)] w fun e w'=>e= .returned (.bool false)∧dJ w' db ⟨δ.med,δ.cache,δ.lost,max (δ.fuse-1) (-1)⟩ F∧Mod F w w':=by
 have s:=hZ h;obtain⟨vm,mb,c,h,hF⟩:=h;have c3:=h.blk.cell 3;have z3:=Blk.frozen h.blk 3;obtain⟨f,l⟩:=nZ δ.fuse;have d:=h.fu;rw[←l] at c3 p d⊢;have q:(f == 0)=false:=by simpa using p
 have x:Hid (dJ (w.setCell ⟨db,3,none⟩ (.int .i64 (max (f-1) (-1)))) db ⟨δ.med,δ.cache,δ.lost,max (f-1) (-1)⟩ F∧Mod F w (w.setCell ⟨db,3,none⟩ (.int .i64 (max (f-1) (-1))))):=hZ (s.o.fuse _ (by omega))
 have A: -1≤f:=d.1;have C:f≤1000000000:=d.2;clear h hF l d;go_in;go_wp21;go_ret;exact⟨rfl,x.o⟩
theorem iB.put {w4:World} {δ:bC} {s:Bs} (h:iB w db δ vm mb c)
  (N:w4.ownsRow 0 9 1 v' (δ.cache k++[s]).length (cV (eQ (δ.cache k++[s])))) (hg:w.grownBy w4 ((fK c k).getD (.slice none 0 0)).ownBlock) (W:v'.ownBlock=((fK c k).getD (.slice none 0 0)).ownBlock∨v'.ownBlock=some w.heap.size)
  (ac:jA w5 mb (uD c k v')) (X:w4.grownBy w5 (some mb)) (af:(δ.cache k).length+1≤1000000000) (aa:k<δ.med.length):
  iB w5 db ⟨δ.med,aDd δ.cache k (δ.cache k++[s]),δ.lost,δ.fuse⟩ vm mb (uD c k v'):=by
 obtain⟨Y,E⟩:=nZ ((fK c k).getD (.slice none 0 0));rw[←E] at hg W;have H:∀g,Y.ownBlock=some g→∃v,fK c k=some v∧v.ownBlock=some g:=by
  intro g l
  cases A:fK c k with
  |none=>rw[A] at E;subst E;cases l
  |some v=>rw[A] at E;subst E;exact⟨_,rfl,l⟩
 have ab:=h.map.keep (hg.block mb h.map.lt (fun e=>by
  obtain⟨v,A,I⟩:=H mb e.symm;exact lK (h.some_ k v A).2 h.map I))
 have k1:∀g,g<w.heap.size→Y.ownBlock≠some g→g≠mb→w5.heap[g]?=w.heap[g]?:=fun g h1 h2 ae=>by
  rw[X.block g (bNc h1 hg.size) (fun e=>ae (by simpa using e)),hg.block g h1 (fun e=>h2 e.symm)]
 have O:∀g,v'.ownBlock=some g→(∃v,fK c k=some v∧v.ownBlock=some g)∨g=w.heap.size:=by
  intro g l;rcases W with e|e
  ·exact .inl (H g (by rw[←e];exact l))
  ·rw[e] at l;right;simpa using l.symm
 refine⟨?_,?_,ac,fun j d=>?_,fun j v d=>?_,fun j v g d Z=>?_,fun i j u v g R x d C=>?_,h.fu,⟨h.sz.1,fun j v d=>by
  rw[qN] at d;split at d
  ·rename_i e;subst e;exact aa
  ·exact h.sz.2 j v d⟩,fun j=>?_⟩
 ·unfold Blk
  rw[k1 db h.blk.lt (fun e=>by
   obtain⟨v,A,I⟩:=H db e;exact qZ (h.some_ k v A).2 h.blk (by decide) I) (tT h.blk h.map)]
  exact h.blk
 ·refine dQ h.med (fun g l=>k1 g (h.med.lt g l).2 (fun e=>?_) (fun e=>lK h.med h.map (by rw[l,e])))
  obtain⟨v,A,I⟩:=H g e;exact h.d1 k v g A I l
 ·rw[qN] at d
  split at d
  ·cases d
  ·rename_i p
   show aDd δ.cache k _ j=[]
   unfold aDd;rw[i9 p];exact h.none_ j d
 ·rw[qN] at d
  show aDd δ.cache k _ j≠[]∧w5.ownsRow 0 _ 1 v (aDd δ.cache k _ j).length _
  unfold aDd;by_cases p:j=k
  ·rw[i6 p] at d
   simp only[i6 p]
   injection d with d
   subst d;refine⟨by simp,dQ N (fun g l=>X.block g (N.lt g l).2 (fun e=>?_))⟩
   have D:mb=g:=by simpa using e.symm
   exact lK N ab (by rw[l,D])
  ·rw[i9 p] at d
   simp only[i9 p];obtain⟨h1,h2⟩:=h.some_ j v d;refine⟨h1,dQ h2 (fun g l=>k1 g (h2.lt g l).2 (fun e=>?_) (fun e=>lK h2 h.map (by rw[l,e])))⟩
   obtain⟨u,C,T⟩:=H g e;exact h.d2 j k v u g p d C l T
 ·rw[qN] at d
  by_cases p:j=k
  ·rw[i6 p] at d
   injection d with d
   subst d;rcases O g Z with⟨u,C,T⟩|e
   ·exact h.d1 k u g C T
   ·intro D
    have:=(h.med.lt g D).2;omega
  ·rw[i9 p] at d
   exact h.d1 j v g d Z
 ·rw[qN] at x d
  by_cases J:i=k
  ·rw[i6 J] at x
   injection x with x
   subst x;rw[i9 (fun e=>R (J.trans e.symm))] at d
   rcases O g C with⟨z,V,U⟩|e
   ·exact h.d2 k j z v g (fun e=>R (J.trans e)) V d U
   ·intro D
    have:=((h.some_ j v d).2.lt g D).2;omega
  ·rw[i9 J] at x
   by_cases p:j=k
   ·rw[i6 p] at d
    injection d with d
    subst d;intro D;rcases O g D with⟨z,V,U⟩|e
    ·exact h.d2 i k u z g J x V C U
    ·have:=((h.some_ i u x).2.lt g C).2
     omega
   ·rw[i9 p] at d
    exact h.d2 i j u v g R x d C
 ·show(aDd δ.cache k _ j).length≤_
  unfold aDd;by_cases p:j=k
  ·simp only[i6 p,i7,List.length_singleton];omega
  ·simp only[i9 p];exact h.dep j
theorem iB.below {δ:bC} (h:iB w db δ vm mb c) (d:bB w w'):iB w' db δ vm mb c:=
 ⟨h.blk.below d,aD h.med d,h.map.below d,h.none_,fun k v l=>⟨(h.some_ k v l).1,aD (h.some_ k v l).2 d⟩,h.d1,h.d2,h.fu,h.sz,h.dep⟩
theorem bEh {w4:World} {δ:bC} {p:Value} (h:iB w db δ vm mb c) (l:p=(fK c k).getD (.slice none 0 0)) (hg:w.grownBy w4 p.ownBlock):w4.cell? ⟨db,1,none⟩=some (.map (some mb))∧jA w4 mb c:=by
 have x:∀g,p.ownBlock=some g→∃v,fK c k=some v∧v.ownBlock=some g:=by
  intro g A
  cases d:fK c k with
  |none=>rw[d] at l;subst l;cases A
  |some v=>rw[d] at l;subst l;exact⟨_,rfl,A⟩
 constructor
 ·have:Blk w4 db 139 [vm,.map (some mb),.bool δ.lost,.int .i64 δ.fuse]:=by
   unfold Blk;rw[hg.block db h.blk.lt (fun e=>by
    obtain⟨v,d,s⟩:=x db e.symm;exact qZ (h.some_ k v d).2 h.blk (by decide) s)]
   exact h.blk
  exact this.cell 1
 ·exact h.map.keep (hg.block mb h.map.lt (fun e=>by
   obtain⟨v,d,s⟩:=x mb e.symm;exact lK (h.some_ k v d).2 h.map s))
theorem bAt {δ:bC} (h:iB w db δ vm mb c):Blk w db 139 [vm,.map (some mb),.bool δ.lost,.int .i64 δ.fuse]:=h.blk
theorem aPp {w4:World} {δ:bC} {s:Bs} {h:Value}
  (J:iB w5 db ⟨δ.med,aDd δ.cache k (δ.cache k++[s]),δ.lost,max (δ.fuse-1) (-1)⟩ vm mb (uD c k v')) (hF:∀g,F g↔aPd db vm mb c g) (x:Mod F w w2) (N:∀g,F g→g<w.heap.size)
  (D:bB w2 w3) (E:w3.grownBy w4 h.ownBlock) (H:v'.ownBlock=h.ownBlock∨v'.ownBlock=some w3.heap.size) (I:w4.grownBy w5 (some mb)) (l:h=(fK c k).getD (.slice none 0 0)):fP db (δ.wrote k s) F w w5:=by
 have p:∀g,h.ownBlock=some g→F g:=by
  intro g A
  cases d:fK c k with
  |none=>rw[d] at l;subst l;cases A
  |some v=>rw[d] at l;subst l;exact(hF g).2 (.inr (.inr (.inr ⟨k,_,d,A⟩)))
 have C:=(hF mb).2 (.inr (.inl rfl));refine⟨aPd db vm mb (uD c k v'),⟨vm,mb,_,J,fun g=>Iff.rfl⟩,((x.trans' D).self (iM E p)).self (iM I (fun g hg=>by simp only[i5] at hg;rw[←hg];exact C)),fun g hg=>?_⟩
 rcases hg with rfl|rfl|hg|⟨j,v,d,hg⟩
 ·exact .inl ((hF g).2 (.inl rfl))
 ·exact .inl C
 ·exact .inl ((hF g).2 (.inr (.inr (.inl hg))))
 ·rw[qN] at d
  split at d
  ·injection d with d
   subst d;rcases H with e|e
   ·exact .inl (p g (by rw[←e];exact hg))
   ·rw[e] at hg
    simp only[i5] at hg;right;have:=x.size;have:=D.size;omega
  ·exact .inl ((hF g).2 (.inr (.inr (.inr ⟨j,v,d,hg⟩))))
theorem aGd {δ:bC} (h:dJ w db δ F) (a:Int) (s:Bs) (bn:s.length≤1000000) (J:0≤a→(δ.cache a.toNat).length+1≤1000000000):
  Calls prog 108 #[.pointer (some db),a,.string ⟨s.toArray⟩] w fun e w'=>e= .returned (.int .i64 ((δ.writeE a s).1:Nat))∧fP db (δ.writeE a s).2 F w w':=by
 have I:=hZ (aNc h a);have U:=hZ h;have X:(⟨s.toArray⟩:ByteArray).size=s.length:=by show s.toArray.size=_;simp
 by_cases E:δ.mayE a=0
 ·obtain⟨bo,h0,h1⟩:=aIp E
  rw[E] at I;by_cases Y:s.length=64
  ·by_cases V:δ.fuse=0
   ·have p:δ.writeE a s=(6,δ):=by unfold bC.writeE;rw[i9 (by omega),i9 (by omega),i6 V]
    rw[p];have ab:=hZ (fun w' (ac:bB w w')=>aTd (h.below ac) V)
    have q:(((⟨s.toArray⟩:ByteArray).size:Int) != 64)=false:=by rw[X,Y];decide
    clear p E h J;go_in;go_wp21;refine I.o.mono ?_;rintro e w1 ⟨rfl,d⟩;have x:=hZ d;clear d;go_wp21;refine(ab.o w1 x.o).mono ?_;rintro e w2 ⟨rfl,ah⟩;have az:=hZ (x.o.trans (ah.mono x.o.size));clear ah;go_wp21;go_ret;exact⟨rfl,U.o.stay az.o⟩
   ·obtain⟨k,rfl⟩:∃k:Nat,a=k:=⟨a.toNat,by omega⟩
    have p:δ.writeE k s=(0,δ.wrote k s):=by unfold bC.writeE;rw[i9 (by omega),i9 (by omega),i9 V];rfl
    rw[p];have ab:=hZ (fun w' (ac:bB w w')=>aHq (h.below ac) V)
    have q:(((⟨s.toArray⟩:ByteArray).size:Int) != 64)=false:=by rw[X,Y];decide
    have ai:Hid ((δ.cache k).length+1≤1000000000):=hZ (J h0);have ba:Hid (k<δ.med.length):=hZ (by omega)
    clear p E h J;go_in;go_wp21;refine I.o.mono ?_;rintro e w1 ⟨rfl,d⟩;have x:=hZ d;clear d;go_wp21;refine(ab.o w1 x.o).mono ?_;rintro e w2 ⟨rfl,bb,aj⟩;have bc:=hZ ((Mod.below x.o).self aj);have bd:=hZ U.o.lt;obtain⟨vm,mb,c,h2,hF⟩:=bb;have H:=hZ h2;have bf:=hZ hF;obtain⟨O,N⟩:=nZ ((fK c k).getD (.slice none 0 0));have ak:∀R,jA R mb c→(Instr.lookup 137 (.map (some mb)) (k:Nat) false).run prog R= .ok O R:=fun R bh=>by
     rw[N];exact tK (P:=prog) (t:=137) underlying137 underlying3 bh k (bHa R)
    have al:=hZ ak;have af:w2.ownsRow 0 9 1 O (δ.cache k).length (cV (eQ (δ.cache k))):=by
     cases W:fK c k with
     |none=>rw[N,W,show δ.cache k=[] from h2.none_ k W];exact bMa _ _ _ _
     |some v=>rw[N,W];exact(h2.some_ k v W).2
    have ax:=hZ af;have T:=hZ N;clear h2 hF aj ak af N;go_upto_region 8 with fail
    have am:(fun w'=>cZ w' db 1 (.map (some mb))) w2.drew:=H.o.blk.drew.cell 1
    refine l7 (S:=fun w'=>cZ w' db 1 (.map (some mb))) (by kernel_rfl) am (fun am=>?_)
    refine aE 0 ?_;refine aE 1 ?_;refine aE 2 ?_;refine aE 3 ?_;refine aE 4 ?_;refine aE 5 ?_;refine aE 6 ?_;refine aE 7 ?_;refine aE 8 ?_;refine aE 9 ?_;refine aE 11 ?_;refine vB [10,12] ?_;refine rc (fun K C=>?_) (rc (fun K C=>?_) rn)
    case' _=>
     rw[i6 (by kernel_rfl)]
     refine aFa (.tmp 29) (.tmp 30) rfl mb k O rfl rfl (al.o _ (H.o.map.below (i4 _ _).drew)) ?_;refine C.o _ _ (H.o.blk.drew.cell 1) (fun bi=>?_)
     try simp only[Act.put,z1,z2,z3]
     refine dY (i:=12) (h:=fun K C=>?_)
     go_simp;have A:Hid (bB w2 ((w2.alloc (.cells #[.string ⟨s.toArray⟩] 9)).drew)):=hZ (bZ).drew;obtain⟨w3,l⟩:∃v,v=(w2.alloc (.cells #[.string ⟨s.toArray⟩] 9)).drew:=⟨_,rfl⟩;obtain⟨gs,D⟩:∃v,v=w2.heap.size:=⟨_,rfl⟩;have an:Hid (cZ w3 gs 0 (.string ⟨s.toArray⟩)):=hZ (by rw[l,D];exact(Blk.new w2 9 [.string ⟨s.toArray⟩]).drew.cell 0)
     rw[←l] at A
     first|rw[←l,←D]|(rw[←l];rw[←D])
     clear l D
     try dsimp only
    rotate_left
    case' _=>
     go_simp;have A:Hid (bB w2 ((w2.alloc (.cells #[.string ⟨s.toArray⟩] 9)).drew)):=hZ (bZ).drew;obtain⟨w3,l⟩:∃v,v=(w2.alloc (.cells #[.string ⟨s.toArray⟩] 9)).drew:=⟨_,rfl⟩;obtain⟨gs,D⟩:∃v,v=w2.heap.size:=⟨_,rfl⟩;have an:Hid (cZ w3 gs 0 (.string ⟨s.toArray⟩)):=hZ (by rw[l,D];exact(Blk.new w2 9 [.string ⟨s.toArray⟩]).drew.cell 0)
     rw[←l] at A
     first|rw[←l,←D]|(rw[←l];rw[←D])
     clear l D
     try dsimp only
     refine C.o _ _ ((H.o.blk.below A.o).cell 1) (fun bj=>?_)
     try simp only[Act.put,z1,z2,z3]
     refine dY (i:=10) (h:=fun K C=>?_)
     rw[i6 (by kernel_rfl)]
     refine aFa (.tmp 29) (.tmp 30) rfl mb k O rfl rfl (al.o _ (H.o.map.below A.o)) ?_
    all_goals
     refine C.o _ _ ((H.o.blk.below A.o).cell 1) (fun bk=>?_)
     try simp only[Act.put,z1,z2,z3]
     refine dY (i:=13) (h:=fun K C=>?_)
     rw[i6 (by kernel_rfl)]
     refine aUd (.tmp 31) (.tmp 33) rfl 0 O (δ.cache k) rfl (aD ax.o A.o) gs 1 s rfl an.o (by have:=ai.o;omega) (z6 _) ?_
     intro v' w4 ag ae ap;have ay:=hZ ag;have Z:=hZ ae;have aq:=hZ ap;have av:=hZ (bEh (H.o.below A.o) T.o Z.o);clear ag ae ap;refine C.o _ _ (av.o.1) (fun bl=>?_)
     try simp only[Act.put,z1,z2,z3]
     refine dY (i:=14) (h:=fun K C=>?_)
     rw[i6 (by kernel_rfl)]
     refine aQn (.tmp 24) (.tmp 25) (.tmp 34) rfl mb k v' rfl rfl rfl c av.o.2 ?_;intro w5 ar aa;have aw:=hZ ((H.o.below A.o).put (δ:=⟨δ.med,δ.cache,δ.lost,max (δ.fuse-1) (-1)⟩) (v':=v') (s:=s) ay.o (by rw[←T.o];exact Z.o) (by rw[←T.o];exact aq.o) ar aa ai.o ba.o)
     have be:=hZ aa;clear ar aa;refine C.o _ _ ((bAt aw.o).cell 1) (fun bm=>?_)
     try simp only[Act.put,z1,z2,z3]
     refine r8 (by kernel_rfl) ?_ _
     go_wp21;go_ret;exact⟨rfl,aPp aw.o bf.o bc.o bd.o A.o Z.o aq.o be.o T.o⟩
  ·have p:δ.writeE a s=(1,δ):=by unfold bC.writeE;rw[i9 (by omega),i6 Y]
   rw[p];have q:(((⟨s.toArray⟩:ByteArray).size:Int) != 64)=true:=by rw[X];simp;omega
   clear p E h J;go_in;go_wp21;refine I.o.mono ?_;rintro e w1 ⟨rfl,d⟩;have x:=hZ d;clear d;go_wp21;go_ret;exact⟨rfl,U.o.stay x.o⟩
 ·have p:δ.writeE a s=(δ.mayE a,δ):=by unfold bC.writeE;rw[i6 E]
  rw[p];obtain⟨m,au⟩:=nZ (δ.mayE a);rw[←au] at E I⊢;have q:((m:Int) != 0)=true:=by simpa using E
  clear p au h J;go_in;go_wp21;refine I.o.mono ?_;rintro e w1 ⟨rfl,d⟩;have x:=hZ d;clear d;go_wp21;go_ret;exact⟨rfl,U.o.stay x.o⟩
def LK.num:LK→Bool
 | .int _| .bool=>true
 |_=>false
def aJs:Value→List Lit
 | .int k n=>[.int k n]
 | .bool b=>[.bool b]
 |_=>[]
def rW (cs:List Value):List Lit:=cs.flatMap aJs
theorem xD:∀{a b:List LK} {vs:List Value},fits (a++b) vs→fits a (vs.take a.length)∧fits b (vs.drop a.length)
 |[],_,vs,h=>⟨by simp[fits],by simpa using h⟩
 |k::a,b,[],h=>by simp[fits] at h
 |k::a,b,v::vs,h=>by
  have h2:=h;have:=xD h2.2;exact⟨⟨h2.1,this.1⟩,by simpa using this.2⟩
theorem aPv:∀{ks:List LK} {xs ys:List Value},ks.all LK.num=true→fits ks xs→fits ks ys→(rW xs=rW ys↔xs=ys)
 |[],[],[],_,_,_=>by simp
 |[],_::_,_,_,h,_=>by simp[fits] at h
 |[],_,_::_,_,_,h=>by simp[fits] at h
 |_::_,[],_,_,h,_=>by simp[fits] at h
 |_::_,_,[],_,_,h=>by simp[fits] at h
 |k::ks,x::xs,y::ys,d,l,hy=>by
  have p:=aPv (by simp at d;simpa using d.2) l.2 hy.2
  have s:k.num=true:=by simp at d;exact d.1
  have e:∀v vs,rW (v::vs)=aJs v++rW vs:=fun v vs=>by simp[rW]
  rw[e,e]
  cases k with
  |int q=>
   obtain⟨a,rfl,_⟩:=l.1;obtain⟨b,rfl,_⟩:=hy.1;simp[aJs,p]
  |bool=>
   obtain⟨a,rfl⟩:=l.1;obtain⟨b,rfl⟩:=hy.1;simp[aJs,p]
  |str=>simp[LK.num] at s
  |any=>simp[LK.num] at s
section
variable {P:Program}
theorem sN {F:TypeId→Option (List LK)} (hF:∀(t:TypeId) (ks:List LK) (cs:List Value),F t=some ks→P.keyTypeAt n t=true→ks.all LK.num=true→fits ks cs→P.keyLits n t cs=some (rW cs)):
  ∀(r:List Field) (o:Nat) (ks:List LK),oX P F r o=some ks→(∀f∈r,P.keyTypeAt n f.type=true)→ks.all LK.num=true→fits ks ((cs.drop o).take ks.length)→
  ∃d,r.mapM (fun f=>P.keyLits n f.type ((cs.drop f.offset).take (P.cellsOf f.type)))=some d∧d.flatten=rW ((cs.drop o).take ks.length)
 |[],o,ks,h,_,_,_=>by
  simp only[oX,i5] at h;subst h;exact⟨[],rfl,by simp[rW]⟩
 |f::r,o,ks,h,A,p,D=>by
  unfold oX at h;split at h
  ·rename_i E
   cases s:F f.type with
   |none=>rw[s] at h;simp at h
   |some l=>
    rw[s] at h;dsimp only at h;split at h
    ·rename_i H
     obtain⟨ks',h1,rfl⟩:=Option.map_eq_some_iff.1 h;rw[List.all_append,y8] at p;obtain⟨x,C⟩:=xD D;rw[i7,List.take_take,Nat.min_eq_left (by omega)] at x
     rw[i7,List.take_add,List.drop_left' (by have:=lB x;omega),List.drop_drop] at C
     obtain⟨d,I,J⟩:=sN hF r (o+l.length) ks' h1 (fun g hg=>A g (by simp[hg])) p.2 C
     refine⟨rW ((cs.drop o).take l.length)::d,?_,?_⟩
     ·rw[List.mapM_cons,E,←H,hF _ _ _ s (A f (by simp)) p.1 x,I]
      rfl
     ·rw[List.flatten_cons,J,i7,List.take_add,List.drop_drop]
      simp[rW]
    ·simp at h
  ·simp at h
theorem tX {l:List LK} {e:TypeId} (hF:∀cs,fits l cs→P.keyLits n e cs=some (rW cs)) (s:l.length=P.cellsOf e) (cs:List Value):∀m,fits (List.replicate m l).flatten (cs.take (m*P.cellsOf e))→
  ∃d,(List.range m).mapM (fun i=>P.keyLits n e ((cs.drop (i*P.cellsOf e)).take (P.cellsOf e)))=some d∧d.flatten=rW (cs.take (m*P.cellsOf e))
 |0,_=>⟨[],rfl,by simp[rW]⟩
 |m+1,h=>by
  have p:(List.replicate m l).flatten.length=m*P.cellsOf e:=by rw[←s];simp
  rw[List.replicate_succ',List.flatten_append,Nat.succ_mul,List.take_add] at h;obtain⟨A,C⟩:=xD h;have D:=lB h;rw[i7,i7,p] at D;have J:(cs.take (m*P.cellsOf e)).length≤m*P.cellsOf e:=by simp;omega
  have N:((cs.drop (m*P.cellsOf e)).take (P.cellsOf e)).length≤P.cellsOf e:=by simp;omega
  have O:([l].flatten).length=P.cellsOf e:=by simp[s]
  have x:(cs.take (m*P.cellsOf e)).length=m*P.cellsOf e:=by omega
  rw[p,List.take_left' x] at A;rw[p,List.drop_left' x] at C;have E:fits l ((cs.drop (m*P.cellsOf e)).take (P.cellsOf e)):=by simpa using C
  obtain⟨d,H,I⟩:=tX hF s cs m A;refine⟨d++[rW ((cs.drop (m*P.cellsOf e)).take (P.cellsOf e))],?_,?_⟩
  ·rw[bMk,List.mapM_append,H]
   simp[hF _ E]
  ·rw[List.flatten_append,I,Nat.succ_mul,List.take_add]
   simp[rW]
theorem uT:∀(n:Nat) (t:TypeId) (ks:List LK) (cs:List Value),aXw P n t=some ks→P.keyTypeAt n t=true→ks.all LK.num=true→fits ks cs→P.keyLits n t cs=some (rW cs)
 |0,t,ks,cs,h,_,_,_=>by simp[aXw] at h
 |n+1,t,ks,cs,h,A,E,p=>by
  unfold aXw at h;unfold Program.keyTypeAt at A;split at h
  ·rename_i k s
   simp only[i5] at h;subst h
   match cs,p with
   |[v],p=>
    obtain⟨x,rfl,U⟩:=p.1;simp[Program.keyLits,s,U,rW,aJs]
   |v::u::r,p=>exact(p.2:fits [] (u::r)).elim
  ·rename_i s
   simp only[i5] at h;subst h
   match cs,p with
   |[v],p=>
    obtain⟨x,rfl⟩:=p.1;simp[Program.keyLits,s,rW,aJs]
   |v::u::r,p=>exact(p.2:fits [] (u::r)).elim
  ·rename_i s
   simp only[i5] at h;subst h;simp[LK.num] at E
  ·rename_i H s
   rw[s] at A;simp only[y8] at A;have R:∀f∈H.toList,f.name != "_"∧P.keyTypeAt n f.type=true:=by
    intro f C;have:=A.1.1;rw[Array.all_eq_true'] at this;simpa using(this f (by simpa using C))
   split at h
   ·rename_i l I
    split at h
    ·rename_i Y
     simp only[i5] at h;subst h;have O:=lB p;obtain⟨V,J,D⟩:=sN (cs:=cs) (n:=n) (uT n) H.toList 0 l I (fun f C=>(R f C).2) E (by rw[bOf,bLq (by omega)];exact p)
     rw[bOf,bLq (by omega)] at D
     have W:H.all (·.name != "_")=true:=by
      rw[Array.all_eq_true'];intro f C;exact(R f (by simpa using C)).1
     unfold Program.keyLits;rw[s];simp only[];rw[i6 ⟨by omega,W⟩,J]
     simp[D]
    ·simp at h
   ·simp at h
  ·rename_i m e s
   rw[s] at A;split at h
   ·rename_i l I
    split at h
    ·rename_i N
     simp only[i5] at h;subst h;have O:=lB p;have Z:(List.replicate m l).flatten.length=m*P.cellsOf e:=by rw[←N.1];simp
     unfold Program.keyLits;rw[s];simp only[];by_cases X:m=0
     ·subst X
      have:cs=[]:=bLs (by rw[O];simp)
      subst this;rw[i6 (by have:=N.2;simp at this⊢;omega)]
      simp[rW]
     ·have T:l.all LK.num=true:=by
       obtain⟨j,rfl⟩:∃j,m=j+1:=⟨m-1,by omega⟩
       rw[bOc,List.flatten_cons,List.all_append,y8] at E;exact E.1
      obtain⟨V,J,D⟩:=tX (fun cs d=>uT n e l cs I A T d) N.1 cs m (by rw[bLq (by omega)];exact p)
      rw[bLq (by omega)] at D
      rw[i6 (by omega),J]
      simp[D]
    ·simp at h
   ·simp at h
  ·simp at h
theorem tP {t:TypeId} {ks:List LK} (x:aXw P n t=some ks) (d:P.keyTypeAt n t=true) (h:ks.all LK.num=true) (I:n≤10000)
  (A:(match P.underlying t with|some (.array _ _)|some (.struct _)=>true|_=>false)=true) (C:P.cellsOf t=ks.length) (l:fits ks xs) (hy:fits ks ys) (p:World):
  ∃r:Bool,(Op.equalIn 10000 t (.agg xs.toArray) (.agg ys.toArray)).run P p= .ok r p∧(r=true↔xs=ys):=by
 have s:∀zs:List Value,fits ks zs→(Value.agg zs.toArray).formed P t=true:=by
  intro zs D;have E:=lB D;unfold Value.formed;split at A<;>rename_i H<;>first|(rw[H];simp[E,C])|simp at A
 obtain⟨r,h1,h2⟩:=run_equalIn_deep (10000-n) n t d p n n (.agg xs.toArray) (.agg ys.toArray) _ _ (s xs l) (s ys hy) (uT n t ks xs x d h l) (uT n t ks ys x d h hy);rw[show 10000-n+n=10000 by omega] at h1
 exact⟨r,h1,h2.trans (aPv h l hy)⟩
end
def lY (P:Program) (o:Oper) (t:TypeId) (v:Value) (a:Act) (w:World) (next:Act→World→Prop) (Q:Exit→Act→World→Prop):Prop:=
 o.upon P a next Q ((do let x ←Instr.loadAt t v;pure (Next.value x):Sem Next).run P w)
def cS (P:Program) (o:Oper) (t:TypeId) (v u:Value) (a:Act) (w:World) (next:Act→World→Prop) (Q:Exit→Act→World→Prop):Prop:=
 o.upon P a next Q ((do Instr.storeAt t v u;pure Next.skip:Sem Next).run P w)
theorem dP {t:TypeId} {o:Nat} {d:TypeDesc} (h:w.rangeAt b o cs) (l:P.underlying t=some d) (p:d.isRow=true) (s:(P.info? t).map (·.size)=some cs.length) (op:Oper) (a:Act) (next:Act→World→Prop) (Q:Exit→Act→World→Prop):
  lY P op t (.pointer (some ⟨b,o,none⟩)) a w next Q=next (a.put op.dst (.agg cs.toArray)) w:=by
 unfold lY;rw[bLr,run_loadAt_mid w b o t cs d h l p s];rfl
theorem aGo {t:TypeId} {o:Nat} (ht:w.there b o cs.length) (d:(P.info? t).map (·.size)=some cs.length) (h1:∀u∈cs,u.oneCell'=true) (op:Oper) (a:Act) (next:Act→World→Prop) (Q:Exit→Act→World→Prop):
  cS P op t (.pointer (some ⟨b,o,none⟩)) (.agg cs.toArray) a w next Q=next (a.put op.dst undef) (w.setCells b o cs):=by
 unfold cS;have:=run_storeAt_mid (P:=P) w b o t cs.toArray (by simpa using ht) (by simpa using d) (bLu h1)
 rw[bLr,this,List.toList_toArray];rfl
def bKg (P:Program) (C:World→Prop) (t:TypeId) (u:Value) (w:World) (v:Value):Prop:=
 Oper.quietUpon P C w v ((do let x ←Instr.loadAt t u;pure (Next.value x):Sem Next).run P w)
structure BW (w0:World) where
 w:World
 bel:Below w0.heap.size w0 w
instance (w0:World):Nonempty (BW w0):=⟨⟨w0,i4 _ _⟩⟩
theorem BW.cell (p:BW w0) {a:Addr} (h:w0.cell? a=some v):p.w.cell? a=some v:=(p.bel.cell (World.block_lt_of_cell? w0 _ h)).trans h
theorem Calls.bw_of {f:FuncId} {p:BW w0} (h:Calls P f args p.w fun e w'=>e= .returned v∧bB p.w w'):
  Calls P f args p.w fun e d=>e= .returned v∧∃q:BW w0,d=q.w:=
 h.mono fun _ _ ⟨l,s⟩=>⟨l,⟨_,p.bel.trans (s.mono p.bel.size)⟩,rfl⟩
theorem iW {l:List Oper} (d:P.follows .mixedOrders=true) (s:Region.lexB .any l.toArray=true)
  (h:wpQuiet P l.toArray (fun w'=>∃p:BW w,w'=p.w) (fun a'=>∀w',(∃p:BW w,w'=p.w)→Q .normal a' w') l a):(Code.region id l.toArray true).wp P Q a w:=by
 refine wp_region_quiet (C:=fun w'=>∃p:BW w,w'=p.w) d s ⟨⟨w.drew,(i4 _ _).drew⟩,rfl⟩ ?_
 rw[List.toList_toArray];exact h
theorem nE (w:World) (e:TypeId):∀(cs z d:List Value),z.length=cs.length→(w.alloc (.cells (d++z).toArray e)).setCells w.heap.size d.length cs=w.alloc (.cells (d++cs).toArray e)
 |[],z,d,h=>by
  have e:=bLs (by simpa using h)
  subst e;rfl
 |c::cs,z,d,h=>by
  cases z with
  |nil=>simp at h
  |cons l zs=>
   rw[World.setCells,World.setCell_alloc_new];have p:(d++l::zs).toArray.setIfInBounds d.length c=((d++[c])++zs).toArray:=by simp
   rw[p,show d.length+1=(d++[c]).length by simp,nE w e cs zs (d++[c]) (by simpa using h)]
   simp
theorem dS (w:World) (e:TypeId) (cs z:List Value) (h:z.length=cs.length):(w.alloc (.cells z.toArray e)).setCells w.heap.size 0 cs=w.alloc (.cells cs.toArray e):=by
 have:=nE w e cs z [] h;simpa using this
theorem bJr:(prog.info? 5).map (fun i=>(i.zero,i.size,i.bytes))=some (some (.int .u8 0),1,1):=by kernel_rfl
theorem aH:∀k n,(bS k n).length=k
 |0,_=>rfl
 |k+1,n=>by simp[bS,aH k]
theorem aNt:∀k n,bS (k+1) n=bS k n++[UInt8.ofNat (n/256 ^ k)]
 |0,n=>by simp[bS]
 |k+1,n=>by
  rw[bS,aNt k (n/256),bS,Nat.div_div_eq_div_mul,Nat.pow_succ,Nat.mul_comm 256];rfl
theorem oN {l:List UInt8} (h:w.ownsRow base e0 1 (.slice ao n cap) n (qU l))
  (d e dst:TypeId) (p:P.underlying d=some (.slice e)) (s:P.underlying e=some (.int .u8)) (x:P.underlying dst=some .string):
  (convert d dst (.slice ao n cap)).run P w= .ok (.string ⟨l.toArray⟩) w:=by
 cases ao with
 |some a=>
  rcases h.2 with⟨h1,h0⟩|⟨g,A,C,h1,_⟩
  ·simp at h1
  ·simp only[bMm,i5] at h1
   obtain⟨rfl,_,rfl⟩:=h1;exact pQ h d e dst p s x
 |none=>
  rcases h.2 with⟨h1,h0⟩|⟨g,A,C,h1,_⟩
  ·subst h0
   have D:=bLs (by have:=h.1;simpa[qU] using this)
   subst D;exact run_convert_bytes_nil w d e p s 0 cap dst x
  ·simp at h1
theorem bFf (x k:Nat):(x:Int)/2 ^ (8*k)%256=((UInt8.ofNat (x/256 ^ k)).toNat:Int):=by
 have h1:(2:Nat) ^ (8*k)=256 ^ k:=by rw[Nat.pow_mul]
 have h2:((2:Int) ^ (8*k))=((256 ^ k:Nat):Int):=by rw[←h1];simp
 rw[h2,UInt8.toNat_ofNat'];simp
def lQ (s:Bs) (k:Nat):Bs:=s++aP ((k-s.length%k)%k)
theorem pU (n:Nat) (w:World) (p:n≤140737488355328):Calls prog 125 #[.string ⟨#[0]⟩,n] w fun e w'=>e= .returned (.string ⟨(aP n).toArray⟩)∧bB w w':=by
 refine(Tryz.strings_Repeat ⟨#[0]⟩ n w (by omega) (by show 1*n≤_;omega)).mono ?_
 rintro e w' ⟨rfl,d⟩;refine⟨?_,d⟩;have h:∀n,Lib.repeatL [0] n=aP n:=by
  intro n
  induction n with
  |zero=>rfl
  |succ n l=>rw[Lib.repeatL,l,aP,aP,bOc];rfl
 rw[show(⟨#[0]⟩:ByteArray).data.toList=[0] from rfl,h]
theorem cI (a b:Bs):(⟨a.toArray⟩:ByteArray)++⟨b.toArray⟩=⟨(a++b).toArray⟩:=by
 apply ByteArray.ext;simp
theorem bFn (r k:Nat) (h:r<k): -(r:Int)%(k:Int)=(((k-r)%k:Nat):Int):=by
 rw[show-(r:Int)=((k:Int)-r)+k*(-1) by omega,Int.add_mul_emod_self_left,show((k:Int)-(r:Int))=((k-r:Nat):Int) by omega,Int.natCast_emod]
theorem oS (s:Bs) (k:Nat) (w:World) (p:s.length≤9223372036854000000) (h1:1≤k) (x:k≤4096):Calls prog 168 #[.string ⟨s.toArray⟩,k] w fun e w'=>e= .returned (.string ⟨(lQ s k).toArray⟩)∧bB w w':=by
 have h2:¬(k:Int)<1:=by omega
 have A:¬(4096:Int)<(k:Int):=by omega
 have d:s.length%k<k:=bNd _ (by omega)
 have l:(k-s.length%k)%k<k:=bNd _ (by omega)
 have C:¬9223372036854775807<s.length+(aP ((k-s.length%k)%k)).length:=by simp[aP];omega
 have e:=hZ (bFn (s.length%k) k d);rw[Int.natCast_emod] at e;go_in;go_wp2_with fail;rw[e.o];refine(pU _ _ (by omega)).mono ?_
 rintro e' w1 ⟨rfl,h⟩;go_wp2_with fail;go_ret;exact⟨by rw[lQ,cI];rfl,h⟩
theorem oI (s:Bs) (w:World):Calls prog 130 #[.string ⟨s.toArray⟩] w fun e w'=>e= .returned (.pointer (some ⟨w.heap.size,0,none⟩))∧w'=w.alloc (.cells #[.string ⟨s.toArray⟩,(0:Int)] 304):=by
 go_in;go_wp21;go_ret;exact⟨rfl,rfl⟩
def kO (w:World) (b:Nat) (s:Bs) (at_:Nat):Prop:=Blk w b 304 [.string ⟨s.toArray⟩,.int .i64 at_]
theorem uA (b:Nat) (s:Bs) (k:Nat) (w:World) (h:kO w b s k) (d:k≤s.length) (l:s.length≤9223372036854775807):
  Calls prog 245 #[.pointer (some b)] w fun e w'=>e= .returned (.int .i64 ((s.length:Int)-k))∧∃n,w'=w.drewN n:=by
 have c0:=Blk.cell h 0;have p:=Blk.cell h 1;go_in;go_wp21;go_quiet (fail);go_wp21;go_ret;exact⟨rfl,_,rfl⟩
theorem bGi (s:Bs) (i:Nat) (h:i<s.length):(⟨s.toArray⟩:ByteArray)[i]'(by show i<s.toArray.size;simpa using h)=s[i]:=by
 show s.toArray[i]'(by simpa using h)=s[i]
 simp
theorem aMa:∀l:Bs,nU l<256 ^ l.length
 |[]=>by simp[nU]
 |b::r=>by
  have h:=aMa r;have d:=b.toNat_lt;rw[nU,bLn,Nat.pow_succ];omega
theorem aPe:∀(l:Bs) (c:UInt8),nU (l++[c])=nU l+256 ^ l.length*c.toNat
 |[],c=>by simp[nU]
 |b::r,c=>by
  rw[List.cons_append,nU,aPe r c,nU,bLn,Nat.pow_succ,Nat.mul_add,←Nat.mul_assoc,Nat.mul_comm 256 (256 ^ r.length)];omega
theorem hX (s:Bs) (k j:Nat) (h:k+j≤s.length):(dW s k j).length=j:=by simp[dW];omega
theorem bCh (s:Bs) (k j:Nat) (h:k+j<s.length):dW s k (j+1)=dW s k j++[s[k+j]]:=by
 unfold dW;rw[m8 (by simp;omega)]
 simp
theorem bJn (a c j:Nat) (h:a<256 ^ j) (x:c<256) (A:j<8):bits BinOp.or IntKind.u64 (a:Int) (IntKind.u64.wrap (IntKind.u64.wrap (c:Int)*2 ^ (8*j)))=((a+256 ^ j*c:Nat):Int):=by
 have hp:(2:Nat) ^ (8*j)=256 ^ j:=by rw[Nat.pow_mul]
 have C:256 ^ j*256≤2 ^ 64:=by
  have:256 ^ (j+1)≤256 ^ 8:=Nat.pow_le_pow_right (by omega) (by omega)
  rw[Nat.pow_succ] at this;exact this
 have p:a+256 ^ j*c<2 ^ 64:=by
  have:256 ^ j*c≤256 ^ j*255:=Nat.mul_le_mul_left _ (by omega)
  omega
 have s:0<256 ^ j:=Nat.pow_pos (by omega)
 have h1:IntKind.u64.wrap (c:Int)=c:=IntWalk.u64_in _ (by omega)
 have h2:((c:Int)*2 ^ (8*j))=((256 ^ j*c:Nat):Int):=by
  rw[show((2:Int) ^ (8*j))=((2 ^ (8*j):Nat):Int) by simp,hp,Nat.mul_comm]
  rfl
 have l:IntKind.u64.wrap ((256 ^ j*c:Nat):Int)=((256 ^ j*c:Nat):Int):=IntWalk.u64_in _ (by omega)
 rw[h1,h2,l];have d:(BitVec.ofInt 64 (a:Int) ||| BitVec.ofInt 64 ((256 ^ j*c:Nat):Int)).toNat=a+256 ^ j*c:=by
  rw[BitVec.ofInt_natCast,BitVec.ofInt_natCast,BitVec.toNat_or,BitVec.toNat_ofNat,BitVec.toNat_ofNat,Nat.mod_eq_of_lt (by omega),Nat.mod_eq_of_lt (by omega),Nat.or_comm,←hp,←Nat.two_pow_add_eq_or_of_lt (by rw[hp];exact h),Nat.add_comm]
 show IntKind.u64.wrap (((BitVec.ofInt 64 (a:Int) ||| BitVec.ofInt 64 ((256 ^ j*c:Nat):Int)).toNat:Nat):Int)=_
 rw[d];exact IntWalk.u64_in _ (by omega)
theorem rY (b:Nat) (s:Bs) (k n:Nat) (w:World) (h:kO w b s k) (H:s.length≤9223372036854775000) (I:k+n≤s.length) (D:n≤8):
  Calls prog 246 #[.pointer (some b),n] w fun e w'=>e= .returned (.tuple #[.int .u64 (nU (dW s k n)),(0:Int)])∧kO w' b s (k+n)∧∃m,w'=(w.drewN m).setCell ⟨b,1,none⟩ (.int .i64 ((k+n:Nat):Int)):=by
 have l:=hZ h;have c0:=Blk.cell h 0;have J:=Blk.cell h 1;have N:=Blk.frozen h 1;clear h;have h1:¬(s.length:Int)-k<n:=by omega
 go_in;go_wp21;refine(uA b s k w l.o (by omega) (by omega)).mono ?_
 rintro e w1 ⟨rfl,p,rfl⟩;go_wp21;go_loopw [6,13] (fun x i wr=>∃j m:Nat,j≤n∧i= .int .i64 j∧x= .int .u64 (nU (dW s k j))∧Hid (wr=w.drewN m)) (fun _ i _=>n-(intOf i).toNat)
 case atStart=>exact⟨0,p,by omega,rfl,rfl,hZ rfl⟩
 case round=>
  obtain⟨j,m,O,rfl,rfl,A⟩:=hrel;obtain rfl:=A.o;by_cases E:j<n
  ·have d:k+j<s.length:=by omega
   go_wp21;have R:IntKind.i64.wrap ((k:Int)+(j:Int))=(k:Int)+(j:Int):=bLo _ (by omega)
   have T:0≤(k:Int)+(j:Int):=by omega
   have U:((k:Int)+(j:Int)).toNat=k+j:=by omega
   have V:(k:Int)+(j:Int)<(s.length:Int):=by omega
   go_quiet (fail);go_wp21;go_roundw
   case rel=>
    refine⟨j+1,_,by omega,by go_num,?_,hZ rfl⟩
    have C:nU (dW s k j)<256 ^ j:=by have:=aMa (dW s k j);rwa [hX s k j (by omega)] at this
    rw[bGi s (k+j) d,bJn _ _ _ C (UInt8.toNat_lt _) (by omega),bCh s k j d,aPe,hX s k j (by omega)]
   case measure=>simp[intOf];omega
  ·obtain rfl:j=n:=by omega
   go_wp21;go_ret2;have W:(w.drewN m).setCell ⟨b,1,none⟩ (.int .i64 ((k:Int)+j))=(w.drewN m).setCell ⟨b,1,none⟩ (.int .i64 ((k+j:Nat):Int)):=by go_num
   exact⟨rfl,(Blk.setCell (l.o.drewN (n:=m)) 1 _:_),m,rfl⟩
theorem rT (w:World) (m b:Nat) (u:Value):Mod (fun x=>x=b) w ((w.drewN m).setCell ⟨b,1,none⟩ u):=((Mod.refl _ w).drewN m).setCell (.inl rfl)
theorem dM (s:Bs) (i j:Nat):(⟨s.toArray⟩:ByteArray).extract i j=⟨((s.take j).drop i).toArray⟩:=by
 apply ByteArray.ext;rw[ByteArray.data_extract];simp[List.extract,List.drop_take]
theorem bGf (s:Bs) (k:Nat) (h:k+4≤s.length):nU (dW s k 4)<4294967296:=by
 have:=aMa (dW s k 4);rw[hX s k 4 h] at this;exact this
theorem bKp (s:Bs) (k:Nat) (h:k+8≤s.length):nU (dW s k 8)<18446744073709551616:=by
 have:=aMa (dW s k 8);rw[hX s k 8 h] at this;exact this
theorem aEl (b:Nat) (s:Bs) (k:Nat) (w:World) (h:kO w b s k) (A:s.length≤1000000) (l:k+4≤s.length):
  Calls prog 270 #[.pointer (some b)] w fun e w'=>e= .returned (.tuple #[.int .i64 (nU (dW s k 4)),(0:Int)])∧kO w' b s (k+4)∧Mod (fun x=>x=b) w w':=by
 have C:=bGf s k l;have p:=hZ h;clear h;go_in;go_wp21;refine(rY b s k 4 w p.o (by omega) (by omega) (by omega)).mono ?_
 rintro e w1 ⟨rfl,hr,m,d⟩;have hg:Mod (fun x=>x=b) w w1:=by rw[d];exact rT _ _ _ _
 clear d;go_wp21;go_ret2;exact⟨rfl,hr,hg⟩
theorem aOc (b:UInt8) (n:Nat) (w:World) (p:n≤140737488355328):Calls prog 125 #[.string ⟨#[b]⟩,n] w fun e w'=>e= .returned (.string ⟨(List.replicate n b).toArray⟩)∧bB w w':=by
 refine(Tryz.strings_Repeat ⟨#[b]⟩ n w (by omega) (by show 1*n≤_;omega)).mono ?_
 rintro e w' ⟨rfl,d⟩;refine⟨?_,d⟩;have h:∀n,Lib.repeatL [b] n=List.replicate n b:=by
  intro n
  induction n with
  |zero=>rfl
  |succ n l=>rw[Lib.repeatL,l,bOc];rfl
 rw[show(⟨#[b]⟩:ByteArray).data.toList=[b] from rfl,h]
theorem aGw (l:List Bs) (t:Bs):cV (eQ l)++[Value.string ⟨t.toArray⟩]=cV (eQ (l++[t])):=by simp[cV,eQ]
theorem aNb (k:Nat) (b:UInt8):kF (k+1) b=kF k b++[List.replicate 64 b]:=by unfold kF;rw[List.replicate_succ']
theorem xA (k:Nat) (b:UInt8):(kF k b).length=k:=by simp[kF]
theorem aFr (b:UInt8) (n:Nat) (w:World) (ag:n≤4096):
  Calls prog 65 #[n,.int .u8 b.toNat] w fun e w'=>∃v,e= .returned v∧w'.ownsRow w.heap.size 9 1 v n (cV (eQ (kF n b)))∧bB w w':=by
 obtain⟨W,X,N,O,R⟩:=bMo zX;go_in;go_wp21;go_loopw [5,7] (fun v i wr=>∃k:Nat,k≤n∧i= .int .i64 k∧Hid (wr.ownsRow w.heap.size 9 1 v k (cV (eQ (kF k b))))∧Hid (bB w wr)) (fun _ i _=>n-(intOf i).toNat)
 case atStart=>exact⟨0,by omega,rfl,hZ (bMa _ _ _ _),hZ (i4 _ _)⟩
 case round=>
  obtain⟨k,ah,rfl,l,p⟩:=hrel;by_cases af:k<n
  ·have Y:(k:Int)<(n:Int):=by omega
   obtain⟨T,J,rfl⟩:=aY l.o;obtain⟨w1,d⟩:=nZ (wr.alloc (.cells #[.int .u8 b.toNat] 5));obtain⟨x,D⟩:=nZ wr.heap.size;have s:Hid (bB wr w1):=hZ (by rw[d];exact bZ)
   have Z:(convert 162 9 (.slice (some x) 1 1)).run prog w1= .ok (.string ⟨#[b]⟩) w1:=by
    have aa:w1.ownsRow 0 5 1 (.slice (some x) 1 1) 1 (qU [b]):=by
     have ab:Blk w1 x 5 [.int .u8 b.toNat]:=by rw[d,D];exact Blk.new wr _ _
     exact gQ (base:=0) (n:=1) (cap:=1) (size:=1) ab (z6 _) (d8 _) (by unfold maxLen;omega) rfl
    exact oN aa 162 5 9 underlying162 underlying5 underlying9
   rw[d,D] at Z;rw[d] at s;go_wp21;refine(aOc b 64 _ (by omega)).mono ?_
   rintro e w2 ⟨rfl,U⟩;have E:=hZ (s.o.trans (U.mono s.o.size));have h:=hZ (p.o.trans (E.o.mono p.o.size));have ac:k+1≤maxLen:=by unfold maxLen;omega
   have ae:(k+1)*16≤140737488355328:=by omega
   have H:w.heap.size≤(w2.alloc (.cells #[.string ⟨(List.replicate 64 b).toArray⟩] 9)).heap.size:=by have:=h.o.size;simp;omega
   have C:=hZ ((aD l.o E.o).alloc (.cells #[.string ⟨(List.replicate 64 b).toArray⟩] 9));go_wp2_with (at_builtin;go_must (refine bOa _ rfl (.tmp 9) (.tmp 14) 80 rfl w.heap.size 9 W (.string ⟨#[]⟩) 1 16 underlying80 X N O R rfl (by decide) (.slice T k J) k (cV (eQ (kF k b))) rfl C.o ⟨w2.heap.size,0,none⟩ 1 1 [.string ⟨(List.replicate 64 b).toArray⟩] rfl rfl (Blk.news (Blk.new w2 9 [.string ⟨(List.replicate 64 b).toArray⟩])) (by simp[Value.oneCell']) ac ae H ?_;intro v1 w3 A I _ _))
   rw[aGw,←aNb] at A;have V:=hZ (cF (h.o.alloc (by have:=h.o.size;omega) _) C.o I H (d8 _))
   go_roundw
   case rel=>exact⟨k+1,by omega,by go_num,hZ A,V⟩
   case measure=>simp[intOf];omega
  ·obtain rfl:k=n:=by omega
   have Y:¬(k:Int)<(k:Int):=by omega
   go_wp21;go_ret;exact⟨_,rfl,l.o,p.o⟩
def BnW (P:Program) (o:Oper) (op:BinOp) (t:TypeId) (x y:Operand) (u1 u2:Value) (a:Act) (w:World) (next:Act→World→Prop) (Q:Exit→Act→World→Prop):Prop:=
 o.upon P a next Q ((do let r ←(do eqGuard op t x y u1 u2;binOp op t u1 u2);pure (Next.value r):Sem Next).run P w)
theorem aB {t:TypeId} {d:TypeDesc} (h:Blk w g e cs) (l:P.underlying t=some d) (p:d.isRow=true) (s:(P.info? t).map (·.size)=some cs.length) (op:Oper) (a:Act) (next:Act→World→Prop) (Q:Exit→Act→World→Prop):
  lY P op t (.pointer (some g)) a w next Q=next (a.put op.dst (.agg cs.toArray)) w:=
 dP (fun j v x=>by rw[r9,h.cell,x]) l p s op a next Q
theorem eO {t:TypeId} {o:Nat} {d:TypeDesc} (h:Blk w g e zs) (p:(zs.drop o).take cs.length=cs) (s:P.underlying t=some d) (x:d.isRow=true) (A:(P.info? t).map (·.size)=some cs.length) (op:Oper) (a:Act) (next:Act→World→Prop) (Q:Exit→Act→World→Prop):
  lY P op t (.pointer (some ⟨g,o,none⟩)) a w next Q=next (a.put op.dst (.agg cs.toArray)) w:=
 dP (fun j v l=>by
  rw[h.cell,←List.getElem?_drop,←l,←p,bNk,i6 ((bMy.1 l).1)]) s x A op a next Q
theorem cW {o:Nat} (h:Blk w g e cs) (d:o+n≤cs.length):w.there g o n:=fun j l=>by
 rw[h.cell,h.frozen];exact⟨by simp;omega,rfl⟩
theorem aG {t:TypeId} {o:Nat} (h:Blk w g e zs) (d:o+cs.length≤zs.length) (l:(P.info? t).map (·.size)=some cs.length) (h1:∀u∈cs,u.oneCell'=true) (op:Oper) (a:Act) (next:Act→World→Prop) (Q:Exit→Act→World→Prop):
  cS P op t (.pointer (some ⟨g,o,none⟩)) (.agg cs.toArray) a w next Q=next (a.put op.dst undef) (w.setCells g o cs):=
 aGo (cW h d) l h1 op a next Q
theorem Blk.put (h:Blk w g e cs) (d:cs.length=vs.length):Blk (w.setCells g 0 vs) g e vs:=by
 have:=h.setCells vs 0 (by omega)
 rw[List.take_zero,bMt,r9,←d,List.drop_length,bMv] at this;exact this
theorem Blk.away (h:Blk w g e cs) (o:Nat) (vs:List Value) (d:g≠g'):Blk (w.setCells g' o vs) g e cs:=by
 have:=aJ g' vs w o;have l:=h.lt;unfold Blk at h⊢;rw[this.block g l (by simpa using d)]
 exact h
theorem Mod.put {o:Nat} (h:Mod F w w') (hg:F g∨w.heap.size≤g):Mod F w (w'.setCells g o vs):=by
 have k:=aJ g vs w' o;refine⟨k.os.trans h.os,k.tape.trans h.tape,k.output.trans h.output,l6 h.size k.size,fun x d l=>?_⟩
 rw[k.block x (bNc d h.size) (fun e=>by simp only[i5] at e;rcases hg with h1|h1<;>first|exact l (e▸h1)|omega)]
 exact h.block x d l
theorem bQ {B:Nat} {o:Nat} (h:Below B w w') (d:B≤w'.heap.size) (hg:B≤g):Below B w (w'.setCells g o vs):=
 h.grown (aJ g vs w' o) d (fun k l=>by simp only[i5] at l;omega)
def aN (n:aM):List Value:= .int .i64 n.size::aA n.root
theorem aX (p:aC):∀u∈aA p,u.oneCell'=true:=by
 intro u d;simp only[aA,s8,bLp,bNo] at d;rcases d with rfl|rfl|rfl|rfl|rfl|rfl|rfl|rfl|rfl|rfl|rfl|rfl<;>rfl
theorem eP (n:aM):∀u∈aN n,u.oneCell'=true:=by
 intro u d;rcases s8.1 d with rfl|h
 ·rfl
 ·exact aX _ u h
theorem aGl {p q:aC}:aA p=aA q↔p=q:=by
 constructor
 ·intro h
  cases p;cases q;simpa[aA] using h
 ·rintro rfl;rfl
theorem aJj:∀{a b:List aC},aF a=aF b↔a=b
 |[],[]=>by simp
 |[],b::r=>by simp[aF,aA]
 |a::r,[]=>by simp[aF,aA]
 |a::r,b::d=>by
  have e:∀(x:aC) l,aF (x::l)=aA x++aF l:=fun x l=>by simp[aF]
  rw[e,e,List.cons.injEq,←aJj (a:=r),←aGl];constructor
  ·intro h
   exact List.append_inj h (by simp[aA])
  ·rintro⟨h1,h2⟩;rw[h1,h2]
structure aM.wf (n:aM):Prop where
 size:eY n.size
 root:n.root.wf
def aRe:List LK:=[.int .i64,.int .i64,.int .i64,.int .i64,.bool,.int .i64,.int .i64,.int .i64,.int .u64,.int .u64,.int .u64,.int .u64]
theorem rP {x:Int} (h:eY x):(Lit.int .i64 x).wf=true:=by
 have h1:IntKind.i64.min= -9223372036854775808:=by decide
 have h2:IntKind.i64.max=9223372036854775807:=by decide
 show(decide (IntKind.i64.min≤x)&&decide (x≤IntKind.i64.max))=true
 rw[h1,h2];unfold eY at h;simp[h]
theorem aLi {x:Int} (h:aDc x):(Lit.int .u64 x).wf=true:=by
 have h1:IntKind.u64.min=0:=by decide
 have h2:IntKind.u64.max=18446744073709551615:=by decide
 show(decide (IntKind.u64.min≤x)&&decide (x≤IntKind.u64.max))=true
 rw[h1,h2];unfold aDc at h;simp only[h.1,decide_true,Bool.true_and,bLt];omega
theorem aDs {p:aC} (h:p.wf):fits aRe (aA p):=
 ⟨⟨_,rfl,rP h.ok.ag⟩,⟨_,rfl,rP h.ok.aa⟩,⟨_,rfl,rP h.ok.bg⟩,⟨_,rfl,rP h.ok.ba⟩,⟨_,rfl⟩,⟨_,rfl,rP h.ok.size⟩,⟨_,rfl,rP h.ok.level⟩,⟨_,rfl,rP h.ok.birth⟩,⟨_,rfl,aLi h.s0⟩,⟨_,rfl,aLi h.s1⟩,⟨_,rfl,aLi h.s2⟩,⟨_,rfl,aLi h.s3⟩,trivial⟩
theorem aOn:pD.wf:=by
 constructor
 ·constructor<;>(unfold eY pD;decide)
 all_goals (unfold aDc pD;decide)
theorem aQx:∀{l:List aC},(∀p∈l,p.wf)→fits (List.replicate l.length aRe).flatten (aF l)
 |[],_=>trivial
 |p::r,h=>by
  have e:aF (p::r)=aA p++aF r:=by simp[aF]
  rw[e,bLn,bOc,List.flatten_cons];exact aCl (aDs (h p (by simp))) (aQx (fun q d=>h q (by simp[d])))
theorem bJx {n:aM} (h:n.wf):fits (.int .i64::aRe) (aN n):=⟨⟨_,rfl,rP h.size⟩,aDs h.root⟩
theorem aU:(prog.info? 51).map (·.size)=some 12:=by kernel_rfl
theorem bU {x:Operand} {ty:TypeId} {pos:String}:
  Oper.wp prog ⟨dst,.load 51 x,ty,pos,after,guard⟩ a w next Q=lY prog ⟨dst,.load 51 x,ty,pos,after,guard⟩ 51 (a.eval x) a w next Q:=rfl
theorem bR {x:Operand} {ty:TypeId} {pos:String}:
  Oper.wp prog ⟨dst,.store 51 x y,ty,pos,after,guard⟩ a w next Q=cS prog ⟨dst,.store 51 x y,ty,pos,after,guard⟩ 51 (a.eval x) (a.eval y) a w next Q:=rfl
theorem bCl {x:Operand} {d ty:TypeId} {pos:String}:
  Oper.wp prog ⟨dst,.binOp op 51 x y d,ty,pos,after,guard⟩ a w next Q=BnW prog ⟨dst,.binOp op 51 x y d,ty,pos,after,guard⟩ op 51 x y (a.eval x) (a.eval y) a w next Q:=rfl
theorem bHp:(prog.info? 49).map (·.size)=some 4:=by kernel_rfl
theorem aZg {x:Operand} {ty:TypeId} {pos:String}:
  Oper.wp prog ⟨dst,.load 49 x,ty,pos,after,guard⟩ a w next Q=lY prog ⟨dst,.load 49 x,ty,pos,after,guard⟩ 49 (a.eval x) a w next Q:=rfl
theorem bEm {p q:aC} (hp:p.wf) (h:q.wf) (d:World):(Op.equalIn 10000 51 (.agg (aA p).toArray) (.agg (aA q).toArray)).run prog d= .ok (decide (p=q)) d:=by
 obtain⟨r,h1,h2⟩:=tP (P:=prog) (n:=4) (t:=51) (ks:=aRe) (by kernel_rfl) (by kernel_rfl) (by decide) (by decide) (by kernel_rfl) (by kernel_rfl) (aDs hp) (aDs h) d
 have e:r=decide (p=q):=by
  rw[Bool.eq_iff_iff,h2,aGl];simp
 rw[←e];exact h1
theorem bKc:prog.eqGuardType prog.depth 51=false:=by kernel_rfl
theorem aVq {p q:aC} (hp:p.wf) (h:q.wf) (o:Oper) (x y:Operand) (a:Act) (d:World) (next:Act→World→Prop) (Q:Exit→Act→World→Prop):BnW prog o .eql 51 x y (.agg (aA p).toArray) (.agg (aA q).toArray) a d next Q=next (a.put o.dst (.bool (decide (p=q)))) d:=by
 unfold BnW;rw[bLr,bLr,run_eqGuard_agg d _ _ _ _ _ _ bKc,y7,run_eql_struct,bEm hp h];rfl
theorem aXl {p:aC} (hp:p.wf) (o:Oper) (x y:Operand) (a:Act) (d:World) (next:Act→World→Prop) (Q:Exit→Act→World→Prop):BnW prog o .eql 51 x y (.agg (aA p).toArray) (.agg yE) a d next Q=next (a.put o.dst (.bool (isNone p))) d:=aVq hp aOn o x y a d next Q
theorem eX (p:aC) (w:World) (op:Oper) (a:Act) (next:Act→World→Prop) (Q:Exit→Act→World→Prop):cS prog op 51 (.pointer (some ⟨w.heap.size,0,none⟩)) (.agg (aA p).toArray) a (w.alloc (.cells yE 51)) next Q=next (a.put op.dst undef) (w.alloc (.cells (aA p).toArray 51)):=by
 have s:=aG (P:=prog) (t:=51) (o:=0) (cs:=aA p) (Blk.new w 51 (yE).toList) (d8 12) aU (aX p) op a next Q;rw[dS w 51 (aA p) (yE).toList rfl] at s;exact s
theorem qR (h:Blk w g e zs) (d:zs.length=12) (op:Oper) (a:Act) (next:Act→World→Prop) (Q:Exit→Act→World→Prop):cS prog op 51 (.pointer (some g)) (.agg yE) a w next Q=next (a.put op.dst undef) (w.setCells g 0 (aA pD)):=
 aG (P:=prog) (t:=51) (o:=0) (cs:=aA pD) h (by rw[d];exact d8 12) aU (aX _) op a next Q
theorem aJl (l:List aC) (k:Nat) (d:k<l.length):((aF l).drop (k*12)).take 12=aA l[k]:=by
 induction l generalizing k with
 |nil=>simp at d
 |cons p r h=>
  have e:aF (p::r)=aA p++aF r:=by simp[aF]
  rw[e]
  cases k with
  |zero=>rw[Nat.zero_mul,bOf,List.take_left' (by rfl)];rfl
  |succ k=>
   rw[show(k+1)*12=(aA p).length+k*12 by simp[aA];omega,←List.drop_drop,List.drop_left,h k (by simpa using d)]
   rfl
theorem aYy (l:List aC) (k:Nat) (d:k<l.length):(aF l).toArray.extract (k*12) (k*12+12)=(aA l[k]).toArray:=by
 rw[List.extract_toArray,List.extract_eq_take_drop,show k*12+12-k*12=12 by omega,aJl l k d]
theorem tN (l:List aC) (k:Nat) (p:aC) (d:k<l.length):(aF l).take (k*12)++aA p++(aF l).drop (k*12+12)=aF (l.set k p):=by
 induction l generalizing k with
 |nil=>simp at d
 |cons q r h=>
  have e:∀q r,aF (q::r)=aA q++aF r:=fun q r=>by simp[aF]
  cases k with
  |zero=>
   rw[List.set_cons_zero,e,e,Nat.zero_mul,List.take_zero,bMt,r9,List.drop_left' (by rfl)]
  |succ k=>
   have s:(aA q).length=12:=rfl;rw[List.set_cons_succ,e,e,←h k (by simpa using d),show(k+1)*12=(aA q).length+k*12 by rw[s];omega,List.take_length_add_append,show(aA q).length+k*12+12=(aA q).length+(k*12+12) by omega,List.drop_length_add_append]
   simp
section
theorem bKt:(prog.info? 139).map (·.size)=some 4:=by kernel_rfl
theorem aRm {x:Operand} {ty:TypeId} {pos:String}:
  Oper.wp prog ⟨dst,.store 139 x y,ty,pos,after,guard⟩ a w next Q=cS prog ⟨dst,.store 139 x y,ty,pos,after,guard⟩ 139 (a.eval x) (a.eval y) a w next Q:=rfl
attribute [local go_sem ↓] aRm
theorem dJ.fresh {b:UInt8} (d:Blk w db 139 [vm,.map (some mb),false,.int .i64 (-1)]) (l:w.ownsRow 0 9 1 vm n (cV (eQ (kF n b)))) (p:jA w mb []) (s:n≤4096):
  dJ w db (iA n b) (aPd db vm mb []):=
 ⟨vm,mb,[],⟨d,by show w.ownsRow 0 _ 1 vm (kF n b).length _;rw[xA];exact l,p,fun k _=>rfl,fun k v h=>(by cases h),fun k v g h=>(by cases h),fun j k u v g _ h=>(by cases h),⟨by show(-1:Int)≤ -1;omega,by show(-1:Int)≤1000000000;omega⟩,⟨by show(kF n b).length≤_;rw[xA];exact s,fun k v h=>(by cases h)⟩,fun k=>z6 _⟩,fun g=>Iff.rfl⟩
theorem bDc (n:Nat) (w:World) (h1:1≤n) (s:n≤4096):
  Calls prog 121 #[.int .i64 n] w fun e w'=>∃db F,e= .returned (.tuple #[.pointer (some ⟨db,0,none⟩),.int .i64 0])∧dJ w' db (iA n 0) F∧(∀g,F g→w.heap.size≤g)∧Below w.heap.size w w':=by
 have R:¬(n:Int)<1:=by omega
 have T:¬(4096:Int)<(n:Int):=by omega
 have O:=@run_makeMap prog;go_in;go_wp21;refine(aFr 0 n w s).mono ?_;rintro e w1 ⟨v,rfl,h,p⟩;obtain⟨ao,d,rfl⟩:=aY h;have x:=hZ h;have A:=hZ p;clear h p;go_wp21;go_ret2;have E:=A.o.size;have l:=(x.o.alloc (.map #[] 0)).alloc (.cells #[.slice ao n d,.map (some w1.heap.size),false,.int .i64 (-1)] 139);have C:jA ((w1.alloc (.map #[] 0)).alloc (.cells #[.slice ao n d,.map (some w1.heap.size),false,.int .i64 (-1)] 139)) w1.heap.size []:=(jA.new w1).below (bZ);have D:Blk ((w1.alloc (.map #[] 0)).alloc (.cells #[.slice ao n d,.map (some w1.heap.size),false,.int .i64 (-1)] 139)) (w1.heap.size+1) 139 [.slice ao n d,.map (some w1.heap.size),false,.int .i64 (-1)]:=Blk.newAt _ _ (by simp)
 refine⟨_,_,rfl,dJ.fresh D ⟨l.1,?_⟩ C s,fun g hg=>?_,(A.o.alloc E _).alloc (by simp;omega) _⟩
 ·rcases l.2 with h2|⟨g,cap,H,I,U,J⟩
  ·exact .inl h2
  ·exact .inr ⟨g,cap,H,I,z6 _,J⟩
 ·rcases hg with rfl|rfl|hg|⟨k,u,N,_⟩
  ·omega
  ·omega
  ·exact(x.o.lt g hg).1
  ·cases N
theorem aEr {δ:bC} (h:dJ w db δ F) (b:UInt8):
  Calls prog 29 #[.pointer (some db),.int .u8 b.toNat] w fun e w'=>e= .returned (.tuple #[])∧fP db (iA δ.med.length b) F w w':=by
 have W:=hZ h;obtain⟨vm,mb,c,h,hF⟩:=h;obtain⟨ao,cap,rfl⟩:=aY h.med;have c0:=h.blk.cell 0;have D:Hid (F db):=hZ ((hF db).2 (.inl rfl));have I:=hZ h.blk;have A:=h.sz.1;obtain⟨n,N⟩:=nZ δ.med.length;rw[←N] at A c0 I⊢;have U:=hZ (aFr b n w A);clear h hF N;have ab:=@run_makeMap prog;go_in;go_wp2_with fail;refine U.o.mono ?_;rintro e w1 ⟨v,rfl,s,C⟩;obtain⟨d,l,rfl⟩:=aY s;have E:=hZ s;have O:=hZ C;have x:=(I.o.below C).alloc (.map #[] 0);have ac:=aG (t:=139) (o:=0) (cs:=[.slice d n l,.map (some w1.heap.size),.bool false,.int .i64 (-1)]) x (d8 4) bKt (by
  intro u p;simp only[s8,bLp,bNo] at p;rcases p with rfl|rfl|rfl|rfl
  ·rfl
  ·rfl
  ·rfl
  ·rfl)
 have X:=hZ (x.put (vs:=[.slice d n l,.map (some w1.heap.size),false,.int .i64 (-1)]) rfl);clear s C x;go_wp2_with fail;go_end0;have Y:Mod F w ((w1.alloc (.map #[] 0)).setCells db 0 [.slice d n l,.map (some w1.heap.size),false,.int .i64 (-1)]):=((Mod.below O.o).alloc _).put (.inl D.o);have J:Mod (fun g=>g=db) (w1.alloc (.map #[] 0)) ((w1.alloc (.map #[] 0)).setCells db 0 [.slice d n l,.map (some w1.heap.size),false,.int .i64 (-1)]):=(Mod.refl _ _).put (.inl rfl)
 have ae:=W.o.lt db D.o;have R:=O.o.size;have H:=dH J (E.o.alloc (.map #[] 0)) (fun g hg e=>by have:=(E.o.lt g hg).1;omega)
 have T:jA ((w1.alloc (.map #[] 0)).setCells db 0 [.slice d n l,.map (some w1.heap.size),false,.int .i64 (-1)]) w1.heap.size []:=(jA.new w1).keep (J.block _ (by simp) (by omega))
 refine⟨rfl,_,dJ.fresh X.o ⟨H.1,?_⟩ T A,Y,fun g hg=>?_⟩
 ·rcases H.2 with h2|⟨g,cap,V,Z,af,aa⟩
  ·exact .inl h2
  ·exact .inr ⟨g,cap,V,Z,z6 _,aa⟩
 ·rcases hg with rfl|rfl|hg|⟨k,u,p,_⟩
  ·exact .inl D.o
  ·exact .inr R
  ·exact .inr (E.o.lt g hg).1
  ·cases p
theorem aHd (h:jA w g c):∃clock,∀ty,(Builtin.clear_ #[137] ty #[.map (some g)]).run prog w= .ok (.tuple #[]) (bEd w g #[] clock):=by
 obtain⟨es,clock,h1,h2⟩:=h;refine⟨clock,fun ty=>?_⟩
 unfold Builtin.clear_;simp only[n9,n8];rw[bLr,bNy underlying137 w];simp only[y7];rw[bLr,MapKept.run_getObj_map h1];simp only[y7];rw[bLr,MapKept.run_setObj_map _ h1];rfl
end
def mix (acc s:List UInt8) (i:Nat):List UInt8:=(List.range acc.length).map fun j=>if j<i then acc.getD j 0^^^s.getD j 0 else acc.getD j 0
theorem wT (d s:List UInt8) (i:Nat):(mix d s i).length=d.length:=by simp[mix]
theorem bBo (d s:List UInt8):mix d s 0=d:=by
 apply bNw
 ·simp[mix]
 ·intro i h1 h2;simp[mix,b9 h2]
theorem aKh (d s:List UInt8) (i j:Nat) (h:j<d.length):(mix d s i)[j]'(by simpa[mix] using h)=if j<i then d[j]^^^s.getD j 0 else d[j]:=by
 simp[mix,h]
theorem bAk (d s:List UInt8) (i:Nat) (h:i<d.length):mix d s (i+1)=(mix d s i).set i (d[i]^^^s.getD i 0):=by
 apply bNw
 ·simp[mix]
 ·intro j h1 h2
  have p:j<d.length:=by simpa[mix] using h1
  rw[aKh _ _ _ _ p,List.getElem_set,aKh _ _ _ _ p];by_cases e:i=j
  ·subst e;simp
  ·simp only[e,if_false]
   by_cases l:j<i
   ·simp[l,show j<i+1 by omega]
   ·simp[l,show ¬j<i+1 by omega]
def xO (n:Nat) (ss:List ByteArray):List UInt8:=ss.foldl (fun acc s=>mix acc s.data.toList n) (List.replicate n 0)
theorem pS (n:Nat) (ss:List ByteArray):(xO n ss).length=n:=by
 unfold xO
 suffices h:∀d:List UInt8,d.length=n→(ss.foldl (fun d s=>mix d s.data.toList n) d).length=n from h _ (by simp)
 induction ss with
 |nil=>simp
 |cons a r l=>intro d h;exact l _ (by simp[wT,h])
theorem aWe (n k:Nat) (ss:List ByteArray) (h:k<ss.length):xO n (ss.take (k+1))=mix (xO n (ss.take k)) ss[k].data.toList n:=by
 unfold xO;rw[m8 h,List.foldl_append];rfl
theorem aWw (n k:Nat) (ss:List ByteArray) (h:k<ss.length):xO n (ss.take (k+1))=mix (xO n (ss.take k)) (ss.getD k ByteArray.empty).data.toList n:=by
 rw[aWe n k ss h,a8,b9 h];rfl
theorem aJq (s:ByteArray) (j:Nat) (h:j<s.size):s.data.toList.getD j 0=s[j]:=by
 rw[a8,b9 (by simpa using h)]
 rfl
theorem bAs (b s d:List UInt8) (j:Nat) (x:UInt8) (h:d=mix b s j) (l:j<b.length) (p:d[j]?=some x):mix b s (j+1)=d.set j (x^^^s.getD j 0):=by
 subst h;have A:j<(mix b s j).length:=by rw[wT];exact l
 rw[bAk _ _ _ l];rw[b9 A,aKh _ _ _ _ l] at p;simp at p;rw[p]
def qP (ss:List ByteArray):Bool:=ss.all fun s=>s.size == (ss.getD 0 ByteArray.empty).size
theorem bFo (ss:List ByteArray) (n:Nat) (h:ss.length=n):(!(List.range n).any fun j=>((ss.getD j ByteArray.empty).size:Int) != (ss.getD 0 ByteArray.empty).size)=qP ss:=by
 subst h;rw[Bool.eq_iff_iff];simp only[qP,bNr,List.any_eq_false,bMp,bne_iff_ne,ne_eq,Decidable.not_not,List.all_eq_true,beq_iff_eq];constructor
 ·intro h s l
  obtain⟨j,d,rfl⟩:=bOb.1 l;have:=h j d;rw[a8,b9 d] at this;simpa using(Int.ofNat.inj this)
 ·intro h j d
  have:=h (ss.getD j ByteArray.empty) (by rw[a8,b9 d];exact n5 _)
  rw[this]
theorem aMt (ss:List ByteArray) (m:Nat) (h:∀s∈ss,s.size=m):qP ss=true:=by
 simp only[qP,List.all_eq_true,beq_iff_eq];intro s d
 cases ss with
 |nil=>cases d
 |cons a r=>rw[h s d];exact(h a (by simp)).symm
theorem aTb (h:qP ss=true):∀s∈ss,s.size=(ss.getD 0 ByteArray.empty).size:=by
 simpa[qP] using h
def qF (k w:Int):Bool:=decide (k=0∧1≤w∧w≤8∨k=1∧3≤w∧w≤8)
abbrev Gs:=List (Int×Int)
def bFv (gs:Gs):Bool:=gs.all fun g=>qF g.1 g.2
def bH (gs:Gs) (secs:Int):Bool:=decide (1≤gs.length∧gs.length≤4∧24≤secs∧secs≤4096)&&bFv gs
def tU (gs:Gs) (secs i:Int):Bool:=bH gs secs&&decide (0≤i∧i<gs.length)
def jF (g:Int×Int) (secs:Int):Int:=if g.1=1 then(secs-16)*g.2 else secs-16
def nH (gs:Gs) (secs i:Int):Int:=if tU gs secs i=true then jF (gs.getD i.toNat (0,0)) secs else 0
def aKr (w size:Int):Int:=size+(size+w-2)/(w-1)
def takes (g:Int×Int) (size:Int):Int:=if g.1=0 then size else aKr g.2 size+aKr g.2 size%2
def bO (gs:Gs) (secs i size:Int):Int:=if tU gs secs i=true∧1≤size∧size≤4 then takes (gs.getD i.toNat (0,0)) size else 0
def fX (gs:Gs) (k:Nat):Int:=((gs.take k).map (·.2)).sum
theorem aS {gs:Gs} (h:bH gs secs=true):1≤gs.length∧gs.length≤4∧24≤secs∧secs≤4096∧∀g∈gs,(g.1=0∧1≤g.2∧g.2≤8∨g.1=1∧3≤g.2∧g.2≤8):=by
 unfold bH at h;rw[y8,bLt] at h;obtain⟨⟨h1,h2,d,l⟩,p⟩:=h;refine⟨h1,h2,d,l,fun g hg=>?_⟩
 have:=List.all_eq_true.1 p g hg;simpa[qF] using this
theorem bM {gs:Gs} (h:bH gs secs=true) (d:i<gs.length):(gs.getD i (0,0)).1=0∧1≤(gs.getD i (0,0)).2∧(gs.getD i (0,0)).2≤8∨(gs.getD i (0,0)).1=1∧3≤(gs.getD i (0,0)).2∧(gs.getD i (0,0)).2≤8:=by
 refine(aS h).2.2.2.2 _ ?_;rw[a8,b9 d];exact n5 _
theorem qX {gs:Gs} {i:Int} (h:tU gs secs i=true):bH gs secs=true∧0≤i∧i<gs.length:=by
 unfold tU at h;rw[y8,bLt] at h;exact⟨h.1,h.2⟩
theorem xY {gs:Gs} {i:Int} (h:bH gs secs=true) (h0:0≤i) (h1:i<gs.length):tU gs secs i=true:=by
 unfold tU;rw[h];simp[h0,h1]
theorem bEf {a w:Int} (h0:0≤a) (h1:a≤4096) (h2:0≤w) (d:w≤8):0≤a*w∧a*w≤32768∧(3≤w→a*3≤a*w):=by
 refine⟨Int.mul_nonneg h0 h2,?_,fun h=>Int.mul_le_mul_of_nonneg_left h h0⟩
 have:=Int.mul_le_mul h1 d h2 (by omega)
 omega
theorem yT {g:Int×Int} (h:g.1=0∧1≤g.2∧g.2≤8∨g.1=1∧3≤g.2∧g.2≤8) (h1:24≤secs) (h2:secs≤4096):8≤jF g secs∧jF g secs≤32768∧(g.1=1→24≤jF g secs):=by
 unfold jF;rcases h with⟨k,w1,w2⟩|⟨k,w1,w2⟩
 ·rw[i9 (by omega)];omega
 ·rw[i6 k]
  have:=bEf (a:=secs-16) (w:=g.2) (by omega) (by omega) (by omega) w2
  have d:=this.2.2 w1;omega
theorem bBx {w size:Int} (h1:3≤w) (h2:w≤8) (d:1≤size) (h:size≤4):0≤(size+w-2)/(w-1)∧(size+w-2)/(w-1)≤2∧2≤aKr w size∧aKr w size≤6:=by
 unfold aKr;have:w=3∨w=4∨w=5∨w=6∨w=7∨w=8:=by omega
 rcases this with rfl|rfl|rfl|rfl|rfl|rfl<;>omega
theorem aEf {g:Int×Int} {size:Int} (h:g.1=0∧1≤g.2∧g.2≤8∨g.1=1∧3≤g.2∧g.2≤8) (d:1≤size) (l:size≤4):1≤takes g size∧takes g size≤6∧(g.1=1→2≤takes g size)∧(g.1=0→takes g size=size):=by
 unfold takes;rcases h with⟨k,w1,w2⟩|⟨k,w1,w2⟩
 ·rw[i6 k];omega
 ·rw[i9 (by omega)]
  have:=bBx w1 w2 d l;unfold aKr at*;have:g.2=3∨g.2=4∨g.2=5∨g.2=6∨g.2=7∨g.2=8:=by omega
  rcases this with e|e|e|e|e|e<;>rw[e] at* <;>omega
theorem qY (gs:Gs) (k:Nat) (h:k<gs.length):fX gs (k+1)=fX gs k+(gs.getD k (0,0)).2:=by
 unfold fX;rw[m8 h,bNa,List.sum_append,a8,b9 h];simp
theorem pZ {gs:Gs} (h:bH gs secs=true):∀k,k≤gs.length→0≤fX gs k∧fX gs k≤8*k:=by
 intro k
 induction k with
 |zero=>intro _;simp[fX]
 |succ k d=>
  intro l;have:=d (by omega)
  have hg:=bM h (show k<gs.length by omega)
  rw[qY gs k (by omega)]
  omega
theorem bKd:(prog.info? 73).map (fun i=>(i.zero,i.size,i.bytes))=some (some (.agg yF),2,16):=by kernel_rfl
theorem aJy:(prog.info? 3).map (fun i=>(i.zero,i.size,i.bytes))=some (some (.int .i64 0),1,8):=by kernel_rfl
theorem aGb (ao:Option Addr) (n cap:Nat) (cs:List Value) (w:World) (h:RSl w 2 ao n cap cs) (h1:∀u∈cs,u.oneCell'=true) (O:n≤1000000000):
  Calls prog 120 #[.slice ao n cap] w fun e w'=>∃v,e= .returned v∧w'.ownsRow w.heap.size 73 2 v n cs∧bB w w':=by
 obtain⟨E,H,x,A,C⟩:=bMo bKd;have p:=fun(N:World)=>Lib.run_eql_slice_nil (P:=prog) N 22 73 ao n cap 0 0 underlying22
 cases ao with
 |none=>
  have I:=h.2.2.2.1 rfl;have J:n=0:=by have:=h.2.1;omega
  subst J;subst I;have D:=bLs (by have:=h.1;simpa using this)
  subst D;simp only[Option.isNone_none] at p;go_in;go_wp21;go_ret;exact⟨_,rfl,bMa _ _ _ _,i4 _ _⟩
 |some ad=>
  simp only[Option.isNone_some] at p;have d:=World.ownsRow_made (base:=w.heap.size) (e:=73) (size:=2) w #[] 0 (d8 _) (by unfold maxLen;omega) rfl
  go_in;go_wp2_with (at_builtin;refine bNe _ rfl (.tmp 5) (.tmp 6) 22 rfl w.heap.size 73 E (.agg yF) 2 16 underlying22 H x A C rfl (by decide) (.slice (some ⟨w.heap.size,0,none⟩) 0 0) 0 [] rfl d ad n cap cs rfl (by rw[h.1]) (RSl.news (h.below ((i4 _ _).alloc (d8 _) (.cells #[] 73)))) h1 (by unfold maxLen;omega) (by omega) (by simp) ?_;intro v1 w1 l s _;simp only[r9,bMt] at l)
  go_ret;exact⟨_,rfl,l,cF (bZ) d s (by simp) (d8 _)⟩
theorem aSg (ao:Option Addr) (n cap:Nat) (cs:List Value) (w:World) (h:RSl w 1 ao n cap cs) (h1:∀u∈cs,u.oneCell'=true) (O:n≤1000000000):
  Calls prog 84 #[.slice ao n cap] w fun e w'=>∃v,e= .returned v∧w'.ownsRow w.heap.size 3 1 v n cs∧bB w w':=by
 obtain⟨E,H,x,A,C⟩:=bMo aJy;have p:=fun(N:World)=>Lib.run_eql_slice_nil (P:=prog) N 107 3 ao n cap 0 0 underlying107
 cases ao with
 |none=>
  have I:=h.2.2.2.1 rfl;have J:n=0:=by have:=h.2.1;omega
  subst J;subst I;have D:=bLs (by have:=h.1;simpa using this)
  subst D;simp only[Option.isNone_none] at p;go_in;go_wp21;go_ret;exact⟨_,rfl,bMa _ _ _ _,i4 _ _⟩
 |some ad=>
  simp only[Option.isNone_some] at p;have d:=World.ownsRow_made (base:=w.heap.size) (e:=3) (size:=1) w #[] 0 (d8 _) (by unfold maxLen;omega) rfl
  go_in;go_wp2_with (at_builtin;refine bNe _ rfl (.tmp 5) (.tmp 6) 107 rfl w.heap.size 3 E (0:Int) 1 8 underlying107 H x A C rfl (by decide) (.slice (some ⟨w.heap.size,0,none⟩) 0 0) 0 [] rfl d ad n cap cs rfl (by rw[h.1]) (RSl.news (h.below ((i4 _ _).alloc (d8 _) (.cells #[] 3)))) h1 (by unfold maxLen;omega) (by omega) (by simp) ?_;intro v1 w1 l s _;simp only[r9,bMt] at l)
  go_ret;exact⟨_,rfl,l,cF (bZ) d s (by simp) (d8 _)⟩
theorem aEi (F:Nat) (D:Array Value) (p:Nat→Bool) (ao:Option Addr) (n cap:Nat) (cs:List Value) (w:World) (h:RSl w 2 ao n cap cs) (W:n≤1000000000)
  (hF:∀args l,(callFunc F args).run prog l= .ok (.enter F args) l)
  (I:∀j,j<n→∀l,bB w l→Calls prog F (#[.agg #[cs.getD (j*2) undef,cs.getD (j*2+1) undef]]++D) l fun e T=>e= .returned (.bool (p j))∧bB l T):
  Calls prog 182 #[.slice ao n cap,.func (.func F) #[] D] w fun e w'=>e= .returned (.int .i64 (eL p n))∧bB w w':=by
 have U:=hZ I;have E:=hZ h;clear I h;go_in;go_wp2_with fail;go_loopw [8] (fun i wr=>∃k:Nat,k≤n∧i= .int .i64 k∧Hid (∀j,j<k→p j=false)∧bB w wr) (fun i _=>n-(intOf i).toNat)
 case atStart=>exact⟨0,by omega,rfl,hZ fun j J=>absurd J (by omega),i4 _ _⟩
 case round=>
  obtain⟨k,X,rfl,x,d⟩:=hrel;by_cases H:k<n
  ·obtain⟨b,off,rfl,N,C⟩:=E.o.2.2.2.2 (by omega)
   have R:=E.o.1;have c0:wr.cell? ⟨b,off+k*2,none⟩=some (cs.getD (k*2) undef):=by rw[(d.cell (p:=⟨b,_,none⟩) N),C (k*2) (by omega)];exact getD_some _ _ (by omega)
   have Y:wr.cell? ⟨b,off+k*2+1,none⟩=some (cs.getD (k*2+1) undef):=by rw[bMc,(d.cell (p:=⟨b,_,none⟩) N),C (k*2+1) (by omega)];exact getD_some _ _ (by omega)
   have s:=hZ (U.o k H wr d);clear C R
   cases hp:p k with
   |true=>
    rw[hp] at s;go_wp2_with fail;refine s.o.mono ?_;rintro e w1 ⟨rfl,A⟩;go_wp2_with fail;go_ret;exact⟨by rw[fI H hp x.o];rfl,d.trans (A.mono d.size)⟩
   |false=>
    rw[hp] at s;have V:=hZ hp;clear hp;go_wp2_with fail;refine s.o.mono ?_;rintro e w1 ⟨rfl,A⟩;go_wp2_with fail;go_roundw
    case rel=>
     refine⟨k+1,by omega,by go_num,hZ fun j J=>?_,d.trans (A.mono d.size)⟩
     by_cases e:j=k
     ·rw[e];exact V.o
     ·exact x.o j (by omega)
    case measure=>simp[intOf];omega
  ·have O:k=n:=by omega
   subst O;go_wp2_with fail;go_ret;exact⟨by rw[eF x.o];rfl,d⟩
theorem xW (F:Nat) (l:Array Value) (p:Nat→Bool) (ao:Option Addr) (n cap:Nat) (cs:List Value) (w:World) (h:RSl w 2 ao n cap cs) (x:n≤1000000000)
  (hF:∀args d,(callFunc F args).run prog d= .ok (.enter F args) d)
  (A:∀j,j<n→∀d,bB w d→Calls prog F (#[.agg #[cs.getD (j*2) undef,cs.getD (j*2+1) undef]]++l) d fun e C=>e= .returned (.bool (p j))∧bB d C):
  Calls prog 117 #[.slice ao n cap,.func (.func F) #[] l] w fun e w'=>e= .returned (.bool ((List.range n).any p))∧bB w w':=by
 go_in;go_wp21;refine(aEi F l p ao n cap cs w h x hF A).mono ?_;rintro e w1 ⟨rfl,s⟩;go_wp21;go_ret;exact⟨by rw[←pW];rfl,s⟩
theorem aPu (x:Nat) (w:World) (h:x≤4):
  Calls prog 228 #[.int .u64 x] w fun e w'=>∃l:Int,e= .returned l∧w=w':=by
 have d:x=0∨x=1∨x=2∨x=3∨x=4:=by omega
 rcases d with rfl|rfl|rfl|rfl|rfl
 all_goals
  go_in;go_wp21;go_ret;exact⟨_,rfl,rfl⟩
theorem aZp (x:Nat) (w:World) (h:x≤4):
  Calls prog 155 #[.int .u64 x] w fun e w'=>∃l:Int,e= .returned l∧w=w':=by
 go_in;go_wp21;refine(aPu x w h).mono ?_;rintro e w1 ⟨l,rfl,rfl⟩;go_wp21;go_ret;exact⟨_,rfl,rfl⟩
theorem aGz (l:0<z.size) (h:u∈(Builtin.zeroCells z n).toList):u∈z.toList:=by
 simp only[Builtin.zeroCells,Array.toList_map,bMn] at h;obtain⟨i,_,rfl⟩:=h;have d:i%z.size<z.size:=bNd _ l;rw[getElem!_pos z _ d];exact Array.getElem_mem_toList d
theorem tB (w:World) (t e ty:TypeId) (z:Value) (ht:P.underlying t=some (.slice e)) (p:∀w,(zeroValue e).run P w= .ok z w) (K:Nat) (s:z.cells.size=K) (C:0<K) (h1:∀u∈z.cells.toList,u.oneCell'=true) (b o n c:Nat) (D:0<n)
  (x:∀j,j<n*K→(w.cell? ⟨b,o+j,none⟩).isSome=true) (A:∀j,j<n*K→w.frozen? ⟨b,o+j,none⟩=false):
  (Builtin.clear_ #[t] ty #[.slice (some ⟨b,o,none⟩) n c]).run P w= .ok (.tuple #[]) (w.setCells b o (Builtin.zeroCells z.cells n).toList):=by
 have d:(Builtin.zeroCells z.cells n).toList.length=n*K:=by rw[bOd,size_zeroCells,s]
 have h:=run_storeCells_cells (P:=P) b o (Builtin.zeroCells z.cells n).toList 0 w (by rw[d];simpa using x) (by rw[d];simpa using A) (fun v l=>h1 v (aGz (by omega) l))
 simp only[Nat.add_zero] at h;obtain⟨m,rfl⟩:∃m,n=m+1:=⟨n-1,by omega⟩
 simp[Builtin.clear_,bNy ht,p,h]
def aEq (K:Nat) (cs:List Value) (j:Nat):List Value:=(cs.drop (j*K)).take K
def sO (K:Nat) (cs:List Value) (p:Nat→Bool) (n:Nat):List Value:=((List.range n).filter fun j=> !p j).flatMap (aEq K cs)
def jY (p:Nat→Bool) (n:Nat):Nat:=((List.range n).filter fun j=> !p j).length
theorem oF {p:Nat→Bool} (h:p n=true):jY p (n+1)=jY p n:=by
 unfold jY;rw[bMk,bNz];simp[h]
theorem uW {p:Nat→Bool} (h:p n=false):jY p (n+1)=jY p n+1:=by
 unfold jY;rw[bMk,bNz];simp[h]
theorem aAn {K:Nat} {p:Nat→Bool} (h:p n=true):sO K cs p (n+1)=sO K cs p n:=by
 unfold sO;rw[bMk,bNz];simp[h]
theorem aEe {K:Nat} {p:Nat→Bool} (h:p n=false):sO K cs p (n+1)=sO K cs p n++aEq K cs n:=by
 unfold sO;rw[bMk,bNz];simp[h]
theorem aYv (p:Nat→Bool):jY p 0=0:=rfl
theorem aQp (K:Nat) (cs:List Value) (p:Nat→Bool):sO K cs p 0=[]:=rfl
theorem aAc {K:Nat} {p:Nat→Bool} (n:Nat) (s:n*K≤cs.length) (h:∀j,j<n→p j=false):sO K cs p n=cs.take (n*K)∧jY p n=n:=by
 induction n with
 |zero=>simp[aQp,aYv]
 |succ n d=>
  have l:(n+1)*K=n*K+K:=Nat.succ_mul n K;obtain⟨h1,h2⟩:=d (by omega) (fun j x=>h j (by omega))
  have hp:=h n (by omega)
  refine⟨?_,by rw[uW hp,h2]⟩
  rw[aEe hp,h1,l,List.take_add,aEq]
theorem uG (p:Nat→Bool) (n:Nat):(∀j,j<n→p j=false)∧eL p n= -1∨∃i,i<n∧p i=true∧(∀j,j<i→p j=false)∧eL p n=i:=by
 by_cases h:∀j,j<n→p j=false
 ·exact .inl ⟨h,eF h⟩
 ·right
  have C:∃j,j<n∧p j=true:=by
   simp only[Classical.not_forall] at h;obtain⟨j,s,hp⟩:=h;exact⟨j,s,by simpa using hp⟩
  obtain⟨j,s,hp⟩:=C;have D:∀m,(∃i,i<m∧p i=true∧∀t,t<i→p t=false)∨∀t,t<m→p t=false:=by
   intro m
   induction m with
   |zero=>exact .inr fun t ht=>absurd ht (by omega)
   |succ m E=>
    rcases E with⟨i,x,l,d⟩|d
    ·exact .inl ⟨i,by omega,l,d⟩
    ·cases A:p m with
     |true=>exact .inl ⟨m,by omega,A,d⟩
     |false=>
      refine .inr fun t ht=>?_
      by_cases e:t=m
      ·rw[e];exact A
      ·exact d t (by omega)
  rcases D n with⟨i,x,l,d⟩|d
  ·exact⟨i,x,l,d,fI x l d⟩
  ·rw[d j s] at hp;cases hp
theorem zP (h:j<cs.length):cs.getD j undef∈cs:=by
 rw[a8,b9 h];exact n5 h
theorem iY (h:w.grownBy w' (some g)):w.grownBy (w'.setCell ⟨g,j,none⟩ u) (some g):=by
 refine eV h ⟨rfl,rfl,rfl,by simp[World.setCell],fun k _ d=>?_⟩
 exact heap_setCell_other w' ⟨g,j,none⟩ k u (fun e=>d (by simp[e]))
section
attribute [local go_sem ↓] Go.wp_at_zero Go.wp_at_succ
def sV (f:Nat→Nat) (n:Nat):List Value:=(List.range n).map fun i=> .int .i64 (f i:Nat)
theorem uF (f:Nat→Nat) (n:Nat):(sV f n).length=n:=by simp[sV]
theorem tD (f:Nat→Nat) (n j:Nat) (h:j<n):(sV f n)[j]?=some (.int .i64 (f j:Nat)):=by simp[sV,h]
def sw (f:Nat→Nat) (j:Nat) (i:Nat):Nat:=if i=j then f (j-1) else if i=j-1 then f j else f i
theorem bGa (f:Nat→Nat) (n j:Nat) (h0:0<j) (h:j<n):((sV f n).set j (.int .i64 (f (j-1):Nat))).set (j-1) (f j:Nat)=sV (sw f j) n:=by
 apply bNg;intro t;simp only[List.getElem?_set,bLy,uF];rcases Nat.lt_or_ge t n with ht|ht
 ·rw[tD _ _ _ ht,tD _ _ _ ht]
  unfold sw;by_cases d:j-1=t
  ·rw[i6 d,i6 (by omega),i9 (by omega),i6 d.symm]
  ·rw[i9 d]
   by_cases l:j=t
   ·rw[i6 l,i6 (by omega),i6 l.symm]
   ·rw[i9 l,i9 (fun h=>l h.symm),i9 (fun h=>d h.symm)]
 ·rw[i9 (by omega),i9 (by omega),m7 (by rw[uF];exact ht),m7 (by rw[uF];exact ht)]
structure Swo (m:Nat) (c:Nat→Nat→Int):Prop where
 asymm:∀x y,x<m→y<m→c x y<0→¬c y x<0
 ntrans:∀x y z,x<m→y<m→z<m→¬c x y<0→¬c y z<0→¬c x z<0
structure sE (n m:Nat) (f:Nat→Nat):Prop where
 lt:∀i,i<n→f i<m
 inj:∀i j,i<n→j<n→f i=f j→i=j
 surj:∀y,y<m→∃i,i<n∧f i=y
def gU (c:Nat→Nat→Int) (f:Nat→Nat) (i:Nat):Prop:=∀p q,p<q→q<i→¬c (f q) (f p)<0
def rC (c:Nat→Nat→Int) (f:Nat→Nat) (i j:Nat):Prop:=(∀p q,p<q→q≤i→p≠j→q≠j→¬c (f q) (f p)<0)∧∀q,j<q→q≤i→¬c (f q) (f j)<0
theorem bFw (h:sE n m f) (h0:0<j) (s:j<n):sE n m (sw f j):=by
 refine⟨fun i D=>?_,fun a b E H d=>?_,fun y hy=>?_⟩
 ·unfold sw
  split
  ·exact h.lt _ (by omega)
  ·split
   ·exact h.lt _ s
   ·exact h.lt _ D
 ·have x:∀t,t≠j→t≠j-1→sw f j t=f t:=fun t h1 h2=>by unfold sw;rw[i9 h1,i9 h2]
  have C:sw f j j=f (j-1):=by unfold sw;rw[i6 rfl]
  have A:sw f j (j-1)=f j:=by unfold sw;rw[i9 (by omega),i6 rfl]
  by_cases I:a=j
  ·rw[I,C] at d
   by_cases l:b=j
   ·omega
   ·by_cases p:b=j-1
    ·rw[p,A] at d;have:=h.inj _ _ (by omega) s d;omega
    ·rw[x b l p] at d;have:=h.inj _ _ (by omega) H d;omega
  ·by_cases J:a=j-1
   ·rw[J,A] at d
    by_cases l:b=j
    ·rw[l,C] at d;have:=h.inj _ _ s (by omega) d;omega
    ·by_cases p:b=j-1
     ·omega
     ·rw[x b l p] at d;have:=h.inj _ _ s H d;omega
   ·rw[x a I J] at d
    by_cases l:b=j
    ·rw[l,C] at d;have:=h.inj _ _ E (by omega) d;omega
    ·by_cases p:b=j-1
     ·rw[p,A] at d;have:=h.inj _ _ E s d;omega
     ·rw[x b l p] at d;exact h.inj _ _ E H d
 ·obtain⟨i,D,d⟩:=h.surj y hy
  by_cases N:i=j
  ·exact⟨j-1,by omega,by unfold sw;rw[i9 (by omega),i6 rfl,←N];exact d⟩
  ·by_cases O:i=j-1
   ·exact⟨j,s,by unfold sw;rw[i6 rfl,←O];exact d⟩
   ·exact⟨i,D,by unfold sw;rw[i9 N,i9 O];exact d⟩
theorem aPf {c:Nat→Nat→Int} (C:sE n n f) (l:sE n n f') (R:gU c f n) (J:gU c f' n) (ht:∀x y,x<n→y<n→x≠y→c x y<0∨c y x<0):∀i,i<n→f i=f' i:=by
 intro i
 induction i using Nat.strongRecOn with
 |_ i E=>
  intro d;rcases Nat.decEq (f i) (f' i) with hne|he
  ·obtain⟨p,hp,s⟩:=l.surj (f i) (C.lt i d)
   obtain⟨q,D,A⟩:=C.surj (f' i) (l.lt i d);have N:i<p:=by
    rcases Nat.lt_trichotomy p i with h|h|h
    ·have h1:=E p h hp
     have:=C.inj p i hp d (h1.trans s);omega
    ·rw[h] at s;exact absurd s.symm hne
    ·exact h
   have O:i<q:=by
    rcases Nat.lt_trichotomy q i with h|h|h
    ·have h1:=E q h D
     have:=l.inj q i D d (h1.symm.trans A);omega
    ·rw[h] at A;exact absurd A hne
    ·exact h
   have H:=J i p N hp;have I:=R i q O D;rw[s] at H;rw[A] at I;rcases ht (f i) (f' i) (C.lt i d) (l.lt i d) hne with h|h
   ·exact absurd h H
   ·exact absurd h I
  ·exact he
theorem aLu {c:Nat→Nat→Int} (h:gU c f i):rC c f i i:=
 ⟨fun p q h1 h2 _ d=>h p q h1 (by omega),fun q h1 h2=>by omega⟩
theorem aGv {c:Nat→Nat→Int} (A:Swo m c) (s:sE n m f) (C:i<n) (D:j≤i) (h:rC c f i j) (d:j=0∨¬c (f j) (f (j-1))<0):gU c f (i+1):=by
 intro p q h1 h2;by_cases x:q=j
 ·subst x
  rcases d with d|d
  ·omega
  ·by_cases l:p=q-1
   ·rw[l];exact d
   ·exact A.ntrans _ _ _ (s.lt _ (by omega)) (s.lt _ (by omega)) (s.lt _ (by omega)) d (h.1 p (q-1) (by omega) (by omega) (by omega) (by omega))
 ·by_cases l:p=j
  ·subst l;exact h.2 q h1 (by omega)
  ·exact h.1 p q h1 (by omega) l x
theorem aVy {c:Nat→Nat→Int} (E:Swo m c) (A:sE n m f) (J:i<n) (h0:0<j) (N:j≤i) (h:rC c f i j) (D:c (f j) (f (j-1))<0):rC c (sw f j) i (j-1):=by
 have l:∀t,t≠j→t≠j-1→sw f j t=f t:=fun t h1 h2=>by unfold sw;rw[i9 h1,i9 h2]
 have s:sw f j j=f (j-1):=by unfold sw;rw[i6 rfl]
 have C:sw f j (j-1)=f j:=by unfold sw;rw[i9 (by omega),i6 rfl]
 refine⟨fun p q h1 h2 H I=>?_,fun q h1 h2=>?_⟩
 ·by_cases d:q=j
  ·rw[d,s,l p (by omega) (by omega)]
   exact h.1 p (j-1) (by omega) (by omega) (by omega) (by omega)
  ·by_cases x:p=j
   ·rw[x,s,l q d (by omega)]
    exact h.1 (j-1) q (by omega) h2 (by omega) d
   ·rw[l p x H,l q d I]
    exact h.1 p q h1 h2 x d
 ·rw[C]
  by_cases d:q=j
  ·rw[d,s]
   exact E.asymm _ _ (A.lt _ (by omega)) (A.lt _ (by omega)) D
  ·rw[l q d (by omega)]
   exact h.2 q (by omega) h2
def aUe (w:World) (base g n m cap:Nat) (c:Nat→Nat→Int) (w':World):Prop:=∃f,sE n m f∧gU c f n∧w'.ownsRow base 3 1 (.slice (some ⟨g,0,none⟩) n cap) n (sV f n)∧w.grownBy w' (some g)
theorem aVv (F:Nat) (ab:Array Value) (c:Nat→Nat→Int) (base g n m cap:Nat) (f:Nat→Nat) (w:World) (h:w.ownsRow base 3 1 (.slice (some g) n cap) n (sV f n)) (bs:0<n) (bt:n≤1000) (am:sE n m f) (an:Swo m c)
  (hF:∀args d,(callFunc F args).run prog d= .ok (.enter F args) d)
  (ap:∀x y,x<m→y<m→∀d,w.grownBy d (some g)→Calls prog F (#[.int .i64 (x:Nat),.int .i64 (y:Nat)]++ab) d fun e be=>e= .returned (.int .i64 (c x y))∧Below d.heap.size d be):
  Calls prog 360 #[.slice (some g) n cap,(0:Int),n,.func (.func F) #[] ab] w fun e w'=>e= .returned (.tuple #[])∧aUe w base g n m cap c w':=by
 have bf:=hZ ap;have ag:=hZ am;have aq:=hZ h;have T:=hZ an;clear ap am h an;go_in;go_wp2_with fail;go_loopw [8] (fun i wr=>∃(k:Nat) (f:Nat→Nat),1≤k∧k≤n∧i= .int .i64 k∧Hid (sE n m f)∧Hid (gU c f k)∧Hid (wr.ownsRow base 3 1 (.slice (some g) n cap) n (sV f n))∧Hid (w.grownBy wr (some g))) (fun i _=>n-(intOf i).toNat)
 case atStart=>exact⟨1,f,by omega,by omega,rfl,ag,hZ (fun p q h1 h2=>by omega),aq,hZ (World.grownBy.refl _ _)⟩
 case round=>
  obtain⟨k,f,bl,bu,rfl,ar,ah,ai,au⟩:=hrel;clear ag aq;by_cases I:k<n
  ·obtain⟨av,rfl⟩:∃av:World,av=wr:=⟨_,rfl⟩
   go_wp2_with fail;go_loopw [9] (fun i wr=>∃(j:Nat) (f:Nat→Nat),j≤k∧i= .int .i64 j∧Hid (sE n m f)∧Hid (rC c f k j)∧Hid (wr.ownsRow base 3 1 (.slice (some g) n cap) n (sV f n))∧Hid (w.grownBy wr (some g))) (fun i _=>(intOf i).toNat)
   case atStart=>exact⟨k,f,by omega,rfl,ar,hZ (aLu ah.o),ai,au⟩
   case round=>
    obtain⟨j,f',U,rfl,s,J,C,D⟩:=hrel;by_cases aj:j=0
    ·have bv:decide (0<j)=false:=by simp;omega
     have V:=hZ (aGv T.o s.o I U J.o (.inl aj));clear aj;go_wp2_with fail;go_quiet (fail);go_wp2_with fail;go_roundw
     case rel=>exact⟨k+1,f',by omega,by omega,by go_num,s,V,C,hZ (eV D.o ⟨rfl,rfl,rfl,d8 _,fun _ _ _=>rfl⟩)⟩
     case measure=>simp[intOf];omega
    ·obtain⟨p,rfl⟩:∃p,j=p+1:=⟨j-1,by omega⟩
     have A:=C.o;have c0:wr.cell? ⟨g,p+1,none⟩=some (.int .i64 (f' (p+1):Nat)):=by rw[A.cellAt (p+1) (by omega),tD _ _ _ (by omega)]
     have W:wr.cell? ⟨g,p,none⟩=some (.int .i64 (f' p:Nat)):=by rw[A.cellAt p (by omega),tD _ _ _ (by omega)]
     have aw:=s.o.lt (p+1) (by omega)
     have ax:=s.o.lt p (by omega)
     obtain⟨x,X⟩:=nZ (f' (p+1));obtain⟨y,hy⟩:=nZ (f' p);rw[←X] at c0 aw;rw[←hy] at W ax;have Y:=hZ X;have Z:=hZ hy;have ac:=hZ fun d (bh:wr.grownBy d (some g))=>bf.o x y aw ax d (eV D.o bh)
     have bm:IntKind.i64.wrap (p:Int)=(p:Int):=bLo _ (by omega)
     have bw:(p:Int)+1<(n:Int):=by omega
     have bn:(p:Int)<(n:Int):=by omega
     have bk:(0:Int)<(p:Int)+1:=by omega
     have bx:(0:Int)≤(p:Int)+1:=by omega
     have e0:((p:Int)+1).toNat=p+1:=by omega
     have E:=(A.lt g rfl).2;have bo:=hZ (A.frozenAt (p+1));have bq:=hZ (A.frozenAt p);clear A X hy;by_cases H:c x y<0
     ·have ba:decide (c x y<0)=true:=by simpa using H
      have ae:c (f' (p+1)) (f' (p+1-1))<0:=by rw[Nat.add_sub_cancel,←Y.o,←Z.o];exact H
      have bb:=hZ (aVy T.o s.o I (by omega) U J.o ae)
      have bc:=hZ (bFw s.o (show 0<p+1 by omega) (by omega))
      have N:=bGa f' n (p+1) (by omega) (by omega)
      rw[Nat.add_sub_cancel,←Y.o,←Z.o] at N;have bd:=hZ N;clear ae N;go_wp2_with fail;go_region_held3 (fun w'=>w'.cell? ⟨g,p+1,none⟩=some (.int .i64 (x:Nat))∧w'.cell? ⟨g,p,none⟩=some (.int .i64 (y:Nat))) (go_keep)
       ((refine(ac.o _ (rO _ _)).mono ?_;rintro e w1 ⟨rfl,l⟩;have O:=(l.cell (p:=⟨g,p+1,none⟩) E).trans c0;have ak:=(l.cell (p:=⟨g,p,none⟩) E).trans W))
      have aa:=hZ (aD C.o ((i4 _ _).drew.trans l));have bi:=aa.o.frozenAt (p+1);have bz:=aa.o.frozenAt p;have bj:=hZ (eV D.o (cU (r:=some g) ((i4 _ _).drew.trans l)));obtain⟨j1,R⟩:=nZ (p+1);rw[←R] at O bi e0;have ay:=hZ R;have br:j1≠p:=by omega
      obtain⟨v1,k1⟩:=cell?_setCell_some (w:=w1) (p:=⟨g,j1,none⟩) (x:=(y:Nat)) (q:=⟨g,p,none⟩) (v:=(y:Nat)) ak;obtain⟨v2,ca⟩:=cell?_setCell_some (w:=w1) (p:=⟨g,p,none⟩) (x:=(x:Nat)) (q:=⟨g,j1,none⟩) (v:=(x:Nat)) O;clear R l;go_wp2_with fail;go_region;go_wp2_with fail;go_roundw
      case rel=>
       have h1:=(aa.o.stored j1 (y:Nat)).1;have h2:=(h1.stored p (x:Nat)).1;rw[ay.o] at h2;rw[bd.o] at h2;refine⟨p,sw f' (p+1),by omega,by go_num,bc,bb,hZ ?_,hZ ?_⟩
       ·rw[ay.o];exact mH (k:=1) h2
       ·exact eV (iY (j:=p) (u:=(x:Nat)) (iY (j:=j1) (u:=(y:Nat)) bj.o)) (rO _ _)
      case measure=>simp[intOf]<;>omega
     ·have ba:decide (c x y<0)=false:=by simpa using H
      have al:¬c (f' (p+1)) (f' (p+1-1))<0:=by rw[Nat.add_sub_cancel,←Y.o,←Z.o];exact H
      have V:=hZ (aGv T.o s.o I U J.o (.inr al));clear al;go_wp2_with fail;go_region_held3 (fun w'=>w'.cell? ⟨g,p+1,none⟩=some (.int .i64 (x:Nat))∧w'.cell? ⟨g,p,none⟩=some (.int .i64 (y:Nat))) (go_keep)
       ((refine(ac.o _ (rO _ _)).mono ?_;rintro e w1 ⟨rfl,l⟩;have O:=(l.cell (p:=⟨g,p+1,none⟩) E).trans c0;have ak:=(l.cell (p:=⟨g,p,none⟩) E).trans W))
      have af:=(i4 wr.heap.size wr).drew.trans l;go_wp2_with fail;go_roundw
      case rel=>exact⟨k+1,f',by omega,by omega,by go_num,s,V,hZ (aD C.o af),hZ (eV D.o (cU af))⟩
      case measure=>simp[intOf];omega
  ·have az:k=n:=by omega
   subst az;go_wp2_with fail;go_end0;exact⟨rfl,f,ar.o,ah.o,ai.o,au.o⟩
theorem aLs (F:Nat) (p:Array Value) (c:Nat→Nat→Int) (base g n m cap:Nat) (f:Nat→Nat) (w:World) (h:w.ownsRow base 3 1 (.slice (some g) n cap) n (sV f n)) (A:0<n) (C:n≤4) (D:sE n m f) (E:Swo m c)
  (hF:∀args d,(callFunc F args).run prog d= .ok (.enter F args) d)
  (H:∀x y,x<m→y<m→∀d,w.grownBy d (some g)→Calls prog F (#[.int .i64 (x:Nat),.int .i64 (y:Nat)]++p) d fun e I=>e= .returned (.int .i64 (c x y))∧bB d I):
  Calls prog 355 #[.slice (some g) n cap,.func (.func F) #[] p] w fun e w'=>e= .returned (.tuple #[])∧aUe w base g n m cap c w':=by
 have J:Hid (∀l:Int,Calls prog 359 #[.slice (some g) n cap,(0:Int),n,l,.func (.func F) #[] p] w fun e w'=>e= .returned (.tuple #[])∧aUe w base g n m cap c w'):=hZ (by
  intro l;have N:(n:Int)≤12:=by omega
  go_in;go_wp21;refine bNb 1 ?_;rw[bMl];go_wp21;refine(aVv F p c base g n m cap f w h A (by omega) D E hF H).mono ?_
  rintro e w1 ⟨rfl,s⟩;go_wp21;refine l9 (results_none rfl _ _ _) rfl ?_;exact⟨rfl,s⟩)
 go_in;go_wp21;refine(aZp n w C).mono ?_;rintro e w1 ⟨l,rfl,rfl⟩;go_wp21;refine(J.o l).mono ?_;rintro e w1 ⟨rfl,s⟩;go_wp21;go_end0;exact⟨rfl,s⟩
end
def iR (l:Gs):List Value:=l.flatMap fun r=>[Value.int .i64 r.1,Value.int .i64 r.2]
theorem aBs (l:Gs):(iR l).length=l.length*2:=by
 induction l with
 |nil=>rfl
 |cons a r d=>simp only[iR,bMb,i7,bLn,bNm] at*;omega
theorem aZu (a:Int×Int) (b:Gs):iR (a::b)= .int .i64 a.1:: .int .i64 a.2::iR b:=rfl
theorem xU (l:Gs) (j:Nat) (h:j<l.length):(iR l)[j*2]?=some (.int .i64 (l.getD j (0,0)).1)∧(iR l)[j*2+1]?=some (.int .i64 (l.getD j (0,0)).2):=by
 induction l generalizing j with
 |nil=>simp at h
 |cons a r d=>
  cases j with
  |zero=>exact⟨rfl,rfl⟩
  |succ j=>
   have:=d j (by simpa using h)
   rw[aZu,show(j+1)*2=j*2+2 by omega,show j*2+2+1=(j*2+1)+2 by omega]
   simpa using this
theorem aNx (l:Gs):∀u∈iR l,u.oneCell'=true:=by
 intro u d;simp only[iR,List.mem_flatMap] at d;obtain⟨r,_,hr⟩:=d;simp at hr;rcases hr with rfl|rfl<;>rfl
def oZ (w:World) (ao:Option Addr) (n cap:Nat) (gs:Gs):Prop:=RSl w 2 ao n cap (iR gs)
theorem oZ.len {gs:Gs} (h:oZ w ao n cap gs):gs.length=n:=by have:=h.1;rw[aBs] at this;omega
theorem oZ.below {gs:Gs} (h:oZ w ao n cap gs) (d:bB w w'):oZ w' ao n cap gs:=RSl.below h d
theorem oZ.mx {gs:Gs} (h:oZ w ao n cap gs):n≤9223372036854775807:=by
 have h1:=h.2.1;have h2:=h.2.2.1;unfold maxLen at h2;omega
theorem oZ.at_ {gs:Gs} (h:oZ w ao n cap gs) (p:0<n):∃b off,ao=some ⟨b,off,none⟩∧b<w.heap.size∧∀j,j<n→w.cell? ⟨b,off+j*2,none⟩=some (.int .i64 (gs.getD j (0,0)).1)∧w.cell? ⟨b,off+j*2+1,none⟩=some (.int .i64 (gs.getD j (0,0)).2):=by
 obtain⟨b,off,e,l,d⟩:=h.2.2.2.2 p;have x:=h.len;refine⟨b,off,e,l,fun j A=>?_⟩
 obtain⟨e0,s⟩:=xU gs j (by omega)
 refine⟨?_,?_⟩
 ·rw[d _ (by omega),e0]
 ·rw[bMc,d _ (by omega),s]
theorem bCr (k x:Int) (w:World):
  Calls prog 119 #[.agg #[k,x]] w fun e w'=>e= .returned (.bool (qF k x))∧bB w w':=by
 by_cases h0:k=0
 ·subst h0
  by_cases h1:1≤x
  ·by_cases h2:x≤8
   case' _=>
    have d:Hid (qF 0 x=true):=hZ (by unfold qF;simp[h1,h2])
   rotate_left
   case' _=>
    have d:Hid (qF 0 x=false):=hZ (by unfold qF;simp[h2])
   all_goals
    go_in;go_wp21;go_ret;exact⟨gF d.o.symm,bZ⟩
  ·have d:Hid (qF 0 x=false):=hZ (by unfold qF;simp[h1])
   go_in;go_wp21;go_ret;exact⟨gF d.o.symm,bZ⟩
 ·have l:(k == 0)=false:=by simpa using h0
  by_cases h1:k=1
  ·subst h1
   by_cases h1:3≤x
   ·by_cases h2:x≤8
    case' _=>
     have d:Hid (qF 1 x=true):=hZ (by unfold qF;simp[h1,h2])
    rotate_left
    case' _=>
     have d:Hid (qF 1 x=false):=hZ (by unfold qF;simp[h2])
    all_goals
     go_in;go_wp21;go_ret;exact⟨gF d.o.symm,bZ⟩
   ·have d:Hid (qF 1 x=false):=hZ (by unfold qF;simp[h1])
    go_in;go_wp21;go_ret;exact⟨gF d.o.symm,bZ⟩
  ·have h:(k == 1)=false:=by simpa using h1
   have d:Hid (qF k x=false):=hZ (by unfold qF;simp[h0,h1])
   go_in;go_wp21;go_ret;exact⟨gF d.o.symm,bZ⟩
theorem aNh (k x:Int) (w:World):
  Calls prog 118 #[.agg #[k,x]] w fun e w'=>e= .returned (.bool (!qF k x))∧bB w w':=by
 go_in;go_wp21;refine(bCr k x _).mono ?_;rintro e w1 ⟨rfl,d⟩;go_wp21;go_ret;exact⟨rfl,(bZ).trans (d.mono (by simp))⟩
theorem aAj (args:Array Value) (d:World):(callFunc 118 args).run prog d= .ok (.enter 118 args) d:=by kernel_rfl
theorem bJl (gs:Gs):(List.range gs.length).any (fun j=> !qF (gs.getD j (0,0)).1 (gs.getD j (0,0)).2)= !bFv gs:=by
 unfold bFv
 cases h:gs.all fun g=>qF g.1 g.2 with
 |true=>
  rw[Bool.not_true,List.any_eq_false];intro j d;have l:j<gs.length:=bMp.1 d;have:=List.all_eq_true.1 h gs[j] (n5 _);rw[a8,b9 l];simp only[Option.getD_some,this];simp
 |false=>
  rw[Bool.not_false,List.any_eq_true];obtain⟨g,hg,p⟩:=List.all_eq_false.1 h;obtain⟨j,d,rfl⟩:=bOb.1 hg;refine⟨j,bMp.2 d,?_⟩;rw[a8,b9 d];simpa using p
theorem gX (ao:Option Addr) (n cap:Nat) (gs:Gs) (secs:Int) (w:World) (h:oZ w ao n cap gs):
  Calls prog 61 #[.agg #[.slice ao n cap,secs]] w fun e w'=>e= .returned (.bool (bH gs secs))∧bB w w':=by
 have l:=h.len;have J:=h.mx;have d:bB w (w.alloc (.cells #[.slice ao n cap,secs] 24)):=bZ;by_cases h1:1≤n
 ·by_cases h2:n≤4
  ·by_cases A:24≤secs
   ·by_cases C:secs≤4096
    ·have x:=xW 118 #[] (fun j=> !qF (gs.getD j (0,0)).1 (gs.getD j (0,0)).2) ao n cap (iR gs) (w.alloc (.cells #[.slice ao n cap,secs] 24)) (RSl.below h d) (by omega) aAj (fun j N I _=>by
      have D:=xU gs j (by omega)
      rw[a8,a8,D.1,D.2];exact aNh _ _ I)
     rw[←l,bJl,l] at x;have H:=hZ x;have p:=hZ d;have s:Hid (bH gs secs=bFv gs):=hZ (by unfold bH;rw[l];simp[h1,h2,A,C])
     clear x h l d;go_in;go_wp21;refine H.o.mono ?_;rintro e w1 ⟨rfl,E⟩;go_wp21;go_ret;exact⟨gF s.o.symm,p.o.trans (E.mono (by simp))⟩
    ·have s:Hid (bH gs secs=false):=hZ (by unfold bH;simp[C])
     have p:=hZ d;clear h l d;go_in;go_wp21;go_ret;exact⟨gF s.o.symm,p.o⟩
   ·have s:Hid (bH gs secs=false):=hZ (by unfold bH;simp[A])
    have p:=hZ d;clear h l d;go_in;go_wp21;go_ret;exact⟨gF s.o.symm,p.o⟩
  ·have s:Hid (bH gs secs=false):=hZ (by unfold bH;rw[l];simp[h2])
   have p:=hZ d;clear h l d;go_in;go_wp21;go_ret;exact⟨gF s.o.symm,p.o⟩
 ·have s:Hid (bH gs secs=false):=hZ (by unfold bH;rw[l];simp[h1])
  have p:=hZ d;clear h l d;go_in;go_wp21;go_ret;exact⟨gF s.o.symm,p.o⟩
theorem aFs (ao:Option Addr) (n cap:Nat) (gs:Gs) (secs i:Int) (w:World) (h:oZ w ao n cap gs):
  Calls prog 74 #[.agg #[.slice ao n cap,secs],i] w fun e w'=>e= .returned (.bool (tU gs secs i))∧bB w w':=by
 have x:=h.len;have H:=h.mx;have d:bB w (w.alloc (.cells #[.slice ao n cap,secs] 24)):=bZ;have hT:=gX ao n cap gs secs (w.alloc (.cells #[.slice ao n cap,secs] 24)) (h.below d);have s:(w.alloc (.cells #[.slice ao n cap,secs] 24)).cell? ⟨w.heap.size,0,none⟩=some (.slice ao n cap):=by rw[bMr _ _ _ _ rfl];rfl
 have E:=hZ s;have D:=hZ d
 cases hr:bH gs secs with
 |false=>
  rw[hr] at hT;have A:=hZ hT;have C:Hid (tU gs secs i=false):=hZ (by unfold tU;rw[hr];rfl)
  clear hT hr h x d s;go_in;go_wp21;refine A.o.mono ?_;rintro e w1 ⟨rfl,l⟩;go_wp21;go_ret;exact⟨gF C.o.symm,D.o.trans (l.mono (by simp))⟩
 |true=>
  rw[hr] at hT;have A:=hZ hT;by_cases h0:0≤i
  case' _=>
   have C:Hid (tU gs secs i=decide (i<n)):=hZ (by unfold tU;rw[hr,x];simp[h0])
   clear hT hr h x d s;go_in;go_wp21;refine A.o.mono ?_;rintro e w1 ⟨rfl,l⟩;have c0:w1.cell? ⟨w.heap.size,0,none⟩=some (.slice ao n cap):=by rw[l.cell (p:=⟨w.heap.size,0,none⟩) (by simp)];exact E.o
  rotate_left
  case' _=>
   have C:Hid (tU gs secs i=false):=hZ (by unfold tU;simp[h0])
   clear hT hr h x d s;go_in;go_wp21;refine A.o.mono ?_;rintro e w1 ⟨rfl,l⟩
  all_goals
   go_wp21;go_ret;exact⟨gF C.o.symm,D.o.trans (l.mono (by simp))⟩
theorem yL (ao:Option Addr) (n cap:Nat) (gs:Gs) (secs i:Int) (w:World) (h:oZ w ao n cap gs):
  Calls prog 34 #[.agg #[.slice ao n cap,secs],i] w fun e w'=>e= .returned (.int .i64 (nH gs secs i))∧bB w w':=by
 have N:=h.len;have ac:=h.mx;have s:bB w (w.alloc (.cells #[.slice ao n cap,secs] 24)):=bZ;have hT:=aFs ao n cap gs secs i (w.alloc (.cells #[.slice ao n cap,secs] 24)) (h.below s);have U:Hid ((w.alloc (.cells #[.slice ao n cap,secs] 24)).cell? ⟨w.heap.size,0,none⟩=some (.slice ao n cap)):=hZ (by rw[bMr _ _ _ _ rfl];rfl)
 have V:Hid ((w.alloc (.cells #[.slice ao n cap,secs] 24)).cell? ⟨w.heap.size,1,none⟩=some secs):=hZ (by rw[bMr _ _ _ _ rfl];rfl)
 have I:=hZ s
 cases hr:tU gs secs i with
 |false=>
  rw[hr] at hT;have H:=hZ hT;have A:Hid (nH gs secs i=0):=hZ (by unfold nH;rw[hr];rfl)
  clear hT hr h N s;go_in;go_wp2_with fail;refine H.o.mono ?_;rintro e w1 ⟨rfl,d⟩;go_wp2_with fail;go_ret;exact⟨by rw[A.o];rfl,I.o.trans (d.mono (by simp))⟩
 |true=>
  rw[hr] at hT;have H:=hZ hT;obtain⟨D,Y,Z⟩:=qX hr;obtain⟨i,rfl⟩:=Int.eq_ofNat_of_zero_le Y;have W:i<n:=by omega
  obtain⟨_,_,ag,ah,_⟩:=aS D;have hg:=bM D (show i<gs.length by omega)
  have A:Hid (nH gs secs i=jF (gs.getD i (0,0)) secs):=hZ (by unfold nH;rw[i6 hr];rfl)
  obtain⟨b,off,rfl,O,R⟩:=h.at_ (by omega)
  obtain⟨k0,k1⟩:=R i W;obtain⟨g,J⟩:=nZ (gs.getD i (0,0));rw[←J] at A hg k0 k1;obtain⟨k,x⟩:=g;dsimp only at hg k0 k1;have aa:=hZ k0;have ab:=hZ k1;have E:=bEf (a:=secs-16) (w:=x) (by omega) (by omega) (by omega) (by omega)
  have ae:=E.1;have af:=E.2.1;clear hT hr h N s R k0 k1 J D Z E;go_in;go_wp2_with fail;refine H.o.mono ?_;rintro e w1 ⟨rfl,d⟩;have C:=hZ (I.o.trans (d.mono (by simp)))
  have c0:w1.cell? ⟨w.heap.size,0,none⟩=some (.slice (some ⟨b,off,none⟩) n cap):=by rw[d.cell (p:=⟨w.heap.size,0,none⟩) (by simp)];exact U.o
  have ai:w1.cell? ⟨w.heap.size,1,none⟩=some secs:=by rw[d.cell (p:=⟨w.heap.size,1,none⟩) (by simp)];exact V.o
  have aj:=(C.o.cell (p:=⟨b,off+i*2,none⟩) O).trans aa.o;have ak:=(C.o.cell (p:=⟨b,off+i*2+1,none⟩) O).trans ab.o;clear d;by_cases l:k=1
  case' _=>
   have X:(k == 1)=true:=by simpa using l
   have T:Hid (jF (k,x) secs=(secs-16)*x):=hZ (by unfold jF;rw[i6 l])
  rotate_left
  case' _=>
   have X:(k == 1)=false:=by simpa using l
   have T:Hid (jF (k,x) secs=secs-16):=hZ (by unfold jF;rw[i9 l])
  all_goals
   clear l hg;go_wp2_with fail;go_ret;exact⟨by rw[A.o,T.o];rfl,C.o.alloc C.o.size _⟩
theorem rV (ao:Option Addr) (n cap:Nat) (gs:Gs) (secs i size:Int) (w:World) (h:oZ w ao n cap gs):
  Calls prog 36 #[.agg #[.slice ao n cap,secs],i,size] w fun e w'=>e= .returned (.int .i64 (bO gs secs i size))∧bB w w':=by
 have H:=h.len;have ag:=h.mx;have s:bB w (w.alloc (.cells #[.slice ao n cap,secs] 24)):=bZ;have hT:=aFs ao n cap gs secs i (w.alloc (.cells #[.slice ao n cap,secs] 24)) (h.below s);have W:Hid ((w.alloc (.cells #[.slice ao n cap,secs] 24)).cell? ⟨w.heap.size,0,none⟩=some (.slice ao n cap)):=hZ (by rw[bMr _ _ _ _ rfl];rfl)
 have E:=hZ s
 cases hr:tU gs secs i with
 |false=>
  rw[hr] at hT;have D:=hZ hT;have l:Hid (bO gs secs i size=0):=hZ (by unfold bO;rw[hr];simp)
  clear hT hr h H s;go_in;go_wp2_with fail;refine D.o.mono ?_;rintro e w1 ⟨rfl,d⟩;go_wp2_with fail;go_ret;exact⟨by rw[l.o];rfl,E.o.trans (d.mono (by simp))⟩
 |true=>
  rw[hr] at hT;have D:=hZ hT;by_cases I:1≤size
  ·by_cases J:size≤4
   ·obtain⟨R,ab,ac⟩:=qX hr
    obtain⟨i,rfl⟩:=Int.eq_ofNat_of_zero_le ab;have X:i<n:=by omega
    have hg:=bM R (show i<gs.length by omega)
    have l:Hid (bO gs secs i size=takes (gs.getD i (0,0)) size):=hZ (by unfold bO;rw[i6 ⟨hr,I,J⟩];rfl)
    obtain⟨b,off,rfl,U,V⟩:=h.at_ (by omega)
    obtain⟨k0,k1⟩:=V i X;obtain⟨g,T⟩:=nZ (gs.getD i (0,0));rw[←T] at l hg k0 k1;obtain⟨k,x⟩:=g;dsimp only at hg k0 k1;have ae:=hZ k0;have af:=hZ k1;clear hT hr h H s V k0 k1 T R ac;go_in;go_wp2_with fail;refine D.o.mono ?_;rintro e w1 ⟨rfl,d⟩;have A:=hZ (E.o.trans (d.mono (by simp)))
    have c0:w1.cell? ⟨w.heap.size,0,none⟩=some (.slice (some ⟨b,off,none⟩) n cap):=by rw[d.cell (p:=⟨w.heap.size,0,none⟩) (by simp)];exact W.o
    have aj:=(A.o.cell (p:=⟨b,off+i*2,none⟩) U).trans ae.o;have ak:=(A.o.cell (p:=⟨b,off+i*2+1,none⟩) U).trans af.o;clear d;by_cases C:k=0
    ·have Y:(k == 0)=true:=by simpa using C
     have O:Hid (takes (k,x) size=size):=hZ (by unfold takes;rw[i6 C])
     clear C hg;go_wp2_with fail;go_ret;exact⟨by rw[l.o,O.o];rfl,A.o.alloc A.o.size _⟩
    ·have Y:(k == 0)=false:=by simpa using C
     have O:Hid (takes (k,x) size=size+(size+x-2)/(x-1)+(size+(size+x-2)/(x-1))%2):=hZ (by unfold takes aKr;rw[i9 C])
     have Z:3≤x:=by omega
     have aa:x≤8:=by omega
     have N:=bBx Z aa I J;have ah:=N.1;have ai:=N.2.1;clear C hg N;go_wp2_with fail;go_ret;exact⟨by rw[l.o,O.o];first|rfl|(simp;done),A.o.alloc A.o.size _⟩
   ·have l:Hid (bO gs secs i size=0):=hZ (by unfold bO;rw[i9 (fun h=>J h.2.2)])
    clear hT hr h H s;go_in;go_wp2_with fail;refine D.o.mono ?_;rintro e w1 ⟨rfl,d⟩;go_wp2_with fail;go_ret;exact⟨by rw[l.o];rfl,E.o.trans (d.mono (by simp))⟩
  ·have l:Hid (bO gs secs i size=0):=hZ (by unfold bO;rw[i9 (fun h=>I h.2.1)])
   clear hT hr h H s;go_in;go_wp2_with fail;refine D.o.mono ?_;rintro e w1 ⟨rfl,d⟩;go_wp2_with fail;go_ret;exact⟨by rw[l.o];rfl,E.o.trans (d.mono (by simp))⟩

end Go.Proofs.YtepmcdopccflgaaGreatDoor

