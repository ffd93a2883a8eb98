/- Parts of the proof of the statement that the last file of this claim proves:lemmas,without any condition of their own beyond those that each states. -/
import Derived.Test.YtepmcdopccflgaaGreatDoorYV3
import Derived.Sort.OwnSortedInts
import Derived.Lib.RowBridge
import Derived.RangeFuncNested
import Derived.RangeFuncBound
import Derived.RangeFuncCalls
import Derived.RangeFuncLeaves
import Derived.OwnWalkIn
import Derived.TacticsInMore
import Derived.LoopNIn
import Derived.LoopIn
import Derived.Deep.LoopGhost
import Derived.Shelf.Abstract
import Derived.Laws.IdiomStrings
import Derived.Maps.RangeWalk
set_option linter.unusedVariables false
set_option linter.unusedSimpArgs false
set_option linter.unnecessarySimpa false
set_option maxHeartbeats 4000000
set_option maxRecDepth 100000
namespace Go.Proofs.YtepmcdopccflgaaGreatDoor
open Go.RowKit Tryz
variable {a2 b bb cap clock d db e e0 eb g g0 g2 g4 g5 gc gf i j k m mb n pb sb sb2 size2 slot:Nat} {a:Act} {o:Oper} {A W W' w w' w2 w5 wd wr:World} {ps:Array Tmp} {assign body:Code} {gs:Gs} {cs cs0 ds dv pt xs:List Value} {data got:List Bs} {K next:Act→World→Prop} {F T:Nat→Prop} {after:Array Edge} {c:List (Nat×Value)} {ms:List MT} {args lb:Array Value} {fr fr0:Nat×Nat} {dn r:Option Nat} {es:List Nat} {op:BinOp} {s t t2:Bs} {bv v vm:Value} {dst:Option Tmp} {R:Value→World→Prop} {guard:Option (Nat×Bool)} {y:Operand} {level secs:Int} {P:Program} {Q:Exit→Act→World→Prop} {seen:Array Nat} {sn:SN} {ρ:Operand→Value} {fn:Func} {V:kE}
section
attribute [local go_sem ↓] iL fN
theorem aTu (C:Option Addr) (n cap:Nat) (l:List Bs) (w:World) (h:sS w C n cap (eQ l)) (U:n≤1000000000):
  Calls prog 208 #[.slice C n cap,.string ⟨#[]⟩] w fun e w'=>e= .returned (.int .i64 (eL (fun j=>(l.getD j []).isEmpty) n))∧bB w w':=by
 have I:=hZ h;have J:Hid (l.length=n):=hZ (by have:=h.1;simpa[cV,eQ] using this)
 clear h;go_in;go_wp21;go_loopw [8] (fun i wr=>∃k:Nat,k≤n∧i= .int .i64 k∧Hid (∀j,j<k→(l.getD j []).isEmpty=false)∧bB w wr) (fun i _=>n-(intOf i).toNat)
 case atStart=>exact⟨0,by omega,rfl,hZ fun j D=>absurd D (by omega),i4 _ _⟩
 case round=>
  obtain⟨k,X,rfl,p,f⟩:=hrel;by_cases q:k<n
  ·obtain⟨b,L,rfl,N,E⟩:=I.o.pos (by omega)
   obtain⟨u,z⟩:∃u:Bs,u=l.getD k []:=⟨_,rfl⟩;have O:wr.cell? ⟨b,L+k,none⟩=some (.string ⟨u.toArray⟩):=by
    rw[z,←aOo l k (by rw[J.o];exact q)];exact(f.cell (by exact N)).trans (E k q)
   have G:=hZ z;clear E z
   cases u with
   |nil=>
    go_wp21;go_ret;exact⟨by rw[fI q (by rw[←G.o];rfl) p.o];rfl,f⟩
   |cons x r=>
    go_wp21;go_roundw
    case rel=>
     refine⟨k+1,by omega,by go_num,hZ fun j D=>?_,f⟩
     by_cases e:j=k
     ·rw[e,←G.o];rfl
     ·exact p.o j (by omega)
    case measure=>simp[intOf];omega
  ·have H:k=n:=by omega
   subst H;go_wp21;go_ret;exact⟨by rw[eF p.o];rfl,f⟩
theorem aHc (p:Option Addr) (n cap:Nat) (l:List Bs) (w:World) (q:sS w p n cap (eQ l)) (z:n≤1000000000):
  Calls prog 141 #[.slice p n cap,.string ⟨#[]⟩] w fun e w'=>e= .returned (.bool (decide ([]∈l)))∧bB w w':=by
 have u:l.length=n:=by have:=q.1;simpa[cV,eQ] using this
 have C:Hid ((List.range n).any (fun j=>(l.getD j []).isEmpty)=decide ([]∈l)):=hZ (by
  rw[←u,Bool.eq_iff_iff];simp only[List.any_eq_true,bMp,bLt];constructor
  ·rintro⟨j,f,h⟩
   rw[a8,b9 f,Option.getD_some,List.isEmpty_iff] at h;rw[←h];exact n5 _
  ·intro h
   obtain⟨j,f,e⟩:=bOb.1 h;exact⟨j,f,by rw[a8,b9 f,Option.getD_some,e];rfl⟩)
 go_in;go_wp21;refine(aTu p n cap l w q z).mono ?_;rintro e D ⟨rfl,x⟩;go_wp21;go_ret;exact⟨by rw[←C.o,←pW];rfl,x⟩
end
section
attribute [local go_sem ↓] iL fN
def agK (l:List bJ) (i k:Nat):List Nat:=(List.range k).filter fun j=>decide ((l.getD j cD).2.2.2=(l.getD i cD).2.2.2∧j≠i)
theorem aXm (l:List bJ) (got:List Bs) (i:Nat):bDk l got i=if[]∈(agK l i l.length).map (fun j=>got.getD j []) then[] else pY ((agK l i l.length).map fun j=>got.getD j []):=rfl
end
def Bld (w:World) (b:Nat) (l:Bs):Prop:=Lib.IsBuilderF 217 5 b b (Lib.byteCells l) w
theorem Bld.new (w:World):Bld (w.alloc (.cells #[.pointer none,.slice none 0 0] 217)) w.heap.size []:=Lib.IsBuilderF.of (Lib.fresh_isBuilder 217 5 w)
theorem Bld.lt {l:Bs} (h:Bld w b l):b<w.heap.size:=by
 rcases h with h|h
 ·exact h.lt
 ·exact h.lt
theorem Bld.ty {l:Bs} (h:Bld w b l):∀cs e fr,w.heap[b]?=some (Obj.cells cs e fr)→e=217:=by
 intro cs e fr f;rcases h with h|h
 all_goals
  obtain⟨_,v,h2,_⟩:=h;rw[h2] at f;simp only[i5,n7] at f;exact f.2.1.symm
theorem Bld.kept {l:Bs} (h:Bld w b l) (u:∀(k:Nat) (cs:Array Value) (e:TypeId) (fr:Nat×Nat),w.heap[k]?=some (.cells cs e fr)→(e=5∨e=217)→w'.heap[k]?=w.heap[k]?):Bld w' b l:=by
 have q:∀p,Lib.BuilderAtF 217 5 b b p (Lib.byteCells l) w→Lib.BuilderAtF 217 5 b b p (Lib.byteCells l) w':=by
  rintro p ⟨h1,v,h2,z,C⟩;refine⟨h1,v,?_,?_,C⟩
  ·rw[u _ _ _ _ h2 (.inr rfl)];exact h2
  ·obtain⟨D,a2⟩:=z
   refine⟨D,?_⟩;rcases a2 with a2|⟨g,cap,x,f,E,c2,c3,G⟩
   ·exact .inl a2
   ·exact .inr ⟨g,cap,x,f,E,c2,by rw[u _ _ _ _ c3 (.inl rfl)];exact c3,G⟩
 rcases h with h|h
 ·exact .inl (q _ h)
 ·exact .inr (q _ h)
theorem Bld.below {l:Bs} (h:Bld w b l) (f:bB w w'):Bld w' b l:=
 h.kept fun k cs e fr p _=>f.block k (i8.1 p).1
theorem aBp (b:Nat) (l s:Bs) (w:World) (h:Bld w b l) (u:l.length+s.length≤100000000):
  Calls prog 128 #[.pointer (some b),.string ⟨s.toArray⟩] w fun e w'=>e= .returned (.tuple #[(s.length:Nat),.nilIface])∧Bld w' b (l++s)∧Below b w w'∧Lib.OthersKept 5 (some b) w w':=by
 have f:(⟨s.toArray⟩:ByteArray).size=s.length:=by show s.toArray.size=_;simp
 refine(Any.Builder_WriteString_k {Tryz.lays105 with} Tryz.Builder_Extra_105 b b (Lib.byteCells l) ⟨s.toArray⟩ w h (by rw[f,Lib.byteCells_length];omega) (Nat.le_of_lt h.lt)).mono ?_
 rintro e w' ⟨rfl,h1,h2,p⟩;rw[f];refine⟨rfl,.inr ?_,h2,p⟩;have q:Lib.byteCells l++Lib.strCells ⟨s.toArray⟩=Lib.byteCells (l++s):=by simp[Lib.byteCells,Lib.strCells]
 rw[←q];exact h1
def lays169_ren : Go.Shelf.Ren := ⟨fun | 169 => 129 | n => n, fun | 70 => 215 | 9 => 9 | 0 => 0 | 72 => 217 | 37 => 162 | 127 => 302 | 3 => 3 | 5 => 5 | n => n, fun | n => n⟩
theorem lays169 : Go.Proofs.Lays.n169 Tryz.prog lays169_ren := {
 mixed := by kernel_rfl
 f169 := Tryz.func129.trans (congrArg some (by kernel_rfl))
 t0 := Tryz.underlying0
 a0 := Tryz.isAgg0
 z0 := Tryz.sizeOf0
 v0 := Tryz.zeroValue0
 t3 := Tryz.underlying3
 a3 := Tryz.isAgg3
 z3 := Tryz.sizeOf3
 v3 := Tryz.zeroValue3
 t9 := Tryz.underlying9
 a9 := Tryz.isAgg9
 z9 := Tryz.sizeOf9
 v9 := Tryz.zeroValue9
 t37 := Tryz.underlying162
 a37 := Tryz.isAgg162
 z37 := Tryz.sizeOf162
 v37 := Tryz.zeroValue162
 t70 := Tryz.underlying215
 a70 := Tryz.isAgg215
 z70 := Tryz.sizeOf215
 v70 := Tryz.zeroValue215
 t72 := Tryz.underlying217
 a72 := Tryz.isAgg217
 z72 := Tryz.sizeOf217
 v72 := Tryz.zeroValue217
 t127 := Tryz.underlying302
 a127 := Tryz.isAgg302
 z127 := Tryz.sizeOf302
 v127 := Tryz.zeroValue302 }
theorem Builder_Extra_169 : Builder.Extra Tryz.prog lays169_ren := {
 sizeBuilder := by kernel_rfl
 liesBuilder := by kernel_rfl
 t5 := Tryz.underlying5
 a5 := Tryz.isAgg5
 z5 := Tryz.sizeOf5
 v5 := Tryz.zeroValue5
 infoByte := by kernel_rfl
 cellsByte := by kernel_rfl
 sizeByte := by kernel_rfl
 neB5 := by decide }
open Go.RowKit in
theorem bsAnyK (B b : Nat) (l : List UInt8) (w : World) (h : Lib.IsBuilderF 217 5 B b (Lib.byteCells l) w) (hBw : B ≤ w.heap.size) :
  Calls Tryz.prog 129 #[.pointer (some ⟨b, 0, none⟩)] w fun e w' => e = .returned (.string ⟨l.toArray⟩) ∧ (Lib.IsBuilderF 217 5 B b (Lib.byteCells l) w' ∧ Below B w w' ∧ Lib.OthersKept 5 (some b) w w') := Any.Builder_String_any_k lays169 Builder_Extra_169 B b l w h hBw
theorem wH (b:Nat) (l:Bs) (w:World) (h:Bld w b l):Calls prog 129 #[.pointer (some b)] w fun e w'=>e= .returned (.string ⟨l.toArray⟩)∧Below b w w'∧Lib.OthersKept 5 (some b) w w':=by
 refine(bsAnyK b b l w h (Nat.le_of_lt h.lt)).mono ?_;rintro e w' ⟨rfl,_,h2,f⟩;exact⟨rfl,h2,f⟩
section
attribute [local go_sem ↓] iL fN
theorem bGq (l:List bJ) (got:List Bs) (i:Nat) (h:∀s∈got,s.length≤64):(bDk l got i).length≤64:=by
 rw[aXm];split
 ·simp
 ·refine aJd _ 64 fun s p=>?_
  obtain⟨j,_,rfl⟩:=bMn.1 p;rw[a8];by_cases f:j<got.length
  ·rw[b9 f,Option.getD_some];exact h _ (n5 f)
  ·rw[m7 (by omega)];simp
theorem aTw (h:∀s∈got,s.length≤64) (i:Nat):(got.getD i []).length≤64:=by
 rw[a8];by_cases f:i<got.length
 ·rw[b9 f,Option.getD_some];exact h _ (n5 f)
 ·rw[m7 (by omega)];simp
theorem aNs {gb:Nat} (h:sS w (some gb) n cap (eQ got)) (p:got.length=n) (q:j<n):w.cell? ⟨gb,j,none⟩=some (.string ⟨(got.getD j []).toArray⟩):=by
 obtain⟨b',u,e,x,l⟩:=h.2.2.2.2 (by omega)
 simp only[i5,bNl,and_true] at e;obtain⟨rfl,rfl⟩:=e;have f:j<got.length:=by omega
 have:=l j (by omega)
 rw[r9] at this;rw[this];simp[cV,eQ,b9 f]
end
section
open Go.RowKit Go.Sort
variable {a2 b bb cap clock d db e e0 eb g g0 g2 g4 g5 gc gf i j k m mb n pb sb sb2 size2 slot:Nat} {a:Act} {o:Oper} {A W W' w w' w2 w5 wd wr:World} {ps:Array Tmp} {assign body:Code} {gs:Gs} {cs cs0 ds dv pt xs:List Value} {data got:List Bs} {K next:Act→World→Prop} {F T:Nat→Prop} {after:Array Edge} {c:List (Nat×Value)} {ms:List MT} {args lb:Array Value} {fr fr0:Nat×Nat} {dn r:Option Nat} {es:List Nat} {op:BinOp} {s t t2:Bs} {bv v vm:Value} {dst:Option Tmp} {R:Value→World→Prop} {guard:Option (Nat×Bool)} {y:Operand} {level secs:Int} {P:Program} {Q:Exit→Act→World→Prop} {seen:Array Nat} {sn:SN} {ρ:Operand→Value} {fn:Func} {V:kE}
attribute [local go_sem ↓] iL fN
def kC (l:List Int):List Value:=l.map (Value.int .i64)
def kB (l:List bJ):List Int:=Lib.compact ((l.map fun c=>((c.1:Nat):Int)).mergeSort fun x y=>decide (x≤y))
theorem aXy (l:List bJ):(kB l).length≤l.length:=by
 have:=Lib.compact_length_le ((l.map fun c=>((c.1:Nat):Int)).mergeSort fun x y=>decide (x≤y))
 rw[List.length_mergeSort,List.length_map] at this;exact this
theorem bAr (h:w.ownsRow b e 1 (.slice (some g) n cap) n xs) (p:m≤n):w.ownsRow b e 1 (.slice (some g) m cap) m (xs.take m):=by
 obtain⟨h1,h2⟩:=h;refine⟨by rw[z7,h1];omega,.inr ?_⟩
 rcases h2 with⟨h2,_⟩|⟨E,D,l,f,q,u,G,x,z,C⟩
 ·cases h2
 ·simp only[bMm,i5,bNl,and_true,true_and] at f
  obtain⟨rfl,rfl⟩:=f;exact⟨g,cap,l,rfl,q,u,by omega,x,z,by rw[←C,List.take_take,Nat.mul_one,Nat.mul_one,Nat.min_eq_left p]⟩
theorem aKa (h:w.ownsRow b e 1 (.slice (some g) n cap) n xs):∃f,b≤g∧w.heap[g]?=some (.cells f e (0,0))∧n≤cap∧cap≤maxLen∧f.size=cap*1∧f.toList.take n=xs:=by
 rcases h.2 with⟨h2,_⟩|⟨E,D,f,l,q,u,x,z,C,p⟩
 ·cases h2
 ·simp only[bMm,i5,bNl,and_true,true_and] at l
  obtain⟨rfl,rfl⟩:=l;rw[Nat.mul_one] at p;exact⟨f,q,u,x,z,C,p⟩
theorem bBv (g cap b:Nat) (f:List Int) (w:World) (h:w.ownsRow b 3 1 (.slice (some g) f.length cap) f.length (kC f)) (E:f.length≤1000000):
  Calls prog 216 #[.slice (some g) f.length cap] w fun e w'=>e= .returned (.tuple #[])∧w'.ownsRow b 3 1 (.slice (some g) f.length cap) f.length (kC (f.mergeSort fun x y=>decide (x≤y)))∧w.grownBy w' (some g):=by
 obtain⟨D,p,l,q,u,z,C⟩:=aKa h;refine(Tryz.slices_Sort_int g 0 cap f w (holds_of_blockI l C) ((i8.1 l).1) (by omega)).mono ?_
 rintro e w' ⟨rfl,n,os,rfl⟩;refine⟨rfl,?_,grownBy_sortedI _⟩;exact ownsRow_sortedI (by simp) p l q u z
theorem aMk (g cap b:Nat) (f:List Int) (w:World) (h:w.ownsRow b 3 1 (.slice (some g) f.length cap) f.length (kC f)) (I:f.length≤1000000):
  Calls prog 290 #[.slice (some g) f.length cap] w fun e w'=>∃v,e= .returned v∧w'.ownsRow b 3 1 v (Lib.compact f).length (kC (Lib.compact f))∧w.grownBy w' (some g):=by
 obtain⟨H,z,l,p,C,D,E⟩:=aKa h;have G:=holds_of_blockI l E;have x:=Lib.compact_length_le f;refine(Tryz.slices_Compact_int g 0 cap f w G (by omega) p).mono ?_
 rintro e w' ⟨rfl,n,rfl⟩;have q:=grownBy_sortedI (w:=w) (g:=g) (n:=n) (os:=#[]) (Lib.compact f++List.replicate (f.length-(Lib.compact f).length) 0).toArray;have u:=ownsRow_sortedI (w:=w) (base:=b) (n:=n) (os:=#[]) (ss:=f) (ts:=Lib.compact f++List.replicate (f.length-(Lib.compact f).length) 0) (by simp;omega) z l p C D
 rw[grow_empty] at q u;refine⟨_,rfl,?_,q⟩;have:=bAr u x;rw[bNa,List.take_left' (by simp)] at this
 exact this
theorem bEn (Y:Option Addr) (ar:Nat) (l:List bJ) (w:World) (Z:RSl w 4 Y l.length ar (eM l)) (cf:l.length≤100) (h0:0<l.length):
  Calls prog 261 #[.slice Y l.length ar] w fun e w'=>∃v,e= .returned v∧w'.ownsRow w.heap.size 3 1 v (kB l).length (kC (kB l))∧Below w.heap.size w w':=by
 obtain⟨br,bs,az,ba,bc⟩:=bMo aJy;obtain⟨cg,ce,rfl⟩:∃b o,Y=some ⟨b,o,none⟩:=by
  obtain⟨b,o,e,_⟩:=Z.2.2.2.2 (by omega);exact⟨b,o,e⟩
 have bt:=hZ Z;clear Z;go_enter func261,ntmps261;go_wp2_with fail;go_loopw [3,8] (fun v aa wr=>∃k:Nat,aa= .int .i64 k∧k≤l.length∧Hid (wr.ownsRow w.heap.size 3 1 v k (kC ((l.take k).map fun c=>((c.1:Nat):Int))))∧Hid (Below w.heap.size w wr)) (fun _ aa _=>l.length-(intOf aa).toNat)
 case atStart=>exact⟨0,rfl,by omega,hZ (bMa _ _ _ _),hZ (i4 _ _)⟩
 case round=>
  obtain⟨k,rfl,ch,f,C⟩:=hrel;have an:=C.o.size;obtain⟨bd,p,rfl⟩:=aY f.o;by_cases N:k<l.length
  ·have bu:(k:Int)<(l.length:Int):=by omega
   have ci:0≤(k:Int):=by omega
   obtain⟨c,ab⟩:=nZ (l.getD k cD);have O:=jJ (bt.o.below C.o) N;rw[←ab] at O;have be:=fun op a next Q=>dP (P:=prog) (t:=311) O underlying311 rfl vM op a next Q
   have bf:=fun op a next Q=>jN c wr op a next Q
   obtain⟨h,D⟩:=nZ (wr.alloc (.cells (dI c).toArray 311));obtain⟨au,U⟩:=nZ wr.heap.size;have ao:Blk h au 311 (dI c):=by rw[D,U];exact Blk.new wr _ _
   have ap:Hid (Below wr.heap.size wr h):=hZ (by rw[D];exact bZ)
   have aj:=hZ (aD f.o ap.o);have L:=hZ (C.o.trans (ap.o.mono an));obtain⟨R,ac⟩:=nZ ((l.take k).map fun c=>((c.1:Nat):Int))
   have bh:Hid ((l.take (k+1)).map (fun c=>((c.1:Nat):Int))=R++[((c.1:Nat):Int)]):=hZ (by
    rw[m8 N,bNa,ac,ab];simp[a8,N])
   rw[←ac] at aj;obtain⟨c0,bw,bx,bz⟩:=c;have e0:h.cell? ⟨au,0,none⟩=some (.int .i64 (c0:Nat)):=ao.cell 0;clear O ao ab ac f;go_upto_region 5 with fail
   rw[←D,←U];clear D U bf be;have ca:k+1≤maxLen:=by unfold maxLen;omega
   have cb:(k+1)*8≤140737488355328:=by omega
   have av:w.heap.size≤(h.alloc (.cells #[.int .i64 (c0:Nat)] 3)).heap.size:=by have:=L.o.size;simp;omega
   have bi:=hZ (Blk.news (Blk.new h 3 [.int .i64 (c0:Nat)]));have ak:=hZ (aj.o.alloc (.cells #[.int .i64 (c0:Nat)] 3));go_wp2_with (at_builtin;go_must (refine bOa _ rfl (.tmp 12) (.tmp 15) 107 rfl w.heap.size 3 br (.int .i64 0) 1 8 underlying107 bs az ba bc rfl (by decide) (.slice bd k p) k (kC R) rfl ak.o ⟨h.heap.size,0,none⟩ 1 1 [.int .i64 (c0:Nat)] rfl rfl bi.o (by simp[Value.oneCell']) ca cb av ?_;intro v1 H ah ag _ _))
   have bj:Hid (Below w.heap.size w H):=hZ (cF (L.o.alloc (by have:=L.o.size;omega) _) ak.o ag av (d8 _))
   have bk:Hid (H.ownsRow w.heap.size 3 1 v1 (k+1) (kC ((l.take (k+1)).map fun c=>((c.1:Nat):Int)))):=hZ (by
    rw[bh.o,show kC (R++[(((c0,bw,bx,bz):bJ).1:Int)])=kC R++[.int .i64 (c0:Nat)] by simp[kC]]
    exact ah)
   clear ah ag;go_roundw
   case rel=>exact⟨k+1,by go_num,by omega,bk,bj⟩
   case measure=>simp[intOf];omega
  ·obtain rfl:k=l.length:=by omega
   have bu:¬(l.length:Int)<(l.length:Int):=by omega
   obtain⟨g,cd,e⟩:=bT f.o h0;simp only[bMm,true_and] at e;obtain⟨rfl,rfl⟩:=e;obtain⟨q,E⟩:=nZ (l.map fun c=>((c.1:Nat):Int))
   have G:q.length=l.length:=by rw[E,List.length_map]
   have z:=f.o;rw[bLz,←E,←G] at z;have ad:=bBv g p _ q wr z (by omega)
   have bl:Hid (∀W,wr.grownBy W (some g)→Below w.heap.size w W):=hZ (fun W ae=>cF (v:= .slice (some ⟨g,0,none⟩) q.length p) C.o z ae an (d8 _))
   have bm:Hid (kB l=Lib.compact (q.mergeSort fun x y=>decide (x≤y))):=hZ (by unfold kB;rw[E])
   have bn:=hZ G;rw[G] at ad;have aw:=hZ ad;clear ad z E G f;go_wp2_with fail;refine aw.o.mono ?_;rintro e w2 ⟨rfl,u,al⟩;have aq:=hZ (bl.o w2 al);obtain⟨J,I⟩:=nZ (q.mergeSort fun x y=>decide (x≤y))
   have X:J.length=l.length:=by rw[I,List.length_mergeSort,bn.o]
   rw[←I,←X] at u;have af:=aMk g p _ J w2 u (by omega)
   have ax:Hid (∀W,w2.grownBy W (some g)→Below w.heap.size w W):=hZ (fun W ae=>cF (v:= .slice (some ⟨g,0,none⟩) J.length p) aq.o u ae aq.o.size (d8 _))
   rw[X] at af;have cc:=hZ af;have ay:Hid (kB l=Lib.compact J):=hZ (by rw[bm.o,I])
   clear af u al I X aw;go_wp2_with fail;refine cc.o.mono ?_;rintro e H ⟨v,rfl,ai,am⟩;have bo:=hZ (ax.o H am);have bq:=hZ ai;clear ai am;go_wp2_with fail;go_ret;exact⟨v,rfl,by rw[ay.o];exact bq.o,bo.o⟩
end
theorem aSr (f:Option Addr) (n cap:Nat) (cs:List Value) (w:World) (h:RSl w 4 f n cap cs) (h1:∀u∈cs,u.oneCell'=true) (N:n≤1000000000):
  Calls prog 259 #[.slice f n cap] w fun e w'=>∃v,e= .returned v∧w'.ownsRow w.heap.size 311 4 v n cs∧bB w w':=by
 obtain⟨G,H,z,C,D⟩:=bMo bBi;have q:=fun(W:World)=>Lib.run_eql_slice_nil (P:=prog) W 231 311 f n cap 0 0 underlying231
 cases f with
 |none=>
  have I:=h.2.2.2.1 rfl;have J:n=0:=by have:=h.2.1;omega
  subst J;subst I;have E:=bLs (by have:=h.1;simpa using this)
  subst E;simp only[Option.isNone_none] at q;go_in;go_wp21;go_ret;exact⟨_,rfl,bMa _ _ _ _,i4 _ _⟩
 |some L=>
  simp only[Option.isNone_some] at q;have l:=World.ownsRow_made (base:=w.heap.size) (e:=311) (size:=4) w #[] 0 (d8 _) (by unfold maxLen;omega) rfl
  go_in;go_wp2_with (at_builtin;refine bNe _ rfl (.tmp 5) (.tmp 6) 231 rfl w.heap.size 311 G (.agg yI) 4 32 underlying231 H z C D rfl (by decide) (.slice (some ⟨w.heap.size,0,none⟩) 0 0) 0 [] rfl l L n cap cs rfl (by rw[h.1]) (RSl.news (h.below ((i4 _ _).alloc (d8 _) (.cells #[] 311)))) h1 (by unfold maxLen;omega) (by omega) (by simp) ?_;intro v1 O p x _;simp only[r9,bMt] at p)
  go_ret;exact⟨_,rfl,p,cF (bZ) l x (by simp) (d8 _)⟩
theorem aGm (F:Nat) (E:Array Value) (p:Nat→Bool) (I:Option Addr) (n cap:Nat) (cs:List Value) (w:World) (h:RSl w 4 I n cap cs) (Z:n≤1000000000)
  (hF:∀args W,(callFunc F args).run prog W= .ok (.enter F args) W)
  (J:∀j,j<n→∀W,bB w W→Calls prog F (#[.agg #[cs.getD (j*4) undef,cs.getD (j*4+1) undef,cs.getD (j*4+2) undef,cs.getD (j*4+3) undef]]++E) W fun e W'=>e= .returned (.bool (p j))∧bB W W'):
  Calls prog 289 #[.slice I n cap,.func (.func F) #[] E] w fun e w'=>e= .returned (.int .i64 (eL p n))∧bB w w':=by
 have U:=hZ J;have G:=hZ h;clear J h;go_in;go_wp2_with fail;go_loopw [8] (fun i wr=>∃k:Nat,k≤n∧i= .int .i64 k∧Hid (∀j,j<k→p j=false)∧bB w wr) (fun i _=>n-(intOf i).toNat)
 case atStart=>exact⟨0,by omega,rfl,hZ fun j L=>absurd L (by omega),i4 _ _⟩
 case round=>
  obtain⟨k,aa,rfl,C,f⟩:=hrel;by_cases H:k<n
  ·obtain⟨b,u,rfl,z,l⟩:=G.o.2.2.2.2 (by omega)
   have O:=G.o.1;have c0:wr.cell? ⟨b,u+k*4,none⟩=some (cs.getD (k*4) undef):=by rw[(f.cell (p:=⟨b,_,none⟩) z),l (k*4) (by omega)];exact getD_some _ _ (by omega)
   have ab:wr.cell? ⟨b,u+k*4+1,none⟩=some (cs.getD (k*4+1) undef):=by rw[bMc,(f.cell (p:=⟨b,_,none⟩) z),l (k*4+1) (by omega)];exact getD_some _ _ (by omega)
   have c2:wr.cell? ⟨b,u+k*4+2,none⟩=some (cs.getD (k*4+2) undef):=by rw[bMc,(f.cell (p:=⟨b,_,none⟩) z),l (k*4+2) (by omega)];exact getD_some _ _ (by omega)
   have c3:wr.cell? ⟨b,u+k*4+3,none⟩=some (cs.getD (k*4+3) undef):=by rw[bMc,(f.cell (p:=⟨b,_,none⟩) z),l (k*4+3) (by omega)];exact getD_some _ _ (by omega)
   have x:=hZ (U.o k H wr f);clear l O
   cases q:p k with
   |true=>
    rw[q] at x;go_wp2_with fail;refine x.o.mono ?_;rintro e X ⟨rfl,D⟩;go_wp2_with fail;go_ret;exact⟨by rw[fI H q C.o];rfl,f.trans (D.mono f.size)⟩
   |false=>
    rw[q] at x;have Y:=hZ q;clear q;go_wp2_with fail;refine x.o.mono ?_;rintro e X ⟨rfl,D⟩;go_wp2_with fail;go_roundw
    case rel=>
     refine⟨k+1,by omega,by go_num,hZ fun j L=>?_,f.trans (D.mono f.size)⟩
     by_cases e:j=k
     ·rw[e];exact Y.o
     ·exact C.o j (by omega)
    case measure=>simp[intOf];omega
  ·have N:k=n:=by omega
   subst N;go_wp2_with fail;go_ret;exact⟨by rw[eF C.o];rfl,f⟩
theorem bKa (w:World):(zeroValue 311).run prog w= .ok (.agg yI) w:=by kernel_rfl
theorem aZb (cs:List Value) (k:Nat) (h:(k+1)*4≤cs.length):aEq 4 cs k=[cs.getD (k*4) undef,cs.getD (k*4+1) undef,cs.getD (k*4+2) undef,cs.getD (k*4+3) undef]:=by
 unfold aEq;rw[bNh (show k*4<cs.length by omega),bOn]
 rw[bNh (show k*4+1<cs.length by omega),bOn]
 rw[bNh (show k*4+2<cs.length by omega),bOn]
 rw[bNh (show k*4+3<cs.length by omega),bOn]
 rw[List.take_zero];simp only[a8];rw[b9 (show k*4<cs.length by omega)]
 rw[b9 (show k*4+1<cs.length by omega)]
 rw[b9 (show k*4+2<cs.length by omega)]
 rw[b9 (show k*4+3<cs.length by omega)]
 rfl
theorem bCu (f:List Value) (m:Nat) (l v1 v2 p:Value) (h:(m+1)*4≤f.length):((((f.set (m*4) l).set (m*4+1) v1).set (m*4+2) v2).set (m*4+3) p)=f.take (m*4)++[l,v1,v2,p]++f.drop ((m+1)*4):=by
 apply bNg;intro t;rw[bMd,List.getElem?_append];by_cases h1:t<m*4
 ·rw[i6 (by simp;omega)]
  simp only[List.getElem?_set];rw[i9 (by omega)]
  rw[i9 (by omega)]
  rw[i9 (by omega)]
  rw[i9 (by omega)]
  rw[bNk,i6 h1]
 ·rw[i9 (by simp;omega),z7,Nat.min_eq_left (by omega)]
  simp only[List.getElem?_set,bLy];by_cases h2:t<(m+1)*4
  ·rw[bMz (by simp;omega)]
   have:t=m*4∨t=m*4+1∨t=m*4+2∨t=m*4+3:=by omega
   rcases this with rfl|rfl|rfl|rfl
   ·rw[i9 (by omega),i9 (by omega),i9 (by omega),i6 (by omega),i6 (by omega)]
    rw[show m*4-m*4=0 by omega]
    rfl
   ·rw[i9 (by omega),i9 (by omega),i6 (by omega),i6 (by omega)]
    rw[show m*4+1-m*4=1 by omega]
    rfl
   ·rw[i9 (by omega),i6 (by omega),i6 (by omega)]
    rw[show m*4+2-m*4=2 by omega]
    rfl
   ·rw[i6 (by omega),i6 (by omega)]
    rw[show m*4+3-m*4=3 by omega]
    rfl
  ·rw[bMq (by simp;omega)]
   rw[i9 (by omega)]
   rw[i9 (by omega)]
   rw[i9 (by omega)]
   rw[i9 (by omega)]
   rw[List.getElem?_drop];congr 1;simp only[bLn,bNm];omega
theorem aCz (F:Nat) (ai:Array Value) (p:Nat→Bool) (base g n cap:Nat) (cs:List Value) (w:World) (h:w.ownsRow base 311 4 (.slice (some g) n cap) n cs) (z:n≤1000000) (h1:∀u∈cs,u.oneCell'=true)
  (hF:∀args W,(callFunc F args).run prog W= .ok (.enter F args) W)
  (an:∀j,j<n→∀W,w.grownBy W (some g)→Calls prog F (#[.agg #[cs.getD (j*4) undef,cs.getD (j*4+1) undef,cs.getD (j*4+2) undef,cs.getD (j*4+3) undef]]++ai) W fun e W'=>e= .returned (.bool (p j))∧bB W W'):
  Calls prog 258 #[.slice (some g) n cap,.func (.func F) #[] ai] w fun e w'=>e= .returned (.slice (some g) (jY p n) cap)∧w'.ownsRow base 311 4 (.slice (some g) (jY p n) cap) (jY p n) (sO 4 cs p n)∧w.grownBy w' (some g):=by
 have X:=hZ h.1;obtain⟨bo,aq,bn,dd,af,ar,au⟩:=gK h;have cx:cap≤9223372036854775807:=by unfold maxLen at af;exact af
 have ag:=hZ (aGm F ai p (some g) n cap cs w (bI h) (by omega) hF (fun j ch W ci=>an j ch W (cU ci)))
 have ah:=hZ h1;have cj:=hZ an;have ck:=hZ h;have bt:=hZ aq;have bq:=hZ ar;have av:=hZ au;have bu:=hZ af;clear an h h1 aq ar au af;rcases uG p n with⟨ax,Y⟩|⟨C,de,aj,ak,Y⟩
 ·rw[Y] at ag
  obtain⟨bl,bm⟩:=aAc (K:=4) (cs:=cs) n (by rw[X.o];omega) ax
  rw[bl,bm,show n*4=cs.length from X.o.symm,bLz];clear bl bm Y ax;go_in;go_wp2_with fail;refine ag.o.mono ?_;rintro e J ⟨rfl,l⟩;go_wp2_with fail;go_ret;exact⟨rfl,aD ck.o l,cU l⟩
 ·rw[Y] at ag
  have df:((C:Int) == -1)=false:=by simp
  have am:Hid (jY p (C+1)=C):=hZ (by rw[oF aj,(aAc (K:=4) (cs:=cs) C (by rw[X.o];omega) ak).2])
  have bw:Hid (sO 4 cs p (C+1)=cs.take (C*4)):=hZ (by rw[aAn aj,(aAc (K:=4) (cs:=cs) C (by rw[X.o];omega) ak).1])
  clear Y ak aj;go_in;go_wp2_with fail;refine ag.o.mono ?_;rintro e J ⟨rfl,l⟩;have ay:=hZ l;clear l;go_wp2_with fail;go_loopw [5,6] (fun cl ao wr=>∃(k:Nat) (f:List Value),k≤n∧C<k∧ao= .int .i64 k∧cl= .int .i64 (jY p k)∧jY p k<k∧Hid (Blk wr g 311 f)∧Hid (f.length=cap*4)∧Hid (f.take (jY p k*4)=sO 4 cs p k∧∀t,k*4≤t∧t<n*4→f[t]?=cs[t]?)∧Hid (w.grownBy wr (some g))) (fun _ ao _=>n-(intOf ao).toNat)
  case atStart=>
   refine⟨C+1,bo,by omega,by omega,by go_num,by rw[am.o],by rw[am.o];omega,hZ (bt.o.below ay.o),bq,hZ ⟨?_,fun t ht=>?_⟩,hZ (cU ay.o)⟩
   ·rw[am.o,bw.o,←av.o,List.take_take,Nat.min_eq_left (by omega)]
   ·rw[←av.o,bNk,i6 ht.2]
  case round=>
   obtain⟨k,f,dm,dg,rfl,rfl,az,N,aw,L,ba⟩:=hrel;have cy:=aw.o;by_cases bx:k<n
   ·obtain⟨m,z⟩:=nZ (jY p k)
    rw[←z] at az⊢;have E:=hZ z;clear z;have br:=X.o;have O:=N.o;obtain⟨G,Z⟩:∃v,v=cs.getD (k*4) undef:=⟨_,rfl⟩;have c0:wr.cell? ⟨g,k*4,none⟩=some G:=by rw[O.cell,L.o.2 _ (by omega),getD_some _ _ (by omega),Z]
    have s0:=fun W a=>run_store prog W a G .plain (by rw[Z];exact ah.o _ (zP (by omega)))
    have cm:=hZ Z;obtain⟨v1,aa⟩:∃v,v=cs.getD (k*4+1) undef:=⟨_,rfl⟩;have dp:wr.cell? ⟨g,k*4+1,none⟩=some v1:=by rw[O.cell,L.o.2 _ (by omega),getD_some _ _ (by omega),aa]
    have dq:=fun W a=>run_store prog W a v1 .plain (by rw[aa];exact ah.o _ (zP (by omega)))
    have cn:=hZ aa;obtain⟨v2,ab⟩:∃v,v=cs.getD (k*4+2) undef:=⟨_,rfl⟩;have c2:wr.cell? ⟨g,k*4+2,none⟩=some v2:=by rw[O.cell,L.o.2 _ (by omega),getD_some _ _ (by omega),ab]
    have dr:=fun W a=>run_store prog W a v2 .plain (by rw[ab];exact ah.o _ (zP (by omega)))
    have co:=hZ ab;obtain⟨H,ac⟩:∃v,v=cs.getD (k*4+3) undef:=⟨_,rfl⟩;have c3:wr.cell? ⟨g,k*4+3,none⟩=some H:=by rw[O.cell,L.o.2 _ (by omega),getD_some _ _ (by omega),ac]
    have dt:=fun W a=>run_store prog W a H .plain (by rw[ac];exact ah.o _ (zP (by omega)))
    have cp:=hZ ac;have dh:=O.lt;clear O;have U:w.grownBy (wr.alloc (.cells #[G,v1,v2,H] 311)) (some g):=eV ba.o (World.grownBy_alloc _ _ _);have al:=cj.o k bx _ U;rw[←Z,←aa,←ab,←ac] at al;have ae:=hZ al;clear al Z aa ab ac;have bz:Hid (Blk (wr.alloc (.cells #[G,v1,v2,H] 311)) wr.heap.size 311 [G,v1,v2,H]):=hZ (Blk.new _ _ _);have bc:=hZ U;clear U br;rcases hp:p k with _|_
    ·rw[hp] at ae
     have D:=hZ hp;clear hp;go_wp2_with fail;refine ae.o.mono ?_;rintro e J ⟨rfl,I⟩;have ad:=bz.o.below I;have du:=ad.cell 0;have dw:=ad.cell 1;have dx:=ad.cell 2;have dy:=ad.cell 3;have l:=hZ ((N.o.alloc _).below I);clear ad;obtain⟨cq,bd⟩:∃x,x=f.getD (m*4) undef:=⟨_,rfl⟩;have e0:J.cell? ⟨g,m*4,none⟩=some cq:=by rw[l.o.cell,getD_some _ _ (by omega),bd]
     have dz:=l.o.frozen (m*4);clear bd;obtain⟨cr,be⟩:∃x,x=f.getD (m*4+1) undef:=⟨_,rfl⟩;have ea:J.cell? ⟨g,m*4+1,none⟩=some cr:=by rw[l.o.cell,getD_some _ _ (by omega),be]
     have ec:=l.o.frozen (m*4+1);clear be;obtain⟨ct,bf⟩:∃x,x=f.getD (m*4+2) undef:=⟨_,rfl⟩;have ed:J.cell? ⟨g,m*4+2,none⟩=some ct:=by rw[l.o.cell,getD_some _ _ (by omega),bf]
     have ee:=l.o.frozen (m*4+2);clear bf;obtain⟨cu,bh⟩:∃x,x=f.getD (m*4+3) undef:=⟨_,rfl⟩;have ef:J.cell? ⟨g,m*4+3,none⟩=some cu:=by rw[l.o.cell,getD_some _ _ (by omega),bh]
     have eg:=l.o.frozen (m*4+3);clear bh;have U:=eV bc.o (cU I);have ca:=hZ U;have cz:g≠wr.heap.size:=by omega
     clear U I;go_wp2_with fail;go_roundw
     case rel=>
      have q:=L.o;rw[←E.o] at q;have cb:(m+1)*4≤f.length:=by omega
      have cc:=bCu f m G v1 v2 H cb;have bi:=((((l.o.setCell (m*4) G).setCell (m*4+1) v1).setCell (m*4+2) v2).setCell (m*4+3) H);rw[cc] at bi;refine⟨k+1,_,by omega,by omega,by go_num,by rw[uW D.o,←E.o];go_num,by rw[uW D.o,←E.o];omega,hZ bi,hZ ?_,hZ ⟨?_,fun t ht=>?_⟩,hZ ?_⟩
      ·simp only[i7,z7,bMe,bLn,bNm];omega
      ·rw[uW D.o,←E.o,aEe D.o,←q.1,aZb cs k (by rw[X.o];omega),cm.o.symm,cn.o.symm,co.o.symm,cp.o.symm]
       have cd:(f.take (m*4)++[G,v1,v2,H]).length=(m+1)*4:=by simp only[i7,z7,bLn,bNm];omega
       rw[←cd];exact List.take_left
      ·rw[bMq (by simp only[i7,z7,bLn,bNm];omega),List.getElem?_drop,←q.2 t (by omega)]
       congr 1;simp only[i7,z7,bLn,bNm];omega
      ·exact(iY (iY (iY (iY ca.o))))
     case measure=>simp[intOf];omega
    ·rw[hp] at ae
     have D:=hZ hp;clear hp;go_wp2_with fail;refine ae.o.mono ?_;rintro e J ⟨rfl,I⟩;have bj:=hZ I;clear I;go_wp2_with fail;go_roundw
     case rel=>
      have q:=L.o;rw[←E.o] at q;refine⟨k+1,f,by omega,by omega,by go_num,by rw[oF D.o,←E.o],by rw[oF D.o,←E.o];omega,hZ ((N.o.alloc _).below bj.o),aw,hZ ⟨?_,fun t ht=>q.2 t (by omega)⟩,hZ (eV bc.o (cU bj.o))⟩
      rw[oF D.o,←E.o,aAn D.o];exact q.1
     case measure=>simp[intOf];omega
   ·have bs:k=n:=by omega
    subst bs;obtain⟨m,z⟩:=nZ (jY p k);rw[←z] at az⊢;have q:=L.o;rw[←z] at q;have da:∀ty,(Builtin.clear_ #[231] ty #[.slice (some ⟨g,m*4,none⟩) (k-m) (cap-m)]).run prog wr= .ok (.tuple #[]) (wr.setCells g (m*4) (Builtin.zeroCells (.agg yI:Value).cells (k-m)).toList):=
     fun ty=>tB wr _ _ ty _ underlying231 bKa 4 rfl (by decide) (by decide) g _ _ _ (by omega) (fun t ht=>by rw[N.o.cell,b9 (by omega)];rfl) (fun t ht=>N.o.frozen _)
    have dc:¬cap=m:=by omega
    have ce:m≤cap:=by omega
    have di:m≤k:=by omega
    have dj:(0:Int)≤(m:Int):=by omega
    have dk:(m:Int)≤(k:Int):=by omega
    have dl:(m:Int)≤(cap:Int):=by omega
    have cf:=hZ q;have cg:=hZ z;clear q z;go_wp2;go_ret;have bk:(Builtin.zeroCells (.agg yI:Value).cells (k-m)).toList.length=(k-m)*4:=by rw[bOd,size_zeroCells];rfl
    have h2:=N.o.setCells (Builtin.zeroCells (.agg yI:Value).cells (k-m)).toList (m*4) (by rw[bk];omega)
    have ap:=gQ (base:=base) (n:=m) (cap:=cap) (size:=4) h2 bn ce bu.o (by simp only[i7,z7,bMe,bk];omega)
    have cv:(f.take (m*4)).length=m*4:=by rw[z7];omega
    rw[bMd] at ap;have cw:(f.take (m*4)++((Builtin.zeroCells (.agg yI:Value).cells (k-m)).toList++f.drop (m*4+(Builtin.zeroCells (.agg yI:Value).cells (k-m)).toList.length))).take (m*4)=f.take (m*4):=by
     conv=>lhs;arg 1;rw[←cv]
     exact List.take_left
    rw[cw,cf.o.1] at ap;rw[←cg.o];exact⟨rfl,ap,eV ba.o (aJ _ _ _ _)⟩
theorem bEp (c:bJ) (w:World):Calls prog 260 #[.agg (dI c).toArray] w fun e w'=>e= .returned (.bool c.2.2.1)∧bB w w':=by
 obtain⟨c0,h,f,l⟩:=c;have p:=Blk.new w 311 (dI (c0,h,f,l));have q:(w.alloc (.cells (dI (c0,h,f,l)).toArray 311)).cell? ⟨w.heap.size,2,none⟩=some f:=p.cell 2;clear p;go_in;go_wp21;go_ret;exact⟨rfl,bZ⟩
theorem aMl {row:String} (h:Rows P row args w R):RowsIn Fence.wide n P row args w R:=
 fun c cs _=>let⟨v,w',hr,f⟩:=h c cs;⟨v,w',hr,stepsIn_wide.2 f⟩
theorem oM (h:o.wp P a w K Q):o.wpIn Fence.wide n P a w K Q:=by
 refine⟨fun _ _=>trivial,?_⟩
 unfold Oper.wp at h;have e:o.semAt Fence.wide.round a.eval=execOp a.eval o:=Oper.semAt_none _ _;rw[e];generalize (execOp a.eval o).run P w=r at h⊢
 cases r with
 |ok x w'=>
  cases x with
  |value v=>exact h
  |skip=>exact h
  |defer d=>exact h
  |enter f args=>exact⟨Bool.noConfusion,callsIn_wide.2 h⟩
  |row row args=>exact⟨Bool.noConfusion,aMl h⟩
  |_=>exact h.elim
 |halt x w'=>
  cases x with
  |panic v=>exact h
  |_=>exact h.elim
structure KpO (own:Nat→Prop) (W W':World):Prop where
 size:W.heap.size≤W'.heap.size
 same:∀k cs e fr,W.heap[k]?=some (.cells cs e fr)→¬own k→W'.heap[k]?=some (.cells cs e fr)
theorem KpO.trans {own:Nat→Prop} {B C:World} (h:KpO own A B) (k:KpO own B C):KpO own A C:=⟨l6 h.size k.size,fun i cs e fr l f=>k.same i cs e fr (h.same i cs e fr l f) f⟩
theorem KpO.putObj {own:Nat→Prop} (W:World) (l:Nat) (o p:Obj) (h:W.heap[l]?=some o) (q:o.isCells=false):KpO own W (W.putObj l p):=by
 refine⟨(grownBy_putObj' W l p).size,fun k cs e fr f _=>?_⟩
 rw[(grownBy_putObj' W l p).block k (i8.1 f).1 (fun u=>?_)]
 ·exact f
 ·have:=bMs u
  subst this;rw[h] at f;have:=bMs f;subst this;cases q
theorem Blk.kp {own:Nat→Prop} (h:Blk W g e cs) (k:KpO own W W') (f:¬own g):Blk W' g e cs:=k.same g _ _ _ h f
theorem bDm {gb size:Nat} (h:sS w (some gb) n gc (eQ got)) (x:got.length=n) (h1:i+size≤n):sS w (some ⟨gb,i,none⟩) size (gc-i) (eQ ((got.drop i).take size)):=by
 obtain⟨z,a2,C,D,l⟩:=h;refine⟨by simp[cV,eQ];omega,by omega,by omega,fun e=>(by cases e),fun E=>?_⟩
 obtain⟨b,u,e,p,q⟩:=l (by omega)
 simp only[i5,bNl,and_true] at e;obtain⟨rfl,rfl⟩:=e;refine⟨gb,i,rfl,p,fun j G=>?_⟩
 have:=q (i+j) (by omega)
 rw[r9] at this;rw[this];have f:j<size:=by omega
 simp[cV,eQ,bNk,f]
theorem bCd {size:Nat} (gb:Nat) (u:0<size) (h1:i+size≤n) (h2:n≤gc) (x:gc≤maxLen) (W:World):(Instr.slice 80 (.slice (some gb) n gc) (some (i:Nat)) (some (.int .i64 ((i:Int)+(size:Int)))) none).run prog W= .ok (.slice (some ⟨gb,i,none⟩) size (gc-i)) W:=by
 have p:prog.underlying 80=some (.slice (prog.elem 80)):=by kernel_rfl
 have q:(sizeOf (prog.elem 80)).run prog W= .ok 1 W:=by kernel_rfl
 rw[run_slice_lh (P:=prog) (w:=W) (t:=80) (a:=some gb) (len:=n) (cap:=gc) (ht:=p) (kl:= .i64) (kh:= .i64) (l:=(i:Int)) (h:=(i:Int)+(size:Int)) (h0:=by omega) (h1:=by omega) (h2:=by omega),q]
 show Result.ok (sliced _ _ _ _ _) W=_
 unfold sliced;rw[show((i:Int)+(size:Int)).toNat=i+size by omega]
 simp only[s7];rw[i9 (by omega),show i+size-i=size by omega]
 simp only[Option.map_some,Addr.add,Nat.mul_one,r9];by_cases f:i=0
 ·rw[i6 f,f]
 ·rw[i9 f]
theorem aEo:∀l:List (List UInt8),Lib.join l []=l.flatten
 |[]=>rfl
 |[a]=>by simp[Lib.join]
 |a::b::r=>by
  have h1:=aEo (b::r);unfold Lib.join List.intercalate at h1⊢;rw[List.flatten_cons,←h1];rfl
theorem bAl (gb o c n:Nat) (l:List Bs) (w:World) (h:sS w (some ⟨gb,o,none⟩) n c (eQ l)) (D:0<n) (U:n≤1000000) (E:∀s∈l,s.length≤64):
  Calls prog 257 #[.slice (some ⟨gb,o,none⟩) n c,.string ⟨#[]⟩] w fun e w'=>e= .returned (.string ⟨l.flatten.toArray⟩)∧bB w w':=by
 have u:l.length=n:=by have:=h.1;simpa[cV,eQ] using this
 obtain⟨_,h2,X,_,G⟩:=h;obtain⟨b,O,e,H,I⟩:=G D;simp only[i5,bNl,and_true] at e;obtain⟨rfl,rfl⟩:=e;have f:(eQ l).map (·.data.toList)=l:=by unfold eQ;rw[List.map_map];exact(bOo (fun s _=>by simp)).trans (List.map_id _)
 have z:∀l:List Bs,(∀s∈l,s.length≤64)→l.flatten.length≤64*l.length:=by
  intro l
  induction l with
  |nil=>intro _;simp
  |cons a r J=>
   intro h;have h1:=h a (by simp)
   have h2:=J (fun s L=>h s (by simp[L]))
   rw[List.flatten_cons,i7,bLn];omega
 have Y:=z l E;have p:=Tryz.strings_Join gb o c (eQ l) ⟨#[]⟩ w (fun j x f=>by
  have q:j<n:=by
   by_cases q:j<n
   ·exact q
   ·rw[m7 (by simp[eQ];omega)] at f;cases f
  rw[I j (by omega)]
  simp only[cV,bMh,f,Option.map_some]) H (by simp[eQ];omega) (by simp[eQ];omega) (by rw[f];show(Lib.join l []).length≤_;rw[aEo];omega)
 rw[f] at p;have N:(eQ l).length=n:=by simp[eQ,u]
 rw[N] at p;refine p.mono ?_;rintro e w' ⟨rfl,C⟩;exact⟨by show Ending.returned (.string ⟨(Lib.join l []).toArray⟩)=_;rw[aEo],C⟩
def dN (l:List bJ):List bJ:=l.filter fun c=> !c.2.2.1
theorem bCe (l:List bJ) (j:Nat) (h:j<l.length):aEq 4 (eM l) j=dI (l.getD j cD):=by
 unfold aEq;apply bNg;intro i;by_cases p:i<4
 ·rw[List.getElem?_take_of_lt p,List.getElem?_drop,show eM l=l.flatMap dI from rfl,jQ (f:=dI) (K:=4) (fun _=>rfl) l j i cD h p]
 ·rw[m7 (by simp;omega),m7 (by simp[dI];omega)]
theorem aSy (l:List bJ):∀n,n≤l.length→sO 4 (eM l) (fun j=>(l.getD j cD).2.2.1) n=eM (dN (l.take n))∧jY (fun j=>(l.getD j cD).2.2.1) n=(dN (l.take n)).length:=by
 intro n
 induction n with
 |zero=>intro _;exact⟨rfl,rfl⟩
 |succ n z=>
  intro h;obtain⟨h1,h2⟩:=z (by omega)
  have q:n<l.length:=by omega
  have e:l.take (n+1)=l.take n++[l.getD n cD]:=by
   rw[m8 q];simp[a8,q]
  have x:dN (l.take (n+1))=dN (l.take n)++dN [l.getD n cD]:=by rw[e];unfold dN;rw[bNz]
  cases f:(l.getD n cD).2.2.1 with
  |true=>
   have u:dN [l.getD n cD]=[]:=by unfold dN;rw[List.filter_cons,f];rfl
   rw[aAn (p:=fun j=>(l.getD j cD).2.2.1) f,oF (p:=fun j=>(l.getD j cD).2.2.1) f,h1,h2,x,u,bMv]
   exact⟨rfl,rfl⟩
  |false=>
   have u:dN [l.getD n cD]=[l.getD n cD]:=by unfold dN;rw[List.filter_cons,f];rfl
   rw[aEe (p:=fun j=>(l.getD j cD).2.2.1) f,uW (p:=fun j=>(l.getD j cD).2.2.1) f,h1,h2,x,u,bCe l n q,i7]
   exact⟨by simp[eM],rfl⟩
theorem aCv (d:Array Int):∀m,0<m→0<(Lib.compactUpTo d m).length:=by
 intro m
 induction m with
 |zero=>intro h;omega
 |succ m f=>
  intro _;rw[Lib.compactUpTo_succ,i7];by_cases h:0<m
  ·have:=f h;omega
  ·have l:m=0:=by omega
   subst l;rw[i6 (Lib.keeps_lt_one d 0 (by omega))]
   simp
theorem aWu {l:List bJ} (h:0<l.length):0<(kB l).length:=by
 unfold kB Lib.compact;exact aCv _ _ (by rw[List.length_mergeSort,List.length_map];exact h)
theorem bDv {l:List Int} (h:w.ownsRow b 3 1 (.slice (some g) n cap) n (kC l)) (f:j<l.length):w.cell? ⟨g,j,none⟩=some (.int .i64 (l.getD j 0)):=by
 have p:l.length=n:=by have:=h.1;simpa[kC] using this
 rw[h.cellAt j (by omega)]
 simp[kC,b9 f]
theorem zU (a b:List bJ):dN (a++b)=dN a++dN b:=by unfold dN;rw[bNz]
theorem vC (first f at_:Nat):∀i,(dN (jV first f at_ i)).length=i
 |0=>rfl
 |i+1=>by
  have h:∀out row,dN (qD first f at_ out row true)=dN out:=fun out row=>by
   unfold qD;rw[zU];simp[dN]
  have hF:∀out row,(dN (qD first f at_ out row false)).length=(dN out).length+1:=fun out row=>by
   unfold qD;rw[zU,i7];simp[dN]
  unfold jV;rw[hF];split
  ·rw[h,vC first f at_ i]
  ·rw[vC first f at_ i]
theorem aZo (f:Option Addr) (h gc:Nat) (secs g a size:Int) (v:Value) (p:∃l n c,v= .slice l n c) (w:World):
  Calls prog 139 #[.agg #[.slice f h gc,secs],.agg #[g,a],size,v] w fun e w'=>e= .returned (.func (.func 203) #[] #[.pointer (some ⟨w.heap.size,0,none⟩),.pointer (some ⟨w.heap.size+1,0,none⟩),.pointer (some ⟨w.heap.size+2,0,none⟩),.pointer (some ⟨w.heap.size+3,0,none⟩)])∧
   w'=(((w.alloc (.cells #[.slice f h gc,secs] 24)).alloc (.cells #[g,a] 46)).alloc (.cells #[size] 3)).alloc (.cells #[v] 80):=by
 obtain⟨l,n,c,rfl⟩:=p;go_in;go_wp21;go_ret;exact⟨rfl,rfl⟩
def aAh {β:Type} (B:Nat) (J:β→World→Prop):Prop:=∀s A W row,J s A→A.grownBy W row→(∀r,row=some r→B≤r)→J s W
def bHf {α:Type} (P:Program) (n gf:Nat) (lb:Array Value) (encs:α→Array Value) (own:Nat→Prop) (xs:List α) (w0:World):Prop:=
 ∀(l:Nat) (J:List α→World→Prop) (W:World),Below w0.heap.size w0 W→aAh W.heap.size J→
  (∀pre x W1,J pre W1→pre.length<xs.length→YieldAt Fence.wide n P l (encs x) W1 fun e W'=>e= .returned (.bool true)∧J (pre++[x]) W'∧KpO own W1 W')→
  J [] W→Calls P gf (#[.func (.yield l) #[] #[]]++lb) W fun e W'=>(∃v,e= .returned v)∧J xs W'
def bIn {α:Type} (own:Nat→Prop) (I:List α→World→Prop) (xs:List α) (W:World):Exit→Act→World→Prop
 | .normal,_,W'=>Mod own W W'∧I xs W'
 |_,_,_=>False
theorem aAg {H:Type} {g:Operand}
  (ar:a.eval g= .func (.func gf) #[] lb) (au:∀args w,(callFunc gf args).run P w= .ok (.enter gf args) w)
  {encs:H→Array Value} {own:Nat→Prop} {xs:List H} (al:∀x,(encs x).size=ps.size) (ai:bHf P n gf lb encs own xs w)
  (z:List H→World→Prop) (hI:aAh w.heap.size z) (h0:z [] w) (aj:∀k,own k→k<w.heap.size)
  (hround:∀(l:Nat) (q:List H) (x:H) (W:World),w.heap.size≤l→q.length<xs.length→z q W→l<W.heap.size→
   assign.wpIn (Fence.wide.inRound l) n P (Exit.then (fun af f=>f=W∧∀U:World,z q U→body.wpIn (Fence.wide.inRound l) n P (bIn own z (q++[x]) U) af U) (fun _ _ _=>False)) {tmps:=(ps.zip (encs x)).foldl (fun t (p,v)=>t.setIfInBounds p v) a.tmps,defers:=[]} W)
  (ah:∀(X:Nat) (W:World),w.heap.size≤X→z xs W→W.heap[X]?=some (.deferred (some []))→Q .normal {a with defers:={target:= .collected X,args:=#[]}::a.defers} W):
  (Code.rangeFunc g ps assign body).wpIn Fence.wide n P Q a w:=by
 refine wpIn_rangeFunc ?_;intro fn am;obtain⟨rc,C⟩:∃rc:LoopState→Loop,rc=fun st=>{state:=st,pending:=none,fn,tmps:=a.tmps,params:=ps,assign,body,defers:=w.heap.size}:=⟨_,rfl⟩
 obtain⟨f,G⟩:∃f,(w.alloc (.deferred (some []))).alloc (.loop (rc .ready))=f:=⟨_,rfl⟩;have az:f.heap.size=w.heap.size+2:=by rw[←G];simp
 have an:f.heap[w.heap.size+1]?=some (.loop (rc .ready)):=by
  rw[←G];have:=World.alloc_heap_new (w.alloc (.deferred (some []))) (.loop (rc .ready))
  rwa [World.size_alloc] at this
 have ao:f.heap[w.heap.size]?=some (.deferred (some [])):=by
  rw[←G];exact(Below.heap_alloc _ _ _ (by simp)).trans (World.alloc_heap_new w _)
 have Z:bB w f:=by rw[←G];exact((i4 _ w).alloc (d8 _) _).alloc (by simp) _
 refine⟨w.heap.size+1,[{target:= .collected w.heap.size,args:=#[]}],f,{target:= .fn (.func gf) lb,args:=#[.func (.yield (w.heap.size+1)) #[] #[]]},f,gf,
  #[.func (.yield (w.heap.size+1)) #[] #[]]++lb,f,?_,?_,?_,?_,fun h=>Bool.noConfusion h,?_⟩
 ·rw[←G,C];exact run_enterLoop_outer _ _ _ _ _
 ·simp only[resolve,ar]
  simp[go_sem]
 ·exact fun _ _=>trivial
 ·simp[invoke,go_sem,au]
 ·refine(callsIn_wide.2 (ai (w.heap.size+1) (fun q W=>z q W∧W.heap[w.heap.size+1]?=some (.loop (rc .ready))∧W.heap[w.heap.size]?=some (.deferred (some []))) f Z ?_ ?_ ⟨hI _ _ _ none h0 (cU Z) (fun r e=>by cases e),an,ao⟩)).mono ?_
  ·rintro s A B row ⟨h1,h2,av⟩ N hr
   have aw:w.heap.size+1<A.heap.size:=(i8.1 h2).1;refine⟨hI s A B row h1 N (fun r e=>by have:=hr r e;omega),?_,?_⟩
   ·rw[N.block _ aw (fun e=>by have:=hr _ e.symm;omega)];exact h2
   ·rw[N.block _ (by omega) (fun e=>by have:=hr _ e.symm;omega)];exact av
  ·rintro q x W ⟨I,D,E⟩ ak
   have aa:w.heap.size+1<W.heap.size:=(i8.1 D).1;have hy:=run_yield (P:=P) (args:=encs x) D (by rw[C];exact al x)
   rw[C] at hy;refine⟨fn,_,assign,body,hy,roundIn_of_wpIn am (wpIn_mono (hround _ q x W (by omega) ak I aa) ?_)⟩
   clear hy;rintro e af u ag
   cases e with
   |normal=>
    obtain⟨rfl,ax⟩:=ag;refine⟨_,run_beginRound D (by rw[C]),?_⟩
    have ab:(u.putObj (w.heap.size+1) (.loop {rc .ready with state:= .busy})).heap[w.heap.size+1]?=some (.loop {rc .ready with state:= .busy}):=World.putObj_heap_same aa
    have ac:(u.putObj (w.heap.size+1) (.loop {rc .ready with state:= .busy})).heap[w.heap.size]?=some (.deferred (some [])):=(World.putObj_heap_other (by omega)).trans E
    have ap:z q (u.putObj (w.heap.size+1) (.loop {rc .ready with state:= .busy})):=hI _ _ _ _ I (grownBy_putObj' u (w.heap.size+1) (.loop {rc .ready with state:= .busy})) (fun r e=>by cases e;omega)
    refine wpIn_mono (ax _ ap) ?_;rintro e bc J ad
    cases e with
    |normal=>
     obtain⟨L,aq⟩:=ad;have ae:∀k,w.heap.size≤k→¬own k:=fun k h1 h2=>by have:=aj k h2;omega
     have O:=(L.block _ ((i8.1 ab).1) (ae _ (by omega))).trans ab
     have hr:=run_endRound (P:=P) none O;have ay:(Instr.endRound (w.heap.size+1) none).run P J= .ok (.bool true) (J.putObj (w.heap.size+1) (.loop (rc .ready))):=by rw[hr,C];rfl
     refine⟨_,_,ay,rfl,⟨hI _ _ _ _ aq (grownBy_putObj' J (w.heap.size+1) (.loop (rc .ready))) (fun r e=>by cases e;omega),World.putObj_heap_same ((i8.1 O).1),(World.putObj_heap_other (by omega)).trans ((L.block _ (i8.1 ac).1 (ae _ (d8 _))).trans ac)⟩,?_⟩
     refine((KpO.putObj u (w.heap.size+1) _ _ D rfl).trans ⟨L.size,fun k cs e fr E _=>?_⟩).trans (KpO.putObj J (w.heap.size+1) _ _ O rfl)
     rw[L.block k (i8.1 E).1 (by assumption)]
     exact E
    |_=>exact ad.elim
   |_=>exact ag.elim
  ·rintro e u ⟨⟨v,rfl⟩,I,D,E⟩
   have ba:=grownBy_putObj' u (w.heap.size+1) (.loop (rc .done));have Y:=run_endLoop (P:=P) D (by rw[C];simp)
   refine⟨none,_,by rw[C] at Y;exact Y,ah _ _ (d8 _) (hI _ _ _ _ I (grownBy_putObj' u (w.heap.size+1) _) (fun r e=>by cases e;omega)) ((World.putObj_heap_other (by omega)).trans E)⟩
section
def fY (s:Bs):List Nat:=(List.range ((lQ s 4).length/4)).map (aUl (lQ s 4))
theorem aHa (s:Bs):(fY s).length=(lQ s 4).length/4:=by simp[fY]
theorem aUa (s:Bs):dG s=nO (fY s) (0,0,0,0):=rfl
theorem aWr (s:Bs):(lQ s 4).length%4=0∧(lQ s 4).length≤s.length+3:=by
 have:(lQ s 4).length=s.length+(4-s.length%4)%4:=by simp[lQ,aP]
 omega
theorem aPh (s:Bs) (k:Nat) (h:k<(fY s).length):(fY s).take (k+1)=(fY s).take k++[aUl (lQ s 4) k]:=by
 rw[m8 h];simp[fY]
theorem aMb (h:Mod (fun x=>x=b) w w'):w.grownBy w' (some b):=⟨h.os,h.tape,h.output,h.size,fun k l f=>h.block k l (fun e=>f (by rw[e]))⟩
attribute [local go_sem] Oper.semAt_some
attribute [local go_sem ↓] Go.wp_at_zero Go.wp_at_succ
def bHr (x:Nat):Array Value:=#[.int .u64 (x:Nat)]
theorem aUf (own:Nat→Prop) (ap:Nat) (s:Bs) (aq L:Nat) (J:List Nat→World→Prop) (W:World) (h1:Blk W ap 9 [.string ⟨s.toArray⟩]) (ch:s.length≤3000) (ar:∀k,own k→k<W.heap.size) (au:aAh W.heap.size J)
  (N:∀C x O,J C O→C.length<(fY s).length→YieldAt Fence.wide aq prog L (bHr x) O fun e W'=>e= .returned true∧J (C++[x]) W'∧KpO own O W') (h0:J [] W):
  Calls prog 292 #[.func (.yield L) #[] #[],.pointer (some ap)] W fun e W'=>(∃v,e= .returned v)∧J (fY s) W':=by
 have bx:=h1.cell 0;have D:=hZ (oS s 4 W (by omega) (by omega) (by omega))
 obtain⟨ac,bc⟩:=aWr s;have ad:=aHa s;obtain⟨p,U⟩:=nZ (lQ s 4);rw[←U] at D ac bc ad;have bd:=hZ U;obtain⟨m,X⟩:=nZ ((fY s).length);have cc:p.length=4*m:=by omega
 rw[←X] at N;have ae:=hZ X;have Y:=hZ au;have be:=hZ N;have bf:=hZ ar;have av:=hZ h0;clear h1 ar au N h0 U ad X ac;go_in;go_wp2_with fail;refine D.o.mono ?_;rintro e Z ⟨rfl,q⟩;have aw:=hZ (oI p Z);clear bx;go_wp2_with fail;refine aw.o.mono ?_;rintro e w2 ⟨rfl,E⟩;obtain⟨f,u⟩:=nZ Z.heap.size;have af:bB Z w2:=by rw[E];exact bZ
 have G:=hZ (q.trans (af.mono q.size));have ag:Hid (kO w2 f p 0):=hZ (by rw[E,u];exact Blk.new _ _ _)
 have ah:Hid (W.heap.size≤f):=hZ (by rw[u];exact q.size)
 have bh:Hid (¬own f):=hZ (fun h=>by have:=bf.o f h;have:=ah.o;omega)
 have ai:=hZ (Y.o _ _ _ none av.o (cU G.o) (fun r e=>by cases e))
 rw[←u];clear E u q af aw D av;go_wp2_with fail;go_loopg [4] m (fun bz v4 wr=>∃k:Nat,k≤m∧m-k≤bz∧Hid (kO wr f p (4*k))∧Hid (J ((fY s).take k) wr)∧Hid (W.heap.size≤wr.heap.size))
 case atStart=>exact⟨0,by omega,by omega,ag,ai,hZ G.o.size⟩
 case round=>
  obtain⟨k,ci,ce,aa,aj,ak⟩:=hrel;clear ai ag G;have ax:=hZ (uA f p (4*k) wr aa.o (by omega) (by omega))
  go_wp2_with fail;refine ax.o.mono ?_;rintro e ay ⟨rfl,az,rfl⟩;have l:bB wr (wr.drewN az):=⟨rfl,rfl,rfl,d8 _,fun _ _=>rfl⟩
  obtain⟨ay,al⟩:=nZ (wr.drewN az);rw[←al] at l⊢;have bi:=hZ (Blk.below aa.o l);have am:=hZ (Y.o _ _ _ none aj.o (cU l) (fun r e=>by cases e))
  have bj:=hZ (l6 ak.o l.size);clear al l ax aa aj ak;by_cases bk:k<m
  ·have ca:(0:Int)<(p.length:Int)-(4*k:Nat):=by omega
   have ab:=hZ (aEl f p (4*k) ay bi.o (by omega) (by omega))
   obtain⟨x,z⟩:=nZ (nU (dW p (4*k) 4));have cf:x<4294967296:=by rw[z];exact bGf p (4*k) (by omega)
   rw[←z] at ab;have bl:Hid ((fY s).take (k+1)=(fY s).take k++[x]):=hZ (by rw[aPh s k (by rw[←ae.o];exact bk),z,bd.o];rfl)
   have bm:Hid (((fY s).take k).length<m):=hZ (by rw[z7];omega)
   have cg:Hid (IntKind.u64.wrap (x:Int)=(x:Int)):=hZ (IntWalk.u64_in _ (by omega))
   clear z;go_wp2_with fail;refine ab.o.mono ?_;rintro e w4 ⟨rfl,an,H⟩;have bn:Hid (kO w4 f p (4*(k+1))):=hZ (by rw[Nat.mul_succ];exact an)
   have bo:=hZ (Y.o _ _ _ _ am.o (aMb H) (fun r e=>by cases e;exact ah.o))
   have bq:=hZ (l6 bj.o H.size);have br:=hZ (be.o _ x w4 bo.o bm.o);clear an H ab;go_upto_region 3 with fail
   refine(wpIn_wide (n:=aq+1)).1 ?_;obtain⟨fn,cd,assign,body,hy,ba⟩:=br.o;have hy:(Instr.yield L #[Value.int .u64 (x:Int)]).run prog w4=_:=hy
   repeat gi_step
   refine ba.mono ?_;rintro e cb ⟨rfl,ao,I⟩;have bs:Hid (J ((fY s).take (k+1)) cb):=hZ (by rw[bl.o];exact ao)
   have bt:=hZ (Blk.kp bn.o I bh.o);have bu:=hZ (l6 bq.o I.size);clear ao I ba hy;dsimp only
   repeat gi_step
   go_wp2_with fail;go_roundg (m-(k+1))
   case measure=>omega
   case rel=>exact⟨k+1,by omega,d8 _,bt,bs,bu⟩
  ·obtain rfl:k=m:=by omega
   have ca:¬(0:Int)<(p.length:Int)-(4*k:Nat):=by omega
   have bw:Hid ((fY s).take k=fY s):=hZ (by rw[ae.o,bLz])
   go_wp2_with fail;go_end0;exact⟨⟨_,rfl⟩,by rw[←bw.o];exact am.o⟩
theorem aZc (s:Bs) (w:World):Calls prog 263 #[.string ⟨s.toArray⟩] w fun e w'=>e= .returned (.func (.func 292) #[] #[.pointer (some ⟨w.heap.size,0,none⟩)])∧w'=w.alloc (.cells #[.string ⟨s.toArray⟩] 9):=by
 go_in;go_wp21;go_ret;exact⟨rfl,rfl⟩
theorem aNu (own:Nat→Prop) (p f:Nat) (s:Bs) (h:World) (h1:Blk h f 9 [.string ⟨s.toArray⟩]) (u:s.length≤3000) (x:∀k,own k→k<h.heap.size):
  bHf prog p 292 #[.pointer (some f)] bHr own (fY s) h:=fun l J W q z C h0=>
 aUf own f s p l J W (h1.below q) u (fun k D=>bNc (x k D) q.size) z C h0
def gE (x:Nat×Nat×Nat×Nat):List Value:=[.int .u64 (x.1:Nat),.int .u64 (x.2.1:Nat),.int .u64 (x.2.2.1:Nat),.int .u64 (x.2.2.2:Nat)]
theorem aDl (x:Nat):IntKind.u64.wrap (x:Int)=((x%rN:Nat):Int):=by
 show(x:Int)%18446744073709551616=_
 unfold rN;omega
def qA (x:Nat×Nat×Nat×Nat) (w:Nat):Nat×Nat×Nat×Nat:=nO [w] x
theorem aNo (l:List Nat):∀(r:List Nat) (x:Nat×Nat×Nat×Nat),nO (l++r) x=nO r (nO l x):=by
 induction l with
 |nil=>intro r x;rfl
 |cons a l f=>intro r x;obtain⟨h,p,q,u⟩:=x;exact f r _
theorem Blk.own1 {row:Option Nat} (h:Blk W g e cs) (f:W.grownBy W' row) (hr:∀r,row=some r→∃o:Obj,W.heap[r]?=some o∧o.isCells=false):Blk W' g e cs:=by
 unfold Blk;rw[f.block g h.lt (fun l=>?_)]
 ·exact h
 ·obtain⟨o,h2,p⟩:=hr g l.symm
  unfold Blk at h;rw[h] at h2;have:=bMs h2;subst this;cases p
theorem bIb:(prog.info? 49).map (·.size)=some 4:=by kernel_rfl
theorem aCr {p:Tmp} (h:fn.results=#[.cell p 49]) (f:Array Value) (w:World) (g:Nat) (x:Nat×Nat×Nat×Nat)
  (q:f.getD p undef= .pointer (some g)) (u:Blk w g 49 (gE x)):(results fn f).run prog w= .ok (.agg (gE x).toArray) w:=by
 have l:f[p]?.getD undef= .pointer (some g):=by simpa using q
 simp[results,h,l,asAddr,run_loadVar_mid (P:=prog) w g 0 49 (gE x) _ (fun j v z=>by rw[r9,u.cell,z]) underlying49 rfl bIb]
theorem bBk (x:Nat×Nat×Nat×Nat) (s:Bs) (ak:s.length≤3000) (w:World):Calls prog 207 #[.agg (gE x).toArray,.string ⟨s.toArray⟩] w fun e w'=>e= .returned (.agg (gE (nO (fY s) x)).toArray)∧bB w w':=by
 have ab:=hZ (fun W=>aZc s W)
 refine(callsIn_wide (n:=10)).1 (callsIn_of_wp_marks func207 rfl trivial ?_ rfl);refine wpIn_wide.2 ?_;simp only[ntmps207,bOm,bLn,bNm,Nat.reduceAdd,Nat.reduceSub,Array.replicate_succ,Array.replicate_zero,List.push_toArray,List.append_toArray,bMt,List.cons_append];go_wp2_with fail;refine(ab.o _).mono ?_;rintro e bi ⟨rfl,rfl⟩;go_wp2_with fail;obtain⟨u,q⟩:=nZ ((((w.alloc (.cells (gE x).toArray 49)).alloc (.cells #[.int .u64 0,.int .u64 0,.int .u64 0,.int .u64 0] 49)).alloc (.cells #[.string ⟨s.toArray⟩] 9)));have k0:Blk u w.heap.size 49 (gE x):=by rw[q];exact((Blk.new w _ _).alloc _).alloc _
 have k1:Blk u (w.heap.size+1) 49 (gE (0,0,0,0)):=by rw[q];exact(Blk.newAt (w:=w.alloc _) _ _ (by simp)).alloc _
 have O:Blk u (w.heap.size+2) 9 [.string ⟨s.toArray⟩]:=by rw[q];exact Blk.newAt (w:=(w.alloc _).alloc _) _ _ (by simp)
 have L:bB w u:=by rw[q];exact((bZ).alloc (by simp) _).alloc (by simp;omega) _
 have N:u.heap.size=w.heap.size+3:=by rw[q];simp
 rw[←q];clear q ab;simp only[bMc,Nat.reduceAdd];refine(wpIn_wide (n:=10)).1 (aAg (ps:=#[9]) rfl (enters_of func292 (by kernel_rfl) rfl) (encs:=fun x:Nat=>#[Value.int .u64 (x:Int)]) (fun _=>rfl)
  (aNu (fun k=>k=w.heap.size) 10 (w.heap.size+2) s u O ak (fun k H=>by omega))
  (fun f W=>Blk W w.heap.size 49 (gE (nO f x))∧Blk W (w.heap.size+1) 49 (gE (0,0,0,0))∧bB w W)
  ?hI ⟨k0,k1,L⟩ (fun k H=>by omega) ?round ?done)
 case hI=>
  rintro f A B row ⟨h1,h2,h⟩ ac hr;have H:∀k cs,k<w.heap.size+2→Blk A k 49 cs→Blk B k 49 cs:=fun k cs H U=>by
   unfold Blk at U⊢;rw[ac.block k (i8.1 U).1 (fun e=>by have:=hr k e.symm;omega)]
   exact U
  exact⟨H _ _ (by omega) h1,H _ _ (by omega) h2,h.grown ac h.size (fun k e=>by have:=hr k e;omega)⟩
 case round=>
  rintro l f y W al ae-af
  gi_wp2
  refine⟨trivial,?_⟩;rintro I ⟨h1,h2,h⟩;have X:nO (f++[y]) x=qA (nO f x) y:=aNo f [y] x;obtain⟨⟨a,b,c,d⟩,D⟩:∃z,z=nO f x:=⟨_,rfl⟩;rw[←D] at h1 X;have am:=hZ X;have an:=hZ h1;have ao:=hZ h2;have ap:=hZ h;have aq:cZ I w.heap.size 0 (.int .u64 (a:Nat)):=h1.cell 0;have ar:cZ I w.heap.size 1 (.int .u64 (b:Nat)):=h1.cell 1;have au:cZ I w.heap.size 2 (.int .u64 (c:Nat)):=h1.cell 2;have av:cZ I w.heap.size 3 (.int .u64 (d:Nat)):=h1.cell 3;have aw:=h1.frozen 0;have ax:=h1.frozen 1;have ay:=h1.frozen 2;have az:=h1.frozen 3;clear D X h1 h2 h ae af al k0 k1 O L N;apply wpIn_block;apply wpIn_seq_k;intro K Y
  gi_wp2
  refine wpIn_loop_rounds 5 ?_
  iterate 5 (rw[roundsIn_succ];gi_wp2)
  have ba:IntKind.u64.wrap ((a:Int)+(y:Int))=((qA (a,b,c,d) y).1:Nat):=by rw[←Int.natCast_add,aDl];rfl
  rw[ba];have bc:IntKind.u64.wrap ((b:Int)+((qA (a,b,c,d) y).1:Nat))=((qA (a,b,c,d) y).2.1:Nat):=by rw[←Int.natCast_add,aDl];rfl
  rw[bc];have bd:IntKind.u64.wrap ((c:Int)+((qA (a,b,c,d) y).2.1:Nat))=((qA (a,b,c,d) y).2.2.1:Nat):=by rw[←Int.natCast_add,aDl];rfl
  rw[bd];have be:IntKind.u64.wrap ((d:Int)+((qA (a,b,c,d) y).2.2.1:Nat))=((qA (a,b,c,d) y).2.2.2:Nat):=by rw[←Int.natCast_add,aDl];rfl
  rw[be];refine⟨((((Mod.refl (fun k=>k=w.heap.size) I).setCell (.inl rfl)).setCell (.inl rfl)).setCell (.inl rfl)).setCell (.inl rfl),?_,?_,?_⟩
  ·show Blk _ _ _ (gE (nO (f++[y]) x))
   rw[am.o];exact(((an.o.setCell 0 _).setCell 1 _).setCell 2 _).setCell 3 _
  ·exact(((ao.o.other (by show _≠w.heap.size;omega) _).other (by show _≠w.heap.size;omega) _).other (by show _≠w.heap.size;omega) _).other (by show _≠w.heap.size;omega) _
  ·exact(((ap.o.setCell (p:=⟨w.heap.size,0,none⟩) (d8 _) _).setCell (p:=⟨w.heap.size,1,none⟩) (d8 _) _).setCell (p:=⟨w.heap.size,2,none⟩) (d8 _) _).setCell (p:=⟨w.heap.size,3,none⟩) (d8 _) _
 case done=>
  rintro C W ad ⟨h1,h2,h⟩ Y;have ag:Hid (u.heap.size≤C):=hZ ad;obtain⟨⟨a,b,c,d⟩,D⟩:∃z,z=nO (fY s) x:=⟨_,rfl⟩;rw[←D] at h1;have bf:Hid (nO (fY s) x=(a,b,c,d)):=hZ D.symm;have aq:cZ W w.heap.size 0 (.int .u64 (a:Nat)):=h1.cell 0;have ar:cZ W w.heap.size 1 (.int .u64 (b:Nat)):=h1.cell 1;have au:cZ W w.heap.size 2 (.int .u64 (c:Nat)):=h1.cell 2;have av:cZ W w.heap.size 3 (.int .u64 (d:Nat)):=h1.cell 3;have j0:W.cell? ⟨w.heap.size+1,0,none⟩=some (.int .u64 0):=h2.cell 0;have j1:W.cell? ⟨w.heap.size+1,1,none⟩=some (.int .u64 0):=h2.cell 1;have j2:W.cell? ⟨w.heap.size+1,2,none⟩=some (.int .u64 0):=h2.cell 2;have j3:W.cell? ⟨w.heap.size+1,3,none⟩=some (.int .u64 0):=h2.cell 3;have aw:=h2.frozen 0;have ax:=h2.frozen 1;have ay:=h2.frozen 2;have az:=h2.frozen 3;obtain⟨E,G⟩:=nZ ((((W.setCell ⟨w.heap.size+1,0,none⟩ (.int .u64 (a:Nat))).setCell ⟨w.heap.size+1,1,none⟩ (.int .u64 (b:Nat))).setCell ⟨w.heap.size+1,2,none⟩ (.int .u64 (c:Nat))).setCell ⟨w.heap.size+1,3,none⟩ (.int .u64 (d:Nat)));have bh:Hid (Blk E (w.heap.size+1) 49 (gE (a,b,c,d))):=hZ (by rw[G];exact(((h2.setCell 0 _).setCell 1 _).setCell 2 _).setCell 3 _)
  have Z:Hid (bB w E):=hZ (by rw[G];exact(((h.setCell (p:=⟨w.heap.size+1,0,none⟩) (bLv _) _).setCell (p:=⟨w.heap.size+1,1,none⟩) (bLv _) _).setCell (p:=⟨w.heap.size+1,2,none⟩) (bLv _) _).setCell (p:=⟨w.heap.size+1,3,none⟩) (bLv _) _)
  have aa:Hid (E.heap[C]?=some (.deferred (some []))):=hZ (by
   have J:∀j,C≠(⟨w.heap.size+1,j,none⟩:Addr).block:=fun j=>by show C≠w.heap.size+1;omega
   rw[G,bNu _ _ _ _ (J _),bNu _ _ _ _ (J _),bNu _ _ _ _ (J _),bNu _ _ _ _ (J _)];exact Y)
  have ah:=hZ G;have ai:=hZ N;clear h1 h2 h Y G D k0 k1 O L ad N;dsimp only;go_wp2_with fail;rw[←ah.o];refine⟨by simp,.inl ⟨_,_,rfl,run_takeDeferred aa.o,?_⟩⟩
  have aj:∀r,some C=some r→∃o:Obj,E.heap[r]?=some o∧o.isCells=false:=fun r e=>by cases e;exact⟨_,aa.o,rfl⟩
  refine⟨_,aCr rfl _ _ (w.heap.size+1) (a,b,c,d) rfl (bh.o.own1 (grownBy_putObj' E C _) aj),by rw[bf.o],?_⟩
  exact Z.o.grown (grownBy_putObj' E C _) Z.o.size (fun k e=>by cases e;have:=ag.o;have:=ai.o;omega)
theorem uN (s:Bs) (u:s.length≤3000) (w:World):Calls prog 140 #[.string ⟨s.toArray⟩] w fun e w'=>e= .returned (.agg (gE (dG s)).toArray)∧bB w w':=by
 have l:=hZ (bBk (0,0,0,0) s u);go_in;go_wp21;refine(l.o _).mono ?_;rintro e x ⟨rfl,f⟩;obtain⟨⟨a,b,c,d⟩,h⟩:∃z,z=nO (fY s) (0,0,0,0):=⟨_,rfl⟩;have C:Hid (dG s=(a,b,c,d)):=hZ (by rw[aUa];exact h.symm)
 rw[←h];have k0:=(Blk.new w _ _).below f;have j0:=k0.cell 0;have j1:=k0.cell 1;have j2:=k0.cell 2;have j3:=k0.cell 3;have E:=k0.frozen 0;have G:=k0.frozen 1;have H:=k0.frozen 2;have I:=k0.frozen 3;have D:=hZ ((bZ).trans (f.mono (by simp)))
 have q:Hid (Blk ((((x.setCell ⟨w.heap.size,0,none⟩ (.int .u64 (a:Nat))).setCell ⟨w.heap.size,1,none⟩ (.int .u64 (b:Nat))).setCell ⟨w.heap.size,2,none⟩ (.int .u64 (c:Nat))).setCell ⟨w.heap.size,3,none⟩ (.int .u64 (d:Nat))) w.heap.size 49 (gE (a,b,c,d))):=hZ ((((k0.setCell 0 _).setCell 1 _).setCell 2 _).setCell 3 _);clear k0 f h l;simp only[gE];go_wp21;refine l9 (aCr rfl _ _ w.heap.size (a,b,c,d) rfl q.o) rfl ?_;exact⟨by rw[C.o],(((D.o.setCell (p:=⟨w.heap.size,0,none⟩) (d8 _) _).setCell (p:=⟨w.heap.size,1,none⟩) (d8 _) _).setCell (p:=⟨w.heap.size,2,none⟩) (d8 _) _).setCell (p:=⟨w.heap.size,3,none⟩) (d8 _) _⟩
end
section
open Go.RowKit Go.Shelf
variable {a2 b bb cap clock d db e e0 eb g g0 g2 g4 g5 gc gf i j k m mb n pb sb sb2 size2 slot:Nat} {a:Act} {o:Oper} {A W W' w w' w2 w5 wd wr:World} {ps:Array Tmp} {assign body:Code} {gs:Gs} {cs cs0 ds dv pt xs:List Value} {data got:List Bs} {K next:Act→World→Prop} {F T:Nat→Prop} {after:Array Edge} {c:List (Nat×Value)} {ms:List MT} {args lb:Array Value} {fr fr0:Nat×Nat} {dn r:Option Nat} {es:List Nat} {op:BinOp} {s t t2:Bs} {bv v vm:Value} {dst:Option Tmp} {R:Value→World→Prop} {guard:Option (Nat×Bool)} {y:Operand} {level secs:Int} {P:Program} {Q:Exit→Act→World→Prop} {seen:Array Nat} {sn:SN} {ρ:Operand→Value} {fn:Func} {V:kE}
def aC.sumIs (p:aC) (s:Bs):Bool:=decide (p.s0=((dG s).1:Nat)∧p.s1=((dG s).2.1:Nat)∧p.s2=((dG s).2.2.1:Nat)∧p.s3=((dG s).2.2.2:Nat))
def gH (s:Bs) (place dev fixed:Int):List Value:=[.string ⟨s.toArray⟩,.int .i64 place,.int .i64 dev,.int .i64 fixed]
theorem pK (W:World) (g:Nat) (b:Bool) (h:W.cell? ⟨g,0,none⟩=some (.bool b)):(loadVar 4 ⟨g,0,none⟩).run prog W= .ok (.bool b) W:=by
 go_simp
theorem aTp:(prog.info? 88).map (·.size)=some 4:=by kernel_rfl
theorem aKu {p q r:Tmp} (h:fn.results=#[.cell p 88,.cell q 4,.cell r 4]) (f:Array Value) (w:World) (g g2 l:Nat) (s:Bs) (u d x:Int) (b c:Bool)
  (H:f.getD p undef= .pointer (some g)) (I:f.getD q undef= .pointer (some g2)) (hr:f.getD r undef= .pointer (some l)) (J:Blk w g 88 (gH s u d x)) (z:Blk w g2 4 [b]) (C:Blk w l 4 [c]):
  (results fn f).run prog w= .ok (.tuple #[.agg (gH s u d x).toArray,b,c]) w:=by
 have D:f[p]?.getD undef= .pointer (some g):=by simpa using H
 have E:f[q]?.getD undef= .pointer (some g2):=by simpa using I
 have G:f[r]?.getD undef= .pointer (some l):=by simpa using hr
 simp[results,h,D,E,G,asAddr,run_loadVar_mid (P:=prog) w g 0 88 (gH s u d x) _ (fun j v L=>by rw[r9,J.cell,L]) underlying88 rfl aTp,pK w g2 b (z.cell 0),pK w l c (C.cell 0)]
theorem bEx:(prog.info? 47).isSome=true:=by kernel_rfl
theorem aCs (f h a2 l p q u x:Int) (W:World):(Op.equalIn 10000 49 (.agg #[.int .u64 f,.int .u64 h,.int .u64 a2,.int .u64 l]) (.agg #[.int .u64 p,.int .u64 q,.int .u64 u,.int .u64 x])).run prog W= .ok (decide (f=p∧h=q∧a2=u∧l=x)) W:=by
 obtain⟨i,C⟩:=Option.isSome_iff_exists.1 bEx;have D:prog.cellsOf 47=1:=by kernel_rfl
 rw[show(10000:Nat)=9999+1 from rfl,run_equalIn_array (w:=W) 9999 _ _ underlying49 C,D];by_cases h0:f=p
 ·by_cases h1:h=q
  ·by_cases h2:a2=u
   ·by_cases z:l=x
    ·subst h0 h1 h2 z
     simp[Op.eqItems,List.range,List.range.loop,go_sem]
    ·have e:(l == x)=false:=by simpa using z
     subst h0 h1 h2;simp[Op.eqItems,List.range,List.range.loop,go_sem,e,z]
   ·have e:(a2 == u)=false:=by simpa using h2
    subst h0 h1;simp[Op.eqItems,List.range,List.range.loop,go_sem,e,h2]
  ·have e:(h == q)=false:=by simpa using h1
   subst h0;simp[Op.eqItems,List.range,List.range.loop,go_sem,e,h1]
 ·have e:(f == p)=false:=by simpa using h0
  simp[Op.eqItems,List.range,List.range.loop,go_sem,e,h0]
theorem aLr (f h a2 l p q u z:Int) (x y:Operand) (W:World):
  (do eqGuard .eql 49 x y (.agg #[.int .u64 f,.int .u64 h,.int .u64 a2,.int .u64 l]) (.agg #[.int .u64 p,.int .u64 q,.int .u64 u,.int .u64 z]);binOp .eql 49 (.agg #[.int .u64 f,.int .u64 h,.int .u64 a2,.int .u64 l]) (.agg #[.int .u64 p,.int .u64 q,.int .u64 u,.int .u64 z]):Sem Value).run prog W= .ok (.bool (decide (f=p∧h=q∧a2=u∧l=z))) W:=by
 have C:=aCs f h a2 l p q u z W;go_simp
theorem aRn (h:∀c,o.op≠ .defer c):o.semAt r ρ=execOp ρ o:=by
 cases r with
 |none=>exact Oper.semAt_none _ _
 |some l=>exact Oper.semAt_some l ρ o h
def bGj (F:Fence) (n:Nat) (P:Program) (o:Oper) (op:BinOp) (t:TypeId) (x y:Operand) (u1 u2:Value) (a:Act) (w:World) (next:Act→World→Prop) (Q:Exit→Act→World→Prop):Prop:=
 o.uponIn F n P a next Q ((do let r ←(do eqGuard op t x y u1 u2;binOp op t u1 u2);pure (Next.value r):Sem Next).run P w)
theorem aIt {F:Fence} {x:Operand} {l ty:TypeId} {pos:String}:
  Oper.wpIn F n prog ⟨dst,.binOp op 49 x y l,ty,pos,after,guard⟩ a w next Q=bGj F n prog ⟨dst,.binOp op 49 x y l,ty,pos,after,guard⟩ op 49 x y (a.eval x) (a.eval y) a w next Q:=by
 unfold Oper.wpIn;rw[aRn (fun c h=>by cases h)]
 exact propext ⟨fun h=>h.2,fun h=>⟨fun f p=>(by cases p),h⟩⟩
theorem bBz {F:Fence} (f h a2 l p q u z:Int) {r:Bool} (hr:decide (f=p∧h=q∧a2=u∧l=z)=r) (o:Oper) (x y:Operand) (a:Act) (W:World) (next:Act→World→Prop) (Q:Exit→Act→World→Prop):bGj F n prog o .eql 49 x y (.agg #[.int .u64 f,.int .u64 h,.int .u64 a2,.int .u64 l]) (.agg #[.int .u64 p,.int .u64 q,.int .u64 u,.int .u64 z]) a W next Q=next (a.put o.dst r) W:=by
 unfold bGj;rw[bLr,aLr,hr];rfl
attribute [local go_sem ↓] aIt
attribute [local go_sem] Oper.semAt_some
attribute [local go_sem ↓] Go.wp_at_zero Go.wp_at_succ
end
section
def plL (p:aC):List (Int×Int):=if p.two=true then[(p.ag,p.aa),(p.bg,p.ba)] else[(p.ag,p.aa)]
def bHe (l:List (Int×Int)):List Value:=l.flatMap fun q=>[.int .i64 q.1,.int .i64 q.2]
theorem aLy (p:aC):(plL p).length=if p.two=true then 2 else 1:=by unfold plL;split<;>rfl
theorem aJe (p:aC) (l:1≤p.birth) (w:World):
  Calls prog 72 #[.agg (aA p).toArray] w fun e w'=>∃g,e= .returned (.slice (some ⟨g,0,none⟩) (plL p).length (plL p).length)∧w.heap.size≤g∧
   Blk w' g 46 (bHe (plL p))∧bB w w':=by
 refine(aGq p l w).mono ?_;rintro e w' ⟨g,q,u,f,l⟩;refine⟨g,?_,u,?_,l⟩
 ·rw[q.o,aLy]
 ·unfold plL
  split
  ·rename_i h;rw[i6 h] at f;exact f
  ·rename_i h;rw[i9 h] at f;exact f
theorem aUq {l:List (Int×Int)} (h:Blk W g e (bHe l)) (p:k<l.length):
  W.cell? ⟨g,k*2,none⟩=some (.int .i64 (l.getD k (0,0)).1)∧W.cell? ⟨g,k*2+1,none⟩=some (.int .i64 (l.getD k (0,0)).2):=by
 refine⟨?_,?_⟩
 ·have:=jQ (f:=fun q:Int×Int=>[Value.int .i64 q.1,.int .i64 q.2]) (K:=2) (fun _=>rfl) l k 0 (0,0) p (by omega)
  rw[h.cell];exact this
 ·have:=jQ (f:=fun q:Int×Int=>[Value.int .i64 q.1,.int .i64 q.2]) (K:=2) (fun _=>rfl) l k 1 (0,0) p (by omega)
  rw[h.cell];exact this
structure bKz (x:aK) (p:aC) (q:Int×Int):Prop where
 g:0≤q.1
 a:0≤q.2
 s:1≤p.size∧p.size≤4
 may:dO x.gs x.secs q.1 q.2 p.size=true
theorem aTy {x:aK} {p:aC} (h:bD x.gs x.secs p=true):∀q∈plL p,bKz x p q:=by
 have l:∀g a,dO x.gs x.secs g a p.size=true→bKz x p (g,a):=fun g a z=>by
  have:=bK z;exact⟨this.2.1,this.2.2.2.2.2.1,⟨this.2.2.2.1,this.2.2.2.2.1⟩,z⟩
 unfold bD at h;simp only[y8] at h;obtain⟨⟨h1,h2⟩,u⟩:=h;intro q f;unfold plL at f;split at f
 ·rename_i C
  rw[i6 C] at u;simp only[y8] at u;rcases s8.1 f with rfl|f
  ·exact l _ _ h2
  ·rw[y9.1 f];exact l _ _ u.1
 ·rw[y9.1 f];exact l _ _ h2
theorem tH {p:aC} (h:bD gs secs p=true):1≤p.birth:=by
 unfold bD at h;simp only[y8,bLt] at h;exact h.1.1.2.2.1
def aK.fits (x:aK):Prop:=∀i k,nA ((x.ds.getD i eN).now k)=true
theorem bDs {x:aK} (h:x.fits) (c:bJ):nA (x.col c)=true:=by
 unfold aK.col;split
 ·unfold bC.readE
  split
  ·exact h _ _
  ·rfl
 ·rfl
theorem aNq {x:aK} (h:x.fits) (g a size:Nat):(kG x g a size).all nA=true:=by
 unfold kG;rw[List.all_map];exact List.all_eq_true.2 fun c _=>bDs h c
theorem aFq {p u:Tmp} (h:fn.results=#[.cell p 88,.tmp u]) (f:Array Value) (w:World) (g:Nat) (s:Bs) (l d q:Int)
  (z:f.getD p undef= .pointer (some g)) (C:Blk w g 88 (gH s l d q)):
  (results fn f).run prog w= .ok (.tuple #[.agg (gH s l d q).toArray,f.getD u undef]) w:=by
 have x:f[p]?.getD undef= .pointer (some g):=by simpa using z
 simp[results,h,x,asAddr,run_loadVar_mid (P:=prog) w g 0 88 (gH s l d q) _ (fun j v D=>by rw[r9,C.cell,D]) underlying88 rfl aTp]
attribute [local go_sem ↓] Go.wp_at_zero Go.wp_at_succ
end
structure dT (x y:aK):Prop where
 gs:y.gs=x.gs
 secs:y.secs=x.secs
 away:y.away=x.away
 n:y.ds.length=x.ds.length
 dev:∀i,(y.ds.getD i eN).med.length=(x.ds.getD i eN).med.length∧(y.ds.getD i eN).lost=(x.ds.getD i eN).lost∧((x.ds.getD i eN).fuse= -1→(y.ds.getD i eN).fuse= -1)
 fit:x.fits→y.fits
theorem dT.refl (x:aK):dT x x:=⟨rfl,rfl,rfl,rfl,fun i=>⟨rfl,rfl,fun h=>h⟩,fun h=>h⟩
theorem dT.trans {x y z:aK} (h:dT x y) (k:dT y z):dT x z:=
 ⟨k.gs.trans h.gs,k.secs.trans h.secs,k.away.trans h.away,k.n.trans h.n,fun i=>⟨(k.dev i).1.trans (h.dev i).1,(k.dev i).2.1.trans (h.dev i).2.1,fun e=>(k.dev i).2.2 ((h.dev i).2.2 e)⟩,fun f=>k.fit (h.fit f)⟩
theorem aBg (x:aK):x.right=true↔bH x.gs x.secs=true∧x.ds.length=cK x.gs∧x.away.length=x.ds.length∧∀i,i<x.ds.length→(((x.ds.getD i eN).med.length:Nat):Int)=x.secs:=by
 refine⟨bL,fun⟨h1,h2,h,l⟩=>?_⟩
 unfold aK.right;rw[h1,bMi h2,bMi h];simp only[Bool.true_and,List.all_eq_true,bLt];intro δ p;obtain⟨i,f,rfl⟩:=List.getElem_of_mem p;have:=l i f
 rwa [a8,b9 f] at this
theorem dT.right {x y:aK} (h:dT x y) (hr:x.right=true):y.right=true:=by
 obtain⟨h1,h2,f,l⟩:=(aBg x).1 hr;refine(aBg y).2 ⟨by rw[h.gs,h.secs];exact h1,by rw[h.n,h.gs];exact h2,by rw[h.away,h.n];exact f,fun i p=>?_⟩
 rw[(h.dev i).1,h.secs];exact l i (by rw[←h.n];exact p)
theorem aCu (δ:bC) (a:Int) (s:Bs):(δ.writeE a s).2.med=δ.med∧(δ.writeE a s).2.lost=δ.lost∧(δ.fuse= -1→(δ.writeE a s).2.fuse= -1)∧((∀k,nA (δ.now k)=true)→∀k,nA ((δ.writeE a s).2.now k)=true):=by
 unfold bC.writeE;split
 ·exact⟨rfl,rfl,fun h=>h,fun h=>h⟩
 ·split
  ·exact⟨rfl,rfl,fun h=>h,fun h=>h⟩
  ·rename_i f
   split
   ·exact⟨rfl,rfl,fun h=>h,fun h=>h⟩
   ·refine⟨rfl,rfl,fun h=>by show max (δ.fuse-1) (-1)= -1;omega,fun h k=>?_⟩
    dsimp only;rw[bC.now_wrote];split
    ·unfold nA;exact bMi (.inr (by omega))
    ·exact h k
theorem lG (x:aK) (c:bJ) (s:Bs) (p:c.1<x.ds.length):dT x (eZ x c s).2:=by
 obtain⟨h1,h2,q,u⟩:=aHu x c s;have f:∀i,((eZ x c s).2.ds.getD i eN)=x.ds.getD i eN∨(eZ x c s).2.ds.getD i eN=((x.ds.getD i eN).writeE (jE c) s).2:=fun i=>by
  unfold eZ;split
  ·dsimp only
   rw[aK.set_getD x c.1 i _ p];split
   ·rename_i e;subst e;exact .inr rfl
   ·exact .inl rfl
  ·exact .inl rfl
 refine⟨h1,h2,q,u,fun i=>?_,fun l i k=>?_⟩
 ·rcases f i with e|e
  ·rw[e];exact⟨rfl,rfl,fun h=>h⟩
  ·rw[e]
   obtain⟨z,a2,C,D⟩:=aCu (x.ds.getD i eN) (jE c) s;exact⟨by rw[z],a2,C⟩
 ·rcases f i with e|e
  ·rw[e];exact l i k
  ·rw[e];exact(aCu (x.ds.getD i eN) (jE c) s).2.2.2 (l i) k
def aK.calm (x:aK):Prop:=∀i,(x.ds.getD i eN).fuse= -1∨x.ds.length≤i
theorem dT.here {x y:aK} (k:dT x y) (d:Nat):y.here d=x.here d:=by
 unfold aK.here;rw[k.away,(k.dev d).2.1]
theorem dT.calm {x y:aK} (k:dT x y) (h:x.calm):y.calm:=fun i=>by
 rcases h i with h1|h1
 ·exact .inl ((k.dev i).2.2 h1)
 ·exact .inr (by rw[k.n];exact h1)
theorem aVd {x:aK} {c:bJ} (l:x.calm) (q:c.1<x.ds.length) (f:x.here c.1=true) (u:c.2.1<(x.ds.getD c.1 eN).med.length) (z:s.length=64):(eZ x c s).1=true:=by
 unfold eZ;rw[i6 f];have p:(x.ds.getD c.1 eN).lost=false:=by
  unfold aK.here at f;simp only[y8,bNr] at f;exact f.2
 have h:(x.ds.getD c.1 eN).mayE (jE c)=0:=by
  unfold bC.mayE jE;rw[i9 (by rw[p];decide),i9 (by omega)]
 unfold bC.writeE;rw[i9 (by rw[h];decide),i9 (by omega),i9 (by rw[(l c.1).resolve_right (by omega)];decide)]
 rfl
theorem bFs {x:aK} {c:bJ} (f:x.here c.1=false):eZ x c s=(false,x):=by
 unfold eZ;rw[i9 (by rw[f];decide)]
theorem aFf:∀(l:List (bJ×Bs)) (x:aK) (f:List Nat),x.calm→(∀c∈l,c.1.1<x.ds.length∧c.1.2.1<(x.ds.getD c.1.1 eN).med.length∧c.2.length=64)→∀d,d∈(fU x l f).1→d∈f∨(x.here d=false∧∃c∈l,c.1.1=d)
 |[],x,f,_,_,d,p=> .inl p
 |(c,s)::r,x,f,D,h,d,p=>by
  obtain⟨h1,h2,E⟩:=h (c,s) (bMf ..);have k:=lG x c s h1;unfold fU at p;have hr:∀q∈r,q.1.1<(eZ x c s).2.ds.length∧q.1.2.1<((eZ x c s).2.ds.getD q.1.1 eN).med.length∧q.2.length=64:=fun q u=>by
   obtain⟨G,a2,H⟩:=h q (bMg _ u);exact⟨by rw[k.n];exact G,by rw[(k.dev q.1.1).1];exact a2,H⟩
  rcases aFf r _ _ (k.calm D) hr d p with h4|⟨h4,q,u,e⟩
  ·cases z:x.here c.1 with
   |true=>
    rw[i6 (aVd D h1 z h2 E)] at h4;exact .inl h4
   |false=>
    rw[bFs z] at h4;rw[i9 (by simp)] at h4
    unfold aLj at h4;split at h4
    ·exact .inl h4
    ·rcases bMu.1 h4 with C|C
     ·exact .inl C
     ·rw[y9.1 C]
      exact .inr ⟨z,(c,s),bMf ..,rfl⟩
  ·rw[k.here] at h4
   exact .inr ⟨h4,q,bMg _ u,e⟩
theorem aId {a size:Nat} (h:dO gs secs g a size=true) (f:i<(aI gs g a size).length):(fX gs g).toNat≤((aI gs g a size).getD i cD).1∧((aI gs g a size).getD i cD).1<(fX gs g).toNat+(gs.getD g (0,0)).2.toNat:=by
 obtain⟨hr,_,z,q,u,_⟩:=bK h;have p:g<gs.length:=by omega
 have x:=bM hr p;unfold aI at f⊢;split
 ·rename_i l
  rw[i6 l,dA] at f;rw[kK _ _ _ _ _ f];have h1:=Nat.div_lt_of_lt_mul (by rw[Nat.mul_comm];exact f)
  exact⟨Nat.le_add_right _ _,Nat.add_lt_add_left h1 _⟩
 ·rename_i l
  rw[i9 l] at f;rw[(lJ _ _ _ _ i f).1];have h1:(a+i)%(gs.getD g (0,0)).2.toNat<(gs.getD g (0,0)).2.toNat:=bNd _ (by omega)
  omega
theorem bDp {l:List Bs} (f:l≠[]) (h:∀s∈l,s.length=64):(pY l).length=64:=by
 have p:qP (eQ l)=true:=aMt _ 64 (fun s q=>by
  obtain⟨t,ht,rfl⟩:=bMn.1 q;exact h t ht)
 unfold pY;rw[i9 (by rw[p];simp[f]),pS]
 cases l with
 |nil=>exact absurd rfl f
 |cons a r=>exact h a (by simp)
theorem aLo {l:List bJ} (z:∀s∈data,s.length=64) (x:0<data.length) (u:∀i,i<l.length→(l.getD i cD).2.2.1=true→vH l (l.getD i cD).2.2.2≠[]):∀i,i<l.length→((jC l data).getD i []).length=64:=by
 have q:∀k,k<l.length→(l.getD k cD).2.2.1=false→((nF data 0 l).getD k []).length=64:=fun k h f=>by
  rw[mG data l 0 k h,i9 (by rw[f];decide)]
  rw[a8,b9 (bNd _ x)];exact z _ (n5 _)
 intro i p;rw[rD l data p];split
 ·rename_i f
  refine bDp (by simpa using u i p f) fun s C=>?_
  obtain⟨k,h,rfl⟩:=bMn.1 C;unfold vH at h;obtain⟨h1,h2⟩:=List.mem_filter.1 h;simp only[y8,bNr] at h2;exact q k (bMp.1 h1) h2.2
 ·rename_i f
  exact q i p (by simpa using f)
theorem wL (first f at_:Nat):∀n,∀c∈jV first f at_ n,c.2.2.1=true→∃e∈jV first f at_ n,e.2.2.1=false∧e.2.2.2=c.2.2.2
 |0,c,l,_=>by cases l
 |n+1,c,l,p=>by
  have z:∃o:List bJ,jV first f at_ (n+1)=qD first f at_ o (n/(f-1)) false∧(o=jV first f at_ n∨o=qD first f at_ (jV first f at_ n) (n/(f-1)) true):=by
   refine⟨_,rfl,?_⟩;split
   ·exact .inr rfl
   ·exact .inl rfl
  obtain⟨o,C,D⟩:=z;rw[C] at l⊢;have x:∀r:Nat,r=n/(f-1)→∃e∈qD first f at_ o (n/(f-1)) false,e.2.2.1=false∧e.2.2.2=r:=fun r hr=>⟨_,List.mem_append_right _ (y9.2 rfl),rfl,hr.symm⟩
  have u:∀e∈o,e∈qD first f at_ o (n/(f-1)) false:=fun e h=>List.mem_append_left _ h
  rcases bMu.1 l with h1|h1
  ·rcases D with rfl|rfl
   ·obtain⟨e,h2,q⟩:=wL first f at_ n c h1 p
    exact⟨e,u e h2,q⟩
   ·rcases bMu.1 h1 with h2|h2
    ·obtain⟨e,q,E⟩:=wL first f at_ n c h2 p
     exact⟨e,u e (List.mem_append_left _ q),E⟩
    ·refine x _ ?_
     rw[y9.1 h2]
  ·rw[y9.1 h1] at p
   cases p
theorem aBe (gs:Gs) (g a size:Nat):∀i,i<(aI gs g a size).length→((aI gs g a size).getD i cD).2.2.1=true→vH (aI gs g a size) ((aI gs g a size).getD i cD).2.2.2≠[]:=by
 intro i h f;have p:(aI gs g a size).getD i cD∈aI gs g a size:=by rw[a8,b9 h];exact n5 _
 have q:∃e∈aI gs g a size,e.2.2.1=false∧e.2.2.2=((aI gs g a size).getD i cD).2.2.2:=by
  by_cases l:(gs.getD g (0,0)).1=0
  ·exfalso
   unfold aI at f h;rw[i6 l] at f h;rw[dA] at h;rw[kK _ _ _ _ _ h] at f;cases f
  ·have e:aI gs g a size=jV (fX gs g).toNat (gs.getD g (0,0)).2.toNat a size:=by unfold aI;rw[i9 l]
   rw[e] at p f⊢;exact wL _ _ _ _ _ p f
 obtain⟨e,u,h1,h2⟩:=q;obtain⟨k,l,rfl⟩:=List.getElem_of_mem u;intro h0;have:k∈vH (aI gs g a size) ((aI gs g a size).getD i cD).2.2.2:=by
  unfold vH;refine List.mem_filter.2 ⟨bMp.2 l,?_⟩;have x:(aI gs g a size).getD k cD=(aI gs g a size)[k]:=by simp[a8,l]
  rw[x,h1,bMi h2];rfl
 rw[h0] at this;cases this
theorem aDr (h:s.length%64=0):∀t∈fJ s,t.length=64:=by
 intro t ht;unfold fJ vG at ht;obtain⟨i,f,rfl⟩:=bMn.1 ht;have:=bMp.1 f;rw[bMe,z7];omega
section
attribute [local go_sem ↓] Go.wp_at_zero Go.wp_at_succ
theorem oQ:(prog.info? 43).map (·.size)=some 4:=by kernel_rfl
theorem aSj:(prog.info? 46).map (·.size)=some 2:=by kernel_rfl
theorem bIf:(prog.info? 51).map (·.size)=some 12:=by kernel_rfl
structure MdS (g4 g5 pb:Nat) (dv pt pl:List Value) (w:World):Prop where
 d:Blk w g4 43 dv
 p:Blk w g5 51 pt
 l:Blk w pb 46 pl
theorem MdS.below {q:List Value} (h:MdS g4 g5 pb dv pt q w) (f:bB w w'):MdS g4 g5 pb dv pt q w':=⟨h.d.below f,h.p.below f,h.l.below f⟩
theorem jX (h:Blk W g e cs):W.rangeAt g 0 cs:=fun j v f=>by rw[r9,h.cell,f]
end
def cH (e:Nat):Prop:=e=168∨e=73∨e=170∨e=3∨e=258∨e=261
theorem mF (h:w.ownsRow b e k v n xs) (f:∀(g:Nat) cs fr,w.heap[g]?=some (Obj.cells cs e fr)→w'.heap[g]?=some (Obj.cells cs e fr)):w'.ownsRow b e k v n xs:=
 dQ h (fun g l=>by
  obtain⟨cs,fr,h1⟩:=cC h l;rw[h1];exact f g cs fr h1)
theorem aW.typed (h:aW w bb eb gs secs ms es) (l:∀(g:Nat) cs e fr,w.heap[g]?=some (Obj.cells cs e fr)→cH e→w'.heap[g]?=some (Obj.cells cs e fr)):aW w' bb eb gs secs ms es:=by
 obtain⟨p,q,u,x,a2,z,C⟩:=h.mem;refine⟨h.right,h.mlen,h.elen,⟨p,q,u,l _ _ _ _ x (.inl rfl),mF a2 (fun g cs fr f=>l g cs _ fr f (.inr (.inl rfl))),mF z (fun g cs fr f=>l g cs _ fr f (.inr (.inr (.inl rfl)))),mF C (fun g cs fr f=>l g cs _ fr f (.inr (.inr (.inr (.inl rfl)))))⟩,fun m D=>?_,h.nodup⟩
 obtain⟨h1,h2,E,G,v,H,I⟩:=h.maps m D;exact⟨h1,h2,E,G,v,l _ _ _ _ H (.inr (.inr (.inr (.inr (.inl rfl))))),mF I (fun g cs fr f=>l g cs _ fr f (.inr (.inr (.inr (.inr (.inr rfl))))))⟩
theorem aW.noturn (h:aW w bb eb gs secs ms es) (l:jT w w'):aW w' bb eb gs secs ms es:=
 h.typed (fun g cs e fr p f=>l g cs e fr p (by rcases f with rfl|rfl|rfl|rfl|rfl|rfl<;>decide) (by rcases f with rfl|rfl|rfl|rfl|rfl|rfl<;>decide))
def lZ (e:Nat):Prop:=e=73∨e=83∨e=4∨e=139∨e=9
theorem bV.type {x:aK} (h:bV w x V F):∀g,F g→∀cs e fr,w.heap[g]?=some (Obj.cells cs e fr)→lZ e:=by
 obtain⟨z,C,h,hF⟩:=h;intro g q cs e fr f;have l:∀{p k:Nat} {v:Value} {n:Nat} {xs:List Value},w.ownsRow 0 p k v n xs→v.ownBlock=some g→e=p:=fun hr u=>by
  obtain⟨D,E,h1⟩:=cC hr u;rw[h1] at f;simp only[i5,n7] at f;exact f.2.1.symm
 rcases(hF g).1 q with h1|h1|h1|⟨i,hi,h1⟩
 ·exact .inl (l h.grp h1)
 ·exact .inr (.inl (l h.lst h1))
 ·exact .inr (.inr (.inl (l h.awy h1)))
 ·rcases(h.dev i hi).type g h1 cs e fr f with h4|h4
  ·exact .inr (.inr (.inr (.inl h4)))
  ·exact .inr (.inr (.inr (.inr h4)))
structure dK where
 x:aK
 sn:SN
 es:List Nat
 txg:Int
 keep:Int
 mt:Bool
 fixed:Nat
 born:List aC
def sQ (V:kE) (S:dK) (bb:Nat) (dn:Option Nat):List Value:=[V.g,.int .i64 S.x.secs,V.l,V.a,.pointer (some ⟨bb,0,none⟩),.int .i64 S.txg,.int .i64 S.keep,.bool S.mt,.pointer (dn.map fun d=>⟨d,0,none⟩)]
def aAv (w:World) (dn:Option Nat) (S:dK) (bv:Value):Prop:=match dn with
 |none=>S.fixed=0∧S.born=[]∧bv= .slice none 0 0
 |some d=>Blk w d 342 [.int .i64 (S.fixed:Nat),bv]∧w.ownsRow 0 51 12 bv S.born.length (aF S.born)
structure aYm (w:World) (sb:Nat) (S:dK) (V:kE) (bb eb:Nat) (ms:List MT) (dn:Option Nat) (bv:Value) (F:Nat→Prop):Prop where
 blk:Blk w sb 174 (sQ V S bb dn)
 dvs:bV w S.x V F
 bok:aW w bb eb S.x.gs S.x.secs ms S.es
 sn:fO ms=S.sn
 don:aAv w dn S bv
def wV (sb bb eb:Nat) (ms:List MT) (dn:Option Nat) (bv:Value) (F:Nat→Prop):Nat→Prop:=fun k=>F k∨eK bb eb ms k∨k=sb∨dn=some k∨bv.ownBlock=some k
def bN (w:World) (sb:Nat) (S:dK) (V:kE) (bb:Nat) (dn:Option Nat) (T:Nat→Prop):Prop:=∃eb ms bv F,aYm w sb S V bb eb ms dn bv F∧∀k,T k↔wV sb bb eb ms dn bv F k
def kD (e:Nat):Prop:=cH e∨lZ e∨e=174∨e=342∨e=51
theorem aAv.keep {S:dK} (h:aAv w dn S bv) (f:∀k,dn=some k∨bv.ownBlock=some k→w'.heap[k]?=w.heap[k]?):aAv w' dn S bv:=by
 cases dn with
 |none=>exact h
 |some d=>
  obtain⟨h1,h2⟩:=h;refine⟨?_,dQ h2 (fun g l=>f g (.inr l))⟩
  unfold Blk at h1⊢;rw[f d (.inl rfl)];exact h1
theorem aAv.lt {S:dK} (h:aAv w dn S bv):(∀d,dn=some d→d<w.heap.size)∧∀g,bv.ownBlock=some g→g<w.heap.size:=by
 cases dn with
 |none=>exact⟨(fun d e=>by cases e),(fun g f=>by rw[h.2.2] at f;cases f)⟩
 |some d=>exact⟨(fun d e=>by cases e;exact h.1.lt),(fun g f=>(h.2.lt g f).2)⟩
theorem bN.lt {S:dK} (h:bN w sb S V bb dn T):∀k,T k→k<w.heap.size:=by
 obtain⟨eb,ms,bv,F,h,hT⟩:=h;intro k f;rcases(hT k).1 f with h1|h1|h1|h1|h1
 ·exact h.dvs.lt k h1
 ·exact h.bok.lt k h1
 ·rw[h1];exact h.blk.lt
 ·exact h.don.lt.1 k h1
 ·exact h.don.lt.2 k h1
theorem aYm.keep {S:dK} (h:aYm w sb S V bb eb ms dn bv F) (f:∀k,wV sb bb eb ms dn bv F k→w'.heap[k]?=w.heap[k]?)
  (ht:∀(g:Nat) cs e fr,w.heap[g]?=some (Obj.cells cs e fr)→cH e→w'.heap[g]?=some (Obj.cells cs e fr)):aYm w' sb S V bb eb ms dn bv F:=by
 refine⟨?_,h.dvs.keep (fun g p=>f g (.inl p)),h.bok.typed ht,h.sn,h.don.keep (fun k l=>f k (by rcases l with h1|h1;exact .inr (.inr (.inr (.inl h1)));exact .inr (.inr (.inr (.inr h1)))))⟩
 have:=h.blk;unfold Blk at this⊢;rw[f sb (.inr (.inr (.inl rfl)))];exact this
theorem bN.keep {S:dK} (h:bN w sb S V bb dn T) (l:∀k,T k→w'.heap[k]?=w.heap[k]?)
  (ht:∀(g:Nat) cs e fr,w.heap[g]?=some (Obj.cells cs e fr)→cH e→w'.heap[g]?=some (Obj.cells cs e fr)):bN w' sb S V bb dn T:=by
 obtain⟨eb,ms,bv,F,h,hT⟩:=h;exact⟨eb,ms,bv,F,h.keep (fun k f=>l k ((hT k).2 f)) ht,hT⟩
theorem bN.below {S:dK} (h:bN w sb S V bb dn T) (f:bB w w'):bN w' sb S V bb dn T:=
 h.keep (fun k p=>f.block k (h.lt k p)) (fun g cs e fr l _=>by rw[f.block g (i8.1 l).1];exact l)
theorem bN.other {S:dK} {cs0:Array Value} (h:bN w sb S V bb dn T) (u:w.heap[g0]?=some (Obj.cells cs0 e0 fr0)) (x:¬cH e0) (hT:¬T g0) (l:w.grownBy w' (some g0)):bN w' sb S V bb dn T:=
 h.keep (fun k p=>l.block k (h.lt k p) (fun e=>hT (by rw[←bMs e];exact p))) (fun g cs e fr f q=>by
  rw[l.block g (i8.1 f).1 (fun z=>by
   have:=bMs z;subst this;rw[u] at f;simp only[i5,n7] at f;exact x (f.2.1▸q))]
  exact f)
def fC (S':dK) (V:kE) (sb bb:Nat) (dn':Option Nat) (T:Nat→Prop) (w w':World):Prop:=∃T',bN w' sb S' V bb dn' T'∧Mod T w w'∧∀g,T' g→T g∨w.heap.size≤g
section
attribute [local go_sem ↓] Go.wp_at_zero Go.wp_at_succ
theorem bN.cells {S:dK} (h:bN w sb S V bb dn T):Blk w sb 174 (sQ V S bb dn):=by
 obtain⟨eb,ms,bv,F,h,hT⟩:=h;exact h.blk
theorem bN.stay {S:dK} (h:bN w sb S V bb dn T) (f:bB w w'):fC S V sb bb dn T w w':=⟨T,h.below f,Mod.below f,fun g l=> .inl l⟩
theorem rK {S:dK} (h:bN w sb S V bb (some d) T):
  Calls prog 165 #[.pointer (some sb)] w fun e w'=>e= .returned (.pointer (some d))∧w'=w:=by
 have f:=h.cells;have l:cZ w sb 8 (.pointer (some d)):=f.cell 8;clear h f;go_in;go_wp21;go_ret;exact⟨rfl,rfl⟩
theorem bN.begin {S:dK} (h:bN w sb S V bb none T):
  fC S V sb bb (some w.heap.size) T w ((w.alloc (.cells #[(0:Int),.slice none 0 0] 342)).setCell ⟨sb,8,none⟩ (.pointer (some ⟨w.heap.size,0,none⟩))):=by
 have H:=h.cells.lt;obtain⟨eb,ms,bv,F,h,hT⟩:=h;obtain⟨x,d2,z⟩:=h.don;subst z;have p:bB w (w.alloc (.cells #[(0:Int),.slice none 0 0] 342)):=bZ;have q:∀k,¬k=sb→∀v,((w.alloc (.cells #[(0:Int),.slice none 0 0] 342)).setCell ⟨sb,8,none⟩ v).heap[k]?=(w.alloc (.cells #[(0:Int),.slice none 0 0] 342)).heap[k]?:=fun k C v=>bNu _ _ _ _ C
 have u:¬F sb:=fun D=>by
  have:=h.dvs.type sb D _ _ _ h.blk;rcases this with h1|h1|h1|h1|h1<;>exact absurd h1 (by decide)
 refine⟨wV sb bb eb ms (some w.heap.size) (.slice none 0 0) F,⟨eb,ms,.slice none 0 0,F,⟨?_,?_,?_,h.sn,?_,?_⟩,fun k=>Iff.rfl⟩,?_,?_⟩
 ·exact((h.blk.alloc _).setCell 8 (.pointer (some ⟨w.heap.size,0,none⟩)))
 ·exact(h.dvs.below p).keep (fun g f=>q g (fun e=>u (e▸f)) _)
 ·refine(h.bok.below p).typed (fun g cs e fr f E=>?_)
  rw[q g (fun G=>by
   subst G;have h1:=h.blk.alloc (.cells #[(0:Int),.slice none 0 0] 342);unfold Blk at h1;rw[h1] at f;simp only[i5,n7] at f;rcases E with l|l|l|l|l|l<;>exact absurd (f.2.1.trans l) (by decide))]
  exact f
 ·rw[x]
  exact(Blk.new w 342 [(0:Int),.slice none 0 0]).other (by show w.heap.size≠sb;omega) _
 ·rw[d2]
  exact⟨rfl,.inl ⟨rfl,rfl⟩⟩
 ·exact(Mod.below p).setCell (.inl ((hT sb).2 (.inr (.inr (.inl rfl)))))
 ·rintro k (h1|h1|h1|h1|h1)
  ·exact .inl ((hT k).2 (.inl h1))
  ·exact .inl ((hT k).2 (.inr (.inl h1)))
  ·exact .inl ((hT k).2 (.inr (.inr (.inl h1))))
  ·exact .inr (by have:=bMs h1;omega)
  ·cases h1
theorem aOv {S:dK} (h:bN w sb S V bb dn T):
  Calls prog 165 #[.pointer (some ⟨sb,0,none⟩)] w fun e w'=>∃d,e= .returned (.pointer (some ⟨d,0,none⟩))∧fC S V sb bb (some d) T w w':=by
 cases dn with
 |some d=>exact(rK h).mono (fun e w' h1=>⟨d,h1.1,by rw[h1.2];exact h.stay (i4 _ _)⟩)
 |none=>
  have l:=hZ h.begin;have f:=h.cells;have u:w.cell? ⟨sb,8,none⟩=some (.pointer none):=f.cell 8;have x:=f.frozen 8;have p:w.heap.size≠sb:=by have:=f.lt;omega
  have z:((w.alloc (.cells #[.int .i64 0,.slice none 0 0] 342)).setCell ⟨sb,8,none⟩ (.pointer (some ⟨w.heap.size,0,none⟩))).cell? ⟨sb,8,none⟩=some (.pointer (some ⟨w.heap.size,0,none⟩)):=((f.alloc (.cells #[.int .i64 0,.slice none 0 0] 342)).setCell 8 (.pointer (some ⟨w.heap.size,0,none⟩))).cell 8;have C:(w.alloc (.cells #[.int .i64 0,.slice none 0 0] 342)).cell? ⟨sb,8,none⟩=some (.pointer none):=(f.alloc _).cell 8;have q:=(f.alloc (.cells #[.int .i64 0,.slice none 0 0] 342)).frozen 8;clear h f;go_enter func165,ntmps165;go_wp21;go_ret;exact⟨_,rfl,l.o⟩
end
section
attribute [local go_sem ↓] Go.wp_at_zero Go.wp_at_succ
section
variable {w w':World} {sb:Nat} {S:dK} {V:kE} {bb:Nat} {dn:Option Nat} {T:Nat→Prop}
theorem bN.dvs (h:bN w sb S V bb dn T):∃F,bV w S.x V F∧(∀k,F k→T k)∧∀f w',gO f V F w w'→f.gs=S.x.gs→f.secs=S.x.secs→fC {S with x:=f} V sb bb dn T w w'∧jT w w':=by
 obtain⟨eb,ms,bv,F,h,hT⟩:=h;refine⟨F,h.dvs,fun k p=>(hT k).2 (.inl p),fun f w' D q u=>?_⟩
 obtain⟨z,E,a2,G,l⟩:=D;refine⟨⟨wV sb bb eb ms dn bv z,⟨eb,ms,bv,z,⟨?_,E,?_,h.sn,?_⟩,fun k=>Iff.rfl⟩,a2.mono (fun k _ p=>(hT k).2 (.inl p)),?_⟩,l⟩
 ·have:sQ V {S with x:=f} bb dn=sQ V S bb dn:=by unfold sQ;rw[u]
  rw[this];exact l _ _ _ _ h.blk (by decide) (by decide)
 ·show aW w' bb eb f.gs f.secs ms S.es
  rw[q,u];exact h.bok.noturn l
 ·have C:=h.don
  cases dn with
  |none=>exact C
  |some d=>
   obtain⟨h1,h2⟩:=C;exact⟨l _ _ _ _ h1 (by decide) (by decide),mF h2 (fun g cs fr q=>l g cs _ fr q (by decide) (by decide))⟩
 ·rintro k (h1|h1|h1|h1|h1)
  ·rcases G k h1 with h2|h2
   ·exact .inl ((hT k).2 (.inl h2))
   ·exact .inr h2
  ·exact .inl ((hT k).2 (.inr (.inl h1)))
  ·exact .inl ((hT k).2 (.inr (.inr (.inl h1))))
  ·exact .inl ((hT k).2 (.inr (.inr (.inr (.inl h1)))))
  ·exact .inl ((hT k).2 (.inr (.inr (.inr (.inr h1)))))
theorem bN.bok (h:bN w sb S V bb dn T):∃eb ms,aW w bb eb S.x.gs S.x.secs ms S.es∧fO ms=S.sn∧∀r e w',bHb w bb eb S.x.gs S.x.secs ms r e w'→fC {S with sn:=r.sn,es:=r.es} V sb bb dn T w w':=by
 obtain⟨eb,ms,bv,F,h,hT⟩:=h;refine⟨eb,ms,h.bok,h.sn,fun r e w' p=>?_⟩
 obtain⟨_,z,C,I,J,L,E⟩:=p;have D:=fun k (f:k<w.heap.size) (u:(∀cs e fr,w.heap[k]?=some (Obj.cells cs e fr)→e≠168∧e≠258∧e≠3))=>E.block k f (fun N=>by
  obtain⟨cs,e,h1,h2⟩:=h.bok.tyOk k N f;obtain⟨l,G,O⟩:=u _ _ _ h1;rcases h2 with h2|h2|h2
  ·exact l h2
  ·exact G h2
  ·exact O h2)
 have q:∀{k:Nat} {cs:Array Value} {e:Nat} {fr:Nat×Nat},w.heap[k]?=some (Obj.cells cs e fr)→(e≠168∧e≠258∧e≠3)→w'.heap[k]?=some (Obj.cells cs e fr):=fun {k cs e fr} f u=>by
  rw[D k (i8.1 f).1 (fun U G X h2=>by
   rw[f] at h2;simp only[i5,n7] at h2;rw[←h2.2.1];exact u)]
  exact f
 refine⟨wV sb bb z C dn bv F,⟨z,C,bv,F,⟨?_,?_,I,J,?_⟩,fun k=>Iff.rfl⟩,E.mono (fun k _ f=>(hT k).2 (.inr (.inl f))),?_⟩
 ·exact q h.blk (by decide)
 ·exact h.dvs.keep (fun g p=>D g (h.dvs.lt g p) (fun cs e fr h2=>by
   rcases h.dvs.type g p cs e fr h2 with l|l|l|l|l<;>subst l<;>decide))
 ·have H:=h.don
  cases dn with
  |none=>exact H
  |some d=>
   obtain⟨h1,h2⟩:=H;exact⟨q h1 (by decide),mF h2 (fun g cs fr p=>q p (by decide))⟩
 ·rintro k (h1|h1|h1|h1|h1)
  ·exact .inl ((hT k).2 (.inl h1))
  ·rcases L k h1 with h2|h2
   ·exact .inl ((hT k).2 (.inr (.inl h2)))
   ·exact .inr h2
  ·exact .inl ((hT k).2 (.inr (.inr (.inl h1))))
  ·exact .inl ((hT k).2 (.inr (.inr (.inr (.inl h1)))))
  ·exact .inl ((hT k).2 (.inr (.inr (.inr (.inr h1)))))
theorem aYm.self (h:aYm w sb S V bb eb ms dn bv F) {cs:Array Value} (p:w.heap[g]?=some (Obj.cells cs 174 fr)):¬F g∧¬eK bb eb ms g∧dn≠some g∧bv.ownBlock≠some g:=by
 refine⟨fun f=>?_,fun f=>?_,fun f=>?_,fun f=>?_⟩
 ·rcases h.dvs.type g f _ _ _ p with l|l|l|l|l<;>exact absurd l (by decide)
 ·obtain⟨c2,e,h1,h2⟩:=h.bok.tyOk g f (h.bok.lt g f)
  rw[p] at h1;simp only[i5,n7] at h1;rw[←h1.2.1] at h2;rcases h2 with h2|h2|h2<;>exact absurd h2 (by decide)
 ·subst f
  have:=h.don.1;unfold Blk at this;rw[p] at this;simp only[i5,n7] at this;exact absurd this.2.1 (by decide)
 ·cases dn with
  |none=>rw[h.don.2.2] at f;cases f
  |some d=>
   obtain⟨c2,q,h1⟩:=cC h.don.2 f;rw[p] at h1;simp only[i5,n7] at h1;exact absurd h1.2.1 (by decide)
theorem bN.shift {m:Bool} (h:bN w sb S V bb dn T) (p:Blk w sb2 174 (sQ V {S with mt:=m} bb dn)):∃f,bN w sb2 {S with mt:=m} V bb dn f∧(∀k,f k→T k∨k=sb2)∧(sb2≠sb→¬f sb):=by
 obtain⟨eb,ms,bv,F,h,hT⟩:=h;refine⟨wV sb2 bb eb ms dn bv F,⟨eb,ms,bv,F,⟨p,h.dvs,h.bok,h.sn,h.don⟩,fun k=>Iff.rfl⟩,?_,fun l q=>?_⟩
 ·rintro k (h1|h1|h1|h1|h1)
  ·exact .inl ((hT k).2 (.inl h1))
  ·exact .inl ((hT k).2 (.inr (.inl h1)))
  ·exact .inr h1
  ·exact .inl ((hT k).2 (.inr (.inr (.inr (.inl h1)))))
  ·exact .inl ((hT k).2 (.inr (.inr (.inr (.inr h1)))))
 ·obtain⟨u,x,z,C⟩:=h.self h.blk
  rcases q with h1|h1|h1|h1|h1
  ·exact u h1
  ·exact x h1
  ·exact l h1.symm
  ·exact z h1
  ·exact C h1
end
end
section
attribute [local go_sem ↓] Go.wp_at_zero Go.wp_at_succ
theorem aIk (s:Bs) (l:s.length≤1000000) (w:World):Calls prog 339 #[.string ⟨s.toArray⟩] w fun e w'=>e= .returned (.bool (dX s))∧w'=w:=by
 have p:=fun(b:Bool) (h:(dX s=b))=>hZ h
 cases s with
 |nil=>
  go_in;go_wp21;go_ret;exact⟨by rw[show dX []=false from rfl];rfl,rfl⟩
 |cons a r=>
  have f:Hid (dX (a::r)=decide (((r.length:Int)+1)%64=0∧(r.length:Int)+1≤256)):=hZ (by
   unfold dX;refine decide_eq_decide.2 ⟨fun h=>?_,fun h=>⟨by simp,?_⟩⟩
   ·have h2:=h.2
    simp only[bLn] at h2;omega
   ·simp only[bLn]
    omega)
  have hr:r.length≤1000000:=by simp only[bLn] at l;omega
  go_in;go_wp21
  all_goals go_ret
  ·rename_i h1
   refine⟨?_,rfl⟩;rw[f.o]
   show Ending.returned (.bool (decide ((r.length:Int)+1≤256)))=_
   exact o7 (fun b=>Ending.returned (Value.bool b)) (decide_eq_decide.2 ⟨fun h=>⟨h1,h⟩,fun h=>h.2⟩)
  ·rename_i h1
   refine⟨?_,rfl⟩;rw[f.o,bMj (fun h=>h1 h.1)]
   rfl
end
section
attribute [local go_sem ↓] Go.wp_at_zero Go.wp_at_succ
structure fT (S:dK) (V:kE) (sb bb:Nat) (dn:Option Nat) (T:Nat→Prop) (w wc:World) (T1:Nat→Prop):Prop where
 is:bN wc sb S V bb dn T1
 mo:Mod T w wc
 nw:∀g,T1 g→T g∨w.heap.size≤g
section
variable {S S2:dK} {V:kE} {sb bb:Nat} {dn dn2:Option Nat} {T T1:Nat→Prop} {w wc wd:World}
theorem fT.start (h:bN w sb S V bb dn T):fT S V sb bb dn T w w T:=⟨h,Mod.refl _ _,fun _ f=> .inl f⟩
theorem fT.below (h:fT S V sb bb dn T w wc T1) (f:bB wc wd):fT S V sb bb dn T w wd T1:=⟨h.is.below f,h.mo.trans' f,h.nw⟩
theorem fT.step (h:fT S V sb bb dn T w wc T1) (k:fC S2 V sb bb dn2 T1 wc wd):∃f,fT S2 V sb bb dn2 T w wd f∧(∀g,g<wc.heap.size→¬T1 g→¬f g)∧Mod T1 wc wd:=by
 obtain⟨f,u,a2,q⟩:=k;refine⟨f,⟨u,h.mo.trans a2 (fun g l p=>(h.nw g p).resolve_right (by omega)),fun g l=>?_⟩,fun g l x p=>(q g p).elim x (by omega),a2⟩
 rcases q g l with h1|h1
 ·exact h.nw g h1
 ·exact .inr (l6 h.mo.size h1)
theorem fT.fin (h:fT S V sb bb dn T w wc T1):fC S V sb bb dn T w wc:=⟨T1,h.is,h.mo,h.nw⟩
theorem fT.alloc (h:fT S V sb bb dn T w wc T1) (o:Obj):fT S V sb bb dn T w (wc.alloc o) T1:=h.below (bZ)
theorem fT.other (h:fT S V sb bb dn T w wc T1) (l:Blk wc g0 e0 cs0) (p:¬cH e0) (hT:¬T1 g0) (q:w.heap.size≤g0) (f:wc.grownBy wd (some g0)):fT S V sb bb dn T w wd T1:=
 ⟨h.is.other l p hT f,h.mo.trans (iM f (F:=fun x=>x=g0) (fun g e=>(bMs e).symm)) (fun x u e=>by omega),h.nw⟩
theorem fT.fresh (h:fT S V sb bb dn T w wc T1) (l:wc.heap.size≤g):¬T1 g:=fun f=>by have:=h.is.lt g f;omega
end
theorem bN.form {S:dK} (h:bN w sb S V bb dn T):∃f gc l p q wc,V=⟨.slice f S.x.gs.length gc,.slice l S.x.ds.length p,.slice q S.x.ds.length wc⟩:=by
 obtain⟨eb,ms,bv,F,h,hT⟩:=h;obtain⟨f,gc,l,p,q,wc,u,_⟩:=h.dvs.form;exact⟨f,gc,l,p,q,wc,u⟩
theorem bJm {S:dK} (h:bN w sb S V bb dn T) (m:Bool):
  Calls prog 105 #[.pointer (some ⟨sb,0,none⟩),.bool m] w fun e w'=>∃d sb2 T1,e= .returned (.pointer (some ⟨sb2,0,none⟩))∧bN w' sb S V bb (some d) T1∧Mod T w w'∧(∀g,T1 g→T g∨w.heap.size≤g)∧
   Blk w' sb2 174 (sQ V {S with mt:=m} bb (some d))∧w.heap.size≤sb2∧¬T1 sb2:=by
 have p:=hZ (aOv h);obtain⟨I,gc,J,L,N,wc,rfl⟩:=h.form;clear h;obtain⟨z,q⟩:=nZ S.x.ds.length;obtain⟨H,u⟩:=nZ S.x.gs.length;rw[←q,←u] at p⊢;clear q u;go_enter func105,ntmps105;go_wp21;refine p.o.mono ?_;rintro e f ⟨d,rfl,T1,h1,C,D⟩;have E:=hZ h1;have G:=hZ C;have O:=hZ D;have l:=h1.cells;have e0:f.cell? ⟨sb,0,none⟩=some (.slice I H gc):=l.cell 0;have X:f.cell? ⟨sb,1,none⟩=some (.int .i64 S.x.secs):=l.cell 1;have Y:f.cell? ⟨sb,2,none⟩=some (.slice J z L):=l.cell 2;have Z:f.cell? ⟨sb,3,none⟩=some (.slice N z wc):=l.cell 3;have aa:f.cell? ⟨sb,4,none⟩=some (.pointer (some ⟨bb,0,none⟩)):=l.cell 4;have ab:f.cell? ⟨sb,5,none⟩=some (.int .i64 S.txg):=l.cell 5;have ac:f.cell? ⟨sb,6,none⟩=some (.int .i64 S.keep):=l.cell 6;have ad:f.cell? ⟨sb,7,none⟩=some (.bool S.mt):=l.cell 7;have ae:f.cell? ⟨sb,8,none⟩=some (.pointer (some ⟨d,0,none⟩)):=l.cell 8;clear h1 C D l p;go_wp21;go_ret;refine⟨d,f.heap.size,T1,rfl,E.o.below (bZ),G.o.trans' (bZ),O.o,Blk.new f _ _,G.o.size,fun U=>by have:=E.o.lt _ U;omega⟩
structure bIt where
 l:List (Nat×Nat)
 err:Nat
 sn:SN
 es:List Nat
noncomputable def uB (gs:Gs) (secs:Int) (sn:SN) (es:List Nat) (size:Int):bIt:=⟨[(eE gs secs sn es size false).p],(eE gs secs sn es size false).err,(eE gs secs sn es size false).sn,(eE gs secs sn es size false).es⟩
noncomputable def eC (S:dK) (size level:Int):bIt:=
 if iJ S.sn<S.keep+16 then⟨[],8,S.sn,S.es⟩
 else if 0<level∨S.mt=true then
  if(eE S.x.gs S.x.secs S.sn S.es size true).err=0 then⟨[(eE S.x.gs S.x.secs S.sn S.es size true).p,(eE S.x.gs S.x.secs S.sn S.es size true).q],0,(eE S.x.gs S.x.secs S.sn S.es size true).sn,(eE S.x.gs S.x.secs S.sn S.es size true).es⟩
  else uB S.x.gs S.x.secs (eE S.x.gs S.x.secs S.sn S.es size true).sn (eE S.x.gs S.x.secs S.sn S.es size true).es size
 else uB S.x.gs S.x.secs S.sn S.es size
def aFl (l:List (Nat×Nat)):List Value:=l.flatMap fun q=>[.int .i64 (q.1:Nat),.int .i64 (q.2:Nat)]
end
section
attribute [local go_sem ↓] Go.wp_at_zero Go.wp_at_succ
theorem bN.noTypeA {S:dK} (h:bN w sb S V bb dn T) {cs:Array Value} (l:w.heap[g]?=some (Obj.cells cs e fr)) (p:¬kD e):¬T g:=by
 obtain⟨eb,ms,bv,F,h,hT⟩:=h;intro q;refine p ?_;rcases(hT g).1 q with h1|h1|h1|h1|h1
 ·exact .inr (.inl (h.dvs.type g h1 _ _ _ l))
 ·obtain⟨c2,u,h2,f⟩:=h.bok.tyOk g h1 (h.bok.lt g h1)
  rw[l] at h2;simp only[i5,n7] at h2;rw[h2.2.1];rcases f with f|f|f
  ·exact .inl (.inl f)
  ·exact .inl (.inr (.inr (.inr (.inr (.inl f)))))
  ·exact .inl (.inr (.inr (.inr (.inl f))))
 ·subst h1
  have h2:w.heap[g]?=_:=h.blk;rw[l] at h2;simp only[i5,n7] at h2;exact .inr (.inr (.inl h2.2.1))
 ·subst h1
  have h2:w.heap[g]?=_:=h.don.1;rw[l] at h2;simp only[i5,n7] at h2;exact .inr (.inr (.inr (.inl h2.2.1)))
 ·cases dn with
  |none=>rw[h.don.2.2] at h1;cases h1
  |some d=>
   obtain⟨c2,x,h2⟩:=cC h.don.2 h1;rw[l] at h2;simp only[i5,n7] at h2;exact .inr (.inr (.inr (.inr h2.2.1)))
theorem bN.noType {S:dK} (h:bN w sb S V bb dn T) (f:Blk w g e cs) (l:¬kD e):¬T g:=h.noTypeA (cs:=cs.toArray) (fr:=(0,0)) f l
theorem aFi {S:dK} (h:bN w sb S V bb dn T) (size:Int) (two:Bool) {r:bGn} (hr:r=eE S.x.gs S.x.secs S.sn S.es size two):
  Calls prog 346 #[.pointer (some bb),size,two] w fun e w'=>e= .returned (.tuple #[.agg #[(r.p.1:Nat),(r.p.2:Nat)],.agg #[(r.q.1:Nat),(r.q.2:Nat)],(r.err:Nat)])∧fC {S with sn:=r.sn,es:=r.es} V sb bb dn T w w':=by
 obtain⟨eb,ms,h1,h2,u⟩:=h.bok;have f:=bEu bb eb S.x.gs S.x.secs ms S.es size two w h1;rw[h2,←hr] at f;exact f.mono (fun e w' l=>⟨l.1,u r e w' l⟩)
theorem aXz {S:dK} (h:bN w sb S V bb dn T):
  Calls prog 55 #[.pointer (some bb)] w fun e w'=>e= .returned (.int .i64 (iJ S.sn))∧bB w w':=by
 obtain⟨eb,ms,h1,h2,l⟩:=h.bok;have f:=aZq bb eb S.x.gs S.x.secs ms S.es w h1;rw[bFr,h2] at f;exact f
theorem aSa {S:dK} (h:bN w sb S V bb dn T) (size level:Int) (hk:0≤S.keep∧S.keep≤1000000000):
  Calls prog 340 #[.pointer (some ⟨sb,0,none⟩),.int .i64 size,.int .i64 level] w fun e w'=>∃v,e= .returned (.tuple #[v,.int .i64 ((eC S size level).err:Nat)])∧(∃ao n c,v=Value.slice ao n c)∧((eC S size level).err=0→∃g,v= .slice (some ⟨g,0,none⟩) (eC S size level).l.length (eC S size level).l.length∧w.heap.size≤g∧Blk w' g 46 (aFl (eC S size level).l))∧
   fC {S with sn:=(eC S size level).sn,es:=(eC S size level).es} V sb bb dn T w w':=by
 obtain⟨R,hR⟩:=nZ (eC S size level);rw[←hR];have HR:=hZ hR;have H:=hZ h;have hB:=h.cells;have hw:bN w.drew sb S V bb dn T:=h.below (i4 _ _).drew;have HQ:Hid (∀q:BW w,bN q.w sb S V bb dn T):=hZ (fun q=>h.below q.bel)
 have HLF:=hZ (fun q:BW w=>aXz (HQ.o q))
 have e4:∀q:BW w,q.w.cell? ⟨sb,4,none⟩=some (.pointer (some ⟨bb,0,none⟩)):=fun q=>(HQ.o q).cells.cell 4
 have e6:∀q:BW w,q.w.cell? ⟨sb,6,none⟩=some (.int .i64 S.keep):=fun q=>(HQ.o q).cells.cell 6
 obtain⟨lf,hlf⟩:=nZ (iJ S.sn);rw[←hlf] at HLF;have HLF2:=hZ hlf;have hkw:IntKind.i64.wrap (S.keep+16)=S.keep+16:=bLo _ (by omega)
 clear hR h hB hw hlf;go_enter func340,ntmps340;go_upto_region 1 with fail
 refine iW (by kernel_rfl) (by kernel_rfl) ?_
 repeat (go_big_quiet_step (refine Calls.bw_of (HLF.o _)))
 refine wpQuiet_nil ?_;rintro _ ⟨q,rfl⟩;have HATQ:Hid (fT S V sb bb dn T w q.w T):=hZ ((fT.start H.o).below q.bel);have d7:q.w.cell? ⟨sb,7,none⟩=some (.bool S.mt):=(HQ.o q).cells.cell 7;have d4:=e4 q;by_cases hL:lf<S.keep+16
 ·have HRE:Hid (R=⟨[],8,S.sn,S.es⟩):=hZ (by rw[HR.o];unfold eC;rw[i6 (by rw[←HLF2.o];exact hL)])
  go_wp21;go_ret2;rw[HRE.o];exact⟨_,rfl,⟨_,_,_,rfl⟩,(fun h=>by cases h),HATQ.o.fin⟩
 ·by_cases hlev:0<level
  case' pos=>
   have HCC:Hid (0<level∨S.mt=true):=hZ (.inl hlev)
  case' neg=>
   obtain⟨mv,hmv⟩:=nZ S.mt;rw[←hmv] at d7;cases mv
   case' true=>
    have HCC:Hid (0<level∨S.mt=true):=hZ (.inr hmv.symm);clear hmv
   case false=>
    have HCC:Hid (¬(0<level∨S.mt=true)):=hZ (by rw[←hmv];exact fun h=>h.elim hlev (by decide))
    clear hmv;have HG2:=hZ (aFi HATQ.o.is size false rfl);have d4:=d4;have HRE:Hid (R=uB S.x.gs S.x.secs S.sn S.es size):=hZ (by
     rw[HR.o];unfold eC;rw[i9 (by rw[←HLF2.o];omega),i9 HCC.o])
    clear e4 e6;go_wp21;refine HG2.o.mono ?_;rintro e wB ⟨rfl,hsB⟩;obtain⟨T3,hatB,hfrB,hmB⟩:=HATQ.o.step hsB;have HATB:=hZ hatB;clear hsB hatB hfrB hmB d4 HG2;dsimp only;obtain⟨r2,hr2⟩:=nZ (eE S.x.gs S.x.secs S.sn S.es size false);have HR2:Hid (R=⟨[r2.p],r2.err,r2.sn,r2.es⟩):=hZ (by rw[HRE.o];unfold uB;rw[←hr2])
    rw[←hr2] at HATB⊢;clear hr2;go_wp21;go_ret2;rw[HR2.o];refine⟨_,rfl,⟨_,_,_,rfl⟩,fun _=>⟨wB.heap.size+2,rfl,by have:=HATB.o.mo.size;omega,Blk.newAt (g:=wB.heap.size+2) _ [.int .i64 (r2.p.1:Nat),.int .i64 (r2.p.2:Nat)] (by simp)⟩,?_⟩
    exact(((HATB.o.alloc _).alloc _).alloc _).fin
  all_goals
   have HG1:=hZ (aFi HATQ.o.is size true rfl);obtain⟨r,hr⟩:=nZ (eE S.x.gs S.x.secs S.sn S.es size true);rw[←hr] at HG1;have HRR:=hZ hr;clear hr;go_wp21;refine HG1.o.mono ?_;rintro e wA ⟨rfl,hsA⟩;obtain⟨T2,hatA,hfrA,hmA⟩:=HATQ.o.step hsA;have HATA:=hZ hatA;have h4:wA.cell? ⟨sb,4,none⟩=some (.pointer (some ⟨bb,0,none⟩)):=hatA.is.cells.cell 4;have hsz:=hatA.is.cells.lt;clear hsA hatA hfrA hmA HG1;dsimp only;by_cases her:r.err=0
   ·rw[her]
    have HRE:Hid (R=⟨[r.p,r.q],0,r.sn,r.es⟩):=hZ (by
     rw[HR.o];unfold eC;rw[i9 (by rw[←HLF2.o];omega),i6 HCC.o,←HRR.o,i6 her])
    clear h4 e4 e6;go_wp21;go_ret2;rw[HRE.o];refine⟨_,rfl,⟨_,_,_,rfl⟩,fun _=>⟨wA.heap.size+2,rfl,by have:=HATA.o.mo.size;omega,Blk.newAt (g:=wA.heap.size+2) _ [.int .i64 (r.p.1:Nat),.int .i64 (r.p.2:Nat),.int .i64 (r.q.1:Nat),.int .i64 (r.q.2:Nat)] (by simp)⟩,?_⟩
    exact(((HATA.o.alloc _).alloc _).alloc _).fin
   ·have q9:((r.err:Nat):Int)≠0:=by omega
    have HATC:=hZ ((HATA.o.alloc (.cells #[.int .i64 (r.p.1:Nat),.int .i64 (r.p.2:Nat)] 46)).alloc (.cells #[.int .i64 (r.q.1:Nat),.int .i64 (r.q.2:Nat)] 46));have HG2:=hZ (aFi HATC.o.is size false rfl);have d4:=(show((wA.alloc (.cells #[.int .i64 (r.p.1:Nat),.int .i64 (r.p.2:Nat)] 46)).alloc (.cells #[.int .i64 (r.q.1:Nat),.int .i64 (r.q.2:Nat)] 46)).cell? ⟨sb,4,none⟩=some (.pointer (some ⟨bb,0,none⟩)) from HATC.o.is.cells.cell 4);have HRE:Hid (R=uB S.x.gs S.x.secs r.sn r.es size):=hZ (by
     rw[HR.o];unfold eC;rw[i9 (by rw[←HLF2.o];omega),i6 HCC.o,←HRR.o,i9 her])
    clear e4 e6;go_wp21;refine HG2.o.mono ?_;rintro e wB ⟨rfl,hsB⟩;obtain⟨T3,hatB,hfrB,hmB⟩:=HATC.o.step hsB;have HATB:=hZ hatB;clear hsB hatB hfrB hmB d4 HG2;dsimp only;obtain⟨r2,hr2⟩:=nZ (eE S.x.gs S.x.secs r.sn r.es size false);have HR2:Hid (R=⟨[r2.p],r2.err,r2.sn,r2.es⟩):=hZ (by rw[HRE.o];unfold uB;rw[←hr2])
    rw[←hr2] at HATB⊢;clear hr2;go_wp21;go_ret2;rw[HR2.o];refine⟨_,rfl,⟨_,_,_,rfl⟩,fun _=>⟨wB.heap.size+2,rfl,by have:=HATB.o.mo.size;omega,Blk.newAt (g:=wB.heap.size+2) _ [.int .i64 (r2.p.1:Nat),.int .i64 (r2.p.2:Nat)] (by simp)⟩,?_⟩
    exact(((HATB.o.alloc _).alloc _).alloc _).fin
end
section
attribute [local go_sem ↓] Go.wp_at_zero Go.wp_at_succ
structure PuS (gS gT gP sb:Nat) (dv:List Value) (pl:List Value) (t:Bs) (w:World):Prop where
 s:Blk w gS 100 [.pointer (some ⟨sb,0,none⟩)]
 t:Blk w gT 9 [.string ⟨t.toArray⟩]
 p:Blk w gP 46 pl
 d:w.rangeAt sb 0 dv
theorem wS (h:Blk W g e (cs++ds)):W.rangeAt g 0 cs:=fun j v f=>by
 rw[r9,h.cell,bMz (by rcases Nat.lt_or_ge j cs.length with h1|h1;exact h1;rw[m7 h1] at f;cases f)]
 exact f
theorem bAx {S:dK} (h:bN w sb S V bb dn T) (C D av:Nat) (t:Bs) (ak:Blk w C 100 [.pointer (some sb)]) (hT:Blk w D 9 [.string ⟨t.toArray⟩]) (ah:¬T C) (ai:¬T D) (g a:Nat) (hr:S.x.right=true) (ht:dX t=true)
  (al:dO S.x.gs S.x.secs g a ((t.length/64:Nat):Int)=true) (K:Nat) (X:S.x.deep K) (ap:K+100≤1000000000) (G:(dD S.x g a t).2.1=0) (I:(dD S.x g a t).2.2.gs=S.x.gs∧(dD S.x g a t).2.2.secs=S.x.secs):
  Calls prog 342 #[.agg #[(g:Nat),(a:Nat)],.pointer (some C),.pointer (some D),.pointer (some av)] w fun e w'=>e= .returned (.bool false)∧fC {S with x:=(dD S.x g a t).2.2} V sb bb dn T w w':=by
 have J:bB w (w.alloc (.cells #[(g:Nat),(a:Nat)] 46)).drew:=(bZ).drew;have L:=hZ ((fT.start h).below J);obtain⟨F,am,aq,ag⟩:=L.o.is.dvs;have ac:=aSd am hr g a t ht al K X ap;rw[G] at ac;obtain⟨l,gc,q,u,z,wc,rfl⟩:=h.form;have N:Hid (Calls prog 343 #[.agg #[.slice l S.x.gs.length gc,S.x.secs,.slice q S.x.ds.length u,.slice z S.x.ds.length wc],.agg #[(g:Nat),(a:Nat)],.string ⟨t.toArray⟩] (w.alloc (.cells #[(g:Nat),(a:Nat)] 46)).drew fun e w'=>e= .returned (.tuple #[.int .i64 ((dD S.x g a t).1:Nat),.int .i64 ((0:Nat):Int)])∧fC {S with x:=(dD S.x g a t).2.2} ⟨.slice l S.x.gs.length gc,.slice q S.x.ds.length u,.slice z S.x.ds.length wc⟩ sb bb dn T (w.alloc (.cells #[(g:Nat),(a:Nat)] 46)).drew w'):=hZ (ac.mono (fun e w' h2=>⟨h2.1,(ag _ _ h2.2 I.1 I.2).1⟩))
 obtain⟨az,aj⟩:=nZ ((dD S.x g a t).1);rw[←aj] at N;have E:PuS C D w.heap.size sb [.slice l S.x.gs.length gc,S.x.secs,.slice q S.x.ds.length u,.slice z S.x.ds.length wc] [(g:Nat),(a:Nat)] t (w.alloc (.cells #[(g:Nat),(a:Nat)] 46)).drew:=
  ⟨ak.below J,hT.below J,Blk.new w _ [(g:Nat),(a:Nat)],wS (cs:=[.slice l S.x.gs.length gc,S.x.secs,.slice q S.x.ds.length u,.slice z S.x.ds.length wc]) L.o.is.cells⟩
 obtain⟨f,Z⟩:=nZ S.x.ds.length;obtain⟨O,aa⟩:=nZ S.x.gs.length;rw[←Z,←aa] at N E L;rw[←Z,←aa];obtain⟨Y,ad⟩:∃Y,Y=(dD S.x g a t).2.2:=⟨_,rfl⟩;have ar:Hid (Y.secs=S.x.secs):=hZ (by rw[ad];exact I.2)
 rw[←ad] at N⊢;have ae:Hid (¬T C∧¬T D∧¬T w.heap.size):=hZ ⟨ah,ai,fun aw=>by have:=h.lt _ aw;omega⟩
 clear ah ai Z aa aj G ac I am aq ag X al ht hr ak hT J h ad;go_in;go_upto_region 1 with fail
 refine l7 (S:=PuS C D w.heap.size sb [.slice l O gc,S.x.secs,.slice q f u,.slice z f wc] [(g:Nat),(a:Nat)] t) (by kernel_rfl) E (fun E=>?_)
 refine aE 0 ?_ (hy:=by intro w H;(try dsimp only at H);go_simp;rw[(PuS.s H).cell 0];rfl)
 refine aE 1 ?_;refine aE 2 ?_;refine mX 3 ?vy3 ?yy3 ?_
 case yy3=>refine m5 (by kernel_rfl) 43 (.tmp 11) ?_ sb (0) ?_ ([.slice l O gc,S.x.secs,.slice q f u,.slice z f wc]) _ (fun w' (G:PuS _ _ _ _ _ _ _ w')=>G.d) underlying43 rfl oQ<;>rfl
 refine mX 4 ?vy4 ?yy4 ?_
 case yy4=>refine m5 (by kernel_rfl) 46 (.tmp 4) ?_ w.heap.size (0) ?_ ([(g:Nat),(a:Nat)]) _ (fun w' (G:PuS _ _ _ _ _ _ _ w')=>jX G.p) underlying46 rfl aSj<;>rfl
 refine aE 5 ?_ (hy:=by intro w H;(try dsimp only at H);go_simp;rw[(PuS.t H).cell 0];rfl)
 refine dY (i:=6) (h:=fun K X=>?_)
 go_simp;refine N.o.mono ?_;rintro e ax ⟨rfl,af⟩;obtain⟨ba,ab,an,U⟩:=L.o.step af;have ao:=hZ ab;have au:Hid (PuS C D w.heap.size sb [.slice l O gc,S.x.secs,.slice q f u,.slice z f wc] [(g:Nat),(a:Nat)] t ax):=hZ ⟨U.blk E.s ae.o.1,U.blk E.t ae.o.2.1,U.blk E.p ae.o.2.2,by have:=wS (cs:=[.slice l O gc,Y.secs,.slice q f u,.slice z f wc]) ab.is.cells;rw[ar.o] at this;exact this⟩
 clear af ab an U
 try dsimp only
 refine X.o _ _ (au.o) (fun ay=>?_)
 try simp only[Act.put,z1,z2,z3]
 refine aE 7 ?_;refine aE 8 ?_;refine aE 9 ?_;refine aE 10 ?_;refine aE 11 ?_;refine r8 (by kernel_rfl) ?_ _
 try dsimp only
 go_wp21;go_ret;exact⟨rfl,ao.o.fin⟩
end
section
attribute [local go_sem ↓] Go.wp_at_zero Go.wp_at_succ
theorem aFe:∀(l:List (bJ×Bs)) (x:aK) (f:List Nat) (K:Nat),(∀c∈l,c.1.1<x.ds.length)→x.deep K→dT x (fU x l f).2∧(fU x l f).2.deep (K+l.length)
 |[],x,f,K,_,p=>⟨dT.refl x,p⟩
 |(c,s)::r,x,f,K,h,p=>by
  have u:=h (c,s) (bMf ..);have k1:=lG x c s u;unfold fU;obtain⟨z,a2⟩:=aFe r (eZ x c s).2 (if(eZ x c s).1=true then f else aLj f c.1) (K+1) (fun q C=>by rw[k1.n];exact h q (bMg _ C)) (aAk p c s u)
  refine⟨k1.trans z,?_⟩;simp only[bLn];rw[show K+(r.length+1)=K+1+r.length by omega]
  exact a2
theorem xL {x:aK} (hr:x.right=true) {a:Nat} (z:dX s=true) (h:dO x.gs x.secs g a ((s.length/64:Nat):Int)=true) {K:Nat} (C:x.deep K):dT x (dD x g a s).2.2∧(dD x g a s).2.2.deep (K+32):=by
 obtain⟨f,p,q⟩:∃f p,fU x ((aI x.gs g a (s.length/64)).zip (jC (aI x.gs g a (s.length/64)) (fJ s))) []=(f,p):=⟨_,_,rfl⟩;rw[rJ hr z h q];have l:=aFe ((aI x.gs g a (s.length/64)).zip (jC (aI x.gs g a (s.length/64)) (fJ s))) x [] K (fun c D=>by
  obtain⟨h1,_⟩:=List.of_mem_zip D;obtain⟨i,u,e⟩:=List.getElem_of_mem h1;have:=lC h u;rw[(bL hr).2.1,←e]
  rwa [a8,b9 u] at this) C
 rw[q] at l;refine⟨l.1,fun i k=>l6 (l.2 i k) ?_⟩
 rw[List.length_zip,dZ,Nat.min_self];have:=(jW h).2;omega
def iF (t:Bs):List (Nat×Nat)→aK→aK
 |[],x=>x
 |q::r,x=>iF t r (dD x q.1 q.2 t).2.2
theorem aRt (t:Bs) (l:List (Nat×Nat)) (x:aK) (k:Nat) (f:k<l.length):iF t (l.drop k) x=iF t (l.drop (k+1)) (dD x (l.getD k (0,0)).1 (l.getD k (0,0)).2 t).2.2:=by
 rw[bNh f];have e:l[k]=l.getD k (0,0):=by simp[a8,f]
 rw[e];rfl
def aK.takes (x:aK):Prop:=∀y,dT x y→∀g a t,dX t=true→dO y.gs y.secs (g:Nat) (a:Nat) ((t.length/64:Nat):Int)=true→(dD y g a t).2.1=0
theorem bEy {l:List (Nat×Nat)} (h:Blk W g e (aFl l)) (p:k<l.length):
  W.cell? ⟨g,k*2,none⟩=some (.int .i64 ((l.getD k (0,0)).1:Nat))∧W.cell? ⟨g,k*2+1,none⟩=some (.int .i64 ((l.getD k (0,0)).2:Nat)):=by
 refine⟨?_,?_⟩
 ·have:=jQ (f:=fun q:Nat×Nat=>[Value.int .i64 (q.1:Nat),.int .i64 (q.2:Nat)]) (K:=2) (fun _=>rfl) l k 0 (0,0) p (by omega)
  rw[h.cell];exact this
 ·have:=jQ (f:=fun q:Nat×Nat=>[Value.int .i64 (q.1:Nat),.int .i64 (q.2:Nat)]) (K:=2) (fun _=>rfl) l k 1 (0,0) p (by omega)
  rw[h.cell];exact this
theorem aRi {S:dK} (h:bN w sb S V bb dn T) (f p ac H cap:Nat) (t:Bs) (l:List (Nat×Nat)) (az:Blk w f 100 [.pointer (some sb)]) (hT:Blk w p 9 [.string ⟨t.toArray⟩]) (ba:Blk w H 46 (aFl l)) (am:¬T f) (an:¬T p) (bh:l.length≤2)
  (hr:S.x.right=true) (ht:dX t=true) (ad:∀q∈l,dO S.x.gs S.x.secs (q.1:Nat) (q.2:Nat) ((t.length/64:Nat):Int)=true) (K:Nat) (C:S.x.deep K) (bs:K+200≤1000000000) (bc:S.x.takes):
  Calls prog 142 #[.slice (some H) l.length cap,.func (.func 342) #[] #[.pointer (some f),.pointer (some p),.pointer (some ac)]] w fun e w'=>e= .returned (.int .i64 (-1))∧fC {S with x:=iF t l S.x} V sb bb dn T w w':=by
 obtain⟨R,ae⟩:=nZ (iF t l S.x);rw[←ae];have ao:=hZ ae.symm;have bi:Hid (∀(y:aK) (W:World) (I:Nat→Prop) (k:Nat),bN W sb {S with x:=y} V bb dn I→dT S.x y→y.deep (K+32*k)→k<l.length→Blk W f 100 [.pointer (some sb)]→Blk W p 9 [.string ⟨t.toArray⟩]→¬I f→¬I p→
   Calls prog 342 #[.agg #[.int .i64 ((l.getD k (0,0)).1:Nat),.int .i64 ((l.getD k (0,0)).2:Nat)],.pointer (some f),.pointer (some p),.pointer (some ac)] W fun e w'=>e= .returned false∧fC {S with x:=(dD y (l.getD k (0,0)).1 (l.getD k (0,0)).2 t).2.2} V sb bb dn I W w'):=hZ (fun y W I k hy kp C Z h1 h2 bo bq=>by
  have E:=ad (l.getD k (0,0)) (by rw[a8,b9 Z];exact n5 _)
  have ab:dO y.gs y.secs ((l.getD k (0,0)).1:Nat) ((l.getD k (0,0)).2:Nat) ((t.length/64:Nat):Int)=true:=by rw[kp.gs,kp.secs];exact E
  have G:=xL (kp.right hr) ht ab C;exact bAx hy f p ac t h1 h2 bo bq (l.getD k (0,0)).1 (l.getD k (0,0)).2 (kp.right hr) ht ab (K+32*k) C (by omega) (bc y kp _ _ t ht ab) ⟨G.1.gs,G.1.secs⟩)
 have bj:Hid (∀(y:aK) (k:Nat),dT S.x y→y.deep (K+32*k)→k<l.length→dT S.x (dD y (l.getD k (0,0)).1 (l.getD k (0,0)).2 t).2.2∧(dD y (l.getD k (0,0)).1 (l.getD k (0,0)).2 t).2.2.deep (K+32*(k+1))):=hZ (fun y k kp C Z=>by
  have E:=ad (l.getD k (0,0)) (by rw[a8,b9 Z];exact n5 _)
  have G:=xL (kp.right hr) ht (by rw[kp.gs,kp.secs];exact E) C
  exact⟨kp.trans G.1,by rw[Nat.mul_succ,←bMc];exact G.2⟩)
 have ak:=hZ (fT.start h);have ap:Hid (Blk w f 100 [.pointer (some sb)]∧Blk w p 9 [.string ⟨t.toArray⟩]∧Blk w H 46 (aFl l)):=hZ ⟨az,hT,ba⟩;have aq:Hid (¬T f∧¬T p):=hZ ⟨am,an⟩;have ar:=hZ C;obtain⟨n,af⟩:=nZ l.length;rw[←af] at bh⊢;have au:=hZ af;clear ae h az hT ba am an hr ht ad C bc af;go_in;go_wp21;go_loopw [8] (fun i wr=>∃(k:Nat) (u:aK) (J:Nat→Prop),k≤n∧i= .int .i64 k∧Hid (fT {S with x:=u} V sb bb dn T w wr J)∧Hid (Blk wr f 100 [.pointer (some sb)]∧Blk wr p 9 [.string ⟨t.toArray⟩]∧Blk wr H 46 (aFl l))∧Hid (¬J f∧¬J p)∧Hid (iF t (l.drop k) u=R)∧Hid (dT S.x u∧u.deep (K+32*k))) (fun i _=>n-(intOf i).toNat)
 case atStart=>exact⟨0,S.x,T,by omega,rfl,ak,ap,aq,ao,hZ ⟨dT.refl _,ar.o⟩⟩
 case round=>
  obtain⟨k,u,J,Z,rfl,N,z,D,av,O⟩:=hrel;clear ak ap aq ao ar;by_cases bk:k<n
  ·have U:k<l.length:=by rw[←au.o];exact bk
   obtain⟨c0,ag⟩:=bEy z.o.2.2 U;have X:=av.o;rw[aRt t l u k U] at X;have L:=hZ (bi.o u wr J k N.o.is O.o.1 O.o.2 U z.o.1 z.o.2.1 D.o.1 D.o.2);have aw:=hZ (bj.o u k O.o.1 O.o.2 U);obtain⟨br,ax⟩:=nZ ((dD u (l.getD k (0,0)).1 (l.getD k (0,0)).2 t).2.2);rw[←ax] at X L aw;have bd:=hZ X;obtain⟨⟨bt,bu⟩,E⟩:∃q:Nat×Nat,q=l.getD k (0,0):=⟨_,rfl⟩;rw[←E] at c0 ag L;dsimp only at c0 ag L;clear X ax E;go_wp21;refine L.o.mono ?_;rintro e ah ⟨rfl,aj⟩;obtain⟨ai,al,aa,Y⟩:=N.o.step aj;have be:=hZ al;have bl:Hid (Blk ah f 100 [.pointer (some sb)]∧Blk ah p 9 [.string ⟨t.toArray⟩]∧Blk ah H 46 (aFl l)):=hZ ⟨Y.blk z.o.1 D.o.1,Y.blk z.o.2.1 D.o.2,Y.blk z.o.2.2 (N.o.is.noType z.o.2.2 (by unfold kD cH lZ;decide))⟩
   have bm:Hid (¬ai f∧¬ai p):=hZ ⟨aa _ z.o.1.lt D.o.1,aa _ z.o.2.1.lt D.o.2⟩;clear aj al aa Y L c0 ag;go_wp21;go_roundw
   case rel=>exact⟨k+1,br,ai,by omega,by go_num,be,bl,bm,bd,aw⟩
   case measure=>simp[intOf];omega
  ·have bf:k=n:=by omega
   subst bf;have ay:u=R:=by
    have:=av.o;rw[bNj (by rw[au.o];exact d8 _)] at this
    exact this
   have bn:=hZ ay;clear ay;go_wp21;go_ret;rw[←bn.o];exact⟨rfl,N.o.fin⟩
theorem aMn {S:dK} (h:bN w sb S V bb dn T) (f p I u cap:Nat) (t:Bs) (l:List (Nat×Nat)) (J:Blk w f 100 [.pointer (some sb)]) (hT:Blk w p 9 [.string ⟨t.toArray⟩]) (L:Blk w u 46 (aFl l)) (C:¬T f) (D:¬T p) (E:l.length≤2)
  (hr:S.x.right=true) (ht:dX t=true) (N:∀q∈l,dO S.x.gs S.x.secs (q.1:Nat) (q.2:Nat) ((t.length/64:Nat):Int)=true) (K:Nat) (O:S.x.deep K) (G:K+200≤1000000000) (U:S.x.takes):
  Calls prog 341 #[.slice (some u) l.length cap,.func (.func 342) #[] #[.pointer (some f),.pointer (some p),.pointer (some I)]] w fun e w'=>e= .returned (.slice (some u) l.length cap)∧fC {S with x:=iF t l S.x} V sb bb dn T w w':=by
 have z:=hZ (aRi h f p I u cap t l J hT L C D E hr ht N K O G U);obtain⟨R,X⟩:=nZ (iF t l S.x);rw[←X] at z⊢;obtain⟨n,Y⟩:=nZ l.length;rw[←Y] at z⊢;clear h J hT L C D E hr ht N O G U X Y;go_in;go_wp21;refine z.o.mono ?_;rintro e aa ⟨rfl,H⟩;have Z:=hZ H;clear H z;go_wp21;go_ret;exact⟨rfl,Z.o⟩
end
theorem aAw (first f at_:Nat) (p:3≤f∧f≤8):∀i,(jV first f at_ i).length=i+(i+f-2)/(f-1)
 |0=>by
  show 0=_
  rcases(by omega:f=3∨f=4∨f=5∨f=6∨f=7∨f=8) with rfl|rfl|rfl|rfl|rfl|rfl<;>rfl
 |i+1=>by
  have l:=aAw first f at_ p i;unfold jV;rw[jU];split
  ·rename_i h
   rw[jU,l];rcases(by omega:f=3∨f=4∨f=5∨f=6∨f=7∨f=8) with rfl|rfl|rfl|rfl|rfl|rfl<;>omega
  ·rename_i h
   rw[l];rcases(by omega:f=3∨f=4∨f=5∨f=6∨f=7∨f=8) with rfl|rfl|rfl|rfl|rfl|rfl<;>omega
theorem aBl {a size:Nat} (h:dO gs secs g a size=true) (f:i<(aI gs g a size).length):((((aI gs g a size).getD i cD).2.1:Nat):Int)<secs:=by
 obtain⟨hr,_,J,H,I,_,_,_,_,u⟩:=bK h;have x:g<gs.length:=by omega
 have z:=bM hr x;have E:=(aS hr).2.2.1;have l:=u.top;have C:bO gs secs g size=takes (gs.getD g (0,0)) size:=by
  unfold bO tU;rw[hr,bMi (by omega),i6 ⟨rfl,by omega,by omega⟩,s7]
 unfold fQ at l;simp only[s7] at l;rw[C] at l;unfold takes jF at l;unfold aI at f⊢;split
 ·rename_i p
  rw[i6 p,dA] at f;rw[kK _ _ _ _ _ f];rw[i6 p,i9 (by omega)] at l
  have h1:i%size<size:=bNd _ (by omega)
  dsimp only;omega
 ·rename_i p
  rw[i9 p] at f;have D:(gs.getD g (0,0)).1=1:=by omega
  obtain⟨w,q⟩:=nZ ((gs.getD g (0,0)).2);rw[i9 p,i6 D,←q] at l;rw[←q] at f z⊢;rw[(lJ _ _ _ _ i f).2];have G:3≤w∧w≤8:=by omega
  rw[aAw _ _ _ (by omega)] at f
  unfold aKr at l;rcases(by omega:w=3∨w=4∨w=5∨w=6∨w=7∨w=8) with rfl|rfl|rfl|rfl|rfl|rfl<;>(simp only[show((3:Int)).toNat=3 from rfl,show((4:Int)).toNat=4 from rfl,show((5:Int)).toNat=5 from rfl,show((6:Int)).toNat=6 from rfl,show((7:Int)).toNat=7 from rfl,show((8:Int)).toNat=8 from rfl] at f⊢;omega)
structure aK.one (x:aK):Prop where
 calm:x.calm
 right:x.right=true
 here:∀i,i<x.ds.length→x.here i=true
theorem aK.one.kept {x y:aK} (h:x.one) (k:dT x y):y.one:=
 ⟨k.calm h.calm,k.right h.right,fun i f=>by rw[k.here];exact h.here i (by rw[←k.n];exact f)⟩
theorem aK.one.takes {x:aK} (h:x.one):x.takes:=fun y k g a t ht p=>by
 have hy:=h.kept k;have J:t.length%64=0:=by
  unfold dX at ht;simp only[bLt] at ht;exact ht.2.1
 obtain⟨f,H,I⟩:∃f H,fU y ((aI y.gs g a (t.length/64)).zip (jC (aI y.gs g a (t.length/64)) (fJ t))) []=(f,H):=⟨_,_,rfl⟩;rw[rJ hy.right ht p I];obtain⟨hr,_,ab,X,Y,_⟩:=bK p;have L:g<y.gs.length:=by omega
 have Z:=bM hr L;have z:=bL hy.right;have N:0<(fJ t).length:=by unfold fJ;rw[yV];omega
 have E:∀c∈(aI y.gs g a (t.length/64)).zip (jC (aI y.gs g a (t.length/64)) (fJ t)),∃i,i<(aI y.gs g a (t.length/64)).length∧c.1=(aI y.gs g a (t.length/64)).getD i cD∧c.2=(jC (aI y.gs g a (t.length/64)) (fJ t)).getD i []:=fun c q=>by
  obtain⟨i,l,e⟩:=List.getElem_of_mem q;rw[List.length_zip,dZ,Nat.min_self] at l;rw[List.getElem_zip] at e;refine⟨i,l,?_,?_⟩
  ·rw[←e];simp[a8,l]
  ·rw[←e];simp[a8,dZ,l]
 have u:=aFf ((aI y.gs g a (t.length/64)).zip (jC (aI y.gs g a (t.length/64)) (fJ t))) y [] hy.calm (fun c q=>by
  obtain⟨i,l,C,O⟩:=E c q;have D:=lC p l;have aa:=aBl p l;rw[C,O];have G:((aI y.gs g a (t.length/64)).getD i cD).1<y.ds.length:=by rw[z.2.1];exact D
  refine⟨G,?_,aLo (aDr J) N (aBe y.gs g a (t.length/64)) i l⟩;have:=z.2.2.2 _ G;omega)
 rw[I] at u;dsimp only at u;have U:=List.eq_nil_iff_forall_not_mem.2 fun d D=>by
  rcases u d D with h1|⟨h1,c,q,e⟩
  ·cases h1
  ·obtain⟨i,l,C,_⟩:=E c q
   have:=lC p l;rw[hy.here d (by rw[←e,C,z.2.1];exact this)] at h1
   cases h1
 subst U;dsimp only;rw[i9];rintro(⟨h1,h2⟩|⟨h1,h2⟩)
 ·have ac:(0:Int)=(y.gs.getD g (0,0)).2:=h2
  omega
 ·simp at h2
theorem wP (h:g<gs.length):fX gs (g+1)=fX gs g+(gs.getD g (0,0)).2:=by
 unfold fX;rw[m8 h,bNa,List.sum_append];have e:gs.getD g (0,0)=gs[g]:=by simp[a8,h]
 rw[e];congr 1;exact Int.add_zero _
theorem aAp (hr:bH gs secs=true):∀(n g:Nat),g+n≤gs.length→fX gs g≤fX gs (g+n)
 |0,g,_=>Int.le_refl _
 |n+1,g,h=>by
  have h1:=aAp hr n g (by omega)
  have f:=bM hr (show g+n<gs.length by omega)
  rw[←bMc,wP (gs:=gs) (g:=g+n) (by omega)]
  omega
theorem aEt (hr:bH gs secs=true) (f:g<g2) (h2:g2<gs.length):fX gs g+(gs.getD g (0,0)).2≤fX gs g2:=by
 rw[←wP (show g<gs.length by omega)]
 have:=aAp hr (g2-(g+1)) (g+1) (by omega)
 rwa [show g+1+(g2-(g+1))=g2 by omega] at this
theorem aFk {a size:Nat} (h:dO gs secs g a size=true) (f:i<(aI gs g a size).length):
  ∃x,aHe (fQ gs secs size (g,a)) g x∧((gs.getD g (0,0)).1=0→((aI gs g a size).getD i cD).2.1=16+x)∧((gs.getD g (0,0)).1≠0→((aI gs g a size).getD i cD).1=(fX gs g).toNat+x%(gs.getD g (0,0)).2.toNat∧((aI gs g a size).getD i cD).2.1=16+x/(gs.getD g (0,0)).2.toNat):=by
 obtain⟨hr,_,G,C,D,_⟩:=bK h;have u:g<gs.length:=by omega
 have E:=bM hr u;have p:bO gs secs g size=takes (gs.getD g (0,0)) size:=by
  unfold bO tU;rw[hr,bMi (by omega),i6 ⟨rfl,by omega,by omega⟩,s7]
 by_cases l:(gs.getD g (0,0)).1=0
 ·have e:aI gs g a size=lX (fX gs g).toNat a size (gs.getD g (0,0)).2.toNat:=by unfold aI;rw[i6 l]
  rw[e] at f⊢;rw[dA] at f;rw[kK _ _ _ _ _ f];have h1:i%size<size:=bNd _ (by omega)
  refine⟨a+i%size,⟨rfl,?_,?_⟩,fun _=>by dsimp only;omega,absurd l⟩
  ·show a≤a+_;omega
  ·show a+i%size<a+(bO gs secs (g:Nat) size).toNat
   rw[p];unfold takes;rw[i6 l];omega
 ·have e:aI gs g a size=jV (fX gs g).toNat (gs.getD g (0,0)).2.toNat a size:=by unfold aI;rw[i9 l]
  rw[e] at f⊢;have q:=lJ (fX gs g).toNat (gs.getD g (0,0)).2.toNat a size i f;refine⟨a+i,⟨rfl,?_,?_⟩,fun h=>absurd h l,fun _=>q⟩
  ·show a≤a+i;omega
  ·show a+i<a+(bO gs secs (g:Nat) size).toNat
   rw[p];unfold takes aKr;rw[i9 l];have z:3≤(gs.getD g (0,0)).2∧(gs.getD g (0,0)).2≤8:=by omega
   rw[aAw _ _ _ (by omega)] at f
   clear q e p;generalize (gs.getD g (0,0)).2=w at*;rcases(by omega:w=3∨w=4∨w=5∨w=6∨w=7∨w=8) with rfl|rfl|rfl|rfl|rfl|rfl<;>(simp only[show((3:Int)).toNat=3 from rfl,show((4:Int)).toNat=4 from rfl,show((5:Int)).toNat=5 from rfl,show((6:Int)).toNat=6 from rfl,show((7:Int)).toNat=7 from rfl,show((8:Int)).toNat=8 from rfl] at f⊢;omega)
theorem aRd {a size:Nat} (h1:dO gs secs g a size=true) (h2:dO gs secs g2 a2 size2=true) (z:Dis (fQ gs secs size (g,a)) (fQ gs secs size2 (g2,a2))) (l:i<(aI gs g a size).length) (p:j<(aI gs g2 a2 size2).length):
  ¬(((aI gs g a size).getD i cD).1=((aI gs g2 a2 size2).getD j cD).1∧((aI gs g a size).getD i cD).2.1=((aI gs g2 a2 size2).getD j cD).2.1):=by
 rintro⟨L,N⟩;obtain⟨hr,_,O,_⟩:=bK h1;obtain⟨_,_,J,_⟩:=bK h2;have r1:=aId h1 l;have r2:=aId h2 p;have U:=(pZ hr g (by omega)).1
 have X:=(pZ hr g2 (by omega)).1
 have Y:=bM hr (show g<gs.length by omega)
 have w2:=bM hr (show g2<gs.length by omega)
 rcases Nat.lt_trichotomy g g2 with f|f|f
 ·have:=aEt hr f (by omega);omega
 ·subst f
  obtain⟨x,C,D,E⟩:=aFk h1 l;obtain⟨y,hy,G,y1⟩:=aFk h2 p;have u:x=y:=by
   by_cases h:(gs.getD g (0,0)).1=0
   ·have:=D h;have:=G h;omega
   ·obtain⟨Z,aa⟩:=E h
    obtain⟨ab,ac⟩:=y1 h;have H:x%(gs.getD g (0,0)).2.toNat=y%(gs.getD g (0,0)).2.toNat:=by omega
    have I:x/(gs.getD g (0,0)).2.toNat=y/(gs.getD g (0,0)).2.toNat:=by omega
    have q:=Nat.mod_add_div x (gs.getD g (0,0)).2.toNat;rw[H,I,Nat.mod_add_div y (gs.getD g (0,0)).2.toNat] at q;exact q.symm
  subst u;exact z g x C hy
 ·have:=aEt hr f (by omega);omega
theorem aTj (δ:bC) (a:Int) (s:Bs) (k:Nat) (h:(a.toNat≠k)∨(δ.writeE a s).1≠0):(δ.writeE a s).2.now k=δ.now k:=by
 unfold bC.writeE at h⊢;split
 ·rfl
 ·split
  ·rfl
  ·split
   ·rfl
   ·rename_i h1 h2 f
    rw[i9 h1,i9 h2,i9 f] at h;dsimp only;rw[bC.now_wrote];rcases h with h|h
    ·rw[i9 (fun e=>h e.symm)]
    ·exact absurd rfl h
theorem vO {x:aK} {c c2:bJ} (f:c.1<x.ds.length) (h:¬(c.1=c2.1∧c.2.1=c2.2.1)):(eZ x c s).2.col c2=x.col c2:=by
 have k:=lG x c s f;unfold aK.col;rw[k.here];split
 ·have l:((eZ x c s).2.ds.getD c2.1 eN).mayE (jE c2)=(x.ds.getD c2.1 eN).mayE (jE c2):=by
   unfold bC.mayE;rw[(k.dev c2.1).1,(k.dev c2.1).2.1]
  unfold bC.readE;rw[l];split
  ·dsimp only
   unfold eZ;split
   ·dsimp only
    rw[aK.set_getD x c.1 c2.1 _ f];split
    ·rename_i e
     rw[aTj _ _ _ _ (.inl (by unfold jE;intro p;exact h ⟨e.symm,by simpa using p⟩)),e]
    ·rfl
   ·rfl
  ·rfl
 ·rfl
theorem aKl {x:aK} {c:bJ} (q:x.calm) (l:c.1<x.ds.length) (f:x.here c.1=true) (z:c.2.1<(x.ds.getD c.1 eN).med.length) (C:s.length=64):(eZ x c s).2.col c=s:=by
 have k:=lG x c s l;have u:(x.ds.getD c.1 eN).lost=false:=by
  unfold aK.here at f;simp only[y8,bNr] at f;exact f.2
 have h:(x.ds.getD c.1 eN).mayE (jE c)=0:=by
  unfold bC.mayE jE;rw[i9 (by rw[u];decide),i9 (by omega)]
 have p:((eZ x c s).2.ds.getD c.1 eN).mayE (jE c)=0:=by
  rw[←h];unfold bC.mayE;rw[(k.dev c.1).1,(k.dev c.1).2.1]
 unfold aK.col;rw[k.here,i6 f];unfold bC.readE;rw[i6 p];dsimp only;unfold eZ;rw[i6 f];dsimp only;rw[aK.set_getD x c.1 c.1 _ l,i6 rfl];unfold bC.writeE;rw[i9 (by rw[h];decide),i9 (by omega),i9 (by rw[(q c.1).resolve_right (by omega)];decide)]
 dsimp only;rw[bC.now_wrote,i6 rfl]
def aPl (c e:bJ):Prop:=c.1=e.1∧c.2.1=e.2.1
theorem bEi {x:aK} {c:bJ} (h:x.here c.1=false):x.col c=[]:=by
 unfold aK.col;rw[i9 (by rw[h];decide)]
theorem lL:∀(l:List (bJ×Bs)) (x:aK) (f:List Nat) (c2:bJ),(∀c∈l,c.1.1<x.ds.length)→(∀c∈l,¬aPl c.1 c2)→(fU x l f).2.col c2=x.col c2
 |[],x,f,c2,_,_=>rfl
 |(c,s)::r,x,f,c2,h,u=>by
  have z:=h (c,s) (bMf ..);unfold fU;rw[lL r _ _ c2 (fun q p=>by rw[(lG x c s z).n];exact h q (bMg _ p)) (fun q p=>u q (bMg _ p))]
  exact vO z (u (c,s) (bMf ..))
theorem qI:∀(l:List (bJ×Bs)) (x:aK) (f:List Nat),x.calm→(∀c∈l,c.1.1<x.ds.length∧c.1.2.1<(x.ds.getD c.1.1 eN).med.length∧c.2.length=64)→l.Pairwise (fun a b=>¬aPl a.1 b.1)→∀q∈l,x.here q.1.1=true→(fU x l f).2.col q.1=q.2
 |[],x,f,_,_,_,q,p,_=>by cases p
 |(c,s)::r,x,f,C,h,u,q,p,D=>by
  obtain⟨h1,h2,G⟩:=h (c,s) (bMf ..);have k:=lG x c s h1;rw[List.pairwise_cons] at u;have hr:∀q∈r,q.1.1<(eZ x c s).2.ds.length∧q.1.2.1<((eZ x c s).2.ds.getD q.1.1 eN).med.length∧q.2.length=64:=fun q p=>by
   obtain⟨H,a2,I⟩:=h q (bMg _ p);exact⟨by rw[k.n];exact H,by rw[(k.dev q.1.1).1];exact a2,I⟩
  unfold fU;rcases s8.1 p with rfl|p
  ·rw[lL r _ _ c (fun e z=>(hr e z).1) (fun e z E=>u.1 e z ⟨E.1.symm,E.2.symm⟩)]
   exact aKl C h1 D h2 G
  ·exact qI r _ _ (k.calm C) hr u.2 q p (by rw[k.here];exact D)
theorem aYw {a size:Nat} (h:dO gs secs g a size=true) (q:i<(aI gs g a size).length) (f:j<(aI gs g a size).length) (e:aPl ((aI gs g a size).getD i cD) ((aI gs g a size).getD j cD)):i=j:=by
 obtain⟨l,p⟩:=e;unfold aI at q f l p;split at q
 ·rename_i x
  rw[i6 x] at f l p;rw[dA] at q f;rw[kK _ _ _ _ _ q,kK _ _ _ _ _ f] at l p;dsimp only at l p;have u:=Nat.mod_add_div i size;have z:=Nat.mod_add_div j size;have C:i/size=j/size:=by omega
  have D:i%size=j%size:=by omega
  rw[C,D,z] at u;exact u.symm
 ·rename_i x
  rw[i9 x] at f l p;obtain⟨E,G⟩:=lJ _ _ _ _ i q;obtain⟨H,I⟩:=lJ _ _ _ _ j f;rw[E,H] at l;rw[G,I] at p;have u:=Nat.mod_add_div (a+i) (gs.getD g (0,0)).2.toNat;have z:=Nat.mod_add_div (a+j) (gs.getD g (0,0)).2.toNat;have C:(a+i)%(gs.getD g (0,0)).2.toNat=(a+j)%(gs.getD g (0,0)).2.toNat:=by omega
  have D:(a+i)/(gs.getD g (0,0)).2.toNat=(a+j)/(gs.getD g (0,0)).2.toNat:=by omega
  rw[C,D,z] at u;omega
theorem bAn {a size:Nat} (h:dO gs secs g a size=true) (T:List Bs):((aI gs g a size).zip T).Pairwise (fun a b=>¬aPl a.1 b.1):=by
 rw[bOe];intro i j p q z e;rw[List.length_zip] at p q;rw[List.getElem_zip,List.getElem_zip] at e;have f:i<(aI gs g a size).length:=by omega
 have l:j<(aI gs g a size).length:=by omega
 have u:(aI gs g a size)[i]=(aI gs g a size).getD i cD:=by simp[a8,f]
 have x:(aI gs g a size)[j]=(aI gs g a size).getD j cD:=by simp[a8,l]
 dsimp only at e;rw[u,x] at e;have:=aYw h f l e;omega
def tE (x:aK) (g a:Nat) (t:Bs):List Bs:=((aI x.gs g a (t.length/64)).zip (jC (aI x.gs g a (t.length/64)) (fJ t))).map fun q=>if x.here q.1.1=true then q.2 else[]
theorem aEw {x:aK} (hr:x.right=true) {a:Nat} (ht:dX t=true) (h:dO x.gs x.secs (g:Nat) (a:Nat) ((t.length/64:Nat):Int)=true):∀c∈(aI x.gs g a (t.length/64)).zip (jC (aI x.gs g a (t.length/64)) (fJ t)),c.1.1<x.ds.length∧c.1.2.1<(x.ds.getD c.1.1 eN).med.length∧c.2.length=64:=by
 have q:t.length%64=0:=by
  unfold dX at ht;simp only[bLt] at ht;exact ht.2.1
 obtain⟨_,_,I,E,G,_⟩:=bK h;have l:=bL hr;have u:0<(fJ t).length:=by unfold fJ;rw[yV];omega
 intro c z;obtain⟨i,f,e⟩:=List.getElem_of_mem z;rw[List.length_zip,dZ,Nat.min_self] at f;rw[List.getElem_zip] at e;have C:c.1=(aI x.gs g a (t.length/64)).getD i cD:=by rw[←e];simp[a8,f]
 have D:c.2=(jC (aI x.gs g a (t.length/64)) (fJ t)).getD i []:=by rw[←e];simp[a8,dZ,f]
 have H:=aBl h f;rw[C,D];have p:((aI x.gs g a (t.length/64)).getD i cD).1<x.ds.length:=by rw[l.2.1];exact(lC h f)
 refine⟨p,?_,aLo (aDr q) u (aBe x.gs g a (t.length/64)) i f⟩;have:=l.2.2.2 _ p;omega
theorem qO:∀(l:List (bJ×Bs)) (x:aK) (f:List Nat),(∀c∈l,c.1.1<x.ds.length)→dT x (fU x l f).2
 |[],x,f,_=>dT.refl x
 |(c,s)::r,x,f,h=>by
  have k:=lG x c s (h (c,s) (bMf ..));unfold fU;exact k.trans (qO r _ _ (fun q p=>by rw[k.n];exact h q (bMg _ p)))
theorem aYz {x:aK} (E:x.calm) (hr:x.right=true) {a:Nat} (ht:dX t=true) (p:dO x.gs x.secs (g:Nat) (a:Nat) ((t.length/64:Nat):Int)=true):kG (dD x g a t).2.2 g a (t.length/64)=tE x g a t:=by
 obtain⟨f,h,u⟩:∃f h,fU x ((aI x.gs g a (t.length/64)).zip (jC (aI x.gs g a (t.length/64)) (fJ t))) []=(f,h):=⟨_,_,rfl⟩;rw[rJ hr ht p u];have z:=aEw hr ht p;have C:dT x h:=by
  have:=qO ((aI x.gs g a (t.length/64)).zip (jC (aI x.gs g a (t.length/64)) (fJ t))) x [] (fun c G=>(z c G).1)
  rw[u] at this;exact this
 have l:=qI ((aI x.gs g a (t.length/64)).zip (jC (aI x.gs g a (t.length/64)) (fJ t))) x [] E z (bAn p _);rw[u] at l;dsimp only at l⊢;unfold kG tE;rw[C.gs];have e:aI x.gs g a (t.length/64)=((aI x.gs g a (t.length/64)).zip (jC (aI x.gs g a (t.length/64)) (fJ t))).map Prod.fst:=by
  rw[List.map_fst_zip];rw[dZ];exact d8 _
 conv=>lhs;rw[e]
 rw[List.map_map];refine bOo fun q H=>?_
 show h.col q.1=_
 cases D:x.here q.1.1 with
 |true=>rw[i6 rfl];exact l q H D
 |false=>
  rw[i9 (by decide)]
  exact bEi (by rw[C.here];exact D)
theorem aIw (s:Bs):∀k,(vG s k).flatten=s.take (64*k)
 |0=>by simp[vG]
 |k+1=>by
  rw[aIi,List.flatten_append,aIw s k,List.flatten_singleton];have e:(s.take (64*k+64)).take (64*k)=s.take (64*k):=by rw[List.take_take,Nat.min_eq_left (by omega)]
  rw[←e,bOg,Nat.mul_succ]
theorem aHp (h:s.length%64=0):(fJ s).flatten=s:=by
 unfold fJ;rw[aIw,show 64*(s.length/64)=s.length by omega,bLz]
theorem rA (s:Bs):(fJ s).length=s.length/64:=by unfold fJ;rw[yV]
theorem aCb {l:List bJ} (h:∀i,i<l.length→(l.getD i cD).2.2.1=false):∀k,k≤l.length→gZ l k=k
 |0,_=>by have:=aBc l 0;omega
 |k+1,f=>by
  rw[lD l k (by omega),aCb h k (by omega),i9 (by rw[h k (by omega)];decide)]
theorem bGp {first a size:Nat} (data:List Bs) (p:data.length=size) (h:i<m*size):(jC (lX first a size m) data).getD i []=data.getD (i%size) []:=by
 have l:∀i,i<(lX first a size m).length→((lX first a size m).getD i cD).2.2.1=false:=fun i h=>by
  rw[dA] at h;rw[kK _ _ _ _ _ h]
 have f:i<(lX first a size m).length:=by rw[dA];exact h
 rw[rD _ _ f,i9 (by rw[l i f];decide),mG _ _ _ _ f,i9 (by rw[l i f];decide),aCb l i (by omega),r9,p]
def yS (l:List bJ) (F:Nat→Bs) (is:List Nat):Bs:=is.flatMap fun i=>if(l.getD i cD).2.2.1=true then[] else F i
theorem aCd (l:List bJ) (k:Nat):∀m,k+m≤l.length→gZ l k≤gZ l (k+m)
 |0,_=>d8 _
 |m+1,h=>by
  have h1:=aCd l k m (by omega)
  rw[←bMc,lD l (k+m) (by omega)]
  omega
theorem aUv {l:List bJ} (q:data.length=gZ l l.length):∀k,k≤l.length→yS l (fun i=>(jC l data).getD i []) (List.range k)=(data.take (gZ l k)).flatten
 |0,_=>by
  have:=aBc l 0;rw[show gZ l 0=0 by omega]
  rfl
 |k+1,x=>by
  have p:=aUv q k (by omega)
  unfold yS at p⊢;rw[bMk,bNn,p,lD l k (by omega)]
  by_cases f:(l.getD k cD).2.2.1=true
  ·rw[i6 f,Nat.add_zero,bMb,List.flatMap_nil,i6 f,bMv,bMv]
  ·have u:=aCd l (k+1) (l.length-(k+1)) (by omega)
   rw[lD l k (by omega),i9 f,show k+1+(l.length-(k+1))=l.length by omega] at u
   rw[i9 f];have h:gZ l k<data.length:=by omega
   rw[m8 h,List.flatten_append];congr 1;rw[bMb,List.flatMap_nil,i9 f,bMv,List.flatten_singleton];dsimp only;rw[rD l data (by omega),i9 f,mG data l 0 k (by omega),i9 f,r9,Nat.mod_eq_of_lt h,a8,b9 h]
   rfl
theorem qM (ht:dX t=true):t≠[]∧t.length%64=0∧t.length≤256:=by
 unfold dX at ht;simpa using ht
theorem bEb (ht:dX t=true):0<(fJ t).length:=by
 obtain⟨h1,h2,f⟩:=qM ht;rw[rA];have:0<t.length:=List.length_pos_iff.2 h1;omega
theorem pC (s x:Operand)
  (D:o.op= .call {callee:= .builtin .append,args:=#[s,x],argTypes:=#[31,31]}) (v:Value) (got:List aC) (E:a.eval s=v) (l:w.ownsRow 0 51 12 v got.length (aF got))
  (b c:Nat) (p:aC) (G:a.eval x= .slice (some b) 1 c) (H:w.rangeAt b 0 (aA p)) (U:got.length≤1000000)
  (h:∀v' w',w'.ownsRow 0 51 12 v' (got++[p]).length (aF (got++[p]))→w.grownBy w' v.ownBlock→(v'.ownBlock=v.ownBlock∨v'.ownBlock=some w.heap.size)→K (a.put o.dst v') w'):Oper.wp prog o a w K Q:=by
 obtain⟨I,J,q,z,C⟩:=bMo aMh;have L:aF [p]=aA p:=by simp[aF]
 obtain⟨v',w',hr,h2,N,X,O⟩:=run_append_own_at (P:=prog) w 0 31 o.type 51 I (.agg yE) 12 96 underlying31 J q z C rfl (Nat.succ_pos 11)
  v got.length (aF got) l b 1 c (aF [p]) (aQ [p]) (fun j u f=>by rw[Addr.add_mid];rw[L] at f;exact H j u f) (nV [p]) (by unfold maxLen;omega) (by omega) (z6 _)
 unfold Oper.wp execOp;simp only[D,resolve,invoke,builtin,bLr,Sem.run_pure,y7,List.map_toArray,List.map_cons,List.map_nil,E,G,hr];refine h v' w' ?_ N O;rw[←rR] at h2;rw[i7];exact h2
theorem bN.app {S:dK} (h:bN w sb S V bb (some d) T):∃bv,Blk w d 342 [(S.fixed:Nat),bv]∧w.ownsRow 0 51 12 bv S.born.length (aF S.born)∧
  ∀p v' f,f.ownsRow 0 51 12 v' (S.born++[p]).length (aF (S.born++[p]))→w.grownBy f bv.ownBlock→(v'.ownBlock=bv.ownBlock∨v'.ownBlock=some w.heap.size)→
   Blk f d 342 [(S.fixed:Nat),bv]∧fC {S with born:=S.born++[p]} V sb bb (some d) T w (f.setCell ⟨d,1,none⟩ v'):=by
 obtain⟨eb,ms,bv,F,h,hT⟩:=h;obtain⟨C,J⟩:=h.don;refine⟨bv,C,J,fun p v' f O D Z=>?_⟩
 have L:=fun g (D:bv.ownBlock=some g)=>cC J D
 have G:∀{k:Nat} {cs:Array Value} {e:Nat} {fr:Nat×Nat},w.heap[k]?=some (Obj.cells cs e fr)→e≠51→f.heap[k]?=some (Obj.cells cs e fr):=fun {k cs e fr} q u=>by
  rw[D.block k (i8.1 q).1 (fun x=>by
   obtain⟨c2,U,h2⟩:=L k x.symm;rw[q] at h2;simp only[i5,n7] at h2;exact u h2.2.1)]
  exact q
 have I:Blk f d 342 [(S.fixed:Nat),bv]:=G C (by decide)
 have aa:Blk f sb 174 (sQ V S bb (some d)):=G h.blk (by decide)
 have ab:sb≠d:=fun e=>by
  subst e;have h1:=h.blk;have h2:=C;unfold Blk at h1 h2;rw[h1] at h2;simp only[i5,n7] at h2;exact absurd h2.2.1 (by decide)
 have H:∀{k:Nat},k≠d→(f.setCell ⟨d,1,none⟩ v').heap[k]?=f.heap[k]?:=fun {k} q=>bNu _ _ _ _ q
 have ac:∀{k:Nat} {cs:Array Value} {e:Nat} {fr:Nat×Nat},w.heap[k]?=some (Obj.cells cs e fr)→e≠342→k≠d:=fun {k cs e fr} q u x=>by
  subst x;have h2:=C;unfold Blk at h2;rw[q] at h2;simp only[i5,n7] at h2;exact u h2.2.1
 have Y:∀{k:Nat} {cs:Array Value} {e:Nat} {fr:Nat×Nat},f.heap[k]?=some (Obj.cells cs e fr)→e≠342→k≠d:=fun {k cs e fr} q u x=>by
  subst x;have h2:=I;unfold Blk at h2;rw[q] at h2;simp only[i5,n7] at h2;exact u h2.2.1
 have N:∀g,F g→¬bv.ownBlock=some g∧g≠d:=fun g z=>⟨fun e=>by
  obtain⟨c2,U,h2⟩:=L g e;rcases h.dvs.type g z _ _ _ h2 with l|l|l|l|l<;>exact absurd l (by decide),fun e=>by
  subst e;rcases h.dvs.type g z _ _ _ C with l|l|l|l|l<;>exact absurd l (by decide)⟩
 have X:(f.setCell ⟨d,1,none⟩ v').ownsRow 0 51 12 v' (S.born++[p]).length (aF (S.born++[p])):=dQ O (fun g E=>by
  obtain⟨c2,U,h2⟩:=cC O E;exact H (Y h2 (by decide)))
 refine⟨I,wV sb bb eb ms (some d) v' F,⟨eb,ms,v',F,⟨?_,?_,?_,h.sn,?_,X⟩,fun k=>Iff.rfl⟩,?_,?_⟩
 ·exact aa.other (a:=⟨d,1,none⟩) ab _
 ·exact h.dvs.keep (fun g z=>by
   rw[H (N g z).2,D.block g (h.dvs.lt g z) (fun e=>(N g z).1 e.symm)])
 ·refine h.bok.typed (fun g cs e fr E u=>?_)
  have l:e≠51:=by rcases u with e3|e3|e3|e3|e3|e3<;>rw[e3]<;>decide
  have x:e≠342:=by rcases u with e3|e3|e3|e3|e3|e3<;>rw[e3]<;>decide
  rw[H (ac E x)];exact G E l
 ·exact I.setCell 1 v'
 ·have ad:Mod T w f:=iM D (fun g e=>(hT g).2 (.inr (.inr (.inr (.inr e)))))
  exact ad.setCell (.inl ((hT d).2 (.inr (.inr (.inr (.inl rfl))))))
 ·rintro k (h1|h1|h1|h1|h1)
  ·exact .inl ((hT k).2 (.inl h1))
  ·exact .inl ((hT k).2 (.inr (.inl h1)))
  ·exact .inl ((hT k).2 (.inr (.inr (.inl h1))))
  ·exact .inl ((hT k).2 (.inr (.inr (.inr (.inl h1)))))
  ·rcases Z with h2|h2
   ·exact .inl ((hT k).2 (.inr (.inr (.inr (.inr (h2▸h1))))))
   ·rw[h2] at h1
    exact .inr (by have:=bMs h1;omega)
theorem aBb {S:dK} (h:bN w sb S V bb dn T):
  Calls prog 165 #[.pointer (some sb)] w fun e w'=>∃d,e= .returned (.pointer (some ⟨d,0,none⟩))∧fC S V sb bb (some d) T w w'∧(∀f,dn=some f→d=f):=by
 cases dn with
 |some d=>exact(rK h).mono (fun e w' h1=>⟨d,h1.1,by rw[h1.2];exact h.stay (i4 _ _),fun f e=>bMs e⟩)
 |none=>exact(aOv h).mono (fun e w' ⟨d,h1,h2⟩=>⟨d,h1,h2,(fun f e=>by cases e)⟩)
theorem bN.app2 {S:dK} (h:bN w sb S V bb (some d) T) (f:Blk w d 342 [(S.fixed:Nat),bv]):w.ownsRow 0 51 12 bv S.born.length (aF S.born)∧T d∧(∀g,bv.ownBlock=some g→T g)∧
  ∀p v' l,l.ownsRow 0 51 12 v' (S.born++[p]).length (aF (S.born++[p]))→w.grownBy l bv.ownBlock→(v'.ownBlock=bv.ownBlock∨v'.ownBlock=some w.heap.size)→
   Blk l d 342 [(S.fixed:Nat),bv]∧fC {S with born:=S.born++[p]} V sb bb (some d) T w (l.setCell ⟨d,1,none⟩ v'):=by
 obtain⟨u,h1,h2,z⟩:=h.app;have e:u=bv:=by
  unfold Blk at h1 f;rw[h1] at f;simp only[i5,n7] at f;simpa using f.1
 subst e;obtain⟨eb,ms,x,F,C,hT⟩:=h;have D:x=u:=by
  have q:=C.don.1;unfold Blk at h1 q;rw[h1] at q;simp only[i5,n7] at q;simpa using q.1.symm
 subst D;exact⟨h2,(hT d).2 (.inr (.inr (.inr (.inl rfl)))),fun g E=>(hT g).2 (.inr (.inr (.inr (.inr E)))),z⟩
theorem bN.done {S:dK} (h:bN w sb S V bb (some d) T):∃bv,Blk w d 342 [(S.fixed:Nat),bv]:=by
 obtain⟨bv,h1,_⟩:=h.app;exact⟨bv,h1⟩
def aFw (t:Bs) (level txg:Int) (l:List (Nat×Nat)):aC:=
 ⟨((l.getD 0 (0,0)).1:Nat),((l.getD 0 (0,0)).2:Nat),((l.getD 1 (0,0)).1:Nat),((l.getD 1 (0,0)).2:Nat),decide (1<l.length),((t.length/64:Nat):Int),level,txg,((dG t).1:Nat),((dG t).2.1:Nat),((dG t).2.2.1:Nat),((dG t).2.2.2:Nat)⟩
structure bJw where
 p:aC
 err:Nat
 s:dK
def jD (S:dK) (t:Bs) (level:Int):Bool:=dX t&&decide (0≤level∧level≤3∧1≤S.txg∧S.txg≤4294967295)
noncomputable def cE (S:dK) (t:Bs) (level:Int):bJw:=
 if jD S t level=false then⟨pD,1,S⟩
 else if(eC S ((t.length/64:Nat):Int) level).err≠0 then⟨pD,(eC S ((t.length/64:Nat):Int) level).err,{S with sn:=(eC S ((t.length/64:Nat):Int) level).sn,es:=(eC S ((t.length/64:Nat):Int) level).es}⟩
 else⟨aFw t level S.txg (eC S ((t.length/64:Nat):Int) level).l,0,{S with sn:=(eC S ((t.length/64:Nat):Int) level).sn,es:=(eC S ((t.length/64:Nat):Int) level).es,x:=iF t (eC S ((t.length/64:Nat):Int) level).l S.x,born:=S.born++[aFw t level S.txg (eC S ((t.length/64:Nat):Int) level).l]}⟩
theorem bGv (S:dK) (size level:Int) (h:(eC S size level).err=0):(eC S size level).l.length=1∨(eC S size level).l.length=2:=by
 unfold eC at h⊢;split
 ·rename_i h1;rw[i6 h1] at h;exact absurd h (by simp)
 ·split
  ·split
   ·exact .inr rfl
   ·exact .inl rfl
  ·exact .inl rfl
def tJ (x:aK) (g a:Nat) (t:Bs):Prop:=kG x g a (t.length/64)=tE x g a t
theorem tF {x y:aK} (k:dT x y) (g a:Nat) (t:Bs):tE y g a t=tE x g a t:=by
 unfold tE;rw[k.gs];exact bOo fun q _=>by rw[k.here]
theorem aEd {x:aK} (hr:x.right=true) {a:Nat} (ht:dX t=true) (p:dO x.gs x.secs (g:Nat) (a:Nat) ((t.length/64:Nat):Int)=true):(dD x g a t).2.2=(fU x ((aI x.gs g a (t.length/64)).zip (jC (aI x.gs g a (t.length/64)) (fJ t))) []).2:=by
 obtain⟨f,h,l⟩:∃f h,fU x ((aI x.gs g a (t.length/64)).zip (jC (aI x.gs g a (t.length/64)) (fJ t))) []=(f,h):=⟨_,_,rfl⟩;rw[rJ hr ht p l,l]
theorem aBk {x:aK} (hr:x.right=true) {a:Nat} (ht:dX t=true) (f:dO x.gs x.secs (g:Nat) (a:Nat) ((t.length/64:Nat):Int)=true):dT x (dD x g a t).2.2:=by
 rw[aEd hr ht f];exact qO _ x [] (fun c h=>(aEw hr ht f c h).1)
theorem aOi {x:aK} (h:x.calm) (hr:x.right=true) {a:Nat} (ht:dX t=true) (f:dO x.gs x.secs (g:Nat) (a:Nat) ((t.length/64:Nat):Int)=true):tJ (dD x g a t).2.2 g a t:=by
 unfold tJ;rw[aYz h hr ht f,tF (aBk hr ht f)]
theorem aDz {a size:Nat} {c:bJ} (h:c∈aI gs g a size):∃i,i<(aI gs g a size).length∧c=(aI gs g a size).getD i cD:=by
 obtain⟨i,f,rfl⟩:=List.getElem_of_mem h;exact⟨i,f,by simp[a8,f]⟩
theorem aOt {x:aK} (hr:x.right=true) {a:Nat} (h:tJ x g a t) (p:dO x.gs x.secs (g:Nat) (a:Nat) ((t.length/64:Nat):Int)=true) (ht:dX t2=true) (f:dO x.gs x.secs (g2:Nat) (a2:Nat) ((t2.length/64:Nat):Int)=true) (u:Dis (fQ x.gs x.secs ((t.length/64:Nat):Int) (g,a)) (fQ x.gs x.secs ((t2.length/64:Nat):Int) (g2,a2))):tJ (dD x g2 a2 t2).2.2 g a t:=by
 have k:=aBk hr ht f;unfold tJ at h⊢;rw[tF k,←h];unfold kG;rw[k.gs];refine bOo fun c z=>?_
 obtain⟨i,C,rfl⟩:=aDz z;rw[aEd hr ht f];refine lL _ x [] _ (fun q l=>(aEw hr ht f q l).1) fun q l=>?_
 obtain⟨j,D,e⟩:=aDz (List.of_mem_zip (a:=q.1) (b:=q.2) l).1;rw[e];rintro⟨E,G⟩;exact aRd p f u C D ⟨E.symm,G.symm⟩
structure dR (x:aK) (p:aC) (t:Bs):Prop where
 blk:dX t=true
 size:p.size=((t.length/64:Nat):Int)
 sum:p.sumIs t=true
 right:bD x.gs x.secs p=true
 ok:p.ok
 whole:∀q∈plL p,tJ x q.1.toNat q.2.toNat t
theorem dR.may {x:aK} {p:aC} (h:dR x p t):∀q∈plL p,dO x.gs x.secs ((q.1.toNat:Nat):Int) ((q.2.toNat:Nat):Int) ((t.length/64:Nat):Int)=true:=fun q l=>by
 have f:=aTy h.right q l;rw[←h.size,bLx f.g,bLx f.a];exact f.may
structure aCw (S:dK) (L:List St) (K:Nat):Prop where
 one:S.x.one
 fits:S.x.fits
 deep:S.x.deep K
 inv:Inv S.x.gs S.x.secs S.sn S.es
 cov:zZ S.x.gs S.x.secs S.sn L
theorem aVe {size:Int} {two:Bool} (h1:1≤size) (h2:size≤4) (h:(eE gs secs sn es size two).err≠0):eE gs secs sn es size two=⟨(0,0),(0,0),8,sn,es⟩:=by
 unfold eE at h⊢;rw[i6 ⟨h1,h2⟩] at h⊢
 cases h0:aGg gs secs sn es size (-1) with
 |none=>rfl
 |some x=>
  rw[h0] at h;dsimp only at h⊢
  cases two with
  |false=>rw[i9 (by decide)] at h;exact absurd rfl h
  |true=>
   rw[i6 rfl] at h⊢
   cases f:aGg gs secs (putS gs secs sn size x) (nC gs secs es size x) size (x.1:Nat) with
   |none=>rfl
   |some y=>rw[f] at h;exact absurd rfl h
theorem aIe {S:dK} {C:List St} {K:Nat} (h:aCw S C K) {size:Int} (h1:1≤size) (h2:size≤4):
  ((uB S.x.gs S.x.secs S.sn S.es size).err=8∧(uB S.x.gs S.x.secs S.sn S.es size).sn=S.sn∧(uB S.x.gs S.x.secs S.sn S.es size).es=S.es)∨
  ((uB S.x.gs S.x.secs S.sn S.es size).err=0∧Inv S.x.gs S.x.secs (uB S.x.gs S.x.secs S.sn S.es size).sn (uB S.x.gs S.x.secs S.sn S.es size).es∧zZ S.x.gs S.x.secs (uB S.x.gs S.x.secs S.sn S.es size).sn (C++(uB S.x.gs S.x.secs S.sn S.es size).l.map (fQ S.x.gs S.x.secs size))∧∃p q two,(uB S.x.gs S.x.secs S.sn S.es size).l=sP (mkP p q two size)∧bD S.x.gs S.x.secs (mkP p q two size)=true∧(two=false→q=(0,0))∧two=false):=by
 unfold uB;dsimp only;rcases h.inv.rightGet h.cov size false with⟨f,_⟩|⟨f,_,_,u,_,z⟩
 ·rw[aVe h1 h2 f]
  exact .inl ⟨rfl,rfl,rfl⟩
 ·refine .inr ⟨f,h.inv.get size false,?_,(eE S.x.gs S.x.secs S.sn S.es size false).p,(0,0),false,?_,?_,fun _=>rfl,rfl⟩
  ·simpa[aLb] using u
  ·rw[wK];simp
  ·have:=zZ.right h.inv.right h1 h2 u z
   rw[z rfl] at this;exact this
theorem aGn {S:dK} {L:List St} {K:Nat} (h:aCw S L K) {size:Int} (h1:1≤size) (h2:size≤4):
  ((eC S size level).err=8∧(eC S size level).sn=S.sn∧(eC S size level).es=S.es)∨
  ((eC S size level).err=0∧Inv S.x.gs S.x.secs (eC S size level).sn (eC S size level).es∧zZ S.x.gs S.x.secs (eC S size level).sn (L++(eC S size level).l.map (fQ S.x.gs S.x.secs size))∧∃p q two,(eC S size level).l=sP (mkP p q two size)∧bD S.x.gs S.x.secs (mkP p q two size)=true∧(two=false→q=(0,0))∧(two=true→0<level∨S.mt=true)):=by
 unfold eC;split
 ·exact .inl ⟨rfl,rfl,rfl⟩
 ·split
  ·rename_i N
   split
   ·rename_i z
    rcases h.inv.rightGet h.cov size true with⟨H,_⟩|⟨H,_,_,I,_,J⟩
    ·exact absurd z H
    ·refine .inr ⟨rfl,h.inv.get size true,?_,(eE S.x.gs S.x.secs S.sn S.es size true).p,(eE S.x.gs S.x.secs S.sn S.es size true).q,true,?_,zZ.right h.inv.right h1 h2 I J,J,fun _=>N⟩
     ·simpa[aLb] using I
     ·rw[wK];simp
   ·rename_i z
    rw[aVe h1 h2 z];rcases aIe h h1 h2 with⟨f,a2,u⟩|⟨f,a2,u,p,q,two,C,D,E,G⟩
    ·exact .inl ⟨f,a2,u⟩
    ·exact .inr ⟨f,a2,u,p,q,two,C,D,E,fun e=>by rw[G] at e;cases e⟩
  ·rcases aIe h h1 h2 with⟨f,a2,u⟩|⟨f,a2,u,p,q,two,C,D,E,G⟩
   ·exact .inl ⟨f,a2,u⟩
   ·exact .inr ⟨f,a2,u,p,q,two,C,D,E,fun e=>by rw[G] at e;cases e⟩
theorem bFq (t:Bs) (level f:Int) (p q:Nat×Nat) (two:Bool) (h:two=false→q=(0,0)):aFw t level f (sP (mkP p q two ((t.length/64:Nat):Int)))=⟨p.1,p.2,q.1,q.2,two,((t.length/64:Nat):Int),level,f,((dG t).1:Nat),((dG t).2.1:Nat),((dG t).2.2.1:Nat),((dG t).2.2.2:Nat)⟩:=by
 rw[wK];cases two
 ·rw[h rfl];simp[aFw]
 ·simp[aFw]
def iI:Nat:=4611686018427387903
def kM (x:Int):Bs:=if x<0∨(iI:Int)<x then[] else bS 8 x.toNat
def rM (s:Bs) (k:Nat):Nat:=nU (dW s k 8)
def eU (n:aM):Except Nat Bs:=
 if n.size<0∨(iI:Int)<n.size then .error 1
 else if cT n.root then .ok (bS 8 n.size.toNat++bS 8 1++aR n.root++aP 48) else .error 1
def lT (s:Bs):Except Nat (aM×Bool):=
 if cG s then .ok (nD,false)
 else if rM s 0≤iI∧rM s 8=1 then
  (if fD (dW s 16 64) then(if cG (s.drop 80) then .ok (⟨(rM s 0:Nat),iC (dW s 16 64)⟩,true) else .error 3) else .error 3)
 else .error 3
section
variable {σ:Type} (S:StF σ)
def bKr (id:Int):Prop:=0≤id∧id<32
instance (id:Int):Decidable (bKr id):=by unfold bKr;infer_instance
end
theorem dU {a b:Bs} {o:Nat} (h:o+n≤a.length):dW (a++b) o n=dW a o n:=by
 unfold dW;rw[List.drop_append_of_le_length (by omega),List.take_append_of_le_length (by simp;omega)]
theorem jS {a b:Bs} {o:Nat} (h:a.length≤o):dW (a++b) o n=dW b (o-a.length) n:=by
 unfold dW;rw[List.drop_append,bNj h,bMt]
theorem kU {a:Bs} (h:a.length=n):dW a 0 n=a:=by
 unfold dW;rw[bOf,←h,bLz]
theorem mJ {n:aM} (h:eU n= .ok s):s.length=128:=by
 unfold eU at h;split at h
 ·cases h
 ·split at h
  ·injection h with h
   rw[←h];simp[iQ,bY,aP]
  ·cases h
def bAi (n:aM):Prop:=0≤n.size∧n.size≤iI∧cT n.root=true
theorem aJt {n:aM}:(∃s,eU n= .ok s∧bAi n)∨(eU n= .error 1∧¬bAi n):=by
 unfold eU bAi;by_cases h1:n.size<0∨(iI:Int)<n.size
 ·rw[i6 h1];exact .inr ⟨rfl,fun h=>by omega⟩
 ·rw[i9 h1]
  by_cases h2:cT n.root=true
  ·rw[i6 h2];exact .inl ⟨_,rfl,by omega,by omega,h2⟩
  ·rw[i9 h2];exact .inr ⟨rfl,fun h=>h2 h.2.2⟩
theorem aIl {n:aM} (h:eU n= .ok s) (x:n.root.wf):lT s= .ok (n,true):=by
 have E:=mJ h;unfold eU at h;split at h
 ·cases h
 ·rename_i h1
  split at h
  ·rename_i h2
   injection h with h
   have e0:dW s 0 8=bS 8 n.size.toNat:=by
    rw[←h,bMd,bMd,dU (by simp[iQ]),kU (iQ _ _)]
   have p:dW s 8 8=bS 8 1:=by
    rw[←h,bMd,bMd,jS (by simp[iQ]),iQ,dU (by simp[iQ]),kU (iQ _ _)]
   have z:dW s 16 64=aR n.root:=by
    rw[←h,bMd,jS (by simp[iQ])]
    rw[show 16-(bS 8 n.size.toNat++bS 8 1).length=0 by simp[iQ],dU (by simp[bY]),kU (bY _)]
   have C:s.drop 80=aP 48:=by
    rw[←h,List.drop_append,bNj (by simp[iQ,bY]),bMt]
    simp[iQ,bY]
   have D:n.size.toNat<256 ^ 8:=by unfold iI at h1;omega
   have r0:rM s 0=n.size.toNat:=by unfold rM;rw[e0,pR _ _ D]
   have r1:rM s 8=1:=by unfold rM;rw[p,pR _ _ (by decide)]
   have f:cG s=false:=by
    cases f:cG s
    ·rfl
    ·have q:=bFg f 8
     have l:gb (dW s 8 8) 0=gb s 8:=by unfold dW;rw[bGc,i6 (by omega),bGs]
     rw[p] at l;rw[←l] at q;exact absurd q (by decide)
   have u:cG (aP 48)=true:=by simp[cG,aP]
   unfold lT;rw[f,i9 (by decide),r0,r1,i6 ⟨by unfold iI at*;omega,rfl⟩,z,tI h2,i6 rfl,C,u,i6 rfl,tL h2 x]
   have:((n.size.toNat:Nat):Int)=n.size:=by omega
   rw[this]
  ·cases h
theorem aPn (h:cG s=true):lT s= .ok (nD,false):=by unfold lT;rw[i6 h]
def bC.flushed (δ:bC):bC:=⟨(List.range δ.med.length).map δ.now,fun _=>[],δ.lost,max (δ.fuse-1) (-1)⟩
theorem bC.flushed_len (δ:bC):δ.flushed.med.length=δ.med.length:=by simp[bC.flushed]
theorem bC.flushed_now (δ:bC) (h:k<δ.med.length):δ.flushed.now k=δ.now k:=by
 have e:δ.flushed.now k=δ.flushed.med.getD k []:=by unfold bC.now bC.flushed;rfl
 rw[e];simp[bC.flushed,a8,h]
def fM (gs:Gs) (secs:Int):Bs:=if bH gs secs=true then bS 4 gs.length++bS 4 secs.toNat++gs.flatMap (fun g=>bS 4 g.1.toNat++bS 4 g.2.toNat) else[]
def gM (x:Nat×Nat×Nat×Nat):Bs:=bS 8 x.1++bS 8 x.2.1++bS 8 x.2.2.1++bS 8 x.2.2.2
def nB:Bs:=[112,111,108,100,101,114,48,49]
def fS (gs:Gs) (secs:Int) (txg:Int) (nb:Bs):Bs:=nB++kM txg++gM (dG (fM gs secs))++nb++aP 48
def bLh (gs:Gs) (secs:Int) (txg:Int) (n:aM):Except Nat Bs:=
 match eU n with
 | .ok nb=>if bH gs secs=true∧1≤txg∧txg≤4294967295 then .ok (fS gs secs txg nb++gM (dG (fS gs secs txg nb))) else .error 1
 | .error _=> .error 1
def nb0:Bs:=match eU nD with| .ok s=>s| .error _=>[]
def bW (st:List (Nat×Nat)):Bs:=nb0++bS 8 0++aP 72++bS 8 st.length++st.flatMap fun r=>bS 8 r.1++bS 8 r.2
theorem aNm {a size:Nat} (f:i<(aI gs g a size).length):16≤((aI gs g a size).getD i cD).2.1:=by
 unfold aI at f⊢;split at f
 ·rename_i h
  rw[i6 h];rw[dA] at f;rw[kK _ _ _ _ _ f];dsimp only;omega
 ·rename_i h
  rw[i9 h];rw[(lJ _ _ _ _ i f).2];exact Nat.le_add_right _ _
theorem aYs {x:aK} (hr:x.right=true) {a size:Nat} (h:dO x.gs x.secs (g:Nat) (a:Nat) (size:Nat)=true) (l:i<(aI x.gs g a size).length):((aI x.gs g a size).getD i cD).1<x.ds.length∧((aI x.gs g a size).getD i cD).2.1<(x.ds.getD ((aI x.gs g a size).getD i cD).1 eN).med.length:=by
 have f:=bL hr;have q:=aBl h l;have p:((aI x.gs g a size).getD i cD).1<x.ds.length:=by rw[f.2.1];exact(lC h l)
 refine⟨p,?_⟩;have:=f.2.2.2 _ p;omega
theorem dR.same {x y:aK} (hr:x.right=true) (k:dT x y) (C:∀c:bJ,c.1<x.ds.length→16≤c.2.1→c.2.1<(x.ds.getD c.1 eN).med.length→y.col c=x.col c) {p:aC} (h:dR x p t):dR y p t:=by
 refine⟨h.blk,h.size,h.sum,by rw[k.gs,k.secs];exact h.right,h.ok,fun q f=>?_⟩
 have l:=h.whole q f;unfold tJ at l⊢;rw[tF k,←l];unfold kG;rw[k.gs];refine bOo fun c z=>?_
 obtain⟨i,u,rfl⟩:=aDz z;obtain⟨D,E⟩:=aYs hr (h.may q f) u;exact C _ D (aNm u) E
def cM (x:aK):aK:=⟨x.gs,x.secs,x.ds.map bC.flushed,x.away⟩
theorem oU (x:aK) (i:Nat):(cM x).ds.getD i eN=if i<x.ds.length then(x.ds.getD i eN).flushed else eN:=by
 unfold cM;rw[a8,bMh,a8];split
 ·rename_i h
  rw[b9 h];rfl
 ·rename_i h
  rw[m7 (by omega)]
  rfl
theorem aPs {δ:bC} (h:∀k,nA (δ.now k)=true) (k:Nat):nA (δ.flushed.now k)=true:=by
 by_cases f:k<δ.med.length
 ·rw[bC.flushed_now _ f];exact h k
 ·have e:δ.flushed.now k=[]:=by
   have l:δ.flushed.now k=δ.flushed.med.getD k []:=by unfold bC.now bC.flushed;rfl
   rw[l,a8,m7 (by rw[bC.flushed_len];omega)]
   rfl
  rw[e];rfl
theorem eT (x:aK):dT x (cM x):=by
 refine⟨rfl,rfl,rfl,by simp[cM],fun i=>?_,fun f i k=>?_⟩
 ·rw[oU]
  split
  ·refine⟨bC.flushed_len _,rfl,fun h=>?_⟩
   show max ((x.ds.getD i eN).fuse-1) (-1)= -1
   omega
  ·rename_i h
   rw[a8,m7 (by omega)]
   exact⟨rfl,rfl,fun h=>h⟩
 ·rw[oU]
  split
  ·exact aPs (f i) k
  ·rename_i h
   have:=f i k;rw[a8,m7 (by omega)] at this
   exact this
theorem wN (x:aK) (c:bJ) (h1:c.1<x.ds.length) (h2:c.2.1<(x.ds.getD c.1 eN).med.length):(cM x).col c=x.col c:=by
 have k:=eT x;unfold aK.col;rw[k.here];split
 ·have f:((cM x).ds.getD c.1 eN).mayE (jE c)=(x.ds.getD c.1 eN).mayE (jE c):=by
   unfold bC.mayE;rw[(k.dev c.1).1,(k.dev c.1).2.1]
  unfold bC.readE;rw[f];split
  ·dsimp only
   rw[oU,i6 h1,bC.flushed_now _ (by unfold jE;simpa using h2)]
  ·rfl
 ·rfl
theorem sX (x:aK) (K:Nat):(cM x).deep K:=fun i k=>by
 rw[oU];split
 ·exact z6 _
 ·exact z6 _
theorem dR.flush {x:aK} (hr:x.right=true) {p:aC} (h:dR x p t):dR (cM x) p t:=
 h.same hr (eT x) fun c h1 _ h2=>wN x c h1 h2
def tR (slot:Nat) (s:Bs):Nat→List (bJ×Bs)
 |0=>[]
 |d+1=>tR slot s d++(List.range 4).map fun i=>((d,slot+i,false,0),dW s (64*i) 64)
theorem mL:∀{n:Nat} {q:bJ×Bs},q∈tR slot s n→q.1.1<n∧slot≤q.1.2.1∧q.1.2.1<slot+4
 |0,q,h=>by cases h
 |d+1,q,h=>by
  unfold tR at h;rcases bMu.1 h with h|h
  ·have:=mL h
   omega
  ·obtain⟨i,f,rfl⟩:=bMn.1 h
   have:=bMp.1 f;dsimp only;omega
def uWr (x:aK) (slot:Nat) (s:Bs):aK:=(fU x (tR slot s x.ds.length) []).2
theorem yO (x:aK) (slot:Nat) (s:Bs):dT x (uWr x slot s):=qO _ x [] (fun c f=>(mL f).1)
theorem bFx {x:aK} (l:slot+4≤16) (s:Bs) (c:bJ) (h:16≤c.2.1):(uWr x slot s).col c=x.col c:=
 lL _ x [] c (fun q f=>(mL f).1) fun q f e=>by
  have h1:=mL f;have h2:=e.2;omega
theorem dR.uber {x:aK} (hr:x.right=true) (f:slot+4≤16) (s:Bs) {p:aC} (h:dR x p t):dR (uWr x slot s) p t:=
 h.same hr (yO x slot s) fun c _ h1 _=>bFx f s c h1
theorem iB.med_set {δ:bC} (h:iB w db δ (.slice (some g) n cap) mb c) (p:n=δ.med.length):iB (w.setCell ⟨g,k,none⟩ (.string ⟨s.toArray⟩)) db ⟨δ.med.set k s,δ.cache,δ.lost,δ.fuse⟩ (.slice (some g) n cap) mb c:=by
 subst p;have f:∀{j:Nat},j≠g→(w.setCell ⟨g,k,none⟩ (.string ⟨s.toArray⟩)).heap[j]?=w.heap[j]?:=fun {j} q=>bNu _ _ _ _ q
 have C:(Value.slice (some g) δ.med.length cap).ownBlock=some g:=rfl;refine⟨?_,?_,h.map.keep (f (fun e=>lK h.med h.map (by rw[e];rfl))),h.none_,fun j v l=>⟨(h.some_ j v l).1,dQ (h.some_ j v l).2 (fun x u=>f (fun e=>h.d1 j v x l u (by rw[e];rfl)))⟩,h.d1,h.d2,h.fu,?_,h.dep⟩
 ·unfold Blk
  rw[f (fun e=>qZ h.med h.blk (by decide) (by rw[e];rfl))]
  exact h.blk
 ·have z:cV (eQ (δ.med.set k s))=(cV (eQ δ.med)).set k (.string ⟨s.toArray⟩):=by simp[cV,eQ,List.map_set]
  show World.ownsRow _ 0 _ 1 _ (δ.med.set k s).length (cV (eQ (δ.med.set k s)))
  rw[bLy,z];exact(h.med.stored k (.string ⟨s.toArray⟩)).1
 ·show(δ.med.set k s).length≤4096∧∀j v,fK c j=some v→j<(δ.med.set k s).length
  rw[bLy];exact h.sz
section
open Go.RowKit Go.ChangeMaps
variable {a2 b bb cap clock d db e e0 eb g g0 g2 g4 g5 gc gf i j k m mb n pb sb sb2 size2 slot:Nat} {a:Act} {o:Oper} {A W W' w w' w2 w5 wd wr:World} {ps:Array Tmp} {assign body:Code} {gs:Gs} {cs cs0 ds dv pt xs:List Value} {data got:List Bs} {K next:Act→World→Prop} {F T:Nat→Prop} {after:Array Edge} {c:List (Nat×Value)} {ms:List MT} {args lb:Array Value} {fr fr0:Nat×Nat} {dn r:Option Nat} {es:List Nat} {op:BinOp} {s t t2:Bs} {bv v vm:Value} {dst:Option Tmp} {R:Value→World→Prop} {guard:Option (Nat×Bool)} {y:Operand} {level secs:Int} {P:Program} {Q:Exit→Act→World→Prop} {seen:Array Nat} {sn:SN} {ρ:Operand→Value} {fn:Func} {V:kE}
structure FlI (δ:bC) (f:Int) (F:Nat→Prop) (w2:World) (db mb r:Nat) (vm:Value) (c:List (Nat×Value)) (es:Array MapEntry) (clock:Nat) (M:List Bs) (seen:Array Nat) (wr:World):Prop where
 len:M.length=δ.med.length
 dev:iB wr db ⟨M,δ.cache,δ.lost,f⟩ vm mb c
 it:wr.heap[r]?=some (.mapIter (some mb) clock seen clock)
 mp:wr.heap[mb]?=some (.map es clock)
 two:∀i,i<δ.med.length→M.getD i []=δ.now i∨(M.getD i []=δ.med.getD i [])
 done:∀x∈es.toList,seen.contains x.born=true→∀k:Nat,x.key= .int .i64 (k:Nat)→M.getD k []=δ.now k
 md:Mod F w2 wr
theorem bIs (M:List Bs) (δ:bC) (f:Int) (k:Nat) (h:δ.cache k≠[]):bC.now ⟨M,δ.cache,δ.lost,f⟩ k=δ.now k:=by
 unfold bC.now;dsimp only
 cases l:(δ.cache k).getLast? with
 |none=>exact absurd (List.getLast?_eq_none_iff.1 l) h
 |some s=>rfl
theorem iB.keep {δ:bC} (h:iB w db δ vm mb c) (f:∀g,aPd db vm mb c g→w'.heap[g]?=w.heap[g]?):iB w' db δ vm mb c:=by
 refine⟨?_,?_,h.map.keep (f _ (.inr (.inl rfl))),h.none_,fun k v l=>⟨(h.some_ k v l).1,?_⟩,h.d1,h.d2,h.fu,h.sz,h.dep⟩
 ·unfold Blk
  rw[f _ (.inl rfl)];exact h.blk
 ·exact dQ h.med (fun g p=>f g (.inr (.inr (.inl p))))
 ·exact dQ (h.some_ k v l).2 (fun g p=>f g (.inr (.inr (.inr ⟨k,v,l,p⟩))))
structure bHq (F:Nat→Prop) (w2:World) (r mb clock:Nat) (seen:Array Nat) (x:MapEntry) (wr ws:World):Prop where
 ev:∀g,g≠r→ws.heap[g]?=wr.heap[g]?
 it:ws.heap[r]?=some (.mapIter (some mb) clock (seen.push x.born) clock)
 md:Mod F w2 ws
theorem bHy {h:World} {r:Nat} {x:MapEntry} (f:h=setBlock wd r (.mapIter (some mb) clock (seen.push x.born) clock)) (u:wd=wr∨wd=wr.drew) (C:wr.heap[r]?=some (.mapIter (some mb) clock seen clock)) (l:Mod F w2 wr) (hr:w2.heap.size≤r):bHq F w2 r mb clock seen x wr h:=by
 have D:wd.heap=wr.heap:=by rcases u with rfl|rfl<;>rfl
 have p:Mod F w2 wd:=by
  rcases u with rfl|rfl
  ·exact l
  ·exact l.drew
 have q:h.heap=wr.heap.setIfInBounds r (.mapIter (some mb) clock (seen.push x.born) clock):=by rw[f];show wd.heap.setIfInBounds r _=_;rw[D]
 have z:∀g,g≠r→h.heap[g]?=wr.heap[g]?:=fun g E=>by rw[q,Array.getElem?_setIfInBounds_ne (fun e=>E e.symm)]
 refine⟨z,by rw[q,Array.getElem?_setIfInBounds_self_of_lt ((i8.1 C).1)],⟨?_,?_,?_,?_,fun k G H=>?_⟩⟩
 ·rw[f];exact p.os
 ·rw[f];exact p.tape
 ·rw[f];exact p.output
 ·rw[q,Array.size_setIfInBounds];exact l.size
 ·rw[z k (by omega)];exact l.block k G H
theorem FlI.left {δ:bC} {f:Int} {r:Nat} {es:Array MapEntry} {M:List Bs} (h:FlI δ f F w2 db mb r vm c es clock M seen wr):wr.rangeLeft mb r=(leftOf es seen).size:=by
 unfold World.rangeLeft;rw[h.mp,h.it]
theorem aOb (l:List Bs) (k i:Nat) (s:Bs):(l.set k s).getD i []=if i=k∧k<l.length then s else l.getD i []:=by
 rw[a8,List.getElem?_set,a8];by_cases e:k=i
 ·subst e
  by_cases h:k<l.length
  ·simp[h]
  ·simp[h,m7 (Nat.le_of_not_lt h)]
 ·rw[i9 e,i9 (fun h=>e h.1.symm)]
theorem FlI.step {δ:bC} {f:Int} {u:World} {r:Nat} {es:Array MapEntry} {M:List Bs} {x:MapEntry} (h:FlI δ f F w2 db mb r (.slice (some g) n cap) c es clock M seen wr) (p:bHq F w2 r mb clock seen x wr u) (z:iB w5 db ⟨M,δ.cache,δ.lost,f⟩ (.slice (some g) n cap) mb c) (C:bB u w5) (J:x∈(leftOf es seen).toList) (L:x.key=(k:Nat)) (E:k<δ.med.length) (G:Stp es.toList clock) (N:n=M.length) (hF:F g) (X:g<r) (Y:mb<r):
  FlI δ f F w2 db mb r (.slice (some g) n cap) c es clock (M.set k (δ.now k)) (seen.push x.born) (w5.setCell ⟨g,k,none⟩ (.string ⟨(δ.now k).toArray⟩)):=by
 have H:g≠mb:=fun e=>lK z.med z.map (by rw[←e];rfl)
 have I:=(i8.1 p.it).1;have O:u.heap[mb]?=some (.map es clock):=by rw[p.ev mb (by omega)];exact h.mp
 refine⟨by rw[bLy];exact h.len,z.med_set N,?_,?_,fun i U=>?_,fun y hy l j q=>?_,(p.md.trans' C).setCell (.inl hF)⟩
 ·rw[bNu _ _ _ _ (fun e=>by have D:r=g:=e;omega),C.block r I];exact p.it
 ·rw[bNu _ _ _ _ (fun e=>H e.symm),C.block mb (by omega)];exact O
 ·rw[aOb]
  split
  ·rename_i e;rw[e.1];exact .inl rfl
  ·exact h.two i U
 ·rw[aOb]
  split
  ·rename_i e;rw[e.1]
  ·rename_i e
   rw[contains_push] at l;rcases Bool.or_eq_true_iff.1 l with l|l
   ·exact h.done y hy l j q
   ·exfalso
    have D:=born_inj G.2 hy (mem_left J).1 (by simpa using l)
    rw[D,L] at q
    injection q with _ q
    exact e ⟨by omega,by rw[h.len];exact E⟩
theorem aUz:∀{c:List (Nat×Value)},fK c i=some v→(i,v)∈c
 |[],h=>by cases h
 |x::c,h=>by
  unfold fK at h;split at h
  ·rename_i e
   obtain rfl:=bMs h;subst e;exact bMf
  ·exact bMg _ (aUz h)
theorem aUp:∀{c:List (Nat×Value)},(i,v)∈c→∃u,fK c i=some u
 |[],h=>by cases h
 |x::c,h=>by
  unfold fK;by_cases e:x.1=i
  ·exact⟨x.2,by rw[i6 e]⟩
  ·rw[i9 e]
   rcases s8.1 h with h|h
   ·exact absurd (by rw[←h]) e
   ·exact aUp h
theorem bDt {es:List MapEntry} (h:kvI es c) (f:fK c i=some v):∃x∈es,x.key= .int .i64 (i:Nat):=by
 have h1:(Value.int .i64 (i:Int),v)∈c.map fun x=>(Value.int .i64 (x.1:Int),x.2):=bMn.2 ⟨(i,v),aUz f,rfl⟩
 rw[←show es.map (fun e=>(e.key,e.val))=_ from h] at h1
 obtain⟨x,l,p⟩:=bMn.1 h1;exact⟨x,l,o7 Prod.fst p⟩
theorem bEw {es:List MapEntry} {x:MapEntry} (h:kvI es c) (f:x∈es):∃k:Nat,x.key= .int .i64 (k:Nat)∧∃v,fK c k=some v:=by
 have h1:(x.key,x.val)∈es.map (fun e=>(e.key,e.val)):=bMn.2 ⟨x,f,rfl⟩
 rw[show es.map (fun e=>(e.key,e.val))=_ from h] at h1
 obtain⟨y,hy,l⟩:=bMn.1 h1;exact⟨y.1,(o7 Prod.fst l).symm,aUp (v:=y.2) hy⟩
theorem aXf {δ:bC} {f:Int} {r:Nat} {es:Array MapEntry} {M:List Bs} (h:FlI δ f F w2 db mb r vm c es clock M seen wr) (C:M=(List.range δ.med.length).map δ.now) (D:f=max (δ.fuse-1) (-1)) (hF:∀g,F g↔aPd db vm mb c g) (E:Mod F w w2) (z:Nat):fP db δ.flushed F w (bEd wr mb #[] z):=by
 have l:=wX wr mb #[] z;have q:=iM l (fun g l=>by simpa using l.symm)
 have p:=h.dev;have x:=(hF mb).2 (.inr (.inl rfl));have e:δ.flushed=⟨M,fun _=>[],δ.lost,f⟩:=by rw[C,D];rfl
 rw[e];refine⟨aPd db vm mb [],⟨vm,mb,[],⟨?_,?_,aKp p.map.lt rfl (by simp[Stp]),fun k _=>rfl,fun k v h=>(by cases h),fun k v g h=>(by cases h),fun j k u v g _ h=>(by cases h),p.fu,⟨p.sz.1,fun k v h=>(by cases h)⟩,fun k=>z6 _⟩,fun g=>Iff.rfl⟩,?_,fun g l=>?_⟩
 ·unfold Blk
  rw[q.block db p.blk.lt (tT p.blk p.map)];exact p.blk
 ·exact dH q p.med (fun g l e=>lK p.med p.map (by rw[l,e]))
 ·exact(E.self h.md).self (q.mono (fun g _ l=>by rw[l];exact x))
 ·rcases l with rfl|rfl|l|⟨k,u,G,_⟩
  ·exact .inl ((hF g).2 (.inl rfl))
  ·exact .inl x
  ·exact .inl ((hF g).2 (.inr (.inr (.inl l))))
  ·cases G
theorem FlI.fin {δ:bC} {f:Int} {r:Nat} {es:Array MapEntry} {M:List Bs} (h:FlI δ f F w2 db mb r vm c es clock M seen wr) (z:kvI es.toList c) (h0:(leftOf es seen).size=0):M=(List.range δ.med.length).map δ.now:=by
 refine bNg fun i=>?_
 by_cases l:i<δ.med.length
 ·have e:M.getD i []=δ.now i:=by
   cases p:fK c i with
   |none=>
    have C:δ.now i=δ.med.getD i []:=by
     unfold bC.now;have u:=(h.dev.none_ i p);rw[u];rfl
    rcases h.two i l with h1|h1
    ·exact h1
    ·rw[h1,C]
   |some v=>
    obtain⟨x,q,D⟩:=bDt z p;exact h.done x q (all_seen es seen h0 x q) i D
  have E:=h.len;rw[a8,b9 (by omega)] at e
  rw[b9 (by omega),bMh,List.getElem?_range l]
  exact o7 some e
 ·have E:=h.len
  rw[m7 (by omega),m7 (by simpa using l)]
theorem aTo {δ:bC} (h:dJ w db δ F) (au:δ.lost=false) (av:δ.fuse≠0):
  Calls prog 166 #[.pointer (some db)] w fun e w'=>e= .returned (0:Int)∧fP db δ.flushed F w w':=by
 have Y:=hZ (aAe h);rw[au] at Y;have ag:=hZ (fun W (bk:bB w W)=>aHq (h.below bk) av)
 have bt:=hZ h.lt;clear h au av;go_in;go_wp21;refine Y.o.mono ?_;rintro e bl ⟨rfl,ah⟩;have Z:=hZ ah;clear ah;go_wp21;refine(ag.o bl Z.o).mono ?_;rintro e w2 ⟨rfl,az,ai⟩;have ba:=hZ ((Mod.below Z.o).self ai);clear ai ag Y Z;obtain⟨vm,mb,c,u,hF⟩:=az;obtain⟨f,aa⟩:=nZ (max (δ.fuse-1) (-1));rw[←aa] at u;have bc:=hZ aa;have ae:=hZ hF;have D:=hZ u;have aw:=u.blk.cell 1;obtain⟨es,clock,J,z,aj⟩:=u.map;have ak:=hZ z;have ab:=hZ aj;have bu:=hZ J;have al:=run_range_map (P:=prog) w2 137 3 80 mb es clock underlying137 J;obtain⟨r,hr⟩:=nZ w2.heap.size;obtain⟨ax,L⟩:=nZ (w2.alloc (.mapIter (some mb) clock #[] clock));rw[←hr,←L] at al;have N:bB w2 ax:=by rw[L];exact bZ
 have am:Hid (FlI δ f F w2 db mb r vm c es clock δ.med #[] ax):=hZ ⟨rfl,u.below N,by rw[L,hr];exact heap_alloc_new w2 _,by rw[N.block mb u.map.lt];exact J,fun i bx=> .inr rfl,fun x _ h=>by simp at h,Mod.below N⟩
 have H:=hZ hr;clear hr L N u J z aj aa hF;go_wp21;clear al aw;go_loopw [] (fun wr=>∃(M:List Bs) (seen:Array Nat),Hid (FlI δ f F w2 db mb r vm c es clock M seen wr)) (fun wr=>wr.rangeLeft mb r)
 case atStart=>exact⟨_,_,am⟩
 case round=>
  clear am;obtain⟨M,seen,l⟩:=hrel;have bd:=run_next_at (P:=prog) wr 0 r mb clock clock seen es clock l.o.it l.o.mp (fun x C=>ab.o.1 _ (bMn.2 ⟨x,C,rfl⟩)) (d8 _)
  rcases bd with⟨h0,q⟩|⟨x,C,wd,an,q⟩
  ·have be:∀ty,(Instr.next (.pointer (some r)) false ty).run prog wr=_:=fun _=>q
   have bm:=hZ (l.o.fin ak.o h0);clear q h0;have aw:=l.o.dev.blk.cell 1;obtain⟨bn,bw⟩:=aHd l.o.dev.map;have ay:=hZ (aXf l.o bm.o bc.o ae.o ba.o bn);go_wp21;go_ret;exact⟨rfl,ay.o⟩
  ·obtain⟨k,U,v,z⟩:=bEw ak.o (mem_left C).1
   have E:Hid (k<δ.med.length):=hZ (by have h1:k<M.length:=l.o.dev.sz.2 k v z;rw[l.o.len] at h1;exact h1)
   have bf:=hZ (l.o.dev.some_ k v z).1;rw[U] at q;obtain⟨I,ac⟩:=nZ (setBlock wd r (.mapIter (some mb) clock (seen.push x.born) clock));rw[←ac] at q;have be:∀ty,(Instr.next (.pointer (some r)) false ty).run prog wr=_:=fun _=>q
   have X:=hZ (bHy ac an l.o.it l.o.md (Nat.le_of_eq H.o.symm));have bh:=run_entry_at (P:=prog) I r mb clock seen es clock x X.o.it (by rw[X.o.ev mb (fun e=>by have:=D.o.map.lt;have:=H.o;omega)];exact l.o.mp) (mem_left C).1 ab.o.2
   rw[U] at bh;have O:=hZ (l.o.dev.keep (fun g bo=>X.o.ev g (fun e=>by have:=D.o.lt g bo;have:=H.o;omega)))
   have bi:=hZ U;have ao:=hZ C;clear q ac an U z C;obtain⟨g,cap,bj⟩:=bT D.o.med (Nat.lt_of_le_of_lt (z6 _) E.o);subst bj;have bz:=O.o.blk.cell 0;have ap:Hid (Calls prog 231 #[.pointer (some db),(k:Nat)] I.drew fun e w'=>e= .returned (.string ⟨(δ.now k).toArray⟩)∧bB I.drew w'):=hZ (by
    have p:=aOd (w:=I.drew) (δ:=⟨M,δ.cache,δ.lost,f⟩) (F:=F) ⟨_,mb,c,O.o.below (i4 _ _).drew,ae.o⟩ k (by show k<M.length;rw[l.o.len];exact E.o)
    rw[bIs M δ f k bf.o] at p;exact p)
   obtain⟨T,hT⟩:=nZ (δ.now k);rw[←hT] at ap;have bq:=hZ hT;clear hT;have ca:(k:Int)<(δ.med.length:Int):=by have:=E.o;omega
   have cb:0≤(k:Int):=by omega
   go_upto_region 6 with fail
   have aq:=(O.o.blk.below (i4 _ _).drew).cell 0;refine l7 (S:=fun w'=>cZ w' db 0 (.slice (some g) δ.med.length cap)) (by kernel_rfl) aq (fun aq=>?_)
   refine aE 0 ?_;refine aE 1 ?_;refine aE 2 ?_;refine aE 3 ?_;refine aE 4 ?_;refine aE 5 ?_;refine aE 6 ?_;refine dY (i:=7) (h:=fun K af=>?_)
   go_simp;refine ap.o.mono ?_;rintro e w5 ⟨rfl,ad⟩;have G:Hid (iB w5 db ⟨M,δ.cache,δ.lost,f⟩ (.slice (some g) δ.med.length cap) mb c∧bB I w5):=hZ ⟨(O.o.below (i4 _ _).drew).below ad,(i4 _ _).drew.trans ad⟩;have p:w5.ownsRow 0 9 1 (.slice (some g) δ.med.length cap) δ.med.length (cV (eQ M)):=by have p:=G.o.1.med;rw[show(bC.med ⟨M,δ.cache,δ.lost,f⟩).length=δ.med.length from l.o.len] at p;exact p
   have cc:=uO p (by rw[l.o.len];exact E.o)
   have cd:=p.frozenAt k;clear ad p;refine af.o _ _ (G.o.1.blk.cell 0) (fun br=>?_)
   refine aE 8 ?_;refine dY (i:=9) (h:=fun K af=>?_)
   go_simp
   skip
   refine af.o _ _ ((G.o.1.med_set l.o.len.symm).blk.cell 0) (fun bs=>?_)
   refine r8 (by kernel_rfl) ?_ _
   go_wp21;have ar:Hid (FlI δ f F w2 db mb r (.slice (some g) δ.med.length cap) c es clock (M.set k T) (seen.push x.born) (w5.setCell ⟨g,k,none⟩ (.string ⟨T.toArray⟩))):=hZ (by rw[bq.o];exact l.o.step X.o G.o.1 G.o.2 ao.o bi.o E.o ab.o l.o.len.symm ((ae.o g).2 (.inr (.inr (.inl rfl)))) (by rw[H.o];exact D.o.lt g (.inr (.inr (.inl rfl)))) (by rw[H.o];exact D.o.map.lt))
   exact⟨⟨_,_,ar⟩,by rw[ar.o.left,l.o.left];exact left_shrinks es seen x ao.o⟩
end
section
attribute [local go_sem ↓] cB
def flN (x:aK):Nat→aK
 |0=>x
 |i+1=>(flN x i).set i ((flN x i).ds.getD i eN).flushed
theorem oT (x:aK):∀i,(flN x i).gs=x.gs∧(flN x i).secs=x.secs∧(flN x i).away=x.away∧(flN x i).ds.length=x.ds.length
 |0=>⟨rfl,rfl,rfl,rfl⟩
 |i+1=>by
  obtain⟨a,b,c,d⟩:=oT x i;exact⟨a,b,c,by unfold flN aK.set;rw[bLy];exact d⟩
theorem aDn (x:aK):∀i,i≤x.ds.length→∀j,(flN x i).ds.getD j eN=if j<i then(x.ds.getD j eN).flushed else x.ds.getD j eN
 |0,_,j=>by rw[i9 (by omega)];rfl
 |i+1,h,j=>by
  unfold flN;rw[aK.set_getD _ _ _ _ (by rw[(oT x i).2.2.2];omega),aDn x i (by omega),aDn x i (by omega),i9 (Nat.lt_irrefl i)]
  by_cases e:j=i
  ·subst e;rw[i6 rfl,i6 (by omega)]
  ·rw[i9 e]
   by_cases f:j<i
   ·rw[i6 f,i6 (by omega)]
   ·rw[i9 f,i9 (by omega)]
theorem bEz (x:aK):flN x x.ds.length=cM x:=by
 obtain⟨a,b,c,d⟩:=oT x x.ds.length;have e:(flN x x.ds.length).ds=(cM x).ds:=by
  refine bNg fun i=>?_
  by_cases f:i<x.ds.length
  ·have h1:=aDn x x.ds.length (d8 _) i
   have h2:=oU x i;rw[i6 f] at h1 h2;have h:(cM x).ds.length=x.ds.length:=by simp[cM]
   rw[←h2,a8,a8,b9 (by omega),b9 (by omega)] at h1
   rw[b9 (by omega),b9 (by omega)]
   exact o7 some h1
  ·rw[m7 (by omega),m7 (by simp[cM];omega)]
 generalize flN x x.ds.length=y at a b c e;cases y;dsimp only at a b c e;subst a b c e;rfl
theorem aMe (x:aK) (f:i<x.ds.length):(flN x i).ds.getD i eN=x.ds.getD i eN:=by rw[aDn x i (by omega),i9 (by omega)]
theorem bBw (x:aK) (f:i<x.ds.length):(flN x i).here i=x.here i:=by
 unfold aK.here;rw[aMe x f,(oT x i).2.2.1]
theorem aSb {x:aK} (h:bV w x V F) (hr:x.right=true) (bc:0<x.ds.length) (X:∀i,i<x.ds.length→x.here i=true∧(x.ds.getD i eN).fuse≠0):
  Calls prog 106 #[V.val x.secs] w fun e w'=>e= .returned (.tuple yF)∧gO (cM x) V F w w':=by
 have U:=hZ h;obtain⟨ca,cc,f,hF⟩:=h;obtain⟨l,q,ag,_⟩:=f.lcell bc;obtain⟨u,gc,bd⟩:=aY f.grp;obtain⟨z,wc,ah⟩:=aY f.awy;rw[f.n2] at ah;clear f hF;obtain⟨ai,E⟩:=nZ (w.alloc (.cells #[.slice u x.gs.length gc,x.secs,.slice (some l) x.ds.length q,.slice z x.ds.length wc] 43));have Y:Hid (bB w ai):=hZ (by rw[E];exact bZ)
 have L:Blk ai w.heap.size 43 [.slice u x.gs.length gc,x.secs,.slice (some l) x.ds.length q,.slice z x.ds.length wc]:=by rw[E];exact Blk.new w _ _
 have J:V.val x.secs= .agg #[.slice u x.gs.length gc,x.secs,.slice (some l) x.ds.length q,.slice z x.ds.length wc]:=by unfold kE.val;rw[bd,ag,ah]
 have ap:Hid (∀W,bB w W→Calls prog 59 #[.agg #[.slice u x.gs.length gc,x.secs,.slice (some l) x.ds.length q,.slice z x.ds.length wc]] W fun e w'=>e= .returned true∧bB W w'):=hZ (fun W br=>by rw[←J];exact fL (U.o.below br) hr)
 have aq:Hid (∀(W:World) (k:Nat) (D:Nat→Prop),bV W (flN x k) V D→k<x.ds.length→Calls prog 162 #[.agg #[.slice u x.gs.length gc,x.secs,.slice (some l) x.ds.length q,.slice z x.ds.length wc],(k:Nat)] W fun e w'=>e= .returned true∧bB W w'):=hZ (fun W k D hy p=>by
  have H:=xR hy k (by rw[(oT x k).2.2.2];exact p)
  rw[bBw x p,(X k p).1,(oT x k).2.1,J] at H;exact H)
 have ar:Hid (∀(W:World) (k:Nat) (D:Nat→Prop),bV W (flN x k) V D→k<x.ds.length→∃db,cZ W l k (.pointer (some db))∧Calls prog 166 #[.pointer (some db)] W fun e w'=>e= .returned (0:Int)∧gO (flN x (k+1)) V D W w'):=hZ (fun W k D hy p=>by
  obtain⟨cd,cf,f,hF⟩:=hy;have Z:k<(flN x k).ds.length:=by rw[(oT x k).2.2.2];exact p
  obtain⟨cg,ce,aa,bm⟩:=f.lcell (by omega)
  rw[ag] at aa;simp only[bMm,i5,bNl] at aa;obtain⟨⟨rfl,_⟩,_,_⟩:=aa;have be:=X k p;have bi:(x.ds.getD k eN).lost=false:=by
   have:=be.1;unfold aK.here at this;simp only[y8,bNr] at this;exact this.2
  refine⟨_,bm k Z,(aTo (f.dev k Z) (by rw[aMe x p];exact bi) (by rw[aMe x p];exact be.2)).mono ?_⟩
  rintro e w' ⟨rfl,bs⟩;exact⟨rfl,f.step hF Z bs⟩)
 have am:=hZ (bEz x);rw[J];obtain⟨n,N⟩:=nZ x.ds.length;obtain⟨aj,au⟩:=nZ x.gs.length;obtain⟨secs,av⟩:=nZ x.secs;obtain⟨C,O⟩:=nZ w.heap.size;rw[←N,←au,←av] at E L ap aq⊢;rw[←N] at am bc ar;rw[←O] at L;have bn:=hZ O;have aw:=hZ L;have cb:n≤1000:=by rw[N];exact U.o.gslen
 clear hr X J bd ag ah N au av L;go_in;go_upto_region 1 with fail
 rw[←E,←O];clear E O;have ab:=aB aw.o underlying43 rfl dC;go_wp2_with fail;refine(ap.o ai Y.o).mono ?_;rintro e bt ⟨rfl,ac⟩;have bj:=hZ ((kQ.start U.o).below (Y.o.trans (ac.mono Y.o.size)));have an:Hid (Blk bt C 43 [.slice u aj gc,secs,.slice (some l) n q,.slice z n wc]∧¬F C):=hZ ⟨aw.o.below ac,fun bu=>by have:=U.o.lt C bu;have:=bn.o;omega⟩
 have c2:=an.o.1.cell 2;clear ac ab;go_wp2_with fail;clear c2;go_loopw [4,12] (fun v4 ak wr=>v4= .int .i64 0∧∃(k:Nat) (I:Nat→Prop),ak= .int .i64 k∧k≤n∧Hid (kQ (flN x k) V F w wr I)∧Hid (Blk wr C 43 [.slice u aj gc,secs,.slice (some l) n q,.slice z n wc]∧¬I C)) (fun _ ak _=>n-(intOf ak).toNat)
 case atStart=>exact⟨rfl,0,F,rfl,z6 _,bj,an⟩
 case round=>
  obtain⟨rfl,k,I,rfl,p,ad,G⟩:=hrel;by_cases ax:k<n
  ·have bw:(k:Int)<(n:Int):=by omega
   have ch:0≤(k:Int):=by omega
   have ab:=aB G.o.1 underlying43 rfl dC;go_wp2_with fail;refine(aq.o wr k I ad.o.is ax).mono ?_;rintro e bx ⟨rfl,ae⟩;have ao:=hZ (ad.o.below ae);have af:=hZ (G.o.1.below ae);clear ae ab;have c2:=af.o.cell 2;obtain⟨db,bz,ay⟩:=ar.o bx k I ao.o.is ax;have bo:=hZ ay;clear ay;go_wp2_with fail;refine bo.o.mono ?_;rintro e w4 ⟨rfl,al⟩;obtain⟨bf,az,ba,bh⟩:=ao.o.step al;have bk:=hZ az;have bl:Hid (Blk w4 C 43 [.slice u aj gc,secs,.slice (some l) n q,.slice z n wc]∧¬bf C):=hZ ⟨bh.blk af.o G.o.2,ba C af.o.lt G.o.2⟩;clear al az ba bh c2 bz;go_wp2_with fail;go_roundw
   case rel=>exact⟨rfl,k+1,bf,by go_num,by omega,bk,bl⟩
   case measure=>simp[intOf];omega
  ·have bw:¬(k:Int)<(n:Int):=by omega
   have c2:=G.o.1.cell 2;have ci:((0:Int) == (n:Int))=false:=by simp;omega
   go_wp2_with fail;go_ret2;refine⟨rfl,?_⟩;have bq:k=n:=by omega
   have H:=ad.o.fin;rw[bq,am.o] at H;exact H
end

end Go.Proofs.YtepmcdopccflgaaGreatDoor

