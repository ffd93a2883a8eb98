/- Parts of the proof of the statement that the last file of this claim proves:lemmas,without any condition of their own beyond those that each states. -/
import Derived.Test.YtepmcdopccflgaaGreatDoorYV2
import Derived.Deep.QuietTactic
import Derived.BigQuiet
import Derived.Deep.RegionHeld3
import Derived.Deep.RegionLaw
import Derived.Deep.AppendLies
import Derived.IntWalk
import Derived.Deep.CutBlock
import Derived.Deep.DeepCutAuto
import Derived.Test.YtepmcdopccflgaaGreatDoorProg
set_option linter.unusedVariables false
set_option linter.unusedSimpArgs false
set_option linter.unnecessarySimpa false
set_option maxHeartbeats 4000000
set_option maxRecDepth 100000
namespace Go.Proofs.YtepmcdopccflgaaGreatDoor
open Go.RowKit Tryz
variable {b b' bl c10 c8 cap d db e g g10 g5 g8 gc gcc gp gx i j k lc mp n off wide:Nat} {dst:Option Tmp} {W w w' w1 wc wd wr:World} {Q:Exit→Act→World→Prop} {a:Act} {v:Value} {O data:List Bs} {ao wa:Option Addr} {dbs:List Nat} {box cs ds xs:List Value} {gs:Gs} {guard:Option (Nat×Bool)} {y:Operand} {sn:SN} {F F1:Nat→Prop} {next:Act→World→Prop} {secs:Int} {s:Bs} {after:Array Edge} {Fd:Nat→Nat→Prop} {c:List (Nat×Value)}
def dO (gs:Gs) (secs g a size:Int):Bool:=decide (0<bO gs secs g size∧0≤a∧a≤nH gs secs g-bO gs secs g size)
def uH (gs:Gs) (secs ag aa bg ba size:Int):Bool:=decide (ag≠bg∨aa+bO gs secs ag size≤ba∨ba+bO gs secs bg size≤aa)
def bD (gs:Gs) (secs:Int) (p:aC):Bool:=
 decide (0≤p.level∧p.level≤3∧1≤p.birth∧p.birth≤4294967295)&&dO gs secs p.ag p.aa p.size&&(if p.two=true then dO gs secs p.bg p.ba p.size&&uH gs secs p.ag p.aa p.bg p.ba p.size else decide (p.bg=0∧p.ba=0))
theorem aRz {g size:Int} (h:0<bO gs secs g size):bH gs secs=true∧0≤g∧g<gs.length∧1≤size∧size≤4:=by
 unfold bO at h;split at h
 ·rename_i f
  obtain⟨h1,h2,l⟩:=qX f.1;exact⟨h1,h2,l,f.2.1,f.2.2⟩
 ·omega
theorem aNg (h:bH gs secs=true) (f:i<gs.length):nH gs secs i=jF (gs.getD i (0,0)) secs:=by
 unfold nH;rw[i6 (xY h (by omega) (by omega)),s7]
def sP (p:aC):List (Nat×Nat):=(p.ag.toNat,p.aa.toNat)::if p.two=true then[(p.bg.toNat,p.ba.toNat)] else[]
def eJ (gs:Gs) (secs:Int) (p:aC):List St:=(sP p).map (fQ gs secs p.size)
theorem bK {g a size:Int} (h:dO gs secs g a size=true):bH gs secs=true∧0≤g∧g<gs.length∧1≤size∧size≤4∧0≤a∧a≤32768∧1≤bO gs secs g size∧bO gs secs g size≤6∧sOk gs secs (fQ gs secs size (g.toNat,a.toNat)):=by
 unfold dO at h;simp only[bLt] at h;obtain⟨h1,h2,q⟩:=h;obtain⟨f,r,u,m,p⟩:=aRz h1;obtain⟨i,rfl⟩:∃i:Nat,g=i:=⟨g.toNat,by omega⟩
 have l:i<gs.length:=by omega
 obtain⟨t,ht,z,A,ts⟩:=uR f l m p;rw[aNg f l,ht] at q;have hr:=aS f;have C:=yT (bM f l) hr.2.2.1 hr.2.2.2.1;refine⟨f,r,u,m,p,h2,by omega,by omega,by omega,⟨by simp only[fQ,s7];exact l,?_,?_⟩⟩
 ·simp only[fQ,s7,ht];exact z
 ·simp only[fQ,s7,ht];omega
theorem aUn {size:Int} {x:Nat×Nat} (hr:bH gs secs=true) (h1:1≤size) (h2:size≤4) (h:sOk gs secs (fQ gs secs size x)):dO gs secs x.1 x.2 size=true:=by
 obtain⟨t,ht,q,r,ts⟩:=uR hr h.lt h1 h2;have l:=aS hr;have p:=yT (bM hr h.lt) l.2.2.1 l.2.2.2.1;have f:=h.top;simp only[fQ] at f ht ts p;rw[ht,s7] at f;unfold dO;have m:=aNg hr h.lt;simp only[fQ] at m;rw[m,ht];simp only[bLt];omega
def mkP (p q:Nat×Nat) (two:Bool) (size:Int):aC:=⟨p.1,p.2,q.1,q.2,two,size,0,1,0,0,0,0⟩
theorem wK (p q:Nat×Nat) (two:Bool) (size:Int):sP (mkP p q two size)=p::if two=true then[q] else[]:=by cases two<;>simp[sP,mkP]
theorem zZ.right {L:List St} {p q:Nat×Nat} {two:Bool} {size:Int} (hr:bH gs secs=true) (h1:1≤size) (h2:size≤4) (h:zZ gs secs sn (L++aLb gs secs size two p q)) (t:two=false→q=(0,0)):
  bD gs secs (mkP p q two size)=true:=by
 have m:sOk gs secs (fQ gs secs size p):=h.ok _ (by cases two<;>simp[aLb])
 have r:=aUn hr h1 h2 m;cases two
 ·rw[t rfl]
  simp[bD,mkP,r]
 ·have f:sOk gs secs (fQ gs secs size q):=h.ok _ (by simp[aLb])
  have u:Dis (fQ gs secs size p) (fQ gs secs size q):=by
   have:=(bNs.1 h.dis).2.1;simp only[aLb,i6,List.pairwise_cons] at this;exact this.1 _ (by simp)
  have z:uH gs secs p.1 p.2 q.1 q.2 size=true:=by
   unfold uH;simp only[bLt];by_cases e:p.1=q.1
   ·right
    have A:=m.pos;have C:=f.pos;simp only[fQ] at A C;apply Classical.byContradiction;intro D;have l:=u p.1 (max p.2 q.2);simp only[aHe,fQ] at l;exact l ⟨trivial,by omega,by omega⟩ ⟨e.symm,by omega,by omega⟩
   ·left
    omega
  simp[bD,mkP,r,aUn hr h1 h2 f,z]
def kH (op:Nat→List (Nat×Nat)→Int→Int→Int×List (Nat×Nat)) (gs:Gs) (secs size:Int):List (Nat×Nat)→SN→Int×SN
 |[],sn=>(0,sn)
 |x::r,sn=>if(op (sn.getD x.1 sD).1 (sn.getD x.1 sD).2 (x.2:Nat) (bO gs secs x.1 size)).1=0 then kH op gs secs size r (pA sn x.1 (op (sn.getD x.1 sD).1 (sn.getD x.1 sD).2 (x.2:Nat) (bO gs secs x.1 size)).2) else((op (sn.getD x.1 sD).1 (sn.getD x.1 sD).2 (x.2:Nat) (bO gs secs x.1 size)).1,sn)
def vK (op:Nat→List (Nat×Nat)→Int→Int→Int×List (Nat×Nat)) (gs:Gs) (secs:Int) (sn:SN) (p:aC):Int×SN:=
 if bD gs secs p=true then(if(kH op gs secs p.size (sP p) sn).1=0 then kH op gs secs p.size (sP p) sn else((kH op gs secs p.size (sP p) sn).1,sn)) else(1,sn)
theorem gV {p:aC} (h:bD gs secs p=true):dO gs secs p.ag p.aa p.size=true∧(p.two=true→dO gs secs p.bg p.ba p.size=true∧uH gs secs p.ag p.aa p.bg p.ba p.size=true)∧(p.two=false→p.bg=0∧p.ba=0)∧(0≤p.level∧p.level≤3∧1≤p.birth∧p.birth≤4294967295):=by
 unfold bD at h;simp only[y8,bLt] at h;obtain⟨⟨h1,h2⟩,f⟩:=h;refine⟨h2,fun e=>?_,fun e=>?_,h1⟩
 ·rw[i6 e] at f;simpa using f
 ·rw[e] at f;simpa using f
theorem aHj {p:aC} (h:bD gs secs p=true):(∀s∈eJ gs secs p,sOk gs secs s)∧(eJ gs secs p).Pairwise Dis:=by
 obtain⟨h1,h2,_,_⟩:=gV h;have m:=bK h1;cases ht:p.two
 ·have e:eJ gs secs p=[fQ gs secs p.size (p.ag.toNat,p.aa.toNat)]:=by simp[eJ,sP,ht]
  rw[e];exact⟨fun s f=>by rw[y9.1 f];exact m.2.2.2.2.2.2.2.2.2,List.pairwise_singleton _ _⟩
 ·obtain⟨t,l⟩:=h2 ht
  have q:=bK t;have e:eJ gs secs p=[fQ gs secs p.size (p.ag.toNat,p.aa.toNat),fQ gs secs p.size (p.bg.toNat,p.ba.toNat)]:=by simp[eJ,sP,ht]
  rw[e];refine⟨fun s f=>?_,List.pairwise_cons.2 ⟨fun s f=>?_,List.pairwise_singleton _ _⟩⟩
  ·simp only[s8,bLp,bNo] at f
   rcases f with rfl|rfl
   ·exact m.2.2.2.2.2.2.2.2.2
   ·exact q.2.2.2.2.2.2.2.2.2
  ·rw[y9.1 f]
   intro g x r hy;unfold uH at l;simp only[bLt] at l;simp only[aHe,fQ] at r hy;rw[bLx m.2.1] at r;rw[bLx q.2.1] at hy;have u:=m.2.2.2.2.2;have z:=q.2.2.2.2.2;have A:=m.2.1;have C:=q.2.1;rcases l with l|l|l
   ·omega
   ·omega
   ·omega
section
variable {gs:Gs} {secs:Int} {sn:SN} {L:List St}
theorem aBu (size:Int):∀(f:List (Nat×Nat)) (sn:SN) (L:List St),zZ gs secs sn L→(∀x∈f,sOk gs secs (fQ gs secs size x)∧0≤bO gs secs x.1 size)→(f.map (fQ gs secs size)).Pairwise Dis→(∀x∈f,∀t∈L,Dis (fQ gs secs size x) t)→
  (kH cJ gs secs size f sn).1=0∧zZ gs secs (kH cJ gs secs size f sn).2 (L++f.map (fQ gs secs size))
 |[],sn,L,h,_,_,_=>⟨rfl,by simpa[kH] using h⟩
 |x::r,sn,L,h,m,l,p=>by
  obtain⟨q,u⟩:=m x (by simp)
  obtain⟨h0,h1,_⟩:=h.take q (p x (by simp))
  simp only[fQ,bLx u] at h0 h1;unfold kH;rw[i6 h0];simp only[List.map_cons,List.pairwise_cons] at l;have:=aBu size r _ _ h1 (fun y hy=>m y (by simp[hy])) l.2 (fun y hy t ht=>by
   rcases bMu.1 ht with ht|ht
   ·exact p y (by simp[hy]) t ht
   ·rw[y9.1 ht]
    exact(l.1 _ (List.mem_map_of_mem hy)).symm)
  refine⟨this.1,?_⟩;have h2:=this.2;simp only[bMd,List.singleton_append] at h2;exact h2
theorem aXu {p:aC} (h:bD gs secs p=true):∀x∈sP p,0≤bO gs secs x.1 p.size:=by
 obtain⟨h1,h2,_,_⟩:=gV h;have l:=bK h1;intro x f;unfold sP at f;rcases s8.1 f with rfl|f
 ·dsimp only
  rw[bLx l.2.1];omega
 ·cases ht:p.two
  ·rw[ht] at f;simp at f
  ·rw[ht] at f
   simp only[if_true,y9] at f;have m:=bK (h2 ht).1;rw[f];dsimp only;rw[bLx m.2.1];omega
theorem bFm {p:aC} (h:bD gs secs p=true) (l:zZ gs secs sn L) (m:∀s∈eJ gs secs p,∀t∈L,Dis s t):(vK cJ gs secs sn p).1=0∧zZ gs secs (vK cJ gs secs sn p).2 (L++eJ gs secs p):=by
 obtain⟨q,r⟩:=aHj h;obtain⟨h1,h2⟩:=aBu p.size (sP p) sn L l (fun x f=>⟨q _ (List.mem_map_of_mem f),aXu h x f⟩) r (fun x f=>m _ (List.mem_map_of_mem f))
 unfold vK;rw[i6 h,i6 h1];exact⟨h1,h2⟩
end
section
attribute [local go_sem ↓] Go.wp_at_zero Go.wp_at_succ
theorem aZm (p:aC) (f:1≤p.birth) (w:World):
  Calls prog 137 #[.agg (aA p).toArray] w fun e w'=>e= .returned false∧bB w w':=by
 obtain⟨q,r,t,u,z,A,C,h,D,E,l,m⟩:=p;dsimp only at f;have G:(h == 0)=false:=by simp;omega
 clear f
 show Calls _ _ #[.agg #[q,r,t,u,z,A,C,h,.int .u64 D,.int .u64 E,.int .u64 l,.int .u64 m]] _ _
 go_in;go_wp21;go_ret;exact⟨gF (by simp_all),bZ⟩
theorem aGq (p:aC) (I:1≤p.birth) (w:World):
  Calls prog 72 #[.agg (aA p).toArray] w fun e w'=>∃g,Hid (e= .returned (.slice (some ⟨g,0,none⟩) (if p.two=true then 2 else 1) (if p.two=true then 2 else 1)))∧w.heap.size≤g∧
   Blk w' g 46 (if p.two=true then[.int .i64 p.ag,.int .i64 p.aa,.int .i64 p.bg,.int .i64 p.ba] else[.int .i64 p.ag,.int .i64 p.aa])∧Below w.heap.size w w':=by
 have K:=hZ (aZm p I);obtain⟨r,t,u,z,h,A,C,D,E,G,l,m⟩:=p;have J:Hid (Below w.heap.size w (w.alloc (.cells #[.int .i64 r,.int .i64 t,.int .i64 u,.int .i64 z,.bool h,.int .i64 A,.int .i64 C,.int .i64 D,.int .u64 E,.int .u64 G,.int .u64 l,.int .u64 m] 51))):=hZ bZ;have N:=hZ (Blk.new w 51 [.int .i64 r,.int .i64 t,.int .i64 u,.int .i64 z,.bool h,.int .i64 A,.int .i64 C,.int .i64 D,.int .u64 E,.int .u64 G,.int .u64 l,.int .u64 m]);clear I
 show Calls _ _ #[.agg #[r,t,u,z,h,A,C,D,.int .u64 E,.int .u64 G,.int .u64 l,.int .u64 m]] _ _
 cases h
 all_goals
  go_enter func72,ntmps72;go_wp2_with fail;refine(K.o _).mono ?_;rintro e w1 ⟨rfl,q⟩;have H:=hZ (J.o.trans (q.mono J.o.size));have f:=N.o.below q;have c0:=f.cell 0;have P:=f.cell 1;have c2:=f.cell 2;have c3:=f.cell 3;have R:=f.cell 4;clear q f;go_wp2_with fail;go_ret;exact⟨w1.heap.size,hZ rfl,H.o.size,Blk.new w1 _ _,H.o.alloc H.o.size _⟩
theorem aWj (gs:Gs) (secs g size:Int):bO gs secs g size≤6∧nH gs secs g≤32768∧0≤nH gs secs g∧0≤bO gs secs g size:=by
 have ht:0≤bO gs secs g size∧bO gs secs g size≤6:=by
  unfold bO;split
  ·rename_i f
   obtain⟨h1,h2,h⟩:=qX f.1;obtain⟨i,rfl⟩:=Int.eq_ofNat_of_zero_le h2;have:=aEf (bM h1 (show i<gs.length by omega)) f.2.1 f.2.2
   rw[s7];omega
  ·omega
 have l:0≤nH gs secs g∧nH gs secs g≤32768:=by
  unfold nH;split
  ·rename_i f
   obtain⟨h1,h2,h⟩:=qX f;obtain⟨i,rfl⟩:=Int.eq_ofNat_of_zero_le h2;have hr:=aS h1;have:=yT (bM h1 (show i<gs.length by omega)) hr.2.2.1 hr.2.2.2.1
   rw[s7];omega
  ·omega
 omega
theorem aPg (ao:Option Addr) (n cap:Nat) (gs:Gs) (secs g a size:Int) (w:World) (h:oZ w ao n cap gs) (ah:eY a):
  Calls prog 199 #[.agg #[.slice ao n cap,secs],.agg #[g,a],size] w fun e w'=>e= .returned (.bool (dO gs secs g a size))∧bB w w':=by
 obtain⟨p,l⟩:=nZ ((w.alloc (.cells #[.slice ao n cap,secs] 24)).alloc (.cells #[g,a] 46));have q:bB w p:=by rw[l];exact(bZ).alloc (by simp) _
 have r:Blk p w.heap.size 24 [.slice ao n cap,secs]:=by rw[l];exact(Blk.new w _ _).alloc _
 have u:Blk p (w.heap.size+1) 46 [g,a]:=by rw[l];exact Blk.newAt _ _ (by simp)
 have U:=hZ (rV ao n cap gs secs g size p (h.below q));have P:=hZ q;have I:=hZ r;have J:=hZ u;have am:=hZ h;have X:=aWj gs secs g size;obtain⟨t,ht⟩:=nZ (bO gs secs g size);obtain⟨s,z⟩:=nZ (nH gs secs g);have Y:dO gs secs g a size=decide (0<t∧0≤a∧a≤s-t):=by rw[ht,z];rfl
 rw[←ht] at U;rw[←ht,←z] at X;obtain⟨an,x2,ap,aq⟩:=X;rw[Y];have Z:∀W,bB p W→Calls prog 34 #[.agg #[.slice ao n cap,secs],g] W fun e w'=>e= .returned s∧bB W w':=fun W f=>by
  rw[z];exact yL ao n cap gs secs g W ((h.below q).below f)
 have ab:=hZ Z;have A:=r.cell 0;have C:=r.cell 1;have r0:=u.cell 0;have r1:=u.cell 1;have K:Hid (∀x:Bool,x=decide (0<t∧0≤a∧a≤s-t)→Ending.returned (.bool x)= .returned (.bool (decide (0<t∧0≤a∧a≤s-t)))):=hZ (fun x e=>by rw[e])
 clear q r u h Y ht z Z A C r0 r1;go_in;go_wp2_with fail;rw[←l];clear l;have A:=I.o.cell 0;have C:=I.o.cell 1;have r0:=J.o.cell 0;have r1:=J.o.cell 1;go_wp2_with fail;refine U.o.mono ?_;rintro e w1 ⟨rfl,m⟩;have D:=hZ (P.o.trans (m.mono P.o.size));have E:=I.o.below m;have G:=J.o.below m;clear A C r0 r1;have A:=E.cell 0;have C:=E.cell 1;have r0:=G.cell 0;have r1:=G.cell 1;have R:=hZ E;have S:=hZ G;have ae:=hZ (ab.o w1.drew (m.trans (i4 _ _).drew));clear m E G;have ac:Hid (∀W,Below w1.heap.size w1.drew W→W.cell? ⟨w.heap.size,0,none⟩=some (.slice ao n cap)∧W.cell? ⟨w.heap.size,1,none⟩=some secs∧W.cell? ⟨w.heap.size+1,0,none⟩=some g∧W.cell? ⟨w.heap.size+1,1,none⟩=some a):=hZ (fun W f=>⟨(R.o.below ((i4 _ _).drew.trans f)).cell 0,(R.o.below ((i4 _ _).drew.trans f)).cell 1,(S.o.below ((i4 _ _).drew.trans f)).cell 0,(S.o.below ((i4 _ _).drew.trans f)).cell 1⟩)
 by_cases H:0<t
 ·by_cases d2:0≤a
  ·have af:=bMi d2
   have aa:=bMi H;go_wp2_with fail;go_region_held3 (fun w'=>w'.cell? ⟨w.heap.size,0,none⟩=some (.slice ao n cap)∧w'.cell? ⟨w.heap.size,1,none⟩=some secs∧w'.cell? ⟨w.heap.size+1,0,none⟩=some g∧w'.cell? ⟨w.heap.size+1,1,none⟩=some a) (go_keep)
    (first|(go_at_call 34;refine ae.o.mono ?_;rintro e ag ⟨rfl,N⟩;obtain⟨ai,aj,ak,al⟩:=ac.o ag N;have ad:=hZ N;clear N))
   all_goals
    go_wp2_with fail;go_ret;exact⟨K.o _ (by rw[bLo (s-t) (by omega)];simp[H,d2]),D.o.trans (((i4 _ _).drew.trans ad.o).mono D.o.size)⟩
  ·have af:=bMj d2
   have aa:=bMi H;go_wp2_with fail;go_quiet (fail);go_wp2_with fail;go_ret;exact⟨K.o _ (bMj (by omega)).symm,dB D.o _⟩
 ·have aa:=bMj H
  go_wp2_with fail;go_quiet (fail);go_wp2_with fail;go_ret;exact⟨K.o _ (bMj (by omega)).symm,dB D.o _⟩
end
section
attribute [local go_sem ↓] Go.wp_at_zero Go.wp_at_succ
abbrev bJ:=Nat×Nat×Bool×Nat
def dI (c:bJ):List Value:=[.int .i64 (c.1:Nat),.int .i64 (c.2.1:Nat),.bool c.2.2.1,.int .i64 (c.2.2.2:Nat)]
def eM (l:List bJ):List Value:=l.flatMap dI
theorem aCt (a b:List bJ):eM (a++b)=eM a++eM b:=by simp[eM]
theorem zY (l:List bJ):∀u∈eM l,u.oneCell'=true:=by
 intro u f;simp only[eM,List.mem_flatMap,dI,s8,bLp,bNo] at f;obtain⟨c,_,h⟩:=f;rcases h with rfl|rfl|rfl|rfl<;>rfl
theorem bBi:(prog.info? 311).map (fun i=>(i.zero,i.size,i.bytes))=some (some (.agg yI),4,32):=by kernel_rfl
def vI (first at_ d i:Nat):List bJ:=(List.range i).map fun j=>(first+d,16+at_+j,false,j)
def lX (first at_ size:Nat):Nat→List bJ
 |0=>[]
 |d+1=>lX first at_ size d++vI first at_ d size
theorem aVn (first at_ d i:Nat):vI first at_ d (i+1)=vI first at_ d i++[(first+d,16+at_+i,false,i)]:=by simp[vI,bMk]
theorem aCf (first at_ d i:Nat):(vI first at_ d i).length=i:=by simp[vI]
theorem dA (first at_ size:Nat):∀d,(lX first at_ size d).length=d*size
 |0=>by simp[lX]
 |d+1=>by simp[lX,dA first at_ size d,aCf,Nat.succ_mul]
theorem aTi (first wide at_ size:Nat) (w:World) (h1:first≤1000) (h2:wide≤8) (ac:at_≤100000) (S:size≤4):
    Calls prog 201 #[.int .i64 (first:Nat),.int .i64 (wide:Nat),.int .i64 (at_:Nat),.int .i64 (size:Nat)] w fun e w'=>∃v,e= .returned v∧w'.ownsRow w.heap.size 311 4 v (lX first at_ size wide).length (eM (lX first at_ size wide))∧Below w.heap.size w w':=by
  obtain⟨U,X,E,G,H⟩:=bMo bBi;go_enter func201,ntmps201;go_wp2_with fail;go_loopw [9,13] (fun v i wr=>∃d:Nat,d≤wide∧i= .int .i64 (d:Nat)∧Hid (wr.ownsRow w.heap.size 311 4 v (lX first at_ size d).length (eM (lX first at_ size d)))∧Hid (Below w.heap.size w wr)) (fun _ i _=>wide-(intOf i).toNat)
  case atStart=>exact⟨0,by omega,rfl,hZ (bMa _ _ _ _),hZ (i4 _ _)⟩
  case round=>
    obtain⟨d,ad,rfl,m,p⟩:=hrel;by_cases aa:d<wide
    ·obtain⟨t,rfl⟩:∃t:World,t=wr:=⟨_,rfl⟩
     go_wp2_with fail;go_loopw [9,17] (fun v i wr=>∃j:Nat,j≤size∧i= .int .i64 (j:Nat)∧Hid (wr.ownsRow w.heap.size 311 4 v (lX first at_ size d++vI first at_ d j).length (eM (lX first at_ size d++vI first at_ d j)))∧Hid (Below w.heap.size w wr)) (fun _ i _=>size-(intOf i).toNat)
     case atStart=>exact⟨0,by omega,rfl,hZ (by
       have e:lX first at_ size d++vI first at_ d 0=lX first at_ size d:=by simp[vI]
       rw[e];exact m.o),p⟩
     case round=>
       obtain⟨j,ae,rfl,f,h⟩:=hrel;by_cases ab:j<size
       ·have I:(lX first at_ size d++vI first at_ d j).length≤100:=by
          rw[i7,dA,aCf];have:d*size≤8*4:=Nat.mul_le_mul (by omega) S
          omega
        obtain⟨L,l⟩:=nZ (lX first at_ size d++vI first at_ d j);have q:lX first at_ size d++vI first at_ d (j+1)=L++[(first+d,16+at_+j,false,j)]:=by rw[l,aVn,bMd]
        rw[←l] at f I;obtain⟨J,D,rfl,_⟩:=RSl.of_owns f.o;have K:=hZ q;have Y:L.length+1≤maxLen:=by unfold maxLen;omega
        have Z:(L.length+1)*32≤140737488355328:=by omega
        have u:w.heap.size≤(wr.alloc (.cells (eM [(first+d,16+at_+j,false,j)]).toArray 311)).heap.size:=by have:=h.o.size;simp;omega
        have r:=Blk.news (Blk.newAt (w:=wr) 311 (eM [(first+d,16+at_+j,false,j)]) rfl);have N:=hZ r;clear l q r;go_wp2_with (at_builtin;go_must (refine bNe _ rfl (.tmp 20) (.tmp 30) 231 rfl w.heap.size 311 U (.agg #[.int .i64 0,.int .i64 0,.bool false,.int .i64 0]) 4 32 underlying231 X E G H rfl (Nat.succ_pos 3) (.slice J L.length D) L.length (eM L) rfl (f.o.alloc _) ⟨wr.heap.size,0,none⟩ 1 1 (eM [(first+d,16+at_+j,false,j)]) rfl rfl N.o (zY _) Y Z u ?_;intro v1 w1 A z _));have P:=hZ (cF (base:=w.heap.size) (h.o.alloc h.o.size (.cells (eM [(first+d,16+at_+j,false,j)]).toArray 311)) (f.o.alloc _) z u (d8 _));have C:w1.ownsRow w.heap.size 311 4 v1 (lX first at_ size d++vI first at_ d (j+1)).length (eM (lX first at_ size d++vI first at_ d (j+1))):=by
          rw[K.o,aCt,i7];exact A
        go_roundw
        case rel=>exact⟨j+1,by omega,by go_num,hZ C,P⟩
        case measure=>simp[intOf];omega
       ·obtain rfl:size=j:=by omega
        go_wp2_with fail;go_roundw
        case rel=>exact⟨d+1,by omega,by go_num,f,h⟩
        case measure=>simp[intOf];omega
    ·have R:d=wide:=by omega
     subst R;go_wp2_with fail;go_ret;exact⟨_,rfl,m.o,p.o⟩
def qD (first wide at_:Nat) (out:List bJ) (row:Nat) (par:Bool):List bJ:=out++[(first+(at_+out.length)%wide,16+(at_+out.length)/wide,par,row)]
def jV (first wide at_:Nat):Nat→List bJ
 |0=>[]
 |i+1=>qD first wide at_ (if i%(wide-1)=0 then qD first wide at_ (jV first wide at_ i) (i/(wide-1)) true else jV first wide at_ i) (i/(wide-1)) false
theorem jU (first wide at_:Nat) (out:List bJ) (row:Nat) (f:Bool):(qD first wide at_ out row f).length=out.length+1:=by simp[qD]
theorem uE (first wide at_:Nat):∀i,(jV first wide at_ i).length≤2*i
 |0=>by simp[jV]
 |i+1=>by
  have:=uE first wide at_ i;simp only[jV,jU];split
  ·rw[jU];omega
  ·omega
theorem aPw (first wide at_ row:Nat) (f:Bool) (base ga m gf D:Nat) (out:List bJ) (v:Value) (w:World) (h1:first≤1000) (h2:wide≤8) (az:1≤wide) (bh:at_≤100000) (ba:row≤100) (bi:out.length≤100)
  (E:Blk w ga 3 [(at_:Nat)]) (t:Blk w m 231 [v]) (G:Blk w gf 3 [(first:Nat)]) (H:Blk w D 3 [(wide:Nat)]) (R:w.ownsRow base 311 4 v out.length (eM out)) (am:base≤m):
  Calls prog 254 #[(row:Nat),.bool f,.pointer (some ga),.pointer (some m),.pointer (some gf),.pointer (some D)] w fun e w'=>e= .returned (.tuple #[])∧
   ∃v',Blk w' m 231 [v']∧w'.ownsRow base 311 4 v' (qD first wide at_ out row f).length (eM (qD first wide at_ out row f))∧Blk w' ga 3 [(at_:Nat)]∧Blk w' gf 3 [(first:Nat)]∧Blk w' D 3 [(wide:Nat)]∧
    w.heap.size≤w'.heap.size∧(∀B,B≤base→B≤w.heap.size→Below B w w'):=by
 obtain⟨an,ap,ah,ai,aj⟩:=bMo bBi;obtain⟨ab,Z,rfl,_⟩:=RSl.of_owns R;obtain⟨q,I⟩:=nZ ((at_+out.length)/wide);obtain⟨r,hr⟩:=nZ ((at_+out.length)%wide);have aq:=hZ (show qD first wide at_ out row f=out++[(first+r,16+q,f,row)] by rw[I,hr];rfl)
 have bb:r<8:=by rw[hr];exact bNc (bNd _ (by omega)) h2
 have bc:q≤200000:=by rw[I];exact l6 (Nat.div_le_self _ _) (by omega)
 have c0:=E.cell 0;have bj:=t.cell 0;have c2:=G.cell 0;have c3:=H.cell 0;have bd:=t.lt;have A:∀g x,Blk w g 3 [x]→g≠m:=fun g x h e=>by
  subst e;unfold Blk at h t;rw[h] at t;simp only[i5,n7] at t;exact absurd t.2.1 (by decide)
 have ac:=hZ (A _ _ E);have ad:=hZ (A _ _ G);have aa:=hZ (A _ _ H);have J:=hZ E;have ar:=hZ t;have N:=hZ G;have P:=hZ H;have z:=hZ R;have au:out.length+1≤maxLen:=by unfold maxLen;omega
 have av:(out.length+1)*32≤140737488355328:=by omega
 have ak:Hid (base≤(w.alloc (.cells (eM [(first+r,16+q,f,row)]).toArray 311)).heap.size):=hZ (by simp;omega)
 have bk:wide≠0:=by omega
 have bm:IntKind.i64.wrap ((at_:Int)+(out.length:Int))=(at_:Int)+(out.length:Int):=bLo _ (by omega)
 have bn:((at_:Int)+(out.length:Int)).tmod (wide:Int)=(r:Int):=by
  rw[hr,show(at_:Int)+(out.length:Int)=((at_+out.length:Nat):Int) by omega,Int.tmod_eq_emod_of_nonneg (by omega)]
  rfl
 have bo:((at_:Int)+(out.length:Int)).tdiv (wide:Int)=(q:Int):=by
  rw[I,show(at_:Int)+(out.length:Int)=((at_+out.length:Nat):Int) by omega,Int.tdiv_eq_ediv_of_nonneg (by omega)]
  rfl
 have bq:IntKind.i64.wrap ((first:Int)+(r:Int))=(first:Int)+(r:Int):=bLo _ (by omega)
 have br:IntKind.i64.wrap (16+(q:Int))=16+(q:Int):=bLo _ (by omega)
 have bs:IntKind.i64.wrap (q:Int)=(q:Int):=bLo _ (by omega)
 have bt:IntKind.i64.wrap (r:Int)=(r:Int):=bLo _ (by omega)
 clear I hr;clear E t G H R A;go_in;go_wp21;refine l7 (S:=(fun w'=>w'.cell? ga=some (at_:Nat)∧w'.cell? gf=some (first:Nat)∧w'.cell? D=some (wide:Nat))) (by kernel_rfl) (by go_keep) (fun be=>?_)
 refine aE 1 ?_;refine aE 2 ?_;refine aE 3 ?_;refine aE 4 ?_;refine aE 5 ?_;refine aE 6 ?_;refine aE 7 ?_;refine aE 8 ?_;refine aE 9 ?_;refine aE 10 ?_;refine aE 11 ?_;refine aE 12 ?_;refine vB [0,13] ?_;refine z8 rfl (fun K l=>?_) (z8 rfl (fun K l=>?_) rn)
 case' _=>
  go_simp;refine l.o _ _ ⟨J.o.cell 0,N.o.cell 0,P.o.cell 0⟩ (fun _=>?_)
  try simp only[Act.put,z1,z2,z3]
  clear l;clear K;refine vB [13] ?_
 rotate_left
 case' _=>
  go_simp;refine l.o _ _ ⟨(J.o.alloc _).cell 0,(N.o.alloc _).cell 0,(P.o.alloc _).cell 0⟩ (fun _=>?_)
  try simp only[Act.put,z1,z2,z3]
  clear l;clear K;refine vB [0] ?_
 all_goals
  refine z8 rfl (fun K l=>?_) rn
  go_simp;refine l.o _ _ ⟨(J.o.alloc _).cell 0,(N.o.alloc _).cell 0,(P.o.alloc _).cell 0⟩ (fun _=>?_)
  try simp only[Act.put,z1,z2,z3]
  clear l;clear K;refine vB [14] ?_;refine z8 rfl (fun K l=>?_) rn
  refine step_append_lies _ (by rfl) _ _ _ (by rfl) base 311 an (.agg yI) 4 32 underlying231 ap ah ai aj rfl (Nat.succ_pos 3) (.slice ab out.length Z) out.length (eM out) (by rfl) (z.o.alloc _) ⟨w.heap.size,0,none⟩ 1 1 (eM [(first+r,16+q,f,row)]) (by rfl) rfl (Blk.news (Blk.newAt (w:=w) 311 (eM [(first+r,16+q,f,row)]) rfl)) (zY _) (by omega) au av (ak.o) (w.heap.size+1) (by simp) ?_
  intro bu ax aw ag af bf ay;have u:(w.alloc (.cells (eM [(first+r,16+q,f,row)]).toArray 311)).grownBy aw (Value.slice ab out.length Z).ownBlock:=eV (rO _ _) af;have U:=hZ ((J.o.alloc (.cells (eM [(first+r,16+q,f,row)]).toArray 311)).ownKept (z.o.alloc _) (by decide) u)
  have X:=hZ ((N.o.alloc (.cells (eM [(first+r,16+q,f,row)]).toArray 311)).ownKept (z.o.alloc _) (by decide) u)
  have Y:=hZ ((P.o.alloc (.cells (eM [(first+r,16+q,f,row)]).toArray 311)).ownKept (z.o.alloc _) (by decide) u)
  have C:=hZ ((ar.o.alloc (.cells (eM [(first+r,16+q,f,row)]).toArray 311)).ownKept (z.o.alloc _) (by decide) u)
  have o5:=C.o.cell 0;have bv:=C.o.frozen 0;refine l.o _ _ ⟨U.o.cell 0,X.o.cell 0,Y.o.cell 0⟩ (fun _=>?_)
  try simp only[Act.put,z1,z2,z3]
  clear l;clear K;refine vB [15] ?_;refine z8 rfl (fun K l=>?_) rn
  go_simp;refine l.o _ _ ⟨(U.o.other (a:=m) ac.o _).cell 0,(X.o.other (a:=m) ad.o _).cell 0,(Y.o.other (a:=m) aa.o _).cell 0⟩ (fun _=>?_)
  try simp only[Act.put,z1,z2,z3]
  refine r8 (by kernel_rfl) ?_ _
  go_wp21;go_end0;rw[aq.o,i7,aCt];exact⟨rfl,_,C.o.setCell 0 _,iX ag C.o (by decide),U.o.other (a:=m) ac.o _,X.o.other (a:=m) ad.o _,Y.o.other (a:=m) aa.o _,by have:=u.size;simp[World.setCell] at this⊢;omega,fun B ae al=>(cF (base:=base) ((i4 _ _).alloc al _) (z.o.alloc _) u (by simp;omega) ae).setCell (p:=m) (l6 ae am) _⟩
theorem aBo (args:Array Value) (W:World):(callFunc 254 args).run prog W= .ok (.enter 254 args) W:=by kernel_rfl
theorem aSe (first wide at_ size:Nat) (w:World) (h1:first≤1000) (bn:3≤wide) (h2:wide≤8) (az:at_≤100000) (bt:size≤4):
  Calls prog 202 #[(first:Nat),(wide:Nat),(at_:Nat),(size:Nat)] w fun e w'=>∃v,e= .returned v∧w'.ownsRow w.heap.size 311 4 v (jV first wide at_ size).length (eM (jV first wide at_ size))∧bB w w':=by
 have bo:=aBo;obtain⟨l,f⟩:=nZ ((((w.alloc (.cells #[(first:Nat)] 3)).alloc (.cells #[(wide:Nat)] 3)).alloc (.cells #[(at_:Nat)] 3)).alloc (.cells #[.slice none 0 0] 231));have J:bB w l:=by rw[f];exact(((bZ).alloc (by simp) _).alloc (by simp;omega) _).alloc (by simp;omega) _
 have hF:Blk l w.heap.size 3 [(first:Nat)]:=by rw[f];exact(((Blk.new w 3 [(first:Nat)]).alloc _).alloc _).alloc _
 have ac:Blk l (w.heap.size+1) 3 [(wide:Nat)]:=by rw[f];exact((Blk.newAt 3 [(wide:Nat)] (by simp)).alloc _).alloc _
 have ad:Blk l (w.heap.size+1+1) 3 [(at_:Nat)]:=by rw[f];exact(Blk.newAt 3 [(at_:Nat)] (by simp)).alloc _
 have ae:Blk l (w.heap.size+1+1+1) 231 [.slice none 0 0]:=by rw[f];exact Blk.newAt 231 [.slice none 0 0] (by simp)
 have K:=hZ J;have af:=hZ hF;have ag:=hZ ac;have ah:=hZ ad;have ai:=hZ ae;clear J hF ac ad ae;go_in;go_wp2_with fail;rw[←f];clear f;go_loopw [15] (fun i wr=>∃(k:Nat) (v:Value),k≤size∧i= .int .i64 (k:Nat)∧Hid (Blk wr w.heap.size 3 [(first:Nat)])∧Hid (Blk wr (w.heap.size+1) 3 [(wide:Nat)])∧Hid (Blk wr (w.heap.size+1+1) 3 [(at_:Nat)])∧Hid (Blk wr (w.heap.size+1+1+1) 231 [v])∧
  Hid (wr.ownsRow w.heap.size 311 4 v (jV first wide at_ k).length (eM (jV first wide at_ k)))∧Hid (bB w wr)) (fun i _=>size-(intOf i).toNat)
 case atStart=>exact⟨0,_,by omega,rfl,af,ag,ah,ai,hZ (bMa _ _ _ _),K⟩
 case round=>
  obtain⟨k,v,bu,rfl,aj,G,ak,H,u,p⟩:=hrel;clear af ag ah ai K;by_cases bq:k<size
  ·have br:=uE first wide at_ k
   obtain⟨row,h⟩:∃r,r=k/(wide-1):=⟨_,rfl⟩;have am:row≤100:=by rw[h];exact l6 (Nat.div_le_self _ _) (by omega)
   have bm:(k:Int)/((wide:Int)-1)=(row:Int):=by rw[h,show(wide:Int)-1=((wide-1:Nat):Int) by omega];rfl
   have bv:(3:Int)≤(wide:Int):=by omega
   have x2:(wide:Int)≤8:=by omega
   have bw:=G.o.cell 0;have N:∀W out v,Blk W w.heap.size 3 [(first:Nat)]→Blk W (w.heap.size+1) 3 [(wide:Nat)]→Blk W (w.heap.size+1+1) 3 [(at_:Nat)]→Blk W (w.heap.size+1+1+1) 231 [v]→W.ownsRow w.heap.size 311 4 v out.length (eM out)→out.length≤100→∀P,_:=
    fun W out v ba bb bc bd be bf P=>aPw first wide at_ row P w.heap.size (w.heap.size+1+1) (w.heap.size+1+1+1) w.heap.size (w.heap.size+1) out v W h1 h2 (by omega) az am bf bc bd ba bb be (by omega)
   have z:=hZ N;have R:=p.o.size;clear N;by_cases m:k%(wide-1)=0
   case' _=>
    have al:((k:Int)%((wide:Int)-1) == 0)=true:=by
     rw[show(wide:Int)-1=((wide-1:Nat):Int) by omega,show(k:Int)%((wide-1:Nat):Int)=((k%(wide-1):Nat):Int) from rfl,m];rfl
    have S:=hZ (show jV first wide at_ (k+1)=qD first wide at_ (qD first wide at_ (jV first wide at_ k) row true) row false by rw[jV,i6 m,←h])
    have an:(qD first wide at_ (jV first wide at_ k) row true).length≤100:=by rw[jU];omega
    clear h m;go_wp2_with fail;refine(z.o _ _ _ aj.o G.o ak.o H.o u.o (by omega) true).mono ?_
    rintro e w1 ⟨rfl,v1,U,I,X,Y,Z,bs,aa⟩;have bh:=hZ U;have bi:=hZ X;have bj:=hZ Y;have BW:=hZ Z;have ap:=hZ I;have aq:=hZ (p.o.trans (aa _ (d8 _) R));clear U X Y Z I aa;go_wp2_with fail;refine(z.o _ _ _ bj.o BW.o bi.o bh.o ap.o an false).mono ?_;rintro e bk ⟨rfl,v2,A,t,C,D,E,ar,q⟩;have ab:=hZ (aq.o.trans (q _ (d8 _) (by omega)))
   rotate_left
   case' _=>
    have al:((k:Int)%((wide:Int)-1) == 0)=false:=by
     rw[show(wide:Int)-1=((wide-1:Nat):Int) by omega,show(k:Int)%((wide-1:Nat):Int)=((k%(wide-1):Nat):Int) from rfl];simp;omega
    have S:=hZ (show jV first wide at_ (k+1)=qD first wide at_ (jV first wide at_ k) row false by rw[jV,i9 m,←h])
    clear h m;go_wp2_with fail;refine(z.o _ _ _ aj.o G.o ak.o H.o u.o (by omega) false).mono ?_
    rintro e bk ⟨rfl,v2,A,t,C,D,E,ar,q⟩;have ab:=hZ (p.o.trans (q _ (d8 _) R))
   all_goals
    have au:=hZ t;have av:=hZ A;have aw:=hZ C;have ax:=hZ D;have ay:=hZ E;clear A C D E t q;go_wp2_with fail;go_roundw
    case rel=>exact⟨k+1,v2,by omega,by go_num,ax,ay,aw,av,hZ (by rw[S.o];exact au.o),ab⟩
    case measure=>simp[intOf];omega
  ·obtain rfl:size=k:=by omega
   have bx:=H.o.cell 0;go_wp2_with fail;go_ret;exact⟨_,rfl,u.o,p.o⟩
end
section
attribute [local go_sem ↓] Go.wp_at_zero Go.wp_at_succ
theorem aQz (ao:Option Addr) (n cap:Nat) (gs:Gs) (secs:Int) (i:Nat) (w:World) (h:oZ w ao n cap gs) (hr:bH gs secs=true) (ag:i<n):
  Calls prog 200 #[.agg #[.slice ao n cap,secs],(i:Nat)] w fun e w'=>e= .returned (.int .i64 (fX gs i))∧bB w w':=by
 have C:=h.len;have Y:=h.mx;have Z:=(aS hr).2.1;have f:bB w (w.alloc (.cells #[.slice ao n cap,secs] 24)):=bZ;have t:=Blk.new w 24 [.slice ao n cap,secs];have hT:=aFs ao n cap gs secs i (w.alloc (.cells #[.slice ao n cap,secs] 24)) (h.below f);rw[xY hr (by omega) (by omega)] at hT
 have D:=hZ hT;have u:=hZ f;have J:=hZ t;obtain⟨b,off,rfl,R,E⟩:=h.at_ (by omega)
 have S:=hZ E;have K:=hZ (pZ hr);have N:=hZ (qY gs);have z:∀j,j<n→1≤(gs.getD j (0,0)).2∧(gs.getD j (0,0)).2≤8:=fun j ah=>by have:=bM hr (show j<gs.length by omega);omega
 have P:=hZ z;have m:=hZ C;clear hT f t h E z C hr;go_in;go_wp2_with fail;refine D.o.mono ?_;rintro e w1 ⟨rfl,l⟩;have U:=hZ (J.o.below l);have G:=hZ (u.o.trans (l.mono u.o.size));clear l D;have c0:=U.o.cell 0;go_wp2_with fail;go_loop [5,12] (fun s j=>∃k:Nat,k≤i∧j= .int .i64 (k:Nat)∧s= .int .i64 (fX gs k)) (fun _ j=>i-(intOf j).toNat)
 case atStart=>exact⟨0,by omega,rfl,rfl⟩
 case round=>
  obtain⟨k,ai,rfl,rfl⟩:=hrel;by_cases aa:k<i
  ·have A:k<n:=by omega
   have X:=(G.o.cell (p:=⟨b,off+k*2+1,none⟩) R).trans (S.o k A).2;have h1:=K.o k (by have:=m.o;omega)
   have h2:=P.o k A;have H:=N.o k (by have:=m.o;omega)
   have q:=hZ H;obtain⟨s,r⟩:=nZ (fX gs k);obtain⟨x,I⟩:=nZ ((gs.getD k (0,0)).2);rw[←r] at q h1;rw[←I] at q h2 X;obtain⟨ab,ac⟩:=h1;have ad:s≤32:=by have:=m.o;omega
   obtain⟨ae,af⟩:=h2;rw[←r];clear H r I;go_wp2_with fail;go_round
   case rel=>exact⟨k+1,by omega,by go_num,by rw[q.o]⟩
   case measure=>simp[intOf];omega
  ·obtain rfl:i=k:=by omega
   go_wp2_with fail;go_ret;exact⟨rfl,G.o⟩
def aI (gs:Gs) (g a size:Nat):List bJ:=
 if(gs.getD g (0,0)).1=0 then lX (fX gs g).toNat a size (gs.getD g (0,0)).2.toNat else jV (fX gs g).toNat (gs.getD g (0,0)).2.toNat a size
theorem bAv (ao:Option Addr) (n cap:Nat) (gs:Gs) (secs g a size:Int) (w:World) (h:oZ w ao n cap gs) (u:eY a) (z:dO gs secs g a size=false):
  Calls prog 135 #[.agg #[.slice ao n cap,secs],.agg #[g,a],size] w fun e w'=>e= .returned (.tuple #[.slice none 0 0,(1:Int)])∧bB w w':=by
 obtain⟨l,f⟩:=nZ ((w.alloc (.cells #[.slice ao n cap,secs] 24)).alloc (.cells #[g,a] 46));have m:bB w l:=by rw[f];exact(bZ).alloc (by simp) _
 have p:Blk l w.heap.size 24 [.slice ao n cap,secs]:=by rw[f];exact(Blk.new w _ _).alloc _
 have q:Blk l (w.heap.size+1) 46 [g,a]:=by rw[f];exact Blk.newAt _ _ (by simp)
 have hT:=aPg ao n cap gs secs g a size l (h.below m) u;rw[z] at hT;have r:=hZ m;have A:=p.cell 0;have C:=p.cell 1;have r0:=q.cell 0;have r1:=q.cell 1;go_in;go_wp21;rw[←f];go_wp21;refine hT.mono ?_;rintro e w1 ⟨rfl,t⟩;go_wp21;go_ret2;exact⟨rfl,r.o.trans (t.mono r.o.size)⟩
theorem pP (ao:Option Addr) (n cap:Nat) (gs:Gs) (secs:Int) (g a size:Nat) (w:World) (h:oZ w ao n cap gs) (ah:dO gs secs g a size=true):
  Calls prog 135 #[.agg #[.slice ao n cap,secs],.agg #[(g:Nat),(a:Nat)],(size:Nat)] w fun e w'=>∃v,e= .returned (.tuple #[v,.int .i64 0])∧
   w'.ownsRow w.heap.size 311 4 v (aI gs g a size).length (eM (aI gs g a size))∧bB w w':=by
 have H:=bK ah;have ca:=h.len;have ak:g<n:=by have:=H.2.2.1;omega
 obtain⟨r,K⟩:=nZ ((w.alloc (.cells #[.slice ao n cap,secs] 24)).alloc (.cells #[(g:Nat),(a:Nat)] 46));have z:bB w r:=by rw[K];exact(bZ).alloc (by simp) _
 have N:Blk r w.heap.size 24 [.slice ao n cap,secs]:=by rw[K];exact(Blk.new w _ _).alloc _
 have G:Blk r (w.heap.size+1) 46 [(g:Nat),(a:Nat)]:=by rw[K];exact Blk.newAt _ _ (by simp)
 have hT:=aPg ao n cap gs secs (g:Nat) (a:Nat) (size:Nat) r (h.below z) ⟨by omega,by have:=H.2.2.2.2.2.2.1;omega⟩
 rw[ah] at hT;have P:=H.1;have aa:=pZ P g (by omega)
 have Z:=bM P (show g<gs.length by omega)
 obtain⟨b,off,rfl,ai,aw⟩:=h.at_ (by omega)
 obtain⟨k0,k1⟩:=aw g ak;have ab:=fun W (u:bB r W)=>aQz _ n cap gs secs g W ((h.below z).below u) P ak
 have R:=hZ (show aI gs g a size=if(gs.getD g (0,0)).1=0 then lX (fX gs g).toNat a size (gs.getD g (0,0)).2.toNat else jV (fX gs g).toNat (gs.getD g (0,0)).2.toNat a size from rfl)
 obtain⟨gx,al⟩:∃x,x=gs.getD g (0,0):=⟨_,rfl⟩;rw[←al] at R k0 k1 Z;obtain⟨k,x⟩:=gx;obtain⟨f,ax⟩:=nZ (fX gs g);rw[←ax] at R aa ab;dsimp only at R Z k0 k1;have bs:f≤1000:=by have:=aa.2;have:=(aS P).2.1;omega
 obtain⟨f,rfl⟩:∃bh:Nat,f=bh:=⟨f.toNat,by omega⟩
 obtain⟨x,rfl⟩:∃bi:Nat,x=bi:=⟨x.toNat,by omega⟩
 have ay:a≤100000:=by have:=H.2.2.2.2.2.2.1;omega
 have am:size≤4:=by have:=H.2.2.2.2.1;omega
 have Y:b<r.heap.size:=bNc ai z.size;have rel:∀W,bB r W→cZ W w.heap.size 0 (.slice (some ⟨b,off,none⟩) n cap)∧cZ W w.heap.size 1 secs∧W.cell? ⟨w.heap.size+1,0,none⟩=some (g:Nat)∧W.cell? ⟨w.heap.size+1,1,none⟩=some (a:Nat)∧W.cell? ⟨b,off+g*2,none⟩=some k∧W.cell? ⟨b,off+g*2+1,none⟩=some (x:Nat):=fun W u=>
  ⟨(N.below u).cell 0,(N.below u).cell 1,(G.below u).cell 0,(G.below u).cell 1,(u.cell (p:=⟨b,_,none⟩) Y).trans ((z.cell (p:=⟨b,_,none⟩) ai).trans k0),(u.cell (p:=⟨b,_,none⟩) Y).trans ((z.cell (p:=⟨b,_,none⟩) ai).trans k1)⟩
 have az:=hZ hT;have an:=hZ z;have ac:=hZ ab;have S:=hZ rel;have bj:=N.cell 0;have bk:=N.cell 1;have r0:=G.cell 0;have r1:=G.cell 1;have ap:w.heap.size+2≤r.heap.size:=by have:=G.lt;omega
 have bd:r.heap.size≤r.heap.size:=d8 _;clear hT z N G h ah H P aa aw k0 k1 ab al ax rel bd;go_in;go_wp21;rw[←K];clear K;go_wp21;refine az.o.mono ?_;rintro e w1 ⟨rfl,aq⟩;have l:=hZ aq;clear aq bj bk r0 r1 az;go_wp21;go_upto_region 3 with fail
 go_cut [8,9] (fun va vb ba=>∃aj:Nat,va= .pointer (some aj)∧vb= .int .i64 (f:Nat)∧Hid (Blk ba aj 73 [k,(x:Nat)])∧Hid (bB r ba))
 case first=>
  obtain⟨h0,h1,h2,C,D,E⟩:=S.o w1 l.o;have ar:=bNc ap l.o.size;have bt:w1.heap.size≠b:=Nat.ne_of_gt (bNc Y l.o.size);have bu:w1.heap.size≠w.heap.size:=Nat.ne_of_gt (Nat.lt_of_succ_lt ar);have bv:w1.heap.size≠w.heap.size+1:=Nat.ne_of_gt ar;go_region_held3 (fun w'=>w'.cell? ⟨w.heap.size,0,none⟩=some (.slice (some ⟨b,off,none⟩) n cap)∧w'.cell? ⟨w.heap.size,1,none⟩=some secs∧w'.cell? ⟨w.heap.size+1,0,none⟩=some (g:Nat)∧w'.cell? ⟨w.heap.size+1,1,none⟩=some (a:Nat)∧w'.cell? ⟨b,off+g*2,none⟩=some k∧w'.cell? ⟨b,off+g*2+1,none⟩=some (x:Nat)) (go_keep)
   (first
    |(go_at_call 200;refine(ac.o w1.drew l.o.drew).mono ?_;rintro e m ⟨rfl,t⟩;have q:=hZ (l.o.drew.trans (t.mono l.o.drew.size));clear h0 h1 h2 C D E;obtain⟨h0,h1,h2,C,D,E⟩:=S.o m q.o;have be:=bNc Y q.o.size;have au:=bNc ap q.o.size;have bw:m.heap.size≠b:=Nat.ne_of_gt be;have bx:m.heap.size≠w.heap.size:=Nat.ne_of_gt (Nat.lt_of_succ_lt au);have bz:m.heap.size≠w.heap.size+1:=Nat.ne_of_gt au;clear t)
    |(go_at_call 200;refine(ac.o (w1.alloc (.cells yF 73)).drew (l.o.alloc l.o.size _).drew).mono ?_;rintro e m ⟨rfl,t⟩;have A:Blk m w1.heap.size 73 zF:=((Blk.new w1 73 zF).drew).below t;have bn:=A.cell 0;have bo:=A.cell 1;have bq:=A.frozen 0;have br:=A.frozen 1;have q:=hZ ((l.o.alloc l.o.size (.cells yF 73)).drew.trans (t.mono (l.o.alloc l.o.size _).drew.size));clear h0 h1 h2 C D E;obtain⟨h0,h1,h2,C,D,E⟩:=S.o m q.o;clear t)
    |(go_at_call 200;refine(ac.o (w1.alloc (.cells #[k,(x:Nat)] 73)).drew (l.o.alloc l.o.size _).drew).mono ?_;rintro e m ⟨rfl,t⟩;have A:Blk m w1.heap.size 73 [k,(x:Nat)]:=((Blk.new w1 73 [k,(x:Nat)]).drew).below t;have q:=hZ ((l.o.alloc l.o.size (.cells #[k,(x:Nat)] 73)).drew.trans (t.mono (l.o.alloc l.o.size _).drew.size));clear h0 h1 h2 C D E;obtain⟨h0,h1,h2,C,D,E⟩:=S.o m q.o;clear t))
  all_goals
   go_wp21;go_meet
   first
    |exact⟨m.heap.size,rfl,rfl,hZ (Blk.new m 73 [k,(x:Nat)]),hZ (q.o.alloc q.o.size _)⟩
    |exact⟨w1.heap.size,rfl,rfl,hZ ((A.setCell 0 _).setCell 1 _),hZ ((q.o.setCell (p:=⟨w1.heap.size,0,none⟩) l.o.size _).setCell (p:=⟨w1.heap.size,1,none⟩) l.o.size _)⟩
    |exact⟨w1.heap.size,rfl,rfl,hZ A,q⟩
 case rest=>
  obtain⟨aj,rfl,rfl,bb,bc⟩:=hcut;obtain⟨h0,h1,h2,C,D,E⟩:=S.o wc bc.o;have e0:=bb.o.cell 0;have cb:=bb.o.cell 1;have U:=hZ (an.o.trans (bc.o.mono an.o.size));have av:w.heap.size≤wc.heap.size:=U.o.size;by_cases I:k=0
  ·have bf:(k == 0)=true:=by simpa using I
   have ad:=hZ (aTi f x a size wc (by omega) (by omega) ay am)
   have ae:=hZ (show aI gs g a size=lX f a size x by rw[R.o,i6 I,s7,s7])
   clear I Z;go_wp21;refine ad.o.mono ?_;rintro e bm ⟨v,rfl,J,X⟩;have af:=hZ J;have ag:=hZ (U.o.trans (X.mono U.o.size));clear J X;go_wp21;go_ret2;refine⟨v,rfl,?_,ag.o⟩;rw[ae.o];exact cY af.o av
  ·have bf:(k == 0)=false:=by simpa using I
   have ad:=hZ (aSe f x a size wc (by omega) (by omega) (by omega) ay am)
   have ae:=hZ (show aI gs g a size=jV f x a size by rw[R.o,i9 I,s7,s7])
   clear I Z;go_wp21;refine ad.o.mono ?_;rintro e bm ⟨v,rfl,J,X⟩;have af:=hZ J;have ag:=hZ (U.o.trans (X.mono U.o.size));clear J X;go_wp21;go_ret2;refine⟨v,rfl,?_,ag.o⟩;rw[ae.o];exact cY af.o av
end
structure aK where
 gs:Gs
 secs:Int
 ds:List bC
 away:List Bool
def cK (gs:Gs):Nat:=(fX gs gs.length).toNat
def aK.right (x:aK):Bool:=bH x.gs x.secs&&decide (x.ds.length=cK x.gs)&&decide (x.away.length=x.ds.length)&&x.ds.all fun δ=>decide ((δ.med.length:Int)=x.secs)
def aK.here (x:aK) (d:Nat):Bool:= !(x.away.getD d true)&& !((x.ds.getD d eN).lost)
def aK.set (x:aK) (d:Nat) (δ:bC):aK:=⟨x.gs,x.secs,x.ds.set d δ,x.away⟩
def jE (c:bJ):Int:=(c.2.1:Nat)
def aK.col (x:aK) (c:bJ):Bs:=if x.here c.1=true then((x.ds.getD c.1 eN).readE (jE c)).1 else[]
def kG (x:aK) (g a size:Nat):List Bs:=(aI x.gs g a size).map x.col
def eZ (x:aK) (c:bJ) (s:Bs):Bool×aK:=
 if x.here c.1=true then(decide (((x.ds.getD c.1 eN).writeE (jE c) s).1=0),x.set c.1 ((x.ds.getD c.1 eN).writeE (jE c) s).2) else(false,x)
def aLj (f:List Nat) (d:Nat):List Nat:=if d∈f then f else f++[d]
def fU:aK→List (bJ×Bs)→List Nat→List Nat×aK
 |x,[],f=>(f,x)
 |x,(c,s)::r,f=>fU (eZ x c s).2 r (if(eZ x c s).1=true then f else aLj f c.1)
def vG (s:Bs) (k:Nat):List Bs:=(List.range k).map fun i=>(s.take (64*i+64)).drop (64*i)
def fJ (s:Bs):List Bs:=vG s (s.length/64)
theorem aIi (s:Bs) (k:Nat):vG s (k+1)=vG s k++[(s.take (64*k+64)).drop (64*k)]:=by simp[vG,bMk]
theorem yV (s:Bs) (k:Nat):(vG s k).length=k:=by simp[vG]
def dX (s:Bs):Bool:=decide (s≠[]∧s.length%64=0∧s.length≤256)
def pY (l:List Bs):Bs:=if l=[]∨qP (eQ l)=false then[] else xO (l.getD 0 []).length (eQ l)
def nF (data:List Bs):Nat→List bJ→List Bs
 |_,[]=>[]
 |n,c::r=>if c.2.2.1=true then[]::nF data n r else data.getD (n%data.length) []::nF data (n+1) r
def cD:bJ:=(0,0,false,0)
def vH (l:List bJ) (no:Nat):List Nat:=(List.range l.length).filter fun i=>decide ((l.getD i cD).2.2.2=no)&& !(l.getD i cD).2.2.1
def jC (l:List bJ) (data:List Bs):List Bs:=
 (List.range l.length).map fun i=>if(l.getD i cD).2.2.1=true then pY ((vH l (l.getD i cD).2.2.2).map fun k=>(nF data 0 l).getD k []) else(nF data 0 l).getD i []
def aUm (gs:Gs) (secs:Int) (g a:Nat) (s:Bs):Except Nat (List Bs):=
 if dX s=true∧dO gs secs g a ((s.length/64:Nat):Int)=true then .ok (jC (aI gs g a (s.length/64)) (fJ s)) else .error 1
def dD (x:aK) (g a:Nat) (s:Bs):Nat×Nat×aK:=
 if x.right=false then(0,1,x)
 else match aUm x.gs x.secs g a s with
  | .error e=>(0,e,x)
  | .ok t=>
   let r:=fU x ((aI x.gs g a (s.length/64)).zip t) []
   (r.1.length,(if(x.gs.getD g (0,0)).1=0∧(r.1.length:Int)=(x.gs.getD g (0,0)).2∨(x.gs.getD g (0,0)).1=1∧1<r.1.length then 6 else 0),r.2)
def bDk (l:List bJ) (got:List Bs) (i:Nat):Bs:=
 let parts:=((List.range l.length).filter fun j=>decide ((l.getD j cD).2.2.2=(l.getD i cD).2.2.2∧j≠i)).map fun j=>got.getD j []
 if[]∈parts then[] else pY parts
def aUl (s:Bs) (k:Nat):Nat:=nU ((s.drop (4*k)).take 4)
def rN:Nat:=18446744073709551616
def nO:List Nat→Nat×Nat×Nat×Nat→Nat×Nat×Nat×Nat
 |[],x=>x
 |w::r,(a,b,c,d)=>
  let a1:=(a+w)%rN
  let b1:=(b+a1)%rN
  let c1:=(c+b1)%rN
  let d1:=(d+c1)%rN
  nO r (a1,b1,c1,d1)
def bGr (s:Bs):Bs:=s++aP ((4-s.length%4)%4)
def dG (s:Bs):Nat×Nat×Nat×Nat:=nO ((List.range ((bGr s).length/4)).map (aUl (bGr s))) (0,0,0,0)
section
attribute [local go_sem ↓] Go.wp_at_zero Go.wp_at_succ
theorem aQt (ao:Option Addr) (n cap:Nat) (gs:Gs) (secs m f bg l size:Int) (w:World) (h:oZ w ao n cap gs) (ak:dO gs secs m f size=true) (al:dO gs secs bg l size=true):
  Calls prog 136 #[.agg #[.slice ao n cap,secs],.agg #[m,f],.agg #[bg,l],size] w fun e w'=>e= .returned (.bool (uH gs secs m f bg l size))∧bB w w':=by
 obtain⟨p,u⟩:=nZ (((w.alloc (.cells #[.slice ao n cap,secs] 24)).alloc (.cells #[m,f] 46)).alloc (.cells #[bg,l] 46));have N:bB w p:=by rw[u];exact((bZ).alloc (by simp) _).alloc (by simp;omega) _
 have P:Blk p w.heap.size 24 [.slice ao n cap,secs]:=by rw[u];exact((Blk.new w _ _).alloc _).alloc _
 have R:Blk p (w.heap.size+1) 46 [m,f]:=by rw[u];exact(Blk.newAt _ _ (by simp)).alloc _
 have U:Blk p (w.heap.size+1+1) 46 [bg,l]:=by rw[u];exact Blk.newAt _ _ (by simp)
 have E:=bK ak;have G:=bK al;obtain⟨r,I⟩:∃t,t=bO gs secs m size:=⟨_,rfl⟩;obtain⟨z,J⟩:∃t,t=bO gs secs bg size:=⟨_,rfl⟩;have am:uH gs secs m f bg l size=decide (m≠bg∨f+r≤l∨l+z≤f):=by rw[I,J];rfl
 have Z:=fun g W (q:bB p W)=>rV ao n cap gs secs g size W ((h.below N).below q)
 have ag:∀W,bB p W→Calls prog 36 #[.agg #[.slice ao n cap,secs],m,size] W fun e w'=>e= .returned r∧bB W w':=fun W q=>by rw[I];exact Z m W q
 have ah:∀W,bB p W→Calls prog 36 #[.agg #[.slice ao n cap,secs],bg,size] W fun e w'=>e= .returned z∧bB W w':=fun W q=>by rw[J];exact Z bg W q
 rw[am];have au:0≤f∧f≤32768:=⟨E.2.2.2.2.2.1,E.2.2.2.2.2.2.1⟩;have x2:0≤l∧l≤32768:=⟨G.2.2.2.2.2.1,G.2.2.2.2.2.2.1⟩;have av:1≤r∧r≤6:=by rw[I];exact⟨E.2.2.2.2.2.2.2.1,E.2.2.2.2.2.2.2.2.1⟩
 have aw:1≤z∧z≤6:=by rw[J];exact⟨G.2.2.2.2.2.2.2.1,G.2.2.2.2.2.2.2.2.1⟩
 have rel:∀W,bB p W→W.cell? ⟨w.heap.size,0,none⟩=some (.slice ao n cap)∧W.cell? ⟨w.heap.size,1,none⟩=some secs∧W.cell? ⟨w.heap.size+1,0,none⟩=some m∧W.cell? ⟨w.heap.size+1,1,none⟩=some f∧W.cell? ⟨w.heap.size+2,0,none⟩=some bg∧W.cell? ⟨w.heap.size+2,1,none⟩=some l:=fun W q=>
  ⟨(P.below q).cell 0,(P.below q).cell 1,(R.below q).cell 0,(R.below q).cell 1,(U.below q).cell 0,(U.below q).cell 1⟩
 have X:Hid (∀x:Bool,x=decide (m≠bg∨f+r≤l∨l+z≤f)→Ending.returned (.bool x)= .returned (.bool (decide (m≠bg∨f+r≤l∨l+z≤f)))):=hZ (fun x e=>by rw[e])
 obtain⟨ax,ay,r0,r1,s0,az⟩:=rel p (i4 _ _);have C:=hZ N;have af:=hZ ag;have an:=hZ ah;have Y:=hZ rel;have y1:IntKind.i64.wrap (f+r)=f+r:=bLo _ (by omega)
 have y2:IntKind.i64.wrap (l+z)=l+z:=bLo _ (by omega)
 clear h ak al N P R U E G I J am Z ag ah rel;by_cases aa:m=bg
 ·subst aa
  by_cases d2:f+r≤l
  ·have aq:decide (f+r≤l)=true:=bMi d2
   go_in;go_wp21;rw[←u];clear u;refine l7 (S:=(fun w'=>w'.cell? ⟨w.heap.size,0,none⟩=some (.slice ao n cap)∧w'.cell? ⟨w.heap.size,1,none⟩=some secs∧w'.cell? ⟨w.heap.size+1,0,none⟩=some m∧w'.cell? ⟨w.heap.size+1,1,none⟩=some f∧w'.cell? ⟨w.heap.size+2,0,none⟩=some m∧w'.cell? ⟨w.heap.size+2,1,none⟩=some l)) (by kernel_rfl) (by go_keep) (fun ap=>?_)
   refine aE 0 ?_;refine aE 1 ?_;refine aE 2 ?_;refine aE 3 ?_;refine aE 4 ?_;refine aE 5 ?_;refine aE 6 ?_;refine aE 7 ?_;refine aE 8 ?_;refine aE 9 ?_;refine aE 10 ?_;refine aE 11 ?_;refine aE 14 ?_;refine aE 15 ?_;refine vB [12] ?_;refine z8 rfl (fun K H=>?_) rn
   go_simp
   (go_at_call 36;refine(af.o _ (i4 _ _).drew).mono ?_;rintro e ab ⟨rfl,D⟩;have A:=hZ ((i4 p.heap.size p).drew.trans D);obtain⟨h0,h1,h2,ac,ad,ae⟩:=Y.o ab A.o;clear D)
   refine H.o _ _ (by go_keep) (fun _=>?_)
   try simp only[Act.put,z1,z2,z3]
   refine aE 13 ?_;refine aE 16 ?_;refine aE 17 ?_;refine aE 18 ?_;refine jL 19 ?_;refine jL 20 ?_;refine jL 21 ?_;refine jL 22 ?_;refine jL 23 ?_;refine jL 24 ?_;refine jL 25 ?_;refine jL 26 ?_;refine jL 27 ?_;refine jL 28 ?_;refine jL 29 ?_;refine aE 30 ?_;refine aE 31 ?_;refine r8 (by kernel_rfl) ?_ _
   all_goals
    go_wp21;go_ret;exact⟨X.o _ (by simp[d2]),C.o.trans (A.o.mono C.o.size)⟩
  ·have aq:decide (f+r≤l)=false:=bMj d2
   go_in;go_wp21;rw[←u];clear u;refine l7 (S:=(fun w'=>w'.cell? ⟨w.heap.size,0,none⟩=some (.slice ao n cap)∧w'.cell? ⟨w.heap.size,1,none⟩=some secs∧w'.cell? ⟨w.heap.size+1,0,none⟩=some m∧w'.cell? ⟨w.heap.size+1,1,none⟩=some f∧w'.cell? ⟨w.heap.size+2,0,none⟩=some m∧w'.cell? ⟨w.heap.size+2,1,none⟩=some l)) (by kernel_rfl) (by go_keep) (fun ap=>?_)
   refine aE 0 ?_;refine aE 1 ?_;refine aE 2 ?_;refine aE 3 ?_;refine aE 4 ?_;refine aE 5 ?_;refine aE 6 ?_;refine aE 7 ?_;refine aE 8 ?_;refine aE 9 ?_;refine aE 10 ?_;refine aE 11 ?_;refine aE 14 ?_;refine aE 15 ?_;refine vB [12] ?_;refine z8 rfl (fun K H=>?_) rn
   go_simp
   (go_at_call 36;refine(af.o _ (i4 _ _).drew).mono ?_;rintro e ab ⟨rfl,D⟩;have A:=hZ ((i4 p.heap.size p).drew.trans D);obtain⟨h0,h1,h2,ac,ad,ae⟩:=Y.o ab A.o;clear D)
   refine H.o _ _ (by go_keep) (fun _=>?_)
   try simp only[Act.put,z1,z2,z3]
   refine aE 13 ?_;refine aE 16 ?_;refine aE 17 ?_;refine aE 18 ?_;refine aE 19 ?_;refine aE 20 ?_;refine aE 21 ?_;refine aE 22 ?_;refine aE 23 ?_;refine aE 24 ?_;refine aE 27 ?_;refine aE 28 ?_;refine vB [25] ?_;refine z8 rfl (fun K H=>?_) rn
   go_simp
   (go_at_call 36;refine(an.o _ A.o).mono ?_;rintro e ar ⟨rfl,ai⟩;clear h0 h1 h2 ac ad ae;have aj:=hZ (A.o.trans (ai.mono A.o.size));obtain⟨h0,h1,h2,ac,ad,ae⟩:=Y.o ar aj.o;clear ai)
   refine H.o _ _ (by go_keep) (fun _=>?_)
   try simp only[Act.put,z1,z2,z3]
   refine aE 26 ?_;refine aE 29 ?_;refine aE 30 ?_;refine aE 31 ?_;refine r8 (by kernel_rfl) ?_ _
   all_goals
    go_wp21;go_ret;exact⟨X.o _ (by rw[Bool.eq_iff_iff];simp only[bLt];omega),C.o.trans (aj.o.mono C.o.size)⟩
 ·have ba:(m != bg)=true:=by simpa using aa
  go_in;go_wp21;rw[←u];clear u;go_quiet (fail);go_wp21;go_ret;exact⟨X.o _ (by simp[aa]),dB C.o _⟩
end
section
attribute [local go_sem ↓] Go.wp_at_zero Go.wp_at_succ
theorem xH (ao:Option Addr) (n cap:Nat) (gs:Gs) (secs:Int) (p:aC) (w:World) (h:oZ w ao n cap gs) (ar:p.ok):
  Calls prog 71 #[.agg #[.slice ao n cap,secs],.agg (aA p).toArray] w fun e w'=>e= .returned (.bool (bD gs secs p))∧bB w w':=by
 have az:=ar.aa;have ba:=ar.ba;obtain⟨u,z,bg,q,two,t,l,f,s0,aa,ab,ac⟩:=p;dsimp only at az ba;obtain⟨U,r⟩:=nZ ((w.alloc (.cells #[.slice ao n cap,secs] 24)).alloc (.cells #[u,z,bg,q,two,t,l,f,.int .u64 s0,.int .u64 aa,.int .u64 ab,.int .u64 ac] 51));have an:bB w U:=by rw[r];exact(bZ).alloc (by simp) _
 have ap:Blk U w.heap.size 24 [.slice ao n cap,secs]:=by rw[r];exact(Blk.new w _ _).alloc _
 have D:Blk U (w.heap.size+1) 51 [u,z,bg,q,two,t,l,f,.int .u64 s0,.int .u64 aa,.int .u64 ab,.int .u64 ac]:=by rw[r];exact Blk.newAt _ _ (by simp)
 have am:∀W,bB U W→cZ W w.heap.size 0 (.slice ao n cap)∧cZ W w.heap.size 1 secs∧W.cell? ⟨w.heap.size+1,0,none⟩=some u∧W.cell? ⟨w.heap.size+1,1,none⟩=some z∧W.cell? ⟨w.heap.size+1,2,none⟩=some bg∧W.cell? ⟨w.heap.size+1,3,none⟩=some q∧W.cell? ⟨w.heap.size+1,4,none⟩=some two∧W.cell? ⟨w.heap.size+1,5,none⟩=some t∧W.cell? ⟨w.heap.size+1,6,none⟩=some l∧W.cell? ⟨w.heap.size+1,7,none⟩=some f:=fun W C=>
  ⟨(ap.below C).cell 0,(ap.below C).cell 1,(D.below C).cell 0,(D.below C).cell 1,(D.below C).cell 2,(D.below C).cell 3,(D.below C).cell 4,(D.below C).cell 5,(D.below C).cell 6,(D.below C).cell 7⟩
 have A:=hZ an;have ai:=hZ am;have af:=hZ (h.below an);obtain⟨c0,G,c2,c3,H,I,J,K,c8,N⟩:=am U (i4 _ _);have P:Hid (bD gs secs ⟨u,z,bg,q,two,t,l,f,s0,aa,ab,ac⟩=(decide (0≤l∧l≤3∧1≤f∧f≤4294967295)&&dO gs secs u z t&&(if two=true then dO gs secs bg q t&&uH gs secs u z bg q t else decide (bg=0∧q=0)))):=hZ rfl
 have R:Hid (∀x:Bool,x=bD gs secs ⟨u,z,bg,q,two,t,l,f,s0,aa,ab,ac⟩→Ending.returned (.bool x)= .returned (.bool (bD gs secs ⟨u,z,bg,q,two,t,l,f,s0,aa,ab,ac⟩))):=hZ (fun x e=>by rw[e])
 clear h ar an ap D am
 show Calls _ _ #[.agg #[.slice ao n cap,secs],.agg #[u,z,bg,q,two,t,l,f,.int .u64 s0,.int .u64 aa,.int .u64 ab,.int .u64 ac]] _ _
 by_cases ag:0≤l∧l≤3∧1≤f∧f≤4294967295
 ·obtain⟨ak,x2,al,au⟩:=ag
  have ad:=hZ (show decide (0≤l∧l≤3∧1≤f∧f≤4294967295)=true from bMi ⟨ak,x2,al,au⟩);have be:decide (l<0)=false:=bMj (by omega)
  have d2:decide (3<l)=false:=bMj (by omega)
  have bf:decide (f<1)=false:=bMj (by omega)
  have bm:decide (4294967295<f)=false:=bMj (by omega)
  cases S:dO gs secs u z t
  ·have ah:=hZ (bAv ao n cap gs secs u z t U af.o az S)
   have X:=hZ S;clear S;go_in;go_wp2_with fail;rw[←r];clear r;go_wp2_with fail;refine ah.o.mono ?_;rintro e w1 ⟨rfl,m⟩;have E:=hZ (A.o.trans (m.mono A.o.size));clear m;go_wp2_with fail;go_ret;exact⟨R.o _ (by rw[P.o,X.o];simp),E.o⟩
  ·have av:=bK S
   obtain⟨g,rfl⟩:∃aw:Nat,u=aw:=⟨u.toNat,by omega⟩
   obtain⟨a,rfl⟩:∃ax:Nat,z=ax:=⟨z.toNat,by omega⟩
   obtain⟨size,rfl⟩:∃bn:Nat,t=bn:=⟨t.toNat,by omega⟩
   have ah:=hZ (pP ao n cap gs secs g a size U af.o S);have X:=hZ S;clear S av;cases two
   ·by_cases z1:bg=0<;>by_cases z2:q=0
    all_goals
     have bo:=hZ z1;have bq:=hZ z2;clear z1 z2;go_in;go_wp2_with fail;rw[←r];clear r;go_wp2_with fail;refine ah.o.mono ?_;rintro e w1 ⟨v,rfl,_,m⟩;have E:=hZ (A.o.trans (m.mono A.o.size));clear c0 G c2 c3 H I J K c8 N;obtain⟨c0,G,c2,c3,H,I,J,K,c8,N⟩:=ai.o w1 m;clear m;have z1:=bo.o;have z2:=bq.o;go_wp2_with fail;go_ret;exact⟨R.o _ (by rw[P.o,X.o,ad.o];simp[z1,z2]),E.o⟩
   ·cases ae:dO gs secs bg q size
    ·have Y:=hZ ae
     go_in;go_wp2_with fail;rw[←r];clear r;go_wp2_with fail;refine ah.o.mono ?_;rintro e w1 ⟨v,rfl,_,m⟩;have E:=hZ (A.o.trans (m.mono A.o.size));clear c0 G c2 c3 H I J K c8 N;obtain⟨c0,G,c2,c3,H,I,J,K,c8,N⟩:=ai.o w1 m;have aq:=hZ (bAv ao n cap gs secs bg q size w1 (af.o.below m) ba Y.o);clear m ae;go_wp2_with fail;refine aq.o.mono ?_;rintro e ay ⟨rfl,Z⟩;have aj:=hZ (E.o.trans (Z.mono E.o.size));clear Z;go_wp2_with fail;go_ret;exact⟨R.o _ (by rw[P.o,X.o,Y.o];simp),aj.o⟩
    ·have av:=bK ae
     obtain⟨bh,rfl⟩:∃aw:Nat,bg=aw:=⟨bg.toNat,by omega⟩
     obtain⟨bi,rfl⟩:∃ax:Nat,q=ax:=⟨q.toNat,by omega⟩
     have Y:=hZ ae;clear av ae;go_in;go_wp2_with fail;rw[←r];clear r;go_wp2_with fail;refine ah.o.mono ?_;rintro e w1 ⟨v,rfl,_,m⟩;have E:=hZ (A.o.trans (m.mono A.o.size));have bb:=hZ m;clear c0 G c2 c3 H I J K c8 N;obtain⟨c0,G,c2,c3,H,I,J,K,c8,N⟩:=ai.o w1 m;have aq:=hZ (pP ao n cap gs secs bh bi size w1 (af.o.below m) Y.o);clear m;go_wp2_with fail;refine aq.o.mono ?_;rintro e ay ⟨v2,rfl,_,Z⟩;have aj:=hZ (E.o.trans (Z.mono E.o.size));have bc:=hZ (bb.o.trans (Z.mono bb.o.size));clear c0 G c2 c3 H I J K c8 N;obtain⟨c0,G,c2,c3,H,I,J,K,c8,N⟩:=ai.o ay bc.o;have bj:=hZ (aQt ao n cap gs secs g a bh bi size ay (af.o.below bc.o) X.o Y.o);clear Z;go_wp2_with fail;refine bj.o.mono ?_;rintro e br ⟨rfl,bd⟩;have bk:=hZ (aj.o.trans (bd.mono aj.o.size));clear bd;go_wp2_with fail;go_ret;exact⟨R.o _ (by rw[P.o,X.o,Y.o,ad.o];simp),bk.o⟩
 ·have ad:=hZ (show decide (0≤l∧l≤3∧1≤f∧f≤4294967295)=false from bMj ag)
  by_cases ak:l<0
  ·have be:=bMi ak
   clear ag;go_in;go_wp2_with fail;go_ret;exact⟨R.o _ (by rw[P.o,ad.o];simp),by rw[←r];exact A.o⟩
  ·have be:=bMj ak
   by_cases x2:3<l
   ·have d2:=bMi x2
    clear ag;go_in;go_wp2_with fail;go_ret;exact⟨R.o _ (by rw[P.o,ad.o];simp),by rw[←r];exact A.o⟩
   ·have d2:=bMj x2
    by_cases al:f<1
    case' _=>
     have bf:decide (f<1)=true:=bMi al
    rotate_left
    case' _=>
     have bf:decide (f<1)=false:=bMj al;have au:4294967295<f:=by omega
     have bm:decide (4294967295<f)=true:=bMi au
    all_goals
     clear ag;go_in;go_wp2_with fail;go_ret;exact⟨R.o _ (by rw[P.o,ad.o];simp),by rw[←r];exact A.o⟩
end
def jP (l:List Nat):List Value:=l.map fun(b:Nat)=>Value.pointer (some ⟨b,0,none⟩)
def aZ (l:List Bool):List Value:=l.map Value.bool
structure kE where
 g:Value
 l:Value
 a:Value
def kE.val (V:kE) (secs:Int):Value:= .agg #[V.g,.int .i64 secs,V.l,V.a]
structure wG (w:World) (x:aK) (V:kE) (dbs:List Nat) (Fd:Nat→Nat→Prop):Prop where
 grp:w.ownsRow 0 73 2 V.g x.gs.length (iR x.gs)
 lst:w.ownsRow 0 83 1 V.l dbs.length (jP dbs)
 awy:w.ownsRow 0 4 1 V.a x.away.length (aZ x.away)
 n1:dbs.length=x.ds.length
 n2:x.away.length=x.ds.length
 dev:∀i,i<x.ds.length→dJ w (dbs.getD i 0) (x.ds.getD i eN) (Fd i)
 dj:∀i j g,i<x.ds.length→j<x.ds.length→i≠j→Fd i g→¬Fd j g
 dg:∀i g,i<x.ds.length→Fd i g→V.g.ownBlock≠some g∧V.l.ownBlock≠some g∧V.a.ownBlock≠some g
 sec:1≤x.secs∧x.secs≤4096
 num:x.ds.length≤1000
def bIy (x:aK) (V:kE) (Fd:Nat→Nat→Prop):Nat→Prop:=fun g=>V.g.ownBlock=some g∨V.l.ownBlock=some g∨V.a.ownBlock=some g∨∃i,i<x.ds.length∧Fd i g
def bV (w:World) (x:aK) (V:kE) (F:Nat→Prop):Prop:=∃dbs Fd,wG w x V dbs Fd∧∀g,F g↔bIy x V Fd g
def jT (w w':World):Prop:=∀(k:Nat) cs e fr,w.heap[k]?=some (Obj.cells cs e fr)→e≠139→e≠9→w'.heap[k]?=some (Obj.cells cs e fr)
theorem jT.below (h:bB w w'):jT w w':=fun k cs e fr f _ _=>by rw[h.block k (i8.1 f).1];exact f
theorem jT.trans {a b c:World} (h:jT a b) (k:jT b c):jT a c:=fun i cs e fr f h1 h2=>k i cs e fr (h i cs e fr f h1 h2) h1 h2
theorem jT.new {a b c:World} (h:jT a b) (m:b.grownBy c (some g)) (q:a.heap.size≤g):jT a c:=fun i cs e fr f h1 h2=>by
 have l:=h i cs e fr f h1 h2;rw[m.block i (i8.1 l).1 (fun p=>by have:=(i8.1 f).1;have r:=bMs p;omega)]
 exact l
theorem cC (h:w.ownsRow b e k v n xs) (f:v.ownBlock=some g):∃cs fr,w.heap[g]?=some (Obj.cells cs e fr):=by
 rcases h.2 with⟨rfl,_⟩|⟨l,cap,m,rfl,h1,h2,p⟩
 ·cases f
 ·have:l=g:=by simpa[Value.ownBlock] using f
  subst this;exact⟨_,_,h2⟩
theorem dJ.type {δ:bC} (h:dJ w db δ F):∀g,F g→∀cs e fr,w.heap[g]?=some (Obj.cells cs e fr)→e=139∨e=9:=by
 obtain⟨q,r,c,h,hF⟩:=h;intro g p cs e fr f;have m:∀{v:Value} {n:Nat} {xs:List Value},w.ownsRow 0 9 1 v n xs→v.ownBlock=some g→e=9:=fun hr l=>by
  obtain⟨t,u,h1⟩:=cC hr l;rw[h1] at f;simp only[i5,n7] at f;exact f.2.1.symm
 rcases(hF g).1 p with rfl|rfl|h1|⟨k,v,l,h1⟩
 ·have:=h.blk
  unfold Blk at this;rw[this] at f;simp only[i5,n7] at f;exact .inl f.2.1.symm
 ·obtain⟨es,z,h1,_⟩:=h.map
  rw[h1] at f;cases f
 ·exact .inr (m h.med h1)
 ·exact .inr (m (h.some_ k v l).2 h1)
def gO (x':aK) (V:kE) (F:Nat→Prop) (w w':World):Prop:=∃F',bV w' x' V F'∧Mod F w w'∧(∀g,F' g→F g∨w.heap.size≤g)∧jT w w'
theorem bV.lt {x:aK} {V:kE} (h:bV w x V F):∀g,F g→g<w.heap.size:=by
 obtain⟨dbs,Fd,h,hF⟩:=h;intro g f;rcases(hF g).1 f with h1|h1|h1|⟨i,hi,h1⟩
 ·exact(h.grp.lt g h1).2
 ·exact(h.lst.lt g h1).2
 ·exact(h.awy.lt g h1).2
 ·exact(h.dev i hi).lt g h1
theorem bV.keep {x:aK} {V:kE} (h:bV w x V F) (l:∀g,F g→w'.heap[g]?=w.heap[g]?):bV w' x V F:=by
 obtain⟨dbs,Fd,h,hF⟩:=h;exact⟨dbs,Fd,⟨dQ h.grp (fun g f=>l g ((hF g).2 (.inl f))),dQ h.lst (fun g f=>l g ((hF g).2 (.inr (.inl f)))),dQ h.awy (fun g f=>l g ((hF g).2 (.inr (.inr (.inl f))))),h.n1,h.n2,fun i m=>(h.dev i m).keep (fun g f=>l g ((hF g).2 (.inr (.inr (.inr ⟨i,m,f⟩))))),h.dj,h.dg,h.sec,h.num⟩,hF⟩
theorem bV.below {x:aK} {V:kE} (h:bV w x V F) (f:bB w w'):bV w' x V F:=h.keep (fun g l=>f.block g (h.lt g l))
theorem bV.stay {x:aK} {V:kE} (h:bV w x V F) (f:bB w w'):gO x V F w w':=⟨F,h.below f,Mod.below f,fun g l=> .inl l,jT.below f⟩
theorem wG.step {x:aK} {V:kE} {t:bC} (h:wG w x V dbs Fd) (hF:∀g,F g↔bIy x V Fd g) (z:i<x.ds.length) (K:fP (dbs.getD i 0) t (Fd i) w w'):gO (x.set i t) V F w w':=by
 obtain⟨N,h1,h2,D⟩:=K;have r:(x.set i t).ds.length=x.ds.length:=by simp[aK.set]
 have E:=fun g (f:g<w.heap.size) (P:¬Fd i g)=>h2.block g f P
 have I:=fun g (f:Fd i g)=>(hF g).2 (.inr (.inr (.inr ⟨i,z,f⟩)))
 refine⟨bIy (x.set i t) V (fun j=>if j=i then N else Fd j),⟨dbs,_,⟨dQ h.grp (fun g f=>E g (h.grp.lt g f).2 (fun u=>(h.dg i g z u).1 f)),dQ h.lst (fun g f=>E g (h.lst.lt g f).2 (fun u=>(h.dg i g z u).2.1 f)),dQ h.awy (fun g f=>E g (h.awy.lt g f).2 (fun u=>(h.dg i g z u).2.2 f)),by rw[r];exact h.n1,by rw[r];exact h.n2,fun j m=>?_,fun j k g m A C f q=>?_,fun j g m f=>?_,h.sec,by rw[r];exact h.num⟩,fun g=>Iff.rfl⟩,h2.mono (fun g _ f=>I g f),fun g f=>?_,fun k cs e fr G R S=>?_⟩
 ·rw[r] at m
  by_cases p:j=i
  ·subst p
   rw[i6 rfl,show(x.set j t).ds.getD j eN=t by simp[aK.set,a8,m]]
   exact h1
  ·rw[i9 p,show(x.set i t).ds.getD j eN=x.ds.getD j eN by simp[aK.set,a8,List.getElem?_set,Ne.symm p]]
   exact(h.dev j m).keep (fun g f=>E g ((h.dev j m).lt g f) (h.dj j i g m z p f))
 ·rw[r] at m A
  try dsimp only at f q
  by_cases p:j=i
  ·subst p
   rw[i6 rfl] at f;rw[i9 (fun e=>C e.symm)] at q
   rcases D g f with l|l
   ·exact h.dj j k g m A C l q
   ·have:=(h.dev k A).lt g q;omega
  ·rw[i9 p] at f
   by_cases J:k=i
   ·subst J
    rw[i6 rfl] at q;rcases D g q with l|l
    ·exact h.dj j k g m A C f l
    ·have:=(h.dev j m).lt g f;omega
   ·rw[i9 J] at q
    exact h.dj j k g m A C f q
 ·rw[r] at m
  try dsimp only at f
  by_cases p:j=i
  ·subst p
   rw[i6 rfl] at f;rcases D g f with l|l
   ·exact h.dg j g m l
   ·refine⟨fun e=>?_,fun e=>?_,fun e=>?_⟩
    ·have:=(h.grp.lt g e).2;omega
    ·have:=(h.lst.lt g e).2;omega
    ·have:=(h.awy.lt g e).2;omega
  ·rw[i9 p] at f
   exact h.dg j g m f
 ·rcases f with l|l|l|⟨j,m,l⟩
  ·exact .inl ((hF g).2 (.inl l))
  ·exact .inl ((hF g).2 (.inr (.inl l)))
  ·exact .inl ((hF g).2 (.inr (.inr (.inl l))))
  ·rw[r] at m
   try dsimp only at l
   by_cases p:j=i
   ·subst p
    rw[i6 rfl] at l;rcases D g l with H|H
    ·exact .inl (I g H)
    ·exact .inr H
   ·rw[i9 p] at l
    exact .inl ((hF g).2 (.inr (.inr (.inr ⟨j,m,l⟩))))
 ·rw[h2.block k (i8.1 G).1 (fun u=>by
   rcases(h.dev i z).type k u cs e fr G with l|l
   ·exact R l
   ·exact S l)]
  exact G
theorem wG.acell {x:aK} {V:kE} (h:wG w x V dbs Fd) (l:0<x.ds.length):∃b cap,V.a= .slice (some ⟨b,0,none⟩) x.ds.length cap∧∀i,i<x.ds.length→w.cell? ⟨b,i,none⟩=some (.bool (x.away.getD i true)):=by
 obtain⟨b,cap,e⟩:=bT h.awy (by rw[h.n2];exact l)
 have f:=h.awy;rw[e] at f;rw[h.n2] at e f;refine⟨b,cap,e,fun i m=>?_⟩
 rw[f.cellAt i (by omega)]
 simp[aZ,b9 (show i<x.away.length by rw[h.n2];exact m)]
theorem wG.lcell {x:aK} {V:kE} (h:wG w x V dbs Fd) (m:0<x.ds.length):∃b cap,V.l= .slice (some ⟨b,0,none⟩) x.ds.length cap∧∀i,i<x.ds.length→w.cell? ⟨b,i,none⟩=some (.pointer (some ⟨dbs.getD i 0,0,none⟩)):=by
 obtain⟨b,cap,e⟩:=bT h.lst (by rw[h.n1];exact m)
 have f:=h.lst;rw[e] at f;rw[h.n1] at e f;refine⟨b,cap,e,fun i p=>?_⟩
 rw[f.cellAt i (by omega)]
 simp[jP,b9 (show i<dbs.length by rw[h.n1];exact p)]
theorem bV.form {x:aK} {V:kE} (h:bV w x V F):∃ga gc la lc wa wc,V=⟨.slice ga x.gs.length gc,.slice la x.ds.length lc,.slice wa x.ds.length wc⟩∧oZ w ga x.gs.length gc x.gs:=by
 obtain⟨dbs,Fd,h,hF⟩:=h;obtain⟨ga,gc,p⟩:=aY h.grp;obtain⟨la,lc,f⟩:=aY h.lst;obtain⟨wa,wc,m⟩:=aY h.awy;rw[h.n1] at f;rw[h.n2] at m;obtain⟨g,l,a⟩:=V;dsimp only at p f m;subst p f m;exact⟨ga,gc,la,lc,wa,wc,rfl,bI h.grp⟩
theorem xR {x:aK} {V:kE} (h:bV w x V F) (d:Nat) (z:d<x.ds.length):
  Calls prog 162 #[V.val x.secs,(d:Nat)] w fun e w'=>e= .returned (.bool (x.here d))∧bB w w':=by
 obtain⟨ga,gc,_,_,_,_,U,_⟩:=h.form;have ab:=hZ h;obtain⟨dbs,Fd,h,hF⟩:=h;obtain⟨l,A,C,I⟩:=h.acell (by omega)
 obtain⟨bl,D,E,J⟩:=h.lcell (by omega)
 have K:V.g= .slice ga x.gs.length gc:=by rw[U]
 have N:=(h.awy.lt l (by rw[C];rfl)).2
 have P:=(h.lst.lt bl (by rw[E];rfl)).2
 obtain⟨p,f⟩:=nZ (w.alloc (.cells #[.slice ga x.gs.length gc,x.secs,.slice (some bl) x.ds.length D,.slice (some l) x.ds.length A] 43));have m:bB w p:=by rw[f];exact bZ
 have q:Blk p w.heap.size 43 [.slice ga x.gs.length gc,x.secs,.slice (some bl) x.ds.length D,.slice (some l) x.ds.length A]:=by rw[f];exact Blk.new w _ _
 have c2:=q.cell 2;have c3:=q.cell 3;have Z:p.cell? ⟨l,d,none⟩=some (.bool (x.away.getD d true)):=by rw[bNi (w:=w) (m.block l N)];exact I d z
 have ac:p.cell? ⟨bl,d,none⟩=some (.pointer (some ⟨dbs.getD d 0,0,none⟩)):=by rw[bNi (w:=w) (m.block bl P)];exact J d z
 have R:=hZ (aAe ((h.dev d z).below m));have r:=hZ m;have ad:(d:Int)<(x.ds.length:Int):=by omega
 have ae:0≤(d:Int):=by omega
 have H:V.val x.secs= .agg #[.slice ga x.gs.length gc,x.secs,.slice (some bl) x.ds.length D,.slice (some l) x.ds.length A]:=by unfold kE.val;rw[K,E,C]
 rw[H];obtain⟨X,t⟩:=nZ (x.away.getD d true);obtain⟨aa,u⟩:=nZ ((x.ds.getD d eN).lost);have G:x.here d=(!X&& !aa):=by unfold aK.here;rw[t,u]
 rw[←t] at Z;rw[←u] at R;rw[G];clear h hF U K q m I J C E N P H t u G
 cases X with
 |true=>
  go_in;go_upto_region 1 with fail
  rw[←f];clear f;go_wp21;go_ret;exact⟨rfl,r.o⟩
 |false=>
  go_in;go_upto_region 1 with fail
  rw[←f];clear f;go_wp21;refine R.o.mono ?_;rintro e w1 ⟨rfl,S⟩;have Y:=hZ (r.o.trans (S.mono r.o.size));clear S;go_wp21;go_ret;exact⟨by simp,Y.o⟩
theorem gY (h:dX s=true):s≠[]∧s.length%64=0∧s.length≤256∧1≤s.length/64∧s.length/64≤4∧s.length=64*(s.length/64):=by
 unfold dX at h;simp only[bLt] at h;obtain⟨h1,h2,f⟩:=h;have:0<s.length:=List.length_pos_iff.2 h1;refine⟨h1,h2,f,?_,?_,?_⟩<;>omega
theorem aOr (s:Bs) (w:World) (h:dX s=true):
  Calls prog 264 #[.string ⟨s.toArray⟩] w fun e w'=>∃v,e= .returned (.tuple #[v,true])∧w'.ownsRow w.heap.size 9 1 v (s.length/64) (cV (eQ (fJ s)))∧bB w w':=by
 obtain⟨h1,h2,Y,Z,aa,ab⟩:=gY h;obtain⟨ac,ad,J,K,N⟩:=bMo zX;obtain⟨n,q⟩:=nZ (s.length/64);have P:(⟨s.toArray⟩:ByteArray).size=s.length:=by show s.toArray.size=_;simp
 have al:s.isEmpty=false:=by simpa using h1
 have am:((s.length:Int)%64 != 0)=false:=by simp;omega
 have an:¬(256:Int)<(s.length:Int):=by omega
 have f:Hid (s.length=64*n):=hZ (by omega)
 have C:fJ s=vG s n:=by unfold fJ;rw[q]
 rw[C,←q];have ai:n≤4:=by omega
 have ap:s.length≤256:=by omega
 clear h1 h2 Y Z aa ab h P q C;go_in;go_wp2_with fail;go_loopw [4,5] (fun v i wr=>∃k:Nat,k≤n∧i= .int .i64 ((64*k:Nat):Int)∧Hid (wr.ownsRow w.heap.size 9 1 v k (cV (eQ (vG s k))))∧Hid (bB w wr)) (fun _ i _=>64*n-(intOf i).toNat)
 case atStart=>exact⟨0,by omega,rfl,hZ (bMa _ _ _ _),hZ (i4 _ _)⟩
 case round=>
  obtain⟨k,aq,rfl,l,m⟩:=hrel;have R:=m.o.size;obtain⟨S,H,rfl⟩:=aY l.o;obtain⟨p,r⟩:=nZ (64*k);rw[←r];by_cases aj:k<n
  ·have ae:(p:Int)<(s.length:Int):=by rw[f.o];omega
   have ar:((p+64:Nat):Int)≤(s.length:Int):=by rw[f.o];omega
   have au:(p:Int)+64≤(s.length:Int):=by rw[f.o];omega
   have av:0≤(p:Int):=by omega
   have t:=hZ r;clear r;obtain⟨x,u⟩:∃x:Bs,x=(s.take (64*k+64)).drop (64*k):=⟨_,rfl⟩;have ak:(⟨s.toArray⟩:ByteArray).extract p (p+64)=⟨x.toArray⟩:=by rw[dM,u,t.o]
   have af:=hZ u;clear u;have ag:k+1≤maxLen:=by unfold maxLen;omega
   have ah:(k+1)*16≤140737488355328:=by omega
   have D:w.heap.size≤(wr.alloc (.cells #[.string ⟨x.toArray⟩] 9)).heap.size:=by simp;omega
   have U:=hZ (Blk.news (Blk.new wr 9 [.string ⟨x.toArray⟩]));have A:=hZ (l.o.alloc (.cells #[.string ⟨x.toArray⟩] 9));go_wp2_with (at_builtin;go_must (refine bOa _ rfl (.tmp 25) (.tmp 31) 80 rfl w.heap.size 9 ac (.string ⟨#[]⟩) 1 16 underlying80 ad J K N rfl (by decide) (.slice S k H) k (cV (eQ (vG s k))) rfl A.o ⟨wr.heap.size,0,none⟩ 1 1 [.string ⟨x.toArray⟩] rfl rfl U.o (by simp[Value.oneCell']) ag ah D ?_;intro v1 aw z G _ _))
   have E:cV (eQ (vG s k))++[Value.string ⟨x.toArray⟩]=cV (eQ (vG s (k+1))):=by rw[aGw,aIi,af.o]
   rw[E] at z;have X:=hZ (cF (m.o.alloc R _) A.o G D (d8 _));clear E;go_roundw
   case rel=>exact⟨k+1,by omega,by rw[show 64*(k+1)=p+64 by rw[t.o];omega];go_num,hZ z,X⟩
   case measure=>have h1:=f.o;have h2:=t.o;simp[intOf];omega
  ·have ae:¬(p:Int)<(s.length:Int):=by rw[f.o];omega
   have I:k=n:=by omega
   subst I;go_wp2_with fail;go_ret2;exact⟨_,rfl,l.o,m.o⟩
theorem jJ {l:List bJ} (h:RSl w 4 (some ⟨b,off,none⟩) l.length cap (eM l)) (q:i<l.length):w.rangeAt b (off+i*4) (dI (l.getD i cD)):=by
 obtain⟨b',u,e,_,r⟩:=h.2.2.2.2 (by omega)
 simp only[i5,bNl,and_true] at e;obtain⟨rfl,rfl⟩:=e;intro j v m;have p:j<4:=by
  by_cases t:j<4
  ·exact t
  ·rw[m7 (by simp[dI];omega)] at m;cases m
 rw[bMc,r _ (by omega)]
 rw[show eM l=l.flatMap dI from rfl,jQ (f:=dI) (K:=4) (fun _=>rfl) l i j cD q p,m]
theorem aXx (l:List bJ) (no k:Nat):((List.range (k+1)).filter fun i=>decide ((l.getD i cD).2.2.2=no)&& !(l.getD i cD).2.2.1)=((List.range k).filter fun i=>decide ((l.getD i cD).2.2.2=no)&& !(l.getD i cD).2.2.1)++(if(decide ((l.getD k cD).2.2.2=no)&& !(l.getD k cD).2.2.1)=true then[k] else[]):=by
 rw[bMk,bNz];congr 1;by_cases h:(decide ((l.getD k cD).2.2.2=no)&& !(l.getD k cD).2.2.1)=true
 ·rw[i6 h];simp only[List.filter_cons,h,if_true,List.filter_nil]
 ·rw[i9 h];simp only[List.filter_cons,h,if_false,List.filter_nil];rfl
section
theorem vM:(prog.info? 311).map (·.size)=some 4:=by kernel_rfl
theorem iL {x:Operand} {ty:TypeId} {pos:String}:
  Oper.wp prog ⟨dst,.load 311 x,ty,pos,after,guard⟩ a w next Q=lY prog ⟨dst,.load 311 x,ty,pos,after,guard⟩ 311 (a.eval x) a w next Q:=rfl
theorem fN {x:Operand} {ty:TypeId} {pos:String}:
  Oper.wp prog ⟨dst,.store 311 x y,ty,pos,after,guard⟩ a w next Q=cS prog ⟨dst,.store 311 x y,ty,pos,after,guard⟩ 311 (a.eval x) (a.eval y) a w next Q:=rfl
theorem aTe (c:bJ):∀u∈dI c,u.oneCell'=true:=by
 intro u f;simp only[dI,s8,bLp,bNo] at f;rcases f with rfl|rfl|rfl|rfl<;>rfl
theorem jN (c:bJ) (w:World) (f:Oper) (a:Act) (next:Act→World→Prop) (Q:Exit→Act→World→Prop):cS prog f 311 (.pointer (some ⟨w.heap.size,0,none⟩)) (.agg (dI c).toArray) a (w.alloc (.cells yI 311)) next Q=next (a.put f.dst undef) (w.alloc (.cells (dI c).toArray 311)):=by
 have s:=aG (P:=prog) (t:=311) (o:=0) (cs:=dI c) (Blk.new w 311 (yI:Array Value).toList) (d8 4) vM (aTe c) f a next Q;rw[dS w 311 (dI c) (yI:Array Value).toList rfl] at s;exact s
attribute [local go_sem ↓] iL fN
def aLm (l:List bJ) (no k:Nat):List Nat:=(List.range k).filter fun i=>decide ((l.getD i cD).2.2.2=no)&& !(l.getD i cD).2.2.1
theorem aAs (l:List bJ) (no k:Nat):aLm l no (k+1)=aLm l no k++(if(decide ((l.getD k cD).2.2.2=no)&& !(l.getD k cD).2.2.1)=true then[k] else[]):=aXx l no k
theorem aNz (l:List bJ) (no k:Nat):(aLm l no k).length≤k:=by
 have:=List.length_filter_le (fun i=>decide ((l.getD i cD).2.2.2=no)&& !(l.getD i cD).2.2.1) (List.range k)
 rw[List.length_range] at this;exact this
theorem bCm (ao:Option Addr) (cap:Nat) (l:List bJ) (no:Nat) (w:World) (h:RSl w 4 ao l.length cap (eM l)) (ba:l.length≤100):
  Calls prog 265 #[.slice ao l.length cap,(no:Nat)] w fun e w'=>∃v,e= .returned v∧w'.ownsRow w.heap.size 3 1 v (vH l no).length (fW (vH l no))∧bB w w':=by
 obtain⟨ap,aq,ae,af,ag⟩:=bMo aJy;have Z:=hZ h;have az:l.length≤9223372036854775807:=by omega
 have X:vH l no=aLm l no l.length:=rfl;rw[X];clear X h;go_in;go_wp21;go_loopw [5,10] (fun v i wr=>∃k:Nat,k≤l.length∧i= .int .i64 k∧Hid (wr.ownsRow w.heap.size 3 1 v (aLm l no k).length (fW (aLm l no k)))∧Hid (bB w wr)) (fun _ i _=>l.length-(intOf i).toNat)
 case atStart=>exact⟨0,by omega,rfl,hZ (bMa _ _ _ _),hZ (i4 _ _)⟩
 case round=>
  obtain⟨k,bb,rfl,r,u⟩:=hrel;obtain⟨ah,ad,rfl⟩:=aY r.o;by_cases ai:k<l.length
  ·have ar:(k:Int)<(l.length:Int):=by omega
   have bc:0≤(k:Int):=by omega
   obtain⟨b,o,au⟩:∃b o,ao=some ⟨b,o,none⟩:=by
    obtain⟨b,o,e,_⟩:=Z.o.2.2.2.2 (by omega);exact⟨b,o,e⟩
   subst au;obtain⟨c,H⟩:=nZ (l.getD k cD);have C:=jJ (Z.o.below u.o) ai;rw[←H] at C;have aj:=dP (t:=311) C underlying311 rfl vM;have ak:=jN c wr;obtain⟨w1,z⟩:=nZ (wr.alloc (.cells (dI c).toArray 311));obtain⟨I,D⟩:=nZ wr.heap.size;have E:Blk w1 I 311 (dI c):=by rw[z,D];exact Blk.new wr _ _
   have Y:Hid (bB wr w1):=hZ (by rw[z];exact bZ)
   have q:=hZ (aD r.o Y.o);have p:=hZ (u.o.trans (Y.o.mono u.o.size));have J:=hZ H;have al:=aNz l no k;obtain⟨m,K⟩:=nZ (aLm l no k);have G:=hZ K;rw[←K] at al q⊢;obtain⟨c0,aa,A,f⟩:=c;have c2:cZ w1 I 2 A:=E.cell 2;have c3:cZ w1 I 3 (.int .i64 (f:Nat)):=E.cell 3;clear C E H K r;go_upto_region 5 with fail
   rw[←z,←D];clear z D ak aj;by_cases S:f=no
   ·subst S
    have av:((f:Int) == (f:Int))=true:=by simp
    cases A with
    |true=>
     go_wp21;go_roundw
     case rel=>exact⟨k+1,by omega,by go_num,hZ (by rw[aAs,←J.o,←G.o,i9 (by simp),bMv];exact q.o),p⟩
     case measure=>simp[intOf];omega
    |false=>
     have aw:m.length+1≤maxLen:=by unfold maxLen;omega
     have ax:(m.length+1)*8≤140737488355328:=by omega
     have ab:w.heap.size≤(w1.alloc (.cells #[(k:Nat)] 3)).heap.size:=by have:=p.o.size;simp;omega
     have U:=hZ (q.o.alloc (.cells #[(k:Nat)] 3));go_wp2_with (at_builtin;go_must (refine bOa _ rfl (.tmp 24) (.tmp 26) 107 rfl w.heap.size 3 ap (0:Int) 1 8 underlying107 aq ae af ag rfl (by decide) (.slice ah m.length ad) m.length (fW m) rfl U.o ⟨w1.heap.size,0,none⟩ 1 1 [(k:Nat)] rfl rfl (Blk.news (Blk.new w1 3 [(k:Nat)])) (by simp[Value.oneCell']) aw ax ab ?_;intro v1 ac P N _ _))
     have am:Hid (Below w.heap.size w ac):=hZ (cF (p.o.alloc (by have:=p.o.size;omega) _) U.o N ab (d8 _))
     have R:ac.ownsRow w.heap.size 3 1 v1 (aLm l f (k+1)).length (fW (aLm l f (k+1))):=by
      rw[aAs,←J.o,←G.o,i6 (by simp),i7,show fW (m++[k])=fW m++[.int .i64 (k:Nat)] by simp[fW]]
      exact P
     have an:=hZ R;clear P N R;go_roundw
     case rel=>exact⟨k+1,by omega,by go_num,an,am⟩
     case measure=>simp[intOf];omega
   ·have av:((f:Int) == (no:Int))=false:=by simp;omega
    have ay:(decide (((c0,aa,A,f):bJ).2.2.2=no)&& !((c0,aa,A,f):bJ).2.2.1)=false:=by simp[S]
    go_wp2_with fail;go_roundw
    case rel=>exact⟨k+1,by omega,by go_num,hZ (by rw[aAs,←J.o,←G.o,i9 (by rw[ay];decide),bMv];exact q.o),p⟩
    case measure=>simp[intOf];omega
  ·obtain rfl:k=l.length:=by omega
   have ar:¬(l.length:Int)<(l.length:Int):=by omega
   go_wp21;go_ret;exact⟨_,rfl,r.o,u.o⟩
end
theorem kK (first at_ size:Nat):∀(d i:Nat),i<d*size→(lX first at_ size d).getD i cD=(first+i/size,16+at_+i%size,false,i%size)
 |0,i,h=>by omega
 |d+1,i,h=>by
  unfold lX;have f:=dA first at_ size d;rw[a8];by_cases l:i<d*size
  ·rw[bMz (by rw[f];exact l),←a8]
   exact kK first at_ size d i l
  ·have q:0<size:=by
    rcases Nat.eq_zero_or_pos size with e|e
    ·subst e;omega
    ·exact e
   have h2:i<d*size+size:=by rw[←Nat.succ_mul];exact h
   have m:i/size=d:=Nat.div_eq_of_lt_le (by omega) (by rw[Nat.succ_mul];omega)
   have p:i%size=i-d*size:=by
    have:=Nat.div_add_mod i size;rw[m,Nat.mul_comm] at this;omega
   rw[bMq (by rw[f];omega),f]
   unfold vI;rw[bMh,List.getElem?_range (by omega),m,p]
   rfl
theorem jW {a size:Nat} (h:dO gs secs g a size=true):1≤(aI gs g a size).length∧(aI gs g a size).length≤32:=by
 obtain⟨hr,_,t,p,q,_⟩:=bK h;have r:=bM hr (show g<gs.length by omega)
 unfold aI;split
 ·rename_i f
  rw[dA];have l:1≤(gs.getD g (0,0)).2.toNat∧(gs.getD g (0,0)).2.toNat≤8:=by omega
  have h1:1≤size:=by omega
  have m:size≤4:=by omega
  constructor
  ·exact Nat.mul_le_mul l.1 h1
  ·exact l6 (Nat.mul_le_mul l.2 m) (by omega)
 ·rename_i f
  have u:=uE (fX gs g).toNat (gs.getD g (0,0)).2.toNat a size;refine⟨?_,by omega⟩
  obtain⟨k,f⟩:∃k,size=k+1:=⟨size-1,by omega⟩
  rw[f];unfold jV;rw[jU];omega
theorem dZ (l:List bJ) (data:List Bs):(jC l data).length=l.length:=by simp[jC]
def gZ (l:List bJ) (k:Nat):Nat:=((l.take k).filter fun c=> !c.2.2.1).length
theorem lD (l:List bJ) (k:Nat) (h:k<l.length):gZ l (k+1)=gZ l k+if(l.getD k cD).2.2.1=true then 0 else 1:=by
 unfold gZ;rw[m8 h,bNz,i7,a8,b9 h];congr 1;simp only[Option.getD_some];by_cases f:l[k].2.2.1=true
 ·simp[f]
 ·simp[f]
theorem aBc (l:List bJ) (k:Nat):gZ l k≤k:=by
 unfold gZ;have:=List.length_filter_le (fun c:bJ=> !c.2.2.1) (l.take k)
 rw[z7] at this;omega
theorem mG (data:List Bs):∀(l:List bJ) (n i:Nat),i<l.length→(nF data n l).getD i []=if(l.getD i cD).2.2.1=true then[] else data.getD ((n+gZ l i)%data.length) []
 |[],n,i,h=>by simp at h
 |c::r,n,0,h=>by
  unfold nF;simp only[List.getD_cons_zero,gZ,List.take_zero,List.filter_nil,bNm,Nat.add_zero];split<;>simp
 |c::r,n,i+1,h=>by
  have f:=mG data r;unfold nF;have m:gZ (c::r) (i+1)=(if c.2.2.1=true then 0 else 1)+gZ r i:=by
   unfold gZ;rw[bOn,List.filter_cons];cases c.2.2.1<;>simp<;>omega
  rw[m];split
  ·rename_i p
   simp only[List.getD_cons_succ];rw[f n i (by simpa using h),r9]
  ·rename_i p
   simp only[List.getD_cons_succ];rw[f (n+1) i (by simpa using h),bMc]
theorem bIi:(prog.info? 5).map (fun i=>(i.zero,i.size,i.bytes))=some (some (.int .u8 0),1,1):=by kernel_rfl
theorem bGo (ao:Option Addr) (len cap n:Nat) (ss:List ByteArray) (w:World) (I:sS w ao len cap ss) (aw:len≤1000000000) (h0:0<len) (ax:n≤1000000)
  (t:∀s∈ss,s.size=n):
  Calls prog 294 #[.slice ao len cap] w fun e w'=>
   e= .returned (.string ⟨(xO n ss).toArray⟩)∧bB w w':=by
 have z:=I.len;obtain⟨b,off,rfl,ah,A⟩:=I.pos h0;obtain⟨s0,e0⟩:∃s,s=ss[0]:=⟨_,rfl⟩;have X:w.cell? ⟨b,off,none⟩=some (.string s0):=by have:=A 0 h0;rw[e0];simpa[List.getD,z,h0] using this
 have Y:s0.size=n:=by rw[e0];exact t _ (n5 _)
 obtain⟨ai,aj,Z,aa,ab⟩:=bMo bIi;subst Y;have C:Hid (ss.length=len):=z;have ak:Hid (∀s∈ss,s.size=s0.size):=t;have al:Hid (∀j,j<len→w.cell? ⟨b,off+j,none⟩=some (.string (ss.getD j ByteArray.empty))):=A;clear e0 t z A;go_in;go_wp2_with (first
  |(at_make;refine wpList_make_full w rfl (.tmp 10) (.tmp 10) 162 rfl w.heap.size 5 ai (.int .u8 0) 1 underlying162 aj Z aa .i64 .i64 s0.size s0.size s0.size rfl rfl rfl rfl (by rw[ab];omega) (by unfold maxLen;omega) (d8 _) ?_;intro w1 q G))
 rw[aZa] at q;have J:bB w w1:=(i4 _ _).grown G (d8 _) (by simp)
 clear G X;go_loopw [14] (fun i wr=>∃k:Nat,k≤len∧i= .int .i64 k∧wr.ownsRow w.heap.size 5 1 (.slice (some ⟨w.heap.size,0,none⟩) s0.size s0.size) s0.size (qU (xO s0.size (ss.take k)))∧bB w wr) (fun i _=>len-(intOf i).toNat)
 case atStart=>exact⟨0,by omega,rfl,q,J⟩
 case round=>
  obtain⟨k,ay,rfl,h,l⟩:=hrel;clear q J;obtain⟨D,rfl⟩:∃D:World,D=wr:=⟨_,rfl⟩;by_cases r:k<len
  ·obtain⟨s,es⟩:=nZ (ss.getD k ByteArray.empty)
   have ac:D.cell? ⟨b,off+k,none⟩=some (.string s):=by rw[es];exact(l.cell (by exact ah)).trans (al.o k r)
   have K:s.size=s0.size:=ak.o s (by rw[es,a8,b9 (by rw[C.o];exact r)];exact n5 _)
   have am:Hid (s=ss.getD k ByteArray.empty):=es;have an:Hid (s.size=s0.size):=K;clear es K;go_wp2;go_loopw [20] (fun i wr=>∃j:Nat,j≤s0.size∧i= .int .i64 j∧wr.ownsRow w.heap.size 5 1 (.slice (some ⟨w.heap.size,0,none⟩) s0.size s0.size) s0.size (qU (mix (xO s0.size (ss.take k)) s.data.toList j))∧bB w wr) (fun i _=>s0.size-(intOf i).toNat)
   case atStart=>exact⟨0,by omega,rfl,by rw[bBo];exact h,l⟩
   case round=>
    obtain⟨j,az,rfl,f,H⟩:=hrel;clear h l ac;by_cases N:j<s0.size
    ·obtain⟨R,m⟩:=nZ (mix (xO s0.size (ss.take k)) s.data.toList j)
     rw[←m] at f;have ad:R.length=s0.size:=by rw[m,wT,pS]
     obtain⟨x,E⟩:∃x,R[j]?=some x:=⟨_,b9 (by rw[ad];exact N)⟩
     have ar:wr.cell? ⟨w.heap.size,j,none⟩=some (.int .u8 x.toNat):=by rw[f.cellAt j (by omega),qU,bMh,E];rfl
     have au:=f.frozenAt j;have S:j<s.size:=by have:=an.o;omega
     have ae:=fun u=>f.stored j u
     have ap:=hZ m;have aq:=hZ E;clear m E;go_wp2;go_region;go_wp2;go_roundw
     case rel=>
      refine⟨j+1,by omega,by go_num,?_,?_⟩
      ·have h1:=(ae (.int .u8 (x^^^s[j]).toNat)).1
       rw[bCp,←aJq s j S,←bAs _ _ _ _ _ ap.o (by rw[pS];exact N) aq.o,aJq s j S] at h1
       rw[bIw];exact h1
      ·exact(H.setCell (p:=⟨w.heap.size,j,none⟩) (d8 _) _).drew
     case measure=>simp[intOf];omega
    ·have af:j=s0.size:=by omega
     subst af;go_wp2;go_roundw
     case rel=>exact⟨k+1,by omega,by go_num,by rw[aWw _ _ _ (by rw[C.o];exact r),←am.o];exact f,H⟩
     case measure=>simp[intOf];omega
  ·have ag:k=len:=by omega
   subst ag;have U:ss.take k=ss:=bLq (by rw[C.o];exact d8 _)
   rw[U] at h;clear U;have av:=pQ (P:=prog) h 162 5 9 underlying162 underlying5 underlying9;go_wp2;go_ret;exact⟨rfl,l⟩
theorem aGf (F:Nat) (z:Array Value) (p:Nat→Bool) (ao:Option Addr) (n cap:Nat) (ss:List ByteArray) (w:World) (A:sS w ao n cap ss) (P:n≤1000000000)
  (hF:∀args W,(callFunc F args).run prog W= .ok (.enter F args) W)
  (C:∀j,j<n→∀W,bB w W→Calls prog F (#[.string (ss.getD j ByteArray.empty)]++z) W fun e H=>e= .returned (.bool (p j))∧bB W H):
  Calls prog 288 #[.slice ao n cap,.func (.func F) #[] z] w fun e w'=>e= .returned (.int .i64 (eL p n))∧bB w w':=by
 have I:=hZ C;have G:=hZ A;clear C A;go_in;go_wp2_with fail;go_loopw [8] (fun i wr=>∃k:Nat,k≤n∧i= .int .i64 k∧Hid (∀j,j<k→p j=false)∧bB w wr) (fun i _=>n-(intOf i).toNat)
 case atStart=>exact⟨0,by omega,rfl,hZ fun j D=>absurd D (by omega),i4 _ _⟩
 case round=>
  obtain⟨k,R,rfl,m,f⟩:=hrel;by_cases q:k<n
  ·obtain⟨b,off,rfl,J,u⟩:=G.o.pos (by omega)
   obtain⟨s,es⟩:=nZ (ss.getD k ByteArray.empty);have N:wr.cell? ⟨b,off+k,none⟩=some (.string s):=by rw[es];exact(f.cell (by exact J)).trans (u k q)
   have r:=I.o k q wr f;rw[←es] at r;have l:=hZ r;have S:=hZ es;have U:=hZ u;clear u es r
   cases h:p k with
   |true=>
    rw[h] at l;go_wp2_with fail;refine l.o.mono ?_;rintro e w1 ⟨rfl,t⟩;go_wp2_with fail;go_ret;exact⟨by rw[fI q h m.o];rfl,f.trans (t.mono f.size)⟩
   |false=>
    rw[h] at l;have K:=hZ h;clear h;go_wp2_with fail;refine l.o.mono ?_;rintro e w1 ⟨rfl,t⟩;go_wp2_with fail;go_roundw
    case rel=>
     refine⟨k+1,by omega,by go_num,hZ fun j D=>?_,f.trans (t.mono f.size)⟩
     by_cases e:j=k
     ·rw[e];exact K.o
     ·exact m.o j (by omega)
    case measure=>simp[intOf];omega
  ·have E:k=n:=by omega
   subst E;go_wp2_with fail;go_ret;exact⟨by rw[eF m.o];rfl,f⟩
theorem pT (F:Nat) (f:Array Value) (p:Nat→Bool) (ao:Option Addr) (n cap:Nat) (ss:List ByteArray) (w:World) (h:sS w ao n cap ss) (m:n≤1000000000)
  (hF:∀args W,(callFunc F args).run prog W= .ok (.enter F args) W)
  (q:∀j,j<n→∀W,bB w W→Calls prog F (#[.string (ss.getD j ByteArray.empty)]++f) W fun e r=>e= .returned (.bool (p j))∧bB W r):
  Calls prog 255 #[.slice ao n cap,.func (.func F) #[] f] w fun e w'=>e= .returned (.bool ((List.range n).any p))∧bB w w':=by
 go_in;go_wp21;refine(aGf F f p ao n cap ss w h m hF q).mono ?_;rintro e w1 ⟨rfl,l⟩;go_wp21;go_ret;exact⟨by rw[←pW];rfl,l⟩
theorem aYj (s s0:ByteArray) (B b off n cap:Nat) (w:World) (f:w.cell? ⟨B,0,none⟩=some (.slice (some ⟨b,off,none⟩) n cap)) (h0:w.cell? ⟨b,off,none⟩=some (.string s0)) (h:0<n):
  Calls prog 309 #[.string s,.pointer (some B)] w fun e w'=>e= .returned (.bool ((s.size:Int) != s0.size))∧bB w w':=by
 go_in;go_wp21;go_ret;exact⟨rfl,i4 _ _⟩
theorem aDx (args:Array Value) (W:World):(callFunc 309 args).run prog W= .ok (.enter 309 args) W:=by kernel_rfl
theorem aOk (ao:Option Addr) (n cap:Nat) (ss:List ByteArray) (w:World) (f:sS w ao n cap ss) (A:n≤1000000000):
  Calls prog 293 #[.slice ao n cap] w fun e w'=>e= .returned (.bool (qP ss))∧bB w w':=by
 have h:bB w (w.alloc (.cells #[.slice ao n cap] 80)):=bZ;have l:(w.alloc (.cells #[.slice ao n cap] 80)).cell? ⟨w.heap.size,0,none⟩=some (.slice ao n cap):=by rw[bMr _ _ _ _ rfl];rfl
 have r:=f.len;have q:=pT 309 #[.pointer (some ⟨w.heap.size,0,none⟩)] (fun j=>((ss.getD j ByteArray.empty).size:Int) != (ss.getD 0 ByteArray.empty).size) ao n cap ss (w.alloc (.cells #[.slice ao n cap] 80))
  (f.below h) A aDx (fun j E W m=>by
   have t:=(f.below h).below m;obtain⟨b,off,rfl,G,C⟩:=t.pos (by omega)
   refine aYj _ _ _ b off n cap W ?_ (C 0 (by omega)) (by omega)
   rw[m.cell (p:=⟨w.heap.size,0,none⟩) (by simp)]
   exact l)
 have D:=hZ q;have u:=hZ h;clear q f l h;go_in;go_wp2_with fail;refine D.o.mono ?_;rintro e w1 ⟨rfl,z⟩;go_wp2_with fail;go_ret;refine⟨?_,u.o.trans (z.mono (by simp))⟩
 rw[←bFo ss n r];rfl
theorem bFk (ao:Option Addr) (n cap:Nat) (ss:List ByteArray) (w:World) (h:sS w ao n cap ss) (q:n≤1000000000) (l:n=0∨qP ss=false):
  Calls prog 266 #[.slice ao n cap] w fun e w'=>e= .returned (.tuple #[.string ByteArray.empty,(1:Int)])∧bB w w':=by
 have f:=hZ (aOk ao n cap ss w h q);by_cases h0:n=0
 ·subst h0
  go_in;go_wp21;go_ret2;exact⟨rfl,i4 _ _⟩
 ·have r:((n:Int) == 0)=false:=by simpa using h0
  have m:=l.resolve_left h0;rw[m] at f;go_in;go_wp21;refine f.o.mono ?_;rintro e w1 ⟨rfl,p⟩;go_wp21;go_ret2;exact⟨rfl,p⟩
theorem bAq (ao:Option Addr) (n cap m:Nat) (ss:List ByteArray) (w:World) (h:sS w ao n cap ss) (l:n≤1000000000) (h0:0<n) (r:m≤1000000) (p:∀s∈ss,s.size=m):
  Calls prog 266 #[.slice ao n cap] w fun e w'=>e= .returned (.tuple #[.string ⟨(xO m ss).toArray⟩,(0:Int)])∧bB w w':=by
 have q:=hZ (aOk ao n cap ss w h l);rw[aMt ss m p] at q;have z:((n:Int) == 0)=false:=by simp;omega
 go_in;go_wp21;refine q.o.mono ?_;rintro e w1 ⟨rfl,f⟩;go_wp21;refine((hZ fun W (u:bB w W)=>bGo ao n cap m ss W (h.below u) l h0 r p).o w1 f).mono ?_
 rintro e A ⟨rfl,t⟩;go_wp21;go_ret2;exact⟨rfl,f.trans (t.mono f.size)⟩
section
attribute [local go_sem ↓] iL fN
theorem bAw (ao:Option Addr) (n cap:Nat) (l:List Bs) (w:World) (h:sS w ao n cap (eQ l)) (G:n≤1000000) (C:∀s∈l,s.length≤1000000):
  Calls prog 266 #[.slice ao n cap] w fun e w'=>∃m:Int,e= .returned (.tuple #[.string ⟨(pY l).toArray⟩,m])∧bB w w':=by
 have f:l.length=n:=by have:=h.1;simpa[cV,eQ] using this
 by_cases p:n=0∨qP (eQ l)=false
 ·have e:pY l=[]:=by
   unfold pY;rw[i6];rcases p with h0|h0
   ·left;rw[h0] at f;exact bLs f
   ·exact .inr h0
  rw[e];refine(bFk ao n cap (eQ l) w h (by omega) p).mono ?_
  rintro e w' ⟨rfl,q⟩;exact⟨1,rfl,q⟩
 ·have D:0<n:=by omega
  have u:qP (eQ l)=true:=by
   cases E:qP (eQ l) with
   |true=>rfl
   |false=>exact absurd (.inr E) p
  have t:=aTb u;have h0:(eQ l).getD 0 ByteArray.empty=⟨(l.getD 0 []).toArray⟩:=by
   cases l with
   |nil=>simp at f;omega
   |cons a r=>rfl
  rw[h0] at t;have z:(⟨(l.getD 0 []).toArray⟩:ByteArray).size=(l.getD 0 []).length:=by show(l.getD 0 []).toArray.size=_;simp
  rw[z] at t;have A:(l.getD 0 []).length≤1000000:=by
   cases l with
   |nil=>simp
   |cons a r=>exact C a (by simp)
  have e:pY l=xO (l.getD 0 []).length (eQ l):=by
   unfold pY;rw[i9];rintro(h1|h1)
   ·rw[h1] at f;simp at f;omega
   ·rw[u] at h1;cases h1
  rw[e];refine(bAq ao n cap (l.getD 0 []).length (eQ l) w h (by omega) D A t).mono ?_
  rintro e w' ⟨rfl,q⟩;exact⟨0,rfl,q⟩
theorem aQm (n:Nat):(madeCells (Value.string ⟨#[]⟩).cells (n*1)).toList=cV (eQ (List.replicate n [])):=by
 rw[Nat.mul_one,cV,eQ,List.map_replicate,List.map_replicate];exact toList_madeCells_one _ _
theorem aKb (n:Nat) (q:n≤1000000) (w:World):(Instr.makeSlice 80 (.int .i64 (n:Int)) (.int .i64 (n:Int))).run prog w= .ok (.slice (some ⟨w.heap.size,0,none⟩) n n) (w.alloc (.cells (cV (eQ (List.replicate n []))).toArray 9)):=by
 obtain⟨m,p,f,h,l⟩:=bMo zX;have:=run_make (P:=prog) w 80 9 m (.string ⟨#[]⟩) underlying80 p f .i64 .i64 (n:Int) (n:Int) (by omega) (by omega) (by rw[l];omega) (by omega)
 rw[this,h];simp only[s7];rw[←aQm]
theorem aDi (h:Blk w g 9 (cV (eQ O))) (f:j<O.length):w.cell? ⟨g,j,none⟩=some (.string ⟨(O.getD j []).toArray⟩):=by
 rw[h.cell];simp[cV,eQ,b9 f]
theorem wD (h:Blk w g 9 (cV (eQ O))) (j:Nat) (t:Bs):Blk (w.setCell ⟨g,j,none⟩ (.string ⟨t.toArray⟩)) g 9 (cV (eQ (O.set j t))):=by
 have:=h.setCell j (.string ⟨t.toArray⟩);have e:(cV (eQ O)).set j (.string ⟨t.toArray⟩)=cV (eQ (O.set j t)):=by simp[cV,eQ,List.map_set]
 rw[e] at this;exact this
theorem bEv {l:List Nat} (h:w.ownsRow b 3 1 (.slice (some g) n cap) n (fW l)) (f:j<l.length):w.cell? ⟨g,j,none⟩=some (.int .i64 ((l.getD j 0:Nat):Int)):=by
 have m:l.length=n:=by have:=h.1;simpa[fW] using this
 rw[h.cellAt j (by omega)]
 simp[fW,b9 f]
def vL (l:List bJ) (data:List Bs) (k j:Nat):Bs:=if j<k then(jC l data).getD j [] else(nF data 0 l).getD j []
theorem aYo (l:List bJ) (data:List Bs) (f:O.length=l.length) (h:∀j,j<l.length→O.getD j []=vL l data l.length j):O=jC l data:=by
 apply bNw
 ·rw[f,dZ]
 ·intro j h1 h2
  have:=h j (by omega)
  unfold vL at this;rw[i6 (by omega)] at this
  simpa[a8,b9 h1,b9 h2] using this
theorem rD (l:List bJ) (data:List Bs) (f:i<l.length):(jC l data).getD i []=if(l.getD i cD).2.2.1=true then pY ((vH l (l.getD i cD).2.2.2).map fun k=>(nF data 0 l).getD k []) else(nF data 0 l).getD i []:=by
 unfold jC;rw[a8,bMh,List.getElem?_range f];rfl
end
section
theorem bDu {l:List Nat} (h:RSl w 1 ao n cap (jP l)) (f:0<n):∃b off,ao=some ⟨b,off,none⟩∧b<w.heap.size∧∀k,k<n→w.cell? ⟨b,off+k,none⟩=some (.pointer (some ⟨l.getD k 0,0,none⟩)):=by
 have q:l.length=n:=by have:=h.1;simpa[jP] using this
 obtain⟨b,off,e,m,p⟩:=h.2.2.2.2 f;refine⟨b,off,e,m,fun k r=>?_⟩
 rw[p k (by omega)]
 simp[jP,b9 (show k<l.length by omega)]
theorem aDy (F:Nat) (z:Array Value) (p:Nat→Bool) (ao:Option Addr) (n cap:Nat) (ss:List Nat) (w:World) (A:RSl w 1 ao n cap (jP ss)) (P:n≤1000000000)
  (hF:∀args W,(callFunc F args).run prog W= .ok (.enter F args) W)
  (C:∀j,j<n→∀W,bB w W→Calls prog F (#[.pointer (some ⟨ss.getD j 0,0,none⟩)]++z) W fun e H=>e= .returned (.bool (p j))∧bB W H):
  Calls prog 181 #[.slice ao n cap,.func (.func F) #[] z] w fun e w'=>e= .returned (.int .i64 (eL p n))∧bB w w':=by
 have I:=hZ C;have G:=hZ A;clear C A;go_in;go_wp2_with fail;go_loopw [8] (fun i wr=>∃k:Nat,k≤n∧i= .int .i64 k∧Hid (∀j,j<k→p j=false)∧bB w wr) (fun i _=>n-(intOf i).toNat)
 case atStart=>exact⟨0,by omega,rfl,hZ fun j D=>absurd D (by omega),i4 _ _⟩
 case round=>
  obtain⟨k,R,rfl,m,f⟩:=hrel;by_cases q:k<n
  ·obtain⟨b,off,rfl,J,u⟩:=bDu G.o (by omega)
   obtain⟨s,es⟩:=nZ (ss.getD k 0);have N:wr.cell? ⟨b,off+k,none⟩=some (.pointer (some s)):=by rw[es];exact(f.cell (by exact J)).trans (u k q)
   have r:=I.o k q wr f;rw[←es] at r;have l:=hZ r;have S:=hZ es;have U:=hZ u;clear u es r
   cases h:p k with
   |true=>
    rw[h] at l;go_wp2_with fail;refine l.o.mono ?_;rintro e w1 ⟨rfl,t⟩;go_wp2_with fail;go_ret;exact⟨by rw[fI q h m.o];rfl,f.trans (t.mono f.size)⟩
   |false=>
    rw[h] at l;have K:=hZ h;clear h;go_wp2_with fail;refine l.o.mono ?_;rintro e w1 ⟨rfl,t⟩;go_wp2_with fail;go_roundw
    case rel=>
     refine⟨k+1,by omega,by go_num,hZ fun j D=>?_,f.trans (t.mono f.size)⟩
     by_cases e:j=k
     ·rw[e];exact K.o
     ·exact m.o j (by omega)
    case measure=>simp[intOf];omega
  ·have E:k=n:=by omega
   subst E;go_wp2_with fail;go_ret;exact⟨by rw[eF m.o];rfl,f⟩
theorem zW (F:Nat) (f:Array Value) (p:Nat→Bool) (ao:Option Addr) (n cap:Nat) (ss:List Nat) (w:World) (h:RSl w 1 ao n cap (jP ss)) (m:n≤1000000000)
  (hF:∀args W,(callFunc F args).run prog W= .ok (.enter F args) W)
  (q:∀j,j<n→∀W,bB w W→Calls prog F (#[.pointer (some ⟨ss.getD j 0,0,none⟩)]++f) W fun e r=>e= .returned (.bool (p j))∧bB W r):
  Calls prog 114 #[.slice ao n cap,.func (.func F) #[] f] w fun e w'=>e= .returned (.bool ((List.range n).any p))∧bB w w':=by
 go_in;go_wp21;refine(aDy F f p ao n cap ss w h m hF q).mono ?_;rintro e w1 ⟨rfl,l⟩;go_wp21;go_ret;exact⟨by rw[←pW];rfl,l⟩
theorem bAu:(prog.info? 73).map (·.size)=some 2:=by kernel_rfl
theorem aHw:(prog.info? 24).map (·.size)=some 2:=by kernel_rfl
theorem aAr {x:Operand} {ty:TypeId} {pos:String}:
  Oper.wp prog ⟨dst,.load 73 x,ty,pos,after,guard⟩ a w next Q=lY prog ⟨dst,.load 73 x,ty,pos,after,guard⟩ 73 (a.eval x) a w next Q:=rfl
theorem xB {x:Operand} {ty:TypeId} {pos:String}:
  Oper.wp prog ⟨dst,.store 73 x y,ty,pos,after,guard⟩ a w next Q=cS prog ⟨dst,.store 73 x y,ty,pos,after,guard⟩ 73 (a.eval x) (a.eval y) a w next Q:=rfl
attribute [local go_sem ↓] aAr xB
def sM (g:Int×Int):List Value:=[.int .i64 g.1,.int .i64 g.2]
theorem aCc (c:Int×Int) (w:World) (f:Oper) (a:Act) (next:Act→World→Prop) (Q:Exit→Act→World→Prop):cS prog f 73 (.pointer (some ⟨w.heap.size,0,none⟩)) (.agg (sM c).toArray) a (w.alloc (.cells yF 73)) next Q=next (a.put f.dst undef) (w.alloc (.cells (sM c).toArray 73)):=by
 have s:=aG (P:=prog) (t:=73) (o:=0) (cs:=sM c) (Blk.new w 73 (yF:Array Value).toList) (d8 2) bAu (by
  intro u h;simp only[sM,s8,bLp,bNo] at h;rcases h with rfl|rfl<;>rfl) f a next Q
 rw[dS w 73 (sM c) (yF:Array Value).toList rfl] at s;exact s
theorem aBm (h:oZ w (some ⟨b,off,none⟩) n cap gs) (l:i<n):w.rangeAt b (off+i*2) (sM (gs.getD i (0,0))):=by
 obtain⟨b',p,e,_,m⟩:=h.at_ (by omega)
 simp only[i5,bNl,and_true] at e;obtain⟨rfl,rfl⟩:=e;obtain⟨h1,h2⟩:=m i l;intro j v f
 match j,f with
 |0,f=>rw[Nat.add_zero,h1];exact f
 |1,f=>rw[h2];exact f
theorem rI (ao:Option Addr) (n cap:Nat) (gs:Gs) (secs:Int) (w:World) (h:oZ w ao n cap gs) (hr:bH gs secs=true):
  Calls prog 62 #[.agg #[.slice ao n cap,secs]] w fun e w'=>e= .returned (cK gs:Nat)∧bB w w':=by
 have U:=h.len;have aa:=aS hr;have p:bB w (w.alloc (.cells #[.slice ao n cap,secs] 24)):=bZ;have H:=hZ (gX ao n cap gs secs _ (h.below p));rw[hr] at H;have I:=hZ p;have X:=hZ h;have J:Hid (∀k,k≤n→0≤fX gs k∧fX gs k≤32):=hZ (fun k z=>by have:=pZ hr k (by omega);omega)
 have ab:=hZ (fun k (z:k<n)=>qY gs k (by omega))
 have ah:Hid (((cK gs:Nat):Int)=fX gs n):=hZ (by unfold cK;have:=(pZ hr gs.length (d8 _)).1;rw[U] at*;omega)
 have al:n≤4:=by omega
 have am:1≤n:=by omega
 clear U aa p h;go_in;go_wp21;refine H.o.mono ?_;rintro e w1 ⟨rfl,q⟩;have ac:=hZ (I.o.trans (q.mono I.o.size));have k0:cZ w1 w.heap.size 0 (.slice ao n cap):=((Blk.new w 24 [.slice ao n cap,secs]).below q).cell 0;clear q;go_wp21;go_loopw [3,12] (fun ai A wr=>∃(k:Nat),A= .int .i64 k∧ai= .int .i64 (fX gs k)∧k≤n∧Hid (bB w wr)) (fun _ A _=>n-(intOf A).toNat)
 case atStart=>exact⟨0,rfl,rfl,z6 _,ac⟩
 case round=>
  obtain⟨k,rfl,rfl,z,l⟩:=hrel;by_cases K:k<n
  ·have aj:(k:Int)<(n:Int):=by omega
   have an:0≤(k:Int):=by omega
   obtain⟨b,o,e,_⟩:=X.o.at_ (by omega)
   subst e;obtain⟨c,C⟩:=nZ (gs.getD k (0,0));have r:=aBm (X.o.below l.o) K;rw[←C] at r;have ad:=fun D a next Q=>dP (P:=prog) (t:=73) r underlying73 rfl bAu D a next Q
   have ae:=fun D a next Q=>aCc c wr D a next Q
   obtain⟨E,m⟩:=nZ (wr.alloc (.cells (sM c).toArray 73));obtain⟨Y,u⟩:=nZ wr.heap.size;have N:Blk E Y 73 (sM c):=by rw[m,u];exact Blk.new wr _ _
   have R:bB wr E:=by rw[m];exact bZ
   have af:=hZ (l.o.trans (R.mono l.o.size));have f:=ab.o k K;rw[←C] at f;have S:=J.o k z;have ag:=J.o (k+1) (by omega)
   obtain⟨c0,G⟩:=c;have ap:cZ E Y 1 G:=N.cell 1;obtain⟨x,Z⟩:=nZ (fX gs k);rw[←Z] at f S⊢;dsimp only at f;have aq:0≤x+G:=by omega
   have ar:x+G≤32:=by omega
   have ak:=hZ f;clear r N C R Z f S ag;go_upto_region 7 with fail
   rw[←m,←u];clear m u ae ad;go_wp21;go_roundw
   case rel=>exact⟨k+1,by go_num,by rw[ak.o],by omega,af⟩
   case measure=>simp[intOf];omega
  ·have aj:¬(k:Int)<(n:Int):=by omega
   obtain rfl:k=n:=by omega
   go_wp21;go_ret;exact⟨by rw[ah.o];rfl,l.o⟩
theorem aOw {δ:bC} (h:dJ w db δ F) (l:w.cell? ⟨gx,1,none⟩=some (.int .i64 secs)) (m:gx<w.heap.size):
  Calls prog 115 #[.pointer (some ⟨db,0,none⟩),.pointer (some ⟨gx,0,none⟩)] w fun e w'=>e= .returned (.bool ((δ.med.length:Int) != secs))∧bB w w':=by
 have q:Hid (∀w',bB w w'→w'.cell? ⟨gx,1,none⟩=some secs):=hZ (fun w' r=>by rw[bNi (w:=w) (r.block gx m)];exact l)
 go_in;go_upto_region 1 with fail
 refine l7 (S:=fun w'=>w'.cell? ⟨gx,1,none⟩=some secs) (by kernel_rfl) l (fun z=>?_)
 refine aE 0 ?_;refine aE 2 ?_;refine aE 3 ?_;refine aE 4 ?_;refine dY (i:=1) (h:=fun K t=>?_)
 go_simp;refine(aYe (h.below (i4 _ _).drew)).mono ?_;rintro e w1 ⟨rfl,p⟩;have f:=hZ ((i4 w.heap.size w).drew.trans p)
 try dsimp only
 refine t.o _ _ (q.o _ f.o) (fun u=>?_)
 refine aE 5 ?_;refine aE 6 ?_;refine r8 (by kernel_rfl) ?_ _
 go_wp21;go_ret;exact⟨rfl,f.o⟩
theorem aAf (args:Array Value) (W:World):(callFunc 115 args).run prog W= .ok (.enter 115 args) W:=by kernel_rfl
end
theorem bL {x:aK} (h:x.right=true):bH x.gs x.secs=true∧x.ds.length=cK x.gs∧x.away.length=x.ds.length∧∀i,i<x.ds.length→(((x.ds.getD i eN).med.length:Nat):Int)=x.secs:=by
 unfold aK.right at h;simp only[y8,bLt] at h;obtain⟨⟨⟨h1,h2⟩,l⟩,f⟩:=h;refine⟨h1,h2,l,fun i m=>?_⟩
 rw[List.all_eq_true] at f;have:=f (x.ds[i]) (n5 _);rw[a8,b9 m];simpa using this
theorem uJ (h:Blk w g e (cs++ds)):w.rangeAt g 0 cs:=fun j v f=>by
 rw[h.cell,r9];rw[bMz (bMy.1 f).1];exact f
structure mV (w:World) (gx:Nat) (ga:Option Addr) (gn gc:Nat) (secs:Int) (la:Option Addr) (n lc:Nat) (wa:Option Addr) (wc:Nat):Prop where
 blk:Blk w gx 43 [.slice ga gn gc,.int .i64 secs,.slice la n lc,.slice wa n wc]
section
variable {w:World} {gx gn gc n lc wc:Nat} {ga la wa:Option Addr} {secs:Int}
theorem mV.c0 (h:mV w gx ga gn gc secs la n lc wa wc):w.rangeAt gx 0 [.slice ga gn gc,secs]:=uJ (cs:=[.slice ga gn gc,secs]) h.blk
theorem mV.c2 (h:mV w gx ga gn gc secs la n lc wa wc):w.cell? ⟨gx,2,none⟩=some (.slice la n lc):=h.blk.cell 2
theorem mV.c3 (h:mV w gx ga gn gc secs la n lc wa wc):w.cell? ⟨gx,3,none⟩=some (.slice wa n wc):=h.blk.cell 3
end
theorem fL {x:aK} {V:kE} (h:bV w x V F) (hr:x.right=true):
  Calls prog 59 #[V.val x.secs] w fun e w'=>e= .returned true∧bB w w':=by
 obtain⟨ga,gc,la,lc,wa,wc,U,X⟩:=h.form;obtain⟨r1,r2,al,ag⟩:=bL hr;obtain⟨m,u⟩:=nZ (w.alloc (.cells #[.slice ga x.gs.length gc,x.secs,.slice la x.ds.length lc,.slice wa x.ds.length wc] 43));have A:bB w m:=by rw[u];exact bZ
 have z:mV m w.heap.size ga x.gs.length gc x.secs la x.ds.length lc wa wc:=by rw[u];exact⟨Blk.new w _ _⟩
 have G:=fun W (l:bB w W)=>gX ga x.gs.length gc x.gs x.secs W (X.below l)
 rw[r1] at G;have H:=fun W (l:bB w W)=>rI ga x.gs.length gc x.gs x.secs W (X.below l) r1
 rw[←r2] at H;have ac:=hZ G;have I:=hZ H;have p:Hid (∀W,bB m W→mV W w.heap.size ga x.gs.length gc x.secs la x.ds.length lc wa wc):=hZ (fun W l=>⟨z.blk.below l⟩)
 have q:=hZ A;have aj:=z.blk.lt;have ab:V.val x.secs= .agg #[.slice ga x.gs.length gc,x.secs,.slice la x.ds.length lc,.slice wa x.ds.length wc]:=by rw[U];rfl
 have J:Hid (∀W,bB m W→Calls prog 114 #[.slice la x.ds.length lc,.func (.func 115) #[] #[.pointer (some ⟨w.heap.size,0,none⟩)]] W fun e w'=>e= .returned false∧bB W w'):=hZ (by
  obtain⟨dbs,Fd,t,hF⟩:=h;intro W l;have Y:=t.lst;rw[U] at Y;rw[t.n1] at Y;have N:=A.trans (l.mono A.size);have ah:=zW 115 #[.pointer (some ⟨w.heap.size,0,none⟩)] (fun _=>false) la x.ds.length lc dbs W ((bI Y).below N) (by have:=t.num;omega) aAf (fun j ai av P=>by
   have am:=(t.dev j ai).below (N.trans (P.mono N.size));have:=aOw am ((z.blk.below (l.trans (P.mono l.size))).cell 1) ((z.blk.below (l.trans (P.mono l.size))).lt);rw[ag j ai] at this;simpa using this)
  have e:(List.range x.ds.length).any (fun _=>false)=false:=by simp
  rw[e] at ah;exact ah)
 rw[ab];obtain⟨n,D⟩:=nZ x.ds.length;obtain⟨gn,R⟩:=nZ x.gs.length;rw[←D] at p J I⊢;rw[←R] at p ac I⊢;rw[←D,←R] at u;obtain⟨gx,E⟩:=nZ w.heap.size;rw[←E] at p J;have ap:n≤1000:=by rw[D];obtain⟨_,_,t,_⟩:=h;exact t.num
 clear h hr U X r1 r2 al ag A z G H aj ab D R;go_in;go_upto_region 1 with fail
 rw[←u,←E];clear u E;refine l7 (S:=fun w'=>mV w' gx ga gn gc x.secs la n lc wa wc) (by kernel_rfl) (p.o _ (i4 _ _).drew) (fun au=>?_)
 refine aE 0 ?_;refine mX 1 ?vs1 ?ys1 ?_
 case ys1=>refine m5 (by kernel_rfl) 24 (.tmp 3) ?_ gx (0) ?_ ([.slice ga gn gc,x.secs]) _ (fun w' Z=>mV.c0 Z) underlying24 rfl aHw<;>rfl
 refine dY (i:=2) (h:=fun K aa=>?_)
 go_simp;refine(ac.o _ (q.o.trans ((i4 m.heap.size m).drew.mono q.o.size))).mono ?_;rintro e w1 ⟨rfl,ad⟩;have C:=hZ ((i4 m.heap.size m).drew.trans ad);clear ad
 try dsimp only
 refine aa.o _ _ (p.o _ C.o) (fun aq=>?_)
 refine aE 3 ?_;refine aE 4 ?_;refine aE 5 ?_;refine aE 6 ?_ (hy:=by intro w f;(try dsimp only at f);go_simp;first|(rw[mV.c2 f];rfl)|rfl)
 refine aE 7 ?_;refine aE 8 ?_;refine mX 9 ?vs9 ?ys9 ?_
 case ys9=>refine m5 (by kernel_rfl) 24 (.tmp 11) ?_ gx (0) ?_ ([.slice ga gn gc,x.secs]) _ (fun w' Z=>mV.c0 Z) underlying24 rfl aHw<;>rfl
 refine dY (i:=10) (h:=fun K aa=>?_)
 go_simp;refine(I.o _ (q.o.trans (C.o.mono q.o.size))).mono ?_;rintro e aw ⟨rfl,ae⟩;have r:=hZ (C.o.trans (ae.mono C.o.size));clear ae
 try dsimp only
 refine aa.o _ _ (p.o _ r.o) (fun an=>?_)
 refine aE 11 ?_ (hy:=by intro w f;(try dsimp only at f);go_simp;first|with_reducible rfl|(rw[bne_self_eq_false])|simp)
 refine aE 12 ?_;refine aE 13 ?_;refine aE 14 ?_;refine aE 15 ?_ (hy:=by intro w f;(try dsimp only at f);go_simp;first|(rw[mV.c3 f];rfl)|rfl)
 refine aE 16 ?_;refine aE 17 ?_;refine aE 18 ?_ (hy:=by intro w f;(try dsimp only at f);go_simp;first|(rw[mV.c2 f];rfl)|rfl)
 refine aE 19 ?_;refine aE 20 ?_ (hy:=by intro w f;(try dsimp only at f);go_simp;first|with_reducible rfl|(rw[bne_self_eq_false])|simp)
 refine aE 21 ?_;refine r8 (by kernel_rfl) ?_ _
 have ar:=r;have ax:=(p.o _ r.o).c2;go_wp21;refine(J.o _ r.o).mono ?_;rintro e ay ⟨rfl,af⟩;have ak:=hZ (q.o.trans ((r.o.trans (af.mono r.o.size)).mono q.o.size));clear af;go_wp21;go_ret;exact⟨rfl,ak.o⟩
theorem fP.mod {f:bC} (h:fP db f F w w'):Mod F w w':=by
 obtain⟨l,_,h2,_⟩:=h;exact h2
theorem fP.early {f:bC} (l:bB w w1) (h:fP db f F w1 w'):fP db f F w w':=by
 obtain⟨m,h1,h2,p⟩:=h;exact⟨m,h1,(Mod.below l).self h2,fun g q=>(p g q).imp id (l6 l.size)⟩
theorem dC:(prog.info? 43).map (·.size)=some 4:=by kernel_rfl
structure lI (gx gcc:Nat) (ga:Option Addr) (gn gc:Nat) (secs:Int) (bl n lc:Nat) (wa:Option Addr) (wc:Nat) (c:bJ) (db:Nat) (w:World):Prop where
 bx:mV w gx ga gn gc secs (some ⟨bl,0,none⟩) n lc wa wc
 co:Blk w gcc 311 (dI c)
 ld:w.cell? ⟨bl,c.1,none⟩=some (.pointer (some ⟨db,0,none⟩))
section
variable {gx gcc gn gc bl n lc wc db:Nat} {ga wa:Option Addr} {secs:Int} {c:bJ} {w w':World}
theorem lI.r0 (h:lI gx gcc ga gn gc secs bl n lc wa wc c db w):w.rangeAt gx 0 [.slice ga gn gc,secs,.slice (some bl) n lc,.slice wa n wc]:=uJ (ds:=[]) h.bx.blk
theorem lI.c2 (h:lI gx gcc ga gn gc secs bl n lc wa wc c db w):w.cell? ⟨gx,2,none⟩=some (.slice (some bl) n lc):=h.bx.c2
theorem lI.k0 (h:lI gx gcc ga gn gc secs bl n lc wa wc c db w):w.cell? ⟨gcc,0,none⟩=some (.int .i64 (c.1:Nat)):=h.co.cell 0
theorem lI.k1 (h:lI gx gcc ga gn gc secs bl n lc wa wc c db w):w.cell? ⟨gcc,1,none⟩=some (.int .i64 (c.2.1:Nat)):=h.co.cell 1
theorem lI.keep (h:lI gx gcc ga gn gc secs bl n lc wa wc c db w) (f:Mod F w w') (h1:¬F gx) (h2:¬F gcc) (p:¬F bl):lI gx gcc ga gn gc secs bl n lc wa wc c db w':=
 ⟨⟨f.blk h.bx.blk h1⟩,f.blk h.co h2,by
  have m:bl<w.heap.size:=by
   have:=h.ld;unfold World.cell? at this
   cases l:w.heap[bl]? with
   |none=>rw[l] at this;cases this
   |some o=>exact(i8.1 l).1
  rw[bNi (w:=w) (f.block bl m p)];exact h.ld⟩
end
theorem bCf {x:aK} {V:kE} (h:bV w x V F) (c:bJ) (u:c.1<x.ds.length) (s:Bs) (ay:s.length≤1000000) (ah:((x.ds.getD c.1 eN).cache c.2.1).length+1≤1000000000):
  Calls prog 347 #[V.val x.secs,.agg (dI c).toArray,.string ⟨s.toArray⟩] w fun e w'=>e= .returned (.bool (eZ x c s).1)∧gO (eZ x c s).2 V F w w':=by
 have al:=hZ h;obtain⟨dbs,Fd,p,hF⟩:=h;obtain⟨bl,lc,U,ai⟩:=p.lcell (by omega)
 obtain⟨ga,gc,am⟩:=aY p.grp;obtain⟨wa,wc,ad⟩:=aY p.awy;rw[p.n2] at ad;obtain⟨l,q⟩:=nZ ((w.alloc (.cells #[.slice ga x.gs.length gc,x.secs,.slice (some bl) x.ds.length lc,.slice wa x.ds.length wc] 43)).alloc (.cells (dI c).toArray 311));have Y:bB w l:=by rw[q];exact(bZ).alloc (by simp) _
 have aj:=(p.lst.lt bl (by rw[U];rfl)).2
 obtain⟨db,R⟩:=nZ (dbs.getD c.1 0);have Z:lI w.heap.size (w.heap.size+1) ga x.gs.length gc x.secs bl x.ds.length lc wa wc c db l:=by
  refine⟨⟨by rw[q];exact(Blk.new w _ _).alloc _⟩,by rw[q];exact Blk.newAt (w:=w.alloc _) _ _ (by simp),?_⟩
  rw[bNi (w:=w) (Y.block bl aj),R];exact ai c.1 u
 have X:V.val x.secs= .agg #[.slice ga x.gs.length gc,x.secs,.slice (some bl) x.ds.length lc,.slice wa x.ds.length wc]:=by unfold kE.val;rw[am,U,ad]
 have aa:=fun W (H:bB w W)=>xR (al.o.below H) c.1 u
 rw[X] at aa;rw[X];have D:=hZ aa;have az:=hZ p;have ba:=hZ hF;have an:=hZ (fun W (H:bB w W)=>aGd ((p.dev c.1 u).below H) ((c.2.1:Nat):Int) s ay (fun _=>by simpa using ah))
 rw[←R] at an;have ar:=hZ R;have m:=hZ Y;have ab:Hid (∀g,Fd c.1 g→g<w.heap.size∧g≠bl):=hZ (fun g ap=>⟨(p.dev c.1 u).lt g ap,fun e=>(p.dg c.1 g u ap).2.1 (by rw[U,e];rfl)⟩)
 obtain⟨n,ae⟩:=nZ x.ds.length;obtain⟨gn,ac⟩:=nZ x.gs.length;obtain⟨gx,A⟩:=nZ w.heap.size;obtain⟨gcc,C⟩:=nZ (w.heap.size+1);rw[←ae,←ac,←C,←A] at Z;rw[←ae,←ac] at q D⊢;have ak:Hid (¬Fd c.1 gx∧¬Fd c.1 gcc):=hZ ⟨fun I=>by have:=(ab.o gx I).1;omega,fun I=>by have:=(ab.o gcc I).1;omega⟩
 have E:=hZ (fun W (H:bB l W)=>Z.keep (F:=fun _=>False) (Mod.below H) (fun h=>h) (fun h=>h) (fun h=>h))
 have au:=hZ u;have be:((c.1:Nat):Int)<(n:Int):=by omega
 have bf:0≤((c.1:Nat):Int):=by omega
 clear p hF U ai am ad Y aj Z X aa ah u ae ac R
 cases z:x.here c.1 with
 |false=>
  have J:eZ x c s=(false,x):=by unfold eZ;rw[z,i9 (by decide)]
  rw[z] at D;rw[J];clear z J;go_in;go_upto_region 1 with fail
  rw[←q,←C,←A];clear q A C;refine l7 (S:=lI gx gcc ga gn gc x.secs bl n lc wa wc c db) (by kernel_rfl) (E.o _ (i4 _ _).drew) (fun av=>?_)
  refine mX 0 ?vf0 ?yf0 ?_
  case yf0=>refine m5 (by kernel_rfl) 43 (.tmp 3) ?_ gx (0) ?_ ([.slice ga gn gc,x.secs,.slice (some bl) n lc,.slice wa n wc]) _ (fun w' af=>lI.r0 af) underlying43 rfl dC<;>rfl
  refine aE 1 ?_;refine aE 2 ?_ (hy:=by intro w f;(try dsimp only at f);go_simp;first|(rw[lI.k0 f];rfl)|rfl)
  refine dY (i:=3) (h:=fun K N=>?_)
  go_simp;refine(D.o _ (m.o.trans ((i4 l.heap.size l).drew.mono m.o.size))).mono ?_;rintro e w1 ⟨rfl,G⟩;have t:=hZ ((i4 l.heap.size l).drew.trans G);clear G
  try dsimp only
  refine N.o _ _ (E.o _ t.o) (fun bc=>?_)
  refine aE 4 ?_;refine jL 5 ?_;refine jL 6 ?_;refine jL 7 ?_;refine jL 8 ?_;refine jL 9 ?_;refine jL 10 ?_;refine jL 11 ?_;refine jL 12 ?_;refine jL 13 ?_;refine jL 14 ?_;refine jL 15 ?_;refine aE 16 ?_;refine aE 17 ?_;refine r8 (by kernel_rfl) ?_ _
  go_wp2_with fail;go_ret;exact⟨rfl,al.o.stay (m.o.trans (t.o.mono m.o.size))⟩
 |true=>
  have J:eZ x c s=(decide (((x.ds.getD c.1 eN).writeE (jE c) s).1=0),x.set c.1 ((x.ds.getD c.1 eN).writeE (jE c) s).2):=by unfold eZ;rw[z,i6 rfl]
  rw[z] at D;rw[J];clear z J;obtain⟨r,hr⟩:=nZ ((x.ds.getD c.1 eN).writeE (jE c) s);have aq:=hZ hr;rw[←hr];clear hr;go_in;go_upto_region 1 with fail
  rw[←q,←C,←A];clear q A C;refine l7 (S:=lI gx gcc ga gn gc x.secs bl n lc wa wc c db) (by kernel_rfl) (E.o _ (i4 _ _).drew) (fun av=>?_)
  refine mX 0 ?vt0 ?yt0 ?_
  case yt0=>refine m5 (by kernel_rfl) 43 (.tmp 3) ?_ gx (0) ?_ ([.slice ga gn gc,x.secs,.slice (some bl) n lc,.slice wa n wc]) _ (fun w' af=>lI.r0 af) underlying43 rfl dC<;>rfl
  refine aE 1 ?_;refine aE 2 ?_ (hy:=by intro w f;(try dsimp only at f);go_simp;first|(rw[lI.k0 f];rfl)|rfl)
  refine dY (i:=3) (h:=fun K N=>?_)
  go_simp;refine(D.o _ (m.o.trans ((i4 l.heap.size l).drew.mono m.o.size))).mono ?_;rintro e w1 ⟨rfl,G⟩;have t:=hZ ((i4 l.heap.size l).drew.trans G);clear G
  try dsimp only
  refine N.o _ _ (E.o _ t.o) (fun bd=>?_)
  refine aE 4 ?_;refine aE 5 ?_;refine aE 6 ?_ (hy:=by intro w f;(try dsimp only at f);go_simp;first|(rw[lI.c2 f];rfl)|rfl)
  refine aE 7 ?_;refine aE 8 ?_ (hy:=by intro w f;(try dsimp only at f);go_simp;first|(rw[lI.k0 f];rfl)|rfl)
  refine aE 9 ?_ (hy:=by intro w f;(try dsimp only at f);go_simp;first|with_reducible rfl|rw[i6 (by omega)])
  refine aE 10 ?_ (hy:=by intro w f;(try dsimp only at f);go_simp;first|(rw[lI.ld f];rfl)|rfl)
  refine aE 11 ?_;refine aE 12 ?_ (hy:=by intro w f;(try dsimp only at f);go_simp;first|(rw[lI.k1 f];rfl)|rfl)
  refine aE 13 ?_;refine dY (i:=14) (h:=fun K N=>?_)
  go_simp;refine(an.o _ (m.o.trans (t.o.mono m.o.size))).mono ?_;rintro e bh ⟨rfl,P⟩;rw[show((c.2.1:Nat):Int)=jE c from rfl,←aq.o] at P;rw[show((c.2.1:Nat):Int)=jE c from rfl,←aq.o];have aw:=hZ P;have ax:=hZ (fP.mod P);clear P
  try dsimp only
  refine N.o _ _ ((E.o _ t.o).keep ax.o ak.o.1 ak.o.2 (fun I=>(ab.o bl I).2 rfl)) (fun bb=>?_)
  refine aE 15 ?_;refine aE 16 ?_;refine aE 17 ?_;refine r8 (by kernel_rfl) ?_ _
  go_wp2_with fail;go_ret;refine⟨by by_cases h0:r.1=0<;>simp[h0],?_⟩
  have ag:=fP.early (m.o.trans (t.o.mono m.o.size)) aw.o;rw[ar.o] at ag;exact az.o.step ba.o au.o ag
def bBd (first wide at_:Nat) (l:List bJ):Prop:=∀j,j<l.length→(l.getD j cD).1=first+(at_+j)%wide∧(l.getD j cD).2.1=16+(at_+j)/wide
theorem aOh {first at_:Nat} {out:List bJ} (h:bBd first wide at_ out) (row:Nat) (l:Bool):bBd first wide at_ (qD first wide at_ out row l):=by
 intro j m;rw[jU] at m;unfold qD;rw[a8];by_cases f:j<out.length
 ·rw[bMz f,←a8]
  exact h j f
 ·rw[bMq (by omega),show j-out.length=0 by omega]
  have:j=out.length:=by omega
  subst this;exact⟨rfl,rfl⟩
theorem lJ (first wide at_:Nat):∀i,bBd first wide at_ (jV first wide at_ i)
 |0=>fun j f=>by simp[jV] at f
 |i+1=>by
  unfold jV;refine aOh ?_ _ _;split
  ·exact aOh (lJ first wide at_ i) _ _
  ·exact lJ first wide at_ i
theorem bGd (hr:bH gs secs=true) (f:g<gs.length):fX gs g+(gs.getD g (0,0)).2≤fX gs gs.length:=by
 have l:∀k,g+1≤k→k≤gs.length→fX gs (g+1)≤fX gs k:=by
  intro k
  induction k with
  |zero=>intro h;omega
  |succ k m=>
   intro h1 h2;by_cases p:g+1=k+1
   ·rw[p];exact Int.le_refl _
   ·have q:=m (by omega) (by omega)
    have r:=qY gs k (by omega)
    have t:=bM hr (show k<gs.length by omega)
    omega
 have h1:=qY gs g f;have h2:=l gs.length (by omega) (d8 _)
 omega
theorem lC {a size:Nat} (h:dO gs secs g a size=true) (f:i<(aI gs g a size).length):((aI gs g a size).getD i cD).1<cK gs:=by
 obtain⟨hr,_,t,p,q,_⟩:=bK h;have m:g<gs.length:=by omega
 have r:=bM hr m;have u:=bGd hr m;have h0:=(pZ hr g (by omega)).1
 unfold cK;unfold aI at f⊢;split
 ·rename_i l
  rw[i6 l,dA] at f;rw[kK _ _ _ _ _ f];have h1:=Nat.div_lt_of_lt_mul (by rw[Nat.mul_comm];exact f)
  dsimp only;omega
 ·rename_i l
  rw[i9 l] at f;rw[(lJ _ _ _ _ i f).1];have h1:(a+i)%(gs.getD g (0,0)).2.toNat<(gs.getD g (0,0)).2.toNat:=bNd _ (by omega)
  omega
section
theorem cB {x:Operand} {ty:TypeId} {pos:String}:
  Oper.wp prog ⟨dst,.load 43 x,ty,pos,after,guard⟩ a w next Q=lY prog ⟨dst,.load 43 x,ty,pos,after,guard⟩ 43 (a.eval x) a w next Q:=rfl
attribute [local go_sem ↓] iL fN cB
theorem aNw (x:aK) (g a size:Nat):(kG x g a size).length=(aI x.gs g a size).length:=by simp[kG]
theorem bDg (x:aK) (g a size:Nat) (f:i<(aI x.gs g a size).length):(kG x g a size).getD i []=x.col ((aI x.gs g a size).getD i cD):=by
 unfold kG;rw[a8,bMh,b9 f,a8,b9 f];rfl
theorem bV.gslen {x:aK} {V:kE} (h:bV w x V F):x.ds.length≤1000:=by
 obtain⟨_,_,f,_⟩:=h;exact f.num
theorem bV.putS {x:aK} {V:kE} {c:bJ} {wc:Nat} {ga:Option Addr} (h:bV w x V F) (m:V=⟨.slice ga x.gs.length gc,.slice (some bl) x.ds.length lc,.slice wa x.ds.length wc⟩) (p:bB w W) (q:c.1<x.ds.length)
  (z:mV W gx ga x.gs.length gc x.secs (some bl) x.ds.length lc wa wc) (r:Blk W gcc 311 (dI c)):
  ∃db A,lI gx gcc ga x.gs.length gc x.secs bl x.ds.length lc wa wc c db W∧dJ W db (x.ds.getD c.1 eN) A:=by
 obtain⟨dbs,Fd,f,hF⟩:=h;obtain⟨C,D,l,t⟩:=f.lcell (by omega)
 rw[m] at l;simp only[bMm,i5,bNl,and_true,true_and] at l;obtain⟨rfl,rfl⟩:=l;have u:=(f.lst.lt bl (by rw[m];rfl)).2
 exact⟨_,_,⟨z,r,by rw[bNi (w:=w) (p.block bl u)];exact t c.1 q⟩,(f.dev c.1 q).below p⟩
theorem aVa {x:aK} {V:kE} (h:bV w x V F) (hr:x.right=true) (g a size:Nat) (au:dO x.gs x.secs g a size=true):
  Calls prog 138 #[V.val x.secs,.agg #[.int .i64 (g:Nat),.int .i64 (a:Nat)],.int .i64 (size:Nat)] w fun e w'=>∃v,e= .returned (.tuple #[v,.int .i64 0])∧w'.ownsRow w.heap.size 9 1 v (aI x.gs g a size).length (cV (eQ (kG x g a size)))∧Below w.heap.size w w':=by
 obtain⟨ga,gc,la,lc,wa,wc,J,cw⟩:=h.form;obtain⟨r1,r2,dy,dz⟩:=bL hr;have df:=jW au;have ab:=fun i (av:i<(aI x.gs g a size).length)=>lC au av
 rw[←r2] at ab;have cf:0<x.ds.length:=by have:=ab 0 (by omega);omega
 obtain⟨bl,rfl⟩:∃bl,la=some ⟨bl,0,none⟩:=by
  obtain⟨dbs,Fd,bw,hF⟩:=h;obtain⟨bl,eh,bx,_⟩:=bw.lcell cf;rw[J] at bx;simp only[bMm] at bx;exact⟨bl,bx.1⟩
 obtain⟨N,E⟩:=nZ ((w.alloc (.cells #[.slice ga x.gs.length gc,.int .i64 x.secs,.slice (some ⟨bl,0,none⟩) x.ds.length lc,.slice wa x.ds.length wc] 43)).alloc (.cells #[.int .i64 (g:Nat),.int .i64 (a:Nat)] 46));have aj:Below w.heap.size w N:=by rw[E];exact(bZ).alloc (by simp) _
 have az:mV N w.heap.size ga x.gs.length gc x.secs (some ⟨bl,0,none⟩) x.ds.length lc wa wc:=⟨by rw[E];exact(Blk.new w _ _).alloc _⟩
 have cg:Blk N (w.heap.size+1) 46 [.int .i64 (g:Nat),.int .i64 (a:Nat)]:=by rw[E];exact Blk.newAt (w:=w.alloc _) _ _ (by simp)
 have cc:V.val x.secs= .agg #[.slice ga x.gs.length gc,.int .i64 x.secs,.slice (some ⟨bl,0,none⟩) x.ds.length lc,.slice wa x.ds.length wc]:=by rw[J];rfl
 have ek:=hZ h;have ba:=fun W (m:Below w.heap.size w W)=>fL (h.below m) hr
 have bb:=fun W (m:Below w.heap.size w W) d (ea:d<x.ds.length)=>xR (h.below m) d ea
 rw[cc] at ba bb⊢;have ch:=hZ ba;have ci:=hZ bb;obtain⟨L,R⟩:=nZ (aI x.gs g a size);have cj:Hid (∀W,Below w.heap.size w W→Calls prog 135 #[.agg #[.slice ga x.gs.length gc,.int .i64 x.secs],.agg #[.int .i64 (g:Nat),.int .i64 (a:Nat)],.int .i64 (size:Nat)] W fun e w'=>∃v,e= .returned (.tuple #[v,.int .i64 0])∧w'.ownsRow W.heap.size 311 4 v L.length (eM L)∧Below W.heap.size W w'):=hZ (fun W m=>by
  rw[R];exact pP ga x.gs.length gc x.gs x.secs g a size W (cw.below m) au)
 obtain⟨af,ak⟩:=nZ (kG x g a size);have bc:Hid (af.length=L.length∧∀i,i<L.length→af.getD i []=x.col (L.getD i cD)):=hZ ⟨by rw[ak,R,aNw],fun i av=>by rw[ak,R,bDg];rw[R] at av;exact av⟩
 rw[←ak];rw[←R] at df ab⊢;have ck:=hZ ab;have A:=hZ az;have bd:=hZ cg;have be:=hZ aj;have el:=hZ J;have dc:=h.gslen;have dg:Hid (bl<w.heap.size):=hZ (by
  obtain⟨dbs,Fd,bw,hF⟩:=h;exact(bw.lst.lt bl (by rw[J];rfl)).2)
 have cl:Hid (∀(W:World) (c:bJ) (gcc:Nat),Below N.heap.size N W→c.1<x.ds.length→Blk W gcc 311 (dI c)→∃db cx,lI w.heap.size gcc ga x.gs.length gc x.secs bl x.ds.length lc wa wc c db W∧dJ W db (x.ds.getD c.1 eN) cx):=hZ (fun W c gcc m U dh=>h.putS J (aj.trans (m.mono aj.size)) U ⟨az.blk.below m⟩ dh)
 obtain⟨n,ag⟩:=nZ x.ds.length;obtain⟨gn,al⟩:=nZ x.gs.length;obtain⟨gx,Z⟩:=nZ w.heap.size;obtain⟨gp,bf⟩:=nZ (w.heap.size+1);rw[←ag,←al] at E ch ci A⊢;have em:=hZ ag;rw[←al] at cj;rw[←ag,←al,←Z] at cl;rw[←Z] at A;rw[←bf] at bd;rw[←ag] at ck dc;clear h hr au J cw r1 r2 dy dz ab cf aj az cg cc ba bb R ak ag al;go_enter func138,ntmps138;go_upto_region 1 with fail
 rw[←E,←bf,←Z];clear E bf;have am:=fun D a next Q=>aB (P:=prog) A.o.blk underlying43 rfl dC D a next Q
 have dd:=hZ Z;clear Z;go_wp2_with fail;refine(ch.o N be.o).mono ?_;rintro e w1 ⟨rfl,C⟩;have bh:=hZ (be.o.trans (C.mono be.o.size));have cm:=hZ C;have eb:=(A.o.blk.below C).cell 0;have ec:=(A.o.blk.below C).cell 1;have ed:=(bd.o.below C).cell 0;have y1:=(bd.o.below C).cell 1;have ah:=hZ (cj.o w1 bh.o);clear C am;go_wp2_with fail;refine ah.o.mono ?_;rintro e l ⟨ei,rfl,ay,bi⟩;obtain⟨g10,c10,rfl⟩:=bT ay (by omega)
 have G:=hZ (bh.o.trans (bi.mono bh.o.size));have bj:=hZ (cm.o.trans (bi.mono cm.o.size));have di:Hid (∀W,Below l.heap.size l W→RSl W 4 (some ⟨g10,0,none⟩) L.length c10 (eM L)):=hZ (fun W m=>bI (aD ay m))
 have dj:=aKb L.length (by omega) l
 have cn:Hid (Blk (l.alloc (.cells (cV (eQ (List.replicate L.length []))).toArray 9)) l.heap.size 9 (cV (eQ (List.replicate L.length [])))):=hZ (Blk.new l _ _);have co:Hid (Below l.heap.size l (l.alloc (.cells (cV (eQ (List.replicate L.length []))).toArray 9))):=hZ (bZ);obtain⟨u,bk⟩:=nZ l.heap.size;obtain⟨en,bm⟩:=nZ (l.alloc (.cells (cV (eQ (List.replicate L.length []))).toArray 9));rw[←bm,←bk] at cn dj;rw[←bm] at co;have an:=hZ bk;clear ay bi ah eb ec ed y1 bk bm;go_wp2_with fail;go_loopw [32] (fun bz wr=>∃(k:Nat) (O:List Bs),bz= .int .i64 k∧k≤L.length∧Hid (Blk wr u 9 (cV (eQ O)))∧Hid (O.length=L.length∧∀j,j<L.length→O.getD j []=if j<k then af.getD j [] else[])∧Hid (Below l.heap.size l wr)) (fun bz _=>L.length-(intOf bz).toNat)
 case atStart=>exact⟨0,List.replicate L.length [],rfl,z6 _,cn,hZ ⟨by simp,fun j ai=>by rw[i9 (by omega)];simp[a8,ai]⟩,co⟩
 case round=>
  obtain⟨k,O,rfl,eo,cy,p,ap⟩:=hrel;have dk:=ap.o.size;by_cases ac:k<L.length
  ·have ee:(k:Int)<(L.length:Int):=by omega
   have ep:0≤(k:Int):=by omega
   obtain⟨c,U⟩:=nZ (L.getD k cD);have bn:=jJ (di.o wr ap.o) ac;rw[←U,r9] at bn;have dl:=fun D a next Q=>dP (P:=prog) (t:=311) bn underlying311 rfl vM D a next Q
   have dm:=fun D a next Q=>jN c wr D a next Q
   obtain⟨aw,aq⟩:=nZ (wr.alloc (.cells (dI c).toArray 311));obtain⟨X,bo⟩:=nZ wr.heap.size;have bq:Blk aw X 311 (dI c):=by rw[aq,bo];exact Blk.new wr _ _
   have br:Below wr.heap.size wr aw:=by rw[aq];exact bZ
   have H:=hZ (ap.o.trans (br.mono dk));have cp:=hZ (cy.o.below br);have ah:=hZ U;have dn:=hZ bq;have cq:c.1<n:=by rw[U];exact ck.o k ac
   have e0:aw.cell? ⟨X,0,none⟩=some (.int .i64 (c.1:Nat)):=bq.cell 0;clear bn bq U br;go_upto_region 10 with fail
   rw[←aq,←bo];clear aq bo dm dl;have bs:=hZ (bj.o.trans (H.o.mono bj.o.size));have dp:=hZ (G.o.trans (H.o.mono G.o.size));have am:=fun D a next Q=>aB (P:=prog) (A.o.blk.below bs.o) underlying43 rfl dC D a next Q
   have ax:=hZ (ci.o aw dp.o c.1 cq)
   cases Y:x.here c.1 with
   |false=>
    rw[Y] at ax;have ca:Hid (x.col c=[]):=hZ (by unfold aK.col;rw[Y,i9 (by decide)])
    clear Y;go_wp2_with fail;refine ax.o.mono ?_;rintro e w4 ⟨rfl,q⟩;have I:=hZ (H.o.trans (q.mono H.o.size));have ar:=hZ (cp.o.below q);clear q am e0;go_wp2_with fail;go_roundw
    case rel=>
     refine⟨k+1,O,by go_num,by omega,ar,hZ ⟨p.o.1,fun j ai=>?_⟩,I⟩
     rw[p.o.2 j ai];by_cases ad:j<k
     ·rw[i6 ad,i6 (by omega)]
     ·rw[i9 ad]
      by_cases aa:j<k+1
      ·have:j=k:=by omega
       subst this;rw[i6 aa,bc.o.2 j ac,←ah.o,ca.o]
      ·rw[i9 aa]
    case measure=>simp[intOf];omega
   |true=>
    rw[Y] at ax;obtain⟨r,hr⟩:=nZ ((x.ds.getD c.1 eN).readE (jE c));have ca:Hid (x.col c=r.1):=hZ (by unfold aK.col;rw[Y,i6 rfl,hr])
    have dq:=hZ hr;clear Y hr;go_wp2_with fail;refine ax.o.mono ?_;rintro e w4 ⟨rfl,q⟩;have I:=hZ (H.o.trans (q.mono H.o.size));have dr:=hZ (bs.o.trans (q.mono bs.o.size));have ar:=hZ (cp.o.below q);have cd:=hZ (dn.o.below q);clear q am e0;obtain⟨db,cx,cr,ce⟩:=cl.o w4 c X dr.o cq cd.o;have ct:=hZ (aNl (ce.below (i4 _ _).drew) ((c.2.1:Nat):Int));rw[show((c.2.1:Nat):Int)=jE c from rfl,←dq.o] at ct;have bt:Hid (∀W,Below w4.heap.size w4 W→lI gx X ga gn gc x.secs bl n lc wa wc c db W):=hZ (fun W m=>cr.keep (F:=fun _=>False) (Mod.below m) (fun h=>h) (fun h=>h) (fun h=>h))
    have bu:Hid (gx≠u∧X≠u∧bl≠u):=hZ (by
     have h1:=G.o.size;have h2:=ar.o;refine⟨by have:=dd.o;have:=an.o;have:=bj.o.size;have:=A.o.blk.lt;omega,fun e=>?_,fun e=>?_⟩
     ·have z:=cd.o
      unfold Blk at h2 z;rw[e] at z;rw[h2] at z;simp only[i5,n7] at z;exact absurd z.2.1 (by decide)
     ·have:=an.o;have:=dg.o;omega)
    have eq:((c.1:Nat):Int)<(n:Int):=by omega
    have er:0≤((c.1:Nat):Int):=by omega
    have de:=hZ (bt.o _ (i4 _ _).drew);clear cr ce;go_upto_region 11 with fail
    refine l7 (S:=lI gx X ga gn gc x.secs bl n lc wa wc c db) (by kernel_rfl) de.o (fun ej=>?_)
    refine aE 0 ?_;refine aE 1 ?_;refine aE 2 ?_;refine sB (i:=3) (v:=?vs3) (hy:=?ys3) (h:=?_)
    case ys3=>intro w f;(try dsimp only at f);go_simp;first|(rw[lI.c2 f];rfl)|rfl
    try simp only[Act.put,z1,z2,z3]
    refine aE 4 ?_;refine sB (i:=5) (v:=?vs5) (hy:=?ys5) (h:=?_)
    case ys5=>intro w f;(try dsimp only at f);go_simp;first|(rw[lI.k0 f];rfl)|rfl
    try simp only[Act.put,z1,z2,z3]
    refine sB (i:=6) (v:=?vs6) (hy:=?ys6) (h:=?_)
    case ys6=>intro w f;(try dsimp only at f);go_simp;first|with_reducible rfl|rw[i6 (by omega)]
    try simp only[Act.put,z1,z2,z3]
    refine sB (i:=7) (v:=?vs7) (hy:=?ys7) (h:=?_)
    case ys7=>intro w f;(try dsimp only at f);go_simp;first|(rw[lI.ld f];rfl)|rfl
    try simp only[Act.put,z1,z2,z3]
    refine aE 8 ?_;refine sB (i:=9) (v:=?vs9) (hy:=?ys9) (h:=?_)
    case ys9=>intro w f;(try dsimp only at f);go_simp;first|(rw[lI.k1 f];rfl)|rfl
    try simp only[Act.put,z1,z2,z3]
    refine dY (i:=10) (h:=fun K cb=>?_)
    go_simp;refine ct.o.mono ?_;rintro e cz ⟨rfl,cu⟩;have ae:=hZ ((i4 w4.heap.size w4).drew.trans cu);have bv:=hZ (ar.o.below ae.o);have cv:k<O.length:=by rw[p.o.1];exact ac
    obtain⟨y,hy⟩:∃y:Bs,y=O.getD k []:=⟨_,rfl⟩;have d2:=aDi bv.o cv;rw[←hy] at d2;have es:=Blk.frozen bv.o k;have dt:=hZ (wD bv.o k r.1);have du:Hid (Mod (fun g=>g=u) cz (cz.setCell ⟨u,k,none⟩ (.string ⟨r.1.toArray⟩))):=hZ ((Mod.refl _ _).setCell (.inl rfl))
    clear cu hy
    try dsimp only
    refine cb.o _ _ (bt.o _ ae.o) (fun ef=>?_)
    try simp only[Act.put,z1,z2,z3]
    refine aE 11 ?_;refine aE 12 ?_;refine aE 13 ?_;refine sB (i:=14) (v:=?vs14) (hy:=?ys14) (h:=?_)
    case ys14=>intro w f;(try dsimp only at f);go_simp;first|with_reducible rfl|rw[i6 (by omega)]
    try simp only[Act.put,z1,z2,z3]
    refine dY (i:=15) (h:=fun K cb=>?_)
    go_simp
    try dsimp only
    refine cb.o _ _ ((bt.o _ ae.o).keep du.o bu.o.1 bu.o.2.1 bu.o.2.2) (fun eg=>?_)
    try simp only[Act.put,z1,z2,z3]
    refine r8 (by kernel_rfl) ?_ _
    have dv:=hZ (bQ (o:=k) (vs:=[.string ⟨r.1.toArray⟩]) ((I.o.trans (ae.o.mono I.o.size))) (I.o.trans (ae.o.mono I.o.size)).size (show l.heap.size≤u by rw[an.o];exact d8 _))
    go_wp2_with fail;go_roundw
    case rel=>
     refine⟨k+1,O.set k r.1,by go_num,by omega,dt,hZ ⟨by rw[bLy];exact p.o.1,fun j ai=>?_⟩,dv⟩
     by_cases ad:j=k
     ·subst ad
      rw[i6 (by omega),bc.o.2 j ac,←ah.o,ca.o]
      simp[a8,cv]
     ·rw[a8,List.getElem?_set_ne (Ne.symm ad),←a8,p.o.2 j ai]
      by_cases aa:j<k
      ·rw[i6 aa,i6 (by omega)]
      ·rw[i9 aa,i9 (by omega)]
    case measure=>simp[intOf];omega
  ·have ee:¬(k:Int)<(L.length:Int):=by omega
   have da:O=af:=by
    apply bNw
    ·rw[p.o.1,bc.o.1]
    ·intro j h1 h2
     have z:=p.o.2 j (by rw[p.o.1] at h1;exact h1)
     rw[i6 (by rw[p.o.1] at h1;omega)] at z
     simpa[a8,b9 h1,b9 h2] using z
   have dw:Hid (wr.ownsRow w.heap.size 9 1 (.slice (some ⟨u,0,none⟩) L.length L.length) L.length (cV (eQ af))):=hZ (by
    have h1:=gQ (base:=w.heap.size) (n:=L.length) (cap:=L.length) (size:=1) cy.o (by rw[an.o];exact G.o.size) (d8 _) (by unfold maxLen;omega) (by rw[Nat.mul_one];simp[cV,eQ];exact p.o.1)
    rw[bLq (by simp[cV,eQ];rw[p.o.1];exact d8 _),da] at h1
    exact h1)
   have dx:=hZ (G.o.trans (ap.o.mono G.o.size));clear da;go_wp2_with fail;go_ret2;exact⟨_,rfl,dw.o,dx.o⟩
end
structure kQ (x:aK) (V:kE) (F:Nat→Prop) (w wc:World) (F1:Nat→Prop):Prop where
 is:bV wc x V F1
 mo:Mod F w wc
 nw:∀g,F1 g→F g∨w.heap.size≤g
 ty:jT w wc
section
variable {x x2:aK} {V:kE} {F F1:Nat→Prop} {w wc wd:World}
theorem kQ.start (h:bV w x V F):kQ x V F w w F:=⟨h,Mod.refl _ _,fun _ f=> .inl f,jT.below (i4 _ _)⟩
theorem kQ.below (h:kQ x V F w wc F1) (f:bB wc wd):kQ x V F w wd F1:=⟨h.is.below f,h.mo.trans' f,h.nw,h.ty.trans (jT.below f)⟩
theorem kQ.step (h:kQ x V F w wc F1) (k:gO x2 V F1 wc wd):∃F2,kQ x2 V F w wd F2∧(∀g,g<wc.heap.size→¬F1 g→¬F2 g)∧Mod F1 wc wd:=by
 obtain⟨F2,q,m,p,r⟩:=k;refine⟨F2,⟨q,h.mo.trans m (fun g f l=>(h.nw g l).resolve_right (by omega)),fun g f=>?_,h.ty.trans r⟩,fun g f t l=>(p g l).elim t (by omega),m⟩
 rcases p g f with h1|h1
 ·exact h.nw g h1
 ·exact .inr (l6 h.mo.size h1)
theorem kQ.fin (h:kQ x V F w wc F1):gO x V F w wc:=⟨F1,h.is,h.mo,h.nw,h.ty⟩
end
def aK.deep (x:aK) (K:Nat):Prop:=∀i k,((x.ds.getD i eN).cache k).length≤K
theorem aK.set_getD (x:aK) (i j:Nat) (δ:bC) (f:i<x.ds.length):(x.set i δ).ds.getD j eN=if j=i then δ else x.ds.getD j eN:=by
 unfold aK.set;dsimp only;by_cases h:j=i
 ·subst h
  rw[i6 rfl,a8,List.getElem?_set_self f];rfl
 ·rw[i9 h,a8,List.getElem?_set_ne (Ne.symm h),←a8]
theorem aQf (δ:bC) (a:Int) (s:Bs) (K:Nat) (h:∀k,(δ.cache k).length≤K):∀k,((δ.writeE a s).2.cache k).length≤K+1:=by
 intro k;have h1:=h k;unfold bC.writeE;split
 ·dsimp only;omega
 ·split
  ·dsimp only;omega
  ·split
   ·dsimp only;omega
   ·unfold bC.wrote aDd
    dsimp only;split
    ·rename_i f
     have:=h a.toNat;simp only[i7,List.length_singleton];omega
    ·omega
theorem aHu (x:aK) (c:bJ) (s:Bs):(eZ x c s).2.gs=x.gs∧(eZ x c s).2.secs=x.secs∧(eZ x c s).2.away=x.away∧(eZ x c s).2.ds.length=x.ds.length:=by
 unfold eZ;split
 ·exact⟨rfl,rfl,rfl,by simp[aK.set]⟩
 ·exact⟨rfl,rfl,rfl,rfl⟩
theorem aAk {x:aK} {K:Nat} (h:x.deep K) (c:bJ) (s:Bs) (f:c.1<x.ds.length):(eZ x c s).2.deep (K+1):=by
 unfold eZ;split
 ·intro i k
  dsimp only;rw[aK.set_getD x c.1 i _ f];split
  ·exact aQf _ _ _ _ (h c.1) k
  ·exact Nat.le_succ_of_le (h i k)
 ·intro i k
  exact Nat.le_succ_of_le (h i k)
def aAq (f:List Nat):List (Nat×Value):=f.map fun(d:Nat)=>(d,Value.bool true)
theorem aVu {f:List Nat} (h:d∉f):fK (aAq f) d=none:=by
 induction f with
 |nil=>rfl
 |cons a r l=>
  simp only[s8,not_or] at h;unfold aAq at l⊢;rw[List.map_cons];unfold fK;rw[i9 (fun e=>h.1 e.symm)]
  exact l h.2
theorem bDn (f:List Nat) (d:Nat):uD (aAq f) d true=aAq (aLj f d):=by
 unfold aLj;by_cases h:d∈f
 ·rw[i6 h]
  induction f with
  |nil=>cases h
  |cons a r m=>
   unfold aAq at m⊢;rw[List.map_cons];unfold uD;by_cases l:a=d
   ·rw[i6 l,l]
   ·rw[i9 l,m (by simpa[Ne.symm l,l] using h)]
 ·rw[i9 h,aJx (aVu h)]
  simp[aAq]
theorem aNv (h:jA w g c) (ty:TypeId):(Builtin.len_ #[446] ty #[.map (some g)]).run prog w= .ok (c.length:Nat) w:=by
 obtain⟨es,clock,h1,h2,_⟩:=h;unfold Builtin.len_;simp only[n9,n8];rw[bLr,bNy underlying446 w];simp only[y7];rw[bLr,MapKept.run_getObj_map h1];simp only[y7];have:=aGr h2;rw[bOd] at this;rw[this];rfl
structure WrI (wr:World) (F1:Nat→Prop) (gx gp g8 c8 g10 c10:Nat) (box:List Value) (g a:Nat) (T:List Bs) (L:List bJ):Prop where
 bx:Blk wr gx 43 box
 fx:¬F1 gx
 px:Blk wr gp 46 [.int .i64 (g:Nat),.int .i64 (a:Nat)]
 fp:¬F1 gp
 tx:wr.ownsRow 0 9 1 (.slice (some ⟨g8,0,none⟩) T.length c8) T.length (cV (eQ T))
 ft:¬F1 g8
 lx:wr.ownsRow 0 311 4 (.slice (some ⟨g10,0,none⟩) L.length c10) L.length (eM L)
 fl:¬F1 g10
section
variable {wr wc:World} {F1 F2:Nat→Prop} {gx gp g8 c8 g10 c10 g a:Nat} {box:List Value} {T:List Bs} {L:List bJ}
theorem WrI.below (h:WrI wr F1 gx gp g8 c8 g10 c10 box g a T L) (f:bB wr wc):WrI wc F1 gx gp g8 c8 g10 c10 box g a T L:=
 ⟨h.bx.below f,h.fx,h.px.below f,h.fp,aD h.tx f,h.ft,aD h.lx f,h.fl⟩
theorem WrI.step (h:WrI wr F1 gx gp g8 c8 g10 c10 box g a T L) (l:Mod F1 wr wc) (m:∀k,k<wr.heap.size→¬F1 k→¬F2 k):WrI wc F2 gx gp g8 c8 g10 c10 box g a T L:=
 ⟨l.blk h.bx h.fx,m _ h.bx.lt h.fx,l.blk h.px h.fp,m _ h.px.lt h.fp,dH l h.tx (fun k f=>by simp only[Value.ownBlock,i5] at f;rw[←f];exact h.ft),m _ (h.tx.lt g8 rfl).2 h.ft,dH l h.lx (fun k f=>by simp only[Value.ownBlock,i5] at f;rw[←f];exact h.fl),m _ (h.lx.lt g10 rfl).2 h.fl⟩
end
theorem aJd (l:List Bs) (n:Nat) (h:∀u∈l,u.length≤n):(pY l).length≤n:=by
 unfold pY;split
 ·simp
 ·rename_i f
  rw[pS]
  cases l with
  |nil=>exact absurd (.inl rfl) f
  |cons a r=>exact h a (by simp)
theorem aIy (h:w.ownsRow b e k v n xs):w.ownsRow 0 e k v n xs:=by
 obtain⟨h1,h2⟩:=h;refine⟨h1,?_⟩;rcases h2 with h2|⟨g,cap,f,l,p,m⟩
 ·exact .inl h2
 ·exact .inr ⟨g,cap,f,l,z6 _,m⟩
theorem aIu (h:w.ownsRow b e k v n xs) (f:jA w g c):∀x,v.ownBlock=some x→¬x=g:=fun x l e=>lK h f (by rw[l,e])
theorem WrI.map {a:Nat} {T:List Bs} {L:List bJ} (h:WrI wr F1 gx gp g8 c8 g10 c10 box g a T L) (f:jA wr mp c) (m:wr.grownBy wc (some mp)):WrI wc F1 gx gp g8 c8 g10 c10 box g a T L:=by
 have l:=iM m (fun x p=>by simpa using p.symm)
 exact⟨l.blk h.bx (tT h.bx f),h.fx,l.blk h.px (tT h.px f),h.fp,dH l h.tx (aIu h.tx f),h.ft,dH l h.lx (aIu h.lx f),h.fl⟩
theorem kQ.map {x:aK} {V:kE} (h:kQ x V F w wc F1) (p:¬F1 mp) (l:wc.grownBy wd (some mp)) (q:w.heap.size≤mp):kQ x V F w wd F1:=by
 have m:=iM l (fun x r=>by simpa using r.symm)
 exact⟨h.is.keep (fun g f=>m.block g (h.is.lt g f) (fun e=>p (by rw[←e];exact f))),h.mo.trans m (fun g f e=>by omega),h.nw,h.ty.new l q⟩
theorem aBi (h:Blk w g e cs):w.rangeAt g 0 cs:=fun j v f=>by
 rw[h.cell,r9];exact f
structure WrS (gx g5 g8 k:Nat) (box:List Value) (c:bJ) (tx:Bs) (w:World):Prop where
 bx:Blk w gx 43 box
 co:Blk w g5 311 (dI c)
 tc:w.cell? ⟨g8,k,none⟩=some (.string ⟨tx.toArray⟩)
theorem WrS.r0 {c:bJ} {f:Bs} (h:WrS gx g5 g8 k box c f w):w.rangeAt gx 0 box:=aBi h.bx
theorem WrS.r1 {c:bJ} {f:Bs} (h:WrS gx g5 g8 k box c f w):w.rangeAt g5 0 (dI c):=aBi h.co
section
attribute [local go_sem ↓] iL fN
theorem aGk (s:Bs) (k j:Nat):((vG s k).getD j []).length≤64:=by
 unfold vG;rw[a8,bMh];by_cases h:j<k
 ·rw[List.getElem?_range h]
  simp only[Option.map_some,Option.getD_some,bMe,z7];omega
 ·rw[m7 (by simp;omega)];simp
theorem tA (h:∀j,(data.getD j []).length≤64) (l:List bJ) (f:i<l.length):((nF data 0 l).getD i []).length≤64:=by
 rw[mG data l 0 i f];split
 ·simp
 ·exact h _
theorem aMj {l:List bJ} {no q:Nat} (h:q∈vH l no):q<l.length∧(l.getD q cD).2.2.1=false:=by
 unfold vH at h;rw[List.mem_filter,bMp] at h;refine⟨h.1,?_⟩;have:=h.2;simp only[y8,bNr] at this;exact this.2
theorem wW {l:List bJ} {q:Nat} (f:q<l.length) (h:(l.getD q cD).2.2.1=false):vL l data k q=(nF data 0 l).getD q []:=by
 unfold vL;split
 ·rw[rD l data f,i9 (by rw[h];decide)]
 ·rfl
theorem bDi (l:List bJ) (no:Nat):(vH l no).length≤l.length:=aNz l no l.length
theorem xJ (ga:Option Addr) (gc:Nat) (gs:Gs) (secs:Int) (g a:Nat) (s:Bs) (w:World) (dh:oZ w ga gs.length gc gs) (ba:dX s=true) (N:dO gs secs g a ((s.length/64:Nat):Int)=true):
  Calls prog 209 #[.agg #[.slice ga gs.length gc,secs],.agg #[(g:Nat),(a:Nat)],.string ⟨s.toArray⟩] w fun e w'=>∃v,e= .returned (.tuple #[v,.int .i64 0])∧w'.ownsRow w.heap.size 9 1 v (aI gs g a (s.length/64)).length (cV (eQ (jC (aI gs g a (s.length/64)) (fJ s))))∧bB w w':=by
 obtain⟨eq,_,_,er,es,_⟩:=gY ba;obtain⟨bb,ah⟩:=nZ ((w.alloc (.cells #[.slice ga gs.length gc,secs] 24)).alloc (.cells #[(g:Nat),(a:Nat)] 46));have cm:bB w bb:=by rw[ah];exact(bZ).alloc (by simp) _
 have cn:Blk bb w.heap.size 24 [.slice ga gs.length gc,secs]:=by rw[ah];exact(Blk.new w _ _).alloc _
 have co:Blk bb (w.heap.size+1) 46 [(g:Nat),(a:Nat)]:=by rw[ah];exact Blk.newAt (w:=w.alloc _) _ _ (by simp)
 have cp:=hZ cm;have cq:=hZ cn;have cr:=hZ co;have au:=hZ (aOr s bb ba);obtain⟨size,aq⟩:=nZ (s.length/64);obtain⟨data,ar⟩:=nZ (fJ s);obtain⟨L,cc⟩:=nZ (aI gs g a (s.length/64));have dt:=jW N;have du:Hid (∀W,bB w W→Calls prog 135 #[.agg #[.slice ga gs.length gc,secs],.agg #[(g:Nat),(a:Nat)],(size:Nat)] W fun e w'=>∃v,e= .returned (.tuple #[v,.int .i64 0])∧w'.ownsRow W.heap.size 311 4 v L.length (eM L)∧bB W w'):=hZ (fun W aj=>by
  rw[cc,aq];exact pP ga gs.length gc gs secs g a (s.length/64) W (dh.below aj) N)
 have ct:data.length=size:=by rw[ar,aq];unfold fJ;exact yV _ _
 have dv:Hid (∀j,(data.getD j []).length≤64):=hZ (fun j=>by rw[ar];unfold fJ;exact aGk _ _ _)
 rw[←cc] at dt⊢;rw[←ar] at au⊢;rw[←aq] at au er es;have cu:=hZ ct;have fm:s.length≤1000000:=by have:=(gY ba).2.2.1;omega
 clear cm cn co dh ba N ar cc aq ct eq;go_in;go_upto_region 1 with fail
 rw[←ah];clear ah;go_wp2_with fail;refine au.o.mono ?_;rintro e w1 ⟨ft,rfl,be,ab⟩;obtain⟨g8,c8,rfl⟩:=bT be (by omega)
 have bi:=hZ (cp.o.trans (ab.mono cp.o.size));have dw:=hZ be;have et:=(cq.o.below ab).cell 0;have eu:=(cq.o.below ab).cell 1;have ev:=(cr.o.below ab).cell 0;have y1:=(cr.o.below ab).cell 1;have z:=hZ (du.o w1 bi.o);clear be ab au;go_wp2_with fail;refine z.o.mono ?_;rintro e r ⟨fn,rfl,bd,bj⟩;obtain⟨g10,c10,rfl⟩:=bT bd (by omega)
 have bk:=hZ (bi.o.trans (bj.mono bi.o.size));have ew:=hZ (fun W (aj:bB r W) j (h:j<size)=>uO (aD (aD dw.o bj) aj) (by rw[cu.o];exact h))
 have bm:=hZ (fun W (aj:bB r W)=>bI (aD bd aj))
 have dx:=aKb L.length (by omega) r
 have cv:Hid (Blk (r.alloc (.cells (cV (eQ (List.replicate L.length []))).toArray 9)) r.heap.size 9 (cV (eQ (List.replicate L.length [])))):=hZ (Blk.new r _ _);have cw:Hid (bB r (r.alloc (.cells (cV (eQ (List.replicate L.length []))).toArray 9))):=hZ (bZ);obtain⟨ak,bn⟩:=nZ r.heap.size;obtain⟨fu,bo⟩:=nZ (r.alloc (.cells (cV (eQ (List.replicate L.length []))).toArray 9));rw[←bo,←bn] at cv dx;rw[←bo] at cw;have bq:=hZ bn;clear bd bj z et eu ev y1 bn bo;go_wp2_with fail;go_loopw [13,44] (fun dy A wr=>∃(k:Nat) (O:List Bs),A= .int .i64 k∧dy= .int .i64 ((gZ L k:Nat):Int)∧k≤L.length∧Hid (Blk wr ak 9 (cV (eQ O)))∧Hid (O.length=L.length∧∀j,j<L.length→O.getD j []=if j<k then(nF data 0 L).getD j [] else[])∧Hid (bB r wr)) (fun _ A _=>L.length-(intOf A).toNat)
 case atStart=>exact⟨0,List.replicate L.length [],rfl,rfl,z6 _,cv,hZ ⟨by simp,fun j h=>by rw[i9 (by omega)];simp[a8,h]⟩,cw⟩
 case round=>
  obtain⟨k,O,rfl,rfl,fv,af,f,G⟩:=hrel;have av:=G.o.size;by_cases ac:k<L.length
  ·have ex:(k:Int)<(L.length:Int):=by omega
   have di:0≤(k:Int):=by omega
   obtain⟨c,Y⟩:=nZ (L.getD k cD);have R:=jJ (bm.o wr G.o) ac;rw[←Y,r9] at R;have br:=fun Z a next Q=>dP (P:=prog) (t:=311) R underlying311 rfl vM Z a next Q
   have bs:=fun Z a next Q=>jN c wr Z a next Q
   obtain⟨C,J⟩:=nZ (wr.alloc (.cells (dI c).toArray 311));obtain⟨ag,S⟩:=nZ wr.heap.size;have ad:Blk C ag 311 (dI c):=by rw[J,S];exact Blk.new wr _ _
   have U:bB wr C:=by rw[J];exact bZ
   have K:=hZ (G.o.trans (U.mono av));have X:=hZ (af.o.below U);have z:=hZ Y;obtain⟨c0,ey,al,aa⟩:=c;have ez:cZ C ag 2 (.bool al):=ad.cell 2;clear R ad Y U;go_upto_region 12 with fail
   rw[←J,←S];clear J S bs br;obtain⟨cd,bt⟩:=nZ (gZ L k);have dp:=aBc L k;have bu:=hZ bt;rw[←bt] at dp⊢;clear bt
   cases al with
   |true=>
    go_wp2_with fail;go_roundw
    case rel=>
     refine⟨k+1,O,by go_num,by rw[lD L k ac,←z.o,i6 rfl,←bu.o];rfl,by omega,X,hZ ⟨f.o.1,fun j h=>?_⟩,K⟩
     rw[f.o.2 j h];by_cases H:j<k
     ·rw[i6 H,i6 (by omega)]
     ·rw[i9 H]
      by_cases u:j<k+1
      ·have:j=k:=by omega
       subst this;rw[i6 u,mG data L 0 j ac,←z.o,i6 rfl]
      ·rw[i9 u]
    case measure=>simp[intOf];omega
   |false=>
    obtain⟨m,N⟩:=nZ (cd%size);have dz:m<size:=by rw[N];exact bNd _ (by omega)
    have fa:(cd:Int)%(size:Int)=(m:Int):=by rw[N];simp
    have fw:(m:Int)<(size:Int):=by omega
    have fx:0≤(m:Int):=by omega
    have fy:(size:Int)≠0:=by omega
    have fz:0≤(cd:Int):=by omega
    have fb:=ew.o C K.o m dz;have ai:k<O.length:=by rw[f.o.1];exact ac
    have d2:=aDi X.o ai;have fc:=Blk.frozen X.o k;obtain⟨x,D⟩:∃x:Bs,x=data.getD m []:=⟨_,rfl⟩;obtain⟨y,hy⟩:∃y:Bs,y=O.getD k []:=⟨_,rfl⟩;rw[←D] at fb;rw[←hy] at d2;have am:=hZ D;have ea:=hZ N;have aw:=hZ (wD X.o k x);have ax:=hZ (bQ (o:=k) (vs:=[.string ⟨x.toArray⟩]) K.o K.o.size (show r.heap.size≤ak by rw[bq.o];exact d8 _))
    clear D hy N;go_wp2_with fail;go_roundw
    case rel=>
     refine⟨k+1,O.set k x,by go_num,by rw[lD L k ac,←z.o,i9 (by simp),←bu.o];go_num,by omega,aw,hZ ⟨by rw[bLy];exact f.o.1,fun j h=>?_⟩,ax⟩
     by_cases H:j=k
     ·subst H
      rw[i6 (by omega),mG data L 0 j ac,←z.o,i9 (by simp),r9,←bu.o,cu.o,←ea.o,←am.o]
      simp[a8,ai]
     ·rw[a8,List.getElem?_set_ne (Ne.symm H),←a8,f.o.2 j h]
      by_cases u:j<k
      ·rw[i6 u,i6 (by omega)]
      ·rw[i9 u,i9 (by omega)]
    case measure=>simp[intOf];omega
  ·have ex:¬(k:Int)<(L.length:Int):=by omega
   have cx:O.length=L.length∧∀j,j<L.length→O.getD j []=vL L data 0 j:=⟨f.o.1,fun j h=>by rw[f.o.2 j h,i6 (by omega)];unfold vL;rw[i9 (by omega)]⟩
   have cy:=hZ cx;clear cx f;go_wp2_with fail;go_loopw [67] (fun A wr=>∃(k:Nat) (O:List Bs),A= .int .i64 k∧k≤L.length∧Hid (Blk wr ak 9 (cV (eQ O)))∧Hid (O.length=L.length∧∀j,j<L.length→O.getD j []=vL L data k j)∧Hid (bB r wr)) (fun A _=>L.length-(intOf A).toNat)
   case atStart=>exact⟨0,O,rfl,z6 _,af,cy,G⟩
   case round=>
    clear af cy G av;obtain⟨l,I,rfl,fo,af,f,G⟩:=hrel;have av:=G.o.size;by_cases cj:l<L.length
    ·have di:(l:Int)<(L.length:Int):=by omega
     have fa:0≤(l:Int):=by omega
     obtain⟨c,Y⟩:=nZ (L.getD l cD);have R:=jJ (bm.o wr G.o) cj;rw[←Y,r9] at R;have br:=fun Z a next Q=>dP (P:=prog) (t:=311) R underlying311 rfl vM Z a next Q
     have bs:=fun Z a next Q=>jN c wr Z a next Q
     obtain⟨C,J⟩:=nZ (wr.alloc (.cells (dI c).toArray 311));obtain⟨ag,S⟩:=nZ wr.heap.size;have ad:Blk C ag 311 (dI c):=by rw[J,S];exact Blk.new wr _ _
     have U:bB wr C:=by rw[J];exact bZ
     have K:=hZ (G.o.trans (U.mono av));have X:=hZ (af.o.below U);have z:=hZ Y;obtain⟨c0,ey,al,aa⟩:=c;have ez:cZ C ag 2 (.bool al):=ad.cell 2;have gd:cZ C ag 3 (aa:Nat):=ad.cell 3;clear R ad Y U;go_upto_region 19 with fail
     rw[←J,←S];clear J S bs br
     cases al with
     |false=>
      go_wp2_with fail;go_roundw
      case rel=>
       refine⟨l+1,I,by go_num,by omega,X,hZ ⟨f.o.1,fun j h=>?_⟩,K⟩
       rw[f.o.2 j h];by_cases H:j=l
       ·subst H
        rw[wW h (by rw[←z.o]),wW h (by rw[←z.o])]
       ·unfold vL
        by_cases u:j<l
        ·rw[i6 u,i6 (by omega)]
        ·rw[i9 u,i9 (by omega)]
      case measure=>simp[intOf];omega
     |true=>
      have bv:=hZ (bCm (some g10) c10 L aa C (bm.o C K.o) (by omega))
      obtain⟨p,an⟩:=nZ (vH L aa);have cz:Hid (∀q∈p,q<L.length∧(L.getD q cD).2.2.1=false):=hZ (fun q E=>by rw[an] at E;exact aMj E)
      have fp:p.length≤32:=by rw[an];have:=bDi L aa;omega
      rw[←an] at bv;have eb:=hZ an;clear an;go_wp2_with fail;refine bv.o.mono ?_;rintro e w4 ⟨ge,rfl,bf,bw⟩;obtain⟨fq,gf,rfl⟩:=aY bf;have ax:=hZ (K.o.trans (bw.mono K.o.size));have aw:=hZ (X.o.below bw);have ck:=hZ bf;clear bf bw bv;go_wp2_with fail;go_loopw [18,79] (fun ec A dj=>∃(m:Nat),A= .int .i64 m∧m≤p.length∧Hid (dj.ownsRow w4.heap.size 9 1 ec m (cV (eQ ((p.take m).map fun q=>I.getD q []))))∧Hid (bB w4 dj)) (fun _ A _=>p.length-(intOf A).toNat)
      case atStart=>exact⟨0,rfl,z6 _,hZ (bMa _ _ _ _),hZ (i4 _ _)⟩
      case round=>
       obtain⟨m,rfl,fr,ap,ae⟩:=hrel;have ed:=ae.o.size;obtain⟨cl,da,rfl⟩:=aY ap.o;by_cases ay:m<p.length
       ·have r1:(m:Int)<(p.length:Int):=by omega
        have r2:0≤(m:Int):=by omega
        obtain⟨gg,fs,dk⟩:=bT ck.o (by omega)
        simp only[bMm,true_and] at dk;obtain⟨rfl,rfl⟩:=dk;obtain⟨q,E⟩:=nZ (p.getD m 0);have dc:q∈p:=by rw[E,a8,b9 ay];exact n5 _
        have ee:=(cz.o q dc).1;have fd:=bEv (aD ck.o ae.o) ay;rw[←E] at fd;obtain⟨x,D⟩:∃x:Bs,x=I.getD q []:=⟨_,rfl⟩;have fe:=aDi (aw.o.below ae.o) (j:=q) (by rw[f.o.1];exact ee)
        rw[←D] at fe;have gh:(q:Int)<(L.length:Int):=by omega
        have gi:0≤(q:Int):=by omega
        have ff:=hZ E;have am:=hZ D;clear E D dc;obtain⟨fg,fh,ef,eg,eh⟩:=bMo zX;have fi:m+1≤maxLen:=by unfold maxLen;omega
        have fj:(m+1)*16≤140737488355328:=by omega
        have dl:w4.heap.size≤(wr.alloc (.cells #[.string ⟨x.toArray⟩] 9)).heap.size:=by simp;omega
        have ei:=hZ (Blk.news (Blk.new wr 9 [.string ⟨x.toArray⟩]));have bx:=hZ (ap.o.alloc (.cells #[.string ⟨x.toArray⟩] 9));obtain⟨fk,bz⟩:=nZ ((p.take m).map fun q=>I.getD q [])
        have ej:=hZ bz;rw[←bz] at bx;clear bz ap;go_wp2_with (at_builtin;go_must (refine bOa _ rfl (.tmp 83) (.tmp 88) 80 rfl w4.heap.size 9 fg (.string ⟨#[]⟩) 1 16 underlying80 fh ef eg eh rfl (by decide) (.slice cl m da) m (cV (eQ fk)) rfl bx.o ⟨wr.heap.size,0,none⟩ 1 1 [.string ⟨x.toArray⟩] rfl rfl ei.o (by simp[Value.oneCell']) fi fj dl ?_;intro v1 dm bh cf _ _))
        have ek:Hid (bB w4 dm):=hZ (cF (ae.o.alloc ed _) bx.o cf dl (d8 _));have ci:dm.ownsRow w4.heap.size 9 1 v1 (m+1) (cV (eQ ((p.take (m+1)).map fun q=>I.getD q []))):=by
         rw[aGw] at bh;rw[m8 ay,bNa,←ej.o];have fl:p[m]=q:=by rw[ff.o];simp[a8,ay]
         simp only[List.map_cons,List.map_nil,fl,←am.o];exact bh
        have el:=hZ ci;clear bh cf ci;go_roundw
        case rel=>exact⟨m+1,by go_num,by omega,el,ek⟩
        case measure=>simp[intOf];omega
       ·have r1:¬(m:Int)<(p.length:Int):=by omega
        have dd:m=p.length:=by omega
        have cg:(p.take m).map (fun q=>I.getD q [])=(vH L aa).map fun q=>(nF data 0 L).getD q []:=by
         rw[dd,bLz,←eb.o];apply bOo;intro q E;obtain⟨h1,h2⟩:=cz.o q E;rw[f.o.2 q h1,wW h1 h2]
        have bc:=ap.o;rw[cg] at bc;obtain⟨ce,az⟩:=nZ ((vH L aa).map fun q=>(nF data 0 L).getD q [])
        rw[←az] at bc;have ch:∀t∈ce,t.length≤1000000:=fun t ht=>by
         rw[az] at ht;obtain⟨q,E,rfl⟩:=bMn.1 ht;have:=tA dv.o L (aMj E).1;omega
        have de:=hZ (bAw cl m da ce wr (bI bc) (by omega) ch)
        have em:=hZ az;have en:=hZ (aw.o.below ae.o);have df:=hZ (ax.o.trans (ae.o.mono ax.o.size));clear bc az cg dd ch ap;go_wp2_with fail;refine de.o.mono ?_;rintro e gj ⟨gl,rfl,ca⟩;have cb:=hZ (en.o.below ca);have dg:=hZ (df.o.trans (ca.mono df.o.size));have ai:l<I.length:=by rw[f.o.1];exact cj
        obtain⟨y,hy⟩:∃y:Bs,y=I.getD l []:=⟨_,rfl⟩;have d2:=aDi cb.o ai;rw[←hy] at d2;have fc:=Blk.frozen cb.o l;obtain⟨x,D⟩:∃x:Bs,x=pY ce:=⟨_,rfl⟩;have am:=hZ D;rw[←D];have dq:=hZ (wD cb.o l x);have dr:=hZ (bQ (o:=l) (vs:=[.string ⟨x.toArray⟩]) dg.o dg.o.size (show r.heap.size≤ak by rw[bq.o];exact d8 _))
        clear D hy ca de;go_wp2_with fail;go_roundw
        case rel=>
         refine⟨l+1,I.set l x,by go_num,by omega,dq,hZ ⟨by rw[bLy];exact f.o.1,fun j h=>?_⟩,dr⟩
         by_cases H:j=l
         ·subst H
          unfold vL;rw[i6 (by omega),rD L data h,←z.o,i6 rfl,←em.o,←am.o]
          simp[a8,ai]
         ·rw[a8,List.getElem?_set_ne (Ne.symm H),←a8,f.o.2 j h]
          unfold vL;by_cases u:j<l
          ·rw[i6 u,i6 (by omega)]
          ·rw[i9 u,i9 (by omega)]
        case measure=>simp[intOf];omega
    ·have di:¬(l:Int)<(L.length:Int):=by omega
     have dn:I=jC L data:=aYo L data f.o.1 (fun j h=>by rw[f.o.2 j h,show l=L.length by omega])
     have eo:Hid (wr.ownsRow w.heap.size 9 1 (.slice (some ak) L.length L.length) L.length (cV (eQ (jC L data)))):=hZ (by
      have h1:=gQ (base:=w.heap.size) (n:=L.length) (cap:=L.length) (size:=1) af.o (by rw[bq.o];exact bk.o.size) (d8 _) (by unfold maxLen;omega) (by rw[Nat.mul_one];simp[cV,eQ];exact f.o.1)
      rw[bLq (by simp[cV,eQ];rw[f.o.1];exact d8 _),dn] at h1
      exact h1)
     have ep:=hZ (bk.o.trans (G.o.mono bk.o.size));clear dn;go_wp2_with fail;go_ret2;exact⟨_,rfl,eo.o,ep.o⟩
end
section
attribute [local go_sem ↓] iL fN cB aAr xB
theorem bCw {L:List bJ} {T:List Bs} (hT:T.length=L.length) (f:k<L.length):(L.zip T).drop k=(L.getD k cD,T.getD k [])::(L.zip T).drop (k+1):=by
 rw[bNh (by rw[List.length_zip];omega),List.getElem_zip]
 simp[a8,f,show k<T.length by omega]
theorem rJ {x:aK} (hr:x.right=true) {a:Nat} (m:dX s=true) (p:dO x.gs x.secs g a ((s.length/64:Nat):Int)=true) {f:List Nat} {l:aK} (h:fU x ((aI x.gs g a (s.length/64)).zip (jC (aI x.gs g a (s.length/64)) (fJ s))) []=(f,l)):
  dD x g a s=(f.length,(if(x.gs.getD g (0,0)).1=0∧(f.length:Int)=(x.gs.getD g (0,0)).2∨(x.gs.getD g (0,0)).1=1∧1<f.length then 6 else 0),l):=by
 unfold dD aUm;rw[i9 (by rw[hr];decide),i6 ⟨m,p⟩]
 dsimp only;rw[h]
theorem aSd {x:aK} {V:kE} (h:bV w x V F) (hr:x.right=true) (g a:Nat) (s:Bs) (hs:dX s=true) (hm:dO x.gs x.secs g a ((s.length/64:Nat):Int)=true) (K:Nat) (hK:x.deep K) (hK2:K+100≤1000000000):
  Calls prog 343 #[V.val x.secs,.agg #[(g:Nat),(a:Nat)],.string ⟨s.toArray⟩] w fun e w'=>e= .returned (.tuple #[.int .i64 ((dD x g a s).1:Nat),.int .i64 ((dD x g a s).2.1:Nat)])∧gO (dD x g a s).2.2 V F w w':=by
 obtain⟨ga,gc,la,lc,wa,wc,hV,hg⟩:=h.form;obtain⟨r1,r2,r3,r4⟩:=bL hr;have hLl:=jW hm;have hdv:=fun i (hi:i<(aI x.gs g a (s.length/64)).length)=>lC hm hi
 rw[←r2] at hdv;obtain⟨w0,hw0⟩:=nZ ((w.alloc (.cells #[.slice ga x.gs.length gc,x.secs,.slice la x.ds.length lc,.slice wa x.ds.length wc] 43)).alloc (.cells #[(g:Nat),(a:Nat)] 46));have HB0:Hid (bB w w0):=hZ (by rw[hw0];exact(bZ).alloc (by simp) _)
 have HBX:Hid (Blk w0 w.heap.size 43 [.slice ga x.gs.length gc,x.secs,.slice la x.ds.length lc,.slice wa x.ds.length wc]):=hZ (by rw[hw0];exact(Blk.new w _ _).alloc _)
 have HX2:Hid (Blk w0 (w.heap.size+1) 46 [(g:Nat),(a:Nat)]):=hZ (by rw[hw0];exact Blk.newAt (w:=w.alloc _) _ _ (by simp))
 have hval:V.val x.secs= .agg #[.slice ga x.gs.length gc,x.secs,.slice la x.ds.length lc,.slice wa x.ds.length wc]:=by rw[hV];rfl
 have hri:=fun W (hW:bB w W)=>fL (h.below hW) hr
 rw[hval] at hri⊢;have HRI:=hZ hri;have hgs:=bK hm;have hggl:g<x.gs.length:=by have:=hgs.2.2.1;omega
 obtain⟨L,hL⟩:=nZ (aI x.gs g a (s.length/64));obtain⟨T,hT⟩:=nZ (jC (aI x.gs g a (s.length/64)) (fJ s));have hTl:T.length=L.length:=by rw[hT,hL,dZ]
 have HEN:Hid (∀W,bB w W→Calls prog 209 #[.agg #[.slice ga x.gs.length gc,x.secs],.agg #[(g:Nat),(a:Nat)],.string ⟨s.toArray⟩] W fun e w'=>∃v,e= .returned (.tuple #[v,.int .i64 0])∧w'.ownsRow W.heap.size 9 1 v L.length (cV (eQ T))∧bB W w'):=hZ (fun W hW=>by
  rw[hL,hT];exact xJ ga gc x.gs x.secs g a s W (hg.below hW) hs hm)
 have HCO:Hid (∀W,bB w W→Calls prog 135 #[.agg #[.slice ga x.gs.length gc,x.secs],.agg #[(g:Nat),(a:Nat)],.int .i64 ((s.length/64:Nat):Int)] W fun e w'=>∃v,e= .returned (.tuple #[v,.int .i64 0])∧w'.ownsRow W.heap.size 311 4 v L.length (eM L)∧bB W w'):=hZ (fun W hW=>by
  rw[hL];exact pP ga x.gs.length gc x.gs x.secs g a (s.length/64) W (hg.below hW) hm)
 obtain⟨R,hR⟩:∃R,fU x (L.zip T) []=R:=⟨_,rfl⟩;have HWX:Hid (dD x g a s=(R.1.length,(if(x.gs.getD g (0,0)).1=0∧(R.1.length:Int)=(x.gs.getD g (0,0)).2∨(x.gs.getD g (0,0)).1=1∧1<R.1.length then 6 else 0),R.2)):=hZ (rJ hr hs hm (by rw[hL,hT] at hR;exact hR))
 have HTS:Hid (∀j,(T.getD j []).length≤1000000):=hZ (fun j=>by
  by_cases hj:j<L.length
  ·rw[hT,rD _ _ (by rw[←hL];exact hj)]
   have hsm:∀q,((fJ s).getD q []).length≤64:=fun q=>by unfold fJ;exact aGk _ _ _
   split
   ·refine l6 (aJd _ 64 (fun u hu=>?_)) (by omega)
    obtain⟨q,hq,rfl⟩:=bMn.1 hu;exact tA hsm _ (aMj hq).1
   ·exact l6 (tA hsm _ (by rw[←hL];exact hj)) (by omega)
  ·rw[a8,m7 (by omega)];simp)
 rw[HWX.o];obtain⟨kd,hkd⟩:=nZ ((x.gs.getD g (0,0)).1);obtain⟨wd,hwd⟩:=nZ ((x.gs.getD g (0,0)).2);have hkw:kd=0∨kd=1:=by
  have:=bM hgs.1 hggl;rw[hkd];omega
 have HGC:Hid (∀(W:World) (y:aK) (Fy:Nat→Prop),bV W y V Fy→y.gs=x.gs→∃b o,ga=some ⟨b,o,none⟩∧W.rangeAt b (o+g*2) (sM (kd,wd))):=hZ (fun W y Fy hy hyg=>by
  obtain⟨ga2,gc2,la2,lc2,wa2,wc2,hV2,hg2⟩:=hy.form;rw[hV] at hV2;simp only[kE.mk.injEq,bMm] at hV2;obtain⟨⟨rfl,_,rfl⟩,_⟩:=hV2;obtain⟨b,o,e,_⟩:=hg2.at_ (by rw[hyg];omega)
  subst e;refine⟨b,o,rfl,?_⟩;have:=aBm hg2 (by rw[hyg];exact hggl)
  rw[hyg] at this;rw[hkd,hwd];exact this)
 rw[←hkd,←hwd];obtain⟨E,hE⟩:∃E:Nat,E=(if kd=0∧(R.1.length:Int)=wd∨kd=1∧1<R.1.length then 6 else 0):=⟨_,rfl⟩
 rw[←hE];have HE:=hZ hE;clear hE;rw[←hL] at hLl hdv;have HDV:=hZ hdv;have HI:=hZ h;have HVV:=hZ hV;have HR:=hZ hR;have HK:=hZ hK;have HTL:=hZ hTl;have hnum:=h.gslen;obtain⟨secs,hsecs⟩:=nZ x.secs;obtain⟨n,hn⟩:=nZ x.ds.length;obtain⟨gn,hgn⟩:=nZ x.gs.length;obtain⟨gx,hgxx⟩:=nZ w.heap.size;obtain⟨gp,hgp⟩:=nZ (w.heap.size+1);rw[←hn,←hgn,←hsecs] at hw0 HRI HBX⊢;rw[←hgn,←hsecs] at HCO HEN;rw[←hgxx] at HBX;rw[←hgp] at HX2;rw[←hn] at HDV hnum;rw[←hgn] at hggl;have HVE:Hid (∀y:aK,y.gs.length=gn→y.secs=secs→V.val y.secs= .agg #[.slice ga gn gc,secs,.slice la n lc,.slice wa n wc]):=hZ (fun y h1 h2=>by rw[h2,hV,hsecs,hn,hgn];rfl)
 have HXX:Hid (x.gs.length=gn∧x.secs=secs∧x.ds.length=n):=hZ ⟨hgn.symm,hsecs.symm,hn.symm⟩;have hs256:s.length≤256∧s.length%64=0:=⟨(gY hs).2.2.1,(gY hs).2.1⟩;obtain⟨sz,hsz⟩:=nZ (s.length/64);rw[←hsz] at HCO;have q0:(s.length:Int)/64=(sz:Int):=by omega
 have q0':(s.length:Int).tdiv 64=(sz:Int):=by rw[Int.tdiv_eq_ediv_of_nonneg (by omega)];exact q0
 clear h hr hs hm hK hV hg r1 r2 r3 r4 hdv hval hri hgs hL hT hTl hR hkd hwd hsecs hn hgn HWX hsz;go_in;go_upto_region 1 with fail
 rw[←hw0,←hgp,←hgxx];have HGXX:=hZ (And.intro hgxx hgp);clear hw0 hgp hgxx;have hld:=fun op a next Q=>aB (P:=prog) HBX.o underlying43 rfl dC op a next Q
 go_wp21;refine(HRI.o w0 HB0.o).mono ?_;rintro e w1 ⟨rfl,hb1⟩;have HB1:=hZ (HB0.o.trans (hb1.mono HB0.o.size));have HC1:=hZ hb1;have x0:=(HBX.o.below hb1).cell 0;have x1:=(HBX.o.below hb1).cell 1;have y0:=(HX2.o.below hb1).cell 0;have y1:=(HX2.o.below hb1).cell 1;have HC:=hZ (HEN.o w1 HB1.o);clear hb1 hld;go_wp21;refine HC.o.mono ?_;rintro e w2 ⟨v8,rfl,hrow8,hb2⟩;obtain⟨g8,c8,rfl⟩:=bT hrow8 (by omega)
 have HB2:=hZ (HB1.o.trans (hb2.mono HB1.o.size));have HC2:=hZ (HC1.o.trans (hb2.mono HC1.o.size));have HR8:=hZ hrow8;have x0:=(HBX.o.below HC2.o).cell 0;have x1:=(HBX.o.below HC2.o).cell 1;have y0:=(HX2.o.below HC2.o).cell 0;have y1:=(HX2.o.below HC2.o).cell 1;have HC:=hZ (HCO.o w2 HB2.o);clear hrow8 hb2;go_wp21
 try rw[q0']
 try rw[q0]
 refine HC.o.mono ?_;rintro e w3 ⟨v10,rfl,hrow10,hb3⟩;obtain⟨g10,c10,rfl⟩:=bT hrow10 (by omega)
 have HB3:=hZ (HB2.o.trans (hb3.mono HB2.o.size));have HC3:=hZ (HC2.o.trans (hb3.mono HC2.o.size));have HR10:=hZ hrow10;have hmk:=@run_makeMap prog;have HMP0:Hid (jA (w3.alloc (.map #[] 0)) w3.heap.size (aAq [])):=hZ (jA.new w3);obtain⟨mp,hmp⟩:=nZ w3.heap.size;obtain⟨wM,hwM⟩:=nZ (w3.alloc (.map #[] 0));have hbM:bB w3 wM:=by rw[hwM];exact bZ
 have HAT0:Hid (kQ x V F w wM F):=hZ ((kQ.start HI.o).below (HB3.o.trans (hbM.mono HB3.o.size)));have HNF:Hid (∀g,w.heap.size≤g→¬F g):=hZ (fun g hg hf=>by have:=HI.o.lt g hf;omega)
 have HWI0:Hid (WrI wM F gx gp g8 c8 g10 c10 [.slice ga gn gc,secs,.slice la n lc,.slice wa n wc] g a T L):=hZ (by
  have k1:=HB1.o.size;have k2:=HB2.o.size;refine⟨(HBX.o.below HC3.o).below hbM,HNF.o _ (by rw[HGXX.o.1];exact d8 _),(HX2.o.below HC3.o).below hbM,HNF.o _ (by rw[HGXX.o.2];omega),?_,HNF.o _ (by have:=(HR8.o.lt g8 rfl).1;omega),?_,HNF.o _ (by have:=(HR10.o.lt g10 rfl).1;omega)⟩
  ·rw[HTL.o];exact aIy (aD (aD HR8.o hb3) hbM)
  ·exact aIy (aD HR10.o hbM))
 have HMF0:Hid (¬F mp):=hZ (HNF.o _ (by rw[hmp];exact HB3.o.size))
 have HMW:Hid (w.heap.size≤mp):=hZ (by rw[hmp];exact HB3.o.size)
 rw[←hmp,←hwM] at HMP0;clear hrow10 hb3 HC x0 x1 y0 y1 hbM;go_upto_region 8 with fail
 rw[←hwM,←hmp];clear hwM hmp hmk;go_wp21;go_loopw [43] (fun vi wr=>∃(k:Nat) (xk:aK) (f:List Nat) (Fk:Nat→Prop),vi= .int .i64 k∧k≤L.length∧Hid (kQ xk V F w wr Fk)∧Hid (WrI wr Fk gx gp g8 c8 g10 c10 [.slice ga gn gc,secs,.slice la n lc,.slice wa n wc] g a T L)∧Hid (jA wr mp (aAq f)∧¬Fk mp)∧Hid (fU xk ((L.zip T).drop k) f=R)∧Hid (xk.gs=x.gs∧xk.secs=secs∧xk.ds.length=n∧xk.deep (K+k))) (fun vi _=>L.length-(intOf vi).toNat)
 case atStart=>exact⟨0,x,[],F,rfl,z6 _,HAT0,HWI0,hZ ⟨HMP0.o,HMF0.o⟩,HR,hZ ⟨rfl,HXX.o.2.1,HXX.o.2.2,HK.o⟩⟩
 case round=>
  obtain⟨k,xk,f,Fk,rfl,hk,HAT,HWI,HMP,HPU,HXK⟩:=hrel;by_cases hkn:k<L.length
  ·have q1:(k:Int)<(L.length:Int):=by omega
   have q2:0≤(k:Int):=by omega
   obtain⟨c,hc⟩:=nZ (L.getD k cD);obtain⟨tx,htx⟩:=nZ (T.getD k []);have hpu:=HPU.o;rw[bCw HTL.o hkn,←hc,←htx] at hpu;have hpu2:fU (eZ xk c tx).2 ((L.zip T).drop (k+1)) (if(eZ xk c tx).1=true then f else aLj f c.1)=R:=hpu
   have hdc:c.1<n:=by rw[hc];exact HDV.o k hkn
   have hrg:=jJ (bI HWI.o.lx) hkn;rw[←hc,r9] at hrg;have hl1:=fun op a next Q=>dP (P:=prog) (t:=311) hrg underlying311 rfl vM op a next Q
   have hst:=fun op a next Q=>jN c wr op a next Q
   obtain⟨w5,hw5⟩:=nZ (wr.alloc (.cells (dI c).toArray 311));obtain⟨g5,hg5⟩:=nZ wr.heap.size;have hB5:Blk w5 g5 311 (dI c):=by rw[hw5,hg5];exact Blk.new wr _ _
   have hb5:bB wr w5.drew:=by rw[hw5];exact(bZ).drew
   have HF5:Hid (¬Fk g5):=hZ (fun hf=>by have:=HAT.o.is.lt g5 hf;omega)
   have HAT5:=hZ (HAT.o.below hb5);have HWI5:=hZ (HWI.o.below hb5);have HMP5:=hZ (HMP.o.1.below hb5);have HCB5:=hZ hB5.drew;have htl:k<T.length:=by rw[HTL.o];exact hkn
   have HTXC:Hid (∀(W:World) (Fq:Nat→Prop),WrI W Fq gx gp g8 c8 g10 c10 [.slice ga gn gc,secs,.slice la n lc,.slice wa n wc] g a T L→cZ W g8 k (.string ⟨tx.toArray⟩)):=hZ (fun W Fq hW=>by
    have:=uO hW.tx htl;rw[←htx] at this;exact this)
   have htxs:tx.length≤1000000:=by rw[htx];exact HTS.o k
   have HPT:=hZ (bCf HAT5.o.is c (by rw[HXK.o.2.2.1];exact hdc) tx htxs (by have:=HXK.o.2.2.2 c.1 c.2.1;omega))
   rw[HVE.o xk (by rw[HXK.o.1];exact HXX.o.1) HXK.o.2.1] at HPT
   have hsame:=aHu xk c tx;have hdeep:=aAk HXK.o.2.2.2 c tx (by rw[HXK.o.2.2.1];exact hdc)
   obtain⟨pb,x2,hpb⟩:∃pb x2,eZ xk c tx=(pb,x2):=⟨_,_,rfl⟩;rw[hpb] at hpu2 hsame hdeep HPT;have HPU2:=hZ hpu2;have HX2K:Hid (x2.gs=x.gs∧x2.secs=secs∧x2.ds.length=n∧x2.deep (K+(k+1))):=hZ ⟨hsame.1.trans HXK.o.1,hsame.2.1.trans HXK.o.2.1,hsame.2.2.2.trans HXK.o.2.2.1,hdeep⟩;have HC:=hZ hc;have HNL:Hid (g8<T.length+g8+1):=hZ (by omega)
   have q3:(k:Int)<(T.length:Int):=by omega
   clear hpu hpu2 hrg hB5 hb5 hsame hdeep hpb hc htx;go_upto_region 11 with fail
   rw[←hw5,←hg5];clear hw5 hg5 hst hl1;have hS0:WrS gx g5 g8 k [.slice ga gn gc,secs,.slice la n lc,.slice wa n wc] c tx w5.drew:=⟨HWI5.o.bx,HCB5.o,HTXC.o _ _ HWI5.o⟩
   cases pb with
   |true=>
    refine l7 (S:=WrS gx g5 g8 k [.slice ga gn gc,secs,.slice la n lc,.slice wa n wc] c tx) (by kernel_rfl) hS0 (fun hS0=>?_)
    refine mX 0 ?vy0 ?yy0 ?_
    case yy0=>refine m5 (by kernel_rfl) 43 (.tmp 3) ?_ gx (0) ?_ ([.slice ga gn gc,secs,.slice la n lc,.slice wa n wc]) _ (fun w' hw=>WrS.r0 hw) underlying43 rfl dC<;>rfl
    refine mX 1 ?vy1 ?yy1 ?_
    case yy1=>refine m5 (by kernel_rfl) 311 (.tmp 14) ?_ g5 (0) ?_ (dI c) _ (fun w' hw=>WrS.r1 hw) underlying311 rfl vM<;>rfl
    refine aE 2 ?_;refine aE 3 ?_;refine aE 4 ?_ (hy:=by intro w hSw;(try dsimp only at hSw);go_simp;first|with_reducible rfl|rw[i6 (by omega)])
    refine aE 5 ?_ (hy:=by intro w hSw;(try dsimp only at hSw);go_simp;first|(rw[WrS.tc hSw];rfl)|rfl)
    refine dY (i:=6) (h:=fun K hK=>?_)
    go_simp;refine HPT.o.mono ?_;rintro e w6 ⟨rfl,hstep⟩;obtain⟨F2,hat6,hfr6,hm6⟩:=HAT5.o.step hstep;have HAT6:=hZ hat6;have HWI6:=hZ (HWI5.o.step hm6 hfr6);have HCB6:=hZ (hm6.blk HCB5.o HF5.o);have HMP6:Hid (jA w6 mp (aAq f)∧¬F2 mp):=hZ ⟨HMP5.o.keep (hm6.block mp HMP5.o.lt HMP.o.2),hfr6 mp HMP5.o.lt HMP.o.2⟩;clear hstep hat6 hfr6 hm6
    try dsimp only
    refine hK.o _ _ (⟨HWI6.o.bx,HCB6.o,HTXC.o _ _ HWI6.o⟩) (fun hSy6=>?_)
    try simp only[Act.put,z1,z2,z3]
    refine aE 7 ?_;refine r8 (by kernel_rfl) ?_ _
    go_wp2_with fail;go_roundw
    case rel=>exact⟨k+1,x2,f,F2,by go_num,by omega,HAT6,HWI6,HMP6,HPU2,HX2K⟩
    case measure=>simp[intOf];omega
   |false=>
    refine l7 (S:=WrS gx g5 g8 k [.slice ga gn gc,secs,.slice la n lc,.slice wa n wc] c tx) (by kernel_rfl) hS0 (fun hS0=>?_)
    refine mX 0 ?vz0 ?yz0 ?_
    case yz0=>refine m5 (by kernel_rfl) 43 (.tmp 3) ?_ gx (0) ?_ ([.slice ga gn gc,secs,.slice la n lc,.slice wa n wc]) _ (fun w' hw=>WrS.r0 hw) underlying43 rfl dC<;>rfl
    refine mX 1 ?vz1 ?yz1 ?_
    case yz1=>refine m5 (by kernel_rfl) 311 (.tmp 14) ?_ g5 (0) ?_ (dI c) _ (fun w' hw=>WrS.r1 hw) underlying311 rfl vM<;>rfl
    refine aE 2 ?_;refine aE 3 ?_;refine aE 4 ?_ (hy:=by intro w hSw;(try dsimp only at hSw);go_simp;first|with_reducible rfl|rw[i6 (by omega)])
    refine aE 5 ?_ (hy:=by intro w hSw;(try dsimp only at hSw);go_simp;first|(rw[WrS.tc hSw];rfl)|rfl)
    refine dY (i:=6) (h:=fun K hK=>?_)
    go_simp;refine HPT.o.mono ?_;rintro e w6 ⟨rfl,hstep⟩;obtain⟨F2,hat6,hfr6,hm6⟩:=HAT5.o.step hstep;have HAT6:=hZ hat6;have HWI6:=hZ (HWI5.o.step hm6 hfr6);have HCB6:=hZ (hm6.blk HCB5.o HF5.o);have HMP6:Hid (jA w6 mp (aAq f)∧¬F2 mp):=hZ ⟨HMP5.o.keep (hm6.block mp HMP5.o.lt HMP.o.2),hfr6 mp HMP5.o.lt HMP.o.2⟩;clear hstep hat6 hfr6 hm6
    try dsimp only
    refine hK.o _ _ (⟨HWI6.o.bx,HCB6.o,HTXC.o _ _ HWI6.o⟩) (fun hSz6=>?_)
    try simp only[Act.put,z1,z2,z3]
    refine aE 7 ?_;refine r8 (by kernel_rfl) ?_ _
    have e0:cZ w6 g5 0 (c.1:Nat):=HCB6.o.cell 0;obtain⟨w7,hrun,hM7,hG7⟩:=uI (P:=prog) (t:=446) underlying446 underlying3 HMP6.o.1 c.1 (.bool true);rw[bDn] at hM7;have HWI7:=hZ (HWI6.o.map HMP6.o.1 hG7);have HAT7:=hZ (HAT6.o.map HMP6.o.2 hG7 HMW.o);have HMP7:Hid (jA w7 mp (aAq (aLj f c.1))∧¬F2 mp):=hZ ⟨hM7,HMP6.o.2⟩;clear hM7 hG7;go_wp2_with fail;go_roundw
    case rel=>exact⟨k+1,x2,aLj f c.1,F2,by go_num,by omega,HAT7,HWI7,HMP7,HPU2,HX2K⟩
    case measure=>simp[intOf];omega
  ·have q1:¬(k:Int)<(L.length:Int):=by omega
   have hfx:(f,xk)=R:=by
    have:=HPU.o;rw[bNj (by rw[List.length_zip];omega)] at this
    exact this
   have k0:cZ wr gx 0 (.slice ga gn gc):=HWI.o.bx.cell 0;have p0:cZ wr gp 0 (g:Nat):=HWI.o.px.cell 0;obtain⟨bg,og,hga,hrgG⟩:=HGC.o wr xk Fk HAT.o.is HXK.o.1;rw[hga] at k0;have hl1:=fun op a next Q=>dP (P:=prog) (t:=73) hrgG underlying73 rfl bAu op a next Q
   have hst:=fun op a next Q=>aCc (kd,wd) wr op a next Q
   obtain⟨w5,hw5⟩:=nZ (wr.alloc (.cells (sM (kd,wd)).toArray 73));obtain⟨g5,hg5⟩:=nZ wr.heap.size;have hB5:Blk w5 g5 73 (sM (kd,wd)):=by rw[hw5,hg5];exact Blk.new wr _ _
   have hb5:bB wr w5:=by rw[hw5];exact bZ
   have HAT5:=hZ (HAT.o.below hb5);have e0:cZ w5 g5 0 kd:=hB5.cell 0;have e1:cZ w5 g5 1 wd:=hB5.cell 1;have hlen:=aNv (HMP.o.1.below hb5);rw[show(aAq f).length=f.length by simp[aAq]] at hlen
   have q3:(g:Int)<(gn:Int):=by omega
   have q4:0≤(g:Int):=by omega
   have HFX:=hZ hfx;clear hrgG hB5 hb5 hga hfx;go_upto_region 15 with fail
   rw[←hw5,←hg5];clear hw5 hg5 hst hl1 k0 p0;rcases hkw with rfl|rfl
   ·by_cases hfw:(f.length:Int)=wd
    ·have q5:((f.length:Int) == wd)=true:=by simpa using hfw
     have HFW:=hZ hfw;clear hfw;go_wp21;go_ret2;refine⟨?_,?_⟩
     ·rw[HE.o,←HFX.o,i6 (.inl ⟨by first|rfl|trivial,HFW.o⟩)];rfl
     ·first|exact HAT5.o.fin|(rw[←HFX.o];exact HAT5.o.fin)
    ·have q5:((f.length:Int) == wd)=false:=by simpa using hfw
     have HFW:=hZ hfw;clear hfw;go_wp21;go_ret2;refine⟨?_,?_⟩
     ·rw[HE.o,←HFX.o,i9 (fun h=>h.elim (fun h=>HFW.o h.2) (fun h=>by have:=h.1;omega))];rfl
     ·first|exact HAT5.o.fin|(rw[←HFX.o];exact HAT5.o.fin)
   ·by_cases hfw:1<f.length
    ·have q5:(1:Int)<(f.length:Int):=by omega
     have HFW:=hZ hfw;clear hfw;go_wp21;go_ret2;refine⟨?_,?_⟩
     ·rw[HE.o,←HFX.o,i6 (.inr ⟨by first|rfl|trivial,HFW.o⟩)];rfl
     ·first|exact HAT5.o.fin|(rw[←HFX.o];exact HAT5.o.fin)
    ·have q5:¬(1:Int)<(f.length:Int):=by omega
     have HFW:=hZ hfw;clear hfw;go_wp21;go_ret2;refine⟨?_,?_⟩
     ·rw[HE.o,←HFX.o,i9 (fun h=>h.elim (fun h=>by have:=h.1;omega) (fun h=>HFW.o h.2))];rfl
     ·first|exact HAT5.o.fin|(rw[←HFX.o];exact HAT5.o.fin)
end
def nA (s:Bs):Bool:=decide (s=[]∨s.length=64)
theorem aWc (s:Bs) (w:World):Calls prog 256 #[.string ⟨s.toArray⟩] w fun e w'=>e= .returned (.bool (!nA s))∧bB w w':=by
 cases s with
 |nil=>
  go_in;go_wp21;go_ret;exact⟨by simp[nA],i4 _ _⟩
 |cons a r=>
  obtain⟨s,f⟩:∃s:Bs,s=a::r:=⟨_,rfl⟩;rw[←f];have q:s.isEmpty=false:=by rw[f];rfl
  have m:s≠[]:=by rw[f];simp
  clear f;by_cases h:s.length=64
  case' _=>
   have p:((s.length:Int) != 64)=false:=by simp;omega
   have l:(!nA s)=false:=by simp[nA,h]
  rotate_left
  case' _=>
   have p:((s.length:Int) != 64)=true:=by simp;omega
   have l:(!nA s)=true:=by simp[nA,h,m]
  all_goals
   rw[l];go_in;go_wp21;go_ret;exact⟨rfl,i4 _ _⟩
theorem aDv (args:Array Value) (W:World):(callFunc 256 args).run prog W= .ok (.enter 256 args) W:=by kernel_rfl
theorem aOo (l:List Bs) (j:Nat) (f:j<l.length):(eQ l).getD j ByteArray.empty=⟨(l.getD j []).toArray⟩:=by
 simp[eQ,a8,f]
theorem bFt (l:List Bs):(List.range l.length).any (fun j=> !nA (l.getD j []))= !(l.all nA):=by
 rw[Bool.eq_iff_iff];simp only[List.any_eq_true,bMp,bNr,List.all_eq_false];constructor
 ·rintro⟨j,f,h⟩
  exact⟨l[j],n5 _,by rw[a8,b9 f] at h;simpa using h⟩
 ·rintro⟨s,m,h⟩
  obtain⟨j,f,rfl⟩:=bOb.1 m;exact⟨j,f,by rw[a8,b9 f];simpa using h⟩
theorem aIa (ga:Option Addr) (gc:Nat) (gs:Gs) (secs:Int) (g a size:Nat) (w:World) (N:oZ w ga gs.length gc gs) (A:dO gs secs g a size=true) (f:List Bs) (l:Option Addr) (cap:Nat) (E:sS w l f.length cap (eQ f)) (P:f.length=(aI gs g a size).length):
  Calls prog 204 #[.agg #[.slice ga gs.length gc,secs],.agg #[(g:Nat),(a:Nat)],(size:Nat),.slice l f.length cap] w fun e w'=>e= .returned (.bool (f.all nA))∧bB w w':=by
 have S:=jW A;obtain⟨q,h⟩:=nZ ((w.alloc (.cells #[.slice ga gs.length gc,secs] 24)).alloc (.cells #[(g:Nat),(a:Nat)] 46));have r:bB w q:=by rw[h];exact(bZ).alloc (by simp) _
 have t:Blk q w.heap.size 24 [.slice ga gs.length gc,secs]:=by rw[h];exact(Blk.new w _ _).alloc _
 have u:Blk q (w.heap.size+1) 46 [(g:Nat),(a:Nat)]:=by rw[h];exact Blk.newAt (w:=w.alloc _) _ _ (by simp)
 have G:=hZ r;have Y:=t.cell 0;have Z:=t.cell 1;have aa:=u.cell 0;have y1:=u.cell 1;have C:=hZ (pP ga gs.length gc gs secs g a size q (N.below r) A);have H:Hid (∀W,bB w W→Calls prog 255 #[.slice l f.length cap,.func (.func 256) #[] #[]] W fun e w'=>e= .returned (.bool (!(f.all nA)))∧bB W w'):=hZ (fun W ab=>by
  have:=pT 256 #[] (fun j=> !nA (f.getD j [])) l f.length cap (eQ f) W (E.below ab) (by omega) aDv (fun j ac ad ae=>by
   rw[aOo f j ac];exact aWc (f.getD j []) ad)
  rw[bFt] at this;exact this)
 obtain⟨n,R⟩:=nZ ((aI gs g a size).length);have p:=P;rw[←R] at C S p;obtain⟨m,I⟩:=nZ f.length;rw[←I] at H p⊢;have U:=p;subst U;clear N A E P r t u p R I;go_in;go_upto_region 1 with fail
 rw[←h];clear h;go_wp21;refine C.o.mono ?_;rintro e w1 ⟨v,rfl,D,J⟩;obtain⟨ao,af,rfl⟩:=aY D;have z:=hZ (G.o.trans (J.mono G.o.size));clear D J C Y Z aa y1;go_wp21;refine(H.o w1 z.o).mono ?_;rintro e ag ⟨rfl,K⟩;have X:=hZ (z.o.trans (K.mono z.o.size));clear K;go_wp21;go_ret;exact⟨by simp,X.o⟩
theorem qT (h:w.ownsRow b e k v n xs) (p:b'≤b):w.ownsRow b' e k v n xs:=by
 obtain⟨h1,h2⟩:=h;refine⟨h1,?_⟩;rcases h2 with h2|⟨g,cap,f,l,q,m⟩
 ·exact .inl h2
 ·exact .inr ⟨g,cap,f,l,by omega,m⟩

end Go.Proofs.YtepmcdopccflgaaGreatDoor

