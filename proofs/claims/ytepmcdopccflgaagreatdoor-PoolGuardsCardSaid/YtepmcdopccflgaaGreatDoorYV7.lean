/- Parts of the proof of the statement that the last file of this claim proves:lemmas,without any condition of their own beyond those that each states. -/
import Derived.Test.YtepmcdopccflgaaGreatDoorYV6
import Derived.RangeFuncNested
set_option linter.unusedVariables false
set_option linter.unusedSimpArgs false
set_option linter.unnecessarySimpa false
set_option maxHeartbeats 4000000
set_option maxRecDepth 100000
namespace Go.Proofs.YtepmcdopccflgaaGreatDoor
open Go.RowKit Tryz
variable {ms:List MT} {x x0:aK} {dst:Option Tmp} {n' nd:aM} {Q:Exit→Act→World→Prop} {K next:Act→World→Prop} {W w w':World} {L:List (aC×Bs)} {bb cap d eb frm fuel g g8 gR gS gT gf i j k off pb sb tx:Nat} {a a':Act} {assign body:Code} {u v:Value} {o oi:Oper} {ps:Array Tmp} {l out:List aC} {ao wk ws:Option Addr} {gs:Gs} {guard:Option (Nat×Bool)} {p q:aC} {l' listed:Array Bool} {dn:Option Nat} {fn:Func} {F T:Nat→Prop} {es:List Nat} {lv secs:Int} {lb:Array Value} {st:List (Nat×Nat)} {s t text:Bs} {after:Array Edge} {sc:List Value} {V:kE}
theorem bFc {p q:Nat×Nat} {two:Bool} {size:Int} (h:bD gs secs (mkP p q two size)=true):(mkP p q two size).ok:=by
 obtain⟨h1,h2,b,_⟩:=gV h;have c:=bK h1;have hr:=aS c.1;simp only[mkP] at*;cases two
 ·have:=b rfl
  refine⟨?_,?_,?_,?_,?_,?_,?_⟩<;>dsimp only[eY]<;>omega
 ·have e:=bK (h2 rfl).1
  refine⟨?_,?_,?_,?_,?_,?_,?_⟩<;>dsimp only[eY]<;>omega
def Wst (x:aK) (t:Bs) (q:Nat×Nat):St:=fQ x.gs x.secs ((t.length/64:Nat):Int) q
theorem aBv (t:Bs) (ht:dX t=true):∀(l:List (Nat×Nat)) (x:aK) (K:Nat),x.one→x.deep K→(∀q∈l,dO x.gs x.secs (q.1:Nat) (q.2:Nat) ((t.length/64:Nat):Int)=true)→l.Pairwise (fun a b=>Dis (Wst x t a) (Wst x t b))→
  (∀q∈l,tJ (iF t l x) q.1 q.2 t)∧dT x (iF t l x)∧(iF t l x).deep (K+32*l.length)∧∀(g a:Nat) (u:Bs),tJ x g a u→dO x.gs x.secs (g:Nat) (a:Nat) ((u.length/64:Nat):Int)=true→(∀q∈l,Dis (fQ x.gs x.secs ((u.length/64:Nat):Int) (g,a)) (Wst x t q))→tJ (iF t l x) g a u
 |[],x,K,_,E,_,_=>⟨fun q O=>(by cases O),dT.refl x,E,fun g a u h _ _=>h⟩
 |q::r,x,K,m,E,I,G=>by
  rw[List.pairwise_cons] at G;have y:=I q (bMf ..);have k:=aBk m.right ht y;obtain⟨Y,d2⟩:=xL m.right ht y E;have f:=k.gs;have c:=k.secs;have D:∀z,Wst (dD x q.1 q.2 t).2.2 t z=Wst x t z:=fun z=>by unfold Wst;rw[f,c]
  obtain⟨R,U,X,J⟩:=aBv t ht r (dD x q.1 q.2 t).2.2 (K+32) (m.kept k) d2 (fun z A=>by rw[f,c];exact I z (bMg _ A)) (G.2.imp (fun h=>by rw[D,D];exact h))
  have e:iF t (q::r) x=iF t r (dD x q.1 q.2 t).2.2:=rfl;rw[e];refine⟨fun z A=>?_,k.trans U,?_,fun g a u h1 h2 N=>?_⟩
  ·rcases s8.1 A with rfl|A
   ·refine J _ _ t (aOi m.calm m.right ht y) (by rw[f,c];exact y) (fun H hy=>?_)
    rw[D,f,c];exact G.1 H hy
   ·exact R z A
  ·simp only[bLn]
   rw[show K+32*(r.length+1)=K+32+32*r.length by omega]
   exact X
  ·refine J g a u (aOt m.right h1 h2 ht y (N q (bMf ..))) (by rw[f,c];exact h2) (fun H hy=>?_)
   rw[D,f,c];exact N H (bMg _ hy)
theorem dR.kept {b:aK} (h:dR x p t) (c:b.gs=x.gs) (e:b.secs=x.secs) (f:∀q∈plL p,tJ b q.1.toNat q.2.toNat t):dR b p t:=⟨h.blk,h.size,h.sum,by rw[c,e];exact h.right,h.ok,f⟩
theorem bHm:∀q∈plL p,(q.1.toNat,q.2.toNat)∈sP p:=by
 intro q b;unfold plL at b;unfold sP;split at b
 ·rename_i h
  rw[i6 h];rcases s8.1 b with rfl|b
  ·exact bMf ..
  ·rw[y9.1 b];simp
 ·rw[y9.1 b];exact bMf ..
theorem bIo {p q:Nat×Nat} {two:Bool} {size:Int} (h:bD gs secs (mkP p q two size)=true):∀z∈sP (mkP p q two size),dO gs secs (z.1:Nat) (z.2:Nat) size=true:=by
 obtain⟨h1,h2,_,_⟩:=gV h;intro z b;rw[wK] at b;rcases s8.1 b with rfl|b
 ·exact h1
 ·cases two with
  |false=>simp at b
  |true=>
   rw[i6 rfl,y9] at b;subst b;exact(h2 rfl).1
theorem bLa {S:dK} {L:List St} {K:Nat} (h:aCw S L K) (ht:dX t=true) (level:Int):(eC S ((t.length/64:Nat):Int) level).err=0→∀q∈(eC S ((t.length/64:Nat):Int) level).l,dO S.x.gs S.x.secs (q.1:Nat) (q.2:Nat) ((t.length/64:Nat):Int)=true:=by
 intro b;obtain⟨h1,h2,c⟩:=qM ht;have f:=List.length_pos_iff.2 h1;rcases aGn h (size:=((t.length/64:Nat):Int)) (level:=level) (by omega) (by omega) with⟨e,_⟩|⟨_,_,_,p,q,two,e,hr,_⟩
 ·rw[e] at b;cases b
 ·rw[e];exact bIo hr
structure aLk (S S':dK):Prop where
 txg:S'.txg=S.txg
 keep:S'.keep=S.keep
 mt:S'.mt=S.mt
 fixed:S'.fixed=S.fixed
theorem aYg {S:dK} {L:List St} {K:Nat} (h:aCw S L K) (t:Bs) (level:Int):
  ((cE S t level).err≠0∧(cE S t level).err≠6∧(cE S t level).p=pD∧aCw (cE S t level).s L K∧iJ (cE S t level).s.sn=iJ S.sn∧(cE S t level).s.x=S.x∧(cE S t level).s.born=S.born∧aLk S (cE S t level).s)∨
  ((cE S t level).err=0∧aCw (cE S t level).s (L++eJ S.x.gs S.x.secs (cE S t level).p) (K+64)∧dR (cE S t level).s.x (cE S t level).p t∧dT S.x (cE S t level).s.x∧(cE S t level).s.born=S.born++[(cE S t level).p]∧aLk S (cE S t level).s∧
   ((cE S t level).p.birth=S.txg∧(cE S t level).p.level=level∧((cE S t level).p.two=true→0<level∨S.mt=true))∧
   ∀p u,dR S.x p u→(∀s∈eJ S.x.gs S.x.secs p,s∈L)→dR (cE S t level).s.x p u):=by
 unfold cE;by_cases hok:jD S t level=false
 ·rw[i6 hok]
  exact .inl ⟨by simp,by simp,rfl,h,rfl,rfl,rfl,rfl,rfl,rfl,rfl⟩
 ·rw[i9 hok]
  have hok2:jD S t level=true:=by simpa using hok
  unfold jD at hok2;rw[y8,bLt] at hok2;obtain⟨ht,hlv⟩:=hok2;obtain⟨h1,h2,h3⟩:=qM ht;have hpos:=List.length_pos_iff.2 h1;rcases aGn h (size:=((t.length/64:Nat):Int)) (level:=level) (by omega) (by omega) with⟨e1,e2,e3⟩|⟨e1,e2,e3,p,q,two,e4,hr,hq,htw⟩
  ·rw[i6 (by rw[e1];decide)]
   refine .inl ⟨by dsimp only;rw[e1];simp,by dsimp only;rw[e1];simp,rfl,⟨h.one,h.fits,h.deep,?_,?_⟩,?_,rfl,rfl,rfl,rfl,rfl,rfl⟩
   ·show Inv _ _ (eC S _ level).sn (eC S _ level).es
    rw[e2,e3];exact h.inv
   ·show zZ _ _ (eC S _ level).sn L
    rw[e2];exact h.cov
   ·show iJ (eC S _ level).sn=_
    rw[e2]
  ·rw[i9 (by rw[e1];decide)]
   right;have hcov:=e3;rw[e4] at hcov;have hdis:(sP (mkP p q two ((t.length/64:Nat):Int))).Pairwise (fun a b=>Dis (Wst S.x t a) (Wst S.x t b)):=by
    have:=(bNs.1 hcov.dis).2.1;rw[List.pairwise_map] at this;exact this
   have hout:∀s∈L,∀z∈sP (mkP p q two ((t.length/64:Nat):Int)),Dis s (Wst S.x t z):=fun s hs z hz=>(bNs.1 hcov.dis).2.2 s hs _ (bMn.2 ⟨z,hz,rfl⟩)
   obtain⟨a1,a2,a3,a4⟩:=aBv t ht _ S.x K h.one h.deep (bIo hr) hdis;have hlen:(sP (mkP p q two ((t.length/64:Nat):Int))).length≤2:=by rw[wK];cases two<;>simp
   dsimp only;rw[e4,bFq t level S.txg p q two hq];have hstr:eJ S.x.gs S.x.secs ⟨p.1,p.2,q.1,q.2,two,((t.length/64:Nat):Int),level,S.txg,((dG t).1:Nat),((dG t).2.1:Nat),((dG t).2.2.1:Nat),((dG t).2.2.2:Nat)⟩=(sP (mkP p q two ((t.length/64:Nat):Int))).map (fQ S.x.gs S.x.secs ((t.length/64:Nat):Int)):=by
    rw[wK];cases two<;>simp[eJ,sP]
   have hright:bD S.x.gs S.x.secs ⟨p.1,p.2,q.1,q.2,two,((t.length/64:Nat):Int),level,S.txg,((dG t).1:Nat),((dG t).2.1:Nat),((dG t).2.2.1:Nat),((dG t).2.2.2:Nat)⟩=true:=by
    have h':=hr;unfold bD mkP at h';rw[y8,y8] at h';unfold bD;rw[y8,y8];exact⟨⟨bMi ⟨hlv.1,hlv.2.1,hlv.2.2.1,hlv.2.2.2⟩,h'.1.2⟩,h'.2⟩
   have hmk:=bFc hr;have hi:∀z:Int,0≤z∧z≤4294967295→eY z:=fun z hz=>by unfold eY;omega
   refine⟨rfl,⟨h.one.kept a2,a2.fit h.fits,?_,?_,?_⟩,⟨ht,rfl,?_,?_,?_,fun z hz=>?_⟩,a2,rfl,⟨rfl,rfl,rfl,rfl⟩,⟨rfl,rfl,htw⟩,fun p' u hw hin=>?_⟩
   ·intro i k
    exact l6 (a3 i k) (by omega)
   ·show Inv (iF t _ S.x).gs (iF t _ S.x).secs (eC S _ level).sn (eC S _ level).es
    rw[a2.gs,a2.secs];exact e2
   ·show zZ (iF t _ S.x).gs (iF t _ S.x).secs (eC S _ level).sn _
    rw[a2.gs,a2.secs,hstr];exact hcov
   ·exact bMi ⟨rfl,rfl,rfl,rfl⟩
   ·show bD (iF t _ S.x).gs (iF t _ S.x).secs _=true
    rw[a2.gs,a2.secs];exact hright
   ·exact⟨hmk.ag,hmk.aa,hmk.bg,hmk.ba,hmk.size,hi level ⟨hlv.1,by omega⟩,hi S.txg ⟨by omega,hlv.2.2.2⟩⟩
   ·have:=bHm z hz
    have h9:(z.1.toNat,z.2.toNat)∈sP (mkP p q two ((t.length/64:Nat):Int)):=by
     rw[wK];have e:sP ⟨p.1,p.2,q.1,q.2,two,((t.length/64:Nat):Int),level,S.txg,((dG t).1:Nat),((dG t).2.1:Nat),((dG t).2.2.1:Nat),((dG t).2.2.2:Nat)⟩=p::if two=true then[q] else[]:=by cases two<;>simp[sP]
     rw[←e];exact this
    exact a1 _ h9
   ·refine hw.kept a2.gs a2.secs fun z hz=>?_
    refine a4 _ _ u (hw.whole z hz) (hw.may z hz) fun y hy=>?_
    refine hout _ (hin _ ?_) y hy;unfold eJ;refine bMn.2 ⟨_,bHm z hz,?_⟩;rw[hw.size]
section
variable {F:Fence} {n:Nat} {P:Program} {ops:Array Oper} {Q:Exit→Act→World→Prop} {md:Region.Mode}
theorem rti (i:Nat)
  (h:wpAnyIn F n P md ops Q fuel l' a' w)
  (m:ops[i]?=some oi:=by(simp only[n9,m9,n8];rfl))
  (hy:∀w,(execOp a.eval oi).run P w= .ok (.value v) w:=by(intro w';go_simp;try with_reducible rfl))
  (b:(Region.noSelect ops&&(Region.free md ops listed i&&(Region.ready md ops listed).contains i))=true:=by kernel_rfl)
  (r:Region.wanted oi (yielded ops a.tmps)=true:=by kernel_rfl) (e:∀w,oi.about P w a.eval=none:=by exact fun _=>rfl) (f:F.round=none:=by rfl)
  (y:∀c a w,Q (.panic c) (a.put oi.dst v) w→Q (.panic c) a w:=by exact fun _ _ _ h=>h)
  (z:a.put oi.dst v=a':=by(simp only[Act.put,z1,z2,z3];rfl))
  (A:listed.setIfInBounds i true=l':=by first|(simp only[z1,z2,z3];rfl)|rfl):wpAnyIn F n P md ops Q (fuel+1) listed a w:=by
 subst z A;simp only[y8] at b;exact wpAnyIn_take f m b.1 b.2.1 b.2.2 y ⟨.inl ⟨r,hy⟩,e⟩ h
theorem rci {rs:List Nat}
  (h:∀b:Act→World→Prop,(∀a w,wpAnyIn F n P md ops Q fuel (listed.setIfInBounds i true) a w→b a w)→Oper.wpIn F n P o a w b Q)
  (c:AllReadyIn F n P md ops Q fuel listed a w rs) (e:ops[i]?=some o:=by(simp only[n9,m9,n8];rfl))
  (f:Region.wanted o (yielded ops a.tmps)=true:=by kernel_rfl):AllReadyIn F n P md ops Q fuel listed a w (i::rs):=
 AllReadyIn.cons e (fun K m=>by rw[i6 f];exact h K m) c
theorem rri (rs:List Nat) (h:AllReadyIn F n P md ops Q fuel listed a w rs) (hr:Region.ready md ops listed=rs:=by kernel_rfl) (b:rs≠[]:=by simp):wpAnyIn F n P md ops Q (fuel+1) listed a w:=wpAnyIn_ready hr b h
end
theorem bDf (R ag:Nat) (l:List bJ) (gb m:Nat) (h:List Bs) (size ah ai:Nat) (aj:World→Prop) (W:World)
  (ak:RSl W 4 (some R) l.length ag (eM l)) (A:sS W (some gb) h.length m (eQ h)) (Z:h.length=l.length) (bc:l.length≤32) (D:0<size) (bd:size≤l.length) (aa:∀s∈h,s.length≤64) (G:[]∉h.take size)
  (U:∀b,bB W b→YieldAt Fence.wide ah prog ai #[.int .i64 ((l.getD 0 cD).1:Nat),.string ⟨(h.take size).flatten.toArray⟩] b fun e X=>e= .returned false∧aj X):
  Calls prog 205 #[.slice (some R) l.length ag,(size:Nat),.slice (some gb) h.length m,.func (.yield ai) #[] #[]] W fun e X=>(∃v,e= .returned v)∧aj X:=by
 have ba:=A.2.1;obtain⟨i,E⟩:∃i:Nat,i=0:=⟨_,rfl⟩;obtain⟨P,z⟩:=nZ ((h.drop i).take size);have e0:h.take size=P:=by rw[z,E,bOf]
 have al:l.getD 0 cD=l.getD i cD:=by rw[E]
 rw[e0] at G;rw[e0,al] at U;have ap:P.length=size:=by rw[z,z7,bMe];omega
 have ab:∀s∈P,s.length≤64:=fun s D=>aa s (List.mem_of_mem_drop (List.mem_of_mem_take (z▸D)))
 have aq:i+size≤l.length:=by omega
 have H:Hid (∀b,bB W b→sS b (some ⟨gb,i,none⟩) size (m-i) (eQ P)):=hZ (fun b y=>by
  rw[z];exact bDm (sS.below A y) rfl (by omega))
 have ac:Hid (∀b,bB W b→Calls prog 141 #[.slice (some ⟨gb,i,none⟩) size (m-i),.string ⟨#[]⟩] b fun e w'=>e= .returned false∧bB b w'):=hZ (fun b y=>by
  have:=aHc (some ⟨gb,i,none⟩) size (m-i) P b (H.o b y) (by omega)
  rw[bMj G] at this;exact this)
 have I:Hid (∀b,bB W b→Calls prog 257 #[.slice (some ⟨gb,i,none⟩) size (m-i),.string ⟨#[]⟩] b (rZ b (.string ⟨P.flatten.toArray⟩))):=hZ (fun b y=>bAl gb i (m-i) size P b (H.o b y) D (by omega) ab)
 have an:=bCd gb D aq (by omega:l.length≤m) A.2.2.1
 have am:=hZ U;obtain⟨c,Y⟩:=nZ (l.getD i cD);have ad:Hid (∀b,bB W b→b.cell? ⟨R,i*4,none⟩=some (c.1:Nat)):=hZ (fun b y=>by
  have h1:=jJ (ak.below y) (show i<l.length by omega)
  rw[r9,←Y] at h1;exact h1 0 _ rfl)
 rw[←Y] at am;obtain⟨be,ae⟩:=nZ (m-i);rw[←ae] at ac I an;have ar:=hZ E;have bf:(i:Int)<(l.length:Int):=by omega
 have bh:0≤(i:Int):=by omega
 have bi:(i:Int)+(size:Int)≤9223372036854775807:=by omega
 rw[Z];clear z ap ab Y ae H e0 al U G E ak A aa Z;go_in;go_wp21;go_loopw [8] (fun aw wr=>aw= .int .i64 (i:Nat)∧Hid (bB W wr)) (fun _ _=>0)
 case atStart=>exact⟨by rw[ar.o];rfl,hZ (i4 _ _)⟩
 case round=>
  obtain⟨rfl,au⟩:=hrel;go_upto_region 4 with fail
  refine(wpIn_wide (n:=ah+1)).1 (wpIn_region_any (by kernel_rfl) ?_)
  change wpAnyIn _ _ _ _ _ _ _ _ _ (World.drew wr)
  have J:=hZ au.o.drew;refine rti 0 ?_;refine rri [1] (rci (fun K f=>?_) bNv)
  refine oM ?_;go_simp;refine(ac.o _ J.o).mono ?_;rintro e bj ⟨rfl,af⟩;have r:=hZ (J.o.trans (af.mono J.o.size));clear af;refine f _ _ ?_;clear f K;refine rti 2 ?_;refine rti 3 ?_;refine rti 4 ?_;refine rti 5 ?_;refine rti 6 ?_;refine rti 7 ?_ (hy:=by(intro w';go_simp;first|with_reducible rfl|rw[i6 (by omega)]))
  refine rti 8 ?_;refine rti 10 ?_;have bk:=ad.o _ r.o;refine rri [9,11] (rci (fun K f=>?o9) (rci (fun K f=>?o11) bNv))
  case' o9=>
   refine oM ?_;go_simp;refine f _ _ ?_;clear f K;refine rri [11] (rci (fun K f=>?_) bNv)
   refine oM ?_;go_simp;refine(I.o _ r.o).mono ?_;rintro e ax ⟨rfl,N⟩;have O:=hZ (r.o.trans (N.mono r.o.size));refine f _ _ ?_
  case' o11=>
   refine oM ?_;go_simp;refine(I.o _ r.o).mono ?_;rintro e ax ⟨rfl,N⟩;have O:=hZ (r.o.trans (N.mono r.o.size));have bl:=ad.o _ O.o;refine f _ _ ?_;clear f K;refine rri [9] (rci (fun K f=>?_) bNv)
   refine oM ?_;go_simp;refine f _ _ ?_
  all_goals
   clear f K;refine rri [12] (rci (fun K f=>?_) bNv)
   obtain⟨fn,az,assign,body,hy,ay⟩:=am.o _ O.o;go_simp;refine ay.mono ?_;rintro e bm ⟨rfl,av⟩;refine f _ _ ?_;clear f K;refine rti 13 ?_;refine rti 14 ?_;refine wpAnyIn_done (by kernel_rfl) ?_ _
   go_wp21;refine l9 (results_none rfl _ _ _) rfl ?_;exact⟨⟨_,rfl⟩,av⟩
section
attribute [local go_sem ↓] iL fN
theorem aHm (l:List bJ) (F:Nat→Bs) (k:Nat):yS l F (List.range (k+1))=yS l F (List.range k)++(if(l.getD k cD).2.2.1=true then[] else F k):=by
 unfold yS;rw[bMk,bNn,bMb,List.flatMap_nil,bMv]
theorem aPy {l:List bJ} {F:Nat→Bs} (h:∀i,(F i).length≤64):∀k,(yS l F (List.range k)).length≤64*k
 |0=>d8 _
 |k+1=>by
  have:=aPy (l:=l) h k;have h2:=h k;rw[aHm,i7];split
  ·simp;omega
  ·omega
theorem aZx (gl lc:Nat) (l:List bJ) (gb gc:Nat) (got:List Bs) (w:World) (hl:RSl w 4 (some ⟨gl,0,none⟩) l.length lc (eM l)) (hg:sS w (some ⟨gb,0,none⟩) got.length gc (eQ got)) (hgl:got.length=l.length) (hn:l.length≤32) (hsm:∀s∈got,s.length≤64) (hne:∀i,i<l.length→(l.getD i cD).2.2.1=false→got.getD i []≠[]):
  Calls prog 262 #[.slice (some ⟨gl,0,none⟩) l.length lc,.slice (some ⟨gb,0,none⟩) got.length gc,.int .i64 (-1)] w fun e w'=>e= .returned (.string ⟨(yS l (fun i=>got.getD i []) (List.range l.length)).toArray⟩)∧Below w.heap.size w w':=by
 have HLR:Hid (∀W,Below w.heap.size w W→RSl W 4 (some ⟨gl,0,none⟩) l.length lc (eM l)):=hZ (fun W hW=>hl.below hW)
 have HGR:Hid (∀W,Below w.heap.size w W→∀j,j<l.length→W.cell? ⟨gb,j,none⟩=some (.string ⟨(got.getD j []).toArray⟩)):=hZ (fun W hW j hj=>aNs (hg.below hW) rfl (by omega))
 have HSM:=hZ (aTw hsm);have HNE:=hZ hne;obtain⟨w0,hw0⟩:=nZ (w.alloc (.cells #[.pointer none,.slice none 0 0] 217));obtain⟨b,hb⟩:=nZ w.heap.size;have HBL0:Hid (Bld w0 b []):=hZ (by rw[hw0,hb];exact Bld.new w)
 have HB0:Hid (Below w.heap.size w w0):=hZ (by rw[hw0];exact bZ)
 have HBW:Hid (w.heap.size≤b):=hZ (by omega)
 rw[hgl];clear hl hg hgl hsm hne;go_enter func262,ntmps262;go_upto_region 2 with fail
 rw[←hw0,←hb];clear hw0 hb;go_wp2_with fail;go_loopw [13] (fun vi wr=>∃k:Nat,vi= .int .i64 k∧k≤l.length∧Hid (Bld wr b (yS l (fun i=>got.getD i []) (List.range k)))∧Hid (Below w.heap.size w wr)) (fun vi _=>l.length-(intOf vi).toNat)
 case atStart=>exact⟨0,rfl,by omega,HBL0,HB0⟩
 case round=>
  obtain⟨k,rfl,hk,HBL,HBR⟩:=hrel;have HOL:=hZ (aPy (l:=l) HSM.o k);obtain⟨O,hO⟩:=nZ (yS l (fun i=>got.getD i []) (List.range k))
  rw[←hO] at HBL HOL;have HO:=hZ hO;clear hO;have hsr:=HBR.o.size;by_cases hkn:k<l.length
  ·have q1:(k:Int)<(l.length:Int):=by omega
   have q2:0≤(k:Int):=by omega
   obtain⟨c,hc⟩:=nZ (l.getD k cD);have hrg:=jJ (HLR.o wr HBR.o) hkn;rw[←hc,r9] at hrg;have hl1:=fun op a next Q=>dP (P:=prog) (t:=311) hrg underlying311 rfl vM op a next Q
   have hst:=fun op a next Q=>jN c wr op a next Q
   obtain⟨w3,hw3⟩:=nZ (wr.alloc (.cells (dI c).toArray 311));obtain⟨g3,hg3⟩:=nZ wr.heap.size;have hB3:Blk w3 g3 311 (dI c):=by rw[hw3,hg3];exact Blk.new wr _ _
   have hb3:Below wr.heap.size wr w3:=by rw[hw3];exact bZ
   have HB3:=hZ (HBR.o.trans (hb3.mono hsr));have HBL3:=hZ (HBL.o.below hb3);have e6:=HGR.o w3 HB3.o k hkn;have HSG:=hZ (HSM.o k);have HCS:=hZ (aHm l (fun i=>got.getD i []) k)
   have HXN:=hZ (HNE.o k hkn);obtain⟨x,hx⟩:∃x:Bs,x=got.getD k []:=⟨_,rfl⟩;rw[←hx] at e6 HSG HCS HXN;rw[←hc,←HO.o] at HCS;rw[←hc] at HXN;obtain⟨c0,c1,cp,cr⟩:=c;have e2:w3.cell? ⟨g3,2,none⟩=some (.bool cp):=hB3.cell 2;have e0:w3.cell? ⟨g3,0,none⟩=some (.int .i64 (c0:Nat)):=hB3.cell 0;clear hrg hB3 hc hb3 hx;go_upto_region 5 with fail
   rw[←hw3,←hg3];clear hw3 hg3 hst hl1
   cases cp with
   |true=>
    have hr2:Hid (Bld w3 b (yS l (fun i=>got.getD i []) (List.range (k+1)))):=hZ (by rw[HCS.o,i6 rfl,bMv];exact HBL3.o)
    go_wp2_with fail;go_roundw
    case rel=>exact⟨k+1,by go_num,by omega,hr2,HB3⟩
    case measure=>simp[intOf];omega
   |false=>
    have r1:((c0:Int) == -1)=false:=by rw[beq_eq_false_iff_ne];omega
    cases x with
    |nil=>exact absurd rfl (HXN.o rfl)
    |cons y0 yr=>
     have r2:(y0::yr:Bs)≠[]:=by simp
     have HW:=hZ (aBp b O (y0::yr) w3 HBL3.o (by have:=HOL.o;have:=HSG.o;omega))
     have HCE:Hid (yS l (fun i=>got.getD i []) (List.range (k+1))=O++(y0::yr)):=hZ (by rw[HCS.o,i9 Bool.false_ne_true])
     go_wp2_with fail;refine HW.o.mono ?_;rintro e w5 ⟨rfl,hbd5,hb5,_⟩;have HBL5:=hZ (show Bld w5 b (yS l (fun i=>got.getD i []) (List.range (k+1))) by rw[HCE.o];exact hbd5)
     have HB5:=hZ (HB3.o.trans (hb5.mono HBW.o));clear hbd5 hb5;go_wp2_with fail;go_roundw
     case rel=>exact⟨k+1,by go_num,by omega,HBL5,HB5⟩
     case measure=>simp[intOf];omega
  ·obtain rfl:k=l.length:=by omega
   have q1:¬(l.length:Int)<(l.length:Int):=by omega
   have HS:=hZ (wH b O wr HBL.o);go_wp2_with fail;refine HS.o.mono ?_;rintro e w2 ⟨rfl,hb2,_⟩;have HB2:=hZ (HBR.o.trans (hb2.mono HBW.o));clear hb2;go_wp2_with fail;go_ret;exact⟨by rw[HO.o];rfl,HB2.o⟩
theorem aZy (m r:Nat) (l:List bJ) (gb I:Nat) (h:List Bs) (bi bj:Nat) (bk:World→Prop) (W:World) (s:Bs)
  (af:RSl W 4 (some ⟨m,0,none⟩) l.length r (eM l)) (J:sS W (some ⟨gb,0,none⟩) h.length I (eQ h)) (D:h.length=l.length) (cm:l.length≤32) (h1:0<(dN l).length) (an:∀s∈h,s.length≤64) (ap:∀i,i<l.length→(l.getD i cD).2.2.1=false→h.getD i []≠[]) (bl:yS l (fun i=>h.getD i []) (List.range l.length)=s) (aq:s≠[])
  (bm:∀bn,Below W.heap.size W bn→YieldAt Fence.wide bi prog bj #[.int .i64 (-1),.string ⟨s.toArray⟩] bn fun e b=>e= .returned (.bool false)∧bk b):
  Calls prog 206 #[.slice (some ⟨m,0,none⟩) l.length r,.slice (some ⟨gb,0,none⟩) h.length I,.func (.yield bj) #[] #[]] W fun e b=>(∃v,e= .returned v)∧bk b:=by
 have bz:Hid (∀b,Below W.heap.size W b→Calls prog 262 #[.slice (some ⟨m,0,none⟩) l.length r,.slice (some ⟨gb,0,none⟩) l.length I,.int .i64 (-1)] b fun e w'=>e= .returned (.string ⟨s.toArray⟩)∧Below b.heap.size b w'):=hZ (fun b bo=>by
  have:=aZx m r l gb I h b (af.below bo) (sS.below J bo) D cm an ap;rw[D,bl] at this;exact this)
 have ca:=hZ (aSr (some ⟨m,0,none⟩) l.length r (eM l) W af (zY l) (by omega))
 have E:=aSy l l.length (d8 _);rw[bLz] at E;have dc:(dN l).length≤l.length:=List.length_filter_le _ _;have cb:=hZ bm;have ar:=hZ aq;have cc:=aWu h1;have dd:=aXy (dN l);have cd:0<l.length:=by omega
 rw[D];have ce:Hid (∀g cap (y:World),y.ownsRow W.heap.size 311 4 (.slice (some ⟨g,0,none⟩) l.length cap) l.length (eM l)→Calls prog 258 #[.slice (some ⟨g,0,none⟩) l.length cap,.func (.func 260) #[] #[]] y fun e w'=>e= .returned (.slice (some ⟨g,0,none⟩) (dN l).length cap)∧w'.ownsRow W.heap.size 311 4 (.slice (some ⟨g,0,none⟩) (dN l).length cap) (dN l).length (eM (dN l))∧y.grownBy w' (some g)):=hZ (fun g cap y bx=>by
  have:=aCz 260 #[] (fun j=>(l.getD j cD).2.2.1) W.heap.size g l.length cap (eM l) y bx (by omega) (zY l) (enters_of func260 (by kernel_rfl) rfl) (fun j cn co _=>by
   have e:∀i,i<4→(eM l).getD (j*4+i) undef=(dI (l.getD j cD)).getD i undef:=fun i N=>by
    rw[a8,show eM l=l.flatMap dI from rfl,jQ (f:=dI) (K:=4) (fun _=>rfl) l j i cD cn N,←a8]
   have e0:=e 0 (by omega)
   have cp:=e 1 (by omega)
   have cq:=e 2 (by omega)
   have cr:=e 3 (by omega)
   rw[Nat.add_zero] at e0;rw[e0,cp,cq,cr];exact bEp (l.getD j cD) co)
  rw[E.1,E.2] at this;exact this)
 clear af J D an bm E aq ap bl;go_enter func206,ntmps206;go_wp2_with fail;refine ca.o.mono ?_;rintro e bq ⟨v1,rfl,A,Z⟩;obtain⟨O,ag,rfl⟩:=bT A cd;have au:=hZ (ce.o O ag bq A);have cf:Hid (∀c,bq.grownBy c (some O)→Below W.heap.size W c):=hZ (fun c J=>cF (v:= .slice (some ⟨O,0,none⟩) l.length ag) Z A J Z.size (d8 _))
 clear A Z;go_wp2_with fail;refine au.o.mono ?_;rintro e c ⟨rfl,al,am⟩;have aa:=hZ (cf.o c am);have cg:=hZ al;clear al am au;obtain⟨R,G⟩:=nZ (c.alloc (.cells #[.int .i64 (-1)] 3));obtain⟨ah,H⟩:=nZ c.heap.size;have ab:Below c.heap.size c R:=by rw[G];exact bZ
 have av:=hZ (aa.o.trans (ab.mono aa.o.size));have aw:Blk R ah 3 [.int .i64 (-1)]:=by rw[G,H];exact Blk.new _ _ _
 have ch:Hid (R.ownsRow W.heap.size 3 1 (.slice (some ⟨ah,0,none⟩) 1 1) 1 (kC [-1])):=hZ (by
  have:=gQ (base:=W.heap.size) (n:=1) (cap:=1) (size:=1) aw (by rw[H];exact aa.o.size) (d8 _) (by unfold maxLen;omega) rfl
  exact this)
 have ax:=hZ (bEn (some ⟨O,0,none⟩) ag (dN l) R (bI (aD cg.o ab)) (by omega) h1)
 clear ab aw;go_wp2_with fail;rw[←G,←H];clear G H;refine ax.o.mono ?_;rintro e w4 ⟨v4,rfl,X,ac⟩;obtain⟨cs,ct,rfl⟩:=bT X cc;have ay:=hZ (av.o.trans (ac.mono av.o.size));have ad:=hZ (aD ch.o ac);obtain⟨cu,N,az,ba,bc⟩:=bMo aJy;have br:1+(kB (dN l)).length≤maxLen:=by unfold maxLen;omega
 have bs:(1+(kB (dN l)).length)*8≤140737488355328:=by omega
 have ai:W.heap.size≤w4.heap.size:=ay.o.size;have bd:=hZ (RSl.news (bI X));have be:Hid (∀u∈kC (kB (dN l)),u.oneCell'=true):=hZ (fun u bt=>by
  unfold kC at bt;obtain⟨z,_,rfl⟩:=bMn.1 bt;rfl)
 have ci:0<1+(kB (dN l)).length:=by omega
 have bf:Hid ((kC (kB (dN l))).length=(kB (dN l)).length*1):=hZ (by simp[kC])
 clear X ac ax;go_wp2_with (at_builtin;go_must (refine bOa _ rfl (.tmp 13) (.tmp 15) 107 rfl W.heap.size 3 cu (.int .i64 0) 1 8 underlying107 N az ba bc rfl (by decide) (.slice (some ⟨ah,0,none⟩) 1 1) 1 (kC [-1]) rfl ad.o ⟨cs,0,none⟩ (kB (dN l)).length ct (kC (kB (dN l))) rfl bf.o bd.o be.o br bs ai ?_;intro v5 U Y ak _ _;obtain⟨bu,cv,rfl⟩:=bT Y ci))
 have ae:Hid (Below W.heap.size W U):=hZ (cF ay.o ad.o ak ai (d8 _));obtain⟨n,cj⟩:=nZ (1+(kB (dN l)).length);obtain⟨k,aj⟩:∃k:Nat,k=0:=⟨_,rfl⟩;have cw:=hZ aj;have cx:U.cell? ⟨bu,k,none⟩=some (.int .i64 (-1)):=by
  rw[aj];have cy:=bDv (l:= -1::kB (dN l)) (j:=0) (show U.ownsRow W.heap.size 3 1 (.slice (some ⟨bu,0,none⟩) (1+(kB (dN l)).length) cv) (1+(kB (dN l)).length) (kC (-1::kB (dN l))) from Y) (by simp)
  exact cy
 have df:(k:Int)<(n:Int):=by omega
 have dg:0≤(k:Int):=by omega
 rw[show(1:Int)+((kB (dN l)).length:Int)=(n:Int) by omega,←cj]
 clear Y ak ad bd be bf br bs ai N az ba bc aj;go_wp2_with fail;go_loopw [18] (fun cz wr=>cz= .int .i64 (k:Nat)∧wr=U) (fun _ _=>0)
 case atStart=>exact⟨by rw[cw.o];rfl,rfl⟩
 case round=>
  obtain⟨rfl,rfl⟩:=hrel;have bv:=hZ (bz.o wr ae.o);have de:=hZ ar.o;go_wp2_with fail;refine bv.o.mono ?_;rintro e da ⟨rfl,bh⟩;have ck:=hZ (cb.o da (ae.o.trans (bh.mono ae.o.size)));clear bh bv cx
  cases s with
  |nil=>exact absurd rfl ar.o
  |cons dh di=>
   go_upto_region 5 with fail
   refine(wpIn_wide (n:=bi+1)).1 ?_;obtain⟨fn,db,assign,body,hy,bw⟩:=ck.o
   repeat gi_step
   refine bw.mono ?_;rintro e dj ⟨rfl,cl⟩;clear bw hy;dsimp only
   repeat (first|gi_step|refine⟨fun _ _=>trivial,?_⟩)
   go_wp2_with fail;refine l9 (results_none rfl _ _ _) rfl ?_;exact⟨⟨_,rfl⟩,cl⟩
end
def aAy (gs:Gs) (g a size:Nat) (got:List Bs) (d:Int) (s:Bs):Prop:=
 ((gs.getD g (0,0)).1=0→[]∉got.take size∧d=(((aI gs g a size).getD 0 cD).1:Nat)∧s=(got.take size).flatten)∧
 ((gs.getD g (0,0)).1≠0→(∀i,i<(aI gs g a size).length→((aI gs g a size).getD i cD).2.2.1=false→got.getD i []≠[])∧d= -1∧yS (aI gs g a size) (fun i=>got.getD i []) (List.range (aI gs g a size).length)=s∧s≠[])
theorem bFz (bf bh bi bj:Nat) (I:Option Addr) (R:Nat) (gs:Gs) (secs:Int) (g a size:Nat) (gb cap:Nat) (f:List Bs) (aj E:Nat) (d:Int) (s:Bs) (G:World→Prop) (W:World)
  (h1:Blk W bf 24 [.slice I gs.length R,.int .i64 secs]) (h2:Blk W bh 46 [.int .i64 (g:Nat),.int .i64 (a:Nat)]) (ak:Blk W bi 3 [.int .i64 (size:Nat)]) (al:Blk W bj 80 [.slice (some ⟨gb,0,none⟩) f.length cap])
  (U:oZ W I gs.length R gs) (J:dO gs secs g a size=true) (N:sS W (some ⟨gb,0,none⟩) f.length cap (eQ f)) (X:f.length=(aI gs g a size).length) (am:f.all nA=true)
  (hF:aAy gs g a size f d s)
  (an:∀H,Below W.heap.size W H→YieldAt Fence.wide aj prog E #[.int .i64 d,.string ⟨s.toArray⟩] H fun e c=>e= .returned (.bool false)∧G c):
  Calls prog 203 #[.func (.yield E) #[] #[],.pointer (some ⟨bf,0,none⟩),.pointer (some ⟨bh,0,none⟩),.pointer (some ⟨bi,0,none⟩),.pointer (some ⟨bj,0,none⟩)] W fun e c=>(∃v,e= .returned v)∧G c:=by
 have Z:=aIa I R gs secs g a size W U J f (some ⟨gb,0,none⟩) cap N X;rw[am] at Z;have aw:=hZ Z;have aa:=jW J;have O:=bK J;have ax:g<gs.length:=by have:=O.2.2.1;omega
 have ay:0<size:=by have:=O.2.2.2.1;omega
 have bn:=bM O.1 ax;have az:Hid (∀c,Below W.heap.size W c→∃b off,I=some ⟨b,off,none⟩∧c.cell? ⟨b,off+g*2,none⟩=some (.int .i64 (gs.getD g (0,0)).1)):=hZ (fun c y=>by
  obtain⟨b,off,e,_,bq⟩:=(U.below y).at_ (by omega)
  exact⟨b,off,e,(bq g ax).1⟩)
 have ba:=hZ (fun c (y:Below W.heap.size W c)=>pP I gs.length R gs secs g a size c (U.below y) J)
 have ab:∀s∈f,s.length≤64:=fun s br=>by
  have:=List.all_eq_true.1 am s br;unfold nA at this;simp only[bLt] at this;rcases this with rfl|h
  ·simp
  ·omega
 have ac:Hid ((gs.getD g (0,0)).1=0→∀m r c,RSl c 4 (some ⟨m,0,none⟩) (aI gs g a size).length r (eM (aI gs g a size))→Below W.heap.size W c→Calls prog 205 #[.slice (some ⟨m,0,none⟩) (aI gs g a size).length r,.int .i64 (size:Nat),.slice (some ⟨gb,0,none⟩) f.length cap,.func (.yield E) #[] #[]] c fun e c=>(∃v,e= .returned v)∧G c):=hZ (fun z m r c ad y=>by
  obtain⟨ap,rfl,rfl⟩:=hF.1 z;refine bDf m r _ gb cap f size aj E G c ad (sS.below N y) X aa.2 ay ?_ ab ap (fun H h1=>an H (y.trans (h1.mono y.size)))
  unfold aI;rw[i6 z,dA];exact Nat.le_mul_of_pos_left size (by omega))
 have ae:Hid ((gs.getD g (0,0)).1≠0→∀m r c,RSl c 4 (some ⟨m,0,none⟩) (aI gs g a size).length r (eM (aI gs g a size))→Below W.heap.size W c→Calls prog 206 #[.slice (some ⟨m,0,none⟩) (aI gs g a size).length r,.slice (some ⟨gb,0,none⟩) f.length cap,.func (.yield E) #[] #[]] c fun e c=>(∃v,e= .returned v)∧G c):=hZ (fun z m r c ad y=>by
  obtain⟨ap,rfl,bs,bt⟩:=hF.2 z;exact aZy m r _ gb cap f aj E G c s ad (sS.below N y) X aa.2 (by unfold aI;rw[i9 z,vC];exact ay) ab ap bs bt (fun H h1=>an H (y.trans (h1.mono y.size))))
 have af:=hZ h1;have ag:=hZ h2;have bc:=hZ ak;have bo:=hZ al;have x0:=h1.cell 0;have bu:=h1.cell 1;have bk:=h2.cell 0;have y1:=h2.cell 1;have bl:=ak.cell 0;have z1:=al.cell 0;obtain⟨L,aq⟩:=nZ (aI gs g a size);obtain⟨ar,ah⟩:=nZ ((gs.getD g (0,0)).1);rw[←aq,←ah] at ac ae;rw[←aq] at ba aa;rw[←ah] at az;clear h1 h2 ak al U J N X am an Z hF aq ah ab O bn;have ca:(g:Int)<(gs.length:Int):=by omega
 have cb:0≤(g:Int):=by omega
 go_enter func203,ntmps203;go_wp2_with fail;refine aw.o.mono ?_;rintro e bv ⟨rfl,A⟩;have ai:=hZ A;have x0:=(af.o.below A).cell 0;have bu:=(af.o.below A).cell 1;have bk:=(ag.o.below A).cell 0;have y1:=(ag.o.below A).cell 1;have bl:=(bc.o.below A).cell 0;clear A aw;go_wp2_with fail;refine(ba.o bv ai.o).mono ?_;rintro e au ⟨v2,rfl,Y,bd⟩;obtain⟨m,r,rfl⟩:=bT Y (by omega)
 have D:=hZ (ai.o.trans (bd.mono ai.o.size));have be:=hZ (bI Y);obtain⟨b,off,rfl,bz⟩:=az.o au D.o;have x0:=(af.o.below D.o).cell 0;have bk:=(ag.o.below D.o).cell 0;have bl:=(bc.o.below D.o).cell 0;have z1:=(bo.o.below D.o).cell 0;clear Y bd;by_cases z:ar=0
 case' pos=>
  have bm:=hZ (ac.o z m r au be.o D.o);have bw:(ar == 0)=true:=by simp[z]
 case' neg=>
  have bm:=hZ (ae.o z m r au be.o D.o);have bw:(ar == 0)=false:=by simp[z]
 all_goals
  clear ac ae;go_wp2_with fail;refine bm.o.mono ?_;rintro e cc ⟨⟨v,rfl⟩,av⟩;have bx:=hZ av;clear av;go_wp2_with fail;go_end0;exact⟨⟨_,rfl⟩,bx.o⟩
section
variable {F:Fence} {n:Nat} {P:Program}
theorem bIv {g:Operand}
  (Z:F.round=none) (h1:1≤n) (ae:a.eval g= .func (.func gf) #[] lb) (aa:F.fn gf) (af:∀args w,(callFunc gf args).run P w= .ok (.enter gf args) w)
  (x:Array Value) (ab:x.size=ps.size) (T:World→Prop) (hT:∀W l o ag,w.heap.size≤l→W.heap[l]?=some o→o.isCells=false→T W→T (W.putObj l ag))
  (Y:∀l W (R:World→Prop),bB w W→(∀b,bB W b→YieldAt F (n-1-1) P l x b fun e m=>e= .returned false∧R m)→CallsIn F (n-1) P gf (#[.func (.yield l) #[] #[]]++lb) W fun e m=>(∃v,e= .returned v)∧R m)
  (hround:∀l W,w.heap.size≤l→bB w W→assign.wpIn (F.inRound l) (n-1-1) P (Exit.then (fun U m=>m=W∧∀E,bB w E→body.wpIn (F.inRound l) (n-1-1) P (fun e _ H=>e= .ret∧KeepsFrom w.heap.size E H∧T H) U E) (fun _ _ _=>False)) {tmps:=(ps.zip x).foldl (fun t (p,v)=>t.setIfInBounds p v) a.tmps,defers:=[]} W)
  (hstop:∀J W,w.heap.size≤J→T W→W.heap[J]?=some (.deferred (some []))→Code.ret.wpIn F n P Q {a with defers:={target:= .collected J,args:=#[]}::a.defers} W):
  (Code.rangeFunc g ps assign body).wpIn F n P Q a w:=by
 refine wpIn_rangeFunc ?_;intro fn ac;rw[Z];obtain⟨c,f⟩:∃c:LoopState→Option Code→Loop,c=fun st ah=>{state:=st,pending:=ah,fn,tmps:=a.tmps,params:=ps,assign,body,defers:=w.heap.size}:=⟨_,rfl⟩
 obtain⟨b,y⟩:∃b,(w.alloc (.deferred (some []))).alloc (.loop (c .ready none))=b:=⟨_,rfl⟩;have ai:b.heap[w.heap.size+1]?=some (.loop (c .ready none)):=by
  rw[←y];have:=World.alloc_heap_new (w.alloc (.deferred (some []))) (.loop (c .ready none));rwa [World.size_alloc] at this
 have aj:b.heap[w.heap.size]?=some (.deferred (some [])):=by
  rw[←y];exact(Below.heap_alloc _ _ _ (by simp)).trans (World.alloc_heap_new w _)
 have A:bB w b:=by rw[←y];exact((i4 _ w).alloc (d8 _) _).alloc (by simp) _
 refine⟨w.heap.size+1,[{target:= .collected w.heap.size,args:=#[]}],b,{target:= .fn (.func gf) lb,args:=#[.func (.yield (w.heap.size+1)) #[] #[]]},b,gf,#[.func (.yield (w.heap.size+1)) #[] #[]]++lb,b,?_,?_,?_,?_,fun _=>h1,?_⟩
 ·rw[←y,f];exact run_enterLoop_outer _ _ _ _ _
 ·simp only[resolve,ae];simp[go_sem]
 ·intro al N;simp[Target.leads] at N;subst N;exact aa
 ·simp[invoke,go_sem,af]
 refine(Y (w.heap.size+1) b (fun W=>T W∧W.heap[w.heap.size+1]?=some (.loop (c .done (some .ret)))∧W.heap[w.heap.size]?=some (.deferred (some []))) A (fun W G=>?_)).mono ?_
 ·have z:=(G.block _ (by rw[←y];simp)).trans ai
  have I:=(G.block _ (by rw[←y];simp;omega)).trans aj
  have hy:=run_yield (P:=P) (args:=x) z (by rw[f];exact ab)
  rw[f] at hy;refine⟨fn,_,assign,body,hy,roundIn_of_wpIn ac (wpIn_mono (hround _ W (by omega) (A.trans (G.mono A.size))) ?_)⟩
  rintro e U m h;have ak:e= .normal:=by cases e<;>first|rfl|exact h.elim
  subst ak;obtain rfl:W=m:=h.1.symm;have ad:=World.putObj_heap_same (w:=W) (r:=w.heap.size+1) (o:= .loop {c .ready none with state:= .busy}) ((i8.1 z).1)
  refine⟨_,run_beginRound z (by rw[f]),wpIn_mono (h.2 _ ?_) ?_⟩
  ·have X:=A.trans (G.mono A.size)
   exact X.grown (grownBy_putObj' _ _ _) X.size (fun k e=>by cases e;omega)
  rintro e am H ⟨rfl,O,ht⟩;have D:=O.same _ _ (by omega) ad rfl
  have hr:=run_endRound (P:=P) (some .ret) D;rw[f] at hr D⊢;exact⟨_,_,hr,rfl,hT _ _ _ _ (by omega) D rfl ht,World.putObj_heap_same ((i8.1 D).1),(World.putObj_heap_other (by omega)).trans (O.same _ _ (d8 _) ((World.putObj_heap_other (w:=W) (r:=w.heap.size+1) (k:=w.heap.size) (o:= .loop {c .ready none with state:= .busy}) (by omega)).trans I) rfl)⟩
 ·rintro e E ⟨⟨v,rfl⟩,ht,z,I⟩
  exact⟨some .ret,_,by have:=run_endLoop (P:=P) z (by rw[f];simp);rw[f] at this;exact this,hstop _ _ (d8 _) (hT _ _ _ _ (by omega) z rfl ht) ((World.putObj_heap_other (by omega)).trans I)⟩
end
section
open Go.RowKit Go.Shelf
variable {ms:List MT} {x x0:aK} {dst:Option Tmp} {n' nd:aM} {Q:Exit→Act→World→Prop} {K next:Act→World→Prop} {W w w':World} {L:List (aC×Bs)} {bb cap d eb frm fuel g g8 gR gS gT gf i j k off pb sb tx:Nat} {a a':Act} {assign body:Code} {u v:Value} {o oi:Oper} {ps:Array Tmp} {l out:List aC} {ao wk ws:Option Addr} {gs:Gs} {guard:Option (Nat×Bool)} {p q:aC} {l' listed:Array Bool} {dn:Option Nat} {fn:Func} {F T:Nat→Prop} {es:List Nat} {lv secs:Int} {lb:Array Value} {st:List (Nat×Nat)} {s t text:Bs} {after:Array Edge} {sc:List Value} {V:kE}
attribute [local go_sem ↓] aIt
attribute [local go_sem] Oper.semAt_some
attribute [local go_sem ↓] Go.wp_at_zero Go.wp_at_succ
theorem at1 (h:bV w x V F) (hr:x.right=true) (p:aC) (g a size:Nat) (hp:p.size=(size:Nat)) (hm:dO x.gs x.secs g a size=true) (hf:(kG x g a size).all nA=true) {d:Int} (hF:aAy x.gs g a size (kG x g a size) d s) (hsl:s.length≤2048) (hsum:p.sumIs s=true):
    Calls prog 73 #[V.val x.secs,.agg (aA p).toArray,.agg #[.int .i64 (g:Nat),.int .i64 (a:Nat)]] w fun e w'=>e= .returned (.tuple #[.agg (gH s 0 d 0).toArray,.bool true,.bool true])∧Below w.heap.size w w':=by
  obtain⟨ga,gc,la,lc,wa,wc,hV,hg⟩:=h.form;obtain⟨ag,aa,bg,ba,two,psize,lev,bir,s0,s1,s2,s3⟩:=p;obtain rfl:psize=(size:Nat):=hp;have HRW:=hZ (fun W (hW:Below w.heap.size w W)=>aVa (h.below hW) hr g a size hm)
  have hVV:V.val x.secs= .agg #[.slice ga x.gs.length gc,.int .i64 x.secs,.slice la x.ds.length lc,.slice wa x.ds.length wc]:=by rw[hV];rfl
  rw[hVV] at HRW⊢;have hLn:(kG x g a size).length=(aI x.gs g a size).length:=by unfold kG;rw[List.length_map]
  obtain⟨got,hgot⟩:=nZ (kG x g a size);rw[←hgot] at hLn hf HRW hF;have HLN:=hZ hLn;have HF:=hZ hf;have HF1:=hZ hF;have HSU:=hZ hsum;have HSL2:=hZ hsl;have HM:=hZ hm;have HG:=hZ hg;rw[←hLn] at HRW;have hn0:0<got.length:=by
    rw[hLn];have:=(jW hm).1;omega
  have HN0:=hZ hn0;obtain⟨n,hn⟩:=nZ got.length;have HNN:=hZ hn;rw[←hn] at HRW;clear hVV hLn hgot hn0 hf hm hg h hr hn hF hsum hsl;obtain⟨dsn,hdsn⟩:=nZ x.ds.length;obtain⟨gsn,hgsn⟩:=nZ x.gs.length;rw[←hdsn,←hgsn] at HRW⊢;have HGS:=hZ hgsn;clear hdsn hgsn;refine(callsIn_wide (n:=10)).1 (callsIn_of_wp_marks func73 rfl trivial ?_ rfl);refine wpIn_wide.2 ?_;simp only[aA,ntmps73,bOm,bLn,bNm,Nat.reduceAdd,Nat.reduceSub,Array.replicate_succ,Array.replicate_zero,List.push_toArray,List.append_toArray,bMt,List.cons_append];go_wp2_with fail;simp only[bMc,Nat.reduceAdd];obtain⟨W1,hW1⟩:=nZ ((((((w.alloc (.cells #[.slice ga gsn gc,.int .i64 x.secs,.slice la dsn lc,.slice wa dsn wc] 43)).alloc (.cells #[.int .i64 ag,.int .i64 aa,.int .i64 bg,.int .i64 ba,.bool two,.int .i64 (size:Nat),.int .i64 lev,.int .i64 bir,.int .u64 s0,.int .u64 s1,.int .u64 s2,.int .u64 s3] 51)).alloc (.cells #[.int .i64 (g:Nat),.int .i64 (a:Nat)] 46)).alloc (.cells #[.string ⟨#[]⟩,.int .i64 0,.int .i64 0,.int .i64 0] 88)).alloc (.cells #[.bool false] 4)).alloc (.cells #[.bool false] 4));have hb1:Below w.heap.size w W1:=by
    rw[hW1];exact(((((bZ).alloc (by simp) _).alloc (by simp;omega) _).alloc (by simp;omega) _).alloc (by simp;omega) _).alloc (by simp;omega) _
  have k3:Blk W1 w.heap.size 43 [.slice ga gsn gc,.int .i64 x.secs,.slice la dsn lc,.slice wa dsn wc]:=by rw[hW1];exact(((((Blk.new w _ _).alloc _).alloc _).alloc _).alloc _).alloc _
  have k4:Blk W1 (w.heap.size+1) 51 (aA ⟨ag,aa,bg,ba,two,(size:Nat),lev,bir,s0,s1,s2,s3⟩):=by rw[hW1];exact((((Blk.newAt (g:=w.heap.size+1) _ (aA ⟨ag,aa,bg,ba,two,(size:Nat),lev,bir,s0,s1,s2,s3⟩) (by simp)).alloc _).alloc _).alloc _).alloc _
  have k5:Blk W1 (w.heap.size+2) 46 [.int .i64 (g:Nat),.int .i64 (a:Nat)]:=by rw[hW1];exact(((Blk.newAt (g:=w.heap.size+2) _ [.int .i64 (g:Nat),.int .i64 (a:Nat)] (by simp)).alloc _).alloc _).alloc _
  have k6:Blk W1 (w.heap.size+3) 88 (gH [] 0 0 0):=by rw[hW1];exact((Blk.newAt (g:=w.heap.size+3) _ (gH [] 0 0 0) (by simp)).alloc _).alloc _
  have k7:Blk W1 (w.heap.size+4) 4 [.bool false]:=by rw[hW1];exact(Blk.newAt (g:=w.heap.size+4) _ [.bool false] (by simp)).alloc _
  have k8:Blk W1 (w.heap.size+5) 4 [.bool false]:=by rw[hW1];exact Blk.newAt (g:=w.heap.size+5) _ [.bool false] (by simp)
  have hs1:W1.heap.size=w.heap.size+6:=by rw[hW1];simp
  rw[←hW1];clear hW1;refine(HRW.o _ hb1).mono ?_;rintro e w2 ⟨v,rfl,hown,hb2⟩;obtain⟨gb,cap,rfl⟩:=bT hown (by rw[HNN.o];exact HN0.o)
  have HGB:Hid (w.heap.size+6≤gb∧gb<w2.heap.size):=hZ (by have:=hown.lt gb rfl;omega)
  have HSL:Hid (sS w2 (some ⟨gb,0,none⟩) n cap (eQ got)):=hZ (bI hown);have K3:=hZ (k3.below hb2);have K4:=hZ (k4.below hb2);have K5:=hZ (k5.below hb2);have K6:=hZ (k6.below hb2);have K7:=hZ (k7.below hb2);have K8:=hZ (k8.below hb2);have HB2:Hid (Below w.heap.size w w2):=hZ (hb1.trans (hb2.mono hb1.size));have HS2:Hid (w.heap.size+6≤w2.heap.size):=hZ (by have:=hb2.size;omega)
  have a0:=K3.o.cell 0;have a1:=K3.o.cell 1;have a2:=K5.o.cell 0;have a3:=K5.o.cell 1;have a4:w2.cell? ⟨w.heap.size+1,5,none⟩=some (.int .i64 (size:Nat)):=K4.o.cell 5;have HTR:=hZ (fun W=>aZo ga gsn gc x.secs (g:Nat) (a:Nat) (size:Nat) (.slice (some ⟨gb,0,none⟩) n cap) ⟨_,_,_,rfl⟩ W)
  clear k3 k4 k5 k6 k7 k8 hs1 hb1 hb2 hown HRW;go_wp2_with fail;refine(HTR.o _).mono ?_;rintro e w3 ⟨rfl,rfl⟩;go_wp2_with fail;obtain⟨W0,hW0⟩:=nZ ((((w2.alloc (.cells #[.slice ga gsn gc,.int .i64 x.secs] 24)).alloc (.cells #[.int .i64 (g:Nat),.int .i64 (a:Nat)] 46)).alloc (.cells #[.int .i64 (size:Nat)] 3)).alloc (.cells #[.slice (some ⟨gb,0,none⟩) n cap] 80));have hb0:Below w2.heap.size w2 W0:=by rw[hW0];exact(((bZ).alloc (by simp) _).alloc (by simp;omega) _).alloc (by simp;omega) _
  have b1:Blk W0 w2.heap.size 24 [.slice ga x.gs.length gc,.int .i64 x.secs]:=by rw[hW0,HGS.o];exact(((Blk.new w2 _ _).alloc _).alloc _).alloc _
  have b2:Blk W0 (w2.heap.size+1) 46 [.int .i64 (g:Nat),.int .i64 (a:Nat)]:=by rw[hW0];exact((Blk.newAt (g:=w2.heap.size+1) _ [.int .i64 (g:Nat),.int .i64 (a:Nat)] (by simp)).alloc _).alloc _
  have b3:Blk W0 (w2.heap.size+2) 3 [.int .i64 (size:Nat)]:=by rw[hW0];exact(Blk.newAt (g:=w2.heap.size+2) _ [.int .i64 (size:Nat)] (by simp)).alloc _
  have b4:Blk W0 (w2.heap.size+3) 80 [.slice (some ⟨gb,0,none⟩) got.length cap]:=by rw[hW0,HNN.o];exact Blk.newAt (g:=w2.heap.size+3) _ [.slice (some ⟨gb,0,none⟩) got.length cap] (by simp)
  have hs0:W0.heap.size=w2.heap.size+4:=by rw[hW0];simp
  rw[←hW0];clear hW0 HTR a0 a1 a2 a3 a4;have hge:=HGB.o;have hge2:=HS2.o;refine(wpIn_wide (n:=10)).1 (bIv rfl (by omega) (gf:=203) (lb:=#[.pointer (some ⟨w2.heap.size,0,none⟩),.pointer (some ⟨w2.heap.size+1,0,none⟩),.pointer (some ⟨w2.heap.size+2,0,none⟩),.pointer (some ⟨w2.heap.size+3,0,none⟩)]) rfl trivial (enters_of func203 (by kernel_rfl) rfl)
    #[.int .i64 d,.string ⟨s.toArray⟩] rfl (fun W=>Blk W (w.heap.size+3) 88 (gH s 0 d 0)∧Blk W (w.heap.size+4) 4 [.bool true]∧Blk W (w.heap.size+5) 4 [.bool true]∧Below w.heap.size w W) ?hT
    (fun l W Jx hW hY=>callsIn_wide.2 (bFz w2.heap.size (w2.heap.size+1) (w2.heap.size+2) (w2.heap.size+3) ga gc x.gs x.secs g a size gb cap got _ l d s Jx W (b1.below hW) (b2.below hW) (b3.below hW) (b4.below hW) (HG.o.below ((HB2.o.trans (hb0.mono (by omega))).trans (hW.mono (by omega)))) HM.o (sS.below (sS.below (by rw[←HNN.o];exact HSL.o) hb0) hW) HLN.o HF.o HF1.o hY))
    ?hround ?hstop)
  case hT=>
    intro W l o o' hl ho hc ⟨a1,a2,a3,a4⟩;have hg:=grownBy_putObj' W l o';have hno:∀r,some l=some r→∃o:Obj,W.heap[r]?=some o∧o.isCells=false:=fun r e=>by cases e;exact⟨_,ho,hc⟩
    exact⟨a1.own1 hg hno,a2.own1 hg hno,a3.own1 hg hno,a4.grown hg a4.size (fun k e=>by cases e;omega)⟩
  case hstop=>
    rintro D W hD ⟨h6,h7,h8,hb⟩ hK;refine wpIn_wide.2 ?_;dsimp only;go_wp2_with fail;refine⟨by simp,.inl ⟨_,_,rfl,run_takeDeferred hK,?_⟩⟩
    have hno2:∀r,some D=some r→∃o:Obj,W.heap[r]?=some o∧o.isCells=false:=fun r e=>by cases e;exact⟨_,hK,rfl⟩
    refine⟨_,aKu rfl _ _ (w.heap.size+3) (w.heap.size+4) (w.heap.size+5) s 0 d 0 true true rfl rfl rfl (h6.own1 (grownBy_putObj' W D _) hno2) (h7.own1 (grownBy_putObj' W D _) hno2) (h8.own1 (grownBy_putObj' W D _) hno2),rfl,?_⟩;exact hb.grown (grownBy_putObj' W D _) hb.size (fun k e=>by cases e;omega)
  case hround=>
    intro l W0' hl hW0'
    gi_wp2
    refine⟨trivial,fun W hW=>?_⟩
    clear hW0';have HSM:=hZ (fun W'=>uN s (by have:=HSL2.o;omega) W')
    obtain⟨⟨x0,x1,x2,x3⟩,hx⟩:∃z,z=dG s:=⟨_,rfl⟩;have hsu:=HSU.o;unfold aC.sumIs at hsu;rw[←hx] at HSM hsu;simp only[bLt] at hsu;obtain⟨rfl,rfl,rfl,rfl⟩:=hsu;have HW:=hZ hW;have HW0:Hid (∀q,Below W.heap.size W q→Below W0.heap.size W0 q):=hZ (fun q hq=>hW.trans (hq.mono hW.size))
    have K3:=hZ (K4.o.below hb0);have K6:=hZ (K6.o.below hb0);have K7:=hZ (K7.o.below hb0);have K8:=hZ (K8.o.below hb0);have q0:∀(n:Nat) (o:Oper) (x y:Operand) (a:Act) (W:World) (next:Act→World→Prop) (Q:Exit→Act→World→Prop),bGj (Fence.wide.inRound l) n prog o .eql 49 x y (.agg (gE (x0,x1,x2,x3)).toArray) (.agg #[.int .u64 (x0:Nat),.int .u64 (x1:Nat),.int .u64 (x2:Nat),.int .u64 (x3:Nat)]) a W next Q=next (a.put o.dst (.bool true)) W:=fun n=>bBz (F:=Fence.wide.inRound l) (n:=n) _ _ _ _ _ _ _ _ (bMi ⟨rfl,rfl,rfl,rfl⟩)
    have HBD:Hid (Below W0.heap.size W0 W.drew):=hZ hW.drew;clear hx hW b1 b2 b3 b4 hs0
    gi_wp2
    refine wpIn_region_any (by kernel_rfl) ?_
    change wpAnyIn _ _ _ _ _ _ _ _ _ (World.drew W)
    have hbr:=i4 W.heap.size W;have hbd:=hbr.drew;have Y:∀q,Below W.heap.size W q→q.cell? ⟨w.heap.size+1,8,none⟩=some (.int .u64 (x0:Nat))∧q.cell? ⟨w.heap.size+1,9,none⟩=some (.int .u64 (x1:Nat))∧q.cell? ⟨w.heap.size+1,10,none⟩=some (.int .u64 (x2:Nat))∧q.cell? ⟨w.heap.size+1,11,none⟩=some (.int .u64 (x3:Nat)):=fun q hq=>⟨(K3.o.below (HW0.o q hq)).cell 8,(K3.o.below (HW0.o q hq)).cell 9,(K3.o.below (HW0.o q hq)).cell 10,(K3.o.below (HW0.o q hq)).cell 11⟩
    have Y0:=fun q hq=>(Y q hq).1
    have Y1:=fun q hq=>(Y q hq).2.1
    have Y2:=fun q hq=>(Y q hq).2.2.1
    have Y3:=fun q hq=>(Y q hq).2.2.2
    clear Y
    iterate 5 all_goals
      ((first
        |refine rri [0,2] (rci (fun K hK=>?_) (rci (fun K hK=>?_) bNv)) (hr:=by decide+kernel)
        |refine rri [1,2] (rci (fun K hK=>?_) (rci (fun K hK=>?_) bNv)) (hr:=by decide+kernel)
        |refine rri [0,3] (rci (fun K hK=>?_) (rci (fun K hK=>?_) bNv)) (hr:=by decide+kernel)
        |refine rri [1,3] (rci (fun K hK=>?_) (rci (fun K hK=>?_) bNv)) (hr:=by decide+kernel)
        |refine rri [0] (rci (fun K hK=>?_) bNv) (hr:=by decide+kernel)
        |refine rri [1] (rci (fun K hK=>?_) bNv) (hr:=by decide+kernel)
        |refine rri [2] (rci (fun K hK=>?_) bNv) (hr:=by decide+kernel)
        |refine rri [3] (rci (fun K hK=>?_) bNv) (hr:=by decide+kernel)
        |refine rri [4] (rci (fun K hK=>?_) bNv) (hr:=by decide+kernel))<;>
      (go_simp
       first
       |refine hK _ _ ?_
       |(refine⟨trivial,((callsIn_wide.2 (HSM.o _)).inRound l).mono ?_⟩
         rintro e q ⟨rfl,hq⟩;have bq:=hbd.trans (hq.mono (d8 _));clear hq;refine hK _ _ ?_)
       try simp only[Act.put,z1,z2,z3]
       clear hK K))
    all_goals
      have BQ:=hZ bq;clear Y0 Y1 Y2 Y3 hbr hbd bq;refine wpAnyIn_done (by kernel_rfl) ?_ _
      have u6:Blk q (w.heap.size+3) 88 [.string ⟨#[]⟩,.int .i64 0,.int .i64 0,.int .i64 0]:=K6.o.below (HW0.o _ BQ.o);have u7:=K7.o.below (HW0.o _ BQ.o);have u8:=K8.o.below (HW0.o _ BQ.o);have U6:=hZ u6;have U7:=hZ u7;have U8:=hZ u8;have e0:=u6.cell 0;have e1:=u6.cell 1;have e2:=u6.cell 2;have e3:=u6.cell 3;have e4:=u7.cell 0;have e5:=u8.cell 0;have f0:=u6.frozen 0;have f1:=u6.frozen 1;have f2:=u6.frozen 2;have f3:=u6.frozen 3;have f4:=u7.frozen 0;have f5:=u8.frozen 0;clear u6 u7 u8;have hbq:Below w.heap.size w q:=HB2.o.trans ((hb0.trans ((HW0.o _ BQ.o).mono hb0.size)).mono HB2.o.size);have n:∀i j,i≠j→w.heap.size+i≠w.heap.size+j:=fun i j h=>by omega
      have m:∀i,w.heap.size≤w.heap.size+i:=fun i=>by omega
      have ks:=fun(A:World) a v=>(KeepsOthers.setCell A a v).from W0.heap.size
      gi_wp2
      exact⟨((((((KeepsFrom.of_grownBy (row:=none) (cU BQ.o) (fun k e=>by cases e)).trans (ks _ _ _)).trans (ks _ _ _)).trans (ks _ _ _)).trans (ks _ _ _)).trans (ks _ _ _)).trans (ks _ _ _),((((((U6.o).setCell 0 _).setCell 1 _).setCell 2 _).setCell 3 _).other (a:=⟨w.heap.size+4,0,none⟩) (n 3 4 (by decide)) _).other (a:=⟨w.heap.size+5,0,none⟩) (n 3 5 (by decide)) _,((((((U7.o).other (a:=⟨w.heap.size+3,0,none⟩) (n 4 3 (by decide)) _).other (a:=⟨w.heap.size+3,1,none⟩) (n 4 3 (by decide)) _).other (a:=⟨w.heap.size+3,2,none⟩) (n 4 3 (by decide)) _).other (a:=⟨w.heap.size+3,3,none⟩) (n 4 3 (by decide)) _).setCell 0 _).other (a:=⟨w.heap.size+5,0,none⟩) (n 4 5 (by decide)) _,((((((U8.o).other (a:=⟨w.heap.size+3,0,none⟩) (n 5 3 (by decide)) _).other (a:=⟨w.heap.size+3,1,none⟩) (n 5 3 (by decide)) _).other (a:=⟨w.heap.size+3,2,none⟩) (n 5 3 (by decide)) _).other (a:=⟨w.heap.size+3,3,none⟩) (n 5 3 (by decide)) _).other (a:=⟨w.heap.size+4,0,none⟩) (n 5 4 (by decide)) _).setCell 0 _,((((((hbq).setCell (p:=⟨w.heap.size+3,0,none⟩) (m 3) _).setCell (p:=⟨w.heap.size+3,1,none⟩) (m 3) _).setCell (p:=⟨w.heap.size+3,2,none⟩) (m 3) _).setCell (p:=⟨w.heap.size+3,3,none⟩) (m 3) _).setCell (p:=⟨w.heap.size+4,0,none⟩) (m 4) _).setCell (p:=⟨w.heap.size+5,0,none⟩) (m 5) _⟩
end
section
attribute [local go_sem ↓] Go.wp_at_zero Go.wp_at_succ cB bU
theorem zO (p:aC):(p.ag,p.aa)∈plL p:=by unfold plL;split<;>exact bMf ..
theorem bHt (p:aC):(plL p).getD 0 (0,0)=(p.ag,p.aa):=by unfold plL;split<;>rfl
theorem bKi (h:bV w x V F) (hr:x.right=true) (p:aC) (br:p.ok) (H:bD x.gs x.secs p=true) (bs:x.fits) {d:Int} (hF:aAy x.gs p.ag.toNat p.aa.toNat p.size.toNat (kG x p.ag.toNat p.aa.toNat p.size.toNat) d s) (bf:s.length≤2048) (bd:p.sumIs s=true):
  Calls prog 33 #[V.val x.secs,.agg (aA p).toArray] w fun e w'=>e= .returned (.tuple #[.agg (gH s 0 d 0).toArray,(0:Int)])∧bB w w':=by
 obtain⟨aa,ab,au,av,aw,wc,bt,ac⟩:=h.form;have ag:=hZ (fun W (f:bB w W)=>fL (h.below f) hr)
 have I:=hZ (fun W (f:bB w W)=>xH aa x.gs.length ab x.gs x.secs p W (ac.below f) br)
 rw[H] at I;have J:=hZ (aJe p (tH H));obtain⟨h1,h2,ci,b⟩:=aTy H _ (zO p);have z:=hZ (fun W (f:bB w W)=>at1 (h.below f) hr p p.ag.toNat p.aa.toNat p.size.toNat (by omega) (by rw[bLx h1,bLx h2,bLx (by omega)];exact b) (aNq bs _ _ _) hF bf bd)
 rw[bLx h1,bLx h2] at z;have bh:V.val x.secs= .agg #[.slice aa x.gs.length ab,x.secs,.slice au x.ds.length av,.slice aw x.ds.length wc]:=by rw[bt];rfl
 rw[bh] at ag z⊢;have ah:1≤(plL p).length:=by rw[aLy];split<;>omega
 have ai:=hZ (bHt p);obtain⟨k,ax⟩:∃k:Nat,k=0:=⟨_,rfl⟩;rw[←ax] at ai;have bu:=hZ ax;obtain⟨L,bv⟩:=nZ (plL p);rw[←bv] at J ai ah;obtain⟨n,ay⟩:=nZ L.length;have cd:=hZ ay;rw[←ay] at J ah;obtain⟨N,be⟩:=nZ x.ds.length;obtain⟨bi,af⟩:=nZ x.gs.length;rw[←be,←af] at ag z⊢;rw[←af] at I;have ct:(k:Int)<(n:Int):=by omega
 have cu:0≤(k:Int):=by omega
 clear be af bt bh ac bs hF bv H br hr h ah ay ax h1 h2 ci b bf bd;obtain⟨ad,ae,bg,bw,two,bc,bj,bk,s0,bx,bz,ca⟩:=p;simp only[aA] at I J z⊢;obtain⟨az,A⟩:=nZ (((w.alloc (.cells #[.slice aa bi ab,x.secs,.slice au N av,.slice aw N wc] 43)).alloc (.cells #[ad,ae,bg,bw,two,bc,bj,bk,.int .u64 s0,.int .u64 bx,.int .u64 bz,.int .u64 ca] 51)).alloc (.cells #[.string ⟨#[]⟩,(0:Int),(0:Int),(0:Int)] 88));have O:bB w az:=by rw[A];exact((bZ).alloc (by simp) _).alloc (by simp;omega) _
 have D:Hid (∀W,bB az W→Blk W w.heap.size 43 [.slice aa bi ab,x.secs,.slice au N av,.slice aw N wc]∧Blk W (w.heap.size+1) 51 [ad,ae,bg,bw,two,bc,bj,bk,.int .u64 s0,.int .u64 bx,.int .u64 bz,.int .u64 ca]∧Blk W (w.heap.size+2) 88 (gH [] 0 0 0)):=hZ (fun W f=>by
  rw[A] at f;exact⟨(((Blk.new w _ _).alloc _).alloc _).below f,((Blk.newAt _ _ (by simp)).alloc _).below f,(Blk.newAt _ _ (by simp)).below f⟩)
 have cq:az.heap.size=w.heap.size+3:=by rw[A];simp
 go_in;go_upto_region 1 with fail
 simp only[bMc,Nat.reduceAdd];rw[←A];clear A;obtain⟨c,r,y⟩:=D.o _ (i4 _ _);have aj:=aB c underlying43 rfl dC;clear r y c;go_wp2_with fail;refine(ag.o _ O).mono ?_;rintro e cv ⟨rfl,R⟩;have ak:=hZ (O.trans (R.mono O.size));have bl:=hZ R;obtain⟨c,r,y⟩:=D.o _ R;have cj:=c.cell 0;have ck:=c.cell 1;have U:=aB r underlying51 rfl aU;clear c r y aj R O;go_wp2_with fail;refine(I.o _ ak.o).mono ?_;rintro e cw ⟨rfl,al⟩;have bm:=hZ (ak.o.trans (al.mono ak.o.size));have am:=hZ (bl.o.trans (al.mono bl.o.size));obtain⟨c,r,y⟩:=D.o _ am.o;have U:=aB r underlying51 rfl aU;clear c r y al cj ck;go_wp2_with fail;refine(J.o _).mono ?_;rintro e cl ⟨g,rfl,ac,cb,an⟩;have bn:=hZ (bm.o.trans (an.mono bm.o.size));have bo:=hZ (am.o.trans (an.mono am.o.size));have cm:=hZ cb;clear an ac cb U;go_wp2_with fail;go_loopw [26,6] (fun ce v6 wr=>ce= .int .i64 (k:Nat)∧v6= .bool true∧wr=cl) (fun _ _ _=>0)
 case atStart=>exact⟨by rw[bu.o];rfl,rfl,rfl⟩
 case round=>
  obtain⟨rfl,rfl,rfl⟩:=hrel;obtain⟨c0,ba⟩:=aUq cm.o (show k<L.length by rw[←cd.o];omega)
  rw[ai.o] at c0 ba;dsimp only at c0 ba;obtain⟨w4,X⟩:=nZ (wr.alloc (.cells #[ad,ae] 46));have ap:bB wr w4:=by rw[X];exact bZ
  have aq:Blk w4 wr.heap.size 46 [ad,ae]:=by rw[X];exact Blk.new wr _ _
  have cn:=aq.cell 0;have co:=aq.cell 1;have ar:=hZ (bn.o.trans (ap.mono bn.o.size));have E:=hZ (bo.o.trans (ap.mono bo.o.size));obtain⟨c,r,y⟩:=D.o _ E.o;have aj:=aB c underlying43 rfl dC;have U:=aB r underlying51 rfl aU;clear c r y ap aq;go_upto_region 7 with fail
  rw[←X];clear X c0 ba;go_wp2_with fail;refine(z.o _ ar.o).mono ?_;rintro e G ⟨rfl,Y⟩;have bq:=hZ (ar.o.trans (Y.mono ar.o.size));have b:Blk (G.alloc (.cells #[.string ⟨s.toArray⟩,(k:Nat),d,(0:Int)] 88)) (w.heap.size+2) 88 [.string ⟨#[]⟩,(0:Int),(0:Int),(0:Int)]:=(D.o _ (E.o.trans (Y.mono E.o.size))).2.2.alloc _;have cr:w.heap.size+3≤G.heap.size:=by have:=(E.o.trans (Y.mono E.o.size)).size;omega
  obtain⟨cc,Z⟩:=nZ (((((G.alloc (.cells #[.string ⟨s.toArray⟩,(k:Nat),d,(0:Int)] 88)).setCell ⟨w.heap.size+2,0,none⟩ (.string ⟨s.toArray⟩)).setCell ⟨w.heap.size+2,1,none⟩ (k:Nat)).setCell ⟨w.heap.size+2,2,none⟩ d).setCell ⟨w.heap.size+2,3,none⟩ (0:Int));have cf:=hZ Z;have cg:Hid (Blk cc (w.heap.size+2) 88 (gH s (k:Nat) d 0)):=hZ (by
   rw[Z];exact((((b.setCell 0 _).setCell 1 _).setCell 2 _).setCell 3 _))
  have ch:Hid (bB w cc):=hZ (by
   rw[Z];have m:∀j,w.heap.size≤(⟨w.heap.size+2,j,none⟩:Addr).block:=fun j=>by show w.heap.size≤w.heap.size+2;omega
   exact(((((bq.o.alloc bq.o.size _).setCell (m 0) _).setCell (m 1) _).setCell (m 2) _).setCell (m 3) _))
  have e0:=b.cell 0;have cx:=b.cell 1;have cy:=b.cell 2;have cz:=b.cell 3;have da:=b.frozen 0;have db:=b.frozen 1;have dc:=b.frozen 2;have dd:=b.frozen 3;have cs:w.heap.size+2≠G.heap.size:=by omega
  have cp:G.heap.size≠w.heap.size+2:=by omega
  clear b Z Y aj U cn co;simp only[gH];go_wp2_with fail;rw[←cf.o];refine l9 (aFq rfl _ _ (w.heap.size+2) s (k:Nat) d 0 rfl cg.o) rfl ?_;exact⟨by rw[bu.o];rfl,ch.o⟩
end
theorem bLj (h:Option Addr) (r:Nat) (gs:Gs) (secs:Int) (g a:Nat) (s:Bs) (w:World) (ad:oZ w h gs.length r gs) (I:dX s=true) (J:dO gs secs g a ((s.length/64:Nat):Int)=true) (b:List Bs) (gb cap:Nat) (X:sS w (some gb) b.length cap (eQ b)) (ae:b=jC (aI gs g a (s.length/64)) (fJ s)) (ap:b.all nA=true):
  Calls prog 143 #[.agg #[.slice h gs.length r,secs],.agg #[(g:Nat),(a:Nat)],.string ⟨s.toArray⟩,.slice (some gb) b.length cap] w (rZ w (.slice none 0 0)):=by
 have ai:=jW J;have N:b.length=(aI gs g a (s.length/64)).length:=by rw[ae,dZ]
 obtain⟨O,z⟩:=nZ ((w.alloc (.cells #[.slice h gs.length r,secs] 24)).alloc (.cells #[(g:Nat),(a:Nat)] 46));have Y:bB w O:=by rw[z];exact(bZ).alloc (by simp) _
 have A:Hid (Blk O w.heap.size 24 [.slice h gs.length r,.int .i64 secs]):=hZ (by rw[z];exact(Blk.new w _ _).alloc _)
 have D:Hid (Blk O (w.heap.size+1) 46 [.int .i64 (g:Nat),.int .i64 (a:Nat)]):=hZ (by rw[z];exact Blk.newAt (w:=w.alloc _) _ _ (by simp))
 have aj:=hZ Y;have E:=hZ (xJ h r gs secs g a s O (ad.below Y) I J);have G:=hZ (fun W (y:bB w W)=>aIa h r gs secs g a (s.length/64) W (ad.below y) J b (some gb) cap (X.below y) N)
 rw[ap] at G;have ak:=hZ (fun W (y:Below w.heap.size w W) j (af:j<b.length)=>aNs (sS.below X y) rfl af)
 rw[←ae,←N] at E;rw[←N] at ai;obtain⟨m,Z⟩:=nZ b.length;have bc:=hZ Z;rw[←Z] at G ak E ai⊢;have bf:s.length≤256∧s.length%64=0:=⟨(gY I).2.2.1,(gY I).2.1⟩;obtain⟨aq,al⟩:=nZ (s.length/64);rw[←al] at G;have ar:(s.length:Int)/64=(aq:Int):=by omega
 have ay:(s.length:Int).tdiv 64=(aq:Int):=by rw[Int.tdiv_eq_ediv_of_nonneg (by omega)];exact ar
 clear ad I J X ap Y ae Z al N;go_in;go_upto_region 1 with fail
 rw[←z];clear z;have x0:=A.o.cell 0;have au:=A.o.cell 1;have av:=D.o.cell 0;have y1:=D.o.cell 1;go_wp2_with fail;refine E.o.mono ?_;rintro e bd ⟨v,rfl,R,f⟩;obtain⟨aw,bh,rfl⟩:=bT R (by omega)
 have aa:=hZ (aj.o.trans (f.mono aj.o.size));have az:=hZ R;have x0:=(A.o.below f).cell 0;have au:=(A.o.below f).cell 1;have av:=(D.o.below f).cell 0;have y1:=(D.o.below f).cell 1;clear R f E;go_wp2_with fail
 try rw[ay]
 try rw[ar]
 refine(G.o bd aa.o).mono ?_;rintro e ag ⟨rfl,ab⟩;have H:=hZ (aa.o.trans (ab.mono aa.o.size));have ba:=hZ (fun W (y:Below ag.heap.size ag W) j (af:j<m)=>uO (aD (aD az.o ab) y) (by rw[←bc.o];exact af))
 clear ab x0 au av y1;go_wp2_with fail;go_loopw [11,34] (fun v ah wr=>∃k:Nat,k≤m∧ah= .int .i64 k∧v= .slice none 0 0∧Hid (bB ag wr)) (fun _ ah _=>m-(intOf ah).toNat)
 case atStart=>exact⟨0,by omega,rfl,rfl,hZ (i4 _ _)⟩
 case round=>
  obtain⟨k,bi,rfl,rfl,am⟩:=hrel;by_cases an:k<m
  ·have be:(k:Int)<(m:Int):=by omega
   have bj:0≤(k:Int):=by omega
   have U:=hZ am.o.drew;have ac:wr.drew.cell? ⟨aw,k,none⟩=some (.string ⟨(b.getD k []).toArray⟩)∧wr.drew.cell? ⟨gb,k,none⟩=some (.string ⟨(b.getD k []).toArray⟩):=⟨ba.o _ U.o k an,ak.o _ (H.o.trans (U.o.mono H.o.size)) k an⟩;obtain⟨u,ax⟩:∃u:Bs,u=b.getD k []:=⟨_,rfl⟩;rw[←ax] at ac;clear ax;go_upto_region 8 with fail
   refine l7 (S:=fun w'=>w'.cell? ⟨aw,k,none⟩=some (.string ⟨u.toArray⟩)∧w'.cell? ⟨gb,k,none⟩=some (.string ⟨u.toArray⟩)) (by kernel_rfl) ac (fun ac=>?_)
   refine aE 0 ?_;refine aE 1 ?_;refine aE 2 ?_ (hy:=by intro w c;(try dsimp only at c);go_simp;first|with_reducible rfl|rw[i6 (by omega)])
   refine aE 3 ?_ (hy:=by intro w c;(try dsimp only at c);go_simp;first|(rw[c.1];rfl)|rfl)
   refine aE 4 ?_;refine aE 5 ?_;refine aE 6 ?_ (hy:=by intro w c;(try dsimp only at c);go_simp;first|with_reducible rfl|rw[i6 (by omega)])
   refine aE 7 ?_ (hy:=by intro w c;(try dsimp only at c);go_simp;first|(rw[c.2];rfl)|rfl)
   refine aE 8 ?_;refine r8 (by kernel_rfl) ?_ _
   go_wp2_with fail;go_roundw
   case rel=>exact⟨k+1,by omega,by go_num,rfl,U⟩
   case measure=>simp[intOf];omega
  ·obtain rfl:k=m:=by omega
   have be:¬(k:Int)<(k:Int):=by omega
   go_wp2_with fail;go_ret;exact⟨rfl,H.o.trans (am.o.mono H.o.size)⟩
section
attribute [local go_sem ↓] Go.wp_at_zero Go.wp_at_succ
theorem bKn (h:bV w x V F) (hr:x.right=true) (p:aC) (g a:Nat) (s:Bs) (ab:dX s=true) (aw:p.size=((s.length/64:Nat):Int)) (m:dO x.gs x.secs g a ((s.length/64:Nat):Int)=true) (ac:x.fits) (ad:kG x g a (s.length/64)=jC (aI x.gs g a (s.length/64)) (fJ s)):
  Calls prog 77 #[V.val x.secs,.agg (aA p).toArray,.agg #[.int .i64 (g:Nat),.int .i64 (a:Nat)],.string ⟨s.toArray⟩] w fun e w'=>e= .returned (.slice none 0 0)∧Below w.heap.size w w':=by
 obtain⟨H,I,ae,af,ag,wc,ah,ai⟩:=h.form;have b:=hZ (fun W (J:bB w W)=>aVa (h.below J) hr g a (s.length/64) m)
 have U:V.val x.secs= .agg #[.slice H x.gs.length I,x.secs,.slice ae x.ds.length af,.slice ag x.ds.length wc]:=by rw[ah];rfl
 rw[U] at b⊢;have c:=hZ (fun W (J:Below w.heap.size w W) gb cap (am:sS W (some ⟨gb,0,none⟩) (kG x g a (s.length/64)).length cap (eQ (kG x g a (s.length/64))))=>bLj H I x.gs x.secs g a s W (ai.below J) ab m (kG x g a (s.length/64)) gb cap am ad (aNq ac _ _ _))
 have z:=aNw x g a (s.length/64);have A:0<(kG x g a (s.length/64)).length:=by rw[z];have:=(jW m).1;omega
 rw[←z] at b;obtain⟨n,aj⟩:=nZ ((kG x g a (s.length/64)).length);rw[←aj] at b c A;have an:=hZ A;obtain⟨ax,ay,bg,az,two,al,ap,aq,s0,ba,bc,bd⟩:=p;obtain rfl:al=_:=aw;obtain⟨D,X⟩:∃D:Int,D=((s.length/64:Nat):Int):=⟨_,rfl⟩;obtain⟨Y,R⟩:=nZ x.ds.length;obtain⟨ar,r⟩:=nZ x.gs.length;rw[←R,←r] at b⊢;rw[←r] at c;simp only[aA];rw[←X] at b⊢;clear R r aj z A U ah ai ac m ab hr h X ad;have E:bB w (((w.alloc (.cells #[.slice H ar I,x.secs,.slice ae Y af,.slice ag Y wc] 43)).alloc (.cells #[ax,ay,bg,az,two,D,ap,aq,.int .u64 s0,.int .u64 ba,.int .u64 bc,.int .u64 bd] 51)).alloc (.cells #[(g:Nat),(a:Nat)] 46)):=((bZ).alloc (by simp) _).alloc (by simp;omega) _
 have Z:=hZ E;go_in;go_wp21;refine(b.o _ E).mono ?_;rintro e ak ⟨v,rfl,y,f⟩;simp only[bMc,Nat.reduceAdd];obtain⟨gb,cap,rfl⟩:=bT y an.o;have G:=hZ (Z.o.trans (f.mono Z.o.size));have au:=hZ (c.o ak G.o gb cap (bI y));have N:=(((Blk.new w _ _).alloc _).alloc _).below f;have O:Blk ak (w.heap.size+2) 46 [.int .i64 (g:Nat),.int .i64 (a:Nat)]:=(Blk.newAt _ _ (by simp)).below f
 have be:=N.cell 0;have bf:=N.cell 1;have c0:=O.cell 0;have bh:=O.cell 1;clear E f N O y b c;go_wp21;refine au.o.mono ?_;rintro e bi ⟨rfl,aa⟩;have av:=hZ (G.o.trans (aa.mono G.o.size));clear aa;go_wp21;go_ret;exact⟨rfl,av.o⟩
attribute [local go_sem ↓] cB bU
theorem bKk (h:bV w x V F) (hr:x.right=true) (g a:Nat) (s:Bs) (z:dX s=true) (I:dO x.gs x.secs g a ((s.length/64:Nat):Int)=true):
  Calls prog 349 #[V.val x.secs,.agg #[(g:Nat),(a:Nat)],.string ⟨s.toArray⟩,.slice none 0 0] w fun e w'=>e= .returned (0:Int)∧bB w w':=by
 obtain⟨f,m,J,N,O,wc,ac,R⟩:=h.form;have X:=hZ (fun W (b:bB w W)=>fL (h.below b) hr)
 have U:V.val x.secs= .agg #[.slice f x.gs.length m,x.secs,.slice J x.ds.length N,.slice O x.ds.length wc]:=by rw[ac];rfl
 rw[U] at X⊢;have ag:=hZ (fun W (b:bB w W)=>xJ f m x.gs x.secs g a s W (R.below b) z I)
 have Y:=hZ (fun W (b:bB w W)=>pP f x.gs.length m x.gs x.secs g a (s.length/64) W (R.below b) I)
 have an:s.length≤256∧s.length%64=0:=⟨(gY z).2.2.1,(gY z).2.1⟩;obtain⟨ad,Z⟩:=nZ (s.length/64);rw[←Z] at Y;have ae:(s.length:Int)/64=(ad:Int):=by omega
 have ah:(s.length:Int).tdiv 64=(ad:Int):=by rw[Int.tdiv_eq_ediv_of_nonneg (by omega)];exact ae
 obtain⟨af,r⟩:=nZ ((w.alloc (.cells #[.slice f x.gs.length m,x.secs,.slice J x.ds.length N,.slice O x.ds.length wc] 43)).alloc (.cells #[(g:Nat),(a:Nat)] 46));have A:Hid (bB w af):=hZ (by rw[r];exact(bZ).alloc (by simp) _)
 have D:Hid (∀W,bB af W→Blk W w.heap.size 43 [.slice f x.gs.length m,x.secs,.slice J x.ds.length N,.slice O x.ds.length wc]∧Blk W (w.heap.size+1) 46 [(g:Nat),(a:Nat)]):=hZ (fun W b=>by
  rw[r] at b;exact⟨((Blk.new w _ _).alloc _).below b,(Blk.newAt _ _ (by simp)).below b⟩)
 clear ac R z I hr h U Z;go_in;go_upto_region 1 with fail
 rw[←r];clear r;obtain⟨k1,c⟩:=D.o _ (i4 _ _);have ai:=aB k1 underlying43 rfl dC;clear k1 c;go_wp2_with fail;refine(X.o _ A.o).mono ?_;rintro e ap ⟨rfl,y⟩;have E:=hZ (A.o.trans (y.mono A.o.size));obtain⟨k1,c⟩:=D.o _ y;have ak:=k1.cell 0;have al:=k1.cell 1;have c0:=c.cell 0;have am:=c.cell 1;have aa:=hZ y;clear k1 c ai y;go_wp2_with fail;refine(ag.o _ E.o).mono ?_;rintro e aq ⟨v,rfl,_,G⟩;have H:=hZ (E.o.trans (G.mono E.o.size));obtain⟨k1,c⟩:=D.o _ (aa.o.trans (G.mono aa.o.size));have ak:=k1.cell 0;have al:=k1.cell 1;have c0:=c.cell 0;have am:=c.cell 1;clear k1 c G;go_wp2_with fail
 try rw[ah]
 try rw[ae]
 refine(Y.o _ H.o).mono ?_;rintro e ar ⟨au,rfl,_,ab⟩;have aj:=hZ (H.o.trans (ab.mono H.o.size));clear ab;go_wp2_with fail;refine bNb 1 ?_;rw[bMl];go_wp2_with fail;go_ret;exact⟨rfl,aj.o⟩
end
section
attribute [local go_sem ↓] Go.wp_at_zero Go.wp_at_succ
theorem bGz (h:bV w x V F) (hr:x.right=true) (p:aC) (ag:bD x.gs x.secs p=true) (s:Bs) (an:dX s=true) (ap:p.size=((s.length/64:Nat):Int)) (bj:x.fits) (c:kG x p.ag.toNat p.aa.toNat (s.length/64)=jC (aI x.gs p.ag.toNat p.aa.toNat (s.length/64)) (fJ s)):
  Calls prog 345 #[V.val x.secs,.agg (aA p).toArray,.string ⟨s.toArray⟩,.int .i64 1] w fun e w'=>e= .returned (.int .i64 0)∧Below w.heap.size w w':=by
 obtain⟨y,z,A,D,E,wc,bk,aq⟩:=h.form;have O:=hZ (fun W=>aJe p (tH ag) W)
 obtain⟨h1,h2,bz,bl⟩:=aTy ag _ (zO p);have ar:dO x.gs x.secs p.ag.toNat p.aa.toNat ((s.length/64:Nat):Int)=true:=by rw[bLx h1,bLx h2,←ap];exact bl
 have R:=hZ (fun W (r:Below w.heap.size w W)=>bKn (h.below r) hr p p.ag.toNat p.aa.toNat s an ap ar bj c)
 have ac:=hZ (fun W (r:Below w.heap.size w W)=>bKk (h.below r) hr p.ag.toNat p.aa.toNat s an ar)
 rw[bLx h1,bLx h2] at R ac;have ba:V.val x.secs= .agg #[.slice y x.gs.length z,.int .i64 x.secs,.slice A x.ds.length D,.slice E x.ds.length wc]:=by rw[bk];rfl
 rw[ba] at R ac⊢;have ad:1≤(plL p).length:=by rw[aLy];split<;>omega
 have bc:=hZ (bHt p);obtain⟨L,bm⟩:=nZ (plL p);rw[←bm] at O bc ad;obtain⟨n,au⟩:=nZ L.length;have bt:=hZ au;rw[←au] at O ad;obtain⟨b,ax⟩:=nZ x.ds.length;obtain⟨G,ay⟩:=nZ x.gs.length;rw[←ax,←ay] at R ac⊢;have cf:(1:Int)≤(n:Int):=by omega
 have bu:=hZ ad;clear ax ay bk ba aq bj bm ag ap hr h ad au h1 h2 bz bl ar an c;obtain⟨f,m,bg,Y,two,N,U,X,s0,Z,aa,ab⟩:=p;simp only[aA] at O R⊢;obtain⟨H,bd⟩:∃H:List Value,H=[.slice y G z,.int .i64 x.secs,.slice A b D,.slice E b wc]:=⟨_,rfl⟩;obtain⟨I,be⟩:∃I:List Value,I=[.int .i64 f,.int .i64 m,.int .i64 bg,.int .i64 Y,.bool two,.int .i64 N,.int .i64 U,.int .i64 X,.int .u64 s0,.int .u64 Z,.int .u64 aa,.int .u64 ab]:=⟨_,rfl⟩;have ah:Hid (∀W,Below ((w.alloc (.cells H.toArray 43)).alloc (.cells I.toArray 51)).heap.size ((w.alloc (.cells H.toArray 43)).alloc (.cells I.toArray 51)) W→Blk W w.heap.size 43 H∧Blk W (w.heap.size+1) 51 I∧Below w.heap.size w W):=hZ (fun W r=>⟨((Blk.new w _ _).alloc _).below r,(Blk.newAt _ _ (by simp)).below r,((bZ).alloc (by simp) _).trans (r.mono (by simp;omega))⟩)
 rw[bd,be] at ah;clear bd be H I;go_enter func345,ntmps345;go_wp2_with fail;refine(O.o _).mono ?_;rintro e J ⟨g,rfl,aq,bn,ai⟩;simp only[bMc,Nat.reduceAdd];have bf:Hid (∀W,Below J.heap.size J W→Blk W w.heap.size 43 [.slice y G z,.int .i64 x.secs,.slice A b D,.slice E b wc]∧Blk W (w.heap.size+1) 51 [.int .i64 f,.int .i64 m,.int .i64 bg,.int .i64 Y,.bool two,.int .i64 N,.int .i64 U,.int .i64 X,.int .u64 s0,.int .u64 Z,.int .u64 aa,.int .u64 ab]∧Below w.heap.size w W):=hZ (fun W r=>ah.o _ (ai.trans (r.mono ai.size)))
 have ca:=hZ bn;clear aq bn ai O ah;go_wp2_with fail;go_loopw [9,17] (fun cb av wr=>∃k:Nat,k≤1∧av= .int .i64 k∧cb= .int .i64 0∧Hid (Below J.heap.size J wr)) (fun _ av _=>1-(intOf av).toNat)
 case atStart=>exact⟨0,by omega,rfl,rfl,hZ (i4 _ _)⟩
 case round=>
  obtain⟨k,cg,rfl,rfl,ae⟩:=hrel;by_cases ce:k<1
  ·have ch:(k:Int)<1:=by omega
   have ci:0≤(k:Int):=by omega
   have cj:(k:Int)<(n:Int):=by omega
   obtain⟨c0,bo⟩:=aUq (ca.o.below ae.o) (k:=k) (by rw[←bt.o];have:=bu.o;omega)
   rw[show L.getD k (0,0)=(f,m) by rw[show k=0 by omega];exact bc.o] at c0 bo
   dsimp only at c0 bo;have aj:Below J.heap.size J (wr.alloc (.cells #[.int .i64 f,.int .i64 m] 46)).drew:=(ae.o.alloc ae.o.size _).drew;obtain⟨bq,br,bs⟩:=bf.o _ aj;have ak:MdS w.heap.size (w.heap.size+1) wr.heap.size [.slice y G z,.int .i64 x.secs,.slice A b D,.slice E b wc] [.int .i64 f,.int .i64 m,.int .i64 bg,.int .i64 Y,.bool two,.int .i64 N,.int .i64 U,.int .i64 X,.int .u64 s0,.int .u64 Z,.int .u64 aa,.int .u64 ab] [.int .i64 f,.int .i64 m] (wr.alloc (.cells #[.int .i64 f,.int .i64 m] 46)).drew:=⟨bq,br,(Blk.new wr _ _).drew⟩;have al:=hZ bs;have az:=hZ aj;clear bq br bs aj;go_upto_region 5 with fail
   refine l7 (S:=MdS w.heap.size (w.heap.size+1) wr.heap.size [.slice y G z,.int .i64 x.secs,.slice A b D,.slice E b wc] [.int .i64 f,.int .i64 m,.int .i64 bg,.int .i64 Y,.bool two,.int .i64 N,.int .i64 U,.int .i64 X,.int .u64 s0,.int .u64 Z,.int .u64 aa,.int .u64 ab] [.int .i64 f,.int .i64 m]) (by kernel_rfl) ak (fun ak=>?_)
   refine aE 0 ?_;refine mX 1 ?v1 ?y1 ?_
   case y1=>refine m5 (by kernel_rfl) 43 (.tmp 4) ?_ w.heap.size (0) ?_ ([.slice y G z,.int .i64 x.secs,.slice A b D,.slice E b wc]) _ (fun w' (c:MdS _ _ _ _ _ _ w')=>jX c.d) underlying43 rfl oQ<;>rfl
   refine mX 2 ?v2 ?y2 ?_
   case y2=>refine m5 (by kernel_rfl) 46 (.tmp 11) ?_ wr.heap.size (0) ?_ ([.int .i64 f,.int .i64 m]) _ (fun w' (c:MdS _ _ _ _ _ _ w')=>jX c.l) underlying46 rfl aSj<;>rfl
   refine aE 3 ?_;refine mX 4 ?v4 ?y4 ?_
   case y4=>refine m5 (by kernel_rfl) 43 (.tmp 4) ?_ w.heap.size (0) ?_ ([.slice y G z,.int .i64 x.secs,.slice A b D,.slice E b wc]) _ (fun w' (c:MdS _ _ _ _ _ _ w')=>jX c.d) underlying43 rfl oQ<;>rfl
   refine mX 5 ?v5 ?y5 ?_
   case y5=>refine m5 (by kernel_rfl) 51 (.tmp 5) ?_ (w.heap.size+1) (0) ?_ ([.int .i64 f,.int .i64 m,.int .i64 bg,.int .i64 Y,.bool two,.int .i64 N,.int .i64 U,.int .i64 X,.int .u64 s0,.int .u64 Z,.int .u64 aa,.int .u64 ab]) _ (fun w' (c:MdS _ _ _ _ _ _ w')=>jX c.p) underlying51 rfl bIf<;>rfl
   refine mX 6 ?v6 ?y6 ?_
   case y6=>refine m5 (by kernel_rfl) 46 (.tmp 11) ?_ wr.heap.size (0) ?_ ([.int .i64 f,.int .i64 m]) _ (fun w' (c:MdS _ _ _ _ _ _ w')=>jX c.l) underlying46 rfl aSj<;>rfl
   refine aE 7 ?_;refine vB [8] (rc (fun K aw=>?_) rn)
   go_simp;refine(R.o _ al.o).mono ?_;rintro e ck ⟨rfl,af⟩;have bh:=hZ (ak.below af);have bv:=hZ (al.o.trans (af.mono al.o.size));have bi:=hZ (az.o.trans (af.mono az.o.size));clear af
   try dsimp only
   refine aw.o _ _ bh.o (fun cc=>?_)
   try simp only[Act.put,z1,z2,z3]
   refine vB [9] (rc (fun K aw=>?_) rn)
   go_simp;refine(ac.o _ bv.o).mono ?_;rintro e cl ⟨rfl,am⟩;have bw:=hZ (bh.o.below am);have bx:=hZ (bi.o.trans (am.mono bi.o.size));clear am
   try dsimp only
   refine aw.o _ _ bw.o (fun cd=>?_)
   try simp only[Act.put,z1,z2,z3]
   refine aE 10 ?_;refine aE 11 ?_;refine r8 (by kernel_rfl) ?_ _
   try dsimp only
   go_wp2_with fail;go_roundw
   case rel=>exact⟨k+1,by omega,by go_num,rfl,bx⟩
   case measure=>simp[intOf];omega
  ·obtain rfl:k=1:=by omega
   go_wp2_with fail;go_ret;exact⟨rfl,(bf.o _ ae.o).2.2⟩
end
section
attribute [local go_sem ↓] Go.wp_at_zero Go.wp_at_succ cB bU
theorem bJe (h:bV w x V F) (hr:x.right=true) (p:aC) (bd:p.ok) (Z:bD x.gs x.secs p=true) (ae:x.fits) {d:Int} (af:dX s=true) (aa:p.size=((s.length/64:Nat):Int)) (be:kG x p.ag.toNat p.aa.toNat (s.length/64)=jC (aI x.gs p.ag.toNat p.aa.toNat (s.length/64)) (fJ s)) (hF:aAy x.gs p.ag.toNat p.aa.toNat (s.length/64) (kG x p.ag.toNat p.aa.toNat (s.length/64)) d s) (an:p.sumIs s=true):
  Calls prog 338 #[V.val x.secs,.agg (aA p).toArray] w fun e w'=>e= .returned (.tuple #[.agg (gH s 0 d 0).toArray,(0:Int)])∧bB w w':=by
 obtain⟨ag,ah,ai,aj,ak,wc,bf,bx⟩:=h.form;have bq:=(gY af).2.2.1;have J:=hZ (fun W (b:bB w W)=>bKi (h.below b) hr p bd Z ae (d:=d) (s:=s) (by rw[aa,s7];exact hF) (by omega) an)
 have N:=hZ (fun W (b:bB w W)=>bGz (h.below b) hr p Z s af aa ae be)
 have ar:V.val x.secs= .agg #[.slice ag x.gs.length ah,x.secs,.slice ai x.ds.length aj,.slice ak x.ds.length wc]:=by rw[bf];rfl
 rw[ar] at J N⊢;obtain⟨O,ap⟩:=nZ x.ds.length;obtain⟨au,aq⟩:=nZ x.gs.length;rw[←ap,←aq] at J N⊢;clear ap aq bf ar bx ae hF bd Z hr h af aa be an bq;obtain⟨bh,bi,bg,bj,two,am,av,aw,s0,bk,bl,bm⟩:=p;simp only[aA] at J N⊢;obtain⟨al,z⟩:=nZ (((w.alloc (.cells #[.slice ag au ah,x.secs,.slice ai O aj,.slice ak O wc] 43)).alloc (.cells #[bh,bi,bg,bj,two,am,av,aw,.int .u64 s0,.int .u64 bk,.int .u64 bl,.int .u64 bm] 51)).alloc (.cells #[.string ⟨#[]⟩,(0:Int),(0:Int),(0:Int)] 88));have A:bB w al:=by rw[z];exact((bZ).alloc (by simp) _).alloc (by simp;omega) _
 have ab:Hid (∀W,bB al W→Blk W w.heap.size 43 [.slice ag au ah,x.secs,.slice ai O aj,.slice ak O wc]∧Blk W (w.heap.size+1) 51 [bh,bi,bg,bj,two,am,av,aw,.int .u64 s0,.int .u64 bk,.int .u64 bl,.int .u64 bm]∧Blk W (w.heap.size+2) 88 [.string ⟨#[]⟩,(0:Int),(0:Int),(0:Int)]):=hZ (fun W b=>by
  rw[z] at b;exact⟨(((Blk.new w _ _).alloc _).alloc _).below b,((Blk.newAt _ _ (by simp)).alloc _).below b,(Blk.newAt _ _ (by simp)).below b⟩)
 have br:Hid (al.heap.size=w.heap.size+3):=hZ (by rw[z];simp)
 go_in;go_upto_region 1 with fail
 simp only[bMc,Nat.reduceAdd];rw[←z];clear z;obtain⟨G,H,r⟩:=ab.o _ (i4 _ _);have ax:=aB G underlying43 rfl dC;have ay:=aB H underlying51 rfl aU;clear G H r;go_wp21;refine(J.o _ A).mono ?_;rintro e Y ⟨rfl,D⟩;simp only[gH];obtain⟨bn,R⟩:=nZ (Y.alloc (.cells #[.string ⟨s.toArray⟩,(0:Int),d,(0:Int)] 88));obtain⟨y,ac⟩:=nZ Y.heap.size;have az:bB Y bn:=by rw[R];exact bZ
 have ba:Hid (∀W,bB bn W→Blk W y 88 [.string ⟨s.toArray⟩,(0:Int),d,(0:Int)]):=hZ (fun W b=>by rw[R] at b;rw[ac];exact(Blk.new Y _ _).below b)
 have I:=hZ (D.trans (az.mono D.size));have ad:=hZ (A.trans (I.o.mono A.size));have bs:Hid (w.heap.size+2≠y):=hZ (by have:=br.o;have:=D.size;omega)
 have bt:Hid (w.heap.size≤y):=hZ (by have:=A.size;have:=D.size;omega)
 obtain⟨G,H,r⟩:=ab.o _ I.o;have ax:=aB G underlying43 rfl dC;have ay:=aB H underlying51 rfl aU;have f:=ba.o _ (i4 _ _);have c0:=f.cell 0;have bz:=f.cell 1;clear G H r f D az A;go_upto_region 2 with fail
 rw[←R,←ac];clear R ac;go_wp21;refine(N.o _ ad.o).mono ?_;rintro e ca ⟨rfl,U⟩;have bc:=ad.o.trans (U.mono ad.o.size);have r:=(ab.o _ (I.o.trans (U.mono I.o.size))).2.2;have f:=ba.o _ U;obtain⟨bo,X⟩:=nZ (((((ca.setCell ⟨y,3,none⟩ (0:Int)).setCell ⟨w.heap.size+2,0,none⟩ (.string ⟨s.toArray⟩)).setCell ⟨w.heap.size+2,1,none⟩ (0:Int)).setCell ⟨w.heap.size+2,2,none⟩ d).setCell ⟨w.heap.size+2,3,none⟩ (0:Int));have E:=f.setCell 3 (0:Int);have c:=r.other (a:=⟨y,3,none⟩) bs.o (0:Int);have bu:=hZ X;have bv:Hid (Blk bo (w.heap.size+2) 88 (gH s 0 d 0)):=hZ (by
  rw[X];exact((((c.setCell 0 _).setCell 1 _).setCell 2 _).setCell 3 _))
 have bw:Hid (bB w bo):=hZ (by
  rw[X];have m:∀j,w.heap.size≤(⟨w.heap.size+2,j,none⟩:Addr).block:=fun j=>by show w.heap.size≤w.heap.size+2;omega
  exact(((((bc.setCell (p:=⟨y,3,none⟩) bt.o _).setCell (m 0) _).setCell (m 1) _).setCell (m 2) _).setCell (m 3) _))
 have cc:=f.cell 3;have cb:=f.frozen 3;have u0:=E.cell 0;have u1:=E.cell 1;have u2:=E.cell 2;have u3:=E.cell 3;have cd:=c.cell 0;have v1:=c.cell 1;have v2:=c.cell 2;have ce:=c.cell 3;have cf:=c.frozen 0;have cg:=c.frozen 1;have ch:=c.frozen 2;have ci:=c.frozen 3;clear r f c E X U bc ax ay c0 bz;go_wp21;rw[←bu.o];refine l9 (aFq rfl _ _ (w.heap.size+2) s 0 d 0 rfl bv.o) rfl ?_;exact⟨rfl,bw.o⟩
end
section
attribute [local go_sem ↓] Go.wp_at_zero Go.wp_at_succ
attribute [local go_sem ↓] bU bR
def aDj (P:Program) (o:Oper) (t:TypeId) (v:Value) (a:Act) (w:World) (next:Act→World→Prop) (Q:Exit→Act→World→Prop):Prop:=
 o.upon P a next Q ((do let r ←Instr.buildSlice t 1 #[(0,v)];pure (Next.value r):Sem Next).run P w)
theorem aSv {x:Operand} {ty:TypeId} {pos:String}:
  Oper.wp prog ⟨dst,.buildSlice 31 1 #[(0,x)],ty,pos,after,guard⟩ a w next Q=aDj prog ⟨dst,.buildSlice 31 1 #[(0,x)],ty,pos,after,guard⟩ 31 (a.eval x) a w next Q:=by
 unfold Oper.wp aDj execOp;simp
theorem aRk (w:World) (p:aC) (o:Oper) (a:Act) (next:Act→World→Prop) (Q:Exit→Act→World→Prop):
  aDj prog o 31 (.agg (aA p).toArray) a w next Q=next (a.put o.dst (.slice (some ⟨w.heap.size,0,none⟩) 1 1)) (w.alloc (.cells (aA p).toArray 51)):=by
 unfold aDj;obtain⟨e,f,m,y,z,A,D,E,G,H,b,c⟩:=p;have h:(do let r ←Instr.buildSlice 31 1 #[(0,.agg #[e,f,m,y,z,A,D,E,.int .u64 G,.int .u64 H,.int .u64 b,.int .u64 c])];pure (Next.value r):Sem Next).run prog w= .ok (.value (.slice (some ⟨w.heap.size,0,none⟩) 1 1)) (w.alloc (.cells #[e,f,m,y,z,A,D,E,.int .u64 G,.int .u64 H,.int .u64 b,.int .u64 c] 51)):=by
  go_simp
 exact o7 (o.upon prog a next Q) h
theorem pB (x:Operand) (b:o.op= .buildSlice 31 1 #[(0,x)]) (p:aC) (c:a.eval x= .agg (aA p).toArray)
  (h:K (a.put o.dst (.slice (some ⟨w.heap.size,0,none⟩) 1 1)) (w.alloc (.cells (aA p).toArray 51))):Oper.wp prog o a w K Q:=by
 obtain⟨dst,e,ty,pos,after,guard⟩:=o;dsimp only at b h;subst b;rw[aSv,c,aRk];exact h
theorem kV {p u:Tmp} (h:fn.results=#[.cell p 51,.tmp u]) (b:Array Value) (w:World) (g:Nat) (x:aC)
  (e:b.getD p undef= .pointer (some g)) (f:Blk w g 51 (aA x)):
  (results fn b).run prog w= .ok (.tuple #[.agg (aA x).toArray,b.getD u undef]) w:=by
 have c:b[p]?.getD undef= .pointer (some g):=by simpa using e
 simp[results,h,c,asAddr,run_loadVar_mid (P:=prog) w g 0 51 (aA x) _ (fun j v m=>by rw[r9,f.cell,m]) underlying51 rfl aU]
structure PuR (gS gT sb:Nat) (sc:List Value) (t:Bs) (w:World):Prop where
 s:Blk w gS 100 [.pointer (some ⟨sb,0,none⟩)]
 t:Blk w gT 9 [.string ⟨t.toArray⟩]
 b:Blk w sb 174 sc
theorem PuR.below (h:PuR gS gT sb sc t w) (c:bB w w'):PuR gS gT sb sc t w':=⟨h.s.below c,h.t.below c,h.b.below c⟩
structure PuW (gS g8 gR sb:Nat) (p:aC) (w:World):Prop where
 s:Blk w gS 100 [.pointer (some ⟨sb,0,none⟩)]
 p:Blk w g8 51 (aA p)
 r:Blk w gR 51 (aA pD)
theorem PuW.below (h:PuW gS g8 gR sb p w) (b:bB w w'):PuW gS g8 gR sb p w':=⟨h.s.below b,h.p.below b,h.r.below b⟩
theorem PuW.mod (h:PuW gS g8 gR sb p w) (b:Mod T w w') (hT:¬T gS∧¬T g8∧¬T gR):PuW gS g8 gR sb p w':=⟨b.blk h.s hT.1,b.blk h.p hT.2.1,b.blk h.r hT.2.2⟩
def aJi (w:World) (sb:Nat) (V:kE) (bb:Nat) (dn:Option Nat) (T:Nat→Prop) (R:bJw) (e:Ending) (w':World):Prop:=
 e= .returned (.tuple #[.agg (aA R.p).toArray,.int .i64 (R.err:Nat)])∧∃dn',(∀d,dn=some d→dn'=some d)∧fC R.s V sb bb dn' T w w'
theorem tG:W.grownBy (W.setCell ⟨g,j,none⟩ u) (some g):=aJ g [u] W j
theorem bIa {S:dK} (h:bN w sb S V bb dn T) (t:Bs) (level:Int) (htl:t.length≤1000000) (hr:S.x.right=true) (K:Nat) (hK:S.x.deep K) (hK2:K+200≤1000000000) (hw:S.x.takes) (hkp:0≤S.keep∧S.keep≤1000000000) (hbn:S.born.length≤1000000)
  (hpl:(eC S ((t.length/64:Nat):Int) level).err=0→∀q∈(eC S ((t.length/64:Nat):Int) level).l,dO S.x.gs S.x.secs (q.1:Nat) (q.2:Nat) ((t.length/64:Nat):Int)=true) (hno:jD S t level=false):
  Calls prog 337 #[.pointer (some sb),.string ⟨t.toArray⟩,level] w (aJi w sb V bb dn T (cE S t level)):=by
 obtain⟨ga,gc,la,lc,wa,acp,rfl⟩:=h.form;have HNOO:=hZ hno;clear hno;obtain⟨w0,hw0⟩:=nZ (((w.alloc (.cells #[.pointer (some sb)] 100)).alloc (.cells #[.string ⟨t.toArray⟩] 9)).alloc (.cells yE 51));have hb0:bB w w0:=by rw[hw0];exact((bZ).alloc (by simp) _).alloc (by simp;omega) _
 have kS:Blk w0 w.heap.size 100 [.pointer (some sb)]:=by rw[hw0];exact((Blk.new w _ [.pointer (some sb)]).alloc _).alloc _
 have kT:Blk w0 (w.heap.size+1) 9 [.string ⟨t.toArray⟩]:=by rw[hw0];exact(Blk.newAt (g:=w.heap.size+1) _ [.string ⟨t.toArray⟩] (by simp)).alloc _
 have kR:Blk w0 (w.heap.size+2) 51 (aA pD):=by rw[hw0];exact Blk.newAt (g:=w.heap.size+2) _ (aA pD) (by simp)
 have HS0:Hid (w0.heap.size=w.heap.size+3):=hZ (by rw[hw0];simp)
 have HAT0:=hZ ((fT.start h).below hb0);have HNT:Hid (¬T w.heap.size∧¬T (w.heap.size+1)∧¬T (w.heap.size+2)):=hZ ⟨fun hf=>by have:=h.lt _ hf;omega,fun hf=>by have:=h.lt _ hf;omega,fun hf=>by have:=h.lt _ hf;omega⟩
 have HKS:=hZ kS;have HKT:=hZ kT;have HTX:=hZ (aIk t htl w0);have c0:cZ w0 w.heap.size 0 (.pointer (some sb)):=kS.cell 0;have c1:w0.cell? ⟨w.heap.size+1,0,none⟩=some (.string ⟨t.toArray⟩):=kT.cell 0;have hcs:=HAT0.o.is.cells;have e4:w0.cell? ⟨sb,4,none⟩=some (.pointer (some bb)):=hcs.cell 4;have e5:w0.cell? ⟨sb,5,none⟩=some S.txg:=hcs.cell 5;obtain⟨R,hR⟩:=nZ (cE S t level);rw[←hR];have s0:∀(op:Oper) (a:Act) (next:Act→World→Prop) (Q:Exit→Act→World→Prop),cS prog op 51 (.pointer (some ⟨w.heap.size+2,0,none⟩)) (.agg yE) a w0 next Q=next (a.put op.dst undef) (w0.setCells (w.heap.size+2) 0 (aA pD)):=fun op a next Q=>aG (cs:=aA pD) kR (d8 _) aU (aX pD) op a next Q
 have HERR:Hid (jD S t level=false→∀e,e=Ending.returned (.tuple #[.agg (aA pD).toArray,.int .i64 1])→aJi w sb _ bb dn T R e (w0.setCells (w.heap.size+2) 0 (aA pD))):=hZ (fun hno e he=>by
  have hRe:R=⟨pD,1,S⟩:=by rw[hR];unfold cE;rw[i6 hno]
  rw[hRe];refine⟨he,dn,fun d e=>e,?_⟩
  exact(HAT0.o.other kR (by unfold cH;decide) HNT.o.2.2 (by omega) (aJ _ _ _ _)).fin)
 have HBR:Hid (Blk (w0.setCells (w.heap.size+2) 0 (aA pD)) (w.heap.size+2) 51 (aA pD)):=hZ (kR.put rfl);have HFN:Hid (aK.right S.x=true∧S.x.deep K∧K+200≤1000000000∧S.x.takes∧(0≤S.keep∧S.keep≤1000000000)∧S.born.length≤1000000):=hZ ⟨hr,hK,hK2,hw,hkp,hbn⟩;have HPL:=hZ hpl;clear h htl hr hK hK2 hw hkp hbn hpl kS kT kR hR hb0 hcs;go_in;go_upto_region 1 with fail
 simp only[bMc,Nat.reduceAdd];rw[←hw0];clear hw0;by_cases hb:dX t=true
 ·by_cases h1:level<0
  ·have HNO:Hid (jD S t level=false):=hZ (by unfold jD;rw[hb,bMj (fun h=>by omega)];rfl)
   rw[hb] at HTX;go_wp21;refine HTX.o.mono ?_;rintro e wx ⟨rfl,hwx⟩;subst hwx;go_wp21;refine l9 (kV rfl _ _ (w.heap.size+2) pD rfl HBR.o) rfl ?_;exact HERR.o HNO.o _ rfl
  ·by_cases h2:3<level
   ·have HNO:Hid (jD S t level=false):=hZ (by unfold jD;rw[hb,bMj (fun h=>by omega)];rfl)
    rw[hb] at HTX;go_wp21;refine HTX.o.mono ?_;rintro e wx ⟨rfl,hwx⟩;subst hwx;go_wp21;refine l9 (kV rfl _ _ (w.heap.size+2) pD rfl HBR.o) rfl ?_;exact HERR.o HNO.o _ rfl
   ·by_cases h3:S.txg<1
    ·have HNO:Hid (jD S t level=false):=hZ (by unfold jD;rw[hb,bMj (fun h=>by omega)];rfl)
     rw[hb] at HTX;go_wp21;refine HTX.o.mono ?_;rintro e wx ⟨rfl,hwx⟩;subst hwx;go_wp21;refine l9 (kV rfl _ _ (w.heap.size+2) pD rfl HBR.o) rfl ?_;exact HERR.o HNO.o _ rfl
    ·by_cases h4:4294967295<S.txg
     ·have HNO:Hid (jD S t level=false):=hZ (by unfold jD;rw[hb,bMj (fun h=>by omega)];rfl)
      rw[hb] at HTX;go_wp21;refine HTX.o.mono ?_;rintro e wx ⟨rfl,hwx⟩;subst hwx;go_wp21;refine l9 (kV rfl _ _ (w.heap.size+2) pD rfl HBR.o) rfl ?_;exact HERR.o HNO.o _ rfl
     ·exfalso
      have:=HNOO.o;unfold jD at this;rw[hb,bMi (by omega)] at this
      cases this
 ·have hb2:dX t=false:=by simpa using hb
  have HNO:Hid (jD S t level=false):=hZ (by unfold jD;rw[hb2];rfl)
  rw[hb2] at HTX;go_wp21;refine HTX.o.mono ?_;rintro e wx ⟨rfl,hwx⟩;subst hwx;go_wp21;refine l9 (kV rfl _ _ (w.heap.size+2) pD rfl HBR.o) rfl ?_;exact HERR.o HNO.o _ rfl
theorem bFj {S:dK} (h:bN w sb S V bb dn T) (t:Bs) (level:Int) (htl:t.length≤1000000) (hr:S.x.right=true) (K:Nat) (hK:S.x.deep K) (hK2:K+200≤1000000000) (hw:S.x.takes) (hkp:0≤S.keep∧S.keep≤1000000000) (hbn:S.born.length≤1000000)
  (hpl:(eC S ((t.length/64:Nat):Int) level).err=0→∀q∈(eC S ((t.length/64:Nat):Int) level).l,dO S.x.gs S.x.secs (q.1:Nat) (q.2:Nat) ((t.length/64:Nat):Int)=true) (hyes:jD S t level=true):
  Calls prog 337 #[.pointer (some ⟨sb,0,none⟩),.string ⟨t.toArray⟩,.int .i64 level] w (aJi w sb V bb dn T (cE S t level)):=by
 obtain⟨ga,gc,la,lc,wa,acp,rfl⟩:=h.form;have HYES:=hZ hyes;clear hyes;obtain⟨w0,hw0⟩:=nZ (((w.alloc (.cells #[.pointer (some ⟨sb,0,none⟩)] 100)).alloc (.cells #[.string ⟨t.toArray⟩] 9)).alloc (.cells #[.int .i64 0,.int .i64 0,.int .i64 0,.int .i64 0,.bool false,.int .i64 0,.int .i64 0,.int .i64 0,.int .u64 0,.int .u64 0,.int .u64 0,.int .u64 0] 51));have hb0:Below w.heap.size w w0:=by rw[hw0];exact((bZ).alloc (by simp) _).alloc (by simp;omega) _
 have kS:Blk w0 w.heap.size 100 [.pointer (some ⟨sb,0,none⟩)]:=by rw[hw0];exact((Blk.new w _ [.pointer (some ⟨sb,0,none⟩)]).alloc _).alloc _
 have kT:Blk w0 (w.heap.size+1) 9 [.string ⟨t.toArray⟩]:=by rw[hw0];exact(Blk.newAt (g:=w.heap.size+1) _ [.string ⟨t.toArray⟩] (by simp)).alloc _
 have kR:Blk w0 (w.heap.size+2) 51 (aA pD):=by rw[hw0];exact Blk.newAt (g:=w.heap.size+2) _ (aA pD) (by simp)
 have HS0:Hid (w0.heap.size=w.heap.size+3):=hZ (by rw[hw0];simp)
 have HAT0:=hZ ((fT.start h).below hb0);have HNT:Hid (¬T w.heap.size∧¬T (w.heap.size+1)∧¬T (w.heap.size+2)):=hZ ⟨fun hf=>by have:=h.lt _ hf;omega,fun hf=>by have:=h.lt _ hf;omega,fun hf=>by have:=h.lt _ hf;omega⟩
 have HKS:=hZ kS;have HKT:=hZ kT;have HKR:=hZ kR;have HTX:=hZ (aIk t htl w0);have c0:w0.cell? ⟨w.heap.size,0,none⟩=some (.pointer (some ⟨sb,0,none⟩)):=kS.cell 0;have c1:w0.cell? ⟨w.heap.size+1,0,none⟩=some (.string ⟨t.toArray⟩):=kT.cell 0;have hcs:=HAT0.o.is.cells;have e4:w0.cell? ⟨sb,4,none⟩=some (.pointer (some ⟨bb,0,none⟩)):=hcs.cell 4;have e5:w0.cell? ⟨sb,5,none⟩=some (.int .i64 S.txg):=hcs.cell 5;obtain⟨R,hR⟩:=nZ (cE S t level);rw[←hR];have HR:=hZ hR;have s0:∀(op:Oper) (a:Act) (next:Act→World→Prop) (Q:Exit→Act→World→Prop),cS prog op 51 (.pointer (some ⟨w.heap.size+2,0,none⟩)) (.agg #[.int .i64 0,.int .i64 0,.int .i64 0,.int .i64 0,.bool false,.int .i64 0,.int .i64 0,.int .i64 0,.int .u64 0,.int .u64 0,.int .u64 0,.int .u64 0]) a w0 next Q=next (a.put op.dst undef) (w0.setCells (w.heap.size+2) 0 (aA pD)):=fun op a next Q=>aG (cs:=aA pD) kR (d8 _) aU (aX pD) op a next Q
 have HERR:Hid (jD S t level=false→∀e,e=Ending.returned (.tuple #[.agg (aA pD).toArray,.int .i64 1])→aJi w sb _ bb dn T R e (w0.setCells (w.heap.size+2) 0 (aA pD))):=hZ (fun hno e he=>by
  have hRe:R=⟨pD,1,S⟩:=by rw[HR.o];unfold cE;rw[i6 hno]
  rw[hRe];refine⟨he,dn,fun d e=>e,?_⟩
  exact(HAT0.o.other HKR.o (by unfold cH;decide) HNT.o.2.2 (by omega) (aJ _ _ _ _)).fin)
 have HBR:Hid (Blk (w0.setCells (w.heap.size+2) 0 (aA pD)) (w.heap.size+2) 51 (aA pD)):=hZ (kR.put rfl);have HFN:Hid (aK.right S.x=true∧S.x.deep K∧K+200≤1000000000∧S.x.takes∧(0≤S.keep∧S.keep≤1000000000)∧S.born.length≤1000000):=hZ ⟨hr,hK,hK2,hw,hkp,hbn⟩;have HPL:=hZ hpl;clear h htl hr hK hK2 hw hkp hbn hpl kS kT kR hR hb0 hcs;go_enter func337,ntmps337;go_upto_region 1 with fail
 simp only[bMc,Nat.reduceAdd];rw[←hw0];clear hw0;have hyy:=HYES.o;unfold jD at hyy;simp only[y8,bLt] at hyy;obtain⟨hb,h1,h2,h3,h4⟩:=hyy;rw[hb] at HTX;clear HERR HBR s0;obtain⟨F,hdv,_,_⟩:=HAT0.o.is.dvs;have HVR:=hZ (fL hdv HFN.o.1);have hcs:=HAT0.o.is.cells;have d0:w0.cell? ⟨sb,0,none⟩=some (.slice ga S.x.gs.length gc):=hcs.cell 0;have d1:w0.cell? ⟨sb,1,none⟩=some (.int .i64 S.x.secs):=hcs.cell 1;have d2:w0.cell? ⟨sb,2,none⟩=some (.slice la S.x.ds.length lc):=hcs.cell 2;have d3:w0.cell? ⟨sb,3,none⟩=some (.slice wa S.x.ds.length acp):=hcs.cell 3;have hb256:t.length≤256∧t.length%64=0∧0<t.length:=by
  have:=hb;unfold dX at this;simp only[bLt] at this;exact⟨this.2.2,this.2.1,by rcases t with _|_;exact absurd rfl this.1;simp⟩
 obtain⟨⟨x0,x1,x2,x3⟩,hx⟩:∃z,z=dG t:=⟨_,rfl⟩;have HSM:Hid (∀W,Calls prog 140 #[.string ⟨t.toArray⟩] W fun e w'=>e= .returned (.agg #[.int .u64 (x0:Nat),.int .u64 (x1:Nat),.int .u64 (x2:Nat),.int .u64 (x3:Nat)])∧Below W.heap.size W w'):=hZ (fun W=>by
  have h9:=uN t (by omega) W
  rw[←hx] at h9;exact h9)
 have HWQ:Hid (IntKind.i64.wrap ((t.length:Int)/64)=((t.length/64:Nat):Int)):=hZ (by rw[bLo _ (by omega)];omega)
 have HX:=hZ hx;clear hcs hdv hx;go_wp2_with fail;refine HTX.o.mono ?_;rintro e wx ⟨rfl,hwx⟩;subst hwx;go_wp2_with fail;refine HVR.o.mono ?_;rintro e w1 ⟨rfl,hb1⟩;have HAT1:=hZ (HAT0.o.below hb1);have K1S:=hZ (HKS.o.below hb1);have K1T:=hZ (HKT.o.below hb1);have K1R:=hZ (HKR.o.below hb1);have HS1:Hid (w.heap.size+3≤w1.heap.size):=hZ (by have:=hb1.size;have:=HS0.o;omega)
 have hS0:PuR w.heap.size (w.heap.size+1) sb (sQ ⟨.slice ga S.x.gs.length gc,.slice la S.x.ds.length lc,.slice wa S.x.ds.length acp⟩ S bb dn) t w1.drew:=⟨K1S.o,K1T.o,HAT1.o.is.cells⟩;clear hb1 c0 c1 e4 e5 d0 d1 d2 d3 HVR HTX;go_upto_region 3 with fail
 go_cut [8] (fun v8 wx=>∃g8,v8= .pointer (some ⟨g8,0,none⟩)∧Hid (Blk wx g8 51 (aA ⟨0,0,0,0,false,((t.length/64:Nat):Int),level,S.txg,(x0:Nat),(x1:Nat),(x2:Nat),(x3:Nat)⟩)∧w1.heap.size≤g8∧Below w1.heap.size w1 wx))
 case first=>
  refine l7 (S:=PuR w.heap.size (w.heap.size+1) sb (sQ ⟨.slice ga S.x.gs.length gc,.slice la S.x.ds.length lc,.slice wa S.x.ds.length acp⟩ S bb dn) t) (by kernel_rfl) hS0 (fun hS0=>?_)
  refine sB (i:=0) (v:=?vy0) (hy:=?yy0) (h:=?_)
  case yy0=>intro w hSw;(try dsimp only at hSw);go_simp;rw[(PuR.t hSw).cell 0];rfl
  try simp only[Act.put,z1,z2,z3]
  refine aE 1 ?_;refine sB (i:=2) (v:=?vy2) (hy:=?yy2) (h:=?_)
  case yy2=>intro w hSw;(try dsimp only at hSw);go_simp;rw[HWQ.o]
  try simp only[Act.put,z1,z2,z3]
  refine aE 3 ?_;refine sB (i:=4) (v:=?vy4) (hy:=?yy4) (h:=?_)
  case yy4=>intro w hSw;(try dsimp only at hSw);go_simp;rw[(PuR.s hSw).cell 0];rfl
  try simp only[Act.put,z1,z2,z3]
  refine aE 5 ?_;refine aE 6 ?_;refine sB (i:=7) (v:=?vy7) (hy:=?yy7) (h:=?_)
  case yy7=>intro w hSw;(try dsimp only at hSw);go_simp;rw[(PuR.b hSw).cell 5];rfl
  try simp only[Act.put,z1,z2,z3]
  refine sB (i:=8) (v:=?vy8) (hy:=?yy8) (h:=?_)
  case yy8=>intro w hSw;(try dsimp only at hSw);go_simp;rw[(PuR.t hSw).cell 0];rfl
  try simp only[Act.put,z1,z2,z3]
  refine wpAnyH_ready (rs:=[9,11]) (by kernel_rfl) (by simp) ?_
  refine z8 (by simp only[n9,m9,n8];rfl) (fun K hK=>?_) (z8 (by simp only[n9,m9,n8];rfl) (fun K hK=>?_) AllReadyH.nil)
  ·go_simp
   refine(HSM.o w1.drew).mono ?_;rintro e w6 ⟨rfl,hb6⟩;have HB6:Hid (Below w1.heap.size w1 w6):=hZ ((i4 w1.heap.size w1).drew.trans (hb6.mono ((i4 w1.heap.size w1).drew).size));have HP6:=hZ (hS0.below hb6);clear hb6
   try dsimp only
   refine hK.o _ _ (HP6.o) (fun hSyp9=>?_)
   try simp only[Act.put,z1,z2,z3]
   refine aE 10 ?_;refine dY (i:=11) (h:=fun K hK=>?_)
   go_simp
   skip
   refine hK.o _ _ ((HP6.o.below ((i4 _ _).alloc (d8 _) (.cells (aA pD).toArray 51)))) (fun hSyp11=>?_)
   try simp only[Act.put,z1,z2,z3]
   refine dY (i:=12) (h:=fun K hK=>?_)
   rw[i6 (by kernel_rfl)]
   refine bMx 51 (.tmp 8) (.tmp 66) rfl w6.heap.size (0) (aA ⟨0,0,0,0,false,((t.length/64:Nat):Int),level,S.txg,(x0:Nat),(x1:Nat),(x2:Nat),(x3:Nat)⟩).toArray rfl rfl (cW (Blk.new w6 51 (aA pD)) (d8 12)) aU (bLu (aX _)) ?_;refine hK.o _ _ (⟨(HP6.o.s.alloc _).away 0 _ (by have:=HP6.o.s.lt;omega),(HP6.o.t.alloc _).away 0 _ (by have:=HP6.o.t.lt;omega),(HP6.o.b.alloc _).away 0 _ (by have:=HP6.o.b.lt;omega)⟩) (fun hSyp12=>?_)
   try simp only[Act.put,z1,z2,z3]
   have HT:Hid (Blk ((w6.alloc (.cells (aA pD).toArray 51)).setCells w6.heap.size 0 (aA ⟨0,0,0,0,false,((t.length/64:Nat):Int),level,S.txg,(x0:Nat),(x1:Nat),(x2:Nat),(x3:Nat)⟩)) w6.heap.size 51 (aA ⟨0,0,0,0,false,((t.length/64:Nat):Int),level,S.txg,(x0:Nat),(x1:Nat),(x2:Nat),(x3:Nat)⟩)∧w1.heap.size≤w6.heap.size∧Below w1.heap.size w1 ((w6.alloc (.cells (aA pD).toArray 51)).setCells w6.heap.size 0 (aA ⟨0,0,0,0,false,((t.length/64:Nat):Int),level,S.txg,(x0:Nat),(x1:Nat),(x2:Nat),(x3:Nat)⟩))):=hZ ⟨(Blk.new w6 51 (aA pD)).put rfl,HB6.o.size,bQ (HB6.o.alloc HB6.o.size _) (by have:=HB6.o.size;simp;omega) HB6.o.size⟩
   refine r8 (by kernel_rfl) ?_ _
   go_wp2_with fail;go_meet;exact⟨_,rfl,HT⟩
  ·go_simp
   skip
   refine hK.o _ _ ((hS0.below ((i4 _ _).alloc (d8 _) (.cells (aA pD).toArray 51)))) (fun hSyq11=>?_)
   try simp only[Act.put,z1,z2,z3]
   refine dY (i:=9) (h:=fun K hK=>?_)
   go_simp;refine(HSM.o (w1.drew.alloc (.cells (aA pD).toArray 51))).mono ?_;rintro e w6 ⟨rfl,hb6⟩;have HB6:Hid (Below w1.heap.size w1 w6):=hZ (((i4 _ _).drew.alloc (d8 _) (.cells (aA pD).toArray 51)).trans (hb6.mono ((i4 w1.heap.size w1).drew.alloc (d8 _) (.cells (aA pD).toArray 51)).size));have HP6:=hZ ((hS0.below ((i4 _ _).alloc (d8 _) (.cells (aA pD).toArray 51))).below hb6);have HX6:Hid (Blk w6 w1.heap.size 51 (aA pD)):=hZ ((Blk.new w1.drew _ (aA pD)).below hb6);clear hb6
   try dsimp only
   refine hK.o _ _ (HP6.o) (fun hSyq9=>?_)
   try simp only[Act.put,z1,z2,z3]
   refine aE 10 ?_;refine dY (i:=12) (h:=fun K hK=>?_)
   rw[i6 (by kernel_rfl)]
   refine bMx 51 (.tmp 8) (.tmp 66) rfl w1.heap.size (0) (aA ⟨0,0,0,0,false,((t.length/64:Nat):Int),level,S.txg,(x0:Nat),(x1:Nat),(x2:Nat),(x3:Nat)⟩).toArray rfl rfl (cW HX6.o (d8 12)) aU (bLu (aX _)) ?_;refine hK.o _ _ (⟨HP6.o.s.away 0 _ (by have:=HS1.o;omega),HP6.o.t.away 0 _ (by have:=HS1.o;omega),HP6.o.b.away 0 _ (by have:=hS0.b.lt;have e:w1.drew.heap.size=w1.heap.size:=rfl;omega)⟩) (fun hSyq12=>?_)
   try simp only[Act.put,z1,z2,z3]
   have HT:Hid (Blk (w6.setCells w1.heap.size 0 (aA ⟨0,0,0,0,false,((t.length/64:Nat):Int),level,S.txg,(x0:Nat),(x1:Nat),(x2:Nat),(x3:Nat)⟩)) w1.heap.size 51 (aA ⟨0,0,0,0,false,((t.length/64:Nat):Int),level,S.txg,(x0:Nat),(x1:Nat),(x2:Nat),(x3:Nat)⟩)∧w1.heap.size≤w1.heap.size∧Below w1.heap.size w1 (w6.setCells w1.heap.size 0 (aA ⟨0,0,0,0,false,((t.length/64:Nat):Int),level,S.txg,(x0:Nat),(x1:Nat),(x2:Nat),(x3:Nat)⟩))):=hZ ⟨HX6.o.put rfl,d8 _,bQ HB6.o HB6.o.size (d8 _)⟩;refine r8 (by kernel_rfl) ?_ _
   go_wp2_with fail;go_meet;exact⟨_,rfl,HT⟩
 case rest=>
  obtain⟨g8,rfl,HG8⟩:=hcut;have HAT2:=hZ (HAT1.o.below HG8.o.2.2);have K2S:=hZ (K1S.o.below HG8.o.2.2);have K2T:=hZ (K1T.o.below HG8.o.2.2);have K2R:=hZ (K1R.o.below HG8.o.2.2);have HG8N:Hid (¬T g8∧w.heap.size+3≤g8):=hZ ⟨fun hf=>by have:=HAT1.o.is.lt _ hf;have:=HG8.o.2.1;omega,by have:=HG8.o.2.1;have:=HS1.o;omega⟩
  have b0:wc.cell? ⟨w.heap.size,0,none⟩=some (.pointer (some ⟨sb,0,none⟩)):=K2S.o.cell 0;have b5:wc.cell? ⟨g8,5,none⟩=some (.int .i64 ((t.length/64:Nat):Int)):=HG8.o.1.cell 5;obtain⟨sz,hsz⟩:∃sz:Int,sz=((t.length/64:Nat):Int):=⟨_,rfl⟩;have HSZ:=hZ hsz;rw[←hsz] at b5;have HPC:=hZ (aSa HAT2.o.is sz level HFN.o.2.2.2.2.1);obtain⟨er,hper⟩:=nZ ((eC S sz level).err);obtain⟨l,hl⟩:=nZ ((eC S sz level).l);obtain⟨sn1,hsn1⟩:=nZ ((eC S sz level).sn);obtain⟨es1,hes1⟩:=nZ ((eC S sz level).es);rw[←hper,←hl,←hsn1,←hes1] at HPC;have HRE:Hid (R=if er≠0 then⟨pD,er,{S with sn:=sn1,es:=es1}⟩ else⟨aFw t level S.txg l,0,{S with sn:=sn1,es:=es1,x:=iF t l S.x,born:=S.born++[aFw t level S.txg l]}⟩):=hZ (by
   rw[HR.o];unfold cE;rw[i9 (by rw[HYES.o];decide),←HSZ.o,←hper,←hl,←hsn1,←hes1])
  have HL12:Hid (er=0→l.length=1∨l.length=2):=hZ (fun h0=>by rw[hl];exact bGv S sz level (hper.symm.trans h0))
  have HLM:Hid (er=0→∀q∈l,dO S.x.gs S.x.secs (q.1:Nat) (q.2:Nat) ((t.length/64:Nat):Int)=true):=hZ (fun h0 q hq=>by
   refine HPL.o ?_ q ?_
   ·rw[←HSZ.o,←hper];exact h0
   ·rw[←HSZ.o,←hl];exact hq)
  clear hper hl hsn1 hes1 hsz HR;go_wp2_with fail;refine HPC.o.mono ?_;rintro e w3 ⟨v,rfl,⟨vao,vn,vc,rfl⟩,hv,hst⟩;obtain⟨T3,hat3,hfr3,hm3⟩:=HAT2.o.step hst;have HAT3:=hZ hat3;have HNT3:Hid (¬T3 w.heap.size∧¬T3 (w.heap.size+1)∧¬T3 (w.heap.size+2)∧¬T3 g8):=hZ ⟨hfr3 _ K2S.o.lt HNT.o.1,hfr3 _ K2T.o.lt HNT.o.2.1,hfr3 _ K2R.o.lt HNT.o.2.2,hfr3 _ HG8.o.1.lt HG8N.o.1⟩;have K3S:=hZ (hm3.blk K2S.o HNT.o.1);have K3T:=hZ (hm3.blk K2T.o HNT.o.2.1);have K3R:=hZ (hm3.blk K2R.o HNT.o.2.2);have K38:=hZ (hm3.blk HG8.o.1 HG8N.o.1);have HV:=hZ hv;clear hv hst hat3 hfr3 hm3 HPC b0 b5;by_cases her:er=0
  ·obtain⟨gl,hve,hgl,hkl⟩:=HV.o her
   rw[hve];subst her;clear hve HV;have hll:l.length≤2:=by rcases HL12.o rfl with h|h<;>omega
   have HDL:=hZ (aMn HAT3.o.is w.heap.size (w.heap.size+1) g8 gl l.length t l K3S.o K3T.o hkl HNT3.o.1 HNT3.o.2.1 hll HFN.o.1 hb (HLM.o rfl) K HFN.o.2.1 HFN.o.2.2.1 HFN.o.2.2.2.1);have HKL:=hZ hkl;have HKN:=hZ (HAT3.o.is.noType hkl (by unfold kD cH lZ;decide))
   clear hgl hkl;go_wp2_with fail;refine HDL.o.mono ?_;rintro e w4 ⟨rfl,hst⟩;obtain⟨T4,hat4,hfr4,hm4⟩:=HAT3.o.step hst;have HAT4:=hZ hat4;have HNT4:Hid (¬T4 w.heap.size∧¬T4 g8∧¬T4 (w.heap.size+2)):=hZ ⟨hfr4 _ K3S.o.lt HNT3.o.1,hfr4 _ K38.o.lt HNT3.o.2.2.2,hfr4 _ K3R.o.lt HNT3.o.2.2.1⟩;have K4S:=hZ (hm4.blk K3S.o HNT3.o.1);have K4R:=hZ (hm4.blk K3R.o HNT3.o.2.2.1);have K48:=hZ (hm4.blk K38.o HNT3.o.2.2.2);have K4L:=hZ (hm4.blk HKL.o HKN.o);clear hst hat4 hfr4 hm4 HDL;rcases l with _|⟨⟨q0g,q0a⟩,rest⟩
   ·exfalso
    rcases HL12.o (by trivial) with h|h<;>cases h
   ·have hgS:w.heap.size≠g8:=by have:=HG8N.o.2;omega
    have hgR:w.heap.size+2≠g8:=by have:=HG8N.o.2;omega
    have hg8:w.heap.size+3≤g8:=HG8N.o.2;obtain⟨P,hP⟩:=nZ (aFw t level S.txg ((q0g,q0a)::rest));have HRR:Hid (R=⟨P,0,{S with sn:=sn1,es:=es1,x:=iF t ((q0g,q0a)::rest) S.x,born:=S.born++[P]}⟩):=hZ (by rw[HRE.o,i9 (by simp),hP])
    have HPP:Hid (∀rr,rest=rr→aA P=aA (aFw t level S.txg ((q0g,q0a)::rr))):=hZ (fun rr e=>by rw[hP,e])
    obtain⟨n,hn⟩:=nZ (((q0g,q0a)::rest).length);obtain⟨b,hbq⟩:=nZ (decide (1<n));rw[←hn];rw[←hn] at hll;have hn1:1≤n:=by rw[hn];simp
    have HRS:Hid ((b=true→∃q1g q1a,rest=[(q1g,q1a)])∧(b=false→rest=[])):=hZ (by
     rw[hbq,hn];rcases rest with _|⟨⟨q1g,q1a⟩,_|⟨q2,rr⟩⟩
     ·exact⟨fun h=>by simp at h,fun _=>rfl⟩
     ·exact⟨fun _=>⟨q1g,q1a,rfl⟩,fun h=>by simp at h⟩
     ·exfalso
      rw[hn] at hll;simp only[bLn] at hll;omega)
    have HB1:Hid (b=true→1<n):=hZ (fun h=>by rw[hbq] at h;simpa using h)
    have hq1:decide ((1:Int)<(n:Int))=b:=by rw[hbq];exact decide_eq_decide.2 ⟨fun h=>by omega,fun h=>by omega⟩
    have hq0:¬(n:Int)=0:=by omega
    have hq2:((n:Int) == 0)=false:=by simpa using hq0
    have z0:w4.cell? ⟨gl,0,none⟩=some (.int .i64 (q0g:Nat)):=K4L.o.cell 0;have z1:w4.cell? ⟨gl,1,none⟩=some (.int .i64 (q0a:Nat)):=K4L.o.cell 1;have hgl:gl≠g8:=fun e=>by
     have h1:=K4L.o;have h2:=K48.o;unfold Blk at h1 h2;rw[e,h2] at h1;simp only[i5,n7] at h1;exact absurd h1.2.1 (by decide)
    have y0:w4.cell? ⟨g8,0,none⟩=some (.int .i64 0):=K48.o.cell 0;have y1:w4.cell? ⟨g8,1,none⟩=some (.int .i64 0):=K48.o.cell 1;have y2:w4.cell? ⟨g8,2,none⟩=some (.int .i64 0):=K48.o.cell 2;have y3:w4.cell? ⟨g8,3,none⟩=some (.int .i64 0):=K48.o.cell 3;have y4:w4.cell? ⟨g8,4,none⟩=some (.bool false):=K48.o.cell 4;have v0:=K48.o.frozen 0;have v1:=K48.o.frozen 1;have v2:=K48.o.frozen 2;have v3:=K48.o.frozen 3;have v4:=K48.o.frozen 4;clear hP hn hbq;go_upto_if 95 with fail
    go_cut [] from 96 (fun wx=>Hid (fT {S with sn:=sn1,es:=es1,x:=iF t ((q0g,q0a)::rest) S.x} ⟨.slice ga S.x.gs.length gc,.slice la S.x.ds.length lc,.slice wa S.x.ds.length acp⟩ sb bb dn T w wx T4)∧Hid (PuW w.heap.size g8 (w.heap.size+2) sb P wx))
    case first=>
     cases b with
     |true=>
      obtain⟨q1g,q1a,hr1⟩:=HRS.o.1 rfl;have hp:=HPP.o _ hr1;have h1n:=HB1.o rfl;have h1i:(1:Int)<(n:Int):=by omega
      have z2:w4.cell? ⟨gl,2,none⟩=some (.int .i64 (q1g:Nat)):=by have h9:=K4L.o;rw[hr1] at h9;exact h9.cell 2
      have z3:w4.cell? ⟨gl,3,none⟩=some (.int .i64 (q1a:Nat)):=by have h9:=K4L.o;rw[hr1] at h9;exact h9.cell 3
      have HAX:=hZ (((((HAT4.o.other (wd:=w4.setCell ⟨g8,0,none⟩ (.int .i64 (q0g:Nat))) K48.o (by unfold cH;decide) HNT4.o.2.1 (by omega) tG).other (wd:=(w4.setCell ⟨g8,0,none⟩ (.int .i64 (q0g:Nat))).setCell ⟨g8,1,none⟩ (.int .i64 (q0a:Nat))) (K48.o.setCell 0 (.int .i64 (q0g:Nat))) (by unfold cH;decide) HNT4.o.2.1 (by omega) tG).other (wd:=((w4.setCell ⟨g8,0,none⟩ (.int .i64 (q0g:Nat))).setCell ⟨g8,1,none⟩ (.int .i64 (q0a:Nat))).setCell ⟨g8,4,none⟩ (.bool true)) ((K48.o.setCell 0 (.int .i64 (q0g:Nat))).setCell 1 (.int .i64 (q0a:Nat))) (by unfold cH;decide) HNT4.o.2.1 (by omega) tG).other (wd:=(((w4.setCell ⟨g8,0,none⟩ (.int .i64 (q0g:Nat))).setCell ⟨g8,1,none⟩ (.int .i64 (q0a:Nat))).setCell ⟨g8,4,none⟩ (.bool true)).setCell ⟨g8,2,none⟩ (.int .i64 (q1g:Nat))) (((K48.o.setCell 0 (.int .i64 (q0g:Nat))).setCell 1 (.int .i64 (q0a:Nat))).setCell 4 (.bool true)) (by unfold cH;decide) HNT4.o.2.1 (by omega) tG).other (wd:=((((w4.setCell ⟨g8,0,none⟩ (.int .i64 (q0g:Nat))).setCell ⟨g8,1,none⟩ (.int .i64 (q0a:Nat))).setCell ⟨g8,4,none⟩ (.bool true)).setCell ⟨g8,2,none⟩ (.int .i64 (q1g:Nat))).setCell ⟨g8,3,none⟩ (.int .i64 (q1a:Nat))) ((((K48.o.setCell 0 (.int .i64 (q0g:Nat))).setCell 1 (.int .i64 (q0a:Nat))).setCell 4 (.bool true)).setCell 2 (.int .i64 (q1g:Nat))) (by unfold cH;decide) HNT4.o.2.1 (by omega) tG)
      have HKX:=hZ ((((((K48.o.setCell 0 (.int .i64 (q0g:Nat))).setCell 1 (.int .i64 (q0a:Nat))).setCell 4 (.bool true)).setCell 2 (.int .i64 (q1g:Nat))).setCell 3 (.int .i64 (q1a:Nat))));have HPX:=hZ hp;clear hr1 hp;go_wp2_with fail;go_meet;exact⟨HAX,hZ ⟨(((((K4S.o.other (a:=⟨g8,0,none⟩) hgS _).other (a:=⟨g8,1,none⟩) hgS _).other (a:=⟨g8,4,none⟩) hgS _).other (a:=⟨g8,2,none⟩) hgS _).other (a:=⟨g8,3,none⟩) hgS _),by rw[HPX.o];unfold aFw;rw[←HX.o];exact HKX.o,(((((K4R.o.other (a:=⟨g8,0,none⟩) hgR _).other (a:=⟨g8,1,none⟩) hgR _).other (a:=⟨g8,4,none⟩) hgR _).other (a:=⟨g8,2,none⟩) hgR _).other (a:=⟨g8,3,none⟩) hgR _)⟩⟩
     |false=>
      have HPX:=hZ (HPP.o _ (HRS.o.2 rfl));have HAX:=hZ (((HAT4.o.other (wd:=w4.setCell ⟨g8,0,none⟩ (.int .i64 (q0g:Nat))) K48.o (by unfold cH;decide) HNT4.o.2.1 (by omega) tG).other (wd:=(w4.setCell ⟨g8,0,none⟩ (.int .i64 (q0g:Nat))).setCell ⟨g8,1,none⟩ (.int .i64 (q0a:Nat))) (K48.o.setCell 0 (.int .i64 (q0g:Nat))) (by unfold cH;decide) HNT4.o.2.1 (by omega) tG).other (wd:=((w4.setCell ⟨g8,0,none⟩ (.int .i64 (q0g:Nat))).setCell ⟨g8,1,none⟩ (.int .i64 (q0a:Nat))).setCell ⟨g8,4,none⟩ (.bool false)) ((K48.o.setCell 0 (.int .i64 (q0g:Nat))).setCell 1 (.int .i64 (q0a:Nat))) (by unfold cH;decide) HNT4.o.2.1 (by omega) tG)
      have HKX:=hZ ((((K48.o.setCell 0 (.int .i64 (q0g:Nat))).setCell 1 (.int .i64 (q0a:Nat))).setCell 4 (.bool false)));go_wp2_with fail;go_meet;exact⟨HAX,hZ ⟨(((K4S.o.other (a:=⟨g8,0,none⟩) hgS _).other (a:=⟨g8,1,none⟩) hgS _).other (a:=⟨g8,4,none⟩) hgS _),by rw[HPX.o];unfold aFw;rw[←HX.o];exact HKX.o,(((K4R.o.other (a:=⟨g8,0,none⟩) hgR _).other (a:=⟨g8,1,none⟩) hgR _).other (a:=⟨g8,4,none⟩) hgR _)⟩⟩
    case rest=>
     obtain⟨HAT5,HPW⟩:=hcut;obtain⟨w5,hw5⟩:=nZ wc;subst hw5;clear hgl;go_upto_region 13 with fail
     have HA5:=hZ (HAT5.o.below (i4 _ _).drew);have HA5b:=hZ (HA5.o.alloc (.cells (aA P).toArray 51));have hS5:PuW w.heap.size g8 (w.heap.size+2) sb P w5.drew:=HPW.o.below (i4 _ _).drew;go_cut [100] (fun v wx=>∃d Tz,v= .pointer (some ⟨sb,0,none⟩)∧Hid (∀d0,dn=some d0→d=d0)∧Hid (fT {S with sn:=sn1,es:=es1,x:=iF t ((q0g,q0a)::rest) S.x,born:=S.born++[P]} ⟨.slice ga S.x.gs.length gc,.slice la S.x.ds.length lc,.slice wa S.x.ds.length acp⟩ sb bb (some d) T w wx Tz)∧Hid (PuW w.heap.size g8 (w.heap.size+2) sb P wx)∧Hid (¬Tz g8∧¬Tz (w.heap.size+2)))
     case first=>
      refine l7 (S:=PuW w.heap.size g8 (w.heap.size+2) sb P) (by kernel_rfl) hS5 (fun hS5=>?_)
      refine sB (i:=0) (v:=?vz0) (hy:=?yz0) (h:=?_)
      case yz0=>intro w hSw;(try dsimp only at hSw);go_simp;rw[(PuW.s hSw).cell 0];rfl
      try simp only[Act.put,z1,z2,z3]
      refine sB (i:=2) (v:=?vz2) (hy:=?yz2) (h:=?_)
      case yz2=>intro w hSw;(try dsimp only at hSw);go_simp;rw[(PuW.s hSw).cell 0];rfl
      try simp only[Act.put,z1,z2,z3]
      refine mX 7 ?vz7 ?yz7 ?_
      case yz7=>refine m5 (by kernel_rfl) 51 (.tmp 8) ?_ g8 (0) ?_ (aA P) _ (fun w' (hw:PuW _ _ _ _ _ w')=>jX hw.p) underlying51 rfl aU<;>rfl
      refine wpAnyH_ready (rs:=[1,8]) (by kernel_rfl) (by simp) ?_
      refine z8 (by simp only[n9,m9,n8];rfl) (fun K hK=>?_) (z8 (by simp only[n9,m9,n8];rfl) (fun K hK=>?_) AllReadyH.nil)
      ·go_simp
       refine(aBb HA5.o.is).mono ?_;rintro e w6 ⟨d,rfl,hst,hdd⟩;obtain⟨T6,hat6,hfr6,hm6⟩:=HA5.o.step hst;have HAT6:=hZ hat6;have HD6:=hZ hdd;have HN6:Hid (¬T6 w.heap.size∧¬T6 g8∧¬T6 (w.heap.size+2)):=hZ ⟨hfr6 _ (hS5).s.lt HNT4.o.1,hfr6 _ (hS5).p.lt HNT4.o.2.1,hfr6 _ (hS5).r.lt HNT4.o.2.2⟩;have HP6:=hZ ((hS5).mod hm6 HNT4.o);clear hst hdd hat6 hfr6 hm6
       try dsimp only
       refine hK.o _ _ (HP6.o) (fun hSzp1=>?_)
       try simp only[Act.put,z1,z2,z3]
       refine wpAnyH_ready (rs:=[3,8]) (by kernel_rfl) (by simp) ?_
       refine z8 (by simp only[n9,m9,n8];rfl) (fun K hK=>?_) (z8 (by simp only[n9,m9,n8];rfl) (fun K hK=>?_) AllReadyH.nil)
       ·go_simp
        refine(rK HAT6.o.is).mono ?_;rintro e w7 ⟨rfl,hw7⟩;rw[hw7];clear hw7
        try dsimp only
        refine hK.o _ _ (HP6.o) (fun hSzpp3=>?_)
        try simp only[Act.put,z1,z2,z3]
        refine aE 4 ?_;refine aE 5 ?_;obtain⟨bv,hbv⟩:=HAT6.o.is.done;obtain⟨bo,bc,rfl⟩:=aY (HAT6.o.is.app2 hbv).1;have HBV:=hZ hbv;have e6:w6.cell? ⟨d,1,none⟩=some (.slice bo S.born.length bc):=hbv.cell 1;clear hbv;refine wpAnyH_ready (rs:=[6,8]) (by kernel_rfl) (by simp) ?_
        refine z8 (by simp only[n9,m9,n8];rfl) (fun K hK=>?_) (z8 (by simp only[n9,m9,n8];rfl) (fun K hK=>?_) AllReadyH.nil)
        ·go_simp
         clear e6;refine hK.o _ _ (HP6.o) (fun hSzppp6=>?_)
         try simp only[Act.put,z1,z2,z3]
         refine dY (i:=8) (h:=fun K hK=>?_)
         rw[i6 (by kernel_rfl)]
         refine pB (.tmp 107) rfl P rfl ?_;refine hK.o _ _ ((HP6.o.below ((i4 _ _).alloc (d8 _) (.cells (aA P).toArray 51)))) (fun hSzppp8=>?_)
         try simp only[Act.put,z1,z2,z3]
         have HAT6b:=hZ (HAT6.o.alloc (.cells (aA P).toArray 51));have HP6b:=hZ (HP6.o.below ((i4 _ _).alloc (d8 _) (.cells (aA P).toArray 51)));have HGBb:Hid (Blk (w6.alloc (.cells (aA P).toArray 51)) w6.heap.size 51 (aA P)):=hZ (Blk.new w6 _ (aA P));refine dY (i:=9) (h:=fun K hK=>?_)
         rw[i6 (by kernel_rfl)]
         obtain⟨hrow,hTd,hTb,happ⟩:=HAT6b.o.is.app2 (HBV.o.alloc _);refine pC (.tmp 106) (.tmp 108) rfl (.slice bo S.born.length bc) S.born rfl hrow w6.heap.size 1 P rfl (jX HGBb.o) HFN.o.2.2.2.2.2 ?_;intro v9 w9 hown hgrow hat;obtain⟨hd9,hst9⟩:=happ P v9 w9 hown hgrow hat;obtain⟨ao9,cap9,rfl⟩:=aY hown;obtain⟨T9,hat9,hfr9,_⟩:=HAT6b.o.step hst9;have HP9:=hZ (HP6b.o.mod (iM hgrow hTb) HN6.o);have HAT9:=hZ (by simpa only[i7,List.length_singleton] using hat9)
         have HN9:Hid (¬T9 g8∧¬T9 (w.heap.size+2)):=hZ ⟨hfr9 _ HP6b.o.p.lt HN6.o.2.1,hfr9 _ HP6b.o.r.lt HN6.o.2.2⟩;have HNE9:Hid (w.heap.size≠d∧g8≠d∧w.heap.size+2≠d):=hZ ⟨fun e=>HN6.o.1 (by rw[e];exact hTd),fun e=>HN6.o.2.1 (by rw[e];exact hTd),fun e=>HN6.o.2.2 (by rw[e];exact hTd)⟩
         have e9:w9.cell? ⟨d,1,none⟩=some (.slice bo S.born.length bc):=hd9.cell 1;have f9:=hd9.frozen 1;clear hrow hTd hTb happ hown hgrow hat hd9 hst9 hat9 hfr9;refine hK.o _ _ (HP9.o) (fun hSzppp9=>?_)
         try simp only[Act.put,z1,z2,z3]
         refine aE 10 ?_;refine aE 11 ?_;refine dY (i:=12) (h:=fun K hK=>?_)
         go_simp
         skip
         refine hK.o _ _ (⟨HP9.o.s.other HNE9.o.1 _,HP9.o.p.other HNE9.o.2.1 _,HP9.o.r.other HNE9.o.2.2 _⟩) (fun hSzppp12=>?_)
         try simp only[Act.put,z1,z2,z3]
         have HP12:Hid (PuW w.heap.size g8 (w.heap.size+2) sb P (w9.setCell ⟨d,1,none⟩ (.slice ao9 (S.born.length+1) cap9))):=hZ (PuW.mk (HP9.o.s.other HNE9.o.1 _) (HP9.o.p.other HNE9.o.2.1 _) (HP9.o.r.other HNE9.o.2.2 _));refine r8 (by kernel_rfl) ?_ _
         go_wp2_with fail;go_meet;exact⟨d,T9,rfl,HD6,HAT9,HP12,HN9⟩
        ·rw[i6 (by kernel_rfl)]
         refine pB (.tmp 107) rfl P rfl ?_;refine hK.o _ _ ((HP6.o.below ((i4 _ _).alloc (d8 _) (.cells (aA P).toArray 51)))) (fun hSzppq8=>?_)
         try simp only[Act.put,z1,z2,z3]
         have HAT6b:=hZ (HAT6.o.alloc (.cells (aA P).toArray 51));have HP6b:=hZ (HP6.o.below ((i4 _ _).alloc (d8 _) (.cells (aA P).toArray 51)));have HGBb:Hid (Blk (w6.alloc (.cells (aA P).toArray 51)) w6.heap.size 51 (aA P)):=hZ (Blk.new w6 _ (aA P));have e6b:(w6.alloc (.cells (aA P).toArray 51)).cell? ⟨d,1,none⟩=some (.slice bo S.born.length bc):=(HBV.o.alloc _).cell 1;refine dY (i:=6) (h:=fun K hK=>?_)
         go_simp;clear e6b;refine hK.o _ _ (HP6b.o) (fun hSzppq6=>?_)
         try simp only[Act.put,z1,z2,z3]
         refine dY (i:=9) (h:=fun K hK=>?_)
         rw[i6 (by kernel_rfl)]
         obtain⟨hrow,hTd,hTb,happ⟩:=HAT6b.o.is.app2 (HBV.o.alloc _);refine pC (.tmp 106) (.tmp 108) rfl (.slice bo S.born.length bc) S.born rfl hrow w6.heap.size 1 P rfl (jX HGBb.o) HFN.o.2.2.2.2.2 ?_;intro v9 w9 hown hgrow hat;obtain⟨hd9,hst9⟩:=happ P v9 w9 hown hgrow hat;obtain⟨ao9,cap9,rfl⟩:=aY hown;obtain⟨T9,hat9,hfr9,_⟩:=HAT6b.o.step hst9;have HP9:=hZ (HP6b.o.mod (iM hgrow hTb) HN6.o);have HAT9:=hZ (by simpa only[i7,List.length_singleton] using hat9)
         have HN9:Hid (¬T9 g8∧¬T9 (w.heap.size+2)):=hZ ⟨hfr9 _ HP6b.o.p.lt HN6.o.2.1,hfr9 _ HP6b.o.r.lt HN6.o.2.2⟩;have HNE9:Hid (w.heap.size≠d∧g8≠d∧w.heap.size+2≠d):=hZ ⟨fun e=>HN6.o.1 (by rw[e];exact hTd),fun e=>HN6.o.2.1 (by rw[e];exact hTd),fun e=>HN6.o.2.2 (by rw[e];exact hTd)⟩
         have e9:w9.cell? ⟨d,1,none⟩=some (.slice bo S.born.length bc):=hd9.cell 1;have f9:=hd9.frozen 1;clear hrow hTd hTb happ hown hgrow hat hd9 hst9 hat9 hfr9;refine hK.o _ _ (HP9.o) (fun hSzppq9=>?_)
         try simp only[Act.put,z1,z2,z3]
         refine aE 10 ?_;refine aE 11 ?_;refine dY (i:=12) (h:=fun K hK=>?_)
         go_simp
         skip
         refine hK.o _ _ (⟨HP9.o.s.other HNE9.o.1 _,HP9.o.p.other HNE9.o.2.1 _,HP9.o.r.other HNE9.o.2.2 _⟩) (fun hSzppq12=>?_)
         try simp only[Act.put,z1,z2,z3]
         have HP12:Hid (PuW w.heap.size g8 (w.heap.size+2) sb P (w9.setCell ⟨d,1,none⟩ (.slice ao9 (S.born.length+1) cap9))):=hZ (PuW.mk (HP9.o.s.other HNE9.o.1 _) (HP9.o.p.other HNE9.o.2.1 _) (HP9.o.r.other HNE9.o.2.2 _));refine r8 (by kernel_rfl) ?_ _
         go_wp2_with fail;go_meet;exact⟨d,T9,rfl,HD6,HAT9,HP12,HN9⟩
       ·rw[i6 (by kernel_rfl)]
        refine pB (.tmp 107) rfl P rfl ?_;refine hK.o _ _ ((HP6.o.below ((i4 _ _).alloc (d8 _) (.cells (aA P).toArray 51)))) (fun hSzpq8=>?_)
        try simp only[Act.put,z1,z2,z3]
        have HAT6b:=hZ (HAT6.o.alloc (.cells (aA P).toArray 51));have HP6b:=hZ (HP6.o.below ((i4 _ _).alloc (d8 _) (.cells (aA P).toArray 51)));have HGBb:Hid (Blk (w6.alloc (.cells (aA P).toArray 51)) w6.heap.size 51 (aA P)):=hZ (Blk.new w6 _ (aA P));refine dY (i:=3) (h:=fun K hK=>?_)
        go_simp;refine(rK HAT6b.o.is).mono ?_;rintro e w7 ⟨rfl,hw7⟩;rw[hw7];clear hw7
        try dsimp only
        refine hK.o _ _ (HP6b.o) (fun hSzpq3=>?_)
        try simp only[Act.put,z1,z2,z3]
        refine aE 4 ?_;refine aE 5 ?_;obtain⟨bv,hbv⟩:=HAT6b.o.is.done;obtain⟨bo,bc,rfl⟩:=aY (HAT6b.o.is.app2 hbv).1;have HBV:=hZ hbv;have e6:(w6.alloc (.cells (aA P).toArray 51)).cell? ⟨d,1,none⟩=some (.slice bo S.born.length bc):=hbv.cell 1;clear hbv;refine dY (i:=6) (h:=fun K hK=>?_)
        go_simp;clear e6;refine hK.o _ _ (HP6b.o) (fun hSzpq6=>?_)
        try simp only[Act.put,z1,z2,z3]
        refine dY (i:=9) (h:=fun K hK=>?_)
        rw[i6 (by kernel_rfl)]
        obtain⟨hrow,hTd,hTb,happ⟩:=HAT6b.o.is.app2 HBV.o;refine pC (.tmp 106) (.tmp 108) rfl (.slice bo S.born.length bc) S.born rfl hrow w6.heap.size 1 P rfl (jX HGBb.o) HFN.o.2.2.2.2.2 ?_;intro v9 w9 hown hgrow hat;obtain⟨hd9,hst9⟩:=happ P v9 w9 hown hgrow hat;obtain⟨ao9,cap9,rfl⟩:=aY hown;obtain⟨T9,hat9,hfr9,_⟩:=HAT6b.o.step hst9;have HP9:=hZ (HP6b.o.mod (iM hgrow hTb) HN6.o);have HAT9:=hZ (by simpa only[i7,List.length_singleton] using hat9)
        have HN9:Hid (¬T9 g8∧¬T9 (w.heap.size+2)):=hZ ⟨hfr9 _ HP6b.o.p.lt HN6.o.2.1,hfr9 _ HP6b.o.r.lt HN6.o.2.2⟩;have HNE9:Hid (w.heap.size≠d∧g8≠d∧w.heap.size+2≠d):=hZ ⟨fun e=>HN6.o.1 (by rw[e];exact hTd),fun e=>HN6.o.2.1 (by rw[e];exact hTd),fun e=>HN6.o.2.2 (by rw[e];exact hTd)⟩
        have e9:w9.cell? ⟨d,1,none⟩=some (.slice bo S.born.length bc):=hd9.cell 1;have f9:=hd9.frozen 1;clear hrow hTd hTb happ hown hgrow hat hd9 hst9 hat9 hfr9;refine hK.o _ _ (HP9.o) (fun hSzpq9=>?_)
        try simp only[Act.put,z1,z2,z3]
        refine aE 10 ?_;refine aE 11 ?_;refine dY (i:=12) (h:=fun K hK=>?_)
        go_simp
        skip
        refine hK.o _ _ (⟨HP9.o.s.other HNE9.o.1 _,HP9.o.p.other HNE9.o.2.1 _,HP9.o.r.other HNE9.o.2.2 _⟩) (fun hSzpq12=>?_)
        try simp only[Act.put,z1,z2,z3]
        have HP12:Hid (PuW w.heap.size g8 (w.heap.size+2) sb P (w9.setCell ⟨d,1,none⟩ (.slice ao9 (S.born.length+1) cap9))):=hZ (PuW.mk (HP9.o.s.other HNE9.o.1 _) (HP9.o.p.other HNE9.o.2.1 _) (HP9.o.r.other HNE9.o.2.2 _));refine r8 (by kernel_rfl) ?_ _
        go_wp2_with fail;go_meet;exact⟨d,T9,rfl,HD6,HAT9,HP12,HN9⟩
      ·rw[i6 (by kernel_rfl)]
       refine pB (.tmp 107) rfl P rfl ?_;refine hK.o _ _ ((hS5.below ((i4 _ _).alloc (d8 _) (.cells (aA P).toArray 51)))) (fun hSzq8=>?_)
       try simp only[Act.put,z1,z2,z3]
       refine dY (i:=1) (h:=fun K hK=>?_)
       go_simp;refine(aBb HA5b.o.is).mono ?_;rintro e w6 ⟨d,rfl,hst,hdd⟩;obtain⟨T6,hat6,hfr6,hm6⟩:=HA5b.o.step hst;have HAT6:=hZ hat6;have HD6:=hZ hdd;have HN6:Hid (¬T6 w.heap.size∧¬T6 g8∧¬T6 (w.heap.size+2)):=hZ ⟨hfr6 _ (hS5.below ((i4 _ _).alloc (d8 _) (.cells (aA P).toArray 51))).s.lt HNT4.o.1,hfr6 _ (hS5.below ((i4 _ _).alloc (d8 _) (.cells (aA P).toArray 51))).p.lt HNT4.o.2.1,hfr6 _ (hS5.below ((i4 _ _).alloc (d8 _) (.cells (aA P).toArray 51))).r.lt HNT4.o.2.2⟩;have HP6:=hZ ((hS5.below ((i4 _ _).alloc (d8 _) (.cells (aA P).toArray 51))).mod hm6 HNT4.o);have HGB6:Hid (Blk w6 w5.heap.size 51 (aA P)):=hZ (hm6.blk (Blk.new w5.drew _ (aA P)) (fun hf=>by have:=HA5.o.is.lt _ hf;have e:w5.drew.heap.size=w5.heap.size:=rfl;omega))
       clear hst hdd hat6 hfr6 hm6
       try dsimp only
       refine hK.o _ _ (HP6.o) (fun hSzq1=>?_)
       try simp only[Act.put,z1,z2,z3]
       refine dY (i:=3) (h:=fun K hK=>?_)
       go_simp;refine(rK HAT6.o.is).mono ?_;rintro e w7 ⟨rfl,hw7⟩;rw[hw7];clear hw7
       try dsimp only
       refine hK.o _ _ (HP6.o) (fun hSzq3=>?_)
       try simp only[Act.put,z1,z2,z3]
       refine aE 4 ?_;refine aE 5 ?_;obtain⟨bv,hbv⟩:=HAT6.o.is.done;obtain⟨bo,bc,rfl⟩:=aY (HAT6.o.is.app2 hbv).1;have HBV:=hZ hbv;have e6:w6.cell? ⟨d,1,none⟩=some (.slice bo S.born.length bc):=hbv.cell 1;clear hbv;refine dY (i:=6) (h:=fun K hK=>?_)
       go_simp;clear e6;refine hK.o _ _ (HP6.o) (fun hSzq6=>?_)
       try simp only[Act.put,z1,z2,z3]
       refine dY (i:=9) (h:=fun K hK=>?_)
       rw[i6 (by kernel_rfl)]
       obtain⟨hrow,hTd,hTb,happ⟩:=HAT6.o.is.app2 HBV.o;refine pC (.tmp 106) (.tmp 108) rfl (.slice bo S.born.length bc) S.born rfl hrow w5.heap.size 1 P rfl (jX HGB6.o) HFN.o.2.2.2.2.2 ?_;intro v9 w9 hown hgrow hat;obtain⟨hd9,hst9⟩:=happ P v9 w9 hown hgrow hat;obtain⟨ao9,cap9,rfl⟩:=aY hown;obtain⟨T9,hat9,hfr9,_⟩:=HAT6.o.step hst9;have HP9:=hZ (HP6.o.mod (iM hgrow hTb) HN6.o);have HAT9:=hZ (by simpa only[i7,List.length_singleton] using hat9)
       have HN9:Hid (¬T9 g8∧¬T9 (w.heap.size+2)):=hZ ⟨hfr9 _ HP6.o.p.lt HN6.o.2.1,hfr9 _ HP6.o.r.lt HN6.o.2.2⟩;have HNE9:Hid (w.heap.size≠d∧g8≠d∧w.heap.size+2≠d):=hZ ⟨fun e=>HN6.o.1 (by rw[e];exact hTd),fun e=>HN6.o.2.1 (by rw[e];exact hTd),fun e=>HN6.o.2.2 (by rw[e];exact hTd)⟩
       have e9:w9.cell? ⟨d,1,none⟩=some (.slice bo S.born.length bc):=hd9.cell 1;have f9:=hd9.frozen 1;clear hrow hTd hTb happ hown hgrow hat hd9 hst9 hat9 hfr9;refine hK.o _ _ (HP9.o) (fun hSzq9=>?_)
       try simp only[Act.put,z1,z2,z3]
       refine aE 10 ?_;refine aE 11 ?_;refine dY (i:=12) (h:=fun K hK=>?_)
       go_simp
       skip
       refine hK.o _ _ (⟨HP9.o.s.other HNE9.o.1 _,HP9.o.p.other HNE9.o.2.1 _,HP9.o.r.other HNE9.o.2.2 _⟩) (fun hSzq12=>?_)
       try simp only[Act.put,z1,z2,z3]
       have HP12:Hid (PuW w.heap.size g8 (w.heap.size+2) sb P (w9.setCell ⟨d,1,none⟩ (.slice ao9 (S.born.length+1) cap9))):=hZ (PuW.mk (HP9.o.s.other HNE9.o.1 _) (HP9.o.p.other HNE9.o.2.1 _) (HP9.o.r.other HNE9.o.2.2 _));refine r8 (by kernel_rfl) ?_ _
       go_wp2_with fail;go_meet;exact⟨d,T9,rfl,HD6,HAT9,HP12,HN9⟩
     case rest=>
      obtain⟨d,Tz,rfl,HD,HATZ,HPZ,HNZ⟩:=hcut;have l8:∀(op:Oper) (a:Act) (next:Act→World→Prop) (Q:Exit→Act→World→Prop),lY prog op 51 (.pointer (some ⟨g8,0,none⟩)) a wc next Q=next (a.put op.dst (.agg (aA P).toArray)) wc:=fun op a next Q=>aB HPZ.o.p underlying51 rfl aU op a next Q
      have sR:∀(op:Oper) (a:Act) (next:Act→World→Prop) (Q:Exit→Act→World→Prop),cS prog op 51 (.pointer (some ⟨w.heap.size+2,0,none⟩)) (.agg (aA P).toArray) a wc next Q=next (a.put op.dst undef) (wc.setCells (w.heap.size+2) 0 (aA P)):=fun op a next Q=>aG (cs:=aA P) HPZ.o.r (d8 _) aU (aX _) op a next Q
      have HBZ:Hid (Blk (wc.setCells (w.heap.size+2) 0 (aA P)) (w.heap.size+2) 51 (aA P)):=hZ (HPZ.o.r.put rfl);have HFZ:=hZ ((HATZ.o.other HPZ.o.r (by unfold cH;decide) HNZ.o.2 (by omega) (aJ (w.heap.size+2) (aA P) wc 0)).fin)
      go_wp2_with fail;refine l9 (kV rfl _ _ (w.heap.size+2) P rfl HBZ.o) rfl ?_;rw[HRR.o];exact⟨rfl,some d,fun d0 e=>by rw[HD.o d0 e],HFZ.o⟩
  ·obtain⟨ei,hei⟩:∃ei:Int,ei=((er:Nat):Int):=⟨_,rfl⟩
   have q9:¬ei=0:=by omega
   rw[←hei];have HEI:=hZ hei;have HER:=hZ her;clear hei her hb256 h1 h2 h3 h4 hS0;have s0:∀(op:Oper) (a:Act) (next:Act→World→Prop) (Q:Exit→Act→World→Prop),cS prog op 51 (.pointer (some ⟨w.heap.size+2,0,none⟩)) (.agg #[.int .i64 0,.int .i64 0,.int .i64 0,.int .i64 0,.bool false,.int .i64 0,.int .i64 0,.int .i64 0,.int .u64 0,.int .u64 0,.int .u64 0,.int .u64 0]) a w3 next Q=next (a.put op.dst undef) (w3.setCells (w.heap.size+2) 0 (aA pD)):=fun op a next Q=>aG (cs:=aA pD) K3R.o (d8 _) aU (aX pD) op a next Q
   have HBR:Hid (Blk (w3.setCells (w.heap.size+2) 0 (aA pD)) (w.heap.size+2) 51 (aA pD)):=hZ (K3R.o.put rfl);have HRR:Hid (R=⟨pD,er,{S with sn:=sn1,es:=es1}⟩):=hZ (by rw[HRE.o,i6 HER.o])
   have HFI:=hZ ((HAT3.o.other K3R.o (by unfold cH;decide) HNT3.o.2.2.1 (by omega) (aJ (w.heap.size+2) (aA pD) w3 0)).fin)
   have q6:(ei == 0)=false:=by simpa using q9
   have q7:decide (ei=0)=false:=bMj q9;have q8:(ei != 0)=true:=by simpa using q9
   go_wp2_with fail;refine l9 (kV rfl _ _ (w.heap.size+2) pD rfl HBR.o) rfl ?_;rw[HRR.o];exact⟨by rw[HEI.o];rfl,dn,fun d e=>e,HFI.o⟩
theorem bGl {S:dK} (h:bN w sb S V bb dn T) (t:Bs) (level:Int) (b:t.length≤1000000) (hr:S.x.right=true) (K:Nat) (r:S.x.deep K) (c:K+200≤1000000000) (y:S.x.takes) (e:0≤S.keep∧S.keep≤1000000000) (f:S.born.length≤1000000)
  (m:(eC S ((t.length/64:Nat):Int) level).err=0→∀q∈(eC S ((t.length/64:Nat):Int) level).l,dO S.x.gs S.x.secs (q.1:Nat) (q.2:Nat) ((t.length/64:Nat):Int)=true):
  Calls prog 337 #[.pointer (some sb),.string ⟨t.toArray⟩,level] w (aJi w sb V bb dn T (cE S t level)):=by
 by_cases hy:jD S t level=true
 ·exact bFj h t level b hr K r c y e f m hy
 ·exact bIa h t level b hr K r c y e f m (by simpa using hy)
end
section
attribute [local go_sem ↓] Go.wp_at_zero Go.wp_at_succ
theorem bN.fix {S:dK} (h:bN w sb S V bb (some d) T) (n:Nat):T d∧fC {S with fixed:=n} V sb bb (some d) T w (w.setCell d (n:Nat)):=by
 obtain⟨eb,ms,H,F,h,hT⟩:=h;obtain⟨r,D⟩:=h.don;have E:=(hT d).2 (.inr (.inr (.inr (.inl rfl))));have f:∀{k:Nat},k≠d→(w.setCell d (n:Nat)).heap[k]?=w.heap[k]?:=fun {k} y=>bNu _ _ _ _ y
 have m:∀{k:Nat} {cs:Array Value} {e:Nat} {fr:Nat×Nat},w.heap[k]?=some (Obj.cells cs e fr)→e≠342→k≠d:=fun {k cs e fr} y z A=>by
  subst A;have h2:=r;unfold Blk at h2;rw[y] at h2;simp only[i5,n7] at h2;exact z h2.2.1
 refine⟨E,T,⟨eb,ms,H,F,⟨?_,?_,?_,h.sn,?_,?_⟩,hT⟩,(Mod.refl _ _).setCell (.inl E),fun g I=> .inl I⟩
 ·have G:=h.blk
  exact G.other (a:=d) (m G (by decide)) _
 ·exact h.dvs.keep (fun g J=>f (fun e=>by
   subst e;rcases h.dvs.type g J _ _ _ r with b|b|b|b|b<;>exact absurd b (by decide)))
 ·refine h.bok.typed (fun g cs e fr c z=>?_)
  have A:e≠342:=by rcases z with e3|e3|e3|e3|e3|e3<;>rw[e3]<;>decide
  rw[f (m c A)];exact c
 ·exact r.setCell 0 _
 ·exact dQ D (fun g c=>by
   obtain⟨c2,N,h2⟩:=cC D c;exact f (m h2 (by decide)))
theorem aQw (s:Bs) (a b c:Int):∀u∈gH s a b c,u.oneCell'=true:=by
 intro u e;simp only[gH,s8,bLp,bNo] at e;rcases e with rfl|rfl|rfl|rfl<;>rfl
structure GeS (sb g3:Nat) (sc:List Value) (p:aC) (w:World):Prop where
 b:Blk w sb 174 sc
 p:Blk w g3 51 (aA p)
end
section
attribute [local go_sem ↓] Go.wp_at_zero Go.wp_at_succ
theorem bLi {S:dK} (h:bN w sb S V bb dn T) (p:aC) (hr:S.x.right=true) (bh:p.ok) (ar:bD S.x.gs S.x.secs p=true) (bi:S.x.fits) {d:Int} (bj:dX s=true) (au:p.size=((s.length/64:Nat):Int)) (O:kG S.x p.ag.toNat p.aa.toNat (s.length/64)=jC (aI S.x.gs p.ag.toNat p.aa.toNat (s.length/64)) (fJ s)) (hF:aAy S.x.gs p.ag.toNat p.aa.toNat (s.length/64) (kG S.x p.ag.toNat p.aa.toNat (s.length/64)) d s) (al:p.sumIs s=true) (R:S.fixed≤1000000):
  Calls prog 336 #[.pointer (some ⟨sb,0,none⟩),.agg (aA p).toArray] w fun e w'=>e= .returned (.tuple #[.string ⟨s.toArray⟩,.int .i64 0])∧∃av,(∀d,dn=some d→av=some d)∧fC S V sb bb av T w w':=by
 obtain⟨z,A,D,E,G,r,rfl⟩:=h.form;have aw:Hid (∀W bk,bN W sb S ⟨.slice z S.x.gs.length A,.slice D S.x.ds.length E,.slice G S.x.ds.length r⟩ bb dn bk→Calls prog 338 #[.agg ([.slice z S.x.gs.length A,.int .i64 S.x.secs,.slice D S.x.ds.length E,.slice G S.x.ds.length r]).toArray,.agg (aA p).toArray] W (rZ W (.tuple #[.agg (gH s 0 d 0).toArray,.int .i64 0]))):=hZ (fun W bk cb=>by
  obtain⟨F,cc,_⟩:=cb.dvs;exact bJe cc hr p bh ar bi bj au O hF al)
 have U:=hZ ((fT.start h).below (((i4 w.heap.size w).alloc (d8 _) (.cells (aA p).toArray 51)).drew));have ab:=hZ (U.o.alloc (.cells (gH [] 0 0 0).toArray 88));have bs:Hid (sb<w.heap.size):=hZ h.cells.lt;have m:GeS sb w.heap.size (sQ ⟨.slice z S.x.gs.length A,.slice D S.x.ds.length E,.slice G S.x.ds.length r⟩ S bb dn) p (w.alloc (.cells (aA p).toArray 51)).drew:=⟨U.o.is.cells,Blk.new w _ (aA p)⟩;have bt:=hZ R;clear h hr bh ar bi bj au O hF al R;go_enter func336,ntmps336;go_upto_region 3 with fail
 go_cut [6,7] (fun v6 cd bl=>∃J,v6= .pointer (some ⟨J,0,none⟩)∧cd= .int .i64 0∧Hid (∃ah,fT S ⟨.slice z S.x.gs.length A,.slice D S.x.ds.length E,.slice G S.x.ds.length r⟩ sb bb dn T w bl ah∧¬ah J)∧Hid (Blk bl J 88 (gH s 0 d 0)))
 case first=>
  refine l7 (S:=GeS sb w.heap.size (sQ ⟨.slice z S.x.gs.length A,.slice D S.x.ds.length E,.slice G S.x.ds.length r⟩ S bb dn) p) (by kernel_rfl) m (fun m=>?_)
  refine aE 0 ?_;refine aE 1 ?_;refine aE 2 ?_;refine mX 3 ?vy3 ?yy3 ?_
  case yy3=>refine m5 (by kernel_rfl) 43 (.tmp 13) ?_ sb (0) ?_ ([.slice z S.x.gs.length A,.int .i64 S.x.secs,.slice D S.x.ds.length E,.slice G S.x.ds.length r]) _ (fun w' (O:GeS _ _ _ _ w')=>wS (cs:=[.slice z S.x.gs.length A,.int .i64 S.x.secs,.slice D S.x.ds.length E,.slice G S.x.ds.length r]) O.b) underlying43 rfl oQ<;>rfl
  refine mX 4 ?vy4 ?yy4 ?_
  case yy4=>refine m5 (by kernel_rfl) 51 (.tmp 3) ?_ w.heap.size (0) ?_ (aA p) _ (fun w' (O:GeS _ _ _ _ w')=>jX O.p) underlying51 rfl aU<;>rfl
  refine vB [5,9] (rc (fun K c=>?o5) (rc (fun K c=>?o9) rn))
  case' o5=>
   go_simp;refine(aw.o _ _ U.o.is).mono ?_;rintro e ai ⟨rfl,f⟩;have ax:=hZ (U.o.below f);have X:=hZ (GeS.mk (m.b.below f) (m.p.below f));clear f
   try dsimp only
   refine c.o _ _ X.o (fun bu=>?_)
   try simp only[Act.put,z1,z2,z3]
   refine aE 6 ?_;refine aE 7 ?_;refine aE 8 ?_;refine vB [9] (rc (fun K c=>?_) rn)
   go_simp;obtain⟨w8,N⟩:=nZ (ai.alloc (.cells #[.string ⟨#[]⟩,.int .i64 0,.int .i64 0,.int .i64 0] 88));obtain⟨g8,y⟩:=nZ ai.heap.size;have ay:Hid (fT S ⟨.slice z S.x.gs.length A,.slice D S.x.ds.length E,.slice G S.x.ds.length r⟩ sb bb dn T w w8 T):=hZ (by rw[N];exact ax.o.alloc _)
   have H:Hid (Blk w8 g8 88 (gH [] 0 0 0)∧w.heap.size<g8∧¬T g8):=hZ (by rw[N,y];exact⟨Blk.new ai _ _,X.o.p.lt,ax.o.fresh (d8 _)⟩)
   have I:=GeS.mk (X.o.b.alloc (.cells #[.string ⟨#[]⟩,.int .i64 0,.int .i64 0,.int .i64 0] 88)) (X.o.p.alloc (.cells #[.string ⟨#[]⟩,.int .i64 0,.int .i64 0,.int .i64 0] 88));rw[←N] at I
   first|rw[←N,←y]|(rw[←N];rw[←y])
   clear N y;refine c.o _ _ I (fun bv=>?_)
   try simp only[Act.put,z1,z2,z3]
  case' o9=>
   go_simp;refine c.o _ _ (⟨m.b.alloc _,m.p.alloc _⟩) (fun bv=>?_)
   try simp only[Act.put,z1,z2,z3]
   refine vB [5] (rc (fun K c=>?_) rn)
   go_simp;refine(aw.o _ _ ab.o.is).mono ?_;rintro e w8 ⟨rfl,f⟩;have ay:=hZ (ab.o.below f);have I:=GeS.mk ((m.b.alloc (.cells (gH [] 0 0 0).toArray 88)).below f) ((m.p.alloc (.cells (gH [] 0 0 0).toArray 88)).below f);obtain⟨g8,y⟩:=nZ (w.heap.size+1);have H:Hid (Blk w8 g8 88 (gH [] 0 0 0)∧w.heap.size<g8∧¬T g8):=hZ (by rw[y];exact⟨(Blk.newAt _ _ (by simp)).below f,by omega,U.o.fresh (by simp)⟩)
   clear f
   try dsimp only
   refine c.o _ _ I (fun bu=>?_)
   try simp only[Act.put,z1,z2,z3]
   refine aE 6 ?_;refine aE 7 ?_;refine aE 8 ?_;rw[←y];clear y
  all_goals
   have h1:=H.o.2.1;have h2:=bs.o;refine vB [10] (rc (fun K c=>?_) rn)
   rw[i6 (by kernel_rfl)]
   refine bMx 88 (.tmp 6) (.tmp 17) rfl g8 (0) (gH s 0 d 0).toArray rfl rfl (cW H.o.1 (d8 4)) aTp (bLu (aQw _ _ _ _)) ?_;refine c.o _ _ ⟨I.b.away 0 _ (by omega),I.p.away 0 _ (by omega)⟩ (fun bm=>?_)
   try simp only[Act.put,z1,z2,z3]
   refine aE 11 ?_;refine r8 (by kernel_rfl) ?_ _
   clear I bm;go_wp21;go_meet;exact⟨_,rfl,rfl,hZ ⟨T,ay.o.other H.o.1 (by unfold cH;decide) H.o.2.2 (by omega) (aJ _ _ _ _),H.o.2.2⟩,hZ (H.o.1.put rfl)⟩
 case rest=>
  obtain⟨J,rfl,rfl,bn,bw⟩:=hcut;obtain⟨ah,am,az⟩:=bn.o;have ba:=hZ az;have ak:=hZ (am.below (i4 _ _).drew);have Y:Blk wc.drew J 88 (gH s 0 d 0):=bw.o;have bo:Hid (IntKind.i64.wrap ((S.fixed:Nat):Int)=((S.fixed:Nat):Int)):=hZ (by have:=bt.o;rw[bLo _ (by omega)])
  clear ab m am az;go_upto_region 4 with fail
  refine l7 (S:=fun W=>Blk W J 88 (gH s 0 d 0)) (by kernel_rfl) Y (fun Y=>?_)
  refine aE 0 ?_;refine aE 5 ?_;refine aE 6 ?_ (hy:=by intro w Z;(try dsimp only at Z);go_simp;rw[Z.cell 3];rfl)
  refine vB [1] (rc (fun K c=>?_) rn)
  go_simp;refine(aBb ak.o.is).mono ?_;rintro e ci ⟨aj,rfl,bc,bd⟩;obtain⟨cj,an,ap,be⟩:=ak.o.step bc;have ac:=hZ an;have bx:=hZ bd;have ad:=hZ (be.blk Y ba.o);have bz:=hZ (ap _ Y.lt ba.o);clear bc bd an ap be
  try dsimp only
  refine c.o _ _ (ad.o) (fun cg=>?_)
  try simp only[Act.put,z1,z2,z3]
  refine aE 2 ?_;refine aE 3 ?_;obtain⟨ck,ae⟩:=ac.o.is.done;have cl:=ae.cell 0;have cm:=ae.frozen 0;obtain⟨bf,R⟩:=ac.o.is.fix S.fixed;obtain⟨cn,aq,bq,_⟩:=ac.o.step R;have br:=hZ aq;have ca:Hid (J≠aj):=hZ (fun e=>bz.o (by rw[e];exact bf))
  clear ae bf R aq bq;refine vB [4] (rc (fun K c=>?_) rn)
  go_simp
  skip
  refine c.o _ _ (ad.o) (fun ch=>?_)
  try simp only[Act.put,z1,z2,z3]
  refine aE 7 ?_ (hy:=by intro w Z;(try dsimp only at Z);go_simp;rw[bo.o])
  refine aE 8 ?_;refine aE 9 ?_;refine vB [10] (rc (fun K c=>?_) rn)
  go_simp
  skip
  have af:=ad.o.other (a:=⟨aj,0,none⟩) ca.o (.int .i64 ((S.fixed:Nat):Int));refine c.o _ _ af (fun cf=>?_)
  try simp only[Act.put,z1,z2,z3]
  have x0:_=some (Value.string ⟨s.toArray⟩):=af.cell 0;clear af;refine r8 (by kernel_rfl) ?_ _
  go_wp21;go_ret2;exact⟨rfl,some aj,fun ce e=>by rw[bx.o ce e],br.o.fin⟩
end
theorem dR.raw (h:dR x p t) (b:x.one):kG x p.ag.toNat p.aa.toNat (t.length/64)=jC (aI x.gs p.ag.toNat p.aa.toNat (t.length/64)) (fJ t):=by
 rw[show kG x p.ag.toNat p.aa.toNat (t.length/64)=tE x p.ag.toNat p.aa.toNat t from h.whole _ (zO p)];unfold tE;refine bNw (by simp[dZ]) fun i h1 h2=>?_
 rw[dZ] at h2;have c:=lC (h.may _ (zO p)) h2;rw[←(bL b.right).2.1] at c;have e:=b.here _ c;rw[a8,b9 h2] at e;rw[List.getElem_map,List.getElem_zip];exact i6 e
theorem dR.first (h:dR x p t) (y:x.one):∃d,aAy x.gs p.ag.toNat p.aa.toNat (t.length/64) (kG x p.ag.toNat p.aa.toNat (t.length/64)) d t:=by
 rw[h.raw y];obtain⟨h1,h2,I⟩:=qM h.blk;obtain⟨hr,_,J,D,E,_⟩:=bK (h.may _ (zO p));have G:=bM hr (show p.ag.toNat<x.gs.length by omega)
 by_cases b:(x.gs.getD p.ag.toNat (0,0)).1=0
 ·refine⟨_,fun _=>⟨?_,rfl,?_⟩,absurd b⟩
  all_goals
   have e:aI x.gs p.ag.toNat p.aa.toNat (t.length/64)=lX (fX x.gs p.ag.toNat).toNat p.aa.toNat (t.length/64) (x.gs.getD p.ag.toNat (0,0)).2.toNat:=by unfold aI;rw[i6 b]
   have z:(jC (aI x.gs p.ag.toNat p.aa.toNat (t.length/64)) (fJ t)).take (t.length/64)=fJ t:=by
    have H:t.length/64≤(x.gs.getD p.ag.toNat (0,0)).2.toNat*(t.length/64):=Nat.le_mul_of_pos_left _ (by omega)
    refine bNw (by rw[z7,dZ,e,dA,rA];omega) fun i N c=>?_
    rw[rA] at c;have m:=bGp (first:=(fX x.gs p.ag.toNat).toNat) (a:=p.aa.toNat) (fJ t) (rA t) (show i<(x.gs.getD p.ag.toNat (0,0)).2.toNat*(t.length/64) by omega)
    rw[←e,Nat.mod_eq_of_lt c,a8,a8,b9 (by rw[dZ,e,dA];omega),b9 (by rw[rA];exact c)] at m
    rw[List.getElem_take];exact m
   rw[z]
  ·intro r
   have:=aDr h2 _ r;simp at this
  ·exact(aHp h2).symm
 ·refine⟨_,fun e=>absurd e b,fun _=>⟨fun i A O e0=>?_,rfl,?_,h1⟩⟩
  ·have:=(aLo (l:=aI x.gs p.ag.toNat p.aa.toNat (t.length/64)) (aDr h2) (bEb h.blk) (aBe x.gs p.ag.toNat p.aa.toNat (t.length/64))) i A
   rw[e0] at this;simp at this
  ·have e:aI x.gs p.ag.toNat p.aa.toNat (t.length/64)=jV (fX x.gs p.ag.toNat).toNat (x.gs.getD p.ag.toNat (0,0)).2.toNat p.aa.toNat (t.length/64):=by unfold aI;rw[i9 b]
   have f:(fJ t).length=gZ (aI x.gs p.ag.toNat p.aa.toNat (t.length/64)) (aI x.gs p.ag.toNat p.aa.toNat (t.length/64)).length:=by
    unfold gZ;rw[bLz,e];have:=vC (fX x.gs p.ag.toNat).toNat (x.gs.getD p.ag.toNat (0,0)).2.toNat p.aa.toNat (t.length/64);unfold dN at this;rw[this,rA]
   rw[aUv f _ (d8 _),←f,bLz,aHp h2]
theorem bDb {S:dK} {L:List St} {K:Nat} (h:aCw S L K) (size level:Int):(eC S size level).err=0→∀q∈(eC S size level).l,dO S.x.gs S.x.secs (q.1:Nat) (q.2:Nat) size=true:=by
 intro b;by_cases c:1≤size∧size≤4
 ·rcases aGn h (size:=size) (level:=level) c.1 c.2 with⟨e,_⟩|⟨_,_,_,p,q,two,e,hr,_⟩
  ·rw[e] at b;cases b
  ·rw[e];exact bIo hr
 ·exfalso
  have f:∀two,(eE S.x.gs S.x.secs S.sn S.es size two)=⟨(0,0),(0,0),1,S.sn,S.es⟩:=fun two=>by unfold eE;rw[i9 c]
  unfold eC uB at b;rw[f true] at b;dsimp only at b;rw[f false] at b;split at b
  ·cases b
  ·split at b
   ·rw[i9 (by decide)] at b;cases b
   ·cases b
theorem aUr {S:dK} {L:List St} {K:Nat} (h:bN w sb S V bb dn T) (b:aCw S L K) (c:K+200≤1000000000) (e:0≤S.keep∧S.keep≤1000000000) (f:S.born.length≤1000000) (t:Bs) (level:Int) (m:t.length≤1000000):
  Calls prog 337 #[.pointer (some sb),.string ⟨t.toArray⟩,level] w (aJi w sb V bb dn T (cE S t level)):=by
 exact bGl h t level m b.one.right K b.deep c b.one.takes e f (bDb b _ level)
theorem aUx:∀(l:List Nat) (a b c d:Nat),a<rN→b<rN→c<rN→d<rN→(nO l (a,b,c,d)).1<rN∧(nO l (a,b,c,d)).2.1<rN∧(nO l (a,b,c,d)).2.2.1<rN∧(nO l (a,b,c,d)).2.2.2<rN
 |[],a,b,c,d,h1,h2,f,h=>⟨h1,h2,f,h⟩
 |w::r,a,b,c,d,_,_,_,_=>by
  have e:0<rN:=by unfold rN;omega
  exact aUx r _ _ _ _ (bNd _ e) (bNd _ e) (bNd _ e) (bNd _ e)
theorem dR.wf (h:dR x p t):p.wf:=by
 have c:=h.sum;unfold aC.sumIs at c;rw[bLt] at c;have b:0<rN:=by unfold rN;omega
 obtain⟨e,f,m,r⟩:=c;unfold dG at e f m r;obtain⟨y,z,A,D⟩:=(aUx ((List.range ((bGr t).length/4)).map (aUl (bGr t))) 0 0 0 0 b b b b);unfold rN at y z A D;refine⟨h.ok,?_,?_,?_,?_⟩<;>unfold aDc<;>omega
theorem aIm (S:dK) (t:Bs) (level:Int):S.born.length≤(cE S t level).s.born.length:=by
 unfold cE;split
 ·exact d8 _
 ·split
  ·exact d8 _
  ·simp
structure pV where
 S:dK
 L:List (aC×Bs)
 ok:Bool
 ro:Bool
 Ls:List St
 K:Nat
def sY (p:aC):M pV Bs:=fun s=>match s.L.find? (fun q=>decide (q.1=p)) with
 |some q=>(.ok q.2,s)
 |none=>(.error 1,{s with ok:=false})
noncomputable def rE (t:Bs) (l:Nat):M pV aC:=fun s=>
 if s.ro=true then(.error 1,{s with ok:=false})
 else if(cE s.S t (l:Nat)).err=0 then(.ok (cE s.S t (l:Nat)).p,⟨(cE s.S t (l:Nat)).s,((cE s.S t (l:Nat)).p,t)::s.L,s.ok,s.ro,s.Ls++eJ s.S.x.gs s.S.x.secs (cE s.S t (l:Nat)).p,s.K+64⟩)
 else(.error (cE s.S t (l:Nat)).err,{s with S:=(cE s.S t (l:Nat)).s})
noncomputable def eA:StF pV:=⟨sY,rE⟩
structure zK (s:pV):Prop where
 one:s.S.x.one
 fits:s.S.x.fits
 deep:s.S.x.deep s.K
 fx:s.S.fixed≤1000000
 kp:0≤s.S.keep∧s.S.keep≤1000000000
 wh:∀q∈s.L,dR s.S.x q.1 q.2
 rw_:s.ro=false→aCw s.S s.Ls s.K∧∀q∈s.L,∀z∈eJ s.S.x.gs s.S.x.secs q.1,z∈s.Ls
def bEe (s:pV):Prop:=s.ok=true∧s.S.born.length≤1000000∧s.K+200≤1000000000
def bAf (sb bb:Nat) (V:kE) (w:World) (s:pV) (F:Nat→Prop):Prop:=(∃dn,bN w sb s.S V bb dn F)∧zK s
theorem bIr {s:pV} (p:aC) (h:bAf sb bb V w s F) (r:bEe (eA.get p s).2):
  Calls prog 336 #[.pointer (some sb),.agg (aA p).toArray] w fun e w'=>bKo (eA.get p s).1 e∧∃f,bAf sb bb V w' (eA.get p s).2 f∧Mod F w w'∧∀k,f k→F k∨w.heap.size≤k:=by
 obtain⟨⟨dn,z⟩,c⟩:=h
 cases m:s.L.find? (fun q=>decide (q.1=p)) with
 |none=>
  exfalso;have e:(eA.get p s).2={s with ok:=false}:=by show(sY p s).2=_;unfold sY;rw[m]
  rw[e] at r;exact absurd (show false=true from r.1) (by decide)
 |some q=>
  have e:eA.get p s=(.ok q.2,s):=by show sY p s=_;unfold sY;rw[m]
  rw[e] at r⊢;have A:q.1=p:=by simpa using List.find?_some m
  have b:=A▸c.wh q (List.mem_of_find?_eq_some m);obtain⟨H,hF⟩:=b.first c.one;refine(bLi z p c.one.right b.ok b.right c.fits b.blk b.size (b.raw c.one) hF b.sum c.fx).mono ?_;rintro e w' ⟨rfl,y,G,f,h2,D,E⟩;refine⟨⟨rfl,?_⟩,f,⟨⟨y,h2⟩,c⟩,D,E⟩;have:=(qM b.blk).2.2;omega
noncomputable def aRu (s:pV) (t:Bs) (l:Nat):pV:=⟨(cE s.S t (l:Nat)).s,((cE s.S t (l:Nat)).p,t)::s.L,s.ok,s.ro,s.Ls++eJ s.S.x.gs s.S.x.secs (cE s.S t (l:Nat)).p,s.K+64⟩
theorem aDg {s:pV} (c:zK s) (r:s.ro=false) (t:Bs) (l:Nat):
  ((cE s.S t (l:Nat)).err≠0∧(cE s.S t (l:Nat)).p=pD∧eA.put t l s=(.error (cE s.S t (l:Nat)).err,{s with S:=(cE s.S t (l:Nat)).s})∧zK {s with S:=(cE s.S t (l:Nat)).s}∧(cE s.S t (l:Nat)).s.born=s.S.born∧(cE s.S t (l:Nat)).s.x=s.S.x∧aLk s.S (cE s.S t (l:Nat)).s)∨
  ((cE s.S t (l:Nat)).err=0∧eA.put t l s=(.ok (cE s.S t (l:Nat)).p,aRu s t l)∧zK (aRu s t l)∧(cE s.S t (l:Nat)).s.born=s.S.born++[(cE s.S t (l:Nat)).p]∧dT s.S.x (cE s.S t (l:Nat)).s.x∧dR (cE s.S t (l:Nat)).s.x (cE s.S t (l:Nat)).p t∧(cE s.S t (l:Nat)).p.level=(l:Nat)∧aLk s.S (cE s.S t (l:Nat)).s):=by
 obtain⟨y,f⟩:=c.rw_ r;have m:¬s.ro=true:=by rw[r];decide
 rcases aYg y t (l:Nat) with⟨b1,_,b3,b4,_,b6,b7,b8⟩|⟨b1,b2,b3,b4,b5,b6,b7,b8⟩
 ·refine .inl ⟨b1,b3,by show rE t l s=_;unfold rE;rw[i9 m,i9 b1],⟨b4.one,b4.fits,b4.deep,?_,?_,?_,fun _=>⟨b4,?_⟩⟩,b7,b6,b8⟩
  ·show(cE s.S t (l:Nat)).s.fixed≤_
   rw[b8.fixed];exact c.fx
  ·show 0≤(cE s.S t (l:Nat)).s.keep∧(cE s.S t (l:Nat)).s.keep≤_
   rw[b8.keep];exact c.kp
  ·intro q b
   show dR (cE s.S t (l:Nat)).s.x q.1 q.2
   rw[b6];exact c.wh q b
  ·intro q b z h
   refine f q b z ?_;have e:=h;rw[b6] at e;exact e
 ·refine .inr ⟨b1,by show rE t l s=_;unfold rE;rw[i9 m,i6 b1];rfl,⟨b2.one,b2.fits,b2.deep,?_,?_,?_,fun _=>⟨b2,?_⟩⟩,b5,b4,b3,b7.2.1,b6⟩
  ·show(cE s.S t (l:Nat)).s.fixed≤_
   rw[b6.fixed];exact c.fx
  ·show 0≤(cE s.S t (l:Nat)).s.keep∧(cE s.S t (l:Nat)).s.keep≤_
   rw[b6.keep];exact c.kp
  ·intro q b
   rcases s8.1 b with rfl|b
   ·exact b3
   ·exact b8 _ _ (c.wh q b) (f q b)
  ·intro q b z h
   have e:z∈eJ (cE s.S t (l:Nat)).s.x.gs (cE s.S t (l:Nat)).s.x.secs q.1:=h;rw[b4.gs,b4.secs] at e;rcases s8.1 b with rfl|b
   ·exact List.mem_append_right _ e
   ·exact List.mem_append_left _ (f q b z e)
theorem bJd {s:pV} (t:Bs) (l:Nat) (h:bAf sb bb V w s F) (ht:t.length≤256) (b:bEe (eA.put t l s).2):
  Calls prog 337 #[.pointer (some sb),.string ⟨t.toArray⟩,(l:Nat)] w fun e w'=>sA (eA.put t l s).1 e∧∃c,bAf sb bb V w' (eA.put t l s).2 c∧Mod F w w'∧∀k,c k→F k∨w.heap.size≤k:=by
 obtain⟨⟨dn,O⟩,f⟩:=h;by_cases J:s.ro=true
 ·exfalso
  have e:(eA.put t l s).2={s with ok:=false}:=by show(rE t l s).2=_;unfold rE;rw[i6 J]
  rw[e] at b;exact absurd (show false=true from b.1) (by decide)
 ·have I:s.ro=false:=by simpa using J
  have N:=(f.rw_ I).1;rcases aDg f I t l with⟨y,z,A,D,E,_⟩|⟨y,z,A,D,_,E,_⟩
  ·rw[A] at b⊢
   have m:=b.2;dsimp only at m;rw[E] at m;refine(aUr O N m.2 f.kp m.1 t (l:Nat) (by omega)).mono ?_
   rintro e w' ⟨rfl,r,R,c,h2,G,H⟩;exact⟨⟨by rw[z],y⟩,c,⟨⟨r,h2⟩,D⟩,G,H⟩
  ·rw[z] at b⊢
   obtain⟨_,X,Y⟩:=b;have U:(cE s.S t (l:Nat)).s.born.length≤1000000:=X;have Z:s.K+64+200≤1000000000:=Y;rw[D,i7] at U;refine(aUr O N (by omega) f.kp (by omega) t (l:Nat) (by omega)).mono ?_
   rintro e w' ⟨rfl,r,R,c,h2,G,H⟩;exact⟨⟨by rw[y];rfl,E.wf⟩,c,⟨⟨r,h2⟩,A⟩,G,H⟩
noncomputable def aPb (sb bb:Nat) (V:kE):bA eA 100 ⟨sb,0,none⟩ where
 Is:=bAf sb bb V
 Ok:=bEe
 kg:=336
 kp:=337
 mget:=fun n w=>by kernel_rfl
 nget:=fun n w=>by kernel_rfl
 mput:=fun n w=>by kernel_rfl
 nput:=fun n w=>by kernel_rfl
 cg:=fun args w=>by kernel_rfl
 cp:=fun args w=>by kernel_rfl
 lt:=fun h k hk=>h.1.choose_spec.lt k hk
 kinds:=fun h k cs e fr hk hh=>by
  refine⟨fun e2=>?_,fun e2=>?_⟩
  ·subst e2;exact h.1.choose_spec.noTypeA hh (by unfold kD cH lZ;decide) hk
  ·subst e2;exact h.1.choose_spec.noTypeA hh (by unfold kD cH lZ;decide) hk
 Ty:=cH
 nty:=fun e he=>by rcases he with rfl|rfl|rfl|rfl|rfl|rfl<;>(unfold bIg;decide)
 keep:=fun h _ hk ht=>⟨⟨_,h.1.choose_spec.keep hk ht⟩,h.2⟩
 okget:=fun p s h=>by
  have e:∃b,(eA.get p s).2={s with ok:=b}∧(b=true→s.ok=true):=by
   show ∃b,(sY p s).2=_∧_
   unfold sY;split
   ·exact⟨s.ok,rfl,fun h=>h⟩
   ·exact⟨false,rfl,fun h=>by cases h⟩
  obtain⟨b,e1,e2⟩:=e;rw[e1] at h;exact⟨e2 h.1,h.2⟩
 okput:=fun t l s h=>by
  by_cases hro:s.ro=true
  ·have e:(eA.put t l s).2={s with ok:=false}:=by show(rE t l s).2=_;unfold rE;rw[i6 hro]
   rw[e] at h;exact absurd (show false=true from h.1) (by decide)
  ·by_cases he:(cE s.S t (l:Nat)).err=0
   ·have e:(eA.put t l s).2=⟨(cE s.S t (l:Nat)).s,((cE s.S t (l:Nat)).p,t)::s.L,s.ok,s.ro,s.Ls++eJ s.S.x.gs s.S.x.secs (cE s.S t (l:Nat)).p,s.K+64⟩:=by show(rE t l s).2=_;unfold rE;rw[i9 hro,i6 he]
    rw[e] at h;obtain⟨h1,h2,h3⟩:=h;dsimp only at h1 h2 h3;exact⟨h1,l6 (aIm s.S t (l:Nat)) h2,by omega⟩
   ·have e:(eA.put t l s).2={s with S:=(cE s.S t (l:Nat)).s}:=by show(rE t l s).2=_;unfold rE;rw[i9 hro,i9 he]
    rw[e] at h;exact⟨h.1,l6 (aIm s.S t (l:Nat)) h.2.1,h.2.2⟩
 get:=fun p h hp hok=>bIr p h hok
 put:=fun t l h ht hl hok=>bJd t l h ht hok
theorem aYb (h:bD gs secs p=true):cT p=true∧isNone p=false:=by
 obtain⟨h1,h2,e,f⟩:=gV h;have b:=bK h1;have z:=(aS b.1).2.1;have r:isNone p=false:=by
  unfold isNone;rw[decide_eq_false_iff_not];rintro rfl;have:=f.2.2.1;exact absurd this (by decide)
 refine⟨?_,r⟩;have c:∀{g a:Int},dO gs secs g a p.size=true→0≤g∧g≤3∧0≤a∧a≤100000:=fun {g a} y=>by
  have m:=bK y;have hr:=aS m.1;omega
 obtain⟨E,G,H,I⟩:=c h1;have J:0≤p.bg∧p.bg≤3∧0≤p.ba∧p.ba≤100000:=by
  cases ht:p.two with
  |true=>exact c (h2 ht).1
  |false=>have:=e ht;omega
 unfold cT aKe;simp only[y8,bLt];have A:=b.2.2.2.1;have D:=b.2.2.2.2.1;omega
structure Nx (s s':pV) (k:Nat):Prop where
 in_:zK s'
 ro:s'.ro=s.ro
 ok:s'.ok=s.ok
 K:s'.K≤s.K+64*k
 born:s'.S.born.length≤s.S.born.length+k
 kept:dT s.S.x s'.S.x
 same:aLk s.S s'.S
theorem aLk.trans {a b c:dK} (h:aLk a b) (k:aLk b c):aLk a c:=⟨k.txg.trans h.txg,k.keep.trans h.keep,k.mt.trans h.mt,k.fixed.trans h.fixed⟩
theorem Nx.trans {s b c:pV} (h:Nx s b j) (h2:Nx b c k):Nx s c (j+k):=
 ⟨h2.in_,h2.ro.trans h.ro,h2.ok.trans h.ok,by have:=h.K;have:=h2.K;omega,by have:=h.born;have:=h2.born;omega,h.kept.trans h2.kept,h.same.trans h2.same⟩
theorem qW {s:pV} (A:zK s) (z:s.ro=false) (t:Bs) (l:Nat):
  (∃e b,eA.put t l s=(.error e,b)∧e≠0∧Nx s b 1)∨
  (∃p b,eA.put t l s=(.ok p,b)∧Nx s b 1∧b.L=(p,t)::s.L∧p.level=(l:Nat)∧cT p=true∧isNone p=false∧p.wf):=by
 rcases aDg A z t l with⟨y,_,f,h,m,c,r⟩|⟨y,D,f,h,m,c,r,E⟩
 ·exact .inl ⟨_,_,f,y,⟨h,rfl,rfl,by show s.K≤_;omega,by show(cE s.S t (l:Nat)).s.born.length≤_;rw[m];omega,by show dT _ (cE s.S t (l:Nat)).s.x;rw[c];exact dT.refl _,r⟩⟩
 ·obtain⟨G,H⟩:=aYb c.right
  exact .inr ⟨_,_,D,⟨f,rfl,rfl,d8 _,by show(cE s.S t (l:Nat)).s.born.length≤_;rw[h,i7];exact d8 _,m,E⟩,rfl,r,G,H,c.wf⟩
theorem aMs {s:pV} (h:s.L.find? (fun q=>decide (q.1=p))=some (p,t)):eA.get p s=(.ok t,s):=by
 show sY p s=_
 unfold sY;rw[h]
def vS (L:List (aC×Bs)) (n:aM) (text:Bs):Prop:=
 (n.size≤256∧L=[(n.root,aV text)]∧n.root.level=0∧isNone n.root=false∧n.root.wf∧cT n.root=true)∨
 (256<n.size∧∃p1 p2 q1,L=[(n.root,bX [p1,p2,pD,pD]),(p2,aV (text.drop 256)),(q1,bX [p1,pD,pD,pD]),(p1,aV (text.take 256))]∧n.root.level=1∧p1.level=0∧p2.level=0∧isNone p1=false∧isNone p2=false∧isNone n.root=false∧(∀p∈[p1,p2],cT p=true∧p.wf)∧n.root.wf∧cT n.root=true)
theorem iZ:isNone pD=true:=by decide
theorem nJ {f:Nat} {n:aM} (h:t≠[]):eB eA (f+1) n off t=M.bind (iE eA n (off/256) (off%256) (t.take (min t.length (256-off%256)))) (fun n'=>eB eA f n' (off+min t.length (256-off%256)) (t.drop (min t.length (256-off%256)))):=by
 conv=>lhs;unfold eB
 rw[i9 h]
theorem aJn {r:List aC} (f:aC→List aC→M pV (List aC)) (h:¬(¬isNone p=true∧p.level≠lv-1)):tC f lv (p::r) out=M.bind (f p out) (tC f lv r):=by
 conv=>lhs;unfold tC
 rw[i9 h]
theorem pN (h:s.length≤256):aV s=kA s:=by unfold aV;rw[i6 h]
theorem zN (s:Bs):over [] 0 s=s:=by simp[over,aP]
theorem aSt (s:pV):iD eA pD s=(.ok .hole,s):=by unfold iD;rw[i6 iZ];rfl
theorem aQu (s:pV):fH eA pD s=(.ok nL,s):=M.bind_ok (f:=fun x s=>(mR x,s)) (aSt s)
theorem sW {s:pV} (b:isNone p=false) (c:p.level=1) (e:l.length=4) (m:∀p∈l,cT p=true∧p.wf) (h:s.L.find? (fun q=>decide (q.1=p))=some (p,bX l)):fH eA p s=(.ok l,s):=by
 obtain⟨r,y,z⟩:=aTl e m;have hr:cP (bX l) p.level= .ok (.index l):=by
  unfold cP;rw[c,i6 (by decide),i6 (by unfold wR;rw[r];decide),i6 (by decide),i6 y,z]
 have A:iD eA p s=(.ok (.index l),s):=by
  unfold iD;rw[i9 (by rw[b];decide)]
  refine(M.bind_ok (f:=fun t s=>(cP t p.level,s)) (aMs h)).trans ?_
  show(cP (bX l) p.level,s)=_
  rw[hr]
 exact M.bind_ok (f:=fun x s=>(mR x,s)) A
theorem oA:((p,t)::L).find? (fun q=>decide (q.1=p))=some (p,t):=by simp[List.find?]
theorem uK (h:q≠p):((q,t)::L).find? (fun q=>decide (q.1=p))=L.find? (fun q=>decide (q.1=p)):=by simp[List.find?,h]
theorem qV {m:Int} (h:m≤256):gC m=0:=by unfold gC;rw[i6 h]
theorem aKz {m:Int} (h:256<m) (h2:m≤1024):gC m=1:=by unfold gC;rw[i9 (by omega),i6 h2]
theorem aKc (s:pV) (k i:Nat):kJ eA k pD i s=(.ok pD,s):=by
 cases k with
 |zero=>rfl
 |succ k=>unfold kJ;rw[i6 iZ];rfl
theorem xI {s:pV} {n:aM} (b:i<64) (h:∃p,kJ eA (gC n.size) n.root i s=(.ok p,s)∧isNone p=true):fE eA n i s=(.ok .hole,s):=by
 obtain⟨p,h1,h2⟩:=h;unfold fE;rw[i6 b];split
 ·rfl
 ·rw[M.bind_ok h1]
  have e:iD eA p s=(.ok .hole,s):=by unfold iD;rw[i6 h2];rfl
  exact M.bind_ok (f:=fun x s=>(nK x,s)) e
theorem bCt {q:aC} (h:isNone p=false):p::l≠nL:=fun e=>by
 rw[(List.cons.inj (show p::l=pD::[pD,pD,pD] from e)).1] at h;exact absurd h (by decide)
theorem aWx {s:pV} (ab:zK s) (r:s.ro=false) (ac:s.L=[]) (text:Bs) (h0:0<text.length) (aq:text.length≤512):
  (∃e c,eS eA nD 0 text s=(.error e,c)∧e≠0∧Nx s c 4)∨(∃n c,eS eA nD 0 text s=(.ok n,c)∧Nx s c 4∧n.size=(text.length:Nat)∧vS c.L n text):=by
 have A:text≠[]:=fun e=>by rw[e] at h0;simp at h0
 have ak:kI eA nD (0+(text.length:Int)) s=(.ok ⟨(text.length:Nat),pD⟩,s):=by
  unfold kI;have e:jZ eA (gC (0+(text.length:Int))-gC nD.size) (gC nD.size) nD.root s=(.ok pD,s):=by
   cases gC (0+(text.length:Int))-gC nD.size with
   |zero=>rfl
   |succ k=>unfold jZ;rw[i6 (by decide)];rfl
  rw[M.bind_ok e]
  show(Except.ok (aM.mk (max (0:Int) (0+(text.length:Int))) pD),s)=_
  congr 3;omega
 have al:eS eA nD 0 text s=eB eA (text.length+1) ⟨(text.length:Nat),pD⟩ 0 text s:=by
  unfold eS;rw[i9 (by omega),i9 A,M.bind_ok ak]
  rfl
 rw[al];have y:fE eA ⟨(text.length:Nat),pD⟩ 0 s=(.ok .hole,s):=xI (by omega) ⟨pD,aKc s _ _,iZ⟩
 by_cases ar:text.length≤256
 ·
  have ah:text.take (min text.length (256-0%256))=text:=by rw[bLq];omega
  have ai:text.drop (min text.length (256-0%256))=[]:=by rw[List.drop_eq_nil_iff];omega
  have X:iN eA (gC ((text.length:Nat):Int)) pD 0 (over (eG .hole) 0 text) s=eA.put (aV text) 0 s:=by
   rw[qV (by omega)]
   show iN eA 0 pD 0 (over [] 0 text) s=_
   rw[zN];unfold iN;rw[i9 A]
  have R:eB eA (text.length+1) ⟨(text.length:Nat),pD⟩ 0 text s=M.bind (iE eA ⟨(text.length:Nat),pD⟩ 0 0 text) (fun n'=>eB eA text.length n' (0+min text.length 256) []) s:=by
   rw[nJ A,ah,ai]
  rw[R];rcases qW ab r (aV text) 0 with⟨e,c,b1,b2,b3⟩|⟨p,c,b1,b2,b3,b4,b5,b6,b7⟩
  ·refine .inl ⟨e,c,?_,b2,b3.in_,b3.ro,b3.ok,by have:=b3.K;omega,by have:=b3.born;omega,b3.kept,b3.same⟩
   refine M.bind_err ?_;unfold iE;rw[M.bind_ok y];exact M.bind_err (X.trans b1)
  ·refine .inr ⟨⟨(text.length:Nat),p⟩,c,?_,⟨b2.in_,b2.ro,b2.ok,by have:=b2.K;omega,by have:=b2.born;omega,b2.kept,b2.same⟩,rfl,.inl ⟨by show((text.length:Nat):Int)≤256;omega,by rw[b3,ac],b4,b6,b7,b5⟩⟩
   have U:iE eA ⟨(text.length:Nat),pD⟩ 0 0 text s=(.ok ⟨(text.length:Nat),p⟩,c):=by
    unfold iE;rw[M.bind_ok y,M.bind_ok (X.trans b1)];rfl
   rw[M.bind_ok U]
   cases text.length with
   |zero=>rfl
   |succ k=>rfl
 ·
  have H:gC ((text.length:Nat):Int)=1:=aKz (by omega) (by omega)
  obtain⟨m,I⟩:=nZ (text.take 256);obtain⟨b,J⟩:=nZ (text.drop 256);have ad:m.length=256:=by rw[I,z7];omega
  have ae:b.length=text.length-256:=by rw[J,bMe]
  have am:m≠[]:=fun e=>by rw[e] at ad;simp at ad
  have af:b≠[]:=fun e=>by rw[e] at ae;simp at ae;omega
  have R:eB eA (text.length+1) ⟨(text.length:Nat),pD⟩ 0 text s=M.bind (iE eA ⟨(text.length:Nat),pD⟩ 0 0 m) (fun n'=>eB eA text.length n' 256 b) s:=by
   rw[nJ A,show min text.length (256-0%256)=256 by omega,←I,←J]
  rw[R];have D:iN eA (gC ((text.length:Nat):Int)) pD 0 (over (eG .hole) 0 m) s=M.bind (eA.put (aV m) 0) (fun q=>lW eA (nL.set 0 q) 1) s:=by
   rw[H]
   show iN eA 1 pD 0 (over [] 0 m) s=_
   rw[zN];unfold iN;rw[M.bind_ok (aQu s)]
   show M.bind (iN eA 0 _ _ m) _ s=_
   unfold iN;rw[i9 am]
  have wk:∀{s c:pV} {k:Nat},k≤4→Nx s c k→Nx s c 4:=fun ag h=>⟨h.in_,h.ro,h.ok,by have:=h.K;omega,by have:=h.born;omega,h.kept,h.same⟩
  rcases qW ab r (aV m) 0 with⟨e,s1,b1,b2,b3⟩|⟨f,s1,b1,x1,b3,b4,b5,b6,b7⟩
  ·refine .inl ⟨e,s1,M.bind_err ?_,b2,wk (by omega) b3⟩
   unfold iE;rw[M.bind_ok y];exact M.bind_err (D.trans (M.bind_err b1))
  have Y:lW eA (nL.set 0 f) 1 s1=eA.put (bX [f,pD,pD,pD]) 1 s1:=by
   show lW eA [f,pD,pD,pD] 1 s1=_
   unfold lW;rw[i9 (bCt (q:=pD) b6)]
  rcases qW x1.in_ (x1.ro.trans r) (bX [f,pD,pD,pD]) 1 with⟨e,s2,c1,c2,c3⟩|⟨q1,s2,c1,x2,c3,c4,c5,c6,c7⟩
  ·refine .inl ⟨e,s2,M.bind_err ?_,c2,wk (by omega) (x1.trans c3)⟩
   unfold iE;rw[M.bind_ok y];refine M.bind_err (D.trans ?_);rw[M.bind_ok b1];exact Y.trans c1
  have U:iE eA ⟨(text.length:Nat),pD⟩ 0 0 m s=(.ok ⟨(text.length:Nat),q1⟩,s2):=by
   unfold iE;rw[M.bind_ok y];have:iN eA (gC ((text.length:Nat):Int)) pD 0 (over (eG .hole) 0 m) s=(.ok q1,s2):=by
    rw[D,M.bind_ok b1];exact Y.trans c1
   rw[M.bind_ok this];rfl
  rw[M.bind_ok U];obtain⟨k,ag⟩:∃k,text.length=k+1:=⟨text.length-1,by omega⟩
  have an:eB eA text.length ⟨(text.length:Nat),q1⟩ 256 b s2=M.bind (iE eA ⟨(text.length:Nat),q1⟩ 1 0 b) (fun n'=>eB eA k n' (256+min b.length (256-256%256)) []) s2:=by
   conv=>lhs;rw[show eB eA text.length=eB eA (k+1) by rw[ag]]
   rw[nJ af,show 256/256=1 from rfl,show 256%256=0 from rfl,show b.take (min b.length (256-0))=b by rw[bLq];omega,show b.drop (min b.length (256-0))=[] by rw[List.drop_eq_nil_iff];omega]
  rw[an];have aj:∀p∈[f,pD,pD,pD],cT p=true∧p.wf:=fun p z=>by
   simp only[s8,bLp,bNo] at z;rcases z with rfl|rfl|rfl|rfl
   ·exact⟨b5,b7⟩
   all_goals exact aIs
  have Z:fH eA q1 s2=(.ok [f,pD,pD,pD],s2):=sW c6 c4 rfl aj (by rw[c3];exact oA)
  have N:fE eA ⟨(text.length:Nat),q1⟩ 1 s2=(.ok .hole,s2):=xI (by omega) ⟨pD,by
   show kJ eA (gC ((text.length:Nat):Int)) q1 1 s2=_
   rw[H];unfold kJ;rw[i9 (by rw[c6];decide),M.bind_ok Z]
   rfl,iZ⟩
  have E:iN eA (gC ((text.length:Nat):Int)) q1 1 (over (eG .hole) 0 b) s2=M.bind (eA.put (aV b) 0) (fun q=>lW eA ([f,pD,pD,pD].set 1 q) 1) s2:=by
   rw[H]
   show iN eA 1 q1 1 (over [] 0 b) s2=_
   rw[zN];unfold iN;rw[M.bind_ok Z]
   show M.bind (iN eA 0 _ _ b) _ s2=_
   unfold iN;rw[i9 af]
  have O:=x1.trans x2;rcases qW x2.in_ (O.ro.trans r) (aV b) 0 with⟨e,s3,d1,d2,d3⟩|⟨p2,s3,d1,x3,d3,d4,d5,d6,d7⟩
  ·refine .inl ⟨e,s3,M.bind_err ?_,d2,wk (by omega) (O.trans d3)⟩
   unfold iE;rw[M.bind_ok N];exact M.bind_err (E.trans (M.bind_err d1))
  have aa:lW eA ([f,pD,pD,pD].set 1 p2) 1 s3=eA.put (bX [f,p2,pD,pD]) 1 s3:=by
   show lW eA [f,p2,pD,pD] 1 s3=_
   unfold lW;rw[i9 (bCt (q:=pD) b6)]
  have G:=O.trans x3;rcases qW x3.in_ (G.ro.trans r) (bX [f,p2,pD,pD]) 1 with⟨e,s4,f1,f2,f3⟩|⟨q2,s4,f1,x4,f3,f4,f5,f6,f7⟩
  ·refine .inl ⟨e,s4,M.bind_err ?_,f2,wk (by omega) (G.trans f3)⟩
   unfold iE;rw[M.bind_ok N];refine M.bind_err (E.trans ?_);rw[M.bind_ok d1];exact aa.trans f1
  have ap:iE eA ⟨(text.length:Nat),q1⟩ 1 0 b s2=(.ok ⟨(text.length:Nat),q2⟩,s4):=by
   unfold iE;rw[M.bind_ok N];have:iN eA (gC ((text.length:Nat):Int)) q1 1 (over (eG .hole) 0 b) s2=(.ok q2,s4):=by
    rw[E,M.bind_ok d1];exact aa.trans f1
   rw[M.bind_ok this];rfl
  refine .inr ⟨⟨(text.length:Nat),q2⟩,s4,?_,wk (by omega) (G.trans x4),rfl,.inr ⟨by show(256:Int)<((text.length:Nat):Int);omega,f,p2,q1,?_,f4,b4,d4,b6,d6,f6,?_,f7,f5⟩⟩
  ·rw[M.bind_ok ap]
   cases k with
   |zero=>rfl
   |succ k=>rfl
  ·rw[f3,d3,c3,b3,ac,←I,←J]
  ·intro p z
   simp only[s8,bLp,bNo] at z;rcases z with rfl|rfl
   ·exact⟨b5,b7⟩
   ·exact⟨d5,d7⟩
def kN (n:aM) (L:List (aC×Bs)):List aC:=if n.size≤256 then[n.root] else[n.root,(L.getD 3 (pD,[])).1,(L.getD 1 (pD,[])).1]
theorem bGy {n:aM} (h:vS L n text) {s:pV} (G:s.L=L):∃k,k≤1∧n.root.level=(k:Nat)∧iO eA (k+1) n.root [] s=(.ok (kN n L),s):=by
 rcases h with⟨h1,h2,b,f,_⟩|⟨h1,H,I,X,h2,b,f,J,N,O,y,z,_⟩
 ·refine⟨0,by omega,b,?_⟩
  unfold iO kN;rw[i9 (by rw[f];decide),i6 b,i6 h1]
  rfl
 ·have c:∀p∈[H,I,pD,pD],cT p=true∧p.wf:=fun p c=>by
   simp only[s8,bLp,bNo] at c;rcases c with rfl|rfl|rfl|rfl
   ·exact z _ (by simp)
   ·exact z _ (by simp)
   all_goals exact aIs
  have E:=sW y b rfl c (by rw[G,h2];exact oA)
  refine⟨1,by omega,b,?_⟩
  unfold iO;rw[i9 (by rw[y];decide),i9 (by rw[b];decide),M.bind_ok E]
  have R:∀(p:aC) (out:List aC),isNone p=false→p.level=0→iO eA 1 p out s=(.ok (out++[p]),s):=fun p out m e=>by
   unfold iO;rw[i9 (by rw[m];decide),i6 e]
   rfl
  have U:∀(out:List aC),iO eA 1 pD out s=(.ok out,s):=fun out=>by
   unfold iO;rw[i6 iZ];rfl
  have A:∀(p:aC) (r out:List aC),isNone p=false→p.level=0→tC (iO eA 1) n.root.level (p::r) out s=tC (iO eA 1) n.root.level r (out++[p]) s:=fun p r out m e=>by
   rw[aJn _ (by rw[b,e];simp),M.bind_ok (R p out m e)]
  have D:∀(r out:List aC),tC (iO eA 1) n.root.level (pD::r) out s=tC (iO eA 1) n.root.level r out s:=fun r out=>by
   rw[aJn _ (by rw[iZ];simp),M.bind_ok (U out)]
  rw[A _ _ _ N f,A _ _ _ O J,D,D];unfold kN;rw[i9 (by omega),h2]
  rfl
section
attribute [local go_sem ↓] bU bR eI dL rG
theorem bGx {size:Int} (h1:(off:Int)<size) (h2:off<16384):off/256<4 ^ gC size:=by
 unfold gC;split
 ·omega
 ·split
  ·omega
  ·split<;>omega
section
variable {σ:Type} {S:StF σ} {ty:TypeId} {a:Addr} {C:bA S ty a}
theorem aVs {n:aM} {st c:σ} (h:iE S n i frm s st=(.ok n',c)):n'.size=n.size:=by
 rcases M.bind_cases h with⟨x,f,h1,h2⟩|⟨e,f,h1,h2⟩
 ·rcases M.bind_cases h2 with⟨r,m,y,b⟩|⟨e,m,y,b⟩
  ·simp only[M.ret,Prod.mk.injEq,Except.ok.injEq] at b
   rw[←b.1]
  ·simp at b
 ·simp at h2
theorem aRr {n:aM} {size:Int} {st b:σ} (h:kI S n size st=(.ok n',b)):n'.size=max n.size size:=by
 rcases M.bind_cases h with⟨x,c,h1,h2⟩|⟨e,c,h1,h2⟩
 ·simp only[M.ret,Prod.mk.injEq,Except.ok.injEq] at h2
  rw[←h2.1]
 ·simp at h2
def bIu:Value→Nat
 | .string b=>b.size
 |_=>0
structure bJh (C:bA S ty a) (F:Nat→Prop) (w wr:World) (f:Nat) (n:aM) (off:Nat) (s:Bs) (s1:σ) (R:Except Nat aM×σ) (F1:Nat→Prop):Prop where
 fuel:s.length<f
 wf:n.wf
 lt:(off:Int)+s.length≤n.size
 most:off+s.length≤16384
 eq:eB S f n off s s1=R
 at_:C.At F s1 w wr F1
 bn:Blk wr w.heap.size 53 (aN n)
 br:Blk wr (w.heap.size+1) 53 (aN nD)
 f0:¬F1 w.heap.size
 f1:¬F1 (w.heap.size+1)
theorem aWg {st:σ} (h:C.Is w st F) (n:aM) (hn:n.wf) (off:Int) (ho:eY off) (s:Bs) (hsl:s.length≤1000000) (hok:C.Ok (eS S n off s st).2):
  Calls prog 37 #[.iface ty (.pointer (some a)),.agg (aN n).toArray,off,.string ⟨s.toArray⟩] w fun e w'=>NdR (eS S n off s st).1 e∧C.Step F (eS S n off s st).2 w w':=by
 obtain⟨w0,hw0⟩:=nZ ((w.alloc (.cells (aN n).toArray 53)).alloc (.cells (aN nD).toArray 53));have hb:Blk w0 w.heap.size 53 (aN n):=by rw[hw0];exact(Blk.new w _ _).alloc _
 have hr:Blk w0 (w.heap.size+1) 53 (aN nD):=by rw[hw0];exact Blk.newAt (w:=w.alloc _) _ _ (by simp)
 have hbel:bB w w0:=by rw[hw0];exact(bZ).alloc (by simp) _
 have h0:¬F w.heap.size:=fun hf=>by have:=C.lt h _ hf;omega
 have h1:¬F (w.heap.size+1):=fun hf=>by have:=C.lt h _ hf;omega
 have HAT:Hid (C.At F st w w0 F):=hZ ((bA.At.start h).below hbel);have hld:=fun op a next Q=>aB (P:=prog) hb underlying53 rfl cQ op a next Q
 have HB0:=hZ hb;have HR0:=hZ hr;unfold eY at ho;obtain⟨ho1,ho2⟩:=ho;clear hbel;by_cases hbad:off<0∨16384<off∨16384-off<s.length
 ·have e:eS S n off s=M.err 1:=by unfold eS;rw[i6 hbad]
  rw[e];have hst:=fun op a next Q=>mZ hr rfl op a next Q
  have HA2:=hZ (HAT.o.put (o:=0) (vs:=aN nD) (bLv _) h1 hr);clear e hok hr hb;by_cases c1:off<0
  ·go_in
   go_upto_region 1 with fail
   rw[show(w.alloc (.cells (aN n).toArray 53)).alloc (.cells yD 53)=w0 from hw0.symm];clear hw0;go_wp2_with fail;refine l9 (aL rfl _ _ (w.heap.size+1) 53 _ _ rfl (HR0.o.put (vs:=aN nD) rfl) underlying53 rfl cQ) rfl ?_;exact⟨⟨rfl,by decide⟩,HA2.o.fin⟩
  ·by_cases c2:16384<off
   ·go_in
    go_upto_region 1 with fail
    rw[show(w.alloc (.cells (aN n).toArray 53)).alloc (.cells yD 53)=w0 from hw0.symm];clear hw0;go_wp2_with fail;refine l9 (aL rfl _ _ (w.heap.size+1) 53 _ _ rfl (HR0.o.put (vs:=aN nD) rfl) underlying53 rfl cQ) rfl ?_;exact⟨⟨rfl,by decide⟩,HA2.o.fin⟩
   ·have c3:16384-off<(s.length:Int):=by omega
    go_in;go_upto_region 1 with fail
    rw[show(w.alloc (.cells (aN n).toArray 53)).alloc (.cells yD 53)=w0 from hw0.symm];clear hw0;go_wp2_with fail;refine l9 (aL rfl _ _ (w.heap.size+1) 53 _ _ rfl (HR0.o.put (vs:=aN nD) rfl) underlying53 rfl cQ) rfl ?_;exact⟨⟨rfl,by decide⟩,HA2.o.fin⟩
 ·have c1:¬off<0:=by omega
  have c2:¬16384<off:=by omega
  have c3:¬16384-off<(s.length:Int):=by omega
  by_cases hz:s=[]
  ·have e:eS S n off s=M.ret n:=by unfold eS;rw[i9 hbad,i6 hz]
   rw[e];have qs:s.isEmpty=true:=by simp[hz]
   have hst:=fun op a next Q=>aG (P:=prog) (t:=53) (o:=0) (cs:=aN n) hr (d8 13) cQ (eP _) op a next Q
   have HA2:=hZ (HAT.o.put (o:=0) (vs:=aN n) (bLv _) h1 hr);clear e hok hr hb hz hbad;go_in;go_upto_region 1 with fail
   rw[show(w.alloc (.cells (aN n).toArray 53)).alloc (.cells #[.int .i64 0,.int .i64 0,.int .i64 0,.int .i64 0,.int .i64 0,.bool false,.int .i64 0,.int .i64 0,.int .i64 0,.int .u64 0,.int .u64 0,.int .u64 0,.int .u64 0] 53)=w0 from hw0.symm];clear hw0;go_wp2_with fail;refine l9 (aL rfl _ _ (w.heap.size+1) 53 _ _ rfl (HR0.o.put (vs:=aN n) rfl) underlying53 rfl cQ) rfl ?_;exact⟨⟨rfl,hn⟩,HA2.o.fin⟩
  ·have e:eS S n off s=M.bind (kI S n (off+s.length)) fun n'=>eB S (s.length+1) n' off.toNat s:=by unfold eS;rw[i9 hbad,i9 hz]
   rw[e] at hok⊢;have qs:s.isEmpty=false:=by cases s<;>simp_all
   obtain⟨o,rfl⟩:∃o:Nat,off=o:=⟨off.toNat,by omega⟩
   rw[s7] at hok⊢;have hokG:C.Ok (kI S n ((o:Int)+s.length) st).2:=dE (fun n'=>nN C.bg C.bp _ _ _ _) hok
   have HGR:=hZ (aZi HAT.o.1 n hn ((o:Int)+s.length) (by unfold eY;omega) hokG)
   rcases hgm:kI S n ((o:Int)+s.length) st with⟨r|n1,s1⟩
   ·rw[M.bind_err hgm]
    rw[hgm] at HGR;clear e hok hr hb hz hbad hokG hgm;go_enter func37,ntmps37;go_upto_region 1 with fail
    rw[show(w.alloc (.cells (aN n).toArray 53)).alloc (.cells #[.int .i64 0,.int .i64 0,.int .i64 0,.int .i64 0,.int .i64 0,.bool false,.int .i64 0,.int .i64 0,.int .i64 0,.int .u64 0,.int .u64 0,.int .u64 0,.int .u64 0] 53)=w0 from hw0.symm];clear hw0;go_wp2_with fail;refine HGR.o.mono ?_;rintro e w2 ⟨⟨rfl,hr0⟩,hstep⟩;have hr1:((r:Int) != 0)=true:=by simpa using hr0
    obtain⟨F2,hat,hfr2,hm⟩:=HAT.o.step hstep;have hst1:=fun op a next Q=>mZ (hm.blk HB0.o h0) rfl op a next Q
    have hbr:=(hm.blk HR0.o h1).away 0 (aN nD) (by omega:w.heap.size+1≠w.heap.size)
    have hst:=fun op a next Q=>aG (P:=prog) (t:=53) (o:=0) (cs:=aN nD) hbr (d8 13) cQ (eP _) op a next Q
    have hst':=fun op a next Q=>mZ hbr rfl op a next Q
    have HB2:=hZ hbr;have HA2:=hZ ((hat.put (o:=0) (vs:=aN nD) (d8 _) (hfr2 _ HB0.o.lt h0) (hm.blk HB0.o h0)).put (o:=0) (vs:=aN nD) (bLv _) (hfr2 _ HR0.o.lt h1) hbr);have hst2:=fun op a next Q=>aG (P:=prog) (t:=53) (o:=0) (cs:=aN nD) (hm.blk HB0.o h0) (d8 13) cQ (eP _) op a next Q
    clear hat hfr2 hm hbr hstep hld;go_wp2_with fail;refine l9 (aL rfl _ _ (w.heap.size+1) 53 _ _ rfl (HB2.o.put (vs:=aN nD) rfl) underlying53 rfl cQ) rfl ?_;exact⟨⟨rfl,hr0⟩,HA2.o.fin⟩
   ·rw[M.bind_ok hgm] at hok⊢
    rw[hgm] at HGR;have hns:=aRr hgm;obtain⟨R,hR⟩:∃R,eB S (s.length+1) n1 o s s1=R:=⟨_,rfl⟩;rw[hR] at hok⊢;have HOK:=hZ hok;have HR1:=hZ hR;have HNS:=hZ hns;clear e hok hr hb hz hbad hokG hgm hR hns;go_enter func37,ntmps37;go_upto_region 1 with fail
    rw[show(w.alloc (.cells (aN n).toArray 53)).alloc (.cells #[.int .i64 0,.int .i64 0,.int .i64 0,.int .i64 0,.int .i64 0,.bool false,.int .i64 0,.int .i64 0,.int .i64 0,.int .u64 0,.int .u64 0,.int .u64 0,.int .u64 0] 53)=w0 from hw0.symm];clear hw0;go_wp2_with fail;refine HGR.o.mono ?_;rintro e w2 ⟨⟨rfl,hnw⟩,hstep⟩;obtain⟨F2,hat,hfr2,hm⟩:=HAT.o.step hstep;have hst1:=fun op a next Q=>aG (P:=prog) (t:=53) (o:=0) (cs:=aN n1) (hm.blk HB0.o h0) (d8 13) cQ (eP _) op a next Q
    have HI:Hid (bJh C F w (w2.setCells w.heap.size 0 (aN n1)) (s.length+1) n1 o s s1 R F2):=hZ ⟨Nat.lt_succ_self _,hnw,by rw[HNS.o];omega,by omega,HR1.o,hat.put (o:=0) (vs:=aN n1) (d8 _) (hfr2 _ HB0.o.lt h0) (hm.blk HB0.o h0),(hm.blk HB0.o h0).put rfl,(hm.blk HR0.o h1).away 0 (aN n1) (by omega:w.heap.size+1≠w.heap.size),hfr2 _ HB0.o.lt h0,hfr2 _ HR0.o.lt h1⟩
    clear hat hfr2 hm hstep hld;go_wp2_with fail;go_loopw [2,3] (fun ov sv wr=>∃(f:Nat) (n':aM) (off:Nat) (s:Bs) (s1:σ) (F1:Nat→Prop),ov= .int .i64 (off:Nat)∧sv= .string ⟨s.toArray⟩∧off≤16384∧s.length≤16384∧Hid (bJh C F w wr f n' off s s1 R F1)) (fun _ sv _=>bIu sv)
    case atStart=>exact⟨_,n1,o,s,s1,F2,rfl,rfl,by omega,by omega,HI⟩
    case round=>
     clear HI qs;obtain⟨f,n',off,s,s1,F1,rfl,rfl,hoff,hsl2,HI⟩:=hrel;have hnw':=HI.o.wf;by_cases hz:s=[]
     ·have qs:s.isEmpty=true:=by simp[hz]
      have hfu:=HI.o.fuel;obtain⟨f',rfl⟩:∃f',f=f'+1:=⟨f-1,by omega⟩
      have hRe:=HI.o.eq;rw[eB,i6 hz] at hRe;have HRE:Hid ((Except.ok n',s1)=R):=hZ hRe;have hln:=fun op a next Q=>aB (P:=prog) HI.o.bn underlying53 rfl cQ op a next Q
      have hst:=fun op a next Q=>aG (P:=prog) (t:=53) (o:=0) (cs:=aN n') HI.o.br (d8 13) cQ (eP _) op a next Q
      have HA2:=hZ (HI.o.at_.put (o:=0) (vs:=aN n') (bLv _) HI.o.f1 HI.o.br);clear hz hRe;go_wp2_with fail;refine l9 (aL rfl _ _ (w.heap.size+1) 53 _ _ rfl (HI.o.br.put (vs:=aN n') rfl) underlying53 rfl cQ) rfl ?_;rw[←HRE.o];exact⟨⟨rfl,hnw'⟩,HA2.o.fin⟩
     ·have qs:s.isEmpty=false:=by cases s<;>simp_all
      have hpos:0<s.length:=List.length_pos_iff.2 hz;have hfu:=HI.o.fuel;obtain⟨f',rfl⟩:∃f',f=f'+1:=⟨f-1,by omega⟩
      have hRe:=HI.o.eq;rw[eB,i9 hz] at hRe;obtain⟨fr,hfr⟩:=nZ (off%256);obtain⟨kk,hkk⟩:=nZ (min s.length (256-fr));rw[←hfr,←hkk] at hRe;have hfr2:fr<256:=by omega
      have hk1:0<kk:=by omega
      have hk2:kk≤s.length:=by omega
      have hk3:kk≤256:=by omega
      have e1:(off:Int)%256=(fr:Int):=by omega
      have e2:min (s.length:Int) (256-(fr:Int))=(kk:Int):=by omega
      have HOQ:Hid ((off:Int)/256=((off/256:Nat):Int)):=hZ (by omega)
      have WOQ:Hid (IntKind.i64.wrap ((off:Int)/256)=((off/256:Nat):Int)):=hZ (by rw[HOQ.o];exact bLo _ (by omega))
      obtain⟨rv,s3,hRS⟩:∃rv s3,iE S n' (off/256) fr (s.take kk) s1=(rv,s3):=⟨_,_,rfl⟩;have hokL:C.Ok (iE S n' (off/256) fr (s.take kk) s1).2:=dE (fun q=>nN C.bg C.bp _ _ _ _) (by rw[hRe];exact HOK.o)
      have HATD:=hZ (HI.o.at_.below (i4 _ _).drew);have HLAID:=hZ (aXs HATD.o.1 n' hnw' (off/256) fr (s.take kk) (bGx (by have:=HI.o.lt;omega) (by have:=HI.o.most;omega)) (by omega) (by simp;omega) hokL)
      rw[hRS] at HLAID;have HRS:=hZ hRS;have HRE:=hZ hRe;clear hz hRe hRS hokL hfr hkk;go_wp2_with fail;have E1:=hZ e1;have E2:=hZ e2;clear e1 e2;refine l7 (S:=fun _=>True) (by kernel_rfl) trivial (fun hS0=>?_)
      refine aE 0 ?_;refine aE 2 ?_;refine sB (i:=3) (v:=?vd3) (hy:=?yd3) (h:=?_)
      case yd3=>intro w hSw;(try dsimp only at hSw);go_simp;rw[HOQ.o]
      try simp only[Act.put,z1,z2,z3]
      refine aE 4 ?_;refine aE 5 ?_;refine aE 6 ?_;refine sB (i:=7) (v:=?vd7) (hy:=?yd7) (h:=?_)
      case yd7=>intro w hSw;(try dsimp only at hSw);go_simp;rw[dM,bOf]
      try simp only[Act.put,z1,z2,z3]
      refine dY (i:=1) (h:=fun K hK=>?_)
      rw[i6 (by kernel_rfl)]
      refine wp_load_mid 53 (.tmp 5) rfl w.heap.size (0) rfl (aN n') _ (fZ HI.o.bn.drew) underlying53 rfl cQ ?_;refine hK.o _ _ (trivial) (fun hSd1=>?_)
      try simp only[Act.put,z1,z2,z3]
      refine dY (i:=8) (h:=fun K hK=>?_)
      go_simp
      first|rw[WOQ.o]|rw[HOQ.o,bLo _ (by omega)]
      refine HLAID.o.mono ?_;rintro e w6 ⟨hpr,hstep6⟩;have hpe:=NdR.val hpr;obtain⟨q,hq⟩:∃q,ndV rv=q:=⟨_,rfl⟩;obtain⟨E,hE⟩:∃E,mE rv=E:=⟨_,rfl⟩;rw[hq,hE] at hpe;subst hpe;have HQV:=hZ hq;have HEE:=hZ hE;have HPR:=hZ (NdR.two hpr);clear hq hE hpr;obtain⟨F3,hat6,hfr6,hm6⟩:=HATD.o.step hstep6;have hbn6:=hm6.blk HI.o.bn.drew HI.o.f0;have hbr6:=hm6.blk HI.o.br.drew HI.o.f1;have hf06:=hfr6 _ HI.o.bn.lt HI.o.f0;have hf16:=hfr6 _ HI.o.br.lt HI.o.f1;clear hfr6 hstep6 hm6
      try dsimp only
      refine hK.o _ _ (trivial) (fun hSd8=>?_)
      try simp only[Act.put,z1,z2,z3]
      refine aE 9 ?_;refine aE 10 ?_;refine aE 11 ?_;refine dY (i:=12) (h:=fun K hK=>?_)
      rw[i6 (by kernel_rfl)]
      refine bMx 53 (.tmp 5) (.tmp 63) rfl w.heap.size (0) (aN q).toArray rfl rfl (cW hbn6 (d8 13)) cQ (bLu (eP _)) ?_;refine hK.o _ _ (trivial) (fun hSd12=>?_)
      try simp only[Act.put,z1,z2,z3]
      refine aE 13 ?_;refine r8 (by kernel_rfl) ?_ _
      have hset:=hbn6.put (vs:=aN q) rfl;have hbr7:=hbr6.away 0 (aN q) (by omega:w.heap.size+1≠w.heap.size)
      have hat7:=hat6.put (o:=0) (vs:=aN q) (d8 _) hf06 hbn6;rcases HPR.o with⟨r,rfl,hr0⟩|⟨q',rfl,hqw⟩
      ·have hRe:=HRE.o
       rw[M.bind_err HRS.o] at hRe;obtain rfl:=HQV.o;obtain rfl:=HEE.o;have hr1:((r:Int) != 0)=true:=by simpa using hr0
       have HRE3:=hZ hRe;unfold ndV mE at*;have hst:=fun op a next Q=>mZ hbr7 rfl op a next Q
       have HB7:=hZ hbr7;have HA2:=hZ (hat7.put (o:=0) (vs:=aN nD) (bLv _) hf16 hbr7);clear hset hbr7 hat7 hat6 hbr6 hRe HQV HEE;go_wp2_with fail;refine l9 (aL rfl _ _ (w.heap.size+1) 53 _ _ rfl (HB7.o.put (vs:=aN nD) rfl) underlying53 rfl cQ) rfl ?_;rw[←HRE3.o];exact⟨⟨rfl,hr0⟩,HA2.o.fin⟩
      ·have hRe:=HRE.o
       rw[M.bind_ok HRS.o] at hRe;obtain rfl:q'=q:=HQV.o;obtain rfl:E=0:=HEE.o.symm;have hqs:=aVs HRS.o;have HI3:∀nd:Nat,Hid (bJh C F w ((w6.setCells w.heap.size 0 (aN q')).drewN nd) f' q' (off+kk) (s.drop kk) s3 R F3):=fun nd=>hZ ⟨by have:=HI.o.fuel;rw[bMe];omega,hqw,by rw[hqs,bMe];have:=HI.o.lt;omega,by rw[bMe];have:=HI.o.most;omega,hRe,hat7.below (dB (i4 _ _) nd),hset.drewN,hbr7.drewN,hf06,hf16⟩
       have HI4:=hZ HI3;have hoff2:off+kk≤16384:=by have:=HI.o.most;omega
       clear hset hbr7 hat7 hat6 hbr6 hRe hqs HI3;go_wp2_with fail;have p1:IntKind.i64.wrap ((off:Int)+(kk:Int))=(off:Int)+(kk:Int):=bLo _ (by omega)
       have p2:0≤(kk:Int):=by omega
       have p3:(kk:Int)≤(s.length:Int):=by omega
       go_quiet (fail);go_wp2_with fail;refine⟨⟨f',q',off+kk,s.drop kk,s3,F3,by rw[Int.natCast_add],by rw[dM,bLz],hoff2,by rw[bMe];omega,HI4.o _⟩,?_⟩
       rw[dM,bLz]
       show(s.drop kk).toArray.size<s.toArray.size
       simp only[bOm,bMe];omega
end
end
section
attribute [local go_sem ↓] cB kX nT eI dL rG
theorem mQ (h:0<st.length∧st.length≤16):(bW st).length≤512∧0<(bW st).length:=by
 have b:(st.flatMap fun r=>bS 8 r.1++bS 8 r.2).length=16*st.length:=by
  have:∀l:List (Nat×Nat),(l.flatMap fun r=>bS 8 r.1++bS 8 r.2).length=16*l.length:=fun l=>by
   induction l with
   |nil=>rfl
   |cons a l c=>rw[bMb,i7,c,i7,aH,aH,bLn];omega
  exact this st
 unfold bW;simp only[i7,aKw,b,aH,aP,bLw];omega
theorem aNd:nD.wf:=⟨by unfold eY nD;dsimp only;omega,aIs.2⟩
def dK.plain (S:dK):dK:={S with mt:=false}
def lS (x:aK) (sn:SN) (es:List Nat) (tx:Nat) (K:Nat):pV:=⟨⟨x,sn,es,((tx+1:Nat):Int),0,true,0,[]⟩,[],true,false,[],K⟩
structure bJs (x:aK) (V:kE) (F:Nat→Prop) (bb eb:Nat) (ms:List MT) (s0:pV) (text:Bs) (w w':World) (e:Ending):Prop where
 o:∃(R:Except Nat aM) (s':pV) (sb:Nat) (dn:Option Nat) (T:Nat→Prop),eS eA nD 0 text s0=(R,s')∧e= .returned (.tuple #[.agg (aN (ndV R)).toArray,.int .i64 (mE R:Nat)])∧(ndV R).wf∧(mE R=0→(ndV R).size=(text.length:Nat)∧vS s'.L (ndV R) text)∧Nx s0 s' 4∧
  bN w' sb s'.S V bb dn T∧Mod (fun k=>F k∨eK bb eb ms k) w w'∧(∀k,T k→F k∨eK bb eb ms k∨w.heap.size≤k)
theorem aPo {dn:Bool} {K:Nat}
  (h:Blk w pb 112 (eD V.g V.l V.a x.secs tx nd (.slice ao st.length cap) (some bb) wk ws dn)) (U:RSl w 2 ao st.length cap (bG st)) (au:0<st.length∧st.length≤16) (av:∀r∈st,r.1≤iI∧r.2≤iI)
  (ah:bV w x V F) (aw:aW w bb eb x.gs x.secs ms es) (ht:tx≤4294967294) (ax:aCw (lS x (fO ms) es tx K).S [] K) (cv:K+1000≤1000000000):
  Calls prog 50 #[.pointer (some pb)] w (fun e w'=>bJs x V F bb eb ms (lS x (fO ms) es tx K) (bW st) w w' e):=by
 obtain⟨E,m⟩:=nZ (w.alloc (.cells (aN nD).toArray 53));have G:bB w E:=by rw[m];exact bZ
 have ay:Blk E w.heap.size 53 (aN nD):=by rw[m];exact Blk.new w _ _
 have az:E.heap.size=w.heap.size+1:=by rw[m];simp
 have ba:=hZ (aSc ao cap st E (RSl.below U G) (by omega) av)
 have bs:=h.below G;have bt:=hZ bs;have H:Hid ((bW st).length≤512∧0<(bW st).length):=hZ (mQ au);obtain⟨db,dc,dd,de,df,wc,bu,_⟩:=ah.form;have h1:V.g.oneCell'=true∧V.l.oneCell'=true∧V.a.oneCell'=true:=by rw[bu];exact⟨rfl,rfl,rfl⟩
 have bz:=hZ (fun(W:World) (cw:bB w W)=>wY (h.below cw) h1 (by omega) 0)
 have cx:=hZ ah;have ca:=hZ aw;have I:=hZ ax;have cb:=hZ cv;obtain⟨text,bc⟩:=nZ (bW st);rw[←bc] at ba H⊢;have cc:=hZ G;have cd:=hZ ay;have cy:=hZ az;clear h U au av ah aw ax bs G ay az bu h1 bc;go_in;go_upto_region 1 with fail
 rw[show w.alloc (.cells yD 53)=E from m.symm];clear m;have ce:=fun ai a next Q=>eO (P:=prog) (t:=62) (o:=18) (cs:=bF (.slice ao st.length cap)) bt.o rfl underlying62 rfl sG ai a next Q
 go_wp2_with fail;refine ba.o.mono ?_;rintro e aj ⟨rfl,X⟩;have J:=hZ (cc.o.trans (X.mono (by rw[cy.o];omega)))
 have cf:=hZ (cd.o.below X);clear X ce bt;go_wp2_with fail;refine(bz.o aj J.o).mono ?_;rintro e cz ⟨rfl,bd,Y⟩;have y:=hZ (J.o.trans (Y.mono J.o.size));have be:=hZ (cf.o.below Y);obtain⟨T,hT⟩:=nZ (wV aj.heap.size bb eb ms none (.slice none 0 0) F);have R:bN cz aj.heap.size (lS x (fO ms) es tx K).S.plain V bb none T:=⟨eb,ms,.slice none 0 0,F,⟨bd,cx.o.below y.o,ca.o.below y.o,rfl,⟨rfl,rfl,rfl⟩⟩,fun k=>by rw[hT]⟩
 have bv:Hid (∀k,T k→F k∨eK bb eb ms k∨w.heap.size≤k):=hZ (fun k f=>by
  rw[hT] at f;rcases f with h1|h1|h1|h1|h1
  ·exact .inl h1
  ·exact .inr (.inl h1)
  ·exact .inr (.inr (by rw[h1];exact J.o.size))
  ·cases h1
  ·cases h1)
 have cg:=hZ (bJm R true);have ch:Hid (¬T w.heap.size):=hZ (R.noType be.o (by unfold kD cH lZ;decide))
 clear Y bd hT R;go_wp2_with fail;refine cg.o.mono ?_;rintro e bw ⟨d,Z,dg,rfl,bf,aa,bh,bi,bj,ci⟩;obtain⟨ak,ab,z,_⟩:=bf.shift bi;have ac:=aa.blk be.o ch.o;have bk:∀k,ak k→F k∨eK bb eb ms k∨w.heap.size≤k:=fun k f=>by
  rcases z k f with h1|h1
  ·rcases bh k h1 with h2|h2
   ·exact bv.o k h2
   ·exact .inr (.inr (l6 y.o.size h2))
  ·exact .inr (.inr (by rw[h1];exact l6 y.o.size bj))
 have ad:zK (lS x (fO ms) es tx K):=⟨I.o.one,I.o.fits,I.o.deep,by show(0:Nat)≤1000000;omega,by show(0:Int)≤0∧(0:Int)≤1000000000;omega,fun q al=>(by cases al),fun _=>⟨I.o,fun q al=>(by cases al)⟩⟩
 have cj:=cb.o;obtain⟨c,b,N,A,aq⟩:∃c b,eS eA nD 0 text (lS x (fO ms) es tx K)=(c,b)∧Nx (lS x (fO ms) es tx K) b 4∧(mE c=0→(ndV c).size=(text.length:Nat)∧vS b.L (ndV c) text):=by
  rcases aWx ad rfl rfl text H.o.2 H.o.1 with⟨e,b,am,an,ap⟩|⟨n,b,am,an,ap,da⟩
  ·exact⟨_,b,am,ap,fun h=>absurd h an⟩
  ·exact⟨_,b,am,an,fun _=>⟨ap,da⟩⟩
 have ar:bEe (eS eA nD 0 text (lS x (fO ms) es tx K)).2:=by
  rw[N];refine⟨A.ok,?_,?_⟩
  ·have:=A.born
   have e:(lS x (fO ms) es tx K).S.born.length=0:=rfl
   show b.S.born.length≤1000000
   omega
  ·have:=A.K
   have e:(lS x (fO ms) es tx K).K=K:=rfl
   show b.K+200≤1000000000
   omega
 have bx:=hZ (aWg (C:=aPb Z bb V) (w:=bw) (st:=lS x (fO ms) es tx K) (F:=ak) ⟨⟨some d,ab⟩,ad⟩ nD aNd 0 (by unfold eY;omega) text (by have:=H.o;omega) ar)
 rw[N] at bx;have ck:=hZ A;have cl:=hZ N;have cm:=hZ aq;have bl:Hid (Mod (fun k=>F k∨eK bb eb ms k) w bw):=hZ ((Mod.below y.o).trans aa (fun k f h=>by
  rcases bv.o k h with h1|h1|h1
  ·exact .inl h1
  ·exact .inr h1
  ·omega))
 have bm:=hZ bk;have cn:=hZ ac;have co:Hid (¬ak w.heap.size):=hZ (ab.noType ac (by unfold kD cH lZ;decide))
 clear N ar cj ad aa bh z bi bj bf ab ci ac bk A aq;go_wp2_with fail;refine bx.o.mono ?_;rintro e w4 ⟨ae,O,bn,af,z⟩;obtain rfl:=ae.val;have bo:(ndV c).wf:=by
  cases c with
  |ok n=>exact ae.2
  |error k=>exact aNd
 have D:=af.blk cn.o co.o;have cp:=hZ D;have U:=fun ai a next Q=>aG (P:=prog) (t:=53) (o:=0) (cs:=aN (ndV c)) D (d8 13) cQ (eP _) ai a next Q
 obtain⟨bq,ag⟩:=bn.1;have br:¬O w.heap.size:=ag.noType D (by unfold kD cH lZ;decide)
 have cq:Hid (bN (w4.setCells w.heap.size 0 (aN (ndV c))) Z b.S V bb bq O):=hZ (ag.other (g0:=w.heap.size) (e0:=53) (cs0:=(aN nD).toArray) (fr0:=(0,0)) D (by unfold cH;decide) br (aJ _ _ _ _))
 have cr:Hid (Mod (fun k=>F k∨eK bb eb ms k) w (w4.setCells w.heap.size 0 (aN (ndV c)))):=hZ ((bl.o.trans af (fun k f h=>by
  rcases bm.o k h with h1|h1|h1
  ·exact .inl h1
  ·exact .inr h1
  ·omega)).put (.inr (d8 _)))
 have ct:Hid (∀k,O k→F k∨eK bb eb ms k∨w.heap.size≤k):=hZ (fun k f=>by
  rcases z k f with h1|h1
  ·exact bm.o k h1
  ·exact .inr (.inr (l6 bl.o.size h1)))
 have cu:=hZ bo;clear ae bn af z ag br bo D;go_wp2_with fail;refine l9 (aL rfl _ _ w.heap.size 53 _ _ rfl (cp.o.put (vs:=aN (ndV c)) rfl) underlying53 rfl cQ) rfl ?_;exact⟨c,b,Z,bq,O,cl.o,rfl,cu.o,cm.o,ck.o,cq.o,cr.o,ct.o⟩
end
theorem aGj {c e:Type} {l₁ l₂:List c} (h:l₁.Sublist l₂) (f:c→List e):(l₁.flatMap f).Sublist (l₂.flatMap f):=by
 induction h with
 |slnil=>exact List.Sublist.refl _
 |cons a h b=>exact b.trans (by rw[bMb];exact List.sublist_append_right _ _)
 |cons_cons a h b=>rw[bMb,bMb];exact List.Sublist.append (List.Sublist.refl _) b
theorem aTq {P:pV→Prop} (e:∀p s,P s→P (eA.get p s).2) (f:∀t l s,P s→P (eA.put t l s).2) (n:aM) (off:Int) (t:Bs) (s:pV) (h:P s):P (eS eA n off t s).2:=
 Classical.byContradiction fun m=>aSo (S:=eA) (Ok:=fun s=>¬P s) (fun p s b c=>b (e p s c)) (fun t l s b c=>b (f t l s c)) n off t s m h
theorem aUi (hr:x.right=true) (h:x.here d=true):d<x.ds.length:=by
 have b:=(bL hr).2.2.1;unfold aK.here at h;rw[y8] at h;by_cases c:d<x.away.length
 ·omega
 ·have:x.away.getD d true=true:=by rw[a8,m7 (by omega)];rfl
  rw[this] at h;exact absurd h.1 (by decide)
theorem bAe (hr:x.right=true) (c:bJ) (s:Bs) (c2:bJ) (h:¬(c.1=c2.1∧c.2.1=c2.2.1)):(eZ x c s).2.col c2=x.col c2:=by
 by_cases b:x.here c.1=true
 ·exact vO (aUi hr b) h
 ·unfold eZ
  rw[i9 b]
theorem wQ (hr:x.right=true) (c:bJ) (s:Bs):dT x (eZ x c s).2:=by
 by_cases b:x.here c.1=true
 ·have:=qO [(c,s)] x [] (fun q e=>by
   simp only[s8,bLp,bNo] at e;rw[e];exact aUi hr b)
  exact this
 ·unfold eZ
  rw[i9 b];exact dT.refl x
theorem aAx (c2:bJ):∀(l:List (bJ×Bs)) (x:aK) (f:List Nat),x.right=true→(∀q∈l,¬(q.1.1=c2.1∧q.1.2.1=c2.2.1))→(fU x l f).2.col c2=x.col c2
 |[],x,f,_,_=>rfl
 |(c,s)::r,x,f,hr,h=>by
  have e:(fU x ((c,s)::r) f).2=(fU (eZ x c s).2 r (if(eZ x c s).1=true then f else aLj f c.1)).2:=rfl
  rw[e,aAx c2 r _ _ ((wQ hr c s).right hr) (fun q b=>h q (bMg _ b)),bAe hr c s c2 (h _ (bMf ..))]
theorem aBy:∀(l:List (bJ×Bs)) (x:aK) (f:List Nat),x.right=true→dT x (fU x l f).2
 |[],x,f,_=>dT.refl x
 |(c,s)::r,x,f,hr=>(wQ hr c s).trans (aBy r _ _ ((wQ hr c s).right hr))
theorem aSf (hr:x.right=true) (g a:Nat) (s:Bs) (c2:bJ) (h:c2.2.1<16):(dD x g a s).2.2.col c2=x.col c2∧dT x (dD x g a s).2.2:=by
 unfold dD;rw[i9 (by rw[hr];decide)]
 split
 ·exact⟨rfl,dT.refl x⟩
 ·rename_i t ht
  refine⟨aAx c2 _ x [] hr (fun q m e=>?_),aBy _ x [] hr⟩
  obtain⟨c,r⟩:=q;obtain⟨i,b,h2⟩:=List.getElem_of_mem (List.of_mem_zip m).1;have f:=aNm b;rw[a8,b9 b,h2] at f;have y:16≤c.2.1:=f;dsimp only at e;omega
theorem aHz (t:Bs) (c2:bJ) (h:c2.2.1<16):∀(l:List (Nat×Nat)) (x:aK),x.right=true→(iF t l x).col c2=x.col c2
 |[],x,_=>rfl
 |q::r,x,hr=>by
  have e:iF t (q::r) x=iF t r (dD x q.1 q.2 t).2.2:=rfl;have h1:=aSf hr q.1 q.2 t c2 h;rw[e,aHz t c2 h r _ (h1.2.right hr),h1.1]
theorem aZw {S:dK} (hr:S.x.right=true) (t:Bs) (level:Int) (c2:bJ) (h:c2.2.1<16):(cE S t level).s.x.col c2=S.x.col c2:=by
 unfold cE;split
 ·rfl
 ·split
  ·rfl
  ·exact aHz t c2 h _ _ hr
structure WrK (x0:aK) (s:pV):Prop where
 in_:zK s
 ro:s.ro=false
 kept:dT x0 s.S.x
 ls:s.Ls=(s.L.reverse.map (·.1)).flatMap (eJ x0.gs x0.secs)
 low:∀c:bJ,c.2.1<16→s.S.x.col c=x0.col c
theorem WrK.get (p:aC) (s:pV) (h:WrK x0 s):WrK x0 (eA.get p s).2:=by
 have e:∃b,(eA.get p s).2={s with ok:=b}:=by
  show ∃b,(sY p s).2=_
  unfold sY;split
  ·exact⟨s.ok,rfl⟩
  ·exact⟨false,rfl⟩
 obtain⟨b,e⟩:=e;rw[e];exact⟨⟨h.in_.one,h.in_.fits,h.in_.deep,h.in_.fx,h.in_.kp,h.in_.wh,h.in_.rw_⟩,h.ro,h.kept,h.ls,h.low⟩
theorem WrK.put (t:Bs) (l:Nat) (s:pV) (h:WrK x0 s):WrK x0 (eA.put t l s).2:=by
 rcases aDg h.in_ h.ro t l with⟨y,_,e,m,r,f,z⟩|⟨y,A,e,m,r,f,z,D⟩
 ·rw[e]
  refine⟨m,h.ro,?_,h.ls,fun c b=>?_⟩
  ·show dT x0 (cE s.S t (l:Nat)).s.x
   rw[f];exact h.kept
  ·show(cE s.S t (l:Nat)).s.x.col c=_
   rw[f];exact h.low c b
 ·rw[A]
  refine⟨e,h.ro,h.kept.trans r,?_,fun c b=>(aZw h.in_.one.right t _ c b).trans (h.low c b)⟩
  show s.Ls++eJ s.S.x.gs s.S.x.secs (cE s.S t (l:Nat)).p=((((cE s.S t (l:Nat)).p,t)::s.L).reverse.map (·.1)).flatMap (eJ x0.gs x0.secs)
  rw[List.reverse_cons,bNa,bNn,h.ls,h.kept.gs,h.kept.secs];simp
theorem WrK.write (n:aM) (off:Int) (t:Bs) (s:pV) (h:WrK x0 s):WrK x0 (eS eA n off t s).2:=aTq (fun p s h=>h.get p s) (fun t l s h=>h.put t l s) n off t s h
structure aVw (x0:aK) (s:pV) (n:aM) (text:Bs):Prop where
 wr:WrK x0 s
 obj:vS s.L n text
 size:n.size=(text.length:Nat)
theorem aVw.ptrs {s:pV} {n:aM} (h:aVw x0 s n text):(∀p∈kN n s.L,bD x0.gs x0.secs p=true∧p.ok)∧((kN n s.L).flatMap (eJ x0.gs x0.secs)).Pairwise Dis:=by
 have f:=(h.wr.in_.rw_ h.wr.ro).1.cov.dis;rw[h.wr.ls] at f;have c:∀q∈s.L,bD x0.gs x0.secs q.1=true∧q.1.ok:=fun q z=>by
  have:=h.wr.in_.wh q z;have h1:=this.right;rw[h.wr.kept.gs,h.wr.kept.secs] at h1;exact⟨h1,this.ok⟩
 rcases h.obj with⟨h1,h2,_⟩|⟨h1,m,r,A,h2,_⟩
 ·have e:kN n s.L=[n.root]:=by unfold kN;rw[i6 h1]
  rw[h2] at f c;rw[e];refine⟨fun p b=>?_,f⟩
  simp only[s8,bLp,bNo] at b;rw[b];exact c _ (bMf ..)
 ·have e:kN n s.L=[n.root,m,r]:=by unfold kN;rw[i9 (by omega),h2];rfl
  rw[h2] at f c;rw[e];refine⟨fun p b=>?_,?_⟩
  ·simp only[s8,bLp,bNo] at b
   rcases b with rfl|rfl|rfl
   ·exact c _ (bMf ..)
   ·exact c _ (bMg _ (bMg _ (bMg _ (bMf ..))))
   ·exact c _ (bMg _ (bMf ..))
  ·have y:=f
   have b:=List.perm_append_comm (l₁:=[n.root]) (l₂:=[m,r]);have D:=y.sublist (aGj ((List.Sublist.cons A (List.Sublist.refl _)).cons_cons m) (eJ x0.gs x0.secs));exact((b.flatMap_right (eJ x0.gs x0.secs)).pairwise_iff (Dis.symm)).2 D

end Go.Proofs.YtepmcdopccflgaaGreatDoor

