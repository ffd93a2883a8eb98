/- Parts of the proof of the statement that the last file of this claim proves:lemmas,without any condition of their own beyond those that each states. -/
import Derived.Test.YtepmcdopccflgaaGreatDoorYV7
import Derived.Deep.DeepCutAuto
import Derived.MapKept
import Derived.Shelf.SlSortCmp.WholeK
import Derived.Deep.MidRow
import Derived.Deep.DrawnRows
import Derived.Deep.QuietTactic
import Derived.BigQuiet
import Derived.BigRegion
import Derived.Lib.AppendZerosOnto
import Derived.Lib.SliceRun
import Derived.Shelf.SlGeneric
import Derived.Ground.SlsfProg
import Derived.Test.YtepmcdopccflgaaGreatDoorProg
set_option linter.unusedVariables false
set_option linter.unusedSimpArgs false
set_option linter.unnecessarySimpa false
set_option maxHeartbeats 4000000
set_option maxRecDepth 100000
namespace Go.Proofs.YtepmcdopccflgaaGreatDoor
open Go.RowKit Go.Proofs.Tryz
variable {bi lv p0 p1 p10 p11 p2 p3 p5 p6 p7 p8 p9 s1 s3 secs:Int} {a1 a2 b b' base bb cap d e e0 e2 eb g g0 g1 g2 ga i k kd m mb n off pb sb sz till tx tx':Nat} {a:Act} {o:Oper} {W w w' w5 wB wc wr:World} {bk wk wk' ws ws':Option Addr} {f:Nat→Nat} {sv v v' va vb vc vg vl:Value} {gs:Gs} {p:aC} {cs cs0 cs2 xs zs:List Value} {pl rs rs' st:List (Nat×Nat)} {next:Act→World→Prop} {F F0 F1 F2 T:Nat→Prop} {after:Array Edge} {rest:List Oper} {ms:List MT} {x x' x0:aK} {dn' p4:Bool} {S:dK} {C:World→Prop} {E el:Nat→aC} {os:Array Obj} {fr:Nat×Nat} {es:List Nat} {s t text:Bs} {dst:Option Tmp} {r:Option Nat} {L:List (aC×Bs)} {nd nd':aM} {guard:Option (Nat×Bool)} {y:Operand} {J:Nat→World→Prop} {l out:List aC} {P:Program} {Q:Exit→Act→World→Prop} {ops:Array Oper} {sn:SN} {fn:Func} {V:kE}
theorem aJo (s:Bs):(kA s).length%64=0∧s.length≤(kA s).length∧(kA s).length<s.length+64:=by
 unfold kA aP;rw[i7,bLw];omega
theorem aZt (h0:0<s.length) (h:s.length≤256):cP (aV s) 0= .ok (.data (aV s)):=by
 rw[pN h];have h1:=aJo s;unfold cP;rw[i6 (by decide),i6 (by
  unfold wR;have c:0<(kA s).length:=by omega
  have e2:(kA s).length≤256:=by omega
  simp[c,e2,h1.1]),i9 (by decide)]
theorem bCs (h:s.length≤256):eG (.data (aV s))=kA s:=by
 have h1:=aJo s;have h2:(kA s).length≤256:=by omega
 show aV (aV s)=_
 rw[pN h,pN h2];unfold kA;rw[show(64-(s++aP ((64-s.length%64)%64)).length%64)%64=0 by have:=h1.1;unfold kA at this;omega]
 simp[aP]
theorem aFz (h0:off≤i*256) (h:s.length≤256) (ht:min (till-i*256) 256=s.length) (z:Nat):aCe (kA s++aP z) off till i=s:=by
 unfold aCe;rw[ht,show off-i*256=0 by omega,bOf]
 unfold kA;rw[bMd,List.take_left]
theorem wU {s:pV} {n:aM} (h:i<64) (c:¬(gC n.size<3∧4 ^ gC n.size≤i)) (j:kJ eA (gC n.size) n.root i s=(.ok p,s)) (u:isNone p=false) (z:p.level=0) (h0:0<t.length) (ht:t.length≤256) (A:s.L.find? (fun q=>decide (q.1=p))=some (p,aV t)):
  kW eA n i s=(.ok (kA t++aP (256-(kA t).length)),s):=by
 have h1:iD eA p s=(.ok (.data (aV t)),s):=by
  unfold iD;rw[i9 (by rw[u];decide)]
  refine(M.bind_ok (f:=fun t s=>(cP t p.level,s)) (aMs A)).trans ?_
  show(cP (aV t) p.level,s)=_
  rw[z,aZt h0 ht]
 have h2:fE eA n i s=(.ok (.data (aV t)),s):=by
  unfold fE;rw[i6 h,i9 c,M.bind_ok j];exact M.bind_ok (f:=fun x s=>(nK x,s)) h1
 unfold kW;rw[M.bind_ok h2,bCs ht];rfl
theorem bBh {s:pV} {n:aM} (h:vS s.L n text) (ab:n.size=(text.length:Nat)) (h0:0<text.length) (ac:text.length≤512) (j:(s.L.map (·.1)).Nodup):sK eA n 0 n.size s=(.ok text,s):=by
 have e0:sK eA n 0 n.size s=iK eA n 0 text.length 66 0 [] s:=by
  unfold sK;rw[i9 (by omega),i9 (by omega),show(0+min n.size (n.size-0)).toNat=text.length by omega]
  rfl
 rw[e0];rcases h with⟨h1,h2,c,q,z,G⟩|⟨h1,p1,p2,ad,h2,c,q,z,G,X,H,I,Z,aa⟩
 case' _=>
  have A:iK eA n 0 text.length 66 0 [] s=iK eA n 0 text.length 65 1 text s:=by
   conv=>lhs;unfold iK
   rw[i6 (by omega),M.bind_ok (wU (p:=n.root) (by omega) (by rw[qV h1];omega) (by rw[qV h1];rfl) q c h0 (by omega) (by rw[h2];exact oA)),aFz (by omega) (by omega) (by omega),bMt]
  rw[A]
 rotate_left
 case' _=>
  rw[h2] at j;simp only[List.map_cons,List.map_nil,List.nodup_cons,s8,bLp,bNo,not_or] at j;have Y:p1≠p2:=fun e=>j.2.1.2 e.symm
  have N:∀p∈[p1,p2,pD,pD],cT p=true∧p.wf:=fun p K=>by
   simp only[s8,bLp,bNo] at K;rcases K with rfl|rfl|rfl|rfl
   ·exact I _ (by simp)
   ·exact I _ (by simp)
   all_goals exact aIs
  have O:fH eA n.root s=(.ok [p1,p2,pD,pD],s):=sW H c rfl N (by rw[h2];exact oA)
  have u:gC n.size=1:=aKz (by omega) (by omega)
  have D:∀i,i<4→kJ eA (gC n.size) n.root i s=(.ok ([p1,p2,pD,pD].getD i pD),s):=fun i ae=>by
   rw[u];unfold kJ;rw[i9 (by rw[H];decide),M.bind_ok O,show i/4 ^ 0=i by simp,show i%4 ^ 0=0 by omega]
   rfl
  have r1:n.root≠p1:=fun e=>by rw[e,q] at c;exact absurd c (by decide)
  have r2:n.root≠p2:=fun e=>by rw[e,z] at c;exact absurd c (by decide)
  have R:kW eA n 0 s=(.ok (kA (text.take 256)++aP (256-(kA (text.take 256)).length)),s):=wU (p:=p1) (by omega) (by rw[u];omega) (D 0 (by omega)) G q (by rw[z7];omega) (by rw[z7];omega) (by rw[h2,uK r1,uK (fun e=>Y e.symm),uK j.2.2.1];exact oA)
  have U:kW eA n 1 s=(.ok (kA (text.drop 256)++aP (256-(kA (text.drop 256)).length)),s):=wU (p:=p2) (by omega) (by rw[u];omega) (D 1 (by omega)) X z (by rw[bMe];omega) (by rw[bMe];omega) (by rw[h2,uK r2];exact oA)
  have A:iK eA n 0 text.length 66 0 [] s=iK eA n 0 text.length 65 1 (text.take 256) s:=by
   conv=>lhs;unfold iK
   rw[i6 (by omega),M.bind_ok R,aFz (by omega) (by rw[z7];omega) (by rw[z7];omega),bMt]
  have e2:iK eA n 0 text.length 65 1 (text.take 256) s=iK eA n 0 text.length 64 2 text s:=by
   conv=>lhs;unfold iK
   rw[i6 (by omega),M.bind_ok U,aFz (by omega) (by rw[bMe];omega) (by rw[bMe];omega),bOg]
  rw[A,e2]
 all_goals
  conv=>lhs;unfold iK
  rw[i9 (by omega)]
  rfl
theorem WrK.nodup {s:pV} (h:WrK x0 s):(s.L.map (·.1)).Nodup:=by
 have c:=(h.in_.rw_ h.ro).1.cov.dis;rw[h.ls,List.pairwise_flatMap] at c;have h2:(s.L.map (·.1)).reverse.Pairwise (·≠·):=by
  rw[←List.map_reverse];refine List.Pairwise.imp_of_mem (fun {a b} z _ u e=>?_) c.2
  subst e;obtain⟨q,A,rfl⟩:=bMn.1 z;have hr:=(h.in_.wh q (List.mem_reverse.1 A)).right;rw[h.kept.gs,h.kept.secs] at hr;have j:fQ x0.gs x0.secs q.1.size (q.1.ag.toNat,q.1.aa.toNat)∈eJ x0.gs x0.secs q.1:=by
   unfold eJ sP;simp
  refine u _ j _ j _ _ ⟨rfl,d8 _,?_⟩ ⟨rfl,d8 _,?_⟩<;>(have:=((bK (gV hr).1).2.2.2.2.2.2.2.2.2).pos;omega)
 rw[List.pairwise_reverse] at h2;exact h2.imp (fun h e=>h e.symm)
section
def aKm (P:Program) (o:Oper) (t:TypeId) (v:Value) (a:Act) (w:World) (next:Act→World→Prop) (Q:Exit→Act→World→Prop):Prop:=
 o.upon P a next Q ((do let r ←Instr.buildSlice t 1 #[(0,v)];pure (Next.value r):Sem Next).run P w)
theorem aWk {x:Operand} {ty:TypeId} {pos:String}:
  Oper.wp prog ⟨dst,.buildSlice 31 1 #[(0,x)],ty,pos,after,guard⟩ a w next Q=aKm prog ⟨dst,.buildSlice 31 1 #[(0,x)],ty,pos,after,guard⟩ 31 (a.eval x) a w next Q:=by
 unfold Oper.wp aKm execOp;simp
theorem aJp (w:World) (p:aC) (o:Oper) (a:Act) (next:Act→World→Prop) (Q:Exit→Act→World→Prop):
  aKm prog o 31 (.agg (aA p).toArray) a w next Q=next (a.put o.dst (.slice (some ⟨w.heap.size,0,none⟩) 1 1)) (w.alloc (.cells (aA p).toArray 51)):=by
 unfold aKm;obtain⟨p0,p1,p2,p3,p4,p5,p6,p7,p8,p9,p10,p11⟩:=p;have h:(do let r ←Instr.buildSlice 31 1 #[(0,.agg #[p0,p1,p2,p3,p4,p5,p6,p7,.int .u64 p8,.int .u64 p9,.int .u64 p10,.int .u64 p11])];pure (Next.value r):Sem Next).run prog w= .ok (.value (.slice (some ⟨w.heap.size,0,none⟩) 1 1)) (w.alloc (.cells #[p0,p1,p2,p3,p4,p5,p6,p7,.int .u64 p8,.int .u64 p9,.int .u64 p10,.int .u64 p11] 51)):=by
  go_simp
 exact o7 (o.upon prog a next Q) h
attribute [local go_sem ↓] bU bR gD iS aWk
theorem pG (w:World) (o:Obj):(w.alloc o).heap.size=w.heap.size+1:=by simp
theorem Mod.grownO (h:w.grownBy w' r) (hr:∀g,r=some g→F g):Mod F w w':=
 ⟨h.os,h.tape,h.output,h.size,fun k c j=>h.block k c (fun e=>j (hr k e.symm))⟩
theorem Mod.row (h:Mod F w w') (hr:w.ownsRow b e 12 v n xs) (u:∀g,v.ownBlock=some g→¬F g):w'.ownsRow b e 12 v n xs:=by
 obtain⟨h1,h2⟩:=hr;refine⟨h1,?_⟩;rcases h2 with h2|⟨g,cap,j,rfl,q,c,z⟩
 ·exact .inl h2
 ·refine .inr ⟨g,cap,j,rfl,q,?_,z⟩
  rw[h.block g (i8.1 c).1 (u g rfl)];exact c
theorem vZ (h:w.ownsRow b e k v n xs) (c:v.ownBlock=some g):∃cs fr,w.heap[g]?=some (Obj.cells cs e fr):=by
 rcases h.2 with⟨rfl,_⟩|⟨g2,cap,j,rfl,h1,h2,q⟩
 ·cases c
 ·simp only[Value.ownBlock,i5] at c
  subst c;exact⟨_,_,h2⟩
section
variable {σ:Type} {S:StF σ} {ty:TypeId} {a:Addr} {C:bA S ty a}
structure fV (C:bA S ty a) (F0:Nat→Prop) (wB w:World) (st:σ) (F:Nat→Prop) (v:Value) (out:List aC):Prop where
 at_:C.At F0 st wB w F
 row:w.ownsRow wB.heap.size 51 12 v out.length (aF out)
 dis:∀g,v.ownBlock=some g→¬F g
theorem fV.below {st:σ} (h:fV C F0 wB w st F v out) (c:bB w w'):fV C F0 wB w' st F v out:=
 ⟨h.at_.below c,aD h.row c,h.dis⟩
theorem fV.step {st c:σ} (h:fV C F0 wB w st F v out) (u:C.Step F c w w'):∃F2,fV C F0 wB w' c F2 v out∧(∀x,x<w.heap.size→¬F x→¬F2 x)∧Mod F w w':=by
 obtain⟨F2,h1,h2,j⟩:=h.at_.step u;exact⟨F2,⟨h1,j.row h.row h.dis,fun g q=>h2 g (h.row.lt g q).2 (h.dis g q)⟩,h2,j⟩
theorem fV.grow {st:σ} {x:aC} (h:fV C F0 wB w st F v out) (D:w'.ownsRow wB.heap.size 51 12 v' (out.length+1) (aF out++aA x)) (j:w.grownBy w' v.ownBlock) (G:v'.ownBlock=v.ownBlock∨v'.ownBlock=some w.heap.size):fV C F0 wB w' st F v' (out++[x]):=by
 refine⟨⟨C.keep h.at_.1 j.size (fun x u=>j.block x (h.at_.lt x u) (fun e=>h.dis x e.symm u)) (fun g c e fr z ht=>by
  rw[j.block g (i8.1 z).1 (fun e2=>by
   obtain⟨I,K,A⟩:=vZ h.row e2.symm;rw[z] at A;simp only[i5,n7] at A;exact(C.nty e ht).2.2.1 A.2.1)]
  exact z),?_,h.at_.2.2⟩,?_,?_⟩
 ·refine h.at_.2.1.trans (Mod.grownO (F:=fun k=>v.ownBlock=some k) j (fun g j=>j)) (fun x u H=>?_)
  have:=(h.row.lt x H).1;omega
 ·rw[i7,rR]
  have e:aF [x]=aA x:=by simp[aF]
  rw[e];exact D
 ·intro g q hF
  rcases G with e|e
  ·exact h.dis g (by rw[←e];exact q) hF
  ·rw[e] at q
   have:=h.at_.lt g hF;simp only[i5] at q;omega
def tn:Nat→Nat
 |0=>1
 |k+1=>1+4*tn k
def bEr (C:bA S ty a) (F0:Nat→Prop) (wB w:World) (F:Nat→Prop) (v:Value) (N:Nat):Except Nat (List aC)×σ→Ending→World→Prop
 |(.ok out,st),e,w'=>∃v' F',e= .returned (.tuple #[v',.int .i64 0])∧fV C F0 wB w' st F' v' out∧Mod (fun k=>F k∨v.ownBlock=some k) w w'∧(∀k,F' k→F k∨w.heap.size≤k)∧(∀k,v'.ownBlock=some k→v.ownBlock=some k∨w.heap.size≤k)∧out.length≤N
 |(.error n,st),e,w'=>∃F',e= .returned (.tuple #[.slice none 0 0,.int .i64 (n:Nat)])∧n≠0∧C.At F0 st wB w' F'∧Mod (fun k=>F k∨v.ownBlock=some k) w w'∧(∀k,F' k→F k∨w.heap.size≤k)
theorem aNi {st:σ} (A:fV C F0 wB w st F v out) (p:aC) (N:p.wf) (O:isNone p=true) (D:Nat) (U:out.length≤D):
  Calls prog 87 #[.iface ty (.pointer (some a)),.agg (aA p).toArray,v] w (bEr C F0 wB w F v D (.ok out,st)):=by
 obtain⟨h,c⟩:=nZ (w.alloc (.cells (aA p).toArray 51));have q:Blk h w.heap.size 51 (aA p):=by rw[c];exact Blk.new w _ _
 have G:Hid (fV C F0 wB h st F v out):=hZ (by rw[c];exact A.below (bZ))
 have z:Hid (bB w h):=hZ (by rw[c];exact bZ)
 have H:=aB q underlying51 rfl aU;have X:=hZ q;have R:=hZ A;clear q;go_in;go_upto_region 1 with fail
 rw[show w.alloc (.cells (aA p).toArray 51)=h from c.symm];clear c;go_wp21;refine(gL p N h).mono ?_;rintro e Y ⟨rfl,j⟩;rw[O];have I:=hZ (G.o.below j);have K:=hZ (z.o.trans (j.mono z.o.size));clear j H;go_wp21;go_ret2;exact⟨v,F,rfl,I.o,Mod.below K.o,fun k u=> .inl u,fun k u=> .inl u,by omega⟩
theorem bDe {st:σ} (aa:fV C F0 wB w st F v out) (p:aC) (an:p.wf) (ao:isNone p=false) (ap:p.level=0) (R:Nat) (aq:out.length+1≤R) (bd:R≤100000):
  Calls prog 87 #[.iface ty (.pointer (some a)),.agg (aA p).toArray,v] w (bEr C F0 wB w F v R (.ok (out++[p]),st)):=by
 obtain⟨j,h⟩:=nZ (w.alloc (.cells (aA p).toArray 51));have N:Blk j w.heap.size 51 (aA p):=by rw[h];exact Blk.new w _ _
 have ac:Hid (fV C F0 wB j st F v out):=hZ (by rw[h];exact aa.below (bZ))
 have X:Hid (bB w j):=hZ (by rw[h];exact bZ)
 have ad:=fun q a next Q=>aB (P:=prog) N underlying51 rfl aU q a next Q
 have ar:=hZ N;have Y:=hZ aa;clear N;have au:=hZ ao;go_in;go_upto_region 1 with fail
 rw[show w.alloc (.cells (aA p).toArray 51)=j from h.symm];clear h;go_wp2_with fail;refine(gL p an j).mono ?_;rintro e D ⟨rfl,A⟩;rw[au.o];have H:=hZ (ac.o.below A);have I:=hZ (X.o.trans (A.mono X.o.size));have K:=hZ (ar.o.below A);have ab:=fun q a next Q=>aB (P:=prog) K.o underlying51 rfl aU q a next Q
 obtain⟨av,aw,ae,af,ag⟩:=bMo aMh;have ax:out.length+1≤maxLen:=by unfold maxLen;omega
 have ay:(out.length+1)*96≤140737488355328:=by omega
 have az:wB.heap.size≤(D.alloc (.cells (aA p).toArray 51)).heap.size:=by have:=H.o.at_.size;simp;omega
 have ah:=hZ (Blk.news (Blk.newAt (w:=D) 51 (aA p) rfl));have ai:=aJp D p;clear A ad;go_upto_region 4 with(at_builtin;go_must (refine bOa _ rfl (.tmp 15) (.tmp 17) 31 rfl wB.heap.size 51 av (.agg yE) 12 96 underlying31 aw ae af ag rfl (Nat.succ_pos 11) v out.length (aF out) rfl (H.o.row.alloc _) ⟨D.heap.size,0,none⟩ 1 1 (aA p) rfl rfl ah.o (aX _) ax ay az ?_;intro v2 G U u _ z))
 have aj:Hid (fV C F0 wB G st F v2 (out++[p])):=hZ ((H.o.below (bZ)).grow U u z);have Z:Hid (Blk G w.heap.size 51 (aA p)):=hZ ((Mod.grownO (F:=fun k=>v.ownBlock=some k) u (fun g O=>O)).blk (K.o.alloc _) (fun ba=>by have:=(Y.o.row.lt _ ba).2;omega))
 have ak:Hid (Mod (fun k=>F k∨v.ownBlock=some k) w G):=hZ (((Mod.below I.o).alloc _).self (Mod.grownO (F:=fun k=>F k∨v.ownBlock=some k) u (fun g O=> .inr O)))
 have be:Hid (¬v2.ownBlock=some w.heap.size):=hZ (fun e=>z.elim (fun e2=>by rw[e2] at e;have:=(Y.o.row.lt _ e).2;omega) (fun e2=>by rw[e2] at e;simp only[i5,pG] at e;have:=I.o.size;have:=K.o.lt;omega))
 have al:Hid (∀k,v2.ownBlock=some k→v.ownBlock=some k∨w.heap.size≤k):=hZ (fun k c=>z.elim (fun e=> .inl (by rw[←e];exact c)) (fun e=>by rw[e] at c;simp only[i5] at c;right;have:=I.o.size;simp only[pG] at c;omega))
 have bc:=fun q a next Q=>aB (P:=prog) Z.o underlying51 rfl aU q a next Q
 have am:G.cell? ⟨w.heap.size,6,none⟩=some (.int .i64 p.level):=Z.o.cell 6;clear U u z ab ai;rw[ap] at am;go_wp2_with fail;go_ret2;exact⟨v2,F,rfl,aj.o,ak.o,fun k c=> .inl c,al.o,by rw[i7];exact aq⟩
structure bIl (C:bA S ty a) (F0 F:Nat→Prop) (wB w wr:World) (v:Value) (N:Nat) (l:List aC) (k:Nat) (p:aC) (j:Nat) (o1:List aC) (s1:σ) (R:Except Nat (List aC)×σ) (F1:Nat→Prop) (v1:Value):Prop where
 jle:j≤4
 eq:tC (iO S (k+1)) p.level (l.drop j) o1 s1=R
 st:fV C F0 wB wr s1 F1 v1 o1
 bb:Blk wr w.heap.size 51 (aA p)
 nf:¬F1 w.heap.size
 nv:¬v1.ownBlock=some w.heap.size
 md:Mod (fun k=>F k∨v.ownBlock=some k) w wr
 fF:∀k,F1 k→F k∨w.heap.size≤k
 fv:∀k,v1.ownBlock=some k→v.ownBlock=some k∨w.heap.size≤k
 len:o1.length+(4-j)*tn k≤N
theorem bCz (k:Nat) (af:k≤2) {st:σ} (bv:fV C F0 wB w st F v out) (p:aC) (bw:p.wf) (u:isNone p=false) (bx:p.level=(k:Int)+1) (A:Nat) (dd:out.length+tn (k+1)≤A) (dj:A≤100000) (N:C.Ok (iO S (k+2) p out st).2)
  (ej:∀{w:World} {st:σ} {F:Nat→Prop} {v:Value} {out:List aC} (bv:fV C F0 wB w st F v out) (p:aC) (bw:p.wf) (bx:isNone p=true∨p.level=(k:Int)) (A:Nat) (dd:out.length+tn k≤A) (dj:A≤100000) (N:C.Ok (iO S (k+1) p out st).2),Calls prog 87 #[.iface ty (.pointer (some a)),.agg (aA p).toArray,v] w (bEr C F0 wB w F v A (iO S (k+1) p out st))):
  Calls prog 87 #[.iface ty (.pointer (some a)),.agg (aA p).toArray,v] w (bEr C F0 wB w F v A (iO S (k+2) p out st)):=by
 have co:¬p.level=0:=by omega
 have e0:iO S (k+2) p out=M.bind (fH S p) fun l=>tC (iO S (k+1)) p.level l (out++[p]):=by rw[iO,i9 (by rw[u];decide),i9 co]
 rw[e0] at N⊢;have cg:C.Ok (fH S p st).2:=dE (f:=fun l=>tC (iO S (k+1)) p.level l (out++[p])) (fun l=>vA (fun x o=>aGh C.bg (k+1) x o) _ _ _) N
 obtain⟨I,bd⟩:∃I,M.bind (fH S p) (fun l=>tC (iO S (k+1)) p.level l (out++[p])) st=I:=⟨_,rfl⟩
 rw[bd] at N⊢;obtain⟨ag,aa⟩:=nZ (w.alloc (.cells (aA p).toArray 51));have bz:Blk ag w.heap.size 51 (aA p):=by rw[aa];exact Blk.new w _ _
 have dk:Hid (fV C F0 wB ag st F v out):=hZ (by rw[aa];exact bv.below (bZ))
 have cp:Hid (Below w.heap.size w ag):=hZ (by rw[aa];exact bZ)
 have dl:=fun z a next Q=>aB (P:=prog) bz underlying51 rfl aU z a next Q
 have ek:=hZ bz;have ao:=hZ bv;clear bz;have em:=hZ u;have dm:=hZ N;have df:=hZ cg;have cq:=hZ bd;clear N cg bd e0 co u;go_enter func87,ntmps87;go_upto_region 1 with fail
 rw[show w.alloc (.cells (aA p).toArray 51)=ag from aa.symm];clear aa;go_wp2_with fail;refine(gL p bw ag).mono ?_;rintro e az ⟨rfl,ap⟩;rw[em.o];have be:=hZ (dk.o.below ap);have bf:=hZ (cp.o.trans (ap.mono cp.o.size));have bh:=hZ (ek.o.below ap);have dg:=fun z a next Q=>aB (P:=prog) bh.o underlying51 rfl aU z a next Q
 obtain⟨en,eo,dp,dq,dr⟩:=bMo aMh;have ep:out.length+1≤maxLen:=by unfold maxLen;omega
 have er:(out.length+1)*96≤140737488355328:=by omega
 have et:wB.heap.size≤(az.alloc (.cells (aA p).toArray 51)).heap.size:=by have:=be.o.at_.size;simp;omega
 have ds:=hZ (Blk.news (Blk.newAt (w:=az) 51 (aA p) rfl));have dt:=aJp az p;clear ap dl;go_upto_region 4 with(at_builtin;go_must (refine bOa _ rfl (.tmp 15) (.tmp 17) 31 rfl wB.heap.size 51 en (.agg #[.int .i64 0,.int .i64 0,.int .i64 0,.int .i64 0,.bool false,.int .i64 0,.int .i64 0,.int .i64 0,.int .u64 0,.int .u64 0,.int .u64 0,.int .u64 0]) 12 96 underlying31 eo dp dq dr rfl (Nat.succ_pos 11) v out.length (aF out) rfl (be.o.row.alloc _) ⟨az.heap.size,0,none⟩ 1 1 (aA p) rfl rfl ds.o (aX _) ep er et ?_;intro v2 ba ch aj _ ak))
 have bj:Hid (fV C F0 wB ba st F v2 (out++[p])):=hZ ((be.o.below (bZ)).grow ch aj ak);have aq:Hid (Blk ba w.heap.size 51 (aA p)):=hZ ((Mod.grownO (F:=fun k=>v.ownBlock=some k) aj (fun g ca=>ca)).blk (bh.o.alloc _) (fun K=>by have:=(ao.o.row.lt _ K).2;omega))
 have ar:Hid (Mod (fun k=>F k∨v.ownBlock=some k) w ba):=hZ (((Mod.below bf.o).alloc _).self (Mod.grownO (F:=fun k=>F k∨v.ownBlock=some k) aj (fun g ca=> .inr ca)))
 have du:Hid (¬v2.ownBlock=some w.heap.size):=hZ (fun e=>ak.elim (fun e2=>by rw[e2] at e;have:=(ao.o.row.lt _ e).2;omega) (fun e2=>by rw[e2] at e;simp only[i5,pG] at e;have:=bf.o.size;have:=bh.o.lt;omega))
 have cr:Hid (∀k,v2.ownBlock=some k→v.ownBlock=some k∨w.heap.size≤k):=hZ (fun k af=>ak.elim (fun e=> .inl (by rw[←e];exact af)) (fun e=>by rw[e] at af;simp only[i5] at af;right;have:=bf.o.size;simp only[pG] at af;omega))
 have ci:=fun z a next Q=>aB (P:=prog) aq.o underlying51 rfl aU z a next Q
 have ct:ba.cell? ⟨w.heap.size,6,none⟩=some (.int .i64 p.level):=aq.o.cell 6;clear ch aj ak dg dt;rw[bx] at ct;have ah:=hZ (uL bj.o.at_.1 p bw df.o);have bc:=hZ bx;have ez:((k:Int)+1 == 0)=false:=by simp;omega
 have fa:¬((k:Int)+1=0):=by omega
 rcases hlm:fH S p st with⟨r|l,cb⟩
 ·have c:=cq.o
  rw[M.bind_err hlm] at c;rw[hlm] at ah;have G:Hid ((Except.error r,cb)=I):=hZ c;clear c hlm;go_wp2_with fail;refine ah.o.mono ?_;rintro e H ⟨⟨rfl,ab⟩,Z⟩;have dv:((r:Int) != 0)=true:=by simpa using ab
  obtain⟨F2,ac,O,X⟩:=bj.o.step Z;have dw:=hZ ac;have bl:=iP nL rfl H;have bm:Hid (Mod (fun k=>F k∨v.ownBlock=some k) w H):=hZ (ar.o.self (X.mono (fun x _ D=> .inl D)))
  have bn:Hid (∀k,F2 k→F k∨w.heap.size≤k):=hZ (fun x D=>by
   by_cases bo:w.heap.size≤x
   ·exact .inr bo
   ·by_cases hF:F x
    ·exact .inl hF
    ·exact absurd D (O x (by have:=ar.o.size;omega) hF))
  clear ac O X Z ci;go_wp2_with fail;go_ret2;rw[←G.o];exact⟨F2,rfl,ab,dw.o.at_.below (bZ),bm.o.alloc _,bn.o⟩
 ·have c:=cq.o
  rw[M.bind_ok hlm] at c;rw[hlm] at ah;have dx:=hZ c;clear c hlm;go_wp2_with fail;refine ah.o.mono ?_;rintro e H ⟨⟨rfl,au,cu⟩,Z⟩;obtain⟨F2,ac,O,X⟩:=bj.o.step Z;have bl:=iP l au H;obtain⟨w4,av⟩:=nZ (H.alloc (.cells (aF l).toArray 246));have al:Below H.heap.size H w4:=by rw[av];exact bZ
  have cj:Blk w4 H.heap.size 246 (aF l):=by rw[av];exact Blk.new H _ _
  rw[←av] at bl;have dy:=fun z a next Q=>aB (P:=prog) (t:=246) cj underlying246 rfl (by rw[aQ];exact au▸sL) z a next Q
  have cv:¬F w.heap.size:=fun eu=>by have:=ao.o.at_.lt _ eu;omega
  have bm:Hid (Mod (fun k=>F k∨v.ownBlock=some k) w w4):=hZ ((ar.o.self (X.mono (fun x _ D=> .inl D))).trans' al)
  have bn:Hid (∀k,F2 k→F k∨w.heap.size≤k):=hZ (fun x D=>by
   by_cases bo:w.heap.size≤x
   ·exact .inr bo
   ·by_cases hF:F x
    ·exact .inl hF
    ·exact absurd D (O x (by have:=ar.o.size;omega) hF))
  have q:Hid (bIl C F0 F wB w w4 v A l k p 0 (out++[p]) cb I F2 v2):=hZ ⟨by omega,dx.o,ac.below al,(X.blk aq.o cv).below al,O _ aq.o.lt cv,fun K=>by
    rcases hv2:v2.ownBlock with _|g
    ·rw[hv2] at K;cases K
    ·rw[hv2] at K
     simp only[i5] at K;rcases cr.o g hv2 with h1|h1
     ·have:=(ao.o.row.lt _ h1).2;omega
     ·exact du.o (by rw[hv2,K]),bm.o,bn.o,cr.o,by rw[i7];simp only[tn] at dd;show out.length+1+(4-0)*tn k≤A;omega⟩
  have dz:=hZ cu;have bq:=hZ au;clear ac O X Z ci ct av al cj cu au ah;go_wp2_with fail;go_loopw [2,33] (fun ev cc wr=>∃(j:Nat) (Y:List aC) (s1:σ) (F1:Nat→Prop) (v1:Value),v1=ev∧cc= .int .i64 (j:Nat)∧j≤4∧Hid (bIl C F0 F wB w wr v A l k p j Y s1 I F1 v1)) (fun _ cc _=>4-(intOf cc).toNat)
  case atStart=>exact⟨0,out++[p],cb,F2,v2,rfl,rfl,by omega,q⟩
  case round=>
   clear q bl dy;obtain⟨j,Y,s1,F1,v1,ea,rfl,fb,q⟩:=hrel;subst ea;by_cases cd:j=4
   ·have ec:¬((j:Int)<4):=by omega
    have c:=q.o.eq;rw[cd,bNj (by rw[bq.o];exact d8 _)] at c
    have G:Hid ((Except.ok Y,s1)=I):=hZ c;clear c cd;go_wp2_with fail;go_ret2;rw[←G.o];exact⟨v1,F1,rfl,q.o.st,q.o.md,q.o.fF,q.o.fv,by have:=q.o.len;omega⟩
   ·have ec:((j:Int)<4):=by omega
    have aw:j<l.length:=by rw[bq.o];omega
    have cw:l.drop j=l[j]::l.drop (j+1):=bNh aw;have c:=q.o.eq;rw[cw,tC] at c;have ed:=aQa l j aw bq.o wr;have cx:=eX l[j] wr;have br:=dz.o l[j] (n5 aw);obtain⟨x,D⟩:=nZ (l[j]'aw);rw[←D] at ed cx br c;obtain⟨ce,ax⟩:=nZ (wr.alloc (.cells (aA x).toArray 51));have bs:Blk ce wr.heap.size 51 (aA x):=by rw[ax];exact Blk.new wr _ _
    have cy:Hid (Below wr.heap.size wr ce):=by rw[ax];exact hZ (bZ)
    rw[←ax] at cx;have dh:=fun z a next Q=>aB (P:=prog) bs underlying51 rfl aU z a next Q
    have cz:=hZ bs;have ee:=hZ c;have ck:Hid (tn k+(4-(j+1))*tn k=(4-j)*tn k):=hZ (by rw[show 4-j=(4-(j+1))+1 by omega,Nat.succ_mul,Nat.add_comm])
    have cl:Hid (∀y,y<w.heap.size→(F1 y∨v1.ownBlock=some y)→(F y∨v.ownBlock=some y)):=hZ (fun y hy h=>h.elim (fun h=>(q.o.fF y h).elim .inl (fun h=>by omega)) (fun h=>(q.o.fv y h).elim .inr (fun h=>by omega)))
    clear cw D ax bs c cd;go_wp2_with fail;refine(gL x br ce).mono ?_;rintro e w5 ⟨rfl,ay⟩;have ad:=hZ (cy.o.trans (ay.mono cy.o.size));have ef:w5.cell? ⟨wr.heap.size,6,none⟩=some (.int .i64 x.level):=(cz.o.below ay).cell 6;have fc:w5.cell? ⟨w.heap.size,6,none⟩=some (.int .i64 ((k:Int)+1)):=by rw[←bc.o];exact(q.o.bb.below ad.o).cell 6
    have ew:=fun z a next Q=>aB (P:=prog) (cz.o.below ay) underlying51 rfl aU z a next Q
    have da:=hZ (q.o.st.below ad.o);have am:=hZ (q.o.md.trans' ad.o);clear ay dh;have c:=ee.o;by_cases u:isNone x=true
    case' pos=>
     rw[u];rw[i9 (fun h=>h.1 u)] at c
     have cf:isNone x=true∨x.level=(k:Int):= .inl u;clear u
    case' neg=>
     have bt:isNone x=false:=by simpa using u
     rw[bt];by_cases ae:x.level=(k:Int)
     case' pos=>
      rw[i9 (fun h=>h.2 (by rw[bc.o,ae];omega))] at c
      have cf:isNone x=true∨x.level=(k:Int):= .inr ae;rw[ae] at ef;clear u bt ae
     case neg=>
      rw[i6 ⟨u,by rw[bc.o];omega⟩] at c
      have G:Hid ((Except.error 3,s1)=I):=hZ c;have fd:(x.level != (k:Int))=true:=by simpa using ae
      clear c u bt;go_wp2_with fail;go_ret2;rw[←G.o];exact⟨F1,rfl,by decide,da.o.at_,am.o,q.o.fF⟩
    all_goals
     have db:=hZ c;have cm:C.Ok (iO S (k+1) x Y s1).2:=dE (f:=fun o=>tC (iO S (k+1)) p.level (l.drop (j+1)) o) (fun o=>vA (fun x o=>aGh C.bg (k+1) x o) _ _ _) (by rw[c];exact dm.o)
     have an:=hZ (ej da.o x br cf (Y.length+tn k) (d8 _) (by have:=q.o.len;have:=ck.o;omega) cm)
     clear c cm;rcases hA:iO S (k+1) x Y s1 with⟨r|o2,s6⟩
     ·rw[hA] at an
      have c:=db.o;rw[M.bind_err hA] at c;have G:Hid ((Except.error r,s6)=I):=hZ c;clear c hA;go_wp2_with fail;refine an.o.mono ?_;rintro e de ⟨ai,rfl,ab,cn,R,U⟩;have dv:((r:Int) != 0)=true:=by simpa using ab
      have di:=hZ cn;have eg:=hZ (am.o.trans R cl.o);have eh:Hid (∀k,ai k→F k∨w.heap.size≤k):=hZ (fun y hy=>(U y hy).elim (q.o.fF y) (fun h=> .inr (by have:=am.o.size;omega)))
      clear cn R U;go_wp2_with fail;go_ret2;rw[←G.o];exact⟨ai,rfl,ab,di.o,eg.o,eh.o⟩
     ·rw[hA] at an
      have c:=db.o;rw[M.bind_ok hA] at c;have G:=hZ c;clear c hA;go_wp2_with fail;refine an.o.mono ?_;rintro e de ⟨v6,ai,rfl,dc,R,U,bu,ex⟩;have ey:w.heap.size<w5.heap.size:=(q.o.bb.below ad.o).lt;have ei:Hid (bIl C F0 F wB w de v A l k p (j+1) o2 s6 I ai v6):=hZ ⟨by omega,G.o,dc,R.blk (q.o.bb.below ad.o) (fun h=>h.elim q.o.nf q.o.nv),fun h=>(U _ h).elim q.o.nf (fun h=>by omega),fun h=>(bu _ h).elim q.o.nv (fun h=>by omega),am.o.trans R cl.o,fun y hy=>(U y hy).elim (q.o.fF y) (fun h=> .inr (by omega)),fun y hy=>(bu y hy).elim (q.o.fv y) (fun h=> .inr (by omega)),by have:=q.o.len;have:=ck.o;omega⟩
      clear dc R U bu;go_wp2_with fail;refine⟨⟨j+1,o2,s6,ai,v6,rfl,by rw[Int.natCast_add];rfl,by omega,ei⟩,?_⟩
      simp[intOf];omega
theorem bGw:∀(k:Nat) (H:k≤3) {wB w:World} {st:σ} {F0 F:Nat→Prop} {v:Value} {out:List aC} (j:fV C F0 wB w st F v out) (p:aC) (q:p.wf) (z:isNone p=true∨p.level=(k:Int)) (h:Nat) (A:out.length+tn k≤h) (u:h≤100000) (D:C.Ok (iO S (k+1) p out st).2),
  Calls prog 87 #[.iface ty (.pointer (some a)),.agg (aA p).toArray,v] w (bEr C F0 wB w F v h (iO S (k+1) p out st)):=by
 intro k
 induction k with
 |zero=>
  intro H wB w st F0 F v out j p q z h A u D;by_cases c:isNone p=true
  ·have e:iO S (0+1) p out=M.ret out:=by rw[iO,i6 c]
   rw[e];exact aNi j p q c h (by omega)
  ·have G:p.level=0:=z.resolve_left c
   have e:iO S (0+1) p out=M.ret (out++[p]):=by rw[iO,i9 c,i6 G]
   rw[e];exact bDe j p q (by simpa using c) G h A u
 |succ k I=>
  intro H wB w st F0 F v out j p q z h A u D;by_cases c:isNone p=true
  ·have e:iO S (k+1+1) p out=M.ret out:=by rw[iO,i6 c]
   rw[e];exact aNi j p q c h (by omega)
  ·exact bCz k (by omega) j p q (by simpa using c) (by have:=z.resolve_left c;omega) h A u D (I (by omega))
def aUo (C:bA S ty a) (w:World) (F:Nat→Prop):Except Nat (List aC)×σ→Ending→World→Prop
 |(.ok out,st),e,w'=>∃v' F',e= .returned (.tuple #[v',.int .i64 0])∧fV C F w w' st F' v' out
 |(.error n,st),e,w'=>e= .returned (.tuple #[.slice none 0 0,.int .i64 (n:Nat)])∧n≠0∧C.Step F st w w'
theorem bKf (k:Nat) (h:k≤3):tn k≤85:=by
 have:k=0∨k=1∨k=2∨k=3:=by omega
 rcases this with rfl|rfl|rfl|rfl<;>decide
theorem aUs {st:σ} (h:C.Is w st F) (n:aM) (ab:n.wf) (k:Nat) (N:k≤3) (O:isNone n.root=true∨n.root.level=(k:Int)) (H:C.Ok (iO S (k+1) n.root [] st).2):
  Calls prog 44 #[.iface ty (.pointer (some a)),.agg (aN n).toArray] w (aUo C w F (iO S (k+1) n.root [] st)):=by
 obtain⟨j,c⟩:=nZ (w.alloc (.cells (aN n).toArray 53));have A:Blk j w.heap.size 53 (aN n):=by rw[c];exact Blk.new w _ _
 have q:bB w j:=by rw[c];exact bZ
 have I:=(bA.At.start h).below q;have R:=hZ (bGw (C:=C) k N (F0:=F) (wB:=w) (w:=j) (st:=st) (F:=F) (v:= .slice none 0 0) (out:=[]) ⟨I,⟨rfl,.inl ⟨rfl,rfl⟩⟩,fun g ac=>by cases ac⟩ n.root ab.root O (tn k) (by simp) (by have:=bKf k N;omega) H)
 have ag:=dP (t:=51) (oJ A) underlying51 rfl aU;have af:=hZ q;have ah:=hZ A;have ai:=hZ h;obtain⟨D,U⟩:∃D,iO S (k+1) n.root [] st=D:=⟨_,rfl⟩;rw[U] at R⊢;clear A q I H U O;go_in;go_upto_region 1 with fail
 rw[show w.alloc (.cells (aN n).toArray 53)=j from c.symm];clear c;go_wp21;refine R.o.mono ?_;rcases D with⟨r|out,s1⟩
 ·rintro e ad ⟨F1,rfl,Y,G,u,z⟩
  have Z:=hZ G;clear G u z;go_wp21;go_ret2;exact⟨rfl,Y,Z.o.fin⟩
 ·rintro e ad ⟨v1,F1,rfl,K,u,z,aa,X⟩
  have ae:=hZ K;clear K u z aa X;go_wp21;go_ret2;exact⟨v1,F1,rfl,ae.o⟩
end
end
theorem sZ (D:o.guard=none) (s x:Operand) (t:TypeId)
  (G:o.op= .call {callee:= .builtin .append,args:=#[s,x],argTypes:=#[t,t]})
  (base:Nat) (e:TypeId) (i:TypeInfo) (z:Value) (size j:Nat) (ht:P.underlying t=some (.slice e)) (H:P.info? e=some i) (aa:i.zero=some z)
  (O:i.size=size) (U:i.bytes=j) (X:z.cells.size=size) (Y:0<size)
  (v:Value) (n:Nat) (xs:List Value) (I:a.eval s=v) (q:w.ownsRow base e size v n xs)
  (A:Option Addr) (m c:Nat) (news:List Value) (K:a.eval x= .slice A m c) (hr:RSl w size A m c news) (h1:∀u∈news,u.oneCell'=true)
  (Z:n+m≤maxLen) (N:(n+m)*j≤140737488355328) (R:base≤w.heap.size)
  (h:∀v' w',w'.ownsRow base e size v' (n+m) (xs++news)→w.grownBy w' v.ownBlock→(v'.ownBlock=v.ownBlock∨v'.ownBlock=some w.heap.size)→wpList P ops Q rest (a.put o.dst v') w'):wpList P ops Q (o::rest) a w:=by
 cases A with
 |none=>
  have ab:=hr.2.2.2.1 rfl;have ac:m=0:=by have:=hr.2.1;omega
  subst ab ac;have ad:=bLs (by have:=hr.1;simpa using this)
  subst ad;refine wpList_append_own_none D s x t G base e i size ht H v n xs I q K (h v w ?_ (World.grownBy.refl _ _) (.inl rfl));simpa using q
 |some ae=>
  exact bOa w D s x t G base e i z size j ht H aa O U X Y v n xs I q ae m c news K hr.1 (RSl.news hr) h1 Z N R (fun v' w' a1 a2 _ af=>h v' w' a1 a2 af)
section
variable {σ:Type} {S:StF σ} {ty:TypeId} {a:Addr} {C:bA S ty a}
theorem aHy (h:w.ownsRow b e k v n xs) (u:b'≤b):w.ownsRow b' e k v n xs:=by
 obtain⟨h1,h2⟩:=h;refine⟨h1,?_⟩;rcases h2 with h2|⟨g,cap,c,j,z,q⟩
 ·exact .inl h2
 ·exact .inr ⟨g,cap,c,j,by omega,q⟩
theorem At.join {s0 c:σ} (h:C.At F0 s0 wB wr F1) (k:C.At F1 c wr wc F2):C.At F0 c wB wc F2:=
 ⟨k.1,h.2.1.trans k.2.1 (fun x j q=>(h.2.2 x q).resolve_right (by omega)),fun x j=>by
  rcases k.2.2 x j with h1|h1
  ·exact h.2.2 x h1
  ·exact .inr (l6 h.size h1)⟩
theorem fV.over {s0 c:σ} (h:C.At F0 s0 wB wr F1) (k:fV C F1 wr wc c F2 v out):fV C F0 wB wc c F2 v out:=
 ⟨At.join h k.at_,aHy k.row h.size,k.dis⟩
theorem fV.app {st:σ} {p:List aC} (h:fV C F0 wB w st F v out) (D:w'.ownsRow wB.heap.size 51 12 v' (out.length+p.length) (aF out++aF p)) (j:w.grownBy w' v.ownBlock) (G:v'.ownBlock=v.ownBlock∨v'.ownBlock=some w.heap.size):fV C F0 wB w' st F v' (out++p):=by
 refine⟨⟨C.keep h.at_.1 j.size (fun x u=>j.block x (h.at_.lt x u) (fun e=>h.dis x e.symm u)) (fun g c e fr z ht=>by
  rw[j.block g (i8.1 z).1 (fun e2=>by
   obtain⟨I,K,A⟩:=vZ h.row e2.symm;rw[z] at A;simp only[i5,n7] at A;exact(C.nty e ht).2.2.1 A.2.1)]
  exact z),?_,h.at_.2.2⟩,?_,?_⟩
 ·refine h.at_.2.1.trans (Mod.grownO (F:=fun k=>v.ownBlock=some k) j (fun g j=>j)) (fun x u H=>?_)
  have:=(h.row.lt x H).1;omega
 ·rw[i7,rR]
  exact D
 ·intro g q hF
  rcases G with e|e
  ·exact h.dis g (by rw[←e];exact q) hF
  ·rw[e] at q
   have:=h.at_.lt g hF;simp only[i5] at q;omega
end
section
attribute [local go_sem ↓] bU bR eI dL rG
theorem aTf (v:Value) (w:World):Calls prog 88 #[v,.agg (aN nD).toArray] w fun e w'=>e= .returned (.tuple #[.slice none 0 0,(0:Int)])∧bB w w':=by
 obtain⟨h,c⟩:=nZ (w.alloc (.cells (aN nD).toArray 53));have j:Blk h w.heap.size 53 (aN nD):=by rw[c];exact Blk.new w _ _
 have q:Hid (bB w h):=hZ (by rw[c];exact bZ)
 have c0:cZ h w.heap.size 0 (0:Int):=j.cell 0;clear j;go_in;go_upto_region 1 with fail
 rw[show w.alloc (.cells (aN nD).toArray 53)=h from c.symm];clear c;go_wp21;refine bNb 1 ?_;rw[bMl];go_wp21;go_ret2;exact⟨rfl,q.o⟩
section
variable {σ:Type} {S:StF σ} {ty:TypeId} {a:Addr} {C:bA S ty a}
theorem aYf {st:σ} (h:C.Is w st F) (I:C.Ok st):
  Calls prog 45 #[.iface ty (.pointer (some a)),.agg (aN nD).toArray] w (aUo C w F (.ok [],st)):=by
 obtain⟨c,j⟩:=nZ (w.alloc (.cells (aN nD).toArray 53));have z:Hid (Blk c w.heap.size 53 (aN nD)):=hZ (by rw[j];exact Blk.new w _ _)
 have D:bB w c:=by rw[j];exact bZ
 have q:=(bA.At.start h).below D;have K:Hid (¬F w.heap.size):=hZ (fun Z=>by have:=C.lt h _ Z;omega)
 have A:iO S 1 pD [] st=(.ok [],st):=by unfold iO;rw[i6 iZ];rfl
 have N:Hid (Calls prog 44 #[.iface ty (.pointer (some a)),.agg (aN nD).toArray] c (aUo C c F (.ok [],st))):=hZ (by
  have:=aUs (C:=C) q.1 nD aNd 0 (by omega) (.inl iZ) (by rw[show nD.root=pD from rfl,A];exact I)
  rw[show nD.root=pD from rfl,A] at this;exact this)
 have O:=hZ (aTf (.iface ty (.pointer (some a))));have R:=hZ q;have U:=aB z.o underlying53 rfl cQ;clear D q A;go_in;go_upto_region 1 with fail
 rw[show w.alloc (.cells (aN nD).toArray 53)=c from j.symm];clear j;go_wp2_with fail;refine N.o.mono ?_;rintro e aa ⟨v1,F1,rfl,u⟩;have G:=u.at_.2.1.blk z.o K.o;have X:=hZ (fV.over R.o u);have U:=aB G underlying53 rfl cQ;clear u G z;go_wp2_with fail;refine(O.o aa).mono ?_;rintro e ab ⟨rfl,H⟩;have Y:=hZ (X.o.below H);clear H;go_wp2_with fail;refine bNb 1 ?_;rw[bMl];go_wp2_with fail;go_ret2;exact⟨v1,F1,rfl,Y.o⟩
end
end
section
open Go.RowKit Go.MapKept
variable {bi lv p0 p1 p10 p11 p2 p3 p5 p6 p7 p8 p9 s1 s3 secs:Int} {a1 a2 b b' base bb cap d e e0 e2 eb g g0 g1 g2 ga i k kd m mb n off pb sb sz till tx tx':Nat} {a:Act} {o:Oper} {W w w' w5 wB wc wr:World} {bk wk wk' ws ws':Option Addr} {f:Nat→Nat} {sv v v' va vb vc vg vl:Value} {gs:Gs} {p:aC} {cs cs0 cs2 xs zs:List Value} {pl rs rs' st:List (Nat×Nat)} {next:Act→World→Prop} {F F0 F1 F2 T:Nat→Prop} {after:Array Edge} {rest:List Oper} {ms:List MT} {x x' x0:aK} {dn' p4:Bool} {S:dK} {C:World→Prop} {E el:Nat→aC} {os:Array Obj} {fr:Nat×Nat} {es:List Nat} {s t text:Bs} {dst:Option Tmp} {r:Option Nat} {L:List (aC×Bs)} {nd nd':aM} {guard:Option (Nat×Bool)} {y:Operand} {J:Nat→World→Prop} {l out:List aC} {P:Program} {Q:Exit→Act→World→Prop} {ops:Array Oper} {sn:SN} {fn:Func} {V:kE}
abbrev eH:=Int×Int
def iG (p:eH):List Value:=[.int .i64 p.1,.int .i64 p.2]
theorem aHl (m n:eH) (x y:Operand) (W:World):
  (do eqGuard .eql 46 x y (.agg (iG m).toArray) (.agg (iG n).toArray);binOp .eql 46 (.agg (iG m).toArray) (.agg (iG n).toArray):Sem Value).run prog W= .ok (.bool (decide (m=n))) W:=by
 obtain⟨c,h⟩:=m;obtain⟨j,q⟩:=n;simp only[Prod.mk.injEq,iG];by_cases h1:c=j
 ·by_cases h2:h=q
  ·subst h1 h2
   go_simp
  ·have u:(h == q)=false:=by simpa using h2
   go_simp
 ·have u:(c == j)=false:=by simpa using h1
  go_simp
def lR:Nat→List eH→List MapEntry
 |_,[]=>[]
 |i,m::r=>⟨.agg (iG m).toArray,.bool true,i⟩::lR (i+1) r
theorem xN:∀(ks:List eH) (i:Nat) (m:eH),lR i (ks++[m])=lR i ks++[⟨.agg (iG m).toArray,true,i+ks.length⟩]
 |[],_,_=>rfl
 |k::r,i,m=>by
  show _::lR (i+1) (r++[m])=_
  rw[xN r (i+1) m];simp[lR,Nat.add_comm 1,bMc]
theorem aJz:∀(ks:List eH) (i j:Nat) (h:j<ks.length),(lR i ks)[j]?=some ⟨.agg (iG ks[j]).toArray,true,i+j⟩
 |[],_,_,h=>by simp at h
 |k::r,i,0,_=>by simp[lR]
 |k::r,i,j+1,h=>by
  have:=aJz r (i+1) j (by simpa using h)
  simp only[lR,m9,this,List.getElem_cons_succ];simp[bMc,Nat.add_comm 1]
def qG (w:World) (g:Nat) (ks:List eH):Prop:=w.heap[g]?=some (.map (lR 0 ks).toArray ks.length)
theorem qG.lt {ks:List eH} (h:qG w g ks):g<w.heap.size:=(i8.1 h).1
theorem qG.below {ks:List eH} (h:qG w g ks) (c:bB w w'):qG w' g ks:=by
 unfold qG;rw[c.block g h.lt];exact h
theorem qG.new (w:World):qG (w.alloc (.map #[] 0)) w.heap.size []:=heap_alloc_new w _
def aKo (ks:List eH) (m:eH):List eH:=if m∈ks then ks else ks++[m]
theorem bAh (ks:List eH) (m x:eH):x∈aKo ks m↔x∈ks∨x=m:=by
 unfold aKo;split
 ·rename_i h
  exact⟨.inl,fun c=>c.elim id (fun e=>e▸h)⟩
 ·simp
theorem sJ (e:Bool) (m:eH) (W:World):(Instr.checkKey e 10000 46 (.agg (iG m).toArray)).run prog W= .ok () W:=by
 obtain⟨b,g⟩:=m;have c:∀(x:Int),(Instr.checkKey e 9999 3 x).run prog W= .ok () W:=fun x=>run_checkKey (k:=x) underlying3 rfl e 9998
 rw[show(10000:Nat)=9999+1 from rfl,Instr.checkKey,bLr,bNy underlying46 W];simp[go_sem,iG,c]
theorem aCy (m n:eH) (W:World):(Op.equal 46 (.agg (iG m).toArray) (.agg (iG n).toArray)).run prog W= .ok (decide (m=n)) W:=by
 have h:=aHl m n (.const undef) (.const undef) W;rw[bLr,run_eqGuard_agg _ _ _ _ _ _ _ (by kernel_rfl)] at h
 simp only[y7,binOp] at h;rw[bLr] at h;generalize (Op.equal 46 (.agg (iG m).toArray) (.agg (iG n).toArray)).run prog W=r at h
 cases r with
 |ok b w'=>
  simp at h;rw[h.1,h.2]
 |halt x w'=>simp[Result.andThen] at h
theorem tM (m:eH) (W:World):∀(ks:List eH) (i j:Nat),(Instr.findAsking 46 (.agg (iG m).toArray) (lR i ks) j).run prog W= .ok (if m∈ks then some (j+ks.idxOf m,true) else none) W
 |[],i,j=>by simp[lR,Instr.findAsking]
 |k::r,i,j=>by
  rw[lR,Instr.findAsking,bLr,aCy];simp only[y7];by_cases h:m=k
  ·subst h
   simp
  ·have u:(k == m)=false:=by simpa using fun e=>h e.symm
   rw[bMj h];simp only[Bool.false_eq_true,if_false];rw[tM m W r (i+1) (j+1)];by_cases c:m∈r
   ·have q:m∈k::r:=bMg _ c
    rw[i6 c,i6 q,List.idxOf_cons,u,cond_false];simp[bMc,Nat.add_comm 1]
   ·have q:¬m∈k::r:=by simp[h,c]
    rw[i9 c,i9 q]
theorem pL (m:eH) (ks:List eH) (W:World):(Instr.findKey 46 (.agg (iG m).toArray) (lR 0 ks)).run prog W= .ok (if m∈ks then some (ks.idxOf m,true) else none) W:=by
 unfold Instr.findKey;rw[bLr,bNy underlying46 W];simp only[y7]
 cases ks with
 |nil=>simp[lR,Instr.findNow]
 |cons k r=>
  have:=tM m W (k::r) 0 0;rw[r9] at this;simpa[lR,Instr.findNow,Instr.sameNow] using this
theorem aBd {ks:List eH} (h:qG w g ks) (m:eH):(Instr.lookup 179 (.map (some g)) (.agg (iG m).toArray) false).run prog w= .ok (.bool (decide (m∈ks))) w:=by
 unfold Instr.lookup;rw[bLr,bNy underlying179 w];simp only[y7];rw[bLr,MapKept.run_getObj_map h];simp only[y7];simp only[bLr,Sem.run_pure,y7,sJ,pL];by_cases c:m∈ks
 ·simp[c]
 ·have j:(zeroValue 4).run prog w= .ok false w:=by kernel_rfl
  simp[c,j]
def aKq (w:World) (g:Nat) (ks:List eH):World:={w with heap:=w.heap.setIfInBounds g (.map (lR 0 ks).toArray ks.length)}
theorem bFd {ks ks':List eH} (h:qG w g ks):qG (aKq w g ks') g ks':=by
 unfold qG aKq
 show(w.heap.setIfInBounds g _)[g]?=_
 rw[Array.getElem?_setIfInBounds_self_of_lt h.lt]
theorem aTs (w:World) (g:Nat) (ks:List eH):w.grownBy (aKq w g ks) (some g):=⟨rfl,rfl,rfl,by simp[aKq],fun k h c=>by
 show(w.heap.setIfInBounds g _)[k]?=_
 rw[Array.getElem?_setIfInBounds_ne (fun e=>c (by rw[e]))]⟩
theorem aAb {ks:List eH} (h:qG w g ks) (m:eH):(Instr.mapUpdate 179 (.map (some g)) (.agg (iG m).toArray) true).run prog w= .ok () (aKq w g (aKo ks m)):=by
 unfold Instr.mapUpdate;rw[bLr,bNy underlying179 w];simp only[y7];rw[bLr,MapKept.run_getObj_map h];simp only[y7];simp only[bLr,Sem.run_pure,y7,sJ,pL];by_cases c:m∈ks
 ·rw[i6 c]
  have u:=List.idxOf_lt_length_of_mem c;have q:=aJz ks 0 (ks.idxOf m) u;rw[List.getElem_idxOf u,r9] at q;have D:∀v:Value,v= .agg (iG m).toArray→(Instr.keyThatStays v (.agg (iG m).toArray)).run prog w= .ok (.agg (iG m).toArray) w:=by
   rintro _ rfl;obtain⟨b,z⟩:=m;have G:Instr.sameBits 10000 (.agg (iG (b,z)).toArray) (.agg (iG (b,z)).toArray)=true:=by
    rw[show(10000:Nat)=9999+1 from rfl];simp[Instr.sameBits,iG]
   unfold Instr.keyThatStays;rw[i6 G];rfl
  have H:((((lR 0 ks).toArray[ks.idxOf m]?).map (·.key)).getD (.agg (iG m).toArray))= .agg (iG m).toArray:=by
   rw[n9,q];rfl
  have A:(lR 0 ks).toArray.modify (ks.idxOf m) (fun e=>{e with key:= .agg (iG m).toArray,val:= .bool true})=(lR 0 ks).toArray:=by
   apply Array.ext_getElem?;intro j;rw[Array.getElem?_modify];by_cases e:ks.idxOf m=j
   ·subst e
    rw[i6 rfl,n9,q];rfl
   ·rw[i9 e]
  simp only[D _ H,bLr,y7,A];rw[MapKept.run_setObj_map _ h];unfold aKq aKo;rw[i6 c]
 ·rw[i9 c]
  simp only[];rw[MapKept.run_setObj_map _ h];unfold aKq aKo;rw[i9 c,xN,r9];simp
end
def aGa (p:aC):eH:=(p.ag,p.aa)
theorem aZr (p:aC) (mb c:Nat) (ks:List eH) (W:World) (G:Blk W mb 179 [.map (some c)]) (u:qG W c ks):
  Calls prog 91 #[.agg (aA p).toArray,.pointer (some mb)] W fun e w'=>e= .returned (.bool (decide (aGa p∈ks)))∧qG w' c (aKo ks (aGa p))∧Mod (fun k=>k=c) W w':=by
 obtain⟨h,z⟩:=nZ (W.alloc (.cells (aA p).toArray 51));have A:bB W h:=by rw[z];exact bZ
 have D:=u.below A;have K:=G.below A;have H:Blk h W.heap.size 51 (aA p):=by rw[z];exact Blk.new W _ _
 have Y:mb≠c:=fun e=>by
  subst e;unfold Blk at G;unfold qG at u;rw[G] at u;cases u
 obtain⟨j,q,bg,N,two,size,level,I,s0,s1,O,s3⟩:=p;have k0:cZ h W.heap.size 0 j:=H.cell 0;have k1:cZ h W.heap.size 1 q:=H.cell 1;have Z:cZ h mb 0 (.map (some c)):=K.cell 0;have aa:(Instr.lookup 179 (.map (some c)) (.agg #[j,q]) false).run prog h= .ok (.bool (decide ((j,q)∈ks))) h:=aBd D (j,q);have e2:(Instr.mapUpdate 179 (.map (some c)) (.agg #[j,q]) (.bool true)).run prog h= .ok () (aKq h c (aKo ks (j,q))):=aAb D (j,q);have U:=hZ (bFd D (ks':=aKo ks (j,q)));have X:Hid (Mod (fun k=>k=c) W (aKq h c (aKo ks (j,q)))):=hZ ((Mod.below A).self (Mod.grown (aTs h c _) rfl))
 show Calls _ _ #[.agg #[j,q,bg,N,.bool two,size,level,I,.int .u64 s0,.int .u64 s1,.int .u64 O,.int .u64 s3],_] _ _
 have R:W.alloc (.cells #[j,q,bg,N,.bool two,size,level,I,.int .u64 s0,.int .u64 s1,.int .u64 O,.int .u64 s3] 51)=h:=z.symm;clear z u G D K H A;go_in;go_upto_region 1 with fail
 clear R;go_wp21;go_ret;exact⟨rfl,U.o,X.o⟩
section
open Go.RowKit Go.Sort
variable {bi lv p0 p1 p10 p11 p2 p3 p5 p6 p7 p8 p9 s1 s3 secs:Int} {a1 a2 b b' base bb cap d e e0 e2 eb g g0 g1 g2 ga i k kd m mb n off pb sb sz till tx tx':Nat} {a:Act} {o:Oper} {W w w' w5 wB wc wr:World} {bk wk wk' ws ws':Option Addr} {f:Nat→Nat} {sv v v' va vb vc vg vl:Value} {gs:Gs} {p:aC} {cs cs0 cs2 xs zs:List Value} {pl rs rs' st:List (Nat×Nat)} {next:Act→World→Prop} {F F0 F1 F2 T:Nat→Prop} {after:Array Edge} {rest:List Oper} {ms:List MT} {x x' x0:aK} {dn' p4:Bool} {S:dK} {C:World→Prop} {E el:Nat→aC} {os:Array Obj} {fr:Nat×Nat} {es:List Nat} {s t text:Bs} {dst:Option Tmp} {r:Option Nat} {L:List (aC×Bs)} {nd nd':aM} {guard:Option (Nat×Bool)} {y:Operand} {J:Nat→World→Prop} {l out:List aC} {P:Program} {Q:Exit→Act→World→Prop} {ops:Array Oper} {sn:SN} {fn:Func} {V:kE}
def Gw (W w':World):Prop:=∃q os,w'=grow (W.drewN q) os
theorem Gw.refl (W:World):Gw W W:=⟨0,#[],by rw[grow_empty];rfl⟩
theorem Gw.alloc (h:Gw W w') (o:Obj):Gw W (w'.alloc o):=by
 obtain⟨q,os,rfl⟩:=h;exact⟨q,os++#[o],by rw[alloc_eq_grow,grow_grow]⟩
theorem Gw.drew (h:Gw W w'):Gw W w'.drew:=by
 obtain⟨q,os,rfl⟩:=h;exact⟨q+1,os,rfl⟩
theorem Gw.trans {a b c:World} (h:Gw a b) (k:Gw b c):Gw a c:=by
 obtain⟨q,os,rfl⟩:=h;obtain⟨u,j,rfl⟩:=k;exact⟨q+u,os++j,by simp[World.drewN,grow,bMc]⟩
def aLn (x y z:Int):Int:=if x=0 then if y=0 then z else y else x
attribute [local go_sem ↓] Go.wp_at_zero Go.wp_at_succ
theorem bFy (x y z:Int) (g cap:Nat) (w:World) (h0:w.cell? ⟨g,0,none⟩=some (.int .i64 x)) (h1:w.cell? ⟨g,1,none⟩=some (.int .i64 y)) (h2:w.cell? ⟨g,2,none⟩=some (.int .i64 z)):
  Calls prog 156 #[.slice (some ⟨g,0,none⟩) 3 cap] w fun e w'=>e= .returned (.int .i64 (aLn x y z))∧w=w':=by
 by_cases h:x=0
 ·subst h
  by_cases hy:y=0
  ·subst hy
   by_cases j:z=0
   ·subst j
    go_in;go_wp21;refine bNb 4 ?_;rw[bMl];go_wp21;rw[bMl];go_wp21;rw[bMl];go_wp21;rw[bMl];go_wp21;go_ret;exact⟨rfl,rfl⟩
   ·have c:Hid (aLn 0 0 z=z):=rfl
    go_in;go_wp21;refine bNb 3 ?_;rw[bMl];go_wp21;rw[bMl];go_wp21;rw[bMl];go_wp21;go_ret;exact⟨by rw[c.o];rfl,rfl⟩
  ·have c:Hid (aLn 0 y z=y):=by show _=_;unfold aLn;rw[i6 rfl,i9 hy]
   go_in;go_wp21;refine bNb 2 ?_;rw[bMl];go_wp21;rw[bMl];go_wp21;go_ret;exact⟨by rw[c.o];rfl,rfl⟩
 ·have c:Hid (aLn x y z=x):=by show _=_;unfold aLn;rw[i9 h]
  go_in;go_wp21;refine bNb 1 ?_;rw[bMl];go_wp21;go_ret;exact⟨by rw[c.o];rfl,rfl⟩
def bEc (x y:aC):Int:=aLn (jH x.birth y.birth) (jH x.ag y.ag) (jH x.aa y.aa)
def lV (x y:aC):Bool:=decide (bEc x y<0)
theorem aIv (x y:aC) (w:World):Calls prog 94 #[.agg (aA x).toArray,.agg (aA y).toArray] w fun e w'=>e= .returned (.bool (lV x y))∧Gw w w':=by
 obtain⟨r0,z⟩:∃r,r=jH x.birth y.birth:=⟨_,rfl⟩;obtain⟨r1,A⟩:∃r,r=jH x.ag y.ag:=⟨_,rfl⟩;obtain⟨r2,D⟩:∃r,r=jH x.aa y.aa:=⟨_,rfl⟩;have au:Hid (lV x y=decide (aLn r0 r1 r2<0)):=hZ (by unfold lV bEc;rw[z,A,D])
 obtain⟨G,H,X,Y,ae,xs,af,I,x0,ah,ai,aj⟩:=x;obtain⟨N,O,Z,ab,ak,al,am,R,an,y1,y2,ao⟩:=y;dsimp only at z A D;have ba:Hid (∀W,Calls prog 157 #[I,R] W fun e w'=>e= .returned r0∧W=w'):=hZ (fun W=>by rw[z];exact lM _ _ W)
 have bc:Hid (∀W,Calls prog 157 #[G,N] W fun e w'=>e= .returned r1∧W=w'):=hZ (fun W=>by rw[A];exact lM _ _ W)
 have bd:Hid (∀W,Calls prog 157 #[H,O] W fun e w'=>e= .returned r2∧W=w'):=hZ (fun W=>by rw[D];exact lM _ _ W)
 clear z A D;rw[au.o];clear au;obtain⟨av,ac⟩:∃c:List Value,c=[.int .i64 G,.int .i64 H,.int .i64 X,.int .i64 Y,.bool ae,.int .i64 xs,.int .i64 af,.int .i64 I,.int .u64 x0,.int .u64 ah,.int .u64 ai,.int .u64 aj]:=⟨_,rfl⟩;obtain⟨aw,ad⟩:∃c:List Value,c=[.int .i64 N,.int .i64 O,.int .i64 Z,.int .i64 ab,.bool ak,.int .i64 al,.int .i64 am,.int .i64 R,.int .u64 an,.int .u64 y1,.int .u64 y2,.int .u64 ao]:=⟨_,rfl⟩
 show Calls _ _ #[.agg #[G,H,X,Y,ae,xs,af,I,.int .u64 x0,.int .u64 ah,.int .u64 ai,.int .u64 aj],.agg #[N,O,Z,ab,ak,al,am,R,.int .u64 an,.int .u64 y1,.int .u64 y2,.int .u64 ao]] _ _
 obtain⟨U,u⟩:=nZ ((w.alloc (.cells av.toArray 51)).alloc (.cells aw.toArray 51));have ax:Hid (Blk U w.heap.size 51 av):=hZ (by rw[u];exact(Blk.new w _ _).alloc _)
 have ay:Hid (Blk U (w.heap.size+1) 51 aw):=hZ (by rw[u];exact Blk.newAt _ _ (by simp))
 have az:Hid (Gw w U):=hZ (by rw[u];exact((Gw.refl w).alloc _).alloc _)
 rw[ac,ad] at u;rw[ac] at ax;rw[ad] at ay;clear ac ad;go_in;go_upto_region 1 with fail
 rw[←u];clear u;have ap:=hZ (Blk.new U 3 [r0,r1,r2]);refine l7 (S:=fun w'=>Blk w' w.heap.size 51 [G,H,X,Y,ae,xs,af,I,.int .u64 x0,.int .u64 ah,.int .u64 ai,.int .u64 aj]∧Blk w' (w.heap.size+1) 51 [N,O,Z,ab,ak,al,am,R,.int .u64 an,.int .u64 y1,.int .u64 y2,.int .u64 ao]) (by kernel_rfl) ⟨ax.o,ay.o⟩ (fun bo=>?_)
 refine aE 0 ?_;refine sB (i:=1) (v:=?vr1) (hy:=?yr1) (h:=?_)
 case yr1=>intro w j;(try dsimp only at j);go_simp;first|(rw[show w.cell? _=_ from Blk.cell j.1 7];rfl)|rfl
 refine aE 2 ?_;refine sB (i:=3) (v:=?vr3) (hy:=?yr3) (h:=?_)
 case yr3=>intro w j;(try dsimp only at j);go_simp;first|(rw[show w.cell? _=_ from Blk.cell j.2 7];rfl)|rfl
 refine aE 5 ?_;refine aE 6 ?_;refine sB (i:=7) (v:=?vr7) (hy:=?yr7) (h:=?_)
 case yr7=>intro w j;(try dsimp only at j);go_simp;first|(rw[show w.cell? _=_ from Blk.cell j.1 0];rfl)|rfl
 refine aE 8 ?_;refine aE 9 ?_;refine sB (i:=10) (v:=?vr10) (hy:=?yr10) (h:=?_)
 case yr10=>intro w j;(try dsimp only at j);go_simp;first|(rw[show w.cell? _=_ from Blk.cell j.2 0];rfl)|rfl
 refine aE 12 ?_;refine aE 13 ?_;refine sB (i:=14) (v:=?vr14) (hy:=?yr14) (h:=?_)
 case yr14=>intro w j;(try dsimp only at j);go_simp;first|(rw[show w.cell? _=_ from Blk.cell j.1 1];rfl)|rfl
 refine aE 15 ?_;refine aE 16 ?_;refine sB (i:=17) (v:=?vr17) (hy:=?yr17) (h:=?_)
 case yr17=>intro w j;(try dsimp only at j);go_simp;first|(rw[show w.cell? _=_ from Blk.cell j.2 1];rfl)|rfl
 refine dY (i:=4) (h:=fun K q=>?_)
 go_simp;refine(ba.o _).mono ?_;rintro e aq ⟨rfl,rfl⟩;dsimp only;refine q.o _ _ (by assumption) (fun bn=>?_)
 refine dY (i:=11) (h:=fun K q=>?_)
 go_simp;refine(bc.o _).mono ?_;rintro e aq ⟨rfl,rfl⟩;dsimp only;refine q.o _ _ (by assumption) (fun bj=>?_)
 refine dY (i:=18) (h:=fun K q=>?_)
 go_simp;refine(bd.o _).mono ?_;rintro e aq ⟨rfl,rfl⟩;dsimp only;refine q.o _ _ (by assumption) (fun ar=>?_)
 refine dY (i:=19) (h:=fun K q=>?_)
 go_simp
 skip
 refine q.o _ _ (⟨ar.1.alloc _,ar.2.alloc _⟩) (fun bl=>?_)
 refine dY (i:=20) (h:=fun K q=>?_)
 go_simp;refine((fun(g:Nat) (W:World) (be:W.cell? g=some r0) bf bh=>bFy r0 r1 r2 g 3 W be bf bh) _ _ (ap.o.drew.cell 0) (ap.o.drew.cell 1) (ap.o.drew.cell 2)).mono ?_
 rintro e aq ⟨rfl,rfl⟩;dsimp only;refine q.o _ _ (by assumption) (fun bm=>?_)
 refine aE 21 ?_;refine aE 22 ?_;refine r8 (by kernel_rfl) ?_ _
 go_wp21;go_ret;exact⟨rfl,by first|exact(hZ (az.o.alloc (.cells #[r0,r1,r2] 3)).drew).o|exact(az.o.drew.alloc (.cells #[r0,r1,r2] 3))⟩
end
section
open Go.RowKit Go.Sort
variable {bi lv p0 p1 p10 p11 p2 p3 p5 p6 p7 p8 p9 s1 s3 secs:Int} {a1 a2 b b' base bb cap d e e0 e2 eb g g0 g1 g2 ga i k kd m mb n off pb sb sz till tx tx':Nat} {a:Act} {o:Oper} {W w w' w5 wB wc wr:World} {bk wk wk' ws ws':Option Addr} {f:Nat→Nat} {sv v v' va vb vc vg vl:Value} {gs:Gs} {p:aC} {cs cs0 cs2 xs zs:List Value} {pl rs rs' st:List (Nat×Nat)} {next:Act→World→Prop} {F F0 F1 F2 T:Nat→Prop} {after:Array Edge} {rest:List Oper} {ms:List MT} {x x' x0:aK} {dn' p4:Bool} {S:dK} {C:World→Prop} {E el:Nat→aC} {os:Array Obj} {fr:Nat×Nat} {es:List Nat} {s t text:Bs} {dst:Option Tmp} {r:Option Nat} {L:List (aC×Bs)} {nd nd':aM} {guard:Option (Nat×Bool)} {y:Operand} {J:Nat→World→Prop} {l out:List aC} {P:Program} {Q:Exit→Act→World→Prop} {ops:Array Oper} {sn:SN} {fn:Func} {V:kE}
theorem Gw.below (h:Gw W w'):bB W w':=by
 obtain⟨q,os,rfl⟩:=h;refine⟨rfl,rfl,rfl,?_,fun k c=>?_⟩
 ·show W.heap.size≤(W.heap++os).size
  rw[Array.size_append];omega
 ·show(W.heap++os)[k]?=_
  rw[Array.getElem?_append_left c]
def cfP (x y:aC):Int:=if lV x y=true then-1 else if lV y x=true then 1 else 0
attribute [local go_sem ↓] bU bR
theorem aWz (x y:aC) (w:World):Calls prog 93 #[.agg (aA x).toArray,.agg (aA y).toArray] w fun e w'=>e= .returned (.int .i64 (cfP x y))∧Gw w w':=by
 have z:Hid (cfP x y=if lV x y=true then-1 else if lV y x=true then 1 else 0):=hZ rfl
 obtain⟨Z,N⟩:∃b,b=lV x y:=⟨_,rfl⟩;obtain⟨aa,O⟩:∃b,b=lV y x:=⟨_,rfl⟩;have u:=hZ (aIv x y);have D:=hZ (aIv y x);rw[←N] at u z;rw[←O] at D z;rw[z.o];clear z N O;obtain⟨j,h⟩:=nZ ((w.alloc (.cells (aA x).toArray 51)).alloc (.cells (aA y).toArray 51));have G:Blk j w.heap.size 51 (aA x):=by rw[h];exact(Blk.new w _ _).alloc _
 have H:Blk j (w.heap.size+1) 51 (aA y):=by rw[h];exact Blk.newAt _ _ (by simp)
 have I:Hid (Gw w j):=hZ (by rw[h];exact((Gw.refl w).alloc _).alloc _)
 have R:=hZ G;have U:=hZ H;have X:=aB G underlying51 rfl aU;have Y:=aB H underlying51 rfl aU;clear G H
 cases Z with
 |true=>
  go_in;go_upto_region 1 with fail
  rw[←h];clear h;go_wp21;refine(u.o j).mono ?_;rintro e A ⟨rfl,c⟩;have q:=hZ (I.o.trans c);clear c;go_wp21;go_ret;exact⟨rfl,q.o⟩
 |false=>
  cases aa with
  |true=>
   go_in;go_upto_region 1 with fail
   rw[←h];clear h;go_wp21;refine(u.o j).mono ?_;rintro e A ⟨rfl,c⟩;have q:=hZ (I.o.trans c);have j0:=aB (R.o.below c.below) underlying51 rfl aU;have j1:=aB (U.o.below c.below) underlying51 rfl aU;clear c X Y;go_wp2_with fail;refine(D.o A).mono ?_;rintro e ab ⟨rfl,c⟩;have K:=hZ (q.o.trans c);clear c;go_wp21;go_ret;exact⟨rfl,K.o⟩
  |false=>
   go_in;go_upto_region 1 with fail
   rw[←h];clear h;go_wp21;refine(u.o j).mono ?_;rintro e A ⟨rfl,c⟩;have q:=hZ (I.o.trans c);have j0:=aB (R.o.below c.below) underlying51 rfl aU;have j1:=aB (U.o.below c.below) underlying51 rfl aU;clear c X Y;go_wp21;refine(D.o A).mono ?_;rintro e ab ⟨rfl,c⟩;have K:=hZ (q.o.trans c);clear c;go_wp21;go_ret;exact⟨rfl,K.o⟩
theorem aIj (x y:aC):lV x y=true↔x.birth<y.birth∨(x.birth=y.birth∧(x.ag<y.ag∨(x.ag=y.ag∧x.aa<y.aa))):=by
 unfold lV bEc aLn jH;rw[decide_eq_true_iff];constructor
 ·intro h
  split at h<;>(try split at h)<;>(try split at h)<;>(try split at h)<;>omega
 ·intro h
  split<;>(try split)<;>(try split)<;>(try split)<;>omega
theorem aNp (x y:aC):lV x y=false↔¬(x.birth<y.birth∨(x.birth=y.birth∧(x.ag<y.ag∨(x.ag=y.ag∧x.aa<y.aa)))):=by
 rw[←aIj];simp
theorem yK (x y:aC):ltOf cfP x y=lV x y:=by
 unfold ltOf cfP
 cases h1:lV x y with
 |true=>simp
 |false=>cases h2:lV y x<;>simp
theorem bLc:SWO (ltOf cfP) where
 irrefl x:=by rw[yK,aNp];omega
 trans x y z h1 h2:=by rw[yK] at*;rw[aIj] at*;omega
 ntrans x y z h1 h2:=by rw[yK] at*;rw[aNp] at*;omega
end
section
attribute [local go_sem ↓] Go.wp_at_zero Go.wp_at_succ
def aSl:List Value→Nat→List Value→List Value
 |xs,_,[]=>xs
 |xs,o,v::vs=>aSl (xs.set o v) (o+1) vs
theorem aEb:∀(vs xs:List Value) (o j:Nat),o+vs.length≤xs.length→(aSl xs o vs)[j]?=if o≤j∧j<o+vs.length then vs[j-o]? else xs[j]?
 |[],xs,o,j,_=>by rw[aSl,i9 (by simp only[bNm];omega)]
 |v::vs,xs,o,j,h=>by
  simp only[bLn] at h;rw[aSl,aEb vs (xs.set o v) (o+1) j (by simp;omega)]
  by_cases e:j=o
  ·subst e
   rw[i9 (by omega),i6 (by simp),Nat.sub_self,List.getElem?_set]
   simp;omega
  ·by_cases e2:o+1≤j∧j<o+1+vs.length
   ·rw[i6 e2,i6 (by simp;omega),show j-o=(j-(o+1))+1 by omega,m9]
   ·rw[i9 e2,i9 (by simp;omega),List.getElem?_set_ne (by omega)]
theorem aAz {size:Nat}:∀(vs:List Value) {w:World} {xs:List Value} (o:Nat),w.ownsRow base e size (.slice (some g) n cap) n xs→(w.setCells g o vs).ownsRow base e size (.slice (some g) n cap) n (aSl xs o vs)
 |[],_,_,_,h=>h
 |v::vs,_,_,o,h=>aAz vs (o+1) (h.stored o v).1
def xG (el:Nat→aC) (f:Nat→Nat) (n:Nat):List Value:=(List.range n).flatMap fun p=>aA (el (f p))
theorem aDm (el:Nat→aC) (f:Nat→Nat) (n:Nat):xG el f n=aF ((List.range n).map fun p=>el (f p)):=by simp[xG,aF,List.flatMap_map]
theorem mT (el:Nat→aC) (f:Nat→Nat) (n:Nat):(xG el f n).length=n*12:=by rw[aDm,aQ];simp
theorem qK (el:Nat→aC) (f:Nat→Nat) (n p i:Nat) (c:p<n) (h:i<12):(xG el f n)[p*12+i]?=(aA (el (f p)))[i]?:=by
 rw[aDm,aXc _ _ _ (by simpa using c) h]
 simp[List.getD,c]
def upd (f:Nat→Nat) (p x q:Nat):Nat:=if q=p then x else f q
theorem mO (p:aC):(aA p).length=12:=rfl
theorem bDx (el:Nat→aC) (f:Nat→Nat) (n p x:Nat) (u:p<n):aSl (xG el f n) (p*12) (aA (el x))=xG el (upd f p x) n:=by
 apply bNg;intro j;have q:=mT el f n;rw[aEb _ _ _ _ (by rw[q,mO];omega),mO]
 by_cases z:j<n*12
 ·have c:j/12<n:=by omega
  have hr:j%12<12:=by omega
  have h:j=j/12*12+j%12:=by omega
  by_cases e:j/12=p
  ·rw[i6 (by omega),h,qK _ _ _ _ _ c hr]
   unfold upd;rw[i6 e];congr 1;omega
  ·rw[i9 (by omega),h,qK _ _ _ _ _ c hr,qK _ _ _ _ _ c hr]
   unfold upd;rw[i9 e]
 ·rw[i9 (by omega),m7 (by omega),m7 (by rw[mT];omega)]
section
variable {w:World} {base g n cap:Nat} {el:Nat→aC} {f:Nat→Nat}
theorem aJg (h:w.ownsRow base 51 12 (.slice (some g) n cap) n (xG el f n)) {p:Nat} (q:p<n):w.rangeAt g (p*12) (aA (el (f p))):=fun j v c=>by
 have u:j<12:=by have:=(bMy.1 c).1;rwa [mO] at this
 rw[h.cellAt _ (by omega),qK _ _ _ _ _ q u,c]
theorem aYp (h:w.ownsRow base 51 12 (.slice (some g) n cap) n (xG el f n)) {p:Nat} (c:p<n):w.there g (p*12) 12:=fun j q=>by
 have u:=mT el f n;refine⟨?_,h.frozenAt _⟩;rw[h.cellAt _ (by omega),b9 (by omega)]
 rfl
theorem aXk (h:w.ownsRow base 51 12 (.slice (some g) n cap) n (xG el f n)) {p:Nat} (c:p<n) (x:Nat):(w.setCells g (p*12) (aA (el x))).ownsRow base 51 12 (.slice (some g) n cap) n (xG el (upd f p x) n):=by
 rw[←bDx el f n p x c];exact aAz _ _ h
end
end
section
attribute [local go_sem ↓] Go.wp_at_zero Go.wp_at_succ
theorem aSk (p:aC):∀u∈aA p,u.oneCell'=true:=by
 intro u c;simp only[aA,s8,bLp,bNo] at c;rcases c with rfl|rfl|rfl|rfl|rfl|rfl|rfl|rfl|rfl|rfl|rfl|rfl<;>rfl
theorem bAg:(prog.info? 51).map (·.size)=some 12:=by kernel_rfl
theorem aMo {x:Operand} {ty:TypeId} {pos:String}:
  Oper.wp prog ⟨dst,.load 51 x,ty,pos,after,guard⟩ a w next Q=lY prog ⟨dst,.load 51 x,ty,pos,after,guard⟩ 51 (a.eval x) a w next Q:=rfl
theorem aKd {x:Operand} {ty:TypeId} {pos:String}:
  Oper.wp prog ⟨dst,.store 51 x y,ty,pos,after,guard⟩ a w next Q=cS prog ⟨dst,.store 51 x y,ty,pos,after,guard⟩ 51 (a.eval x) (a.eval y) a w next Q:=rfl
theorem aCo {x:Operand} {ty:TypeId} {pos:String}:
  Oper.quietAt prog ⟨dst,.load 51 x,ty,pos,after,guard⟩ a C w v=bKg prog C 51 (a.eval x) w v:=rfl
theorem xZ {o:Nat} (h:w.rangeAt g o (aA p)) (c:Oper) (a:Act) (next:Act→World→Prop) (Q:Exit→Act→World→Prop):lY prog c 51 (.pointer (some ⟨g,o,none⟩)) a w next Q=next (a.put c.dst (.agg (aA p).toArray)) w:=
 dP h underlying51 rfl bAg c a next Q
theorem aIx {o:Nat} (p:aC) (h:w.there g o 12) (c:Oper) (a:Act) (next:Act→World→Prop) (Q:Exit→Act→World→Prop):cS prog c 51 (.pointer (some ⟨g,o,none⟩)) (.agg (aA p).toArray) a w next Q=next (a.put c.dst undef) (w.setCells g o (aA p)):=
 aGo h bAg (aSk p) c a next Q
abbrev aLa (w:World) (base g n cap:Nat) (el:Nat→aC) (f:Nat→Nat):Prop:=w.ownsRow base 51 12 (.slice (some ⟨g,0,none⟩) n cap) n (xG el f n)
attribute [local go_sem ↓] aMo aKd aCo
end
section
attribute [local go_sem ↓] Go.wp_at_zero Go.wp_at_succ
attribute [local go_sem ↓] aMo aKd aCo
theorem bKy (w:World):(zeroValue 51).run prog w= .ok (.agg yE) w:=by kernel_rfl
def nG (p:Nat→Bool) (n:Nat):List Nat:=(List.range n).filter fun j=> !p j
theorem nW (p:Nat→Bool) (n:Nat):(nG p n).length=jY p n:=rfl
theorem aYt {p:Nat→Bool} (h:p n=true):nG p (n+1)=nG p n:=by
 unfold nG;rw[bMk,bNz];simp[h]
theorem bEa {p:Nat→Bool} (h:p n=false):nG p (n+1)=nG p n++[n]:=by
 unfold nG;rw[bMk,bNz];simp[h]
def aIr (E:Nat→aC) (p:Nat→Bool) (n:Nat):List aC:=(nG p n).map E
def jG (p:Nat→Bool) (f:Nat→Nat) (n:Nat):Prop:=∀t x,(nG p n)[t]?=some x→f t=x
theorem jG.yes {p:Nat→Bool} (h:jG p f n) (c:p n=true):jG p f (n+1):=by
 unfold jG;rw[aYt c];exact h
theorem jG.no {p:Nat→Bool} (h:jG p f n) (q:p n=false):jG p (upd f (jY p n) n) (n+1):=by
 intro t x c;rw[bEa q,List.getElem?_append] at c;unfold upd;split at c
 ·rename_i j
  rw[nW] at j;rw[i9 (by omega)]
  exact h t x c
 ·rename_i j
  rw[nW] at j c;by_cases e:t=jY p n
  ·rw[i6 e]
   subst e;simp at c;exact c
  ·rw[m7 (by simp;omega)] at c
   cases c
theorem jG.all {p:Nat→Bool} (u:∀t,t<n→f t=t) (h:∀j,j<n→p j=false):jG p f n:=by
 have e:nG p n=List.range n:=by
  unfold nG;rw[List.filter_eq_self];intro a z;rw[h a (bMp.1 z)];rfl
 intro t x c;rw[e] at c;have q:=(bMy.1 c).1;simp at q;simp[q] at c;rw[u t q,c]
theorem aVi {p:Nat→Bool} (h:∀j,j<n→p j=false):jY p n=n:=by
 have e:nG p n=List.range n:=by
  unfold nG;rw[List.filter_eq_self];intro a c;rw[h a (bMp.1 c)];rfl
 rw[←nW,e,List.length_range]
theorem jG.enc {p:Nat→Bool} (E:Nat→aC) (h:jG p f n):xG E f (jY p n)=aF (aIr E p n):=by
 rw[aDm];congr 1;unfold aIr;apply bNg;intro t;rw[bMh,bMh];by_cases ht:t<jY p n
 ·rw[List.getElem?_range ht]
  have c:(nG p n)[t]?=some ((nG p n)[t]'(by rw[nW];exact ht)):=b9 _
  rw[c,Option.map_some,Option.map_some,h t _ c]
 ·rw[m7 (by simp;omega),m7 (by rw[nW];omega)]
  rfl
theorem aMq (h:aLa W base g n cap el f) (Y:m<n):∃z:List Value,
  Hid (∀ty,(Builtin.clear_ #[31] ty #[.slice (some ⟨g,m*12,none⟩) (n-m) (cap-m)]).run prog W= .ok (.tuple #[]) (W.setCells g (m*12) z))∧
  Hid (aLa (W.setCells g (m*12) z) base g m cap el f)∧Hid (W.grownBy (W.setCells g (m*12) z) (some g)):=by
 obtain⟨c,j,D,R,G,U,H⟩:=gK h;have X:=mT el f n;refine⟨(Builtin.zeroCells (.agg yE:Value).cells (n-m)).toList,hZ fun ty=>?_,hZ ?_,hZ (aJ _ _ _ _)⟩
 ·exact tB W _ _ ty _ underlying31 bKy 12 rfl (by decide) (by decide) g _ _ _ (by omega) (fun t ht=>by rw[j.cell,b9 (by omega)];rfl) (fun t ht=>j.frozen _)
 ·obtain⟨z,A⟩:=nZ ((Builtin.zeroCells (.agg yE:Value).cells (n-m)).toList)
  have u:z.length=(n-m)*12:=by rw[A,bOd,size_zeroCells];rfl
  rw[←A];have h2:=j.setCells z (m*12) (by rw[u];omega)
  have q:=gQ (base:=base) (n:=m) (cap:=cap) (size:=12) h2 D (by omega) G (by simp only[i7,z7,bMe,u];omega)
  have I:(c.take (m*12)).length=m*12:=by rw[z7];omega
  rw[bMd] at q;have K:(c.take (m*12)++(z++c.drop (m*12+z.length))).take (m*12)=c.take (m*12):=by
   conv=>lhs;arg 1;rw[←I]
   exact List.take_left
  have N:c.take (m*12)=xG el f m:=by
   have O:c.take (m*12)=(xG el f n).take (m*12):=by
    rw[←H,List.take_take,Nat.min_eq_left (by omega)]
   rw[O];apply bNg;intro t;by_cases ht:t<m*12
   ·rw[bNk,i6 ht,show t=t/12*12+t%12 by omega,qK _ _ _ _ _ (by omega) (by omega),qK _ _ _ _ _ (by omega) (by omega)]
   ·rw[m7 (by rw[z7];omega),m7 (by rw[mT];omega)]
  rw[K,N] at q;exact q
structure bIp (F:Nat) (capt:Array Value) (g:Nat) (E:Nat→aC) (n:Nat) (p:Nat→Bool) (O:Nat→Prop) (J:Nat→World→Prop):Prop where
 enters:∀args W,(callFunc F args).run prog W= .ok (.enter F args) W
 one:∀j,j<n→∀W,J j W→Calls prog F (#[.agg (aA (E j)).toArray]++capt) W fun e W'=>e= .returned (.bool (p j))∧J (j+1) W'∧Mod O W W'
 grown:∀j W W',J j W→W.grownBy W' (some g)→J j W'
 no:¬O g
theorem Mod.orG {c:Nat→Prop} (h:Mod c w w'):Mod (fun k=>c k∨k=g) w w':=h.mono (fun _ _ h=> .inl h)
def nQ (p:Nat→Bool) (n:Nat):Nat:=(eL p n+1).toNat+(if eL p n= -1 then n else 0)
theorem zQ {p:Nat→Bool} (c:k<n) (h:p k=true) (q:∀j,j<k→p j=false):nQ p n=k+1:=by
 unfold nQ;rw[fI c h q,i9 (by omega)]
 omega
theorem sU {p:Nat→Bool} (c:∀j,j<n→p j=false):nQ p n=n:=by
 unfold nQ;rw[eF c,i6 rfl];omega
def bHc (E:Nat→aC) (p:Nat→Bool) (O:Nat→Prop) (J:Nat→World→Prop) (base g n cap:Nat) (w:World) (e:Ending) (w':World):Prop:=
 e= .returned (.slice (some ⟨g,0,none⟩) (jY p n) cap)∧w'.ownsRow base 51 12 (.slice (some ⟨g,0,none⟩) (jY p n) cap) (jY p n) (aF (aIr E p n))∧J n w'∧Mod (fun k=>O k∨k=g) w w'
theorem aPa {p:Nat→Bool} {c:Nat→Prop} (j:m=jY p n) (q:jG p f n) (h:aLa w' base g m cap E f) (u:Mod (fun k=>c k∨k=g) w w') (z:J n w'):bHc E p c J base g n cap w (.returned (.slice (some g) m cap)) w':=by
 subst j;unfold aLa at h;rw[q.enc E] at h;exact⟨rfl,h,z,u⟩
theorem aRo (F:Nat) (Y:Array Value) (p:Nat→Bool) (E:Nat→aC) (X:Nat→Prop) (J:Nat→World→Prop) (base g n cap:Nat) (w:World) (h:aLa w base g n cap E id) (am:n≤1000) (hF:bIp F Y g E n p X J) (h0:J 0 w):
  Calls prog 153 #[.slice (some g) n cap,.func (.func F) #[] Y] w fun e w'=>e= .returned (.int .i64 (eL p n))∧J (nQ p n) w'∧Mod X w w':=by
 have ak:=hF.enters;have ac:=hZ hF.one;have al:=hZ hF.grown;have ad:=hZ hF.no;have af:=hZ h;have ae:=hZ h0;clear hF h h0;go_in;go_wp2_with fail;go_loopw [8] (fun i wr=>∃k:Nat,k≤n∧i= .int .i64 (k:Nat)∧Hid (∀j,j<k→p j=false)∧Hid (J k wr)∧Hid (Mod X w wr)) (fun i _=>n-(intOf i).toNat)
 case atStart=>exact⟨0,by omega,rfl,hZ fun j Z=>absurd Z (by omega),ae,hZ (Mod.refl _ _)⟩
 case round=>
  obtain⟨k,an,rfl,D,aa,H⟩:=hrel;by_cases G:k<n
  ·have ab:=H.o.row af.o (fun x e ag=>ad.o (by cases e;exact ag))
   have ah:=xZ (aJg ab G);have u:=hZ (ac.o k G wr aa.o);obtain⟨ai,K⟩:∃c,c=aA (E (id k)):=⟨_,rfl⟩;rw[←K] at ah;rw[show aA (E k)=ai from K.symm] at u;clear ab K
   cases q:p k with
   |true=>
    rw[q] at u;have I:=hZ q;clear q;go_wp2_with fail;refine u.o.mono ?_;rintro e aj ⟨rfl,z,A⟩;have N:=hZ (H.o.self A);have O:=hZ z;have R:=hZ (fI G I.o D.o);have U:=hZ (zQ G I.o D.o);clear A z;go_wp2_with fail;go_ret;exact⟨by rw[R.o];rfl,by rw[U.o];exact O.o,N.o⟩
   |false=>
    rw[q] at u;have I:=hZ q;clear q;go_wp2_with fail;refine u.o.mono ?_;rintro e aj ⟨rfl,z,A⟩;have N:=hZ (H.o.self A);have O:=hZ z;clear A z;go_wp2_with fail;go_roundw
    case rel=>exact⟨k+1,by omega,by go_num,hZ (fun j Z=>by
     by_cases e:j=k
     ·rw[e];exact I.o
     ·exact D.o j (by omega)),O,N⟩
    case measure=>simp[intOf];omega
  ·obtain rfl:k=n:=by omega
   have R:=hZ (eF D.o);have U:=hZ (sU D.o);go_wp2_with fail;go_ret;exact⟨by rw[R.o];rfl,by rw[U.o];exact aa.o,H.o⟩
theorem aNy (F:Nat) (ak:Array Value) (p:Nat→Bool) (E:Nat→aC) (A:Nat→Prop) (J:Nat→World→Prop) (base g n cap:Nat) (w:World) (h:aLa w base g n cap E id) (an:n≤1000) (hF:bIp F ak g E n p A J) (h0:J 0 w) (bf:∀k,A k→k<w.heap.size):
  Calls prog 90 #[.slice (some g) n cap,.func (.func F) #[] ak] w (bHc E p A J base g n cap w):=by
 have ck:=(gK h).choose_spec.2.2.1;have cj:=(gK h).choose_spec.2.2.2.1;have Y:=hZ (aRo F ak p E A J base g n cap w h an hF h0);have cq:=hF.enters;have bu:=hZ hF.one;have al:=hZ hF.grown;have D:=hF.no;have af:=hZ D;have bv:Hid (∀wr:World,Mod (fun k=>A k∨k=g) w wr→¬A wr.heap.size):=hZ (fun wr an h=>by have h1:=bf _ h;have h2:=an.size;omega)
 have ao:=hZ h;clear hF h h0 D bf;rcases uG p n with⟨D,R⟩|⟨N,bw,ad,ae,R⟩
 ·rw[R] at Y
  have O:=hZ (fun Z (bh:J (nQ p n) Z) (aa:Mod A w Z)=>aPa (J:=J) (g:=g) (aVi D).symm (jG.all (fun t _=>rfl) D) (aa.row ao.o (fun x e G=>af.o (by cases e;exact G))) aa.orG (by rw[sU D] at bh;exact bh))
  clear D R;go_in;go_wp2_with fail;refine Y.o.mono ?_;rintro e Z ⟨rfl,H,I⟩;have bx:=hZ (O.o Z H I);clear I H;go_wp2_with fail;go_ret;exact bx.o
 ·rw[R] at Y
  have cr:((N:Int) == -1)=false:=by simp
  have am:Hid (jY p (N+1)=N∧jG p id (N+1)):=hZ ⟨by rw[oF ad,aVi ae],jG.yes (jG.all (fun t _=>rfl) ae) ad⟩
  have ay:=hZ (zQ bw ad ae);clear R ae ad;go_in;go_wp2_with fail;refine Y.o.mono ?_;rintro e Z ⟨rfl,H,I⟩;have bj:=hZ (I.row ao.o (fun x e G=>af.o (by cases e;exact G)))
  have bl:=hZ (I.orG (g:=g));rw[ay.o] at H;have bm:=hZ H;clear I H;go_wp2_with fail;go_loopw [5,6] (fun cd ap wr=>∃(m j:Nat) (f:Nat→Nat),j≤n∧m<j∧Hid (cd=(m:Nat))∧Hid (ap=(j:Nat))∧Hid (m=jY p j)∧Hid (jG p f j)∧Hid (∀t,j≤t→f t=t)∧Hid (aLa wr base g n cap E f)∧Hid (J j wr)∧Hid (Mod (fun k=>A k∨k=g) w wr)) (fun _ ap _=>n-(intOf ap).toNat)
  case atStart=>exact⟨N,N+1,id,by omega,by omega,hZ rfl,hZ (by go_num),hZ am.o.1.symm,hZ am.o.2,hZ (fun t _=>rfl),bj,bm,bl⟩
  case round=>
   clear bj bl bm am Y ao ay;obtain⟨m,j,f,cl,bz,az,ba,ah,aq,ar,au,bn,av⟩:=hrel;obtain rfl:=az.o;obtain rfl:=ba.o;clear az ba;by_cases bc:j<n
   ·have bo:=xZ (aJg au.o bc)
    rw[ar.o j (d8 _)] at bo;obtain⟨u,ag⟩:∃c,c=aA (E j):=⟨_,rfl⟩;have O:=hZ ag;have bq:=hZ (av.o.alloc (.cells u.toArray 51));have U:=hZ (bu.o j bc _ (al.o j wr _ bn.o (World.grownBy_alloc wr (.cells u.toArray 51) (some g))));have br:Hid (Blk (wr.alloc (.cells u.toArray 51)) wr.heap.size 51 u):=hZ (Blk.new _ _ _);have bs:=hZ (aD au.o ((i4 wr.heap.size wr).alloc (d8 _) (.cells u.toArray 51)));obtain⟨z,ai⟩:∃z:List Value,z=zE:=⟨_,rfl⟩;have s1:=aIx (w:=wr.alloc (.cells z.toArray 51)) (g:=wr.heap.size) (o:=0) (E j) (fun i ce=>by
     have aa:=Blk.new wr 51 z;refine⟨?_,aa.frozen _⟩;rw[aa.cell,r9,ai]
     match i,ce with
     |0,_=>rfl
     |1,_=>rfl
     |2,_=>rfl
     |3,_=>rfl
     |4,_=>rfl
     |5,_=>rfl
     |6,_=>rfl
     |7,_=>rfl
     |8,_=>rfl
     |9,_=>rfl
     |10,_=>rfl
     |11,_=>rfl)
    rw[dS wr _ _ _ (by rw[ai,mO];rfl),ai] at s1
    have cf:=xZ (w:=wr.alloc (.cells u.toArray 51)) (g:=wr.heap.size) (o:=0) (p:=E j) (fun i v aw=>by rw[r9,br.o.cell,ag];exact aw)
    rw[←ag] at bo s1 cf U;clear ag ai
    cases K:p j with
    |true=>
     rw[K] at U;have ab:=hZ K;clear K;go_wp2_with fail;refine U.o.mono ?_;rintro e ac ⟨rfl,X,q⟩;have aj:=hZ (q.row bs.o (fun x e G=>af.o (by cases e;exact G)))
     have ax:=hZ (bq.o.self q.orG);have cg:=hZ X;clear q X;go_wp2_with fail;go_roundw
     case rel=>exact⟨m,j+1,f,by omega,by omega,hZ rfl,hZ (by go_num),hZ (by rw[oF ab.o];exact ah.o),hZ (aq.o.yes ab.o),hZ (fun t ht=>ar.o t (by omega)),aj,cg,ax⟩
     case measure=>simp[intOf];omega
    |false=>
     rw[K] at U;have ab:=hZ K;clear K;go_wp2_with fail;refine U.o.mono ?_;rintro e ac ⟨rfl,X,q⟩;have aj:=hZ (q.row bs.o (fun x e G=>af.o (by cases e;exact G)))
     have ax:=hZ (bq.o.self q.orG);have bt:=q.blk br.o (bv.o wr av.o);have ch:=xZ (w:=ac) (g:=wr.heap.size) (o:=0) (p:=E j) (fun i v aw=>by rw[r9,bt.cell,O.o];exact aw)
     have s3:=aIx (E j) (aYp aj.o (show m<n by omega))
     have bd:=hZ (aXk aj.o (show m<n by omega) j)
     rw[←O.o] at ch s3 bd;have ca:=hZ (al.o (j+1) ac _ X (aJ g u ac (m*12)));have cb:=hZ (ax.o.self (Mod.grown (aJ g u ac (m*12)) (.inr rfl)));have ct:(m:Int)<(n:Int):=by omega
     clear q bt X;go_wp2_with fail;go_roundw
     case rel=>exact⟨m+1,j+1,upd f m j,by omega,by omega,hZ (by go_num),hZ (by go_num),hZ (by rw[uW ab.o,←ah.o]),hZ (by rw[ah.o];exact aq.o.no ab.o),hZ (fun t ht=>by
      unfold upd;rw[i9 (by omega)]
      exact ar.o t (by omega)),bd,ca,cb⟩
     case measure=>simp[intOf];omega
   ·obtain rfl:j=n:=by omega
    have cm:¬cap=m:=by omega
    have cn:m≤cap:=by omega
    have co:m≤j:=by omega
    have cu:(0:Int)≤(m:Int):=by omega
    have cv:(m:Int)≤(j:Int):=by omega
    have cw:(m:Int)≤(cap:Int):=by omega
    obtain⟨z,ci,cc,be⟩:=aMq au.o bz;have O:=hZ (aPa ah.o aq.o cc.o (av.o.self (Mod.grown be.o (.inr rfl))) (al.o j wr _ bn.o be.o));have cp:=ci.o;go_wp2;go_ret;exact O.o
end
end Go.Proofs.YtepmcdopccflgaaGreatDoor
namespace Go.Proofs
open Go.Shelf
def Tryz.sortP_ren:Go.Shelf.Ren:=⟨fun|6=>92|15=>155|14=>154|28=>227|29=>228|20=>219|21=>220|22=>221|23=>222|24=>223|25=>224|26=>225|27=>226|46=>271|47=>272|48=>273|49=>274|50=>275|57=>305|n=>n,fun|22=>31|24=>51|25=>184|3=>3|39=>268|0=>0|53=>338|55=>47|4=>4|46=>331|45=>330|50=>335|5=>5|9=>9|66=>383|70=>387|76=>413|77=>414|n=>n,fun|n=>n⟩
theorem Tryz.sortP:Go.Proofs.SlLaysF0.n6 prog Tryz.sortP_ren:={
 mixed:=by kernel_rfl
 f6:=⟨Tryz.f92.name,by decide,func92.trans (congrArg some (by kernel_rfl))⟩
 f14:=⟨Tryz.f154.name,by decide,func154.trans (congrArg some (by kernel_rfl))⟩
 f15:=func155.trans (congrArg some (by kernel_rfl))
 f20:=⟨Tryz.f219.name,by decide,func219.trans (congrArg some (by kernel_rfl))⟩
 f21:=⟨Tryz.f220.name,by decide,func220.trans (congrArg some (by kernel_rfl))⟩
 f22:=⟨Tryz.f221.name,by decide,func221.trans (congrArg some (by kernel_rfl))⟩
 f23:=⟨Tryz.f222.name,by decide,func222.trans (congrArg some (by kernel_rfl))⟩
 f24:=⟨Tryz.f223.name,by decide,func223.trans (congrArg some (by kernel_rfl))⟩
 f25:=⟨Tryz.f224.name,by decide,func224.trans (congrArg some (by kernel_rfl))⟩
 f26:=⟨Tryz.f225.name,by decide,func225.trans (congrArg some (by kernel_rfl))⟩
 f27:=⟨Tryz.f226.name,by decide,func226.trans (congrArg some (by kernel_rfl))⟩
 f28:=func227.trans (congrArg some (by kernel_rfl))
 f29:=func228.trans (congrArg some (by kernel_rfl))
 f46:=⟨Tryz.f271.name,by decide,func271.trans (congrArg some (by kernel_rfl))⟩
 f47:=func272.trans (congrArg some (by kernel_rfl))
 f48:=func273.trans (congrArg some (by kernel_rfl))
 f49:=⟨Tryz.f274.name,by decide,func274.trans (congrArg some (by kernel_rfl))⟩
 f50:=⟨Tryz.f275.name,by decide,func275.trans (congrArg some (by kernel_rfl))⟩
 f57:=⟨Tryz.f305.name,by decide,func305.trans (congrArg some (by kernel_rfl))⟩
 t0:=underlying0
 a0:=isAgg0
 z0:=sizeOf0
 v0:=zeroValue0
 t3:=underlying3
 a3:=isAgg3
 z3:=sizeOf3
 v3:=zeroValue3
 t4:=underlying4
 a4:=isAgg4
 z4:=sizeOf4
 v4:=zeroValue4
 t5:=underlying5
 a5:=isAgg5
 z5:=sizeOf5
 v5:=zeroValue5
 t9:=underlying9
 a9:=isAgg9
 z9:=sizeOf9
 v9:=zeroValue9
 t22:=underlying31
 a22:=isAgg31
 z22:=sizeOf31
 v22:=zeroValue31
 t25:=underlying184
 a25:=isAgg184
 z25:=sizeOf184
 v25:=zeroValue184
 t39:=underlying268
 a39:=isAgg268
 z39:=sizeOf268
 v39:=zeroValue268
 t45:=underlying330
 a45:=isAgg330
 z45:=sizeOf330
 v45:=zeroValue330
 t46:=underlying331
 a46:=isAgg331
 z46:=sizeOf331
 v46:=zeroValue331
 t50:=underlying335
 a50:=isAgg335
 z50:=sizeOf335
 v50:=zeroValue335
 t53:=underlying338
 a53:=isAgg338
 z53:=sizeOf338
 v53:=zeroValue338
 t55:=underlying47
 a55:=isAgg47
 z55:=sizeOf47
 v55:=zeroValue47
 t66:=underlying383
 a66:=isAgg383
 z66:=sizeOf383
 v66:=zeroValue383
 t70:=underlying387
 a70:=isAgg387
 z70:=sizeOf387
 v70:=zeroValue387
 t76:=underlying413
 a76:=isAgg413
 z76:=sizeOf413
 v76:=zeroValue413
 t77:=underlying414
 a77:=isAgg414
 z77:=sizeOf414
 v77:=zeroValue414}
end Go.Proofs
namespace Go.Proofs.YtepmcdopccflgaaGreatDoor
open Go.RowKit Go.Proofs.Tryz
variable {bi lv p0 p1 p10 p11 p2 p3 p5 p6 p7 p8 p9 s1 s3 secs:Int} {a1 a2 b b' base bb cap d e e0 e2 eb g g0 g1 g2 ga i k kd m mb n off pb sb sz till tx tx':Nat} {a:Act} {o:Oper} {W w w' w5 wB wc wr:World} {bk wk wk' ws ws':Option Addr} {f:Nat→Nat} {sv v v' va vb vc vg vl:Value} {gs:Gs} {p:aC} {cs cs0 cs2 xs zs:List Value} {pl rs rs' st:List (Nat×Nat)} {next:Act→World→Prop} {F F0 F1 F2 T:Nat→Prop} {after:Array Edge} {rest:List Oper} {ms:List MT} {x x' x0:aK} {dn' p4:Bool} {S:dK} {C:World→Prop} {E el:Nat→aC} {os:Array Obj} {fr:Nat×Nat} {es:List Nat} {s t text:Bs} {dst:Option Tmp} {r:Option Nat} {L:List (aC×Bs)} {nd nd':aM} {guard:Option (Nat×Bool)} {y:Operand} {J:Nat→World→Prop} {l out:List aC} {P:Program} {Q:Exit→Act→World→Prop} {ops:Array Oper} {sn:SN} {fn:Func} {V:kE}
section
open Go.RowKit Go.Sort
variable {bi lv p0 p1 p10 p11 p2 p3 p5 p6 p7 p8 p9 s1 s3 secs:Int} {a1 a2 b b' base bb cap d e e0 e2 eb g g0 g1 g2 ga i k kd m mb n off pb sb sz till tx tx':Nat} {a:Act} {o:Oper} {W w w' w5 wB wc wr:World} {bk wk wk' ws ws':Option Addr} {f:Nat→Nat} {sv v v' va vb vc vg vl:Value} {gs:Gs} {p:aC} {cs cs0 cs2 xs zs:List Value} {pl rs rs' st:List (Nat×Nat)} {next:Act→World→Prop} {F F0 F1 F2 T:Nat→Prop} {after:Array Edge} {rest:List Oper} {ms:List MT} {x x' x0:aK} {dn' p4:Bool} {S:dK} {C:World→Prop} {E el:Nat→aC} {os:Array Obj} {fr:Nat×Nat} {es:List Nat} {s t text:Bs} {dst:Option Tmp} {r:Option Nat} {L:List (aC×Bs)} {nd nd':aM} {guard:Option (Nat×Bool)} {y:Operand} {J:Nat→World→Prop} {l out:List aC} {P:Program} {Q:Exit→Act→World→Prop} {ops:Array Oper} {sn:SN} {fn:Func} {V:kE}
instance ptrInh:Inhabited aC:=⟨pD⟩
theorem bCc (l:List Value) (i:Nat) (v:Value) (h:l[i]?=some v):l[i]! =v:=by
 rw[List.getElem!_eq_getElem?_getD,h];rfl
theorem aOf (a:Array Value) (t:Nat) (h:t<a.size):a[t]! =a.toList[t]! :=by
 rw[getElem!_pos a t h,getElem!_pos a.toList t (by simpa using h)]
 simp
theorem aGe (l:List aC):(flatK aA 12 l.toArray).toList=aF l:=by
 refine bNg fun t=>?_
 have u:(flatK aA 12 l.toArray).size=l.length*12:=by simp
 by_cases ht:t<l.length*12
 ·have h1:t/12<l.length:=by omega
  have h2:t%12<12:=bNd _ (by omega)
  have h:=jQ (f:=aA) (K:=12) (fun _=>rfl) l (t/12) (t%12) pD h1 h2
  have e0:t/12*12+t%12=t:=by omega
  rw[e0] at h;have e2:(aF l)[t]?=(aA (l.getD (t/12) pD))[t%12]?:=h;have c:=get_flatK aA 12 l.toArray t (by simpa using ht)
  have q:(l.toArray)[t/12]! =l.getD (t/12) pD:=by
   rw[List.getElem!_toArray,List.getElem!_eq_getElem?_getD,a8];rfl
  rw[q] at c;obtain⟨v,j⟩:∃v,(aA (l.getD (t/12) pD))[t%12]?=some v:=⟨_,b9 (by exact h2)⟩
  rw[e2,j];rw[bCc _ _ _ j] at c;rw[Array.getElem?_toList,Array.getElem?_eq_getElem (by omega),←c,getElem!_pos _ _ (by omega)]
 ·have e2:(aF l).length=l.length*12:=aQ l
  rw[m7 (by rw[bOd];omega),m7 (by omega)]
theorem aQg (h:w.ownsRow base 51 12 (.slice (some g) n cap) n (aF l)) (z:l.length=n):HoldsK aA 12 w g 0 l.toArray:=by
 obtain⟨cs,j,_,_,_,A,q⟩:=gK h;intro t ht;have c:t<l.length*12:=by simpa using ht
 have u:(flatK aA 12 l.toArray)[t]! =(aF l)[t]'(by rw[aQ];exact c):=by
  rw[←getElem!_pos (aF l),←aGe l];exact aOf _ _ (by simpa using c)
 refine⟨?_,j.frozen _⟩;rw[j.cell,r9]
 show cs[t]?=some (id _)
 have e2:(aF l)[t]?=cs[t]?:=by
  rw[←q,bNk,i6 (by omega)]
 rw[←e2,b9 (by rw[aQ];exact c)]
 exact o7 some u.symm
theorem aNk {c:List aC} (h:HoldsK aA 12 w g 0 l.toArray) (j:c.length=l.length):putRowK aA 12 w g 0 c.toArray=w.setCells g 0 (aF c):=by
 have h1:=setCells_putRow w g 0 (flatK aA 12 c.toArray).toList 0 (flatK aA 12 l.toArray) (by simp[j])
 rw[putRow_self id w g 0 _ h,aGe] at h1;rw[show w.setCells g 0 (aF c)=w.setCells g (0+0) (aF c) from rfl,h1];unfold putRowK;congr 1;refine ext_get! (by simp[j]) fun t ht=>?_
 have q:t<l.length*12:=by simpa[j] using ht
 rw[get_setMany _ _ _ _ (by simpa using q),i6 ⟨z6 _,by rw[aQ];omega⟩,Nat.sub_zero,←aGe c]
 exact aOf _ _ (by simpa[j] using q)
theorem aXp {c:List aC} (h:w.ownsRow base 51 12 (.slice (some g) n cap) n (aF l)) (D:l.length=n) (U:c.length=n):
  (sortWorldK aA 12 w g 0 m c.toArray os).ownsRow base 51 12 (.slice (some g) n cap) n (aF c)∧Mod (fun k=>k=g) w (sortWorldK aA 12 w g 0 m c.toArray os):=by
 have G:=aQg h D;have X:=aQ c;obtain⟨cs,H,h1,h2,I,Y,Z⟩:=gK h;have K:=G;have N:putRowK aA 12 (Sort.ahead w m) g 0 c.toArray=(Sort.ahead w m).setCells g 0 (aF c):=aNk K (by omega)
 have u:Blk (Sort.ahead w m) g 51 cs:=H;have O:=u.setCells (aF c) 0 (by omega)
 have j:Gw ((Sort.ahead w m).setCells g 0 (aF c)) (sortWorldK aA 12 w g 0 m c.toArray os):=⟨0,os,by unfold sortWorldK;rw[N];rfl⟩
 have z:=O.below j.below;constructor
 ·have q:=gQ (base:=base) (n:=n) (cap:=cap) (size:=12) z h1 h2 I (by simp only[i7,z7,bMe];omega)
  have R:(List.take 0 cs++aF c++List.drop (0+(aF c).length) cs).take (n*12)=aF c:=by
   rw[List.take_zero,bMt,List.take_append_of_le_length (by omega),bLq (by omega)]
  rw[R] at q;exact q
 ·have A:Mod (fun k=>k=g) w (Sort.ahead w m):=⟨rfl,rfl,rfl,d8 _,fun _ _ _=>rfl⟩
  exact(A.put (.inl rfl)).self (Mod.below j.below)
end
section
open Go.RowKit Go.Sort
variable {bi lv p0 p1 p10 p11 p2 p3 p5 p6 p7 p8 p9 s1 s3 secs:Int} {a1 a2 b b' base bb cap d e e0 e2 eb g g0 g1 g2 ga i k kd m mb n off pb sb sz till tx tx':Nat} {a:Act} {o:Oper} {W w w' w5 wB wc wr:World} {bk wk wk' ws ws':Option Addr} {f:Nat→Nat} {sv v v' va vb vc vg vl:Value} {gs:Gs} {p:aC} {cs cs0 cs2 xs zs:List Value} {pl rs rs' st:List (Nat×Nat)} {next:Act→World→Prop} {F F0 F1 F2 T:Nat→Prop} {after:Array Edge} {rest:List Oper} {ms:List MT} {x x' x0:aK} {dn' p4:Bool} {S:dK} {C:World→Prop} {E el:Nat→aC} {os:Array Obj} {fr:Nat×Nat} {es:List Nat} {s t text:Bs} {dst:Option Tmp} {r:Option Nat} {L:List (aC×Bs)} {nd nd':aM} {guard:Option (Nat×Bool)} {y:Operand} {J:Nat→World→Prop} {l out:List aC} {P:Program} {Q:Exit→Act→World→Prop} {ops:Array Oper} {sn:SN} {fn:Func} {V:kE}
def aQy (l:List aC) (j:Nat):Bool:=((List.range j).map fun i=>aGa (l.getD i pD)).contains (aGa (l.getD j pD))
def mB (l:List aC):List aC:=aIr (fun j=>l.getD j pD) (aQy l) l.length
theorem aZd (l:List aC):(mB l).length=jY (aQy l) l.length:=by unfold mB aIr;rw[List.length_map,nW]
theorem aYk (l:List aC):xG (fun j=>l.getD j pD) id l.length=aF l:=by
 rw[aDm];congr 1;refine bNw (by simp) fun i h1 h2=>?_
 simp[a8,h2]
theorem aXj (h:Blk w k e cs) (j:w.grownBy w' (some g)) (c:k≠g):Blk w' k e cs:=by
 unfold Blk;rw[j.block k h.lt (fun e=>c (bMs e))]
 exact h
def OnJ (l:List aC) (mb mg:Nat) (j:Nat) (W:World):Prop:=Blk W mb 179 [.map (some mg)]∧∃ks,qG W mg ks∧∀x,x∈ks↔x∈(List.range j).map fun i=>aGa (l.getD i pD)
theorem bBr (l:List aC) (mb h g n:Nat) (h1:mb≠g) (h2:h≠g):bIp 91 #[.pointer (some ⟨mb,0,none⟩)] g (fun j=>l.getD j pD) n (aQy l) (fun k=>k=h) (OnJ l mb h) where
 enters:=fun args W=>by kernel_rfl
 one:=fun j I W z=>by
  obtain⟨q,ks,c,u⟩:=z;have G:mb≠h:=fun e=>by
   subst e;unfold Blk at q;unfold qG at c;rw[q] at c;cases c
  refine(aZr (l.getD j pD) mb h ks W q c).mono ?_;rintro e w' ⟨rfl,H,A⟩;refine⟨?_,⟨A.blk q G,_,H,fun x=>?_⟩,A⟩
  ·congr 2
   rw[Bool.eq_iff_iff,decide_eq_true_iff,u];unfold aQy;rw[List.contains_iff_mem]
  ·rw[bAh,u,bMk,bNa,bMu]
   simp
 grown:=fun j W K z D=>by
  obtain⟨q,ks,c,u⟩:=z;refine⟨aXj q D h1,ks,?_,u⟩;unfold qG;rw[D.block h c.lt (fun e=>h2 (bMs e))]
  exact c
 no:=fun e=>h2 e.symm
theorem aCa {c:Type} (d:Array c):d.extract 0 d.size=d:=by simp
theorem aMy (h:SortedIn (ltOf cfP) 0 l.toArray.size l.toArray):l.Pairwise (fun x y=>lV y x=false):=by
 rw[bOe];intro i j u c q;have h1:=h i j (z6 _) q (by simpa using c)
 rw[yK] at h1;rw[getElem!_pos _ _ (by simpa using c),getElem!_pos _ _ (by simpa using u)] at h1
 simpa using h1
theorem aVt (h:w.ownsRow base 51 12 (.slice (some g) l.length cap) l.length (aF l)) (ag:l.length≤1000):
  Calls prog 46 #[.slice (some g) l.length cap] w fun e w'=>∃c:List aC,c.Perm (mB l)∧c.Pairwise (fun x y=>lV y x=false)∧e= .returned (.slice (some g) c.length cap)∧
   w'.ownsRow base 51 12 (.slice (some g) c.length cap) c.length (aF c)∧Mod (fun k=>k=g) w w':=by
 have R:g<w.heap.size:=(h.lt g rfl).2;obtain⟨u,z⟩:=nZ ((w.alloc (.map #[] 0)).alloc (.cells #[.map (some w.heap.size)] 179));have I:bB w u:=by rw[z];exact(bZ).alloc (by simp) _
 have U:qG u w.heap.size []:=by rw[z];exact(qG.new w).below (bZ)
 have X:Blk u (w.heap.size+1) 179 [.map (some w.heap.size)]:=by rw[z];exact Blk.newAt _ _ (by simp)
 have aj:u.heap.size=w.heap.size+2:=by rw[z];simp
 have Y:aLa u base g l.length cap (fun j=>l.getD j pD) id:=by
  unfold aLa;rw[aYk];exact aD h I
 have av:=hZ (aNy 91 #[.pointer (some ⟨w.heap.size+1,0,none⟩)] (aQy l) (fun j=>l.getD j pD) (fun k=>k=w.heap.size) (OnJ l (w.heap.size+1) w.heap.size) base g l.length cap u Y ag (bBr l _ _ g _ (by omega) (by omega)) ⟨X,[],U,fun x=>by simp⟩ (fun k aw=>by omega))
 have ak:=hZ I;have az:=hZ R;have q:=hZ (aZd l);have ba:=@run_makeMap prog;clear h I U X aj Y R;go_in;go_upto_region 2 with fail
 rw[show(w.alloc (.map #[] 0)).alloc (.cells #[.map (some w.heap.size)] 179)=u from z.symm];clear z;go_wp2_with fail;refine av.o.mono ?_;rintro e K ⟨rfl,H,ax,Z⟩;have G:K.ownsRow base 51 12 (.slice (some g) (mB l).length cap) (mB l).length (aF (mB l)):=by
  rw[q.o];exact H
 have aa:=(H.lt g rfl).2;have al:(mB l).length≤1000:=by
  rw[q.o];unfold jY;exact l6 (List.length_filter_le _ _) (by simpa using ag)
 have D:=AnyQ.slices_SortFunc Tryz.sortP 12 isAgg51 sizeOf51 aA (fun _=>rfl) (fun x v ah=>by simp[aA] at ah;rcases ah with rfl|rfl|rfl|rfl|rfl|rfl|rfl|rfl|rfl|rfl|rfl|rfl<;>rfl) cfP bLc 93 #[] g 0 cap (mB l).toArray K (fun args W=>by kernel_rfl) (fun m os bc N x y=>aWz x y _) (aQg G rfl) aa (by rw[bOm];omega)
 rw[bOm,q.o] at D
 change Calls prog 92 _ _ _ at D
 have am:=hZ D;have an:=hZ G;have ao:Hid (Mod (fun k=>k=g) w K):=hZ ((Mod.below ak.o).trans Z (fun k aw h=>by
  rcases h with h|h
  ·omega
  ·exact h))
 clear H G ax Z aa al D;go_wp2_with fail;refine am.o.mono ?_;rintro e bd ⟨rfl,ai,m,os,O,N,rfl⟩;obtain⟨c,rfl⟩:∃c:List aC,ai=c.toArray:=⟨ai.toList,by simp⟩
 have A:c.length=(mB l).length:=by
  have:=O.1;simpa using this
 have ab:c.Perm (mB l):=by
  have:=O.2.2;have ay:c.toArray.extract 0 (jY (aQy l) l.length)=c.toArray:=by
   rw[←q.o,←A,←bOm,aCa]
  have e2:(mB l).toArray.extract 0 (jY (aQy l) l.length)=(mB l).toArray:=by
   rw[←q.o,←bOm,aCa]
  rw[ay,e2] at this;simpa using this
 have ac:c.Pairwise (fun x y=>lV y x=false):=aMy (by rw[bOm,A,q.o];exact N)
 obtain⟨ad,ae⟩:=aXp (m:=m) (os:=os) an.o rfl A;have ap:=hZ ad;have aq:=hZ (ao.o.self ae);have ar:=hZ ab;have au:=hZ ac;have af:=hZ A;clear O N ad ae ab ac A;go_wp2_with fail;go_ret;rw[←q.o,←af.o];exact⟨c,ar.o,au.o,rfl,by rw[af.o];exact ap.o,aq.o⟩
end
section
def aKg (P:Program) (o:Oper) (t:TypeId) (v:Value) (a:Act) (w:World) (next:Act→World→Prop) (Q:Exit→Act→World→Prop):Prop:=
 o.upon P a next Q ((do let r ←Instr.buildSlice t 1 #[(0,v)];pure (Next.value r):Sem Next).run P w)
theorem aWt {x:Operand} {ty:TypeId} {pos:String}:
  Oper.wp prog ⟨dst,.buildSlice 117 1 #[(0,x)],ty,pos,after,guard⟩ a w next Q=aKg prog ⟨dst,.buildSlice 117 1 #[(0,x)],ty,pos,after,guard⟩ 117 (a.eval x) a w next Q:=by
 unfold Oper.wp aKg execOp;simp
theorem aXi (w:World) (o:Oper) (a:Act) (next:Act→World→Prop) (Q:Exit→Act→World→Prop):
  aKg prog o 117 (.agg (aN nD).toArray) a w next Q=next (a.put o.dst (.slice (some ⟨w.heap.size,0,none⟩) 1 1)) (w.alloc (.cells (aN nD).toArray 53)):=by
 unfold aKg;have h:(do let r ←Instr.buildSlice 117 1 #[(0,.agg yD)];pure (Next.value r):Sem Next).run prog w= .ok (.value (.slice (some ⟨w.heap.size,0,none⟩) 1 1)) (w.alloc (.cells yD 53)):=by
  go_simp
 exact o7 (o.upon prog a next Q) h
attribute [local go_sem ↓] bU bR eI dL aWt
def vF (x:aK) (sn:SN) (es:List Nat) (tx:Nat) (K:Nat) (L:List (aC×Bs)):pV:=⟨⟨x,sn,es,((tx+1:Nat):Int),0,false,0,[]⟩,L,true,true,[],K⟩
theorem aIo (n:aM) (L:List (aC×Bs)):1≤(kN n L).length∧(kN n L).length≤3:=by
 unfold kN;split<;>simp
def bIk (V:kE) (F:Nat→Prop) (bb eb:Nat) (ms:List MT) (s:pV) (ps:List aC) (w w':World) (e:Ending):Prop:=
 ∃(l':List aC) (g cap sb:Nat) (dn:Option Nat) (T:Nat→Prop),l'.Perm (mB ps)∧l'.Pairwise (fun x y=>lV y x=false)∧e= .returned (.tuple #[.slice (some ⟨g,0,none⟩) l'.length cap,.int .i64 0])∧
  w'.ownsRow w.heap.size 51 12 (.slice (some ⟨g,0,none⟩) l'.length cap) l'.length (aF l')∧bN w' sb s.S V bb dn T∧Mod (fun k=>F k∨eK bb eb ms k) w w'∧∀k,T k→F k∨eK bb eb ms k∨w.heap.size≤k
theorem aRf {dn:Bool} {K:Nat}
  (h:Blk w pb 112 (eD V.g V.l V.a x.secs tx nd sv (some bb) wk ws dn)) (ar:bV w x V F) (ba:aW w bb eb x.gs x.secs ms es) (ht:tx≤4294967294)
  (H:zK (vF x (fO ms) es tx K L)) (bx:K+200≤1000000000) (bz:vS L nd text) (bc:nd.wf):
  Calls prog 12 #[.pointer (some pb)] w (fun e w'=>bIk V F bb eb ms (vF x (fO ms) es tx K L) (kN nd L) w w' e):=by
 obtain⟨ga,dx,dy,dz,ea,wc,ca,_⟩:=ar.form;have h1:V.g.oneCell'=true∧V.l.oneCell'=true∧V.a.oneCell'=true:=by rw[ca];exact⟨rfl,rfl,rfl⟩
 have ai:Hid (Calls prog 42 #[.pointer (some pb),.int .i64 0] w fun e w'=>e= .returned (.pointer (some ⟨w.heap.size,0,none⟩))∧Blk w' w.heap.size 174 (sQ V (vF x (fO ms) es tx K L).S bb none)∧bB w w'):=hZ (wY h h1 (by omega) 0)
 obtain⟨k,j,bd,I⟩:=bGy bz (s:=vF x (fO ms) es tx K L) rfl;obtain⟨ps,aj⟩:=nZ (kN nd L);have Y:Hid (1≤ps.length∧ps.length≤3):=hZ (by rw[aj];exact aIo nd L)
 rw[←aj] at I⊢;obtain⟨s,G⟩:=nZ (vF x (fO ms) es tx K L);have be:Hid (bEe s):=hZ (by rw[G];exact⟨rfl,by show(0:Nat)≤1000000;omega,bx⟩)
 rw[←G] at ai H I⊢;have ak:Hid (∀c,bB w c→Blk c w.heap.size 174 (sQ V s.S bb none)→bN c w.heap.size s.S V bb none (wV w.heap.size bb eb ms none (.slice none 0 0) F)):=hZ (fun c ah dl=>⟨eb,ms,.slice none 0 0,F,⟨dl,by rw[G];exact ar.below ah,by rw[G];exact ba.below ah,by rw[G];rfl,by rw[G];exact⟨rfl,rfl,rfl⟩⟩,fun k=>Iff.rfl⟩)
 have al:Hid (∀k,wV w.heap.size bb eb ms none (.slice none 0 0) F k→F k∨eK bb eb ms k∨w.heap.size≤k):=hZ (fun k j=>by
  rcases j with h1|h1|h1|h1|h1
  ·exact .inl h1
  ·exact .inr (.inl h1)
  ·exact .inr (.inr (by rw[h1];exact d8 _))
  ·cases h1
  ·cases h1)
 obtain⟨T,hT⟩:=nZ (wV w.heap.size bb eb ms none (.slice none 0 0) F);rw[←hT] at ak al;have cp:Hid (∀c,bN c w.heap.size s.S V bb none T→Calls prog 44 #[.iface 100 (.pointer (some ⟨w.heap.size,0,none⟩)),.agg (aN nd).toArray] c (aUo (aPb w.heap.size bb V) c T (.ok ps,s))):=hZ (fun c h2=>by
  have:=aUs (C:=aPb w.heap.size bb V) (st:=s) (F:=T) ⟨⟨none,h2⟩,H⟩ nd bc k (by omega) (.inr bd) (by rw[I];exact be.o)
  rw[I] at this;exact this)
 have Z:cZ w pb 31 (.slice none 0 0):=h.cell 31;have dm:=hZ h;clear ar ba H bz bc ca I bd hT G aj h1 ht bx h;go_in;go_wp2_with fail;refine ai.o.mono ?_;rintro e c ⟨rfl,bf,aa⟩;have bh:=hZ (ak.o c aa bf);have am:=hZ (dm.o.below aa);have ab:=hZ aa;have ac:=fun q a next Q=>eO (P:=prog) (t:=53) (o:=5) (cs:=aN nd) am.o rfl underlying53 rfl cQ q a next Q
 clear bf aa Z ai ak;go_wp2_with fail;refine(cp.o c bh.o).mono ?_;rintro e u ⟨ec,dp,rfl,ad⟩;have bj:¬T pb:=bh.o.noType am.o (by unfold kD cH lZ;decide)
 have an:=hZ (ad.at_.2.1.blk am.o bj);have Z:cZ u pb 31 (.slice none 0 0):=an.o.cell 31;have ao:=hZ ad;obtain⟨dq,cq,rfl⟩:=bT ad.row Y.o.1;have ac:=fun q a next Q=>eO (P:=prog) (t:=53) (o:=18) (cs:=aN nD) an.o rfl underlying53 rfl cQ q a next Q
 have cr:=aXi u;clear ad bj;go_upto_region 8 with fail
 obtain⟨w4,ae⟩:=nZ (u.alloc (.cells (aN nD).toArray 53));have ap:bB u w4:=by rw[ae];exact bZ
 have bl:Blk w4 u.heap.size 53 (aN nD):=by rw[ae];exact Blk.new u _ _
 have bm:=hZ bl;have bn:=hZ (ao.o.below ap);have Z:cZ w4 pb 31 (.slice none 0 0):=(an.o.below ap).cell 31;have ct:Hid (¬dp u.heap.size):=hZ (fun dr=>by have:=ao.o.at_.lt _ dr;omega)
 obtain⟨ed,aq⟩:=nZ u.heap.size;rw[show u.alloc (.cells (aN nD).toArray 53)=w4 from ae.symm,←aq];rw[←aq] at bm ct;have ac:=fun q a next Q=>aB (P:=prog) bm.o underlying53 rfl cQ q a next Q
 have cu:=fun q a next Q=>pH nD w4 q a next Q
 clear ae ap bl cr ao aq;go_wp2_with fail;refine bNb 1 ?_;rw[bMl];go_wp2_with fail;refine bNb 2 ?_;rw[bMl];go_upto_region 16 with fail
 obtain⟨w5,af⟩:=nZ (w4.alloc (.cells (aN nD).toArray 53));have bo:bB w4 w5:=by rw[af];exact bZ
 have bq:Blk w5 w4.heap.size 53 (aN nD):=by rw[af];exact Blk.new w4 _ _
 have br:=hZ (bn.o.below bo);have ac:=fun q a next Q=>aB (P:=prog) bq underlying53 rfl cQ q a next Q
 rw[show w4.alloc (.cells (aN nD).toArray 53)=w5 from af.symm];have bs:=hZ (aYf (C:=aPb w.heap.size bb V) br.o.at_.1 be.o);clear af bo bq cu bn Z;go_wp2_with fail;refine bs.o.mono ?_;rintro e ds ⟨v6,dt,rfl,N⟩;obtain⟨au,ag,ck,cv⟩:=fV.step br.o ⟨dt,N.at_⟩;have cw:=fun b (ah:v6.ownBlock=some b)=>(N.row.lt b ah).1
 obtain⟨cx,cy,rfl⟩:=aY N.row;have cz:=hZ (bI N.row);have da:=hZ ag;have cl:=hZ ag.row;obtain⟨du,H,bt,bu,bv⟩:=bMo aMh;have db:=Y.o;have cb:ps.length+0≤maxLen:=by unfold maxLen;omega
 have cc:(ps.length+0)*96≤140737488355328:=by omega
 have cd:c.heap.size≤ds.heap.size:=ag.at_.size;clear ag N db ck cv cw ac bs;go_wp2_with (at_builtin;go_must (refine sZ rfl (.tmp 70) (.tmp 71) 31 rfl c.heap.size 51 du (.agg yE) 12 96 underlying31 H bt bu bv rfl (Nat.succ_pos 11) (.slice (some dq) ps.length cq) ps.length (aF ps) rfl cl.o cx 0 cy (aF []) rfl cz.o (nV _) cb cc cd ?_;intro ee ce X av ax));have z:=da.o.app (p:=[]) X av ax;rw[bMv] at z;rw[Nat.add_zero] at X;obtain⟨O,dc,rfl⟩:=bT X Y.o.1;have U:=z.row;have dd:=hZ (aVt U (by have:=Y.o.2;omega))
 have cm:=U.lt O rfl;have aw:=z.dis O rfl;have cn:Hid (∀A,A.heap.size≥ce.heap.size→Mod (fun k=>k=O) ce A→(∃dn,bN A w.heap.size s.S V bb dn au)∧Mod (fun k=>F k∨eK bb eb ms k) w A∧∀k,au k→F k∨eK bb eb ms k∨w.heap.size≤k):=hZ (fun A ef D=>by
  refine⟨?_,?_,fun k j=>?_⟩
  ·obtain⟨de,ay⟩:=z.at_.1.1
   refine⟨de,ay.keep (fun k j=>D.block k (ay.lt k j) (fun e=>aw (e▸j))) (fun g cs e fr R cf=>?_)⟩
   rw[D.block g (i8.1 R).1 (fun e2=>by
    obtain⟨eg,eh,dv⟩:=vZ U (g:=O) rfl;rw[e2,dv] at R;simp only[i5,n7] at R;rw[←R.2.1] at cf;exact absurd cf (by unfold cH;decide))]
   exact R
  ·refine((Mod.below ab.o).trans z.at_.2.1 (fun k j h=>?_)).trans D (fun k j h=>?_)
   ·rcases al.o k h with h1|h1|h1
    ·exact .inl h1
    ·exact .inr h1
    ·omega
   ·have:=ab.o.size
    omega
  ·rcases z.at_.2.2 k j with h1|h1
   ·exact al.o k h1
   ·exact .inr (.inr (l6 ab.o.size h1)))
 clear z X av ax U cm aw cb cc cd H bt bu bv;rw[bMl];go_wp2_with fail;refine dd.o.mono ?_;rintro e A ⟨dw,cg,bw,rfl,az,D⟩;obtain⟨⟨co,ch⟩,ci,cj⟩:=cn.o A D.size D;have df:=hZ cg;have dg:=hZ bw;have dh:=hZ (aHy az ab.o.size);have di:=hZ ch;have dj:=hZ ci;have dk:=hZ cj;clear cg bw az D ch ci cj;go_wp2_with fail;go_ret2;exact⟨dw,O,dc,w.heap.size,co,au,df.o,dg.o,rfl,dh.o,di.o,dj.o,dk.o⟩
end
section
attribute [local go_sem ↓] Go.wp_at_zero Go.wp_at_succ
def aZz (w:World) (bb eb:Nat) (gs:Gs) (secs:Int) (ms:List MT) (es:List Nat) (r:Int×SN) (e:Ending) (w':World):Prop:=
 e= .returned (.int .i64 r.1)∧∃eb' ms',aW w' bb eb' gs secs ms' es∧fO ms'=r.2∧(∀k,eK bb eb' ms' k→eK bb eb ms k∨w.heap.size≤k)∧Mod (eK bb eb ms) w w'
theorem aDh (g1 a1 g2 a2:Nat) (two:Bool) (sz lv bi s0 s1 c s3:Int):sP ⟨(g1:Nat),(a1:Nat),(g2:Nat),(a2:Nat),two,sz,lv,bi,s0,s1,c,s3⟩=if two=true then[(g1,a1),(g2,a2)] else[(g1,a1)]:=by cases two<;>simp[sP]
theorem aAt (h:Blk w g e (aA ⟨p0,p1,p2,p3,p4,p5,p6,p7,p8,p9,p10,p11⟩)):w.cell? ⟨g,0,none⟩=some (.int .i64 p0)∧w.cell? ⟨g,1,none⟩=some (.int .i64 p1)∧w.cell? ⟨g,2,none⟩=some (.int .i64 p2)∧w.cell? ⟨g,3,none⟩=some (.int .i64 p3)∧w.cell? ⟨g,4,none⟩=some (.bool p4)∧w.cell? ⟨g,5,none⟩=some (.int .i64 p5)∧w.cell? ⟨g,6,none⟩=some (.int .i64 p6)∧w.cell? ⟨g,7,none⟩=some (.int .i64 p7)∧w.cell? ⟨g,8,none⟩=some (.int .u64 p8)∧w.cell? ⟨g,9,none⟩=some (.int .u64 p9)∧w.cell? ⟨g,10,none⟩=some (.int .u64 p10)∧w.cell? ⟨g,11,none⟩=some (.int .u64 p11):=
 ⟨h.cell 0,h.cell 1,h.cell 2,h.cell 3,h.cell 4,h.cell 5,h.cell 6,h.cell 7,h.cell 8,h.cell 9,h.cell 10,h.cell 11⟩
theorem dF.blk {size:Nat} (h:dF w mb size rs):∃cs,Blk w mb 258 cs:=by
 obtain⟨_,_,_,_,v,c,_⟩:=h;exact⟨_,c⟩
theorem aYd (g1 a1 g2 a2:Nat) (two:Bool) (sz lv bi s0 s1 c s3:Int) (q:1≤bi) (W:World):
  Calls prog 72 #[.agg #[(g1:Nat),(a1:Nat),(g2:Nat),(a2:Nat),two,sz,lv,bi,.int .u64 s0,.int .u64 s1,.int .u64 c,.int .u64 s3]] W fun e w'=>
   ∃g,e= .returned (.slice (some ⟨g,0,none⟩) (sP ⟨(g1:Nat),(a1:Nat),(g2:Nat),(a2:Nat),two,sz,lv,bi,s0,s1,c,s3⟩).length (sP ⟨(g1:Nat),(a1:Nat),(g2:Nat),(a2:Nat),two,sz,lv,bi,s0,s1,c,s3⟩).length)∧W.heap.size≤g∧
    Blk w' g 46 (bG (sP ⟨(g1:Nat),(a1:Nat),(g2:Nat),(a2:Nat),two,sz,lv,bi,s0,s1,c,s3⟩))∧Below W.heap.size W w':=by
 refine(aGq ⟨(g1:Nat),(a1:Nat),(g2:Nat),(a2:Nat),two,sz,lv,bi,s0,s1,c,s3⟩ q W).mono ?_;rintro e w' ⟨g,u,z,h,j⟩;rw[u.o];refine⟨g,?_,z,?_,j⟩
 ·rw[aDh];cases two<;>rfl
 ·rw[aDh];cases two<;>exact h
theorem bEt (h:i<ms.length) (c:ms.getD i mD=(mb,sz,rs)):fO (ms.set i (mb,sz,rs'))=pA (fO ms) i rs':=by
 unfold pA;rw[uX,c];simp[fO,List.map_set]
theorem aQh (h:k<pl.length):pl.getD k (0,0)∈pl:=by rw[a8,b9 h];exact n5 _
theorem aXr (h:k<pl.length):pl.drop k=pl.getD k (0,0)::pl.drop (k+1):=by
 rw[a8,b9 h];exact bNh h
theorem aFv (h:Blk w g e cs) (h2:Blk w k e2 cs2) (c:e≠e2):g≠k:=by
 rintro rfl;unfold Blk at h h2;rw[h] at h2;simp only[i5,n7] at h2;exact c h2.2.1
theorem aOu {size:Nat} (h:w.ownsRow base e size (.slice (some g) n cap) n xs) (h2:Blk w k e2 cs2) (c:e≠e2):g≠k:=by
 obtain⟨cs,j,_⟩:=gK h;exact aFv j h2 c
theorem aPi (h:Blk w mb 258 cs):aNa w (fun k=>k=mb):=fun k c _=>by
 subst c;exact⟨_,_,h,.inr (.inl rfl)⟩
theorem bKm {two:Bool} {sz s0 j:Int} (h:bD gs secs ⟨(g1:Nat),(a1:Nat),(g2:Nat),(a2:Nat),two,sz,lv,bi,s0,s1,j,s3⟩=true):∀x∈sP ⟨(g1:Nat),(a1:Nat),(g2:Nat),(a2:Nat),two,sz,lv,bi,s0,s1,j,s3⟩,x.1<gs.length∧x.2≤32768:=by
 obtain⟨h1,h2,_,_⟩:=gV h;have q:=bK h1;dsimp only at h1 h2 q;intro x c;rw[aDh] at c;cases two
 ·simp only[i9 (show ¬(false=true) by decide),y9] at c
  subst c;dsimp only;omega
 ·have u:=bK (h2 rfl).1
  simp only[if_true,s8,bLp,bNo] at c;rcases c with rfl|rfl<;>dsimp only<;>omega
theorem vT (args:Array Value) (W:World):(callFunc 176 args).run prog W= .ok (.enter 176 args) W:=by kernel_rfl
theorem aYc (bb eb:Nat) (gs:Gs) (secs:Int) (ms:List MT) (es:List Nat) (p:aC) (w:World) (h:aW w bb eb gs secs ms es) (cv:p.ok):
  Calls prog 175 #[.pointer (some ⟨bb,0,none⟩),.agg (aA p).toArray,.func (.func 176) #[] #[]] w (aZz w bb eb gs secs ms es (vK cJ gs secs (fO ms) p)):=by
 have de:=vT;have Z:=aS h.right;obtain⟨K,ao⟩:=nZ (w.alloc (.cells (aA p).toArray 51));have ch:Below w.heap.size w K:=by rw[ao];exact bZ
 have bq:Blk K w.heap.size 51 (aA p):=by rw[ao];exact Blk.new w _ _
 have ci:=h.below ch;obtain⟨gb,ds,fi,hu,fj,aw,ax,cd,dt,am,bl,_,ec,hd,cf⟩:=ci.parts;have br:=hZ (xH (some ⟨gb,0,none⟩) gs.length ds gs secs p K.drew (am.below (i4 _ _).drew) cv);have cj:=hZ ch;have ek:=hZ ci;have hv:=hZ h;have hf:=hZ cv;have em:=hZ h.lt;cases Y:bD gs secs p
 ·have bs:Hid (vK cJ gs secs (fO ms) p=(1,fO ms)):=hZ (by unfold vK;rw[Y];rfl)
  rw[Y] at br;rw[bs.o];obtain⟨ay,az,bg,ae,two,sz,lv,bi,s0,s1,q,s3⟩:=p;obtain⟨c0,ba,c2,c3,bc,bd,be,bf,bh,bj,ap,aq⟩:=aAt bq;clear ch bq ci h cv Y am bl de
  show Calls _ _ #[.pointer (some ⟨bb,0,none⟩),.agg #[.int .i64 ay,.int .i64 az,.int .i64 bg,.int .i64 ae,.bool two,.int .i64 sz,.int .i64 lv,.int .i64 bi,.int .u64 s0,.int .u64 s1,.int .u64 q,.int .u64 s3],.func (.func 176) #[] #[]] _ _
  go_enter func175,ntmps175;go_wp2_with fail;have bn:K=w.alloc (.cells #[.int .i64 ay,.int .i64 az,.int .i64 bg,.int .i64 ae,.bool two,.int .i64 sz,.int .i64 lv,.int .i64 bi,.int .u64 s0,.int .u64 s1,.int .u64 q,.int .u64 s3] 51):=ao;rw[←bn];clear ao bn;go_region_held3 (fun w'=>w'.cell? ⟨bb,0,none⟩=some (.slice (some ⟨gb,0,none⟩) gs.length ds)∧w'.cell? ⟨bb,1,none⟩=some (.int .i64 secs)∧w'.cell? ⟨w.heap.size,0,none⟩=some (.int .i64 ay)∧w'.cell? ⟨w.heap.size,1,none⟩=some (.int .i64 az)∧w'.cell? ⟨w.heap.size,2,none⟩=some (.int .i64 bg)∧w'.cell? ⟨w.heap.size,3,none⟩=some (.int .i64 ae)∧w'.cell? ⟨w.heap.size,4,none⟩=some (.bool two)∧w'.cell? ⟨w.heap.size,5,none⟩=some (.int .i64 sz)∧w'.cell? ⟨w.heap.size,6,none⟩=some (.int .i64 lv)∧w'.cell? ⟨w.heap.size,7,none⟩=some (.int .i64 bi)∧w'.cell? ⟨w.heap.size,8,none⟩=some (.int .u64 s0)∧w'.cell? ⟨w.heap.size,9,none⟩=some (.int .u64 s1)∧w'.cell? ⟨w.heap.size,10,none⟩=some (.int .u64 q)∧w'.cell? ⟨w.heap.size,11,none⟩=some (.int .u64 s3)) (go_keep)
   (first|(go_at_call 71;refine br.o.mono ?_;rintro e w5 ⟨rfl,bt⟩;have aa:=hZ ((i4 K.heap.size K).drew.trans bt);have c:∀a u,K.cell? a=some u→w5.cell? a=some u:=fun a u ab=>(aa.o.cell (World.block_lt_of_cell? K a ab)).trans ab;have en:=hZ c;have fk:=c _ _ c0;have fl:=c _ _ ba;have fm:=c _ _ c2;have fo:=c _ _ c3;have fp:=c _ _ bc;have fq:=c _ _ bd;have fs:=c _ _ be;have ft:=c _ _ bf;have fu:=c _ _ bh;have fv:=c _ _ bj;have eo:=c _ _ ap;have ep:=c _ _ aq;have u0:=c _ _ aw;have u1:=c _ _ ax;clear c bt))
  go_wp2_with fail;go_ret;exact⟨rfl,eb,ms,ek.o.below aa.o,rfl,fun k G=> .inl G,Mod.below (cj.o.trans (aa.o.mono cj.o.size))⟩
 ·have H:=gV Y
  have fw:=bK H.1;obtain⟨ay,az,bg,ae,two,sz,lv,bi,s0,s1,q,s3⟩:=p;dsimp only at H fw;obtain⟨g1,rfl⟩:∃x:Nat,ay=x:=⟨ay.toNat,by omega⟩
  obtain⟨a1,rfl⟩:∃x:Nat,az=x:=⟨az.toNat,by omega⟩
  obtain⟨size,rfl⟩:∃x:Nat,sz=x:=⟨sz.toNat,by omega⟩
  have af:0≤bg∧0≤ae:=by
   cases two
   ·have:=H.2.2.1 rfl;omega
   ·have hw:=bK (H.2.1 rfl).1;omega
  obtain⟨g2,rfl⟩:∃x:Nat,bg=x:=⟨bg.toNat,by omega⟩
  obtain⟨a2,rfl⟩:∃x:Nat,ae=x:=⟨ae.toNat,by omega⟩
  have df:=hZ (fun W=>aYd g1 a1 g2 a2 two (size:Nat) lv bi s0 s1 q s3 H.2.2.2.2.2.1 W)
  have dg:=bKm Y;have bs:=hZ (show vK cJ gs secs (fO ms) ⟨(g1:Nat),(a1:Nat),(g2:Nat),(a2:Nat),two,(size:Nat),lv,bi,s0,s1,q,s3⟩=if(kH cJ gs secs (size:Nat) (sP ⟨(g1:Nat),(a1:Nat),(g2:Nat),(a2:Nat),two,(size:Nat),lv,bi,s0,s1,q,s3⟩) (fO ms)).1=0 then kH cJ gs secs (size:Nat) (sP ⟨(g1:Nat),(a1:Nat),(g2:Nat),(a2:Nat),two,(size:Nat),lv,bi,s0,s1,q,s3⟩) (fO ms) else((kH cJ gs secs (size:Nat) (sP ⟨(g1:Nat),(a1:Nat),(g2:Nat),(a2:Nat),two,(size:Nat),lv,bi,s0,s1,q,s3⟩) (fO ms)).1,fO ms) from by unfold vK;rw[i6 Y])
  have ge:(sP ⟨(g1:Nat),(a1:Nat),(g2:Nat),(a2:Nat),two,(size:Nat),lv,bi,s0,s1,q,s3⟩).length≤2:=by rw[aDh];cases two<;>simp
  obtain⟨pl,eq⟩:∃l,l=sP ⟨(g1:Nat),(a1:Nat),(g2:Nat),(a2:Nat),two,(size:Nat),lv,bi,s0,s1,q,s3⟩:=⟨_,rfl⟩;rw[←eq] at df dg bs ge;rw[Y] at br;obtain⟨c0,ba,c2,c3,bc,bd,be,bf,bh,bj,ap,aq⟩:=aAt bq;have er:=hZ bq;have gg:=hZ dg;have hg:=hZ Z;clear ch bq ci h cv Y am bl de H fw af dg eq Z;have de:=vT
  show Calls _ _ #[.pointer (some ⟨bb,0,none⟩),.agg #[.int .i64 (g1:Nat),.int .i64 (a1:Nat),.int .i64 (g2:Nat),.int .i64 (a2:Nat),.bool two,.int .i64 (size:Nat),.int .i64 lv,.int .i64 bi,.int .u64 s0,.int .u64 s1,.int .u64 q,.int .u64 s3],.func (.func 176) #[] #[]] _ _
  go_enter func175,ntmps175;go_wp2_with fail;have bn:K=w.alloc (.cells #[.int .i64 (g1:Nat),.int .i64 (a1:Nat),.int .i64 (g2:Nat),.int .i64 (a2:Nat),.bool two,.int .i64 (size:Nat),.int .i64 lv,.int .i64 bi,.int .u64 s0,.int .u64 s1,.int .u64 q,.int .u64 s3] 51):=ao;rw[←bn];clear ao bn;go_region_held3 (fun w'=>w'.cell? ⟨bb,0,none⟩=some (.slice (some ⟨gb,0,none⟩) gs.length ds)∧w'.cell? ⟨bb,1,none⟩=some (.int .i64 secs)∧w'.cell? ⟨w.heap.size,0,none⟩=some (.int .i64 (g1:Nat))∧w'.cell? ⟨w.heap.size,1,none⟩=some (.int .i64 (a1:Nat))∧w'.cell? ⟨w.heap.size,2,none⟩=some (.int .i64 (g2:Nat))∧w'.cell? ⟨w.heap.size,3,none⟩=some (.int .i64 (a2:Nat))∧w'.cell? ⟨w.heap.size,4,none⟩=some (.bool two)∧w'.cell? ⟨w.heap.size,5,none⟩=some (.int .i64 (size:Nat))∧w'.cell? ⟨w.heap.size,6,none⟩=some (.int .i64 lv)∧w'.cell? ⟨w.heap.size,7,none⟩=some (.int .i64 bi)∧w'.cell? ⟨w.heap.size,8,none⟩=some (.int .u64 s0)∧w'.cell? ⟨w.heap.size,9,none⟩=some (.int .u64 s1)∧w'.cell? ⟨w.heap.size,10,none⟩=some (.int .u64 q)∧w'.cell? ⟨w.heap.size,11,none⟩=some (.int .u64 s3)) (go_keep)
   (first|(go_at_call 71;refine br.o.mono ?_;rintro e w5 ⟨rfl,bt⟩;have aa:=hZ ((i4 K.heap.size K).drew.trans bt);have c:∀a u,K.cell? a=some u→w5.cell? a=some u:=fun a u ab=>(aa.o.cell (World.block_lt_of_cell? K a ab)).trans ab;have en:=hZ c;have fk:=c _ _ c0;have fl:=c _ _ ba;have fm:=c _ _ c2;have fo:=c _ _ c3;have fp:=c _ _ bc;have fq:=c _ _ bd;have fs:=c _ _ be;have ft:=c _ _ bf;have fu:=c _ _ bh;have fv:=c _ _ bj;have eo:=c _ _ ap;have ep:=c _ _ aq;have u0:=c _ _ aw;have u1:=c _ _ ax;clear c bt))
  clear en u0 u1 c0 ba c2 c3 bc bd be bf bh bj ap aq aw ax cd dt;have cy:=hZ (ek.o.below aa.o);have ck:=hZ (cj.o.trans (aa.o.mono cj.o.size));have et:=hZ (er.o.below aa.o);have eu:=hZ (aBn bb eb gs secs ms es w5 cy.o);go_wp2_with fail;refine eu.o.mono ?_;rintro e hx ⟨fx,du,cw,rfl,gh,bu,ev,cl⟩;have ew:=hZ bu;have ed:∀k,eK fx du (cpM ms cw) k→w.heap.size≤k:=fun k G=>by have h1:=ev k G;have h2:=ck.o.size;omega
  have dh:=hZ ed;have di:=hZ (ck.o.trans (cl.mono ck.o.size));have ee:=hZ (cy.o.below cl);have dj:=hZ (et.o.below cl);obtain⟨c0,ba,c2,c3,bc,bd,be,bf,bh,bj,ap,aq⟩:=aAt dj.o;clear bu ev cl ed gh fk fl fm fo fp fq fs ft fu fv eo ep;go_wp2_with fail;refine(df.o _).mono ?_;rintro e hy ⟨dv,rfl,gi,R,bv⟩;have ex:=hZ (di.o.trans (bv.mono di.o.size));have ef:=hZ (ee.o.below bv);have eg:=hZ (ew.o.below bv);have ey:=hZ (dj.o.below bv);have ez:=hZ R;have fa:=hZ (Mod.below (F:=eK bb eb ms) ex.o);clear R bv c0 ba c2 c3 bc bd be bf bh bj ap aq gi;go_wp2_with fail;go_loopw [27] (fun i wr=>∃(k:Nat) (mk:List MT),k≤pl.length∧i= .int .i64 (k:Nat)∧Hid (aW wr bb eb gs secs mk es)∧Hid (mk.map (·.1)=ms.map (·.1))∧Hid (kH cJ gs secs (size:Nat) pl (fO ms)=kH cJ gs secs (size:Nat) (pl.drop k) (fO mk))∧Hid (aW wr fx du gs secs (cpM ms cw) es)∧Hid (Blk wr dv 46 (bG pl))∧Hid (Blk wr w.heap.size 51 (aA ⟨(g1:Nat),(a1:Nat),(g2:Nat),(a2:Nat),two,(size:Nat),lv,bi,s0,s1,q,s3⟩))∧Hid (Mod (eK bb eb ms) w wr)) (fun i _=>pl.length-(intOf i).toNat)
  case atStart=>exact⟨0,ms,by omega,rfl,ef,hZ rfl,hZ (by rw[bOf]),eg,ez,ey,fa⟩
  case round=>
   obtain⟨k,mk,G,rfl,U,an,fb,bu,R,cm,cz⟩:=hrel;clear ef eg ez ey fa ex di ck cy ee ew et dj er eu df br;by_cases dk:k<pl.length
   ·obtain⟨x,dw⟩:=nZ (pl.getD k (0,0))
    have fc:x∈pl:=by rw[dw];exact aQh dk
    obtain⟨ar,gj⟩:=gg.o x fc;have dl:=aXr dk;have bw:=eW pl k dk;rw[←dw] at dl bw;obtain⟨j,D⟩:=x;dsimp only at ar gj bw;have p0:wr.cell? ⟨dv,k*2,none⟩=some (.int .i64 (j:Nat)):=(R.o.cell _).trans bw.1;have p1:wr.cell? ⟨dv,k*2+1,none⟩=some (.int .i64 (D:Nat)):=(R.o.cell _).trans bw.2;obtain⟨m,H⟩:=nZ (mk.getD j mD);have bx:=U.o.map_at ar;have cn:∀{W A} {rs'},aW W bb eb gs secs mk es→W.grownBy A (some (mk.getD j mD).1)→dF A (mk.getD j mD).1 (mk.getD j mD).2.1 rs'→aW A bb eb gs secs (mk.set j ((mk.getD j mD).1,(mk.getD j mD).2.1,rs')) es:=fun gp dx H=>gp.setMap ar dx H
    have co:=U.o.footMap ar;have cp:=fun r=>pO mk j r
    rw[←H] at bx cn co cp;obtain⟨mb,sz,rs⟩:=m;dsimp only at bx cn co cp;obtain⟨hh,al⟩:=bx.blk;obtain⟨bz,ca,O,cq,hi,aw,ax,cd,dt,am,bl,_,ec,_,cf⟩:=U.o.parts;have cx:=bl j ar;rw[←H] at cx;dsimp only at cx;have da:bb≠mb:=by obtain⟨gq,fi,fj,h1,_⟩:=U.o.mem;exact aFv h1 al (by decide)
    have gf:O≠mb:=by
     obtain⟨gq,fi,fj,h1,_,dy,_⟩:=U.o.mem;have e2:=h1.cell 2;rw[cd] at e2;simp only[n8,m9,i5] at e2;subst e2;exact aOu dy al (by decide)
    have db:w.heap.size≠mb:=aFv cm.o al (by decide)
    have he:mb<wr.heap.size:=al.lt;obtain⟨t,ht⟩:=nZ (bO gs secs (j:Nat) (size:Nat));obtain⟨I,au⟩:=nZ (wr.alloc (.cells #[.int .i64 (j:Nat),.int .i64 (D:Nat)] 46));have av:Below wr.heap.size wr I:=by rw[au];exact bZ
    have dm:Blk I wr.heap.size 46 [.int .i64 (j:Nat),.int .i64 (D:Nat)]:=by rw[au];exact Blk.new wr _ _
    have dp:=rV (some ⟨bz,0,none⟩) gs.length ca gs secs (j:Nat) (size:Nat) I.drew ((am.below av).below (i4 _ _).drew);rw[←ht] at dp;have ea:kH cJ gs secs (size:Nat) pl (fO ms)=if(cJ sz rs (D:Nat) t).1=0 then kH cJ gs secs (size:Nat) (pl.drop (k+1)) (fO (mk.set j (mb,sz,(cJ sz rs (D:Nat) t).2))) else((cJ sz rs (D:Nat) t).1,fO mk):=by
     rw[fb.o,dl,kH];dsimp only;rw[uX,←H,←ht,bEt (by rw[U.o.mlen];exact ar) H.symm]
    have fd:∀W,Below I.heap.size I W→Calls prog 176 #[.pointer (some ⟨mb,0,none⟩),.int .i64 (D:Nat),.int .i64 t] W fun e w'=>e= .returned (.int .i64 (cJ sz rs (D:Nat) t).1)∧dF w' mb sz (cJ sz rs (D:Nat) t).2∧W.grownBy w' (some mb):=fun W ag=>aQd mb sz rs (D:Nat) t W ((bx.below av).below ag)
    have ce:∀W,Below I.heap.size I W→W.cell? ⟨bb,0,none⟩=some (.slice (some ⟨bz,0,none⟩) gs.length ca)∧W.cell? ⟨bb,1,none⟩=some (.int .i64 secs)∧W.cell? ⟨bb,2,none⟩=some (.slice (some ⟨O,0,none⟩) gs.length cq)∧W.cell? ⟨O,j,none⟩=some (.pointer (some ⟨mb,0,none⟩))∧W.cell? ⟨wr.heap.size,0,none⟩=some (.int .i64 (j:Nat))∧W.cell? ⟨wr.heap.size,1,none⟩=some (.int .i64 (D:Nat))∧W.cell? ⟨w.heap.size,5,none⟩=some (.int .i64 (size:Nat)):=fun W ag=>by
     have af:=av.trans (ag.mono av.size);exact⟨(af.cell (p:=⟨bb,0,none⟩) cf).trans aw,(af.cell (p:=⟨bb,1,none⟩) cf).trans ax,(af.cell (p:=⟨bb,2,none⟩) cf).trans cd,(af.cell (p:=⟨O,j,none⟩) ec).trans cx,(dm.below ag).cell 0,(dm.below ag).cell 1,((cm.o.below af).cell 5)⟩
    have dz:∀W A,Below I.heap.size I W→W.grownBy A (some mb)→A.cell? ⟨bb,0,none⟩=some (.slice (some ⟨bz,0,none⟩) gs.length ca)∧A.cell? ⟨bb,1,none⟩=some (.int .i64 secs)∧A.cell? ⟨bb,2,none⟩=some (.slice (some ⟨O,0,none⟩) gs.length cq)∧A.cell? ⟨O,j,none⟩=some (.pointer (some ⟨mb,0,none⟩))∧A.cell? ⟨wr.heap.size,0,none⟩=some (.int .i64 (j:Nat))∧A.cell? ⟨wr.heap.size,1,none⟩=some (.int .i64 (D:Nat))∧A.cell? ⟨w.heap.size,5,none⟩=some (.int .i64 (size:Nat)):=fun W A ag dx=>by
     obtain⟨k0,k1,gr,gt,gu,gv,gw⟩:=ce W ag;have ac:∀a u,W.cell? a=some u→a.block≠mb→A.cell? a=some u:=fun a u ab gl=>(dx.cell_far a (World.block_lt_of_cell? W a ab) (fun e=>gl (bMs e))).trans ab
     exact⟨ac _ _ k0 da,ac _ _ k1 da,ac _ _ gr da,ac _ _ gt gf,ac _ _ gu (by show wr.heap.size≠mb;omega),ac _ _ gv (by show wr.heap.size≠mb;omega),ac _ _ gw db⟩
    obtain⟨r0,r1,r2,fy,fz,gc,gd⟩:=ce I (i4 _ _);have fe:=hZ dp;have dq:=hZ fd;have ff:=hZ ce;have fg:=hZ dz;have bm:=hZ ea;have fh:Hid (∀W A rs',aW W bb eb gs secs mk es→W.grownBy A (some mb)→dF A mb sz rs'→aW A bb eb gs secs (mk.set j (mb,sz,rs')) es):=hZ (fun W A rs'=>cn)
    have cr:=hZ co;have gm:=hZ cp;have ct:=hZ av;have cu:=hZ al;clear dp fd ce dz ea cn co cp av dm bx bl am aw ax cd dt cx dw fc dl bw H ht al;obtain⟨r,hr⟩:=nZ ((cJ sz rs (D:Nat) t).1);obtain⟨rs',eh⟩:∃r,r=(cJ sz rs (D:Nat) t).2:=⟨_,rfl⟩;rw[←hr,←eh] at dq bm;clear hr eh;by_cases Z:r=0
    ·subst Z
     rw[i6 rfl] at bm;go_wp2_with fail;rw[←au];clear au p0 p1;go_region_held3 (fun w'=>w'.cell? ⟨bb,0,none⟩=some (.slice (some ⟨bz,0,none⟩) gs.length ca)∧w'.cell? ⟨bb,1,none⟩=some (.int .i64 secs)∧w'.cell? ⟨bb,2,none⟩=some (.slice (some ⟨O,0,none⟩) gs.length cq)∧w'.cell? ⟨O,j,none⟩=some (.pointer (some ⟨mb,0,none⟩))∧w'.cell? ⟨wr.heap.size,0,none⟩=some (.int .i64 (j:Nat))∧w'.cell? ⟨wr.heap.size,1,none⟩=some (.int .i64 (D:Nat))∧w'.cell? ⟨w.heap.size,5,none⟩=some (.int .i64 (size:Nat))) (go_keep)
      (first
       |(go_at_call 36;refine fe.o.mono ?_;rintro e w8 ⟨rfl,z⟩;have X:=hZ ((i4 I.heap.size I).drew.trans z);obtain⟨s0,s1,q,s3,ah,ai,aj⟩:=ff.o w8 X.o;clear z)
       |(go_at_call 176;refine(dq.o w8 X.o).mono ?_;rintro e ak ⟨rfl,cb,ad⟩;clear s0 s1 q s3 ah ai aj;obtain⟨s0,s1,q,s3,ah,ai,aj⟩:=fg.o w8 ak X.o ad;have dr:=hZ cb;have cc:=hZ ad;clear cb ad))
     have z:=ct.o.trans (X.o.mono ct.o.size);have N:Mod (fun k=>k=mb) w8 ak:=Mod.grown cc.o rfl
     have bo:aNa w8 (fun k=>k=mb):=aPi (cu.o.below z)
     have dc:=hZ (fh.o w8 ak rs' (U.o.below z) cc.o dr.o);have cg:=hZ ((bu.o.below z).keep N bo (fun k G e=>by subst e;have h1:=dh.o k G;have h2:=cr.o;rw[oP an.o] at h2;have dy:=em.o k h2;omega))
     have ei:=hZ (N.blk (R.o.below z) (fun e=>by have:=aFv R.o cu.o (by decide);exact this e))
     have ej:=hZ (N.blk (cm.o.below z) db);have dd:=hZ ((cz.o.trans' z).trans N (fun k _ e=>by subst e;have h2:=cr.o;rw[oP an.o] at h2;exact h2))
     clear z N bo s0 s1 q s3 ah ai aj r0 r1 r2 fy fz gc gd;go_wp2_with fail;go_roundw
     case rel=>exact⟨k+1,_,by omega,by go_num,dc,hZ ((gm.o _).trans an.o),bm,cg,ei,ej,dd⟩
     case measure=>simp[intOf];omega
    ·have hj:(r == 0)=false:=by simpa using Z
     rw[i9 Z] at bm;have gn:=hZ Z;clear Z;go_wp2_with fail;rw[←au];clear au p0 p1;go_region_held3 (fun w'=>w'.cell? ⟨bb,0,none⟩=some (.slice (some ⟨bz,0,none⟩) gs.length ca)∧w'.cell? ⟨bb,1,none⟩=some (.int .i64 secs)∧w'.cell? ⟨bb,2,none⟩=some (.slice (some ⟨O,0,none⟩) gs.length cq)∧w'.cell? ⟨O,j,none⟩=some (.pointer (some ⟨mb,0,none⟩))∧w'.cell? ⟨wr.heap.size,0,none⟩=some (.int .i64 (j:Nat))∧w'.cell? ⟨wr.heap.size,1,none⟩=some (.int .i64 (D:Nat))∧w'.cell? ⟨w.heap.size,5,none⟩=some (.int .i64 (size:Nat))) (go_keep)
      (first
       |(go_at_call 36;refine fe.o.mono ?_;rintro e w8 ⟨rfl,z⟩;have X:=hZ ((i4 I.heap.size I).drew.trans z);obtain⟨s0,s1,q,s3,ah,ai,aj⟩:=ff.o w8 X.o;clear z)
       |(go_at_call 176;refine(dq.o w8 X.o).mono ?_;rintro e ak ⟨rfl,cb,ad⟩;clear s0 s1 q s3 ah ai aj;obtain⟨s0,s1,q,s3,ah,ai,aj⟩:=fg.o w8 ak X.o ad;have dr:=hZ cb;have cc:=hZ ad;clear cb ad))
     have z:=ct.o.trans (X.o.mono ct.o.size);have N:Mod (fun k=>k=mb) w8 ak:=Mod.grown cc.o rfl
     have bo:aNa w8 (fun k=>k=mb):=aPi (cu.o.below z)
     have dc:=hZ (fh.o w8 ak rs' (U.o.below z) cc.o dr.o);have cg:=hZ ((bu.o.below z).keep N bo (fun k G e=>by subst e;have h1:=dh.o k G;have h2:=cr.o;rw[oP an.o] at h2;have dy:=em.o k h2;omega))
     have ei:=hZ (N.blk (R.o.below z) (fun e=>by have:=aFv R.o cu.o (by decide);exact this e))
     have ej:=hZ (N.blk (cm.o.below z) db);have dd:=hZ ((cz.o.trans' z).trans N (fun k _ e=>by subst e;have h2:=cr.o;rw[oP an.o] at h2;exact h2))
     clear z N bo s0 s1 q s3 ah ai aj r0 r1 r2 fy fz gc gd;obtain⟨hk,hl,hm,hn,ho,gx,hz,d2,gy,_,_,_,_,_,_⟩:=cg.o.parts;obtain⟨hp,hq,hs,j1,_,_,_⟩:=dc.o.mem;have e0:=j1.cell 0;have ia:=j1.cell 1;have e2:=j1.cell 2;have ib:=j1.cell 3;have ic:=j1.frozen 0;have ie:=j1.frozen 1;have ig:=j1.frozen 2;have ih:=j1.frozen 3;have gz:=hZ j1;have ha:=hZ gx;have hb:=hZ d2;have hc:=hZ gy;clear j1;go_wp2_with fail;go_ret;rw[bs.o,bm.o];dsimp only;rw[i9 gn.o];refine⟨rfl,du,cpM ms cw,cg.o.restore gz.o rfl ha.o hb.o hc.o,aUt ms cw,fun k G=>?_,(((dd.o.setCell (.inl (.inl rfl))).setCell (.inl (.inl rfl))).setCell (.inl (.inl rfl))).setCell (.inl (.inl rfl))⟩
     rcases G with rfl|G
     ·exact .inl (.inl rfl)
     ·exact .inr (dh.o k (.inr G))
   ·have go:k=pl.length:=by omega
    subst go;go_wp2_with fail;go_ret;rw[bs.o,fb.o,List.drop_length];exact⟨rfl,eb,mk,U.o,rfl,fun k G=> .inl (by rw[oP an.o] at G;exact G),cz.o⟩
theorem bBq (bb eb:Nat) (gs:Gs) (secs:Int) (ms:List MT) (es:List Nat) (p:aC) (w:World) (h:aW w bb eb gs secs ms es) (j:p.ok):
  Calls prog 111 #[.pointer (some bb),.agg (aA p).toArray] w (aZz w bb eb gs secs ms es (vK cJ gs secs (fO ms) p)):=by
 have c:bB w (w.alloc (.cells (aA p).toArray 51)):=bZ;have q:=hZ (aYc bb eb gs secs ms es p _ (h.below c) j);have u:=hZ c;have Z:=hZ h.lt;clear c h j;obtain⟨H,I,bg,K,two,sz,lv,bi,s0,s1,N,s3⟩:=p;generalize vK cJ gs secs (fO ms) _=r at q⊢
 show Calls _ _ #[.pointer (some bb),.agg #[H,I,bg,K,two,sz,lv,bi,.int .u64 s0,.int .u64 s1,.int .u64 N,.int .u64 s3]] _ _
 go_in;go_wp21;refine q.o.mono ?_;rintro e aa ⟨rfl,D,G,h1,h2,z,A⟩;have O:=hZ h1;have R:=hZ h2;have U:=hZ z;have X:=hZ A;clear h1 h2 z A;go_wp21;go_ret;exact⟨rfl,D,G,O.o,R.o,fun k Y=>(U.o k Y).elim .inl (fun h=> .inr (l6 u.o.size h)),(Mod.below u.o).trans X.o (fun _ _ h=>h)⟩
end
section
theorem bHz (h:W.ownsRow b 51 12 (.slice (some g) l.length cap) l.length (aF l)) (q:k<l.length):W.rangeAt g (k*12) (aA (l.getD k pD)):=by
 intro j v c;have u:j<12:=by have:=(bMy.1 c).1;exact this
 rw[h.cellAt (k*12+j) (by omega)]
 have:=jQ (f:=aA) (K:=12) (fun _=>rfl) l k j pD q u
 unfold aF;rw[this];exact c
theorem aAi (l:List aC):(mB l).Sublist l:=by
 have h:(mB l).Sublist ((List.range l.length).map fun j=>l.getD j pD):=by
  unfold mB aIr nG;exact List.filter_sublist.map _
 have e:((List.range l.length).map fun j=>l.getD j pD)=l:=bNw (by simp) fun i h1 h2=>by simp[a8,h2]
 rw[e] at h;exact h
theorem bDd {c:List aC} (h:c.Perm (mB l)) (j:(l.flatMap (eJ gs secs)).Pairwise Dis):(c.flatMap (eJ gs secs)).Pairwise Dis:=by
 exact((h.flatMap_right (eJ gs secs)).pairwise_iff (Dis.symm)).2 (j.sublist (aGj (aAi l) (eJ gs secs)))
structure PB (B:Nat) (w w':World):Prop where
 bel:Below B w w'
 ty:∀(g:Nat) cs e fr,w.heap[g]?=some (Obj.cells cs e fr)→¬kD e→e≠112→w'.heap[g]?=some (Obj.cells cs e fr)
theorem PB.size {B:Nat} (h:PB B w w'):w.heap.size≤w'.heap.size:=h.bel.size
theorem PB.trans {B:Nat} {a b c:World} (h:PB B a b) (k:PB B b c):PB B a c:=⟨h.bel.trans k.bel,fun g cs e fr j h1 h2=>k.ty g cs e fr (h.ty g cs e fr j h1 h2) h1 h2⟩
theorem oD {B:Nat} (h:bB w w') (j:B≤w.heap.size):PB B w w':=⟨h.mono j,fun g cs e fr c _ _=>by rw[h.block g (i8.1 c).1];exact c⟩
theorem PB.drew {B:Nat} (h:PB B w w'):PB B w w'.drew:=⟨h.bel.drew,h.ty⟩
theorem PB.blk {B:Nat} (h:PB B w w') (c:Blk w g e cs) (h1:¬kD e) (h2:e≠112):Blk w' g e cs:=h.ty g _ _ _ c h1 h2
structure dV (B:Nat) (w:World) (pb:Nat) (x:aK) (V:kE) (tx:Nat) (nd:aM) (st:List (Nat×Nat)) (ga cap bb eb:Nat) (ms:List MT) (es:List Nat) (F:Nat→Prop) (wk ws:Option Addr) (dn:Bool):Prop where
 blk:Blk w pb 112 (eD V.g V.l V.a x.secs tx nd (.slice (some ⟨ga,0,none⟩) st.length cap) (some ⟨bb,0,none⟩) wk ws dn)
 dvs:bV w x V F
 st:w.ownsRow B 69 2 (.slice (some ⟨ga,0,none⟩) st.length cap) st.length (bG st)
 bok:aW w bb eb x.gs x.secs ms es
 pbB:B≤pb
 FB:∀k,F k→B≤k
 fB:∀k,eK bb eb ms k→B≤k
def jB (B:Nat) (w:World) (pb:Nat) (x:aK) (V:kE) (tx:Nat) (nd:aM) (st:List (Nat×Nat)) (sn:SN) (es:List Nat) (wk ws:Option Addr) (dn:Bool):Prop:=∃ga cap bb eb ms F,dV B w pb x V tx nd st ga cap bb eb ms es F wk ws dn∧fO ms=sn
theorem dV.below {B:Nat} {dn:Bool} (h:dV B w pb x V tx nd st ga cap bb eb ms es F wk ws dn) (c:bB w w'):dV B w' pb x V tx nd st ga cap bb eb ms es F wk ws dn:=
 ⟨h.blk.below c,h.dvs.below c,aD h.st c,h.bok.below c,h.pbB,h.FB,h.fB⟩
def BkR (w5:World) (bb:Nat) (gs:Gs) (secs:Int) (l:List aC) (k:Nat) (wr:World):Prop:=∃eb ms,aW wr bb eb gs secs ms (List.replicate gs.length 0)∧zZ gs secs (fO ms) ((l.take k).flatMap (eJ gs secs))∧(∀j,eK bb eb ms j→w5.heap.size≤j)∧Below w5.heap.size w5 wr
theorem BkR.below (h:BkR w5 bb gs secs l k wr) (c:bB wr wc):BkR w5 bb gs secs l k wc:=by
 obtain⟨eb,ms,h1,h2,q,j⟩:=h;exact⟨eb,ms,h1.below c,h2,q,j.trans (c.mono j.size)⟩
theorem BkR.mark (h:BkR w5 bb gs secs l k wr) (c:k<l.length) (u:∀p∈l,bD gs secs p=true∧p.ok) (K:(l.flatMap (eJ gs secs)).Pairwise Dis):
  Calls prog 111 #[.pointer (some ⟨bb,0,none⟩),.agg (aA (l.getD k pD)).toArray] wr fun e w'=>e= .returned (.int .i64 0)∧BkR w5 bb gs secs l (k+1) w':=by
 obtain⟨eb,ms,h1,h2,z,q⟩:=h;have A:l.getD k pD∈l:=by rw[a8,b9 c];exact n5 c
 have D:l.take (k+1)=l.take k++[l.getD k pD]:=by rw[List.take_add_one,a8,b9 c];rfl
 have N:∀s∈eJ gs secs (l.getD k pD),∀t∈(l.take k).flatMap (eJ gs secs),Dis s t:=fun s O t ht=>by
  have G:((l.take (k+1)).flatMap (eJ gs secs)).Pairwise Dis:=K.sublist (aGj (List.take_sublist _ _) _);rw[D,bNn,bNs] at G;exact(G.2.2 t ht s (by simpa using O)).symm
 obtain⟨R,U⟩:=bFm (u _ A).1 h2 N;refine(bBq bb eb gs secs ms _ (l.getD k pD) wr h1 (u _ A).2).mono ?_;rintro e w' ⟨rfl,H,I,X,Y,Z,aa⟩;refine⟨by rw[R],H,I,X,?_,fun j ab=>?_,q.trans (aa.toBelow z q.size)⟩
 ·rw[Y,D,bNn]
  simpa using U
 ·rcases Z j ab with h|h
  ·exact z j h
  ·exact l6 q.size h
theorem dV.notIn {B:Nat} {dn:Bool} (h:dV B w pb x V tx nd st ga cap bb eb ms es F wk ws dn) {cs:Array Value} (j:w.heap[g]?=some (Obj.cells cs e fr)) (q:¬kD e):¬(F g∨eK bb eb ms g):=by
 rintro(h1|h1)
 ·exact q (.inr (.inl (h.dvs.type g h1 cs e fr j)))
 ·obtain⟨u,z,h2,c⟩:=h.bok.tyOk g h1 (i8.1 j).1
  rw[j] at h2;simp only[i5,n7] at h2;rw[←h2.2.1] at c;exact q (.inl (by unfold cH;rcases c with c|c|c<;>simp[c]))
theorem dV.pbIn {B:Nat} {dn:Bool} (h:dV B w pb x V tx nd st ga cap bb eb ms es F wk ws dn):¬(F pb∨eK bb eb ms pb):=h.notIn h.blk (by unfold kD cH lZ;decide)
theorem dV.gaIn {B:Nat} {dn:Bool} (h:dV B w pb x V tx nd st ga cap bb eb ms es F wk ws dn):¬(F ga∨eK bb eb ms ga):=by
 obtain⟨c,j,h1⟩:=cC h.st (g:=ga) rfl;exact h.notIn h1 (by unfold kD cH lZ;decide)
theorem dV.read {B:Nat} {dn:Bool} (h:dV B w pb x V tx nd st ga cap bb eb ms es F wk ws dn) (R:B≤w.heap.size)
  {d:Option Nat} (U:bN w' sb S V bb d T) (G:S.x=x) (H:S.sn=fO ms) (I:S.es=es) (q:Mod (fun k=>F k∨eK bb eb ms k) w w') (hT:∀k,T k→F k∨eK bb eb ms k∨w.heap.size≤k):(∃K z X,dV B w' pb x V tx nd st ga cap bb K z es X wk ws dn∧fO z=fO ms)∧PB B w w':=by
 obtain⟨N,O,Y,F2,u,A⟩:=U;have D:∀k,T k→B≤k:=fun k c=>by
  rcases hT k c with h1|h1|h1
  ·exact h.FB k h1
  ·exact h.fB k h1
  ·omega
 refine⟨⟨N,O,F2,⟨q.blk h.blk h.pbIn,?_,dH q h.st (fun g j=>by cases j;exact h.gaIn),?_,h.pbB,fun k c=>D k ((A k).2 (.inl c)),fun k c=>D k ((A k).2 (.inr (.inl c)))⟩,by rw[u.sn,H]⟩,?_⟩
 ·rw[←G];exact u.dvs
 ·rw[←G,←I];exact u.bok
 ·exact⟨q.toBelow (fun k c=>by rcases c with h1|h1;exact h.FB k h1;exact h.fB k h1) R,fun g cs e fr j h1 h2=>by rw[q.block g (i8.1 j).1 (h.notIn j h1)];exact j⟩
theorem sF {cs:Array Value} (h:Blk w pb 112 zs) (c:w.heap[g]?=some (Obj.cells cs e fr)) (j:e≠112):g≠pb:=fun e2=>by
 subst e2;unfold Blk at h;rw[h] at c;simp only[i5,n7] at c;exact j c.2.1.symm
theorem dV.ownPB {B:Nat} {dn:Bool} (h:dV B w pb x V tx nd st ga cap bb eb ms es F wk ws dn) (j:Mod (fun k=>k=pb) w w') (q:B≤w.heap.size):PB B w w':=
 ⟨j.toBelow (fun k u=>by rw[u];exact h.pbB) q,fun g cs e fr c h1 h2=>by rw[j.block g (i8.1 c).1 (sF h.blk c h2)];exact c⟩
def aUu (B:Nat) (w:World) (pb:Nat) (x:aK) (V:kE) (tx:Nat) (nd:aM) (st:List (Nat×Nat)) (wk ws:Option Addr) (dn:Bool) (ps:List aC) (w':World):Prop:=
 PB B w w'∧∃(l':List aC) (sn':SN),l'.Perm (mB ps)∧zZ x.gs x.secs sn' (l'.flatMap (eJ x.gs x.secs))∧jB B w' pb x V tx nd st sn' (List.replicate x.gs.length 0) wk ws dn
attribute [local go_sem ↓] bU bR
theorem aBq {B:Nat} {dn:Bool} {K:Nat}
  (h:jB B w pb x V tx nd st sn es wk ws dn) (bn:B≤w.heap.size) (ht:tx≤4294967294) (hr:x.right=true) (bo:zK (vF x sn es tx K L)) (bq:K+200≤1000000000) (br:vS L nd text) (aq:nd.wf)
  (ab:∀p∈kN nd L,bD x.gs x.secs p=true∧p.ok) (ac:((kN nd L).flatMap (eJ x.gs x.secs)).Pairwise Dis):
  Calls prog 54 #[.pointer (some pb)] w fun e w'=>e= .returned (.int .i64 0)∧aUu B w pb x V tx nd st wk ws dn (kN nd L) w':=by
 obtain⟨ga,cap,bb,eb,ms,F,G,rfl⟩:=h;have ad:=hZ (aRf G.blk G.dvs G.bok ht bo bq br aq);obtain⟨ps,U⟩:=nZ (kN nd L);have ca:Hid (1≤ps.length∧ps.length≤3):=hZ (by rw[U];exact aIo nd L)
 rw[←U] at ad ab ac⊢;have ar:=hZ ab;have au:=hZ ac;have cl:=hZ G;have av:=hZ bn;have cb:=hZ hr;clear U ab ac bo bq br aq G bn hr ht;go_in;go_wp2_with fail;refine ad.o.mono ?_;rintro e w5 ⟨u,g,da,sb,cu,T,H,cc,rfl,al,am,aw,hT⟩;obtain⟨⟨cv,cw,F2,z,ct⟩,ax⟩:=cl.o.read av.o am rfl rfl rfl aw hT;obtain⟨X,ae,db,dc,dd,wc,bs,ay⟩:=z.dvs.form;have az:V.g= .slice X x.gs.length ae:=by rw[bs]
 have c0:cZ w5 pb 0 (.slice X x.gs.length ae):=by rw[←az];exact z.blk.cell 0
 have bt:cZ w5 pb 1 x.secs:=z.blk.cell 1;have af:=hZ (aNj X x.gs.length ae x.gs x.secs w5 ay (bL cb.o).1);have cd:=hZ z;have ba:=hZ ax;have cm:=hZ H;have ce:Hid (∀p∈u,bD x.gs x.secs p=true∧p.ok):=hZ (fun p h=>ar.o p ((aAi ps).mem (H.mem_iff.1 h)))
 have cf:=hZ (bDd H au.o);have bz:=hZ al;have cg:u.length≤3:=by
  have h1:=H.length_eq;have h2:=(aAi ps).length_le;have de:=ca.o.2;omega
 obtain⟨n,ag⟩:=nZ (u.length);obtain⟨df,Y⟩:=nZ x.gs.length;rw[←ag] at cg⊢;rw[←Y] at c0 af;have bc:=hZ Y;have bd:=hZ ag;clear bs ay az z ax H cc am aw hT al ad ar au Y ag;go_wp2_with fail;refine af.o.mono ?_;rintro e cn ⟨A,ch,ci,rfl,N,an,ao,be⟩;have bf:Hid (BkR w5 A x.gs x.secs u 0 cn):=hZ ⟨ch,ci,by rw[bc.o] at N;exact N,by
  rw[List.take_zero];exact zZ.empty (by unfold fO;rw[List.length_map];exact N.mlen) (fun j co=>by rw[uX];exact an j (by rw[bc.o];exact co)),ao,be⟩
 clear N an ao be c0 bt;go_wp2_with fail;go_loopw [28] (fun ah wr=>∃k:Nat,ah= .int .i64 (k:Nat)∧k≤n∧Hid (BkR w5 A x.gs x.secs u k wr)) (fun ah _=>n-(intOf ah).toNat)
 case atStart=>exact⟨0,rfl,z6 _,bf⟩
 case round=>
  clear bf af;obtain⟨k,rfl,bu,ai⟩:=hrel;by_cases cx:k<n
  ·have cp:(k:Int)<(n:Int):=by omega
   have bh:k<u.length:=by have:=bd.o;omega
   have ap:bB w5 wr:=by obtain⟨_,_,_,_,_,h⟩:=ai.o;exact h
   have bv:=fun I a next Q=>dP (P:=prog) (t:=51) (bHz (aD bz.o ap) bh) underlying51 rfl aU I a next Q
   obtain⟨p,Z⟩:=nZ (u.getD k pD);rw[←Z] at bv;have s1:=fun I a next Q=>eX p wr I a next Q
   have cq:=fun I a next Q=>aB (P:=prog) (Blk.new wr 51 (aA p)) underlying51 rfl aU I a next Q
   have bj:=hZ ((ai.o.below ((i4 wr.heap.size wr).alloc (d8 _) (.cells (aA p).toArray 51))).mark bh ce.o cf.o);rw[←Z] at bj;clear ap Z;go_wp2_with fail;refine bj.o.mono ?_;rintro e dg ⟨rfl,bl⟩;have cj:=hZ bl;clear bl bv s1 cq;go_wp2_with fail;go_roundw
   case rel=>exact⟨k+1,by go_num,by omega,cj⟩
   case measure=>simp[intOf];omega
  ·obtain rfl:k=n:=by omega
   have cp:¬(k:Int)<(k:Int):=by omega
   obtain⟨ck,bm,bw,aj,bx,O⟩:=ai.o;have c:=cd.o.below (O.mono (d8 _));have cy:cZ wr pb 42 (.pointer (some bb)):=c.blk.cell 42;have cz:=c.blk.frozen 42;have D:Mod (fun k=>k=pb) wr (wr.setCell ⟨pb,42,none⟩ (.pointer (some A))):=(Mod.refl _ _).setCell (.inl rfl)
   have aa:∀{g e:Nat} {cs:Array Value} {fr:Nat×Nat},wr.heap[g]?=some (Obj.cells cs e fr)→e≠112→g≠pb:=fun q R e2=>by
    subst e2;have:=c.blk;unfold Blk at this;rw[this] at q;simp only[i5,n7] at q;exact R q.2.1.symm
   have cr:Hid (aUu B w pb x V tx nd st wk ws dn ps (wr.setCell ⟨pb,42,none⟩ (.pointer (some A)))):=hZ (by
    have ak:B≤w5.heap.size:=l6 av.o ba.o.size;refine⟨ba.o.trans ((oD O ak).trans (c.ownPB D (l6 ak O.size))),u,fO bm,cm.o,by rw[bd.o,bLz] at aj;exact aj,ga,cap,A,ck,bm,F2,⟨?_,?_,?_,?_,c.pbB,c.FB,fun k bu=>l6 ak (bx k bu)⟩,rfl⟩
    ·exact c.blk.setCell 42 _
    ·exact c.dvs.keep (fun g q=>D.block g (c.dvs.lt g q) (fun e=>c.pbIn (.inl (e▸q))))
    ·refine dH D c.st (fun g q e2=>?_)
     obtain⟨bt,dh,h1⟩:=cC c.st q;exact aa h1 (by decide) e2
    ·refine bw.typed (fun g cs e fr q R=>?_)
     rw[D.block g (i8.1 q).1 (aa q (by unfold cH at R;rcases R with rfl|rfl|rfl|rfl|rfl|rfl<;>decide))]
     exact q)
   clear bw aj bx O c D aa;go_wp2_with fail;go_ret;exact⟨rfl,cr.o⟩
end
section
variable {B:Nat} {w w':World} {pb:Nat} {x:aK} {V:kE} {tx:Nat} {nd:aM} {st:List (Nat×Nat)} {ga cap bb eb:Nat} {ms:List MT} {es:List Nat} {F:Nat→Prop} {wk ws:Option Addr} {dn:Bool}
theorem dV.wrote (h:dV B w pb x V tx nd st ga cap bb eb ms es F wk ws dn) (K:B≤w.heap.size) {d:Option Nat} (N:bN w' sb S V bb d T) (k:dT x S.x) (q:Mod (fun k=>F k∨eK bb eb ms k) w w') (hT:∀k,T k→F k∨eK bb eb ms k∨w.heap.size≤k):
  (∃G z O,dV B w' pb S.x V tx nd st ga cap bb G z S.es O wk ws dn∧fO z=S.sn)∧PB B w w':=by
 obtain⟨H,I,R,F2,u,A⟩:=N;have D:∀k,T k→B≤k:=fun k c=>by
  rcases hT k c with h1|h1|h1
  ·exact h.FB k h1
  ·exact h.fB k h1
  ·omega
 refine⟨⟨H,I,F2,⟨?_,u.dvs,dH q h.st (fun g j=>by cases j;exact h.gaIn),u.bok,h.pbB,fun k c=>D k ((A k).2 (.inl c)),fun k c=>D k ((A k).2 (.inr (.inl c)))⟩,u.sn⟩,?_⟩
 ·rw[k.secs]
  exact q.blk h.blk h.pbIn
 ·exact⟨q.toBelow (fun k c=>by rcases c with h1|h1;exact h.FB k h1;exact h.fB k h1) K,fun g cs e fr j h1 h2=>by rw[q.block g (i8.1 j).1 (h.notIn j h1)];exact j⟩
theorem dV.dstep (h:dV B w pb x V tx nd st ga cap bb eb ms es F wk ws dn) (u:B≤w.heap.size) (z:gO x' V F w w') (k:dT x x'):(∃j,dV B w' pb x' V tx nd st ga cap bb eb ms es j wk ws dn)∧PB B w w':=by
 obtain⟨j,A,q,D,ht⟩:=z;refine⟨⟨j,⟨?_,A,mF h.st (fun g cs fr c=>ht g cs _ fr c (by decide) (by decide)),?_,h.pbB,fun g c=>?_,h.fB⟩⟩,⟨q.toBelow h.FB u,fun g cs e fr c h1 h2=>by rw[q.block g (i8.1 c).1 (fun G=>h.notIn c h1 (.inl G))];exact c⟩⟩
 ·rw[k.secs]
  exact aIc ht h.blk
 ·rw[k.gs,k.secs]
  exact h.bok.noturn ht
 ·rcases D g c with h1|h1
  ·exact h.FB g h1
  ·omega
theorem dV.own (h:dV B w pb x V tx nd st ga cap bb eb ms es F wk ws dn) (j:Mod (fun k=>k=pb) w w') (u:Blk w' pb 112 (eD V.g V.l V.a x.secs tx' nd' (.slice (some ga) st.length cap) (some bb) wk' ws' dn')):
  dV B w' pb x V tx' nd' st ga cap bb eb ms es F wk' ws' dn':=by
 refine⟨u,h.dvs.keep (fun g c=>j.block g (h.dvs.lt g c) (fun e=>h.pbIn (.inl (e▸c)))),dH j h.st (fun g c e2=>?_),h.bok.typed (fun g cs e fr c q=>?_),h.pbB,h.FB,h.fB⟩
 ·obtain⟨z,A,h1⟩:=cC h.st c
  exact sF h.blk h1 (by decide) e2
 ·rw[j.block g (i8.1 c).1 (sF h.blk c (by unfold cH at q;rcases q with rfl|rfl|rfl|rfl|rfl|rfl<;>decide))]
  exact c
theorem dV.uber (h:dV B w pb x V tx nd st ga cap bb eb ms es F wk ws dn) (tx':Nat) (nd':aM):dV B (w.setCells pb 4 (bP tx' nd')) pb x V tx' nd' st ga cap bb eb ms es F wk ws dn:=
 h.own (Mod.grown (aJ pb _ w 4) rfl) (h.blk.setCells (bP tx' nd') 4 (by show 4+14≤46;omega))
end
section
attribute [local go_sem ↓] mK nY cB dL eI
theorem bDw {dn:Bool} {Q:Prop} (h:Blk w pb 112 (eD vg vl va secs tx nd sv bk wk ws dn)∧Q):w.rangeAt pb 0 [vg,secs,vl,va]:=aKf h.1
theorem aEj {Q:Prop} (h:Q∧Blk w g e cs):w.rangeAt g 0 cs:=fZ h.2
theorem bFu (t:Nat) (n:aM) (w:World):(do let r ←Instr.build 55 #[(0,(t:Nat)),(1,.agg (aN n).toArray)];pure (Next.value r):Sem Next).run prog w= .ok (.value (.agg (bP t n).toArray)) w:=by
 obtain⟨sz,p0,p1,p2,p3,p4,p5,p6,p7,p8,p9,p10,p11⟩:=n;have h:(do let r ←Instr.build 55 #[(0,(t:Nat)),(1,.agg #[sz,p0,p1,p2,p3,p4,p5,p6,p7,.int .u64 p8,.int .u64 p9,.int .u64 p10,.int .u64 p11])];pure (Next.value r):Sem Next).run prog w= .ok (.value (.agg #[(t:Nat),sz,p0,p1,p2,p3,p4,p5,p6,p7,.int .u64 p8,.int .u64 p9,.int .u64 p10,.int .u64 p11])) w:=by
  go_simp
 exact h
theorem aFb {x:Operand} {ty:TypeId} {pos:String} (c:Operand→Value) (t:Nat) (n:aM) (j:c x=(t:Nat)) (hy:c y= .agg (aN n).toArray) (w:World):
  (execOp c ⟨dst,.build 55 #[(0,x),(1,y)],ty,pos,after,guard⟩).run prog w= .ok (.value (.agg (bP t n).toArray)) w:=by
 have h:=bFu t n w;rw[←j,←hy] at h;rw[←h];unfold execOp;simp
def yP (y:aK) (t:Nat) (gs:Gs) (secs:Int) (nb:Bs):aK:=cM (uWr (cM y) (t%4*4) (fS gs secs t nb++gM (dG (fS gs secs t nb))))
def aVb (B:Nat) (w:World) (pb:Nat) (x:aK) (V:kE) (tx:Nat) (st:List (Nat×Nat)) (sn:SN) (es:List Nat) (K:Nat) (w':World) (e:Ending):Prop:=
 ∃er:Nat,e= .returned (.int .i64 er)∧PB B w w'∧(mE (eS eA nD 0 (bW st) (lS x sn es tx K)).1=0→er=0)∧(er=0→∃(s':pV) (n:aM) (nb:Bs) (sn':SN),aVw x s' n (bW st)∧n.wf∧eU n= .ok nb∧s'.K≤K+256∧jB B w' pb (yP s'.S.x (tx+1) x.gs x.secs nb) V (tx+1) n st sn' (List.replicate x.gs.length 0) none none false)
theorem aYq {B:Nat}
  (h:jB B w pb x V tx nd st sn es none none false) (gz:B≤w.heap.size) (ht:tx≤4294967293) (hr:x.right=true) (an:0<x.ds.length) (cf:∀i,i<x.ds.length→x.here i=true∧(x.ds.getD i eN).fuse= -1)
  (cg:0<st.length∧st.length≤16) (fd:∀r∈st,r.1≤iI∧r.2≤iI) (ch:aCw (lS x sn es tx kd).S [] kd) (A:kd+20000≤1000000000) (ei:16≤x.secs):
  Calls prog 15 #[.pointer (some ⟨pb,0,none⟩)] w fun e w'=>aVb B w pb x V tx st sn es kd w' e:=by
 obtain⟨ga,cap,bb,eb,ms,F,du,rfl⟩:=h;have fe:=hZ (aBh du.blk);have ff:Hid (∀W,dV B W pb x V tx nd st ga cap bb eb ms es F none none false→Calls prog 13 #[.pointer (some ⟨pb,0,none⟩),.pointer none] W fun e w'=>e= .returned (.tuple #[])∧Below W.heap.size W w'):=hZ (fun W h=>aTc h.blk)
 have fg:Hid (∀W,dV B W pb x V tx nd st ga cap bb eb ms es F none none false→Calls prog 41 #[.pointer (some ⟨bb,0,none⟩)] W fun e w'=>∃ac,e= .returned (.pointer (some ⟨ac,0,none⟩))∧Below W.heap.size W w'):=hZ (fun W h=>(aBn bb eb x.gs x.secs ms es W h.bok).mono fun e w' dv=>by
  obtain⟨ac,iy,iz,h1,_,_,_,ie⟩:=dv;exact⟨ac,h1,ie⟩)
 have ci:Hid (∀W,dV B W pb x V tx nd st ga cap bb eb ms es F none none false→Calls prog 48 #[.slice (some ⟨ga,0,none⟩) st.length cap] W fun e w'=>∃dw c,e= .returned (.slice dw st.length c)∧Below W.heap.size W w'):=hZ (fun W h=>(aBw (some ⟨ga,0,none⟩) st.length cap (bG st) W (bI h.st) (fun u ha=>by
   unfold bG at ha;obtain⟨r,_,hr⟩:=List.mem_flatMap.1 ha;simp only[s8,bLp,bNo] at hr;rcases hr with rfl|rfl<;>rfl) (by omega)).mono fun e w' dv=>by
  obtain⟨v,h1,h2,dx⟩:=dv;obtain⟨dw,c,rfl⟩:=aY h2;exact⟨dw,c,h1,dx⟩)
 have fh:Hid (∀W,dV B W pb x V tx nd st ga cap bb eb ms es F none none false→Calls prog 49 #[.pointer (some ⟨pb,0,none⟩)] W fun e w'=>e= .returned (.tuple #[])∧Below W.heap.size W w'):=hZ (fun W h=>aMw h.blk h.dvs hr (fun d dy=>(cf d dy).1))
 have fi:Hid (∀W,dV B W pb x V tx nd st ga cap bb eb ms es F none none false→Calls prog 50 #[.pointer (some ⟨pb,0,none⟩)] W (fun e w'=>bJs x V F bb eb ms (lS x (fO ms) es tx kd) (bW st) W w' e)):=hZ (fun W h=>aPo h.blk (bI h.st) cg fd h.dvs h.bok (by omega) ch (by omega))
 have hb:=hZ du;have hl:Hid ((bW st).length≤512):=hZ (mQ cg).1;have H:=hZ gz;have fj:=hZ hr;have fk:=hZ cf;have hm:=hZ an;have ai:=hZ ch;have iq:=hZ A;have hn:=hZ ei;have cj:=hZ ht;obtain⟨hc,av⟩:=nZ st.length;rw[←av] at ci;have ho:=hZ av;clear du gz hr cf an ch A ei ht cg fd av;go_enter func15,ntmps15;go_wp2_with fail;refine fe.o.mono ?_;rintro e dz ⟨rfl,ck⟩;have bj:=hZ (hb.o.below ck);have cl:Hid (PB B w dz):=hZ (oD ck H.o);have hp:dz.cell? ⟨pb,43,none⟩=some (.pointer none):=bj.o.blk.cell 43;clear ck fe hb;go_wp2_with fail;refine(ff.o dz bj.o).mono ?_;rintro e ea ⟨rfl,cm⟩;have fl:=hZ (bj.o.below cm);have fm:Hid (PB B w ea):=hZ (cl.o.trans (oD cm (l6 H.o cl.o.size)));clear cm ff bj cl hp;go_upto_region 4 with fail
 have I:dV B ea.drew pb x V tx nd st ga cap bb eb ms es F none none false∧PB B w ea.drew:=⟨fl.o.below (i4 _ _).drew,fm.o.drew⟩;refine l7 (S:=fun w'=>dV B w' pb x V tx nd st ga cap bb eb ms es F none none false∧PB B w w') (by kernel_rfl) I (fun I=>?_)
 refine aE 0 ?_;refine aE 1 ?_;refine aE 2 ?_;refine sB (i:=3) (v:=?vr3) (hy:=?yr3) (h:=?_)
 case yr3=>intro w ae;(try dsimp only at ae);go_simp;first|(rw[show w.cell? _=_ from ae.1.blk.cell 42];rfl)|rfl
 try simp only[Act.put,z1,z2,z3]
 refine aE 5 ?_;refine aE 6 ?_;refine aE 7 ?_;refine aE 8 ?_;refine sB (i:=9) (v:=?vr9) (hy:=?yr9) (h:=?_)
 case yr9=>intro w ae;(try dsimp only at ae);go_simp;first|(rw[show w.cell? _=_ from ae.1.blk.cell 41,←ho.o];rfl)|rfl
 try simp only[Act.put,z1,z2,z3]
 refine dY (i:=4) (h:=fun K A=>?_)
 go_simp;refine(fg.o _ I.1).mono ?_;rintro e ja ⟨ac,rfl,cn⟩;dsimp only;refine A.o _ _ (⟨I.1.below cn,I.2.trans (oD cn (l6 H.o I.2.size))⟩) (fun aq=>?_)
 try simp only[Act.put,z1,z2,z3]
 refine dY (i:=10) (h:=fun K A=>?_)
 go_simp;refine(ci.o _ aq.1).mono ?_;rintro e w4 ⟨fo,fp,rfl,co⟩;dsimp only;refine A.o _ _ (⟨aq.1.below co,aq.2.trans (oD co (l6 H.o aq.2.size))⟩) (fun bx=>?_)
 try simp only[Act.put,z1,z2,z3]
 refine aE 11 ?_;refine aE 12 ?_;refine r8 (by kernel_rfl) ?_ _
 have cp:=hZ bx.1;have cq:=hZ bx.2;clear bx aq I cn co fg ci fl fm;go_wp2_with fail;refine(fh.o w4 cp.o).mono ?_;rintro e w5 ⟨rfl,cr⟩;have ct:=hZ (cp.o.below cr);have cu:Hid (PB B w w5):=hZ (cq.o.trans (oD cr (l6 H.o cq.o.size)));clear cr fh cp cq;go_wp2_with fail;refine(fi.o w5 ct.o).mono ?_;rintro e Y ⟨O,D,sb,ir,T,hd,rfl,fq,ej,cv,ek,fs,hT⟩;obtain⟨⟨hq,ft,ig,fu,hh⟩,fv⟩:=ct.o.wrote (l6 H.o cu.o.size) ek cv.kept fs hT;have fw:=hZ fu;have cw:Hid (PB B w Y):=hZ (cu.o.trans fv);have hs:=hZ cv;have hu:=hZ ej;have bl:=hZ fq;have ec:=hZ hd;clear fu fv hh ek fs hT cv ej fq hd fi ct cu;have av:=fun az a next Q=>pH (ndV O) Y az a next Q
 obtain⟨G,bm⟩:=nZ (Y.alloc (.cells (aN (ndV O)).toArray 53));have cx:Below Y.heap.size Y G:=by rw[bm];exact bZ
 have aj:Hid (Blk G Y.heap.size 53 (aN (ndV O))):=hZ (by rw[bm];exact Blk.new Y _ _)
 have ak:=hZ (fw.o.below cx);have bn:Hid (PB B w G):=hZ (cw.o.trans (oD cx (l6 H.o cw.o.size)));obtain⟨ed,cy⟩:=nZ Y.heap.size;rw[←cy] at aj;go_upto_region 7 with fail
 rw[show Y.alloc (.cells (aN (ndV O)).toArray 53)=G from bm.symm,←cy];clear bm cx av cy;by_cases af:mE O=0
 ·have fx:((mE O:Int) != 0)=false:=by simp[af]
  obtain⟨n,an⟩:=nZ (ndV O);have ag:Hid (n.size=((bW st).length:Nat)∧vS D.L n (bW st)):=hZ (by rw[an];exact hu.o af)
  rw[←an] at aj bl;have fy:Hid (WrK x D):=hZ (by
   have h0:WrK x (lS x (fO ms) es tx kd):=⟨⟨ai.o.one,ai.o.fits,ai.o.deep,by show(0:Nat)≤1000000;omega,by show(0:Int)≤0∧(0:Int)≤1000000000;omega,fun q ba=>(by cases ba),fun _=>⟨ai.o,fun q ba=>(by cases ba)⟩⟩,rfl,dT.refl x,rfl,fun c _=>rfl⟩
   have:=h0.write nD 0 (bW st);rw[ec.o] at this;exact this)
  rw[show((mE O:Nat):Int)=0 by rw[af];rfl]
  clear an fx;have al:=fy.o.kept;have fz:=al.right fj.o;have em:∀i,i<D.S.x.ds.length→D.S.x.here i=true∧(D.S.x.ds.getD i eN).fuse= -1:=fun i ee=>by
   have aw:i<x.ds.length:=by rw[←al.n];exact ee
   exact⟨by rw[al.here];exact(fk.o i aw).1,(al.dev i).2.2 (fk.o i aw).2⟩
  obtain⟨j,cz⟩:=nZ (tx+1);obtain⟨P,ao⟩:∃P:World→Prop,P=fun W=>dV B W pb D.S.x V tx nd st ga cap bb hq ft D.S.es ig none none false∧PB B w W∧Blk W ed 53 (aN n):=⟨_,rfl⟩
  have Z:Hid (∀W ef,P W→Below W.heap.size W ef→P ef):=hZ (fun W ef h ap=>by
   rw[ao] at h⊢;exact⟨h.1.below ap,h.2.1.trans (oD ap (l6 H.o h.2.1.size)),h.2.2.below ap⟩)
  have da:Hid (∀W,P W→Calls prog 17 #[.pointer (some ⟨pb,0,none⟩)] W fun e w'=>e= .returned (.int .i64 (j:Nat))∧Below W.heap.size W w'):=hZ (fun W h=>by
   rw[ao] at h;rw[cz];exact zV h.1.blk (by have:=cj.o;omega))
  have gc:Hid (∀W,P W→Blk W ed 53 (aN n)):=hZ (fun W h=>by rw[ao] at h;exact h.2.2)
  have gd:Hid (P G):=hZ (by rw[ao];exact⟨ak.o,bn.o,aj.o⟩)
  have ge:=hZ ao;have bo:=hZ cz;have en:=hZ em;have db:=hZ fz;have bq:=hZ al;clear cz ao em fz al ak bn aj fw cw ec af;go_upto_region 10 with fail
  go_cut [7] (fun ih he=>∃ad,ih= .pointer (some ⟨ad,0,none⟩)∧Hid (P he)∧Hid (Blk he ad 55 (bP j n)))
  case first=>
   have I:P G.drew:=Z.o _ _ gd.o (i4 _ _).drew;refine l7 (S:=P) (by kernel_rfl) I (fun I=>?_)
   refine aE 0 ?_;refine mX 2 ?vs2 ?ys2 ?_
   case ys2=>refine m5 (by kernel_rfl) 53 (.tmp 5) ?_ ed (0) ?_ (aN n) _ (fun w' bc=>fZ (gc.o _ bc)) underlying53 rfl cQ<;>rfl
   refine wpAnyH_ready (rs:=[1,4]) (by kernel_rfl) (by simp) ?_
   refine z8 (by simp only[n9,m9,n8];rfl) (fun K A=>?_) (z8 (by simp only[n9,m9,n8];rfl) (fun K A=>?_) AllReadyH.nil)
   ·go_simp
    refine(da.o _ (by assumption)).mono ?_
    rintro e w8 ⟨rfl,R⟩;dsimp only;refine A.o _ _ (Z.o _ _ (by assumption) R) (fun eg=>?_)
    try simp only[Act.put,z1,z2,z3]
    refine mX 3 ?vsp3 ?ysp3 ?_
    case ysp3=>exact(by refine Or.inl ⟨by kernel_rfl,?_⟩;intro w ae;refine Eq.trans (aFb _ j n ?_ ?_ w) ?_;rfl;rfl;rfl)
    refine dY (i:=4) (h:=fun K A=>?_)
    go_simp
    skip
    refine A.o _ _ (Z.o _ _ eg (bZ)) (fun il=>?_)
    try simp only[Act.put,z1,z2,z3]
    refine dY (i:=5) (h:=fun K A=>?_)
    rw[i6 (by kernel_rfl)]
    refine bMx 55 (.tmp 7) (.tmp 51) rfl w8.heap.size (0) (bP j n).toArray rfl rfl (cW (Blk.new w8 _ _) (d8 14)) kP (bLu (lE _ _)) ?_;refine A.o _ _ (Z.o w8 _ eg (bQ (bZ) (by simp) (d8 _))) (fun hf=>?_)
    try simp only[Act.put,z1,z2,z3]
    refine r8 (by kernel_rfl) ?_ _
    have dc:=hZ hf;have dd:=hZ ((Blk.new w8 55 [.int .i64 0,.int .i64 0,.int .i64 0,.int .i64 0,.int .i64 0,.int .i64 0,.bool false,.int .i64 0,.int .i64 0,.int .i64 0,.int .u64 0,.int .u64 0,.int .u64 0,.int .u64 0]).put (vs:=bP j n) rfl);go_wp2_with fail;go_meet;exact⟨_,rfl,dc,dd⟩
   ·go_simp
    skip
    refine A.o _ _ (Z.o _ _ I (bZ)) (fun eh=>?_)
    try simp only[Act.put,z1,z2,z3]
    refine dY (i:=1) (h:=fun K A=>?_)
    go_simp;refine(da.o _ eh).mono ?_;rintro e w8 ⟨rfl,R⟩;dsimp only;refine A.o _ _ (Z.o _ _ eh R) (fun im=>?_)
    try simp only[Act.put,z1,z2,z3]
    refine mX 3 ?vsq3 ?ysq3 ?_
    case ysq3=>exact(by refine Or.inl ⟨by kernel_rfl,?_⟩;intro w ae;refine Eq.trans (aFb _ j n ?_ ?_ w) ?_;rfl;rfl;rfl)
    refine dY (i:=5) (h:=fun K A=>?_)
    rw[i6 (by kernel_rfl)]
    refine bMx 55 (.tmp 7) (.tmp 51) rfl G.heap.size (0) (bP j n).toArray rfl rfl (cW ((Blk.new G.drew _ _).below R) (d8 14)) kP (bLu (lE _ _)) ?_;refine A.o _ _ (Z.o G.drew _ I (bQ ((bZ).trans (R.mono (by simp))) (by have:=R.size;simp at this;show G.heap.size≤_;omega) (d8 _))) (fun hg=>?_)
    try simp only[Act.put,z1,z2,z3]
    refine r8 (by kernel_rfl) ?_ _
    have dc:=hZ hg;have dd:=hZ (((Blk.new G.drew 55 [.int .i64 0,.int .i64 0,.int .i64 0,.int .i64 0,.int .i64 0,.int .i64 0,.bool false,.int .i64 0,.int .i64 0,.int .i64 0,.int .u64 0,.int .u64 0,.int .u64 0,.int .u64 0]).below R).put (vs:=bP j n) rfl);go_wp2_with fail;go_meet;exact⟨_,rfl,dc,dd⟩
  case rest=>
   obtain⟨ad,rfl,gf,gg⟩:=hcut;have gh:=gf.o;rw[ge.o] at gh;obtain⟨aa,R,br⟩:=gh;have de:0<D.S.x.ds.length:=by rw[bq.o.n];exact hm.o
   have df:=hZ (xP aa.blk aa.dvs db.o de en.o);have gi:=hZ aa;have dg:=hZ R;obtain⟨z,am⟩:=nZ (cM D.S.x);have ax:dT D.S.x z:=by rw[am];exact eT _
   have bz:∀i,i<z.ds.length→z.here i=true∧(z.ds.getD i eN).fuse= -1:=by rw[am];exact aJa en.o
   rw[←am] at df;have eo:z.deep 0:=by rw[am];exact sX _ 0
   obtain⟨N,dh⟩:∃N,eU n= .ok N:=by
    rcases aJt (n:=n) with⟨N,h1,_⟩|⟨_,h2⟩
    ·exact⟨N,h1⟩
    ·refine absurd ⟨?_,?_,?_⟩ h2
     ·rw[ag.o.1];omega
     ·rw[ag.o.1];have:=hl.o;unfold iI;omega
     ·rcases ag.o.2 with⟨_,_,_,_,_,h⟩|⟨_,_,_,_,_,_,_,_,_,_,_,_,_,h⟩<;>exact h
   have di:=ax.right db.o;have dj:0<z.ds.length:=by rw[ax.n];exact de
   have gj:Hid (∀W F,bV W z V F→Calls prog 52 #[.agg #[V.g,.int .i64 z.secs,V.l,V.a],.agg (bP j n).toArray] W fun e w'=>e= .returned (.tuple #[.int .i64 0,.int .i64 0])∧gO (uWr z (j%4*4) (fS z.gs z.secs j N++gM (dG (fS z.gs z.secs j N)))) V F W w'):=hZ (fun W F h=>aQo h di dj bz j (by have:=bo.o;omega) (by have:=bo.o;have:=cj.o;omega) n bl.o N dh 0 eo (by omega) (by rw[ax.secs,bq.o.secs];exact hn.o))
   have hv:=hZ dh;have gl:=hZ am;have gm:=hZ ax;have ep:=hZ bz;have dk:=hZ di;have aj:=hZ dj;clear aa R br de am ax bz eo dh di dj gd Z da gc gf ge;clear I;go_wp2_with fail;refine df.o.mono ?_;rintro e bd ⟨rfl,dl⟩;have gn:Blk bd ad 55 (bP j n):=by obtain⟨_,_,_,_,ht⟩:=dl;exact ht _ _ _ _ gg.o (by decide) (by decide)
   obtain⟨⟨ii,go⟩,gp⟩:=gi.o.dstep (l6 H.o dg.o.size) dl gm.o;have bs:=hZ go;have dm:Hid (PB B w bd):=hZ (dg.o.trans gp);have gq:=hZ gn;clear dl gn go gp df gi dg gg;go_upto_region 14 with fail
   have ay:Blk bd.drew pb 112 (eD V.g V.l V.a z.secs tx nd (.slice (some ⟨ga,0,none⟩) st.length cap) (some ⟨bb,0,none⟩) none none false)∧Blk bd.drew ad 55 (bP j n):=⟨bs.o.blk.drew,gq.o.drew⟩;have eq:=hZ (gj.o bd.drew ii (bs.o.dvs.below (i4 _ _).drew));refine l7 (S:=fun W=>Blk W pb 112 (eD V.g V.l V.a z.secs tx nd (.slice (some ⟨ga,0,none⟩) st.length cap) (some ⟨bb,0,none⟩) none none false)∧Blk W ad 55 (bP j n)) (by kernel_rfl) ay (fun ay=>?_)
   refine aE 0 ?_;refine aE 1 ?_;refine aE 2 ?_;refine mX 3 ?vu3 ?yu3 ?_
   case yu3=>refine m5 (by kernel_rfl) 43 (.tmp 61) ?_ pb (0) ?_ ([V.g,.int .i64 z.secs,V.l,V.a]) _ (fun w' bc=>bDw bc) underlying43 rfl dC<;>rfl
   refine mX 4 ?vu4 ?yu4 ?_
   case yu4=>refine m5 (by kernel_rfl) 55 (.tmp 7) ?_ ad (0) ?_ (bP j n) _ (fun w' bc=>aEj bc) underlying55 rfl kP<;>rfl
   refine dY (i:=5) (h:=fun K A=>?_)
   go_simp;refine eq.o.mono ?_;rintro e dp ⟨rfl,bf⟩;dsimp only;refine A.o _ _ ((by obtain⟨_,_,_,_,ht⟩:=bf;exact⟨ht _ _ _ _ ay.1 (by decide) (by decide),ht _ _ _ _ ay.2 (by decide) (by decide)⟩)) (fun er=>?_)
   try simp only[Act.put,z1,z2,z3]
   refine aE 6 ?_;refine aE 7 ?_;refine aE 8 ?_;refine aE 9 ?_;refine aE 10 ?_;refine r8 (by kernel_rfl) ?_ _
   obtain⟨U,bt⟩:=nZ (uWr z (j%4*4) (fS z.gs z.secs j N++gM (dG (fS z.gs z.secs j N))));rw[←bt] at bf;have ab:dT z U:=by rw[bt];exact yO _ _ _
   obtain⟨⟨hw,ah⟩,et⟩:=(bs.o.below (i4 _ _).drew).dstep (l6 H.o dm.o.drew.size) bf ab;have ca:∀i,i<U.ds.length→U.here i=true∧(U.ds.getD i eN).fuse= -1:=fun i ee=>by
    have aw:i<z.ds.length:=by rw[←ab.n];exact ee
    exact⟨by rw[ab.here];exact(ep.o i aw).1,(ab.dev i).2.2 (ep.o i aw).2⟩
   have dq:=ab.right dk.o;have br:0<U.ds.length:=by rw[ab.n];exact aj.o
   have cb:Hid (PB B w dp):=hZ (dm.o.drew.trans et);have gr:=hZ (aHn ah.blk ah.dvs dq (fun d dy=>(ca d dy).1))
   have eu:Hid (∀W,Below dp.heap.size dp W→Calls prog 51 #[.pointer (some ⟨pb,0,none⟩)] W fun e w'=>e= .returned (.bool true)∧gO (cM U) V hw W w'):=hZ (fun W ap=>xP (ah.below ap).blk (ah.below ap).dvs dq br ca)
   have ev:=hZ er.2;have ew:=hZ ah;have gt:=hZ bt;have gu:=hZ ab;clear bf ah et bt ab ca dq br er ay gj eq bs dm gq;go_wp2_with fail;refine gr.o.mono ?_;rintro e gv ⟨rfl,ar⟩;have ex:=hZ (eu.o gv ar);have ey:=hZ (ew.o.below ar);have ez:=hZ (ev.o.below ar);have bh:Hid (PB B w gv):=hZ (cb.o.trans (oD ar (l6 H.o cb.o.size)));clear ar gr eu ew ev cb;go_wp2_with fail;refine ex.o.mono ?_;rintro e dr ⟨rfl,cc⟩;have fa:Blk dr ad 55 (bP j n):=by obtain⟨_,_,_,_,ht⟩:=cc;exact ht _ _ _ _ ez.o (by decide) (by decide)
   obtain⟨⟨it,au⟩,cd⟩:=ey.o.dstep (l6 H.o bh.o.size) cc (eT U);obtain⟨be,dt⟩:=nZ (cM U);rw[←dt] at au;have ip:=fun az a next Q=>aB (P:=prog) fa underlying55 rfl kP az a next Q
   have io:=fun az a next Q=>aG (P:=prog) (t:=55) (o:=4) (cs:=bP j n) au.blk (show 4+14≤46 by omega) kP (lE _ _) az a next Q
   have fb:=au.uber j n;have hi:=hZ fb;have fc:Hid (PB B w (dr.setCells pb 4 (bP j n))):=hZ ((bh.o.trans cd).trans (au.ownPB (Mod.grown (F:=fun k=>k=pb) (aJ pb _ dr 4) rfl) (l6 H.o (bh.o.trans cd).size)))
   have bu:=hZ dt;clear cc fa au cd dt fb ex ey ez bh;have bv:=fy.o;have bw:aVw x D n (bW st):=⟨bv,ag.o.2,ag.o.1⟩;have X:dT x be:=((bv.kept.trans gm.o).trans gu.o).trans (by rw[bu.o];exact eT U)
   have gw:zK (vF be (fO ft) D.S.es j 0 D.L):=by
    refine⟨ai.o.one.kept X,X.fit ai.o.fits,?_,by show(0:Nat)≤1000000;omega,by show(0:Int)≤0∧(0:Int)≤1000000000;omega,fun q ba=>?_,fun h=>(by cases h)⟩
    ·show be.deep 0
     rw[bu.o];exact sX _ 0
    ·show dR be q.1 q.2
     have h1:=bv.in_.wh q ba;have h2:dR z q.1 q.2:=by rw[gl.o];exact h1.flush db.o
     have dx:dR U q.1 q.2:=by rw[gt.o];exact h2.uber dk.o (by have:=bNd j (show 0<4 by omega);omega) _
     rw[bu.o];exact dx.flush (gu.o.right dk.o)
   have hx:=hZ (aBq ⟨_,_,_,_,_,_,hi.o,rfl⟩ (l6 H.o fc.o.size) (by have:=bo.o;have:=cj.o;omega) (X.right fj.o) gw (by omega) ag.o.2 bl.o (by rw[X.gs,X.secs];exact bw.ptrs.1) (by rw[X.gs,X.secs];exact bw.ptrs.2))
   have hj:=hZ bw;have hz:=hZ X;clear bv bw X gw;go_wp2_with fail;refine hx.o.mono ?_;rintro e ia ⟨rfl,gx⟩;have ce:Hid (aVb B w pb x V tx st (fO ms) es kd ia (.returned (.int .i64 0))):=hZ (by
    obtain⟨hk,jb,ib,jc,jd,gy⟩:=gx;refine⟨0,rfl,fc.o.trans hk,fun _=>rfl,fun _=>⟨D,n,N,ib,hj.o,bl.o,hv.o,hs.o.K,?_⟩⟩
    rw[←bo.o];have ij:be=yP D.S.x j x.gs x.secs N:=by
     rw[bu.o,gt.o,gl.o];have ik:(cM D.S.x).gs=x.gs:=bq.o.gs;have e2:(cM D.S.x).secs=x.secs:=bq.o.secs;unfold yP;rw[ik,e2]
    rw[←ij];rw[hz.o.gs] at gy;exact gy)
   clear gx;go_wp2_with fail;go_ret;exact ce.o
 ·have fx:((mE O:Int) != 0)=true:=by simpa using af
  have iu:G.cell? ⟨pb,42,none⟩=some (.pointer (some ⟨bb,0,none⟩)):=ak.o.blk.cell 42;have iv:=ak.o.blk.frozen 42;have aa:=ak.o.blk.setCell 42 (.pointer (some ⟨ac,0,none⟩));have iw:(G.setCell ⟨pb,42,none⟩ (.pointer (some ⟨ac,0,none⟩))).cell? ⟨pb,41,none⟩=some (.slice (some ⟨ga,0,none⟩) st.length cap):=aa.cell 41;have ix:=aa.frozen 41;have ce:Hid (aVb B w pb x V tx st (fO ms) es kd ((G.setCell ⟨pb,42,none⟩ (.pointer (some ⟨ac,0,none⟩))).setCell ⟨pb,41,none⟩ (.slice fo hc fp)) (.returned (.int .i64 (mE O:Nat)))):=hZ (by
   refine⟨mE O,rfl,?_,fun h=>(by rw[ec.o] at h;exact h),fun h=>absurd h af⟩
   have ic:Mod (fun k=>k=pb) G ((G.setCell ⟨pb,42,none⟩ (.pointer (some ⟨ac,0,none⟩))).setCell ⟨pb,41,none⟩ (.slice fo hc fp)):=((Mod.setCell (F:=fun k=>k=pb) (Mod.refl _ _) (.inl rfl))).setCell (.inl rfl)
   exact bn.o.trans (ak.o.ownPB ic (l6 H.o bn.o.size)))
  clear aa af;go_wp2_with fail;go_ret;exact ce.o
end
theorem nP (gs:Gs) (secs:Int) (sz i:Nat):(cN gs secs sz).ds.getD i eN=if i<cK gs then iA sz 0 else eN:=by
 unfold cN;rw[a8];by_cases h:i<cK gs
 ·rw[i6 h,b9 (by simpa using h)]
  simp
 ·rw[i9 h,m7 (by simp;omega)]
  rfl
theorem lA (gs:Gs) (secs:Int) (sz:Nat):(cN gs secs sz).ds.length=cK gs:=by simp[cN]
theorem aEp (h:d<cK gs):(cN gs secs sz).here d=true:=by
 unfold aK.here;rw[nP,i6 h];have e:(cN gs secs sz).away.getD d true=false:=by
  unfold cN;rw[a8,b9 (by simpa using h)]
  simp
 rw[e];rfl
theorem aJv (n k:Nat):(iA n 0).now k=if k<n then aP 64 else[]:=by
 have e:(iA n 0).now k=(kF n 0).getD k []:=by simp[bC.now,iA]
 rw[e];unfold kF;rw[a8];by_cases h:k<n
 ·rw[i6 h,b9 (by simpa using h)]
  simp[aP]
 ·rw[i9 h,m7 (by simp;omega)]
  rfl
theorem lF (hr:bH gs secs=true):(cN gs secs secs.toNat).right=true:=by
 have h:=aS hr;refine(aBg _).2 ⟨hr,lA _ _ _,by rw[lA];simp[cN],fun i c=>?_⟩
 rw[lA] at c;rw[nP,i6 c];have e:((iA secs.toNat 0).med).length=secs.toNat:=by simp[iA,kF]
 show((((iA secs.toNat 0).med).length:Nat):Int)=secs
 rw[e];omega
theorem sT (hr:x.right=true) (c:∀i,i<x.ds.length→x.here i=true∧(x.ds.getD i eN).fuse= -1):x.one:=by
 refine⟨fun i=>?_,hr,fun i j=>(c i j).1⟩
 by_cases h:i<x.ds.length
 ·exact .inl (c i h).2
 ·exact .inr (by omega)
theorem xV (hr:bH gs secs=true):∀i,i<(cN gs secs secs.toNat).ds.length→(cN gs secs secs.toNat).here i=true∧((cN gs secs secs.toNat).ds.getD i eN).fuse= -1:=fun i c=>by
 rw[lA] at c;exact⟨aEp c,by rw[nP,i6 c];rfl⟩
theorem xK (gs:Gs) (secs:Int) (sz:Nat):(cN gs secs sz).fits:=fun i k=>by
 rw[nP];split
 ·rw[aJv]
  split
  ·decide
  ·decide
 ·unfold nA;exact bMi (by left;simp[bC.now,eN])
theorem aEm (gs:Gs) (secs:Int) (sz:Nat):(cN gs secs sz).deep 0:=fun i k=>by
 rw[nP];split
 ·simp[iA]
 ·simp[eN]
theorem aOz (hr:x.right=true) (q:x.one) (u:x.fits) (z:x.deep 0) (c:sn.length=x.gs.length) (h:∀j,j<x.gs.length→sn.getD j sD=((jF (x.gs.getD j (0,0)) x.secs).toNat,[])) (tx:Nat):aCw (lS x sn (List.replicate x.gs.length 0) tx 0).S [] 0:=
 ⟨q,u,z,Inv.fresh (bL hr).1 c h,zZ.empty c h⟩
section
attribute [local go_sem ↓] cB
def CrP (B:Nat) (w:World) (pb:Nat) (x:aK) (V:kE):Prop:=
 ∃(s':pV) (n:aM) (nb:Bs) (sn':SN),aVw x s' n (bW (List.replicate x.ds.length (0,0)))∧n.wf∧eU n= .ok nb∧jB B w pb (yP s'.S.x 1 x.gs x.secs nb) V 1 n (List.replicate x.ds.length (0,0)) sn' (List.replicate x.gs.length 0) none none false
def aIz (x:aK):Prop:=∀sn':SN,sn'.length=x.gs.length→(∀j,j<x.gs.length→sn'.getD j sD=((jF (x.gs.getD j (0,0)) x.secs).toNat,[]))→mE (eS eA nD 0 (bW (List.replicate x.ds.length (0,0))) (lS x sn' (List.replicate x.gs.length 0) 0 0)).1=0
def aKk (B:Nat) (w:World) (x:aK) (V:kE) (w':World) (e:Ending):Prop:=
 ∃er pb:Nat,PB B w w'∧(aIz x→er=0)∧((er≠0∧e= .returned (.tuple #[.pointer none,.int .i64 (er:Nat)]))∨(er=0∧e= .returned (.tuple #[.pointer (some ⟨pb,0,none⟩),.int .i64 0])∧CrP B w' pb x V))
theorem aPm {B:Nat} (A:bV w x V F) (hF:∀g,F g→B≤g) (ag:B≤w.heap.size) (hr:x.right=true) (N:∀i,i<x.ds.length→x.here i=true∧(x.ds.getD i eN).fuse= -1) (aw:x.fits) (ax:x.deep 0) (ah:0<x.ds.length∧x.ds.length≤16):
  Calls prog 24 #[V.val x.secs] w fun e w'=>aKk B w x V w' e:=by
 obtain⟨ai,u⟩:=nZ (w.alloc (.cells #[V.g,x.secs,V.l,V.a] 43));have O:bB w ai:=by rw[u];exact bZ
 have R:Blk ai w.heap.size 43 [V.g,x.secs,V.l,V.a]:=by rw[u];exact Blk.new w _ _
 have ak:=hZ (fL (A.below O) hr);have al:Hid (∀W,Below w.heap.size w W→Calls prog 60 #[.agg #[V.g,.int .i64 x.secs,V.l,V.a]] W fun e w'=>∃pb c,e= .returned (.pointer (some ⟨pb,0,none⟩))∧Below W.heap.size W w'∧c.length=x.gs.length∧(∀j,j<x.gs.length→c.getD j sD=((jF (x.gs.getD j (0,0)) x.secs).toNat,[]))∧jB B w' pb x V 0 nD (List.replicate x.ds.length (0,0)) c (List.replicate x.gs.length 0) none none false):=hZ (fun W aj=>(aJm (A.below aj) hr).mono fun e w' be=>by
  obtain⟨pb,bb,eb,ms,gs,h1,h2,q,D,G,bf,bh,ay⟩:=be;have U:=l6 ag aj.size;refine⟨pb,fO ms,h1,ay,by unfold fO;rw[List.length_map];exact G.mlen,fun j bj=>by rw[uX];exact bf j bj,gs,x.ds.length,bb,eb,ms,F,⟨?_,(A.below aj).below ay,?_,G,l6 U h2,hF,fun k bl=>l6 U (bh k bl)⟩,rfl⟩
  ·rw[bLw];exact q
  ·rw[bLw];exact qT D U)
 have am:Hid (∀W pb c,c.length=x.gs.length→(∀j,j<x.gs.length→c.getD j sD=((jF (x.gs.getD j (0,0)) x.secs).toNat,[]))→jB B W pb x V 0 nD (List.replicate x.ds.length (0,0)) c (List.replicate x.gs.length 0) none none false→B≤W.heap.size→Calls prog 15 #[.pointer (some pb)] W fun e w'=>aVb B W pb x V 0 (List.replicate x.ds.length (0,0)) c (List.replicate x.gs.length 0) 0 w' e):=hZ (fun W pb c h1 h2 q D=>aYq q D (by omega) hr ah.1 N (by rw[bLw];exact ah) (fun r ba=>by
  have:=List.eq_of_mem_replicate ba;rw[this];exact⟨z6 _,z6 _⟩) (aOz hr (sT hr N) aw ax h1 h2 0) (by omega) (by have:=aS (bL hr).1;omega))
 have X:=hZ O;have an:=hZ R;have Y:=hZ ag;have ao:=aB R underlying43 rfl dC
 show Calls _ _ #[.agg #[V.g,x.secs,V.l,V.a]] _ _
 clear A hF ag hr N aw ax ah O R;go_in;go_upto_region 1 with fail
 rw[show w.alloc (.cells #[V.g,x.secs,V.l,V.a] 43)=ai from u.symm];clear u;go_wp21;refine ak.o.mono ?_;rintro e bm ⟨rfl,Z⟩;have aa:=hZ (X.o.trans (Z.mono X.o.size));have ao:=aB (an.o.below Z) underlying43 rfl dC;have ap:=hZ (al.o bm aa.o);clear Z ak X an al;go_wp21;refine ap.o.mono ?_;rintro e bn ⟨pb,c,rfl,aq,ab,ac,ar⟩;have ad:=hZ ((oD aa.o Y.o).trans (oD aq (l6 Y.o aa.o.size)));have au:Hid (aIz x→mE (eS eA nD 0 (bW (List.replicate x.ds.length (0,0))) (lS x c (List.replicate x.gs.length 0) 0 0)).1=0):=hZ (fun h=>h c ab ac)
 have ae:=hZ (am.o bn pb c ab ac ar (l6 Y.o ad.o.size));clear aq ab ac ar ap am ao;go_wp21;refine ae.o.mono ?_;rintro e az ⟨H,rfl,z,av,af⟩;have bc:=hZ (fun(h:aIz x)=>av (au.o h))
 clear av au;by_cases I:H=0
 ·subst I
  have K:Hid (aKk B w x V az (.returned (.tuple #[.pointer (some pb),(0:Int)]))):=hZ (by
   obtain⟨bo,n,bq,bd,h1,h2,q,D,G⟩:=af rfl;exact⟨0,pb,ad.o.trans z,fun _=>rfl,.inr ⟨rfl,rfl,bo,n,bq,bd,h1,h2,q,G⟩⟩)
  clear z af ae;go_wp21;go_ret2;exact K.o
 ·have br:((H:Int) != 0)=true:=by simpa using I
  have K:Hid (aKk B w x V az (.returned (.tuple #[.pointer none,(H:Nat)]))):=hZ ⟨H,pb,ad.o.trans z,bc.o,.inl ⟨I,rfl⟩⟩;clear z af ae I;go_wp21;go_ret2;exact K.o
end
section
theorem xS {p u v:Tmp} {ty:TypeId} (h:fn.results=#[.tmp u,.cell p ty,.tmp v]) (c:Array Value) (w:World) (g:Nat) (t:TypeId) (cs:List Value) (d:TypeDesc)
  (q:c.getD p undef= .pointer (some ⟨g,0,none⟩)) (z:Blk w g t cs)
  (A:P.underlying ty=some d) (D:(match d with| .struct _| .array _ _=>true|_=>false)=true) (G:(P.info? ty).map (·.size)=some cs.length):
  (results fn c).run P w= .ok (.tuple #[c.getD u undef,.agg cs.toArray,c.getD v undef]) w:=by
 have j:c[p]?.getD undef= .pointer (some g):=by simpa using q
 simp[results,h,j,asAddr,run_loadVar_row w g t ty cs.toArray (0,0) d z A D (by simpa using G)]
theorem aOg (hr:bH gs secs=true):0<cK gs:=by
 have h1:=(aS hr).1;have h2:=wP (gs:=gs) (g:=0) (by omega)
 have c:=aAp hr (gs.length-1) 1 (by omega)
 rw[show 1+(gs.length-1)=gs.length by omega] at c
 have h:=bM hr (i:=0) (by omega)
 have j:fX gs 0=0:=rfl;have q:cK gs=(fX gs gs.length).toNat:=rfl;rw[show 0+1=1 from rfl] at h2;omega
theorem dV.other {B:Nat} {dn:Bool} (h:dV B w pb x V tx nd st ga cap bb eb ms es F wk ws dn) (h0:Blk w g0 e0 cs0) (h1:¬kD e0) (h2:e0≠112) (z:e0≠69) (j:Mod (fun k=>k=g0) w w'):dV B w' pb x V tx nd st ga cap bb eb ms es F wk ws dn:=by
 have q:∀{g e:Nat} {cs:Array Value} {fr:Nat×Nat},w.heap[g]?=some (Obj.cells cs e fr)→e≠e0→g≠g0:=fun c u e2=>by
  subst e2;unfold Blk at h0;rw[h0] at c;simp only[i5,n7] at c;exact u c.2.1.symm
 refine⟨j.blk h.blk (q h.blk (fun e=>h2 e.symm)),h.dvs.keep (fun g c=>j.block g (h.dvs.lt g c) (fun e=>h.notIn (g:=g0) h0 h1 (.inl (e▸c)))),dH j h.st (fun g c e2=>?_),h.bok.typed (fun g cs e fr c u=>?_),h.pbB,h.FB,h.fB⟩
 ·obtain⟨D,G,A⟩:=cC h.st c
  exact q A (fun e=>z e.symm) e2
 ·rw[j.block g (i8.1 c).1 (q c (fun e2=>h1 (e2▸ .inl u)))]
  exact c
theorem jB.other {B:Nat} {dn:Bool} (h:jB B w pb x V tx nd st sn es wk ws dn) (h0:Blk w g0 e0 cs0) (h1:¬kD e0) (h2:e0≠112) (c:e0≠69) (j:Mod (fun k=>k=g0) w w'):jB B w' pb x V tx nd st sn es wk ws dn:=by
 obtain⟨ga,cap,bb,eb,ms,F,q,u⟩:=h;exact⟨ga,cap,bb,eb,ms,F,q.other h0 h1 h2 c j,u⟩
theorem jB.below {B:Nat} {dn:Bool} (h:jB B w pb x V tx nd st sn es wk ws dn) (c:bB w w'):jB B w' pb x V tx nd st sn es wk ws dn:=by
 obtain⟨ga,cap,bb,eb,ms,F,j,q⟩:=h;exact⟨ga,cap,bb,eb,ms,F,j.below c,q⟩
theorem CrP.below {B:Nat} (h:CrP B w pb x V) (j:bB w w'):CrP B w' pb x V:=by
 obtain⟨q,n,u,c,h1,h2,z,A⟩:=h;exact⟨q,n,u,c,h1,h2,z,A.below j⟩
theorem CrP.other {B:Nat} (h:CrP B w pb x V) (h0:Blk w g0 43 cs0) (j:w.grownBy w' (some g0)):CrP B w' pb x V:=by
 obtain⟨q,n,u,c,h1,h2,z,A⟩:=h;exact⟨q,n,u,c,h1,h2,z,A.other h0 (by unfold kD cH lZ;decide) (by decide) (by decide) (Mod.grown j rfl)⟩
theorem pJ {z:Int} (j:va.oneCell'=true) (q:vb.oneCell'=true) (A:vc.oneCell'=true) (w:World) (c:Oper) (a:Act) (next:Act→World→Prop) (Q:Exit→Act→World→Prop):
  cS prog c 43 (.pointer (some ⟨w.heap.size,0,none⟩)) (.agg #[va,z,vb,vc]) a (w.alloc (.cells yC 43)) next Q=next (a.put c.dst undef) (w.alloc (.cells #[va,z,vb,vc] 43)):=by
 have s:=aG (P:=prog) (t:=43) (o:=0) (cs:=[va,z,vb,vc]) (Blk.new w 43 zC) (d8 4) dC (fun u h=>by
  simp only[s8,bLp,bNo] at h;rcases h with rfl|rfl|rfl|rfl
  ·exact j
  ·rfl
  ·exact q
  ·exact A) c a next Q
 rw[dS w 43 [va,z,vb,vc] zC rfl] at s;exact s
theorem aZs (z:Int) (h:va.oneCell'=true) (j:vb.oneCell'=true) (q:vc.oneCell'=true):∀u∈[va,z,vb,vc],u.oneCell'=true:=fun u c=>by
 simp only[s8,bLp,bNo] at c;rcases c with rfl|rfl|rfl|rfl
 ·exact h
 ·rfl
 ·exact j
 ·exact q
theorem oY {Q:Prop} (h:Blk w g e cs∧Q):w.rangeAt g 0 cs:=fZ h.1
attribute [local go_sem ↓] cB rU
def aRp (w:World) (gs:Gs) (secs:Int) (w':World) (e:Ending):Prop:=
 Below w.heap.size w w'∧((∃va z vb vc,e= .returned (.tuple #[.pointer none,.agg #[va,.int .i64 z,vb,vc],.bool false])∧va.oneCell'=true∧vb.oneCell'=true∧vc.oneCell'=true∧¬(gs.length≤4∧secs≤400∧bH gs secs=true∧cK gs≤12∧aIz (cN gs secs secs.toNat)))∨
  ∃pb V,e= .returned (.tuple #[.pointer (some ⟨pb,0,none⟩),.agg #[V.g,.int .i64 secs,V.l,V.a],.bool true])∧bH gs secs=true∧cK gs≤12∧CrP w.heap.size w' pb (cN gs secs secs.toNat) V)
theorem aCh (ga:Option Addr) (n q:Nat) (gs:Gs) (secs:Int) (w:World) (h:oZ w ga n q gs):
  Calls prog 25 #[.agg #[.slice ga n q,secs]] w fun e w'=>aRp w gs secs w' e:=by
 have bl:=h.mx;obtain⟨u,c⟩:=nZ ((w.alloc (.cells #[.slice ga n q,secs] 24)).alloc (.cells yC 43));have A:Hid (bB w u):=hZ (by rw[c];exact(bZ).alloc (by simp) _)
 have ai:Blk u w.heap.size 24 [.slice ga n q,secs]:=by rw[c];exact(Blk.new w _ _).alloc _
 have ar:Blk u (w.heap.size+1) 43 zC:=by rw[c];exact Blk.newAt _ _ (by simp)
 have dd:Hid (u.heap.size=w.heap.size+2):=hZ (by rw[c];simp)
 have Z:=hZ (fun W (H:bB w W)=>gX ga n q gs secs W (RSl.below h H))
 have aa:=hZ (fun W (H:bB w W) (hr:bH gs secs=true)=>rI ga n q gs secs W (RSl.below h H) hr)
 have bm:Hid (∀W,bB w W→bH gs secs=true→Calls prog 63 #[.agg #[.slice ga n q,secs],.int .u8 0] W fun e w'=>∃V F,e= .returned (.tuple #[.agg #[V.g,secs,V.l,V.a],(0:Int)])∧bV w' (cN gs secs secs.toNat) V F∧(∀g,F g→w.heap.size≤g)∧bB W w'):=hZ (fun W H hr=>(bDo ga n q gs secs W (RSl.below h H) hr).mono fun e w' cp=>by
  obtain⟨V,F,h1,h2,D,cq⟩:=cp;exact⟨V,F,h1,h2,fun g cr=>l6 H.size (D g cr),cq⟩)
 have ab:Hid (∀W,bB w W→¬(gs.length≤4∧secs≤400∧bH gs secs=true∧cK gs≤12∧aIz (cN gs secs secs.toNat))→aRp w gs secs (W.setCells (w.heap.size+1) 0 zC) (.returned (.tuple #[.pointer none,.agg yC,false]))):=hZ (fun W H cc=>⟨bQ H H.size (bLv _),.inl ⟨_,_,_,_,rfl,rfl,rfl,rfl,cc⟩⟩)
 have ac:=hZ ar;have au:=hZ ai;have c0:=ai.cell 0;have bd:=ai.cell 1;have av:=aG (t:=43) (o:=0) (cs:=zC) ar (d8 4) dC (vE none none none 0 0 0 0 0 0 0);obtain⟨ct,aw⟩:=nZ (bH gs secs);rw[←aw] at Z;have U:=hZ aw;have da:n≤9223372036854775807:=by unfold maxLen at bl;omega
 have bn:=hZ h.len;clear h ar ai bl aw;by_cases h1:4<n
 ·have cu:(4:Int)<(n:Int):=by omega
  have dc:((n:Int)>4):=by omega
  go_in;go_upto_region 1 with fail
  rw[show(w.alloc (.cells #[.slice ga n q,secs] 24)).alloc (.cells yC 43)=u from c.symm];clear c;go_wp2_with fail;refine l9 (xS rfl _ _ (w.heap.size+1) 43 _ _ rfl (ac.o.put (vs:=zC) rfl) underlying43 rfl dC) rfl ?_;exact ab.o _ A.o (by have:=bn.o;omega)
 ·have cu:¬(4:Int)<(n:Int):=by omega
  by_cases h2:400<secs
  ·have cv:=h2
   go_in;go_upto_region 1 with fail
   rw[show(w.alloc (.cells #[.slice ga n q,secs] 24)).alloc (.cells yC 43)=u from c.symm];clear c;go_wp2_with fail;refine l9 (xS rfl _ _ (w.heap.size+1) 43 _ _ rfl (ac.o.put (vs:=zC) rfl) underlying43 rfl dC) rfl ?_;exact ab.o _ A.o (by have:=bn.o;omega)
  ·have cv:=h2
   cases ct with
   |false=>
    go_in;go_upto_region 1 with fail
    rw[show(w.alloc (.cells #[.slice ga n q,secs] 24)).alloc (.cells yC 43)=u from c.symm];clear c;go_wp2_with fail;refine(Z.o u A.o).mono ?_;rintro e ao ⟨rfl,j⟩;have G:=hZ (A.o.trans (j.mono A.o.size));have X:=hZ (ac.o.below j);have av:=aG (t:=43) (o:=0) (cs:=zC) X.o (d8 4) dC (vE none none none 0 0 0 0 0 0 0);clear j;go_wp2_with fail;refine l9 (xS rfl _ _ (w.heap.size+1) 43 _ _ rfl (X.o.put (vs:=zC) rfl) underlying43 rfl dC) rfl ?_;exact ab.o _ G.o (by have:=U.o;intro h;rw[h.2.2.1] at this;cases this)
   |true=>
    by_cases D:12<cK gs
    ·have be:(12:Int)<((cK gs:Nat):Int):=by omega
     have ap:=hZ D;obtain⟨dn,ad⟩:=nZ (cK gs);rw[←ad] at aa be;clear ad D;go_in;go_upto_region 1 with fail
     rw[show(w.alloc (.cells #[.slice ga n q,secs] 24)).alloc (.cells yC 43)=u from c.symm];clear c;go_wp2_with fail;refine(Z.o u A.o).mono ?_;rintro e ao ⟨rfl,j⟩;have G:=hZ (A.o.trans (j.mono A.o.size));have X:=hZ (ac.o.below j);have c0:=(au.o.below j).cell 0;have bd:=(au.o.below j).cell 1;clear j;go_wp2_with fail;refine(aa.o ao G.o U.o.symm).mono ?_;rintro e bz ⟨rfl,I⟩;have O:=hZ (G.o.trans (I.mono G.o.size));have ae:=hZ (X.o.below I);have av:=aG (t:=43) (o:=0) (cs:=zC) ae.o (d8 4) dC (vE none none none 0 0 0 0 0 0 0);clear I;go_wp2_with fail;refine l9 (xS rfl _ _ (w.heap.size+1) 43 _ _ rfl (ae.o.put (vs:=zC) rfl) underlying43 rfl dC) rfl ?_;exact ab.o _ O.o (by have:=ap.o;omega)
    ·have be:¬(12:Int)<((cK gs:Nat):Int):=by omega
     have ap:=hZ D;obtain⟨dn,ad⟩:=nZ (cK gs);rw[←ad] at aa be;clear ad D;go_in;go_upto_region 1 with fail
     rw[show(w.alloc (.cells #[.slice ga n q,secs] 24)).alloc (.cells yC 43)=u from c.symm];clear c;go_wp2_with fail;refine(Z.o u A.o).mono ?_;rintro e ao ⟨rfl,j⟩;have G:=hZ (A.o.trans (j.mono A.o.size));have X:=hZ (ac.o.below j);have ax:=hZ (au.o.below j);have c0:=ax.o.cell 0;have bd:=ax.o.cell 1;clear j;go_wp2_with fail;refine(aa.o ao G.o U.o.symm).mono ?_;rintro e bz ⟨rfl,I⟩;have O:=hZ (G.o.trans (I.mono G.o.size));have ae:=hZ (X.o.below I);have bo:=hZ (ax.o.below I);have c0:=bo.o.cell 0;have bd:=bo.o.cell 1;have ca:=hZ (bm.o bz O.o U.o.symm);clear I av Z aa bm ab;go_wp2_with fail;refine ca.o.mono ?_;rintro e R ⟨V,F,rfl,ay,bq,af⟩;obtain⟨bf,bh,bj⟩:V.g.oneCell'=true∧V.l.oneCell'=true∧V.a.oneCell'=true:=by
      obtain⟨_,_,_,_,_,_,cw,_⟩:=ay.form;rw[cw];exact⟨rfl,rfl,rfl⟩
     obtain⟨w4,aj⟩:=nZ (R.alloc (.cells #[V.g,secs,V.l,V.a] 43));have ak:bB R w4:=by rw[aj];exact bZ
     have az:Blk w4 R.heap.size 43 [V.g,secs,V.l,V.a]:=by rw[aj];exact Blk.new R _ _
     have br:=hZ az;have cd:=hZ ((ae.o.below af).below ak);have bs:=hZ ((O.o.trans (af.mono O.o.size)).trans (ak.mono (l6 O.o.size af.size)));have al:=U.o.symm;have ce:=hZ (aPm (ay.below ak) bq bs.o.size (lF al) (xV al) (xK gs secs secs.toNat) (aEm gs secs secs.toNat) ⟨by rw[lA];exact aOg al,by rw[lA];have:=ap.o;omega⟩)
     have cf:=pJ (z:=secs) bf bh bj R;have bt:=aB az underlying43 rfl dC;have Y:Hid (V.g.oneCell'=true∧V.l.oneCell'=true∧V.a.oneCell'=true):=hZ ⟨bf,bh,bj⟩;obtain⟨aq,ba⟩:=nZ R.heap.size;have cg:Hid (aq≠w.heap.size+1):=hZ (by have:=O.o.size;have:=af.size;have:=ae.o.lt;omega)
     rw[←ba] at bt br;clear ay bq af ak az al bf bh bj;go_upto_region 4 with fail
     rw[show R.alloc (.cells #[V.g,secs,V.l,V.a] 43)=w4 from aj.symm,←ba];clear aj cf ba;go_wp2_with fail;refine ce.o.mono ?_;rintro e w5 am;obtain⟨ag,pb,an,bu,am⟩:=am;have ch:=hZ bu;clear bu;obtain⟨ah,cx,bv⟩:∃ah,e= .returned (.tuple #[ah,(ag:Nat)])∧((ag≠0∧ah= .pointer none)∨(ag=0∧ah= .pointer (some pb)∧CrP w.heap.size w5 pb (cN gs secs secs.toNat) V)):=by
      rcases am with⟨h1,h2⟩|⟨h1,h2,D⟩
      ·exact⟨_,h2,.inl ⟨h1,rfl⟩⟩
      ·exact⟨_,by rw[h2,h1];rfl,.inr ⟨h1,rfl,D⟩⟩
     subst cx;obtain⟨b,bw⟩:∃b,((ag:Int) == 0)=b:=⟨_,rfl⟩;have bc:=hZ bw;have ci:=hZ bv;have bx:=hZ (bs.o.trans an.bel);have cj:=hZ (an.blk br.o (by unfold kD cH lZ;decide) (by decide))
     have ck:=hZ (an.blk cd.o (by unfold kD cH lZ;decide) (by decide))
     clear an am bv bt;go_upto_region 5 with fail
     have N:Blk w5.drew aq 43 [V.g,secs,V.l,V.a]∧Blk w5.drew (w.heap.size+1) 43 zC:=⟨cj.o.drew,ck.o.drew⟩;refine l7 (S:=fun W=>Blk W aq 43 [V.g,secs,V.l,V.a]∧(∃cs,Blk W (w.heap.size+1) 43 cs)) (by kernel_rfl) ⟨N.1,_,N.2⟩ (fun cl=>?_)
     refine aE 0 ?_;refine mX 1 ?vr1 ?yr1 ?_
     case yr1=>refine m5 (by kernel_rfl) 43 (.tmp 5) ?_ aq (0) ?_ ([V.g,secs,V.l,V.a]) _ (fun w' cy=>oY cy) underlying43 rfl dC<;>rfl
     refine aE 2 ?_;refine aE 3 ?_ (hy:=by intro w cm;(try dsimp only at cm);go_simp;first|rw[bc.o]|rfl)
     refine aE 4 ?_;refine dY (i:=5) (h:=fun K cz=>?_)
     rw[i6 (by kernel_rfl)]
     refine bMx 43 (.tmp 3) (.tmp 40) rfl (w.heap.size+1) (0) ([V.g,secs,V.l,V.a]).toArray rfl rfl (cW N.2 (d8 4)) dC (bLu (aZs _ Y.o.1 Y.o.2.1 Y.o.2.2)) ?_;refine cz.o _ _ (⟨N.1.away _ _ cg.o,_,N.2.put (vs:=[V.g,secs,V.l,V.a]) rfl⟩) (fun db=>?_)
     refine aE 6 ?_;refine r8 (by kernel_rfl) ?_ _
     have cn:=hZ (N.2.put (vs:=[V.g,secs,V.l,V.a]) rfl);have cb:Hid (aRp w gs secs (w5.drew.setCells (w.heap.size+1) 0 [V.g,secs,V.l,V.a]) (.returned (.tuple #[ah,.agg #[V.g,secs,V.l,V.a],.bool b]))):=hZ (by
      have co:bB w (w5.drew.setCells (w.heap.size+1) 0 [V.g,secs,V.l,V.a]):=bQ bx.o.drew bx.o.size (bLv _);refine⟨co,?_⟩;rcases ci.o with⟨h1,h2⟩|⟨h1,h2,D⟩
      ·refine .inl ⟨V.g,secs,V.l,V.a,?_,Y.o.1,Y.o.2.1,Y.o.2.2,fun h=>h1 (ch.o h.2.2.2.2)⟩
       rw[←bc.o,h2];have:((ag:Int) == 0)=false:=by simpa using h1
       rw[this]
      ·refine .inr ⟨pb,V,?_,U.o.symm,by have:=ap.o;omega,?_⟩
       ·rw[←bc.o,h2,h1]
        rfl
       ·exact(D.below (i4 _ _).drew).other N.2 (aJ (w.heap.size+1) _ w5.drew 0))
     clear N cl bw;go_wp2_with fail;refine l9 (xS rfl _ _ (w.heap.size+1) 43 _ _ rfl cn.o underlying43 rfl dC) rfl ?_;exact cb.o
end

end Go.Proofs.YtepmcdopccflgaaGreatDoor

