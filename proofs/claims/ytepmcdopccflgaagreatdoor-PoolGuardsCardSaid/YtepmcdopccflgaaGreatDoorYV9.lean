/- Parts of the proof of the statement that the last file of this claim proves:lemmas,without any condition of their own beyond those that each states. -/
import Derived.Test.YtepmcdopccflgaaGreatDoorYV8
import Derived.Deep.CutBlock
import Derived.Test.YtepmcdopccflgaaGreatDoorRows
import Derived.ProofKit
import Derived.JoinedOf
set_option linter.unusedVariables false
set_option linter.unusedSimpArgs false
set_option linter.unnecessarySimpa false
set_option maxHeartbeats 4000000
set_option maxRecDepth 100000
namespace Go.Proofs.YtepmcdopccflgaaGreatDoor
open Go.RowKit Go.Proofs.Tryz
variable {N ab b b' bb cap cap' d d2 db e e0 eb g g0 g2 g4 g7 gA gB gR ga ga' gx i j k k' most n pb rb slot tx:Nat} {a:Act} {o:Oper} {W W' w w' w9:World} {nb s t text:Bs} {ao bk wk ws:Option Addr} {sv v v' va vg vl:Value} {gs:Gs} {box cs xs:List Value} {K next:Act→World→Prop} {F:Nat→Prop} {δ δ':bC} {after:Array Edge} {ms:List MT} {x x0:aK} {S:dK} {aw:List Bool} {f0 fr:Nat×Nat} {st st':List (Nat×Nat)} {dl es:List Nat} {dst:Option Tmp} {L:List (aC×Bs)} {nd:aM} {guard:Option (Nat×Bool)} {y:Operand} {secs:Int} {Q:Exit→Act→World→Prop} {ops:Array Oper} {sn:SN} {V:kE}
theorem oK:(prog.info? 69).map (·.size)=some 2:=by kernel_rfl
def mI (f t:Int):Int×Int:=if f<1∨4294967295<t∨t<f then(0,0) else(f,t)
theorem aAa (f t:Int) (w:World):Calls prog 179 #[.agg #[f,t]] w fun e w'=>e= .returned (.agg #[.int .i64 (mI f t).1,.int .i64 (mI f t).2])∧bB w w':=by
 by_cases h1:f<1
 ·have c:Hid (mI f t=(0,0)):=hZ (by unfold mI;rw[i6 (.inl h1)])
  have l:decide (f<1)=true:=by simpa using h1
  rw[c.o];go_in;go_wp21;refine l9 (iU rfl _ _ (w.heap.size+1) 69 _ _ rfl (Blk.newAt (w:=w.alloc _) 69 zF (by simp)) underlying69 rfl oK) rfl ?_
  exact⟨rfl,(bZ).alloc (by simp) _⟩
 ·have l:decide (f<1)=false:=by simpa using h1
  by_cases h2:4294967295<t
  ·have c:Hid (mI f t=(0,0)):=hZ (by unfold mI;rw[i6 (.inr (.inl h2))])
   have m:decide (4294967295<t)=true:=by simpa using h2
   rw[c.o];go_in;go_wp21;refine l9 (iU rfl _ _ (w.heap.size+1) 69 _ _ rfl (Blk.newAt (w:=w.alloc _) 69 zF (by simp)) underlying69 rfl oK) rfl ?_
   exact⟨rfl,(bZ).alloc (by simp) _⟩
  ·have m:decide (4294967295<t)=false:=by simpa using h2
   by_cases h:t<f
   ·have c:Hid (mI f t=(0,0)):=hZ (by unfold mI;rw[i6 (.inr (.inr h))])
    have p:decide (t<f)=true:=by simpa using h
    rw[c.o];go_in;go_wp21;refine l9 (iU rfl _ _ (w.heap.size+1) 69 _ _ rfl (Blk.newAt (w:=w.alloc _) 69 zF (by simp)) underlying69 rfl oK) rfl ?_
    exact⟨rfl,(bZ).alloc (by simp) _⟩
   ·have p:decide (t<f)=false:=by simpa using h
    have c:Hid (mI f t=(f,t)):=hZ (by unfold mI;rw[i9 (by omega)])
    rw[c.o];go_in;go_wp21;refine l9 (iU rfl _ _ (w.heap.size+1) 69 _ _ rfl (Blk.newAt (w:=w.alloc _) 69 [f,t] (by simp)) underlying69 rfl oK) rfl ?_
    exact⟨rfl,(bZ).alloc (by simp) _⟩
theorem aMm (h:1≤b∧b≤4294967295):mI (b:Int) (b:Int)=((b:Int),(b:Int)):=by
 unfold mI;rw[i9 (by omega)]
theorem aTm (w:World):Calls prog 180 #[.agg yF] w fun e w'=>e= .returned true∧bB w w':=by
 obtain⟨f,c⟩:=nZ (w.alloc (.cells yF 69));have h:Hid (bB w f):=hZ (by rw[c];exact bZ)
 have h0:Blk f w.heap.size 69 zF:=by rw[c];exact Blk.new w _ _
 have c0:=h0.cell 0;have p:=h0.cell 1;clear h0;go_in;go_upto_region 1 with fail
 rw[←c];clear c;go_wp21;refine(aAa 0 0 f).mono ?_;rintro e q ⟨rfl,l⟩;have m:=hZ (h.o.trans (l.mono h.o.size));rw[show mI 0 0=(0,0) from rfl];clear l c0 p;go_wp21;go_ret;exact⟨by first|rfl|simp,m.o⟩
structure HjS (gA gB:Nat) (b:Nat) (w:World):Prop where
 a:Blk w gA 69 [.int .i64 0,.int .i64 0]
 b:Blk w gB 69 [.int .i64 (b:Nat),.int .i64 (b:Nat)]
theorem HjS.below (h:HjS gA gB b w) (c:bB w w'):HjS gA gB b w':=⟨h.a.below c,h.b.below c⟩
theorem HjS.r0 (h:HjS gA gB b w):w.rangeAt gA 0 zF:=fZ h.a
theorem HjS.r1 (h:HjS gA gB b w):w.rangeAt gB 0 [(b:Nat),(b:Nat)]:=fZ h.b
theorem aTt (b:Nat) (ai:1≤b∧b≤4294967295) (w:World):Calls prog 113 #[.agg yF,.agg #[(b:Nat),(b:Nat)]] w fun e w'=>e= .returned (.agg #[(b:Nat),(b:Nat)])∧bB w w':=by
 obtain⟨p,z⟩:=nZ (((w.alloc (.cells yF 69)).alloc (.cells #[(b:Nat),(b:Nat)] 69)).alloc (.cells yF 69));have U:bB w p:=by rw[z];exact((bZ).alloc (by simp) _).alloc (by simp;omega) _
 have X:HjS w.heap.size (w.heap.size+1) b p:=⟨by rw[z];exact((Blk.new w _ _).alloc _).alloc _,by rw[z];exact(Blk.newAt (w:=w.alloc _) _ _ (by simp)).alloc _⟩
 have Y:Blk p (w.heap.size+2) 69 zF:=by rw[z];exact Blk.newAt (w:=(w.alloc _).alloc _) _ _ (by simp)
 obtain⟨gA,H⟩:∃g,g=w.heap.size:=⟨_,rfl⟩;obtain⟨gB,I⟩:∃g,g=w.heap.size+1:=⟨_,rfl⟩;obtain⟨gR,J⟩:∃g,g=w.heap.size+2:=⟨_,rfl⟩;have aj:Hid (gA=w.heap.size∧gB=w.heap.size+1∧gR=w.heap.size+2):=hZ ⟨H,I,J⟩;rw[←I,←H] at X;rw[←J] at Y;have O:=(i4 p.heap.size p).drew;have E:Hid (HjS gA gB b p.drew∧Blk p.drew gR 69 zF∧bB w p.drew):=hZ ⟨X.below O,Y.below O,U.trans (O.mono U.size)⟩;have al:Hid (∀W,Calls prog 179 #[.agg #[(b:Nat),(b:Nat)]] W fun e w'=>e= .returned (.agg #[(b:Nat),(b:Nat)])∧bB W w'):=hZ (fun W=>by
  have ak:=aAa (b:Int) (b:Int) W;rw[aMm ai] at ak;exact ak)
 clear U X Y O ai;go_in;go_upto_region 1 with fail
 rw[←z,←J,←I,←H];clear z H I J;have af:=E.o.1;refine l7 (S:=HjS gA gB b) (by kernel_rfl) af (fun af=>?_)
 refine mX 0 ?vr0 ?yr0 ?_
 case yr0=>refine m5 (by kernel_rfl) 69 (.tmp 2) ?_ gA (0) ?_ (zF) _ (fun w' ad=>HjS.r0 ad) underlying69 rfl oK<;>rfl
 refine mX 2 ?vr2 ?yr2 ?_
 case yr2=>refine m5 (by kernel_rfl) 69 (.tmp 3) ?_ gB (0) ?_ ([(b:Nat),(b:Nat)]) _ (fun w' ad=>HjS.r1 ad) underlying69 rfl oK<;>rfl
 refine dY (i:=1) (h:=fun K r=>?_)
 go_simp;refine((fun W=>aAa 0 0 W) _).mono ?_
 rintro e ae ⟨rfl,P⟩;have D:Hid (HjS gA gB b ae∧Blk ae gR 69 zF∧bB w ae):=hZ ⟨E.o.1.below P,E.o.2.1.below P,E.o.2.2.trans (P.mono E.o.2.2.size)⟩;clear P;refine r.o _ _ (D.o.1) (fun aq=>?_)
 try simp only[Act.put,z1,z2,z3]
 refine dY (i:=3) (h:=fun K r=>?_)
 go_simp;refine(al.o _).mono ?_;rintro e c ⟨rfl,R⟩;have q:Hid (HjS gA gB b c∧Blk c gR 69 zF∧bB w c):=hZ ⟨D.o.1.below R,D.o.2.1.below R,D.o.2.2.trans (R.mono D.o.2.2.size)⟩;clear R;have am:=aj.o;have Z:Mod (fun x=>x=gA) c (c.setCells gA 0 zF):=Mod.grown (aJ gA _ c 0) rfl
 have f:Hid (HjS gA gB b (c.setCells gA 0 zF)∧Blk (c.setCells gA 0 zF) gR 69 [.int .i64 0,.int .i64 0]∧Below w.heap.size w (c.setCells gA 0 [.int .i64 0,.int .i64 0])):=hZ ⟨⟨q.o.1.a.put (vs:=[.int .i64 0,.int .i64 0]) rfl,Z.blk q.o.1.b (by omega)⟩,Z.blk q.o.2.1 (by omega),bQ q.o.2.2 q.o.2.2.size (by omega)⟩
 obtain⟨A,aa⟩:=nZ (c.setCells gA 0 [.int .i64 0,.int .i64 0]);rw[←aa] at f;have ac:Mod (fun x=>x=gB) A (A.setCells gB 0 [.int .i64 (b:Nat),.int .i64 (b:Nat)]):=Mod.grown (aJ gB _ A 0) rfl
 have l:Hid (HjS gA gB b (A.setCells gB 0 [.int .i64 (b:Nat),.int .i64 (b:Nat)])∧Blk (A.setCells gB 0 [.int .i64 (b:Nat),.int .i64 (b:Nat)]) gR 69 [.int .i64 0,.int .i64 0]∧Below w.heap.size w (A.setCells gB 0 [.int .i64 (b:Nat),.int .i64 (b:Nat)])):=hZ ⟨⟨ac.blk f.o.1.a (by omega),f.o.1.b.put (vs:=[.int .i64 (b:Nat),.int .i64 (b:Nat)]) rfl⟩,ac.blk f.o.2.1 (by omega),bQ f.o.2.2 f.o.2.2.size (by omega)⟩
 rw[aa] at f l;clear Z ac aa am;refine r.o _ _ (q.o.1) (fun ar=>?_)
 try simp only[Act.put,z1,z2,z3]
 refine dY (i:=4) (h:=fun K r=>?_)
 rw[i6 (by kernel_rfl)]
 refine bMx 69 (.tmp 2) (.tmp 6) rfl gA (0) ([.int .i64 0,.int .i64 0]).toArray rfl rfl (cW q.o.1.a (d8 2)) oK (bLu (fun u G=>by simp at G;rw[G];rfl)) ?_
 refine r.o _ _ (f.o.1) (fun au=>?_)
 try simp only[Act.put,z1,z2,z3]
 refine dY (i:=5) (h:=fun K r=>?_)
 rw[i6 (by kernel_rfl)]
 refine bMx 69 (.tmp 3) (.tmp 8) rfl gB (0) ([.int .i64 (b:Nat),.int .i64 (b:Nat)]).toArray rfl rfl (cW f.o.1.b (d8 2)) oK (bLu (fun u G=>by simp at G;rw[G];rfl)) ?_
 refine r.o _ _ (l.o.1) (fun av=>?_)
 try simp only[Act.put,z1,z2,z3]
 refine r8 (by kernel_rfl) ?_ _
 obtain⟨w4,ag⟩:=nZ ((c.setCells gA 0 [.int .i64 0,.int .i64 0]).setCells gB 0 [.int .i64 (b:Nat),.int .i64 (b:Nat)]);rw[←ag] at l⊢;clear ag;have c0:=l.o.1.a.cell 0;have ap:=l.o.1.a.cell 1;go_wp21;refine(aTm w4).mono ?_;rintro e C ⟨rfl,T⟩;have m:Hid (HjS gA gB b C∧Blk C gR 69 [.int .i64 0,.int .i64 0]∧Below w.heap.size w C):=hZ ⟨l.o.1.below T,l.o.2.1.below T,l.o.2.2.trans (T.mono l.o.2.2.size)⟩;clear T c0 ap;have ax:=m.o.1.b.cell 0;have ay:=m.o.1.b.cell 1;have e0:=m.o.2.1.cell 0;have az:=m.o.2.1.cell 1;have ba:=Blk.frozen m.o.2.1 0;have z1:=Blk.frozen m.o.2.1 1;have ah:Mod (fun x=>x=gR) C ((C.setCell ⟨gR,0,none⟩ (.int .i64 (b:Nat))).setCell ⟨gR,1,none⟩ (.int .i64 (b:Nat))):=Mod.setCell (F:=fun x=>x=gR) (Mod.setCell (F:=fun x=>x=gR) (Mod.refl _ C) (.inl rfl)) (.inl rfl)
 have an:=hZ (m.o.2.2.trans (ah.toBelow (B:=w.heap.size) (fun x bc=>by have:=aj.o;omega) m.o.2.2.size))
 clear ah;go_wp21;refine l9 (iU rfl _ _ gR 69 _ _ rfl ((m.o.2.1.setCell 0 (.int .i64 (b:Nat))).setCell 1 (.int .i64 (b:Nat))) underlying69 rfl oK) rfl ?_;exact⟨rfl,an.o⟩
theorem aYa (b:Nat) (A:1≤b∧b≤4294967295) (w:World):Calls prog 57 #[.agg yF,(b:Nat)] w fun e w'=>e= .returned (.agg #[(b:Nat),(b:Nat)])∧bB w w':=by
 obtain⟨m,f⟩:=nZ ((w.alloc (.cells yF 69)).alloc (.cells yF 69));have r:Hid (bB w m):=hZ (by rw[f];exact(bZ).alloc (by simp) _)
 have h0:Blk m w.heap.size 69 zF:=by rw[f];exact(Blk.new w _ _).alloc _
 have hr:Blk m (w.heap.size+1) 69 zF:=by rw[f];exact Blk.newAt _ _ (by simp)
 obtain⟨gA,h⟩:∃g,g=w.heap.size:=⟨_,rfl⟩;obtain⟨gR,l⟩:∃g,g=w.heap.size+1:=⟨_,rfl⟩;have E:Hid (gA=w.heap.size∧gR=w.heap.size+1):=hZ ⟨h,l⟩;rw[←h] at h0;rw[←l] at hr;have c0:=h0.cell 0;have G:=h0.cell 1;have H:=hZ hr;have I:=hZ (aTt b A m);clear h0 hr A;go_in;go_upto_region 1 with fail
 rw[←f,←l,←h];clear f l h;go_wp2_with fail;refine I.o.mono ?_;rintro e q ⟨rfl,p⟩;have c:=H.o.below p;have u:=hZ (r.o.trans (p.mono r.o.size));have e0:=c.cell 0;have J:=c.cell 1;have O:=Blk.frozen c 0;have z1:=Blk.frozen c 1;have z:Mod (fun x=>x=gR) q ((q.setCell gR (b:Nat)).setCell ⟨gR,1,none⟩ (b:Nat)):=Mod.setCell (F:=fun x=>x=gR) (Mod.setCell (F:=fun x=>x=gR) (Mod.refl _ q) (.inl rfl)) (.inl rfl)
 have C:=hZ (u.o.trans (z.toBelow (B:=w.heap.size) (fun x P=>by have:=E.o;omega) u.o.size))
 have D:=hZ ((c.setCell 0 (b:Nat)).setCell 1 (b:Nat));clear z p c c0 G;go_wp2_with fail;refine l9 (iU rfl _ _ gR 69 _ _ rfl D.o underlying69 rfl oK) rfl ?_;exact⟨rfl,C.o⟩
theorem aGi (x m:Nat) (h:x≤m) (w:World):Calls prog 100 #[(x:Nat),(m:Nat)] w fun e w'=>e= .returned true∧bB w w':=by
 have c:0≤(x:Int):=by omega
 have f:(x:Int)≤(m:Int):=by omega
 go_in;go_wp21;go_ret;exact⟨by first|rfl|simp[h],i4 _ _⟩
theorem aLp (w:World):Calls prog 99 #[(0:Int)] w fun e w'=>e= .returned false∧bB w w':=by
 go_in;go_wp21;refine(aGi 0 4611686018427387903 (by omega) w).mono ?_
 rintro e f ⟨rfl,c⟩;go_wp21;go_ret;exact⟨by first|rfl|simp,c⟩
theorem aRl (ao:Option Addr) (n cap:Nat) (secs:Int) (w:World):Calls prog 96 #[.agg #[.slice ao n cap,secs],.slice none 0 0] w fun e w'=>e= .returned true∧bB w w':=by
 have f:Hid (bB w (w.alloc (.cells #[.slice ao n cap,secs] 24))):=hZ bZ;go_in;go_wp21;obtain⟨m,c⟩:=nZ (w.alloc (.cells #[.slice ao n cap,secs] 24));rw[←c] at f⊢;clear c;go_loopw [9] (fun h wr=>h= .int .i64 0∧Hid (bB w wr)) (fun _ _=>0)
 case atStart=>exact⟨rfl,f⟩
 case round=>
  obtain⟨rfl,l⟩:=hrel;go_wp21;go_ret;exact⟨by first|rfl|simp,l.o⟩
theorem aKx (w:World):Calls prog 102 #[.agg yF] w fun e w'=>e= .returned false∧bB w w':=by
 obtain⟨m,c⟩:=nZ (w.alloc (.cells yF 69));have q:Hid (bB w m):=hZ (by rw[c];exact bZ)
 have h0:Blk m w.heap.size 69 zF:=by rw[c];exact Blk.new w _ _
 have c0:=h0.cell 0;have f:=h0.cell 1;have C:=hZ h0;have u:=hZ (aGi 0 4294967295 (by omega))
 clear h0;go_in;go_upto_region 1 with fail
 rw[←c];clear c;go_wp2_with fail;refine(u.o m).mono ?_;rintro e D ⟨rfl,h⟩;have r:=hZ (q.o.trans (h.mono q.o.size));have p:=hZ (C.o.below h);clear h c0 f;have c0:=p.o.cell 0;have f:=p.o.cell 1;go_wp2_with fail;refine(u.o D).mono ?_;rintro e E ⟨rfl,l⟩;have A:=hZ (r.o.trans (l.mono r.o.size));have z:=hZ (p.o.below l);clear l c0 f;have c0:=z.o.cell 0;have f:=z.o.cell 1;go_wp2_with fail;go_ret;exact⟨by first|rfl|simp,A.o⟩
section
theorem aXv {x:Operand} {ty:TypeId} {pos:String}:
  Oper.wp prog ⟨dst,.load 69 x,ty,pos,after,guard⟩ a w next Q=lY prog ⟨dst,.load 69 x,ty,pos,after,guard⟩ 69 (a.eval x) a w next Q:=rfl
attribute [local go_sem ↓] aXv
theorem aLh (args:Array Value) (W:World):(callFunc 102 args).run prog W= .ok (.enter 102 args) W:=by kernel_rfl
theorem aWm (n:Nat):bG (List.replicate n (0,0))=iR (List.replicate n (0,0)):=by
 induction n with
 |zero=>rfl
 |succ n c=>unfold bG iR at c⊢;rw[bOc,bOc,bMb,bMb,c];rfl
theorem aKv (ao:Option Addr) (n cap:Nat) (w:World) (h:RSl w 2 ao n cap (bG (List.replicate n (0,0)))) (z:n≤1000):
  Calls prog 161 #[.slice ao n cap,.func (.func 102) #[] #[]] w fun e w'=>e= .returned (.int .i64 (-1))∧bB w w':=by
 have hF:=aLh;have p:Hid (oZ w ao n cap (List.replicate n (0,0))):=hZ (by rw[aWm] at h;exact h)
 go_in;go_wp21;go_loopw [8] (fun i wr=>∃k:Nat,k≤n∧i= .int .i64 k∧bB w wr) (fun i _=>n-(intOf i).toNat)
 case atStart=>exact⟨0,by omega,rfl,i4 _ _⟩
 case round=>
  obtain⟨k,A,rfl,c⟩:=hrel;by_cases f:k<n
  ·have l:=RSl.below p.o c
   obtain⟨b,u,rfl,_⟩:=l.2.2.2.2 (by omega)
   have hr:=aBm l f;have e:(List.replicate n ((0:Int),(0:Int))).getD k (0,0)=(0,0):=by simp[a8,f]
   rw[e] at hr;have q:=dP (t:=69) hr underlying69 rfl oK;have C:(k:Int)<(n:Int):=by omega
   have D:0≤(k:Int):=by omega
   unfold sM at q;go_wp21;refine(aKx wr).mono ?_;rintro e E ⟨rfl,r⟩;go_wp21;go_roundw
   case rel=>exact⟨k+1,by omega,by go_num,c.trans (r.mono c.size)⟩
   case measure=>simp[intOf];omega
  ·have m:k=n:=by omega
   subst m;go_wp21;go_ret;exact⟨rfl,c⟩
end
theorem aOx (ao:Option Addr) (n cap:Nat) (w:World) (h:RSl w 2 ao n cap (bG (List.replicate n (0,0)))) (f:n≤1000):
  Calls prog 101 #[.slice ao n cap,.func (.func 102) #[] #[]] w fun e w'=>e= .returned false∧bB w w':=by
 go_in;go_wp21;refine(aKv ao n cap w h f).mono ?_;rintro e l ⟨rfl,c⟩;go_wp21;go_ret;exact⟨by first|rfl|simp,c⟩
theorem aKs (args:Array Value) (W:World):(callFunc 99 args).run prog W= .ok (.enter 99 args) W:=by kernel_rfl
theorem aGy (b cap n:Nat) (w:World) (h:RSl w 1 (some b) n cap (lO (List.replicate n 0))) (z:n≤1000):
  Calls prog 160 #[.slice (some b) n cap,.func (.func 99) #[] #[]] w fun e w'=>e= .returned (.int .i64 (-1))∧bB w w':=by
 have hF:=aKs;go_in;go_wp21;go_loopw [8] (fun i wr=>∃k:Nat,k≤n∧i= .int .i64 k∧bB w wr) (fun i _=>n-(intOf i).toNat)
 case atStart=>exact⟨0,by omega,rfl,i4 _ _⟩
 case round=>
  obtain⟨k,A,rfl,c⟩:=hrel;by_cases p:k<n
  ·obtain⟨C,u,f,_,r⟩:=(RSl.below h c).2.2.2.2 (by omega)
   simp only[i5,bNl] at f;obtain⟨rfl,rfl,_⟩:=f;have c0:wr.cell? ⟨b,k,none⟩=some (0:Int):=by
    have l:=r k (by omega)
    rw[r9] at l;rw[l];simp[lO,p]
   have D:(k:Int)<(n:Int):=by omega
   have E:0≤(k:Int):=by omega
   go_wp21;refine(aLp wr).mono ?_;rintro e G ⟨rfl,q⟩;go_wp21;go_roundw
   case rel=>exact⟨k+1,by omega,by go_num,c.trans (q.mono c.size)⟩
   case measure=>simp[intOf];omega
  ·have m:k=n:=by omega
   subst m;go_wp21;go_ret;exact⟨rfl,c⟩
theorem aMi (b cap n:Nat) (w:World) (h:RSl w 1 (some b) n cap (lO (List.replicate n 0))) (f:n≤1000):
  Calls prog 97 #[.slice (some b) n cap,.func (.func 99) #[] #[]] w fun e w'=>e= .returned false∧bB w w':=by
 go_in;go_wp21;refine(aGy b cap n w h f).mono ?_;rintro e l ⟨rfl,c⟩;go_wp21;go_ret;exact⟨by first|rfl|simp,c⟩
theorem bIe:pD.ok:=by refine⟨?_,?_,?_,?_,?_,?_,?_⟩<;>(unfold eY pD;dsimp only;omega)
theorem aPk (c:Blk W g 3 (lO (List.replicate 9 0))):RSl W 1 (some g) 9 9 (lO (List.replicate 9 0)):=by
 have h:=gQ (base:=0) (n:=9) (cap:=9) (size:=1) c (z6 _) (d8 _) (by unfold maxLen;omega) rfl
 exact bI h
theorem bDl {Q l:Prop} (h:Q∧Blk w g 62 (bF v)∧l):w.rangeAt g 0 (aN nD):=fun j u c=>by
 rw[r9,h.2.1.cell];have f:j<13:=(bMy.1 c).1;have e:(bF v).take 13=aN nD:=rfl;rw[←c,←e,bNk,i6 f]
theorem aMp (ao:Option Addr) (n cap:Nat) (gs:Gs) (secs:Int) (w:World) (h:oZ w ao n cap gs) (hr:bH gs secs=true) (f:Option Addr) (m l:Nat) (ax:RSl w 2 f m l (bG (List.replicate m (0,0)))) (R:m=cK gs):
  Calls prog 47 #[.agg #[.slice ao n cap,secs],.agg (bF (.slice f m l)).toArray] w fun e w'=>e= .returned true∧bB w w':=by
 obtain⟨z,D⟩:=nZ ((w.alloc (.cells #[.slice ao n cap,secs] 24)).alloc (.cells (bF (.slice f m l)).toArray 62));have ad:bB w z:=by rw[D];exact(bZ).alloc (by simp) _
 obtain⟨p,I⟩:∃g,g=w.heap.size:=⟨_,rfl⟩;obtain⟨c,J⟩:∃g,g=w.heap.size+1:=⟨_,rfl⟩;have ae:Blk z p 24 [.slice ao n cap,secs]:=by rw[D,I];exact(Blk.new w _ _).alloc _
 have af:Blk z c 62 (bF (.slice f m l)):=by rw[D,J];exact Blk.newAt _ _ (by simp)
 have br:m≤32:=by rw[R];exact aOq hr
 have ag:Hid (∀W,Blk W p 24 [.slice ao n cap,secs]∧Blk W c 62 (bF (.slice f m l))∧bB w W→Calls prog 61 #[.agg #[.slice ao n cap,secs]] W fun e w'=>e= .returned true∧bB W w'):=hZ (fun W A=>by
  have:=gX ao n cap gs secs W (RSl.below h A.2.2);rw[hr] at this;exact this)
 have ah:Hid (∀W,Blk W p 24 [.slice ao n cap,secs]∧Blk W c 62 (bF (.slice f m l))∧bB w W→Calls prog 62 #[.agg #[.slice ao n cap,secs]] W fun e w'=>e= .returned (m:Nat)∧bB W w'):=hZ (fun W A=>by
  rw[R];exact rI ao n cap gs secs W (RSl.below h A.2.2) hr)
 have ai:=hZ (fun W (A:Blk W p 24 [.slice ao n cap,secs]∧Blk W c 62 (bF (.slice f m l))∧bB w W)=>aEx ao n cap gs secs W (RSl.below h A.2.2) nD aNd.root bIe (by decide) (.inl iZ))
 have aj:=hZ (aRl ao n cap secs);have ak:=hZ (yW);have al:=hZ (fun W g (E:Blk W g 3 (lO (List.replicate 9 0)))=>aMi g 9 9 W (aPk E) (by omega))
 have ay:=hZ (fun W (A:bB w W)=>aOx f m l W (RSl.below ax A) (by omega))
 have r:Hid (∀W W',Blk W p 24 [.slice ao n cap,secs]∧Blk W c 62 (bF (.slice f m l))∧bB w W→bB W W'→Blk W' p 24 [.slice ao n cap,secs]∧Blk W' c 62 (bF (.slice f m l))∧bB w W'):=hZ (fun W W' h E=>⟨h.1.below E,h.2.1.below E,h.2.2.trans (E.mono h.2.2.size)⟩)
 have bq:Hid (Blk z p 24 [.slice ao n cap,secs]∧Blk z c 62 (bF (.slice f m l))∧bB w z):=hZ (⟨ae,af,ad⟩);clear h hr ax R ad ae af;go_in;go_upto_region 1 with fail
 rw[show(w.alloc (.cells #[.slice ao n cap,secs] 24)).alloc (.cells (bF (.slice f m l)).toArray 62)=z from D.symm,←J,←I];clear D I J;refine l7 (S:=fun W=>Blk W p 24 [.slice ao n cap,secs]∧Blk W c 62 (bF (.slice f m l))∧bB w W) (by kernel_rfl) (r.o _ _ bq.o (i4 _ _).drew) (fun O=>?_)
 refine mX 0 ?vr0 ?yr0 ?_
 case yr0=>refine m5 (by kernel_rfl) 24 (.tmp 2) ?_ p (0) ?_ ([.slice ao n cap,secs]) _ (fun w' q=>oY q) underlying24 rfl aGc<;>rfl
 refine dY (i:=1) (h:=fun K C=>?_)
 go_simp;refine(ag.o _ O).mono ?_;rintro e bv ⟨rfl,am⟩;dsimp only;refine C.o _ _ (r.o _ _ O am) (fun H=>?_)
 refine aE 2 ?_;refine aE 3 ?_;refine mX 4 ?vr4 ?yr4 ?_
 case yr4=>refine m5 (by kernel_rfl) 24 (.tmp 2) ?_ p (0) ?_ ([.slice ao n cap,secs]) _ (fun w' q=>oY q) underlying24 rfl aGc<;>rfl
 refine aE 5 ?_;refine mX 6 ?vr6 ?yr6 ?_
 case yr6=>refine m5 (by kernel_rfl) 53 (.tmp 10) ?_ c (0) ?_ (aN nD) _ (fun w' q=>bDl q) underlying53 rfl cQ<;>rfl
 refine dY (i:=7) (h:=fun K C=>?_)
 go_simp;refine(ai.o _ H).mono ?_;rintro e bw ⟨rfl,an⟩;dsimp only;refine C.o _ _ (r.o _ _ H an) (fun U=>?_)
 refine aE 8 ?_;refine aE 9 ?_;refine aE 10 ?_;refine mX 11 ?vr11 ?yr11 ?_
 case yr11=>refine m5 (by kernel_rfl) 24 (.tmp 2) ?_ p (0) ?_ ([.slice ao n cap,secs]) _ (fun w' q=>oY q) underlying24 rfl aGc<;>rfl
 refine aE 12 ?_;refine aE 13 ?_ (hy:=by intro w u;(try dsimp only at u);go_simp;first|(rw[show w.cell? _=_ from Blk.cell u.2.1 13];rfl)|rfl)
 refine dY (i:=14) (h:=fun K C=>?_)
 go_simp;refine(aj.o _).mono ?_;rintro e bs ⟨rfl,X⟩;dsimp only;refine C.o _ _ (r.o _ _ U X) (fun G=>?_)
 refine aE 15 ?_;refine aE 16 ?_;refine aE 17 ?_;refine aE 18 ?_;refine aE 19 ?_;refine aE 20 ?_ (hy:=by intro w u;(try dsimp only at u);go_simp;first|(rw[show w.cell? _=_ from Blk.cell u.2.1 14];rfl)|rfl)
 refine aE 21 ?_;refine aE 22 ?_;refine aE 23 ?_;refine aE 24 ?_;refine aE 25 ?_ (hy:=by intro w u;(try dsimp only at u);go_simp;first|(rw[show w.cell? _=_ from Blk.cell u.2.1 23];rfl)|rfl)
 refine aE 26 ?_;refine mX 27 ?vr27 ?yr27 ?_
 case yr27=>refine m5 (by kernel_rfl) 24 (.tmp 2) ?_ p (0) ?_ ([.slice ao n cap,secs]) _ (fun w' q=>oY q) underlying24 rfl aGc<;>rfl
 refine dY (i:=28) (h:=fun K C=>?_)
 go_simp;refine(ah.o _ G).mono ?_;rintro e az ⟨rfl,Y⟩;dsimp only;refine C.o _ _ (r.o _ _ G Y) (fun T=>?_)
 refine aE 29 ?_;refine aE 30 ?_;refine r8 (by kernel_rfl) ?_ _
 have ap:=hZ T;clear T G U H O Y X an am ag ah ai aj;have aq:∀{W:World},Blk W c 62 (bF (.slice f m l))→cZ W c 14 (0:Int)∧cZ W c 15 (0:Int)∧cZ W c 16 (0:Int)∧cZ W c 17 (0:Int)∧cZ W c 18 (0:Int)∧cZ W c 19 (0:Int)∧cZ W c 20 (0:Int)∧cZ W c 21 (0:Int)∧cZ W c 22 (0:Int):=fun h=>⟨h.cell 14,h.cell 15,h.cell 16,h.cell 17,h.cell 18,h.cell 19,h.cell 20,h.cell 21,h.cell 22⟩
 obtain⟨ba,bc,bd,be,bf,bh,bi,bj,bl⟩:=aq ap.o.2.1;clear aq;go_wp21;refine(ak.o az).mono ?_;rintro e bm ⟨rfl,ar,Z⟩;have bn:=hZ (r.o _ _ ap.o Z);have au:=hZ (al.o bm _ ar);clear ar Z ak al ba bc bd be bf bh bi bj bl;go_wp21;refine au.o.mono ?_;rintro e av ⟨rfl,aa⟩;have P:=hZ (r.o _ _ bn.o aa);have bt:cZ av c 23 (.slice f m l):=P.o.2.1.cell 23;clear aa au;go_wp21;refine(ay.o av P.o.2.2).mono ?_;rintro e bu ⟨rfl,ac⟩;have bo:=hZ (r.o _ _ P.o ac);clear ac;go_wp21;go_ret;exact⟨rfl,bo.o.2.2⟩
theorem aIh (h:k+j≤n):dW (aP n) k j=aP j:=by
 unfold dW aP;rw[List.drop_replicate,List.take_replicate];congr 1;omega
theorem aIq:nU (aP 8)=0:=by decide
theorem aQj:bS 8 0=aP 8:=by decide
structure StB (s:Bs) (m:Nat):Prop where
 len:s.length=216+16*m
 nd:lT (dW s 0 128)= .ok (nD,true)
 z:∀j,j<10→rM s (128+8*j)=0
 cnt:rM s 208=m
 r:∀j,j<2*m→rM s (216+8*j)=0
theorem aFy:∀m:Nat,((List.replicate m ((0:Nat),(0:Nat))).flatMap fun r=>bS 8 r.1++bS 8 r.2)=aP (16*m)
 |0=>rfl
 |m+1=>by
  rw[bOc,bMb,aFy m,aQj];unfold aP;rw[bNq,bNq];congr 1;omega
theorem aHo (m:Nat) (l:m≤16):StB (bW (List.replicate m (0,0))) m:=by
 have e0:=aKw;have e:bW (List.replicate m (0,0))=nb0++aP 80++bS 8 m++aP (16*m):=by
  unfold bW;rw[aFy,bLw,aQj];have:aP 80=aP 8++aP 72:=by unfold aP;rw[bNq]
  rw[this];simp only[bMd]
 have c:∀n,(aP n).length=n:=fun n=>by simp[aP]
 have f:=aH 8 m;rw[e];refine⟨by simp only[i7,e0,c,f],?_,fun j h=>?_,?_,fun j h=>?_⟩
 ·rw[dU (by simp only[i7,e0,c,f];omega),dU (by simp only[i7,e0,c];omega),dU (by omega),kU e0]
  exact aIl aQk aNd.root
 ·unfold rM
  rw[dU (by simp only[i7,e0,c,f];omega),dU (by simp only[i7,e0,c];omega),jS (by omega),e0,show 128+8*j-128=8*j by omega,aIh (by omega),aIq]
 ·unfold rM
  rw[dU (by simp only[i7,e0,c,f];omega),jS (by simp only[i7,e0,c];omega),show 208-(nb0++aP 80).length=0 by rw[i7,e0,c],kU f,pR _ _ (by omega)]
 ·unfold rM
  rw[jS (by simp only[i7,e0,c,f];omega),show 216+8*j-(nb0++aP 80++bS 8 m).length=8*j by simp only[i7,e0,c,f];omega,aIh (by omega),aIq]
structure MrB (w:World) (rb lb:Nat) (s:Bs) (k:Nat):Prop where
 rd:Blk w rb 228 [.pointer (some ⟨lb,0,none⟩),.int .i64 0]
 at_:kO w lb s k
 ne:rb≠lb
theorem MrB.below {lb:Nat} (h:MrB w rb lb s k) (c:bB w w'):MrB w' rb lb s k:=⟨h.rd.below c,Blk.below h.at_ c,h.ne⟩
theorem aEv {lb:Nat} (h:MrB w rb lb s k):Calls prog 196 #[.pointer (some rb),(0:Int)] w fun e w'=>e= .returned (.tuple #[])∧MrB w' rb lb s k∧Mod (fun g=>g=rb) w w':=by
 have m:=h.rd.cell 1;have z1:=Blk.frozen h.rd 1;have c:Mod (fun g=>g=rb) w (w.setCell ⟨rb,1,none⟩ (0:Int)):=Mod.setCell (F:=fun x=>x=rb) (Mod.refl _ w) (.inl rfl)
 have f:Blk (w.setCell ⟨rb,1,none⟩ (0:Int)) rb 228 [.pointer (some lb),(0:Int)]:=by simpa using h.rd.setCell 1 (0:Int)
 have l:Hid (MrB (w.setCell ⟨rb,1,none⟩ (0:Int)) rb lb s k∧Mod (fun g=>g=rb) w (w.setCell ⟨rb,1,none⟩ (0:Int))):=hZ ⟨⟨f,c.blk h.at_ (fun e=>h.ne e.symm),h.ne⟩,c⟩
 clear h c f;go_in;go_wp21;go_end0;exact⟨rfl,l.o⟩
theorem MrB.mod {lb:Nat} (h:MrB w rb lb s k) (hr:kO w' lb s k') (c:Mod (fun g=>g=lb) w w'):MrB w' rb lb s k':=⟨c.blk h.rd h.ne,hr,h.ne⟩
theorem vD {lb:Nat} (h:MrB w rb lb s k) (z:s.length≤1000000) (A:k+8≤s.length) (c:rM s k≤most) (f:most≤iI):Calls prog 132 #[.pointer (some rb),(most:Nat)] w fun e w'=>e= .returned (.int .i64 ((rM s k:Nat):Int))∧MrB w' rb lb s (k+8)∧Mod (fun g=>g=rb∨g=lb) w w':=by
 have c0:=h.rd.cell 0;have E:=h.rd.cell 1;have m:=hZ (rX lb s k w h.at_ z A);rw[i6 (l6 c f),i6 (l6 c f),i6 (l6 c f)] at m;have G:¬(most:Int)<((rM s k:Nat):Int):=by omega
 go_in;go_wp21;refine m.o.mono ?_;rintro e H ⟨rfl,r,p⟩;have C:=hZ (h.mod r p);go_wp21;refine(aEv C.o).mono ?_;rintro e q ⟨rfl,h2,u⟩;have D:Hid (MrB q rb lb s (k+8)∧Mod (fun g=>g=rb∨g=lb) w q):=hZ ⟨h2,(p.mono (fun g _ l=> .inr l)).self (u.mono (fun g _ l=> .inl l))⟩
 go_wp21;go_ret;exact⟨rfl,D.o⟩
section
attribute [local go_sem ↓] eI dL
theorem bDy {lb:Nat} {n:aM} (h:MrB w rb lb s k) (bh:s.length≤1000000) (af:k+128≤s.length) (ag:lT (dW s k 128)= .ok (n,true)):Calls prog 131 #[.pointer (some ⟨rb,0,none⟩)] w fun e w'=>e= .returned (.agg (aN n).toArray)∧MrB w' rb lb s (k+128)∧Mod (fun g=>g=rb∨g=lb) w w':=by
 obtain⟨l,r⟩:=nZ (w.alloc (.cells (aN nD).toArray 53));have J:Below w.heap.size w l:=by rw[r];exact bZ
 have O:Blk l w.heap.size 53 (aN nD):=by rw[r];exact Blk.new w _ _
 obtain⟨gR,u⟩:∃g,g=w.heap.size:=⟨_,rfl⟩;have c:Hid (gR=w.heap.size∧rb<w.heap.size∧lb<w.heap.size):=hZ ⟨u,h.rd.lt,Blk.lt h.at_⟩;rw[←u] at O;have H:=hZ (h.below J);have am:=hZ O;have an:Hid (Mod (fun g=>g=rb∨g=lb) w l):=hZ (Mod.below J)
 have c0:=H.o.rd.cell 0;have X:=H.o.rd.cell 1;have ap:=hZ (pX lb s k 128 l H.o.at_ bh af);have ah:=hZ ag;have aq:=hX s k 128 af;clear h ag J O;go_enter func131,ntmps131;go_upto_region 1 with fail
 rw[show w.alloc (.cells #[.int .i64 0,.int .i64 0,.int .i64 0,.int .i64 0,.int .i64 0,.bool false,.int .i64 0,.int .i64 0,.int .i64 0,.int .u64 0,.int .u64 0,.int .u64 0,.int .u64 0] 53)=l from r.symm,←u];clear r u;go_wp2_with fail;refine ap.o.mono ?_;rintro e bq ⟨rfl,Y,z⟩;have bi:=hZ (H.o.mod Y z);have ar:=hZ (an.o.self (z.mono (fun g _ m=> .inr m)))
 have au:=hZ (z.blk am.o (by have:=c.o;omega))
 have ai:=hZ (aEv bi.o);clear Y z c0 X;go_wp2_with fail;refine ai.o.mono ?_;rintro e bj ⟨rfl,h2,R⟩;have aj:=hZ h2;have av:=hZ (ar.o.self (R.mono (fun g _ m=> .inl m)))
 have ax:=hZ (R.blk au.o (by have:=c.o;omega))
 have X:=aj.o.rd.cell 1;have T:=hZ (zL (dW s k 128) aq (.inr ⟨n,ah.o⟩) bj);rw[ah.o] at T;clear h2 R ai;go_wp2_with fail;refine T.o.mono ?_;rintro e f ⟨ak,A⟩;unfold RdR at ak;subst ak;have bl:=hZ (aj.o.below A);have ay:=hZ (av.o.trans' A);have Z:=hZ (ax.o.below A);clear A T X;have aa:=fun p a next Q=>pH n f p a next Q
 obtain⟨w4,C⟩:=nZ (f.alloc (.cells (aN n).toArray 53));obtain⟨al,U⟩:∃g,g=f.heap.size:=⟨_,rfl⟩;have D:Below f.heap.size f w4:=by rw[C];exact bZ
 have ac:Blk w4 al 53 (aN n):=by rw[C,U];exact Blk.new f _ _
 have bm:=hZ (bl.o.below D);have az:=hZ (ay.o.trans' D);have ba:=hZ (Z.o.below D);have bc:=hZ ac;have bd:Hid (w.heap.size<al):=hZ (by have br:=Z.o.lt;have:=c.o;omega)
 have ad:=hZ (aEv bm.o);simp only[ndB,mE];go_upto_region 8 with fail
 rw[←C,←U];clear C U aa D ac;go_wp2_with fail;refine ad.o.mono ?_;rintro e q ⟨rfl,I,E⟩;have be:=hZ (az.o.self (E.mono (fun g _ m=> .inl m)))
 have ae:=hZ (E.blk ba.o (by have:=c.o;omega))
 have bf:=hZ (E.blk bc.o (by have:=c.o;have:=bd.o;omega))
 have G:Mod (fun x=>x=gR) q (q.setCells gR 0 (aN n)):=Mod.grown (aJ gR _ q 0) rfl
 have bn:Hid (MrB (q.setCells gR 0 (aN n)) rb lb s (k+128)∧Mod (fun g=>g=rb∨g=lb) w (q.setCells gR 0 (aN n))):=hZ ⟨⟨G.blk I.rd (by have:=c.o;omega),G.blk I.at_ (by have:=c.o;omega),I.ne⟩,be.o.trans G (fun x bs e=>by have:=c.o;omega)⟩
 have bo:=fun p a next Q=>aB (P:=prog) bf.o underlying53 rfl cQ p a next Q
 have aa:=fun p a next Q=>aG (P:=prog) (t:=53) (o:=0) (cs:=aN n) ae.o (d8 13) cQ (eP _) p a next Q
 clear I E G ad;go_wp2_with fail;refine l9 (iU rfl _ _ gR 53 _ _ rfl (ae.o.put (vs:=aN n) rfl) underlying53 rfl cQ) rfl ?_;exact⟨rfl,bn.o⟩
end
section
theorem aSu {x:Operand} {ty:TypeId} {pos:String}:
  Oper.wp prog ⟨dst,.store 59 x y,ty,pos,after,guard⟩ a w next Q=cS prog ⟨dst,.store 59 x y,ty,pos,after,guard⟩ 59 (a.eval x) (a.eval y) a w next Q:=rfl
theorem bJz:(prog.info? 59).map (·.size)=some 9:=by kernel_rfl
attribute [local go_sem ↓] kX nT aSu
theorem bGk:∀u∈(zH:List Value),u.oneCell'=true:=by decide
theorem aLg (w:World) (c:Oper) (a:Act) (next:Act→World→Prop) (Q:Exit→Act→World→Prop):
  cS prog c 62 (.pointer (some ⟨w.heap.size,0,none⟩)) (.agg yB) a (w.alloc (.cells yB 62)) next Q=next (a.put c.dst undef) (w.alloc (.cells yB 62)):=by
 have s:=aG (P:=prog) (t:=62) (o:=0) (cs:=zB) (Blk.new w 62 zB) (d8 24) sG (by decide) c a next Q
 rw[dS w 62 zB zB rfl] at s;exact s
theorem uV (s x:Operand)
  (r:o.op= .call {callee:= .builtin .append,args:=#[s,x],argTypes:=#[60,60]}) (base:Nat) (v:Value) (n:Nat) (cs:List Value) (z:a.eval s=v) (l:w.ownsRow base 69 2 v n cs)
  (b c:Nat) (ds:List Value) (A:ds.length=2) (h1:∀u∈ds,u.oneCell'=true) (C:a.eval x= .slice (some b) 1 c) (D:Blk w b 69 ds) (O:n≤1000) (f:base≤w.heap.size)
  (h:∀v' w',w'.ownsRow base 69 2 v' (n+1) (cs++ds)→w.grownBy w' v.ownBlock→(v'.ownBlock=v.ownBlock∨v'.ownBlock=some w.heap.size)→K (a.put o.dst v') w'):Oper.wp prog o a w K Q:=by
 obtain⟨E,G,m,p,q⟩:=bMo aSw;obtain⟨v',w',hr,h2,H,R,I⟩:=run_append_own_at (P:=prog) w base 60 o.type 69 E (.agg yF) 2 16 underlying60 G m p q rfl (Nat.succ_pos 1)
  v n cs l b 1 c ds (by rw[A]) (fun j u J=>by rw[Addr.add_mid,r9,D.cell];exact J) h1 (by unfold maxLen;omega) (by omega) f
 unfold Oper.wp execOp;simp only[r,resolve,invoke,builtin,bLr,Sem.run_pure,y7,List.map_toArray,List.map_cons,List.map_nil,z,C,hr];exact h v' w' h2 H I
structure oL (w W:World) (gR rb lb g7:Nat) (s:Bs) (k:Nat) (v:Value):Prop where
 rd:MrB W rb lb s k
 res:Blk W gR 62 (bF (.slice none 0 0))
 st:Blk W g7 62 (bF v)
 bel:Below w.heap.size w W
 ne:gR≠rb∧gR≠lb∧g7≠rb∧g7≠lb∧gR≠g7
 ge:w.heap.size≤gR∧w.heap.size≤rb∧w.heap.size≤lb∧w.heap.size≤g7
theorem oL.below {lb:Nat} (h:oL w W gR rb lb g7 s k v) (c:bB W W'):oL w W' gR rb lb g7 s k v:=
 ⟨h.rd.below c,h.res.below c,h.st.below c,h.bel.trans (c.mono h.bel.size),h.ne,h.ge⟩
theorem oL.read {lb:Nat} (h:oL w W gR rb lb g7 s k v) (hr:MrB W' rb lb s k') (f:Mod (fun g=>g=rb∨g=lb) W W'):oL w W' gR rb lb g7 s k' v:=
 ⟨hr,f.blk h.res (fun e=>e.elim h.ne.1 h.ne.2.1),f.blk h.st (fun e=>e.elim h.ne.2.2.1 h.ne.2.2.2.1),h.bel.trans (f.toBelow (fun k c=>by rcases c with c|c<;>(rw[c];first|exact h.ge.2.1|exact h.ge.2.2.1)) h.bel.size),h.ne,h.ge⟩
theorem aDo {lb:Nat} {p:List Value} (h:oL w W gR rb lb g7 s (216+16*k+8+8) v∧W.ownsRow w.heap.size 69 2 v k (bG (List.replicate k (0,0)))∧Blk W w.heap.size 24 p)
  (r:W'.ownsRow w.heap.size 69 2 v' (k+1) (bG (List.replicate k (0,0))++zF)) (f:W.grownBy W' v.ownBlock) (q:k≤1000):oL w W' gR rb lb g7 s (216+16*(k+1)) v∧W'.ownsRow w.heap.size 69 2 v' (k+1) (bG (List.replicate (k+1) (0,0)))∧Blk W' w.heap.size 24 p:=by
 obtain⟨h1,h2,u⟩:=h;have c:∀{g e:Nat} {cs:List Value},Blk W g e cs→e≠69→Blk W' g e cs:=fun {g e cs} l z=>by
  unfold Blk;rw[f.block g l.lt (fun A=>by
   obtain⟨C,D,m⟩:=cC h2 A.symm;unfold Blk at l;rw[l] at m;simp only[i5,n7] at m;exact z m.2.1)]
  exact l
 refine⟨⟨⟨c h1.rd.rd (by decide),c h1.rd.at_ (by decide),h1.rd.ne⟩,c h1.res (by decide),c h1.st (by decide),h1.bel.trans ((Mod.grownO (F:=fun k=>v.ownBlock=some k) f (fun g f=>f)).toBelow (fun k q=>(h2.lt k q).1) h1.bel.size),h1.ne,h1.ge⟩,?_,c u (by decide)⟩
 have e:bG (List.replicate k (0,0))++zF=bG (List.replicate (k+1) (0,0)):=by
  rw[List.replicate_succ'];simp[bG]
 rw[←e];exact r
theorem aRx (ao:Option Addr) (n cap:Nat) (gs:Gs) (secs:Int) (w:World) (h:oZ w ao n cap gs) (hr:bH gs secs=true) (s:Bs) (m:Nat) (ch:StB s m) (ci:m=cK gs) (hi:m≤16):
  Calls prog 68 #[.agg #[.slice ao n cap,secs],.string ⟨s.toArray⟩] w fun e w'=>∃v,e= .returned (.tuple #[.agg (bF v).toArray,.int .i64 0])∧w'.ownsRow w.heap.size 69 2 v m (bG (List.replicate m (0,0)))∧bB w w':=by
 have hg:=ch.len;obtain⟨R,be⟩:=nZ ((w.alloc (.cells #[.slice ao n cap,secs] 24)).alloc (.cells yB 62));have ee:bB w R:=by rw[be];exact(bZ).alloc (by simp) _
 have ef:Blk R w.heap.size 24 [.slice ao n cap,secs]:=by rw[be];exact(Blk.new w _ _).alloc _
 have eg:Blk R (w.heap.size+1) 62 (bF (.slice none 0 0)):=by rw[be];exact Blk.newAt _ _ (by simp)
 have eh:R.heap.size=w.heap.size+2:=by rw[be];simp
 obtain⟨ac,bf⟩:=nZ (R.alloc (.cells #[.string ⟨s.toArray⟩,.int .i64 0] 304));obtain⟨al,bo⟩:=nZ (ac.alloc (.cells #[.pointer (some ⟨R.heap.size,0,none⟩),.int .i64 0] 228));have ca:bB R ac:=by rw[bf];exact bZ
 have bq:bB ac al:=by rw[bo];exact bZ
 have ei:ac.heap.size=w.heap.size+3:=by rw[bf];simp[eh]
 have ej:kO ac R.heap.size s 0:=by rw[bf];exact Blk.new R _ _
 have ek:Blk al ac.heap.size 228 [.pointer (some ⟨R.heap.size,0,none⟩),.int .i64 0]:=by rw[bo];exact Blk.new ac _ _
 have co:Hid (MrB al ac.heap.size R.heap.size s 0):=hZ ⟨ek,Blk.below ej bq,by omega⟩
 have cp:Hid (Blk al (w.heap.size+1) 62 (bF (.slice none 0 0))):=hZ ((eg.below ca).below bq);have el:Hid (Blk al w.heap.size 24 [.slice ao n cap,secs]):=hZ ((ef.below ca).below bq);have cq:Hid (bB w al):=hZ ((ee.trans (ca.mono (by omega))).trans (bq.mono (by omega)))
 have cr:=bDy co.o (by omega) (by omega) ch.nd
 change Calls _ _ _ _ (fun e w'=>e= .returned (.agg yD)∧_∧_) at cr
 have ct:=hZ cr;clear cr;have em:=hZ (oI s R);obtain⟨gR,cb⟩:∃g,g=w.heap.size+1:=⟨_,rfl⟩;obtain⟨lb,br⟩:∃g,g=R.heap.size:=⟨_,rfl⟩;obtain⟨rb,cu⟩:∃g,g=ac.heap.size:=⟨_,rfl⟩;have ad:Hid (gR=w.heap.size+1∧lb=w.heap.size+2∧rb=w.heap.size+3∧al.heap.size=w.heap.size+4):=hZ ⟨cb,by omega,by omega,by rw[bo];simp[ei]⟩
 rw[←br,←cu] at co ct;rw[←cb] at cp;have gd:=hZ h;have fo:=hZ hr;have am:=hZ ch;have fp:=hZ ci;clear h hr ch ci ee ef eg eh ca bq ei ej ek;go_in;go_upto_region 1 with fail
 rw[show(w.alloc (.cells #[.slice ao n cap,secs] 24)).alloc (.cells yB 62)=R from be.symm,←cb];clear be cb;go_wp2_with fail;refine em.o.mono ?_;rintro e hj ⟨rfl,rfl⟩;go_upto_region 2 with fail
 rw[show R.alloc (.cells #[.string ⟨s.toArray⟩,.int .i64 0] 304)=ac from bf.symm,←br,show lb+1=rb by rw[cu,bf,br];simp,show ac.alloc (.cells #[.pointer (some lb),.int .i64 0] 228)=al by rw[br];exact bo.symm]
 clear bf bo br cu em;go_wp2_with fail;refine ct.o.mono ?_;rintro e ai ⟨rfl,en,bl⟩;have du:¬(gR=rb∨gR=lb):=by have:=ad.o;omega
 have eo:=hZ (bl.blk cp.o du);have ep:=hZ (bl.blk el.o (show ¬(w.heap.size=rb∨w.heap.size=lb) by have:=ad.o;omega))
 have cv:Hid (bB w ai):=hZ (cq.o.trans (bl.toBelow (fun k H=>by have:=ad.o;omega) cq.o.size))
 have eq:=hZ en;have er:w.heap.size+4≤ai.heap.size:=by have:=ad.o;have:=bl.size;omega
 have cw:=hZ er;clear en bl du er cp el cq co ct;have fq:=fun aj a next Q=>aLg ai aj a next Q
 obtain⟨w4,cc⟩:=nZ (ai.alloc (.cells yB 62));have bs:bB ai w4:=by rw[cc];exact bZ
 have cx:Blk w4 ai.heap.size 62 (bF (.slice none 0 0)):=by rw[cc];exact Blk.new ai _ _
 obtain⟨g7,cy⟩:∃g,g=ai.heap.size:=⟨_,rfl⟩;rw[←cy] at cx;have et:=hZ (ep.o.below bs);have cz:Hid (oL w w4 gR rb lb g7 s 128 (.slice none 0 0)):=hZ ⟨eq.o.below bs,eo.o.below bs,cx,cv.o.trans (bs.mono cv.o.size),by have:=ad.o;have:=cw.o;omega,by have:=ad.o;have:=cw.o;omega⟩
 have da:=hZ (vD (most:=100) cz.o.rd (by omega) (by omega) (by rw[am.o.z 0 (by omega)];omega) (by unfold iI;omega))
 rw[show rM s 128=0 from am.o.z 0 (by omega)] at da
 go_upto_region 3 with fail
 rw[show ai.alloc (.cells yB 62)=w4 from cc.symm,←cy];have bt:Hid (w.heap.size≠g7):=hZ (by have:=cw.o;omega)
 clear cc cy bs cx fq eq eo cv ep;go_wp2_with fail;refine da.o.mono ?_;rintro e Y ⟨rfl,eu,cl⟩;have ap:=hZ (cz.o.read eu cl);have dc:=hZ (cl.blk et.o (show ¬(w.heap.size=rb∨w.heap.size=lb) by have:=ad.o;omega))
 clear eu cl da cz et;go_wp2_with fail;refine bNb 1 ?_;rw[bMl];have cd:Blk (Y.alloc (.cells yH 230)) Y.heap.size 230 zH:=Blk.new Y _ _;have ce:bB Y (Y.alloc (.cells yH 230)):=bZ;have dd:w.heap.size≤Y.heap.size∧Y.heap.size≠rb∧Y.heap.size≠lb∧Y.heap.size≠gR∧Y.heap.size≠g7:=⟨ap.o.bel.size,by have:=ap.o.rd.rd.lt;omega,by have:=Blk.lt ap.o.rd.at_;omega,by have:=ap.o.res.lt;omega,by have:=ap.o.st.lt;omega⟩
 obtain⟨E,de⟩:∃g,g=Y.heap.size:=⟨_,rfl⟩;rw[←de] at cd dd;obtain⟨gf,df⟩:=nZ (Y.alloc (.cells yH 230));rw[←df] at cd ce;have dg:=hZ dd;have ev:=hZ cd;have ew:=hZ (ap.o.below ce);have ex:=hZ (dc.o.below ce);have fh:Hid (w.heap.size≠E):=hZ (by have:=dc.o.lt;omega)
 clear cd ce dd;go_wp2_with fail;rw[show Y.alloc (.cells yH 230)=gf from df.symm,←de];clear df de ap dc;go_loopw [34] (fun az wr=>∃k:Nat,az= .int .i64 (k:Nat)∧k≤9∧Hid (oL w wr gR rb lb g7 s (136+8*k) (.slice none 0 0))∧Hid (Blk wr E 230 zH)∧Hid (Blk wr w.heap.size 24 [.slice ao n cap,secs])) (fun az _=>9-(intOf az).toNat)
 case atStart=>exact⟨0,rfl,by omega,ew,ev,ex⟩
 case round=>
  clear ew ev ex;obtain⟨k,rfl,H,T,ae,ba⟩:=hrel;by_cases hk:k<9
  ·have c:(k:Int)<9:=by omega
   have dq:=vD (most:=4611686018427387903) T.o.rd (by omega) (by omega) (by rw[show 136+8*k=128+8*(k+1) by omega,am.o.z (k+1) (by omega)];omega) (by unfold iI;omega)
   rw[show rM s (136+8*k)=0 by rw[show 136+8*k=128+8*(k+1) by omega];exact am.o.z (k+1) (by omega)] at dq
   have fe:=hZ dq;clear dq;go_wp2_with fail;refine fe.o.mono ?_;rintro e cj ⟨rfl,ey,bz⟩;have fs:=hZ (T.o.read ey bz);have dv:¬(E=rb∨E=lb):=by have:=dg.o;omega
   have cf:=bz.blk ae.o dv;have ez:=bz.blk ba.o (show ¬(w.heap.size=rb∨w.heap.size=lb) by have:=ad.o;omega)
   have ho:cj.cell? ⟨E,k,none⟩=some (.int .i64 0):=by
    rw[cf.cell];have:k=0∨k=1∨k=2∨k=3∨k=4∨k=5∨k=6∨k=7∨k=8:=by omega
    rcases this with rfl|rfl|rfl|rfl|rfl|rfl|rfl|rfl|rfl<;>rfl
   have hp:=cf.frozen k;have dh:=cf.setCell k (.int .i64 0);have dw:(zH:List Value).set k (.int .i64 0)=zH:=by
    have:k=0∨k=1∨k=2∨k=3∨k=4∨k=5∨k=6∨k=7∨k=8:=by omega
    rcases this with rfl|rfl|rfl|rfl|rfl|rfl|rfl|rfl|rfl<;>rfl
   rw[dw] at dh;have aq:Mod (fun x=>x=E) cj (cj.setCell ⟨E,k,none⟩ (.int .i64 0)):=(Mod.refl _ _).setCell (.inl rfl)
   have ft:Hid (oL w (cj.setCell ⟨E,k,none⟩ (.int .i64 0)) gR rb lb g7 s (136+8*(k+1)) (.slice none 0 0)):=hZ (by
    have p:=fs.o;have bw:=dg.o;refine⟨⟨aq.blk p.rd.rd (fun e=>bw.2.1 e.symm),aq.blk p.rd.at_ (fun e=>bw.2.2.1 e.symm),p.rd.ne⟩,aq.blk p.res (fun e=>bw.2.2.2.1 e.symm),aq.blk p.st (fun e=>bw.2.2.2.2 e.symm),p.bel.trans (aq.toBelow (fun k H=>by rw[H];exact bw.1) p.bel.size),p.ne,p.ge⟩)
   have fu:=hZ dh;have fv:=hZ (aq.blk ez (fun e=>by have:=dg.o.1;have:=ad.o;exact fh.o e))
   clear ey bz dv cf ez dh dw aq fe;go_wp2_with fail;go_roundw
   case rel=>exact⟨k+1,by go_num,by omega,ft,fu,fv⟩
   case measure=>simp[intOf];omega
  ·obtain rfl:k=9:=by omega
   have j0:wr.cell? E=some (.int .i64 0):=ae.o.cell 0;have j1:wr.cell? ⟨E,1,none⟩=some (.int .i64 0):=ae.o.cell 1;have j2:wr.cell? ⟨E,2,none⟩=some (.int .i64 0):=ae.o.cell 2;have j3:wr.cell? ⟨E,3,none⟩=some (.int .i64 0):=ae.o.cell 3;have j4:wr.cell? ⟨E,4,none⟩=some (.int .i64 0):=ae.o.cell 4;have j5:wr.cell? ⟨E,5,none⟩=some (.int .i64 0):=ae.o.cell 5;have j6:wr.cell? ⟨E,6,none⟩=some (.int .i64 0):=ae.o.cell 6;have j7:wr.cell? ⟨E,7,none⟩=some (.int .i64 0):=ae.o.cell 7;have j8:wr.cell? ⟨E,8,none⟩=some (.int .i64 0):=ae.o.cell 8;have fi:=fun aj a next Q=>aG (P:=prog) (t:=59) (o:=14) (cs:=zH) T.o.st (show 14+9≤24 by omega) bJz bGk aj a next Q
   have fa:Blk (wr.setCells g7 14 zH) g7 62 (bF (.slice none 0 0)):=T.o.st.setCells zH 14 (show 14+9≤24 by omega)
   have bh:Mod (fun k=>k=g7) wr (wr.setCells g7 14 zH):=Mod.grown (aJ g7 _ wr 14) rfl
   have p:=T.o;have bi:Hid (oL w (wr.setCells g7 14 zH) gR rb lb g7 s 208 (.slice none 0 0)):=hZ ⟨⟨bh.blk p.rd.rd (fun e=>p.ne.2.2.1 e.symm),bh.blk p.rd.at_ (fun e=>p.ne.2.2.2.1 e.symm),p.rd.ne⟩,bh.blk p.res p.ne.2.2.2.2,fa,p.bel.trans (bh.toBelow (fun k H=>by rw[H];exact p.ge.2.2.2) p.bel.size),p.ne,p.ge⟩
   have bu:Hid (Blk (wr.setCells g7 14 zH) w.heap.size 24 [.slice ao n cap,secs]):=hZ (bh.blk ba.o (fun e=>by have:=p.ne;have:=bt.o;exact this e))
   obtain⟨w9,di⟩:=nZ (wr.setCells g7 14 zH);rw[←di] at bi bu;have dj:=vD (most:=100) bi.o.rd (by omega) (by omega) (by rw[am.o.cnt];omega) (by unfold iI;omega)
   rw[am.o.cnt] at dj;have fb:=hZ dj;clear fa bh p dj;go_upto_region 14 with fail
   rw[show wr.setCells g7 14 zH=w9 from di.symm];clear di fi j0 j1 j2 j3 j4 j5 j6 j7 j8;go_wp2_with fail;refine fb.o.mono ?_;rintro e hl ⟨rfl,dx,ck⟩;have dy:=hZ (bi.o.read dx ck);have dz:=hZ (ck.blk bu.o (show ¬(w.heap.size=rb∨w.heap.size=lb) by have:=ad.o;omega))
   clear dx ck bi bu fb;go_wp2_with fail;go_loopw [64] (fun az wr=>∃(k:Nat) (v:Value),az= .int .i64 (k:Nat)∧k≤m∧Hid (oL w wr gR rb lb g7 s (216+16*k) v)∧Hid (wr.ownsRow w.heap.size 69 2 v k (bG (List.replicate k (0,0))))∧Hid (Blk wr w.heap.size 24 [.slice ao n cap,secs])) (fun az _=>m-(intOf az).toNat)
   case atStart=>exact⟨0,.slice none 0 0,rfl,z6 _,dy,hZ (bMa _ _ _ _),dz⟩
   case round=>
    clear dy dz T ae ba;obtain⟨k,v,rfl,H,T,bj,ba⟩:=hrel;by_cases hm:k<m
    ·have c:(k:Int)<(m:Int):=by omega
     obtain⟨va,vc,rfl⟩:=aY bj.o;obtain⟨P,bc⟩:∃P:Nat→World→Prop,P=fun U W=>oL w W gR rb lb g7 s U (.slice va k vc)∧W.ownsRow w.heap.size 69 2 (.slice va k vc) k (bG (List.replicate k (0,0)))∧Blk W w.heap.size 24 [.slice ao n cap,secs]:=⟨_,rfl⟩
     have ah:Hid (∀U W W',P U W→bB W W'→P U W'):=hZ (fun U W W' h dr=>by
      rw[bc] at h⊢;exact⟨h.1.below dr,aD h.2.1 dr,h.2.2.below dr⟩)
     have cg:Hid (∀U W,P U W→W.cell? ⟨g7,23,none⟩=some (.slice va k vc)):=hZ (fun U W h=>by
      rw[bc] at h;exact h.1.st.cell 23)
     have bv:Hid (∀U W,(U=216+16*k∨U=216+16*k+8)→P U W→Calls prog 132 #[.pointer (some rb),.int .i64 4611686018427387903] W fun e w'=>e= .returned (.int .i64 0)∧P (U+8) w'):=hZ (fun U W fw h=>by
      rw[bc] at h;have ff:rM s U=0:=by
       rcases fw with rfl|rfl
       ·rw[show 216+16*k=216+8*(2*k) by omega];exact am.o.r _ (by omega)
       ·rw[show 216+16*k+8=216+8*(2*k+1) by omega];exact am.o.r _ (by omega)
      have:=vD (most:=4611686018427387903) h.1.rd (by omega) (by omega) (by rw[ff];omega) (by unfold iI;omega)
      rw[ff] at this;refine this.mono ?_;rintro e w' ⟨rfl,ci,dk⟩;rw[bc];refine⟨rfl,h.1.read ci dk,dH dk h.2.1 (fun g af e=>?_),dk.blk h.2.2 (fun e=>by have:=ad.o;omega)⟩
      obtain⟨an,bx,p⟩:=cC h.2.1 af;rcases e with rfl|rfl
      ·have D:=h.1.rd.rd
       unfold Blk at D;rw[D] at p;simp at p
      ·have D:=h.1.rd.at_
       unfold kO Blk at D;rw[D] at p;simp at p)
     have fx:Hid (P (216+16*k) wr):=hZ (by rw[bc];exact⟨T.o,bj.o,ba.o⟩)
     have Z:=hZ bc;clear bc;go_upto_block 5 with fail
     go_cut [] (fun ds=>∃v',Hid (oL w ds gR rb lb g7 s (216+16*(k+1)) v')∧Hid (ds.ownsRow w.heap.size 69 2 v' (k+1) (bG (List.replicate (k+1) (0,0))))∧Hid (Blk ds w.heap.size 24 [.slice ao n cap,secs]))
     case first=>
      go_upto_region 16 with fail
      have dt:=hZ (ah.o _ _ _ fx.o (i4 wr.heap.size wr).drew);refine l7 (S:=fun _=>True) (by kernel_rfl) trivial (fun hn=>?_)
      refine aE 0 ?_;refine aE 2 ?_;refine aE 4 ?_;refine vB [1,3] ?_;refine rc (fun K l=>?_) (rc (fun K l=>?_) rn)
      ·rw[i6 (by kernel_rfl)]
       have ar:=cg.o _ _ dt.o;go_simp;refine l.o _ _ (trivial) (fun gz=>?_)
       try simp only[Act.put,z1,z2,z3]
       refine dY (i:=3) (h:=fun K l=>?_)
       rw[i6 (by kernel_rfl)]
       go_simp;refine(bv.o _ _ (Or.inl rfl) dt.o).mono ?_;rintro e fy ⟨rfl,bm⟩;dsimp only;refine l.o _ _ (trivial) (fun ha=>?_)
       try simp only[Act.put,z1,z2,z3]
       refine dY (i:=5) (h:=fun K l=>?_)
       rw[i6 (by kernel_rfl)]
       go_simp;refine(bv.o _ _ (Or.inr rfl) bm).mono ?_;rintro e C ⟨rfl,G⟩;dsimp only;refine l.o _ _ (trivial) (fun hb=>?_)
       try simp only[Act.put,z1,z2,z3]
       refine aE 6 ?_;refine dY (i:=7) (h:=fun K l=>?_)
       rw[i6 (by kernel_rfl)]
       go_simp;refine l.o _ _ (trivial) (fun hc=>?_)
       try simp only[Act.put,z1,z2,z3]
       refine dY (i:=8) (h:=fun K l=>?_)
       rw[i6 (by kernel_rfl)]
       refine uV (.tmp 67) (.tmp 73) rfl w.heap.size (.slice va k vc) k (bG (List.replicate k (0,0))) rfl (by have h:=ah.o _ _ _ G ((i4 C.heap.size C).alloc (d8 _) (.cells yF 69));rw[Z.o] at h;exact h.2.1) C.heap.size 1 zF rfl (by decide) rfl (Blk.new C _ _) (by omega) (by have h:=G;rw[Z.o] at h;have:=h.1.bel.size;simp;omega) ?_
       intro dm f I J au;obtain⟨u,A,rfl⟩:=aY I;have O:oL w f gR rb lb g7 s (216+16*(k+1)) (.slice va k vc)∧f.ownsRow w.heap.size 69 2 (.slice u (k+1) A) (k+1) (bG (List.replicate (k+1) (0,0)))∧Blk f w.heap.size 24 [.slice ao n cap,secs]:=aDo (by have h:=ah.o _ _ _ G ((i4 C.heap.size C).alloc (d8 _) (.cells yF 69));rw[Z.o] at h;exact h) I J (by omega)
       clear I au;refine l.o _ _ (trivial) (fun hd=>?_)
       try simp only[Act.put,z1,z2,z3]
       refine aE 9 ?_;refine dY (i:=10) (h:=fun K l=>?_)
       rw[i6 (by kernel_rfl)]
       have ar:f.cell? ⟨g7,23,none⟩=some (.slice va k vc):=O.1.st.cell 23;have dn:=O.1.st.frozen 23;go_simp;refine l.o _ _ (trivial) (fun gr=>?_)
       try simp only[Act.put,z1,z2,z3]
       refine r8 (by kernel_rfl) ?_ _
       have bd:=hZ J;obtain⟨c,X,ag⟩:=O;have q:Mod (fun x=>x=g7) f (f.setCell ⟨g7,23,none⟩ (.slice u (k+1) A)):=(Mod.refl _ _).setCell (.inl rfl)
       have aa:=c.st.setCell 23 (.slice u (k+1) A);have av:Hid (oL w (f.setCell ⟨g7,23,none⟩ (.slice u (k+1) A)) gR rb lb g7 s (216+16*(k+1)) (.slice u (k+1) A)):=hZ ⟨⟨q.blk c.rd.rd (fun e=>c.ne.2.2.1 e.symm),q.blk c.rd.at_ (fun e=>c.ne.2.2.2.1 e.symm),c.rd.ne⟩,q.blk c.res c.ne.2.2.2.2,aa,c.bel.trans (q.toBelow (fun k H=>by rw[H];exact c.ge.2.2.2) c.bel.size),c.ne,c.ge⟩
       have ax:Hid ((f.setCell ⟨g7,23,none⟩ (.slice u (k+1) A)).ownsRow w.heap.size 69 2 (.slice u (k+1) A) (k+1) (bG (List.replicate (k+1) (0,0)))):=hZ (dH q X (fun g af e=>by
        obtain⟨an,bx,p⟩:=cC X af;have D:=c.st;unfold Blk at D;rw[←e,p] at D;simp at D))
       have ay:Hid (Blk (f.setCell ⟨g7,23,none⟩ (.slice u (k+1) A)) w.heap.size 24 [.slice ao n cap,secs]):=hZ (q.blk ag bt.o);clear bd c X ag q aa J;go_wp2_with fail;go_meet;exact⟨_,av,ax,ay⟩
      ·rw[i6 (by kernel_rfl)]
       go_simp;refine(bv.o _ _ (Or.inl rfl) dt.o).mono ?_;rintro e fy ⟨rfl,bm⟩;dsimp only;refine l.o _ _ (trivial) (fun he=>?_)
       try simp only[Act.put,z1,z2,z3]
       refine vB [1,5] ?_;refine rc (fun K l=>?_) (rc (fun K l=>?_) rn)
       ·rw[i6 (by kernel_rfl)]
        have ar:=cg.o _ _ bm;go_simp;refine l.o _ _ (trivial) (fun gt=>?_)
        try simp only[Act.put,z1,z2,z3]
        refine dY (i:=5) (h:=fun K l=>?_)
        rw[i6 (by kernel_rfl)]
        go_simp;refine(bv.o _ _ (Or.inr rfl) bm).mono ?_;rintro e C ⟨rfl,G⟩;dsimp only;refine l.o _ _ (trivial) (fun gu=>?_)
        try simp only[Act.put,z1,z2,z3]
        refine aE 6 ?_;refine dY (i:=7) (h:=fun K l=>?_)
        rw[i6 (by kernel_rfl)]
        go_simp;refine l.o _ _ (trivial) (fun gv=>?_)
        try simp only[Act.put,z1,z2,z3]
        refine dY (i:=8) (h:=fun K l=>?_)
        rw[i6 (by kernel_rfl)]
        refine uV (.tmp 67) (.tmp 73) rfl w.heap.size (.slice va k vc) k (bG (List.replicate k (0,0))) rfl (by have h:=ah.o _ _ _ G ((i4 C.heap.size C).alloc (d8 _) (.cells yF 69));rw[Z.o] at h;exact h.2.1) C.heap.size 1 zF rfl (by decide) rfl (Blk.new C _ _) (by omega) (by have h:=G;rw[Z.o] at h;have:=h.1.bel.size;simp;omega) ?_
        intro dm f I J au;obtain⟨u,A,rfl⟩:=aY I;have O:oL w f gR rb lb g7 s (216+16*(k+1)) (.slice va k vc)∧f.ownsRow w.heap.size 69 2 (.slice u (k+1) A) (k+1) (bG (List.replicate (k+1) (0,0)))∧Blk f w.heap.size 24 [.slice ao n cap,secs]:=aDo (by have h:=ah.o _ _ _ G ((i4 C.heap.size C).alloc (d8 _) (.cells yF 69));rw[Z.o] at h;exact h) I J (by omega)
        clear I au;refine l.o _ _ (trivial) (fun gw=>?_)
        try simp only[Act.put,z1,z2,z3]
        refine aE 9 ?_;refine dY (i:=10) (h:=fun K l=>?_)
        rw[i6 (by kernel_rfl)]
        have ar:f.cell? ⟨g7,23,none⟩=some (.slice va k vc):=O.1.st.cell 23;have dn:=O.1.st.frozen 23;go_simp;refine l.o _ _ (trivial) (fun gj=>?_)
        try simp only[Act.put,z1,z2,z3]
        refine r8 (by kernel_rfl) ?_ _
        have bd:=hZ J;obtain⟨c,X,ag⟩:=O;have q:Mod (fun x=>x=g7) f (f.setCell ⟨g7,23,none⟩ (.slice u (k+1) A)):=(Mod.refl _ _).setCell (.inl rfl)
        have aa:=c.st.setCell 23 (.slice u (k+1) A);have av:Hid (oL w (f.setCell ⟨g7,23,none⟩ (.slice u (k+1) A)) gR rb lb g7 s (216+16*(k+1)) (.slice u (k+1) A)):=hZ ⟨⟨q.blk c.rd.rd (fun e=>c.ne.2.2.1 e.symm),q.blk c.rd.at_ (fun e=>c.ne.2.2.2.1 e.symm),c.rd.ne⟩,q.blk c.res c.ne.2.2.2.2,aa,c.bel.trans (q.toBelow (fun k H=>by rw[H];exact c.ge.2.2.2) c.bel.size),c.ne,c.ge⟩
        have ax:Hid ((f.setCell ⟨g7,23,none⟩ (.slice u (k+1) A)).ownsRow w.heap.size 69 2 (.slice u (k+1) A) (k+1) (bG (List.replicate (k+1) (0,0)))):=hZ (dH q X (fun g af e=>by
         obtain⟨an,bx,p⟩:=cC X af;have D:=c.st;unfold Blk at D;rw[←e,p] at D;simp at D))
        have ay:Hid (Blk (f.setCell ⟨g7,23,none⟩ (.slice u (k+1) A)) w.heap.size 24 [.slice ao n cap,secs]):=hZ (q.blk ag bt.o);clear bd c X ag q aa J;go_wp2_with fail;go_meet;exact⟨_,av,ax,ay⟩
       ·rw[i6 (by kernel_rfl)]
        go_simp;refine(bv.o _ _ (Or.inr rfl) bm).mono ?_;rintro e C ⟨rfl,G⟩;dsimp only;refine l.o _ _ (trivial) (fun gy=>?_)
        try simp only[Act.put,z1,z2,z3]
        refine aE 6 ?_;refine vB [1,7] ?_;refine rc (fun K l=>?_) (rc (fun K l=>?_) rn)
        ·rw[i6 (by kernel_rfl)]
         have ar:=cg.o _ _ G;go_simp;refine l.o _ _ (trivial) (fun gl=>?_)
         try simp only[Act.put,z1,z2,z3]
         refine dY (i:=7) (h:=fun K l=>?_)
         rw[i6 (by kernel_rfl)]
         go_simp;refine l.o _ _ (trivial) (fun gm=>?_)
         try simp only[Act.put,z1,z2,z3]
         refine dY (i:=8) (h:=fun K l=>?_)
         rw[i6 (by kernel_rfl)]
         refine uV (.tmp 67) (.tmp 73) rfl w.heap.size (.slice va k vc) k (bG (List.replicate k (0,0))) rfl (by have h:=ah.o _ _ _ G ((i4 C.heap.size C).alloc (d8 _) (.cells yF 69));rw[Z.o] at h;exact h.2.1) C.heap.size 1 zF rfl (by decide) rfl (Blk.new C _ _) (by omega) (by have h:=G;rw[Z.o] at h;have:=h.1.bel.size;simp;omega) ?_
         intro dm f I J au;obtain⟨u,A,rfl⟩:=aY I;have O:oL w f gR rb lb g7 s (216+16*(k+1)) (.slice va k vc)∧f.ownsRow w.heap.size 69 2 (.slice u (k+1) A) (k+1) (bG (List.replicate (k+1) (0,0)))∧Blk f w.heap.size 24 [.slice ao n cap,secs]:=aDo (by have h:=ah.o _ _ _ G ((i4 C.heap.size C).alloc (d8 _) (.cells yF 69));rw[Z.o] at h;exact h) I J (by omega)
         clear I au;refine l.o _ _ (trivial) (fun gn=>?_)
         try simp only[Act.put,z1,z2,z3]
         refine aE 9 ?_;refine dY (i:=10) (h:=fun K l=>?_)
         rw[i6 (by kernel_rfl)]
         have ar:f.cell? ⟨g7,23,none⟩=some (.slice va k vc):=O.1.st.cell 23;have dn:=O.1.st.frozen 23;go_simp;refine l.o _ _ (trivial) (fun gh=>?_)
         try simp only[Act.put,z1,z2,z3]
         refine r8 (by kernel_rfl) ?_ _
         have bd:=hZ J;obtain⟨c,X,ag⟩:=O;have q:Mod (fun x=>x=g7) f (f.setCell ⟨g7,23,none⟩ (.slice u (k+1) A)):=(Mod.refl _ _).setCell (.inl rfl)
         have aa:=c.st.setCell 23 (.slice u (k+1) A);have av:Hid (oL w (f.setCell ⟨g7,23,none⟩ (.slice u (k+1) A)) gR rb lb g7 s (216+16*(k+1)) (.slice u (k+1) A)):=hZ ⟨⟨q.blk c.rd.rd (fun e=>c.ne.2.2.1 e.symm),q.blk c.rd.at_ (fun e=>c.ne.2.2.2.1 e.symm),c.rd.ne⟩,q.blk c.res c.ne.2.2.2.2,aa,c.bel.trans (q.toBelow (fun k H=>by rw[H];exact c.ge.2.2.2) c.bel.size),c.ne,c.ge⟩
         have ax:Hid ((f.setCell ⟨g7,23,none⟩ (.slice u (k+1) A)).ownsRow w.heap.size 69 2 (.slice u (k+1) A) (k+1) (bG (List.replicate (k+1) (0,0)))):=hZ (dH q X (fun g af e=>by
          obtain⟨an,bx,p⟩:=cC X af;have D:=c.st;unfold Blk at D;rw[←e,p] at D;simp at D))
         have ay:Hid (Blk (f.setCell ⟨g7,23,none⟩ (.slice u (k+1) A)) w.heap.size 24 [.slice ao n cap,secs]):=hZ (q.blk ag bt.o);clear bd c X ag q aa J;go_wp2_with fail;go_meet;exact⟨_,av,ax,ay⟩
        ·rw[i6 (by kernel_rfl)]
         go_simp;refine l.o _ _ (trivial) (fun go=>?_)
         try simp only[Act.put,z1,z2,z3]
         refine dY (i:=1) (h:=fun K l=>?_)
         rw[i6 (by kernel_rfl)]
         have ar:=cg.o _ _ (ah.o _ _ _ G ((i4 C.heap.size C).alloc (d8 _) (.cells yF 69)));go_simp;refine l.o _ _ (trivial) (fun gp=>?_)
         try simp only[Act.put,z1,z2,z3]
         refine dY (i:=8) (h:=fun K l=>?_)
         rw[i6 (by kernel_rfl)]
         refine uV (.tmp 67) (.tmp 73) rfl w.heap.size (.slice va k vc) k (bG (List.replicate k (0,0))) rfl (by have h:=ah.o _ _ _ G ((i4 C.heap.size C).alloc (d8 _) (.cells yF 69));rw[Z.o] at h;exact h.2.1) C.heap.size 1 zF rfl (by decide) rfl (Blk.new C _ _) (by omega) (by have h:=G;rw[Z.o] at h;have:=h.1.bel.size;simp;omega) ?_
         intro dm f I J au;obtain⟨u,A,rfl⟩:=aY I;have O:oL w f gR rb lb g7 s (216+16*(k+1)) (.slice va k vc)∧f.ownsRow w.heap.size 69 2 (.slice u (k+1) A) (k+1) (bG (List.replicate (k+1) (0,0)))∧Blk f w.heap.size 24 [.slice ao n cap,secs]:=aDo (by have h:=ah.o _ _ _ G ((i4 C.heap.size C).alloc (d8 _) (.cells yF 69));rw[Z.o] at h;exact h) I J (by omega)
         clear I au;refine l.o _ _ (trivial) (fun gq=>?_)
         try simp only[Act.put,z1,z2,z3]
         refine aE 9 ?_;refine dY (i:=10) (h:=fun K l=>?_)
         rw[i6 (by kernel_rfl)]
         have ar:f.cell? ⟨g7,23,none⟩=some (.slice va k vc):=O.1.st.cell 23;have dn:=O.1.st.frozen 23;go_simp;refine l.o _ _ (trivial) (fun gi=>?_)
         try simp only[Act.put,z1,z2,z3]
         refine r8 (by kernel_rfl) ?_ _
         have bd:=hZ J;obtain⟨c,X,ag⟩:=O;have q:Mod (fun x=>x=g7) f (f.setCell ⟨g7,23,none⟩ (.slice u (k+1) A)):=(Mod.refl _ _).setCell (.inl rfl)
         have aa:=c.st.setCell 23 (.slice u (k+1) A);have av:Hid (oL w (f.setCell ⟨g7,23,none⟩ (.slice u (k+1) A)) gR rb lb g7 s (216+16*(k+1)) (.slice u (k+1) A)):=hZ ⟨⟨q.blk c.rd.rd (fun e=>c.ne.2.2.1 e.symm),q.blk c.rd.at_ (fun e=>c.ne.2.2.2.1 e.symm),c.rd.ne⟩,q.blk c.res c.ne.2.2.2.2,aa,c.bel.trans (q.toBelow (fun k H=>by rw[H];exact c.ge.2.2.2) c.bel.size),c.ne,c.ge⟩
         have ax:Hid ((f.setCell ⟨g7,23,none⟩ (.slice u (k+1) A)).ownsRow w.heap.size 69 2 (.slice u (k+1) A) (k+1) (bG (List.replicate (k+1) (0,0)))):=hZ (dH q X (fun g af e=>by
          obtain⟨an,bx,p⟩:=cC X af;have D:=c.st;unfold Blk at D;rw[←e,p] at D;simp at D))
         have ay:Hid (Blk (f.setCell ⟨g7,23,none⟩ (.slice u (k+1) A)) w.heap.size 24 [.slice ao n cap,secs]):=hZ (q.blk ag bt.o);clear bd c X ag q aa J;go_wp2_with fail;go_meet;exact⟨_,av,ax,ay⟩
     case rest=>
      obtain⟨v',bi,fz,bu⟩:=hcut;go_wp2_with fail;go_roundw
      case rel=>exact⟨k+1,v',by go_num,by omega,bi,fz,bu⟩
      case measure=>simp[intOf];omega
    ·obtain rfl:k=m:=by omega
     have c:¬(k:Int)<(k:Int):=by omega
     obtain⟨va,vc,rfl⟩:=aY bj.o;have dp:=lU lb s (216+16*k) wr T.o.rd.at_ (by omega) (by omega)
     rw[List.drop_of_length_le (by omega),show cG []=true from rfl] at dp
     have fc:=hZ dp;have fd:=hZ (fun W (fg:Below wr.heap.size wr W)=>aMp ao n cap gs secs W (RSl.below gd.o (T.o.bel.trans (fg.mono T.o.bel.size))) fo.o va k vc (bI (aD bj.o fg)) fp.o)
     have c0:wr.cell? rb=some (.pointer (some lb)):=T.o.rd.rd.cell 0;have an:wr.cell? ⟨rb,1,none⟩=some (.int .i64 0):=T.o.rd.rd.cell 1;clear dp;go_wp2_with fail;refine fc.o.mono ?_;rintro e C ⟨rfl,hq,ea⟩;have bn:bB wr C:=by rw[ea];exact⟨rfl,rfl,rfl,d8 _,fun _ _=>rfl⟩
     have ec:=hZ (T.o.below bn);have cm:=ba.o.below bn;have g0:C.cell? ⟨w.heap.size,0,none⟩=some (.slice ao n cap):=cm.cell 0;have gg:C.cell? ⟨w.heap.size,1,none⟩=some secs:=cm.cell 1;have fj:=fun aj a next Q=>aB (P:=prog) ec.o.st underlying62 rfl sG aj a next Q
     have fk:=hZ (fd.o C bn);have fl:=hZ (aD bj.o bn);clear ea bn cm c0 an fc fd T bj ba;go_wp2_with fail;refine fk.o.mono ?_;rintro e f ⟨rfl,cn⟩;have ak:=hZ (ec.o.below cn);have ed:=hZ (aD fl.o cn);have an:f.cell? ⟨rb,1,none⟩=some (.int .i64 0):=ak.o.rd.rd.cell 1;have hh:=fun aj a next Q=>aB (P:=prog) ak.o.st underlying62 rfl sG aj a next Q
     have hf:=fun aj a next Q=>aDp ak.o.res rfl (v:= .slice va k vc) rfl aj a next Q
     have gc:=hZ (ak.o.res.put (vs:=bF (.slice va k vc)) rfl);have q:Mod (fun x=>x=gR) f (f.setCells gR 0 (bF (.slice va k vc))):=Mod.grown (aJ gR _ f 0) rfl
     have fm:Hid ((f.setCells gR 0 (bF (.slice va k vc))).ownsRow w.heap.size 69 2 (.slice va k vc) k (bG (List.replicate k (0,0)))):=hZ (dH q ed.o (fun g af e=>by
      obtain⟨an,bx,p⟩:=cC ed.o af;have D:=ak.o.res;unfold Blk at D;rw[←e,p] at D;simp at D))
     have fn:Hid (bB w (f.setCells gR 0 (bF (.slice va k vc)))):=hZ (ak.o.bel.trans (q.toBelow (fun k H=>by rw[H];exact ak.o.ge.1) ak.o.bel.size))
     clear cn q fj g0 gg;go_wp2_with fail;refine l9 (aL rfl _ _ gR 62 _ _ rfl gc.o underlying62 rfl sG) rfl ?_;exact⟨_,rfl,fm.o,fn.o⟩
end
section
attribute [local go_sem ↓] mK nY cB
def lN (δ:bC) (slot i:Nat):Bs:=(List.range i).flatMap fun j=>δ.now (slot*4+j)
theorem aFt (δ:bC) (slot i:Nat):lN δ slot (i+1)=lN δ slot i++δ.now (slot*4+i):=by simp[lN,bMk]
def aGs (gs:Gs) (secs:Int) (t:Bs) (tx er:Nat) (nd:aM):Prop:=∃hd nb,t=hd++gM (dG hd)∧hd.length=224∧rM hd 8≤iI∧((dW hd 0 8≠nB∧cG (dW hd 48 128)=true∧tx=0∧nd=nD∧er=3)∨(UHd hd gs secs tx nb∧1≤tx∧tx≤4294967295∧lT nb= .ok (nd,true)∧nd.root.wf∧nd.root.ok∧(0≤nd.size∧nd.size≤16384)∧isNone nd.root=false∧bD gs secs nd.root=true∧nd.root.level=(gC nd.size:Nat)∧er=0))
theorem aKt (h:bV w x V F) (hr:x.right=true) (d slot:Nat) (C:d<x.ds.length) (ak:x.here d=true) (de:slot<4) (cy:16≤x.secs) (tx U:Nat) (nd:aM) (q:aGs x.gs x.secs (lN (x.ds.getD d eN) slot 4) tx U nd) (al:∀k,((x.ds.getD d eN).now k).length≤1000):
  Calls prog 126 #[V.val x.secs,(d:Nat),(slot:Nat)] w fun e w'=>e= .returned (.tuple #[.agg (bP tx nd).toArray,(U:Nat)])∧bB w w':=by
 have bj:=hZ h;have ax:0<x.gs.length:=by
  have:=(bL hr).2.1
  cases cj:x.gs with
  |nil=>rw[cj] at this;have e:cK []=0:=rfl;omega
  |cons a b=>simp
 obtain⟨bn,da,r,hF⟩:=h;obtain⟨m,lc,bl,ay⟩:=r.lcell (by omega)
 obtain⟨gb,f,am⟩:=bT r.grp ax;obtain⟨p,wc,an⟩:=aY r.awy;rw[r.n2] at an;have az:oZ w (some gb) x.gs.length f x.gs:=by have z:=bI (by rw[←am];exact r.grp);exact z
 obtain⟨δ,X⟩:=nZ (x.ds.getD d eN);obtain⟨db,ba⟩:=nZ (bn.getD d 0);have G:=r.dev d C;have Y:=ay d C;rw[←X] at q al G;rw[←ba] at G Y;have au:δ.lost=false:=by
  have:=ak;unfold aK.here at this;simp only[y8,bNr] at this;rw[X];exact this.2
 have bo:((δ.med.length:Nat):Int)=x.secs:=by rw[X];exact(bL hr).2.2.2 d C
 have bq:Hid (∀(W:World) (k:Nat),bB w W→k<4→Calls prog 192 #[.pointer (some db),.int .i64 ((slot*4+k:Nat):Int)] W fun e w'=>e= .returned (.tuple #[.string ⟨(δ.now (slot*4+k)).toArray⟩,(0:Int)])∧bB W w'):=hZ (fun W k l df=>by
  have z:=aNl (G.below l) ((slot*4+k:Nat):Int);have e:δ.readE ((slot*4+k:Nat):Int)=(δ.now (slot*4+k),0):=by
   have ck:δ.mayE ((slot*4+k:Nat):Int)=0:=by
    unfold bC.mayE;rw[i9 (by rw[au];decide),i9 (by omega)]
   unfold bC.readE;rw[i6 ck,s7]
  rw[e] at z;exact z)
 obtain⟨D,A⟩:=nZ ((w.alloc (.cells #[.slice (some gb) x.gs.length f,x.secs,.slice (some m) x.ds.length lc,.slice p x.ds.length wc] 43)).alloc (.cells (bP 0 nD).toArray 55));have Z:Hid (bB w D):=hZ (by rw[A];exact(bZ).alloc (by simp) _)
 have I:Blk D w.heap.size 43 [.slice (some gb) x.gs.length f,x.secs,.slice (some m) x.ds.length lc,.slice p x.ds.length wc]:=by rw[A];exact(Blk.new w _ _).alloc _
 have aa:Blk D (w.heap.size+1) 55 (bP 0 nD):=by rw[A];exact Blk.newAt _ _ (by simp)
 have H:V.val x.secs= .agg #[.slice (some gb) x.gs.length f,x.secs,.slice (some m) x.ds.length lc,.slice p x.ds.length wc]:=by unfold kE.val;rw[am,bl,an]
 have bc:Hid (∀W,bB w W→Calls prog 59 #[.agg #[.slice (some gb) x.gs.length f,x.secs,.slice (some m) x.ds.length lc,.slice p x.ds.length wc]] W fun e w'=>e= .returned true∧bB W w'):=hZ (fun W l=>by rw[←H];exact fL (bj.o.below l) hr)
 have bd:Hid (∀W,bB w W→Calls prog 103 #[.agg #[.slice (some gb) x.gs.length f,x.secs,.slice (some m) x.ds.length lc,.slice p x.ds.length wc],(d:Nat)] W fun e w'=>e= .returned true∧bB W w'):=hZ (fun W l=>by
  have z:=qS (bj.o.below l) hr d C;rw[ak,H] at z;exact z)
 have be:Hid (∀W,bB w W→Calls prog 193 #[.agg #[.slice (some gb) x.gs.length f,x.secs],.string ⟨(lN δ slot 4).toArray⟩] W fun e w'=>e= .returned (.tuple #[.agg (bP tx nd).toArray,(U:Nat)])∧bB W w'):=hZ (fun W l=>by
  obtain⟨br,nb,cl,cm,cn,co⟩:=q;exact aYl gb 0 x.gs.length f x.gs x.secs W (RSl.below az l) (bL hr).1 _ br nb cl cm cn tx U nd co)
 rw[H];obtain⟨n,ac⟩:=nZ x.ds.length;obtain⟨ap,ad⟩:=nZ x.gs.length;obtain⟨secs,ae⟩:=nZ x.secs;obtain⟨gx,J⟩:=nZ w.heap.size;obtain⟨E,O⟩:=nZ (w.heap.size+1);rw[←ac,←ad,←ae] at A I bc bd⊢;rw[←ad,←ae] at be;rw[←ac] at C;rw[←J] at I;rw[←O] at aa;have bs:Hid (gx=w.heap.size∧E=w.heap.size+1):=hZ ⟨J,O⟩;have bt:=hZ (fun W (l:bB w W)=>oR l Y)
 have bf:=hZ I;have bu:=hZ aa;have bm:=hZ al;have dg:¬(d:Int)<0:=by omega
 have dh:(d:Int)<(n:Int):=by omega
 have dc:¬(n:Int)≤(d:Int):=by omega
 have di:¬(slot:Int)<0:=by omega
 have dj:(slot:Int)<4:=by omega
 have dd:¬(4:Int)≤(slot:Int):=by omega
 have dk:0≤(d:Int):=by omega
 clear hr ak q al H am bl an ac ad ae I aa az ax G Y au bo r hF ay X ba;go_in;go_upto_region 1 with fail
 rw[show(w.alloc (.cells #[.slice (some gb) ap f,secs,.slice (some m) n lc,.slice p n wc] 43)).alloc (.cells yG 55)=D from A.symm,←O,←J];clear A O J;have af:=aB bf.o underlying43 rfl dC;go_wp2_with fail;refine(bc.o D Z.o).mono ?_;rintro e cp ⟨rfl,P⟩;have ag:=hZ (Z.o.trans (P.mono Z.o.size));have ah:=hZ (bf.o.below P);have bv:=hZ (bu.o.below P);clear P af;have c2:=ah.o.cell 2;have af:=aB ah.o underlying43 rfl dC;go_wp2_with fail;refine(bd.o cp ag.o).mono ?_;rintro e dm ⟨rfl,R⟩;have bw:=hZ (ag.o.trans (R.mono ag.o.size));have bx:=hZ (ah.o.below R);have bz:=hZ (bv.o.below R);clear R af c2;go_wp2_with fail;go_loopw [8,42] (fun cq aq wr=>∃(i:Nat),cq= .string ⟨(lN δ slot i).toArray⟩∧aq= .int .i64 i∧i≤4∧Hid (bB w wr∧Blk wr gx 43 [.slice (some gb) ap f,secs,.slice (some m) n lc,.slice p n wc]∧Blk wr E 55 (bP 0 nD))) (fun _ aq _=>4-(intOf aq).toNat)
 case atStart=>exact⟨0,rfl,rfl,z6 _,hZ ⟨bw.o,bx.o,bz.o⟩⟩
 case round=>
  obtain⟨i,rfl,rfl,dn,c⟩:=hrel;by_cases ca:i<4
  ·have cr:(i:Int)<4:=by omega
   have c2:=c.o.2.1.cell 2;have ct:=bt.o wr c.o.1;have bh:=hZ (bq.o wr i c.o.1 ca);have cu:IntKind.i64.wrap ((slot:Int)*4)=(slot:Int)*4:=bLo _ (by omega)
   have cv:IntKind.i64.wrap ((slot:Int)*4+(i:Int))=((slot*4+i:Nat):Int):=by rw[bLo _ (by omega)];omega
   have cb:(lN δ slot i).length≤4000:=by
    have cc:∀j,(lN δ slot j).length≤1000*j:=fun j=>by
     induction j with
     |zero=>simp[lN]
     |succ j dp=>rw[aFt,i7];have:=bm.o (slot*4+j);omega
    have:=cc i;omega
   have cd:=bm.o (slot*4+i);obtain⟨u,q⟩:=nZ (δ.now (slot*4+i));have ce:=hZ q;rw[←q] at bh cd;clear q;go_wp2_with fail;rw[show(slot:Int)*4+(i:Int)=((slot*4+i:Nat):Int) by omega]
   refine bh.o.mono ?_;rintro e ar ⟨rfl,T⟩;have cf:Hid (bB w ar∧Blk ar gx 43 [.slice (some gb) ap f,secs,.slice (some m) n lc,.slice p n wc]∧Blk ar E 55 (bP 0 nD)):=hZ ⟨c.o.1.trans (T.mono c.o.1.size),c.o.2.1.below T,c.o.2.2.below T⟩;obtain⟨cw,ai⟩:=nZ (lN δ slot i);have cg:=hZ ai;rw[←ai] at cb⊢;have dq:¬9223372036854775807<cw.length+u.length:=by omega
   clear T c2 ct ai cu cv;go_wp2_with fail;go_roundw
   case rel=>exact⟨i+1,by rw[aFt,←ce.o,←cg.o,tZ],by go_num,by omega,cf⟩
   case measure=>simp[intOf];omega
  ·have ch:i=4:=by omega
   subst ch;have cr:¬((4:Nat):Int)<4:=by omega
   have c0:=c.o.2.1.cell 0;have cx:=c.o.2.1.cell 1;go_wp2_with fail;refine(be.o wr c.o.1).mono ?_;rintro e w4 ⟨rfl,aj⟩;have av:=hZ (c.o.2.2.below aj);have bi:=hZ (c.o.1.trans (aj.mono c.o.1.size));have cz:=xQ av.o rfl tx nd;have ci:=hZ (bQ (o:=0) (g:=E) (vs:=bP tx nd) bi.o bi.o.size (by have:=bs.o.2;omega))
   clear aj c0 cx;go_wp2_with fail;refine l9 (aL rfl _ _ E 55 _ _ rfl (av.o.put (vs:=bP tx nd) rfl) underlying55 rfl kP) rfl ?_;exact⟨rfl,ci.o⟩
end
section
theorem bAc (ht:tx≤4294967295) {n:aM} (f:n.wf) (W:World):(Op.equalIn 10000 55 (.agg (bP tx n).toArray) (.agg (bP tx n).toArray)).run prog W= .ok true W:=by
 have c:fits (.int .i64:: .int .i64::aRe) (bP tx n):=⟨⟨_,rfl,rP (by unfold eY;omega)⟩,bJx f⟩
 obtain⟨r,h1,h2⟩:=tP (P:=prog) (n:=6) (t:=55) (ks:= .int .i64:: .int .i64::aRe) (by kernel_rfl) (by kernel_rfl) (by decide) (by decide) (by kernel_rfl) (by kernel_rfl) c c W
 rw[←(h2.2 rfl)];exact h1
theorem bJt:prog.eqGuardType prog.depth 55=false:=by kernel_rfl
theorem aFp {S:World→Prop} {c:Oper} (f:Region.wanted c (yielded ops a.tmps)=true) (x y:Operand) (h:TypeId) (l:c.op= .binOp .neq 55 x y h) (tx:Nat) (n:aM)
  (m:a.eval x= .agg (bP tx n).toArray) (hy:a.eval y= .agg (bP tx n).toArray) (ht:tx≤4294967295) (p:n.wf):YieldsIf prog ops S c false a:=
 .inl ⟨f,fun w q=>by
  unfold execOp;simp only[l,m,hy];rw[bLr,bLr,run_eqGuard_agg w _ _ _ _ _ _ bJt,y7,run_neq_struct,bAc ht p];rfl⟩
theorem bFp {c:Bool} (h:Blk w pb 112 (eD vg vl va secs tx nd sv bk wk ws c)):w.rangeAt pb 4 (bP tx nd):=fun j v f=>by
 rw[h.cell];have l:j<14:=(bMy.1 f).1;have e:((eD vg vl va secs tx nd sv bk wk ws c).drop 4).take 14=bP tx nd:=rfl;rw[←f,←e,bNk,i6 l,List.getElem?_drop]
attribute [local go_sem ↓] cB
theorem aHf {az:Bool} (h:Blk w pb 112 (eD V.g V.l V.a x.secs tx nd sv bk wk ws az)) (C:bV w x V F) (hr:x.right=true) (I:∀d,d<x.ds.length→x.here d=true) (ht:tx≤4294967295) (U:nd.wf)
  (ac:∀d,d<x.ds.length→aGs x.gs x.secs (lN (x.ds.getD d eN) (tx%4) 4) tx 0 nd) (ad:∀d k,((x.ds.getD d eN).now k).length≤1000):
  Calls prog 69 #[.pointer (some pb)] w (rZ w (.tuple #[])):=by
 have R:16≤x.secs:=by have:=aS (bL hr).1;omega
 obtain⟨ga,bj,ba,lc,bl,wc,ae,_⟩:=C.form;have al:=C.gslen;have m:=hZ (fun W W' (h:Below w.heap.size w W) (bc:Below W.heap.size W W')=>h.trans (bc.mono h.size))
 have X:=hZ (fun W (f:Below w.heap.size w W)=>aKf (h.below f))
 have an:=hZ (fun W (f:Below w.heap.size w W)=>bFp (h.below f))
 have ap:=hZ (fun W (f:Below w.heap.size w W)=>(h.below f).cell 4)
 have G:Hid (∀W d,bB w W→d<x.ds.length→Calls prog 126 #[.agg #[V.g,x.secs,V.l,V.a],(d:Nat),.int .i64 ((tx%4:Nat):Int)] W fun e w'=>e= .returned (.tuple #[.agg (bP tx nd).toArray,(0:Int)])∧bB W w'):=hZ (fun W d f q=>aKt (C.below f) hr d (tx%4) q (I d q) (bNd _ (by omega)) R tx 0 nd (ac d q) (ad d))
 have Y:Hid (∀W d,bB w W→d<x.ds.length→Calls prog 103 #[.agg #[V.g,x.secs,V.l,V.a],(d:Nat)] W fun e w'=>e= .returned true∧bB W w'):=hZ (fun W d f q=>by
  have af:=qS (C.below f) hr d q;rw[I d q] at af;exact af)
 have aq:Hid (IntKind.i64.wrap ((tx:Int).tmod 4)=((tx%4:Nat):Int)):=hZ (by
  rw[Int.tmod_eq_emod_of_nonneg (by omega),bLo _ (by omega)]
  omega)
 have am:Hid ((tx:Int).tmod 4=((tx%4:Nat):Int)):=hZ (by
  rw[Int.tmod_eq_emod_of_nonneg (by omega)]
  omega)
 have ar:=hZ ht;have au:=hZ U;have c2:w.cell? ⟨pb,2,none⟩=some (.slice ba x.ds.length lc):=by
  have:=h.cell 2;rw[ae] at this;exact this
 obtain⟨n,ag⟩:=nZ x.ds.length;rw[←ag] at G Y c2 al;clear h C hr I ht U ac ad R ae ag;go_in;go_wp21;clear c2;go_loopw [11] (fun J wr=>∃d:Nat,J= .int .i64 (d:Nat)∧d≤n∧Hid (Below w.heap.size w wr)) (fun J _=>n-(intOf J).toNat)
 case atStart=>exact⟨0,rfl,z6 _,hZ (i4 _ _)⟩
 case round=>
  obtain⟨d,rfl,q,ah⟩:=hrel;by_cases H:d<n
  ·have bd:(d:Int)<(n:Int):=by omega
   go_upto_region 3 with fail
   go_cut [3,4] (fun be v4 ai=>∃A,be= .pointer (some ⟨A,0,none⟩)∧v4= .int .i64 0∧Hid (Below w.heap.size w ai)∧Hid (Blk ai A 55 (bP tx nd)))
   case first=>
    have u:=m.o _ _ ah.o (i4 wr.heap.size wr).drew;refine l7 (S:=Below w.heap.size w) (by kernel_rfl) u (fun u=>?_)
    refine aE 0 ?_;refine aE 1 ?_;refine aE 2 ?_;refine mX 3 ?vs3 ?ys3 ?_
    case ys3=>refine m5 (by kernel_rfl) 43 (.tmp 17) ?_ pb (0) ?_ ([V.g,x.secs,V.l,V.a]) _ (fun w' r=>X.o _ r) underlying43 rfl dC<;>rfl
    refine aE 4 ?_;refine aE 5 ?_;refine aE 6 ?_;refine aE 7 ?_;refine aE 8 ?_;refine sB (i:=9) (v:=?vs9) (hy:=?ys9) (h:=?_)
    case ys9=>intro w D;(try dsimp only at D);go_simp;first|(rw[ap.o _ D];rfl)|rfl
    refine sB (i:=10) (v:=?vs10) (hy:=?ys10) (h:=?_)
    case ys10=>intro w D;(try dsimp only at D);go_simp;first|rw[aq.o]|(rw[am.o])|trace_state
    refine vB [11,15] ?_;refine rc (fun K c=>?_) (rc (fun K c=>?_) rn)
    case' _=>
     go_simp;refine(G.o _ d u H).mono ?_;rintro e w8 ⟨rfl,p⟩;dsimp only;refine c.o _ _ (m.o _ _ u p) (fun O=>?_)
     try simp only[Act.put,z1,z2,z3]
     refine aE 12 ?_;refine aE 13 ?_;refine aE 14 ?_;refine dY (i:=15) (h:=fun K c=>?_)
     go_simp
     skip
     refine c.o _ _ (m.o _ _ O (bZ)) (fun bf=>?_)
     try simp only[Act.put,z1,z2,z3]
     refine dY (i:=16) (h:=fun K c=>?_)
     rw[i6 (by kernel_rfl)]
     refine bMx 55 (.tmp 3) (.tmp 27) rfl w8.heap.size (0) (bP tx nd).toArray rfl rfl (cW (Blk.new w8 _ _) (d8 14)) kP (bLu (lE _ _)) ?_;refine c.o _ _ (m.o w8 _ O (bQ (bZ) (by simp) (d8 _))) (fun aj=>?_)
     try simp only[Act.put,z1,z2,z3]
     refine aE 17 ?_;refine r8 (by kernel_rfl) ?_ _
     have Z:=hZ aj;have aa:=hZ ((Blk.new w8 55 [.int .i64 0,.int .i64 0,.int .i64 0,.int .i64 0,.int .i64 0,.int .i64 0,.bool false,.int .i64 0,.int .i64 0,.int .i64 0,.int .u64 0,.int .u64 0,.int .u64 0,.int .u64 0]).put (vs:=bP tx nd) rfl)
    rotate_left
    case' _=>
     go_simp
     skip
     refine c.o _ _ (m.o _ _ u (bZ)) (fun P=>?_)
     try simp only[Act.put,z1,z2,z3]
     refine dY (i:=11) (h:=fun K c=>?_)
     go_simp;refine(G.o _ d P H).mono ?_;rintro e w8 ⟨rfl,p⟩;dsimp only;refine c.o _ _ (m.o _ _ P p) (fun bh=>?_)
     try simp only[Act.put,z1,z2,z3]
     refine aE 12 ?_;refine aE 13 ?_;refine aE 14 ?_;refine dY (i:=16) (h:=fun K c=>?_)
     rw[i6 (by kernel_rfl)]
     refine bMx 55 (.tmp 3) (.tmp 27) rfl wr.heap.size (0) (bP tx nd).toArray rfl rfl (cW ((Blk.new wr.drew _ _).below p) (d8 14)) kP (bLu (lE _ _)) ?_;refine c.o _ _ (m.o wr.drew _ u (bQ ((bZ).trans (p.mono (by simp))) (by have:=p.size;simp at this;show wr.heap.size≤_;omega) (d8 _))) (fun ak=>?_)
     try simp only[Act.put,z1,z2,z3]
     refine aE 17 ?_;refine r8 (by kernel_rfl) ?_ _
     have Z:=hZ ak;have aa:=hZ (((Blk.new wr.drew 55 [.int .i64 0,.int .i64 0,.int .i64 0,.int .i64 0,.int .i64 0,.int .i64 0,.bool false,.int .i64 0,.int .i64 0,.int .i64 0,.int .u64 0,.int .u64 0,.int .u64 0,.int .u64 0]).below p).put (vs:=bP tx nd) rfl)
    all_goals
     go_wp21;go_meet;exact⟨_,rfl,rfl,Z,aa⟩
   case rest=>
    obtain⟨A,rfl,rfl,av,ax⟩:=hcut;go_upto_region 4 with fail
    have z:bB w wc.drew∧Blk wc.drew A 55 (bP tx nd):=⟨av.o.drew,ax.o.drew⟩;refine l7 (S:=fun W=>bB w W∧Blk W A 55 (bP tx nd)) (by kernel_rfl) z (fun z=>?_)
    refine aE 0 ?_;refine aE 1 ?_;refine aE 2 ?_;refine mX 3 ?vu3 ?yu3 ?_
    case yu3=>refine m5 (by kernel_rfl) 43 (.tmp 31) ?_ pb (0) ?_ ([V.g,x.secs,V.l,V.a]) _ (fun w' r=>X.o _ (And.left r)) underlying43 rfl dC<;>rfl
    refine aE 4 ?_;refine dY (i:=5) (h:=fun K c=>?_)
    go_simp;refine(Y.o _ d z.1 H).mono ?_;rintro e bi ⟨rfl,E⟩;dsimp only;refine c.o _ _ (⟨m.o _ _ z.1 E,z.2.below E⟩) (fun T=>?_)
    refine aE 6 ?_;refine aE 7 ?_;refine aE 8 ?_;refine aE 9 ?_;refine mX 10 ?vu10 ?yu10 ?_
    case yu10=>refine m5 (by kernel_rfl) 55 (.tmp 3) ?_ A (0) ?_ (bP tx nd) _ (fun w' r=>aEj r) underlying55 rfl kP<;>rfl
    refine aE 11 ?_;refine aE 12 ?_;refine aE 13 ?_;refine mX 14 ?vu14 ?yu14 ?_
    case yu14=>refine m5 (by kernel_rfl) 55 (.tmp 42) ?_ pb (4) ?_ (bP tx nd) _ (fun w' r=>an.o _ (And.left r)) underlying55 rfl kP<;>rfl
    refine mX 15 ?vu15 ?yu15 ?_
    case yu15=>exact(by refine aFp (by kernel_rfl) (.tmp 39) (.tmp 43) 55 ?_ tx nd ?_ ?_ ar.o au.o<;>rfl)
    refine aE 16 ?_;refine aE 17 ?_;refine r8 (by kernel_rfl) ?_ _
    have ay:=hZ T.1;clear T z E;go_wp21;go_roundw
    case rel=>exact⟨d+1,by go_num,by omega,ay⟩
    case measure=>simp[intOf];omega
  ·have bd:¬(d:Int)<(n:Int):=by omega
   go_wp21;go_end0;exact⟨rfl,ah.o⟩
end
theorem aUk (hr:x.right=true) (f:d<x.ds.length) (c:x.here d=true) (l:(k:Int)<x.secs):x.col (d,k,false,0)=(x.ds.getD d eN).now k:=by
 have h:(x.ds.getD d eN).lost=false:=by
  unfold aK.here at c;simp only[y8,bNr] at c;exact c.2
 have m:=(bL hr).2.2.2 d f;unfold aK.col;rw[i6 c]
 show((x.ds.getD d eN).readE ((k:Nat):Int)).1=_
 unfold bC.readE;have h0:(x.ds.getD d eN).mayE ((k:Nat):Int)=0:=by
  unfold bC.mayE;rw[i9 (by rw[h];decide),i9 (by omega)]
 rw[i6 h0]
 show(x.ds.getD d eN).now ((k:Nat):Int).toNat=_
 rw[s7]
theorem aHx (c:i<4):∀n,d<n→(((d,slot+i,false,0):bJ),dW s (64*i) 64)∈tR slot s n
 |0,h=>by omega
 |n+1,h=>by
  show _∈tR slot s n++_
  rw[bMu];by_cases e:d=n
  ·subst e
   exact .inr (bMn.2 ⟨i,bMp.2 c,rfl⟩)
  ·exact .inl (aHx c n (by omega))
theorem aCq (slot:Nat) (s:Bs):∀n,(tR slot s n).Pairwise (fun a b=>¬aPl a.1 b.1)
 |0=>List.Pairwise.nil
 |n+1=>by
  show(tR slot s n++_).Pairwise _
  rw[bNs];refine⟨aCq slot s n,?_,fun a c b f h=>?_⟩
  ·rw[List.pairwise_map]
   refine List.Pairwise.imp (fun {a b} l h=>?_) (List.nodup_range (n:=4))
   have h2:slot+a=slot+b:=h.2;omega
  ·have h1:=mL c
   obtain⟨i,_,rfl⟩:=bMn.1 f;have h2:a.1.1=n:=h.1;omega
theorem bEk (h:s.length=256):((List.range 4).flatMap fun j=>dW s (64*j) 64)=s:=by
 have h1:∀k,dW s k 64++s.drop (k+64)=s.drop k:=fun k=>by
  unfold dW;rw[←List.drop_drop,bOg]
 have e:((List.range 4).flatMap fun j=>dW s (64*j) 64)=dW s 0 64++(dW s 64 64++(dW s 128 64++(dW s 192 64++s.drop 256))):=by
  rw[bNj (by omega)]
  simp[bMk]
 rw[e,h1 192,h1 128,h1 64,h1 0,bOf]
theorem aIg (f:s.length=256):∀{n:Nat} {q:bJ×Bs},q∈tR slot s n→q.2.length=64
 |0,q,h=>by cases h
 |n+1,q,h=>by
  have c:q∈tR slot s n++_:=h;rw[bMu] at c;rcases c with h1|h1
  ·exact aIg f h1
  ·obtain⟨i,l,rfl⟩:=bMn.1 h1
   rw[bMp] at l
   show(dW s (64*i) 64).length=64
   unfold dW;rw[z7,bMe];omega
theorem uC {c m:Type} {l:List c} {f g:c→List m} (h:∀a∈l,f a=g a):l.flatMap f=l.flatMap g:=by
 rw[List.flatMap_def,List.flatMap_def,bOo h]
structure bJu (x:aK) (t:Nat) (n:aM):Prop where
 here:∀d,d<x.ds.length→aGs x.gs x.secs (lN (x.ds.getD d eN) (t%4) 4) t 0 n
 none:∀d s,d<x.ds.length→s<4→s≠t%4→aGs x.gs x.secs (lN (x.ds.getD d eN) s 4) 0 3 nD
 short:∀d k,((x.ds.getD d eN).now k).length≤1000
theorem aTg (gs:Gs) (secs:Int):aGs gs secs (aP 256) 0 3 nD:=by
 refine⟨aP 224,aP 128,?_,by unfold aP;exact bLw,by rw[aGt.2.1];exact z6 _,.inl ⟨aGt.1,by rw[aGt.2.2];decide,rfl,rfl,rfl⟩⟩
 rw[aTz];unfold aP;rw[bNq]
theorem aSs {s:pV} {n:aM} {t:Nat} (h:aVw x0 s n text) (hr:x0.right=true) (X:∀i,i<x0.ds.length→x0.here i=true∧(x0.ds.getD i eN).fuse= -1) (ak:∀d k,d<x0.ds.length→k<16→x0.col (d,k,false,0)=aP 64)
  (Y:n.wf) (Z:eU n= .ok nb) (ht:1≤t∧t≤4294967295) (ba:text.length≤512) (af:x0.fits):bJu (yP s.S.x t x0.gs x0.secs nb) t n:=by
 have au:=aS (bL hr).1;have k1:=h.wr.kept;obtain⟨l,G⟩:=nZ (cM s.S.x);have k7:dT x0 l:=k1.trans (by rw[G];exact eT _)
 obtain⟨p,H⟩:=nZ (fS x0.gs x0.secs t nb++gM (dG (fS x0.gs x0.secs t nb)));obtain⟨f,u⟩:=nZ (uWr l (t%4*4) p);have A:dT x0 f:=k7.trans (by rw[u];exact yO _ _ _)
 have al:yP s.S.x t x0.gs x0.secs nb=cM f:=by unfold yP;rw[u,G,H]
 have m:dT x0 (cM f):=A.trans (eT _);rw[al];have I:=mJ Z;have aa:(fS x0.gs x0.secs t nb).length=224:=(aBj x0.gs x0.secs t ht.2 nb I).len;have ag:(gM (dG (fS x0.gs x0.secs t nb))).length=32:=by unfold gM;simp only[i7,aH]
 have ac:p.length=256:=by rw[H,i7,aa,ag]
 have ax:=k1.right hr;have ay:=A.right hr;have ad:∀{y:aK},dT x0 y→∀d,d<x0.ds.length→y.here d=true:=fun k d c=>by rw[k.here];exact(X d c).1
 have ah:l.calm:=fun i=>by
  by_cases J:i<x0.ds.length
  ·exact .inl ((k7.dev i).2.2 (X i J).2)
  ·exact .inr (by rw[k7.n];omega)
 have E:∀{y:aK},dT x0 y→∀d k,d<x0.ds.length→k<16→k<(y.ds.getD d eN).med.length:=fun {y} O d k c r=>by
  have:=(bL (O.right hr)).2.2.2 d (by rw[O.n];exact c)
  rw[O.secs] at this;omega
 have U:∀d k,d<x0.ds.length→k<16→((cM f).ds.getD d eN).now k=f.col (d,k,false,0):=fun d k c r=>by
  have am:=wN f (d,k,false,0) (by rw[A.n];exact c) (E A d k c r)
  rw[←am,aUk (m.right hr) (by rw[m.n];exact c) (ad m d c) (by rw[m.secs];omega)]
 have av:t%4<4:=bNd _ (by omega)
 have ai:∀d i,d<x0.ds.length→i<4→f.col (d,t%4*4+i,false,0)=dW p (64*i) 64:=fun d i c J=>by
  rw[u];refine qI _ l [] ah (fun q C=>?_) (aCq _ _ _) _ (aHx (s:=p) (slot:=t%4*4) J l.ds.length (by rw[k7.n];exact c)) (ad k7 d c)
  have h1:=mL C;refine⟨h1.1,E k7 _ _ (by rw[←k7.n];exact h1.1) (by omega),?_⟩
  exact aIg ac C
 have aj:∀d k,d<x0.ds.length→k<16→(k<t%4*4∨t%4*4+4≤k)→f.col (d,k,false,0)=aP 64:=fun d k c r bc=>by
  rw[u];have an:(uWr l (t%4*4) p).col (d,k,false,0)=l.col (d,k,false,0):=aAx (d,k,false,0) _ l [] (k7.right hr) (fun q C e=>by
   have h1:=mL C;have h2:q.1.2.1=k:=e.2;omega)
  rw[an,G,wN s.S.x (d,k,false,0) (by rw[k1.n];exact c) (E k1 d k c r),h.wr.low _ r,ak d k c r]
 have z:∀{d},d<(cM f).ds.length→d<x0.ds.length:=fun {d} c=>by rw[←m.n];exact c
 refine⟨fun d c=>?_,fun d ae c bd az=>?_,fun d k=>?_⟩
 ·have P:lN ((cM f).ds.getD d eN) (t%4) 4=p:=by
   unfold lN;rw[←bEk ac];refine uC fun j D=>?_
   rw[bMp] at D;rw[U d _ (z c) (by omega),ai d j (z c) D]
  rw[P,m.gs,m.secs,H];have T:bD x0.gs x0.secs n.root=true∧n.root.ok:=h.ptrs.1 _ (by unfold kN;split<;>simp)
  refine⟨_,nb,rfl,aa,?_,.inr ⟨aBj x0.gs x0.secs t ht.2 nb I,ht.1,ht.2,aIl Z Y.root,Y.root,T.2,by rw[h.size];omega,?_,T.1,?_,rfl⟩⟩
  ·rw[(aBj x0.gs x0.secs t ht.2 nb I).txg]
   unfold iI;omega
  ·rcases h.obj with⟨_,_,_,ap,_⟩|⟨_,_,_,_,_,_,_,_,_,_,aq,_⟩
   ·exact ap
   ·exact aq
  ·rcases h.obj with⟨h1,_,R,_⟩|⟨h1,_,_,_,_,R,_⟩
   ·rw[R,qV h1];rfl
   ·rw[R,aKz (by omega) (by rw[h.size];omega)];rfl
 ·have P:lN ((cM f).ds.getD d eN) ae 4=aP 256:=by
   unfold lN;have e:(List.range 4).flatMap (fun j=>((cM f).ds.getD d eN).now (ae*4+j))=(List.range 4).flatMap (fun _=>aP 64):=uC fun j D=>by
    rw[bMp] at D;rw[U d _ (z c) (by omega),aj d _ (z c) (by omega) (by omega)]
   rw[e]
   show aP 64++(aP 64++(aP 64++(aP 64++[])))=_
   unfold aP;rw[bMv,bNq,bNq,bNq]
  rw[P];exact aTg _ _
 ·have ar:(cM f).fits:=m.fit af
  have:=ar d k;unfold nA at this;rw[bLt] at this;rcases this with h1|h1
  ·rw[h1];exact z6 _
  ·rw[h1];omega
section
attribute [local go_sem ↓] mK nY cB
theorem pE (t:Nat) (p:aM) (w:World) (c:Oper) (a:Act) (next:Act→World→Prop) (Q:Exit→Act→World→Prop):cS prog c 55 (.pointer (some ⟨w.heap.size,0,none⟩)) (.agg (bP t p).toArray) a (w.alloc (.cells yG 55)) next Q=next (a.put c.dst undef) (w.alloc (.cells (bP t p).toArray 55)):=by
 have s:=aG (P:=prog) (t:=55) (o:=0) (cs:=bP t p) (Blk.new w 55 (yG).toList) (d8 14) kP (lE t p) c a next Q;rw[dS w 55 (bP t p) (yG).toList rfl] at s;exact s
theorem aLx (w:World) (c:Oper) (a:Act) (next:Act→World→Prop) (Q:Exit→Act→World→Prop):cS prog c 55 (.pointer (some ⟨w.heap.size,0,none⟩)) (.agg yG) a (w.alloc (.cells yG 55)) next Q=next (a.put c.dst undef) (w.alloc (.cells (bP 0 nD).toArray 55)):=pE 0 nD w c a next Q
def aHv (k0 tx:Nat) (d j:Nat):Nat:=if 0<d∨k0<j then tx else 0
def aJk (k0:Nat) (nd:aM) (d j:Nat):aM:=if 0<d∨k0<j then nd else nD
structure UbS (w:World) (box:List Value) (k0 tx:Nat) (nd:aM) (gx g2 g4 d j:Nat) (W:World):Prop where
 bel:Below w.heap.size w W
 bx:Blk W gx 43 box
 res:Blk W g2 55 (bP 0 nD)
 bst:Blk W g4 55 (bP (aHv k0 tx d j) (aJk k0 nd d j))
theorem UbS.below {k0:Nat} (h:UbS w box k0 tx nd gx g2 g4 d j W) (c:bB W W'):UbS w box k0 tx nd gx g2 g4 d j W':=⟨h.bel.trans (c.mono h.bel.size),h.bx.below c,h.res.below c,h.bst.below c⟩
theorem UbS.same {k0:Nat} {j2:Nat} (h:UbS w box k0 tx nd gx g2 g4 d j W) (e:(0<d∨k0<j)↔(0<d2∨k0<j2)):UbS w box k0 tx nd gx g2 g4 d2 j2 W:=by
 refine⟨h.bel,h.bx,h.res,?_⟩;have h1:=h.bst;unfold aHv aJk at h1⊢;by_cases c:0<d∨k0<j
 ·rw[i6 c,i6 c] at h1
  rw[i6 (e.1 c),i6 (e.1 c)];exact h1
 ·rw[i9 c,i9 c] at h1
  rw[i9 (fun x=>c (e.2 x)),i9 (fun x=>c (e.2 x))];exact h1
theorem aYx (h:bV w x V F) (hr:x.right=true) (ch:0<x.ds.length) (ar:∀d,d<x.ds.length→x.here d=true) (az:16≤x.secs) (k0 tx:Nat) (nd:aM) (cn:k0<4) (ht:1≤tx) (bn:∀d,d<x.ds.length→aGs x.gs x.secs (lN (x.ds.getD d eN) k0 4) tx 0 nd) (bo:∀d s,d<x.ds.length→s<4→s≠k0→aGs x.gs x.secs (lN (x.ds.getD d eN) s 4) 0 3 nD) (au:∀d k,((x.ds.getD d eN).now k).length≤1000):
  Calls prog 66 #[V.val x.secs] w fun e w'=>e= .returned (.tuple #[.agg (bP tx nd).toArray,.int .i64 0])∧bB w w':=by
 have af:=hZ h;obtain⟨ga,m,p,lc,q,wc,bq,_⟩:=h.form;have Y:V.val x.secs= .agg #[.slice ga x.gs.length m,x.secs,.slice p x.ds.length lc,.slice q x.ds.length wc]:=by rw[bq];rfl
 have ba:Hid (∀W,bB w W→Calls prog 59 #[.agg #[.slice ga x.gs.length m,x.secs,.slice p x.ds.length lc,.slice q x.ds.length wc]] W fun e w'=>e= .returned (.bool true)∧bB W w'):=hZ (fun W ag=>by rw[←Y];exact fL (af.o.below ag) hr)
 have bc:Hid (∀(W:World) (d j:Nat),bB w W→d<x.ds.length→j<4→Calls prog 126 #[.agg #[.slice ga x.gs.length m,x.secs,.slice p x.ds.length lc,.slice q x.ds.length wc],(d:Nat),(j:Nat)] W fun e w'=>e= .returned (.tuple #[.agg (bP (if j=k0 then tx else 0) (if j=k0 then nd else nD)).toArray,.int .i64 ((if j=k0 then 0 else 3:Nat):Int)])∧bB W w'):=hZ (fun W d j ag A ah=>by
  rw[←Y];by_cases e:j=k0
  ·subst e
   rw[i6 rfl,i6 rfl,i6 rfl];exact aKt (af.o.below ag) hr d j A (ar d A) ah az tx 0 nd (bn d A) (au d)
  ·rw[i9 e,i9 e,i9 e]
   exact aKt (af.o.below ag) hr d j A (ar d A) ah az 0 3 nD (bo d j A ah e) (au d))
 rw[Y];obtain⟨n,Z⟩:=nZ x.ds.length;obtain⟨C,bd⟩:=nZ x.gs.length;obtain⟨secs,be⟩:=nZ x.secs;have cm:n≤1000:=by rw[Z];exact af.o.gslen
 rw[←Z,←bd,←be] at ba bc⊢;rw[←Z] at ch;clear h hr ar bn bo au bq Y Z bd be;obtain⟨D,G⟩:=nZ ((w.alloc (.cells #[.slice ga C m,secs,.slice p n lc,.slice q n wc] 43)).alloc (.cells (bP 0 nD).toArray 55));have bf:bB w D:=by rw[G];exact(bZ).alloc (by simp) _
 have aj:Blk D w.heap.size 43 [.slice ga C m,secs,.slice p n lc,.slice q n wc]:=by rw[G];exact(Blk.new w _ _).alloc _
 have ak:Blk D (w.heap.size+1) 55 (bP 0 nD):=by rw[G];exact Blk.newAt _ _ (by simp)
 have bh:D.heap.size=w.heap.size+2:=by rw[G];simp
 obtain⟨gx,H⟩:=nZ w.heap.size;obtain⟨g2,aa⟩:∃ci,ci=w.heap.size+1:=⟨_,rfl⟩;rw[←H] at aj;rw[←aa] at ak;have al:Hid (gx=w.heap.size∧g2=w.heap.size+1∧D.heap.size=w.heap.size+2):=hZ ⟨H,aa,bh⟩;have bi:=hZ aj;have bz:=hZ ak;have am:=hZ bf;clear aj ak bf bh;go_in;go_upto_region 1 with fail
 rw[show(w.alloc (.cells #[.slice ga C m,secs,.slice p n lc,.slice q n wc] 43)).alloc (.cells yG 55)=D from G.symm,←aa,←H];clear G aa H;have O:=fun c a next Q=>aB (P:=prog) bi.o underlying43 rfl dC c a next Q
 go_wp2_with fail;refine(ba.o D am.o).mono ?_;rintro e X ⟨rfl,R⟩;have bj:=hZ (am.o.trans (R.mono am.o.size));have ca:=hZ (bi.o.below R);have cb:=hZ (bz.o.below R);have cc:=hZ R.size;clear R O;have bv:=fun c a next Q=>aLx X c a next Q
 go_upto_region 4 with fail
 obtain⟨br,ac⟩:=nZ (X.alloc (.cells (bP 0 nD).toArray 55));obtain⟨g4,T⟩:∃g,g=X.heap.size:=⟨_,rfl⟩;have ad:bB X br:=by rw[ac];exact bZ
 have bs:Hid (UbS w [.slice ga C m,secs,.slice p n lc,.slice q n wc] k0 tx nd gx g2 g4 0 0 br):=hZ ⟨bj.o.trans (ad.mono bj.o.size),ca.o.below ad,cb.o.below ad,by rw[ac,T];unfold aHv aJk;rw[i9 (by omega),i9 (by omega)];exact Blk.new X _ _⟩
 have cd:Hid (w.heap.size+2≤g4):=hZ (by have:=al.o.2.2;have:=cc.o;omega)
 rw[←ac,←T];clear ac T ad bv;have c2:=bs.o.bx.cell 2;go_wp2_with fail;clear c2;go_loopw [17] (fun av wr=>∃d:Nat,av= .int .i64 d∧d≤n∧Hid (UbS w [.slice ga C m,secs,.slice p n lc,.slice q n wc] k0 tx nd gx g2 g4 d 0 wr)) (fun av _=>n-(intOf av).toNat)
 case atStart=>exact⟨0,rfl,z6 _,bs⟩
 case round=>
  obtain⟨d,rfl,A,J⟩:=hrel;by_cases ce:d<n
  ·have cj:(d:Int)<(n:Int):=by omega
   go_wp2_with fail;go_loopw [20] (fun ax wr=>∃j:Nat,ax= .int .i64 j∧j≤4∧Hid (UbS w [.slice ga C m,secs,.slice p n lc,.slice q n wc] k0 tx nd gx g2 g4 d j wr)) (fun ax _=>4-(intOf ax).toNat)
   case atStart=>exact⟨0,rfl,z6 _,J⟩
   case round=>
    obtain⟨j,rfl,ah,ai⟩:=hrel;by_cases cf:j<4
    ·have ck:(j:Int)<4:=by omega
     have O:=fun c a next Q=>aB (P:=prog) ai.o.bx underlying43 rfl dC c a next Q
     go_wp2_with fail;refine(bc.o wr d j ai.o.bel ce cf).mono ?_;rintro e u ⟨rfl,bl⟩;have bt:=hZ (ai.o.below bl);clear bl O;by_cases I:j=k0
     ·rw[i6 I,i6 I,i6 I]
      have an:=fun c a next Q=>pE tx nd u c a next Q
      obtain⟨l,r⟩:=nZ (u.alloc (.cells (bP tx nd).toArray 55));obtain⟨g7,ap⟩:∃g,g=u.heap.size:=⟨_,rfl⟩;have U:bB u l:=by rw[r];exact bZ
      have z:=hZ (bt.o.below U);have ae:Blk l g7 55 (bP tx nd):=by rw[r,ap];exact Blk.new u _ _
      go_upto_region 11 with fail
      rw[←r,←ap];clear r ap U an;have co:cZ l g7 0 (tx:Nat):=ae.cell 0;have f:=z.o.bst;unfold aHv aJk at f;by_cases bm:0<d
      ·rw[i6 (.inl bm),i6 (.inl bm)] at f
       have cl:cZ l g4 0 (tx:Nat):=f.cell 0;have bu:¬(tx:Int)<(tx:Int):=by omega
       have E:=hZ (z.o.same (d2:=d) (j2:=j+1) (by omega))
       clear f ae;go_wp2_with fail;go_roundw
       case rel=>exact⟨j+1,by go_num,by omega,E⟩
       case measure=>simp[intOf];omega
      ·rw[i9 (by omega),i9 (by omega)] at f
       have cl:cZ l g4 0 (.int .i64 0):=f.cell 0;have bu:(0:Int)<(tx:Int):=by omega
       have O:=fun c a next Q=>aB (P:=prog) ae underlying55 rfl kP c a next Q
       have bw:=fun c a next Q=>xQ f rfl tx nd c a next Q
       have aq:Mod (fun x=>x=g4) l (l.setCells g4 0 (bP tx nd)):=Mod.grown (aJ g4 (bP tx nd) l 0) rfl
       have H:=al.o;have T:=cd.o;have E:Hid (UbS w [.slice ga C m,secs,.slice p n lc,.slice q n wc] k0 tx nd gx g2 g4 d (j+1) (l.setCells g4 0 (bP tx nd))):=hZ ⟨bQ z.o.bel z.o.bel.size (by omega),aq.blk z.o.bx (by omega),aq.blk z.o.res (by omega),by
        unfold aHv aJk;rw[i6 (by omega),i6 (by omega)]
        exact f.put rfl⟩
       clear f ae aq H T;go_wp2_with fail;go_roundw
       case rel=>exact⟨j+1,by go_num,by omega,E⟩
       case measure=>simp[intOf];omega
     ·rw[i9 I,i9 I,i9 I]
      have an:=fun c a next Q=>pE 0 nD u c a next Q
      obtain⟨l,r⟩:=nZ (u.alloc (.cells (bP 0 nD).toArray 55));have U:bB u l:=by rw[r];exact bZ
      have z:=hZ (bt.o.below U);have E:=hZ (z.o.same (d2:=d) (j2:=j+1) (by omega))
      go_upto_region 11 with fail
      rw[←r];clear r U an;go_wp2_with fail;go_roundw
      case rel=>exact⟨j+1,by go_num,by omega,E⟩
      case measure=>simp[intOf];omega
    ·have ck:¬(j:Int)<4:=by omega
     have E:=hZ (ai.o.same (d2:=d+1) (j2:=0) (by omega))
     go_wp2_with fail;go_roundw
     case rel=>exact⟨d+1,by go_num,by omega,E⟩
     case measure=>simp[intOf];omega
  ·have cj:¬(d:Int)<(n:Int):=by omega
   have f:Blk wr g4 55 (bP tx nd):=by
    have ay:=J.o.bst;unfold aHv aJk at ay;rw[i6 (by omega),i6 (by omega)] at ay
    exact ay
   have c0:cZ wr g4 0 (tx:Nat):=f.cell 0;have bu:((tx:Int) == 0)=false:=by simp;omega
   have O:=fun c a next Q=>aB (P:=prog) f underlying55 rfl kP c a next Q
   have bw:=fun c a next Q=>xQ J.o.res rfl tx nd c a next Q
   have cg:=hZ (bQ (o:=0) (g:=g2) (vs:=bP tx nd) J.o.bel J.o.bel.size (by have:=al.o.2;omega))
   clear f;go_wp2_with fail;refine l9 (aL rfl _ _ g2 55 _ _ rfl (J.o.res.put (vs:=bP tx nd) rfl) underlying55 rfl kP) rfl ?_;exact⟨rfl,cg.o⟩
end
section
attribute [local go_sem ↓] cB mK nY kX nT
theorem bEq {n:aM} (h:Blk w g 55 (bP tx n)):w.rangeAt g 1 (aN n):=fun j v c=>by
 rw[h.cell]
 show(bP tx n)[1+j]?=some v
 rw[Nat.add_comm];exact c
theorem dV.newSt {B:Nat} {f:Bool} (h:dV B w pb x V tx nd st ga cap bb eb ms es F wk ws f) (m:Mod (fun k=>k=pb) w w')
  (q:Blk w' pb 112 (eD V.g V.l V.a x.secs tx nd (.slice (some ga') st'.length cap') (some bb) wk ws f)) (r:w'.ownsRow B 69 2 (.slice (some ga') st'.length cap') st'.length (bG st')):dV B w' pb x V tx nd st' ga' cap' bb eb ms es F wk ws f:=by
 refine⟨q,h.dvs.keep (fun g c=>m.block g (h.dvs.lt g c) (fun e=>h.pbIn (.inl (e▸c)))),r,h.bok.typed (fun g cs e fr c p=>?_),h.pbB,h.FB,h.fB⟩
 rw[m.block g (i8.1 c).1 (sF h.blk c (by unfold cH at p;rcases p with rfl|rfl|rfl|rfl|rfl|rfl<;>decide))]
 exact c
structure bIq (x:aK) (tx:Nat) (n:aM) (L:List (aC×Bs)):Prop where
 syn:bJu x tx n
 tx1:1≤tx
 tx2:tx≤4294967294
 wf:n.wf
 obj:vS L n (bW (List.replicate x.ds.length (0,0)))
 size:n.size=((bW (List.replicate x.ds.length (0,0))).length:Nat)
 nod:(L.map (·.1)).Nodup
 ptr:∀p∈kN n L,bD x.gs x.secs p=true∧p.ok
 dis:((kN n L).flatMap (eJ x.gs x.secs)).Pairwise Dis
 lg:∀sn es,zK (vF x sn es tx 0 L)
def bJq (B:Nat) (w:World) (x:aK) (V:kE) (tx:Nat) (n:aM) (w':World) (e:Ending):Prop:=
 ∃pb sn',e= .returned (.tuple #[.pointer (some ⟨pb,0,none⟩),.int .i64 0])∧PB B w w'∧jB B w' pb x V tx n (List.replicate x.ds.length (0,0)) sn' (List.replicate x.gs.length 0) none none false
theorem aOp {B:Nat} (ax:bV w x V F) (hF:∀g,F g→B≤g) (r:B≤w.heap.size) (hr:x.right=true) (be:∀i,i<x.ds.length→x.here i=true∧(x.ds.getD i eN).fuse= -1) (ch:0<x.ds.length∧x.ds.length≤16) {n:aM} (I:bIq x tx n L):
  Calls prog 31 #[V.val x.secs] w fun e w'=>bJq B w x V tx n w' e:=by
 have ea:=aS (bL hr).1;obtain⟨ci,aa⟩:=nZ (w.alloc (.cells #[V.g,.int .i64 x.secs,V.l,V.a] 43));have bf:Below w.heap.size w ci:=by rw[aa];exact bZ
 have bh:Blk ci w.heap.size 43 [V.g,.int .i64 x.secs,V.l,V.a]:=by rw[aa];exact Blk.new w _ _
 have cu:=hZ (aYx (ax.below bf) hr ch.1 (fun d cj=>(be d cj).1) (by omega) (tx%4) tx n (bNd _ (by omega)) I.tx1 I.syn.here I.syn.none I.syn.short)
 have cv:Hid (∀W,Below w.heap.size w W→Calls prog 60 #[.agg #[V.g,.int .i64 x.secs,V.l,V.a]] W fun e w'=>∃pb cw,e= .returned (.pointer (some ⟨pb,0,none⟩))∧Below W.heap.size W w'∧jB B w' pb x V 0 nD (List.replicate x.ds.length (0,0)) cw (List.replicate x.gs.length 0) none none false):=hZ (fun W ck=>(aJm (ax.below ck) hr).mono fun e w' fc=>by
  obtain⟨pb,bb,eb,ms,gs,h1,h2,fd,fe,ff,fn,fg,dx⟩:=fc;have bi:B≤W.heap.size:=l6 r ck.size;refine⟨pb,fO ms,h1,dx,gs,x.ds.length,bb,eb,ms,F,⟨?_,(ax.below ck).below dx,?_,ff,l6 bi h2,hF,fun k ay=>l6 bi (fg k ay)⟩,rfl⟩
  ·rw[bLw];exact fd
  ·rw[bLw];exact qT fe bi)
 have ac:=hZ bf;have cx:=hZ bh;have z:=hZ r;have f:=hZ I;have bj:=hZ hr;have eo:=hZ be;have ad:=hZ ch;have cy:=fun m a next Q=>aB (P:=prog) bh underlying43 rfl dC m a next Q
 show Calls _ _ #[.agg #[V.g,.int .i64 x.secs,V.l,V.a]] _ _
 clear ax hF r hr be ch bf bh I ea;go_enter func31,ntmps31;go_upto_region 1 with fail
 rw[show w.alloc (.cells #[V.g,.int .i64 x.secs,V.l,V.a] 43)=ci from aa.symm];clear aa;go_wp21;refine cu.o.mono ?_;rintro e u ⟨rfl,ae⟩;have ep:=fun m a next Q=>pE tx n u m a next Q
 obtain⟨X,af⟩:=nZ (u.alloc (.cells (bP tx n).toArray 55));have bl:Below u.heap.size u X:=by rw[af];exact bZ
 have bm:Blk X u.heap.size 55 (bP tx n):=by rw[af];exact Blk.new u _ _
 obtain⟨g4,bn⟩:∃g,g=u.heap.size:=⟨_,rfl⟩;rw[←bn] at bm;have cz:=hZ bm;have bo:=hZ ((cx.o.below ae).below bl);have ag:Hid (Below w.heap.size w X):=hZ ((ac.o.trans (ae.mono ac.o.size)).trans (bl.mono (l6 ac.o.size ae.size)));have cy:=fun m a next Q=>aB (P:=prog) bo.o underlying43 rfl dC m a next Q
 have da:=hZ (cv.o X ag.o);go_upto_region 2 with fail
 rw[show u.alloc (.cells (bP tx n).toArray 55)=X from af.symm,←bn];clear af bn bl bm ae ep cu cv ac cx;go_wp21;refine da.o.mono ?_;rintro e A ⟨pb,cw,rfl,ah,eq⟩;obtain⟨ga,cap,bb,eb,ms,D,E,ec⟩:=eq;have ai:=hZ (cz.o.below ah);have bq:=hZ (bo.o.below ah);have br:Hid (PB B w A):=hZ ((oD ag.o z.o).trans (oD ah (l6 z.o ag.o.size)));have er:=fun m a next Q=>aB (P:=prog) ai.o underlying55 rfl kP m a next Q
 have ed:=fun m a next Q=>aG (P:=prog) (t:=55) (o:=4) (cs:=bP tx n) E.blk (show 4+14≤46 by omega) kP (lE _ _) m a next Q
 have aj:Mod (fun k=>k=pb) A (A.setCells pb 4 (bP tx n)):=Mod.grown (aJ pb _ A 4) rfl
 have bs:=hZ (E.uber tx n);have ak:Hid (PB B w (A.setCells pb 4 (bP tx n))):=hZ (br.o.trans (E.ownPB aj (l6 z.o br.o.size)));have bt:=hZ (aj.blk ai.o (sF E.blk ai.o (by decide)))
 have al:=hZ (aj.blk bq.o (sF E.blk bq.o (by decide)))
 obtain⟨w4,bu⟩:=nZ (A.setCells pb 4 (bP tx n));rw[←bu] at bs ak bt al;go_upto_region 6 with fail
 rw[show A.setCells pb 4 (bP tx n)=w4 from bu.symm];clear bu ah E er ed aj ai bq br da cz bo ag cy ec;have am:=bs.o.below (i4 w4.heap.size w4).drew;have h1:V.g.oneCell'=true∧V.l.oneCell'=true∧V.a.oneCell'=true:=by
  obtain⟨_,_,_,_,_,_,az,_⟩:=am.dvs.form;rw[az];exact⟨rfl,rfl,rfl⟩
 have dc:Hid (Calls prog 42 #[.pointer (some ⟨pb,0,none⟩),.int .i64 0] w4.drew fun e w'=>e= .returned (.pointer (some ⟨w4.drew.heap.size,0,none⟩))∧Blk w' w4.drew.heap.size 174 (sQ V (vF x (fO ms) (List.replicate x.gs.length 0) tx 0 L).S bb none)∧Below w4.drew.heap.size w4.drew w'):=hZ (wY am.blk h1 (by have:=f.o.tx2;omega) 0)
 obtain⟨et,co⟩:=nZ w4.drew;have eu:et.heap.size=w4.heap.size:=by rw[co];rfl
 have T:=hZ am;have dd:Hid (Blk w4.drew g4 55 (bP tx n)):=hZ bt.o.drew;have bv:Hid (∀c,Below w4.drew.heap.size w4.drew c→Blk c w4.drew.heap.size 174 (sQ V (vF x (fO ms) (List.replicate x.gs.length 0) tx 0 L).S bb none)→bN c w4.drew.heap.size (vF x (fO ms) (List.replicate x.gs.length 0) tx 0 L).S V bb none (wV w4.drew.heap.size bb eb ms none (.slice none 0 0) D)):=hZ (fun c J r=>⟨eb,ms,.slice none 0 0,D,⟨r,T.o.dvs.below J,T.o.bok.below J,rfl,⟨rfl,rfl,rfl⟩⟩,fun k=>Iff.rfl⟩)
 have de:Hid (∀c,Below w4.drew.heap.size w4.drew c→Blk c w4.drew.heap.size 174 (sQ V (vF x (fO ms) (List.replicate x.gs.length 0) tx 0 L).S bb none)→Calls prog 67 #[.iface 100 (.pointer (some ⟨w4.drew.heap.size,0,none⟩)),.agg (aN n).toArray,.int .i64 0,.int .i64 n.size] c fun e w'=>∃df O an,e= .returned (.tuple #[.string ⟨(bW (List.replicate x.ds.length (0,0))).toArray⟩,.int .i64 0])∧bN w' df (vF x (fO ms) (List.replicate x.gs.length 0) tx 0 L).S V bb an O∧Mod (wV w4.drew.heap.size bb eb ms none (.slice none 0 0) D) c w'∧∀k,O k→wV w4.drew.heap.size bb eb ms none (.slice none 0 0) D k∨c.heap.size≤k):=hZ (fun c J r=>by
  have dg:0<(bW (List.replicate x.ds.length ((0:Nat),(0:Nat)))).length∧(bW (List.replicate x.ds.length ((0:Nat),(0:Nat)))).length≤512:=by
   have:=mQ (st:=List.replicate x.ds.length (0,0)) (by rw[bLw];exact ad.o)
   exact⟨this.2,this.1⟩
  have dy:=bBh (s:=vF x (fO ms) (List.replicate x.gs.length 0) tx 0 L) f.o.obj f.o.size dg.1 dg.2 f.o.nod;have ev:eY n.size:=by rw[f.o.size];unfold eY;omega
  have:=bBt (C:=aPb w4.drew.heap.size bb V) (s:=vF x (fO ms) (List.replicate x.gs.length 0) tx 0 L) ⟨⟨none,bv.o c J r⟩,f.o.lg _ _⟩ n f.o.wf 0 n.size (by unfold eY;omega) ev (by rw[dy];exact⟨rfl,by show(0:Nat)≤1000000;omega,by show 0+200≤1000000000;omega⟩)
  rw[dy] at this;refine this.mono ?_;rintro e w' ⟨rfl,O,⟨⟨an,ap⟩,_⟩,U,ew⟩;exact⟨_,O,an,rfl,ap,U,ew⟩)
 have dh:Hid (∀c,Below w4.drew.heap.size w4.drew c→Blk c g4 55 (bP tx n)→Blk c w4.drew.heap.size 174 (sQ V (vF x (fO ms) (List.replicate x.gs.length 0) tx 0 L).S bb none)→¬wV w4.drew.heap.size bb eb ms none (.slice none 0 0) D g4):=hZ (fun c J fh r=>(bv.o c J r).noType fh (by unfold kD cH lZ;decide))
 clear am h1 co eu;refine l7 (S:=fun W=>Blk W g4 55 (bP tx n)) (by kernel_rfl) dd.o (fun di=>?_)
 refine aE 0 ?_;refine aE 3 ?_;refine mX 4 ?vr4 ?yr4 ?_
 case yr4=>refine m5 (by kernel_rfl) 53 (.tmp 27) ?_ g4 (1) ?_ (aN n) _ (fun w' fi=>bEq fi) underlying53 rfl cQ<;>rfl
 refine aE 5 ?_;refine aE 6 ?_;refine sB (i:=7) (v:=?vr7) (hy:=?yr7) (h:=?_)
 case yr7=>intro w dj;(try dsimp only at dj);go_simp;first|(rw[show w.cell? _=_ from Blk.cell dj 1];rfl)|rfl
 try simp only[Act.put,z1,z2,z3]
 refine dY (i:=1) (h:=fun K cl=>?_)
 go_simp;refine dc.o.mono ?_;rintro e c ⟨rfl,bw,G⟩;dsimp only;refine cl.o _ _ (di.below G) (fun ba=>?_)
 try simp only[Act.put,z1,z2,z3]
 refine aE 2 ?_;refine dY (i:=8) (h:=fun K cl=>?_)
 go_simp;refine(de.o c G bw).mono ?_;rintro e R ⟨df,O,an,rfl,ap,U,dk⟩;dsimp only;refine cl.o _ _ (U.blk ba (dh.o c G ba bw)) (fun ee=>?_)
 try simp only[Act.put,z1,z2,z3]
 refine aE 9 ?_;refine aE 10 ?_;refine aE 11 ?_;refine aE 12 ?_;refine aE 13 ?_;refine r8 (by kernel_rfl) ?_ _
 have bx:Mod (fun k=>D k∨eK bb eb ms k) w4.drew R:=(Mod.below G).trans U (fun k ay h=>by
  rcases h with h|h|h|h|h
  ·exact .inl h
  ·exact .inr h
  ·omega
  ·cases h
  ·cases h)
 have dm:∀k,O k→D k∨eK bb eb ms k∨w4.drew.heap.size≤k:=fun k ay=>by
  rcases dk k ay with h|h
  ·rcases h with h|h|h|h|h
   ·exact .inl h
   ·exact .inr (.inl h)
   ·exact .inr (.inr (by omega))
   ·cases h
   ·cases h
  ·exact .inr (.inr (l6 G.size h))
 obtain⟨⟨ex,ey,fj,dn,ef⟩,dp⟩:=T.o.read (l6 z.o ak.o.drew.size) ap rfl rfl rfl bx dm;have bz:=hZ dn;have ca:Hid (PB B w R):=hZ (ak.o.drew.trans dp);have cb:=hZ (bx.blk al.o.drew (T.o.notIn al.o.drew (by unfold kD cH lZ;decide)))
 clear bx dm dn ef dp ap U dk bw G ee ba di dc bv de dh T dd bs ak bt al;obtain⟨cc,cm,fo,lc,fp,wc,az,dq⟩:=bz.o.dvs.form;have dr:V.g= .slice cc x.gs.length cm:=by rw[az]
 have k0:R.cell? ⟨w.heap.size,0,none⟩=some (.slice cc x.gs.length cm):=by rw[←dr];exact cb.o.cell 0
 have k1:R.cell? ⟨w.heap.size,1,none⟩=some (.int .i64 x.secs):=cb.o.cell 1;have cd:=bL bj.o;have ce:=hZ (aRx cc x.gs.length cm x.gs x.secs R dq cd.1 (bW (List.replicate x.ds.length (0,0))) x.ds.length (aHo _ ad.o.2) cd.2.1 ad.o.2);obtain⟨fq,dt⟩:=nZ x.gs.length;rw[←dt] at k0 ce;clear az dq dr cd dt;go_wp21;refine ce.o.mono ?_;rintro e w8 ⟨fs,rfl,Y,aq⟩;obtain⟨p,q,rfl⟩:=bT Y ad.o.1;have H:=bz.o.below aq;have eg:=fun m a next Q=>aG (P:=prog) (t:=62) (o:=18) (cs:=bF (.slice (some ⟨p,0,none⟩) x.ds.length q)) H.blk (show 18+24≤46 by omega) sG (aFn rfl) m a next Q
 have ar:Mod (fun k=>k=pb) w8 (w8.setCells pb 18 (bF (.slice (some ⟨p,0,none⟩) x.ds.length q))):=Mod.grown (aJ pb _ w8 18) rfl
 have au:B≤R.heap.size:=l6 z.o ca.o.size;have cp:=H.blk.setCells (bF (.slice (some ⟨p,0,none⟩) x.ds.length q)) 18 (show 18+24≤46 by omega)
 have cn:(w8.setCells pb 18 (bF (.slice (some ⟨p,0,none⟩) x.ds.length q))).ownsRow B 69 2 (.slice (some ⟨p,0,none⟩) x.ds.length q) x.ds.length (bG (List.replicate x.ds.length (0,0))):=dH ar (qT Y au) (fun g fk fl=>by
  obtain⟨ft,fu,h1⟩:=cC Y fk;exact sF H.blk h1 (by decide) fl)
 have du:dV B (w8.setCells pb 18 (bF (.slice (some ⟨p,0,none⟩) x.ds.length q))) pb x V tx n (List.replicate x.ds.length (0,0)) p q bb ex ey (List.replicate x.gs.length 0) fj none none false:=H.newSt ar (by rw[bLw];exact cp) (by rw[bLw];exact cn)
 have cf:=hZ du;have av:Hid (PB B w (w8.setCells pb 18 (bF (.slice (some ⟨p,0,none⟩) x.ds.length q)))):=hZ ((ca.o.trans (oD aq au)).trans (H.ownPB ar (l6 au aq.size)));obtain⟨w9,cg⟩:=nZ (w8.setCells pb 18 (bF (.slice (some ⟨p,0,none⟩) x.ds.length q)));rw[←cg] at cf av;have dv:=hZ (aBq ⟨_,_,_,_,_,_,cf.o,rfl⟩ (l6 z.o av.o.size) f.o.tx2 bj.o (f.o.lg _ _) (by omega) f.o.obj f.o.wf f.o.ptr f.o.dis)
 clear Y aq H ar au cp cn du k0 k1 ce bz ca cb;go_upto_region 10 with fail
 rw[show w8.setCells pb 18 (bF (.slice (some ⟨p,0,none⟩) x.ds.length q))=w9 from cg.symm];clear cg eg;go_wp21;refine dv.o.mono ?_;rintro e ez ⟨rfl,cq,fv,fm,eh,ei,ej,dz,ek,el,cr,fa,Z,em⟩;have bc:Hid (PB B w ez):=hZ (av.o.trans cq);have dw:=hZ (aHf Z.blk Z.dvs bj.o (fun d cj=>(eo.o d cj).1) (by have:=f.o.tx2;omega) f.o.wf f.o.syn.here f.o.syn.short)
 have ct:=hZ Z;clear cq eh ei Z em dv cf av;go_wp21;refine dw.o.mono ?_;rintro e fb ⟨rfl,bd⟩;have en:Hid (bJq B w x V tx n fb (.returned (.tuple #[.pointer (some ⟨pb,0,none⟩),.int .i64 0]))):=hZ ⟨pb,fO cr,rfl,bc.o.trans (oD bd (l6 z.o bc.o.size)),ej,dz,ek,el,cr,fa,ct.o.below bd,rfl⟩;clear bd dw ct bc;go_wp21;go_ret2;exact en.o
end
theorem bHx {B:Nat} (h:CrP B w pb x V) (hr:x.right=true) (z:∀i,i<x.ds.length→x.here i=true∧(x.ds.getD i eN).fuse= -1) (E:x.fits) (O:∀d k,d<x.ds.length→k<16→x.col (d,k,false,0)=aP 64) (P:0<x.ds.length∧x.ds.length≤16):
  ∃y n L p,bIq y 1 n L∧jB B w pb y V 1 n (List.replicate y.ds.length (0,0)) p (List.replicate y.gs.length 0) none none false∧dT x y:=by
 obtain⟨l,n,nb,p,h1,h2,R,G⟩:=h;have k1:=h1.wr.kept;have A:=k1.right hr;obtain⟨m,r⟩:=nZ (cM l.S.x);have k7:dT l.S.x m:=by rw[r];exact eT _
 have C:=k7.right A;obtain⟨T,I⟩:=nZ (fS x.gs x.secs ((1:Nat):Int) nb++gM (dG (fS x.gs x.secs ((1:Nat):Int) nb)));obtain⟨f,u⟩:=nZ (uWr m (1%4*4) T);have H:dT m f:=by rw[u];exact yO _ _ _
 have U:yP l.S.x 1 x.gs x.secs nb=cM f:=by unfold yP;rw[u,r,I]
 have c:=((k1.trans k7).trans H).trans (eT _);have J:=mQ (st:=List.replicate x.ds.length (0,0)) (by rw[bLw];exact P)
 have D:=aSs h1 hr z O h2 R ⟨d8 1,by omega⟩ J.1 E
 rw[U] at G D;refine⟨cM f,n,l.L,p,⟨D,d8 _,by omega,h2,by rw[c.n];exact h1.obj,by rw[c.n];exact h1.size,h1.wr.nodup,by rw[c.gs,c.secs];exact h1.ptrs.1,by rw[c.gs,c.secs];exact h1.ptrs.2,fun sn es=>?_⟩,by rw[c.n,c.gs];exact G,c⟩
 refine⟨(sT hr z).kept c,c.fit E,sX _ 0,by show(0:Nat)≤1000000;omega,by show(0:Int)≤0∧(0:Int)≤1000000000;omega,fun q X=>?_,fun h=>(by cases h)⟩
 show dR (cM f) q.1 q.2
 have g2:dR m q.1 q.2:=by rw[r];exact(h1.wr.in_.wh q X).flush A
 have Y:dR f q.1 q.2:=by rw[u];exact g2.uber C (by omega) _
 exact Y.flush (H.right C)
theorem aSz (hr:bH gs secs=true):∀d k,d<(cN gs secs secs.toNat).ds.length→k<16→(cN gs secs secs.toNat).col (d,k,false,0)=aP 64:=fun d k f l=>by
 have h:=aS hr;have c:d<cK gs:=by rw[←lA gs secs secs.toNat];exact f
 rw[aUk (lF hr) f (aEp c) (by show(k:Int)<secs;omega),nP,i6 c,aJv,i6 (by omega)]
theorem bHv {s:pV} (q:zK s) (h:s.ro=false) (text:Bs) (h0:0<text.length) (E:text.length≤256) (r:(cE s.S (aV text) 0).err=0):mE (eS eA nD 0 text s).1=0:=by
 have c:text≠[]:=fun e=>by rw[e] at h0;simp at h0
 have u:kI eA nD (0+(text.length:Int)) s=(.ok ⟨(text.length:Nat),pD⟩,s):=by
  unfold kI;have e:jZ eA (gC (0+(text.length:Int))-gC nD.size) (gC nD.size) nD.root s=(.ok pD,s):=by
   cases gC (0+(text.length:Int))-gC nD.size with
   |zero=>rfl
   |succ k=>unfold jZ;rw[i6 (by decide)];rfl
  rw[M.bind_ok e]
  show(Except.ok (aM.mk (max (0:Int) (0+(text.length:Int))) pD),s)=_
  congr 3;omega
 have z:eS eA nD 0 text s=eB eA (text.length+1) ⟨(text.length:Nat),pD⟩ 0 text s:=by
  unfold eS;rw[i9 (by omega),i9 c,M.bind_ok u]
  rfl
 rw[z];have l:text.take (min text.length (256-0%256))=text:=by rw[bLq];omega
 have m:text.drop (min text.length (256-0%256))=[]:=by rw[List.drop_eq_nil_iff];omega
 have f:iN eA (gC ((text.length:Nat):Int)) pD 0 (over (eG .hole) 0 text) s=eA.put (aV text) 0 s:=by
  rw[qV (by omega)]
  show iN eA 0 pD 0 (over [] 0 text) s=_
  rw[zN];unfold iN;rw[i9 c]
 have A:eB eA (text.length+1) ⟨(text.length:Nat),pD⟩ 0 text s=M.bind (iE eA ⟨(text.length:Nat),pD⟩ 0 0 text) (fun C=>eB eA text.length C (0+min text.length 256) []) s:=by
  rw[nJ c,l,m]
 rw[A];rcases aDg q h (aV text) 0 with⟨b1,_⟩|⟨b1,b2,_⟩
 ·exact absurd r b1
 ·have D:iE eA ⟨(text.length:Nat),pD⟩ 0 0 text s=(.ok ⟨(text.length:Nat),(cE s.S (aV text) ((0:Nat):Int)).p⟩,aRu s (aV text) 0):=by
   unfold iE;rw[M.bind_ok (xI (by omega) ⟨pD,aKc s _ _,iZ⟩),M.bind_ok (f.trans b2)]
   rfl
  rw[M.bind_ok D]
  cases text.length with
  |zero=>rfl
  |succ k=>rfl
theorem bLb (sn:SN) (last:Int):qH sn last 1 0=0:=by
 have h:=(aDq (sn:=sn) (last:=last) (n:=1) (f:=id) ?_ ?_).2.2 0 (by omega)
 ·exact h
 ·exact⟨fun p c=>c,fun p q c l e=>e,fun y hy=>⟨y,hy,rfl⟩⟩
 ·intro p q h1 h2
  omega
theorem bKq (secs:Int) (sn:SN) (es:List Nat) (size last:Int):aGg [(0,2)] secs sn es size last=(jK [(0,2)] secs sn es size 0).map fun a=>(0,a):=by
 unfold aGg
 show(List.range 1).findSome? _=_
 simp only[bMk,List.range_zero,bMt,List.findSome?_cons,List.findSome?_nil];rw[show([((0:Int),(2:Int))]:Gs).length=1 from rfl,bLb];cases jK [(0,2)] secs sn es size 0<;>rfl
theorem aVk:(eE [(0,2)] 100 [((jF (0,2) 100).toNat,[])] [0] 4 true).err=0:=by
 have h1:jK [(0,2)] 100 [((jF (0,2) 100).toNat,[])] [0] 4 0=some 0:=by decide
 have h2:jK [(0,2)] 100 (putS [(0,2)] 100 [((jF (0,2) 100).toNat,[])] 4 (0,0)) (nC [(0,2)] 100 [0] 4 (0,0)) 4 0=some 4:=by decide
 unfold eE;rw[i6 (by omega),bKq,h1]
 show bGn.err (if true=true then match aGg [(0,2)] 100 (putS [(0,2)] 100 [((jF (0,2) 100).toNat,[])] 4 (0,0)) (nC [(0,2)] 100 [0] 4 (0,0)) 4 ((0:Nat):Int) with|none=>_|some y=>_ else _)=0
 rw[i6 rfl,bKq,h2];rfl
theorem aZl:(eC ⟨cN [(0,2)] 100 100,[((jF (0,2) 100).toNat,[])],[0],1,0,true,0,[]⟩ 4 0).err=0:=by
 unfold eC;rw[i9 (by decide),i6 (.inr rfl)]
 show bIt.err (if(eE [(0,2)] 100 [((jF (0,2) 100).toNat,[])] [0] 4 true).err=0 then _ else _)=0
 rw[i6 aVk]
theorem bGh {l:Int} (h1:jD S t l=true) (h2:(eC S ((t.length/64:Nat):Int) l).err=0):(cE S t l).err=0:=by
 unfold cE;rw[i9 (by rw[h1];decide),i9 (fun h=>h h2)]
theorem bJb:aIz (cN [(0,2)] 100 (100:Int).toNat):=fun h m p=>by
 have hr:bH [(0,2)] 100=true:=by decide
 have h0:=p 0 (by show 0<1;omega)
 have e:h=[((jF (0,2) 100).toNat,[])]:=by
  match h,m,h0 with
  |[a],_,h0=>exact o7 (fun z=>[z]) h0
 have l:=aOz (x:=cN [(0,2)] 100 (100:Int).toNat) (lF hr) (sT (lF hr) (xV hr)) (xK _ _ _) (aEm _ _ _) m p 0;have r:(bW (List.replicate (cN [(0,2)] 100 (100:Int).toNat).ds.length (0,0))).length=248:=by
  have:=(aHo 2 (by omega)).len
  exact this
 refine bHv ⟨l.one,l.fits,l.deep,by show(0:Nat)≤1000000;omega,by show(0:Int)≤0∧(0:Int)≤1000000000;omega,fun q c=>(by cases c),fun _=>⟨l,fun q c=>(by cases c)⟩⟩ rfl _ (by omega) (by omega) ?_
 have f:(aV (bW (List.replicate (cN [(0,2)] 100 (100:Int).toNat).ds.length (0,0)))).length=256:=by
  rw[pN (by omega)]
  unfold kA aP;rw[i7,bLw,r]
 have u:jD (lS (cN [(0,2)] 100 (100:Int).toNat) h (List.replicate [((0:Int),(2:Int))].length 0) 0 0).S (aV (bW (List.replicate (cN [(0,2)] 100 (100:Int).toNat).ds.length (0,0)))) 0=true:=by
  unfold jD;rw[y8];refine⟨?_,bMi ⟨by omega,by omega,by show(1:Int)≤1;omega,by show(1:Int)≤4294967295;omega⟩⟩
  unfold dX;refine bMi ⟨fun e=>?_,by rw[f],by rw[f];omega⟩
  rw[e] at f;cases f
 have c:(eC (lS (cN [(0,2)] 100 (100:Int).toNat) h (List.replicate [((0:Int),(2:Int))].length 0) 0 0).S (((aV (bW (List.replicate (cN [(0,2)] 100 (100:Int).toNat).ds.length (0,0)))).length/64:Nat):Int) 0).err=0:=by
  rw[f,e];exact aZl
 exact bGh u c
structure GK (B:Nat) (w w':World):Prop where
 bel:Below B w w'
 ty:∀(g:Nat) cs e fr,w.heap[g]?=some (Obj.cells cs e fr)→e≠4→e≠69→e≠139→e≠9→w'.heap[g]?=some (Obj.cells cs e fr)
theorem GK.trans {B:Nat} {a b c:World} (h:GK B a b) (k:GK B b c):GK B a c:=⟨h.bel.trans k.bel,fun g cs e fr m h1 h2 f l=>k.ty g cs e fr (h.ty g cs e fr m h1 h2 f l) h1 h2 f l⟩
theorem GK.of {B:Nat} (h:bB w w') (f:B≤w.heap.size):GK B w w':=⟨h.mono f,fun g cs e fr c _ _ _ _=>by rw[h.block g (i8.1 c).1];exact c⟩
structure GdC (B:Nat) (w:World) (pb:Nat) (gs:Gs) (secs:Int) (vg vl va:Value) (tx:Nat) (nd:aM) (sv:Value) (bk wk ws:Option Addr) (dl:List Nat) (db:Nat) (δ:bC) (Fd:Nat→Prop):Prop where
 blk:Blk w pb 112 (eD vg vl va secs tx nd sv bk wk ws false)
 grp:w.ownsRow 0 73 2 vg gs.length (iR gs)
 lst:w.ownsRow 0 83 1 vl dl.length (jP dl)
 dev:dJ w db δ Fd
 FB:∀g,Fd g→B≤g
 rt:bH gs secs=true
section
variable {B:Nat} {w w':World} {pb:Nat} {gs:Gs} {secs:Int} {vg vl va:Value} {tx:Nat} {nd:aM} {sv:Value} {bk wk ws:Option Addr} {dl:List Nat} {db:Nat} {δ:bC} {Fd:Nat→Prop}
theorem GdC.below (h:GdC B w pb gs secs vg vl va tx nd sv bk wk ws dl db δ Fd) (c:bB w w'):GdC B w' pb gs secs vg vl va tx nd sv bk wk ws dl db δ Fd:=⟨h.blk.below c,aD h.grp c,aD h.lst c,h.dev.below c,h.FB,h.rt⟩
theorem aQc {cs c0:Array Value} (h:w.heap[g]?=some (Obj.cells cs e fr)) (h0:w.heap[g0]?=some (Obj.cells c0 e0 f0)) (c:e≠e0):g≠g0:=fun f=>by
 subst f;rw[h] at h0;simp only[i5,n7] at h0;exact c h0.2.1
theorem GdC.put (h:GdC B w pb gs secs vg vl va tx nd sv bk wk ws dl db δ Fd) {c0:Array Value} (h0:w.heap[g0]?=some (Obj.cells c0 e0 f0)) (p:e0=4∨e0=69) (m:Mod (fun k=>k=g0) w w'):GdC B w' pb gs secs vg vl va tx nd sv bk wk ws dl db δ Fd:=by
 have f:112≠e0∧73≠e0∧83≠e0∧139≠e0∧9≠e0:=by rcases p with rfl|rfl<;>decide
 refine⟨m.blk h.blk (aQc h.blk h0 f.1),dH m h.grp (fun g c l=>?_),dH m h.lst (fun g c l=>?_),h.dev.keep (fun g c=>m.block g (h.dev.lt g c) (fun l=>?_)),h.FB,h.rt⟩
 ·obtain⟨q,r,h1⟩:=cC h.grp c
  exact aQc h1 h0 f.2.1 l
 ·obtain⟨q,r,h1⟩:=cC h.lst c
  exact aQc h1 h0 f.2.2.1 l
 ·subst l
  rcases h.dev.type g c c0 e0 f0 h0 with h1|h1
  ·exact f.2.2.2.1 h1.symm
  ·exact f.2.2.2.2 h1.symm
theorem aMv {c0:Array Value} (h:w.ownsRow b e k v n xs) (h0:w.heap[g0]?=some (Obj.cells c0 e0 f0)) (c:e≠e0) (f:Mod (fun k=>k=g0) w w'):w'.ownsRow b e k v n xs:=
 dH f h (fun g l m=>by
  obtain⟨p,q,h1⟩:=cC h l;exact aQc h1 h0 c m)
theorem bAb {c0:Array Value} (h0:w.heap[g0]?=some (Obj.cells c0 e0 f0)) (l:e0=4∨e0=69) (m:B≤g0) (f:Mod (fun k=>k=g0) w w') (p:B≤w.heap.size):GK B w w':=
 ⟨f.toBelow (fun k q=>by rw[q];exact m) p,fun g cs e fr c h1 h2 _ _=>by
  rw[f.block g (i8.1 c).1 (aQc c h0 (fun h=>by rcases l with h3|h3;exact h1 (h.trans h3);exact h2 (h.trans h3)))]
  exact c⟩
theorem GdC.has (h:GdC B w pb gs secs vg vl va tx nd sv bk wk ws dl db δ Fd) (d:Int) (c:eY d):Calls prog 56 #[.pointer (some pb),d] w fun e w'=>e= .returned (.int .i64 ((if d<0∨(cK gs:Int)≤d then 1 else 0:Nat):Int))∧bB w w':=by
 obtain⟨ao,f,rfl⟩:=aY h.grp;exact bBl h.blk (bI h.grp) h.rt d c
theorem aZf (l:List Bool) (d:Nat) (b:Bool):(aZ l).set d b=aZ (l.set d b):=by unfold aZ;rw[List.map_set]
theorem rB {l:List Bool} (c:d<l.length):(aZ l)[d]?=some (.bool (l.getD d true)):=by
 unfold aZ;rw[bMh,a8,b9 c];rfl
theorem aMx (h:GdC B w pb gs secs vg vl va tx nd sv bk wk ws dl db δ Fd) (d:Int) (l:eY d) (m:d<0∨(cK gs:Int)≤d) (b:Bool):Calls prog 19 #[.pointer (some pb),d,b] w fun e w'=>e= .returned (1:Int)∧bB w w':=by
 have c:=hZ (h.has d l);rw[i6 m] at c;go_in;go_wp21;refine c.o.mono ?_;rintro e p ⟨rfl,f⟩;go_wp21;go_ret;exact⟨rfl,f⟩
theorem aCi (h:GdC B w pb gs secs vg vl va tx nd sv bk wk ws dl db δ Fd) (d:Int) (l:eY d) (m:d<0∨(cK gs:Int)≤d) (z:Int):Calls prog 20 #[.pointer (some pb),d,.int .u8 z] w fun e w'=>e= .returned (1:Int)∧bB w w':=by
 have c:=hZ (h.has d l);rw[i6 m] at c;go_in;go_wp21;refine c.o.mono ?_;rintro e p ⟨rfl,f⟩;go_wp21;go_ret;exact⟨rfl,f⟩
theorem GdC.turn {wc:Nat} (h:GdC B w pb gs secs vg vl (.slice (some ab) n wc) tx nd sv bk wk ws dl db δ Fd) (l:B≤w.heap.size) (c:w.ownsRow B 4 1 (.slice (some ab) n wc) n (aZ aw)) {sn:Nat} {st:List Value} (m:w.ownsRow B 69 2 sv sn st) (d:Nat) (b:Bool):
  GdC B (w.setCell ⟨ab,d,none⟩ b) pb gs secs vg vl (.slice (some ab) n wc) tx nd sv bk wk ws dl db δ Fd∧(w.setCell ⟨ab,d,none⟩ b).ownsRow B 4 1 (.slice (some ab) n wc) n (aZ (aw.set d b))∧(w.setCell ⟨ab,d,none⟩ b).ownsRow B 69 2 sv sn st∧GK B w (w.setCell ⟨ab,d,none⟩ b):=by
 obtain⟨c0,f0,h0⟩:=cC c (g:=ab) rfl;have f:Mod (fun k=>k=ab) w (w.setCell ⟨ab,d,none⟩ b):=Mod.grown (c.stored d b).2 rfl
 refine⟨h.put h0 (.inl rfl) f,?_,aMv m h0 (by decide) f,bAb h0 (.inl rfl) (c.lt ab rfl).1 f l⟩
 rw[←aZf];exact(c.stored d b).1
theorem aYu (l:List (Nat×Nat)) (d:Nat) (r:d<l.length) (a b:Nat):aSl (bG l) (d*2) [(a:Nat),(b:Nat)]=bG (l.set d (a,b)):=by
 apply bNg;intro j;have q:=gJ l;have p:=gJ (l.set d (a,b));rw[bLy] at p;rw[aEb _ _ _ _ (by rw[q];simp;omega)]
 simp only[bLn,bNm];by_cases u:j<l.length*2
 ·have m:j/2<l.length:=by omega
  have h1:=eW l (j/2) m;have h2:=eW (l.set d (a,b)) (j/2) (by rw[bLy];exact m)
  by_cases e:j/2=d
  ·have c:(l.set d (a,b)).getD (j/2) (0,0)=(a,b):=by rw[e,a8,List.getElem?_set_self (by omega)];rfl
   rw[c] at h2;rw[i6 (by omega)]
   rcases Nat.mod_two_eq_zero_or_one j with f|f
   ·rw[show j=j/2*2 by omega,h2.1,e]
    simp
   ·rw[show j=j/2*2+1 by omega,h2.2,e]
    rw[show d*2+1-d*2=1 by omega]
    rfl
  ·have c:(l.set d (a,b)).getD (j/2) (0,0)=l.getD (j/2) (0,0):=by rw[a8,List.getElem?_set_ne (fun h=>e h.symm),a8]
   rw[c] at h2;rw[i9 (by omega)]
   rcases Nat.mod_two_eq_zero_or_one j with f|f
   ·rw[show j=j/2*2 by omega,h2.1,h1.1]
   ·rw[show j=j/2*2+1 by omega,h2.2,h1.2]
 ·rw[i9 (by omega),m7 (by omega),m7 (by omega)]
theorem GdC.mark {sn:Nat} (h:GdC B w pb gs secs vg vl va tx nd (.slice (some ga) sn cap) bk wk ws dl db δ Fd) (m:B≤w.heap.size) {aw:List Value} (p:w.ownsRow B 4 1 va n aw) (q:w.ownsRow B 69 2 (.slice (some ga) sn cap) sn (bG st)) (c:bB w w9) (d:Nat) (r:d<st.length) (a b:Nat):
  GdC B (w9.setCells ga (d*2) [(a:Nat),(b:Nat)]) pb gs secs vg vl va tx nd (.slice (some ga) sn cap) bk wk ws dl db δ Fd∧(w9.setCells ga (d*2) [(a:Nat),(b:Nat)]).ownsRow B 4 1 va n aw∧(w9.setCells ga (d*2) [(a:Nat),(b:Nat)]).ownsRow B 69 2 (.slice (some ga) sn cap) sn (bG (st.set d (a,b)))∧GK B w (w9.setCells ga (d*2) [(a:Nat),(b:Nat)]):=by
 have f:=aD q c;obtain⟨c0,f0,h0⟩:=cC f (g:=ga) rfl;have l:Mod (fun k=>k=ga) w9 (w9.setCells ga (d*2) [(a:Nat),(b:Nat)]):=Mod.grown (aJ ga _ w9 (d*2)) rfl
 refine⟨(h.below c).put h0 (.inr rfl) l,aMv (aD p c) h0 (by decide) l,?_,(GK.of c m).trans (bAb h0 (.inr rfl) (f.lt ga rfl).1 l (l6 m c.size))⟩
 rw[←aYu _ _ r];exact aAz _ _ f
theorem aOa {sn:Nat} (c:w.ownsRow b 69 2 (.slice (some ga) sn cap) sn (bG st)) (h:d<st.length):w.there ga (d*2) 2:=fun j l=>by
 have m:=gJ st;have f:=c.1;refine⟨?_,c.frozenAt _⟩;rw[c.cellAt _ (by omega),b9 (by omega)]
 rfl
theorem aGx {sn:Nat} (f:w.ownsRow b 69 2 (.slice (some ga) sn cap) sn (bG st)) (h:d<st.length):w.rangeAt ga (d*2) [.int .i64 ((st.getD d (0,0)).1:Nat),.int .i64 ((st.getD d (0,0)).2:Nat)]:=fun j v c=>by
 have p:=gJ st;have m:=f.1;have h1:=eW st d h;have l:j<2:=(bMy.1 c).1;rw[f.cellAt _ (by omega)]
 match j,l with
 |0,_=>rw[Nat.add_zero,h1.1];exact c
 |1,_=>rw[h1.2];exact c
end
theorem aUw (a b:Nat):∀u∈[Value.int .i64 (a:Nat),Value.int .i64 (b:Nat)],u.oneCell'=true:=fun u c=>by
 simp only[s8,bLp,bNo] at c;rcases c with rfl|rfl<;>rfl
section
variable {B:Nat} {w w':World} {pb:Nat} {gs:Gs} {secs:Int} {vg vl:Value} {tx:Nat} {nd:aM} {bk wk ws:Option Addr} {dl:List Nat} {db:Nat} {δ:bC} {Fd:Nat→Prop} {ab n wc ga sn cap:Nat}
theorem bAm (h:GdC B w pb gs secs vg vl (.slice (some ab) n wc) tx nd (.slice (some ga) sn cap) bk wk ws dl db δ Fd) (J:B≤w.heap.size) (O:w.ownsRow B 4 1 (.slice (some ab) n wc) n (aZ aw)) (P:w.ownsRow B 69 2 (.slice (some ga) sn cap) sn (bG st)) (ae:n=cK gs) (T:sn=cK gs) (ak:aw.length=n) (ai:st.length=sn) (aj:n≤1000) (d:Nat) (al:d<n) (h0:aw.getD d true=false):Calls prog 19 #[.pointer (some pb),(d:Nat),.bool true] w fun e w'=>e= .returned (.int .i64 0)∧GdC B w' pb gs secs vg vl (.slice (some ab) n wc) tx nd (.slice (some ga) sn cap) bk wk ws dl db δ Fd∧w'.ownsRow B 4 1 (.slice (some ab) n wc) n (aZ (aw.set d true))∧w'.ownsRow B 69 2 (.slice (some ga) sn cap) sn (bG st)∧GK B w w':=by
 have R:=hZ (h.has (d:Int) (by unfold eY;omega))
 rw[i9 (by omega)] at R
 have af:=hZ h;have ag:=hZ O;have ah:=hZ P;have u:=hZ J;have z:=hZ (rB (l:=aw) (d:=d) (by omega))
 rw[h0] at z;clear h O P J ae T h0;go_in;go_wp2_with fail;refine R.o.mono ?_;rintro e p ⟨rfl,c⟩;have q:=af.o.below c;have f:=aD ag.o c;have A:=aD ah.o c;have U:Hid (B≤p.heap.size):=hZ (l6 u.o c.size);have X:=hZ (GK.of c u.o);have C:=q.blk;have c3:p.cell? ⟨pb,3,none⟩=some (.slice (some ab) n wc):=C.cell 3;have am:p.cell? ⟨ab,d,none⟩=some (.bool false):=by
  rw[f.cellAt d (by omega)]
  exact z.o
 obtain⟨r,D,E,G⟩:=q.turn U.o f A d true;have Y:=hZ r;have Z:=hZ D;have aa:=hZ E;have H:=hZ (X.o.trans G);have ac:Hid (B≤(p.setCell ⟨ab,d,none⟩ (.bool true)).heap.size):=hZ (l6 u.o H.o.bel.size);have ad:=hZ (yN r.blk d);have an:=f.frozenAt d;clear q f A C r D E G c;go_wp2_with fail;refine ad.o.mono ?_;rintro e ap ⟨rfl,I⟩;have m:=hZ I;clear I;go_wp2_with fail;go_ret;exact⟨rfl,Y.o.below m.o,aD Z.o m.o,aD aa.o m.o,H.o.trans (GK.of m.o ac.o)⟩
theorem aZn (h:GdC B w pb gs secs vg vl (.slice (some ⟨ab,0,none⟩) n wc) tx nd (.slice (some ⟨ga,0,none⟩) sn cap) bk wk ws dl db δ Fd) (ap:B≤w.heap.size) (aq:w.ownsRow B 4 1 (.slice (some ⟨ab,0,none⟩) n wc) n (aZ aw)) (ar:w.ownsRow B 69 2 (.slice (some ⟨ga,0,none⟩) sn cap) sn (bG st)) (bf:n=cK gs) (ay:sn=cK gs) (br:aw.length=n) (bn:st.length=sn) (bo:n≤1000) (d:Nat) (bs:d<n) (h0:aw.getD d true=true) (h1:st.getD d (0,0)=(0,0)) (ht:tx≤1000000):Calls prog 19 #[.pointer (some ⟨pb,0,none⟩),.int .i64 (d:Nat),.bool false] w fun e w'=>e= .returned (.int .i64 0)∧GdC B w' pb gs secs vg vl (.slice (some ⟨ab,0,none⟩) n wc) tx nd (.slice (some ⟨ga,0,none⟩) sn cap) bk wk ws dl db δ Fd∧w'.ownsRow B 4 1 (.slice (some ⟨ab,0,none⟩) n wc) n (aZ (aw.set d false))∧w'.ownsRow B 69 2 (.slice (some ⟨ga,0,none⟩) sn cap) sn (bG (st.set d (tx+1,tx+1)))∧GK B w w':=by
 have au:=hZ (h.has (d:Int) (by unfold eY;omega))
 rw[i9 (by omega)] at au
 have bh:=hZ h;have bi:=hZ aq;have bj:=hZ ar;have av:=hZ ap;have I:=hZ (rB (l:=aw) (d:=d) (by omega))
 rw[h0] at I;have D:=hZ (fun(W:World) (Z:Blk W pb 112 (eD vg vl (.slice (some ⟨ab,0,none⟩) n wc) secs tx nd (.slice (some ⟨ga,0,none⟩) sn cap) bk wk ws false))=>zV Z (by omega))
 have J:=hZ (aYa (tx+1) (by omega))
 have q:Hid (d<st.length):=hZ (by omega)
 have aa:=hZ h1;have bq:(d:Int)<(sn:Int):=by omega
 obtain⟨m,hT⟩:=nZ (tx+1);rw[←hT] at D J⊢;clear h aq ar ap bf ay h0 h1 hT;go_enter func19,ntmps19;go_wp2_with fail;refine au.o.mono ?_;rintro e c ⟨rfl,r⟩;have P:=bh.o.below r;have R:=aD bi.o r;have af:=aD bj.o r;have T:Hid (B≤c.heap.size):=hZ (l6 av.o r.size);have az:=hZ (GK.of r av.o);have ag:=P.blk;have c3:c.cell? ⟨pb,3,none⟩=some (.slice (some ⟨ab,0,none⟩) n wc):=ag.cell 3;have bt:c.cell? ⟨ab,d,none⟩=some (.bool true):=by
  rw[R.cellAt d (by omega)]
  exact I.o
 have U:=hZ P;have ah:=hZ R;have u:=hZ af;clear P R af ag r;go_upto_region 5 with fail
 have z:=U.o.blk.below (i4 c.heap.size c).drew;have O:Hid (∀W,Blk W pb 112 (eD vg vl (.slice (some ⟨ab,0,none⟩) n wc) secs tx nd (.slice (some ⟨ga,0,none⟩) sn cap) bk wk ws false)→W.cell? ⟨pb,41,none⟩=some (.slice (some ⟨ga,0,none⟩) sn cap)):=hZ (fun W Z=>Z.cell 41)
 refine l7 (S:=fun W=>Blk W pb 112 (eD vg vl (.slice (some ⟨ab,0,none⟩) n wc) secs tx nd (.slice (some ⟨ga,0,none⟩) sn cap) bk wk ws false)) (by kernel_rfl) z (fun z=>?_)
 refine aE 0 ?_;refine aE 1 ?_;refine aE 2 ?_;refine aE 3 ?_;refine sB (i:=4) (v:=?vr4) (hy:=?yr4) (h:=?_)
 case yr4=>intro w A;(try dsimp only at A);go_simp;rw[O.o _ A];rfl
 try simp only[Act.put,z1,z2,z3]
 refine aE 5 ?_;refine aE 6 ?_;refine aE 7 ?_;refine aE 8 ?_;refine aE 9 ?_;refine sB (i:=10) (v:=?vr10) (hy:=?yr10) (h:=?_)
 case yr10=>intro w A;(try dsimp only at A);go_simp;rw[O.o _ A];rfl
 try simp only[Act.put,z1,z2,z3]
 refine aE 11 ?_;refine aE 12 ?_;refine aE 14 ?_;refine wpAnyH_ready (rs:=[13,15]) (by kernel_rfl) (by simp) ?_
 refine z8 (by simp only[n9,m9,n8];rfl) (fun K f=>?_) (z8 (by simp only[n9,m9,n8];rfl) (fun K f=>?_) AllReadyH.nil)
 case' _=>
  rw[i6 (by kernel_rfl)]
  refine wp_load_mid 69 (.tmp 34) rfl ga (d*2) rfl ([.int .i64 (((0:Nat):Nat):Int),.int .i64 ((0:Nat):Int)]) _ ((by have h:=aGx (aD u.o ((i4 c.heap.size c).drew)) q.o;rw[aa.o] at h;exact h)) underlying69 rfl oK ?_
  refine f.o _ _ (z) (fun ac=>?_)
  try simp only[Act.put,z1,z2,z3]
  refine dY (i:=15) (h:=fun K f=>?_)
  go_simp;refine(D.o _ ac).mono ?_;rintro e w8 ⟨rfl,p⟩;dsimp only;refine f.o _ _ (Blk.below ac p) (fun ad=>?_)
 rotate_left
 case' _=>
  go_simp;refine(D.o _ z).mono ?_;rintro e w8 ⟨rfl,p⟩;dsimp only;refine f.o _ _ (Blk.below z p) (fun ax=>?_)
  try simp only[Act.put,z1,z2,z3]
  refine dY (i:=13) (h:=fun K f=>?_)
  rw[i6 (by kernel_rfl)]
  refine wp_load_mid 69 (.tmp 34) rfl ga (d*2) rfl ([.int .i64 (((0:Nat):Nat):Int),.int .i64 ((0:Nat):Int)]) _ ((by have h:=aGx (aD u.o ((((i4 c.heap.size c).drew).trans (p.mono (by simp))))) q.o;rw[aa.o] at h;exact h)) underlying69 rfl oK ?_
  refine f.o _ _ (ax) (fun ad=>?_)
 all_goals
  try simp only[Act.put,z1,z2,z3]
  refine dY (i:=16) (h:=fun K f=>?_)
  go_simp;refine(J.o _).mono ?_;rintro e w9 ⟨rfl,X⟩;dsimp only;refine f.o _ _ (Blk.below ad X) (fun bl=>?_)
  try simp only[Act.put,z1,z2,z3]
  have E:Hid (Below c.heap.size c w9):=hZ ((((i4 c.heap.size c).drew).trans (p.mono (by simp))).trans (X.mono (by have:=p.size;simpa using this)))
  refine aE 17 ?_;refine dY (i:=18) (h:=fun K f=>?_)
  rw[i6 (by kernel_rfl)]
  refine bMx 69 (.tmp 39) (.tmp 38) rfl ga (d*2) ([.int .i64 (m:Nat),.int .i64 (m:Nat)]).toArray rfl rfl (aOa (aD u.o E.o) q.o) oK (bLu (aUw _ _)) ?_;refine f.o _ _ ((U.o.mark T.o ah.o u.o E.o d q.o m m).1.blk) (fun bm=>?_)
  try simp only[Act.put,z1,z2,z3]
  refine r8 (by kernel_rfl) ?_ _
  obtain⟨G,C,Y,H⟩:=U.o.mark T.o ah.o u.o E.o d q.o m m;obtain⟨ai,ae⟩:=nZ (w9.setCells ga (d*2) [.int .i64 (m:Nat),.int .i64 (m:Nat)]);rw[←ae] at G C Y H⊢;have aj:=G.blk;have bu:ai.cell? ⟨pb,3,none⟩=some (.slice (some ⟨ab,0,none⟩) n wc):=aj.cell 3;have bv:=C.frozenAt d;have bw:ai.cell? ⟨ab,d,none⟩=some (.bool true):=by
   rw[C.cellAt d (by omega)]
   exact I.o
  obtain⟨ak,al,am,an⟩:=G.turn (l6 T.o H.bel.size) C Y d false;have ba:=hZ ak;have bc:=hZ al;have bd:=hZ am;have be:=hZ ((az.o.trans H).trans an);clear G C Y aj ak al am H an ae E p X D J q aa O;go_wp2_with fail;go_ret;exact⟨rfl,ba.o,bc.o,bd.o,be.o⟩
end
theorem aXt {l:List Nat} (c:d<l.length):(jP l)[d]?=some (.pointer (some ⟨l.getD d 0,0,none⟩)):=by
 unfold jP;rw[bMh,a8,b9 c];rfl
section
variable {B:Nat} {w w':World} {pb:Nat} {gs:Gs} {secs:Int} {vg vl va:Value} {tx:Nat} {nd:aM} {sv:Value} {bk wk ws:Option Addr} {dl:List Nat} {db:Nat} {δ:bC} {Fd:Nat→Prop}
theorem uQ (h:w.ownsRow b e k v n xs) (f:dJ w db δ Fd) (h1:e≠139) (h2:e≠9) (l:Mod Fd w w'):w'.ownsRow b e k v n xs:=
 dH l h (fun g m p=>by
  obtain⟨q,r,u⟩:=cC h m;rcases f.type g p q e r u with c|c
  ·exact h1 c
  ·exact h2 c)
theorem GdC.dstep (h:GdC B w pb gs secs vg vl va tx nd sv bk wk ws dl db δ Fd) (r:B≤w.heap.size) (u:fP db δ' Fd w w'):(∃l,GdC B w' pb gs secs vg vl va tx nd sv bk wk ws dl db δ' l)∧Mod Fd w w'∧GK B w w':=by
 obtain⟨l,h1,h2,z⟩:=u;have q:∀{g e:Nat} {cs:Array Value} {fr:Nat×Nat},w.heap[g]?=some (Obj.cells cs e fr)→e≠139→e≠9→¬Fd g:=fun c m p A=>by
  rcases h.dev.type _ A _ _ _ c with f|f
  ·exact m f
  ·exact p f
 refine⟨⟨l,⟨h2.blk h.blk (q h.blk (by decide) (by decide)),uQ h.grp h.dev (by decide) (by decide) h2,uQ h.lst h.dev (by decide) (by decide) h2,h1,fun g c=>?_,h.rt⟩⟩,h2,⟨h2.toBelow h.FB r,fun g cs e fr c _ _ m p=>by rw[h2.block g (i8.1 c).1 (q c m p)];exact c⟩⟩
 rcases z g c with f|f
 ·exact h.FB g f
 ·omega
end
section
variable {B:Nat} {w w':World} {pb:Nat} {gs:Gs} {secs:Int} {vg:Value} {tx:Nat} {nd:aM} {bk wk ws:Option Addr} {dl:List Nat} {db:Nat} {δ:bC} {Fd:Nat→Prop} {lb lc ab n wc ga sn cap:Nat}
theorem aMg (h:GdC B w pb gs secs vg (.slice (some lb) n lc) (.slice (some ab) n wc) tx nd (.slice (some ga) sn cap) bk wk ws dl db δ Fd) (bj:B≤w.heap.size) (bl:w.ownsRow B 4 1 (.slice (some ab) n wc) n (aZ aw)) (bm:w.ownsRow B 69 2 (.slice (some ga) sn cap) sn (bG st)) (cb:n=cK gs) (bu:sn=cK gs) (co:aw.length=n) (ck:st.length=sn) (bv:dl.length=n) (cl:n≤1000) (d:Nat) (cp:d<n)
  (ah:dl.getD d 0=db) (ht:tx≤1000000) (b:UInt8):Calls prog 20 #[.pointer (some pb),(d:Nat),.int .u8 b.toNat] w fun e w'=>e= .returned (.int .i64 0)∧(∃δ' cc,GdC B w' pb gs secs vg (.slice (some lb) n lc) (.slice (some ab) n wc) tx nd (.slice (some ga) sn cap) bk wk ws dl db δ' cc)∧w'.ownsRow B 69 2 (.slice (some ga) sn cap) sn (bG (st.set d (1,tx+1)))∧GK B w w':=by
 have bn:=hZ (h.has (d:Int) (by unfold eY;omega))
 rw[i9 (by omega)] at bn
 have cd:=hZ h;have ce:=hZ bl;have cf:=hZ bm;have ac:=hZ bj;have ai:=hZ (aXt (l:=dl) (d:=d) (by omega))
 rw[ah] at ai;have aj:=hZ (fun(W:World) (p:Blk W pb 112 (eD vg (.slice (some lb) n lc) (.slice (some ab) n wc) secs tx nd (.slice (some ga) sn cap) bk wk ws false))=>zV p (by omega))
 have ak:=hZ (fun(W:World) (p:dJ W db δ Fd)=>aEr p b)
 have J:Hid (d<st.length):=hZ (by omega)
 have cm:(d:Int)<(sn:Int):=by omega
 obtain⟨r,hT⟩:=nZ (tx+1);rw[←hT] at aj⊢;obtain⟨bo,al⟩:∃bo:Int,bo=(b.toNat:Int):=⟨_,rfl⟩;rw[←al] at ak⊢;clear h bl bm bj cb bu hT al ah;go_in;go_wp2_with fail;refine bn.o.mono ?_;rintro e H ⟨rfl,c⟩;have z:=cd.o.below c;have am:=aD ce.o c;have an:=aD cf.o c;have ap:Hid (B≤H.heap.size):=hZ (l6 ac.o c.size);have bw:=hZ (GK.of c ac.o);have c2:cZ H pb 2 (.slice (some ⟨lb,0,none⟩) n lc):=z.blk.cell 2;have cg:H.cell? ⟨lb,d,none⟩=some (.pointer (some ⟨db,0,none⟩)):=by
  have bq:=z.lst;rw[bv] at bq;rw[bq.cellAt d (by omega)]
  exact ai.o
 have A:=hZ z;have bx:=hZ am;have bz:=hZ an;clear z am an c;go_wp2_with fail;refine(ak.o H A.o.dev).mono ?_;rintro e q ⟨rfl,ae⟩;obtain⟨⟨cq,O⟩,P,R⟩:=A.o.dstep ap.o ae;have C:=uQ bx.o A.o.dev (by decide) (by decide) P
 have aq:=uQ bz.o A.o.dev (by decide) (by decide) P
 have ar:Hid (B≤q.heap.size):=hZ (l6 ap.o R.bel.size);have ch:q.cell? ⟨pb,3,none⟩=some (.slice (some ⟨ab,0,none⟩) n wc):=O.blk.cell 3;have ci:q.cell? ⟨ab,d,none⟩=some (.bool (aw.getD d true)):=by
  rw[C.cellAt d (by omega)]
  exact rB (by omega)
 have cj:=C.frozenAt d;obtain⟨au,av,ax,T⟩:=O.turn ar.o C aq d false;have D:=hZ au;have U:=hZ av;have E:=hZ ax;have ay:=hZ ((bw.o.trans R).trans T);have X:Hid (B≤(q.setCell ⟨ab,d,none⟩ (.bool false)).heap.size):=hZ (l6 ar.o T.bel.size);clear c2 cg O C aq R P ae au av ax T;go_upto_region 6 with fail
 clear ch ci cj;obtain⟨f,az⟩:=nZ (q.setCell ⟨ab,d,none⟩ (.bool false));rw[←az] at D U E ay X⊢;clear az;have m:=D.o.blk.below (i4 f.heap.size f).drew;have af:Hid (∀W,Blk W pb 112 (eD vg (.slice (some ⟨lb,0,none⟩) n lc) (.slice (some ⟨ab,0,none⟩) n wc) secs tx nd (.slice (some ⟨ga,0,none⟩) sn cap) bk wk ws false)→W.cell? ⟨pb,41,none⟩=some (.slice (some ⟨ga,0,none⟩) sn cap)):=hZ (fun W p=>p.cell 41)
 refine l7 (S:=fun W=>Blk W pb 112 (eD vg (.slice (some ⟨lb,0,none⟩) n lc) (.slice (some ⟨ab,0,none⟩) n wc) secs tx nd (.slice (some ⟨ga,0,none⟩) sn cap) bk wk ws false)) (by kernel_rfl) m (fun m=>?_)
 refine aE 0 ?_;refine aE 1 ?_;refine aE 2 ?_;refine aE 3 ?_;refine sB (i:=4) (v:=?vr4) (hy:=?yr4) (h:=?_)
 case yr4=>intro w ba;(try dsimp only at ba);go_simp;rw[af.o _ ba];rfl
 try simp only[Act.put,z1,z2,z3]
 refine aE 5 ?_;refine aE 6 ?_;refine dY (i:=7) (h:=fun K ad=>?_)
 go_simp;refine(aj.o _ m).mono ?_;rintro e w8 ⟨rfl,Y⟩;dsimp only;refine ad.o _ _ (Blk.below m Y) (fun bs=>?_)
 try simp only[Act.put,z1,z2,z3]
 have G:Hid (Below f.heap.size f w8):=hZ (((i4 f.heap.size f).drew).trans (Y.mono (by simp)))
 refine aE 8 ?_;refine aE 9 ?_;refine dY (i:=10) (h:=fun K ad=>?_)
 rw[i6 (by kernel_rfl)]
 refine bMx 69 (.tmp 40) (.tmp 39) rfl ga (d*2) ([.int .i64 ((1:Nat):Int),.int .i64 (r:Nat)]).toArray rfl rfl (aOa (aD E.o G.o) J.o) oK (bLu (aUw _ _)) ?_;refine ad.o _ _ ((D.o.mark X.o U.o E.o G.o d J.o 1 r).1.blk) (fun br=>?_)
 try simp only[Act.put,z1,z2,z3]
 refine r8 (by kernel_rfl) ?_ _
 obtain⟨Z,ca,bc,bd⟩:=D.o.mark X.o U.o E.o G.o d J.o 1 r;have be:=hZ Z;have bf:=hZ bc;have aa:=hZ (ay.o.trans bd);obtain⟨bh,u⟩:=nZ (w8.setCells ga (d*2) [.int .i64 ((1:Nat):Int),.int .i64 (r:Nat)]);have bi:=hZ (yN Z.blk d);rw[←u] at be bf aa bi
 first|rw[←u]|(rw[show w8.setCells ga (d*2) [.int .i64 1,.int .i64 (r:Nat)]=bh from u.symm])|trace_state
 have bt:Hid (B≤bh.heap.size):=hZ (l6 ac.o aa.o.bel.size);clear Z ca bc bd Y u af G br bs m;go_wp2_with fail;refine bi.o.mono ?_;rintro e cn ⟨rfl,ag⟩;have I:=hZ ag;clear ag;go_wp2_with fail;go_ret;exact⟨rfl,⟨_,_,be.o.below I.o⟩,aD bf.o I.o,aa.o.trans (GK.of I.o bt.o)⟩
end
section
theorem bGu (W:World):oZ W none 0 0 []:=⟨rfl,d8 _,by unfold maxLen;omega,fun _=>rfl,fun h=>absurd h (by omega)⟩
theorem bDh (h:Blk w g 43 zC):w.rangeAt g 0 [.slice none 0 0,(0:Int)]:=uJ (cs:=[.slice none 0 0,(0:Int)]) (ds:=[.slice none 0 0,.slice none 0 0]) h
attribute [local go_sem ↓] cB
theorem aOl (w:World):Calls prog 59 #[.agg #[.slice none 0 0,.int .i64 0,.slice none 0 0,.slice none 0 0]] w (rZ w (.bool false)):=by
 have u:Hid (∀W,Calls prog 61 #[.agg #[.slice none 0 0,.int .i64 0]] W (rZ W (.bool false))):=hZ (fun W=>gX none 0 0 [] 0 W (bGu W))
 obtain⟨c,f⟩:=nZ (w.alloc (.cells #[.slice none 0 0,.int .i64 0,.slice none 0 0,.slice none 0 0] 43));have z:Below w.heap.size w c:=by rw[f];exact bZ
 have A:Blk c w.heap.size 43 [.slice none 0 0,.int .i64 0,.slice none 0 0,.slice none 0 0]:=by rw[f];exact Blk.new w _ _
 have m:=hZ z;have p:=hZ A;obtain⟨gx,q⟩:=nZ w.heap.size;rw[←q] at p;clear z A;go_enter func59,ntmps59;go_upto_region 1 with fail
 rw[←f,←q];clear f q;have l:=p.o.below (i4 c.heap.size c).drew;refine l7 (S:=fun W=>Blk W gx 43 [.slice none 0 0,.int .i64 0,.slice none 0 0,.slice none 0 0]) (by kernel_rfl) l (fun l=>?_)
 refine aE 0 ?_;refine mX 1 ?vs1 ?ys1 ?_
 case ys1=>refine m5 (by kernel_rfl) 24 (.tmp 3) ?_ gx (0) ?_ ([.slice none 0 0,.int .i64 0]) _ (fun w' E=>bDh E) underlying24 rfl aHw<;>rfl
 refine dY (i:=2) (h:=fun K G=>?_)
 go_simp;refine(u.o _).mono ?_;rintro e H ⟨rfl,r⟩;dsimp only;refine G.o _ _ (l.below r) (fun C=>?_)
 try simp only[Act.put,z1,z2,z3]
 refine aE 3 ?_;refine aE 4 ?_;refine jL 5 ?_;refine jL 6 ?_;refine jL 7 ?_;refine jL 8 ?_;refine jL 9 ?_;refine jL 10 ?_;refine jL 11 ?_;refine aE 12 ?_;refine aE 13 ?_;refine jL 14 ?_;refine jL 15 ?_;refine jL 16 ?_;refine jL 17 ?_;refine jL 18 ?_;refine jL 19 ?_;refine jL 20 ?_;refine aE 21 ?_;refine r8 (by kernel_rfl) ?_ _
 have D:=hZ (m.o.trans (((i4 c.heap.size c).drew.trans (r.mono (by simp))).mono m.o.size))
 clear r l C p u m;go_wp21;go_ret;exact⟨rfl,D.o⟩
theorem aMf (w:World):Calls prog 24 #[.agg yC] w fun e w'=>e= .returned (.tuple #[.pointer none,(1:Int)])∧bB w w':=by
 obtain⟨h,c⟩:=nZ (w.alloc (.cells yC 43));have l:Hid (bB w h):=hZ (by rw[c];exact bZ)
 have m:Blk h w.heap.size 43 zC:=by rw[c];exact Blk.new w _ _
 have p:=eO (t:=43) (o:=0) (cs:=zC) m rfl underlying43 rfl dC;obtain⟨gx,f⟩:=nZ w.heap.size;rw[←f] at p;clear m;go_in;go_upto_region 1 with fail
 rw[←c,←f];clear c f;go_wp21;refine(aOl h).mono ?_;rintro e u ⟨rfl,q⟩;have r:=hZ (l.o.trans (q.mono l.o.size));clear q p;go_wp21;go_ret2;exact⟨rfl,r.o⟩
end
section
theorem aNn {B:Nat} (h:CrP B w pb (cN gs secs secs.toNat) V) (hr:bH gs secs=true) (p:cK gs≤12):
  ∃y n L c,bIq y 1 n L∧jB B w pb y V 1 n (List.replicate y.ds.length (0,0)) c (List.replicate y.gs.length 0) none none false∧y.right=true∧(∀i,i<y.ds.length→y.here i=true∧(y.ds.getD i eN).fuse= -1)∧y.gs=gs∧y.secs=secs∧y.ds.length=cK gs∧y.away=(cN gs secs secs.toNat).away∧0<cK gs:=by
 have f:=lA gs secs secs.toNat;have m:=aOg hr;obtain⟨y,n,L,c,h1,h2,k⟩:=bHx h (lF hr) (xV hr) (xK _ _ _) (aSz hr) (by rw[f];omega)
 refine⟨y,n,L,c,h1,h2,k.right (lF hr),fun i l=>?_,k.gs,k.secs,k.n.trans f,k.away,m⟩
 rw[k.n] at l;have:=xV hr i l;exact⟨by rw[k.here];exact this.1,(k.dev i).2.2 this.2⟩
attribute [local go_sem ↓] cB rU
theorem aMr (w:World):Calls prog 10 #[] w fun e w'=>e= .returned true∧bB w w':=by
 have P:oZ (w.alloc (.cells (iR [(0,2)]).toArray 73)) (some ⟨w.heap.size,0,none⟩) 1 1 [(0,2)]:=by
  have:=bI (gQ (base:=0) (n:=1) (cap:=1) (size:=2) (Blk.new w 73 (iR [(0,2)])) (z6 _) (d8 _) (by unfold maxLen;omega) (by decide))
  exact this
 have h:Hid (bB w (w.alloc (.cells (iR [(0,2)]).toArray 73))):=hZ bZ;have R:=hZ (aCh (some ⟨w.heap.size,0,none⟩) 1 1 [(0,2)] 100 _ P);clear P;go_in;go_wp21;refine R.o.mono ?_;rintro e c ⟨r,⟨va,z,vb,vc,rfl,ba,bc,bd,af⟩|⟨pb,V,rfl,hr,T,U⟩⟩
 ·exact absurd ⟨by decide,by decide,by decide,by decide,bJb⟩ af
 obtain⟨y,n,L,ar,D,⟨au,aq,av,ax,ay,be,m,ag⟩,X,E,ah,C,Y,ai,ae⟩:=aNn U hr T;obtain⟨ga,bf,bh,lc,bi,wc,Z,_⟩:=m.dvs.form;have p:V.g.oneCell'=true∧V.l.oneCell'=true∧V.a.oneCell'=true:=by rw[Z];exact⟨rfl,rfl,rfl⟩
 have aj:=pJ (z:=100) p.1 p.2.1 p.2.2 c;have q:bB c (c.alloc (.cells #[V.g,(100:Int),V.l,V.a] 43)):=bZ;have aa:Blk (c.alloc (.cells #[V.g,(100:Int),V.l,V.a] 43)) c.heap.size 43 [V.g,(100:Int),V.l,V.a]:=Blk.new c _ _;have ak:=eO (t:=43) (o:=0) (cs:=[V.g,.int .i64 100,V.l,V.a]) aa rfl underlying43 rfl dC;have u:=h.o.trans (r.mono h.o.size);have G:=u.trans (q.mono u.size);have ac:Hid (Calls prog 31 #[.agg #[V.g,(100:Int),V.l,V.a]] (c.alloc (.cells #[V.g,(100:Int),V.l,V.a] 43)) fun e w'=>∃f,e= .returned (.tuple #[.pointer (some f),(0:Int)])∧bB w w'∧Calls prog 17 #[.pointer (some f)] w' fun e al=>e= .returned (2:Int)∧bB w' al):=hZ (by
  have ad:=aOp (m.dvs.below q) m.FB (l6 r.size q.size) X E (by rw[Y];omega) D
  rw[show V.val y.secs= .agg #[V.g,(100:Int),V.l,V.a] by rw[C];rfl] at ad
  refine ad.mono ?_;rintro e w' ⟨f,az,rfl,am,⟨_,_,_,_,_,_,an,_⟩⟩;refine⟨f,rfl,G.trans (am.bel.mono h.o.size),?_⟩;exact zV an.blk (by omega))
 clear Z r hr T U D m ag X E ah C Y ai ae p q aa u G R h;go_wp21;refine ac.o.mono ?_;rintro e bj ⟨f,rfl,H,I⟩;have A:=hZ H;have J:=hZ I;clear H I aj ak ac;go_wp21;refine J.o.mono ?_;rintro e w4 ⟨rfl,O⟩;have ap:=hZ (A.o.trans (O.mono A.o.size));clear O J A;go_wp21;go_ret;exact⟨rfl,ap.o⟩
end
section
attribute [local go_sem ↓] cB kX nT
theorem aRc {R:Bool} (h:Blk w pb 112 (eD vg vl va secs tx nd (.slice ao n cap) bk wk ws R)) (G:RSl w 2 ao n cap cs) (h1:∀u∈cs,u.oneCell'=true) (H:n≤1000000000):
  Calls prog 23 #[.pointer (some pb)] w fun e w'=>∃v,e= .returned (.agg (bF v).toArray)∧w'.ownsRow w.heap.size 69 2 v n cs∧bB w w':=by
 obtain⟨f,c⟩:=nZ (w.alloc (.cells (bF (.slice none 0 0)).toArray 62));have l:bB w f:=by rw[c];exact bZ
 have I:Hid (Blk f w.heap.size 62 (bF (.slice none 0 0))):=hZ (by rw[c];exact Blk.new w _ _)
 have T:Hid (f.heap.size=w.heap.size+1):=hZ (by rw[c];simp)
 have A:=hZ l;have U:=hZ (aVz ao n cap cs f (RSl.below G l) h1 H);have X:=hZ (h.below l);clear h G h1 H l;go_in;go_upto_region 1 with fail
 rw[show w.alloc (.cells yB 62)=f from c.symm];clear c;have J:=eO (t:=62) (o:=18) (cs:=bF (.slice ao n cap)) X.o rfl underlying62 rfl sG;go_wp2_with fail;refine U.o.mono ?_;rintro e z ⟨v,rfl,m,r⟩;obtain⟨p,q,rfl⟩:=aY m;have C:=hZ (I.o.below r);have D:=hZ (A.o.trans (r.mono A.o.size));have Y:=T.o;have E:Mod (fun x=>x=w.heap.size) z (z.setCells w.heap.size 0 (bF (.slice p n q))):=Mod.grown (aJ w.heap.size _ z 0) rfl
 have O:=hZ (qT (b':=w.heap.size) (dH E m (fun g Z=>by have:=(m.lt g Z).1;omega)) (by omega))
 have P:=hZ (bQ (o:=0) (g:=w.heap.size) (vs:=bF (.slice p n q)) D.o D.o.size (d8 _));have aa:=aDp C.o rfl (v:= .slice p n q) rfl;clear m r J Y E;go_wp2_with fail;refine l9 (iU rfl _ _ w.heap.size 62 _ _ rfl (C.o.put (vs:=bF (.slice p n q)) rfl) underlying62 rfl sG) rfl ?_;exact⟨_,rfl,O.o,P.o⟩
end
theorem aRv (h:w.ownsRow b e k v n xs) (f:∀g,v.ownBlock=some g→b'≤g):w.ownsRow b' e k v n xs:=by
 obtain⟨h1,h2⟩:=h;refine⟨h1,?_⟩;rcases h2 with h2|⟨g,cap,c,rfl,m,l⟩
 ·exact .inl h2
 ·exact .inr ⟨g,cap,c,rfl,f g rfl,l⟩
theorem bGm {B:Nat} (h:jB B w pb x V tx nd st sn es wk ws false) (hr:x.right=true) (I:x.ds.length=N) (J:d<N) (E:st.length=N):
  ∃lb lc ab wc ga cap bk dl db δ Fd,V.l= .slice (some ⟨lb,0,none⟩) N lc∧V.a= .slice (some ⟨ab,0,none⟩) N wc∧GdC B w pb x.gs x.secs V.g (.slice (some ⟨lb,0,none⟩) N lc) (.slice (some ⟨ab,0,none⟩) N wc) tx nd (.slice (some ⟨ga,0,none⟩) N cap) bk wk ws dl db δ Fd∧dl.length=N∧dl.getD d 0=db∧x.away.length=N∧
   w.ownsRow B 4 1 (.slice (some ⟨ab,0,none⟩) N wc) N (aZ x.away)∧w.ownsRow B 69 2 (.slice (some ⟨ga,0,none⟩) N cap) N (bG st):=by
 obtain⟨ga,cap,bb,eb,ms,F,f,_⟩:=h;obtain⟨G,Fd,c,hF⟩:=f.dvs;have p:=c.n1;have r:=c.n2;rw[I] at p r;have m:=c.lst;have q:=c.awy;rw[p] at m;rw[r] at q;obtain⟨lb,lc,u⟩:=bT m (by omega)
 obtain⟨ab,wc,z⟩:=bT q (by omega)
 have D:=f.blk;rw[u,z,E] at D;have H:=f.st;rw[E] at H;have C:=aRv (b':=B) q (fun g A=>f.FB g ((hF g).2 (.inr (.inr (.inl A)))))
 rw[z] at C;rw[u] at m;refine⟨lb,lc,ab,wc,ga,cap,_,G,G.getD d 0,_,Fd d,u,z,⟨D,c.grp,?_,c.dev d (by omega),fun g A=>f.FB g ((hF g).2 (.inr (.inr (.inr ⟨d,by omega,A⟩)))),(bL hr).1⟩,p,rfl,r,C,H⟩
 rw[p];exact m
theorem aAu {B:Nat} {Fd:Nat→Prop} (h:GdC B w pb gs secs vg vl va tx nd (.slice (some ⟨ga,0,none⟩) N cap) bk wk ws dl db δ Fd) (f:w.ownsRow B 69 2 (.slice (some ⟨ga,0,none⟩) N cap) N (bG st)) (l:0<N∧N≤1000):
  Calls prog 23 #[.pointer (some ⟨pb,0,none⟩)] w fun e w'=>∃rb rc,e= .returned (.agg #[.int .i64 0,.int .i64 0,.int .i64 0,.int .i64 0,.int .i64 0,.bool false,.int .i64 0,.int .i64 0,.int .i64 0,.int .u64 0,.int .u64 0,.int .u64 0,.int .u64 0,.slice none 0 0,.int .i64 0,.int .i64 0,.int .i64 0,.int .i64 0,.int .i64 0,.int .i64 0,.int .i64 0,.int .i64 0,.int .i64 0,.slice (some ⟨rb,0,none⟩) N rc])∧w'.ownsRow w.heap.size 69 2 (.slice (some ⟨rb,0,none⟩) N rc) N (bG st)∧bB w w':=by
 refine(aRc h.blk (bI f) (mW _) (by omega)).mono ?_
 rintro e w' ⟨v,rfl,c,m⟩;obtain⟨rb,rc,rfl⟩:=bT c l.1;exact⟨rb,rc,rfl,c,m⟩
section
theorem GK.blk {B:Nat} (h:GK B w w') (c:Blk w g e cs) (h1:e≠4) (h2:e≠69) (f:e≠139) (l:e≠9):Blk w' g e cs:=h.ty g _ _ _ c h1 h2 f l
theorem tV {c:Type} {l:List c} {a z:c} (h:d<l.length):(l.set d a).getD d z=a:=by
 rw[a8,List.getElem?_set_self (by omega)]
 rfl
theorem aGu {c:Nat} (f:w.ownsRow b 69 2 (.slice (some ⟨g,0,none⟩) n c) n (bG st)) (l:d<st.length) {p q:Nat} (e:st.getD d (0,0)=(p,q)):w.cell? ⟨g,d*2,none⟩=some (.int .i64 (p:Nat))∧w.cell? ⟨g,d*2+1,none⟩=some (.int .i64 (q:Nat)):=by
 have h:=aGx f l;rw[e] at h;exact⟨h 0 _ rfl,h 1 _ rfl⟩
attribute [local go_sem ↓] cB rU
theorem aSi (ao:Option Addr) (n U:Nat) (gs:Gs) (secs:Int) (w:World) (h:oZ w ao n U gs) (d:Int) (fa:eY d) (b:UInt8):
  Calls prog 3 #[.agg #[.slice ao n U,secs],d,.int .u8 b.toNat] w fun e w'=>e= .returned (.bool true)∧bB w w':=by
 obtain⟨c,ak⟩:=nZ (w.alloc (.cells #[.slice ao n U,secs] 24));have bs:bB w c:=by rw[ak];exact bZ
 have du:Blk c w.heap.size 24 [.slice ao n U,secs]:=by rw[ak];exact Blk.new w _ _
 have r:=hZ bs;have bt:Hid (bB c c):=hZ (i4 _ _);have al:=hZ du;have dv:=hZ (fun W (gu:Below c.heap.size c W)=>aCh ao n U gs secs W (RSl.below (RSl.below h bs) gu))
 have dw:Hid (∀W,Calls prog 22 #[.pointer none] W fun e w'=>e= .returned (.agg yG)∧bB W w'):=hZ (fun W=>aYr W)
 have dx:Hid (∀W,Calls prog 23 #[.pointer none] W fun e w'=>e= .returned (.agg yB)∧bB W w'):=hZ (fun W=>aRs W)
 have ag:=hZ fa;obtain⟨gx,bu⟩:=nZ w.heap.size;rw[←bu] at al;have fx:∀w:World,(Instr.field 43 (.agg yC) 1).run prog w= .ok (.slice none 0 0) w:=fun _=>by kernel_rfl
 have fy:∀w:World,(Instr.field 55 (.agg yG) 0).run prog w= .ok (.int .i64 0) w:=fun _=>by kernel_rfl
 have hh:∀(u:Value) (w:World),(Instr.field 62 (.agg #[.int .i64 0,.int .i64 0,.int .i64 0,.int .i64 0,.int .i64 0,.bool false,.int .i64 0,.int .i64 0,.int .i64 0,.int .u64 0,.int .u64 0,.int .u64 0,.int .u64 0,.slice none 0 0,.int .i64 0,.int .i64 0,.int .i64 0,.int .i64 0,.int .i64 0,.int .i64 0,.int .i64 0,.int .i64 0,.int .i64 0,u]) 3).run prog w= .ok u w:=fun _ _=>by kernel_rfl
 clear h bs du fa;go_in;go_upto_region 1 with fail
 rw[←ak,←bu];clear ak bu;go_upto_region 1 with fail
 go_wp2_with fail;refine(aMr c).mono ?_;rintro e gv ⟨rfl,dy⟩;have bv:Hid (bB c gv):=hZ (bt.o.trans (dy.mono bt.o.size));clear dy bt;go_wp2_with fail;refine(aUb _).mono ?_;rintro e gw ⟨rfl,dz⟩;have bw:Hid (bB c gw):=hZ (bv.o.trans (dz.mono bv.o.size));clear dz bv;go_wp2_with fail;refine(aTx _).mono ?_;rintro e gy ⟨rfl,ea⟩;have bx:Hid (bB c gy):=hZ (bw.o.trans (ea.mono bw.o.size));clear ea bw;go_wp2_with fail;refine(aWd _).mono ?_;rintro e w4 ⟨rfl,ec⟩;have bz:Hid (bB c w4):=hZ (bx.o.trans (ec.mono bx.o.size));clear ec bx;go_wp2_with fail;refine(aYi _).mono ?_;rintro e gz ⟨rfl,ed⟩;have ca:Hid (bB c gz):=hZ (bz.o.trans (ed.mono bz.o.size));clear ed bz;go_wp2_with fail;refine(aWh _).mono ?_;rintro e ha ⟨rfl,ee⟩;have cb:Hid (bB c ha):=hZ (ca.o.trans (ee.mono ca.o.size));clear ee ca;go_wp2_with fail;refine(rH _).mono ?_;rintro e hb ⟨rfl,ef⟩;have cc:Hid (bB c hb):=hZ (cb.o.trans (ef.mono cb.o.size));clear ef cb;go_wp2_with fail;refine(bBg _).mono ?_;rintro e w8 ⟨rfl,eg⟩;have cd:Hid (bB c w8):=hZ (cc.o.trans (eg.mono cc.o.size));clear eg cc;go_wp2_with fail;refine(aZh _).mono ?_;rintro e w9 ⟨rfl,eh⟩;have ce:Hid (bB c w9):=hZ (cd.o.trans (eh.mono cd.o.size));clear eh cd;go_wp2_with fail;refine(aWq _).mono ?_;rintro e fz ⟨rfl,cy⟩;have ba:Hid (bB c fz):=hZ (ce.o.trans (cy.mono ce.o.size));clear cy ce;go_wp2_with fail;refine(aMd _).mono ?_;rintro e gc ⟨rfl,cz⟩;have bc:Hid (bB c gc):=hZ (ba.o.trans (cz.mono ba.o.size));clear cz ba;go_wp2_with fail;refine(aYn _).mono ?_;rintro e gd ⟨rfl,da⟩;have bd:Hid (bB c gd):=hZ (bc.o.trans (da.mono bc.o.size));clear da bc;go_wp2_with fail;refine(dw.o _).mono ?_;rintro e ge ⟨rfl,dc⟩;have be:Hid (bB c ge):=hZ (bd.o.trans (dc.mono bd.o.size));clear dc bd;go_wp2_with fail;refine(dx.o _).mono ?_;rintro e gf ⟨rfl,dd⟩;have bf:Hid (bB c gf):=hZ (be.o.trans (dd.mono be.o.size));clear dd be;go_wp2_with fail;refine(aMf _).mono ?_;rintro e T ⟨rfl,de⟩;have m:Hid (bB c T):=hZ (bf.o.trans (de.mono bf.o.size));clear de bf;have c0:T.cell? gx=some (.slice ao n U):=(al.o.below m.o).cell 0;have hc:T.cell? ⟨gx,1,none⟩=some secs:=(al.o.below m.o).cell 1;go_wp2_with fail;have ei:c.heap.size≤T.heap.size:=m.o.size;refine(dv.o T m.o).mono ?_;clear c0 hc dv dw dx fx fy al;rintro e p ⟨P,⟨va,z,vb,vc,rfl,fb,fc,fd,-⟩|⟨pb,V,rfl,hr,am,fe⟩⟩
 ·have df:Hid (bB c p):=hZ (m.o.trans (P.mono m.o.size))
  have ej:=pJ (z:=z) fb fc fd p;clear P m fb fc fd ag;go_wp2_with fail;go_ret;exact⟨rfl,r.o.trans ((df.o.alloc df.o.size _).mono r.o.size)⟩
 obtain⟨y,nd,L,hi,gg,aa,ff,ek,el,dg,av,gh,bh⟩:=aNn fe hr am;obtain⟨N,cp⟩:=nZ (cK gs);rw[av] at aa;rw[←cp] at aa av bh am;have gi:∃f:Nat,f<N∧(0≤d→d<(N:Int)→d=(f:Int)):=by
  by_cases hd:0≤d∧d<(N:Int)
  ·exact⟨d.toNat,by omega,fun _ _=>by omega⟩
  ·exact⟨0,bh,fun a b=>absurd ⟨a,b⟩ hd⟩
 obtain⟨f,cq,em⟩:=gi;obtain⟨lb,lc,ab,wc,ga,cap,bk,dl,db,δ,Fd,en,eo,ac,ep,eq,cf,ax,cr⟩:=bGm aa ff av cq (by simp)
 rw[el,dg] at ac;have cg:y.away.getD f true=false:=by
  have:=ek f (by omega)
  have ct:=this.1;unfold aK.here at ct;simp only[y8,bNr] at ct;exact ct.1
 obtain⟨aw,dh⟩:=nZ y.away;rw[←dh] at cf ax cg;obtain⟨vg,ch⟩:=nZ V.g;have er:vg.oneCell'=true:=by
  obtain⟨_,_,_,_,_,_,gj,_⟩:=aa;obtain⟨_,_,_,_,_,_,gl,_⟩:=gj.dvs.form;rw[ch,gl];rfl
 rw[←ch] at ac⊢;rw[en,eo];have ej:=pJ (z:=secs) (va:=vg) (vb:= .slice (some lb) N lc) (vc:= .slice (some ab) N wc) er rfl rfl p;have I:bB p (p.alloc (.cells #[vg,secs,.slice (some lb) N lc,.slice (some ab) N wc] 43)):=bZ;have an:Blk (p.alloc (.cells #[vg,secs,.slice (some lb) N lc,.slice (some ab) N wc] 43)) p.heap.size 43 [vg,secs,.slice (some lb) N lc,.slice (some ab) N wc]:=Blk.new p _ _;obtain⟨ci,ah⟩:=nZ (p.alloc (.cells #[vg,secs,.slice (some lb) N lc,.slice (some ab) N wc] 43));obtain⟨cu,cj⟩:=nZ p.heap.size;rw[←ah,←cj] at an;rw[←ah] at I;obtain⟨B,ay⟩:=nZ T.heap.size;rw[←ay] at ac ax cr;have et:Hid (B≤ci.heap.size):=hZ (by rw[ay];exact l6 P.size I.size)
 have ck:Hid (c.heap.size≤B):=hZ (by rw[ay];exact ei)
 have X:Hid (bB c ci):=hZ ((m.o.trans (P.mono m.o.size)).trans (I.mono (l6 m.o.size P.size)));have Y:=hZ (ac.below I);have fl:=hZ (aD ax I);have fm:=hZ (aD cr I);have gm:=hZ an;have A:=hZ cp;have gn:=hZ ep;have go:=hZ eq;have ap:=hZ cf;have gp:=hZ cg;have di:Hid (N≤12):=hZ am;have aq:=hZ cq;have eu:=hZ em;have he:ci.cell? ⟨cu,2,none⟩=some (.slice (some lb) N lc):=an.cell 2;clear gg aa ff ek el dg av gh bh cp ep eq cf cg ac ax cr I an P ei en eo er ch dh ay fe hr m em cq am;go_upto_region 13 with fail
 rw[←ah,←cj];clear ej ah cj;by_cases h1:d<0
 ·have C:=hZ (aMx Y.o d ag.o (.inl h1) true)
  go_wp2_with fail;refine C.o.mono ?_;rintro e D ⟨rfl,H⟩;have q:Hid (bB c D):=hZ (X.o.trans (H.mono X.o.size));have E:=hZ (aCi (Y.o.below H) d ag.o (.inl h1) (b.toNat:Int));clear H C;go_wp2_with fail;refine E.o.mono ?_;rintro e J ⟨rfl,l⟩;have Z:Hid (bB c J):=hZ (q.o.trans (l.mono q.o.size));clear l E;go_wp2_with fail;go_ret;exact⟨rfl,r.o.trans (Z.o.mono r.o.size)⟩
 ·by_cases h2:(N:Int)≤d
  ·have C:=hZ (aMx Y.o d ag.o (.inr (by rw[←A.o];exact h2)) true)
   have gq:Hid (d<0∨(cK gs:Int)≤d):=hZ (.inr (by rw[←A.o];exact h2))
   have hf:d≥(N:Int):=h2;go_wp2_with fail;refine C.o.mono ?_;rintro e D ⟨rfl,H⟩;have q:Hid (bB c D):=hZ (X.o.trans (H.mono X.o.size));have E:=hZ (aCi (Y.o.below H) d ag.o gq.o (b.toNat:Int));clear H C;go_wp2_with fail;refine E.o.mono ?_;rintro e J ⟨rfl,l⟩;have Z:Hid (bB c J):=hZ (q.o.trans (l.mono q.o.size));clear l E;go_wp2_with fail;go_ret;exact⟨rfl,r.o.trans (Z.o.mono r.o.size)⟩
  ·have hf:¬d≥(N:Int):=h2
   obtain rfl:d=(f:Int):=eu.o (by omega) (by omega)
   have hl:¬((N:Int)≤(f:Int)):=h2;have cl:=aq.o;clear eu;have C:=hZ (bAm Y.o et.o fl.o fm.o A.o A.o ap.o (by simp) (by have:=di.o;omega) f aq.o gp.o)
   go_wp2_with fail;refine C.o.mono ?_;rintro e D ⟨rfl,bi,bj,bl,ai⟩;have ad:Hid (f<(List.replicate N ((0:Nat),(0:Nat))).length):=hZ (by rw[bLw];exact cl)
   have ae:Hid (f<aw.length):=hZ (by rw[ap.o];exact cl)
   have af:Hid (0<N∧N≤1000):=hZ (by have:=di.o;omega)
   have ev:Hid ((List.replicate N ((0:Nat),(0:Nat))).getD f (0,0)=(0,0)):=hZ (by rw[a8,List.getElem?_replicate,i6 cl];rfl)
   have q:Hid (bB c D):=hZ (X.o.trans (ai.bel.mono ck.o));have az:=ai.blk gm.o (by decide) (by decide) (by decide) (by decide)
   have fg:=hZ az;have fn:=hZ bi;have fo:=hZ bj;have fp:=hZ bl;have fh:Hid (B≤D.heap.size):=hZ (l6 et.o ai.bel.size);have c3:D.cell? ⟨cu,3,none⟩=some (.slice (some ab) N wc):=az.cell 3;have cv:D.cell? ⟨ab,f,none⟩=some (.bool true):=by
    rw[bj.cellAt f (by omega),rB (by rw[bLy];exact ae.o),tV ae.o]
   have G:=hZ (aAu bi bl af.o);clear bi bj bl ai az C he;go_wp2_with fail;refine G.o.mono ?_;rintro e J ⟨rb,rc,rfl,dj,l⟩;have hg:J.cell? ⟨rb,f*2+1,none⟩=some (.int .i64 0):=(aGu dj ad.o ev.o).2;have Z:Hid (bB c J):=hZ (q.o.trans (l.mono q.o.size));have fi:=hZ (fg.o.below l);have cw:Hid (B≤J.heap.size):=hZ (l6 fh.o l.size);have E:=hZ (aZn (fn.o.below l) cw.o (aD fo.o l) (aD fp.o l) A.o A.o (by rw[bLy];exact ap.o) (by simp) af.o.2 f aq.o (tV ae.o) ev.o (by omega))
   clear dj l G c3 cv;go_wp2_with fail;refine E.o.mono ?_;rintro e ar ⟨rfl,bm,bn,bo,aj⟩;have dk:Hid (bB c ar):=hZ (Z.o.trans (aj.bel.mono ck.o));have cx:=aj.blk fi.o (by decide) (by decide) (by decide) (by decide)
   have fq:=hZ bm;have fs:=hZ bn;have ft:=hZ bo;have fj:Hid (B≤ar.heap.size):=hZ (l6 cw.o aj.bel.size);have c3:ar.cell? ⟨cu,3,none⟩=some (.slice (some ab) N wc):=cx.cell 3;have cv:ar.cell? ⟨ab,f,none⟩=some (.bool false):=by
    rw[bn.cellAt f (by omega),rB (by rw[bLy,bLy];exact ae.o),tV (by rw[bLy];exact ae.o)]
   have G:=hZ (aAu bm bo af.o);clear bm bn bo aj cx E hg;go_wp2_with fail;refine G.o.mono ?_;rintro e au ⟨ew,hj,rfl,dm,R⟩;have O:=aGu dm (by rw[bLy];exact ad.o) (tV ad.o)
   have cm:au.cell? ⟨ew,f*2,none⟩=some (.int .i64 2):=O.1;have cn:au.cell? ⟨ew,f*2+1,none⟩=some (.int .i64 2):=O.2;have fu:Hid (bB c au):=hZ (dk.o.trans (R.mono dk.o.size));have fk:Hid (B≤au.heap.size):=hZ (l6 fj.o R.size);have ex:=hZ (aMg (fq.o.below R) fk.o (aD fs.o R) (aD ft.o R) A.o A.o (by rw[bLy,bLy];exact ap.o) (by rw[bLy];simp) gn.o af.o.2 f aq.o go.o (by omega) b)
   clear dm R G c3 cv O;go_wp2_with fail;refine ex.o.mono ?_;rintro e gr ⟨rfl,⟨δ',hm,bq⟩,dn,dp⟩;have dq:Hid (bB c gr):=hZ (fu.o.trans (dp.bel.mono ck.o));have fv:=hZ bq;have G:=hZ (aAu bq dn af.o);clear bq dn dp ex cm cn;go_wp2_with fail;refine G.o.mono ?_;rintro e co ⟨ey,hk,rfl,dr,br⟩;have O:=aGu dr (by rw[bLy,bLy];exact ad.o) (tV (by rw[bLy];exact ad.o))
   have cm:co.cell? ⟨ey,f*2,none⟩=some (.int .i64 1):=O.1;have cn:co.cell? ⟨ey,f*2+1,none⟩=some (.int .i64 2):=O.2;have ds:Hid (bB c co):=hZ (dq.o.trans (br.mono dq.o.size));have ez:=hZ (aBh (fv.o.below br).blk);clear dr br G O;go_wp2_with fail;refine ez.o.mono ?_;rintro e gt ⟨rfl,dt⟩;have fw:Hid (bB c gt):=hZ (ds.o.trans (dt.mono ds.o.size));clear dt ez cm cn;go_wp2_with fail;go_ret;exact⟨rfl,r.o.trans (fw.o.mono r.o.size)⟩
end
theorem aSm (ga:Option Addr) (c f:Nat) (gs:Gs) (secs:Int) (d z:Int) (w:World) (h:oZ w ga c f gs) (m: -9223372036854775808≤d∧d≤9223372036854775807) (p:0≤z∧z≤255):
  Calls prog 3 #[.agg #[.slice ga c f,secs],d,.int .u8 z] w fun e w'=>e= .returned true∧bB w w':=by
 have e:(((UInt8.ofNat z.toNat).toNat:Nat):Int)=z:=by
  rw[UInt8.toNat_ofNat'];omega
 have l:=aSi ga c f gs secs w h d (by unfold eY;omega) (UInt8.ofNat z.toNat)
 rw[e] at l;exact l
namespace poolGuards
open Go
theorem j0:Rows.poolGuardsRow.wf (OpenSpec.ofChange Rows.poolGuardsSpec)=true:=by kernel_rfl
theorem j1:laidOutB Tryz.pinned.checked.prog=true:=by kernel_rfl
theorem j2:mapsRowed Tryz.pinned.checked.prog=true:=by kernel_rfl
theorem j3:Tryz.f3.params.all (Tryz.pinned.checked.prog.readableRec ·)=true:=by kernel_rfl
theorem j4:namedTie Tryz.pinned.checked.prog Rows.poolGuardsRow.named Rows.poolGuardsSpec.vars=true:=by kernel_rfl
theorem j5:(Rows.poolGuardsRow.stops == [])=true:=by kernel_rfl
theorem j6:(Tryz.pinned.checked.prog.stops == [])=true:=by kernel_rfl
theorem j7:(Rows.poolGuardsRow.knobs == [])=true:=by kernel_rfl
theorem j8:(Tryz.pinned.checked.prog.stopKnobs == [])=true:=by kernel_rfl
theorem j9:(Rows.poolGuardsRow.inPlace == Tryz.pinned.checked.prog.inPlace 3)=true:=by kernel_rfl
theorem j10:(Rows.poolGuardsRow.unfollowed == Tryz.pinned.checked.prog.unfollowed 3)=true:=by kernel_rfl
theorem j11:(Rows.poolGuardsRow.recurses == Tryz.pinned.checked.prog.recurses 3)=true:=by kernel_rfl
theorem j12:(Rows.poolGuardsRow.named == Tryz.pinned.checked.prog.varsNamed 3)=true:=by kernel_rfl
theorem j13:(Rows.poolGuardsRow.maps == (Tryz.f3.params.toList++Rows.poolGuardsSpec.plain.varTypes Tryz.pinned.checked.prog).any (Tryz.pinned.checked.prog.mapsRec ·))=true:=by kernel_rfl
theorem j14:(Rows.poolGuardsRow.ifaces == (Tryz.f3.params.toList++Rows.poolGuardsSpec.plain.varTypes Tryz.pinned.checked.prog).any (Tryz.pinned.checked.prog.ifacesRec ·))=true:=by kernel_rfl
theorem j15:(Rows.poolGuardsRow.mapsOut == Tryz.pinned.checked.prog.mapsAmong Tryz.f3.resultTypes.toList)=true:=by kernel_rfl
theorem j16:(Rows.poolGuardsRow.loops == (Tryz.f3.params.toList++Rows.poolGuardsSpec.plain.varTypes Tryz.pinned.checked.prog).any (Tryz.pinned.checked.prog.loopsFrom ·))=true:=by kernel_rfl
theorem j17:(Rows.poolGuardsRow.wideKeys == (Tryz.f3.params.toList++Rows.poolGuardsSpec.plain.varTypes Tryz.pinned.checked.prog++Tryz.f3.resultTypes.toList).any (Tryz.pinned.checked.prog.wideKeysFrom ·))=true:=by kernel_rfl
theorem j18:Rows.poolGuardsSpec.vars.all (Tryz.pinned.checked.prog.varReadable ·)=true:=by kernel_rfl
theorem j19:Tryz.f3.resultTypes.all (fun t=>Tryz.pinned.checked.prog.readableRec t&&decide (t<Tryz.pinned.checked.prog.types.size))=true:=by kernel_rfl
theorem j20:(Rows.poolGuardsRow.ifacesOut == Tryz.f3.resultTypes.toList.any (Tryz.pinned.checked.prog.ifacesRec ·))=true:=by kernel_rfl
theorem j21:(Rows.poolGuardsRow.loopsOut == Tryz.f3.resultTypes.toList.any (Tryz.pinned.checked.prog.loopsFrom ·))=true:=by kernel_rfl
theorem j22:(Rows.poolGuardsRow.plainKeys == Tryz.pinned.checked.prog.plainKeys)=true:=by kernel_rfl
theorem j23:Rows.poolGuardsRow.shortTexts.isNone=true:=by kernel_rfl
theorem j24:Tryz.pinned.checked.prog.stopsHeard=true:=by kernel_rfl
theorem j25:Tryz.pinned.checked.prog.mayEnter=true:=by kernel_rfl
theorem j26:(Rows.poolGuardsRow.lifted == Tryz.pinned.checked.prog.liftsFinal)=true:=by kernel_rfl
theorem j27:(Tryz.pinned.checked.prog.make == some Rows.poolGuardsRow.make)=true:=by kernel_rfl
theorem j29:(Rows.poolGuardsRow.pinned == Rows.poolGuardsRow.pinnedBy)=true:=by kernel_rfl
theorem j30:(Rows.poolGuardsRow.veiled == (Tryz.f3.params.toList++Rows.poolGuardsSpec.plain.varTypes Tryz.pinned.checked.prog++Tryz.f3.resultTypes.toList).any (Tryz.pinned.checked.prog.veiledRec ·))=true:=by kernel_rfl
theorem j31:Rows.poolGuardsRow.veiledFits Tryz.pinned.checked.prog Tryz.f3.params.toList (Tryz.f3.params.toList++Rows.poolGuardsSpec.plain.varTypes Tryz.pinned.checked.prog++Tryz.f3.resultTypes.toList)=true:=by kernel_rfl
theorem named:prog.funcNamed Rows.poolGuardsRow.func=some 3:=by kernel_rfl
theorem kY {a b:Bool} (h:a=true) (k:b=true):(a&&b)=true:=by rw[h,k];rfl
theorem bJi:joinedFacts Tryz.pinned.checked.prog 3 Tryz.f3 Rows.poolGuardsSpec Rows.poolGuardsRow=true:=
 kY (kY (kY (kY (kY (kY (kY (kY (kY (kY (kY (kY (kY (kY (kY (kY (kY (kY (kY (kY (kY (kY (kY (kY (kY (kY (kY (kY (kY (kY (kY (j0) j1) j2) j3) j4) j5) j6) j7) j8) j9) j10) j11) j12) j13) j14) j15) j16) j17) j18) j19) j20) j21) j22) j23) j24) j25) j26) j27) (by kernel_rfl)) j29) j30) j31
end poolGuards

end Go.Proofs.YtepmcdopccflgaaGreatDoor

