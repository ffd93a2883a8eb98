/- Parts of the proof of the statement that the last file of this claim proves:lemmas,without any condition of their own beyond those that each states. -/
import Derived.Test.YtepmcdopccflgaaGreatDoorYV5
import Derived.Deep.DeepCutAuto
set_option linter.unusedVariables false
set_option linter.unusedSimpArgs false
set_option linter.unnecessarySimpa false
set_option maxHeartbeats 4000000
set_option maxRecDepth 100000
namespace Go.Proofs.YtepmcdopccflgaaGreatDoor
open Go.RowKit Tryz
variable {b b2 bl d db e e2 g g6 gG gN gR gS gc gm gu gx j k k' lc n n2 pb tx txg:Nat} {hd s:Bs} {dst:Option Tmp} {W W' w w' w1 wr:World} {Q:Exit→Act→World→Prop} {box cs ds gs2 su ub xs zs:List Value} {a:Act} {bk wk ws:Option Addr} {sv u v v2 vl:Value} {nd:aM} {x:aK} {gs:Gs} {guard:Option (Nat×Bool)} {y:Operand} {fn:Func} {next:Act→World→Prop} {F Fk Fy:Nat→Prop} {secs:Int} {after:Array Edge} {V:kE} {P:Program}
section
attribute [local go_sem ↓] bU bR eI dL rG
theorem oJ {n:aM} (h:Blk w g e (aN n)):w.rangeAt g 1 (aA n.root):=fun j v c=>by
 rw[h.cell,aN,Nat.add_comm,m9,c]
theorem aNf {n:aM} (h:Blk w g e (aN n)) (q:aC):Blk (w.setCells g 1 (aA q)) g e (aN ⟨n.size,q⟩):=h.setCells (aA q) 1 (d8 13)
section
variable {σ:Type} {S:StF σ} {ty:TypeId} {a:Addr} {C:bA S ty a}
theorem aXs {st:σ} (h:C.Is w st F) (n:aM) (hn:n.wf) (i frm:Nat) (s:Bs) (hi:i<4 ^ gC n.size) (hfr:frm≤256) (hsl:s.length≤256) (hok:C.Ok (iE S n i frm s st).2):
  Calls prog 79 #[.iface ty (.pointer (some a)),.agg (aN n).toArray,(i:Nat),(frm:Nat),.string ⟨s.toArray⟩] w fun e w'=>NdR (iE S n i frm s st).1 e∧C.Step F (iE S n i frm s st).2 w w':=by
 obtain⟨w0,hw0⟩:=nZ ((w.alloc (.cells (aN n).toArray 53)).alloc (.cells (aN nD).toArray 53));have hb:Blk w0 w.heap.size 53 (aN n):=by rw[hw0];exact(Blk.new w _ _).alloc _
 have hr:Blk w0 (w.heap.size+1) 53 (aN nD):=by rw[hw0];exact Blk.newAt (w:=w.alloc _) _ _ (by simp)
 have hbel:bB w w0:=by rw[hw0];exact(bZ).alloc (by simp) _
 have h0:¬F w.heap.size:=fun hf=>by have:=C.lt h _ hf;omega
 have h1:¬F (w.heap.size+1):=fun hf=>by have:=C.lt h _ hf;omega
 have HAT:Hid (C.At F st w w0 F):=hZ ((bA.At.start h).below hbel);have hld:=fun op a next Q=>aB (P:=prog) hb underlying53 rfl cQ op a next Q
 have HB0:=hZ hb;have HR0:=hZ hr;have hl3:=aMc n.size;have hp4:4 ^ gC n.size≤4 ^ 3:=Nat.pow_le_pow_right (by omega) hl3
 have hi64:i<64:=by omega
 have hRe:iE S n i frm s st=M.bind (fE S n i) (fun x=>M.bind (iN S (gC n.size) n.root i (over (eG x) frm s)) fun r=>M.ret ⟨n.size,r⟩) st:=rfl
 obtain⟨R,hRR⟩:∃R,iE S n i frm s st=R:=⟨_,rfl⟩;rw[hRR] at hRe hok⊢;have hokb:C.Ok (fE S n i st).2:=dE (fun x=>cX (yM C.bg C.bp _ _ _ _) (fun r=>cO _)) (by rw[←hRe];exact hok)
 have HBL:=hZ (aHr HAT.o.1 n hn i (by omega) hokb)
 have HOK:=hZ hok;clear hb hr hbel hok hokb hRR hp4;rcases hbk:fE S n i st with⟨r|x,s1⟩
 ·rw[M.bind_err hbk] at hRe
  rw[hbk] at HBL;have HRE:=hZ hRe;clear hRe hbk;go_in;go_upto_region 1 with fail
  rw[show(w.alloc (.cells (aN n).toArray 53)).alloc (.cells yD 53)=w0 from hw0.symm];clear hw0;go_wp2_with fail;refine HBL.o.mono ?_;rintro e w2 ⟨⟨rfl,hr0⟩,hstep⟩;have hr1:((r:Int) != 0)=true:=by simpa using hr0
  obtain⟨F2,hat,hfr2,hm⟩:=HAT.o.step hstep;have hbr:=hm.blk HR0.o h1;have hst:=fun op a next Q=>mZ hbr rfl op a next Q
  have HB2:=hZ hbr;have HA2:=hZ (hat.put (o:=0) (vs:=aN nD) (bLv _) (hfr2 _ HR0.o.lt h1) hbr);clear hat hfr2 hm hbr hstep hld;go_wp2_with fail;refine l9 (aL rfl _ _ (w.heap.size+1) 53 _ _ rfl (HB2.o.put (vs:=aN nD) rfl) underlying53 rfl cQ) rfl ?_;rw[HRE.o];exact⟨⟨rfl,hr0⟩,HA2.o.fin⟩
 ·rw[M.bind_ok hbk] at hRe
  rw[hbk] at HBL;have HRE0:=hZ hRe;clear hRe hbk;go_in;go_upto_region 1 with fail
  rw[show(w.alloc (.cells (aN n).toArray 53)).alloc (.cells yD 53)=w0 from hw0.symm];clear hw0;go_wp2_with fail;refine HBL.o.mono ?_;rintro e w2 ⟨⟨rfl,hgd,hni⟩,hstep⟩;obtain⟨F2,hat,hfr2,hm⟩:=HAT.o.step hstep;have HBN2:=hZ (hm.blk HB0.o h0);have HBR2:=hZ (hm.blk HR0.o h1);have HF0:=hZ (hfr2 _ HB0.o.lt h0);have HF1:=hZ (hfr2 _ HR0.o.lt h1);have HAT2:=hZ hat;have hx256:(eG x).length≤256:=by
   cases x with
   |data t=>exact aBt t
   |index l=>exact absurd rfl (hni l)
   |hole=>simp[eG]
  clear hat hfr2 hm hstep hld;go_upto_region 4 with fail
  go_cut [14] (fun v wx=>v= .string ⟨(eG x).toArray⟩∧Hid (bB w2 wx))
  case first=>
   cases x with
   |index l=>exact absurd rfl (hni l)
   |data t=>
    have hme:=bDr ⟨t.toArray⟩;unfold gI;go_wp2_with fail;refine(qB t w2 (by have:=hgd.1;omega)).mono ?_
    rintro e w3 ⟨rfl,hb3⟩;go_wp2_with fail;go_meet;exact⟨rfl,hZ hb3⟩
   |hole=>
    have hme:=bCj;unfold gI;go_wp2_with fail;refine(vJ w2).mono ?_;rintro e w3 ⟨rfl,hb3⟩;go_wp2_with fail;go_meet;exact⟨rfl,hZ hb3⟩
  case rest=>
   obtain⟨rfl,HBC⟩:=hcut;obtain⟨old,hold⟩:=nZ (eG x);rw[←hold] at hx256⊢;have HOLD:=hZ hold;clear hold hgd hni;obtain⟨w3,hw3⟩:=nZ wc;rw[←hw3] at HBC⊢;clear hw3;go_upto_if 32 with fail
   go_cut [14] (fun v wx=>v= .string ⟨(old++aP (frm-old.length)).toArray⟩∧Hid (bB w3 wx))
   case first=>
    by_cases hlt:old.length<frm
    ·have hx1:(old.length:Int)<(frm:Int):=by omega
     have HREP:Hid ((frm:Int)-(old.length:Int)=((frm-old.length:Nat):Int)):=hZ (by omega)
     have hbd:¬9223372036854775807<old.length+(aP (frm-old.length)).length:=by simp[aP];omega
     go_wp2_with fail;rw[HREP.o];refine(pU (frm-old.length) w3 (by omega)).mono ?_
     rintro e w4 ⟨rfl,hb4⟩;go_wp2_with fail;go_meet;exact⟨by rw[cI],hZ hb4⟩
    ·have hx1:¬(old.length:Int)<(frm:Int):=by omega
     have e:aP (frm-old.length)=[]:=by rw[show frm-old.length=0 by omega];rfl
     have HE:=hZ e;clear e;go_wp2_with fail;go_meet;exact⟨by rw[HE.o,bMv],hZ (i4 _ _)⟩
   case rest=>
    obtain⟨rfl,HBC2⟩:=hcut;obtain⟨o2,ho2⟩:=nZ (old++aP (frm-old.length));have hlo:frm≤o2.length:=by rw[ho2];simp[aP];omega
    have hlo2:o2.length≤512:=by rw[ho2];simp[aP];omega
    rw[←ho2];have HO2:=hZ ho2;clear ho2;obtain⟨w4,hw4⟩:=nZ wc;rw[←hw4] at HBC2⊢;clear hw4;have q1:(0:Int)≤(frm:Int):=by omega
    have q2:(frm:Int)≤(o2.length:Int):=by omega
    have hsz1:¬9223372036854775807<min frm o2.length+s.length:=by omega
    have hov:over old frm s=o2.take frm++s++o2.drop (frm+s.length):=by unfold over;rw[←HO2.o]
    have HOV:=hZ hov;clear hov;go_upto_if 49 with fail
    go_cut [15] (fun v wx=>v= .string ⟨(over old frm s).toArray⟩∧Hid (wx=w4))
    case first=>
     by_cases hgt:frm+s.length<o2.length
     ·have hx1:(frm:Int)+(s.length:Int)<(o2.length:Int):=by omega
      have hx2:(frm:Int)+(s.length:Int)≤(o2.length:Int):=by omega
      have hx3:0≤(frm:Int)+(s.length:Int):=by omega
      have hbd:¬9223372036854775807<frm+s.length+(o2.length-(frm+s.length)):=by omega
      go_wp2_with fail;go_meet;refine⟨?_,hZ rfl⟩;rw[HOV.o,dM,dM,cI,cI,bLz,bOf]
     ·have hx1:¬(frm:Int)+(s.length:Int)<(o2.length:Int):=by omega
      go_wp2_with fail;go_meet;refine⟨?_,hZ rfl⟩;rw[HOV.o,dM,cI,bOf,bNj (by omega),bMv]
    case rest=>
     obtain⟨rfl,hwc⟩:=hcut;have hb24:bB w2 w4:=HBC.o.trans (HBC2.o.mono HBC.o.size);rw[hwc.o];have HATD:=hZ ((HAT2.o.below hb24).below (i4 _ _).drew);have HBN:=hZ (HBN2.o.below hb24);have HBR:=hZ (HBR2.o.below hb24);have htl:(over old frm s).length≤1000000:=by rw[HOV.o];simp;omega
     obtain⟨T,hT⟩:=nZ (over old frm s);rw[←hT] at htl⊢;have hRe:=HRE0.o;rw[←HOLD.o,←hT] at hRe;obtain⟨rv,s3,hRS⟩:∃rv s3,iN S (gC n.size) n.root i T s1=(rv,s3):=⟨_,_,rfl⟩;have hokS:C.Ok (iN S (gC n.size) n.root i T s1).2:=dE (fun q=>cO _) (by rw[←hRe];exact HOK.o)
     have HSET:=hZ (bGe (gC n.size) HATD.o.1 n.root hn.root i T hl3 hi htl hokS);rw[hRS] at HSET;have HRS:=hZ hRS;have HRE:=hZ hRe;have HLV:=hZ fun W=>oB n.size W hn.size
     obtain⟨lv,hlv⟩:=nZ (gC n.size);rw[←hlv] at HSET HLV;clear hb24 hT hRe hRS hokS hlv hwc;go_upto_region 10 with fail
     refine l7 (S:=fun w'=>cZ w' w.heap.size 0 n.size) (by kernel_rfl) (HBN.o.drew.cell 0) (fun hS0=>?_)
     refine aE 0 ?_;refine aE 1 ?_;refine aE 3 ?_;refine aE 4 ?_;refine aE 6 ?_;refine aE 7 ?_;refine vB [2,5] ?_;refine rc (fun K hK=>?_) (rc (fun K hK=>?_) rn)
     case' _=>
      rw[i6 (by kernel_rfl)]
      refine wp_load_mid 51 (.tmp 58) rfl w.heap.size (1) rfl (aA n.root) _ (oJ HBN.o.drew) underlying51 rfl aU ?_;refine hK.o _ _ (by assumption) (fun hScp2=>?_)
      try simp only[Act.put,z1,z2,z3]
      refine dY (i:=5) (h:=fun K hK=>?_)
      go_simp;refine(HLV.o _).mono ?_;rintro e w5 ⟨rfl,rfl⟩
      try dsimp only
     rotate_left
     case' _=>
      go_simp;refine(HLV.o _).mono ?_;rintro e w5 ⟨rfl,rfl⟩
      try dsimp only
      refine hK.o _ _ (by assumption) (fun hScq5=>?_)
      try simp only[Act.put,z1,z2,z3]
      refine dY (i:=2) (h:=fun K hK=>?_)
      rw[i6 (by kernel_rfl)]
      refine wp_load_mid 51 (.tmp 58) rfl w.heap.size (1) rfl (aA n.root) _ (oJ HBN.o.drew) underlying51 rfl aU ?_
     all_goals
      refine hK.o _ _ (by assumption) (fun hScp5=>?_)
      try simp only[Act.put,z1,z2,z3]
      refine dY (i:=8) (h:=fun K hK=>?_)
      go_simp;refine HSET.o.mono ?_;rintro e w6 ⟨hpr,hstep6⟩;have hpe:=sA.val hpr;obtain⟨q,hq⟩:∃q,aCx rv=q:=⟨_,rfl⟩;obtain⟨E,hE⟩:∃E,mE rv=E:=⟨_,rfl⟩;rw[hq,hE] at hpe;subst hpe;have HQV:=hZ hq;have HEE:=hZ hE;have HPR:=hZ (sA.two hpr);clear hq hE hpr;obtain⟨F3,hat6,hfr6,hm6⟩:=HATD.o.step hstep6;have hbn6:=hm6.blk HBN.o.drew HF0.o;have hbr6:=hm6.blk HBR.o.drew HF1.o;have hf06:=hfr6 _ HBN.o.lt HF0.o;have hf16:=hfr6 _ HBR.o.lt HF1.o;clear hfr6 hstep6 hm6
      try dsimp only
      refine hK.o _ _ (hbn6.cell 0) (fun hScp8=>?_)
      try simp only[Act.put,z1,z2,z3]
      refine aE 9 ?_;refine aE 10 ?_;refine aE 11 ?_;refine aE 12 ?_;refine dY (i:=13) (h:=fun K hK=>?_)
      rw[i6 (by kernel_rfl)]
      refine bMx 51 (.tmp 68) (.tmp 66) rfl w.heap.size (1) (aA q).toArray rfl rfl (cW hbn6 (d8 13)) aU (bLu (aX _)) ?_;refine hK.o _ _ ((aNf hbn6 q).cell 0) (fun hScp13=>?_)
      try simp only[Act.put,z1,z2,z3]
      refine aE 14 ?_;refine r8 (by kernel_rfl) ?_ _
      have hset:=aNf hbn6 q;have hbr7:=hbr6.away 1 (aA q) (by omega:w.heap.size+1≠w.heap.size)
      have hat7:=hat6.put (o:=1) (vs:=aA q) (d8 _) hf06 hbn6;rcases HPR.o with⟨r,rfl,hr0⟩|⟨q',rfl,hqw⟩
      ·have hRe:=HRE.o
       rw[M.bind_err HRS.o] at hRe;obtain rfl:=HQV.o;obtain rfl:=HEE.o;have hr1:((r:Int) != 0)=true:=by simpa using hr0
       have HRE3:=hZ hRe;unfold aCx mE at*;have hst:=fun op a next Q=>mZ hbr7 rfl op a next Q
       have HB7:=hZ hbr7;have HA2:=hZ (hat7.put (o:=0) (vs:=aN nD) (bLv _) hf16 hbr7);clear hset hbr7 hat7 hat6 hbr6 hRe HQV HEE;go_wp2_with fail;refine l9 (aL rfl _ _ (w.heap.size+1) 53 _ _ rfl (HB7.o.put (vs:=aN nD) rfl) underlying53 rfl cQ) rfl ?_;rw[HRE3.o];exact⟨⟨rfl,hr0⟩,HA2.o.fin⟩
      ·have hRe:=HRE.o
       rw[M.bind_ok HRS.o] at hRe;obtain rfl:q'=q:=HQV.o;obtain rfl:E=0:=HEE.o.symm;have hln:=fun op a next Q=>aB (P:=prog) (t:=53) hset underlying53 rfl cQ op a next Q
       have hst:=fun op a next Q=>aG (P:=prog) (t:=53) (o:=0) (cs:=aN ⟨n.size,q'⟩) hbr7 (d8 13) cQ (eP _) op a next Q
       have HB7:=hZ hbr7;have HA2:=hZ (hat7.put (o:=0) (vs:=aN ⟨n.size,q'⟩) (bLv _) hf16 hbr7);have HRE3:=hZ hRe;clear hset hbr7 hat7 hat6 hbr6 hRe;go_wp2_with fail;refine l9 (aL rfl _ _ (w.heap.size+1) 53 _ _ rfl (HB7.o.put (vs:=aN ⟨n.size,q'⟩) rfl) underlying53 rfl cQ) rfl ?_;rw[HRE3.o];exact⟨⟨rfl,⟨hn.size,hqw⟩⟩,HA2.o.fin⟩
end
end
section
attribute [local go_sem ↓] bU bR eI dL rG
theorem mM (x:Int) (w:World) (i:eY x):Calls prog 169 #[x] w fun e w'=>e= .returned (.string ⟨(kM x).toArray⟩)∧bB w w':=by
 by_cases h0:x<0
 ·have e:kM x=[]:=by unfold kM;rw[i6 (.inl h0)]
  rw[e];clear e;go_in;go_wp21;go_ret;exact⟨rfl,i4 _ _⟩
 ·by_cases h1:4611686018427387903<x
  ·have e:kM x=[]:=by unfold kM;rw[i6 (.inr h1)]
   rw[e];clear e;go_in;go_wp21;go_ret;exact⟨rfl,i4 _ _⟩
  ·have e:kM x=bS 8 x.toNat:=by unfold kM;rw[i9 (fun h=>h.elim h0 h1)]
   rw[e];obtain⟨m,rfl⟩:∃m:Nat,x=m:=⟨x.toNat,by omega⟩
   have c:((m:Int)).toNat=m:=by omega
   rw[c];clear e c;go_in;go_wp21
   try rw[IntWalk.u64_in _ (by omega)]
   refine(oV m _ (by omega)).mono ?_
   rintro e w1 ⟨rfl,f⟩;go_wp21;go_ret;exact⟨rfl,f⟩
theorem rX (b:Nat) (s:Bs) (k:Nat) (w:World) (h:kO w b s k) (A:s.length≤1000000) (t:k+8≤s.length):
    Calls prog 197 #[.pointer (some b)] w fun e w'=>
      e= .returned (.tuple #[(if rM s k≤iI then rM s k else 0:Nat),(if rM s k≤iI then 0 else 3:Nat)])∧kO w' b s (if rM s k≤iI then k+8 else k)∧Mod (fun x=>x=b) w w':=by
  have D:=bKp s k t;have r:=hZ h;clear h;by_cases c:rM s k≤iI
  ·have h1:¬(4611686018427387903:Int)<(nU (dW s k 8):Nat):=by unfold rM iI at c;omega
   have h2:(nU (dW s k 8):Int)≤4611686018427387903:=by omega
   rw[i6 c,i6 c,i6 c];clear c;go_in;go_wp21;refine(rY b s k 8 w r.o (by omega) (by omega) (by omega)).mono ?_
   rintro e w1 ⟨rfl,hr,m,f⟩;have i:Mod (fun x=>x=b) w w1:=by rw[f];exact rT _ _ _ _
   clear f;go_wp21;go_ret2;exact⟨rfl,hr,i⟩
  ·have h1:(4611686018427387903:Int)<(nU (dW s k 8):Nat):=by unfold rM iI at c;omega
   rw[i9 c,i9 c,i9 c];clear c;go_in;go_wp21;refine(rY b s k 8 w r.o (by omega) (by omega) (by omega)).mono ?_
   rintro e w1 ⟨rfl,hr,m,f⟩;have i:Mod (fun x=>x=b) w w1:=by rw[f];exact rT _ _ _ _
   have E:=Blk.cell hr 1;have z1:=Blk.frozen hr 1;have l:kO (w1.setCell ⟨b,1,none⟩ (k:Nat)) b s k:=by
     have:=Blk.setCell hr 1 (k:Nat);exact this
   have p:Hid (Mod (fun x=>x=b) w (w1.setCell ⟨b,1,none⟩ (k:Nat))):=hZ (i.setCell (.inl rfl))
   have G:Hid (IntKind.i64.wrap (((k+8:Nat):Int)-8)=(k:Int)):=hZ (by rw[bLo _ (by omega)];omega)
   have H:((k+8:Nat):Int)-8=(k:Int):=by omega
   have q:=hZ l;clear f hr i l;go_wp21;go_ret2
   first
     |exact⟨rfl,q.o,p.o⟩
     |(have z:(k:Int)+8-8=(k:Int):=by omega
       rw[z];exact⟨rfl,q.o,p.o⟩)
theorem pX (b:Nat) (s:Bs) (k n:Nat) (w:World) (h:kO w b s k) (A:s.length≤1000000) (D:k+n≤s.length):
  Calls prog 195 #[.pointer (some b),n] w fun e w'=>e= .returned (.tuple #[.string ⟨(dW s k n).toArray⟩,(0:Int)])∧kO w' b s (k+n)∧Mod (fun x=>x=b) w w':=by
 have t:=hZ h;have E:=Blk.cell h 1;have z1:=Blk.frozen h 1;have h1:¬(s.length:Int)-k<n:=by omega
 have h2:¬(n:Int)<0:=by omega
 have i:kO (w.setCell ⟨b,1,none⟩ (.int .i64 ((k:Int)+n))) b s (k+n):=by
  have:=Blk.setCell h 1 (.int .i64 ((k:Int)+n));rw[show((k:Int)+n)=((k+n:Nat):Int) by omega] at this⊢
  exact this
 have p:=hZ i;clear h i;go_in;go_wp21;refine(uA b s k w t.o (by omega) (by omega)).mono ?_
 rintro e w1 ⟨rfl,nd,rfl⟩;go_upto_region 6 with fail
 obtain⟨W,f⟩:=nZ ((w.drewN nd).setCell ⟨b,1,none⟩ (.int .i64 ((k:Int)+n)));rw[←f];have c:kO W b s (k+n):=by rw[f];exact p.o.drewN
 have q:Hid (Mod (fun x=>x=b) w W):=hZ (by rw[f];exact((Mod.refl _ w).drewN nd).setCell (.inl rfl))
 have G:=fun m=>Blk.cell (c.drewN (n:=m)) 0
 have H:∀m,(W.drewN m).cell? ⟨b,1,none⟩=some (.int .i64 ((k:Int)+n)):=fun m=>by
  have:=Blk.cell (c.drewN (n:=m)) 1;rw[show((k:Int)+n)=((k+n:Nat):Int) by omega]
  exact this
 have I:IntKind.i64.wrap ((k:Int)+(n:Int)-(n:Int))=(k:Int):=by rw[bLo _ (by omega)];omega
 have z:(k:Int)+(n:Int)-(n:Int)=(k:Int):=by omega
 have e2:0≤(k:Int):=by omega
 have J:(k:Int)≤(k:Int)+(n:Int):=by omega
 have K:(k:Int)+(n:Int)≤(s.length:Int):=by omega
 have L:((k:Int)+(n:Int)).toNat=k+n:=by omega
 have r:=hZ c;have l:Hid ((⟨s.toArray⟩:ByteArray).extract k (k+n)=⟨(dW s k n).toArray⟩):=hZ (by
  rw[dM];unfold dW;congr 2;rw[List.drop_take];congr 1;omega)
 clear f c;go_quiet (fail);go_wp21;go_ret2;exact⟨by rw[l.o];rfl,r.o.drewN,q.o.drewN _⟩
def bsV (r:Except Nat Bs):Bs:=match r with| .ok s=>s| .error _=>[]
theorem tW (n:aM) (I:n.wf) (w:World):
  Calls prog 167 #[.agg (aN n).toArray] w fun e w'=>e= .returned (.tuple #[.string ⟨(bsV (eU n)).toArray⟩,.int .i64 (mE (eU n):Nat)])∧bB w w':=by
 obtain⟨h,p⟩:=nZ (w.alloc (.cells (aN n).toArray 53));have J:Blk h w.heap.size 53 (aN n):=by rw[p];exact Blk.new w _ _
 have q:Hid (bB w h):=by rw[p];exact hZ (bZ)
 have ah:=hZ J;have c0:cZ h w.heap.size 0 n.size:=J.cell 0;have O:=I.size;have Y:=hZ O;have ad:=hZ I.root;by_cases l:n.size<0∨(iI:Int)<n.size
 ·have e:eU n= .error 1:=by unfold eU;rw[i6 l]
  have A:kM n.size=[]:=by unfold kM;rw[i6 l]
  rw[e];have z:=hZ A;clear e A l J O I;go_in;go_upto_region 1 with fail
  rw[show w.alloc (.cells (aN n).toArray 53)=h from p.symm];clear p;go_wp2_with fail;refine(mM n.size h Y.o).mono ?_;rintro e w1 ⟨rfl,c⟩;rw[z.o];have al:=q.o.trans (c.mono q.o.size);go_wp2_with fail;go_ret2;exact⟨rfl,al⟩
 ·obtain⟨m,U⟩:∃m:Nat,n.size=m:=⟨n.size.toNat,by omega⟩
  have A:kM n.size=bS 8 m:=by unfold kM;rw[i9 l,U];rfl
  have z:=hZ A;have R:=fun K a next Q W (ar:Blk W w.heap.size 53 (aN n))=>dP (P:=prog) (t:=51) (oJ ar) underlying51 rfl aU K a next Q
  by_cases r:cT n.root=true
  ·have e:eU n= .ok (bS 8 m++bS 8 1++aR n.root++aP 48):=by
    unfold eU;rw[i9 l,i6 r,U];rfl
   have ab:lQ (bS 8 m++bS 8 1++aR n.root) 128=bS 8 m++bS 8 1++aR n.root++aP 48:=by
    unfold lQ;simp[iQ,bY]
   have X:(bS 8 m++bS 8 1++aR n.root).length=80:=by simp[iQ,bY]
   have ai:kM 1=bS 8 1:=rfl;rw[e];obtain⟨i,f⟩:=nZ (bS 8 m);have ae:i.isEmpty=false:=by rw[f];rfl
   have av:=hZ ae;obtain⟨D,T⟩:=nZ (aR n.root);rw[←f,←T] at ab X⊢;rw[←f] at z;have an:=hZ T;have G:=hZ r;have ao:=hZ ab;have am:=hZ X;have ap:=hZ ai;have aw:i.length=8:=by rw[f];rfl
   have ax:(bS 8 1).length=8:=rfl;have ay:D.length=64:=by rw[T];exact bY _
   have aq:Hid ((⟨i.toArray⟩:ByteArray)++⟨(bS 8 1).toArray⟩++⟨D.toArray⟩=⟨(i++bS 8 1++D).toArray⟩):=hZ (by rw[cI,cI])
   clear e A l J O I ab X ai f T r U;go_in;go_upto_region 1 with fail
   rw[show w.alloc (.cells (aN n).toArray 53)=h from p.symm];clear p;go_wp2_with fail;refine(mM n.size h Y.o).mono ?_;rintro e w1 ⟨rfl,c⟩;rw[z.o];have Z:=hZ (ah.o.below c);have E:=hZ (q.o.trans (c.mono q.o.size));have aa:=fun K a next Q=>R K a next Q w1 Z.o
   clear c R;go_wp2_with fail;refine(qJ n.root ad.o w1).mono ?_;rintro e aj ⟨rfl,H⟩;rw[i6 G.o,i6 G.o,←an.o];have L:=hZ (E.o.trans (H.mono E.o.size));clear H aa;go_wp2_with fail;refine(mM 1 aj (by unfold eY;omega)).mono ?_
   rintro e au ⟨rfl,af⟩;rw[ap.o];have ac:=hZ (L.o.trans (af.mono L.o.size));clear af;go_wp2_with fail;rw[aq.o];refine(oS (i++bS 8 1++D) 128 au (by rw[am.o];omega) (by omega) (by omega)).mono ?_
   rintro e w4 ⟨rfl,ag⟩;rw[ao.o];have ak:=hZ (ac.o.trans (ag.mono ac.o.size));clear ag;go_wp2_with fail;go_ret2;refine⟨?_,ak.o⟩
   show Ending.returned (.tuple #[.string ⟨(i++(bS 8 1++(D++aP 48))).toArray⟩,.int .i64 0])=Ending.returned (.tuple #[.string ⟨(i++bS 8 1++D++aP 48).toArray⟩,.int .i64 0])
   simp only[bMd]
  ·have e:eU n= .error 1:=by unfold eU;rw[i9 l,i9 r]
   rw[e];obtain⟨i,f⟩:=nZ (bS 8 m);have ae:i.isEmpty=false:=by rw[f];rfl
   rw[←f] at z;have G:=hZ r;clear e A l J O I f r U;go_in;go_upto_region 1 with fail
   rw[show w.alloc (.cells (aN n).toArray 53)=h from p.symm];clear p;go_wp2_with fail;refine(mM n.size h Y.o).mono ?_;rintro e w1 ⟨rfl,c⟩;rw[z.o];have Z:=hZ (ah.o.below c);have E:=hZ (q.o.trans (c.mono q.o.size));have aa:=fun K a next Q=>R K a next Q w1 Z.o
   clear c R;go_wp2_with fail;refine(qJ n.root ad.o w1).mono ?_;rintro e aj ⟨rfl,H⟩;rw[i9 G.o,i9 G.o];have L:=hZ (E.o.trans (H.mono E.o.size));clear H aa;go_wp2_with fail;go_ret2;exact⟨rfl,L.o⟩
theorem vV {p u v:Tmp} {ty:TypeId} (h:fn.results=#[.cell p ty,.tmp u,.tmp v]) (c:Array Value) (w:World) (g:Nat) (t:TypeId) (cs:List Value) (d:TypeDesc)
  (i:c.getD p undef= .pointer (some ⟨g,0,none⟩)) (l:Blk w g t cs)
  (m:P.underlying ty=some d) (hd:(match d with| .struct _| .array _ _=>true|_=>false)=true) (q:(P.info? ty).map (·.size)=some cs.length):
  (results fn c).run P w= .ok (.tuple #[.agg cs.toArray,c.getD u undef,c.getD v undef]) w:=by
 have f:c[p]?.getD undef= .pointer (some g):=by simpa using i
 simp[results,h,f,asAddr,run_loadVar_row w g t ty cs.toArray (0,0) d l m hd (by simpa using q)]
def ndB (r:Except Nat (aM×Bool)):aM×Bool:=match r with| .ok x=>x| .error _=>(nD,false)
def RdR (r:Except Nat (aM×Bool)) (e:Ending):Prop:=e= .returned (.tuple #[.agg (aN (ndB r).1).toArray,.bool (ndB r).2,.int .i64 (mE r:Nat)])
structure RdS (w:World) (g:Nat) (s:Bs) (W:World) (k:Nat):Prop where
 rd:kO W g s k
 res:Blk W w.heap.size 53 (aN nD)
 bel:Below w.heap.size w W
 ne:w.heap.size<g
theorem RdS.mod (h:RdS w g s W k) (hr:kO W' g s k') (c:Mod (fun x=>x=g) W W'):RdS w g s W' k':=
 ⟨hr,c.blk h.res (fun e=>by have:=h.ne;omega),h.bel.trans (c.toBelow (B:=w.heap.size) (fun x f=>by have:=h.ne;omega) h.bel.size),h.ne⟩
theorem RdS.below (h:RdS w g s W k) (c:bB W W'):RdS w g s W' k:=
 ⟨Blk.below h.rd c,h.res.below c,h.bel.trans (c.mono h.bel.size),h.ne⟩
theorem zL (s:Bs) (ap:s.length=128) (aq:cG s=true∨∃n,lT s= .ok (n,true)) (w:World):
  Calls prog 152 #[.string ⟨s.toArray⟩] w fun e w'=>RdR (lT s) e∧bB w w':=by
 obtain⟨l,D⟩:=nZ (w.alloc (.cells (aN nD).toArray 53));have L:Blk l w.heap.size 53 (aN nD):=by rw[D];exact Blk.new w _ _
 have U:Hid (bB w l):=by rw[D];exact hZ (bZ)
 have h1:¬(s.length:Int)<128:=by omega
 have h2:¬(128:Int)<(s.length:Int):=by omega
 obtain⟨w1,E⟩:=nZ (l.alloc (.cells #[.string ⟨s.toArray⟩,(0:Int)] 304));obtain⟨p,G⟩:∃g,g=l.heap.size:=⟨_,rfl⟩;have H:bB l w1:=by rw[E];exact bZ
 have ac:kO w1 p s 0:=by rw[E,G];exact Blk.new l _ _
 have X:Hid (RdS w p s w1 0):=hZ ⟨ac,L.below H,U.o.trans (H.mono U.o.size),by rw[G];exact L.lt⟩
 have h:=hZ ap;have e0:s.drop 0=s:=rfl;clear L H ac;go_in;go_upto_region 1 with fail
 rw[show w.alloc (.cells #[(0:Int),(0:Int),(0:Int),(0:Int),(0:Int),false,(0:Int),(0:Int),(0:Int),.int .u64 0,.int .u64 0,.int .u64 0,.int .u64 0] 53)=l from D.symm];clear D;go_wp2_with fail;refine(oI s l).mono ?_;rintro e az ⟨rfl,rfl⟩;rw[←E,←G];clear E G;go_wp2_with fail;refine(lU p s 0 w1 X.o.rd (by rw[h.o];omega) (by omega)).mono ?_
 rintro e ba ⟨rfl,nd,rfl⟩;have m:=hZ (X.o.below (dB (i4 _ _) nd));obtain⟨ar,ad⟩:=nZ (w1.drewN nd);rw[←ad] at m⊢;clear ad;rw[e0];by_cases q:cG s=true
 ·have I:=hZ (aPn q)
  rw[q];clear q;have an:=mZ m.o.res rfl;have J:=hZ (bQ (o:=0) (vs:=aN nD) m.o.bel m.o.bel.size (d8 _));go_wp2_with fail;refine l9 (vV rfl _ _ w.heap.size 53 _ _ rfl (m.o.res.put (vs:=aN nD) rfl) underlying53 rfl cQ) rfl ?_;exact⟨by rw[I.o];rfl,J.o⟩
 ·obtain⟨n,c⟩:=aq.resolve_left q
  have r:(rM s 0≤iI∧rM s 8=1)∧fD (dW s 16 64)=true∧cG (s.drop 80)=true∧lT s= .ok (⟨(rM s 0:Nat),iC (dW s 16 64)⟩,true):=by
   unfold lT at c⊢;rw[i9 q] at c⊢;by_cases h0:rM s 0≤iI∧rM s 8=1
   ·rw[i6 h0] at c⊢
    by_cases O:fD (dW s 16 64)=true
    ·rw[i6 O] at c⊢
     by_cases ht:cG (s.drop 80)=true
     ·rw[i6 ht];exact⟨h0,O,ht,rfl⟩
     ·rw[i9 ht] at c;cases c
    ·rw[i9 O] at c;cases c
   ·rw[i9 h0] at c;cases c
  have R:=hZ r.1.1;have ah:=hZ r.1.2;have T:Hid (rM s 8≤iI):=hZ (by rw[ah.o];decide)
  have ai:=hZ r.2.1;have au:=hZ r.2.2.1;have I:=hZ r.2.2.2;have aj:=hZ (hX s 16 64 (by omega))
  rw[show cG s=false by simpa using q]
  clear q r c;go_wp2_with fail;refine(rX p s 0 ar m.o.rd (by rw[h.o];omega) (by rw[h.o];omega)).mono ?_
  rintro e av ⟨rfl,f,i⟩;rw[i6 R.o] at f;rw[i6 R.o,i6 R.o];have Y:=hZ (m.o.mod f i);clear f i;go_wp2_with fail;refine(rX p s 8 av Y.o.rd (by rw[h.o];omega) (by rw[h.o];omega)).mono ?_
  rintro e w4 ⟨rfl,f,i⟩;rw[i6 T.o] at f;rw[i6 T.o,i6 T.o];have Z:=hZ (Y.o.mod f i);clear f i;rw[ah.o];go_wp2_with fail;refine(pX p s 16 64 w4 Z.o.rd (by rw[h.o];omega) (by rw[h.o];omega)).mono ?_
  rintro e aw ⟨rfl,f,i⟩;have ak:=hZ (Z.o.mod f i);clear f i;go_wp2_with fail;refine(yY (dW s 16 64) aw aj.o).mono ?_;rintro e z ⟨rfl,ae⟩;rw[i6 ai.o,i6 ai.o];have al:=hZ (ak.o.below ae);have ao:=eX (iC (dW s 16 64)) z;have af:Below z.heap.size z (z.alloc (.cells (aA (iC (dW s 16 64))).toArray 51)):=bZ;have aa:=hZ (al.o.below af);have am:=hZ (Blk.new z 51 (aA (iC (dW s 16 64))));clear ae af;go_wp2_with fail;refine(lU p s 80 _ aa.o.rd (by rw[h.o];omega) (by rw[h.o];omega)).mono ?_
  rintro e w8 ⟨rfl,K,rfl⟩;rw[au.o];have A:=hZ (aa.o.below (dB (i4 _ _) K));have ab:=hZ (am.o.drewN (n:=K));obtain⟨bb,ag⟩:=nZ ((z.alloc (.cells (aA (iC (dW s 16 64))).toArray 51)).drewN K);rw[←ag] at A ab⊢;clear ag ao;have ax:=aB ab.o underlying51 rfl aU;have ay:=aRb ((rM s 0:Nat):Int) (iC (dW s 16 64));have an:=aG (t:=53) (o:=0) (cs:=aN ⟨(rM s 0:Nat),iC (dW s 16 64)⟩) A.o.res (d8 13) cQ (eP _);have J:=hZ (bQ (o:=0) (vs:=aN ⟨(rM s 0:Nat),iC (dW s 16 64)⟩) A.o.bel A.o.bel.size (d8 _));go_wp2_with fail;refine l9 (vV rfl _ _ w.heap.size 53 _ _ rfl (A.o.res.put (vs:=aN ⟨(rM s 0:Nat),iC (dW s 16 64)⟩) rfl) underlying53 rfl cQ) rfl ?_;exact⟨by rw[I.o];rfl,J.o⟩
end
section
def WrB (w:World) (wb:Nat) (out:Bs):Prop:=Blk w wb 277 [.string ⟨out.toArray⟩,.int .i64 0]
theorem bAy (l:List Nat):(l.flatMap (bS 8)).length=8*l.length:=by
 induction l with
 |nil=>rfl
 |cons a r c=>rw[bMb,i7,c,aH,bLn];omega
theorem bFl (x:Nat):bS 8 x≠[]:=fun e=>by have:=aH 8 x;rw[e] at this;cases this
theorem aQs (wb:Nat) (out:Bs) (l:List Nat) (ao:Option Addr) (cap:Nat) (w:World) (hw:WrB w wb out) (ho:out.length≤100000) (h:RSl w 1 ao l.length cap (lO l)) (hl:l.length≤100) (hx:∀x∈l,x≤iI) (hne:∀a,ao=some a→a.block≠wb):
  Calls prog 164 #[.pointer (some wb),.slice ao l.length cap] w fun e w'=>e= .returned (.tuple #[])∧WrB w' wb (out++l.flatMap (bS 8))∧Mod (fun g=>g=wb) w w':=by
 have H:=hZ h;have HX:=hZ hx;have HW:=hZ hw;have HNE:=hZ hne;clear h hx hw hne;go_in;go_wp2_with fail;go_loopw [9] (fun i wr=>∃k:Nat,k≤l.length∧i= .int .i64 k∧Hid (WrB wr wb (out++(l.take k).flatMap (bS 8)))∧Hid (Mod (fun g=>g=wb) w wr)) (fun i _=>l.length-(intOf i).toNat)
 case atStart=>exact⟨0,by omega,rfl,by rw[List.take_zero,List.flatMap_nil,bMv];exact HW,hZ (Mod.refl _ _)⟩
 case round=>
  obtain⟨k,hk,rfl,HK,HM⟩:=hrel;by_cases hkl:k<l.length
  ·obtain⟨b,off,hao,hlt,hc⟩:=H.o.2.2.2.2 (by omega)
   have c0:=hc k (by omega)
   have hx:(lO l)[k]?=some (l[k]:Nat):=by simp[lO,hkl]
   rw[hx] at c0;have c:wr.cell? ⟨b,off+k*1,none⟩=some (l[k]:Nat):=by
    rw[bNi (w:=w) (HM.o.block b hlt (HNE.o ⟨b,off,none⟩ hao))]
    first|exact c0|(rw[Nat.mul_one];exact c0)
   rw[Nat.mul_one] at c;have htk:(l.take (k+1)).flatMap (bS 8)=(l.take k).flatMap (bS 8)++bS 8 l[k]:=by
    rw[m8 hkl,bNn];simp
   have HTK:=hZ htk;have hle:=HX.o l[k] (n5 hkl);obtain⟨x,hxe⟩:=nZ (l[k]);rw[←hxe] at c HTK hle;have hb:¬9223372036854775807<(out++(l.take k).flatMap (bS 8)).length+(bS 8 x).length:=by
    rw[i7,bAy,aH,z7];omega
   have e8:kM (x:Int)=bS 8 x:=by
    unfold kM;rw[i9 (by omega)]
    rfl
   have hI:eY (x:Int):=by unfold eY;unfold iI at hle;omega
   have hn:=bFl x;clear hxe htk hx hc c0;subst hao;generalize hout:out++(l.take k).flatMap (bS 8)=o at*;have HO:=hZ hout;clear hout;have HLE:=hZ (mM (x:Int) wr hI);rw[e8] at HLE;have qs:(bS 8 x).isEmpty=false:=by cases h9:bS 8 x with
    |nil=>exact absurd h9 hn
    |cons a r=>rfl
   clear hn e8 hI;go_wp2_with fail;refine HLE.o.mono ?_;rintro e w1 ⟨rfl,hb1⟩;have hk1:=HK.o.below hb1;have d0:=hk1.cell 0;have f0:=Blk.frozen hk1 0;have HK2:Hid (WrB (w1.setCell wb (.string ⟨(o++bS 8 x).toArray⟩)) wb (o++bS 8 x)):=hZ (hk1.setCell 0 _);have HM2:Hid (Mod (fun g=>g=wb) w (w1.setCell wb (.string ⟨(o++bS 8 x).toArray⟩))):=hZ ((HM.o.trans' hb1).setCell (.inl rfl))
   clear hk1 hb1 HLE;go_wp2_with fail;go_roundw
   case rel=>
    refine⟨k+1,by omega,by go_num,?_,?_⟩
    ·rw[HTK.o,←bMd,HO.o]
     first|exact HK2|(rw[cI];exact HK2)
    ·first|exact HM2|(rw[cI];exact HM2)
   case measure=>simp[intOf];omega
  ·obtain rfl:k=l.length:=by omega
   go_wp2_with fail;go_end0;refine⟨rfl,?_,HM.o⟩;have:=HK.o;rw[bLz] at this;exact this
attribute [local go_sem ↓] eI dL
theorem aWs (c:Nat) (out:Bs) (n:aM) (G:n.wf) (f:Bs) (h:eU n= .ok f) (w:World) (D:WrB w c out) (O:out.length≤100000):
  Calls prog 163 #[.pointer (some c),.agg (aN n).toArray] w fun e w'=>e= .returned (.tuple #[])∧WrB w' c (out++f)∧Mod (fun g=>g=c) w w':=by
 have r:=Blk.new w 53 (aN n);have l:bB w (w.alloc (.cells (aN n).toArray 53)):=bZ;obtain⟨H,p⟩:=nZ (w.alloc (.cells (aN n).toArray 53));rw[←p] at r l;have E:=fun I a next Q=>aB (P:=prog) r underlying53 rfl cQ I a next Q
 have m:=hZ l;have J:=hZ D;have K:=hZ h;have R:=mJ h;have t:=hZ (tW n G H);rw[h] at t;have L:¬9223372036854775807<out.length+f.length:=by omega
 clear r l D h;go_in;go_upto_region 1 with fail
 rw[←p];clear p;go_wp21;refine t.o.mono ?_;rintro e w1 ⟨rfl,q⟩;have i:WrB w1 c out:=(J.o.below m.o).below q;have T:cZ w1 c 0 (.string ⟨out.toArray⟩):=i.cell 0;have U:=Blk.frozen i 0;have z:Hid (WrB (w1.setCell c (.string ⟨(out++f).toArray⟩)) c (out++f)):=hZ (i.setCell 0 _);have A:Hid (Mod (fun g=>g=c) w (w1.setCell c (.string ⟨(out++f).toArray⟩))):=hZ ((Mod.below (m.o.trans (q.mono m.o.size))).setCell (.inl rfl))
 clear i q E t;unfold bsV mE;go_wp21;go_end0;refine⟨rfl,?_,?_⟩
 ·first|exact z.o|(rw[cI];exact z.o)
 ·first|exact A.o|(rw[cI];exact A.o)
theorem yW (w:World):
  Calls prog 98 #[.agg yH] w fun e w'=>e= .returned (.slice (some ⟨w.heap.size+1,0,none⟩) 9 9)∧Blk w' (w.heap.size+1) 3 (lO (List.replicate 9 0))∧bB w w':=by
 have l:=Blk.new w 59 zH;have h:bB w (w.alloc (.cells yH 59)):=bZ;obtain⟨i,f⟩:=nZ (w.alloc (.cells yH 59));have m:Hid (i.heap.size=w.heap.size+1):=hZ (by rw[f];simp)
 have c:Blk i w.heap.size 59 zH:=by rw[f];exact l
 rw[←f] at h;have c0:=c.cell 0;have q:=c.cell 1;have c2:=c.cell 2;have c3:=c.cell 3;have r:=c.cell 4;have t:=c.cell 5;have z:=c.cell 6;have A:=c.cell 7;have D:=c.cell 8;have p:=hZ h;clear l c h;go_in;go_upto_region 1 with fail
 rw[←f];clear f;go_wp21;go_ret;rw[←m.o];exact⟨rfl,Blk.new i _ _,p.o.alloc (by rw[m.o];omega) _⟩
end
section
attribute [local go_sem ↓] eI dL
def bF (sv:Value):List Value:=[.int .i64 0,.int .i64 0,.int .i64 0,.int .i64 0,.int .i64 0,.bool false,.int .i64 0,.int .i64 0,.int .i64 0,.int .u64 0,.int .u64 0,.int .u64 0,.int .u64 0,.slice none 0 0,.int .i64 0,.int .i64 0,.int .i64 0,.int .i64 0,.int .i64 0,.int .i64 0,.int .i64 0,.int .i64 0,.int .i64 0,sv]
theorem aQk:eU nD= .ok nb0:=by
 rcases aJt (n:=nD) with⟨s,h,_⟩|⟨_,h⟩
 ·unfold nb0;rw[h]
 ·exact absurd ⟨by decide,by decide,aIs.1⟩ h
theorem aKw:nb0.length=128:=mJ aQk
theorem bKe:(List.replicate 9 0).flatMap (bS 8)=aP 72:=by decide
def nI (st:List (Nat×Nat)):Bs:=st.flatMap fun r=>bS 8 r.1++bS 8 r.2
theorem aSh (st:List (Nat×Nat)):bW st=nb0++[0].flatMap (bS 8)++(List.replicate 9 0).flatMap (bS 8)++[st.length].flatMap (bS 8)++nI st:=by
 unfold bW nI;rw[bKe];simp
theorem aVm (st:List (Nat×Nat)):(nI st).length=16*st.length:=by
 unfold nI
 induction st with
 |nil=>rfl
 |cons a r c=>rw[bMb,i7,c,i7,aH,aH,bLn];omega
theorem aTr (st:List (Nat×Nat)) (h:k<st.length):nI (st.take (k+1))=nI (st.take k)++[(st.getD k (0,0)).1,(st.getD k (0,0)).2].flatMap (bS 8):=by
 unfold nI;rw[m8 h,bNn];simp[a8,h]
theorem bEg {l:List Nat} (h:Blk w g 3 (lO l)) (f:l.length≤1000):RSl w 1 (some g) l.length l.length (lO l):=by
 have c:=bI (gQ (base:=0) (n:=l.length) (cap:=l.length) (size:=1) h (z6 _) (d8 _) (by unfold maxLen;omega) (by simp[lO]))
 rw[bLq (by simp[lO])] at c
 exact c
theorem aSc (ao:Option Addr) (cap:Nat) (st:List (Nat×Nat)) (w:World) (h:RSl w 2 ao st.length cap (bG st)) (hl:st.length≤40) (hb:∀r∈st,r.1≤iI∧r.2≤iI):
  Calls prog 104 #[.agg (bF (.slice ao st.length cap)).toArray] w fun e w'=>e= .returned (.tuple #[.string ⟨(bW st).toArray⟩,.int .i64 0])∧bB w w':=by
 obtain⟨n,hn⟩:=nZ st.length;rw[←hn] at h hl⊢;obtain⟨b0,h0⟩:=nZ nb0;have HOK:Hid (eU nD= .ok b0):=hZ (by rw[h0];exact aQk)
 have HBL:Hid (b0.length=128):=hZ (by rw[h0];exact aKw)
 have HSB:Hid (bW st=b0++[0].flatMap (bS 8)++(List.replicate 9 0).flatMap (bS 8)++[st.length].flatMap (bS 8)++nI st):=hZ (by rw[h0];exact aSh st)
 clear h0;have hb0:=Blk.new w 62 (bF (.slice ao n cap));have hbel:bB w (w.alloc (.cells (bF (.slice ao n cap)).toArray 62)):=bZ;obtain⟨w0,hw0⟩:=nZ (w.alloc (.cells (bF (.slice ao n cap)).toArray 62));rw[←hw0] at hb0 hbel;have hs0:w0.heap.size=w.heap.size+1:=by rw[hw0];simp
 obtain⟨w1,hw1⟩:=nZ (w0.alloc (.cells #[.string ⟨#[]⟩,.int .i64 0] 277));obtain⟨wb,hwb⟩:=nZ (w.heap.size+1);have hW1:WrB w1 wb []:=by rw[hw1,hwb,←hs0];exact Blk.new w0 _ _
 have hb1:bB w w1:=by rw[hw1];exact hbel.alloc (by omega) _
 have hk1:Blk w1 w.heap.size 62 (bF (.slice ao n cap)):=by rw[hw1];exact hb0.alloc _
 have hwl:w.heap.size<wb:=by omega
 have HN:=hZ hn;have H:=hZ h;have HB:=hZ hb;have hgo:∀W,Mod (fun g=>g=wb) w1 W→Blk W w.heap.size 62 (bF (.slice ao n cap))∧bB w W:=fun W hW=>⟨hW.blk hk1 (by omega),hb1.trans (hW.toBelow (fun k hk=>by omega) hb1.size)⟩
 have HGO:=hZ hgo;have HW1:=hZ hW1;have hld:=fun op a next Q=>eO (P:=prog) (t:=53) (o:=0) (cs:=aN nD) hk1 rfl underlying53 rfl cQ op a next Q
 have HWN:=hZ (aWs wb [] nD ⟨by unfold eY nD;decide,aIs.2⟩ b0 HOK.o w1 hW1 (by simp))
 clear h hb hgo hb0 hbel hk1 hb1 hW1 hn;go_in;have HCN:Hid (∀(W:World) (out:Bs) (l:List Nat) (g:Nat),Mod (fun g=>g=wb) w1 W→WrB W wb out→out.length≤100000→Blk W g 3 (lO l)→g≠wb→l.length≤100→(∀x∈l,x≤iI)→Calls prog 164 #[.pointer (some wb),.slice (some g) l.length l.length] W fun e w'=>e= .returned (.tuple #[])∧WrB w' wb (out++l.flatMap (bS 8))∧Mod (fun g=>g=wb) w1 w'):=hZ (fun W out l g hW hO ho hg hne hl hx=>by
  refine(aQs wb out l (some g) l.length W hO ho (bEg hg (by omega)) hl hx (fun a e=>by cases e;exact hne)).mono ?_
  rintro e w' ⟨h1,h2,h3⟩;exact⟨h1,h2,hW.self h3⟩)
 go_upto_region 1 with fail
 rw[←hw0];go_upto_region 2 with fail
 rw[←hw0,←hw1,←hwb];clear hw0 hw1 hs0 hwb;go_wp2_with fail;refine HWN.o.mono ?_;rintro e w2 ⟨rfl,hW2,hM2⟩;rw[bMt] at hW2;obtain⟨k2,b2⟩:=HGO.o w2 hM2;have c13:cZ w2 w.heap.size 13 (.slice none 0 0):=k2.cell 13;have hwb2:wb<w2.heap.size:=hW2.lt;obtain⟨w3,hw3⟩:=nZ (w2.alloc (.cells #[.int .i64 0] 3));have HC1:=hZ (HCN.o w3 b0 [0] w2.heap.size (by rw[hw3];exact hM2.alloc _) (by rw[hw3];exact hW2.alloc _) (by rw[HBL.o];omega) (by rw[hw3];exact Blk.new w2 _ _) (by omega) (by simp) (by simp))
 clear hW2 hM2 k2 b2 HWN hld;go_wp2_with fail;rw[←hw3];clear hw3;refine HC1.o.mono ?_;rintro e w4 ⟨rfl,hW4,hM4⟩;have HW4:=hZ hW4;have HM4:=hZ hM4;have HK4:=hZ (HGO.o w4 hM4);clear hW4 hM4 HC1 c13 hwb2;have c13:cZ w4 w.heap.size 13 (.slice none 0 0):=HK4.o.1.cell 13;go_wp2_with fail;go_loopw [24] (fun vi wr=>vi= .int .i64 0∧wr=w4) (fun _ _=>0)
 case atStart=>exact⟨rfl,rfl⟩
 case round=>
  obtain⟨rfl,rfl⟩:=hrel;have c14:cZ wr w.heap.size 14 (.int .i64 0):=HK4.o.1.cell 14;have c15:cZ wr w.heap.size 15 (.int .i64 0):=HK4.o.1.cell 15;have c16:cZ wr w.heap.size 16 (.int .i64 0):=HK4.o.1.cell 16;have c17:cZ wr w.heap.size 17 (.int .i64 0):=HK4.o.1.cell 17;have c18:cZ wr w.heap.size 18 (.int .i64 0):=HK4.o.1.cell 18;have c19:cZ wr w.heap.size 19 (.int .i64 0):=HK4.o.1.cell 19;have c20:cZ wr w.heap.size 20 (.int .i64 0):=HK4.o.1.cell 20;have c21:cZ wr w.heap.size 21 (.int .i64 0):=HK4.o.1.cell 21;have c22:cZ wr w.heap.size 22 (.int .i64 0):=HK4.o.1.cell 22;go_wp2_with fail;refine(yW wr).mono ?_;rintro e w5 ⟨rfl,hb5,hbel5⟩;have hM5:=HM4.o.trans' hbel5;have HC2:=hZ (HCN.o w5 (b0++[0].flatMap (bS 8)) (List.replicate 9 0) (wr.heap.size+1) hM5 (HW4.o.below hbel5) (by simp[HBL.o,aH]) hb5 (by have:=HW4.o.lt;omega) (by simp) (by simp))
  clear hb5 hbel5 hM5 c13 c14 c15 c16 c17 c18 c19 c20 c21 c22;go_wp2_with fail;refine HC2.o.mono ?_;rintro e w6 ⟨rfl,hW6,hM6⟩;obtain⟨o6,ho6⟩:=nZ (b0++[0].flatMap (bS 8)++(List.replicate 9 0).flatMap (bS 8));have HO6:=hZ ho6;have hl6:o6.length≤1000:=by rw[ho6];simp[HBL.o,aH]
  rw[←ho6] at hW6;have HK6:=hZ (HGO.o w6 hM6);have c23:cZ w6 w.heap.size 23 (.slice ao n cap):=HK6.o.1.cell 23;have hwb6:=hW6.lt;obtain⟨w7,hw7⟩:=nZ (w6.alloc (.cells #[(n:Nat)] 3));have HC3:=hZ (HCN.o w7 o6 [n] w6.heap.size (by rw[hw7];exact hM6.alloc _) (by rw[hw7];exact hW6.alloc _) (by omega) (by rw[hw7];exact Blk.new w6 _ _) (by omega) (by simp) (by intro x hx;simp at hx;unfold iI;omega))
  clear hW6 hM6 HC2 HW4 HM4 HK4 hwb6 ho6;go_wp2_with fail;rw[←hw7];clear hw7;refine HC3.o.mono ?_;rintro e w8 ⟨rfl,hW8,hM8⟩;obtain⟨o8,ho8⟩:=nZ (o6++[n].flatMap (bS 8));have HO8:=hZ ho8;have hl8:o8.length≤2000:=by rw[ho8];simp[aH];omega
  rw[←ho8] at hW8;have HW8:=hZ hW8;have HM8:=hZ hM8;have HK8:=hZ (HGO.o w8 hM8);clear hW8 hM8 HC3 c23 HK6 ho8;have c23:cZ w8 w.heap.size 23 (.slice ao n cap):=HK8.o.1.cell 23;go_wp2_with fail;go_loopw [54] (fun vi wr=>∃k:Nat,k≤n∧vi= .int .i64 (k:Nat)∧Hid (WrB wr wb (o8++nI (st.take k)))∧Hid (Mod (fun g=>g=wb) w1 wr)) (fun vi _=>n-(intOf vi).toNat)
  case atStart=>exact⟨0,by omega,rfl,by rw[List.take_zero];show Hid (WrB w8 wb (o8++[]));rw[bMv];exact HW8,HM8⟩
  case round=>
   obtain⟨k,hk,rfl,HWk,HMk⟩:=hrel;by_cases hkn:k<n
   ·have hks:k<st.length:=by rw[←HN.o];exact hkn
    have hbel:=(HGO.o _ HMk.o).2;obtain⟨b,off,hao,hlt,hc⟩:=(RSl.below H.o hbel).2.2.2.2 (by omega)
    obtain⟨r1,r2⟩:=eW st k hks;have c0:=hc (k*2) (by omega)
    have c1:=hc (k*2+1) (by omega)
    rw[r1] at c0;rw[r2] at c1;obtain⟨x,hx⟩:=nZ ((st.getD k (0,0)).1);obtain⟨y,hy⟩:=nZ ((st.getD k (0,0)).2);have HPN:Hid (nI (st.take (k+1))=nI (st.take k)++[x,y].flatMap (bS 8)):=hZ (by rw[hx,hy];exact aTr st hks)
    have hxy:x≤iI∧y≤iI:=by
     rw[hx,hy];refine HB.o _ ?_;rw[a8,b9 hks];exact n5 _
    rw[←hx] at c0;rw[←hy] at c1;have HXY:=hZ hxy;have hpl:(nI (st.take k)).length≤1000:=by rw[aVm,z7];omega
    have q0:0≤(k:Int):=by omega
    have q1:(k:Int)<(n:Int):=by omega
    clear hx hy hxy r1 r2 hc hbel;subst hao;have hwbk:=HWk.o.lt;rw[←bMc] at c1;go_upto_region 15 with fail
    obtain⟨wx,hwx⟩:=nZ (wr.alloc (.cells #[(x:Nat),(y:Nat)] 69));have hbx:Blk wx wr.heap.size 69 [(x:Nat),(y:Nat)]:=by rw[hwx];exact Blk.new wr _ _
    have hsx:wx.heap.size=wr.heap.size+1:=by rw[hwx];simp
    have hmx:Mod (fun g=>g=wb) w1 wx:=by rw[hwx];exact HMk.o.alloc _
    have hkx:WrB wx wb (o8++nI (st.take k)):=by rw[hwx];exact HWk.o.alloc _
    rw[←hwx];clear hwx;have d0:=hbx.cell 0;have d1:=hbx.cell 1;obtain⟨wy,hwy⟩:=nZ (wx.alloc (.cells #[(x:Nat),(y:Nat)] 3));have HC4:=hZ (HCN.o wy (o8++nI (st.take k)) [x,y] wx.heap.size (by rw[hwy];exact hmx.alloc _) (by rw[hwy];exact hkx.alloc _) (by rw[i7];omega) (by rw[hwy];exact Blk.new wx _ _) (by omega) (by simp) (by intro z hz;have:=HXY.o;simp at hz;rcases hz with rfl|rfl<;>omega))
    clear hbx hsx hmx hkx c0 c1;go_wp2_with fail;rw[←hwy];clear hwy;refine HC4.o.mono ?_;rintro e w9 ⟨rfl,hW9,hM9⟩;rw[bMd,←HPN.o] at hW9;have HW9:=hZ hW9;have HM9:=hZ hM9;clear hW9 hM9 HC4;go_wp2_with fail;go_roundw
    case rel=>exact⟨k+1,by omega,by go_num,HW9,HM9⟩
    case measure=>simp[intOf];omega
   ·obtain rfl:k=n:=by omega
    have hks:k=st.length:=HN.o;have hwk:=HWk.o;rw[hks,bLz] at hwk;have he1:cZ wr wb 1 (.int .i64 0):=hwk.cell 1;have he0:cZ wr wb 0 (.string ⟨(o8++nI st).toArray⟩):=hwk.cell 0;have HBE:=hZ (HGO.o _ HMk.o).2;have HEQ:Hid (bW st=o8++nI st):=hZ (by rw[HSB.o,←hks,HO8.o,HO6.o])
    clear hks hwk;go_wp2_with fail;go_ret2;rw[HEQ.o];exact⟨rfl,HBE.o⟩
end
section
attribute [local go_sem ↓] Go.wp_at_zero Go.wp_at_succ
theorem aSw:(prog.info? 69).map (fun i=>(i.zero,i.size,i.bytes))=some (some (.agg yF),2,16):=by kernel_rfl
theorem aBw (c:Option Addr) (n cap:Nat) (cs:List Value) (w:World) (h:RSl w 2 c n cap cs) (h1:∀u∈cs,u.oneCell'=true) (H:n≤1000000000):
  Calls prog 48 #[.slice c n cap] w fun e w'=>∃v,e= .returned v∧w'.ownsRow w.heap.size 69 2 v n cs∧bB w w':=by
 obtain⟨z,A,p,q,r⟩:=bMo aSw;have l:=fun(W:World)=>Lib.run_eql_slice_nil (P:=prog) W 60 69 c n cap 0 0 underlying60
 cases c with
 |none=>
  have D:=h.2.2.2.1 rfl;have E:n=0:=by have:=h.2.1;omega
  subst E;subst D;have t:=bLs (by have:=h.1;simpa using this)
  subst t;simp only[Option.isNone_none] at l;go_in;go_wp21;go_ret;exact⟨_,rfl,bMa _ _ _ _,i4 _ _⟩
 |some G=>
  simp only[Option.isNone_some] at l;have f:=World.ownsRow_made (base:=w.heap.size) (e:=69) (size:=2) w #[] 0 (d8 _) (by unfold maxLen;omega) rfl
  go_in;go_wp2_with (at_builtin;refine bNe _ rfl (.tmp 5) (.tmp 6) 60 rfl w.heap.size 69 z (.agg yF) 2 16 underlying60 A p q r rfl (by decide) (.slice (some ⟨w.heap.size,0,none⟩) 0 0) 0 [] rfl f G n cap cs rfl (by rw[h.1]) (RSl.news (h.below ((i4 _ _).alloc (d8 _) (.cells #[] 69)))) h1 (by unfold maxLen;omega) (by omega) (by simp) ?_;intro v1 w1 i m _;simp only[r9,bMt] at i)
  go_ret;exact⟨_,rfl,i,cF (bZ) f m (by simp) (d8 _)⟩
theorem aCg (w:World):Calls prog 86 #[.slice none 0 0] w fun e w'=>e= .returned (.slice none 0 0)∧bB w w':=by
 have c:=fun(W:World)=>Lib.run_eql_slice_nil (P:=prog) W 57 119 none 0 0 0 0 underlying57
 simp only[Option.isNone_none] at c;go_in;go_wp21;go_ret;exact⟨rfl,i4 _ _⟩
end
section
theorem sG:(prog.info? 62).map (·.size)=some 24:=by kernel_rfl
theorem nT {x:Operand} {ty:TypeId} {pos:String}:
  Oper.wp prog ⟨dst,.load 62 x,ty,pos,after,guard⟩ a w next Q=lY prog ⟨dst,.load 62 x,ty,pos,after,guard⟩ 62 (a.eval x) a w next Q:=rfl
theorem kX {x:Operand} {ty:TypeId} {pos:String}:
  Oper.wp prog ⟨dst,.store 62 x y,ty,pos,after,guard⟩ a w next Q=cS prog ⟨dst,.store 62 x y,ty,pos,after,guard⟩ 62 (a.eval x) (a.eval y) a w next Q:=rfl
theorem aFn (h:v.oneCell'=true):∀u∈bF v,u.oneCell'=true:=by
 intro u c;simp only[bF,s8,bLp,bNo] at c;rcases c with rfl|rfl|rfl|rfl|rfl|rfl|rfl|rfl|rfl|rfl|rfl|rfl|rfl|rfl|rfl|rfl|rfl|rfl|rfl|rfl|rfl|rfl|rfl|rfl<;>first|rfl|exact h
theorem aDp (h:Blk w g 62 zs) (f:zs.length=24) (i:v.oneCell'=true) (c:Oper) (a:Act) (next:Act→World→Prop) (Q:Exit→Act→World→Prop):cS prog c 62 (.pointer (some g)) (.agg (bF v).toArray) a w next Q=next (a.put c.dst undef) (w.setCells g 0 (bF v)):=
 aG (P:=prog) (t:=62) (o:=0) (cs:=bF v) h (by rw[f];exact d8 24) sG (aFn i) c a next Q
attribute [local go_sem ↓] nT kX
theorem aVz (f:Option Addr) (n cap:Nat) (cs:List Value) (w:World) (h:RSl w 2 f n cap cs) (h1:∀u∈cs,u.oneCell'=true) (an:n≤1000000000):
  Calls prog 43 #[.agg (bF (.slice f n cap)).toArray] w fun e w'=>∃v,e= .returned (.agg (bF v).toArray)∧w'.ownsRow w.heap.size 69 2 v n cs∧bB w w':=by
 obtain⟨p,G⟩:=nZ ((w.alloc (.cells (bF (.slice f n cap)).toArray 62)).alloc (.cells (bF (.slice none 0 0)).toArray 62));have T:bB w p:=by rw[G];exact(bZ).alloc (by simp) _
 have U:Blk p w.heap.size 62 (bF (.slice f n cap)):=by rw[G];exact(Blk.new w _ _).alloc _
 have X:Blk p (w.heap.size+1) 62 (bF (.slice none 0 0)):=by rw[G];exact Blk.newAt _ _ (by simp)
 have af:p.heap.size=w.heap.size+2:=by rw[G];simp
 obtain⟨c,H⟩:∃g,g=w.heap.size:=⟨_,rfl⟩;obtain⟨gR,I⟩:∃g,g=w.heap.size+1:=⟨_,rfl⟩;rw[←H] at U;rw[←I] at X;have ab:Hid (c=w.heap.size∧gR=w.heap.size+1∧p.heap.size=w.heap.size+2):=hZ ⟨H,I,af⟩;have J:=(i4 p.heap.size p).drew;have r:Hid (bB w p.drew∧Blk p.drew c 62 (bF (.slice f n cap))∧Blk p.drew gR 62 (bF (.slice none 0 0))):=hZ ⟨T.trans (J.mono T.size),U.below J,X.below J⟩;have az:=hZ h;have ba:=hZ h1;have bb:=hZ an;clear h h1 an T U X af J;go_in;go_upto_region 1 with fail
 rw[show(w.alloc (.cells (bF (.slice f n cap)).toArray 62)).alloc (.cells yB 62)=p from G.symm,←I,←H];clear G I H;have bj:=r.o.2.1.cell 23;have Y:=r.o.2.1.cell 13;refine l7 (S:=fun w'=>w'.cell? ⟨c,13,none⟩=some (.slice none 0 0)) (by kernel_rfl) Y (fun Y=>?_)
 refine aE 0 ?_;refine aE 1 ?_ (hy:=by intro w ag;(try dsimp only at ag);go_simp;first|with_reducible rfl|(rw[ag];rfl))
 refine aE 3 ?_;refine vB [2,4] ?_;refine rc (fun K l=>?_) (rc (fun K l=>?_) rn)
 case' _=>
  go_simp;refine(aCg _).mono ?_;rintro e w1 ⟨rfl,m⟩;have ah:Hid (w.heap.size+2≤w1.heap.size):=hZ (by have D:=m.size;have:=ab.o.2.2;simp only[World.drew] at D;omega)
  have t:Hid (bB w w1∧Blk w1 c 62 (bF (.slice f n cap))∧Blk w1 gR 62 (bF (.slice none 0 0))):=hZ ⟨r.o.1.trans (m.mono r.o.1.size),r.o.2.1.below m,r.o.2.2.below m⟩;have ao:w1.cell? ⟨c,23,none⟩=some (.slice f n cap):=t.o.2.1.cell 23;clear m;refine l.o _ _ (t.o.2.1.cell 13) (fun bc=>?_)
  try simp only[Act.put,z1,z2,z3]
  refine dY (i:=4) (h:=fun K l=>?_)
  go_simp
  skip
 rotate_left
 case' _=>
  go_simp
  skip
  refine l.o _ _ (Y) (fun bd=>?_)
  try simp only[Act.put,z1,z2,z3]
  refine dY (i:=2) (h:=fun K l=>?_)
  go_simp;refine(aCg _).mono ?_;rintro e w1 ⟨rfl,m⟩;have ah:Hid (w.heap.size+2≤w1.heap.size):=hZ (by have D:=m.size;have:=ab.o.2.2;simp only[World.drew] at D;omega)
  have t:Hid (bB w w1∧Blk w1 c 62 (bF (.slice f n cap))∧Blk w1 gR 62 (bF (.slice none 0 0))):=hZ ⟨r.o.1.trans (m.mono r.o.1.size),r.o.2.1.below m,r.o.2.2.below m⟩;have ao:w1.cell? ⟨c,23,none⟩=some (.slice f n cap):=t.o.2.1.cell 23;clear m
 all_goals
  refine l.o _ _ (t.o.2.1.cell 13) (fun be=>?_)
  try simp only[Act.put,z1,z2,z3]
  refine aE 6 ?_;refine dY (i:=5) (h:=fun K l=>?_)
  go_simp;refine(aBw f n cap cs _ (az.o.below t.o.1) ba.o bb.o).mono ?_;rintro e q ⟨v,rfl,Z,L⟩;obtain⟨z,A,rfl⟩:=aY Z;have E:Hid (bB w q∧Blk q c 62 (bF (.slice f n cap))∧Blk q gR 62 (bF (.slice none 0 0))):=hZ ⟨t.o.1.trans (L.mono t.o.1.size),t.o.2.1.below L,t.o.2.2.below L⟩;have ai:Hid (q.ownsRow w1.heap.size 69 2 (.slice z n A) n cs):=hZ Z;have ap:q.cell? ⟨c,13,none⟩=some (.slice none 0 0):=E.o.2.1.cell 13;have aq:=Blk.frozen E.o.2.1 13;clear L Z;refine l.o _ _ (E.o.2.1.cell 13) (fun bf=>?_)
  try simp only[Act.put,z1,z2,z3]
  refine dY (i:=7) (h:=fun K l=>?_)
  go_simp;have R:Hid (Blk (q.setCell ⟨c,13,none⟩ (.slice none 0 0)) c 62 (bF (.slice f n cap))):=hZ (by have D:=E.o.2.1.setCell 13 (.slice none 0 0);simpa[bF] using D)
  have ar:(q.setCell ⟨c,13,none⟩ (.slice none 0 0)).cell? ⟨c,23,none⟩=some (.slice f n cap):=R.o.cell 23;have au:=Blk.frozen R.o 23;refine l.o _ _ (R.o.cell 13) (fun bh=>?_)
  try simp only[Act.put,z1,z2,z3]
  refine aE 8 ?_;refine dY (i:=9) (h:=fun K l=>?_)
  go_simp;have ac:Hid (Blk ((q.setCell ⟨c,13,none⟩ (.slice none 0 0)).setCell ⟨c,23,none⟩ (.slice z n A)) c 62 (bF (.slice z n A))):=hZ (by have D:=R.o.setCell 23 (.slice z n A);simpa[bF] using D)
  refine l.o _ _ (ac.o.cell 13) (fun bi=>?_)
  try simp only[Act.put,z1,z2,z3]
  refine r8 (by kernel_rfl) ?_ _
  obtain⟨w4,aa⟩:=nZ ((q.setCell ⟨c,13,none⟩ (.slice none 0 0)).setCell ⟨c,23,none⟩ (.slice z n A));have O:Mod (fun x=>x=c) q w4:=by rw[aa];exact Mod.setCell (F:=fun x=>x=c) (Mod.setCell (F:=fun x=>x=c) (Mod.refl _ q) (.inl rfl)) (.inl rfl)
  rw[←aa] at ac⊢;have av:=ab.o;have aw:=ah.o;have aj:Hid (bB w w4):=hZ (E.o.1.trans (O.toBelow (B:=w.heap.size) (fun x bo=>by omega) E.o.1.size))
  have ak:=hZ (O.blk E.o.2.2 (by omega))
  have al:=hZ (dH O ai.o (fun g ad=>by have:=(ai.o.lt g ad).1;omega))
  have am:Mod (fun x=>x=gR) w4 (w4.setCells gR 0 (bF (.slice z n A))):=Mod.grown (aJ gR _ w4 0) rfl
  have ax:=hZ (qT (b':=w.heap.size) (dH am al.o (fun g ad=>by have:=(al.o.lt g ad).1;omega)) (by omega))
  have ay:=hZ (bQ (o:=0) (g:=gR) (vs:=bF (.slice z n A)) aj.o aj.o.size (by omega))
  clear aa O am av aw ap aq ar au;have bm:=fun ae a next Q=>aB (P:=prog) ac.o underlying62 rfl sG ae a next Q
  have bn:=fun ae a next Q=>aDp ak.o rfl (v:= .slice z n A) rfl ae a next Q
  go_wp2_with fail;refine l9 (iU rfl _ _ gR 62 _ _ rfl (ak.o.put (vs:=bF (.slice z n A)) rfl) underlying62 rfl sG) rfl ?_;exact⟨_,rfl,ax.o,ay.o⟩
end
def lP (gs:Gs):Bs:=gs.flatMap (fun g=>bS 4 g.1.toNat++bS 4 g.2.toNat)
theorem aEh (gs:Gs):(lP gs).length=8*gs.length:=by
 unfold lP
 induction gs with
 |nil=>rfl
 |cons a r c=>rw[bMb,i7,c,i7,aH,aH,bLn];omega
theorem aOj (gs:Gs) (h:k<gs.length):lP (gs.take (k+1))=lP (gs.take k)++(bS 4 (gs.getD k (0,0)).1.toNat++bS 4 (gs.getD k (0,0)).2.toNat):=by
 unfold lP;rw[m8 h,bNn];simp[a8,h]
theorem tZ (a b:Bs):(⟨a.toArray⟩:ByteArray)++⟨b.toArray⟩=⟨(a++b).toArray⟩:=cI a b
theorem aEa (gb i n gc:Nat) (gs:Gs) (secs:Int) (w:World) (h:oZ w (some ⟨gb,i,none⟩) n gc gs) (hr:bH gs secs=true):
  Calls prog 171 #[.agg #[.slice (some ⟨gb,i,none⟩) n gc,secs]] w fun e w'=>e= .returned (.string ⟨(fM gs secs).toArray⟩)∧bB w w':=by
 have K:=h.len;have ak:=aS hr;have bf:n≤4∧1≤n:=by omega
 obtain⟨L,l⟩:=nZ (w.alloc (.cells #[.slice (some ⟨gb,i,none⟩) n gc,secs] 24));have E:bB w L:=by rw[l];exact bZ
 have m:Blk L w.heap.size 24 [.slice (some ⟨gb,i,none⟩) n gc,secs]:=by rw[l];exact Blk.new w _ _
 have c0:=m.cell 0;have ba:=m.cell 1;have Z:=hZ E;have al:=hZ m;have O:=hZ (gX (some ⟨gb,i,none⟩) n gc gs secs L (h.below E));rw[hr] at O;have bb:=hZ h;have ai:=hZ K;have am:=hZ hr;obtain⟨sz,an⟩:∃sz:Nat,secs=(sz:Nat):=⟨secs.toNat,by omega⟩
 have be:sz≤4096:=by omega
 have ao:Hid (secs.toNat=sz):=hZ (by omega)
 subst an;have ap:Hid (fM gs (sz:Nat)=(bS 4 n++bS 4 sz)++lP gs):=hZ (by unfold fM lP;rw[i6 hr,K,ao.o])
 have aa:=hZ (fun W=>oE n W (by omega))
 have ab:=hZ (fun W=>oE sz W (by omega))
 clear h K ak E m hr;go_in;go_upto_region 1 with fail
 rw[←l];clear l;go_wp2_with fail;refine O.o.mono ?_;rintro e w1 ⟨rfl,G⟩;have p:=hZ (al.o.below G);have H:=hZ (Z.o.trans (G.mono Z.o.size));clear G c0 ba O;go_upto_region 3 with fail
 have r0:=fun(q:BW w1)=>q.cell (p.o.cell 0)
 have r1:=fun(q:BW w1)=>q.cell (p.o.cell 1)
 have ac:¬9223372036854775807<(bS 4 n).length+(bS 4 sz).length:=by rw[aH,aH];omega
 refine iW (by kernel_rfl) (by kernel_rfl) ?_
 repeat (go_big_quiet_step (fail))
 go_big_quiet_step (refine Calls.bw_of (aa.o _))
 repeat (go_big_quiet_step (fail))
 go_big_quiet_step (refine Calls.bw_of (ab.o _))
 repeat (go_big_quiet_step (fail))
 refine wpQuiet_nil ?_;rintro _ ⟨q,rfl⟩;rw[tZ];obtain⟨f,r⟩:=nZ (bS 4 n++bS 4 sz);have aq:=hZ r;have bh:f.length=8:=by rw[r,i7,aH,aH]
 rw[←r];have ad:=hZ (H.o.trans (q.bel.mono H.o.size));have ae:=hZ (p.o.below q.bel);obtain⟨bn,af⟩:=nZ q.w;rw[←af] at ad ae⊢;clear af r r0 r1 ac aa ab H p;have c0:=ae.o.cell 0;go_wp2_with fail;go_loopw [3,20] (fun vs R wr=>∃k:Nat,k≤n∧R= .int .i64 (k:Nat)∧vs= .string ⟨(f++lP (gs.take k)).toArray⟩∧Hid (bB w wr)) (fun _ R _=>n-(intOf R).toNat)
 case atStart=>exact⟨0,by omega,rfl,by rw[List.take_zero];show Value.string ⟨f.toArray⟩= .string ⟨(f++[]).toArray⟩;rw[bMv],ad⟩
 case round=>
  obtain⟨k,bo,rfl,rfl,t⟩:=hrel;have bi:(lP (gs.take k)).length≤100:=by rw[aEh,z7];omega
  by_cases ar:k<n
  ·have I:k<gs.length:=by rw[ai.o];exact ar
   obtain⟨b,bj,e,bq,T⟩:=(RSl.below bb.o t.o).2.2.2.2 (by omega)
   simp only[i5,bNl,and_true] at e;obtain⟨rfl,rfl⟩:=e;obtain⟨r1,r2⟩:=xU gs k I;have U:=T (k*2) (by omega)
   have X:=T (k*2+1) (by omega)
   rw[r1] at U;rw[r2,←bMc] at X;have au:=bM am.o I;obtain⟨x,Y⟩:∃x:Nat,(gs.getD k (0,0)).1=(x:Nat):=⟨(gs.getD k (0,0)).1.toNat,by omega⟩
   obtain⟨y,hy⟩:∃y:Nat,(gs.getD k (0,0)).2=(y:Nat):=⟨(gs.getD k (0,0)).2.toNat,by omega⟩
   have av:Hid (lP (gs.take (k+1))=lP (gs.take k)++(bS 4 x++bS 4 y)):=hZ (by rw[aOj gs I,Y,hy];rfl)
   rw[Y] at U;rw[hy] at X;have c:x≤8∧y≤8:=by omega
   have aw:=hZ (fun W=>oE x W (by omega))
   have ax:=hZ (fun W=>oE y W (by omega))
   have br:0≤(k:Int):=by omega
   have bs:(k:Int)<(n:Int):=by omega
   clear Y hy r1 r2 T au c;go_upto_region 7 with fail
   obtain⟨D,z⟩:=nZ (wr.alloc (.cells #[(x:Nat),(y:Nat)] 73));have J:Blk D wr.heap.size 73 [(x:Nat),(y:Nat)]:=by rw[z];exact Blk.new wr _ _
   have ag:Hid (bB w D):=hZ (by rw[z];exact t.o.alloc t.o.size _)
   rw[←z];clear z U X;have r0:=fun(q:BW D)=>q.cell (J.cell 0)
   have r1:=fun(q:BW D)=>q.cell (J.cell 1)
   clear J;have ac:¬9223372036854775807<(bS 4 x).length+(bS 4 y).length:=by rw[aH,aH];omega
   refine iW (by kernel_rfl) (by kernel_rfl) ?_
   repeat (go_big_quiet_step (fail))
   go_big_quiet_step (refine Calls.bw_of (aw.o _))
   repeat (go_big_quiet_step (fail))
   go_big_quiet_step (refine Calls.bw_of (ax.o _));obtain⟨bc,A⟩:=nZ (f++lP (gs.take k));obtain⟨bd,c⟩:=nZ (bS 4 x++bS 4 y);have bm:¬9223372036854775807<bc.length+bd.length:=by rw[A,c];simp only[i7,aH];omega
   repeat (go_big_quiet_step (fail))
   rw[tZ (bS 4 x) (bS 4 y),←c,←A];have ay:=hZ A;have az:=hZ c;clear A c
   repeat (go_big_quiet_step (fail))
   refine wpQuiet_nil ?_;rintro _ ⟨q,rfl⟩;go_wp2_with fail;go_roundw
   case rel=>
    refine⟨k+1,by omega,by go_num,?_,hZ (ag.o.trans (q.bel.mono ag.o.size))⟩
    rw[av.o,←bMd,tZ,ay.o,az.o]
   case measure=>simp[intOf];omega
  ·obtain rfl:k=n:=by omega
   have ah:=ai.o.symm;rw[ah,bLz];have aj:Hid (fM gs (sz:Nat)=f++lP gs):=hZ (by rw[ap.o,aq.o])
   clear ah;go_wp2_with fail;go_ret;rw[aj.o];exact⟨rfl,t.o⟩
section
attribute [local go_sem ↓] eI dL
def bP (txg:Nat) (n:aM):List Value:= .int .i64 (txg:Nat)::aN n
theorem aUy (t:Bs):(dG t).1<rN∧(dG t).2.1<rN∧(dG t).2.2.1<rN∧(dG t).2.2.2<rN:=by
 have f:0<rN:=by unfold rN;omega
 have h:∀(l:List Nat) (a b c d:Nat),a<rN→b<rN→c<rN→d<rN→(nO l (a,b,c,d)).1<rN∧(nO l (a,b,c,d)).2.1<rN∧(nO l (a,b,c,d)).2.2.1<rN∧(nO l (a,b,c,d)).2.2.2<rN:=by
  intro l
  induction l with
  |nil=>intro a b c d h1 h2 i m;exact⟨h1,h2,i,m⟩
  |cons x r p=>intro a b c d _ _ _ _;exact p _ _ _ _ (bNd _ f) (bNd _ f) (bNd _ f) (bNd _ f)
 exact h _ 0 0 0 0 f f f f
theorem oC (x:Nat×Nat×Nat×Nat):(gM x).length=32:=by unfold gM;simp[aH]
theorem aKy (t:Bs) (W:World):Calls prog 170 #[.agg (gE (dG t)).toArray] W fun e w'=>e= .returned (.string ⟨(gM (dG t)).toArray⟩)∧bB W w':=by
 obtain⟨h1,h2,c,f⟩:=aUy t;unfold rN at h1 h2 c f;exact yR _ _ _ _ W h1 h2 c f
theorem aGp (gs:Gs) (secs:Int):(fM gs secs).length≤40:=by
 unfold fM;split
 ·rename_i h
  have:=(aS h).2.1;have c:=aEh gs;unfold lP at c;rw[i7,i7,aH,aH,c];omega
 ·simp
theorem aBa (gs:Gs) (secs:Int) (txg:Nat) (c:Bs) (h:c.length=128) (ht:txg≤4294967295):(fS gs secs txg c).length=224:=by
 have e:(kM (txg:Int)).length=8:=by
  unfold kM iI;rw[i9 (by omega),aH]
 unfold fS;simp only[i7,e,oC,h];simp[nB,aP]
theorem aSx (gb f n gc:Nat) (gs:Gs) (secs:Int) (w:World) (h:oZ w (some ⟨gb,f,none⟩) n gc gs) (hr:bH gs secs=true) (txg:Nat) (h1:1≤txg) (h2:txg≤4294967295) (nd:aM) (ca:nd.wf) (c:Bs) (Y:eU nd= .ok c):
  Calls prog 107 #[.agg #[.slice (some ⟨gb,f,none⟩) n gc,secs],.agg (bP txg nd).toArray] w fun e w'=>e= .returned (.tuple #[.string ⟨(fS gs secs txg c++gM (dG (fS gs secs txg c))).toArray⟩,.int .i64 0])∧bB w w':=by
 obtain⟨X,z⟩:=nZ ((w.alloc (.cells #[.slice (some ⟨gb,f,none⟩) n gc,secs] 24)).alloc (.cells (bP txg nd).toArray 55));have ag:bB w X:=by rw[z];exact(bZ).alloc (by simp) _
 have ah:Blk X w.heap.size 24 [.slice (some ⟨gb,f,none⟩) n gc,secs]:=by rw[z];exact(Blk.new w _ _).alloc _
 have Z:Blk X (w.heap.size+1) 55 (bP txg nd):=by rw[z];exact Blk.newAt _ _ (by simp)
 have bh:=fun cb a next Q=>eO (P:=prog) (t:=53) (o:=1) (cs:=aN nd) Z rfl underlying53 rfl cQ cb a next Q
 have ai:=hZ ag;have bi:=hZ ah;have bj:=hZ Z;have ad:=hZ (tW nd ca X);rw[Y] at ad;have av:=hZ h;have aw:=hZ hr;have aj:=mJ Y;have ck:¬(txg:Int)<1:=by omega
 have cl:¬(4294967295:Int)<(txg:Int):=by omega
 have ae:=hZ (show 1≤txg∧txg≤4294967295 from⟨h1,h2⟩);clear h ag ah Z hr Y h1 h2;go_in;go_upto_region 1 with fail
 rw[←z];clear z;go_wp2_with fail;refine ad.o.mono ?_;rintro e w1 ⟨rfl,E⟩;have aa:=hZ (ai.o.trans (E.mono ai.o.size));have ab:=hZ (bi.o.below E);have bm:=hZ (bj.o.below E);clear E bh ad;have c0:=ab.o.cell 0;have cc:=ab.o.cell 1;unfold bsV mE;go_wp2_with fail;refine(gX (some ⟨gb,f,none⟩) n gc gs secs w1 (RSl.below av.o aa.o)).mono ?_;rintro e A ⟨rfl,G⟩;rw[aw.o];have H:=hZ (aa.o.trans (G.mono aa.o.size));have ak:=hZ (ab.o.below G);have bn:=hZ (bm.o.below G);clear G c0 cc;have ax:A.cell? ⟨w.heap.size+1,0,none⟩=some (txg:Nat):=bn.o.cell 0;go_upto_region 4 with fail
 obtain⟨i,I⟩:=nZ (kM (txg:Int));have bo:i.length=8:=by
  rw[I];have:=ae.o;unfold kM iI;rw[i9 (by omega),aH]
 obtain⟨l,J⟩:=nZ (fM gs secs);have ch:l.length≤40:=by rw[J];exact aGp gs secs
 have ay:Hid (∀W,Calls prog 169 #[(txg:Nat)] W fun e w'=>e= .returned (.string ⟨i.toArray⟩)∧bB W w'):=hZ (fun W=>by rw[I];exact mM _ W (by have:=ae.o;unfold eY;omega))
 have al:Hid (∀q:BW A,Calls prog 171 #[.agg #[.slice (some ⟨gb,f,none⟩) n gc,secs]] q.w fun e w'=>e= .returned (.string ⟨l.toArray⟩)∧bB q.w w'):=hZ (fun q=>by rw[J];exact aEa gb f n gc gs secs q.w (RSl.below av.o (H.o.trans (q.bel.mono H.o.size))) aw.o)
 obtain⟨m,K⟩:=nZ (gM (dG l));have bq:m.length=32:=by rw[K];exact oC _
 have am:=hZ (fun W=>uN l (by omega) W)
 have an:Hid (∀W,Calls prog 170 #[.agg (gE (dG l)).toArray] W fun e w'=>e= .returned (.string ⟨m.toArray⟩)∧bB W w'):=hZ (fun W=>by rw[K];exact aKy l W)
 obtain⟨p,L⟩:=nZ (nB++i);obtain⟨r,O⟩:=nZ (p++m);obtain⟨D,R⟩:=nZ (r++c);have br:p.length=16:=by rw[L,i7,bo];rfl
 have bs:r.length=48:=by rw[O,i7,br,bq]
 have bt:D.length=176:=by rw[R,i7,bs,aj]
 obtain⟨hd,T⟩:=nZ (fS gs secs txg c);have az:lQ D 224=hd:=by
  unfold lQ;rw[bt,T];unfold fS;rw[R,O,L,I,K,J]
 have ci:hd.length=224:=by rw[T];exact aBa gs secs txg c aj ae.o.2
 have ao:Hid (∀W,Calls prog 168 #[.string ⟨D.toArray⟩,.int .i64 224] W fun e w'=>e= .returned (.string ⟨hd.toArray⟩)∧bB W w'):=hZ (fun W=>by rw[←az];exact oS D 224 W (by omega) (by omega) (by omega))
 have ba:(⟨#[112,111,108,100,101,114,48,49]⟩:ByteArray)++⟨i.toArray⟩=⟨p.toArray⟩:=by rw[L];exact tZ nB i
 have bb:(⟨p.toArray⟩:ByteArray)++⟨m.toArray⟩=⟨r.toArray⟩:=by rw[O];exact tZ p m
 have bc:(⟨r.toArray⟩:ByteArray)++⟨c.toArray⟩=⟨D.toArray⟩:=by rw[R];exact tZ r c
 have bd:=hZ ba;have be:=hZ bb;have bf:=hZ bc;have cd:¬9223372036854775807<8+i.length:=by omega
 have b2:¬9223372036854775807<p.length+m.length:=by omega
 have ce:¬9223372036854775807<r.length+c.length:=by omega
 have bu:=hZ T;have r0:=fun(q:BW A)=>q.cell ax
 have g0:=fun(q:BW A)=>q.cell (ak.o.cell 0)
 have cf:=fun(q:BW A)=>q.cell (ak.o.cell 1)
 clear I J K L O R T az ba bb bc ax;refine iW (by kernel_rfl) (by kernel_rfl) ?_
 repeat (go_big_quiet_step (fail))
 go_big_quiet_step (refine Calls.bw_of (ay.o _))
 repeat (go_big_quiet_step (fail))
 rw[bd.o];go_big_quiet_step (refine Calls.bw_of (al.o _));go_big_quiet_step (refine Calls.bw_of (am.o _));go_big_quiet_step (refine Calls.bw_of (an.o _));go_big_quiet_step (fail);rw[be.o]
 repeat (go_big_quiet_step (fail))
 rw[bf.o];go_big_quiet_step (refine Calls.bw_of (ao.o _))
 repeat (go_big_quiet_step (fail))
 refine wpQuiet_nil ?_;rintro _ ⟨q,rfl⟩;have ac:=hZ (H.o.trans (q.bel.mono H.o.size));obtain⟨cg,ap⟩:=nZ q.w;rw[←ap] at ac⊢;clear ap r0 g0 cf cd b2 ce ay al am an ao bd be bf;obtain⟨af,U⟩:=nZ (gM (dG hd));have cj:af.length=32:=by rw[U];exact oC _
 have bv:=hZ (fun W=>uN hd (by omega) W)
 have bw:Hid (∀W,Calls prog 170 #[.agg (gE (dG hd)).toArray] W fun e w'=>e= .returned (.string ⟨af.toArray⟩)∧bB W w'):=hZ (fun W=>by rw[U];exact aKy hd W)
 have bx:=hZ U;have cm:¬9223372036854775807<hd.length+af.length:=by omega
 clear U;go_wp2_with fail;refine(bv.o cg).mono ?_;rintro e w4 ⟨rfl,aq⟩;have ar:=hZ (ac.o.trans (aq.mono ac.o.size));clear aq;go_wp2_with fail;refine(bw.o w4).mono ?_;rintro e cn ⟨rfl,au⟩;have bz:=hZ (ar.o.trans (au.mono ar.o.size));clear au;go_wp2_with fail;go_ret2;rw[←bu.o,←bx.o,tZ];exact⟨rfl,bz.o⟩
end
section
def uSt (x:aK) (slot:Nat) (s:Bs) (d i:Nat):aK:=(fU x (tR slot s d++(List.range i).map fun i=>((d,slot+i,false,0),dW s (64*i) 64)) []).2
theorem aJw (q:bJ×Bs):∀(l:List (bJ×Bs)) (x:aK) (f:List Nat),(fU x (l++[q]) f).2=(eZ (fU x l f).2 q.1 q.2).2
 |[],x,f=>rfl
 |(c,s)::r,x,f=>aJw q r _ _
theorem bBp (x:aK) (slot:Nat) (s:Bs) (d:Nat):uSt x slot s d 4=uSt x slot s (d+1) 0:=by
 unfold uSt;rw[show(List.range 0)=[] from rfl,List.map_nil,bMv];rfl
theorem bCi (x:aK) (slot:Nat) (s:Bs) (d i:Nat):uSt x slot s d (i+1)=(eZ (uSt x slot s d i) (d,slot+i,false,0) (dW s (64*i) 64)).2:=by
 unfold uSt;rw[bMk,bNa,←bMd];exact aJw _ _ _ _
theorem bFh (x:aK) (slot:Nat) (s:Bs):uSt x slot s x.ds.length 0=uWr x slot s:=by
 unfold uSt uWr;rw[show(List.range 0)=[] from rfl,List.map_nil,bMv]
theorem kP:(prog.info? 55).map (·.size)=some 14:=by kernel_rfl
theorem nY {x:Operand} {ty:TypeId} {pos:String}:
  Oper.wp prog ⟨dst,.load 55 x,ty,pos,after,guard⟩ a w next Q=lY prog ⟨dst,.load 55 x,ty,pos,after,guard⟩ 55 (a.eval x) a w next Q:=rfl
theorem aXq (txg:Nat) (W:World):Calls prog 109 #[(txg:Nat)] W fun e w'=>e= .returned (.int .i64 ((txg%4*4:Nat):Int))∧bB W w':=by
 have c:(txg:Int).tmod 4=((txg%4:Nat):Int):=by rw[Int.tmod_eq_emod_of_nonneg (by omega)];omega
 have f:IntKind.i64.wrap (((txg%4:Nat):Int)*4)=((txg%4*4:Nat):Int):=by rw[bLo _ (by omega)];omega
 go_in;go_wp21;go_ret;exact⟨by first|rfl|(simp only[c,bLo _ (by omega),f]),i4 _ _⟩
attribute [local go_sem ↓] cB nY
theorem oR (i:bB w w') (h:w.cell? ⟨g,j,none⟩=some v):w'.cell? ⟨g,j,none⟩=some v:=by
 have f:g<w.heap.size:=by
  have h2:=h;unfold World.cell? at h2
  cases c:w.heap[g]? with
  |none=>rw[c] at h2;cases h2
  |some o=>exact(i8.1 c).1
 rw[bNi (w:=w) (i.block g f)];exact h
structure UwS (gx gu bl n lc:Nat) (txg:Nat) (d db:Nat) (w:World):Prop where
 c2:w.cell? ⟨gx,2,none⟩=some (.slice (some ⟨bl,0,none⟩) n lc)
 ld:w.cell? ⟨bl,d,none⟩=some (.pointer (some ⟨db,0,none⟩))
 tx:w.cell? ⟨gu,0,none⟩=some (.int .i64 (txg:Nat))
theorem UwS.below (h:UwS gx gu bl n lc txg d db w) (c:bB w w'):UwS gx gu bl n lc txg d db w':=⟨oR c h.c2,oR c h.ld,oR c h.tx⟩
theorem bBn (hr:x.right=true) (r:∀i,i<x.ds.length→x.here i=true∧(x.ds.getD i eN).fuse= -1) (A:V.l= .slice (some ⟨bl,0,none⟩) x.ds.length lc) {y:aK} {K f:Nat} (hy:bV W y V Fy) (k:dT x y) (I:y.deep K) (T:K+1≤1000000000) (hd:d<x.ds.length) (U:((f:Nat):Int)<x.secs) (J:s.length=64):
  ∃db,W.cell? ⟨bl,d,none⟩=some (.pointer (some ⟨db,0,none⟩))∧∀W',bB W W'→Calls prog 108 #[.pointer (some ⟨db,0,none⟩),.int .i64 (f:Nat),.string ⟨s.toArray⟩] W' fun e w'=>e= .returned (.int .i64 0)∧gO (eZ y (d,f,false,0) s).2 V Fy W w'∧w'.cell? ⟨bl,d,none⟩=some (.pointer (some ⟨db,0,none⟩)):=by
 have Y:=k.n;obtain⟨dbs,Fd,m,hF⟩:=hy;obtain⟨b2,X,p,t⟩:=m.lcell (by omega)
 rw[A] at p;simp only[bMm,i5,bNl] at p;obtain⟨⟨rfl,_⟩,_,_⟩:=p;have h:d<y.ds.length:=by omega
 refine⟨_,t d h,fun W' q=>?_⟩
 have G:=k.calm (fun i=>by
  by_cases L:i<x.ds.length
  ·exact .inl (r i L).2
  ·exact .inr (by omega))
 have D:y.here d=true:=by rw[k.here];exact(r d hd).1
 have H:f<(y.ds.getD d eN).med.length:=by
  have:=(bL (k.right hr)).2.2.2 d h;rw[k.secs] at this;omega
 have E:=aVd (c:=(d,f,false,0)) (s:=s) G h D H J;have O:eZ y (d,f,false,0) s=(decide (((y.ds.getD d eN).writeE (f:Nat) s).1=0),y.set d ((y.ds.getD d eN).writeE (f:Nat) s).2):=by unfold eZ;rw[i6 D];rfl
 rw[O] at E⊢;refine(aGd ((m.dev d h).below q) ((f:Nat):Int) s (by omega) (fun _=>by rw[s7];have:=I d f;omega)).mono ?_
 rintro e w' ⟨rfl,z⟩;rw[of_decide_eq_true E];exact⟨rfl,m.step hF h (fP.early q z),(fP.mod z).cell (fun R=>(m.dg d _ h R).2.1 (by rw[A];rfl)) (oR q (t d h))⟩
structure UwI (x:aK) (V:kE) (F:Nat→Prop) (w wr:World) (Fk:Nat→Prop) (y:aK) (K gx gu:Nat) (box ub:List Value):Prop where
 at_:kQ y V F w wr Fk
 kp:dT x y
 dp:y.deep K
 bx:Blk wr gx 43 box
 fx:¬Fk gx
 bu:Blk wr gu 55 ub
 fu:¬Fk gu
theorem UwI.below {y:aK} {K:Nat} (h:UwI x V F w wr Fk y K gx gu box ub) (c:bB wr w'):UwI x V F w w' Fk y K gx gu box ub:=
 ⟨h.at_.below c,h.kp,h.dp,h.bx.below c,h.fx,h.bu.below c,h.fu⟩
theorem UwI.put {y:aK} {K:Nat} {c:bJ} (h:UwI x V F w wr Fk y K gx gu box ub) (q:gO (eZ y c s).2 V Fk wr w') (r:c.1<x.ds.length):∃f,UwI x V F w w' f (eZ y c s).2 (K+1) gx gu box ub:=by
 obtain⟨f,p,i,m⟩:=h.at_.step q;have l:c.1<y.ds.length:=by rw[h.kp.n];exact r
 exact⟨f,p,h.kp.trans (lG y c s l),aAk h.dp c s l,m.blk h.bx h.fx,i gx h.bx.lt h.fx,m.blk h.bu h.fu,i gu h.bu.lt h.fu⟩
theorem aQo (h:bV w x V F) (hr:x.right=true) (cb:0<x.ds.length) (ab:∀i,i<x.ds.length→x.here i=true∧(x.ds.getD i eN).fuse= -1) (txg:Nat) (h1:1≤txg) (h2:txg≤4294967295) (nd:aM) (ba:nd.wf) (q:Bs) (ac:eU nd= .ok q) (p:Nat) (z:x.deep p) (dl:p+5000≤1000000000) (dh:16≤x.secs):
  Calls prog 52 #[V.val x.secs,.agg (bP txg nd).toArray] w fun e w'=>e= .returned (.tuple yF)∧gO (uWr x (txg%4*4) (fS x.gs x.secs txg q++gM (dG (fS x.gs x.secs txg q)))) V F w w':=by
 have G:=hZ h;have bb:0<x.gs.length:=by
  have:=(bL hr).2.1
  cases cw:x.gs with
  |nil=>rw[cw] at this;have e:cK []=0:=rfl;omega
  |cons a b=>simp
 obtain⟨di,dm,A,hF⟩:=h;obtain⟨bl,lc,ao,_⟩:=A.lcell cb;obtain⟨gb,gc,ap⟩:=bT A.grp bb;obtain⟨l,wc,aq⟩:=aY A.awy;rw[A.n2] at aq;have bc:oZ w (some gb) x.gs.length gc x.gs:=by have m:=bI (by rw[←ap];exact A.grp);exact m
 clear A hF;obtain⟨Y,r⟩:=nZ ((w.alloc (.cells #[.slice (some gb) x.gs.length gc,x.secs,.slice (some bl) x.ds.length lc,.slice l x.ds.length wc] 43)).alloc (.cells (bP txg nd).toArray 55));have ad:Hid (bB w Y):=hZ (by rw[r];exact(bZ).alloc (by simp) _)
 have O:Blk Y w.heap.size 43 [.slice (some gb) x.gs.length gc,x.secs,.slice (some bl) x.ds.length lc,.slice l x.ds.length wc]:=by rw[r];exact(Blk.new w _ _).alloc _
 have ae:Blk Y (w.heap.size+1) 55 (bP txg nd):=by rw[r];exact Blk.newAt _ _ (by simp)
 have L:V.val x.secs= .agg #[.slice (some gb) x.gs.length gc,x.secs,.slice (some bl) x.ds.length lc,.slice l x.ds.length wc]:=by unfold kE.val;rw[ap,ao,aq]
 have bd:Hid (∀W,bB w W→Calls prog 59 #[.agg #[.slice (some gb) x.gs.length gc,x.secs,.slice (some bl) x.ds.length lc,.slice l x.ds.length wc]] W fun e w'=>e= .returned (.bool true)∧bB W w'):=hZ (fun W ar=>by rw[←L];exact fL (G.o.below ar) hr)
 have af:=hZ (fun W (ar:Below w.heap.size w W)=>aSx gb 0 x.gs.length gc x.gs x.secs W (RSl.below bc ar) (bL hr).1 txg h1 h2 nd ba q ac)
 have be:(fS x.gs x.secs txg q++gM (dG (fS x.gs x.secs txg q))).length=256:=by rw[i7,aBa _ _ _ _ (mJ ac) h2,oC]
 obtain⟨s,cc⟩:=nZ (fS x.gs x.secs txg q++gM (dG (fS x.gs x.secs txg q)));rw[←cc] at af be⊢;obtain⟨f,aa⟩:=nZ (txg%4*4);have df:f≤12:=by omega
 have cj:Hid (∀W,Calls prog 109 #[(txg:Nat)] W fun e w'=>e= .returned (.int .i64 ((f:Nat):Int))∧bB W w'):=hZ (fun W=>by rw[aa];exact aXq txg W)
 rw[←aa];have bf:Hid (∀(W:World) (y:aK) (d:Nat) (Fy:Nat→Prop),bV W y V Fy→dT x y→d<x.ds.length→Calls prog 103 #[.agg #[.slice (some gb) x.gs.length gc,x.secs,.slice (some bl) x.ds.length lc,.slice l x.ds.length wc],(d:Nat)] W (rZ W (.bool true))):=hZ (fun W y d Fy hy k hd=>by
  have m:=qS hy (k.right hr) d (by rw[k.n];exact hd)
  rw[k.here,(ab d hd).1,k.secs,L] at m;exact m)
 have bh:Hid (∀(W:World) (y:aK) (d i au:Nat) (Fy:Nat→Prop),bV W y V Fy→dT x y→y.deep au→au+1≤1000000000→d<x.ds.length→i<4→∃db,W.cell? ⟨bl,d,none⟩=some (.pointer (some ⟨db,0,none⟩))∧∀W',Below W.heap.size W W'→Calls prog 108 #[.pointer (some ⟨db,0,none⟩),.int .i64 ((f+i:Nat):Int),.string ⟨(dW s (64*i) 64).toArray⟩] W' fun e w'=>e= .returned (.int .i64 0)∧gO (eZ y (d,f+i,false,0) (dW s (64*i) 64)).2 V Fy W w'∧w'.cell? ⟨bl,d,none⟩=some (.pointer (some ⟨db,0,none⟩))):=hZ (fun W y d i au Fy hy k cx ck hd cy=>bBn hr ab ao hy k cx ck hd (by omega) (hX _ _ _ (by omega)))
 have ay:=hZ (bFh x f s);rw[L];obtain⟨n,E⟩:=nZ x.ds.length;obtain⟨H,ag⟩:=nZ x.gs.length;obtain⟨secs,ah⟩:=nZ x.secs;obtain⟨gx,R⟩:=nZ w.heap.size;obtain⟨gu,T⟩:=nZ (w.heap.size+1);rw[←E,←ag,←ah] at r O bd bf⊢;rw[←ag,←ah] at af;rw[←E] at ay cb bh;rw[←R] at O;rw[←T] at ae;have bi:Hid (gx=w.heap.size∧gu=w.heap.size+1):=hZ ⟨R,T⟩;have ai:=hZ O;have bj:=hZ ae;have cl:=hZ z;have dj:n≤1000:=by rw[E];exact G.o.gslen
 have cm:Hid (x.ds.length=n):=hZ E.symm;have dq:(⟨s.toArray⟩:ByteArray).size=256:=by show s.toArray.size=_;simp[be]
 clear hr ab L ap ao aq E ag ah O ae z cc aa ba ac h1 h2 bc bb;go_enter func52,ntmps52;go_upto_region 1 with fail
 rw[←r,←T,←R];clear r R T;have cg:=fun I a next Q=>aB (P:=prog) bj.o underlying55 rfl kP I a next Q
 have c0:=ai.o.cell 0;have cz:=ai.o.cell 1;go_wp21;refine(af.o Y ad.o).mono ?_;rintro e w1 ⟨rfl,U⟩;have aj:=hZ (ad.o.trans (U.mono ad.o.size));have az:=hZ (ai.o.below U);have ch:=hZ (bj.o.below U);clear U cg c0 cz;have ak:=fun I a next Q=>aB (P:=prog) az.o underlying43 rfl dC I a next Q
 go_wp21;refine(bd.o w1 aj.o).mono ?_;rintro e da ⟨rfl,X⟩;have bm:Hid (UwI x V F w da F (uSt x f s 0 0) (p+(4*0+0)) gx gu [.slice (some ⟨gb,0,none⟩) H gc,.int .i64 secs,.slice (some ⟨bl,0,none⟩) n lc,.slice l n wc] (bP txg nd)):=hZ ⟨(kQ.start G.o).below (aj.o.trans (X.mono aj.o.size)),dT.refl x,cl.o,az.o.below X,fun av=>by have:=G.o.lt gx av;have:=bi.o;omega,ch.o.below X,fun av=>by have:=G.o.lt gu av;have:=bi.o;omega⟩
 have c2:=bm.o.bx.cell 2;clear X ak;go_wp21;clear c2;go_loopw [8,29] (fun dc aw wr=>dc= .int .i64 0∧∃(d:Nat) (Fk:Nat→Prop),aw= .int .i64 d∧d≤n∧Hid (UwI x V F w wr Fk (uSt x f s d 0) (p+(4*d+0)) gx gu [.slice (some ⟨gb,0,none⟩) H gc,.int .i64 secs,.slice (some ⟨bl,0,none⟩) n lc,.slice l n wc] (bP txg nd))) (fun _ aw _=>n-(intOf aw).toNat)
 case atStart=>exact⟨rfl,0,F,rfl,z6 _,bm⟩
 case round=>
  obtain⟨rfl,d,Fk,rfl,hd,D⟩:=hrel;by_cases al:d<n
  ·have dd:(d:Int)<(n:Int):=by omega
   have dr:0≤(d:Int):=by omega
   have ak:=fun I a next Q=>aB (P:=prog) D.o.bx underlying43 rfl dC I a next Q
   go_wp21;refine(bf.o wr _ d Fk D.o.at_.is D.o.kp al).mono ?_;rintro e dt ⟨rfl,bn⟩;have cn:=hZ (D.o.below bn);clear bn ak;go_wp21;go_loopw [10,35] (fun co ax ws=>co= .bool true∧∃(i:Nat) (J:Nat→Prop),ax= .int .i64 i∧i≤4∧Hid (UwI x V F w ws J (uSt x f s d i) (p+(4*d+i)) gx gu [.slice (some ⟨gb,0,none⟩) H gc,.int .i64 secs,.slice (some ⟨bl,0,none⟩) n lc,.slice l n wc] (bP txg nd))) (fun _ ax _=>4-(intOf ax).toNat)
   case atStart=>exact⟨rfl,0,Fk,rfl,z6 _,cn⟩
   case round=>
    obtain⟨rfl,i,J,rfl,cy,bo⟩:=hrel;by_cases cp:i<4
    ·have cd:(i:Int)<4:=by omega
     have du:0≤(i:Int):=by omega
     have bq:Below wr.heap.size wr wr.drew:=(i4 _ _).drew;have t:=hZ (bo.o.below bq);obtain⟨db,br,bs⟩:=bh.o wr.drew _ d i _ J t.o.at_.is t.o.kp t.o.dp (by omega) al cp
     have bt:=hZ bs;have am:UwS gx gu bl n lc txg d db wr.drew:=⟨t.o.bx.cell 2,br,t.o.bu.cell 0⟩;have dv:IntKind.i64.wrap ((i:Int)*64)=((64*i:Nat):Int):=by rw[bLo _ (by omega)];omega
     have dw:IntKind.i64.wrap ((i:Int)+1)=((i+1:Nat):Int):=by rw[bLo _ (by omega)];omega
     have cq:Hid (IntKind.i64.wrap (((i:Int)+1)*64)=((64*i+64:Nat):Int)):=hZ (by rw[bLo _ (by omega)];omega)
     have dx:IntKind.i64.wrap ((f:Int)+(i:Int))=((f+i:Nat):Int):=by rw[bLo _ (by omega)];omega
     obtain⟨u,Z⟩:=nZ (dW s (64*i) 64);have ci:Hid ((⟨s.toArray⟩:ByteArray).extract (64*i) (64*i+64)=⟨u.toArray⟩):=hZ (by
      rw[dM,Z];unfold dW;congr 2;rw[List.drop_take];congr 1;omega)
     rw[←Z] at bt;have cr:=hZ Z;clear bq br bs Z;go_upto_region 12 with fail
     refine l7 (S:=UwS gx gu bl n lc txg d db) (by kernel_rfl) am (fun am=>?_)
     refine aE 0 ?_;refine aE 1 ?_;refine aE 2 ?_;refine sB (i:=3) (v:=?va3) (hy:=?ya3) (h:=?_)
     case ya3=>intro w c;(try dsimp only at c);go_simp;first|(rw[UwS.c2 c];rfl)|rfl
     try simp only[Act.put,z1,z2,z3]
     refine aE 4 ?_;refine sB (i:=5) (v:=?va5) (hy:=?ya5) (h:=?_)
     case ya5=>intro w c;(try dsimp only at c);go_simp;first|with_reducible rfl|rw[i6 (by omega)]
     try simp only[Act.put,z1,z2,z3]
     refine sB (i:=6) (v:=?va6) (hy:=?ya6) (h:=?_)
     case ya6=>intro w c;(try dsimp only at c);go_simp;first|(rw[UwS.ld c];rfl)|rfl
     try simp only[Act.put,z1,z2,z3]
     refine aE 7 ?_;refine sB (i:=8) (v:=?va8) (hy:=?ya8) (h:=?_)
     case ya8=>intro w c;(try dsimp only at c);go_simp;first|(rw[UwS.tx c];rfl)|rfl
     try simp only[Act.put,z1,z2,z3]
     refine aE 10 ?_;refine aE 12 ?_;refine aE 13 ?_;refine aE 14 ?_;refine aE 15 ?_;refine aE 16 ?_;refine aE 17 ?_;refine sB (i:=18) (v:=?va18) (hy:=?ya18) (h:=?_)
     case ya18=>intro w c;(try dsimp only at c);go_simp;rw[cq.o,i6 (by omega),i6 (by omega),show(64*(i:Int)).toNat=64*i by omega,s7,ci.o]
     try simp only[Act.put,z1,z2,z3]
     refine dY (i:=9) (h:=fun K z=>?_)
     go_simp;refine(cj.o _).mono ?_;rintro e w4 ⟨rfl,bv⟩;have bw:=hZ bv;clear bv;refine z.o _ _ (am.below bw.o) (fun dk=>?_)
     try simp only[Act.put,z1,z2,z3]
     refine aE 11 ?_;refine dY (i:=19) (h:=fun K z=>?_)
     go_simp;refine(bt.o _ bw.o).mono ?_;rintro e de ⟨rfl,bz,ca⟩;obtain⟨ce,cf⟩:=t.o.put bz (by show d<x.ds.length;rw[cm.o];exact al)
     have ct:=hZ ca;have an:Hid (UwI x V F w de ce (uSt x f s d (i+1)) (p+(4*d+(i+1))) gx gu [.slice (some ⟨gb,0,none⟩) H gc,.int .i64 secs,.slice (some ⟨bl,0,none⟩) n lc,.slice l n wc] (bP txg nd)):=hZ (by rw[bCi,←cr.o];exact cf)
     clear bz ca cf;refine z.o _ _ (⟨an.o.bx.cell 2,ct.o,an.o.bu.cell 0⟩) (fun dg=>?_)
     try simp only[Act.put,z1,z2,z3]
     refine aE 20 ?_;refine aE 21 ?_;refine aE 22 ?_;refine r8 (by kernel_rfl) ?_ _
     go_wp2_with fail;go_roundw
     case rel=>exact⟨rfl,i+1,ce,by go_num,by omega,an⟩
     case measure=>simp[intOf];omega
    ·have cd:¬(i:Int)<4:=by omega
     have cu:Hid (UwI x V F w wr J (uSt x f s (d+1) 0) (p+(4*(d+1)+0)) gx gu [.slice (some ⟨gb,0,none⟩) H gc,.int .i64 secs,.slice (some ⟨bl,0,none⟩) n lc,.slice l n wc] (bP txg nd)):=hZ (by
      have m:=bo.o;rw[show i=4 by omega,bBp,show p+(4*d+4)=p+(4*(d+1)+0) by omega] at m
      exact m)
     go_wp2_with fail;go_roundw
     case rel=>exact⟨rfl,d+1,J,by go_num,by omega,cu⟩
     case measure=>simp[intOf];omega
  ·have dd:¬(d:Int)<(n:Int):=by omega
   have c2:=D.o.bx.cell 2;have cd:((0:Int) == (n:Int))=false:=by simp;omega
   go_wp21;go_ret2;refine⟨rfl,?_⟩;have cv:d=n:=by omega
   have m:=D.o.at_.fin;rw[cv,ay.o] at m;exact m
end
section
def eD (vg vl va:Value) (secs:Int) (tx:Nat) (nd:aM) (sv:Value) (bk wk ws:Option Addr) (dn:Bool):List Value:=
 [vg,.int .i64 secs,vl,va]++bP tx nd++bF sv++[.pointer bk,.pointer wk,.pointer ws,.bool dn]
section
variable {w:World} {pb:Nat} {vg vl va:Value} {secs:Int} {tx:Nat} {nd:aM} {sv:Value} {bk wk ws:Option Addr} {dn:Bool}
theorem aBh (h:Blk w pb 112 (eD vg vl va secs tx nd sv bk wk ws dn)):Calls prog 16 #[.pointer (some pb)] w fun e w'=>e= .returned dn∧bB w w':=by
 have c:cZ w pb 45 dn:=h.cell 45;clear h;go_in;go_wp21;go_ret;exact⟨by first|rfl|simp,i4 _ _⟩
theorem rH (w:World):Calls prog 16 #[.pointer none] w fun e w'=>e= .returned true∧bB w w':=by
 go_in;go_wp21;go_ret;exact⟨by first|rfl|simp,i4 _ _⟩
theorem zV (h:Blk w pb 112 (eD vg vl va secs tx nd sv bk wk ws dn)) (ht:tx≤4294967295):Calls prog 17 #[.pointer (some pb)] w fun e w'=>e= .returned (.int .i64 ((tx+1:Nat):Int))∧bB w w':=by
 have f:cZ w pb 4 (tx:Nat):=h.cell 4;clear h;go_in;go_wp21;go_ret;have c:IntKind.i64.wrap ((tx:Int)+1)=((tx+1:Nat):Int):=by rw[bLo _ (by omega)];omega
 exact⟨by first|rfl|(rw[c])|simp,i4 _ _⟩
theorem bBg (w:World):Calls prog 17 #[.pointer none] w fun e w'=>e= .returned (0:Int)∧bB w w':=by
 go_in;go_wp21;go_ret;exact⟨by first|rfl|simp,i4 _ _⟩
end
attribute [local go_sem ↓] cB
theorem aHn {dn:Bool} (h:Blk w pb 112 (eD V.g V.l V.a x.secs tx nd sv bk wk ws dn)) (i:bV w x V F) (hr:x.right=true) (J:∀d,d<x.ds.length→x.here d=true):
  Calls prog 53 #[.pointer (some pb)] w fun e w'=>e= .returned (0:Int)∧bB w w':=by
 obtain⟨ga,gc,c,lc,m,wc,r,_⟩:=i.form;have A:V.val x.secs= .agg #[.slice ga x.gs.length gc,x.secs,.slice c x.ds.length lc,.slice m x.ds.length wc]:=by rw[r];rfl
 have D:Hid (∀(W:World) (d:Nat),bB w W→d<x.ds.length→Calls prog 103 #[.agg #[.slice ga x.gs.length gc,x.secs,.slice c x.ds.length lc,.slice m x.ds.length wc],(d:Nat)] W fun e w'=>e= .returned true∧bB W w'):=hZ (fun W d U hd=>by
  have K:=qS (i.below U) hr d hd;rw[J d hd,A] at K;exact K)
 have p:Blk w pb 112 (eD (.slice ga x.gs.length gc) (.slice c x.ds.length lc) (.slice m x.ds.length wc) x.secs tx nd sv bk wk ws dn):=by rw[r] at h;exact h
 have L:=i.gslen;obtain⟨n,q⟩:=nZ x.ds.length;obtain⟨X,E⟩:=nZ x.gs.length;obtain⟨secs,G⟩:=nZ x.secs;rw[←q,←E,←G] at p D;rw[←q] at L;have Y:=hZ p;have c2:cZ w pb 2 (.slice c n lc):=p.cell 2;clear h i hr J r A p q E G;go_in;go_wp2_with fail;clear c2;go_loopw [3,11] (fun Z z wr=>Z= .int .i64 0∧∃d:Nat,z= .int .i64 d∧d≤n∧Hid (bB w wr)) (fun _ z _=>n-(intOf z).toNat)
 case atStart=>exact⟨rfl,0,rfl,z6 _,hZ (i4 _ _)⟩
 case round=>
  obtain⟨rfl,d,rfl,hd,f⟩:=hrel;by_cases O:d<n
  ·have aa:(d:Int)<(n:Int):=by omega
   have H:=Y.o.below f.o;have R:=eO (t:=43) (o:=0) (cs:=[.slice ga X gc,secs,.slice c n lc,.slice m n wc]) H rfl underlying43 rfl dC;clear H;go_wp2_with fail;refine(D.o wr d f.o O).mono ?_;rintro e ab ⟨rfl,I⟩;have T:=hZ (f.o.trans (I.mono f.o.size));clear I R;go_wp2_with fail;go_roundw
   case rel=>exact⟨rfl,d+1,by go_num,by omega,T⟩
   case measure=>simp[intOf];omega
  ·have aa:¬(d:Int)<(n:Int):=by omega
   go_wp2_with fail;go_ret;exact⟨rfl,f.o⟩
end
section
attribute [local go_sem ↓] cB
theorem aJa (c:∀i,i<x.ds.length→x.here i=true∧(x.ds.getD i eN).fuse= -1):∀i,i<(cM x).ds.length→(cM x).here i=true∧((cM x).ds.getD i eN).fuse= -1:=fun i h=>by
 have k:=eT x;have f:i<x.ds.length:=by rw[←k.n];exact h
 exact⟨by rw[k.here];exact(c i f).1,(k.dev i).2.2 (c i f).2⟩
theorem aIc (h:jT w w') (c:Blk w pb 112 cs):Blk w' pb 112 cs:=h _ _ _ _ c (by decide) (by decide)
theorem xP {dn:Bool} (h:Blk w pb 112 (eD V.g V.l V.a x.secs tx nd sv bk wk ws dn)) (f:bV w x V F) (hr:x.right=true) (R:0<x.ds.length) (c:∀i,i<x.ds.length→x.here i=true∧(x.ds.getD i eN).fuse= -1):
  Calls prog 51 #[.pointer (some pb)] w fun e w'=>e= .returned true∧gO (cM x) V F w w':=by
 obtain⟨ga,gc,m,lc,p,wc,z,_⟩:=f.form;have E:V.val x.secs= .agg #[.slice ga x.gs.length gc,x.secs,.slice m x.ds.length lc,.slice p x.ds.length wc]:=by rw[z];rfl
 have r:=hZ (aSb f hr R (fun i A=>⟨(c i A).1,by rw[(c i A).2];decide⟩))
 rw[E] at r;have T:=hZ f;have H:Hid (Blk w pb 112 (eD (.slice ga x.gs.length gc) (.slice m x.ds.length lc) (.slice p x.ds.length wc) x.secs tx nd sv bk wk ws dn)):=hZ (by rw[z] at h;exact h)
 have U:=hZ (fun(W:World) (q:Nat→Prop) (h1:bV W (cM x) V q) (h2:Blk W pb 112 (eD V.g V.l V.a x.secs tx nd sv bk wk ws dn))=>aHn (x:=cM x) h2 h1 ((eT x).right hr) (fun d hd=>(aJa c d hd).1))
 go_in;have Y:=eO (t:=43) (o:=0) (cs:=[.slice ga x.gs.length gc,x.secs,.slice m x.ds.length lc,.slice p x.ds.length wc]) H.o rfl underlying43 rfl dC;go_wp21;refine r.o.mono ?_;rintro e w1 ⟨rfl,D⟩;have X:=hZ D;obtain⟨q,I,Z,aa,J⟩:=D;have K:=hZ (U.o w1 q I (aIc J h));go_wp21;refine K.o.mono ?_;rintro e ab ⟨rfl,L⟩;obtain⟨ac,O,_,_⟩:=(kQ.start T.o).step X.o;have G:=hZ (O.below L).fin;go_wp21;go_ret;exact⟨by first|rfl|simp,G.o⟩
end
section
attribute [local go_sem ↓] cB
theorem aMw {dn:Bool} (h:Blk w pb 112 (eD V.g V.l V.a x.secs tx nd sv bk wk ws dn)) (i:bV w x V F) (hr:x.right=true) (J:∀d,d<x.ds.length→x.here d=true):
  Calls prog 49 #[.pointer (some pb)] w fun e w'=>e= .returned (.tuple #[])∧bB w w':=by
 obtain⟨ga,gc,c,lc,m,wc,r,_⟩:=i.form;have A:V.val x.secs= .agg #[.slice ga x.gs.length gc,x.secs,.slice c x.ds.length lc,.slice m x.ds.length wc]:=by rw[r];rfl
 have D:Hid (∀(W:World) (d:Nat),bB w W→d<x.ds.length→Calls prog 103 #[.agg #[.slice ga x.gs.length gc,x.secs,.slice c x.ds.length lc,.slice m x.ds.length wc],(d:Nat)] W fun e w'=>e= .returned true∧bB W w'):=hZ (fun W d U hd=>by
  have K:=qS (i.below U) hr d hd;rw[J d hd,A] at K;exact K)
 have p:Blk w pb 112 (eD (.slice ga x.gs.length gc) (.slice c x.ds.length lc) (.slice m x.ds.length wc) x.secs tx nd sv bk wk ws dn):=by rw[r] at h;exact h
 have L:=i.gslen;obtain⟨n,q⟩:=nZ x.ds.length;obtain⟨X,E⟩:=nZ x.gs.length;obtain⟨secs,G⟩:=nZ x.secs;rw[←q,←E,←G] at p D;rw[←q] at L;have Y:=hZ p;have c2:cZ w pb 2 (.slice c n lc):=p.cell 2;clear h i hr J r A p q E G;go_in;go_wp2_with fail;clear c2;go_loopw [9] (fun z wr=>∃d:Nat,z= .int .i64 d∧d≤n∧Hid (bB w wr)) (fun z _=>n-(intOf z).toNat)
 case atStart=>exact⟨0,rfl,z6 _,hZ (i4 _ _)⟩
 case round=>
  obtain⟨d,rfl,hd,f⟩:=hrel;by_cases O:d<n
  ·have Z:(d:Int)<(n:Int):=by omega
   have H:=Y.o.below f.o;have R:=eO (t:=43) (o:=0) (cs:=[.slice ga X gc,secs,.slice c n lc,.slice m n wc]) H rfl underlying43 rfl dC;clear H;go_wp2_with fail;refine(D.o wr d f.o O).mono ?_;rintro e aa ⟨rfl,I⟩;have T:=hZ (f.o.trans (I.mono f.o.size));clear I R;go_wp2_with fail;go_roundw
   case rel=>exact⟨d+1,by go_num,by omega,T⟩
   case measure=>simp[intOf];omega
  ·have Z:¬(d:Int)<(n:Int):=by omega
   go_wp2_with fail;go_end0;exact⟨rfl,f.o⟩
section
variable {w:World} {pb:Nat} {vg vl va:Value} {secs:Int} {tx:Nat} {nd:aM} {sv:Value} {bk wk ws:Option Addr} {dn:Bool}
theorem yN (h:Blk w pb 112 (eD vg vl va secs tx nd sv bk wk ws dn)) (d:Nat):Calls prog 58 #[.pointer (some pb),(d:Nat)] w fun e w'=>e= .returned (.tuple #[])∧bB w w':=by
 have c:cZ w pb 32 (0:Int):=h.cell 32;clear h;go_in;go_wp21;go_end0;exact⟨rfl,i4 _ _⟩
theorem aWd (w:World):Calls prog 13 #[.pointer none,.pointer none] w fun e w'=>e= .returned (.tuple #[])∧bB w w':=by
 go_in;go_wp21;go_end0;exact⟨rfl,i4 _ _⟩
theorem aTc (h:Blk w pb 112 (eD vg vl va secs tx nd sv bk wk ws dn)):Calls prog 13 #[.pointer (some pb),.pointer none] w fun e w'=>e= .returned (.tuple #[])∧bB w w':=by
 go_in;go_wp21;go_end0;exact⟨rfl,i4 _ _⟩
theorem bBl {ga:Option Addr} (h:Blk w pb 112 (eD (.slice ga gs.length gc) vl va secs tx nd sv bk wk ws false)) (p:oZ w ga gs.length gc gs) (hr:bH gs secs=true) (d:Int) (hd:eY d):Calls prog 56 #[.pointer (some pb),d] w fun e w'=>e= .returned (.int .i64 ((if d<0∨(cK gs:Int)≤d then 1 else 0:Nat):Int))∧bB w w':=by
 have q:=hZ (aBh h);have z:=hZ h;have l:=hZ (fun W (A:bB w W)=>rI ga gs.length gc gs secs W (RSl.below p A) hr)
 clear h p hr;by_cases h0:d<0
 ·rw[i6 (.inl h0)]
  go_in;go_wp2_with fail;refine q.o.mono ?_;rintro e w1 ⟨rfl,c⟩;have f:=hZ c;clear c;go_wp2_with fail;go_ret;exact⟨rfl,f.o⟩
 ·by_cases h1:(cK gs:Int)≤d
  case' _=>
   rw[i6 (.inr h1)]
  rotate_left
  case' _=>
   rw[i9 (fun h=>h.elim h0 h1)]
  all_goals
   obtain⟨N,r⟩:=nZ (cK gs);rw[←r] at l h1;clear r;go_in;go_wp2_with fail;refine q.o.mono ?_;rintro e w1 ⟨rfl,c⟩;have f:=hZ c;have i:=z.o.below c;have c0:cZ w1 pb 0 (.slice ga gs.length gc):=i.cell 0;have D:cZ w1 pb 1 secs:=i.cell 1;clear c i;go_wp2_with fail;refine(l.o w1 f.o).mono ?_;rintro e E ⟨rfl,m⟩;have t:=hZ (f.o.trans (m.mono f.o.size));clear m c0 D;go_wp2_with fail;go_ret;exact⟨rfl,t.o⟩
end
end
structure UHd (hd:Bs) (gs:Gs) (secs:Int) (txg:Nat) (nb:Bs):Prop where
 len:hd.length=224
 mag:dW hd 0 8=nB
 txg:rM hd 8=txg
 sum:aDf (mU hd 16 4)=gE (dG (fM gs secs))
 nod:dW hd 48 128=nb
 zer:cG (hd.drop 176)=true
theorem aWi (x:Nat×Nat×Nat×Nat) (h:x.1<rN∧x.2.1<rN∧x.2.2.1<rN∧x.2.2.2<rN):nU (dW (gM x) 0 8)=x.1∧nU (dW (gM x) 8 8)=x.2.1∧nU (dW (gM x) 16 8)=x.2.2.1∧nU (dW (gM x) 24 8)=x.2.2.2:=by
 have c:=fun n (f:n<rN)=>pR 8 n (by unfold rN at f;omega)
 unfold gM;refine⟨?_,?_,?_,?_⟩
 ·rw[dU (by simp[aH]),dU (by simp[aH]),dU (by simp[aH]),kU (aH _ _),c _ h.1]
 ·rw[dU (by simp[aH]),dU (by simp[aH]),jS (by simp[aH]),aH,kU (aH _ _),c _ h.2.1]
 ·rw[dU (by simp[aH]),jS (by simp[aH]),show 16-(bS 8 x.1++bS 8 x.2.1).length=0 by simp[aH],kU (aH _ _),c _ h.2.2.1]
 ·rw[jS (by simp[aH]),show 24-(bS 8 x.1++bS 8 x.2.1++bS 8 x.2.2.1).length=0 by simp[aH],kU (aH _ _),c _ h.2.2.2]
theorem aBj (gs:Gs) (secs:Int) (txg:Nat) (ht:txg≤4294967295) (c:Bs) (q:c.length=128):UHd (fS gs secs txg c) gs secs txg c:=by
 have r:kM (txg:Int)=bS 8 txg:=by
  unfold kM iI;rw[i9 (by omega)]
  rfl
 have p:(bS 8 txg).length=8:=aH _ _;have t:=oC (dG (fM gs secs));have h:=aWi _ (aUy (fM gs secs));have m:=aBa gs secs txg c q ht;have i:nB.length=8:=rfl;have z:(aP 48).length=48:=by simp[aP]
 have f:fS gs secs txg c=nB++bS 8 txg++gM (dG (fM gs secs))++c++aP 48:=by unfold fS;rw[r]
 generalize gM (dG (fM gs secs))=sb at t h f;generalize fS gs secs txg c=hd at m f;have l:∀o,o+8≤32→dW hd (16+o) 8=dW sb o 8:=fun o A=>by
  rw[f,dU (by simp;omega),dU (by simp;omega),jS (by simp;omega)]
  congr 1;simp[p,i]
 refine⟨m,?_,?_,?_,?_,?_⟩
 ·rw[f,dU (by simp;omega),dU (by simp;omega),dU (by simp;omega),dU (by omega),kU i]
 ·unfold rM
  rw[f,dU (by simp;omega),dU (by simp;omega),dU (by simp;omega),jS (by simp[i]),i,kU p,pR _ _ (by omega)]
 ·have e:mU hd 16 4=[(dG (fM gs secs)).1,(dG (fM gs secs)).2.1,(dG (fM gs secs)).2.2.1,(dG (fM gs secs)).2.2.2]:=by
   unfold mU;simp only[List.range,List.range.loop,List.map_cons,List.map_nil];rw[l 0 (by omega),l 8 (by omega),l 16 (by omega),l 24 (by omega),h.1,h.2.1,h.2.2.1,h.2.2.2]
  rw[e];rfl
 ·rw[f,dU (by simp;omega),jS (by simp;omega),show 48-(nB++bS 8 txg++sb).length=0 by simp;omega,kU q]
 ·have e:hd.drop 176=aP 48:=by
   rw[f,List.drop_append,bNj (by simp;omega),bMt,show 176-(nB++bS 8 txg++sb++c).length=0 by simp;omega]
   rfl
  rw[e];simp[cG,aP]
theorem aTz:gM (dG (aP 224))=aP 32:=by kernel_rfl
theorem aGt:dW (aP 224) 0 8≠nB∧rM (aP 224) 8=0∧dW (aP 224) 48 128=aP 128:=by
 refine⟨by decide,by decide,by decide⟩
structure NrS (gG gN:Nat) (gs2:List Value) (nd:aM) (w:World):Prop where
 g:Blk w gG 24 gs2
 n:Blk w gN 53 (aN nd)
theorem NrS.below (h:NrS gG gN gs2 nd w) (c:bB w w'):NrS gG gN gs2 nd w':=⟨h.g.below c,h.n.below c⟩
theorem NrS.r0 (h:NrS gG gN gs2 nd w):w.rangeAt gG 0 gs2:=fZ h.g
theorem NrS.r1 (h:NrS gG gN gs2 nd w):w.rangeAt gN 1 (aA nd.root):=oJ h.n
theorem NrS.k0 (h:NrS gG gN gs2 nd w):w.cell? ⟨gN,0,none⟩=some (.int .i64 nd.size):=h.n.cell 0
theorem NrS.k7 (h:NrS gG gN gs2 nd w):w.cell? ⟨gN,7,none⟩=some (.int .i64 nd.root.level):=h.n.cell 7
theorem aEx (f:Option Addr) (n cap:Nat) (gs:Gs) (secs:Int) (w:World) (h:oZ w f n cap gs) (nd:aM) (c:nd.root.wf) (aa:nd.root.ok) (ab:0≤nd.size∧nd.size≤16384) (m:isNone nd.root=true∨isNone nd.root=false∧bD gs secs nd.root=true∧nd.root.level=(gC nd.size:Nat)):
  Calls prog 95 #[.agg #[.slice f n cap,secs],.agg (aN nd).toArray] w fun e w'=>e= .returned true∧bB w w':=by
 obtain⟨H,r⟩:=nZ ((w.alloc (.cells #[.slice f n cap,secs] 24)).alloc (.cells (aN nd).toArray 53));have T:Hid (bB w H):=hZ (by rw[r];exact(bZ).alloc (by simp) _)
 have I:NrS w.heap.size (w.heap.size+1) [.slice f n cap,secs] nd H:=⟨by rw[r];exact(Blk.new w _ _).alloc _,by rw[r];exact Blk.newAt _ _ (by simp)⟩
 have D:=hZ (gL nd.root c);have U:=hZ (fun W (ad:bB w W)=>xH f n cap gs secs nd.root W (h.below ad) aa)
 have ac:=hZ (fun W=>oB nd.size W (by unfold eY;omega))
 have X:=hZ I;have c0:=I.k0;obtain⟨gG,J⟩:∃g,g=w.heap.size:=⟨_,rfl⟩;obtain⟨gN,E⟩:∃g,g=w.heap.size+1:=⟨_,rfl⟩;obtain⟨sz,L⟩:=nZ nd.size;rw[←L] at ab c0;have al:¬sz<0:=by omega
 have am:¬(16384:Int)<sz:=by omega
 rw[←E] at c0;rw[←E,←J] at X;have t:=hZ (X.o.below (i4 _ _).drew);have q:=hZ (T.o.trans ((i4 H.heap.size H).drew.mono T.o.size));have aj:=hZ L;clear h c aa ab I L;go_in;go_upto_region 1 with fail
 rw[←r,←E,←J];clear r J E;go_upto_region 3 with fail
 have G:=t.o;rcases m with m|⟨m,Y,O⟩
 ·rw[m] at D
  clear m;refine l7 (S:=NrS gG gN [.slice f n cap,secs] nd) (by kernel_rfl) G (fun G=>?_)
  refine aE 0 ?_;refine mX 1 ?va1 ?ya1 ?_
  case ya1=>refine m5 (by kernel_rfl) 51 (.tmp 13) ?_ gN (1) ?_ (aA nd.root) _ (fun w' c=>NrS.r1 c) underlying51 rfl aU<;>rfl
  refine dY (i:=2) (h:=fun K p=>?_)
  go_simp;refine(D.o _).mono ?_;rintro e w1 ⟨rfl,z⟩;have l:=hZ z;clear z;refine p.o _ _ (t.o.below l.o) (fun ag=>?_)
  refine aE 3 ?_;refine jL 4 ?_;refine jL 5 ?_;refine jL 6 ?_;refine jL 7 ?_;refine jL 8 ?_;refine jL 9 ?_;refine jL 10 ?_;refine jL 11 ?_;refine jL 12 ?_;refine jL 13 ?_;refine jL 14 ?_;refine jL 15 ?_;refine jL 16 ?_;refine aE 17 ?_;refine aE 18 ?_;refine r8 (by kernel_rfl) ?_ _
  go_wp21;go_ret;exact⟨rfl,q.o.trans (l.o.mono q.o.size)⟩
 ·rw[m] at D
  rw[Y] at U;have ak:=hZ O;have ae:(nd.root.level == ((gC nd.size:Nat):Int))=true:=by rw[O];simp
  clear m Y O;refine l7 (S:=NrS gG gN [.slice f n cap,secs] nd) (by kernel_rfl) G (fun G=>?_)
  refine aE 0 ?_;refine mX 1 ?vb1 ?yb1 ?_
  case yb1=>refine m5 (by kernel_rfl) 51 (.tmp 13) ?_ gN (1) ?_ (aA nd.root) _ (fun w' c=>NrS.r1 c) underlying51 rfl aU<;>rfl
  refine dY (i:=2) (h:=fun K p=>?_)
  go_simp;refine(D.o _).mono ?_;rintro e w1 ⟨rfl,z⟩;have l:=hZ z;clear z;refine p.o _ _ (t.o.below l.o) (fun ah=>?_)
  refine aE 3 ?_;refine mX 4 ?vb4 ?yb4 ?_
  case yb4=>refine m5 (by kernel_rfl) 24 (.tmp 2) ?_ gG (0) ?_ ([.slice f n cap,secs]) _ (fun w' c=>NrS.r0 c) underlying24 rfl aHw<;>rfl
  refine aE 5 ?_;refine mX 6 ?vb6 ?yb6 ?_
  case yb6=>refine m5 (by kernel_rfl) 51 (.tmp 18) ?_ gN (1) ?_ (aA nd.root) _ (fun w' c=>NrS.r1 c) underlying51 rfl aU<;>rfl
  refine dY (i:=7) (h:=fun K p=>?_)
  go_simp;refine(U.o _ (q.o.trans (l.o.mono q.o.size))).mono ?_;rintro e an ⟨rfl,Z⟩;have R:=hZ (l.o.trans (Z.mono l.o.size));clear Z;refine p.o _ _ (t.o.below R.o) (fun ai=>?_)
  refine aE 8 ?_;refine aE 9 ?_;refine aE 10 ?_;refine aE 11 ?_ (hy:=by intro w A;(try dsimp only at A);go_simp;first|(rw[NrS.k7 A];rfl)|rfl)
  refine aE 12 ?_;refine aE 13 ?_ (hy:=by intro w A;(try dsimp only at A);go_simp;first|(rw[NrS.k0 A];rfl)|rfl)
  refine dY (i:=14) (h:=fun K p=>?_)
  go_simp;refine(ac.o _).mono ?_;rintro e ao ⟨rfl,rfl⟩;refine p.o _ _ (t.o.below R.o) (fun af=>?_)
  refine aE 15 ?_;refine aE 16 ?_;refine aE 17 ?_;refine aE 18 ?_;refine r8 (by kernel_rfl) ?_ _
  go_wp21;go_ret;exact⟨by first|rfl|simp[ae],q.o.trans (R.o.mono q.o.size)⟩
section
theorem mK {x:Operand} {ty:TypeId} {pos:String}:
  Oper.wp prog ⟨dst,.store 55 x y,ty,pos,after,guard⟩ a w next Q=cS prog ⟨dst,.store 55 x y,ty,pos,after,guard⟩ 55 (a.eval x) (a.eval y) a w next Q:=rfl
theorem lE (t:Nat) (n:aM):∀u∈bP t n,u.oneCell'=true:=by
 intro u c;rcases s8.1 c with rfl|h
 ·rfl
 ·exact eP n u h
theorem xQ (h:Blk w g 55 zs) (f:zs.length=14) (t:Nat) (n:aM) (c:Oper) (a:Act) (next:Act→World→Prop) (Q:Exit→Act→World→Prop):cS prog c 55 (.pointer (some g)) (.agg (bP t n).toArray) a w next Q=next (a.put c.dst undef) (w.setCells g 0 (bP t n)):=
 aG (P:=prog) (t:=55) (o:=0) (cs:=bP t n) h (by rw[f];exact d8 14) kP (lE _ _) c a next Q
theorem aOs (h:Blk w g 55 zs) (f:zs.length=14) (c:Oper) (a:Act) (next:Act→World→Prop) (Q:Exit→Act→World→Prop):cS prog c 55 (.pointer (some g)) (.agg yG) a w next Q=next (a.put c.dst undef) (w.setCells g 0 (bP 0 nD)):=xQ h f 0 nD c a next Q
theorem bCv {x:Operand} {ty:TypeId} {pos:String}:
  Oper.wp prog ⟨dst,.build 55 #[(0,x),(1,y)],ty,pos,after,guard⟩ a w next Q=BdW prog ⟨dst,.build 55 #[(0,x),(1,y)],ty,pos,after,guard⟩ 55 #[(0,a.eval x),(1,a.eval y)] a w next Q:=by
 unfold Oper.wp BdW execOp;simp
theorem bIh (t:Nat) (n:aM) (o:Oper) (a:Act) (w:World) (next:Act→World→Prop) (Q:Exit→Act→World→Prop):
  BdW prog o 55 #[(0,(t:Nat)),(1,.agg (aN n).toArray)] a w next Q=next (a.put o.dst (.agg (bP t n).toArray)) w:=by
 unfold BdW;obtain⟨sz,i,l,m,p,q,z,A,D,E,G,c,f⟩:=n;have h:(do let r ←Instr.build 55 #[(0,(t:Nat)),(1,.agg #[sz,i,l,m,p,q,z,A,D,.int .u64 E,.int .u64 G,.int .u64 c,.int .u64 f])];pure (Next.value r):Sem Next).run prog w= .ok (.value (.agg #[(t:Nat),sz,i,l,m,p,q,z,A,D,.int .u64 E,.int .u64 G,.int .u64 c,.int .u64 f])) w:=by
  go_simp
 exact o7 (o.upon prog a next Q) h
attribute [local go_sem ↓] mK nY bCv bIh dL eI
structure UrS (w:World) (gs2:List Value) (hd:Bs) (k:Nat) (gR:Nat) (W:World):Prop where
 geo:Blk W w.heap.size 24 gs2
 res:Blk W (w.heap.size+1) 55 (bP 0 nD)
 rd:kO W gR hd k
 bel:Below w.heap.size w W
 ne:w.heap.size+1<gR
theorem UrS.below (h:UrS w gs2 hd k gR W) (c:bB W W'):UrS w gs2 hd k gR W':=⟨h.geo.below c,h.res.below c,Blk.below h.rd c,h.bel.trans (c.mono h.bel.size),h.ne⟩
theorem UrS.mod (h:UrS w gs2 hd k gR W) (hr:kO W' gR hd k') (c:Mod (fun x=>x=gR) W W'):UrS w gs2 hd k' gR W':=
 ⟨c.blk h.geo (fun e=>by have:=h.ne;omega),c.blk h.res (fun e=>by have:=h.ne;omega),hr,h.bel.trans (c.toBelow (B:=w.heap.size) (fun x f=>by have:=h.ne;omega) h.bel.size),h.ne⟩
structure UrT (w:World) (gs2:List Value) (hd:Bs) (gR gS gN:Nat) (su:List Value) (nd:aM) (W:World):Prop where
 at_:UrS w gs2 hd 176 gR W
 s:Blk W gS 49 su
 n:Blk W gN 53 (aN nd)
theorem UrT.below (h:UrT w gs2 hd gR gS gN su nd W) (c:bB W W'):UrT w gs2 hd gR gS gN su nd W':=⟨h.at_.below c,h.s.below c,h.n.below c⟩
theorem UrT.r0 (h:UrT w gs2 hd gR gS gN su nd W):W.rangeAt gS 0 su:=fZ h.s
theorem UrT.r1 (h:UrT w gs2 hd gR gS gN su nd W):W.rangeAt w.heap.size 0 gs2:=fZ h.at_.geo
theorem UrT.r2 (h:UrT w gs2 hd gR gS gN su nd W):W.rangeAt gN 0 (aN nd):=fZ h.n
theorem bBj (x:Nat×Nat×Nat×Nat) (W:World):(Op.equalIn 10000 49 (.agg (gE x).toArray) (.agg (gE x).toArray)).run prog W= .ok true W:=by
 have h:=aCs (x.1:Nat) (x.2.1:Nat) (x.2.2.1:Nat) (x.2.2.2:Nat) (x.1:Nat) (x.2.1:Nat) (x.2.2.1:Nat) (x.2.2.2:Nat) W;rw[bMi ⟨rfl,rfl,rfl,rfl⟩] at h;exact h
theorem aYl (gb go_ n gc:Nat) (gs:Gs) (secs:Int) (w:World) (h:oZ w (some ⟨gb,go_,none⟩) n gc gs) (hr:bH gs secs=true) (t hd nb:Bs) (ht:t=hd++gM (dG hd)) (hl:hd.length=224) (hm:rM hd 8≤iI) (tx er:Nat) (nd:aM)
  (hc:(dW hd 0 8≠nB∧cG (dW hd 48 128)=true∧tx=0∧nd=nD∧er=3)∨(UHd hd gs secs tx nb∧1≤tx∧tx≤4294967295∧lT nb= .ok (nd,true)∧nd.root.wf∧nd.root.ok∧(0≤nd.size∧nd.size≤16384)∧isNone nd.root=false∧bD gs secs nd.root=true∧nd.root.level=(gC nd.size:Nat)∧er=0)):
  Calls prog 193 #[.agg #[.slice (some ⟨gb,go_,none⟩) n gc,secs],.string ⟨t.toArray⟩] w (rZ w (.tuple #[.agg (bP tx nd).toArray,.int .i64 (er:Nat)])):=by
 obtain⟨w0,hw0⟩:=nZ ((w.alloc (.cells #[.slice (some ⟨gb,go_,none⟩) n gc,secs] 24)).alloc (.cells (bP 0 nD).toArray 55));have HB0:Hid (Below w.heap.size w w0):=hZ (by rw[hw0];exact(bZ).alloc (by simp) _)
 have HG0:Hid (Blk w0 w.heap.size 24 [.slice (some ⟨gb,go_,none⟩) n gc,.int .i64 secs]):=hZ (by rw[hw0];exact(Blk.new w _ _).alloc _)
 have HU0:Hid (Blk w0 (w.heap.size+1) 55 (bP 0 nD)):=hZ (by rw[hw0];exact Blk.newAt _ _ (by simp))
 have HS0:Hid (w0.heap.size=w.heap.size+2):=hZ (by rw[hw0];simp)
 obtain⟨sm,hsm⟩:=nZ (gM (dG hd));have hsl:sm.length=32:=by rw[hsm];exact oC _
 have htl:t.length=256:=by rw[ht,←hsm,i7];omega
 have X1:Hid ((⟨t.toArray⟩:ByteArray).extract 224 256=⟨sm.toArray⟩):=hZ (by
  rw[dM,ht,←hsm,bLq (by rw[i7];omega),List.drop_append,bNj (by omega),hl]
  rfl)
 have X2:Hid ((⟨t.toArray⟩:ByteArray).extract 0 224=⟨hd.toArray⟩):=hZ (by
  rw[dM,ht,bOf,List.take_append,bLq (by omega),hl]
  simp)
 have HSM:Hid (∀W,Calls prog 140 #[.string ⟨hd.toArray⟩] W (rZ W (.agg (gE (dG hd)).toArray))):=hZ (uN hd (by omega))
 have HFB:Hid (∀W,Calls prog 170 #[.agg (gE (dG hd)).toArray] W (rZ W (.string ⟨sm.toArray⟩))):=hZ (fun W=>by rw[hsm];exact aKy hd W)
 have hsz:(⟨t.toArray⟩:ByteArray).size=256:=by show t.toArray.size=_;simp[htl]
 have HG:=hZ h;have HRT:=hZ hr;have HL:=hZ hl;have HM:=hZ hm;have HC:=hZ hc;clear h hr ht hl hm hc hsm htl;go_in;go_upto_region 1 with fail
 rw[show(w.alloc (.cells #[.slice (some ⟨gb,go_,none⟩) n gc,secs] 24)).alloc (.cells #[(0:Int),(0:Int),(0:Int),(0:Int),(0:Int),(0:Int),false,(0:Int),(0:Int),(0:Int),.int .u64 0,.int .u64 0,.int .u64 0,.int .u64 0] 55)=w0 from hw0.symm];clear hw0;go_upto_region 5 with fail
 refine iW (by kernel_rfl) (by kernel_rfl) ?_
 repeat (go_big_quiet_step (fail))
 rw[X1.o,X2.o];go_big_quiet_step (refine Calls.bw_of (HSM.o _));go_big_quiet_step (refine Calls.bw_of (HFB.o _))
 repeat (go_big_quiet_step (fail))
 refine wpQuiet_nil ?_;rintro _ ⟨q,rfl⟩;have HBq:=hZ q.bel;obtain⟨w1,hw1⟩:=nZ q.w;rw[←hw1] at HBq⊢;clear hw1 HSM HFB X1;go_wp2_with fail;rw[X2.o];refine(oI hd w1).mono ?_;rintro e w2 ⟨rfl,hw2⟩;obtain⟨gR,hgR⟩:∃g,g=w1.heap.size:=⟨_,rfl⟩;have hb2:bB w1 w2:=by rw[hw2];exact bZ
 have H2:Hid (UrS w [.slice (some ⟨gb,go_,none⟩) n gc,secs] hd 0 gR w2):=hZ ⟨(HG0.o.below HBq.o).below hb2,(HU0.o.below HBq.o).below hb2,by rw[hw2,hgR];exact Blk.new w1 _ _,HB0.o.trans ((HBq.o.trans (hb2.mono HBq.o.size)).mono HB0.o.size),by have:=HS0.o;have:=HBq.o.size;omega⟩
 rw[←hgR];clear hw2 hgR hb2;go_wp2_with fail;refine(pX gR hd 0 8 w2 H2.o.rd (by rw[HL.o];omega) (by rw[HL.o];omega)).mono ?_
 rintro e w3 ⟨rfl,hr3,hm3⟩;have H3:=hZ (H2.o.mod hr3 hm3);clear hr3 hm3;go_wp2_with fail;have HIN:=hZ (rX gR hd 8 w3 H3.o.rd (by rw[HL.o];omega) (by rw[HL.o];omega))
 rw[i6 HM.o,i6 HM.o,i6 HM.o] at HIN;refine HIN.o.mono ?_;rintro e w4 ⟨rfl,hr4,hm4⟩;have H4:=hZ (H3.o.mod hr4 hm4);clear hr4 hm4 HIN;go_wp2_with fail;refine(aCm gR hd 16 w4 H4.o.rd (by rw[HL.o];omega) (by rw[HL.o];omega)).mono ?_
 rintro e w5 ⟨rfl,hr5,hm5⟩;have H5:=hZ (H4.o.mod hr5 hm5);clear hr5 hm5;obtain⟨a0,a1,a2,a3,ha⟩:∃a0 a1 a2 a3:Nat,mU hd 16 4=[a0,a1,a2,a3]:=⟨_,_,_,_,rfl⟩;have HA:=hZ ha;rw[show(aDf (mU hd 16 4)).toArray=#[.int .u64 (a0:Nat),.int .u64 (a1:Nat),.int .u64 (a2:Nat),.int .u64 (a3:Nat)] by rw[ha];rfl]
 clear ha;go_upto_region 11 with fail
 obtain⟨w6,hw6⟩:=nZ (w5.alloc (.cells #[.int .u64 (a0:Nat),.int .u64 (a1:Nat),.int .u64 (a2:Nat),.int .u64 (a3:Nat)] 49));obtain⟨gS,hgS⟩:∃g,g=w5.heap.size:=⟨_,rfl⟩;have hb6:bB w5 w6:=by rw[hw6];exact bZ
 have HS6:Hid (Blk w6 gS 49 [.int .u64 (a0:Nat),.int .u64 (a1:Nat),.int .u64 (a2:Nat),.int .u64 (a3:Nat)]):=hZ (by rw[hw6,hgS];exact Blk.new w5 _ _)
 have H6:=hZ (H5.o.below hb6);have HNE:Hid (gS≠gR):=hZ (by have:gR<w5.heap.size:=Blk.lt H5.o.rd;omega)
 first|rw[←hw6,←hgS]|(rw[←hw6];rw[←hgS])
 clear hw6 hgS hb6;go_wp2_with fail;refine(pX gR hd 48 128 w6 H6.o.rd (by rw[HL.o];omega) (by rw[HL.o];omega)).mono ?_
 rintro e w7 ⟨rfl,hr7,hm7⟩;have H7:=hZ (H6.o.mod hr7 hm7);have HS7:=hZ (hm7.blk HS6.o HNE.o);clear hr7 hm7;go_wp2_with fail;refine(zL (dW hd 48 128) (hX _ _ _ (by rw[HL.o];omega)) (HC.o.imp (fun h=>h.2.1) (fun h=>⟨nd,by rw[h.1.nod];exact h.2.2.2.1⟩)) w7).mono ?_
 rintro e w8 ⟨he,hb8⟩;have H8:=hZ (H7.o.below hb8);have HS8:=hZ (HS7.o.below hb8);unfold RdR at he;subst he;obtain⟨R,hR⟩:=nZ (ndB (lT (dW hd 48 128)));obtain⟨E,hE⟩:=nZ (mE (lT (dW hd 48 128)));rw[←hR,←hE];have HRR:=hZ (And.intro hR hE);clear hR hE hb8;have hst:=pH R.1 w8;go_upto_region 13 with fail
 obtain⟨w9,hw9⟩:=nZ (w8.alloc (.cells (aN R.1).toArray 53));obtain⟨gN,hgN⟩:∃g,g=w8.heap.size:=⟨_,rfl⟩;have hb9:bB w8 w9:=by rw[hw9];exact bZ
 have HN9:Hid (Blk w9 gN 53 (aN R.1)):=hZ (by rw[hw9,hgN];exact Blk.new w8 _ _)
 have H9:=hZ (H8.o.below hb9);have HS9:=hZ (HS8.o.below hb9)
 first|rw[←hw9,←hgN]|(rw[←hw9];rw[←hgN])
 clear hw9 hgN hb9 hst;obtain⟨mg,hmg⟩:=nZ (dW hd 0 8);have HMG:=hZ hmg;rw[←hmg];clear hmg;rcases HC.o with⟨h1,_,h2,h3,h4⟩|hc
 ·have hq:¬mg=[112,111,108,100,101,114,48,49]:=by
   rw[HMG.o];exact h1
  subst h2 h3 h4;have H10:=hZ (H9.o.below (i4 w9.heap.size w9).drew);have hst9:=aOs H10.o.res rfl;have HFB:=hZ (bQ (o:=0) (vs:=bP 0 nD) H10.o.bel H10.o.bel.size (bLv w.heap.size));clear h1 HC HRR;refine l7 (S:=fun _=>True) (by kernel_rfl) trivial (fun hS0=>?_)
  refine aE 0 ?_;refine sB (i:=1) (v:=?vz1) (hy:=?yz1) (h:=?_)
  case yz1=>intro w hSw;(try dsimp only at hSw);go_simp;rw[show(mg == ([112,111,108,100,101,114,48,49]:Bs))=false by simpa using hq]
  refine aE 2 ?_;refine jL 3 ?_;refine jL 4 ?_;refine aE 5 ?_;refine aE 6 ?_;refine jL 7 ?_;refine jL 8 ?_;refine aE 9 ?_;refine aE 10 ?_;refine jL 11 ?_;refine jL 12 ?_;refine aE 13 ?_;refine aE 14 ?_;refine jL 15 ?_;refine jL 16 ?_;refine jL 17 ?_;refine jL 18 ?_;refine jL 19 ?_;refine aE 20 ?_;refine aE 21 ?_;refine jL 22 ?_;refine jL 23 ?_;refine aE 24 ?_;refine aE 25 ?_;refine jL 26 ?_;refine jL 27 ?_;refine aE 28 ?_;refine aE 29 ?_;refine jL 30 ?_;refine jL 31 ?_;refine jL 32 ?_;refine jL 33 ?_;refine aE 34 ?_;refine aE 35 ?_;refine jL 36 ?_;refine jL 37 ?_;refine jL 38 ?_;refine aE 39 ?_;refine r8 (by kernel_rfl) ?_ _
  go_wp2_with fail;refine l9 (aL rfl _ _ (w.heap.size+1) 55 _ _ rfl (H10.o.res.put (vs:=bP 0 nD) rfl) underlying55 rfl kP) rfl ?_;exact⟨rfl,HFB.o⟩
 ·obtain⟨h1,h2,h3,h4,h5,h6,h7,h8,h10,h11,rfl⟩:=hc
  have hmm:mg=[112,111,108,100,101,114,48,49]:=by rw[HMG.o];exact h1.mag
  subst hmm;have hra:R=(nd,true):=by rw[HRR.o.1,h1.nod,h4];rfl
  have hea:E=0:=by rw[HRR.o.2,h1.nod,h4];rfl
  subst hra hea;have q1:¬(tx:Int)<1:=by omega
  have q2:¬(4294967295:Int)<(tx:Int):=by omega
  have HSU:Hid ([.int .u64 (a0:Nat),.int .u64 (a1:Nat),.int .u64 (a2:Nat),.int .u64 (a3:Nat)]=gE (dG (fM gs secs))):=hZ (by
   rw[←h1.sum,HA.o];rfl)
  have HSX:=hZ (HSU.o▸HS9.o);rw[h1.txg];have HZR:=hZ h1.zer;have HNR:Hid (∀W,bB w W→Calls prog 95 #[.agg #[.slice (some ⟨gb,go_,none⟩) n gc,secs],.agg (aN nd).toArray] W fun e w'=>e= .returned true∧bB W w'):=hZ (fun W hW=>aEx (some ⟨gb,go_,none⟩) n gc gs secs W (HG.o.below hW) nd h5 h6 h7 (.inr ⟨h8,h10,h11⟩))
  have HGB:Hid (∀W,bB w W→Calls prog 171 #[.agg #[.slice (some ⟨gb,go_,none⟩) n gc,secs]] W (rZ W (.string ⟨(fM gs secs).toArray⟩))):=hZ (fun W hW=>aEa gb go_ n gc gs secs W (HG.o.below hW) HRT.o)
  have HSG:Hid (∀W,Calls prog 140 #[.string ⟨(fM gs secs).toArray⟩] W (rZ W (.agg (gE (dG (fM gs secs))).toArray))):=hZ (uN _ (by have:=aGp gs secs;omega))
  clear h1 h2 h3 h4 h5 h6 h7 h8 h10 h11 HC HRR HA HSU;obtain⟨SF,hSF⟩:=nZ (dG (fM gs secs));obtain⟨GQ,hGQ⟩:=nZ (fM gs secs);rw[←hSF] at HSG HSX;rw[←hGQ] at HSG HGB;clear hSF hGQ;have hbd:=(i4 w9.heap.size w9).drew;have HT:Hid (UrT w [.slice (some ⟨gb,go_,none⟩) n gc,secs] hd gR gS gN (gE SF) nd w9.drew):=hZ ⟨H9.o.below hbd,HSX.o.below hbd,HN9.o.below hbd⟩;have hS0:=HT.o;clear hbd;refine l7 (S:=UrT w [.slice (some ⟨gb,go_,none⟩) n gc,secs] hd gR gS gN (gE SF) nd) (by kernel_rfl) hS0 (fun hS0=>?_)
  refine aE 0 ?_;refine aE 1 ?_;refine aE 2 ?_;refine aE 3 ?_;refine aE 4 ?_;refine aE 5 ?_;refine aE 6 ?_;refine aE 7 ?_;refine aE 8 ?_;refine aE 9 ?_;refine aE 10 ?_;refine aE 11 ?_;refine aE 12 ?_;refine aE 13 ?_;refine aE 14 ?_;refine mX 15 ?vy15 ?yy15 ?_
  case yy15=>refine m5 (by kernel_rfl) 49 (.tmp 11) ?_ gS (0) ?_ (gE SF) _ (fun w' hw=>UrT.r0 hw) underlying49 rfl bHp<;>rfl
  refine mX 16 ?vy16 ?yy16 ?_
  case yy16=>refine m5 (by kernel_rfl) 24 (.tmp 2) ?_ w.heap.size (0) ?_ ([.slice (some ⟨gb,go_,none⟩) n gc,secs]) _ (fun w' hw=>UrT.r1 hw) underlying24 rfl aHw<;>rfl
  refine dY (i:=17) (h:=fun K hK=>?_)
  go_simp;refine(HGB.o _ HT.o.at_.bel).mono ?_;rintro e x1 ⟨rfl,hb1⟩;have HT1:=hZ (HT.o.below hb1);clear hb1;refine hK.o _ _ (HT1.o) (fun hSy17=>?_)
  refine dY (i:=18) (h:=fun K hK=>?_)
  go_simp;refine(HSG.o _).mono ?_;rintro e x2 ⟨rfl,hb2⟩;have HT2:=hZ (HT1.o.below hb2);clear hb2;refine hK.o _ _ (HT2.o) (fun hSy18=>?_)
  refine sB (i:=19) (v:=?vy19) (hy:=?yy19) (h:=?_)
  case yy19=>intro w hSw;(try dsimp only at hSw);go_simp;rw[bBj];rfl
  refine aE 20 ?_;refine aE 21 ?_;refine aE 22 ?_;refine aE 23 ?_;refine aE 24 ?_;refine aE 25 ?_;refine aE 26 ?_;refine aE 27 ?_;refine aE 28 ?_;refine aE 29 ?_;refine mX 30 ?vy30 ?yy30 ?_
  case yy30=>refine m5 (by kernel_rfl) 24 (.tmp 2) ?_ w.heap.size (0) ?_ ([.slice (some ⟨gb,go_,none⟩) n gc,secs]) _ (fun w' hw=>UrT.r1 hw) underlying24 rfl aHw<;>rfl
  refine mX 31 ?vy31 ?yy31 ?_
  case yy31=>refine m5 (by kernel_rfl) 53 (.tmp 15) ?_ gN (0) ?_ (aN nd) _ (fun w' hw=>UrT.r2 hw) underlying53 rfl cQ<;>rfl
  refine dY (i:=32) (h:=fun K hK=>?_)
  go_simp;refine(HNR.o _ HT2.o.at_.bel).mono ?_;rintro e x3 ⟨rfl,hb3⟩;have HT3:=hZ (HT2.o.below hb3);clear hb3;refine hK.o _ _ (HT3.o) (fun hSy32=>?_)
  refine aE 33 ?_;refine aE 34 ?_;refine aE 35 ?_;refine aE 36 ?_;refine dY (i:=37) (h:=fun K hK=>?_)
  go_simp;refine(lU gR hd 176 _ HT3.o.at_.rd (by rw[HL.o];omega) (by rw[HL.o];omega)).mono ?_
  rintro e x4 ⟨rfl,nd4,rfl⟩;rw[HZR.o];have HT4:=hZ (HT3.o.below (dB (i4 _ _) nd4));refine hK.o _ _ (HT4.o) (fun hSy37=>?_)
  refine aE 38 ?_;refine aE 39 ?_;refine r8 (by kernel_rfl) ?_ _
  obtain⟨x5,hx5⟩:=nZ (x3.drewN nd4);rw[←hx5] at HT4⊢;clear hx5;have hl1:=aB HT4.o.n underlying53 rfl cQ;have hst9:=xQ HT4.o.at_.res rfl tx nd;have HFB:=hZ (bQ (o:=0) (vs:=bP tx nd) HT4.o.at_.bel HT4.o.at_.bel.size (bLv w.heap.size));go_wp2_with fail;refine l9 (aL rfl _ _ (w.heap.size+1) 55 _ _ rfl (HT4.o.at_.res.put (vs:=bP tx nd) rfl) underlying55 rfl kP) rfl ?_;exact⟨rfl,HFB.o⟩
end
section
attribute [local go_sem ↓] cB mK kX
theorem aTx (w:World):Calls prog 12 #[.pointer none] w fun e w'=>e= .returned (.tuple #[.slice none 0 0,(11:Int)])∧bB w w':=by
 go_in;go_wp21;go_ret2;exact⟨by first|rfl|simp,i4 _ _⟩
theorem aZh (w:World):Calls prog 18 #[.pointer none] w fun e w'=>e= .returned (0:Int)∧bB w w':=by
 go_in;go_wp21;go_ret;exact⟨by first|rfl|simp,i4 _ _⟩
theorem aUb (w:World):Calls prog 11 #[.pointer none] w fun e w'=>e= .returned (.tuple #[.pointer none,(11:Int)])∧bB w w':=by
 go_in;go_wp21;refine(rH w).mono ?_;rintro e w1 ⟨rfl,c⟩;go_wp21;go_ret2;exact⟨by first|rfl|simp,c⟩
theorem aWh (w:World):Calls prog 15 #[.pointer none] w fun e w'=>e= .returned (11:Int)∧bB w w':=by
 go_in;go_wp21;refine(rH w).mono ?_;rintro e w1 ⟨rfl,c⟩;go_wp21;go_ret;exact⟨by first|rfl|simp,c⟩
theorem aYi (w:World):Calls prog 14 #[.pointer none,.pointer none] w fun e w'=>e= .returned (11:Int)∧bB w w':=by
 go_in;go_wp21;refine(rH w).mono ?_;rintro e w1 ⟨rfl,c⟩;go_wp21;go_ret;exact⟨by first|rfl|simp,c⟩
theorem aMu (w:World):Calls prog 56 #[.pointer none,(0:Int)] w fun e w'=>e= .returned (11:Int)∧bB w w':=by
 go_in;go_wp21;refine(rH w).mono ?_;rintro e w1 ⟨rfl,c⟩;go_wp21;go_ret;exact⟨by first|rfl|simp,c⟩
theorem aWq (w:World):Calls prog 19 #[.pointer none,(0:Int),true] w fun e w'=>e= .returned (11:Int)∧bB w w':=by
 go_in;go_wp21;refine(aMu w).mono ?_;rintro e w1 ⟨rfl,c⟩;go_wp21;go_ret;exact⟨by first|rfl|simp,c⟩
theorem aMd (w:World):Calls prog 20 #[.pointer none,(0:Int),.int .u8 0] w fun e w'=>e= .returned (11:Int)∧bB w w':=by
 go_in;go_wp21;refine(aMu w).mono ?_;rintro e w1 ⟨rfl,c⟩;go_wp21;go_ret;exact⟨by first|rfl|simp,c⟩
theorem aYn (w:World):Calls prog 21 #[.pointer none] w fun e w'=>e= .returned (.agg yC)∧bB w w':=by
 go_in;go_wp21;refine l9 (iU rfl _ _ w.heap.size 43 _ _ rfl (Blk.new w 43 zC) underlying43 rfl dC) rfl ?_;exact⟨rfl,bZ⟩
theorem aYr (w:World):Calls prog 22 #[.pointer none] w fun e w'=>e= .returned (.agg (bP 0 nD).toArray)∧bB w w':=by
 have c:bB w (w.alloc (.cells yG 55)):=bZ;have f:Blk (w.alloc (.cells yG 55)) w.heap.size 55 (bP 0 nD):=Blk.new w _ (bP 0 nD);have h:=hZ f;have i:=hZ (bQ (o:=0) (g:=w.heap.size) (vs:=bP 0 nD) c c.size (d8 _));have l:=aOs h.o rfl;clear c f;go_in;go_wp21;refine l9 (iU rfl _ _ w.heap.size 55 _ _ rfl (h.o.put (vs:=bP 0 nD) rfl) underlying55 rfl kP) rfl ?_;exact⟨rfl,i.o⟩
theorem bBa (h:Blk w g 62 zs) (f:zs.length=24) (c:Oper) (a:Act) (next:Act→World→Prop) (Q:Exit→Act→World→Prop):cS prog c 62 (.pointer (some g)) (.agg yB) a w next Q=next (a.put c.dst undef) (w.setCells g 0 (bF (.slice none 0 0))):=aDp h f (v:= .slice none 0 0) rfl c a next Q
theorem aRs (w:World):Calls prog 23 #[.pointer none] w fun e w'=>e= .returned (.agg (bF (.slice none 0 0)).toArray)∧bB w w':=by
 have c:bB w (w.alloc (.cells yB 62)):=bZ;have f:Blk (w.alloc (.cells yB 62)) w.heap.size 62 (bF (.slice none 0 0)):=Blk.new w _ (bF (.slice none 0 0));have h:=hZ f;have i:=hZ (bQ (o:=0) (g:=w.heap.size) (vs:=bF (.slice none 0 0)) c c.size (d8 _));have l:=bBa h.o rfl;clear c f;go_in;go_wp21;refine l9 (iU rfl _ _ w.heap.size 62 _ _ rfl (h.o.put (vs:=bF (.slice none 0 0)) rfl) underlying62 rfl sG) rfl ?_;exact⟨rfl,i.o⟩
end
section
attribute [local go_sem ↓] cB kX nT
section
variable {w:World} {pb:Nat} {vg vl va:Value} {secs:Int} {tx:Nat} {nd:aM} {sv:Value} {bk wk ws:Option Addr} {dn:Bool}
theorem aKf (h:Blk w pb 112 (eD vg vl va secs tx nd sv bk wk ws dn)):w.rangeAt pb 0 [vg,secs,vl,va]:=uJ (cs:=[vg,secs,vl,va]) (ds:=bP tx nd++bF sv++[.pointer bk,.pointer wk,.pointer ws,.bool dn]) h
theorem bFe (h:Blk w pb 112 (eD vg vl va secs tx nd sv bk wk ws dn)):w.cell? ⟨pb,4,none⟩=some (.int .i64 (tx:Nat)):=h.cell 4
theorem bCn (h:Blk w pb 112 (eD vg vl va secs tx nd sv bk wk ws dn)):w.cell? ⟨pb,42,none⟩=some (.pointer bk):=h.cell 42
theorem wY (h:Blk w pb 112 (eD vg vl va secs tx nd sv bk wk ws dn)) (h1:vg.oneCell'=true∧vl.oneCell'=true∧va.oneCell'=true) (ht:tx≤4294967295) (k:Nat):Calls prog 42 #[.pointer (some pb),(k:Nat)] w fun e w'=>e= .returned (.pointer (some ⟨w.heap.size,0,none⟩))∧Blk w' w.heap.size 174 [vg,secs,vl,va,.pointer bk,.int .i64 ((tx+1:Nat):Int),(k:Nat),false,.pointer none]∧bB w w':=by
 have m:=hZ (h.below (i4 w.heap.size w).drew);have p:Hid (IntKind.i64.wrap ((tx:Int)+1)=((tx+1:Nat):Int)):=hZ (by rw[bLo _ (by omega)];omega)
 have q:=hZ h;have l:Hid (bB w (w.alloc (.cells #[vg,secs,vl,va,.pointer bk,.int .i64 ((tx:Int)+1),(k:Nat),.bool false,.pointer none] 174)).drew):=hZ ((bZ).drew);have r:Hid (Blk (w.alloc (.cells #[vg,secs,vl,va,.pointer bk,.int .i64 ((tx:Int)+1),(k:Nat),false,.pointer none] 174)).drew w.heap.size 174 [vg,secs,vl,va,.pointer bk,.int .i64 ((tx+1:Nat):Int),(k:Nat),false,.pointer none]):=hZ (Blk.new w _ _).drew;clear h ht;go_in;go_upto_region 1 with fail
 have f:=m.o;refine l7 (S:=fun w'=>Blk w' pb 112 (eD vg vl va secs tx nd sv bk wk ws dn)) (by kernel_rfl) f (fun f=>?_)
 refine aE 0 ?_;refine aE 1 ?_;refine aE 2 ?_;refine mX 3 ?vr3 ?yr3 ?_
 case yr3=>refine m5 (by kernel_rfl) 43 (.tmp 7) ?_ pb (0) ?_ ([vg,secs,vl,va]) _ (fun w' t=>aKf t) underlying43 rfl dC<;>rfl
 refine aE 4 ?_;refine aE 5 ?_;refine aE 6 ?_;refine aE 7 ?_ (hy:=by intro w c;(try dsimp only at c);go_simp;first|(rw[bCn c];rfl)|rfl)
 refine aE 8 ?_;refine aE 9 ?_;refine aE 10 ?_;refine aE 11 ?_;refine aE 12 ?_ (hy:=by intro w c;(try dsimp only at c);go_simp;first|(rw[bFe c];rfl)|rfl)
 refine aE 13 ?_;refine aE 14 ?_;refine aE 15 ?_ (hy:=by intro w c;(try dsimp only at c);go_simp;rw[p.o])
 refine dY (i:=16) (h:=fun K z=>?_)
 go_simp
 skip
 refine z.o _ _ (q.o.below l.o) (fun A=>?_)
 refine aE 17 ?_;refine r8 (by kernel_rfl) ?_ _
 go_wp2_with fail;go_ret;exact⟨rfl,r.o,l.o⟩
end
end
theorem aWn (n:Nat):(madeCells (Value.agg yF).cells (n*2)).toList=bG (List.replicate n (0,0)):=by
 have p:(bG (List.replicate n ((0:Nat),(0:Nat)))).length=n*2:=by rw[gJ];simp
 refine bNg fun i=>?_
 by_cases l:i<n*2
 ·have m:(madeCells (Value.agg yF).cells (n*2)).toList[i]?=some (0:Int):=by
   unfold madeCells;have:i%2=0∨i%2=1:=by omega
   rcases this with h|h<;>simp[l,h,Value.cells]
  have e2:∀v∈bG (List.replicate n ((0:Nat),(0:Nat))),v=Value.int .i64 0:=fun v c=>by
   unfold bG at c;obtain⟨r,hr,c⟩:=List.mem_flatMap.1 c;have f:=List.eq_of_mem_replicate hr;subst f;simpa using c
  rw[m,b9 (by omega)]
  exact o7 some (e2 _ (n5 _)).symm
 ·rw[m7 (by rw[bOd,size_madeCells];omega),m7 (by omega)]
theorem aZk (n:Nat) (m:n≤1000000) (w:World):(Instr.makeSlice 60 (.int .i64 (n:Int)) (.int .i64 (n:Int))).run prog w= .ok (.slice (some ⟨w.heap.size,0,none⟩) n n) (w.alloc (.cells (bG (List.replicate n (0,0))).toArray 69)):=by
 obtain⟨i,l,c,f,h⟩:=bMo aSw;have:=run_make (P:=prog) w 60 69 i (.agg yF) underlying60 l c .i64 .i64 (n:Int) (n:Int) (by omega) (by omega) (by rw[h];omega) (by omega)
 rw[this,f];simp only[s7];rw[←aWn]
theorem aJm (J:bV w x V F) (hr:x.right=true):
  Calls prog 60 #[V.val x.secs] w fun e w'=>∃pb bb eb p gs,e= .returned (.pointer (some ⟨pb,0,none⟩))∧w.heap.size≤pb∧Blk w' pb 112 (eD V.g V.l V.a x.secs 0 nD (.slice (some ⟨gs,0,none⟩) x.ds.length x.ds.length) (some ⟨bb,0,none⟩) none none false)∧
   w'.ownsRow w.heap.size 69 2 (.slice (some gs) x.ds.length x.ds.length) x.ds.length (bG (List.replicate x.ds.length (0,0)))∧
   aW w' bb eb x.gs x.secs p (List.replicate x.gs.length 0)∧(∀j,j<x.gs.length→(p.getD j mD).2=((jF (x.gs.getD j (0,0)) x.secs).toNat,[]))∧(∀k,eK bb eb p k→w.heap.size≤k)∧Below w.heap.size w w':=by
 obtain⟨ga,gc,c,lc,f,wc,L,ad⟩:=J.form;have T:V.val x.secs= .agg #[.slice ga x.gs.length gc,x.secs,.slice c x.ds.length lc,.slice f x.ds.length wc]:=by rw[L];rfl
 obtain⟨O,q⟩:=nZ (w.alloc (.cells #[.slice ga x.gs.length gc,x.secs,.slice c x.ds.length lc,.slice f x.ds.length wc] 43));have D:bB w O:=by rw[q];exact bZ
 have r:Blk O w.heap.size 43 [.slice ga x.gs.length gc,x.secs,.slice c x.ds.length lc,.slice f x.ds.length wc]:=by rw[q];exact Blk.new w _ _
 have ao:=hZ (aNj ga x.gs.length gc x.gs x.secs O (RSl.below ad D) (bL hr).1);have E:=hZ D;have ag:=hZ r;have au:=J.gslen;rw[T];rw[L];have c0:=r.cell 0;have ap:=r.cell 1;obtain⟨n,ax⟩:=nZ x.ds.length;obtain⟨az,ay⟩:=nZ x.gs.length;clear J hr L ad T D r;go_in;go_upto_region 1 with fail
 rw[←q];clear q;go_wp2_with fail;refine ao.o.mono ?_;rintro e w1 ⟨bb,eb,p,rfl,U,X,Y,G⟩;have ah:=hZ U;have ai:=hZ X;have aj:=hZ Y;have H:=hZ (E.o.trans (G.mono E.o.size));have Z:=hZ (ag.o.below G);clear U X Y G c0 ap;obtain⟨m,t⟩:=nZ (w1.drew.alloc (.cells (bG (List.replicate x.ds.length (0,0))).toArray 69));have ak:(Instr.makeSlice 60 (.int .i64 (x.ds.length:Int)) (.int .i64 (x.ds.length:Int))).run prog w1.drew= .ok (.slice (some ⟨w1.heap.size,0,none⟩) x.ds.length x.ds.length) m:=by rw[t];exact aZk x.ds.length (by omega) w1.drew
 have z:bB w1 m:=by rw[t];exact(i4 w1.heap.size w1).drew.alloc (d8 _) _
 have al:Hid (Blk m w1.heap.size 69 (bG (List.replicate x.ds.length (0,0)))):=hZ (by rw[t];exact Blk.new w1.drew _ _)
 have I:=hZ (H.o.trans (z.mono H.o.size));have am:=hZ z;have aa:=hZ (Z.o.below z);clear t z;go_upto_region 2 with fail
 have ab:=Z.o.drew;refine l7 (S:=fun w'=>Blk w' w.heap.size 43 [.slice ga x.gs.length gc,x.secs,.slice c x.ds.length lc,.slice f x.ds.length wc]) (by kernel_rfl) ab (fun ab=>?_)
 refine mX 0 ?vr0 ?yr0 ?_
 case yr0=>refine m5 (by kernel_rfl) 43 (.tmp 1) ?_ w.heap.size (0) ?_ ([.slice ga x.gs.length gc,x.secs,.slice c x.ds.length lc,.slice f x.ds.length wc]) _ (fun w' aq=>fZ aq) underlying43 rfl dC<;>rfl
 refine aE 1 ?_;refine aE 2 ?_;refine sB (i:=3) (v:=?vr3) (hy:=?yr3) (h:=?_)
 case yr3=>intro w ac;(try dsimp only at ac);go_simp;first|(rw[show w.cell? _=_ from Blk.cell ac 2];rfl)|rfl
 refine aE 4 ?_;refine dY (i:=5) (h:=fun K R=>?_)
 go_simp
 skip
 refine R.o _ _ (aa.o) (fun av=>?_)
 refine aE 6 ?_;refine aE 7 ?_;refine dY (i:=8) (h:=fun K R=>?_)
 go_simp
 skip
 refine R.o _ _ (aa.o.alloc _) (fun aw=>?_)
 refine aE 9 ?_;refine r8 (by kernel_rfl) ?_ _
 have an:Hid (Below w.heap.size w (m.alloc (.cells (eD (.slice ga x.gs.length gc) (.slice c x.ds.length lc) (.slice f x.ds.length wc) x.secs 0 nD (.slice (some ⟨w1.heap.size,0,none⟩) x.ds.length x.ds.length) (some ⟨bb,0,none⟩) none none false).toArray 112))):=hZ (I.o.alloc I.o.size _);have A:=gQ (base:=w.heap.size) (n:=x.ds.length) (cap:=x.ds.length) (size:=2) (al.o.alloc (.cells (eD (.slice ga x.gs.length gc) (.slice c x.ds.length lc) (.slice f x.ds.length wc) x.secs 0 nD (.slice (some ⟨w1.heap.size,0,none⟩) x.ds.length x.ds.length) (some bb) none none false).toArray 112)) H.o.size (d8 _) (by unfold maxLen;omega) (by rw[gJ];simp)
 rw[bLq (by rw[gJ];simp)] at A
 have ae:=hZ A;have af:=hZ ((ah.o.below am.o).below ((i4 m.heap.size m).alloc (d8 _) (.cells (eD (.slice ga x.gs.length gc) (.slice c x.ds.length lc) (.slice f x.ds.length wc) x.secs 0 nD (.slice (some ⟨w1.heap.size,0,none⟩) x.ds.length x.ds.length) (some bb) none none false).toArray 112)));clear A ak;go_wp2_with fail;go_ret;exact⟨m.heap.size,bb,eb,p,w1.heap.size,rfl,I.o.size,Blk.new m _ _,ae.o,af.o,ai.o,fun k ar=>l6 E.o.size (aj.o k ar),an.o⟩
section
theorem rU {x:Operand} {ty:TypeId} {pos:String}:
  Oper.wp prog ⟨dst,.store 43 x y,ty,pos,after,guard⟩ a w next Q=cS prog ⟨dst,.store 43 x y,ty,pos,after,guard⟩ 43 (a.eval x) (a.eval y) a w next Q:=rfl
attribute [local go_sem ↓] iL fN cB rU aAr xB
theorem aGc:(prog.info? 24).map (·.size)=some 2:=by kernel_rfl
theorem bIm:(prog.info? 4).map (fun i=>(i.zero,i.size,i.bytes))=some (some (.bool false),1,1):=by kernel_rfl
theorem bIx:(prog.info? 83).map (fun i=>(i.zero,i.size,i.bytes))=some (some (.pointer none),1,8):=by kernel_rfl
theorem aSq (n:Nat) (m:n≤1000000) (w:World):(Instr.makeSlice 41 (.int .i64 (n:Int)) (.int .i64 (n:Int))).run prog w= .ok (.slice (some ⟨w.heap.size,0,none⟩) n n) (w.alloc (.cells (aZ (List.replicate n false)).toArray 4)):=by
 obtain⟨i,l,c,f,h⟩:=bMo bIm;have:=run_make (P:=prog) w 41 4 i false underlying41 l c .i64 .i64 (n:Int) (n:Int) (by omega) (by omega) (by rw[h];omega) (by omega)
 rw[this,f];simp only[s7];have e:(madeCells (Value.bool false).cells (n*1)).toList=aZ (List.replicate n false):=by
  rw[Nat.mul_one,aZ,List.map_replicate];exact toList_madeCells_one _ _
 rw[←e]
theorem aOq (hr:bH gs secs=true):cK gs≤32:=by
 have h1:=(pZ hr gs.length (d8 _)).2;have h2:=(aS hr).2.1;unfold cK;omega
theorem aXg (l:Nat):∀u∈jP [l],u.oneCell'=true:=by simp[jP,Value.oneCell']
theorem aLd (a b:List Nat):jP (a++b)=jP a++jP b:=by simp[jP]
theorem vE (f h i:Option Addr) (l m n2 c2 p c3:Nat) (z:Int):∀u∈[Value.slice f l m,z,.slice h n2 c2,.slice i p c3],u.oneCell'=true:=by
 intro u c;simp only[s8,bLp,bNo] at c;rcases c with rfl|rfl|rfl|rfl<;>rfl
theorem aQi {p u:Tmp} (h:fn.results=#[.cell p 43,.tmp u]) (f:Array Value) (w:World) (g:Nat) (a b c d:Value)
  (l:f.getD p undef= .pointer (some g)) (m:Blk w g 43 [a,b,c,d]):
  (results fn f).run prog w= .ok (.tuple #[.agg #[a,b,c,d],f.getD u undef]) w:=by
 have i:f[p]?.getD undef= .pointer (some g):=by simpa using l
 simp[results,h,i,asAddr,run_loadVar_mid (P:=prog) w g 0 43 [a,b,c,d] _ (fun j v q=>by rw[r9,m.cell,q]) underlying43 rfl oQ]
theorem aUh (h:w.ownsRow b e k v n xs) (i:Blk w g e2 cs) (l:e≠e2):(w.setCells g 0 ds).ownsRow b e k v n xs:=
 dQ h (fun f c=>(aJ g ds w 0).block f (h.lt f c).2 (fun m=>by
  have p:=bMs m;subst p;exact qZ h i l c))
def cN (gs:Gs) (secs:Int) (sz:Nat):aK:=⟨gs,secs,List.replicate (cK gs) (iA sz 0),List.replicate (cK gs) false⟩
structure xM (w:World) (ga:Option Addr) (gc n:Nat) (gs:Gs) (secs:Int) (N sz:Nat) (vg va:Value) (k:Nat) (dbs:List Nat) (Fd:Nat→Nat→Prop) (wr:World):Prop where
 geo:Blk wr w.heap.size 24 [.slice ga n gc,.int .i64 secs]
 res:Blk wr (w.heap.size+1) 43 [.slice none 0 0,.int .i64 0,.slice none 0 0,.slice none 0 0]
 grp:wr.ownsRow 0 73 2 vg n (iR gs)
 awy:wr.ownsRow 0 4 1 va N (aZ (List.replicate N false))
 dl:dbs.length=k
 dev:∀i,i<k→dJ wr (dbs.getD i 0) (iA sz 0) (Fd i)
 dj:∀i j g,i<k→j<k→i≠j→Fd i g→¬Fd j g
 dn:∀i g,i<k→Fd i g→w.heap.size≤g
 gn:∀g,vg.ownBlock=some g→w.heap.size≤g
 an:∀g,va.ownBlock=some g→w.heap.size≤g
 bel:Below w.heap.size w wr
def vnB (w:World) (vg va:Value) (k:Nat) (Fd:Nat→Nat→Prop) (g:Nat):Prop:=g=w.heap.size∨g=w.heap.size+1∨vg.ownBlock=some g∨va.ownBlock=some g∨∃i,i<k∧Fd i g
section
variable {w:World} {ga:Option Addr} {gc n:Nat} {gs:Gs} {secs:Int} {N sz:Nat} {vg va:Value} {k:Nat} {dbs:List Nat} {Fd:Nat→Nat→Prop} {wr wd:World}
theorem xM.keep (h:xM w ga gc n gs secs N sz vg va k dbs Fd wr) (c:∀g,vnB w vg va k Fd g→wd.heap[g]?=wr.heap[g]?) (m:bB w wd):xM w ga gc n gs secs N sz vg va k dbs Fd wd:=by
 refine⟨?_,?_,dQ h.grp (fun g f=>c g (.inr (.inr (.inl f)))),dQ h.awy (fun g f=>c g (.inr (.inr (.inr (.inl f))))),h.dl,fun i l=>(h.dev i l).keep (fun g f=>c g (.inr (.inr (.inr (.inr ⟨i,l,f⟩))))),h.dj,h.dn,h.gn,h.an,m⟩
 ·unfold Blk;rw[c _ (.inl rfl)];exact h.geo
 ·unfold Blk;rw[c _ (.inr (.inl rfl))];exact h.res
theorem xM.lt (h:xM w ga gc n gs secs N sz vg va k dbs Fd wr):∀g,vnB w vg va k Fd g→g<wr.heap.size:=by
 rintro g (rfl|rfl|h1|h1|⟨i,c,h1⟩)
 ·exact h.geo.lt
 ·exact h.res.lt
 ·exact(h.grp.lt g h1).2
 ·exact(h.awy.lt g h1).2
 ·exact(h.dev i c).lt g h1
theorem xM.below (h:xM w ga gc n gs secs N sz vg va k dbs Fd wr) (c:bB wr wd):xM w ga gc n gs secs N sz vg va k dbs Fd wd:=
 h.keep (fun g f=>c.block g (h.lt g f)) (h.bel.trans (c.mono h.bel.size))
theorem zT (f h:Option Addr) (i l n2 c2:Nat) (z:Int):∀u∈[Value.slice f i l,z,.slice none 0 0,.slice h n2 c2],u.oneCell'=true:=by
 intro u c;simp only[s8,bLp,bNo] at c;rcases c with rfl|rfl|rfl|rfl<;>rfl
theorem xM.start (r:Blk W w.heap.size 24 [.slice ga n gc,secs]) (hr:Blk w1 (w.heap.size+1) 43 zC) (f:bB w w1) (h:bB w1 W) (h1:W.ownsRow 0 73 2 vg n (iR gs)) (h2:Blk W gm 4 (aZ (List.replicate N false))) (l:Blk W g6 43 cs) (t:w.heap.size+2≤w1.heap.size) (z:w1.heap.size≤g6) (A:w1.heap.size≤gm) (D:N≤1000) (p:∀g,vg.ownBlock=some g→w.heap.size≤g):
  xM w ga gc n gs secs N sz vg (.slice (some gm) N N) 0 [] (fun _ _=>False) (W.setCells g6 0 ds):=by
 have m:W.ownsRow 0 4 1 (.slice (some gm) N N) N (aZ (List.replicate N false)):=by
  have:=gQ (base:=0) (n:=N) (cap:=N) (size:=1) h2 (z6 _) (d8 _) (by unfold maxLen;omega) (by simp[aZ])
  rwa [bLq (by simp[aZ])] at this
 refine⟨r.away 0 ds (by omega),(hr.below h).away 0 ds (by omega),aUh h1 l (by decide),aUh m l (by decide),rfl,fun i c=>absurd c (by omega),fun i j g c=>absurd c (by omega),fun i g c=>absurd c (by omega),p,fun g q=>?_,?_⟩
 ·have e:gm=g:=by simpa[Value.ownBlock] using q
  omega
 ·exact(f.trans (h.mono f.size)).trans ⟨(aJ g6 ds W 0).os,(aJ g6 ds W 0).tape,(aJ g6 ds W 0).output,(aJ g6 ds W 0).size,fun k E=>(aJ g6 ds W 0).block k (by have:=f.size;have:=h.size;omega) (fun e=>by have:=bMs e;omega)⟩
theorem xM.type (h:xM w ga gc n gs secs N sz vg va k dbs Fd wr):∀g,vnB w vg va k Fd g→∀cs e fr,wr.heap[g]?=some (Obj.cells cs e fr)→e≠83∧(e=43→g=w.heap.size+1):=by
 intro g r cs e fr f;have p:∀{l:Nat} {q:List Value},Blk wr g l q→e=l:=fun h1=>by
  unfold Blk at h1;rw[h1] at f;simp only[i5,n7] at f;exact f.2.1.symm
 have m:∀{l k' t:Nat} {v:Value} {xs:List Value},wr.ownsRow 0 l k' v t xs→v.ownBlock=some g→e=l:=fun hr z=>by
  obtain⟨D,E,h1⟩:=cC hr z;rw[h1] at f;simp only[i5,n7] at f;exact f.2.1.symm
 rcases r with rfl|rfl|h1|h1|⟨i,A,h1⟩
 ·have c:=p h.geo;subst c;exact⟨by decide,fun e=>absurd e (by decide)⟩
 ·have c:=p h.res;subst c;exact⟨by decide,fun _=>rfl⟩
 ·have c:=m h.grp h1;subst c;exact⟨by decide,fun e=>absurd e (by decide)⟩
 ·have c:=m h.awy h1;subst c;exact⟨by decide,fun e=>absurd e (by decide)⟩
 ·rcases(h.dev i A).type g h1 cs e fr f with c|c<;>subst c<;>exact⟨by decide,fun e=>absurd e (by decide)⟩
theorem xM.app (h:xM w ga gc n gs secs N sz vg va k dbs Fd wr) (f:wr.ownsRow b2 83 1 v2 n2 xs) (i:wr.grownBy wd v2.ownBlock) (l:w.heap.size≤b2) (t:w.heap.size+2≤g6) (r:Blk wr g6 43 cs) (j:Nat):xM w ga gc n gs secs N sz vg va k dbs Fd (wd.setCell ⟨g6,j,none⟩ u):=by
 refine h.keep (fun g c=>?_) ?_
 ·have m:=h.lt g c
  have p:¬v2.ownBlock=some g:=fun e=>by
   obtain⟨z,A,h1⟩:=cC f e;exact(h.type g c _ _ _ h1).1 rfl
  have q:g≠g6:=fun e=>by
   subst e;have:=(h.type g c _ _ _ r).2 rfl;omega
  rw[bNu _ _ _ _ q];exact i.block g m (fun e=>p e.symm)
 ·exact(cF (B:=w.heap.size) h.bel f i h.bel.size l).setCell (by show w.heap.size≤g6;omega) _
theorem xM.more (h:xM w ga gc n gs secs N sz vg va k dbs Fd wr) (hd:dJ wr db (iA sz 0) F) {B:Nat} (hF:∀g,F g→B≤g) (t:w.heap.size≤B) (f:∀i g,i<k→Fd i g→g<B):xM w ga gc n gs secs N sz vg va (k+1) (dbs++[db]) (fun i=>if i=k then F else Fd i) wr:=by
 refine⟨h.geo,h.res,h.grp,h.awy,by simp[h.dl],fun i m=>?_,fun i j g m z l h1 h2=>?_,fun i g m h1=>?_,h.gn,h.an,h.bel⟩
 ·by_cases e:i=k
  ·subst e
   rw[i6 rfl,a8,bMq (by rw[h.dl];exact d8 _),h.dl]
   simpa using hd
  ·rw[i9 e,a8,bMz (by rw[h.dl];omega),←a8]
   exact h.dev i (by omega)
 ·try dsimp only at h1 h2
  by_cases c:i=k
  ·subst c
   rw[i6 rfl] at h1;rw[i9 (fun e=>l e.symm)] at h2
   have q:=hF g h1;have r:=f j g (by omega) h2
   omega
  ·rw[i9 c] at h1
   by_cases p:j=k
   ·subst p
    rw[i6 rfl] at h2;have q:=hF g h2;have r:=f i g (by omega) h1
    omega
   ·rw[i9 p] at h2
    exact h.dj i j g (by omega) (by omega) l h1 h2
 ·try dsimp only at h1
  by_cases c:i=k
  ·rw[i6 c] at h1
   have:=hF g h1;omega
  ·rw[i9 c] at h1
   exact h.dn i g (by omega) h1
theorem xM.fin (h:xM w ga gc n gs secs N sz vg va N dbs Fd wr) (r:wr.ownsRow b2 83 1 vl N (jP dbs)) (z:w.heap.size≤b2) (E:n=gs.length) (l:N=cK gs) (O:secs=(sz:Nat)) (h1:1≤secs) (h2:secs≤4096) (G:N≤1000):
  ∃F,bV wr (cN gs secs sz) ⟨vg,vl,va⟩ F∧∀g,F g→w.heap.size≤g:=by
 have A:∀i,i<N→(List.replicate (cK gs) (iA sz 0)).getD i eN=iA sz 0:=fun i c=>by
  rw[a8,List.getElem?_replicate,i6 (by omega)];rfl
 have q:∀{t k' H:Nat} {v:Value} {xs:List Value} (i g:Nat),i<N→Fd i g→wr.ownsRow 0 t k' v H xs→t≠139→t≠9→v.ownBlock≠some g:=fun i g c p hr I e2 J=>by
  obtain⟨R,T,K⟩:=cC hr J;rcases(h.dev i c).type g p _ _ _ K with e|e
  ·exact I e
  ·exact e2 e
 refine⟨_,⟨dbs,Fd,⟨?_,?_,?_,?_,?_,fun i c=>?_,fun i j g c L=>?_,fun i g c p=>?_,⟨h1,h2⟩,?_⟩,fun g=>Iff.rfl⟩,?_⟩
 ·show wr.ownsRow 0 _ 2 vg gs.length _
  rw[←E];exact h.grp
 ·show wr.ownsRow 0 _ 1 vl dbs.length _
  rw[h.dl];exact cY r (z6 _)
 ·show wr.ownsRow 0 _ 1 va (List.replicate (cK gs) false).length (aZ (List.replicate (cK gs) false))
  rw[bLw,←l];exact h.awy
 ·show dbs.length=(List.replicate _ _).length
  rw[h.dl,bLw,l]
 ·show(List.replicate _ _).length=(List.replicate _ _).length
  rw[bLw,bLw]
 ·have f:i<N:=by rw[l];simpa[cN] using c
  show dJ wr (dbs.getD i 0) ((List.replicate (cK gs) (iA sz 0)).getD i eN) (Fd i)
  rw[A i f];exact h.dev i f
 ·have f:i<N:=by rw[l];simpa[cN] using c
  have D:j<N:=by rw[l];simpa[cN] using L
  exact h.dj i j g f D
 ·have f:i<N:=by rw[l];simpa[cN] using c
  exact⟨q i g f p h.grp (by decide) (by decide),q i g f p (cY r (z6 _)) (by decide) (by decide),q i g f p h.awy (by decide) (by decide)⟩
 ·show(List.replicate _ _).length≤1000
  rw[bLw,←l];exact G
 ·rintro g (m|m|m|⟨i,c,m⟩)
  ·exact h.gn g m
  ·exact l6 z (r.lt g m).1
  ·exact h.an g m
  ·exact h.dn i g (by rw[l];simpa[cN] using c) m
end
theorem bDo (ga:Option Addr) (n gc:Nat) (gs:Gs) (secs:Int) (w:World) (h:oZ w ga n gc gs) (hr:bH gs secs=true):
  Calls prog 63 #[.agg #[.slice ga n gc,.int .i64 secs],.int .u8 0] w fun e w'=>∃V F,e= .returned (.tuple #[V.val secs,.int .i64 0])∧bV w' (cN gs secs secs.toNat) V F∧(∀g,F g→w.heap.size≤g)∧Below w.heap.size w w':=by
 have dw:=h.len;have bc:=aS hr;obtain⟨sz,cj⟩:∃sz:Nat,secs=(sz:Nat):=⟨secs.toNat,by omega⟩
 have cz:secs.toNat=sz:=by omega
 rw[cz];obtain⟨N,bh⟩:=nZ (cK gs);have hp:N≤32:=by rw[bh];exact aOq hr
 obtain⟨fy,fz,fh,fi,fj⟩:=bMo bIx;obtain⟨ac,ab⟩:=nZ ((w.alloc (.cells #[.slice ga n gc,.int .i64 secs] 24)).alloc (.cells #[.slice none 0 0,.int .i64 0,.slice none 0 0,.slice none 0 0] 43));have di:Below w.heap.size w ac:=by rw[ab];exact(bZ).alloc (by simp) _
 have dj:Blk ac w.heap.size 24 [.slice ga n gc,.int .i64 secs]:=by rw[ab];exact(Blk.new w _ _).alloc _
 have dk:Blk ac (w.heap.size+1) 43 [.slice none 0 0,.int .i64 0,.slice none 0 0,.slice none 0 0]:=by rw[ab];exact Blk.newAt (w:=w.alloc _) _ _ (by simp)
 have hq:ac.heap.size=w.heap.size+2:=by rw[ab];simp
 have ck:=fun W (Y:Below w.heap.size w W)=>gX ga n gc gs secs W (h.below Y)
 rw[hr] at ck;have fk:=hZ ck;have cl:Hid (∀W,Below w.heap.size w W→Calls prog 62 #[.agg #[.slice ga n gc,.int .i64 secs]] W fun e w'=>e= .returned (.int .i64 (N:Nat))∧Below W.heap.size W w'):=hZ (fun W Y=>by rw[bh];exact rI ga n gc gs secs W (h.below Y) hr)
 have dl:Hid (∀W,Below w.heap.size w W→Calls prog 120 #[.slice ga n gc] W fun e w'=>∃v,e= .returned v∧w'.ownsRow W.heap.size 73 2 v n (iR gs)∧Below W.heap.size W w'):=hZ (fun W Y=>aGb ga n gc (iR gs) W (RSl.below h Y) (aNx _) (by omega))
 have fl:Hid (∀W,Calls prog 121 #[.int .i64 secs] W fun e w'=>∃db F,e= .returned (.tuple #[.pointer (some ⟨db,0,none⟩),.int .i64 0])∧dJ w' db (iA sz 0) F∧(∀g,F g→W.heap.size≤g)∧Below W.heap.size W w'):=hZ (fun W=>by rw[cj];exact bDc sz W (by omega) (by omega))
 have fm:Hid (∀(W:World) db F,dJ W db (iA sz 0) F→Calls prog 29 #[.pointer (some ⟨db,0,none⟩),.int .u8 0] W fun e w'=>e= .returned (.tuple #[])∧fP db (iA sz 0) F W w'):=hZ (fun W db F Y=>by
  have:=aEr Y 0;have e:(iA sz 0).med.length=sz:=by show(kF sz 0).length=sz;rw[xA]
  rw[e] at this;exact this)
 have hs:=aSq N (by omega)
 have gd:=hZ dw;have hv:=hZ bc;have fo:=hZ cj;have fp:=hZ bh;have dm:=hZ di;have cm:=hZ dj;have fq:=hZ dk;have hh:24≤secs:=bc.2.2.1;have eb:secs≤4096:=bc.2.2.2.1;have ht:n≤4:=by omega
 clear h hr ck dw bc cj cz bh di dj dk;go_enter func63,ntmps63;go_upto_region 1 with fail
 rw[←ab];clear ab;have c0:ac.cell? ⟨w.heap.size,0,none⟩=some (.slice ga n gc):=cm.o.cell 0;have cr:ac.cell? ⟨w.heap.size,1,none⟩=some (.int .i64 secs):=cm.o.cell 1;go_wp2_with fail;refine(fk.o _ dm.o).mono ?_;rintro e w1 ⟨rfl,ak⟩;have I:Hid (Below w.heap.size w w1):=hZ (dm.o.trans (ak.mono (by omega)))
 have fr:=hZ (cm.o.below ak);have bd:=hZ (fq.o.below ak);have R:w.heap.size+2≤w1.heap.size:=by have:=ak.size;omega
 clear ak c0 cr;go_upto_region 3 with fail
 go_cut [6] (fun v dx=>∃(g6:Nat) (vg va:Value),v= .pointer (some ⟨g6,0,none⟩)∧Hid (Blk dx g6 43 [vg,.int .i64 secs,.slice none 0 0,va])∧Hid (xM w ga gc n gs secs N sz vg va 0 [] (fun _ _=>False) dx)∧w.heap.size+2≤g6)
 case first=>
  have al:Blk w1.drew w.heap.size 24 [.slice ga n gc,.int .i64 secs]:=fr.o;have T:Hid (Below w1.heap.size w1 w1.drew):=hZ (i4 _ _).drew;refine l7 (S:=fun W=>Blk W w.heap.size 24 [.slice ga n gc,.int .i64 secs]) (by kernel_rfl) al (fun al=>?_)
  refine aE 0 ?_;refine sB (i:=1) (v:=?vc1) (hy:=?yc1) (h:=?_)
  case yc1=>intro w am;(try dsimp only at am);go_simp;rw[am.cell 0];rfl
  try simp only[Act.put,z1,z2,z3]
  refine aE 3 ?_;refine sB (i:=4) (v:=?vc4) (hy:=?yc4) (h:=?_)
  case yc4=>intro w am;(try dsimp only at am);go_simp;rw[am.cell 1];rfl
  try simp only[Act.put,z1,z2,z3]
  refine mX 6 ?vc6 ?yc6 ?_
  case yc6=>refine m5 (by kernel_rfl) 24 (.tmp 2) ?_ w.heap.size (0) ?_ ([.slice ga n gc,.int .i64 secs]) _ (fun w' (ge:Blk w' _ _ _)=>jX ge) underlying24 rfl aGc<;>rfl
  refine wpAnyH_ready (rs:=[2,10]) (by kernel_rfl) (by simp) ?_
  refine z8 (by simp only[n9,m9,n8];rfl) (fun K f=>?_) (z8 (by simp only[n9,m9,n8];rfl) (fun K f=>?_) AllReadyH.nil)
  ·go_simp
   refine(dl.o _ (I.o.trans (T.o.mono (by omega)))).mono ?_
   rintro e r ⟨vz1,rfl,av,ca⟩;obtain⟨l,m,rfl⟩:=aY av;have da:Hid ((r).ownsRow 0 73 2 (Value.slice l n m) n (iR gs)):=hZ (cY av (z6 _));have bq:Hid (∀g,(Value.slice l n m).ownBlock=some g→w.heap.size≤g):=hZ (fun g A=>by have:=(av.lt g A).1;have:=T.o.size;omega)
   have Z:Hid (Below w1.heap.size w1 (r)):=hZ (T.o.trans (ca.mono T.o.size));have aw:Hid (Blk (r) w.heap.size 24 [.slice ga n gc,.int .i64 secs]):=hZ (al.below ca);clear ca av
   try dsimp only
   refine f.o _ _ (aw.o) (fun hi=>?_)
   try simp only[Act.put,z1,z2,z3]
   refine aE 5 ?_;refine wpAnyH_ready (rs:=[7,10]) (by kernel_rfl) (by simp) ?_
   refine z8 (by simp only[n9,m9,n8];rfl) (fun K f=>?_) (z8 (by simp only[n9,m9,n8];rfl) (fun K f=>?_) AllReadyH.nil)
   ·go_simp
    refine(cl.o _ (I.o.trans (Z.o.mono (by omega)))).mono ?_
    rintro e c ⟨rfl,ax⟩;have aa:Hid (Below w1.heap.size w1 (c)):=hZ (Z.o.trans (ax.mono Z.o.size));have dc:Hid ((c).ownsRow 0 73 2 (Value.slice l n m) n (iR gs)):=hZ (aD da.o ax);have af:Hid (Blk (c) w.heap.size 24 [.slice ga n gc,.int .i64 secs]):=hZ (aw.o.below ax);clear ax
    try dsimp only
    refine f.o _ _ (af.o) (fun hb=>?_)
    try simp only[Act.put,z1,z2,z3]
    refine wpAnyH_ready (rs:=[8,10]) (by kernel_rfl) (by simp) ?_
    refine z8 (by simp only[n9,m9,n8];rfl) (fun K f=>?_) (z8 (by simp only[n9,m9,n8];rfl) (fun K f=>?_) AllReadyH.nil)
    ·go_simp
     skip
     refine f.o _ _ (af.o.alloc _) (fun gw=>?_)
     try simp only[Act.put,z1,z2,z3]
     have eo:Hid (Blk ((c).alloc (.cells (aZ (List.replicate N false)).toArray 4)) (c.heap.size) 4 (aZ (List.replicate N false))):=hZ (Blk.newAt _ _ (by simp))
     have ec:Hid (w1.heap.size≤c.heap.size):=hZ (by have:=aa.o.size;simpa using this)
     have ay:Below (c).heap.size (c) ((c).alloc (.cells (aZ (List.replicate N false)).toArray 4)):=bZ;have cb:Hid (Below w1.heap.size w1 ((c).alloc (.cells (aZ (List.replicate N false)).toArray 4))):=hZ (aa.o.trans (ay.mono aa.o.size));have ep:Hid (((c).alloc (.cells (aZ (List.replicate N false)).toArray 4)).ownsRow 0 73 2 (Value.slice l n m) n (iR gs)):=hZ (aD dc.o ay);have dd:Hid (Blk ((c).alloc (.cells (aZ (List.replicate N false)).toArray 4)) w.heap.size 24 [.slice ga n gc,.int .i64 secs]):=hZ (af.o.below ay);clear ay;refine aE 9 ?_;refine dY (i:=10) (h:=fun K f=>?_)
     go_simp
     skip
     refine f.o _ _ (dd.o.alloc _) (fun gq=>?_)
     try simp only[Act.put,z1,z2,z3]
     have cc:Hid (Blk (((c).alloc (.cells (aZ (List.replicate N false)).toArray 4)).alloc (.cells #[.slice none 0 0,.int .i64 0,.slice none 0 0,.slice none 0 0] 43)) (c.heap.size+1) 43 [.slice none 0 0,.int .i64 0,.slice none 0 0,.slice none 0 0]):=hZ (Blk.newAt _ _ (by simp))
     have br:Hid (w1.heap.size≤c.heap.size+1):=hZ (by have:=cb.o.size;simpa using this)
     have ag:Below ((c).alloc (.cells (aZ (List.replicate N false)).toArray 4)).heap.size ((c).alloc (.cells (aZ (List.replicate N false)).toArray 4)) (((c).alloc (.cells (aZ (List.replicate N false)).toArray 4)).alloc (.cells #[.slice none 0 0,.int .i64 0,.slice none 0 0,.slice none 0 0] 43)):=bZ;have eq:Hid (Below w1.heap.size w1 (((c).alloc (.cells (aZ (List.replicate N false)).toArray 4)).alloc (.cells #[.slice none 0 0,.int .i64 0,.slice none 0 0,.slice none 0 0] 43))):=hZ (cb.o.trans (ag.mono cb.o.size));have er:Hid ((((c).alloc (.cells (aZ (List.replicate N false)).toArray 4)).alloc (.cells #[.slice none 0 0,.int .i64 0,.slice none 0 0,.slice none 0 0] 43)).ownsRow 0 73 2 (Value.slice l n m) n (iR gs)):=hZ (aD ep.o ag);have es:Hid (Blk (((c).alloc (.cells (aZ (List.replicate N false)).toArray 4)).alloc (.cells #[.slice none 0 0,.int .i64 0,.slice none 0 0,.slice none 0 0] 43)) (c.heap.size) 4 (aZ (List.replicate N false))):=hZ (eo.o.below ag);have de:Hid (Blk (((c).alloc (.cells (aZ (List.replicate N false)).toArray 4)).alloc (.cells #[.slice none 0 0,.int .i64 0,.slice none 0 0,.slice none 0 0] 43)) w.heap.size 24 [.slice ga n gc,.int .i64 secs]):=hZ (dd.o.below ag);clear ag;refine dY (i:=11) (h:=fun K f=>?_)
     rw[i6 (by kernel_rfl)]
     refine bMx 43 (.tmp 6) (.tmp 22) rfl (c.heap.size+1) (0) ([Value.slice l n m,.int .i64 secs,.slice none 0 0,Value.slice (some ⟨c.heap.size,0,none⟩) N N]).toArray rfl rfl (cW cc.o (d8 4)) oQ (bLu (zT _ _ _ _ _ _ _)) ?_;refine f.o _ _ ((de.o.away 0 _ (by have:=br.o;have:=R;omega))) (fun gr=>?_)
     try simp only[Act.put,z1,z2,z3]
     refine r8 (by kernel_rfl) ?_ _
     have z:Hid (Blk ((((c).alloc (.cells (aZ (List.replicate N false)).toArray 4)).alloc (.cells #[.slice none 0 0,.int .i64 0,.slice none 0 0,.slice none 0 0] 43)).setCells (c.heap.size+1) 0 [Value.slice l n m,.int .i64 secs,.slice none 0 0,Value.slice (some ⟨c.heap.size,0,none⟩) N N]) (c.heap.size+1) 43 [Value.slice l n m,.int .i64 secs,.slice none 0 0,Value.slice (some ⟨c.heap.size,0,none⟩) N N]∧xM w ga gc n gs secs N sz (Value.slice l n m) (Value.slice (some ⟨c.heap.size,0,none⟩) N N) 0 [] (fun _ _=>False) ((((c).alloc (.cells (aZ (List.replicate N false)).toArray 4)).alloc (.cells #[.slice none 0 0,.int .i64 0,.slice none 0 0,.slice none 0 0] 43)).setCells (c.heap.size+1) 0 [Value.slice l n m,.int .i64 secs,.slice none 0 0,Value.slice (some ⟨c.heap.size,0,none⟩) N N])):=hZ ⟨cc.o.put rfl,xM.start de.o bd.o I.o eq.o er.o es.o cc.o R br.o ec.o (by omega) bq.o⟩
     go_wp2_with fail;go_meet;exact⟨_,_,_,rfl,hZ z.o.1,hZ z.o.2,by have:=br.o;omega⟩
    ·go_simp
     skip
     refine f.o _ _ (af.o.alloc _) (fun gt=>?_)
     try simp only[Act.put,z1,z2,z3]
     have et:Hid (Blk ((c).alloc (.cells #[.slice none 0 0,.int .i64 0,.slice none 0 0,.slice none 0 0] 43)) (c.heap.size) 43 [.slice none 0 0,.int .i64 0,.slice none 0 0,.slice none 0 0]):=hZ (Blk.newAt _ _ (by simp))
     have bs:Hid (w1.heap.size≤c.heap.size):=hZ (by have:=aa.o.size;simpa using this)
     have az:Below (c).heap.size (c) ((c).alloc (.cells #[.slice none 0 0,.int .i64 0,.slice none 0 0,.slice none 0 0] 43)):=bZ;have cd:Hid (Below w1.heap.size w1 ((c).alloc (.cells #[.slice none 0 0,.int .i64 0,.slice none 0 0,.slice none 0 0] 43))):=hZ (aa.o.trans (az.mono aa.o.size));have eu:Hid (((c).alloc (.cells #[.slice none 0 0,.int .i64 0,.slice none 0 0,.slice none 0 0] 43)).ownsRow 0 73 2 (Value.slice l n m) n (iR gs)):=hZ (aD dc.o az);have df:Hid (Blk ((c).alloc (.cells #[.slice none 0 0,.int .i64 0,.slice none 0 0,.slice none 0 0] 43)) w.heap.size 24 [.slice ga n gc,.int .i64 secs]):=hZ (af.o.below az);clear az;refine dY (i:=8) (h:=fun K f=>?_)
     go_simp
     skip
     refine f.o _ _ (df.o.alloc _) (fun gy=>?_)
     try simp only[Act.put,z1,z2,z3]
     have ev:Hid (Blk (((c).alloc (.cells #[.slice none 0 0,.int .i64 0,.slice none 0 0,.slice none 0 0] 43)).alloc (.cells (aZ (List.replicate N false)).toArray 4)) (c.heap.size+1) 4 (aZ (List.replicate N false))):=hZ (Blk.newAt _ _ (by simp))
     have ed:Hid (w1.heap.size≤c.heap.size+1):=hZ (by have:=cd.o.size;simpa using this)
     have ah:Below ((c).alloc (.cells #[.slice none 0 0,.int .i64 0,.slice none 0 0,.slice none 0 0] 43)).heap.size ((c).alloc (.cells #[.slice none 0 0,.int .i64 0,.slice none 0 0,.slice none 0 0] 43)) (((c).alloc (.cells #[.slice none 0 0,.int .i64 0,.slice none 0 0,.slice none 0 0] 43)).alloc (.cells (aZ (List.replicate N false)).toArray 4)):=bZ;have ew:Hid (Below w1.heap.size w1 (((c).alloc (.cells #[.slice none 0 0,.int .i64 0,.slice none 0 0,.slice none 0 0] 43)).alloc (.cells (aZ (List.replicate N false)).toArray 4))):=hZ (cd.o.trans (ah.mono cd.o.size));have ex:Hid ((((c).alloc (.cells #[.slice none 0 0,.int .i64 0,.slice none 0 0,.slice none 0 0] 43)).alloc (.cells (aZ (List.replicate N false)).toArray 4)).ownsRow 0 73 2 (Value.slice l n m) n (iR gs)):=hZ (aD eu.o ah);have ce:Hid (Blk (((c).alloc (.cells #[.slice none 0 0,.int .i64 0,.slice none 0 0,.slice none 0 0] 43)).alloc (.cells (aZ (List.replicate N false)).toArray 4)) (c.heap.size) 43 [.slice none 0 0,.int .i64 0,.slice none 0 0,.slice none 0 0]):=hZ (et.o.below ah);have dg:Hid (Blk (((c).alloc (.cells #[.slice none 0 0,.int .i64 0,.slice none 0 0,.slice none 0 0] 43)).alloc (.cells (aZ (List.replicate N false)).toArray 4)) w.heap.size 24 [.slice ga n gc,.int .i64 secs]):=hZ (df.o.below ah);clear ah;refine aE 9 ?_;refine dY (i:=11) (h:=fun K f=>?_)
     rw[i6 (by kernel_rfl)]
     refine bMx 43 (.tmp 6) (.tmp 22) rfl (c.heap.size) (0) ([Value.slice l n m,.int .i64 secs,.slice none 0 0,Value.slice (some ⟨c.heap.size+1,0,none⟩) N N]).toArray rfl rfl (cW ce.o (d8 4)) oQ (bLu (zT _ _ _ _ _ _ _)) ?_;refine f.o _ _ ((dg.o.away 0 _ (by have:=bs.o;have:=R;omega))) (fun gv=>?_)
     try simp only[Act.put,z1,z2,z3]
     refine r8 (by kernel_rfl) ?_ _
     have z:Hid (Blk ((((c).alloc (.cells #[.slice none 0 0,.int .i64 0,.slice none 0 0,.slice none 0 0] 43)).alloc (.cells (aZ (List.replicate N false)).toArray 4)).setCells (c.heap.size) 0 [Value.slice l n m,.int .i64 secs,.slice none 0 0,Value.slice (some ⟨c.heap.size+1,0,none⟩) N N]) (c.heap.size) 43 [Value.slice l n m,.int .i64 secs,.slice none 0 0,Value.slice (some ⟨c.heap.size+1,0,none⟩) N N]∧xM w ga gc n gs secs N sz (Value.slice l n m) (Value.slice (some ⟨c.heap.size+1,0,none⟩) N N) 0 [] (fun _ _=>False) ((((c).alloc (.cells #[.slice none 0 0,.int .i64 0,.slice none 0 0,.slice none 0 0] 43)).alloc (.cells (aZ (List.replicate N false)).toArray 4)).setCells (c.heap.size) 0 [Value.slice l n m,.int .i64 secs,.slice none 0 0,Value.slice (some ⟨c.heap.size+1,0,none⟩) N N])):=hZ ⟨ce.o.put rfl,xM.start dg.o bd.o I.o ew.o ex.o ev.o ce.o R bs.o ed.o (by omega) bq.o⟩
     go_wp2_with fail;go_meet;exact⟨_,_,_,rfl,hZ z.o.1,hZ z.o.2,by have:=bs.o;omega⟩
   ·go_simp
    skip
    refine f.o _ _ (aw.o.alloc _) (fun gz=>?_)
    try simp only[Act.put,z1,z2,z3]
    have ey:Hid (Blk ((r).alloc (.cells #[.slice none 0 0,.int .i64 0,.slice none 0 0,.slice none 0 0] 43)) (r.heap.size) 43 [.slice none 0 0,.int .i64 0,.slice none 0 0,.slice none 0 0]):=hZ (Blk.newAt _ _ (by simp))
    have bt:Hid (w1.heap.size≤r.heap.size):=hZ (by have:=Z.o.size;simpa using this)
    have ba:Below (r).heap.size (r) ((r).alloc (.cells #[.slice none 0 0,.int .i64 0,.slice none 0 0,.slice none 0 0] 43)):=bZ;have cf:Hid (Below w1.heap.size w1 ((r).alloc (.cells #[.slice none 0 0,.int .i64 0,.slice none 0 0,.slice none 0 0] 43))):=hZ (Z.o.trans (ba.mono Z.o.size));have ez:Hid (((r).alloc (.cells #[.slice none 0 0,.int .i64 0,.slice none 0 0,.slice none 0 0] 43)).ownsRow 0 73 2 (Value.slice l n m) n (iR gs)):=hZ (aD da.o ba);have fa:Hid (Blk ((r).alloc (.cells #[.slice none 0 0,.int .i64 0,.slice none 0 0,.slice none 0 0] 43)) w.heap.size 24 [.slice ga n gc,.int .i64 secs]):=hZ (aw.o.below ba);clear ba;refine dY (i:=7) (h:=fun K f=>?_)
    go_simp;refine(cl.o _ (I.o.trans (cf.o.mono (by omega)))).mono ?_
    rintro e q ⟨rfl,ai⟩;have cg:Hid (Below w1.heap.size w1 (q)):=hZ (cf.o.trans (ai.mono cf.o.size));have fb:Hid ((q).ownsRow 0 73 2 (Value.slice l n m) n (iR gs)):=hZ (aD ez.o ai);have fc:Hid (Blk (q) (r.heap.size) 43 [.slice none 0 0,.int .i64 0,.slice none 0 0,.slice none 0 0]):=hZ (ey.o.below ai);have ch:Hid (Blk (q) w.heap.size 24 [.slice ga n gc,.int .i64 secs]):=hZ (fa.o.below ai);clear ai
    try dsimp only
    refine f.o _ _ (ch.o) (fun hc=>?_)
    try simp only[Act.put,z1,z2,z3]
    refine dY (i:=8) (h:=fun K f=>?_)
    go_simp
    skip
    refine f.o _ _ (ch.o.alloc _) (fun he=>?_)
    try simp only[Act.put,z1,z2,z3]
    have fd:Hid (Blk ((q).alloc (.cells (aZ (List.replicate N false)).toArray 4)) (q.heap.size) 4 (aZ (List.replicate N false))):=hZ (Blk.newAt _ _ (by simp))
    have ee:Hid (w1.heap.size≤q.heap.size):=hZ (by have:=cg.o.size;simpa using this)
    have aj:Below (q).heap.size (q) ((q).alloc (.cells (aZ (List.replicate N false)).toArray 4)):=bZ;have fe:Hid (Below w1.heap.size w1 ((q).alloc (.cells (aZ (List.replicate N false)).toArray 4))):=hZ (cg.o.trans (aj.mono cg.o.size));have ff:Hid (((q).alloc (.cells (aZ (List.replicate N false)).toArray 4)).ownsRow 0 73 2 (Value.slice l n m) n (iR gs)):=hZ (aD fb.o aj);have ci:Hid (Blk ((q).alloc (.cells (aZ (List.replicate N false)).toArray 4)) (r.heap.size) 43 [.slice none 0 0,.int .i64 0,.slice none 0 0,.slice none 0 0]):=hZ (fc.o.below aj);have dh:Hid (Blk ((q).alloc (.cells (aZ (List.replicate N false)).toArray 4)) w.heap.size 24 [.slice ga n gc,.int .i64 secs]):=hZ (ch.o.below aj);clear aj;refine aE 9 ?_;refine dY (i:=11) (h:=fun K f=>?_)
    rw[i6 (by kernel_rfl)]
    refine bMx 43 (.tmp 6) (.tmp 22) rfl (r.heap.size) (0) ([Value.slice l n m,.int .i64 secs,.slice none 0 0,Value.slice (some ⟨q.heap.size,0,none⟩) N N]).toArray rfl rfl (cW ci.o (d8 4)) oQ (bLu (zT _ _ _ _ _ _ _)) ?_;refine f.o _ _ ((dh.o.away 0 _ (by have:=bt.o;have:=R;omega))) (fun ha=>?_)
    try simp only[Act.put,z1,z2,z3]
    refine r8 (by kernel_rfl) ?_ _
    have z:Hid (Blk (((q).alloc (.cells (aZ (List.replicate N false)).toArray 4)).setCells (r.heap.size) 0 [Value.slice l n m,.int .i64 secs,.slice none 0 0,Value.slice (some ⟨q.heap.size,0,none⟩) N N]) (r.heap.size) 43 [Value.slice l n m,.int .i64 secs,.slice none 0 0,Value.slice (some ⟨q.heap.size,0,none⟩) N N]∧xM w ga gc n gs secs N sz (Value.slice l n m) (Value.slice (some ⟨q.heap.size,0,none⟩) N N) 0 [] (fun _ _=>False) (((q).alloc (.cells (aZ (List.replicate N false)).toArray 4)).setCells (r.heap.size) 0 [Value.slice l n m,.int .i64 secs,.slice none 0 0,Value.slice (some ⟨q.heap.size,0,none⟩) N N])):=hZ ⟨ci.o.put rfl,xM.start dh.o bd.o I.o fe.o ff.o fd.o ci.o R bt.o ee.o (by omega) bq.o⟩
    go_wp2_with fail;go_meet;exact⟨_,_,_,rfl,hZ z.o.1,hZ z.o.2,by have:=bt.o;omega⟩
  ·go_simp
   skip
   refine f.o _ _ (al.alloc _) (fun hf=>?_)
   try simp only[Act.put,z1,z2,z3]
   have ef:Hid (Blk ((w1.drew).alloc (.cells #[.slice none 0 0,.int .i64 0,.slice none 0 0,.slice none 0 0] 43)) (w1.heap.size) 43 [.slice none 0 0,.int .i64 0,.slice none 0 0,.slice none 0 0]):=hZ (Blk.newAt _ _ (by simp))
   have bn:Hid (w1.heap.size≤w1.heap.size):=hZ (by have:=T.o.size;simpa using this)
   have bu:Below (w1.drew).heap.size (w1.drew) ((w1.drew).alloc (.cells #[.slice none 0 0,.int .i64 0,.slice none 0 0,.slice none 0 0] 43)):=bZ;have ap:Hid (Below w1.heap.size w1 ((w1.drew).alloc (.cells #[.slice none 0 0,.int .i64 0,.slice none 0 0,.slice none 0 0] 43))):=hZ (T.o.trans (bu.mono T.o.size));have eg:Hid (Blk ((w1.drew).alloc (.cells #[.slice none 0 0,.int .i64 0,.slice none 0 0,.slice none 0 0] 43)) w.heap.size 24 [.slice ga n gc,.int .i64 secs]):=hZ (al.below bu);clear bu;refine dY (i:=2) (h:=fun K f=>?_)
   go_simp;refine(dl.o _ (I.o.trans (ap.o.mono (by omega)))).mono ?_
   rintro e bb ⟨hm,rfl,aq,ar⟩;obtain⟨G,H,rfl⟩:=aY aq;have eh:Hid ((bb).ownsRow 0 73 2 (Value.slice G n H) n (iR gs)):=hZ (cY aq (z6 _));have dz:Hid (∀g,(Value.slice G n H).ownBlock=some g→w.heap.size≤g):=hZ (fun g A=>by have:=(aq.lt g A).1;have:=ap.o.size;omega)
   have bv:Hid (Below w1.heap.size w1 (bb)):=hZ (ap.o.trans (ar.mono ap.o.size));have ei:Hid (Blk (bb) (w1.heap.size) 43 [.slice none 0 0,.int .i64 0,.slice none 0 0,.slice none 0 0]):=hZ (ef.o.below ar);have cx:Hid (Blk (bb) w.heap.size 24 [.slice ga n gc,.int .i64 secs]):=hZ (eg.o.below ar);clear ar aq
   try dsimp only
   refine f.o _ _ (cx.o) (fun hj=>?_)
   try simp only[Act.put,z1,z2,z3]
   refine aE 5 ?_;refine dY (i:=7) (h:=fun K f=>?_)
   go_simp;refine(cl.o _ (I.o.trans (bv.o.mono (by omega)))).mono ?_
   rintro e p ⟨rfl,ad⟩;have bw:Hid (Below w1.heap.size w1 (p)):=hZ (bv.o.trans (ad.mono bv.o.size));have ej:Hid ((p).ownsRow 0 73 2 (Value.slice G n H) n (iR gs)):=hZ (aD eh.o ad);have ek:Hid (Blk (p) (w1.heap.size) 43 [.slice none 0 0,.int .i64 0,.slice none 0 0,.slice none 0 0]):=hZ (ei.o.below ad);have bx:Hid (Blk (p) w.heap.size 24 [.slice ga n gc,.int .i64 secs]):=hZ (cx.o.below ad);clear ad
   try dsimp only
   refine f.o _ _ (bx.o) (fun hk=>?_)
   try simp only[Act.put,z1,z2,z3]
   refine dY (i:=8) (h:=fun K f=>?_)
   go_simp
   skip
   refine f.o _ _ (bx.o.alloc _) (fun hl=>?_)
   try simp only[Act.put,z1,z2,z3]
   have el:Hid (Blk ((p).alloc (.cells (aZ (List.replicate N false)).toArray 4)) (p.heap.size) 4 (aZ (List.replicate N false))):=hZ (Blk.newAt _ _ (by simp))
   have ea:Hid (w1.heap.size≤p.heap.size):=hZ (by have:=bw.o.size;simpa using this)
   have ae:Below (p).heap.size (p) ((p).alloc (.cells (aZ (List.replicate N false)).toArray 4)):=bZ;have em:Hid (Below w1.heap.size w1 ((p).alloc (.cells (aZ (List.replicate N false)).toArray 4))):=hZ (bw.o.trans (ae.mono bw.o.size));have en:Hid (((p).alloc (.cells (aZ (List.replicate N false)).toArray 4)).ownsRow 0 73 2 (Value.slice G n H) n (iR gs)):=hZ (aD ej.o ae);have bz:Hid (Blk ((p).alloc (.cells (aZ (List.replicate N false)).toArray 4)) (w1.heap.size) 43 [.slice none 0 0,.int .i64 0,.slice none 0 0,.slice none 0 0]):=hZ (ek.o.below ae);have cy:Hid (Blk ((p).alloc (.cells (aZ (List.replicate N false)).toArray 4)) w.heap.size 24 [.slice ga n gc,.int .i64 secs]):=hZ (bx.o.below ae);clear ae;refine aE 9 ?_;refine dY (i:=11) (h:=fun K f=>?_)
   rw[i6 (by kernel_rfl)]
   refine bMx 43 (.tmp 6) (.tmp 22) rfl (w1.heap.size) (0) ([Value.slice G n H,.int .i64 secs,.slice none 0 0,Value.slice (some ⟨p.heap.size,0,none⟩) N N]).toArray rfl rfl (cW bz.o (d8 4)) oQ (bLu (zT _ _ _ _ _ _ _)) ?_;refine f.o _ _ ((cy.o.away 0 _ (by have:=bn.o;have:=R;omega))) (fun hg=>?_)
   try simp only[Act.put,z1,z2,z3]
   refine r8 (by kernel_rfl) ?_ _
   have z:Hid (Blk (((p).alloc (.cells (aZ (List.replicate N false)).toArray 4)).setCells (w1.heap.size) 0 [Value.slice G n H,.int .i64 secs,.slice none 0 0,Value.slice (some ⟨p.heap.size,0,none⟩) N N]) (w1.heap.size) 43 [Value.slice G n H,.int .i64 secs,.slice none 0 0,Value.slice (some ⟨p.heap.size,0,none⟩) N N]∧xM w ga gc n gs secs N sz (Value.slice G n H) (Value.slice (some ⟨p.heap.size,0,none⟩) N N) 0 [] (fun _ _=>False) (((p).alloc (.cells (aZ (List.replicate N false)).toArray 4)).setCells (w1.heap.size) 0 [Value.slice G n H,.int .i64 secs,.slice none 0 0,Value.slice (some ⟨p.heap.size,0,none⟩) N N])):=hZ ⟨bz.o.put rfl,xM.start cy.o bd.o I.o em.o en.o el.o bz.o R bn.o ea.o (by omega) dz.o⟩
   go_wp2_with fail;go_meet;exact⟨_,_,_,rfl,hZ z.o.1,hZ z.o.2,by have:=bn.o;omega⟩
 case rest=>
  obtain⟨g6,vg,va,rfl,cn,co,gf⟩:=hcut;obtain⟨D,E,rfl⟩:=aY co.o.awy;have c2:wc.cell? ⟨g6,3,none⟩=some (.slice D N E):=cn.o.cell 3;go_wp2_with fail;clear c2;go_loopw [26] (fun v wr=>∃(k:Nat) (vl:Value) (dbs:List Nat) (Fd:Nat→Nat→Prop),k≤N∧v= .int .i64 (k:Nat)∧Hid (Blk wr g6 43 [vg,.int .i64 secs,vl,.slice D N E])∧Hid (wr.ownsRow w.heap.size 83 1 vl k (jP dbs))∧Hid (xM w ga gc n gs secs N sz vg (.slice D N E) k dbs Fd wr)) (fun v _=>N-(intOf v).toNat)
  case atStart=>exact⟨0,_,[],_,by omega,rfl,cn,hZ (bMa _ _ _ _),co⟩
  case round=>
   obtain⟨k,vl,dbs,Fd,hw,rfl,dy,ct,J⟩:=hrel;clear cn co;obtain⟨L,O,rfl⟩:=aY ct.o;have dp:Hid (w.heap.size≤wr.heap.size):=hZ J.o.bel.size;by_cases hu:k<N
   ·have gg:(k:Int)<(N:Int):=by omega
    have cr:wr.cell? ⟨w.heap.size,1,none⟩=some (.int .i64 secs):=J.o.geo.cell 1;go_wp2_with fail;refine(fl.o _).mono ?_;rintro e hx ⟨db,F,rfl,hd,hF,dq⟩;have gh:=hZ hd;have bi:=hZ hF;have cp:=hZ dq;clear hd hF dq;go_wp2_with fail;refine(fm.o _ _ _ gh.o).mono ?_;rintro e an ⟨rfl,gi,dr,dt,du⟩;have bj:Hid (Below wr.heap.size wr an):=hZ (cp.o.trans (dt.toBelow bi.o cp.o.size));have fs:Hid (∀g,gi g→wr.heap.size≤g):=hZ (fun g A=>by
     rcases du g A with ao|ao
     ·exact bi.o g ao
     ·have:=cp.o.size;omega)
    have ft:Hid (∀i g,i<k→Fd i g→g<wr.heap.size):=hZ (fun i g bm A=>(J.o.dev i bm).lt g A)
    have gj:=hZ ((J.o.below bj.o).more dr fs.o dp.o ft.o);have cq:=hZ (dy.o.below bj.o);have cu:=hZ (aD ct.o bj.o);have d2:an.cell? ⟨g6,2,none⟩=some (.slice L k O):=cq.o.cell 2;have fu:Hid (w.heap.size≤an.heap.size):=hZ (l6 dp.o bj.o.size);clear dr dt du cr;go_wp2_with (at_builtin;go_must (refine bNe _ rfl (.tmp 38) (.tmp 40) 40 rfl w.heap.size 83 fy (.pointer none) 1 8 underlying40 fz fh fi fj rfl (by decide) (.slice L k O) k (jP dbs) rfl (cu.o.alloc _) ⟨an.heap.size,0,none⟩ 1 1 (jP [db]) rfl rfl (Blk.news (Blk.newAt (w:=an) 83 (jP [db]) (by simp))) (aXg _) (by unfold maxLen;omega) (by omega) (by have:=fu.o;simp;omega) ?_;intro v4 w4 au bo _;rw[←aLd] at au;have be:=hZ ((cq.o.alloc (.cells (jP [db]).toArray 83)).ownKept (cu.o.alloc _) (by decide) bo);have hn:=be.o.cell 2;have ho:=be.o.frozen 2;obtain⟨gl,vc,rfl⟩:=aY au;have gn:=hZ au;have go:=hZ bo;clear au bo))
    have gp:=hZ ((gj.o.below ((i4 _ _).alloc (d8 _) (.cells (jP [db]).toArray 83))).app (cu.o.alloc _) go.o (d8 _) gf (cq.o.alloc _) 2 (u:= .slice gl (k+1) vc));go_roundw
    case rel=>exact⟨k+1,_,dbs++[db],_,by omega,by go_num,hZ (be.o.setCell 2 _),hZ (iX gn.o be.o (by decide)),gp⟩
    case measure=>simp[intOf];omega
   ·have fg:k=N:=by omega
    subst fg;have gg:¬(k:Int)<(k:Int):=by omega
    obtain⟨F,bm,hF⟩:=J.o.fin ct.o (d8 _) gd.o.symm fp.o fo.o (by omega) eb (by omega)
    obtain⟨U,X,rfl⟩:=aY J.o.grp;have cv:=hZ bm;have bi:=hZ hF;have dv:wr.rangeAt g6 0 [.slice U n X,.int .i64 secs,.slice L k O,.slice D k E]:=aBi dy.o;have bf:=J.o.res;have hz:=fun(cw:Oper) (a:Act) (next:Act→World→Prop) (Q:Exit→Act→World→Prop)=>dP (P:=prog) (t:=43) dv underlying43 rfl oQ cw a next Q
    have ia:=fun(cw:Oper) (a:Act) (next:Act→World→Prop) (Q:Exit→Act→World→Prop)=>aG (P:=prog) (t:=43) (o:=0) (cs:=[.slice U n X,.int .i64 secs,.slice L k O,.slice D k E]) bf (d8 4) oQ (vE _ _ _ _ _ _ _ _ _ _) cw a next Q
    have fv:Hid (Below w.heap.size w wr):=hZ J.o.bel;have fw:Hid (Blk (wr.setCells (w.heap.size+1) 0 [.slice U n X,.int .i64 secs,.slice L k O,.slice D k E]) (w.heap.size+1) 43 [.slice U n X,.int .i64 secs,.slice L k O,.slice D k E]):=hZ (bf.put rfl);have z:Hid (bV (wr.setCells (w.heap.size+1) 0 [.slice U n X,.int .i64 secs,.slice L k O,.slice D k E]) (cN gs secs sz) ⟨.slice U n X,.slice L k O,.slice D k E⟩ F):=hZ (cv.o.keep (fun g A=>(aJ (w.heap.size+1) _ wr 0).block g (cv.o.lt g A) (fun e=>by
     have e2:=bMs e;subst e2;have ao:=cv.o.type _ A _ _ _ bf;unfold lZ at ao
     revert ao
     decide)))
    have fx:Hid (Below w.heap.size w (wr.setCells (w.heap.size+1) 0 [.slice U n X,.int .i64 secs,.slice L k O,.slice D k E])):=hZ (J.o.bel.grown (aJ _ _ _ _) fv.o.size (fun k e=>by have:=bMs e;omega))
    clear bm hF dv bf;go_wp2_with fail;refine l9 (aQi rfl _ _ (w.heap.size+1) _ _ _ _ rfl fw.o) rfl ?_;exact⟨_,rfl,F,z.o,bi.o,fx.o⟩
end

end Go.Proofs.YtepmcdopccflgaaGreatDoor

