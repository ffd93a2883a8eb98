/- Parts of the proof of the statement that the last file of this claim proves:lemmas,without any condition of their own beyond those that each states. -/
import Derived.Test.YtepmcdopccflgaaGreatDoorYV4
import Derived.StillTailTactics
set_option linter.unusedVariables false
set_option linter.unusedSimpArgs false
set_option linter.unnecessarySimpa false
set_option maxHeartbeats 4000000
set_option maxRecDepth 100000
namespace Go.Proofs.YtepmcdopccflgaaGreatDoor
open Go.RowKit Tryz
variable {dst:Option Tmp} {w w' w1 w2 wc wd:World} {Q:Exit→Act→World→Prop} {a:Act} {cs vs zs:List Value} {v:Value} {level:Int} {x:aK} {b e g i k m n:Nat} {guard:Option (Nat×Bool)} {p:aC} {y:Operand} {X:Prop} {fn:Func} {F F1:Nat→Prop} {next:Act→World→Prop} {op:BinOp} {after:Array Edge} {s t:Bs} {V:kE} {l:List aC} {P:Program}
theorem qS (h:bV w x V F) (hr:x.right=true) (d:Nat) (O:d<x.ds.length):
  Calls prog 103 #[V.val x.secs,(d:Nat)] w fun e w'=>e= .returned (.bool (x.here d))∧bB w w':=by
 obtain⟨j,q,r,u,z,wc,R,_⟩:=h.form;obtain⟨n,G⟩:=nZ x.ds.length;rw[←G] at O;have A:V.val x.secs= .agg #[.slice j x.gs.length q,x.secs,.slice r n u,.slice z n wc]:=by rw[R,G];rfl
 obtain⟨K,D⟩:=nZ (w.alloc (.cells #[.slice j x.gs.length q,x.secs,.slice r n u,.slice z n wc] 43));have H:Hid (bB w K):=hZ (by rw[D];exact bZ)
 have f:Blk K w.heap.size 43 [.slice j x.gs.length q,x.secs,.slice r n u,.slice z n wc]:=by rw[D];exact Blk.new w _ _
 have U:=hZ f;have Y:Hid (∀c,bB w c→Calls prog 59 #[.agg #[.slice j x.gs.length q,x.secs,.slice r n u,.slice z n wc]] c fun e w'=>e= .returned true∧bB c w'):=hZ (fun c L=>by rw[←A];exact fL (h.below L) hr)
 have Z:Hid (∀c,bB w c→Calls prog 162 #[.agg #[.slice j x.gs.length q,x.secs,.slice r n u,.slice z n wc],(d:Nat)] c fun e w'=>e= .returned (.bool (x.here d))∧bB c w'):=hZ (fun c L=>by rw[←A];exact xR (h.below L) d (by rw[←G];exact O))
 rw[A];have c0:=f.cell 0;have T:=f.cell 1;have c2:=f.cell 2;have c3:=f.cell 3;have aa:(d:Int)<(n:Int):=by omega
 have ab:0≤(d:Int):=by omega
 clear h R G A f hr;go_in;go_upto_region 1 with fail
 rw[←D];clear D;go_wp2_with fail;refine(Y.o K H.o).mono ?_;rintro e w1 ⟨rfl,I⟩;have E:=hZ (U.o.below I);have J:=hZ (H.o.trans (I.mono H.o.size));clear I c0 T c2 c3;have c0:=E.o.cell 0;have T:=E.o.cell 1;have c2:=E.o.cell 2;have c3:=E.o.cell 3;go_wp2_with fail;refine(Z.o w1 J.o).mono ?_;rintro e w2 ⟨rfl,N⟩;have W:=hZ (J.o.trans (N.mono J.o.size));clear N;go_wp2_with fail;go_ret;exact⟨by first|rfl|simp,W.o⟩
theorem cQ:(prog.info? 53).map (·.size)=some 13:=by kernel_rfl
theorem eI {x:Operand} {ty:TypeId} {pos:String}:
  Oper.wp prog ⟨dst,.load 53 x,ty,pos,after,guard⟩ a w next Q=lY prog ⟨dst,.load 53 x,ty,pos,after,guard⟩ 53 (a.eval x) a w next Q:=rfl
theorem dL {x:Operand} {ty:TypeId} {pos:String}:
  Oper.wp prog ⟨dst,.store 53 x y,ty,pos,after,guard⟩ a w next Q=cS prog ⟨dst,.store 53 x y,ty,pos,after,guard⟩ 53 (a.eval x) (a.eval y) a w next Q:=rfl
theorem sL:(prog.info? 246).map (·.size)=some 48:=by kernel_rfl
theorem gD {x:Operand} {ty:TypeId} {pos:String}:
  Oper.wp prog ⟨dst,.load 246 x,ty,pos,after,guard⟩ a w next Q=lY prog ⟨dst,.load 246 x,ty,pos,after,guard⟩ 246 (a.eval x) a w next Q:=rfl
theorem iS {x:Operand} {ty:TypeId} {pos:String}:
  Oper.wp prog ⟨dst,.store 246 x y,ty,pos,after,guard⟩ a w next Q=cS prog ⟨dst,.store 246 x y,ty,pos,after,guard⟩ 246 (a.eval x) (a.eval y) a w next Q:=rfl
theorem xT {x:Operand} {c ty:TypeId} {pos:String}:
  Oper.wp prog ⟨dst,.binOp op 246 x y c,ty,pos,after,guard⟩ a w next Q=BnW prog ⟨dst,.binOp op 246 x y c,ty,pos,after,guard⟩ op 246 x y (a.eval x) (a.eval y) a w next Q:=rfl
theorem bHj:(prog.info? 321).map (·.size)=some 48:=by kernel_rfl
theorem aJb {x:Operand} {ty:TypeId} {pos:String}:
  Oper.wp prog ⟨dst,.load 321 x,ty,pos,after,guard⟩ a w next Q=lY prog ⟨dst,.load 321 x,ty,pos,after,guard⟩ 321 (a.eval x) a w next Q:=rfl
theorem wI {x:Operand} {ty:TypeId} {pos:String}:
  Oper.wp prog ⟨dst,.store 321 x y,ty,pos,after,guard⟩ a w next Q=cS prog ⟨dst,.store 321 x y,ty,pos,after,guard⟩ 321 (a.eval x) (a.eval y) a w next Q:=rfl
theorem bAp {p q:List aC} (d:p.length=4) (f:q.length=4) (h:∀x∈p,x.wf) (j:∀x∈q,x.wf) (c:World):(Op.equalIn 10000 246 (.agg (aF p).toArray) (.agg (aF q).toArray)).run prog c= .ok (decide (p=q)) c:=by
 obtain⟨r,h1,h2⟩:=tP (P:=prog) (n:=5) (t:=246) (ks:=(List.replicate 4 aRe).flatten) (by kernel_rfl) (by kernel_rfl) (by decide) (by decide) (by kernel_rfl) (by kernel_rfl) (d▸aQx h) (f▸aQx j) c
 have e:r=decide (p=q):=by
  rw[Bool.eq_iff_iff,h2,aJj];simp
 rw[←e];exact h1
theorem bKw:prog.eqGuardType prog.depth 246=false:=by kernel_rfl
theorem aWv {p q:List aC} (d:p.length=4) (f:q.length=4) (h:∀x∈p,x.wf) (j:∀x∈q,x.wf) (o:Oper) (x y:Operand) (a:Act) (c:World) (next:Act→World→Prop) (Q:Exit→Act→World→Prop):BnW prog o .eql 246 x y (.agg (aF p).toArray) (.agg (aF q).toArray) a c next Q=next (a.put o.dst (.bool (decide (p=q)))) c:=by
 unfold BnW;rw[bLr,bLr,run_eqGuard_agg c _ _ _ _ _ _ bKw,y7,run_eql_struct,bAp d f h j];rfl
theorem aQq:∀x∈nL,x.wf:=by
 intro x c;simp only[nL,s8,bLp,bNo] at c;rcases c with rfl|rfl|rfl|rfl<;>exact aOn
theorem aWy {p:List aC} (d:p.length=4) (f:∀x∈p,x.wf) (o:Oper) (x y:Operand) (a:Act) (c:World) (next:Act→World→Prop) (Q:Exit→Act→World→Prop):BnW prog o .eql 246 x y (.agg (aF p).toArray) (.agg yA) a c next Q=next (a.put o.dst (.bool (decide (p=nL)))) c:=aWv d rfl f aQq o x y a c next Q
theorem pH (p:aM) (w:World) (op:Oper) (a:Act) (next:Act→World→Prop) (Q:Exit→Act→World→Prop):cS prog op 53 (.pointer (some ⟨w.heap.size,0,none⟩)) (.agg (aN p).toArray) a (w.alloc (.cells yD 53)) next Q=next (a.put op.dst undef) (w.alloc (.cells (aN p).toArray 53)):=by
 have s:=aG (P:=prog) (t:=53) (o:=0) (cs:=aN p) (Blk.new w 53 (yD).toList) (d8 13) cQ (eP p) op a next Q;rw[dS w 53 (aN p) (yD).toList rfl] at s;exact s
theorem mZ (h:Blk w g e zs) (c:zs.length=13) (op:Oper) (a:Act) (next:Act→World→Prop) (Q:Exit→Act→World→Prop):cS prog op 53 (.pointer (some g)) (.agg yD) a w next Q=next (a.put op.dst undef) (w.setCells g 0 (aN nD)):=
 aG (P:=prog) (t:=53) (o:=0) (cs:=aN nD) h (by rw[c];exact d8 13) cQ (eP _) op a next Q
theorem iP (p:List aC) (c:p.length=4) (w:World) (op:Oper) (a:Act) (next:Act→World→Prop) (Q:Exit→Act→World→Prop):cS prog op 246 (.pointer (some ⟨w.heap.size,0,none⟩)) (.agg (aF p).toArray) a (w.alloc (.cells yA 246)) next Q=next (a.put op.dst undef) (w.alloc (.cells (aF p).toArray 246)):=by
 have e:=dS w 246 (aF p) (yA).toList (by rw[aQ,c];rfl)
 have s:=aG (P:=prog) (t:=246) (o:=0) (cs:=aF p) (Blk.new w 246 (yA).toList) (by rw[aQ,c];exact d8 48) (by rw[aQ,c];exact sL) (nV p) op a next Q
 rw[e] at s;exact s
theorem aDw (h:Blk w g e zs) (c:zs.length=48) (op:Oper) (a:Act) (next:Act→World→Prop) (Q:Exit→Act→World→Prop):cS prog op 246 (.pointer (some g)) (.agg yA) a w next Q=next (a.put op.dst undef) (w.setCells g 0 (aF nL)):=
 aG (P:=prog) (t:=246) (o:=0) (cs:=aF nL) h (by rw[c];exact d8 48) sL (nV _) op a next Q
theorem mS (p:List aC) (c:p.length=4) (w:World) (op:Oper) (a:Act) (next:Act→World→Prop) (Q:Exit→Act→World→Prop):cS prog op 321 (.pointer (some ⟨w.heap.size,0,none⟩)) (.agg (aF p).toArray) a (w.alloc (.cells yA 321)) next Q=next (a.put op.dst undef) (w.alloc (.cells (aF p).toArray 321)):=by
 have e:=dS w 321 (aF p) (yA).toList (by rw[aQ,c];rfl)
 have s:=aG (P:=prog) (t:=321) (o:=0) (cs:=aF p) (Blk.new w 321 (yA).toList) (by rw[aQ,c];exact d8 48) (by rw[aQ,c];exact bHj) (nV p) op a next Q
 rw[e] at s;exact s
theorem aNr (x n:Nat) (w:World) (q:x<18446744073709551616) (L:n≤8):
  Calls prog 278 #[.int .u64 x,n] w fun e w'=>e= .returned (.string ⟨(bS n x).toArray⟩)∧bB w w':=by
 obtain⟨G,H,A,D,E⟩:=bMo bJr;have N:=hZ q;clear q;go_in;go_wp21;go_loopw [5,8] (fun v i wr=>∃k:Nat,k≤n∧i= .int .i64 k∧Hid (wr.ownsRow w.heap.size 5 1 v k (qU (bS k x)))∧Hid (bB w wr)) (fun _ i _=>n-(intOf i).toNat)
 case atStart=>exact⟨0,by omega,rfl,hZ (bMa _ _ _ _),hZ (i4 _ _)⟩
 case round=>
  obtain⟨k,O,rfl,c,f⟩:=hrel;have J:=f.o.size;by_cases K:k<n
  ·obtain⟨h,d,rfl,_⟩:=RSl.of_owns c.o
   have r:(x:Int)/2 ^ (8*k)%256=((UInt8.ofNat (x/256 ^ k)).toNat:Int):=by
    exact bFf x k
   have I:=hZ r;clear r;go_wp2_with (at_builtin;go_must (refine bNe _ rfl (.tmp 11) (.tmp 17) 162 rfl w.heap.size 5 G (.int .u8 0) 1 1 underlying162 H A D E rfl (by decide) (.slice h k d) k (qU (bS k x)) rfl (c.o.alloc _) ⟨wr.heap.size,0,none⟩ 1 1 [.int .u8 ((x:Int)/2 ^ (8*k)%256)] rfl rfl (Blk.news (Blk.newAt (w:=wr) 5 [.int .u8 ((x:Int)/2 ^ (8*k)%256)] (by simp))) (by simp[Value.oneCell']) (by unfold maxLen;omega) (by omega) (by simp;omega) ?_;intro v1 w1 j z _))
   have u:qU (bS k x)++[Value.int .u8 ((x:Int)/2 ^ (8*k)%256)]=qU (bS (k+1) x):=by rw[aNt,I.o];simp[qU]
   rw[u] at j;clear u;go_roundw
   case rel=>exact⟨k+1,by omega,by go_num,hZ j,hZ (cF (f.o.alloc (by omega) _) (c.o.alloc _) z (by simp;omega) (d8 _))⟩
   case measure=>simp[intOf];omega
  ·obtain rfl:k=n:=by omega
   obtain⟨h,d,rfl,_⟩:=RSl.of_owns c.o;have R:(convert 162 9 (.slice h k d)).run prog wr= .ok (.string ⟨(bS k x).toArray⟩) wr:=by
    exact oN c.o _ _ _ underlying162 underlying5 underlying9
   go_wp21;go_ret;exact⟨rfl,f.o⟩
theorem oE (n:Nat) (w:World) (d:n≤4294967295):Calls prog 234 #[n] w fun e w'=>e= .returned (.string ⟨(bS 4 n).toArray⟩)∧bB w w':=by
 have h1:¬(4294967295:Int)<(n:Int):=by omega
 go_in;go_wp21;refine(aNr n 4 _ (by omega) (by omega)).mono ?_
 rintro e w1 ⟨rfl,c⟩;go_wp21;go_ret;exact⟨rfl,c⟩
theorem oV (n:Nat) (w:World) (c:n<18446744073709551616):Calls prog 233 #[.int .u64 n] w fun e w'=>e= .returned (.string ⟨(bS 8 n).toArray⟩)∧bB w w':=by
 go_in;go_wp21;refine(aNr n 8 _ c (by omega)).mono ?_
 rintro e w1 ⟨rfl,d⟩;go_wp21;go_ret;exact⟨rfl,d⟩
theorem aRj (b:Nat) (s:Bs) (k:Nat) (w:World) (h:kO w b s k) (j:s.length≤1000000) (q:k+8≤s.length):
  Calls prog 283 #[.pointer (some b)] w fun e w'=>e= .returned (.tuple #[.int .u64 (nU (dW s k 8)),(0:Int)])∧kO w' b s (k+8)∧Mod (fun x=>x=b) w w':=by
 have f:=hZ h;clear h;go_in;go_wp21;refine(rY b s k 8 w f.o (by omega) (by omega) (by omega)).mono ?_
 rintro e w1 ⟨rfl,hr,m,c⟩;have d:Mod (fun x=>x=b) w w1:=by rw[c];exact rT _ _ _ _
 clear c;go_wp21;go_ret2;exact⟨rfl,hr,d⟩
theorem aSn (l:Bs):(Lib.trimB l 0).isEmpty=cG l:=by
 have h:∀l:Bs,(l.dropWhile (·== 0)).isEmpty=cG l:=by
  intro l
  induction l with
  |nil=>rfl
  |cons b r c=>
   unfold cG at c⊢;by_cases d:b=0
   ·simp[d,c]
   ·simp[d]
 have hr:∀l:Bs,cG l.reverse=cG l:=fun l=>by simp[cG]
 have f:∀l:Bs,cG (l.dropWhile (·== 0))=cG l:=by
  intro l
  induction l with
  |nil=>rfl
  |cons b r c=>
   unfold cG at c⊢;by_cases d:b=0
   ·simp[d,c]
   ·simp[d]
 unfold Lib.trimB Lib.trimLeftB Lib.trimRightB;rw[h,hr,f,hr]
theorem aXb (l:Bs) (w:World) (c:l.length≤1000000):Calls prog 198 #[.string ⟨l.toArray⟩,.string ⟨#[0]⟩] w fun e w'=>e= .returned (.string ⟨(Lib.trimB l 0).toArray⟩)∧∃n,w'=w.drewN n:=by
 refine(Tryz.strings_Trim_one ⟨l.toArray⟩ 0 (by decide) w (by show l.toArray.size≤_;simp;omega)).mono ?_
 rintro e w' ⟨rfl,h⟩;refine⟨by simp,?_⟩
 rcases h with rfl|rfl
 ·exact⟨0,rfl⟩
 ·exact⟨1,rfl⟩
theorem lU (b:Nat) (s:Bs) (k:Nat) (w:World) (h:kO w b s k) (f:s.length≤1000000) (j:k≤s.length):
  Calls prog 133 #[.pointer (some b)] w fun e w'=>e= .returned (.bool (cG (s.drop k)))∧∃n,w'=w.drewN n:=by
 have c0:=Blk.cell h 0;have q:=Blk.cell h 1;go_in;go_wp21;have h1:0≤(k:Int):=by omega
 have h2:(k:Int)≤(s.length:Int):=by omega
 have d:(s.drop k).length≤1000000:=by simp;omega
 have c:∀n,Calls prog 198 #[.string ((⟨s.toArray⟩:ByteArray).extract k s.length),.string ⟨#[0]⟩] (w.drewN n) fun e w'=>e= .returned (.string ⟨(Lib.trimB (s.drop k) 0).toArray⟩)∧∃m,w'=(w.drewN n).drewN m:=fun n=>by
  rw[dM,bLz];exact aXb (s.drop k) _ d
 have c:=hZ c;go_quiet ((go_at_call 198;exact Calls.quiet_of (c.o _)));go_wp21;go_ret;exact⟨by rw[aSn (s.drop k)];rfl,_,rfl⟩
theorem aL {p u:Tmp} {ty:TypeId} (h:fn.results=#[.cell p ty,.tmp u]) (c:Array Value) (w:World) (g:Nat) (t:TypeId) (cs:List Value) (d:TypeDesc)
  (j:c.getD p undef= .pointer (some ⟨g,0,none⟩)) (q:Blk w g t cs)
  (r:P.underlying ty=some d) (z:(match d with| .struct _| .array _ _=>true|_=>false)=true) (A:(P.info? ty).map (·.size)=some cs.length):
  (results fn c).run P w= .ok (.tuple #[.agg cs.toArray,c.getD u undef]) w:=by
 have f:c[p]?.getD undef= .pointer (some g):=by simpa using j
 simp[results,h,f,asAddr,run_loadVar_row w g t ty cs.toArray (0,0) d q r z (by simpa using A)]
theorem iU {p:Tmp} {ty:TypeId} (h:fn.results=#[.cell p ty]) (c:Array Value) (w:World) (g:Nat) (t:TypeId) (cs:List Value) (d:TypeDesc)
  (j:c.getD p undef= .pointer (some ⟨g,0,none⟩)) (q:Blk w g t cs)
  (r:P.underlying ty=some d) (u:(match d with| .struct _| .array _ _=>true|_=>false)=true) (z:(P.info? ty).map (·.size)=some cs.length):
  (results fn c).run P w= .ok (.agg cs.toArray) w:=by
 have f:c[p]?.getD undef= .pointer (some g):=by simpa using j
 simp[results,h,f,asAddr,run_loadVar_row w g t ty cs.toArray (0,0) d q r u (by simpa using z)]
def aDf (l:List Nat):List Value:=l.map fun(n:Nat)=>Value.int .u64 (n:Int)
def mU (s:Bs) (k:Nat) (j:Nat):List Nat:=(List.range j).map fun i=>nU (dW s (k+8*i) 8)
theorem bHu (s:Bs) (k j:Nat) (d:j<4):(aDf (mU s k j)++List.replicate (4-j) (Value.int .u64 0)).set j (.int .u64 (nU (dW s (k+8*j) 8):Nat))=aDf (mU s k (j+1))++List.replicate (4-(j+1)) (.int .u64 0):=by
 have c:(aDf (mU s k j)).length=j:=by simp[aDf,mU]
 rw[List.set_append_right _ _ (by omega),c,Nat.sub_self,show 4-j=(4-(j+1))+1 by omega,bOc,List.set_cons_zero]
 simp[aDf,mU,bMk]
theorem aCm (b:Nat) (s:Bs) (k:Nat) (w:World) (h:kO w b s k) (ac:s.length≤1000000) (ag:k+32≤s.length):
  Calls prog 243 #[.pointer (some b)] w fun e w'=>e= .returned (.tuple #[.agg (aDf (mU s k 4)).toArray,(0:Int)])∧kO w' b s (k+32)∧Mod (fun x=>x=b) w w':=by
 have I:=hZ h;go_in;go_upto_region 2 with fail
 obtain⟨E,f⟩:=nZ ((w.alloc (.cells #[.int .u64 0,.int .u64 0,.int .u64 0,.int .u64 0] 49)).alloc (.cells #[.int .u64 0,.int .u64 0,.int .u64 0,.int .u64 0] 49));have ae:Hid (E.heap.size=w.heap.size+2):=hZ (by rw[f];simp)
 have J:Hid (bB w E):=hZ (by rw[f];exact(bZ).alloc (by simp) _)
 have R:Hid (Blk E w.heap.size 49 [.int .u64 0,.int .u64 0,.int .u64 0,.int .u64 0]):=hZ (by rw[f];exact(Blk.new w _ [.int .u64 0,.int .u64 0,.int .u64 0,.int .u64 0]).alloc _)
 have T:Hid (Blk E (w.heap.size+1) 49 [.int .u64 0,.int .u64 0,.int .u64 0,.int .u64 0]):=hZ (by rw[f];exact Blk.newAt (w:=w.alloc _) _ [.int .u64 0,.int .u64 0,.int .u64 0,.int .u64 0] (by simp))
 have ad:=I.o.lt;rw[←f];go_wp21;go_loopw [8] (fun i wr=>∃j:Nat,j≤4∧i= .int .i64 j∧Hid (kO wr b s (k+8*j))∧Hid (Blk wr (w.heap.size+1) 49 (aDf (mU s k j)++List.replicate (4-j) (.int .u64 0)))∧Hid (Blk wr w.heap.size 49 [.int .u64 0,.int .u64 0,.int .u64 0,.int .u64 0])∧Hid (Mod (fun x=>x=b) w wr)) (fun i _=>4-(intOf i).toNat)
 case atStart=>exact⟨0,by omega,rfl,hZ (I.o.below J.o),T,R,hZ (Mod.below J.o)⟩
 case round=>
  obtain⟨j,ah,rfl,L,G,c,N⟩:=hrel;have K:(aDf (mU s k j)).length=j:=by simp[aDf,mU]
  by_cases U:j<4
  ·have W:∃u,Hid (wr.cell? ⟨w.heap.size+1,j,none⟩=some u):=by
    refine⟨.int .u64 0,hZ ?_⟩;rw[G.o.cell,bMq (by rw[K];exact d8 _),K,Nat.sub_self]
    rw[show 4-j=(4-(j+1))+1 by omega];rfl
   obtain⟨u,Y⟩:=W;have af:=I.o.lt;go_wp21;refine(aRj b s (k+8*j) wr L.o ac (by omega)).mono ?_
   rintro e w1 ⟨rfl,Z,q⟩;have ai:w1.cell? ⟨w.heap.size+1,j,none⟩=some u:=by
    exact q.cell (by show ¬w.heap.size+1=b;omega) Y.o
   have aj:=(q.blk G.o (by show ¬w.heap.size+1=b;omega)).frozen j
   go_wp21;go_roundw
   case rel=>
    have aa:=q.blk G.o (by show ¬w.heap.size+1=b;omega)
    have ab:=q.blk c.o (by show ¬w.heap.size=b;omega)
    have d:b≠w.heap.size+1:=by omega
    refine⟨j+1,by omega,by go_num,hZ (Blk.other Z d _),hZ ?_,hZ (ab.other (by show w.heap.size≠w.heap.size+1;omega) _),hZ ((N.o.self q).setCell (.inr (by omega)))⟩
    have h2:=aa.setCell j (.int .u64 (nU (dW s (k+8*j) 8):Nat));rw[bHu] at h2;exact h2;exact U
   case measure=>simp[intOf];omega
  ·obtain rfl:j=4:=by omega
   obtain⟨r,z,A,D,O⟩:∃r z A D:Nat,mU s k 4=[r,z,A,D]:=⟨_,_,_,_,rfl⟩;have H:Blk wr (w.heap.size+1) 49 [.int .u64 (r:Nat),.int .u64 (z:Nat),.int .u64 (A:Nat),.int .u64 (D:Nat)]:=by have:=G.o;rw[O] at this;exact this
   have ak:=H.cell 0;have al:=H.cell 1;have am:=H.cell 2;have an:=H.cell 3;have c0:=c.o.cell 0;have ao:=c.o.cell 1;have c2:=c.o.cell 2;have c3:=c.o.cell 3;have ap:=c.o.frozen 0;have aq:=c.o.frozen 1;have ar:=c.o.frozen 2;have au:=c.o.frozen 3;have d:b≠w.heap.size:=by omega
   go_wp21;refine l9 (aL rfl _ _ w.heap.size 49 _ _ rfl ((((c.o.setCell 0 (.int .u64 (r:Nat))).setCell 1 (.int .u64 (z:Nat))).setCell 2 (.int .u64 (A:Nat))).setCell 3 (.int .u64 (D:Nat))) underlying49 rfl rfl) rfl ?_;exact⟨by rw[O];rfl,(((L.o.other (a:=⟨w.heap.size,0,none⟩) d (.int .u64 (r:Nat))).other (a:=⟨w.heap.size,1,none⟩) d (.int .u64 (z:Nat))).other (a:=⟨w.heap.size,2,none⟩) d (.int .u64 (A:Nat))).other (a:=⟨w.heap.size,3,none⟩) d (.int .u64 (D:Nat)),(((N.o.setCell (.inr (d8 _))).setCell (.inr (d8 _))).setCell (.inr (d8 _))).setCell (.inr (d8 _))⟩
section
attribute [local go_sem ↓] bU bR aZg
def lO (l:List Nat):List Value:=l.map fun(n:Nat)=>Value.int .i64 (n:Int)
def w4s (s:Bs) (j:Nat):List Nat:=(List.range j).map fun i=>nU (dW s (4*i) 4)
theorem bKx (s:Bs) (j:Nat) (d:j<6):(lO (w4s s j)++List.replicate (6-j) (Value.int .i64 0)).set j (.int .i64 (nU (dW s (4*j) 4):Nat))=lO (w4s s (j+1))++List.replicate (6-(j+1)) (.int .i64 0):=by
 have c:(lO (w4s s j)).length=j:=by simp[lO,w4s]
 rw[List.set_append_right _ _ (by omega),c,Nat.sub_self,show 6-j=(6-(j+1))+1 by omega,bOc,List.set_cons_zero]
 simp[lO,w4s,bMk]
theorem bAo (n:Nat) (h:n<4294967296):bits BinOp.and IntKind.i64 (n:Int) 255=((n%256:Nat):Int):=by
 have c:(BitVec.ofInt 64 (n:Int) &&& BitVec.ofInt 64 255).toNat=n%256:=by
  rw[show(255:Int)=((255:Nat):Int) from rfl,BitVec.ofInt_natCast,BitVec.ofInt_natCast,BitVec.toNat_and,BitVec.toNat_ofNat,BitVec.toNat_ofNat,Nat.mod_eq_of_lt (by omega),Nat.mod_eq_of_lt (by omega)]
  exact Nat.and_two_pow_sub_one_eq_mod n 8
 show IntKind.i64.wrap (((BitVec.ofInt 64 (n:Int) &&& BitVec.ofInt 64 255).toNat:Nat):Int)=_
 rw[c];exact bLo _ (by omega)
def vP (s:Bs) (w:World) (e:Ending) (w':World):Prop:=e= .returned (.tuple #[.agg (aA (if fD s then iC s else pD)).toArray,.int .i64 (if fD s then 0 else 3)])∧Below w.heap.size w w'
theorem vP.yes {e:Ending} (h:fD s=true) (c:e= .returned (.tuple #[.agg (aA (iC s)).toArray,(0:Int)])) (d:bB w w'):vP s w e w':=by
 unfold vP;rw[i6 h,i6 h];exact⟨c,d⟩
theorem vP.no {e:Ending} (h:fD s=false) (c:e= .returned (.tuple #[.agg (aA pD).toArray,(3:Int)])) (d:bB w w'):vP s w e w':=by
 unfold vP;rw[i9 (by simp[h]),i9 (by simp[h])];exact⟨c,d⟩
def aUg:List Value:=aA pD
theorem yY (s:Bs) (w:World) (ba:s.length=64):
  Calls prog 218 #[.string ⟨s.toArray⟩] w (vP s w):=by
 have h1:¬(s.length:Int)<64:=by omega
 have h2:¬(64:Int)<(s.length:Int):=by omega
 have D:=hZ ba;clear ba;go_in;go_wp2_with fail;refine(oI s _).mono ?_;rintro e w1 ⟨rfl,I⟩;have ap:w1.heap.size=w.heap.size+2:=by rw[I];simp
 have ai:bB w w1:=by rw[I];exact(bZ).alloc (by simp) _
 have ao:Blk w1 w.heap.size 51 aUg:=by rw[I];exact(Blk.new w 51 aUg).alloc _
 have aq:kO w1 (w.heap.size+1) s 0:=by rw[I];exact Blk.newAt (w:=w.alloc _) 304 [.string ⟨s.toArray⟩,.int .i64 0] (by simp)
 clear I;have bk:=hZ ap;clear ap;go_upto_region 7 with fail
 obtain⟨aj,J⟩:=nZ (w1.alloc (.cells #[.int .i64 0,.int .i64 0,.int .i64 0,.int .i64 0,.int .i64 0,.int .i64 0] 382));have R:bB w1 aj:=by rw[J];exact bZ
 have ar:Blk aj w1.heap.size 382 (lO (w4s s 0)++List.replicate (6-0) (Value.int .i64 0)):=by rw[J];exact Blk.new w1 382 _
 have bl:=hZ (aq.below R);have bj:=hZ (ao.below R);have au:=hZ ar;have bm:=hZ (ai.trans (R.mono ai.size));have bn:w1.heap.size<aj.heap.size:=by rw[J];simp
 rw[←J];clear J R ar aq ao ai;have Y:=bk.o;rw[Y] at au bn⊢;clear Y;go_wp2_with fail;go_loopw [21] (fun i wr=>∃j:Nat,j≤6∧i= .int .i64 j∧Hid (kO wr (w.heap.size+1) s (4*j))∧Hid (Blk wr (w.heap.size+2) 382 (lO (w4s s j)++List.replicate (6-j) (.int .i64 0)))∧Hid (Blk wr w.heap.size 51 aUg)∧Hid (bB w wr)) (fun i _=>6-(intOf i).toNat)
 case atStart=>exact⟨0,by omega,rfl,bl,au,bj,bm⟩
 case round=>
  obtain⟨j,cl,rfl,bb,Z,bc,aa⟩:=hrel;have av:(lO (w4s s j)).length=j:=by simp[lO,w4s]
  by_cases bo:j<6
  ·have bq:∃u,Hid (wr.cell? ⟨w.heap.size+2,j,none⟩=some u):=by
    refine⟨.int .i64 0,hZ ?_⟩;rw[Z.o.cell,bMq (by rw[av];exact d8 _),av,Nat.sub_self]
    rw[show 6-j=(6-(j+1))+1 by omega];rfl
   obtain⟨u,br⟩:=bq;go_wp2_with fail;refine(aEl (w.heap.size+1) s (4*j) wr bb.o (by have:=D.o;omega) (by have:=D.o;omega)).mono ?_
   rintro e w2 ⟨rfl,T,d⟩;have cm:w2.cell? ⟨w.heap.size+2,j,none⟩=some u:=d.cell (by show ¬w.heap.size+2=w.heap.size+1;omega) br.o
   have cn:w2.frozen? ⟨w.heap.size+2,j,none⟩=false:=(d.blk Z.o (by show ¬w.heap.size+2=w.heap.size+1;omega)).frozen j
   go_wp2_with fail;go_roundw
   case rel=>
    have K:=d.blk Z.o (by show ¬w.heap.size+2=w.heap.size+1;omega)
    have U:=d.blk bc.o (by show ¬w.heap.size=w.heap.size+1;omega)
    have L:bB w w2:=aa.o.trans (d.toBelow (fun k ak=>by rw[ak];omega) aa.o.size)
    refine⟨j+1,by omega,by go_num,hZ (Blk.other T (by show w.heap.size+1≠w.heap.size+2;omega) _),hZ ?_,hZ (U.other (by show w.heap.size≠w.heap.size+2;omega) _),hZ (L.setCell (by show w.heap.size≤w.heap.size+2;omega) _)⟩
    have h2:=K.setCell j (.int .i64 (nU (dW s (4*j) 4):Nat));rw[bKx s j bo] at h2;exact h2
   case measure=>simp[intOf];omega
  ·obtain rfl:j=6:=by omega
   go_wp2_with fail;refine(aCm (w.heap.size+1) s 24 wr bb.o (by have:=D.o;omega) (by have:=D.o;omega)).mono ?_
   rintro e w2 ⟨rfl,T,d⟩;obtain⟨q,r,z,A,al⟩:∃q r z A:Nat,mU s 24 4=[q,r,z,A]:=⟨_,_,_,_,rfl⟩;obtain⟨ab,ac,ad,ae,c,af,am⟩:∃ab ac ad ae c af:Nat,w4s s 6=[ab,ac,ad,ae,c,af]:=⟨_,_,_,_,_,_,rfl⟩;have K:=d.blk Z.o (by show ¬w.heap.size+2=w.heap.size+1;omega)
   have U:=d.blk bc.o (by show ¬w.heap.size=w.heap.size+1;omega)
   have L:bB w w2:=aa.o.trans (d.toBelow (fun k ak=>by rw[ak];omega) aa.o.size)
   rw[am] at K;rw[al,show(aDf [q,r,z,A]).toArray=#[.int .u64 (q:Nat),.int .u64 (r:Nat),.int .u64 (z:Nat),.int .u64 (A:Nat)] from rfl];have bx:=hZ al;have ag:=hZ am;clear al am;have E:Hid (Blk w2 (w.heap.size+2) 382 [(ab:Nat),(ac:Nat),(ad:Nat),(ae:Nat),(c:Nat),(af:Nat)]):=hZ K;clear K;go_upto_region 13 with fail
   obtain⟨N,W⟩:=nZ (w2.alloc (.cells #[.int .u64 (q:Nat),.int .u64 (r:Nat),.int .u64 (z:Nat),.int .u64 (A:Nat)] 49));have f:bB w2 N:=by rw[W];exact bZ
   have aw:Blk N w2.heap.size 49 [.int .u64 (q:Nat),.int .u64 (r:Nat),.int .u64 (z:Nat),.int .u64 (A:Nat)]:=by rw[W];exact Blk.new w2 _ [.int .u64 (q:Nat),.int .u64 (r:Nat),.int .u64 (z:Nat),.int .u64 (A:Nat)]
   rw[←W];clear W;have c0:=(E.o.below f).cell 0;have co:=(E.o.below f).cell 1;have c2:=(E.o.below f).cell 2;have c3:=(E.o.below f).cell 3;have cp:=(E.o.below f).cell 4;have cq:=(E.o.below f).cell 5;have bs:=hZ aw;have bt:=hZ (Blk.below T f);have G:=hZ (U.below f);have H:=hZ (L.trans (f.mono L.size));have ax:∀(w':World),Blk w' w.heap.size 51 aUg→∀op a next Q,cS prog op 51 (.pointer (some ⟨w.heap.size,0,none⟩)) (.agg yE) a w' next Q=next (a.put op.dst undef) (w'.setCells w.heap.size 0 aUg):=fun w' h op a next Q=>aG (o:=0) (cs:=aA pD) h (by decide) aU (aX _) op a next Q
   have ay:=hZ ax;clear ax;have bu:c<4294967296:=by
    have h:=bGf s 16 (by have:=D.o;omega)
    have e:(w4s s 6)[4]?=some c:=by rw[ag.o];rfl
    simp[w4s] at e;omega
   clear f aw d T U L;by_cases cr:131071<c
   ·have bv:(131071:Int)<(c:Int):=by omega
    have bw:=ay.o N G.o;go_wp2_with fail;refine l9 (aL rfl _ _ w.heap.size 51 _ _ rfl (G.o.put (vs:=aUg) rfl) underlying51 rfl aU) rfl ?_;refine vP.no ?_ rfl (bQ H.o H.o.size (d8 _));have e:(w4s s 6)[4]?=some c:=by rw[ag.o];rfl
    simp[w4s] at e;unfold fD w4;rw[show 4*4=16 from rfl,e];simp;omega
   ·have bv:¬(131071:Int)<(c:Int):=by omega
    have bd:w4 s 4=c:=by
     have e:(w4s s 6)[4]?=some c:=by rw[ag.o];rfl
     simp[w4s] at e;exact e
    have bz:=hZ bd;clear bd;go_wp2_with fail;refine(lU (w.heap.size+1) s 56 N bt.o (by have:=D.o;omega) (by have:=D.o;omega)).mono ?_
    rintro e cj ⟨rfl,be,rfl⟩;by_cases ah:cG (s.drop 56)=true
    ·have O:=hZ ah
     rw[O.o];clear ah;have ck:=fun op a next Q=>aB (P:=prog) (bs.o.drewN (n:=be)) underlying49 rfl bHp op a next Q
     have bf:Value.agg #[(ab:Nat),(ac:Nat),(ad:Nat),(ae:Nat),.bool (decide (0<(c:Int)/65536)),.int .i64 (bits BinOp.and IntKind.i64 (c:Int) 255),.int .i64 (bits BinOp.and IntKind.i64 ((c:Int)/256) 255),(af:Nat),.int .u64 (q:Nat),.int .u64 (r:Nat),.int .u64 (z:Nat),.int .u64 (A:Nat)]= .agg (aA (iC s)).toArray:=by
      have bh:=ag.o;have bi:=bx.o;simp[w4s,List.range,List.range.loop] at bh;simp[mU,List.range,List.range.loop] at bi;obtain⟨k0,k1,ca,cb,cc,cd⟩:=bh;obtain⟨ce,cf,cg,ch⟩:=bi;have Y:=bAo c bu;have an:=bAo (c/256) (by omega)
      rw[Int.natCast_ediv] at an;rw[show((256:Nat):Int)=256 from rfl] at an;rw[Y,an];simp only[iC,aA,w4,w8,Nat.mul_zero,Nat.mul_one,Nat.add_zero,Nat.reduceMul,Nat.reduceAdd,k0,k1,ca,cb,cc,cd,ce,cf,cg,ch];rw[show(decide (0<(c:Int)/65536))=decide (0<c/65536) by rw[decide_eq_decide];omega]
     have ci:=hZ bf;clear bf;go_wp2_with fail;rw[ci.o,aG (o:=0) (cs:=aA (iC s)) G.o.drewN (d8 12) aU (aX _)];go_wp2_with fail;refine l9 (aL rfl _ _ w.heap.size 51 _ _ rfl (G.o.drewN.put (vs:=aA (iC s)) rfl) underlying51 rfl aU) rfl ?_;refine vP.yes ?_ rfl (bQ (dB H.o _) H.o.size (d8 _));have:=O.o;unfold cG at this;unfold fD;rw[this,bz.o];simp;omega
    ·have az:cG (s.drop 56)=false:=by simpa using ah
     have O:=hZ az;rw[O.o];clear ah az;have bw:=ay.o (N.drewN be) G.o.drewN;go_wp2_with fail;refine l9 (aL rfl _ _ w.heap.size 51 _ _ rfl (G.o.drewN.put (vs:=aUg) rfl) underlying51 rfl aU) rfl ?_;refine vP.no ?_ rfl (bQ (dB H.o _) H.o.size (d8 _));have:=O.o;unfold cG at this;unfold fD;rw[this];simp
end
def aHg (l:List Int):List Value:=l.map fun x=>Value.int .i64 x
def inB (most:Int) (x:Int):Bool:=decide (0≤x)&&decide (x≤most)
theorem aFh (most:Int) (l:List Int) (q:Option Addr) (cap:Nat) (w:World) (h:RSl w 1 q l.length cap (aHg l)):
  Calls prog 276 #[most,.slice q l.length cap] w fun e w'=>e= .returned (.bool (l.all (inB most)))∧w'=w:=by
 have J:=h.2.1;have D:=h.2.2.1;unfold maxLen at D;go_in;go_wp21;go_loop [9] (fun i=>∃k:Nat,k≤l.length∧i= .int .i64 k∧Hid ((l.take k).all (inB most)=true)) (fun i=>l.length-(intOf i).toNat)
 case atStart=>exact⟨0,by omega,rfl,hZ rfl⟩
 case round=>
  obtain⟨k,N,rfl,u⟩:=hrel;by_cases f:k<l.length
  ·obtain⟨b,K,E,L,H⟩:=h.2.2.2.2 (by omega)
   have c:=H k (by omega)
   have I:(aHg l)[k]?=some (.int .i64 l[k]):=by simp[aHg,f]
   rw[I] at c;have z:∀r:Bool,inB most l[k]=r→(l.take (k+1)).all (inB most)=r:=by
    intro r hr;rw[m8 f,List.all_append,u.o];simp[hr]
   have j:=hZ z;have A:inB most l[k]=false→l.all (inB most)=false:=by
    intro hr;rw[List.all_eq_false];exact⟨l[k],n5 f,by simp[hr]⟩
   have d:=hZ A;obtain⟨x,G⟩:=nZ (l[k]);rw[←G] at c j d;subst E;by_cases h0:x<0
   ·go_wp21
    go_ret;exact⟨by rw[d.o (by simp[inB];omega)];rfl,rfl⟩
   ·by_cases h1:most<x
    ·go_wp21
     go_ret;exact⟨by rw[d.o (by simp[inB];omega)];rfl,rfl⟩
    ·go_wp2_with fail
     go_round
     case rel=>exact⟨k+1,by omega,by go_num,hZ (j.o true (by simp[inB];omega))⟩
     case measure=>simp[intOf];omega
  ·obtain rfl:k=l.length:=by omega
   go_wp21;go_ret;have:=u.o;rw[bLz] at this;exact⟨by rw[this];rfl,rfl⟩
theorem aXa (l:List Nat) (G:Option Addr) (cap:Nat) (w:World) (h:RSl w 1 G l.length cap (lO l)) (T:l.length≤100) (d:∀x∈l,x≤4294967295):
  Calls prog 277 #[.slice G l.length cap] w fun e w'=>e= .returned (.string ⟨(l.flatMap (bS 4)).toArray⟩)∧bB w w':=by
 have N:=hZ h;have K:=hZ d;clear h d;go_in;go_wp2_with fail;go_loopw [3,8] (fun s i wr=>∃k:Nat,k≤l.length∧i= .int .i64 k∧s= .string ⟨((l.take k).flatMap (bS 4)).toArray⟩∧Hid (bB w wr)) (fun _ i _=>l.length-(intOf i).toNat)
 case atStart=>exact⟨0,by omega,rfl,rfl,hZ (i4 _ _)⟩
 case round=>
  obtain⟨k,U,rfl,rfl,f⟩:=hrel;by_cases j:k<l.length
  ·obtain⟨b,O,I,R,H⟩:=(N.o.below f.o).2.2.2.2 (by omega)
   have c:=H k (by omega)
   have d:(lO l)[k]?=some (l[k]:Nat):=by simp[lO,j]
   rw[d] at c;have u:(l.take (k+1)).flatMap (bS 4)=(l.take k).flatMap (bS 4)++bS 4 l[k]:=by
    rw[m8 j,bNn];simp
   have z:=hZ u;have A:=K.o l[k] (n5 j);obtain⟨x,D⟩:=nZ (l[k]);rw[←D] at c z A;have E:∀l:List Nat,(l.flatMap (bS 4)).length=4*l.length:=fun l=>by
    induction l with
    |nil=>rfl
    |cons a r L=>rw[bMb,i7,L,aH,bLn];omega
   have W:¬9223372036854775807<((l.take k).flatMap (bS 4)).length+(bS 4 x).length:=by
    rw[E,aH,z7];omega
   clear D u d H E;subst I;generalize q:(l.take k).flatMap (bS 4)=out at*;have Y:=hZ q;clear q;go_wp2_with fail;refine(oE x wr A).mono ?_;rintro e w1 ⟨rfl,J⟩;go_wp2_with fail;go_roundw
   case rel=>exact⟨k+1,by omega,by go_num,by rw[z.o,cI],hZ (f.o.trans (J.mono f.o.size))⟩
   case measure=>simp[intOf];omega
  ·obtain rfl:k=l.length:=by omega
   go_wp2_with fail;go_ret;exact⟨by rw[bLz];rfl,f.o⟩
theorem mP {t e:TypeId} {len:Nat} {cs:Array Value} (k:Nat) (d:P.underlying t=some (.array len e)) (f:∀w,(isAgg e).run P w= .ok false w) (h:∀w,(sizeOf e).run P w= .ok 1 w) (j:k<len) (q:cs[k]?=some v) (c:World):
  (Instr.index t (.agg cs) (k:Nat)).run P c= .ok v c:=by
 have h0:(0:Int)≤(k:Int):=by omega
 have h1:(k:Int)<(len:Int):=by omega
 simp[Instr.index,asIntOf,bNy d,h,part,f,j,q]
theorem aHi {t e:TypeId} {len:Nat} {cs:Array Value} (k:Nat) (d:P.underlying t=some (.array len e)) (f:∀w,(isAgg e).run P w= .ok true w) (h:∀w,(sizeOf e).run P w= .ok n w) (j:k<len) (c:World):
  (Instr.index t (.agg cs) (k:Nat)).run P c= .ok (.agg (cs.extract (k*n) (k*n+n))) c:=by
 have h0:(0:Int)≤(k:Int):=by omega
 have h1:(k:Int)<(len:Int):=by omega
 simp[Instr.index,asIntOf,bNy d,h,part,f,j]
theorem yR (c d f h:Nat) (w:World) (h0:c<18446744073709551616) (h1:d<18446744073709551616) (h2:f<18446744073709551616) (D:h<18446744073709551616):
  Calls prog 170 #[.agg #[.int .u64 (c:Nat),.int .u64 (d:Nat),.int .u64 (f:Nat),.int .u64 (h:Nat)]] w (rZ w (.string ⟨(bS 8 c++bS 8 d++bS 8 f++bS 8 h).toArray⟩)):=by
 have u:Hid (∀x∈[c,d,f,h],x<18446744073709551616):=hZ (by simp[h0,h1,h2,D])
 clear h0 h1 h2 D;go_in;go_wp21;go_loopw [3,7] (fun s i wr=>∃k:Nat,k≤4∧i= .int .i64 k∧s= .string ⟨(([c,d,f,h].take k).flatMap (bS 8)).toArray⟩∧Hid (bB w wr)) (fun _ i _=>4-(intOf i).toNat)
 case atStart=>exact⟨0,by omega,rfl,rfl,hZ (bZ)⟩
 case round=>
  obtain⟨k,H,rfl,rfl,q⟩:=hrel;by_cases G:k<4
  ·have E:k=0∨k=1∨k=2∨k=3:=by omega
   rcases E with rfl|rfl|rfl|rfl
   ·have z:∀j,(Instr.index 49 (.agg #[.int .u64 (c:Nat),.int .u64 (d:Nat),.int .u64 (f:Nat),.int .u64 (h:Nat)]) (0:Int)).run prog j= .ok (.int .u64 (c:Nat)) j:=mP 0 underlying49 (fun _=>by kernel_rfl) (fun _=>by kernel_rfl) (by omega) rfl
    go_wp21;refine(oV c wr (u.o c (by simp))).mono ?_
    rintro e w1 ⟨rfl,r⟩;have A:¬9223372036854775807<0+(bS 8 c).length:=by simp only[i7,aH];omega
    go_wp21;go_roundw
    case rel=>exact⟨1,by omega,by go_num,by simp[cI],hZ (q.o.trans (r.mono q.o.size))⟩
    case measure=>simp[intOf]
   ·have z:∀j,(Instr.index 49 (.agg #[.int .u64 (c:Nat),.int .u64 (d:Nat),.int .u64 (f:Nat),.int .u64 (h:Nat)]) (1:Int)).run prog j= .ok (.int .u64 (d:Nat)) j:=mP 1 underlying49 (fun _=>by kernel_rfl) (fun _=>by kernel_rfl) (by omega) rfl
    go_wp21;refine(oV d wr (u.o d (by simp))).mono ?_
    rintro e w1 ⟨rfl,r⟩;have A:¬9223372036854775807<(bS 8 c).length+(bS 8 d).length:=by simp only[i7,aH];omega
    go_wp21;go_roundw
    case rel=>exact⟨2,by omega,by go_num,by simp[cI],hZ (q.o.trans (r.mono q.o.size))⟩
    case measure=>simp[intOf]
   ·have z:∀j,(Instr.index 49 (.agg #[.int .u64 (c:Nat),.int .u64 (d:Nat),.int .u64 (f:Nat),.int .u64 (h:Nat)]) (2:Int)).run prog j= .ok (.int .u64 (f:Nat)) j:=mP 2 underlying49 (fun _=>by kernel_rfl) (fun _=>by kernel_rfl) (by omega) rfl
    go_wp21;refine(oV f wr (u.o f (by simp))).mono ?_
    rintro e w1 ⟨rfl,r⟩;have A:¬9223372036854775807<(bS 8 c++bS 8 d).length+(bS 8 f).length:=by simp only[i7,aH];omega
    go_wp21;go_roundw
    case rel=>exact⟨3,by omega,by go_num,by simp[cI],hZ (q.o.trans (r.mono q.o.size))⟩
    case measure=>simp[intOf]
   ·have z:∀j,(Instr.index 49 (.agg #[.int .u64 (c:Nat),.int .u64 (d:Nat),.int .u64 (f:Nat),.int .u64 (h:Nat)]) (3:Int)).run prog j= .ok (.int .u64 (h:Nat)) j:=mP 3 underlying49 (fun _=>by kernel_rfl) (fun _=>by kernel_rfl) (by omega) rfl
    go_wp21;refine(oV h wr (u.o h (by simp))).mono ?_
    rintro e w1 ⟨rfl,r⟩;have A:¬9223372036854775807<(bS 8 c++bS 8 d++bS 8 f).length+(bS 8 h).length:=by simp only[i7,aH];omega
    go_wp21;go_roundw
    case rel=>exact⟨4,by omega,by go_num,by simp[cI],hZ (q.o.trans (r.mono q.o.size))⟩
    case measure=>simp[intOf]
  ·obtain rfl:k=4:=by omega
   go_wp21;go_ret;exact⟨by simp,q.o⟩
section
attribute [local go_sem ↓] bU bR bCl
theorem gL (p:aC) (d:p.wf) (w:World):Calls prog 137 #[.agg (aA p).toArray] w fun e w'=>e= .returned (.bool (isNone p))∧bB w w':=by
 have c:=Blk.new w 51 (aA p);have f:=aB c underlying51 rfl aU;have h:=aXl d;clear c;go_in;go_wp21;go_ret;exact⟨rfl,bZ⟩
def qC (p:aC):List Int:=[p.ag,p.aa,p.bg,p.ba,p.birth]
def tY (p:aC):List Int:=[p.size,p.level]
theorem bEj (p:aC):cT p=((qC p).all (inB 4294967295)&&(tY p).all (inB 255)):=by
 simp[cT,qC,tY,inB,aKe,Bool.and_assoc]
def tO (p:aC) (w:World) (e:Ending) (w':World):Prop:=e= .returned (.tuple #[.string ⟨(if cT p then aR p else[]).toArray⟩,.int .i64 (if cT p then 0 else 1)])∧Below w.heap.size w w'
theorem tO.yes {e:Ending} (h:cT p=true) (c:e= .returned (.tuple #[.string ⟨(aR p).toArray⟩,(0:Int)])) (d:bB w w'):tO p w e w':=by
 unfold tO;rw[i6 h,i6 h];exact⟨c,d⟩
theorem tO.no {e:Ending} (h:cT p=false) (c:e= .returned (.tuple #[.string ⟨#[]⟩,(1:Int)])) (d:bB w w'):tO p w e w':=by
 unfold tO;rw[i9 (by simp[h]),i9 (by simp[h])];exact⟨c,d⟩
theorem aPq (w:World) (l:List Int) (e:Nat) (c:l.length≤100):RSl (w.alloc (.cells (aHg l).toArray e)) 1 (some ⟨w.heap.size,0,none⟩) l.length l.length (aHg l):=(Blk.new w e (aHg l)).rsl (by simp[aHg]) (by unfold maxLen;omega)
theorem aMz (p:aC) (r:cT p=true) (one:Int) (u:one=(fG p:Nat)) (w2 c:World) (g:Nat) (d:bB w2 c) (f:Blk c g 3 [p.ag,p.aa,p.bg,p.ba,one,p.birth]):
  Calls prog 277 #[.slice (some g) 6 6] c fun e w'=>e= .returned (.string ⟨([p.ag.toNat,p.aa.toNat,p.bg.toNat,p.ba.toNat,fG p,p.birth.toNat].flatMap (bS 4)).toArray⟩)∧bB c w'∧bB w2 w':=by
 have h:=bEj p;rw[r] at h;simp[qC,tY,inB] at h;have h1:fG p≤131071:=by
  unfold fG;cases p.two<;>simp<;>omega
 have e:[Value.int .i64 p.ag,.int .i64 p.aa,.int .i64 p.bg,.int .i64 p.ba,.int .i64 one,.int .i64 p.birth]=lO [p.ag.toNat,p.aa.toNat,p.bg.toNat,p.ba.toNat,fG p,p.birth.toNat]:=by
  simp only[lO,List.map,u];rw[show((p.ag.toNat:Nat):Int)=p.ag by omega,show((p.aa.toNat:Nat):Int)=p.aa by omega,show((p.bg.toNat:Nat):Int)=p.bg by omega,show((p.ba.toNat:Nat):Int)=p.ba by omega,show((p.birth.toNat:Nat):Int)=p.birth by omega]
 rw[e] at f;refine(aXa [p.ag.toNat,p.aa.toNat,p.bg.toNat,p.ba.toNat,fG p,p.birth.toNat] (some g) 6 c (f.rsl rfl (by unfold maxLen;show 6≤_;omega)) (by show 6≤100;omega) ?_).mono ?_
 ·intro x j
  simp only[s8,bLp,bNo] at j;rcases j with rfl|rfl|rfl|rfl|rfl|rfl<;>omega
 ·rintro e w' ⟨rfl,q⟩
  exact⟨rfl,q,d.trans (q.mono d.size)⟩
theorem bAz (p:aC) (c:p.wf) (w2 d:World) (f:bB w2 d):
  Calls prog 170 #[.agg #[.int .u64 p.s0,.int .u64 p.s1,.int .u64 p.s2,.int .u64 p.s3]] d fun e w'=>e= .returned (.string ⟨(bS 8 p.s0.toNat++bS 8 p.s1.toNat++bS 8 p.s2.toNat++bS 8 p.s3.toNat).toArray⟩)∧bB d w'∧bB w2 w':=by
 have h0:=c.s0;have h1:=c.s1;have h2:=c.s2;have q:=c.s3;unfold aDc at h0 h1 h2 q;have h:=yR p.s0.toNat p.s1.toNat p.s2.toNat p.s3.toNat d (by omega) (by omega) (by omega) (by omega)
 rw[show((p.s0.toNat:Nat):Int)=p.s0 by omega,show((p.s1.toNat:Nat):Int)=p.s1 by omega,show((p.s2.toNat:Nat):Int)=p.s2 by omega,show((p.s3.toNat:Nat):Int)=p.s3 by omega] at h
 refine h.mono ?_;rintro e w' ⟨rfl,j⟩;exact⟨rfl,j,f.trans (j.mono f.size)⟩
theorem aBz (p:aC):lQ ([p.ag.toNat,p.aa.toNat,p.bg.toNat,p.ba.toNat,fG p,p.birth.toNat].flatMap (bS 4)++(bS 8 p.s0.toNat++bS 8 p.s1.toNat++bS 8 p.s2.toNat++bS 8 p.s3.toNat)) 64=aR p:=by
 have c:([p.ag.toNat,p.aa.toNat,p.bg.toNat,p.ba.toNat,fG p,p.birth.toNat].flatMap (bS 4)++(bS 8 p.s0.toNat++bS 8 p.s1.toNat++bS 8 p.s2.toNat++bS 8 p.s3.toNat)).length=56:=by simp[aH]
 unfold lQ;rw[c];simp[aR]
theorem bAa (c d:Bs) (q:c.length+d.length≤100) (w2 f:World) (h:bB w2 f):Calls prog 168 #[.string ((⟨c.toArray⟩:ByteArray)++⟨d.toArray⟩),(64:Int)] f fun e w'=>e= .returned (.string ⟨(lQ (c++d) 64).toArray⟩)∧bB w2 w':=by
 rw[cI];refine(oS (c++d) 64 f (by simp;omega) (by omega) (by omega)).mono ?_
 rintro e w' ⟨rfl,j⟩;exact⟨rfl,h.trans (j.mono h.size)⟩
theorem qJ (p:aC) (az:p.wf) (w:World):Calls prog 232 #[.agg (aA p).toArray] w (tO p w):=by
 obtain⟨j,T⟩:=nZ (w.alloc (.cells (aA p).toArray 51));have E:Blk j w.heap.size 51 (aA p):=by rw[T];exact Blk.new w _ _
 have av:Below w.heap.size w j:=by rw[T];exact bZ
 have aw:j.heap.size=w.heap.size+1:=by rw[T];simp
 have c0:j.cell? ⟨w.heap.size,0,none⟩=some (.int .i64 p.ag):=E.cell 0;have bb:j.cell? ⟨w.heap.size,1,none⟩=some (.int .i64 p.aa):=E.cell 1;have c2:j.cell? ⟨w.heap.size,2,none⟩=some (.int .i64 p.bg):=E.cell 2;have c3:j.cell? ⟨w.heap.size,3,none⟩=some (.int .i64 p.ba):=E.cell 3;have bc:j.cell? ⟨w.heap.size,7,none⟩=some (.int .i64 p.birth):=E.cell 7;have ai:=hZ E;have A:=hZ av;have bm:=hZ aw;clear E av aw;go_in;go_upto_region 1 with fail
 rw[←T];clear T;go_wp21;refine(aFh 4294967295 (qC p) (some ⟨j.heap.size,0,none⟩) 5 _ (aPq j (qC p) 3 (by show 5≤100;omega))).mono ?_
 rintro e w1 ⟨rfl,rfl⟩;have ae:=(ai.o.alloc (.cells (aHg (qC p)).toArray 3)).cell 5;have af:=(ai.o.alloc (.cells (aHg (qC p)).toArray 3)).cell 6;obtain⟨w1,aj⟩:=nZ (j.alloc (.cells (aHg (qC p)).toArray 3));have ak:Hid (Below j.heap.size j w1):=by rw[aj];exact hZ (bZ)
 rw[←aj] at ae af⊢;have bn:w1.cell? ⟨w.heap.size,5,none⟩=some (.int .i64 p.size):=ae;have bo:w1.cell? ⟨w.heap.size,6,none⟩=some (.int .i64 p.level):=af;clear aj c0 bb c2 c3 bc ae af;have O:=bEj p;by_cases Z:(qC p).all (inB 4294967295)=true
 ·rw[Z] at O⊢
  have r:=hZ O;have bq:=hZ Z;clear O Z;go_wp21;refine(aFh 255 (tY p) (some ⟨w1.heap.size,0,none⟩) 2 _ (aPq w1 (tY p) 3 (by show 2≤100;omega))).mono ?_
  rintro e w2 ⟨rfl,ax⟩;have be:Hid (Below w1.heap.size w1 w2):=by rw[ax];exact hZ (bZ)
  have R:Hid (Below j.heap.size j w2):=hZ (ak.o.trans (be.o.mono ak.o.size));clear ax;by_cases h2:(tY p).all (inB 255)=true
  ·rw[h2]
   have D:cT p=true:=by rw[r.o,h2];rfl
   have r:=hZ D;have br:=hZ h2;have z:=ai.o.below R.o;have bi:0≤p.size∧p.size≤255∧0≤p.level∧p.level≤255:=by simp[tY,inB] at h2;omega
   obtain⟨bs,s2,bt,bu⟩:=bi;have c0:w2.cell? ⟨w.heap.size,0,none⟩=some (.int .i64 p.ag):=z.cell 0;have bb:w2.cell? ⟨w.heap.size,1,none⟩=some (.int .i64 p.aa):=z.cell 1;have c2:w2.cell? ⟨w.heap.size,2,none⟩=some (.int .i64 p.bg):=z.cell 2;have c3:w2.cell? ⟨w.heap.size,3,none⟩=some (.int .i64 p.ba):=z.cell 3;have bd:w2.cell? ⟨w.heap.size,4,none⟩=some (.bool p.two):=z.cell 4;have ae:w2.cell? ⟨w.heap.size,5,none⟩=some (.int .i64 p.size):=z.cell 5;have af:w2.cell? ⟨w.heap.size,6,none⟩=some (.int .i64 p.level):=z.cell 6;have bc:w2.cell? ⟨w.heap.size,7,none⟩=some (.int .i64 p.birth):=z.cell 7;have c:=hZ z;clear z h2 D;by_cases U:p.two=true
   ·rw[U] at bd
    have al:=hZ U;clear U;go_upto_region 6 with fail
    have bj:w2.cell? ⟨w.heap.size,8,none⟩=some (.int .u64 p.s0):=c.o.cell 8;have bk:w2.cell? ⟨w.heap.size,9,none⟩=some (.int .u64 p.s1):=c.o.cell 9;have bf:w2.cell? ⟨w.heap.size,10,none⟩=some (.int .u64 p.s2):=c.o.cell 10;have bh:w2.cell? ⟨w.heap.size,11,none⟩=some (.int .u64 p.s3):=c.o.cell 11;have ab:p.size+p.level*256+65536=(fG p:Nat):=by unfold fG;rw[al.o];simp;omega
    have G:=hZ fun d g (u:Below w2.heap.size w2 d) (ar:Blk d g 3 [.int .i64 p.ag,.int .i64 p.aa,.int .i64 p.bg,.int .i64 p.ba,.int .i64 (p.size+p.level*256+65536),.int .i64 p.birth])=>aMz p r.o _ ab w2 d g u ar
    clear ab;have N:Hid (∀w',Below w2.heap.size w2 w'→w'.cell? ⟨w.heap.size,0,none⟩=some (.int .i64 p.ag)∧w'.cell? ⟨w.heap.size,1,none⟩=some (.int .i64 p.aa)∧w'.cell? ⟨w.heap.size,2,none⟩=some (.int .i64 p.bg)∧w'.cell? ⟨w.heap.size,3,none⟩=some (.int .i64 p.ba)∧w'.cell? ⟨w.heap.size,7,none⟩=some (.int .i64 p.birth)∧w'.cell? ⟨w.heap.size,8,none⟩=some (.int .u64 p.s0)∧w'.cell? ⟨w.heap.size,9,none⟩=some (.int .u64 p.s1)∧w'.cell? ⟨w.heap.size,10,none⟩=some (.int .u64 p.s2)∧w'.cell? ⟨w.heap.size,11,none⟩=some (.int .u64 p.s3)):=hZ fun w' h=>⟨(c.o.below h).cell 0,(c.o.below h).cell 1,(c.o.below h).cell 2,(c.o.below h).cell 3,(c.o.below h).cell 7,(c.o.below h).cell 8,(c.o.below h).cell 9,(c.o.below h).cell 10,(c.o.below h).cell 11⟩
    have H:=hZ fun d (u:Below w2.heap.size w2 d)=>bAz p az w2 d u
    generalize I:[p.ag.toNat,p.aa.toNat,p.bg.toNat,p.ba.toNat,fG p,p.birth.toNat].flatMap (bS 4)=l1 at*;generalize J:bS 8 p.s0.toNat++bS 8 p.s1.toNat++bS 8 p.s2.toNat++bS 8 p.s3.toNat=l2 at*;have am:l1.length=24:=by rw[←I];simp[aH]
    have an:l2.length=32:=by rw[←J];simp[aH]
    have bl:¬9223372036854775807<l1.length+l2.length:=by omega
    have W:=hZ fun d (u:Below w2.heap.size w2 d)=>bAa l1 l2 (by omega) w2 d u
    have ao:=hZ I;have ap:=hZ J;clear I J am an;go_region_held3 (fun w'=>w'.cell? ⟨w.heap.size,0,none⟩=some (.int .i64 p.ag)∧w'.cell? ⟨w.heap.size,1,none⟩=some (.int .i64 p.aa)∧w'.cell? ⟨w.heap.size,2,none⟩=some (.int .i64 p.bg)∧w'.cell? ⟨w.heap.size,3,none⟩=some (.int .i64 p.ba)∧w'.cell? ⟨w.heap.size,7,none⟩=some (.int .i64 p.birth)∧w'.cell? ⟨w.heap.size,8,none⟩=some (.int .u64 p.s0)∧w'.cell? ⟨w.heap.size,9,none⟩=some (.int .u64 p.s1)∧w'.cell? ⟨w.heap.size,10,none⟩=some (.int .u64 p.s2)∧w'.cell? ⟨w.heap.size,11,none⟩=some (.int .u64 p.s3)) (first|go_keep|exact N.o _ K|exact N.o _ q|exact N.o _ f)
     (first
      |(go_at_call 277;first
        |(refine(G.o _ _ ((bZ).drew) (Blk.new w2 _ [.int .i64 p.ag,.int .i64 p.aa,.int .i64 p.bg,.int .i64 p.ba,.int .i64 (p.size+p.level*256+65536),.int .i64 p.birth]).drew).mono ?_;rintro e ac ⟨rfl,Y,q⟩)
        |(refine(G.o _ _ f ((Blk.new w2 _ [.int .i64 p.ag,.int .i64 p.aa,.int .i64 p.bg,.int .i64 p.ba,.int .i64 (p.size+p.level*256+65536),.int .i64 p.birth]).drew.below L)).mono ?_;rintro e ac ⟨rfl,Y,q⟩)
        |(refine(G.o _ _ (f.alloc f.size _) (Blk.new _ _ [.int .i64 p.ag,.int .i64 p.aa,.int .i64 p.bg,.int .i64 p.ba,.int .i64 (p.size+p.level*256+65536),.int .i64 p.birth])).mono ?_;rintro e ac ⟨rfl,Y,q⟩))
      |(go_at_call 170;first
        |(refine(H.o _ ((i4 _ _).drew)).mono ?_;rintro e ad ⟨rfl,L,f⟩)
        |(refine(H.o _ ((bZ).drew)).mono ?_;rintro e ad ⟨rfl,L,f⟩)
        |(refine(H.o _ q).mono ?_;rintro e ad ⟨rfl,L,f⟩))
      |(go_at_call 168;first
        |(refine(W.o _ q).mono ?_;rintro e au ⟨rfl,K⟩)
        |(refine(W.o _ f).mono ?_;rintro e au ⟨rfl,K⟩)))
    all_goals
     go_wp21;go_ret2;refine tO.yes r.o ?_ (A.o.trans ((R.o.trans (K.mono R.o.size)).mono A.o.size));rw[←aBz,ao.o,ap.o];rfl
   ·have ah:p.two=false:=by simpa using U
    rw[ah] at bd;have al:=hZ ah;clear U ah;go_upto_region 6 with fail
    have bj:w2.cell? ⟨w.heap.size,8,none⟩=some (.int .u64 p.s0):=c.o.cell 8;have bk:w2.cell? ⟨w.heap.size,9,none⟩=some (.int .u64 p.s1):=c.o.cell 9;have bf:w2.cell? ⟨w.heap.size,10,none⟩=some (.int .u64 p.s2):=c.o.cell 10;have bh:w2.cell? ⟨w.heap.size,11,none⟩=some (.int .u64 p.s3):=c.o.cell 11;have ab:p.size+p.level*256=(fG p:Nat):=by unfold fG;rw[al.o];simp;omega
    have G:=hZ fun d g (u:Below w2.heap.size w2 d) (ar:Blk d g 3 [.int .i64 p.ag,.int .i64 p.aa,.int .i64 p.bg,.int .i64 p.ba,.int .i64 (p.size+p.level*256),.int .i64 p.birth])=>aMz p r.o _ ab w2 d g u ar
    clear ab;have N:Hid (∀w',Below w2.heap.size w2 w'→w'.cell? ⟨w.heap.size,0,none⟩=some (.int .i64 p.ag)∧w'.cell? ⟨w.heap.size,1,none⟩=some (.int .i64 p.aa)∧w'.cell? ⟨w.heap.size,2,none⟩=some (.int .i64 p.bg)∧w'.cell? ⟨w.heap.size,3,none⟩=some (.int .i64 p.ba)∧w'.cell? ⟨w.heap.size,7,none⟩=some (.int .i64 p.birth)∧w'.cell? ⟨w.heap.size,8,none⟩=some (.int .u64 p.s0)∧w'.cell? ⟨w.heap.size,9,none⟩=some (.int .u64 p.s1)∧w'.cell? ⟨w.heap.size,10,none⟩=some (.int .u64 p.s2)∧w'.cell? ⟨w.heap.size,11,none⟩=some (.int .u64 p.s3)):=hZ fun w' h=>⟨(c.o.below h).cell 0,(c.o.below h).cell 1,(c.o.below h).cell 2,(c.o.below h).cell 3,(c.o.below h).cell 7,(c.o.below h).cell 8,(c.o.below h).cell 9,(c.o.below h).cell 10,(c.o.below h).cell 11⟩
    have H:=hZ fun d (u:Below w2.heap.size w2 d)=>bAz p az w2 d u
    generalize I:[p.ag.toNat,p.aa.toNat,p.bg.toNat,p.ba.toNat,fG p,p.birth.toNat].flatMap (bS 4)=l1 at*;generalize J:bS 8 p.s0.toNat++bS 8 p.s1.toNat++bS 8 p.s2.toNat++bS 8 p.s3.toNat=l2 at*;have am:l1.length=24:=by rw[←I];simp[aH]
    have an:l2.length=32:=by rw[←J];simp[aH]
    have bl:¬9223372036854775807<l1.length+l2.length:=by omega
    have W:=hZ fun d (u:Below w2.heap.size w2 d)=>bAa l1 l2 (by omega) w2 d u
    have ao:=hZ I;have ap:=hZ J;clear I J am an;go_region_held3 (fun w'=>w'.cell? ⟨w.heap.size,0,none⟩=some (.int .i64 p.ag)∧w'.cell? ⟨w.heap.size,1,none⟩=some (.int .i64 p.aa)∧w'.cell? ⟨w.heap.size,2,none⟩=some (.int .i64 p.bg)∧w'.cell? ⟨w.heap.size,3,none⟩=some (.int .i64 p.ba)∧w'.cell? ⟨w.heap.size,7,none⟩=some (.int .i64 p.birth)∧w'.cell? ⟨w.heap.size,8,none⟩=some (.int .u64 p.s0)∧w'.cell? ⟨w.heap.size,9,none⟩=some (.int .u64 p.s1)∧w'.cell? ⟨w.heap.size,10,none⟩=some (.int .u64 p.s2)∧w'.cell? ⟨w.heap.size,11,none⟩=some (.int .u64 p.s3)) (first|go_keep|exact N.o _ K|exact N.o _ q|exact N.o _ f)
     (first
      |(go_at_call 277;first
        |(refine(G.o _ _ ((bZ).drew) (Blk.new w2 _ [.int .i64 p.ag,.int .i64 p.aa,.int .i64 p.bg,.int .i64 p.ba,.int .i64 (p.size+p.level*256),.int .i64 p.birth]).drew).mono ?_;rintro e ac ⟨rfl,Y,q⟩)
        |(refine(G.o _ _ f ((Blk.new w2 _ [.int .i64 p.ag,.int .i64 p.aa,.int .i64 p.bg,.int .i64 p.ba,.int .i64 (p.size+p.level*256),.int .i64 p.birth]).drew.below L)).mono ?_;rintro e ac ⟨rfl,Y,q⟩)
        |(refine(G.o _ _ (f.alloc f.size _) (Blk.new _ _ [.int .i64 p.ag,.int .i64 p.aa,.int .i64 p.bg,.int .i64 p.ba,.int .i64 (p.size+p.level*256),.int .i64 p.birth])).mono ?_;rintro e ac ⟨rfl,Y,q⟩))
      |(go_at_call 170;first
        |(refine(H.o _ ((i4 _ _).drew)).mono ?_;rintro e ad ⟨rfl,L,f⟩)
        |(refine(H.o _ ((bZ).drew)).mono ?_;rintro e ad ⟨rfl,L,f⟩)
        |(refine(H.o _ q).mono ?_;rintro e ad ⟨rfl,L,f⟩))
      |(go_at_call 168;first
        |(refine(W.o _ q).mono ?_;rintro e au ⟨rfl,K⟩)
        |(refine(W.o _ f).mono ?_;rintro e au ⟨rfl,K⟩)))
    all_goals
     go_wp21;go_ret2;refine tO.yes r.o ?_ (A.o.trans ((R.o.trans (K.mono R.o.size)).mono A.o.size));rw[←aBz,ao.o,ap.o];rfl
  ·have aq:(tY p).all (inB 255)=false:=by simpa using h2
   rw[aq];have D:cT p=false:=by rw[r.o,aq];rfl
   have r:=hZ D;clear h2 aq D;go_wp21;go_ret2;exact tO.no r.o rfl (A.o.trans (R.o.mono A.o.size))
 ·have ay:(qC p).all (inB 4294967295)=false:=by simpa using Z
  rw[ay] at O⊢;have D:cT p=false:=by rw[O];rfl
  have r:=hZ D;clear O Z ay D;go_wp21;go_ret2;exact tO.no r.o rfl (A.o.trans (ak.o.mono A.o.size))
end
section
attribute [local go_sem ↓] bU bR gD
theorem qB (s:Bs) (w:World) (h:s.length≤1000000):Calls prog 214 #[.agg #[.string ⟨s.toArray⟩]] w fun e w'=>e= .returned (.string ⟨(aV s).toArray⟩)∧bB w w':=by
 by_cases d:s.length≤256
 ·have h1:¬(256:Int)<(s.length:Int):=by omega
  have e:aV s=lQ s 64:=by unfold aV;rw[i6 d];rfl
  have c:=hZ e;go_in;go_wp21;refine(oS s 64 _ (by omega) (by omega) (by omega)).mono ?_
  rintro j w1 ⟨rfl,f⟩;go_wp21;go_ret;exact⟨by rw[c.o];rfl,((i4 _ w).alloc (d8 _) (.cells #[.string ⟨s.toArray⟩] 327)).trans (f.mono (by simp))⟩
 ·have h1:(256:Int)<(s.length:Int):=by omega
  have e:aV s=[]:=by unfold aV;rw[i9 d]
  have c:=hZ e;go_in;go_wp21;go_ret;exact⟨by rw[c.o];rfl,(i4 _ w).alloc (d8 _) _⟩
theorem vJ (w:World):Calls prog 373 #[.agg #[]] w fun e w'=>e= .returned (.string ⟨#[]⟩)∧bB w w':=by
 go_in;go_wp21;go_ret;exact⟨rfl,(i4 _ w).alloc (d8 _) _⟩
theorem oB (size:Int) (w:World) (f:eY size):Calls prog 144 #[size] w fun e w'=>e= .returned (gC size:Nat)∧w'=w:=by
 unfold eY at f;obtain⟨q,r⟩:=f;go_in;go_wp21;go_loop [3,4] (fun d most=>∃k m:Nat,d= .int .i64 k∧most= .int .i64 m∧Hid ((k=0∧m=256)∨(k=1∧m=1024∧256<size)∨(k=2∧m=4096∧1024<size)∨(k=3∧m=16384∧4096<size))) (fun d _=>3-(intOf d).toNat)
 case atStart=>exact⟨0,256,rfl,rfl,hZ (.inl ⟨rfl,rfl⟩)⟩
 case round=>
  obtain⟨k,m,rfl,rfl,j⟩:=hrel;rcases j.o with⟨rfl,rfl⟩|⟨rfl,rfl,h⟩|⟨rfl,rfl,h⟩|⟨rfl,rfl,h⟩
  ·by_cases c:256<size
   ·have u:decide ((256:Int)<size)=true:=by simpa using c
    go_wp2_with fail;go_round
    case rel=>exact⟨1,1024,rfl,rfl,hZ (.inr (.inl ⟨rfl,rfl,c⟩))⟩
    case measure=>simp[intOf]
   ·go_wp21
    go_ret;exact⟨by unfold gC;rw[i6 (by omega)];rfl,rfl⟩
  ·by_cases c:1024<size
   ·go_wp2_with fail
    go_round
    case rel=>exact⟨2,4096,rfl,rfl,hZ (.inr (.inr (.inl ⟨rfl,rfl,c⟩)))⟩
    case measure=>simp[intOf]
   ·go_wp21
    go_ret;exact⟨by unfold gC;rw[i9 (by omega),i6 (by omega)];rfl,rfl⟩
  ·by_cases c:4096<size
   ·go_wp2_with fail
    go_round
    case rel=>exact⟨3,16384,rfl,rfl,hZ (.inr (.inr (.inr ⟨rfl,rfl,c⟩)))⟩
    case measure=>simp[intOf]
   ·go_wp21
    go_ret;exact⟨by unfold gC;rw[i9 (by omega),i9 (by omega),i6 (by omega)];rfl,rfl⟩
  ·by_cases c:16384<size
   all_goals
    go_wp21;go_ret;exact⟨by unfold gC;rw[i9 (by omega),i9 (by omega),i9 (by omega)];rfl,rfl⟩
end
section
attribute [local go_sem ↓] bU bR gD
theorem bKs (w:World):(isAgg 51).run prog w= .ok true w:=by kernel_rfl
theorem bJo (w:World):(sizeOf 51).run prog w= .ok 12 w:=by kernel_rfl
theorem aQa (l:List aC) (k:Nat) (d:k<l.length) (f:l.length=4) (c:World):(Instr.index 246 (.agg (aF l).toArray) (k:Nat)).run prog c= .ok (.agg (aA l[k]).toArray) c:=by
 have h:=aHi (P:=prog) (cs:=(aF l).toArray) k underlying246 bKs bJo (by omega) c
 rw[aYy l k d] at h;exact h
def bJc (l:List aC) (w:World) (e:Ending) (w':World):Prop:=e= .returned (.string ⟨(bX l).toArray⟩)∧Below w.heap.size w w'
theorem aEn (l:List aC) (H:l.length=4) (ag:∀p∈l,p.wf) (w:World):Calls prog 210 #[.agg (aF l).toArray] w (bJc l w):=by
 obtain⟨I,d⟩:=nZ ((w.alloc (.cells (aF l).toArray 321)).alloc (.cells #[.pointer none,.slice none 0 0] 217));have R:Blk I w.heap.size 321 (aF l):=by rw[d];exact(Blk.new w _ _).alloc _
 have ae:Hid (bB w I):=hZ (by rw[d];exact(bZ).alloc (by simp) _)
 have T:Bld I (w.heap.size+1) []:=by
  rw[d];have:=Bld.new (w.alloc (.cells (aF l).toArray 321));rw[show(w.alloc (.cells (aF l).toArray 321)).heap.size=w.heap.size+1 by simp] at this
  exact this
 have A:=aB R underlying246 rfl (by rw[aQ,H];exact sL)
 have ah:=hZ T;have J:=hZ H;clear R T H;go_in;go_upto_region 2 with fail
 rw[←d];clear d;go_wp21;clear A;go_loopw [10] (fun i wr=>∃k:Nat,k≤4∧i= .int .i64 k∧Hid ((l.take k).all cT=true)∧Hid (Bld wr (w.heap.size+1) ((l.take k).flatMap aR))∧Hid (bB w wr)) (fun i _=>4-(intOf i).toNat)
 case atStart=>exact⟨0,by omega,rfl,hZ rfl,ah,ae⟩
 case round=>
  obtain⟨k,ar,rfl,ac,U,f⟩:=hrel;by_cases ai:k<4
  ·have j:k<l.length:=by rw[J.o];exact ai
   have aj:=aQa l k j J.o wr;have ak:=eX l[k] wr;have W:=ag l[k] (n5 j);have Y:=Blk.new wr 51 (aA l[k]);have A:=aB Y underlying51 rfl aU;have h:=m8 j;have D:=hZ h;have K:Hid (cT l[k]=false→l.all cT=false):=hZ (fun hr=>by
    rw[List.all_eq_false];exact⟨l[k],n5 j,by simp[hr]⟩)
   obtain⟨p,ad⟩:=nZ (l[k]);rw[←ad] at aj ak W A D K;have Z:Hid (bB wr (wr.alloc (.cells (aA p).toArray 51))):=hZ (bZ);clear Y h ad;go_wp21;refine(qJ p W _).mono ?_;rintro e w2 ⟨rfl,q⟩;have E:=hZ (Z.o.trans (q.mono Z.o.size));clear q;by_cases c:cT p=true
   ·rw[i6 c,i6 c]
    have am:=hZ c;clear c;have L:=U.o.below E.o;have N:((l.take k).flatMap aR).length=64*(l.take k).length:=by
     have:∀l:List aC,(l.flatMap aR).length=64*l.length:=fun l=>by
      induction l with
      |nil=>rfl
      |cons a r an=>rw[bMb,i7,an,bLn];simp[aR,aH,aP];omega
     exact this _
    have aa:(aR p).length=64:=by simp[aR,aH,aP]
    have O:((l.take k).flatMap aR).length+(aR p).length≤100000000:=by rw[N,aa,z7];omega
    have ao:=hZ (aBp (w.heap.size+1) ((l.take k).flatMap aR) (aR p) w2 L O);clear L N aa O;go_wp21;refine ao.o.mono ?_;rintro e au ⟨rfl,af,al,_⟩;go_wp21;go_roundw
    case rel=>exact⟨k+1,by omega,by go_num,hZ (by rw[D.o,List.all_append,ac.o];simp[am.o]),hZ (by rw[D.o,bNn];simpa using af),hZ ((f.o.trans (E.o.mono f.o.size)).trans (al.mono (by omega)))⟩
    case measure=>simp[intOf];omega
   ·rw[i9 c,i9 c]
    have ab:cT p=false:=by simpa using c
    have u:bJc l w (.returned (.string ⟨#[]⟩)) w2:=⟨by unfold bX;rw[i9 (by simp[K.o ab])],f.o.trans (E.o.mono f.o.size)⟩
    clear c ab;go_wp21;go_ret;exact u
  ·obtain rfl:k=4:=by omega
   have h:=bLq (by rw[J.o];omega)
   have z:=ac.o;have G:=U.o;rw[h] at z G;have ap:=hZ z;have aq:=hZ (wH (w.heap.size+1) (l.flatMap aR) wr G);clear h z G;go_wp21;refine aq.o.mono ?_;rintro e w2 ⟨rfl,q,_⟩;have u:bJc l w (.returned (.string ⟨(l.flatMap aR).toArray⟩)) w2:=⟨by unfold bX;rw[i6 ap.o],f.o.trans (q.mono (by omega))⟩
   go_wp21;go_ret;exact u
end
section
attribute [local go_sem ↓] bU bR gD aJb
def gI:xE→Value
 | .data s=> .iface 327 (.agg #[.string ⟨s.toArray⟩])
 | .index l=> .iface 321 (.agg (aF l).toArray)
 | .hole=> .iface 323 (.agg #[])
def aJr (s:Bs) (k:Nat):List aC:=(List.range 4).map fun i=>if i<k then iC (dW s (64*i) 64) else pD
theorem uY (s:Bs) (k:Nat):(aJr s k).length=4:=by simp[aJr]
theorem aWb (s:Bs) (k:Nat) (c:k<4):(aJr s k).set k (iC (dW s (64*k) 64))=aJr s (k+1):=by
 match k,c with
 |0,_=>rfl
 |1,_=>rfl
 |2,_=>rfl
 |3,_=>rfl
theorem bFi (s:Bs) (k n:Nat):(s.take ((k+1)*n)).drop (k*n)=dW s (n*k) n:=by
 unfold dW;rw[List.drop_take,Nat.mul_comm n k,Nat.succ_mul,Nat.add_sub_cancel_left]
theorem aXh {q:Nat→Prop} (h:∀j,j<k→q j) (c:q k):∀j,j<k+1→q j:=by
 intro j d;by_cases e:j=k
 ·rw[e];exact c
 ·exact h j (by omega)
def aWo (s:Bs) (w:World) (e:Ending) (w':World):Prop:=e= .returned (.tuple #[if iH s then gI (.index (pI s)) else .nilIface,.int .i64 (if iH s then 0 else 3)])∧Below w.heap.size w w'
theorem aWo.no (k:Nat) (c:k<4) (h:fD (dW s (64*k) 64)=false) (d:bB w w'):aWo s w (.returned (.tuple #[.nilIface,(3:Int)])) w':=by
 have:iH s=false:=by
  unfold iH
  match k,c with
  |0,_=>simp at h;simp[h]
  |1,_=>simp at h;simp[h]
  |2,_=>simp at h;simp[h]
  |3,_=>simp at h;simp[h]
 unfold aWo;rw[i9 (by simp[this]),i9 (by simp[this])]
 exact⟨rfl,d⟩
theorem aFo (s:Bs) (R:s.length=256) (w:World):Calls prog 295 #[.string ⟨s.toArray⟩] w (aWo s w):=by
 obtain⟨E,q⟩:=nZ (w.alloc (.cells (aF nL).toArray 321));have J:Blk E w.heap.size 321 (aF (aJr s 0)):=by rw[q];exact Blk.new w _ (aF nL)
 have G:bB w E:=by rw[q];exact bZ
 have Y:=hZ J;have U:=hZ G;have ad:=hZ R;clear J G R;go_in;go_upto_region 2 with fail
 have e0:(w.alloc (.cells yA 321))=E:=q.symm;rw[e0];clear e0 q;go_wp2_with fail;go_loopw [8] (fun i wr=>∃k:Nat,k≤4∧i= .int .i64 k∧Hid (∀j,j<k→fD (dW s (64*j) 64)=true)∧Hid (Blk wr w.heap.size 321 (aF (aJr s k)))∧Hid (bB w wr)) (fun i _=>4-(intOf i).toNat)
 case atStart=>exact⟨0,by omega,rfl,hZ (by intro j ai;omega),Y,U⟩
 case round=>
  obtain⟨k,aj,rfl,h,K,d⟩:=hrel;by_cases A:k<4
  ·have Z:64*k+64≤s.length:=by rw[ad.o];omega
   have ak:((k:Int)*64)≤s.length:=by omega
   go_wp2_with fail;rw[dM,bFi s k 64];refine(yY (dW s (64*k) 64) wr (hX s (64*k) 64 Z)).mono ?_;rintro e w2 ⟨rfl,L⟩;have r:=hZ L;clear L;by_cases c:fD (dW s (64*k) 64)=true
   ·rw[i6 c,i6 c]
    obtain⟨p,u⟩:=nZ (iC (dW s (64*k) 64));rw[←u];have aa:=eX p w2;have N:=Blk.new w2 51 (aA p);have ab:=fun op a next Q=>aB (P:=prog) N underlying51 rfl aU op a next Q
    have ac:Hid (bB w2 (w2.alloc (.cells (aA p).toArray 51))):=hZ (bZ);have f:=hZ (r.o.trans (ac.o.mono r.o.size));have D:=K.o.below f.o;have ah:=fun op a next Q=>aG (P:=prog) (t:=51) (o:=k*12) (cs:=aA p) D (by rw[aQ,uY];show k*12+12≤48;omega) aU (aX p) op a next Q
    have z:=D.setCells (aA p) (k*12) (by rw[aQ,uY];show k*12+12≤48;omega)
    rw[show k*12+(aA p).length=k*12+12 from rfl,tN _ k p (by rw[uY];exact A),u,aWb s k A,←u] at z
    have W:=hZ z;have ae:=hZ c;clear N u D z c;go_wp2_with fail;go_roundw
    case rel=>exact⟨k+1,by omega,by go_num,hZ (aXh h.o ae.o),W,hZ (bQ (d.o.trans (f.o.mono d.o.size)) (by have:=d.o.size;have:=f.o.size;omega) (d8 _))⟩
    case measure=>simp[intOf];omega
   ·rw[i9 c,i9 c]
    have O:fD (dW s (64*k) 64)=false:=by simpa using c
    have af:=hZ (fun w' ag=>aWo.no (w:=w) (w':=w') k A O ag)
    have aa:=eX pD w2;have f:Hid (bB w (w2.alloc (.cells (aA pD).toArray 51))):=hZ ((d.o.trans (r.o.mono d.o.size)).alloc (by have:=d.o.size;have:=r.o.size;omega) _)
    clear c O;go_wp2_with fail;go_ret2;exact af.o _ f.o
  ·obtain rfl:k=4:=by omega
   have H:iH s=true:=by
    have h0:=h.o 0 (by omega)
    have h1:=h.o 1 (by omega)
    have h2:=h.o 2 (by omega)
    have T:=h.o 3 (by omega)
    unfold iH;simp at h0 h1 h2 T;simp[h0,h1,h2,T]
   have ab:=fun op a next Q=>aB (P:=prog) (t:=321) K.o underlying321 rfl (by rw[aQ,uY];exact bHj) op a next Q
   have I:=hZ H;clear H;go_wp2_with fail;go_ret2;unfold aWo;rw[i6 I.o,i6 I.o];exact⟨rfl,d.o⟩
def mY (s:Bs) (level:Int) (w:World) (e:Ending) (w':World):Prop:=
 e= .returned (.tuple #[match cP s level with| .ok x=>gI x| .error _=> .nilIface,.int .i64 (match cP s level with| .ok _=>0| .error n=>(n:Nat))])∧Below w.heap.size w w'
theorem mY.ok {x:xE} (h:cP s level= .ok x) (c:bB w w'):mY s level w (.returned (.tuple #[gI x,(0:Int)])) w':=by
 unfold mY;rw[h];exact⟨rfl,c⟩
theorem mY.err (h:cP s level= .error n) (c:bB w w'):mY s level w (.returned (.tuple #[.nilIface,(n:Nat)])) w':=by
 unfold mY;rw[h];exact⟨rfl,c⟩
theorem aHk (s:Bs) (level:Int) (U:s.length≤1000000000) (w:World):Calls prog 267 #[.string ⟨s.toArray⟩,level] w (mY s level w):=by
 by_cases d:aDk level=true
 ·have D:0≤level∧level≤3:=by simpa[aDk] using d
  obtain⟨W,Y⟩:=D;have O:¬level<0:=by omega
  have R:¬3<level:=by omega
  by_cases ht:wR s level=true
  ·have q:=ht
   simp only[wR,y8,bLt,Bool.or_eq_true] at q;obtain⟨⟨⟨Z,H⟩,aa⟩,r⟩:=q;have ab:(⟨s.toArray⟩:ByteArray).data.toList=s:=rfl;have I:s.isEmpty=false:=by cases s<;>simp_all
   have J:((s.length:Int)%64 != 0)=false:=by simp;omega
   have K:¬(256:Int)<(s.length:Int):=by omega
   by_cases u:0<level
   ·have L:((s.length:Int) != 256)=false:=by
     have:=r.resolve_left (by omega)
     simp[this]
    have N:=hZ (aFo s (r.resolve_left (by omega)) w)
    have E:cP s level=if iH s then .ok (.index (pI s)) else .error 3:=by
     unfold cP;rw[i6 d,i6 ht,i6 u]
    have G:=hZ E;clear E ht d H r;go_in;go_wp21;refine N.o.mono ?_;rintro e w' ⟨rfl,z⟩;by_cases f:iH s=true
    case' _=>
     rw[i6 f,i6 f];have c:mY s level w (.returned (.tuple #[gI (.index (pI s)),.int .i64 0])) w':=mY.ok (by rw[G.o,i6 f]) z
    rotate_left
    case' _=>
     rw[i9 f,i9 f];have c:mY s level w (.returned (.tuple #[.nilIface,.int .i64 3])) w':=mY.err (n:=3) (by rw[G.o,i9 f]) z
    all_goals
     clear f z;go_wp21;go_ret2;exact c
   ·have c:mY s level w (.returned (.tuple #[gI (.data s),(0:Int)])) w:=mY.ok (by
     unfold cP;rw[i6 d,i6 ht,i9 u]) (i4 _ _)
    have j:=hZ c;clear ht d H r c;go_in;go_wp21;go_ret2;exact j.o
  ·have c:mY s level w (.returned (.tuple #[.nilIface,(3:Int)])) w:=mY.err (n:=3) (by
    unfold cP;rw[i6 d,i9 ht]) (i4 _ _)
   have j:=hZ c;have q:¬(0<s.length∧s.length%64=0∧s.length≤256∧(level≤0∨s.length=256)):=by
    intro h;apply ht;simp[wR,h.1,h.2.1,h.2.2.1,h.2.2.2]
   clear ht d c;by_cases c0:s=[]
   ·have I:s.isEmpty=true:=by simp[c0]
    have ac:=hZ c0;clear c0 q;go_in;go_wp21;go_ret2;exact j.o
   ·have I:s.isEmpty=false:=by cases s<;>simp_all
    have T:=List.length_pos_iff.2 c0;clear c0;by_cases A:s.length%64=0
    ·have J:((s.length:Int)%64 != 0)=false:=by simp;omega
     by_cases c2:s.length≤256
     case' _=>
      have K:¬(256:Int)<(s.length:Int):=by omega
      have u:0<level:=by omega
      have L:((s.length:Int) != 256)=true:=by simp;omega
     rotate_left
     case' _=>
      have K:(256:Int)<(s.length:Int):=by omega
     all_goals
      clear q A;go_in;go_wp21;go_ret2;exact j.o
    ·have J:((s.length:Int)%64 != 0)=true:=by simp;omega
     clear q A;go_in;go_wp21;go_ret2;exact j.o
 ·have c:mY s level w (.returned (.tuple #[.nilIface,(1:Int)])) w:=mY.err (n:=1) (by
   unfold cP;rw[i9 d]) (i4 _ _)
  have j:=hZ c;have D:¬(0≤level∧level≤3):=by
   intro h;apply d;simp[aDk,h.1,h.2]
  clear d c;by_cases c0:level<0
  rotate_left
  case' _=>
   have A:3<level:=by omega
  all_goals
   go_in;go_wp21;go_ret2;exact j.o
end
section
attribute [local go_sem ↓] bU bR
def bKo:Except Nat Bs→Ending→Prop
 | .ok t,e=>e= .returned (.tuple #[.string ⟨t.toArray⟩,.int .i64 0])∧t.length≤1000000
 | .error n,e=>∃t:Bs,e= .returned (.tuple #[.string ⟨t.toArray⟩,.int .i64 (n:Nat)])∧n≠0
def sA:Except Nat aC→Ending→Prop
 | .ok p,e=>e= .returned (.tuple #[.agg (aA p).toArray,.int .i64 0])∧p.wf
 | .error n,e=>e= .returned (.tuple #[.agg (aA pD).toArray,.int .i64 (n:Nat)])∧n≠0
def bIg (e:Nat):Prop:=e≠5∧e≠217∧e≠51∧e≠246∧e≠53
structure bA {σ:Type} (S:StF σ) (ty:TypeId) (a:Addr) where
 Is:World→σ→(Nat→Prop)→Prop
 Ok:σ→Prop
 kg:FuncId
 kp:FuncId
 mget:∀(n:Nat) (w:World),(method (n+1) ty (.pointer (some a)) "Get").run prog w= .ok (kg,.pointer (some a)) w
 nget:∀(n:Nat) (w:World),(nilAhead (n+1) ty (.pointer (some a)) "Get").run prog w= .ok (some false) w
 mput:∀(n:Nat) (w:World),(method (n+1) ty (.pointer (some a)) "Put").run prog w= .ok (kp,.pointer (some a)) w
 nput:∀(n:Nat) (w:World),(nilAhead (n+1) ty (.pointer (some a)) "Put").run prog w= .ok (some false) w
 cg:∀(args:Array Value) (w:World),(callFunc kg args).run prog w= .ok (.enter kg args) w
 cp:∀(args:Array Value) (w:World),(callFunc kp args).run prog w= .ok (.enter kp args) w
 lt:∀{w s F},Is w s F→∀k,F k→k<w.heap.size
 kinds:∀{w s F},Is w s F→∀(k:Nat) (cs:Array Value) (e:TypeId) (fr:Nat×Nat),F k→w.heap[k]?=some (.cells cs e fr)→e≠5∧e≠217
 Ty:TypeId→Prop
 nty:∀e,Ty e→bIg e
 keep:∀{w w' s F},Is w s F→w.heap.size≤w'.heap.size→(∀k,F k→w'.heap[k]?=w.heap[k]?)→(∀(g:Nat) cs e fr,w.heap[g]?=some (Obj.cells cs e fr)→Ty e→w'.heap[g]?=some (Obj.cells cs e fr))→Is w' s F
 okget:∀p s,Ok (S.get p s).2→Ok s
 okput:∀t l s,Ok (S.put t l s).2→Ok s
 get:∀{w s F} (p:aC),Is w s F→p.wf→Ok (S.get p s).2→Calls prog kg #[.pointer (some a),.agg (aA p).toArray] w fun e w'=>bKo (S.get p s).1 e∧∃F',Is w' (S.get p s).2 F'∧Mod F w w'∧∀k,F' k→F k∨w.heap.size≤k
 put:∀{w s F} (t:Bs) (l:Nat),Is w s F→t.length≤256→l≤3→Ok (S.put t l s).2→Calls prog kp #[.pointer (some a),.string ⟨t.toArray⟩,.int .i64 (l:Nat)] w fun e w'=>sA (S.put t l s).1 e∧∃F',Is w' (S.put t l s).2 F'∧Mod F w w'∧∀k,F' k→F k∨w.heap.size≤k
section
variable {σ:Type} {S:StF σ} {ty:TypeId} {a:Addr} (C:bA S ty a)
def bA.Step (F:Nat→Prop) (s':σ) (w w':World):Prop:=∃F',C.Is w' s' F'∧Mod F w w'∧∀k,F' k→F k∨w.heap.size≤k
variable {C}
theorem bA.below {s:σ} (h:C.Is w s F) (c:bB w w'):C.Is w' s F:=C.keep h c.size (fun k f=>c.block k (C.lt h k f)) (fun g cs e fr d _=>by rw[c.block g (i8.1 d).1];exact d)
theorem bA.Step.refl {s:σ} (h:C.Is w s F):C.Step F s w w:=⟨F,h,Mod.refl _ _,fun _ c=> .inl c⟩
theorem bA.Step.below {s:σ} (h:C.Step F s w w1) (c:bB w1 w2):C.Step F s w w2:=by
 obtain⟨d,h1,h2,f⟩:=h;exact⟨d,bA.below h1 c,h2.trans' c,f⟩
theorem bA.Step.mk' {s:σ} (c:bB w w1) (h:C.Step F s w1 w2):C.Step F s w w2:=by
 obtain⟨d,h1,h2,f⟩:=h;refine⟨d,h1,(Mod.below c).self h2,fun k j=>(f k j).imp id (l6 c.size)⟩
theorem bA.Step.trans {u s2:σ} (h1:Mod F w w1) (hF:∀k,F1 k→F k∨w.heap.size≤k) (h2:C.Step F1 s2 w1 w2):C.Step F s2 w w2:=by
 obtain⟨c,d,f,j⟩:=h2;refine⟨c,d,h1.trans f (fun x z q=>(hF x q).resolve_right (by omega)),fun k r=>?_⟩
 rcases j k r with h|h
 ·exact hF k h
 ·exact .inr (l6 h1.size h)
def bA.At (C:bA S ty a) (F:Nat→Prop) (s:σ) (w wc:World) (F1:Nat→Prop):Prop:=C.Is wc s F1∧Mod F w wc∧∀k,F1 k→F k∨w.heap.size≤k
section
variable {w wc wd:World} {s s2:σ} {F F1:Nat→Prop}
theorem bA.At.start (h:C.Is w s F):C.At F s w w F:=⟨h,Mod.refl _ _,fun _ c=> .inl c⟩
theorem bA.At.below (h:C.At F s w wc F1) (c:bB wc wd):C.At F s w wd F1:=⟨bA.below h.1 c,h.2.1.trans' c,h.2.2⟩
theorem bA.At.size (h:C.At F s w wc F1):w.heap.size≤wc.heap.size:=h.2.1.size
theorem bA.At.lt (h:C.At F s w wc F1):∀k,F1 k→k<wc.heap.size:=C.lt h.1
theorem bA.At.fresh (h:C.At F s w wc F1) (d:wc.heap.size≤g):¬F1 g:=fun c=>by have:=h.lt g c;omega
theorem bA.At.put {o:Nat} (h:C.At F s w wc F1) (h1:w.heap.size≤g) (h2:¬F1 g) (j:Blk wc g e cs) (q:¬C.Ty e:=by exact fun r=>absurd (C.nty _ r) (by unfold bIg;decide)):C.At F s w (wc.setCells g o vs) F1:=by
 have k:=aJ g vs wc o;refine⟨C.keep h.1 k.size (fun x f=>k.block x (h.lt x f) (fun e=>by simp only[i5] at e;exact h2 (by rw[e] at f;exact f))) (fun x c z fr d ht=>by
  rw[k.block x (i8.1 d).1 (fun u=>by
   rw[bMs u] at d;rw[j] at d;simp only[i5,n7] at d;exact q (d.2.1▸ht))]
  exact d),h.2.1.put (.inr h1),h.2.2⟩
theorem bA.At.step (h:C.At F s w wc F1) (k:C.Step F1 s2 wc wd):∃c,C.At F s2 w wd c∧(∀x,x<wc.heap.size→¬F1 x→¬c x)∧Mod F1 wc wd:=by
 obtain⟨c,r,j,q⟩:=k;refine⟨c,⟨r,h.2.1.trans j (fun x d f=>(h.2.2 x f).resolve_right (by omega)),fun x d=>?_⟩,fun x d u f=>(q x f).elim u (by omega),j⟩
 rcases q x d with h1|h1
 ·exact h.2.2 x h1
 ·exact .inr (l6 h.size h1)
theorem bA.At.fin (h:C.At F s w wc F1):C.Step F s w wc:=⟨F1,h.1,h.2.1,h.2.2⟩
end
end
def xE.good:xE→Prop
 | .data s=>s.length≤256∧s.length%64=0
 | .index l=>l.length=4∧∀p∈l,p.wf
 | .hole=>True
theorem bDz (s:Bs) (h:s.length=64):(iC s).wf:=by
 have c:∀i,i<6→w4 s i<4294967296:=fun i f=>bGf s (4*i) (by omega)
 have d:∀i,i<4→w8 s i<18446744073709551616:=fun i f=>bKp s (24+8*i) (by omega)
 have j:=c 0 (by omega)
 have q:=c 1 (by omega)
 have r:=c 2 (by omega)
 have u:=c 3 (by omega)
 have z:=c 5 (by omega)
 have A:=d 0 (by omega)
 have D:=d 1 (by omega)
 have E:=d 2 (by omega)
 have G:=d 3 (by omega)
 constructor
 ·constructor<;>(unfold eY iC;dsimp only;omega)
 all_goals (unfold aDc iC;dsimp only;omega)
theorem vU {x:xE} (h:cP s level= .ok x):x.good:=by
 unfold cP at h;split at h
 ·split at h
  ·rename_i ht
   simp only[wR,y8,bLt,Bool.or_eq_true] at ht;split at h
   ·split at h
    ·simp only[Except.ok.injEq] at h
     subst h;have d:=ht.2.resolve_left (by omega)
     refine⟨rfl,fun p c=>?_⟩
     simp only[pI,s8,bLp,bNo] at c;rcases c with rfl|rfl|rfl|rfl<;>exact bDz _ (hX _ _ _ (by omega))
    ·simp at h
   ·simp only[Except.ok.injEq] at h
    subst h;exact⟨ht.1.2,ht.1.1.2⟩
  ·simp at h
 ·simp at h
theorem aLv (h:cP s level= .error n):n≠0:=by
 unfold cP at h;split at h
 ·split at h
  ·split at h
   ·split at h
    ·simp at h
    ·simp only[Except.error.injEq] at h;omega
   ·simp at h
  ·simp only[Except.error.injEq] at h;omega
 ·simp only[Except.error.injEq] at h;omega
def bKv:Except Nat xE→Ending→Prop
 | .ok x,e=>e= .returned (.tuple #[gI x,.int .i64 0])∧x.good
 | .error n,e=>e= .returned (.tuple #[.nilIface,.int .i64 (n:Nat)])∧n≠0
section
variable {σ:Type} {S:StF σ} {ty:TypeId} {a:Addr} {C:bA S ty a}
theorem aEk {s:σ} (h:C.Is w s F) (p:aC) (H:p.wf) (j:C.Ok (iD S p s).2):
  Calls prog 213 #[.iface ty (.pointer (some a)),.agg (aA p).toArray] w fun e w'=>bKv (iD S p s).1 e∧C.Step F (iD S p s).2 w w':=by
 have K:=Blk.new w 51 (aA p);have O:bB w (w.alloc (.cells (aA p).toArray 51)):=bZ;obtain⟨E,q⟩:=nZ (w.alloc (.cells (aA p).toArray 51));rw[←q] at K O;have W:=fun op a next Q=>aB (P:=prog) K underlying51 rfl aU op a next Q
 have L:=hZ K;have d:=hZ O;clear K O;by_cases G:isNone p=true
 ·have e:iD S p=M.ret .hole:=by unfold iD;rw[i6 G]
  rw[e];have N:=hZ G;clear G e j;go_in;go_upto_region 1 with fail
  rw[←q];clear q;go_wp21;refine(gL p H E).mono ?_;rintro e w1 ⟨rfl,c⟩;rw[N.o];have z:C.Step F s w w1:= .below (.refl h) (d.o.trans (c.mono d.o.size));go_wp21;go_ret2;exact⟨⟨rfl,trivial⟩,z⟩
 ·have Y:isNone p=false:=by simpa using G
  have e:iD S p=M.bind (S.get p) fun t s=>(cP t p.level,s):=by unfold iD;rw[i9 G]
  rw[e] at j⊢;have N:=hZ Y;clear G Y e;have ai:=C.mget;have aj:=C.nget;have ak:=C.cg;have al:cZ E w.heap.size 6 p.level:=L.o.cell 6;rcases hg:S.get p s with⟨r|t,T⟩
  ·have I:=M.bind_err (f:=fun t s=>(cP t p.level,s)) hg
   rw[I] at j⊢;have J:=hZ fun w2 (A:bB E w2)=>C.get p (bA.below (bA.below h d.o) A) H (by rw[hg];exact j)
   rw[hg] at J;clear I j hg;go_in;go_upto_region 1 with fail
   rw[←q];clear q;go_wp21;refine(gL p H E).mono ?_;rintro e w1 ⟨rfl,c⟩;rw[N.o];have D:=hZ c;have aa:=fun op a next Q=>aB (P:=prog) (L.o.below c) underlying51 rfl aU op a next Q
   clear c W;go_wp21;refine(J.o w1 D.o).mono ?_;rintro e w2 ⟨⟨t,rfl,Z⟩,u⟩;have z:C.Step F T w w2:= .mk' (d.o.trans (D.o.mono d.o.size)) u;have am:((r:Int) != 0)=true:=by simpa using Z
   clear u;go_wp21;go_ret2;exact⟨⟨rfl,Z⟩,z⟩
  ·have I:=M.bind_ok (f:=fun t s=>(cP t p.level,s)) hg
   rw[I] at j⊢;have J:=hZ fun w2 (A:bB E w2)=>C.get p (bA.below (bA.below h d.o) A) H (by rw[hg];exact j)
   rw[hg] at J;clear I j hg;go_in;go_upto_region 1 with fail
   rw[←q];clear q;go_wp21;refine(gL p H E).mono ?_;rintro e w1 ⟨rfl,c⟩;rw[N.o];have D:=hZ c;have aa:=fun op a next Q=>aB (P:=prog) (L.o.below c) underlying51 rfl aU op a next Q
   clear c W;go_wp21;refine(J.o w1 D.o).mono ?_;rintro e w2 ⟨⟨rfl,an⟩,u⟩;have U:C.Step F T w w2:= .mk' (d.o.trans (D.o.mono d.o.size)) u;have ab:¬F w.heap.size:=fun ag=>by have:=C.lt h _ ag;omega
   have A:=u.choose_spec.2.1.blk (L.o.below D.o) ab;have ao:cZ w2 w.heap.size 6 p.level:=A.cell 6;clear u A;have ac:=hZ U;clear U;go_wp21;refine(aHk t p.level (by omega) w2).mono ?_
   rintro e ah ⟨rfl,ad⟩;have z:C.Step F T w ah:=ac.o.below ad;rcases hnr:cP t p.level with n|x
   ·have ae:=aLv hnr
    have R:=hZ hnr;clear hnr;go_wp21;go_ret2;refine⟨?_,z⟩;rw[R.o];exact⟨rfl,ae⟩
   ·have af:=vU hnr
    have R:=hZ hnr;clear hnr;go_wp21;go_ret2;refine⟨?_,z⟩;rw[R.o];exact⟨rfl,af⟩
end
end
section
attribute [local go_sem ↓] bU bR gD iS wI aJb
theorem uZ (level:Nat) (w:World) (h:level≤4):Calls prog 211 #[(level:Nat)] w fun e w'=>e= .returned (.int .i64 ((4 ^ (level-1):Nat):Int))∧w'=w:=by
 go_in;go_wp21;go_loop [3,6] (fun n i=>∃k:Nat,i= .int .i64 k∧n= .int .i64 ((4 ^ k:Nat):Int)∧k≤level-1) (fun _ i=>level-1-(intOf i).toNat)
 case atStart=>exact⟨0,rfl,rfl,by omega⟩
 case round=>
  obtain⟨k,rfl,rfl,r⟩:=hrel;have u:4 ^ k≤64:=by
   have:4 ^ k≤4 ^ 3:=Nat.pow_le_pow_right (by omega) (by omega)
   omega
  by_cases z:k<level-1
  ·have f:(k:Int)<(level:Int)-1:=by omega
   have j:Hid (((4 ^ (k+1):Nat):Int)=((4 ^ k:Nat):Int)*4):=hZ (by rw[Nat.pow_succ];omega)
   generalize c:4 ^ k=g at*;have d:=hZ c;go_wp2_with fail;go_round
   case rel=>exact⟨k+1,by go_num,by rw[j.o],by omega⟩
   case measure=>simp[intOf];omega
  ·have f:¬(k:Int)<(level:Int)-1:=by omega
   have q:Hid (k=level-1):=hZ (by omega)
   generalize c:4 ^ k=g at*;have d:=hZ c;go_wp21;go_ret;exact⟨by rw[←d.o,q.o];rfl,rfl⟩
theorem bHi (l:List aC) (w:World):(Instr.typeAssert (.iface 321 (.agg (aF l).toArray)) 248 321 true).run prog w= .ok (.tuple #[.agg (aF l).toArray,true]) w:=by kernel_rfl
theorem bHd (v:Value) (w:World):(Instr.typeAssert (.iface 327 v) 248 321 true).run prog w= .ok (.tuple #[.agg (aF nL).toArray,false]) w:=by kernel_rfl
theorem bHo (v:Value) (w:World):(Instr.typeAssert (.iface 323 v) 248 321 true).run prog w= .ok (.tuple #[.agg (aF nL).toArray,false]) w:=by kernel_rfl
theorem bJp (v:Value) (w:World):(Instr.typeAssert (.iface 327 v) 248 323 true).run prog w= .ok (.tuple #[.agg #[],false]) w:=by kernel_rfl
theorem bJv (w:World):(Instr.typeAssert (.iface 323 (.agg #[])) 248 323 true).run prog w= .ok (.tuple #[.agg #[],true]) w:=by kernel_rfl
def bJk:Except Nat (List aC)→Ending→Prop
 | .ok l,e=>e= .returned (.tuple #[.agg (aF l).toArray,.int .i64 0])∧l.length=4∧∀p∈l,p.wf
 | .error n,e=>e= .returned (.tuple #[.agg (aF nL).toArray,.int .i64 (n:Nat)])∧n≠0
section
variable {σ:Type} {S:StF σ} {ty:TypeId} {a:Addr} {C:bA S ty a}
theorem uL {s:σ} (h:C.Is w s F) (p:aC) (ad:p.wf) (O:C.Ok (fH S p s).2):
  Calls prog 151 #[.iface ty (.pointer (some a)),.agg (aA p).toArray] w fun e w'=>bJk (fH S p s).1 e∧C.Step F (fH S p s).2 w w':=by
 obtain⟨I,D⟩:=nZ ((w.alloc (.cells (aA p).toArray 51)).alloc (.cells (aF nL).toArray 246));have ae:Blk I w.heap.size 51 (aA p):=by rw[D];exact(Blk.new w _ _).alloc _
 have W:Hid (Blk I (w.heap.size+1) 246 (aF nL)):=hZ (by rw[D];exact Blk.newAt (w:=w.alloc _) _ _ (by simp))
 have Z:bB w I:=by rw[D];exact(bZ).alloc (by simp) _
 have T:Hid (I.heap.size=w.heap.size+2):=hZ (by rw[D];simp)
 have ak:=aB ae underlying51 rfl aU;have H:¬F (w.heap.size+1):=fun ai=>by have:=C.lt h _ ai;omega
 have R:=hZ ((bA.At.start h).below Z);clear ae Z;have U:fH S p s=M.bind (iD S p) (fun x s=>(mR x,s)) s:=rfl
 have G:=D;rcases hi:iD S p s with⟨r|x,ao⟩
 ·have e:=M.bind_err (f:=fun x s=>(mR x,s)) hi
  rw[U,e] at O⊢;have N:=hZ (aEk R.o.1 p ad (by rw[hi];exact O))
  rw[hi] at N;clear U e O hi;go_in;go_upto_region 1 with fail
  rw[show(w.alloc (.cells (aA p).toArray 51)).alloc (.cells yA 246)=I from G.symm];clear D G;go_wp21;refine N.o.mono ?_;rintro e w1 ⟨⟨rfl,aa⟩,d⟩;have al:((r:Int) != 0)=true:=by simpa using aa
  obtain⟨F1,q,u,A⟩:=R.o.step d;have c:=A.blk W.o H;have Y:=aDw c (aQ nL);have j:=q.put (o:=0) (vs:=aF nL) (bLv _) (u _ (by have:=T.o;omega) H) c
  have z:=c.put (vs:=aF nL) rfl;have J:=hZ j;have K:=hZ z;clear q j c z A u d;go_wp21;refine l9 (aL rfl _ _ (w.heap.size+1) 246 _ _ rfl K.o underlying246 rfl sL) rfl ?_;exact⟨⟨rfl,aa⟩,J.o.fin⟩
 ·have e:=M.bind_ok (f:=fun x s=>(mR x,s)) hi
  rw[U,e] at O⊢;have N:=hZ (aEk R.o.1 p ad (by rw[hi];exact O))
  rw[hi] at N;clear U e O hi
  cases x with
  |data t=>
   have af:=bHd (.agg #[.string ⟨t.toArray⟩]);have aj:=bJp (.agg #[.string ⟨t.toArray⟩]);go_in;go_upto_region 1 with fail
   rw[show(w.alloc (.cells (aA p).toArray 51)).alloc (.cells yA 246)=I from G.symm];clear D G;go_wp21;refine N.o.mono ?_;rintro e w1 ⟨⟨rfl,ag⟩,d⟩;obtain⟨F1,q,u,A⟩:=R.o.step d;have c:=A.blk W.o H;have Y:=aDw c (aQ nL);have j:=q.put (o:=0) (vs:=aF nL) (bLv _) (u _ (by have:=T.o;omega) H) c
   have z:=c.put (vs:=aF nL) rfl;have J:=hZ j;have K:=hZ z;clear q j c z A u d;unfold gI;go_wp2_with fail;refine l9 (aL rfl _ _ (w.heap.size+1) 246 _ _ rfl K.o underlying246 rfl sL) rfl ?_;exact⟨⟨rfl,by decide⟩,J.o.fin⟩
  |hole=>
   have af:=bHo (.agg #[]);have aj:=bJv;go_in;go_upto_region 1 with fail
   rw[show(w.alloc (.cells (aA p).toArray 51)).alloc (.cells yA 246)=I from G.symm];clear D G;go_wp21;refine N.o.mono ?_;rintro e w1 ⟨⟨rfl,ag⟩,d⟩;obtain⟨F1,q,u,A⟩:=R.o.step d;have c:=A.blk W.o H;have E:=c.alloc (.cells #[] 323);have Y:=aDw E (aQ nL);have j:=(q.below ((i4 _ _).alloc (d8 _) (.cells #[] 323))).put (o:=0) (vs:=aF nL) (bLv _) (u _ (by have:=T.o;omega) H) E
   have z:=E.put (vs:=aF nL) rfl;have J:=hZ j;have K:=hZ z;clear q j c z A u d E;unfold gI;go_wp21;refine l9 (aL rfl _ _ (w.heap.size+1) 246 _ _ rfl K.o underlying246 rfl sL) rfl ?_;exact⟨⟨rfl,rfl,aQq⟩,J.o.fin⟩
  |index l=>
   have af:=bHi l;go_in;go_upto_region 1 with fail
   rw[show(w.alloc (.cells (aA p).toArray 51)).alloc (.cells yA 246)=I from G.symm];clear D G;go_wp21;refine N.o.mono ?_;rintro e w1 ⟨⟨rfl,L,ah⟩,d⟩;obtain⟨F1,q,u,A⟩:=R.o.step d;have c:=A.blk W.o H;have am:=mS l L w1;have ab:=Blk.new w1 321 (aF l);have an:=aB (t:=246) ab underlying246 rfl (by rw[aQ,L];exact sL)
   have E:=c.alloc (.cells (aF l).toArray 321);have Y:=aG (t:=246) (o:=0) (cs:=aF l) E (by rw[aQ,aQ,L];exact d8 48) (by rw[aQ,L];exact sL) (nV l)
   have j:=(q.below ((i4 _ _).alloc (d8 _) (.cells (aF l).toArray 321))).put (o:=0) (vs:=aF l) (bLv _) (u _ (by have:=T.o;omega) H) E
   have z:=E.put (vs:=aF l) (by rw[aQ,aQ,L];rfl)
   have J:=hZ j;have K:=hZ z;have ac:=hZ L;clear q j c z A u d E ab L;unfold gI;go_wp21;refine l9 (aL rfl _ _ (w.heap.size+1) 246 _ _ rfl K.o underlying246 rfl (by rw[aQ,ac.o];exact sL)) rfl ?_
   exact⟨⟨rfl,ac.o,ah⟩,J.o.fin⟩
end
end
section
attribute [local go_sem ↓] bU bR gD iS
theorem aEc (h:Blk w g e (aF l)) (d:m<l.length):w.rangeAt g (m*12) (aA l[m]):=fun j v c=>by
 have f:j<12:=(bMy.1 c).1;rw[h.cell,←List.getElem?_drop,←c,←aJl l m d,bNk,i6 f]
section
variable {σ:Type} {S:StF σ} {ty:TypeId} {a:Addr} {C:bA S ty a}
theorem bA.bg (C:bA S ty a) (p:aC):kZ C.Ok (S.get p):=C.okget p
theorem bA.bp (C:bA S ty a) (t:Bs) (l:Nat):kZ C.Ok (S.put t l):=C.okput t l
structure bHl (C:bA S ty a) (F:Nat→Prop) (w wr:World) (k j:Nat) (p:aC) (s1:σ) (R:Except Nat aC×σ) (F1:Nat→Prop):Prop where
 le:k≤3
 lt:j<4 ^ k
 wf:p.wf
 eq:kJ S k p j s1=R
 at_:C.At F s1 w wr F1
 bp:Blk wr w.heap.size 51 (aA p)
 br:Blk wr (w.heap.size+1) 51 (aA pD)
 f0:¬F1 w.heap.size
 f1:¬F1 (w.heap.size+1)
theorem bCb {s:σ} (h:C.Is w s F) (p:aC) (hp:p.wf) (k i:Nat) (hk:k≤3) (hi:i<4 ^ k) (hok:C.Ok (kJ S k p i s).2):
  Calls prog 212 #[.iface ty (.pointer (some a)),.agg (aA p).toArray,(k:Nat),(i:Nat)] w fun e w'=>sA (kJ S k p i s).1 e∧C.Step F (kJ S k p i s).2 w w':=by
 obtain⟨w0,hw0⟩:=nZ ((w.alloc (.cells (aA p).toArray 51)).alloc (.cells (aA pD).toArray 51));have hb:Blk w0 w.heap.size 51 (aA p):=by rw[hw0];exact(Blk.new w _ _).alloc _
 have hr:Blk w0 (w.heap.size+1) 51 (aA pD):=by rw[hw0];exact Blk.newAt (w:=w.alloc _) _ _ (by simp)
 have hbel:bB w w0:=by rw[hw0];exact(bZ).alloc (by simp) _
 have h0:¬F w.heap.size:=fun hf=>by have:=C.lt h _ hf;omega
 have h1:¬F (w.heap.size+1):=fun hf=>by have:=C.lt h _ hf;omega
 obtain⟨R,hR⟩:∃R,kJ S k p i s=R:=⟨_,rfl⟩;have HI:Hid (bHl C F w w0 k i p s R F):=hZ ⟨hk,hi,hp,hR,(bA.At.start h).below hbel,hb,hr,h0,h1⟩;rw[hR] at hok⊢;have HOK:=hZ hok;clear hb hr hbel h0 h1 hok hR hp hi;go_in;go_upto_block 0 with fail
 rw[show(w.alloc (.cells (aA p).toArray 51)).alloc (.cells yE 51)=w0 from hw0.symm];clear hw0;go_wp2_with fail;go_loopw [2,3] (fun lv iv wr=>∃(k j:Nat) (p:aC) (s1:σ) (F1:Nat→Prop),lv= .int .i64 (k:Nat)∧iv= .int .i64 (j:Nat)∧k≤3∧Hid (bHl C F w wr k j p s1 R F1)) (fun lv _ _=>(intOf lv).toNat)
 case atStart=>exact⟨k,i,p,s,F,rfl,rfl,hk,HI⟩
 case round=>
  clear HI;obtain⟨k,j,p,s1,F1,rfl,rfl,hk3,HI⟩:=hrel;have hpw:=HI.o.wf;have hld:=fun op a next Q=>aB (P:=prog) HI.o.bp underlying51 rfl aU op a next Q
  cases k with
  |zero=>
   have hst:=fun op a next Q=>aG (P:=prog) (t:=51) (o:=0) (cs:=aA p) HI.o.br (d8 12) aU (aX p) op a next Q
   have HB2:=hZ (HI.o.br.put (vs:=aA p) rfl);have HA2:=hZ (HI.o.at_.put (o:=0) (vs:=aA p) (bLv _) HI.o.f1 HI.o.br);have hRe:=HI.o.eq;have HRE:Hid ((.ok p,s1)=R):=hZ hRe;clear hRe;go_wp2_with fail;refine l9 (aL rfl _ _ (w.heap.size+1) 51 _ _ rfl HB2.o underlying51 rfl aU) rfl ?_;rw[←HRE.o];exact⟨⟨rfl,hpw⟩,HA2.o.fin⟩
  |succ k=>
   by_cases hn:isNone p=true
   ·have hRe:=HI.o.eq
    rw[kJ,i6 hn] at hRe;have HRE:Hid ((.ok p,s1)=R):=hZ hRe;have HN:=hZ hn;clear hRe hn;go_wp2_with fail;refine(gL p hpw wr).mono ?_;rintro e w1 ⟨rfl,hb1⟩;rw[HN.o];have hbp:=HI.o.bp.below hb1;have hbr:=HI.o.br.below hb1;have hat:=HI.o.at_.below hb1;have hld1:=fun op a next Q=>aB (P:=prog) hbp underlying51 rfl aU op a next Q
    have hst:=fun op a next Q=>aG (P:=prog) (t:=51) (o:=0) (cs:=aA p) hbr (d8 12) aU (aX p) op a next Q
    have HB2:=hZ (hbr.put (vs:=aA p) rfl);have HA2:=hZ (hat.put (o:=0) (vs:=aA p) (bLv _) HI.o.f1 hbr);clear hbp hbr hat hb1 hld;go_wp2_with fail;refine l9 (aL rfl _ _ (w.heap.size+1) 51 _ _ rfl HB2.o underlying51 rfl aU) rfl ?_;rw[←HRE.o];exact⟨⟨rfl,hpw⟩,HA2.o.fin⟩
   ·have hn':isNone p=false:=by simpa using hn
    have hRe:=HI.o.eq;rw[kJ,i9 hn] at hRe;have hokl:C.Ok (fH S p s1).2:=dE (fun l=>aAl C.bg k _ _) (by rw[hRe];exact HOK.o)
    have HN:=hZ hn';have HOKL:=hZ hokl;have HRE:=hZ hRe;clear hRe hn hn' hokl;go_wp2_with fail;refine(gL p hpw wr).mono ?_;rintro e w1 ⟨rfl,hb1⟩;rw[HN.o];have HBP:=hZ (HI.o.bp.below hb1);have HBR:=hZ (HI.o.br.below hb1);have HAT:=hZ (HI.o.at_.below hb1);have hld1:=fun op a next Q=>aB (P:=prog) HBP.o underlying51 rfl aU op a next Q
    have HL:=hZ (uL HAT.o.1 p hpw HOKL.o);clear hb1 hld;rcases hlm:fH S p s1 with⟨r|l,s2⟩
    ·have hRe:=HRE.o
     rw[M.bind_err hlm] at hRe;rw[hlm] at HL;have HRE2:=hZ hRe;clear hRe hlm;go_wp2_with fail;refine HL.o.mono ?_;rintro e w2 ⟨⟨rfl,hr0⟩,hstep⟩;have hr1:((r:Int) != 0)=true:=by simpa using hr0
     obtain⟨F2,hat,hfr,hm⟩:=HAT.o.step hstep;have hsn:=iP nL rfl w2;have hbr:=(hm.blk HBR.o HI.o.f1).alloc (.cells (aF nL).toArray 246);have hst:=fun op a next Q=>qR hbr rfl op a next Q
     have HB2:=hZ (hbr.put (vs:=aA pD) rfl);have HA2:=hZ ((hat.below ((i4 _ _).alloc (d8 _) (.cells (aF nL).toArray 246))).put (o:=0) (vs:=aA pD) (bLv _) (hfr _ HBR.o.lt HI.o.f1) hbr);clear hat hfr hm hbr hstep hld1;go_wp2_with fail;refine l9 (aL rfl _ _ (w.heap.size+1) 51 _ _ rfl HB2.o underlying51 rfl aU) rfl ?_;rw[←HRE2.o];exact⟨⟨rfl,hr0⟩,HA2.o.fin⟩
    ·have hRe:=HRE.o
     rw[M.bind_ok hlm] at hRe;rw[hlm] at HL;have HRE2:=hZ hRe;clear hRe hlm;obtain⟨g,m,r,hg,hm1,hr1,hg1,hg2,hm4,hrl⟩:∃g m r:Nat,g=4 ^ k∧m=j/4 ^ k∧r=j%4 ^ k∧1≤g∧g≤64∧m<4∧r<4 ^ k:=by
      have hlt:=HI.o.lt;rw[Nat.pow_succ] at hlt;have hp2:4 ^ k≤4 ^ 3:=Nat.pow_le_pow_right (by omega) (by omega)
      have hp1:0<4 ^ k:=Nat.pow_pos (by omega)
      exact⟨4 ^ k,j/4 ^ k,j%4 ^ k,rfl,rfl,rfl,hp1,by omega,Nat.div_lt_of_lt_mul (by omega),bNd _ hp1⟩
     have hq1:((j:Int)/(g:Int))=(m:Int):=by rw[hm1,hg];simp
     have hq2:((j:Int)%(g:Int))=(r:Int):=by rw[hr1,hg];simp
     have HG:=hZ hg;have HM:=hZ hm1;have HRR:=hZ hr1;have HQ1:=hZ hq1;have HQ2:=hZ hq2;have HBE:Hid (∀W,Calls prog 211 #[.int .i64 ((k:Int)+1)] W fun e w'=>e= .returned (g:Nat)∧w'=W):=hZ (fun W=>by
      have:=uZ (k+1) W (by omega)
      rw[show k+1-1=k from rfl,←hg,show(((k+1:Nat)):Int)=(k:Int)+1 by omega] at this
      exact this)
     have hj64:j≤256:=by
      have:=HI.o.lt;rw[Nat.pow_succ] at this;omega
     clear hg hm1 hr1 hq1 hq2;go_wp2_with fail;refine HL.o.mono ?_;rintro e w2 ⟨⟨rfl,hl4,hlw⟩,hstep⟩;obtain⟨F2,hat,hfr,hm⟩:=HAT.o.step hstep;have hsn:=iP l hl4 w2;obtain⟨w3,hw3⟩:=nZ (w2.alloc (.cells (aF l).toArray 246));have hb23:bB w2 w3:=by rw[hw3];exact bZ
     have hbl:Blk w3 w2.heap.size 246 (aF l):=by rw[hw3];exact Blk.new w2 _ _
     rw[←hw3] at hsn;have hbp:=(hm.blk HBP.o HI.o.f0).below hb23;have hbr:=(hm.blk HBR.o HI.o.f1).below hb23;have hat3:=hat.below hb23;have hf0:=hfr _ HBP.o.lt HI.o.f0;have hf1:=hfr _ HBR.o.lt HI.o.f1;have hmsz:=hZ hm.size;have hmsz:=hZ hm.size;have hmsz:=hZ hm.size;have hmsz:=hZ hm.size;have hmsz:=hZ hm.size;clear hat hfr hm hstep hld1 hw3 hb23;have HL4:=hZ hl4;have hml:m<l.length:=by rw[hl4];exact hm4
     have HML:=hZ hml;have HS3:=hZ hsn;clear hl4 hml;go_wp2_with fail;have hw2:w.heap.size≠w2.heap.size:=by have:=HBP.o.lt;have:=hat3.size;have:=hmsz.o;omega
     have HST:=hZ fun op a next Q=>aG (P:=prog) (t:=51) (o:=0) (cs:=aA (l[m]'HML.o)) (hbp.drew) (d8 12) aU (aX _) op a next Q
     have hw2:w.heap.size≠w2.heap.size:=by have:=HBP.o.lt;have:=hat3.size;have:=hmsz.o;omega
     have HST:=hZ fun op a next Q=>aG (P:=prog) (t:=51) (o:=0) (cs:=aA (l[m]'HML.o)) (hbp.drew) (d8 12) aU (aX _) op a next Q
     have hw2:w.heap.size≠w2.heap.size:=by have:=HBP.o.lt;have:=hat3.size;have:=hmsz.o;omega
     have HST:=hZ fun op a next Q=>aG (P:=prog) (t:=51) (o:=0) (cs:=aA (l[m]'HML.o)) (hbp.drew) (d8 12) aU (aX _) op a next Q
     have hw2:w.heap.size≠w2.heap.size:=by have:=HBP.o.lt;have:=hat3.size;have:=hmsz.o;omega
     have HST:=hZ fun op a next Q=>aG (P:=prog) (t:=51) (o:=0) (cs:=aA (l[m]'HML.o)) (hbp.drew) (d8 12) aU (aX _) op a next Q
     have hw2:w.heap.size≠w2.heap.size:=by have:=HBP.o.lt;have:=hat3.size;have:=hmsz.o;omega
     refine l7 (S:=fun w'=>Blk w' w2.heap.size 246 (aF l)) (by kernel_rfl) hbl.drew (fun hS0=>?_)
     refine aE 0 ?_;refine aE 1 ?_;refine aE 6 ?_;refine aE 7 ?_;refine vB [2] ?_;refine z8 rfl (fun K hK=>?_) rn
     go_simp;refine(HBE.o _).mono ?_;rintro e w5 ⟨rfl,rfl⟩
     try dsimp only
     refine hK.o _ _ (by assumption) (fun hSa2=>?_)
     try simp only[Act.put,z1,z2,z3]
     refine aE 3 ?_ (hy:=by intro w hSw;(try dsimp only at hSw);go_simp;rw[HQ1.o,i9 (by omega),bLo _ (by omega)])
     refine aE 4 ?_ (hy:=by intro w hSw;(try dsimp only at hSw);go_simp;rw[i6 (by omega)])
     refine mX 5 ?va5 ?ya5 ?_
     case ya5=>refine m5 (by kernel_rfl) 51 (.tmp 35) ?_ w2.heap.size (m*12) ?_ (aA (l[m]'HML.o)) _ (fun w hw=>aEc hw HML.o) underlying51 rfl aU<;>rfl
     refine vB [8] ?_;refine z8 rfl (fun K hK=>?_) rn
     go_simp;refine(HBE.o _).mono ?_;rintro e w5 ⟨rfl,rfl⟩
     try dsimp only
     refine hK.o _ _ (by assumption) (fun hSa8=>?_)
     try simp only[Act.put,z1,z2,z3]
     refine aE 9 ?_ (hy:=by intro w hSw;(try dsimp only at hSw);go_simp;rw[i9 (by omega),IntWalk.rem_in _ _ (by omega),HQ2.o])
     refine vB [10] ?_;refine z8 rfl (fun K hK=>?_) rn
     rw[i6 (by kernel_rfl)]
     refine bMx 51 (.tmp 5) (.tmp 36) rfl w.heap.size (0) (aA (l[m]'HML.o)).toArray rfl rfl (cW hbp.drew (d8 12)) aU (bLu (aX _)) ?_;refine hK.o _ _ (Blk.away hS0 0 _ hw2.symm) (fun hSa10=>?_)
     try simp only[Act.put,z1,z2,z3]
     refine aE 11 ?_;refine r8 (by kernel_rfl) ?_ _
     go_wp2_with fail;go_roundw
     case rel=>
      have hRe:=HRE2.o;rw[←HM.o,←HRR.o,a8,b9 HML.o] at hRe;exact⟨k,r,_,s2,F2,rfl,rfl,by omega,hZ ⟨by omega,hrl,hlw _ (n5 HML.o),hRe,(hat3.below (i4 _ _).drew).put (d8 _) hf0 hbp.drew,hbp.drew.put rfl,hbr.drew.away 0 _ (by omega),hf0,hf1⟩⟩
     case measure=>simp[intOf]
end
end
section
attribute [local go_sem ↓] bU bR gD iS wI eI dL
theorem bKj (w:World):(Instr.typeAssert .nilIface 248 321 true).run prog w= .ok (.tuple #[.agg (aF nL).toArray,false]) w:=by kernel_rfl
def bJg:Except Nat xE→Ending→Prop
 | .ok x,e=>e= .returned (.tuple #[gI x,.int .i64 0])∧x.good∧∀l,x≠ .index l
 | .error n,e=>e= .returned (.tuple #[.nilIface,.int .i64 (n:Nat)])∧n≠0
theorem aMc (n:Int):gC n≤3:=by unfold gC;split<;>(try split)<;>(try split)<;>omega
section
variable {σ:Type} {S:StF σ} {ty:TypeId} {a:Addr} {C:bA S ty a}
theorem aHr {s:σ} (h:C.Is w s F) (n:aM) (ao:n.wf) (i:Nat) (bk:i≤9223372036854775807) (D:C.Ok (fE S n i s).2):
  Calls prog 146 #[.iface ty (.pointer (some a)),.agg (aN n).toArray,(i:Nat)] w fun e w'=>bJg (fE S n i s).1 e∧C.Step F (fE S n i s).2 w w':=by
 obtain⟨f,z⟩:=nZ (w.alloc (.cells (aN n).toArray 53));have ac:Blk f w.heap.size 53 (aN n):=by rw[z];exact Blk.new w _ _
 have aj:bB w f:=by rw[z];exact bZ
 have h0:¬F w.heap.size:=fun az=>by have:=C.lt h _ az;omega
 have U:Hid (C.At F s w f F):=hZ ((bA.At.start h).below aj);have bb:cZ f w.heap.size 0 n.size:=ac.cell 0;have bc:=fun op a next Q=>eO (P:=prog) (t:=51) (o:=1) (cs:=aA n.root) ac rfl underlying51 rfl aU op a next Q
 have ak:=ao.size;have bl:=hZ ac;clear ac aj;by_cases bd:64≤i
 ·have ar:(64:Int)≤(i:Int):=by omega
  have e:fE S n i=M.err 1:=by unfold fE;rw[i9 (by omega)]
  rw[e];clear e D;go_in;go_upto_region 1 with fail
  rw[←z];clear z;go_wp2_with fail;go_ret2;exact⟨⟨rfl,by decide⟩,U.o.fin⟩
 ·have ar:¬(64:Int)≤(i:Int):=by omega
  have Z:=aMc n.size;by_cases O:gC n.size<3∧4 ^ gC n.size≤i
  ·have e:fE S n i=M.ret .hole:=by unfold fE;rw[i6 (by omega),i6 O]
   rw[e];obtain⟨au,av⟩:=O;have K:=hZ (oB n.size f ak);have A:Hid (Calls prog 211 #[.int .i64 ((gC n.size:Int)+1)] f fun e w'=>e= .returned (.int .i64 ((4 ^ gC n.size:Nat):Int))∧w'=f):=hZ (uZ (gC n.size+1) f (by omega))
   obtain⟨g,H⟩:=nZ (4 ^ gC n.size);obtain⟨E,G⟩:=nZ (gC n.size);rw[←H] at A av;rw[←G] at Z au K A;have be:(E:Int)<3:=by omega
   have bf:(g:Int)≤(i:Int):=by omega
   clear e D H G;go_in;go_upto_region 1 with fail
   rw[←z];clear z;go_wp2_with fail;refine K.o.mono ?_;rintro e w1 ⟨rfl,rfl⟩;go_wp2_with fail;refine A.o.mono ?_;rintro e w1 ⟨rfl,rfl⟩;go_wp2_with fail;go_ret2;exact⟨⟨rfl,trivial,by simp⟩,U.o.fin⟩
  ·have e:fE S n i=M.bind (kJ S (gC n.size) n.root i) fun p=>M.bind (iD S p) fun x s=>(nK x,s):=by unfold fE;rw[i6 (by omega),i9 O]
   rw[e] at D⊢;have ad:i<4 ^ gC n.size:=by
    by_cases W:gC n.size<3
    ·have:=fun h2=>O ⟨W,h2⟩
     omega
    ·rw[show gC n.size=3 by omega];omega
   have ap:=dE (fun p=>cX (aAm C.bg p) (fun x=>qL (fun _=>nK x))) D
   have N:=hZ (bCb U.o.1 n.root ao.root (gC n.size) i Z ad ap);have K:=hZ (oB n.size f ak);have A:Hid (gC n.size<3→Calls prog 211 #[.int .i64 ((gC n.size:Int)+1)] f fun e w'=>e= .returned (.int .i64 ((4 ^ gC n.size:Nat):Int))∧w'=f):=hZ fun bm=>uZ (gC n.size+1) f (by omega)
   rcases hlf:kJ S (gC n.size) n.root i s with⟨r|q,s1⟩
   ·rw[M.bind_err hlf] at D⊢
    rw[hlf] at N;have ae:(i:Int)<((4 ^ gC n.size:Nat):Int):=by omega
    obtain⟨g,H⟩:=nZ (4 ^ gC n.size);obtain⟨E,G⟩:=nZ (gC n.size);rw[←H] at A ae;rw[←G] at Z N K A;have aw:¬(g:Int)≤(i:Int):=by omega
    clear e H G O ad D hlf;go_in;go_upto_region 1 with fail
    rw[←z];clear z;go_wp2_with fail;refine K.o.mono ?_;rintro e w1 ⟨rfl,rfl⟩;by_cases W:E<3
    case' _=>
     have af:(E:Int)<3:=by omega
     go_wp2_with fail;refine(A.o W).mono ?_;rintro e w1 ⟨rfl,rfl⟩
    rotate_left
    case' _=>
     have af:¬(E:Int)<3:=by omega
    all_goals
     go_wp2_with fail;refine N.o.mono ?_;rintro e w2 ⟨⟨rfl,aa⟩,c⟩;have bh:((r:Int) != 0)=true:=by simpa using aa
     obtain⟨ba,d,j,u⟩:=U.o.step c;have ax:=eX pD w2;have I:=hZ (d.below ((i4 _ _).alloc (d8 _) (.cells (aA pD).toArray 51)));clear d j u c;go_wp2_with fail;go_ret2;exact⟨⟨rfl,aa⟩,I.o.fin⟩
   ·rw[M.bind_ok hlf] at D⊢
    rw[hlf] at N;have aq:=hZ (dE (fun x=>qL (fun _=>nK x)) D)
    have ae:(i:Int)<((4 ^ gC n.size:Nat):Int):=by omega
    obtain⟨g,H⟩:=nZ (4 ^ gC n.size);obtain⟨E,G⟩:=nZ (gC n.size);rw[←H] at A ae;rw[←G] at Z N K A;have aw:¬(g:Int)≤(i:Int):=by omega
    clear e H G O ad D hlf;go_in;go_upto_region 1 with fail
    rw[←z];clear z;go_wp2_with fail;refine K.o.mono ?_;rintro e w1 ⟨rfl,rfl⟩;by_cases W:E<3
    case' _=>
     have af:(E:Int)<3:=by omega
     go_wp2_with fail;refine(A.o W).mono ?_;rintro e w1 ⟨rfl,rfl⟩
    rotate_left
    case' _=>
     have af:¬(E:Int)<3:=by omega
    all_goals
     go_wp2_with fail;refine N.o.mono ?_;rintro e w2 ⟨⟨rfl,al⟩,c⟩;obtain⟨ba,d,j,u⟩:=U.o.step c;have ax:=eX q w2;have am:=Blk.new w2 51 (aA q);have bi:=fun op a next Q=>aB (P:=prog) am underlying51 rfl aU op a next Q
     have I:=hZ (d.below ((i4 _ _).alloc (d8 _) (.cells (aA q).toArray 51)));have R:=hZ (aEk I.o.1 q al aq.o);clear d j u c am al;rcases hit:iD S q s1 with⟨r|x,s2⟩
     ·rw[hit] at R
      have T:M.bind (iD S q) (fun x s=>(nK x,s)) s1=(.error r,s2):=M.bind_err hit
      have Y:=hZ T;have ah:=bKj;clear hit T;go_wp2_with fail;refine R.o.mono ?_;rintro e L ⟨⟨rfl,aa⟩,c⟩;obtain⟨ai,d,j,u⟩:=I.o.step c;have ag:=mS nL rfl L;have J:=hZ (d.below ((i4 _ _).alloc (d8 _) (.cells (aF nL).toArray 321)));clear d j u c;go_wp2_with fail;go_ret2;rw[Y.o];exact⟨⟨rfl,aa⟩,J.o.fin⟩
     ·rw[hit] at R
      have T:M.bind (iD S q) (fun x s=>(nK x,s)) s1=(nK x,s2):=M.bind_ok hit
      have Y:=hZ T;clear hit T
      cases x with
      |index l=>
       have ah:=bHi l;go_wp2_with fail;refine R.o.mono ?_;rintro e L ⟨⟨rfl,an,bj⟩,c⟩;obtain⟨ai,d,j,u⟩:=I.o.step c;have ag:=mS l an L;have J:=hZ (d.below ((i4 _ _).alloc (d8 _) (.cells (aF l).toArray 321)));clear d j u c an;unfold gI;go_wp2_with fail;go_ret2;rw[Y.o];exact⟨⟨rfl,by decide⟩,J.o.fin⟩
      |data t=>
       have ah:=bHd (.agg #[.string ⟨t.toArray⟩]);go_wp2_with fail;refine R.o.mono ?_;rintro e L ⟨⟨rfl,ab⟩,c⟩;obtain⟨ai,d,j,u⟩:=I.o.step c;have ag:=mS nL rfl L;have J:=hZ (d.below ((i4 _ _).alloc (d8 _) (.cells (aF nL).toArray 321)));have ay:=hZ ab;clear d j u c ab;unfold gI;go_wp2_with fail;go_ret2;rw[Y.o];exact⟨⟨rfl,ay.o,by simp⟩,J.o.fin⟩
      |hole=>
       have ah:=bHo (.agg #[]);go_wp2_with fail;refine R.o.mono ?_;rintro e L ⟨⟨rfl,ab⟩,c⟩;obtain⟨ai,d,j,u⟩:=I.o.step c;have ag:=mS nL rfl L;have J:=hZ (d.below ((i4 _ _).alloc (d8 _) (.cells (aF nL).toArray 321)));clear d j u c ab;unfold gI;go_wp2_with fail;go_ret2;rw[Y.o];exact⟨⟨rfl,trivial,by simp⟩,J.o.fin⟩
end
end
section
attribute [local go_sem ↓] bU bR gD iS wI eI dL
theorem bDr (s:ByteArray) (n:Nat) (w:World):(method (n+1) 327 (.agg #[.string s]) "Text").run prog w= .ok (214,.agg #[.string s]) w:=by kernel_rfl
theorem bCj (n:Nat) (w:World):(method (n+1) 323 (.agg #[]) "Text").run prog w= .ok (373,.agg #[]) w:=by kernel_rfl
def bHw:Except Nat Bs→Ending→Prop
 | .ok t,e=>e= .returned (.tuple #[.string ⟨t.toArray⟩,.int .i64 0])∧t.length=256
 | .error n,e=>e= .returned (.tuple #[.string ⟨#[]⟩,.int .i64 (n:Nat)])∧n≠0
theorem yZ (h:s.length≤256):(aV s).length≤256:=by
 unfold aV;rw[i6 h];unfold kA aP;simp;omega
section
variable {σ:Type} {S:StF σ} {ty:TypeId} {a:Addr} {C:bA S ty a}
theorem aVx {s:σ} (h:C.Is w s F) (n:aM) (af:n.wf) (i:Nat) (ag:i≤9223372036854775807) (O:C.Ok (kW S n i s).2):
  Calls prog 127 #[.iface ty (.pointer (some a)),.agg (aN n).toArray,(i:Nat)] w fun e w'=>bHw (kW S n i s).1 e∧C.Step F (kW S n i s).2 w w':=by
 obtain⟨T,c⟩:=nZ (w.alloc (.cells (aN n).toArray 53));have U:Blk T w.heap.size 53 (aN n):=by rw[c];exact Blk.new w _ _
 have N:bB w T:=by rw[c];exact bZ
 have G:=hZ ((bA.At.start h).below N);have ai:=aB U underlying53 rfl cQ;clear U N;have W:=dE (fun x=>cO (Ok:=C.Ok) (σ:=σ) (eG x++aP (256-(eG x).length))) O
 have q:=hZ (aHr G.o.1 n af i ag W);have j:kW S n i=M.bind (fE S n i) fun x=>M.ret (eG x++aP (256-(eG x).length)):=rfl
 rw[j];clear j W O;rcases hbk:fE S n i s with⟨r|x,ak⟩
 ·rw[M.bind_err hbk]
  rw[hbk] at q;clear hbk;go_in;go_upto_region 1 with fail
  rw[←c];clear c;go_wp21;refine q.o.mono ?_;rintro e w2 ⟨⟨rfl,R⟩,d⟩;have aj:((r:Int) != 0)=true:=by simpa using R
  obtain⟨Y,f,u,j⟩:=G.o.step d;have A:=hZ f;clear f u j d;go_wp21;go_ret2;exact⟨⟨rfl,R⟩,A.o.fin⟩
 ·rw[M.bind_ok hbk]
  rw[hbk] at q;clear hbk
  cases x with
  |index l=>
   go_in;go_upto_region 1 with fail
   rw[←c];clear c;go_wp21;refine q.o.mono ?_;rintro e w2 ⟨⟨rfl,_,ac⟩,d⟩;exact absurd rfl (ac l)
  |data t=>
   have ad:=bDr ⟨t.toArray⟩;go_in;go_upto_region 1 with fail
   rw[←c];clear c;go_wp21;refine q.o.mono ?_;rintro e w2 ⟨⟨rfl,D,_⟩,d⟩;obtain⟨Y,f,u,j⟩:=G.o.step d;have A:=hZ f;clear f u j d;unfold gI;go_wp21;refine(qB t w2 (by have:=D.1;omega)).mono ?_
   rintro e K ⟨rfl,E⟩;have H:=hZ (A.o.below E);have aa:=yZ D.1;obtain⟨z,L⟩:=nZ (aV t);rw[←L] at aa⊢;have Z:=hZ L;have ab:Hid ((256:Int)-(z.length:Int)=((256-z.length:Nat):Int)):=hZ (by omega)
   have ae:¬9223372036854775807<z.length+(aP (256-z.length)).length:=by simp[aP];omega
   have ah:Hid ((z++aP (256-z.length)).length=256):=hZ (by simp[aP];omega)
   clear L E D;go_wp21;rw[ab.o];refine(pU (256-z.length) K (by omega)).mono ?_
   rintro e w4 ⟨rfl,I⟩;have J:=hZ (H.o.below I);go_wp21;go_ret2;refine⟨⟨?_,?_⟩,J.o.fin⟩
   ·show _=Ending.returned (.tuple #[.string ⟨(aV t++aP (256-(aV t).length)).toArray⟩,(0:Int)])
    rw[←Z.o,←cI];rfl
   ·show(aV t++aP (256-(aV t).length)).length=256
    rw[←Z.o];exact ah.o
  |hole=>
   have ad:=bCj;go_in;go_upto_region 1 with fail
   rw[←c];clear c;go_wp21;refine q.o.mono ?_;rintro e w2 ⟨⟨rfl,D,_⟩,d⟩;obtain⟨Y,f,u,j⟩:=G.o.step d;have A:=hZ f;clear f u j d;unfold gI;go_wp21;refine(vJ w2).mono ?_;rintro e K ⟨rfl,E⟩;have H:=hZ (A.o.below E);clear E D;go_wp21;refine(pU 256 K (by omega)).mono ?_
   rintro e w4 ⟨rfl,I⟩;have J:=hZ (H.o.below I);have ae:¬9223372036854775807<(aP 256).length:=by simp[aP]
   go_wp21;go_ret2;refine⟨⟨?_,rfl⟩,J.o.fin⟩
   show _=Ending.returned (.tuple #[.string ⟨(([]:Bs)++aP 256).toArray⟩,(0:Int)])
   rw[←cI];rfl
end
end
section
attribute [local go_sem ↓] bU bR eI dL
section
variable {σ:Type} {S:StF σ} {ty:TypeId} {a:Addr} {C:bA S ty a}
theorem bBu {n:aM} {s c:σ} (h:kW S n i s=(.ok t,c)):i<64:=by
 refine Classical.byContradiction fun d=>?_
 have e:kW S n i s=(.error 1,s):=by
  unfold kW;refine M.bind_err ?_;unfold fE;rw[i9 d];rfl
 rw[e] at h;simp at h
theorem bA.At.others {s:σ} (h:C.At F s w wc F1) (d:Below b wc wd) (r:Lib.OthersKept 5 (some b) wc wd) (h1:w.heap.size≤b) (h2:¬F1 b) (A:∀cs e fr,wc.heap[b]?=some (Obj.cells cs e fr)→e=217):C.At F s w wd F1:=by
 refine⟨C.keep h.1 d.size (fun k f=>?_) (fun g c e fr u ht=>(r g _ u (fun j=>by
  simp only[i5] at j;subst j;exact(C.nty e ht).2.1 (A c e fr u)) (fun c2 z j=>by
  simp only[n7] at j;exact(C.nty e ht).1 j.2.1))),⟨d.os.trans h.2.1.os,d.tape.trans h.2.1.tape,d.output.trans h.2.1.output,l6 h.size d.size,fun k f D=>(d.block k (by omega)).trans (h.2.1.block k f D)⟩,h.2.2⟩
 have q:=h.lt k f;rw[Array.getElem?_eq_getElem q];refine r k _ (Array.getElem?_eq_getElem q) (fun e=>by simp only[i5] at e;exact h2 (e▸f)) (fun c z e=>?_)
 exact(C.kinds h.1 k c 5 z f (by rw[Array.getElem?_eq_getElem q,e])).1 rfl
def bKu:Except Nat Bs→Ending→Prop
 | .ok t,e=>e= .returned (.tuple #[.string ⟨t.toArray⟩,.int .i64 0])
 | .error n,e=>e= .returned (.tuple #[.string ⟨#[]⟩,.int .i64 (n:Nat)])∧n≠0
structure bHh (C:bA S ty a) (F:Nat→Prop) (w wr:World) (n:aM) (o till i0 i f:Nat) (out:Bs) (s1:σ) (R:Except Nat Bs×σ) (F1:Nat→Prop):Prop where
 fuel:f+(i-i0)=66
 ge:i0≤i
 le:i=i0∨i≤64
 out_:out.length≤256*(i-i0)
 eq:iK S n o till f i out s1=R
 at_:C.At F s1 w wr F1
 bn:Blk wr w.heap.size 53 (aN n)
 bd:Bld wr (w.heap.size+1) out
 f0:¬F1 w.heap.size
 f1:¬F1 (w.heap.size+1)
theorem bBt {s:σ} (h:C.Is w s F) (n:aM) (hn:n.wf) (off size:Int) (ho:eY off) (hs:eY size) (hok:C.Ok (sK S n off size s).2):
  Calls prog 67 #[.iface ty (.pointer (some a)),.agg (aN n).toArray,off,size] w fun e w'=>bKu (sK S n off size s).1 e∧C.Step F (sK S n off size s).2 w w':=by
 obtain⟨w0,hw0⟩:=nZ (w.alloc (.cells (aN n).toArray 53));have hb:Blk w0 w.heap.size 53 (aN n):=by rw[hw0];exact Blk.new w _ _
 have hbel:bB w w0:=by rw[hw0];exact bZ
 have hsz0:w0.heap.size=w.heap.size+1:=by rw[hw0];simp
 have h0:¬F w.heap.size:=fun hf=>by have:=C.lt h _ hf;omega
 have h1:¬F (w.heap.size+1):=fun hf=>by have:=C.lt h _ hf;omega
 have HAT:Hid (C.At F s w w0 F):=hZ ((bA.At.start h).below hbel);have hc0:cZ w0 w.heap.size 0 n.size:=hb.cell 0;have HB:=hZ hb;have hns:=hn.size;unfold eY at ho hs hns;obtain⟨ho1,ho2⟩:=ho;obtain⟨hs1,hs2⟩:=hs;obtain⟨hn1,hn2⟩:=hns;clear hb hbel;by_cases hneg:off<0∨size<0
 ·have e:sK S n off size=M.err 1:=by unfold sK;rw[i6 hneg]
  rw[e];clear e hok;by_cases hx:off<0
  ·go_in
   go_upto_region 1 with fail
   rw[←hw0];clear hw0;go_wp2_with fail;go_ret2;exact⟨⟨rfl,by decide⟩,HAT.o.fin⟩
  ·have hx2:size<0:=by omega
   go_in;go_upto_region 1 with fail
   rw[←hw0];clear hw0;go_wp2_with fail;go_ret2;exact⟨⟨rfl,by decide⟩,HAT.o.fin⟩
 ·have p1:¬off<0:=by omega
  have p2:¬size<0:=by omega
  by_cases hbig:n.size≤off
  ·have e:sK S n off size=M.ret []:=by unfold sK;rw[i9 hneg,i6 hbig]
   rw[e];clear e hok hneg;go_in;go_upto_region 1 with fail
   rw[←hw0];clear hw0;go_wp2_with fail;go_ret2;exact⟨rfl,HAT.o.fin⟩
  ·have e:sK S n off size=iK S n off.toNat (off+min size (n.size-off)).toNat 66 (off.toNat/256) []:=by unfold sK;rw[i9 hneg,i9 hbig]
   rw[e] at hok⊢;obtain⟨o,rfl⟩:∃o:Nat,off=o:=⟨off.toNat,by omega⟩
   obtain⟨till,htill⟩:∃t:Nat,(t:Int)=(o:Int)+min size (n.size-o):=⟨((o:Int)+min size (n.size-o)).toNat,by omega⟩
   have htl:(till:Int)≤n.size:=by omega
   rw[←htill,s7,s7] at hok⊢;obtain⟨R,hR⟩:∃R,iK S n o till 66 (o/256) [] s=R:=⟨_,rfl⟩;rw[hR] at hok⊢;have HOK:=hZ hok;have HRE:=hZ hR;have HTI:=hZ htill;have hbd:=Bld.new w0;rw[hsz0] at hbd;have HI:Hid (∀wz,wz=w0.alloc (.cells #[.pointer none,.slice none 0 0] 217)→bHh C F w wz n o till (o/256) (o/256) 66 [] s R F):=hZ (fun wz hz=>by
    rw[hz];exact⟨by omega,d8 _,.inl rfl,by simp,hR,HAT.o.below (bZ),HB.o.alloc _,hbd,h0,h1⟩)
   clear e hok hneg hR htill hbd;have hbig2:(o:Int)<n.size:=by omega
   go_in;go_upto_region 1 with fail
   rw[←hw0];clear hw0;go_upto_region 6 with fail
   rw[←HTI.o];go_upto_region 7 with fail
   obtain⟨wz,hwz⟩:=nZ (w0.alloc (.cells #[.pointer none,.slice none 0 0] 217));rw[←hwz];have HI2:=hZ (HI.o wz hwz);clear hwz HI;go_wp2_with fail;go_loopw [12] (fun iv wr=>∃(i f:Nat) (out:Bs) (s1:σ) (F1:Nat→Prop),iv= .int .i64 (i:Nat)∧(i=o/256∨i≤64)∧Hid (bHh C F w wr n o till (o/256) i f out s1 R F1)) (fun iv _=>o/256+70-(intOf iv).toNat)
   case atStart=>exact⟨o/256,66,[],s,F,by go_num,.inl rfl,HI2⟩
   case round=>
    clear HI2;obtain⟨i,f,out,s1,F1,rfl,hi64,HI⟩:=hrel;have hib:i≤36028797018963968:=by omega
    by_cases hlt:i*256<till
    ·have hx:(i:Int)*256<(till:Int):=by omega
     have hff:=HI.o.fuel;have hge:=HI.o.ge;obtain⟨f',rfl⟩:∃f',f=f'+1:=⟨f-1,by omega⟩
     have hRe:=HI.o.eq;rw[iK,i6 hlt] at hRe;have hokb:C.Ok (kW S n i s1).2:=dE (fun t=>aBr C.bg n o till f' _ _) (by rw[hRe];exact HOK.o)
     have hld:=fun op a next Q=>aB (P:=prog) HI.o.bn underlying53 rfl cQ op a next Q
     have HBY:=hZ (aVx HI.o.at_.1 n hn i (by omega) hokb)
     have HRE2:=hZ hRe;clear hRe hokb;rcases hby:kW S n i s1 with⟨r|t,s2⟩
     ·have hRe:=HRE2.o
      rw[M.bind_err hby] at hRe;rw[hby] at HBY;have HRE3:=hZ hRe;clear hRe hby;go_wp2_with fail;refine HBY.o.mono ?_;rintro e w2 ⟨⟨rfl,hr0⟩,hstep⟩;have hr1:((r:Int) != 0)=true:=by simpa using hr0
      obtain⟨F2,hat,hfr,hm⟩:=HI.o.at_.step hstep;have HA2:=hZ hat;clear hat hfr hm hstep hld;go_wp2_with fail;go_ret2;rw[←HRE3.o];exact⟨⟨rfl,hr0⟩,HA2.o.fin⟩
     ·have hi2:=bBu hby
      have hRe:=HRE2.o;rw[M.bind_ok hby] at hRe;rw[hby] at HBY;have HRE3:=hZ hRe;clear hRe hby;go_wp2_with fail;refine HBY.o.mono ?_;rintro e w2 ⟨⟨rfl,ht256⟩,hstep⟩;obtain⟨F2,hat,hfr,hm⟩:=HI.o.at_.step hstep;have hbn:=hm.blk HI.o.bn HI.o.f0;have hbd:Bld w2 (w.heap.size+1) out:=HI.o.bd.kept (fun k cs e fr hk he=>hm.block k (i8.1 hk).1 (fun hf=>by
       have:=C.kinds HI.o.at_.1 k cs e fr hf hk;rcases he with rfl|rfl
       ·exact this.1 rfl
       ·exact this.2 rfl))
      have hf0:=hfr _ HI.o.bn.lt HI.o.f0;have hf1:=hfr _ HI.o.bd.lt HI.o.f1;have HA2:=hZ hat;have HT:=hZ ht256;have hot:(o:Int)≤till:=by have:=HTI.o;omega
      obtain⟨A,hA⟩:=nZ (o-i*256);obtain⟨B,hB⟩:=nZ (min (till-i*256) 256);have e1:max ((o:Int)-(i:Int)*256) 0=(A:Int):=by omega
      have e2:min ((till:Int)-(i:Int)*256) 256=(B:Int):=by omega
      have q1:(A:Int)≤(B:Int):=by omega
      have q2:(B:Int)≤(t.length:Int):=by omega
      have hpc:aCe t o till i=(t.take B).drop A:=by unfold aCe;rw[←hA,←hB]
      have hpl:(aCe t o till i).length≤256:=by rw[hpc];simp;omega
      have HPC:=hZ hpc;have HPL:=hZ hpl;have hsum:out.length+(aCe t o till i).length≤100000000:=by have:=HI.o.out_;omega
      have HW:=hZ (aBp (w.heap.size+1) out (aCe t o till i) w2 hbd hsum);clear hat hfr hm hstep hld ht256 hA hB hpc hpl hsum hot;go_wp2_with fail;rw[dM,←HPC.o];refine HW.o.mono ?_;rintro e w3 ⟨rfl,hbd3,hb3,hok3⟩;have hbn3:Blk w3 w.heap.size 53 (aN n):=by
       unfold Blk;rw[hb3.block _ (by omega)]
       exact hbn
      have hat3:C.At F s2 w w3 F2:=HA2.o.others hb3 hok3 (by omega) hf1 hbd.ty
      go_wp2_with fail;go_roundw
      case rel=>
       refine⟨i+1,f',_,s2,F2,by go_num,.inr (by omega),hZ ⟨by omega,by omega,.inr (by omega),?_,HRE3.o,hat3,hbn3,hbd3,hf0,hf1⟩⟩
       have:=HI.o.out_;have:=HPL.o;rw[i7];omega
      case measure=>simp[intOf];omega
    ·have hx:¬(i:Int)*256<(till:Int):=by omega
     have hff:=HI.o.fuel;have hge:=HI.o.ge;obtain⟨f',rfl⟩:∃f',f=f'+1:=⟨f-1,by omega⟩
     have hRe:=HI.o.eq;rw[iK,i9 hlt] at hRe;have HRE2:Hid ((.ok out,s1)=R):=hZ hRe;have HS:=hZ (wH (w.heap.size+1) out wr HI.o.bd);clear hRe;go_wp2_with fail;refine HS.o.mono ?_;rintro e w3 ⟨rfl,hb3,hok3⟩;have hfin:C.Step F s1 w w3:=(HI.o.at_.others hb3 hok3 (by omega) HI.o.f1 HI.o.bd.ty).fin
     go_wp2_with fail;go_ret2;rw[←HRE2.o];exact⟨rfl,hfin⟩
end
end
section
attribute [local go_sem ↓] bU bR gD iS xT
theorem fZ (h:Blk w g e cs):w.rangeAt g 0 cs:=fun j v c=>by rw[r9,h.cell,c]
theorem aEs:∀(cs z d:List Value),z.length=cs.length→List.foldl (fun cs x=>cs.setIfInBounds x.snd x.fst) (d++z).toArray (cs.zipIdx d.length)=(d++cs).toArray
 |[],z,d,h=>by
  have e:=bLs (by simpa using h)
  subst e;rfl
 |c::cs,z,d,h=>by
  cases z with
  |nil=>simp at h
  |cons f zs=>
   have h2:=aEs cs zs (d++[c]) (by simpa using h)
   rw[List.zipIdx_cons,List.foldl_cons];have j:(d++f::zs).toArray.setIfInBounds d.length c=((d++[c])++zs).toArray:=by simp
   rw[show(d++[c]).length=d.length+1 by simp] at h2
   rw[j,h2];simp
theorem aXe (cs z:List Value) (h:z.length=cs.length):List.foldl (fun cs x=>cs.setIfInBounds x.snd x.fst) z.toArray cs.zipIdx=cs.toArray:=aEs cs z [] h
def aCx:Except Nat aC→aC
 | .ok p=>p
 | .error _=>pD
def mE {α:Type}:Except Nat α→Nat
 | .ok _=>0
 | .error n=>n
theorem sA.val {r:Except Nat aC} {e:Ending} (h:sA r e):e= .returned (.tuple #[.agg (aA (aCx r)).toArray,(mE r:Nat)]):=by
 cases r with
 |ok p=>exact h.1
 |error n=>exact h.1
theorem aHh (h:l.length=4):(bX l).length≤256:=by
 unfold bX;split
 ·have:∀l:List aC,(l.flatMap aR).length=64*l.length:=fun l=>by
   induction l with
   |nil=>rfl
   |cons a r c=>rw[bMb,i7,c,bLn];simp[aR,aH,aP];omega
  rw[this,h];omega
 ·simp
theorem aVp (h:Blk w g e cs∧X):w.rangeAt g 0 cs:=fZ h.1
section
variable {σ:Type} {S:StF σ} {ty:TypeId} {a:Addr} {C:bA S ty a}
theorem aPx {s:σ} (h:C.Is w s F) (l:List aC) (u:l.length=4) (R:∀p∈l,p.wf) (c:Nat) (ad:c≤3) (G:C.Ok (lW S l c s).2):
  Calls prog 145 #[.iface ty (.pointer (some a)),.agg (aF l).toArray,(c:Nat)] w fun e w'=>sA (lW S l c s).1 e∧C.Step F (lW S l c s).2 w w':=by
 obtain⟨j,d⟩:=nZ ((w.alloc (.cells (aF l).toArray 246)).alloc (.cells (aA pD).toArray 51));have I:Blk j w.heap.size 246 (aF l):=by rw[d];exact(Blk.new w _ _).alloc _
 have hr:Blk j (w.heap.size+1) 51 (aA pD):=by rw[d];exact Blk.newAt (w:=w.alloc _) _ _ (by simp)
 have L:bB w j:=by rw[d];exact(bZ).alloc (by simp) _
 have h0:¬F w.heap.size:=fun J=>by have:=C.lt h _ J;omega
 have h1:¬F (w.heap.size+1):=fun J=>by have:=C.lt h _ J;omega
 have T:=hZ ((bA.At.start h).below L);have N:(prog.info? 246).map (·.size)=some (aF l).length:=by rw[aQ,u];exact sL
 have ao:=aB I underlying246 rfl N;have U:=aWy u R;have al:=hZ I;have E:=hZ hr;have D:=hZ u;clear I L;by_cases q:l=nL
 ·have e:lW S l c=M.ret pD:=by unfold lW;rw[i6 q]
  rw[e];have f:decide (l=nL)=true:=by simpa using q
  have aq:=hZ f;simp only[f] at U;have ap:=qR hr rfl;have ae:=hZ (hr.put (vs:=aA pD) rfl);have af:=hZ (T.o.put (o:=0) (vs:=aA pD) (bLv _) h1 hr);clear q f e G hr u;go_in;go_upto_region 1 with fail
  rw[show(w.alloc (.cells (aF l).toArray 246)).alloc (.cells yE 51)=j from d.symm];clear d;go_wp2_with fail;refine l9 (aL rfl _ _ (w.heap.size+1) 51 _ _ rfl ae.o underlying51 rfl aU) rfl ?_;exact⟨⟨rfl,aOn⟩,af.o.fin⟩
 ·have e:lW S l c=S.put (bX l) c:=by unfold lW;rw[i9 q]
  rw[e] at G⊢;have f:decide (l=nL)=false:=by simpa using q
  simp only[f] at U;clear q f e hr u;go_in;go_upto_region 1 with fail
  rw[show(w.alloc (.cells (aF l).toArray 246)).alloc (.cells yE 51)=j from d.symm];clear d;go_wp2_with fail;have ag:=hZ (aEn l D.o R j.drew);refine l7 (S:=fun w'=>Blk w' w.heap.size 246 (aF l)∧∃cs,cs.length=12∧Blk w' (w.heap.size+1) 51 cs) (by kernel_rfl) ⟨al.o.drew,_,rfl,E.o.drew⟩ (fun ah=>?_)
  refine aE 0 ?_;refine mX 1 ?va1 ?ya1 ?_
  case ya1=>refine m5 (by kernel_rfl) 246 (.tmp 4) ?_ w.heap.size (0) ?_ (aF l) _ (fun w' am=>aVp am) underlying246 rfl N<;>rfl
  refine aE 2 ?_ (hy:=by intro w H;(try dsimp only at H);go_simp;rw[i9 (by rw[aQ,D.o];decide),aXe _ _ (by rw[aQ,D.o];rfl)];rfl)
  refine aE 4 ?_;refine aE 5 ?_;refine aE 6 ?_ (hy:=by intro w H;(try dsimp only at H);go_simp;rw[C.nput];rfl)
  refine aE 7 ?_;refine vB [3] ?_;refine z8 rfl (fun K A=>?_) rn
  go_simp;refine(ag.o).mono ?_;rintro e w1 ⟨rfl,z⟩
  try dsimp only
  refine A.o _ _ (⟨ah.1.below z,_,rfl,E.o.drew.below z⟩) (fun ab=>?_)
  refine vB [8] ?_;refine z8 rfl (fun K A=>?_) rn
  go_simp;rw[C.mput,y7,C.cp];go_simp;have O:=(T.o.below (i4 _ _).drew).below z;refine(C.put (bX l) c O.1 (aHh D.o) ad G).mono ?_;rintro e ar ⟨W,aa⟩;have ai:=sA.val W;subst ai;obtain⟨au,aj,Y,Z⟩:=O.step aa;have r:=Z.blk (E.o.drew.below z) h1;have ak:=Y _ (E.o.drew.below z).lt h1;clear Y
  try dsimp only
  refine A.o _ _ (⟨Z.blk ab.1 h0,_,rfl,r⟩) (fun ac=>?_)
  refine aE 9 ?_;refine aE 10 ?_;refine vB [11] ?_;refine z8 rfl (fun K A=>?_) rn
  rw[i6 (by kernel_rfl)]
  refine bMx 51 (.tmp 6) (.tmp 21) rfl (w.heap.size+1) (0) (aA (aCx (S.put (bX l) c s).1)).toArray rfl rfl (cW r (d8 12)) aU (bLu (aX _)) ?_;refine A.o _ _ (⟨ac.1.away 0 _ (by omega),_,rfl,r.put rfl⟩) (fun an=>?_)
  refine aE 12 ?_;refine r8 (by kernel_rfl) ?_ _
  go_wp2_with fail;refine l9 (aL rfl _ _ (w.heap.size+1) 51 _ _ rfl (r.put (vs:=aA (aCx (S.put (bX l) c s).1)) rfl) underlying51 rfl aU) rfl ?_;exact⟨W,(aj.put (bLv _) ak r).fin⟩
end
end
section
attribute [local go_sem ↓] bU bR gD iS xT
theorem aQl {σ:Type} {S:StF σ} {s j:σ} (h:fH S p s=(.ok l,j)):l.length=4∧∀q∈l,q.wf:=by
 have r:∀{x:xE} {s2:σ},iD S p s=(.ok x,s2)→x.good:=by
  intro x s2 c;unfold iD at c;by_cases d:isNone p=true
  ·rw[i6 d] at c
   simp only[M.ret,Prod.mk.injEq,Except.ok.injEq] at c;rw[←c.1];trivial
  ·rw[i9 d] at c
   rcases M.bind_cases c with⟨t,u,h1,h2⟩|⟨e,u,h1,h2⟩
   ·simp only[Prod.mk.injEq] at h2
    exact vU h2.1
   ·simp at h2
 rcases M.bind_cases (x:=iD S p) (f:=fun x s=>(mR x,s)) h with⟨x,s2,h1,h2⟩|⟨e,s2,h1,h2⟩
 ·have z:=r h1
  simp only[Prod.mk.injEq] at h2
  cases x with
  |index A=>
   simp only[mR,Except.ok.injEq] at h2;rw[←h2.1];exact z
  |hole=>
   simp only[mR,Except.ok.injEq] at h2;rw[←h2.1];exact⟨rfl,aQq⟩
  |data t=>simp[mR] at h2
 ·simp at h2
theorem sA.two {r:Except Nat aC} {e:Ending} (h:sA r e):(∃n,r= .error n∧n≠0)∨∃q,r= .ok q∧q.wf:=by
 cases r with
 |ok p=>exact .inr ⟨p,rfl,h.2⟩
 |error n=>exact .inl ⟨n,rfl,h.2⟩
theorem aBt (s:Bs):(aV s).length≤256:=by
 by_cases h:s.length≤256
 ·exact yZ h
 ·unfold aV;rw[i9 h];simp
section
variable {σ:Type} {S:StF σ} {ty:TypeId} {a:Addr} {C:bA S ty a}
theorem bCx {st:σ} (h:C.Is w st F) (p:aC) (i:Int) (s:Bs) (J:s.length≤1000000) (z:C.Ok (iN S 0 p 0 s st).2):
  Calls prog 147 #[.iface ty (.pointer (some a)),.agg (aA p).toArray,(0:Int),i,.string ⟨s.toArray⟩] w fun e w'=>sA (iN S 0 p 0 s st).1 e∧C.Step F (iN S 0 p 0 s st).2 w w':=by
 obtain⟨f,c⟩:=nZ ((w.alloc (.cells (aA p).toArray 51)).alloc (.cells (aA pD).toArray 51));have hr:Blk f (w.heap.size+1) 51 (aA pD):=by rw[c];exact Blk.newAt (w:=w.alloc _) _ _ (by simp)
 have A:bB w f:=by rw[c];exact(bZ).alloc (by simp) _
 have h1:¬F (w.heap.size+1):=fun W=>by have:=C.lt h _ W;omega
 have E:=hZ ((bA.At.start h).below A);have u:=hZ hr;clear A;by_cases j:s=[]
 ·have e:iN S 0 p 0 s=M.ret pD:=by unfold iN;rw[i6 j]
  rw[e];have ad:=qR hr rfl;have L:=hZ (hr.put (vs:=aA pD) rfl);have N:=hZ (E.o.put (o:=0) (vs:=aA pD) (bLv _) h1 hr);have Y:s.isEmpty=true:=by simp[j]
  clear j e z hr;go_in;go_upto_region 1 with fail
  rw[show(w.alloc (.cells (aA p).toArray 51)).alloc (.cells yE 51)=f from c.symm];clear c;go_wp2_with fail;refine l9 (aL rfl _ _ (w.heap.size+1) 51 _ _ rfl L.o underlying51 rfl aU) rfl ?_;exact⟨⟨rfl,aOn⟩,N.o.fin⟩
 ·have e:iN S 0 p 0 s=S.put (aV s) 0:=by unfold iN;rw[i9 j]
  rw[e] at z⊢;have Y:s.isEmpty=false:=by cases s<;>simp_all
  clear j e hr;go_in;go_upto_region 1 with fail
  rw[show(w.alloc (.cells (aA p).toArray 51)).alloc (.cells yE 51)=f from c.symm];clear c;go_wp2_with fail
  ·refine l7 (S:=fun w'=>∃cs,cs.length=12∧Blk w' (w.heap.size+1) 51 cs) (by kernel_rfl) ⟨_,rfl,u.o.drew⟩ (fun ae=>?_)
   refine aE 0 ?_;refine aE 1 ?_;refine aE 2 ?_;refine aE 4 ?_;refine aE 5 ?_ (hy:=by intro w O;(try dsimp only at O);go_simp;rw[C.nput];rfl)
   refine aE 6 ?_;refine vB [3] ?_;refine z8 rfl (fun K q=>?_) rn
   go_simp;refine(qB s f.drew J).mono ?_;rintro e w1 ⟨rfl,r⟩
   try dsimp only
   refine q.o _ _ (⟨_,rfl,u.o.drew.below r⟩) (fun ab=>?_)
   refine vB [7] ?_;refine z8 rfl (fun K q=>?_) rn
   go_simp;rw[C.mput,y7,C.cp];go_simp;have D:=(E.o.below (i4 _ _).drew).below r;refine(C.put (aV s) 0 D.1 (aBt s) (by omega) z).mono ?_
   rintro e af ⟨G,I⟩;have R:=sA.val G;subst R;obtain⟨ag,T,H,Z⟩:=D.step I;have d:=Z.blk (u.o.drew.below r) h1;have U:=H _ (u.o.drew.below r).lt h1;clear H
   try dsimp only
   refine q.o _ _ (⟨_,rfl,d⟩) (fun ac=>?_)
   refine aE 8 ?_;refine aE 9 ?_;refine vB [10] ?_;refine z8 rfl (fun K q=>?_) rn
   rw[i6 (by kernel_rfl)]
   refine bMx 51 (.tmp 10) (.tmp 28) rfl (w.heap.size+1) (0) (aA (aCx (S.put (aV s) 0 st).1)).toArray rfl rfl (cW d (d8 12)) aU (bLu (aX _)) ?_;refine q.o _ _ (⟨_,rfl,d.put rfl⟩) (fun aa=>?_)
   refine aE 11 ?_;refine r8 (by kernel_rfl) ?_ _
   go_wp2_with fail;refine l9 (aL rfl _ _ (w.heap.size+1) 51 _ _ rfl (d.put (vs:=aA (aCx (S.put (aV s) 0 st).1)) rfl) underlying51 rfl aU) rfl ?_;exact⟨G,(T.put (bLv _) U d).fin⟩
end
end
section
attribute [local go_sem ↓] bU bR gD iS xT
section
variable {σ:Type} {S:StF σ} {ty:TypeId} {a:Addr} {C:bA S ty a}
theorem bGe:∀(k:Nat) {w:World} {st:σ} {F:Nat→Prop} (h:C.Is w st F) (p:aC) (hp:p.wf) (i:Nat) (s:Bs) (hk:k≤3) (hi:i<4 ^ k) (hsl:s.length≤1000000) (hok:C.Ok (iN S k p i s st).2),
  Calls prog 147 #[.iface ty (.pointer (some a)),.agg (aA p).toArray,(k:Nat),(i:Nat),.string ⟨s.toArray⟩] w fun e w'=>sA (iN S k p i s st).1 e∧C.Step F (iN S k p i s st).2 w w':=by
 intro k
 induction k with
 |zero=>exact fun {w} {st} {F} h p hp i s hk hi hsl hok=>bCx h p (i:Nat) s hsl hok
 |succ k ih=>
  intro w st F h p hp i s hk hi hsl hok;obtain⟨w0,hw0⟩:=nZ ((w.alloc (.cells (aA p).toArray 51)).alloc (.cells (aA pD).toArray 51));have hb:Blk w0 w.heap.size 51 (aA p):=by rw[hw0];exact(Blk.new w _ _).alloc _
  have hr:Blk w0 (w.heap.size+1) 51 (aA pD):=by rw[hw0];exact Blk.newAt (w:=w.alloc _) _ _ (by simp)
  have hbel:bB w w0:=by rw[hw0];exact(bZ).alloc (by simp) _
  have h1:¬F (w.heap.size+1):=fun hf=>by have:=C.lt h _ hf;omega
  have HAT:Hid (C.At F st w w0 F):=hZ ((bA.At.start h).below hbel);have hld:=fun op a next Q=>aB (P:=prog) hb underlying51 rfl aU op a next Q
  have HR:=hZ hr;have hRe:iN S (k+1) p i s st=M.bind (fH S p) (fun l=>M.bind (iN S k (l.getD (i/4 ^ k) pD) (i%4 ^ k) s) fun q=>lW S (l.set (i/4 ^ k) q) (k+1)) st:=rfl
  have hokl:C.Ok (fH S p st).2:=dE (fun l=>cX (yM C.bg C.bp k _ _ _) (fun q=>uP C.bp _ _)) (by rw[←hRe];exact hok)
  obtain⟨R,hRR⟩:∃R,iN S (k+1) p i s st=R:=⟨_,rfl⟩;rw[hRR] at hRe hok⊢;have HOK:=hZ hok;have HL:=hZ (uL HAT.o.1 p hp hokl);have hk0:((k:Int)+1 == 0)=false:=by simp;omega
  clear hb hbel hr hok hRR hokl;rcases hlm:fH S p st with⟨r|l,s2⟩
  ·rw[M.bind_err hlm] at hRe
   rw[hlm] at HL;have HRE:=hZ hRe;clear hRe hlm;go_in;go_upto_region 1 with fail
   rw[show(w.alloc (.cells (aA p).toArray 51)).alloc (.cells yE 51)=w0 from hw0.symm];clear hw0;go_wp2_with fail;refine HL.o.mono ?_;rintro e w2 ⟨⟨rfl,hr0⟩,hstep⟩;have hr1:((r:Int) != 0)=true:=by simpa using hr0
   obtain⟨F2,hat,hfr,hm⟩:=HAT.o.step hstep;have hsn:=iP nL rfl w2;have hbr:=(hm.blk HR.o h1).alloc (.cells (aF nL).toArray 246);have hst:=fun op a next Q=>qR hbr rfl op a next Q
   have HB2:=hZ (hbr.put (vs:=aA pD) rfl);have HA2:=hZ ((hat.below ((i4 _ _).alloc (d8 _) (.cells (aF nL).toArray 246))).put (o:=0) (vs:=aA pD) (bLv _) (hfr _ HR.o.lt h1) hbr);clear hat hfr hm hbr hstep hld;go_wp2_with fail;refine l9 (aL rfl _ _ (w.heap.size+1) 51 _ _ rfl HB2.o underlying51 rfl aU) rfl ?_;rw[HRE.o];exact⟨⟨rfl,hr0⟩,HA2.o.fin⟩
  ·rw[M.bind_ok hlm] at hRe
   rw[hlm] at HL;have hl4w:l.length=4∧∀q∈l,q.wf:=aQl hlm;obtain⟨hl4,hlw⟩:=hl4w;obtain⟨g,m,rr,hg,hm1,hr1,hg1,hg2,hm4,hrl⟩:∃g m r:Nat,g=4 ^ k∧m=i/4 ^ k∧r=i%4 ^ k∧1≤g∧g≤64∧m<4∧r<4 ^ k:=by
    have hlt:=hi;rw[Nat.pow_succ] at hlt;have hp2:4 ^ k≤4 ^ 3:=Nat.pow_le_pow_right (by omega) (by omega)
    have hp1:0<4 ^ k:=Nat.pow_pos (by omega)
    exact⟨4 ^ k,i/4 ^ k,i%4 ^ k,rfl,rfl,rfl,hp1,by omega,Nat.div_lt_of_lt_mul (by omega),bNd _ hp1⟩
   have hj64:i≤256:=by
    have hlt:=hi;rw[Nat.pow_succ] at hlt;omega
   have hml:m<l.length:=by rw[hl4];exact hm4
   obtain⟨x,hx⟩:=nZ (l[m]'hml);have hgd:l.getD m pD=x:=by rw[a8,b9 hml,hx];rfl
   rw[←hm1,←hr1,hgd] at hRe;have HRG:Hid (∀{W:World} {b e:Nat},Blk W b e (aF l)→W.rangeAt b (m*12) (aA x)):=hZ (fun h=>by rw[hx];exact aEc h hml)
   have hxw:x.wf:=by rw[hx];exact hlw _ (n5 hml)
   have hb12:m*12+12≤(aF l).length:=by rw[aQ,hl4];omega
   have HQ1:Hid (((i:Int)/(g:Int))=(m:Int)):=hZ (by rw[hm1,hg];simp)
   have HQ2:Hid (((i:Int)%(g:Int))=(rr:Int)):=hZ (by rw[hr1,hg];simp)
   have HBE:Hid (∀W,Calls prog 211 #[.int .i64 ((k:Int)+1)] W fun e w'=>e= .returned (g:Nat)∧w'=W):=hZ (fun W=>by
    have:=uZ (k+1) W (by omega)
    rw[show k+1-1=k from rfl,←hg,show(((k+1:Nat)):Int)=(k:Int)+1 by omega] at this
    exact this)
   have HML:=hZ hml;have HL4:=hZ hl4;have HRE:=hZ hRe;have hokS:C.Ok (iN S k x rr s s2).2:=dE (fun q=>uP C.bp _ _) (by rw[←hRe];exact HOK.o)
   obtain⟨rv,s3,hRS⟩:∃rv s3,iN S k x rr s s2=(rv,s3):=⟨_,_,rfl⟩;have HRS:=hZ hRS;have HOKS:=hZ hokS;clear hx hgd hRS;clear hm1 hr1 hg hRe hlm hl4 hokS;go_in;go_upto_region 1 with fail
   rw[show(w.alloc (.cells (aA p).toArray 51)).alloc (.cells yE 51)=w0 from hw0.symm];clear hw0;go_wp2_with fail;refine HL.o.mono ?_;rintro e w2 ⟨⟨rfl,hl4,_⟩,hstep⟩;obtain⟨F2,hat,hfr,hm⟩:=HAT.o.step hstep;have hsn:=iP l hl4 w2;obtain⟨w3,hw3⟩:=nZ (w2.alloc (.cells (aF l).toArray 246));have hb23:bB w2 w3:=by rw[hw3];exact bZ
   have HBL:Hid (Blk w3 w2.heap.size 246 (aF l)):=by rw[hw3];exact hZ (Blk.new w2 _ _)
   rw[←hw3] at hsn;have HBRR:=hZ ((hm.blk HR.o h1).below hb23);have HF1:=hZ (hfr _ HR.o.lt h1);have HFL:=hZ (hat.fresh (d8 _));have HATD:=hZ ((hat.below hb23).below (i4 _ _).drew);have HSZ2:Hid (w.heap.size+2≤w2.heap.size):=hZ (by have:=HR.o.lt;have:=hm.size;omega)
   have HSET:=hZ (ih HATD.o.1 x hxw rr s (by omega) hrl hsl HOKS.o)
   rw[HRS.o] at HSET;clear hat hfr hm hstep hld hw3 hb23 hl4;go_wp2_with fail;refine(HBE.o _).mono ?_;rintro e w5 ⟨rfl,rfl⟩;go_wp2_with fail;rw[HQ1.o,IntWalk.wrap64_in (m:Int) (by omega)]
   refine l7 (S:=fun _=>True) (by kernel_rfl) trivial (fun hS0=>?_)
   refine aE 0 ?_;refine aE 1 ?_;refine aE 2 ?_;refine aE 3 ?_ (hy:=by intro w hSw;(try dsimp only at hSw);go_simp;rw[i6 (by omega)])
   refine aE 5 ?_;refine aE 6 ?_ (hy:=by intro w hSw;(try dsimp only at hSw);go_simp;rw[bLo _ (by omega)])
   refine aE 7 ?_;refine aE 8 ?_;refine aE 11 ?_;refine vB [4,9] ?_;refine rc (fun K hK=>?_) (rc (fun K hK=>?_) rn)
   case' _=>
    rw[i6 (by kernel_rfl)]
    refine wp_load_mid 51 (.tmp 48) rfl w2.heap.size (m*12) rfl (aA x) _ (HRG.o HBL.o.drew) underlying51 rfl aU ?_;refine hK.o _ _ (trivial) (fun hSbp4=>?_)
    try simp only[Act.put,z1,z2,z3]
    refine dY (i:=9) (h:=fun K hK=>?_)
    go_simp;refine(HBE.o _).mono ?_;rintro e w5 ⟨rfl,rfl⟩
    try dsimp only
    refine hK.o _ _ (trivial) (fun hSbp9=>?_)
    try simp only[Act.put,z1,z2,z3]
    refine aE 10 ?_ (hy:=by intro w hSw;(try dsimp only at hSw);go_simp;rw[i9 (by omega),IntWalk.rem_in _ _ (by omega),HQ2.o])
   rotate_left
   case' _=>
    go_simp;refine(HBE.o _).mono ?_;rintro e w5 ⟨rfl,rfl⟩
    try dsimp only
    refine hK.o _ _ (trivial) (fun hSbq9=>?_)
    try simp only[Act.put,z1,z2,z3]
    refine aE 10 ?_ (hy:=by intro w hSw;(try dsimp only at hSw);go_simp;rw[i9 (by omega),IntWalk.rem_in _ _ (by omega),HQ2.o])
    refine dY (i:=4) (h:=fun K hK=>?_)
    rw[i6 (by kernel_rfl)]
    refine wp_load_mid 51 (.tmp 48) rfl w2.heap.size (m*12) rfl (aA x) _ (HRG.o HBL.o.drew) underlying51 rfl aU ?_;refine hK.o _ _ (trivial) (fun hSbq4=>?_)
    try simp only[Act.put,z1,z2,z3]
   all_goals
    refine dY (i:=12) (h:=fun K hK=>?_)
    go_simp;refine HSET.o.mono ?_;rintro e w6 ⟨hpr,hstep6⟩;have hpe:=sA.val hpr;obtain⟨q,hq⟩:∃q,aCx rv=q:=⟨_,rfl⟩;obtain⟨E,hE⟩:∃E,mE rv=E:=⟨_,rfl⟩;rw[hq,hE] at hpe;subst hpe;have HQV:=hZ hq;have HEE:=hZ hE;have HPR:=hZ (sA.two hpr);clear hq hE hpr;obtain⟨F3,hat6,hfr6,hm6⟩:=HATD.o.step hstep6;have hbl6:=hm6.blk HBL.o.drew HFL.o;have hbr6:=hm6.blk HBRR.o.drew HF1.o;have hfl6:=hfr6 _ HBL.o.lt HFL.o;have hf16:=hfr6 _ HBRR.o.lt HF1.o;clear hfr6 hstep6 hm6
    try dsimp only
    refine hK.o _ _ (trivial) (fun hSbp12=>?_)
    try simp only[Act.put,z1,z2,z3]
    refine aE 13 ?_;refine aE 14 ?_;refine aE 15 ?_;refine aE 16 ?_ (hy:=by intro w hSw;(try dsimp only at hSw);go_simp;rw[i6 (by omega)])
    refine dY (i:=17) (h:=fun K hK=>?_)
    rw[i6 (by kernel_rfl)]
    refine bMx 51 (.tmp 60) (.tmp 58) rfl w2.heap.size (m*12) (aA q).toArray rfl rfl (cW hbl6 hb12) aU (bLu (aX _)) ?_;refine hK.o _ _ (trivial) (fun hSbp17=>?_)
    try simp only[Act.put,z1,z2,z3]
    refine aE 18 ?_;refine r8 (by kernel_rfl) ?_ _
    have hset:Blk (w6.setCells w2.heap.size (m*12) (aA q)) w2.heap.size 246 (aF (l.set m q)):=by
     have:=hbl6.setCells (aA q) (m*12) hb12;rw[show m*12+(aA q).length=m*12+12 from rfl,tN _ m _ HML.o] at this;exact this
    have hbr7:=hbr6.away (m*12) (aA q) (by have:=HBRR.o.lt;have:=HSZ2.o;omega:w.heap.size+1≠w2.heap.size)
    have hat7:=hat6.put (o:=m*12) (vs:=aA q) (by have:=HSZ2.o;omega:w.heap.size≤w2.heap.size) hfl6 hbl6
    have hl4s:(l.set m q).length=4:=by rw[bLy,HL4.o]
    rcases HPR.o with⟨r,rfl,hr0⟩|⟨q',rfl,hqw⟩
    ·have hRe:=HRE.o
     rw[M.bind_err HRS.o] at hRe;obtain rfl:=HQV.o;obtain rfl:=HEE.o;have hr1:((r:Int) != 0)=true:=by simpa using hr0
     have HRE3:=hZ hRe;clear hRe HQV HEE;unfold aCx mE at*;have hst:=fun op a next Q=>qR hbr7 rfl op a next Q
     have HB2:=hZ (hbr7.put (vs:=aA pD) rfl);have HA2:=hZ (hat7.put (o:=0) (vs:=aA pD) (bLv _) hf16 hbr7);clear hset hbr7 hat7 hbl6 hl4s hat6 hbr6;go_wp2_with fail;refine l9 (aL rfl _ _ (w.heap.size+1) 51 _ _ rfl HB2.o underlying51 rfl aU) rfl ?_;rw[HRE3.o];exact⟨⟨rfl,hr0⟩,HA2.o.fin⟩
    ·have hRe:=HRE.o
     rw[M.bind_ok HRS.o] at hRe;obtain rfl:q'=q:=HQV.o;obtain rfl:E=0:=HEE.o.symm;have hwf:∀x∈l.set m q',x.wf:=fun x hx=>(List.mem_or_eq_of_mem_set hx).elim (hlw x) (fun e=>e▸hqw)
     have hokp:C.Ok (lW S (l.set m q') (k+1) s3).2:=by rw[←hRe];exact HOK.o
     have hl4q:(l.set m q').length=4:=hl4s;have hld:=fun op a next Q=>aB (P:=prog) (t:=246) hset underlying246 rfl (by rw[aQ];exact hl4q▸sL) op a next Q
     have HAT7:=hZ hat7;have HBR7:=hZ hbr7;have HPUT:=hZ (aPx hat7.1 (l.set m q') hl4q hwf (k+1) (by omega) hokp)
     have HRE3:=hZ hRe;clear hset hbr7 hat7 hbl6 hl4s hRe hat6 hbr6 hokp hl4q;go_wp2_with fail;refine HPUT.o.mono ?_;rintro e w8 ⟨hpr8,hstep8⟩;have hpe8:=sA.val hpr8;subst hpe8;obtain⟨F4,hat8,hfr8,hm8⟩:=HAT7.o.step hstep8;have hbr8:=hm8.blk HBR7.o hf16;have hst:=fun op a next Q=>aG (P:=prog) (t:=51) (o:=0) (cs:=aA (aCx (lW S (l.set m q') (k+1) s3).1)) hbr8 (d8 12) aU (aX _) op a next Q
     have HB2:=hZ (hbr8.put (vs:=aA (aCx (lW S (l.set m q') (k+1) s3).1)) rfl);have HA2:=hZ (hat8.put (o:=0) (vs:=aA (aCx (lW S (l.set m q') (k+1) s3).1)) (bLv _) (hfr8 _ HBR7.o.lt hf16) hbr8);have HPR8:=hZ hpr8;clear hpr8 hat8 hfr8 hm8 hbr8 hstep8;go_wp2_with fail;refine l9 (aL rfl _ _ (w.heap.size+1) 51 _ _ rfl HB2.o underlying51 rfl aU) rfl ?_;rw[HRE3.o];exact⟨HPR8.o,HA2.o.fin⟩
end
end
section
attribute [local go_sem ↓] bU bR gD iS xT eI dL
def NdR:Except Nat aM→Ending→Prop
 | .ok n,e=>e= .returned (.tuple #[.agg (aN n).toArray,.int .i64 0])∧n.wf
 | .error k,e=>e= .returned (.tuple #[.agg (aN nD).toArray,.int .i64 (k:Nat)])∧k≠0
def ndV:Except Nat aM→aM
 | .ok p=>p
 | .error _=>nD
theorem NdR.val {r:Except Nat aM} {e:Ending} (h:NdR r e):e= .returned (.tuple #[.agg (aN (ndV r)).toArray,(mE r:Nat)]):=by
 cases r with
 |ok p=>exact h.1
 |error n=>exact h.1
theorem NdR.two {r:Except Nat aM} {e:Ending} (h:NdR r e):(∃n,r= .error n∧n≠0)∨∃q,r= .ok q∧q.wf:=by
 cases r with
 |ok p=>exact .inr ⟨p,rfl,h.2⟩
 |error n=>exact .inl ⟨n,rfl,h.2⟩
section
variable {σ:Type} {S:StF σ} {ty:TypeId} {a:Addr} {C:bA S ty a}
structure bIz (C:bA S ty a) (F:Nat→Prop) (w wr:World) (k:Nat) (p:aC) (s1:σ) (R:Except Nat aC×σ) (F1:Nat→Prop):Prop where
 wf:p.wf
 eq:kL S k p s1=R
 at_:C.At F s1 w wr F1
 bp:Blk wr w.heap.size 51 (aA p)
 br:Blk wr (w.heap.size+1) 51 (aA pD)
 f0:¬F1 w.heap.size
 f1:¬F1 (w.heap.size+1)
theorem bHg {s:σ} (h:C.Is w s F) (p:aC) (bb:p.wf) (k u:Nat) (bj:k+u≤3) (ad:C.Ok (kL S k p s).2):
  Calls prog 185 #[.iface ty (.pointer (some a)),.agg (aA p).toArray,.int .i64 ((k+u:Nat):Int),(u:Nat)] w fun e w'=>sA (kL S k p s).1 e∧C.Step F (kL S k p s).2 w w':=by
 obtain⟨O,J⟩:=nZ ((w.alloc (.cells (aA p).toArray 51)).alloc (.cells (aA pD).toArray 51));have bc:Blk O w.heap.size 51 (aA p):=by rw[J];exact(Blk.new w _ _).alloc _
 have hr:Blk O (w.heap.size+1) 51 (aA pD):=by rw[J];exact Blk.newAt (w:=w.alloc _) _ _ (by simp)
 have ap:bB w O:=by rw[J];exact(bZ).alloc (by simp) _
 have h0:¬F w.heap.size:=fun aj=>by have:=C.lt h _ aj;omega
 have h1:¬F (w.heap.size+1):=fun aj=>by have:=C.lt h _ aj;omega
 obtain⟨R,ak⟩:∃R,kL S k p s=R:=⟨_,rfl⟩;have c:Hid (bIz C F w O k p s R F):=hZ ⟨bb,ak,(bA.At.start h).below ap,bc,hr,h0,h1⟩;rw[ak] at ad⊢;have be:=hZ ad;clear bc hr ap h0 h1 ad ak bb;go_in;go_upto_block 0 with fail
 rw[show(w.alloc (.cells (aA p).toArray 51)).alloc (.cells #[(0:Int),(0:Int),(0:Int),(0:Int),false,(0:Int),(0:Int),(0:Int),.int .u64 0,.int .u64 0,.int .u64 0,.int .u64 0] 51)=O from J.symm];clear J;go_wp21;go_loopw [2] (fun al wr=>∃(k:Nat) (p:aC) (am:σ) (F1:Nat→Prop),al= .int .i64 ((k+u:Nat):Int)∧k+u≤3∧Hid (bIz C F w wr k p am R F1)) (fun al _=>(intOf al).toNat)
 case atStart=>exact⟨k,p,s,F,by go_num,bj,c⟩
 case round=>
  clear c;obtain⟨k,p,am,F1,rfl,bl,c⟩:=hrel;have K:=c.o.wf;have ar:=aB c.o.bp underlying51 rfl aU
  cases k with
  |zero=>
   have ae:=aG (t:=51) (o:=0) (cs:=aA p) c.o.br (d8 12) aU (aX p);have L:=hZ (c.o.br.put (vs:=aA p) rfl);have N:=hZ (c.o.at_.put (o:=0) (vs:=aA p) (bLv _) c.o.f1 c.o.br);have d:=c.o.eq;have D:=hZ d;have bk:¬((u:Int)<((0+u:Nat):Int)):=by omega
   clear d;go_wp21;refine l9 (aL rfl _ _ (w.heap.size+1) 51 _ _ rfl L.o underlying51 rfl aU) rfl ?_;rw[←D.o];exact⟨⟨rfl,K⟩,N.o.fin⟩
  |succ k=>
   have bk:((u:Int)<((k+1+u:Nat):Int)):=by omega
   by_cases G:isNone p=true
   ·have d:=c.o.eq
    rw[kL,i6 G] at d;have D:=hZ d;have an:=hZ G;clear d G;go_wp21;refine(gL p K wr).mono ?_;rintro e w1 ⟨rfl,j⟩;rw[an.o];have A:=c.o.bp.below j;have f:=c.o.br.below j;have z:=c.o.at_.below j;have ab:=aB A underlying51 rfl aU;have ae:=aG (t:=51) (o:=0) (cs:=aA p) f (d8 12) aU (aX p);have L:=hZ (f.put (vs:=aA p) rfl);have N:=hZ (z.put (o:=0) (vs:=aA p) (bLv _) c.o.f1 f);clear A f z j ar;go_wp21;refine l9 (aL rfl _ _ (w.heap.size+1) 51 _ _ rfl L.o underlying51 rfl aU) rfl ?_;rw[←D.o];exact⟨⟨rfl,K⟩,N.o.fin⟩
   ·have au:isNone p=false:=by simpa using G
    have d:=c.o.eq;rw[kL,i9 G] at d;have aq:=dE (fun l=>yX C.bg k _) (by rw[d];exact be.o)
    have an:=hZ au;have bd:=hZ aq;have D:=hZ d;clear d G au aq;go_wp21;refine(gL p K wr).mono ?_;rintro e w1 ⟨rfl,j⟩;rw[an.o];have af:=hZ (c.o.bp.below j);have U:=hZ (c.o.br.below j);have ag:=hZ (c.o.at_.below j);have ab:=aB af.o underlying51 rfl aU;have Y:=hZ (uL ag.o.1 p K bd.o);clear j ar;rcases hlm:fH S p am with⟨r|l,s2⟩
    ·have d:=D.o
     rw[M.bind_err hlm] at d;rw[hlm] at Y;have ac:=hZ d;clear d hlm;go_wp21;refine Y.o.mono ?_;rintro e w2 ⟨⟨rfl,av⟩,I⟩;have bm:((r:Int) != 0)=true:=by simpa using av
     obtain⟨ao,z,E,H⟩:=ag.o.step I;have aw:=iP nL rfl w2;have f:=(H.blk U.o c.o.f1).alloc (.cells (aF nL).toArray 246);have ae:=qR f rfl;have L:=hZ (f.put (vs:=aA pD) rfl);have N:=hZ ((z.below ((i4 _ _).alloc (d8 _) (.cells (aF nL).toArray 246))).put (o:=0) (vs:=aA pD) (bLv _) (E _ U.o.lt c.o.f1) f);clear z E H f I ab;go_wp21;refine l9 (aL rfl _ _ (w.heap.size+1) 51 _ _ rfl L.o underlying51 rfl aU) rfl ?_;rw[←ac.o];exact⟨⟨rfl,av⟩,N.o.fin⟩
    ·have d:=D.o
     rw[M.bind_ok hlm] at d;rw[hlm] at Y;have ac:=hZ d;clear d hlm;go_wp21;refine Y.o.mono ?_;rintro e w2 ⟨⟨rfl,ax,bf⟩,I⟩;obtain⟨ao,z,E,H⟩:=ag.o.step I;have aw:=iP l ax w2;obtain⟨Z,W⟩:=nZ (w2.alloc (.cells (aF l).toArray 246));have T:bB w2 Z:=by rw[W];exact bZ
     have ay:Blk Z w2.heap.size 246 (aF l):=by rw[W];exact Blk.new w2 _ _
     rw[←W] at aw;have ah:0<l.length:=by omega
     obtain⟨q,aa⟩:=nZ (l[0]);have bh:q.wf:=by rw[aa];exact bf _ (n5 ah)
     have az:l.getD 0 pD=q:=by rw[a8,b9 ah,aa];rfl
     have bn:=dP (t:=51) (by rw[aa];have:=aEc ay ah;rwa [Nat.zero_mul] at this:Z.rangeAt w2.heap.size 0 (aA q)) underlying51 rfl aU
     have A:=(H.blk af.o c.o.f0).below T;have f:=(H.blk U.o c.o.f1).below T;have ae:=aG (t:=51) (o:=0) (cs:=aA q) A (d8 12) aU (aX q);have ai:=E _ af.o.lt c.o.f0;have ba:=E _ U.o.lt c.o.f1;have d:=ac.o;rw[az] at d;have bi:Hid (bIz C F w (Z.setCells w.heap.size 0 (aA q)) k q s2 R ao):=hZ ⟨bh,d,(z.below T).put (d8 _) ai A,A.put rfl,f.away 0 _ (by omega),ai,ba⟩
     clear z E H I ab W T ay aa az A f d ax ai ba;go_wp21;go_roundw
     case rel=>exact⟨k,q,s2,ao,by go_num,by omega,bi⟩
     case measure=>simp[intOf];omega
structure bJj (C:bA S ty a) (F:Nat→Prop) (w wr:World) (n:aM) (k lv:Nat) (p:aC) (s1:σ) (R:Except Nat aC×σ) (F1:Nat→Prop):Prop where
 wf:p.wf
 eq:jZ S k lv p s1=R
 at_:C.At F s1 w wr F1
 bn:Blk wr w.heap.size 53 (aN n)
 br:Blk wr (w.heap.size+1) 53 (aN nD)
 bp:Blk wr (w.heap.size+2) 51 (aA p)
 f0:¬F1 w.heap.size
 f1:¬F1 (w.heap.size+1)
 f2:¬F1 (w.heap.size+2)
def BdW (P:Program) (o:Oper) (t:TypeId) (parts:Array (Nat×Value)) (a:Act) (w:World) (next:Act→World→Prop) (Q:Exit→Act→World→Prop):Prop:=
 o.upon P a next Q ((do let r ←Instr.build t parts;pure (Next.value r):Sem Next).run P w)
theorem rG {x:Operand} {ty:TypeId} {pos:String} {a:Act}:
  Oper.wp prog ⟨dst,.build 53 #[(0,x),(1,y)],ty,pos,after,guard⟩ a w next Q=BdW prog ⟨dst,.build 53 #[(0,x),(1,y)],ty,pos,after,guard⟩ 53 #[(0,a.eval x),(1,a.eval y)] a w next Q:=by
 unfold Oper.wp BdW execOp;simp
theorem bBe {x:Operand} {ty:TypeId} {pos:String} {a:Act}:
  Oper.wp prog ⟨dst,.build 246 #[(0,x)],ty,pos,after,guard⟩ a w next Q=BdW prog ⟨dst,.build 246 #[(0,x)],ty,pos,after,guard⟩ 246 #[(0,a.eval x)] a w next Q:=by
 unfold Oper.wp BdW execOp;simp
theorem aRb (size:Int) (p:aC) (o:Oper) (a:Act) (w:World) (next:Act→World→Prop) (Q:Exit→Act→World→Prop):
  BdW prog o 53 #[(0,size),(1,.agg (aA p).toArray)] a w next Q=next (a.put o.dst (.agg (aN ⟨size,p⟩).toArray)) w:=by
 unfold BdW;obtain⟨f,j,q,u,z,A,D,E,G,H,c,d⟩:=p;have h:(do let r ←Instr.build 53 #[(0,size),(1,.agg #[f,j,q,u,z,A,D,E,.int .u64 G,.int .u64 H,.int .u64 c,.int .u64 d])];pure (Next.value r):Sem Next).run prog w= .ok (.value (.agg #[size,f,j,q,u,z,A,D,E,.int .u64 G,.int .u64 H,.int .u64 c,.int .u64 d])) w:=by
  go_simp
 exact o7 (o.upon prog a next Q) h
theorem bId (p:aC) (o:Oper) (a:Act) (w:World) (next:Act→World→Prop) (Q:Exit→Act→World→Prop):
  BdW prog o 246 #[(0,.agg (aA p).toArray)] a w next Q=next (a.put o.dst (.agg (aF [p,pD,pD,pD]).toArray)) w:=by
 unfold BdW;obtain⟨f,j,q,u,z,A,D,E,G,H,c,d⟩:=p;have h:(do let r ←Instr.build 246 #[(0,.agg #[f,j,q,u,.bool z,A,D,E,.int .u64 G,.int .u64 H,.int .u64 c,.int .u64 d])];pure (Next.value r):Sem Next).run prog w= .ok (.value (.agg #[.int .i64 f,.int .i64 j,.int .i64 q,.int .i64 u,.bool z,.int .i64 A,.int .i64 D,.int .i64 E,.int .u64 G,.int .u64 H,.int .u64 c,.int .u64 d,.int .i64 0,.int .i64 0,.int .i64 0,.int .i64 0,.bool false,.int .i64 0,.int .i64 0,.int .i64 0,.int .u64 0,.int .u64 0,.int .u64 0,.int .u64 0,.int .i64 0,.int .i64 0,.int .i64 0,.int .i64 0,.bool false,.int .i64 0,.int .i64 0,.int .i64 0,.int .u64 0,.int .u64 0,.int .u64 0,.int .u64 0,.int .i64 0,.int .i64 0,.int .i64 0,.int .i64 0,.bool false,.int .i64 0,.int .i64 0,.int .i64 0,.int .u64 0,.int .u64 0,.int .u64 0,.int .u64 0])) w:=by
  go_simp
 exact o7 (o.upon prog a next Q) h
attribute [local go_sem ↓] rG bBe
theorem aZi {s:σ} (h:C.Is w s F) (n:aM) (hn:n.wf) (size:Int) (hs:eY size) (hok:C.Ok (kI S n size s).2):
  Calls prog 78 #[.iface ty (.pointer (some a)),.agg (aN n).toArray,size] w fun e w'=>NdR (kI S n size s).1 e∧C.Step F (kI S n size s).2 w w':=by
 obtain⟨w0,hw0⟩:=nZ (((w.alloc (.cells (aN n).toArray 53)).alloc (.cells (aN nD).toArray 53)).alloc (.cells (aA n.root).toArray 51));obtain⟨wp,hwp⟩:=nZ ((w.alloc (.cells (aN n).toArray 53)).alloc (.cells (aN nD).toArray 53));have hpb:Blk wp w.heap.size 53 (aN n):=by rw[hwp];exact(Blk.new w _ _).alloc _
 have hps:wp.heap.size=w.heap.size+2:=by rw[hwp];simp
 have hld0:=fun op a next Q=>eO (P:=prog) (t:=51) (o:=1) (cs:=aA n.root) hpb rfl underlying51 rfl aU op a next Q
 have hsn0:=eX n.root wp;rw[show wp.alloc (.cells (aA n.root).toArray 51)=w0 by rw[hw0,hwp]] at hsn0
 rw[hps] at hsn0;have hb:Blk w0 w.heap.size 53 (aN n):=by rw[hw0];exact((Blk.new w _ _).alloc _).alloc _
 have hr:Blk w0 (w.heap.size+1) 53 (aN nD):=by rw[hw0];exact(Blk.newAt (w:=w.alloc _) _ _ (by simp)).alloc _
 have hq:Blk w0 (w.heap.size+2) 51 (aA n.root):=by rw[hw0];exact Blk.newAt (w:=(w.alloc _).alloc _) _ _ (by simp)
 have hbel:bB w w0:=by rw[hw0];exact((bZ).alloc (by simp) _).alloc (by simp;omega) _
 have hcs:cZ w0 w.heap.size 0 n.size:=hb.cell 0;have h0:¬F w.heap.size:=fun hf=>by have:=C.lt h _ hf;omega
 have h1:¬F (w.heap.size+1):=fun hf=>by have:=C.lt h _ hf;omega
 have h2:¬F (w.heap.size+2):=fun hf=>by have:=C.lt h _ hf;omega
 have hge:kI S n size s=M.bind (jZ S (gC size-gC n.size) (gC n.size) n.root) (fun r=>M.ret ⟨max n.size size,r⟩) s:=rfl
 obtain⟨R,hR⟩:∃R,jZ S (gC size-gC n.size) (gC n.size) n.root s=R:=⟨_,rfl⟩;have hokR:C.Ok R.2:=by rw[←hR];exact dE (fun r=>cO _) (by rw[←hge];exact hok)
 have HI:Hid (bJj C F w w0 n (gC size-gC n.size) (gC n.size) n.root s R F):=hZ ⟨hn.root,hR,(bA.At.start h).below hbel,hb,hr,hq,h0,h1,h2⟩;have HGE:Hid (∀r s2,R=(r,s2)→kI S n size s=(match r with| .ok q=> .ok ⟨max n.size size,q⟩| .error e=> .error e,s2)):=hZ (fun r s2 hr=>by
  rw[hge]
  cases r with
  |ok q=>exact M.bind_ok (hR.trans hr)
  |error e=>exact M.bind_err (hR.trans hr))
 obtain⟨RR,hRR⟩:∃RR,kI S n size s=RR:=⟨_,rfl⟩;rw[hRR] at HGE⊢;have HOK:=hZ hokR;have hL1:=hZ fun W=>oB n.size W hn.size
 have hL2:=hZ fun W=>oB size W hs
 have hl3:=aMc n.size;have hl4:=aMc size;have hnsz:=hn.size;unfold eY at hs hnsz;obtain⟨hs1,hs2⟩:=hs;obtain⟨hn1,hn2⟩:=hnsz;obtain⟨la,hla⟩:∃la,gC n.size=la:=⟨_,rfl⟩;obtain⟨lb,hlb⟩:∃lb,gC size=lb:=⟨_,rfl⟩;rw[hla,hlb] at HI;rw[hla] at hL1 hl3;rw[hlb] at hL2 hl4;clear hpb hb hr hq hbel h0 h1 h2 hge hR hokR hok hRR hn hla hlb;go_in;go_upto_region 1 with fail
 rw[show(w.alloc (.cells (aN n).toArray 53)).alloc (.cells yD 53)=wp from hwp.symm];clear hwp hw0;go_wp2_with fail;refine(hL1.o _).mono ?_;rintro e w1 ⟨rfl,rfl⟩;go_wp2_with fail;go_loopw [9] (fun lv wr=>∃(k l1:Nat) (p:aC) (s1:σ) (F1:Nat→Prop),lv= .int .i64 (l1:Nat)∧l1≤3∧k=lb-l1∧Hid (bJj C F w wr n k l1 p s1 R F1)) (fun lv _=>4-(intOf lv).toNat)
 case atStart=>exact⟨_,la,n.root,s,F,rfl,hl3,rfl,HI⟩
 case round=>
  clear HI hcs hld0 hsn0;obtain⟨k,l1,p,s1,F1,rfl,hl1,hk,HI⟩:=hrel;have hpw:=HI.o.wf;have hld:=fun op a next Q=>aB (P:=prog) HI.o.bp underlying51 rfl aU op a next Q
  have hcs:cZ wr w.heap.size 0 n.size:=HI.o.bn.cell 0;go_wp2_with fail;refine(hL2.o _).mono ?_;rintro e w1 ⟨rfl,rfl⟩
  cases k with
  |zero=>
   have hx:¬((l1:Int)<(lb:Int)):=by omega
   have hRe:=HI.o.eq;have HRE:Hid ((Except.ok (aM.mk (max n.size size) p),s1)=RR):=hZ (HGE.o (.ok p) s1 hRe.symm).symm;clear HGE;have HA2:=hZ (HI.o.at_.put (o:=0) (vs:=aN ⟨max n.size size,p⟩) (bLv _) HI.o.f1 HI.o.br);have hbn:=fun o a w next Q=>aRb (max n.size size) p o a w next Q
   have hst:=fun op a next Q=>aG (P:=prog) (t:=53) (o:=0) (cs:=aN ⟨max n.size size,p⟩) HI.o.br (d8 13) cQ (eP _) op a next Q
   clear hRe hk;go_wp2_with fail;refine l9 (aL rfl _ _ (w.heap.size+1) 53 _ _ rfl (HI.o.br.put (vs:=aN ⟨max n.size size,p⟩) rfl) underlying53 rfl cQ) rfl ?_;rw[←HRE.o];exact⟨⟨rfl,⟨(by show-9223372036854775808≤max n.size size∧max n.size size≤9223372036854775807;omega),hpw⟩⟩,HA2.o.fin⟩
  |succ k=>
   have hx:((l1:Int)<(lb:Int)):=by omega
   by_cases hn:isNone p=true
   ·have hRe:=HI.o.eq
    rw[jZ,i6 hn] at hRe;have HRE:Hid ((Except.ok (aM.mk (max n.size size) p),s1)=RR):=hZ (HGE.o (.ok p) s1 hRe.symm).symm;have HN:=hZ hn;clear hRe hn HGE hk;go_wp2_with fail;refine(gL p hpw w1).mono ?_;rintro e w2 ⟨rfl,hb2⟩;rw[HN.o];have hcs2:cZ w2 w.heap.size 0 n.size:=(HI.o.bn.below hb2).cell 0;have hld2:=fun op a next Q=>aB (P:=prog) (HI.o.bp.below hb2) underlying51 rfl aU op a next Q
    have hbn:=fun o a w next Q=>aRb (max n.size size) p o a w next Q
    have hst:=fun op a next Q=>aG (P:=prog) (t:=53) (o:=0) (cs:=aN ⟨max n.size size,p⟩) (HI.o.br.below hb2) (d8 13) cQ (eP _) op a next Q
    have HA2:=hZ ((HI.o.at_.below hb2).put (o:=0) (vs:=aN ⟨max n.size size,p⟩) (bLv _) HI.o.f1 (HI.o.br.below hb2));have HB2:=hZ hb2;clear hb2 hld hcs;go_wp2_with fail;refine l9 (aL rfl _ _ (w.heap.size+1) 53 _ _ rfl ((HI.o.br.below HB2.o).put (vs:=aN ⟨max n.size size,p⟩) rfl) underlying53 rfl cQ) rfl ?_;rw[←HRE.o];exact⟨⟨rfl,⟨(by show-9223372036854775808≤max n.size size∧max n.size size≤9223372036854775807;omega),hpw⟩⟩,HA2.o.fin⟩
   ·have hn':isNone p=false:=by simpa using hn
    have hRe:=HI.o.eq;rw[jZ,i9 hn] at hRe;have hokl:C.Ok (lW S [p,pD,pD,pD] (l1+1) s1).2:=dE (fun l=>rS C.bp k _ _) (by rw[hRe];exact HOK.o)
    have HN:=hZ hn';have HOKL:=hZ hokl;have HRE:=hZ hRe;clear hRe hn hn' hokl;go_wp2_with fail;refine(gL p hpw w1).mono ?_;rintro e w2 ⟨rfl,hb2⟩;rw[HN.o];have HBP:=hZ (HI.o.bp.below hb2);have HBN:=hZ (HI.o.bn.below hb2);have HBR:=hZ (HI.o.br.below hb2);have HAT:=hZ (HI.o.at_.below hb2);have hld1:=fun op a next Q=>aB (P:=prog) HBP.o underlying51 rfl aU op a next Q
    have hbn:=fun o a w next Q=>bId p o a w next Q
    have HPT:Hid (Calls prog 145 #[.iface ty (.pointer (some a)),.agg (aF [p,pD,pD,pD]).toArray,.int .i64 ((l1:Int)+1)] w2 fun e w'=>sA (lW S [p,pD,pD,pD] (l1+1) s1).1 e∧C.Step F1 (lW S [p,pD,pD,pD] (l1+1) s1).2 w2 w'):=hZ (aPx HAT.o.1 [p,pD,pD,pD] rfl (by
     intro x hx;simp only[s8,bLp,bNo] at hx;rcases hx with rfl|rfl|rfl|rfl<;>first|exact hpw|exact aOn) (l1+1) (by omega) HOKL.o)
    clear hb2 hld hcs;rcases hpm:lW S [p,pD,pD,pD] (l1+1) s1 with⟨r|q,s2⟩
    ·have hRe:=HRE.o
     rw[M.bind_err hpm] at hRe;rw[hpm] at HPT;have HRE2:Hid ((Except.error r,s2)=RR):=hZ (HGE.o (.error r) s2 hRe.symm).symm;clear hRe hpm HGE hk;go_wp2_with fail;refine HPT.o.mono ?_;rintro e w3 ⟨⟨rfl,hr0⟩,hstep⟩;have hr1:((r:Int) != 0)=true:=by simpa using hr0
     obtain⟨F2,hat,hfr,hm⟩:=HAT.o.step hstep;have hsn:=eX pD w3;have hbr:=(hm.blk HBR.o HI.o.f1).alloc (.cells (aA pD).toArray 51);have hst:=fun op a next Q=>mZ hbr rfl op a next Q
     have HB3:=hZ hbr;have HA2:=hZ ((hat.below ((i4 _ _).alloc (d8 _) (.cells (aA pD).toArray 51))).put (o:=0) (vs:=aN nD) (bLv _) (hfr _ HBR.o.lt HI.o.f1) hbr);clear hat hfr hm hbr hstep hld1;go_wp2_with fail;refine l9 (aL rfl _ _ (w.heap.size+1) 53 _ _ rfl (HB3.o.put (vs:=aN nD) rfl) underlying53 rfl cQ) rfl ?_;rw[←HRE2.o];exact⟨⟨rfl,hr0⟩,HA2.o.fin⟩
    ·have hRe:=HRE.o
     rw[M.bind_ok hpm] at hRe;rw[hpm] at HPT;have HRE2:=hZ hRe;clear hRe hpm;go_wp2_with fail;refine HPT.o.mono ?_;rintro e w3 ⟨⟨rfl,hqw⟩,hstep⟩;obtain⟨F2,hat,hfr,hm⟩:=HAT.o.step hstep;have hsn:=eX q w3;have hbq:=Blk.new w3 51 (aA q);have hb34:bB w3 (w3.alloc (.cells (aA q).toArray 51)):=bZ;have hlq:=fun op a next Q=>aB (P:=prog) hbq underlying51 rfl aU op a next Q
     have hbp:=(hm.blk HBP.o HI.o.f2).below hb34;have hst:=fun op a next Q=>aG (P:=prog) (t:=51) (o:=0) (cs:=aA q) hbp (d8 12) aU (aX q) op a next Q
     have hf0:=hfr _ HBN.o.lt HI.o.f0;have hf1:=hfr _ HBR.o.lt HI.o.f1;have hf2:=hfr _ HBP.o.lt HI.o.f2;have HI3:Hid (bJj C F w ((w3.alloc (.cells (aA q).toArray 51)).setCells (w.heap.size+2) 0 (aA q)) n k (l1+1) q s2 R F2):=hZ ⟨hqw,HRE2.o,(hat.below hb34).put (by omega) hf2 hbp,((hm.blk HBN.o HI.o.f0).below hb34).away 0 _ (by omega),((hm.blk HBR.o HI.o.f1).below hb34).away 0 _ (by omega),hbp.put rfl,hf0,hf1,hf2⟩
     clear hat hfr hm hstep hld1 hb34 hbq hbp hf0 hf1 hf2;go_wp2_with fail;go_roundw
     case rel=>exact⟨k,l1+1,q,s2,F2,by go_num,by omega,by omega,HI3⟩
     case measure=>simp[intOf];omega
end
end

end Go.Proofs.YtepmcdopccflgaaGreatDoor

