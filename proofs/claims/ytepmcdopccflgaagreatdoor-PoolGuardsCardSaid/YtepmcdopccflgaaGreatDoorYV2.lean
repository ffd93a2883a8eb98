/- Parts of the proof of the statement that the last file of this claim proves:lemmas,without any condition of their own beyond those that each states. -/
import Derived.Test.YtepmcdopccflgaaGreatDoorYV1
import Derived.Test.YtepmcdopccflgaaGreatDoorProg
import Derived.Deep.QuietTactic
import Derived.BigQuiet
import Derived.Lib.SliceRun
import Derived.Lib.AppendZerosOnto
import Derived.Deep.RegionHeld3
import Derived.Deep.DeepCutAuto
import Derived.Deep.DrawnRows
import Derived.Deep.Slices
import Derived.Deep.Fields
import Derived.ChangeSame
import Derived.Lib.SmallJoins
import Derived.Deep.CutBlock
import Derived.Deep.AppendLies
import Derived.Deep.RegionLaw
import Derived.Deep.SlicePairs
set_option linter.unusedVariables false
set_option linter.unusedSimpArgs false
set_option linter.unnecessarySimpa false
set_option maxHeartbeats 4000000
set_option maxRecDepth 100000
namespace Go.Proofs.YtepmcdopccflgaaGreatDoor
open Go.RowKit Go.Proofs.Tryz
variable {last secs:Int} {w w':World} {args:Array Value} {cs old xs xs2:List Value} {b0 base base2 bb cb ce e e2 eb ec g i j k k2 mb mb' n n2 sz top:Nat} {gv mv u v v2:Value} {es esc:List Nat} {f:Nat→Nat} {gs:Gs} {rs:List (Nat×Nat)} {fn:Func} {F:Nat→Prop} {P:Program}
def bE (rs:List (Nat×Nat)) (a:Nat):Nat:=rs.findIdx fun r=>decide (a<r.1+r.2)
def iV (out:List (Nat×Nat)) (r:Nat×Nat):List (Nat×Nat):=
 match out.getLast? with
 |some q=>if q.1+q.2=r.1 then out.dropLast++[(q.1,q.2+r.2)] else out++[r]
 |none=>[r]
def fA (rs:List (Nat×Nat)):List (Nat×Nat):=rs.foldl iV []
theorem oG (rs:List (Nat×Nat)) (k:Nat) (h:k<rs.length):fA (rs.take (k+1))=iV (fA (rs.take k)) (rs.getD k (0,0)):=by
 unfold fA;rw[m8 h,List.foldl_append,a8,b9 h];rfl
theorem iT (r:Nat×Nat):iV [] r=[r]:=rfl
theorem jR (out:List (Nat×Nat)) (q r:Nat×Nat) (h:q.1+q.2=r.1):iV (out++[q]) r=out++[(q.1,q.2+r.2)]:=by
 simp[iV,h]
theorem jO (out:List (Nat×Nat)) (q r:Nat×Nat) (h:q.1+q.2≠r.1):iV (out++[q]) r=out++[q]++[r]:=by
 simp[iV,h]
def Row (top:Nat) (rs:List (Nat×Nat)):Prop:=(∀r∈rs,1≤r.2∧r.1+r.2≤top)∧rs.Pairwise fun x y=>x.1+x.2≤y.1
def bDq (rs:List (Nat×Nat)):Prop:=rs.Pairwise fun x y=>x.1+x.2<y.1
def lH (size:Nat) (rs:List (Nat×Nat)):Prop:=(∀r∈rs,1≤r.2∧r.1+r.2≤size)∧bDq rs
theorem lH.row {size:Nat} (h:lH size rs):Row size rs:=⟨h.1,h.2.imp Nat.le_of_lt⟩
theorem aLe {out:List (Nat×Nat)} {r:Nat×Nat} (h:lH top out) (hr:1≤r.2∧r.1+r.2≤top) (c:∀q∈out,q.1+q.2≤r.1):lH top (iV out r)∧∀q∈iV out r,q.1+q.2≤r.1+r.2:=by
 rcases List.eq_nil_or_concat out with rfl|⟨o,q,rfl⟩
 ·refine⟨⟨?_,?_⟩,?_⟩
  ·intro x a;simp[iT] at a;subst a;exact hr
  ·simp[iT,bDq]
  ·intro x a;simp[iT] at a;subst a;exact d8 _
 ·rw[List.concat_eq_append] at*
  have m:=h.1 q (by simp)
  have l:=c q (by simp)
  have b:=bNs.1 h.2;by_cases ht:q.1+q.2=r.1
  ·rw[jR _ _ _ ht]
   refine⟨⟨?_,?_⟩,?_⟩
   ·intro x a
    rcases bMu.1 a with a|a
    ·exact h.1 x (by simp[a])
    ·rw[y9.1 a];dsimp only;omega
   ·refine bNs.2 ⟨b.1,List.pairwise_singleton _ _,fun x a d hy=>?_⟩
    rw[y9.1 hy];exact b.2.2 x a q (by simp)
   ·intro x a
    rcases bMu.1 a with a|a
    ·have:=c x (by simp[a]);omega
    ·rw[y9.1 a];dsimp only;omega
  ·rw[jO _ _ _ ht]
   refine⟨⟨?_,?_⟩,?_⟩
   ·intro x a
    rcases bMu.1 a with a|a
    ·exact h.1 x a
    ·rw[y9.1 a];exact hr
   ·refine bNs.2 ⟨h.2,List.pairwise_singleton _ _,fun x a d hy=>?_⟩
    rw[y9.1 hy];rcases bMu.1 a with a|a
    ·have:=b.2.2 x a q (by simp);omega
    ·rw[y9.1 a];omega
   ·intro x a
    rcases bMu.1 a with a|a
    ·have:=c x a;omega
    ·rw[y9.1 a];exact d8 _
theorem aDu (h:Row top rs):∀k,k≤rs.length→lH top (fA (rs.take k))∧∀q∈fA (rs.take k),∀j,k≤j→j<rs.length→q.1+q.2≤(rs.getD j (0,0)).1:=by
 intro k
 induction k with
 |zero=>intro _;exact⟨⟨by simp[fA],by simp[fA,bDq]⟩,by simp[fA]⟩
 |succ k l=>
  intro p;obtain⟨h1,h2⟩:=l (by omega)
  have a:k<rs.length:=by omega
  have e:rs.getD k (0,0)=rs[k]:=by rw[a8,b9 a];rfl
  have d:=aLe h1 (h.1 rs[k] (n5 _)) (fun q b=>by have:=h2 q b k (d8 _) a;rwa [e] at this)
  rw[oG _ _ a,e];refine⟨d.1,fun q b j r c=>?_⟩
  have:=d.2 q b;have s:=bOe.1 h.2 k j a c (by omega)
  have m:rs.getD j (0,0)=rs[j]:=by rw[a8,b9 c];rfl
  rw[m];omega
theorem aKj (out:List (Nat×Nat)) (r:Nat×Nat):(iV out r).length≤out.length+1:=by
 rcases List.eq_nil_or_concat out with rfl|⟨o,q,rfl⟩
 ·simp[iT]
 ·rw[List.concat_eq_append]
  by_cases h:q.1+q.2=r.1
  ·rw[jR _ _ _ h];simp
  ·rw[jO _ _ _ h];simp
theorem aZv (rs:List (Nat×Nat)):∀k,k≤rs.length→(fA (rs.take k)).length≤k:=by
 intro k
 induction k with
 |zero=>intro _;simp[fA]
 |succ k a=>
  intro b;rw[oG _ _ (by omega)]
  have:=aKj (fA (rs.take k)) (rs.getD k (0,0));have:=a (by omega)
  omega
theorem wO (rs:List (Nat×Nat)) (a:Nat):bE rs a≤rs.length:=List.findIdx_le_length
theorem oO {a:Nat} (h:j<bE rs a) (b:j<rs.length):rs[j].1+rs[j].2≤a:=by
 have:=List.not_of_lt_findIdx (p:=fun r:Nat×Nat=>decide (a<r.1+r.2)) (xs:=rs) h
 simpa using this
theorem zR {x:Nat×Nat} (h:x∈rs.take i):∃j,∃(a:j<rs.length),j<i∧x=rs[j]:=by
 obtain⟨j,a,rfl⟩:=bOb.1 h;simp only[z7] at a;exact⟨j,by omega,by omega,by simp⟩
theorem xX {x:Nat×Nat} (h:x∈rs.drop i):∃j,∃(a:j<rs.length),i≤j∧x=rs[j]:=by
 obtain⟨j,a,rfl⟩:=bOb.1 h;simp only[bMe] at a;exact⟨i+j,by omega,by omega,by simp⟩
theorem lH.le {size:Nat} (h:lH size rs) (a:i<j) (b:j<rs.length):rs[i].1+rs[i].2<rs[j].1:=
 bOe.1 h.2 i j (by omega) b a
theorem aFc {size a:Nat} (h:lH size rs) (y:1≤n) (q:a+n≤size) (l:bE rs a<rs.length→a+n≤(rs.getD (bE rs a) (0,0)).1):
  Row size (rs.take (bE rs a)++(a,n)::rs.drop (bE rs a)):=by
 obtain⟨i,m⟩:=nZ (bE rs a);have z:∀j (b:j<rs.length),j<i→rs[j].1+rs[j].2≤a:=fun j b c=>oO (by rw[←m];exact c) b
 rw[←m] at l⊢;have p:∀j (b:j<rs.length),i≤j→a+n≤rs[j].1:=by
  intro j b d;have h0:=l (by omega)
  rw[a8,b9 (by omega)] at h0
  simp only[Option.getD_some] at h0;rcases Nat.lt_or_ge i j with s|E
  ·have:=h.le s b
   omega
  ·have:i=j:=by omega
   subst this;exact h0
 refine⟨fun r hr=>?_,?_⟩
 ·rcases bMu.1 hr with hr|hr
  ·exact h.1 r (List.mem_of_mem_take hr)
  ·rcases s8.1 hr with rfl|hr
   ·exact⟨y,q⟩
   ·exact h.1 r (List.mem_of_mem_drop hr)
 ·refine bNs.2 ⟨(h.row.2).sublist (List.take_sublist _ _),List.pairwise_cons.2 ⟨fun D hy=>?_,(h.row.2).sublist (List.drop_sublist _ _)⟩,fun x A D hy=>?_⟩
  ·obtain⟨j,b,d,rfl⟩:=xX hy
   exact p j b d
  ·obtain⟨j,b,c,rfl⟩:=zR A
   have h1:=z j b c;rcases s8.1 hy with rfl|hy
   ·exact h1
   ·obtain⟨k,C,t,rfl⟩:=xX hy
    have:=p k C t;omega
theorem bDj {size:Nat} (h:lH size rs):rs.length≤size:=by
 have b:∀(k:Nat) (a:k<rs.length),k<rs[k].1+rs[k].2:=by
  intro k
  induction k with
  |zero=>intro a;have:=(h.1 rs[0] (n5 _)).1;omega
  |succ k c=>
   intro a;have h1:=c (by omega)
   have h2:=h.le (show k<k+1 by omega) a
   omega
 rcases Nat.eq_zero_or_pos rs.length with h0|h0
 ·omega
 ·have h1:=b (rs.length-1) (by omega)
  have h2:=(h.1 rs[rs.length-1] (n5 _)).2;omega
def May (size:Nat) (a n:Int):Prop:=1≤n∧0≤a∧a≤size-1∧n≤size-a
instance (size:Nat) (a n:Int):Decidable (May size a n):=by unfold May;exact inferInstance
def cJ (size:Nat) (rs:List (Nat×Nat)) (a n:Int):Int×List (Nat×Nat):=
 if May size a n then
  if bE rs a.toNat<rs.length∧(rs.getD (bE rs a.toNat) (0,0)).1<a.toNat+n.toNat then(13,rs)
  else(0,fA (rs.take (bE rs a.toNat)++(a.toNat,n.toNat)::rs.drop (bE rs a.toNat)))
 else(1,rs)
theorem aVo (h:Row top rs):lH top (fA rs):=by
 have:=(aDu h rs.length (d8 _)).1
 rwa [bLz] at this
theorem xF {size:Nat} (h:lH size rs) (a n:Int):lH size (cJ size rs a n).2:=by
 unfold cJ;split
 ·rename_i d
  obtain⟨h1,h2,l,m⟩:=d;split
  ·exact h
  ·rename_i b
   exact aVo (aFc h (by omega) (by omega) (by intro c;simp only[not_and,Nat.not_lt] at b;exact b c))
 ·exact h
def fR (rs:List (Nat×Nat)):Nat:=(rs.map (·.2)).sum
theorem jI (a b:List (Nat×Nat)):fR (a++b)=fR a+fR b:=by
 unfold fR;rw[bNa,List.sum_append]
theorem aZe (x:Nat×Nat) (b:List (Nat×Nat)):fR (x::b)=x.2+fR b:=by
 unfold fR;rw[List.map_cons,List.sum_cons]
theorem uM (rs:List (Nat×Nat)) (k:Nat) (h:k<rs.length):fR (rs.take (k+1))=fR (rs.take k)+(rs.getD k (0,0)).2:=by
 rw[m8 h,jI,a8,b9 h];simp[fR]
theorem aKn (rs:List (Nat×Nat)) (k:Nat):fR (rs.take k)≤fR rs:=by
 conv=>rhs;rw[←bOg k rs]
 rw[jI];exact Nat.le_add_right _ _
theorem aPc {size:Nat} (h:lH size rs):fR rs≤size:=by
 have b:∀k (a:k<rs.length),fR (rs.take (k+1))≤rs[k].1+rs[k].2:=by
  intro k
  induction k with
  |zero=>
   intro a;rw[uM _ _ a,a8,b9 a];simp[fR]
  |succ k c=>
   intro a;have h1:=c (by omega)
   have h2:=h.le (show k<k+1 by omega) a
   rw[uM _ _ a,a8,b9 a];simp only[Option.getD_some];omega
 rcases Nat.eq_zero_or_pos rs.length with h0|h0
 ·rw[bLs h0];simp[fR]
 ·have h1:=b (rs.length-1) (by omega)
  have h2:=(h.1 rs[rs.length-1] (n5 _)).2;rw[show rs.length-1+1=rs.length by omega,bLz] at h1
  omega
def mC (size:Nat) (n:Int):List (Nat×Nat)→Nat→Option Nat
 |[],at_=>if n≤(size:Int)-(at_:Int) then some at_ else none
 |r::rest,at_=>if n≤(r.1:Int)-(at_:Int) then some at_ else mC size n rest (max at_ (r.1+r.2))
def aDe (size:Nat) (rs:List (Nat×Nat)) (n:Int) (from_:Nat):Option Nat:=mC size n (rs.drop (bE rs from_)) from_
def bLf:Option Nat→Int
 |some x=>x
 |none=> -1
def sI (size:Nat) (rs:List (Nat×Nat)) (n from_:Int):Option Nat:=
 if 1≤n∧0≤from_∧from_≤size then
  match aDe size rs n from_.toNat with
  |some x=>some x
  |none=>aDe size rs n 0
 else none
theorem aLl (mb size:Nat) (a n:Int) (w:World) (b:w.cell? ⟨mb,0,none⟩=some (.int .i64 size)) (c:size≤65536) (h:May size a n):
  Calls prog 235 #[.pointer (some ⟨mb,0,none⟩),.int .i64 a,.int .i64 n] w fun e w'=>e= .returned (.bool true)∧w=w':=by
 obtain⟨h1,h2,d,l⟩:=h;go_in;go_wp2;go_ret;exact⟨rfl,rfl⟩
theorem bJf (mb size:Nat) (a n:Int) (w:World) (d:w.cell? ⟨mb,0,none⟩=some (.int .i64 size)) (l:size≤65536) (h:¬May size a n):
  Calls prog 235 #[.pointer (some ⟨mb,0,none⟩),.int .i64 a,.int .i64 n] w fun e w'=>e= .returned (.bool false)∧w=w':=by
 unfold May at h;by_cases h1:1≤n
 ·by_cases h2:0≤a
  ·by_cases c:a≤(size:Int)-1
   case' _=>
    have b:¬n≤(size:Int)-a:=fun b=>h ⟨h1,h2,c,b⟩
   rotate_left
   case' _=>
    clear h
   all_goals
    go_in;go_wp2;go_ret;exact⟨rfl,rfl⟩
  ·clear h
   go_in;go_wp2;go_ret;exact⟨rfl,rfl⟩
 ·clear h
  go_in;go_wp2;go_ret;exact⟨rfl,rfl⟩
def bG (l:List (Nat×Nat)):List Value:=l.flatMap fun r=>[Value.int .i64 r.1,Value.int .i64 r.2]
theorem gJ (l:List (Nat×Nat)):(bG l).length=l.length*2:=by
 induction l with
 |nil=>rfl
 |cons a r b=>simp only[bG,bMb,i7,bLn,bNm] at*;omega
theorem pM (a b:List (Nat×Nat)):bG (a++b)=bG a++bG b:=by simp[bG]
theorem rL (a:Nat×Nat) (b:List (Nat×Nat)):bG (a::b)= .int .i64 a.1:: .int .i64 a.2::bG b:=rfl
theorem eW (l:List (Nat×Nat)) (j:Nat) (h:j<l.length):(bG l)[j*2]?=some (.int .i64 (l.getD j (0,0)).1)∧(bG l)[j*2+1]?=some (.int .i64 (l.getD j (0,0)).2):=by
 induction l generalizing j with
 |nil=>simp at h
 |cons a r b=>
  cases j with
  |zero=>exact⟨rfl,rfl⟩
  |succ j=>
   have:=b j (by simpa using h)
   rw[rL,show(j+1)*2=j*2+2 by omega,show j*2+2+1=(j*2+1)+2 by omega]
   simpa using this
theorem mW (l:List (Nat×Nat)):∀u∈bG l,u.oneCell'=true:=by
 intro u a;simp only[bG,List.mem_flatMap] at a;obtain⟨r,_,hr⟩:=a;simp at hr;rcases hr with rfl|rfl<;>rfl
theorem aXn (l:List (Nat×Nat)) (i:Nat):(bG l).take (i*2)=bG (l.take i):=by
 induction l generalizing i with
 |nil=>simp[bG]
 |cons a r b=>
  cases i with
  |zero=>simp[bG]
  |succ i=>rw[rL,show(i+1)*2=i*2+2 by omega,bOn,bOn,b,bOn,rL]
theorem aIb (l:List (Nat×Nat)) (i:Nat):(bG l).drop (i*2)=bG (l.drop i):=by
 induction l generalizing i with
 |nil=>simp[bG]
 |cons a r b=>
  cases i with
  |zero=>simp
  |succ i=>rw[rL,show(i+1)*2=i*2+2 by omega,List.drop_succ_cons,List.drop_succ_cons,b,List.drop_succ_cons]
theorem aVr (o:List (Nat×Nat)) (a b c:Nat):(bG (o++[(a,b)])).set (o.length*2+1) c=bG (o++[(a,c)]):=by
 rw[pM,pM,←gJ,List.set_append_right _ _ (by omega),show(bG o).length+1-(bG o).length=1 by omega]
 rfl
theorem aRw (a n at_:Nat) (B:Nat) (w:World) (b:w.cell? ⟨B,0,none⟩=some (.int .i64 at_)) (d:a≤1000000) (h:n≤1000000):
  Calls prog 280 #[.agg #[.int .i64 a,.int .i64 n],.pointer (some ⟨B,0,none⟩)] w fun e w'=>e= .returned (.bool (decide (at_<a+n)))∧bB w w':=by
 have c:(w.alloc (.cells #[a,n] 261)).cell? B=some at_:=by rw[World.cell?_alloc_past _ _ _ (block_lt_of_cell b)];exact b
 go_in;go_wp2;go_ret;exact⟨gF (decide_eq_decide.2 (by omega)),bZ⟩
theorem aEy (F:Nat) (r:Array Value) (p:Nat→Bool) (y:Option Addr) (n cap:Nat) (cs:List Value) (w:World) (h:RSl w 2 y n cap cs) (N:n≤1000000000)
  (hF:∀args W,(callFunc F args).run prog W= .ok (.enter F args) W)
  (z:∀j,j<n→∀W,bB w W→Calls prog F (#[.agg #[cs.getD (j*2) undef,cs.getD (j*2+1) undef]]++r) W fun e G=>e= .returned (.bool (p j))∧bB W G):
  Calls prog 279 #[.slice y n cap,.func (.func F) #[] r] w fun e w'=>e= .returned (.int .i64 (eL p n))∧bB w w':=by
 have I:=hZ z;have s:=hZ h;clear z h;go_in;go_wp2_with fail;go_loopw [8] (fun i wr=>∃k:Nat,k≤n∧i= .int .i64 k∧Hid (∀j,j<k→p j=false)∧bB w wr) (fun i _=>n-(intOf i).toNat)
 case atStart=>exact⟨0,by omega,rfl,hZ fun j A=>absurd A (by omega),i4 _ _⟩
 case round=>
  obtain⟨k,O,rfl,l,a⟩:=hrel;by_cases t:k<n
  ·obtain⟨b,x,rfl,C,q⟩:=s.o.2.2.2.2 (by omega)
   have E:=s.o.1;have c0:wr.cell? ⟨b,x+k*2,none⟩=some (cs.getD (k*2) undef):=by rw[(a.cell (p:=⟨b,_,none⟩) C),q (k*2) (by omega)];exact getD_some _ _ (by omega)
   have Q:wr.cell? ⟨b,x+k*2+1,none⟩=some (cs.getD (k*2+1) undef):=by rw[bMc,(a.cell (p:=⟨b,_,none⟩) C),q (k*2+1) (by omega)];exact getD_some _ _ (by omega)
   have d:=hZ (I.o k t wr a);clear q E
   cases c:p k with
   |true=>
    rw[c] at d;go_wp2_with fail;refine d.o.mono ?_;rintro e J ⟨rfl,m⟩;go_wp2_with fail;go_ret;exact⟨by rw[fI t c l.o];rfl,a.trans (m.mono a.size)⟩
   |false=>
    rw[c] at d;have K:=hZ c;clear c;go_wp2_with fail;refine d.o.mono ?_;rintro e J ⟨rfl,m⟩;go_wp2_with fail;go_roundw
    case rel=>
     refine⟨k+1,by omega,by go_num,hZ fun j A=>?_,a.trans (m.mono a.size)⟩
     by_cases e:j=k
     ·rw[e];exact K.o
     ·exact l.o j (by omega)
    case measure=>simp[intOf];omega
  ·have D:k=n:=by omega
   subst D;go_wp2_with fail;go_ret;exact⟨by rw[eF l.o];rfl,a⟩
theorem aVg:(prog.info? 261).map (fun i=>(i.zero,i.size,i.bytes))=some (some (.agg yF),2,16):=by kernel_rfl
theorem aFx (top:Nat) (Y:Option Addr) (n cap:Nat) (rs:List (Nat×Nat)) (w:World) (J:RSl w 2 Y n cap (bG rs)) (y:n≤1000000) (ht:top≤1000000) (Q:Row top rs):
  Calls prog 237 #[.slice Y n cap] w fun e w'=>∃v,e= .returned v∧w'.ownsRow w.heap.size 261 2 v (fA rs).length (bG (fA rs))∧bB w w':=by
 obtain⟨Z,aa,R,S,T⟩:=bMo aVg;have t:Hid (rs.length=n):=hZ (by have:=J.1;rw[gJ] at this;omega)
 have af:=hZ J;have ab:=hZ Q;clear J Q;go_in;go_wp21;go_loopw [3,9] (fun v i wr=>∃k:Nat,k≤n∧i= .int .i64 k∧wr.ownsRow w.heap.size 261 2 v (fA (rs.take k)).length (bG (fA (rs.take k)))∧bB w wr) (fun _ i _=>n-(intOf i).toNat)
 case atStart=>exact⟨0,by omega,rfl,bMa _ _ _ _,i4 _ _⟩
 case round=>
  obtain⟨k,aq,rfl,a,c⟩:=hrel;by_cases D:k<n
  ·obtain⟨b,U,rfl,ac,N⟩:=af.o.2.2.2.2 (by omega)
   obtain⟨E,V⟩:=aDu ab.o k (by rw[t.o];omega)
   obtain⟨r,hr⟩:=nZ (rs.getD k (0,0));have ag:1≤r.2∧r.1+r.2≤top:=by
    rw[hr,a8,b9 (by rw[t.o];exact D)]
    exact ab.o.1 _ (n5 _)
   obtain⟨x,h⟩:=r;dsimp only at ag;have c0:wr.cell? ⟨b,U+k*2,none⟩=some (.int .i64 x):=by
    rw[c.cell (p:=⟨b,_,none⟩) ac,N _ (by omega),(eW rs k (by rw[t.o];exact D)).1,←hr]
   have ar:wr.cell? ⟨b,U+k*2+1,none⟩=some (.int .i64 h):=by
    rw[bMc,c.cell (p:=⟨b,_,none⟩) ac,N _ (by omega),(eW rs k (by rw[t.o];exact D)).2,←hr]
   have K:=oG rs k (by rw[t.o];exact D)
   rw[←hr] at K;have s:=hZ K;have ad:=hZ E;have am:=hZ hr;have an:=hZ V;clear N K E hr V;rcases List.eq_nil_or_concat (fA (rs.take k)) with hJ|⟨o,q,hJ⟩
   ·rw[hJ] at a s
    rw[iT] at s;obtain⟨ah,I,rfl,_⟩:=RSl.of_owns a;simp only[bNm] at a;have z:=hZ a;clear a;have hy:0<h:=by omega
    have au:decide ((0:Int)≤(0:Int)-1)=false:=by decide
    go_wp21;go_quiet (fail);go_wp2_with (at_builtin;go_must (refine bNe _ rfl (.tmp 47) (.tmp 49) 256 rfl w.heap.size 261 Z (.agg #[(0:Int),(0:Int)]) 2 16 underlying256 aa R S T rfl (by decide) (.slice ah 0 I) 0 [] rfl ((mH (z.o.alloc _)).alloc _) ⟨wr.heap.size+1,0,none⟩ 1 1 (bG [(x,h)]) rfl rfl (Blk.news (Blk.newAt (w:=(wr.alloc _).drewN nq) 261 (bG [(x,h)]) (by simp))) (mW _) (by unfold maxLen;omega) (by omega) (by have:=c.size;simp;omega) ?_;intro v1 al A G _))
    simp only[r9,bMt] at A;go_roundw
    case rel=>
     refine⟨k+1,by omega,by go_num,by rw[s.o];exact A,?_⟩
     exact cF (base:=w.heap.size) ((dB (c.alloc c.size _) nq).alloc (by have:=c.size;simp;omega) _) ((mH (z.o.alloc _)).alloc _) G (by have:=c.size;simp;omega) (d8 _)
    case measure=>simp[intOf];omega
   ·rw[List.concat_eq_append] at hJ
    rw[hJ] at a s ad;obtain⟨l,d⟩:=q;have ai:=ad.o.1 (l,d) (by simp)
    dsimp only at ai;obtain⟨m,y⟩:=nZ o.length;have X:(o++[(l,d)]).length=m+1:=by simp[y]
    rw[X] at a;obtain⟨g,I,rfl,E⟩:=oW a (by omega)
    have ao:m+1≤k:=by have:=aZv rs k (by rw[t.o];omega);rw[hJ,X] at this;exact this
    have ap:=(a.lt g rfl).2;have av:wr.cell? ⟨g,m*2,none⟩=some l:=by rw[a.cellAt _ (by omega),(eW _ m (by omega)).1,y];simp
    have aw:wr.cell? ⟨g,m*2+1,none⟩=some d:=by rw[a.cellAt _ (by omega),(eW _ m (by omega)).2,y];simp
    have ax:=a.frozenAt (m*2+1);have z:=hZ a;have O:=hZ y;clear a y;have hy:0<h:=by omega
    by_cases C:l+d=x
    ·rw[jR _ _ _ (by exact C)] at s
     have ay:=hZ C;have aj:decide ((0:Int)≤(m:Int))=true:=by simp
     have ak:((l:Int)+(d:Int) == (x:Int))=true:=by simp;omega
     clear C;go_wp21;go_quiet (fail);go_wp21;go_region;go_wp21;go_roundw
     case rel=>
      have h1:=((mH (k:=nq) (z.o.alloc (.cells #[x,h] 261))).stored (m*2+1) (.int .i64 ((d:Int)+(h:Int)))).1;have h2:=aVr o l d (d+h);rw[←O.o] at h2
      push_cast at h2
      rw[h2] at h1;refine⟨k+1,by omega,by go_num,?_,?_⟩
      ·rw[s.o,show(o++[(l,d+h)]).length=m+1 by simp[O.o]]
       exact h1
      ·exact((dB (c.alloc c.size _) nq).setCell (p:=⟨g,m*2+1,none⟩) E _).drew
     case measure=>simp[intOf];omega
    ·rw[jO _ _ _ (by exact C)] at s
     have aj:decide ((0:Int)≤(m:Int))=true:=by simp
     have ak:((l:Int)+(d:Int) == (x:Int))=false:=by simp;omega
     clear C;go_wp21;go_quiet (fail);go_wp2_with (at_builtin;go_must (refine bNe _ rfl (.tmp 47) (.tmp 49) 256 rfl w.heap.size 261 Z (.agg #[(0:Int),(0:Int)]) 2 16 underlying256 aa R S T rfl (by decide) (.slice (some g) (m+1) I) (m+1) (bG (o++[(l,d)])) rfl ((mH (z.o.alloc _)).alloc _) ⟨wr.heap.size+1,0,none⟩ 1 1 (bG [(x,h)]) rfl rfl (Blk.news (Blk.newAt (w:=(wr.alloc _).drewN nq) 261 (bG [(x,h)]) (by simp))) (mW _) (by unfold maxLen;omega) (by omega) (by have:=c.size;simp;omega) ?_;intro v1 al A G _))
     rw[←pM] at A;go_roundw
     case rel=>
      refine⟨k+1,by omega,by go_num,by rw[s.o,show(o++[(l,d)]++[(x,h)]).length=m+1+1 by simp[O.o]];exact A,?_⟩
      exact cF (base:=w.heap.size) ((dB (c.alloc c.size _) nq).alloc (by have:=c.size;simp;omega) _) ((mH (z.o.alloc _)).alloc _) G (by have:=c.size;simp;omega) (d8 _)
     case measure=>simp[intOf];omega
  ·have ae:k=n:=by omega
   subst ae;rw[bLq (by rw[t.o];omega)] at a
   go_wp21;go_ret;exact⟨_,rfl,a,c⟩
theorem aFu (a:Option Addr) (n cap:Nat) (cs:List Value) (w:World) (h:RSl w 2 a n cap cs) (h1:∀u∈cs,u.oneCell'=true) (A:n≤1000000000):
  Calls prog 150 #[.slice a n cap] w fun e w'=>∃v,e= .returned v∧w'.ownsRow w.heap.size 261 2 v n cs∧bB w w':=by
 obtain⟨s,t,m,p,q⟩:=bMo aVg;have d:=fun(W:World)=>Lib.run_eql_slice_nil (P:=prog) W 256 261 a n cap 0 0 underlying256
 cases a with
 |none=>
  have x:=h.2.2.2.1 rfl;have y:n=0:=by have:=h.2.1;omega
  subst y;subst x;have r:=bLs (by have:=h.1;simpa using this)
  subst r;simp only[Option.isNone_none] at d;go_in;go_wp21;go_ret;exact⟨_,rfl,bMa _ _ _ _,i4 _ _⟩
 |some z=>
  simp only[Option.isNone_some] at d;have b:=World.ownsRow_made (base:=w.heap.size) (e:=261) (size:=2) w #[] 0 (d8 _) (by unfold maxLen;omega) rfl
  go_in;go_wp2_with (at_builtin;refine bNe _ rfl (.tmp 5) (.tmp 6) 256 rfl w.heap.size 261 s (.agg yF) 2 16 underlying256 t m p q rfl (by decide) (.slice (some ⟨w.heap.size,0,none⟩) 0 0) 0 [] rfl b z n cap cs rfl (by rw[h.1]) (RSl.news (h.below ((i4 _ _).alloc (d8 _) (.cells #[] 261)))) h1 (by unfold maxLen;omega) (by omega) (by simp) ?_;intro v1 C c l _;simp only[r9,bMt] at c)
  go_ret;exact⟨_,rfl,c,cF (bZ) b l (by simp) (d8 _)⟩
theorem aVl (n:Nat) (w:World) (I:n≤100000000):
  Calls prog 281 #[.slice none 0 0,n] w fun e w'=>∃v,e= .returned v∧w'.ownsRow w.heap.size 261 2 v 0 []∧bB w w':=by
 obtain⟨h,z,x,E,q⟩:=bMo aVg;by_cases t:n=0
 ·subst t
  go_in;go_wp2_with fail;go_ret;exact⟨_,rfl,bMa _ _ _ _,i4 _ _⟩
 ·have m:(Builtin.firstCells h.size 0 (.slice none 0 0)).run prog w.drew= .ok ([]:List Value).toArray w.drew:=run_firstCells_none w.drew h.size 0 0 0
  have r:Builtin.nextslicecap (0+n) 0=n:=by unfold Builtin.nextslicecap;rw[i6 (by omega)];omega
  have a:=fun ty=>Lib.run_append_grow_zeros (P:=prog) w 256 3 ty 261 h (.agg yF) .i64 .i64 underlying256 underlying3 z x none 0 0 [] m n (by omega) (by omega) (by omega) (by omega) (by rw[q];omega) (by rw[r,q];omega)
  obtain⟨c,l⟩:=nZ (grownCap w (0+n) 0 261);have G:n≤c:=by have:=grownCap_ge w (0+n) 0 261;omega
  have b:c≤maxLen:=by rw[l];exact grownCap_le_maxLen w (0+n) 0 261 (by unfold maxLen;omega)
  rw[←l] at a;simp only[r9] at a;obtain⟨cs,d⟩:=nZ (([]:List Value).toArray++Builtin.zeroCells (.agg yF:Value).cells n++Builtin.zeroCells (.agg yF:Value).cells (c-n));have s:cs.size=c*2:=by
   rw[d];simp only[Array.size_append,size_zeroCells];rw[show(.agg yF:Value).cells.size=2 from rfl];simp only[bOm,bNm];omega
  rw[←d] at a;have p:∀ty,(Builtin.append_ #[256,3] ty #[.slice none 0 0,n]).run prog w= .ok (.slice (some ⟨w.heap.size,0,none⟩) n c) (w.drew.alloc (.cells cs 261)):=a;have y:=hZ p;have A:=hZ (World.ownsRow_made (base:=w.heap.size) (e:=261) (size:=2) w.drew cs c (d8 _) b s);have C:0<n:=by omega
  have D:c≤9223372036854775807:=by unfold maxLen at b;omega
  clear l d s r m a p t b;go_in;go_wp2_with (at_builtin;go_must (refine yQ rfl (.tmp 20) (.tmp 21) 256 3 rfl (.slice none 0 0) n _ _ rfl rfl y.o ?_));go_ret;exact⟨_,rfl,A.o,((i4 _ _).drew).alloc (d8 _) _⟩
def bCg (ps:List (Option Addr×Nat×Nat×List Value)):List Value:=ps.map fun p=> .slice p.1 p.2.1 p.2.2.1
def wJ (ps:List (Option Addr×Nat×Nat×List Value)):Nat:=(ps.map fun p=>p.2.1).sum
def aTn (ps:List (Option Addr×Nat×Nat×List Value)):List Value:=ps.flatMap fun p=>p.2.2.2
def aRh:Option Addr×Nat×Nat×List Value:=(none,0,0,[])
theorem aPr (ps:List (Option Addr×Nat×Nat×List Value)) (k:Nat) (h:k<ps.length):(bCg ps)[k]?=some (.slice (ps.getD k aRh).1 (ps.getD k aRh).2.1 (ps.getD k aRh).2.2.1):=by simp[bCg,h]
theorem aHs (ps:List (Option Addr×Nat×Nat×List Value)) (k:Nat) (h:k<ps.length):wJ (ps.take (k+1))=wJ (ps.take k)+(ps.getD k aRh).2.1:=by
 rw[m8 h,a8,b9 h];unfold wJ;rw[bNa,List.sum_append];rfl
theorem aZj (ps:List (Option Addr×Nat×Nat×List Value)) (k:Nat) (h:k<ps.length):aTn (ps.take (k+1))=aTn (ps.take k)++(ps.getD k aRh).2.2.2:=by
 rw[m8 h,a8,b9 h];unfold aTn;rw[bNn];simp only[bMb,List.flatMap_nil,bMv];rfl
theorem aVf (ps:List (Option Addr×Nat×Nat×List Value)) (k:Nat):wJ (ps.take k)≤wJ ps:=by
 conv=>rhs;rw[←bOg k ps]
 unfold wJ;rw[bNa,List.sum_append];exact Nat.le_add_right _ _
theorem aNe (S:Option Addr) (n cap:Nat) (ps:List (Option Addr×Nat×Nat×List Value)) (w:World) (h:RSl w 1 S n cap (bCg ps)) (ai:n≤1000000) (ht:wJ ps≤1000000)
  (K:∀p∈ps,RSl w 2 p.1 p.2.1 p.2.2.1 p.2.2.2∧∀u∈p.2.2.2,u.oneCell'=true):
  Calls prog 238 #[.slice S n cap] w fun e w'=>∃v,e= .returned v∧w'.ownsRow w.heap.size 261 2 v (wJ ps) (aTn ps)∧bB w w':=by
 obtain⟨aj,ak,ac,ad,ae⟩:=bMo aVg;have d:Hid (ps.length=n):=hZ (by have:=h.1;simpa[bCg] using this)
 have N:=hZ h;have al:=hZ K;have af:=hZ fun(m:Nat) (ai:m≤1000000) (W:World)=>aVl m W (by omega)
 clear h K;go_in;go_wp2_with fail;go_loop [3,11] (fun t i=>∃k:Nat,k≤n∧i= .int .i64 k∧t= .int .i64 (wJ (ps.take k))) (fun _ i=>n-(intOf i).toNat)
 case atStart=>exact⟨0,by omega,rfl,rfl⟩
 case round=>
  obtain⟨k,an,rfl,rfl⟩:=hrel;by_cases O:k<n
  ·obtain⟨b,E,rfl,T,s⟩:=N.o.2.2.2.2 (by omega)
   obtain⟨p,c⟩:=nZ (ps.getD k aRh);obtain⟨A,q,C,cs0⟩:=p;have ag:w.cell? ⟨b,E+k,none⟩=some (.slice A q C):=by rw[s k (by omega),aPr ps k (by rw[d.o];exact O),←c]
   have a:=aHs ps k (by rw[d.o];exact O)
   rw[←c] at a;dsimp only at a;have r:=aVf ps (k+1);have ah:wJ (ps.take k)+q≤1000000:=by rw[a] at r;omega
   have G:=hZ a;have am:=hZ c;clear s a c r;go_wp2_with fail;go_round
   case rel=>exact⟨k+1,by omega,by go_num,by rw[G.o];go_num⟩
   case measure=>simp[intOf];omega
  ·have Y:k=n:=by omega
   subst Y;have D:=bLq (by rw[d.o];exact d8 _)
   rw[D];have Z:=hZ D;clear D;go_wp2_with fail;refine(af.o _ ht w).mono ?_;rintro e ao ⟨v1,rfl,J,Q⟩;go_wp2_with fail;go_loopw [6,27] (fun v i wr=>∃j:Nat,j≤k∧i= .int .i64 j∧wr.ownsRow w.heap.size 261 2 v (wJ (ps.take j)) (aTn (ps.take j))∧bB w wr) (fun _ i _=>k-(intOf i).toNat)
   case atStart=>exact⟨0,by omega,rfl,J,Q⟩
   case round=>
    obtain⟨j,ap,rfl,x,l⟩:=hrel;clear J Q;by_cases z:j<k
    ·obtain⟨b,E,rfl,T,s⟩:=N.o.2.2.2.2 (by omega)
     obtain⟨p,c⟩:=nZ (ps.getD j aRh);have I:=al.o p (by rw[c,a8,b9 (by rw[d.o];exact z)];exact n5 _)
     obtain⟨A,q,C,cs0⟩:=p;dsimp only at I;have ag:wr.cell? ⟨b,E+j,none⟩=some (.slice A q C):=by rw[l.cell (p:=⟨b,_,none⟩) T,s j (by omega),aPr ps j (by rw[d.o];exact z),←c]
     have a:=aHs ps j (by rw[d.o];exact z)
     have y:=aZj ps j (by rw[d.o];exact z)
     rw[←c] at a y;dsimp only at a y;have r:=aVf ps (j+1);have ah:wJ (ps.take j)+q≤1000000:=by rw[a] at r;omega
     have G:=hZ a;have aa:=hZ y;have R:=hZ I;have U:=hZ x;clear s a y c r I x;go_wp2_with (at_builtin;go_must (refine yU rfl (.tmp 31) (.tmp 32) 256 rfl w.heap.size 261 aj (.agg yF) 2 16 underlying256 ak ac ad ae rfl (by decide) _ _ _ rfl U.o A q C cs0 rfl (R.o.1.below l) R.o.2 (by unfold maxLen;omega) (by omega) l.size ?_;intro v2 aq X V))
     go_roundw
     case rel=>exact⟨j+1,by omega,by go_num,by rw[G.o,aa.o];exact X,cF l U.o V l.size (d8 _)⟩
     case measure=>simp[intOf];omega
    ·have ab:j=k:=by omega
     subst ab;rw[Z.o] at x;go_wp2_with fail;go_ret;exact⟨_,rfl,x,l⟩
def dF (w:World) (mb size:Nat) (rs:List (Nat×Nat)):Prop:=
 size≤65536∧1≤size∧lH size rs∧rs.length≤65536∧∃v,Blk w mb 258 [.int .i64 size,v]∧w.ownsRow 0 261 2 v rs.length (bG rs)
theorem dF.below {size:Nat} (h:dF w mb size rs) (a:bB w w'):dF w' mb size rs:=by
 obtain⟨h1,h2,b,c,v,d,l⟩:=h;exact⟨h1,h2,b,c,v,d.below a,aD l a⟩
theorem dF.lt {size:Nat} (h:dF w mb size rs):mb<w.heap.size:=by
 obtain⟨_,_,_,_,v,a,_⟩:=h;exact a.lt
theorem dF.other {size:Nat} (h:dF w mb size rs) (b:w.grownBy w' (some mb')) (a:Blk w mb' 258 cs) (l:mb≠mb'):dF w' mb size rs:=by
 obtain⟨h1,h2,m,p,v,c,d⟩:=h;refine⟨h1,h2,m,p,v,?_,d.kept b ?_⟩
 ·unfold Blk
  rw[b.block mb c.lt (by simp[l])]
  exact c
 ·rcases d.2 with⟨rfl,_⟩|⟨g,cap,r,rfl,_,q,_⟩
  ·exact .inl rfl
  ·refine .inr ?_
   intro e;simp only[Value.ownBlock,i5] at e;subst e;unfold Blk at a;rw[q] at a;simp only[i5,n7] at a;exact absurd a.2.1 (by decide)
theorem aBf (rs:List (Nat×Nat)) (a:Nat):
  eL (fun j=>decide (a<(rs.getD j (0,0)).1+(rs.getD j (0,0)).2)) rs.length=if bE rs a<rs.length then(bE rs a:Int) else-1:=by
 by_cases h:bE rs a<rs.length
 ·rw[i6 h]
  refine fI h ?_ fun j b=>?_
  ·have:=List.findIdx_getElem (p:=fun r:Nat×Nat=>decide (a<r.1+r.2)) (w:=h)
   rw[a8,b9 h];exact this
  ·have:=List.not_of_lt_findIdx (p:=fun r:Nat×Nat=>decide (a<r.1+r.2)) (xs:=rs) b
   rw[a8,b9 (by omega)]
   simpa using this
 ·rw[i9 h]
  refine eF fun j b=>?_
  have:=List.not_of_lt_findIdx (p:=fun r:Nat×Nat=>decide (a<r.1+r.2)) (xs:=rs) (show j<bE rs a by omega)
  rw[a8,b9 b];simpa using this
theorem aDb (args:Array Value) (W:World):(callFunc 280 args).run prog W= .ok (.enter 280 args) W:=by kernel_rfl
theorem uU (mb a:Nat) (b:Option Addr) (cap:Nat) (rs:List (Nat×Nat)) (size:Nat) (w:World) (l:w.cell? ⟨mb,1,none⟩=some (.slice b rs.length cap)) (r:RSl w 2 b rs.length cap (bG rs)) (N:size≤65536) (t:lH size rs) (O:rs.length≤65536):
  Calls prog 236 #[.pointer (some mb),a] w fun e w'=>e= .returned (.int .i64 (bE rs a))∧bB w w':=by
 have A:=block_lt_of_cell l;have c:bB w (w.alloc (.cells #[a] 3)):=bZ;have C:(w.alloc (.cells #[a] 3)).cell? ⟨mb,1,none⟩=some (.slice b rs.length cap):=by rw[World.cell?_alloc_past _ _ _ A];exact l
 have s:(w.alloc (.cells #[a] 3)).cell? ⟨w.heap.size,0,none⟩=some a:=by rw[bMr _ _ _ _ rfl];rfl
 have H:=aEy 280 #[.pointer (some ⟨w.heap.size,0,none⟩)] (fun j=>decide (a<(rs.getD j (0,0)).1+(rs.getD j (0,0)).2)) b rs.length cap (bG rs) (w.alloc (.cells #[a] 3))
  (r.below c) (by omega) aDb (fun j m W I=>by
   have e0:(bG rs).getD (j*2) undef= .int .i64 (rs.getD j (0,0)).1:=by rw[a8,(eW rs j m).1];rfl
   have J:(bG rs).getD (j*2+1) undef= .int .i64 (rs.getD j (0,0)).2:=by rw[a8,(eW rs j m).2];rfl
   rw[e0,J];have Q:=t.1 (rs.getD j (0,0)) (by rw[a8,b9 m];exact n5 _)
   refine aRw _ _ a w.heap.size W ?_ (by omega) (by omega)
   rw[I.cell (p:=⟨w.heap.size,0,none⟩) (by simp)]
   exact s)
 rw[aBf] at H;have D:=wO rs a;obtain⟨i,x⟩:=nZ (bE rs a);rw[←x] at H D⊢;have E:=hZ c;have G:=hZ C;clear s r t c x l;by_cases d:i<rs.length
 case' _=>
  rw[i6 d] at H;have q:=hZ H;clear H;go_in;go_wp2_with fail;refine q.o.mono ?_;rintro e y ⟨rfl,h⟩
 rotate_left
 case' _=>
  rw[i9 d] at H;have z:i=rs.length:=by omega
  have q:=hZ H;clear H d;subst z;go_in;go_wp2_with fail;refine q.o.mono ?_;rintro e y ⟨rfl,h⟩;have K:y.cell? ⟨mb,1,none⟩=some (.slice b rs.length cap):=by rw[h.cell (p:=⟨mb,1,none⟩) (by simp;omega)];exact G.o
 all_goals
  go_wp2_with fail;go_ret;exact⟨rfl,E.o.trans (h.mono (by simp))⟩
section
attribute [local go_sem ↓] Go.wp_at_zero Go.wp_at_succ
theorem bCq (mb size:Nat) (rs:List (Nat×Nat)) (a n:Int) (w:World) (h:dF w mb size rs) (b:¬May size a n):
  Calls prog 176 #[.pointer (some mb),a,n] w fun e w'=>e= .returned (1:Int)∧w=w':=by
 obtain⟨h1,h2,d,l,v,c,m⟩:=h;go_in;go_wp21;refine(bJf mb size a n w (c.cell 0) h1 b).mono ?_;rintro e p ⟨rfl,rfl⟩;go_wp21;go_ret;exact⟨rfl,rfl⟩
theorem aWp (mb size:Nat) (rs:List (Nat×Nat)) (a n:Nat) (w:World) (h:dF w mb size rs) (s:May size a n) (x:bE rs a<rs.length) (r:(rs.getD (bE rs a) (0,0)).1<a+n):
  Calls prog 176 #[.pointer (some mb),a,n] w fun e w'=>e= .returned (13:Int)∧bB w w':=by
 obtain⟨h1,h2,y,D,v,b,d⟩:=h;have H:=hZ (aLl mb size a n w (b.cell 0) h1 s);obtain⟨J,K,N,O⟩:=s;obtain⟨g,cap,rfl,S⟩:=oW d (by omega)
 have z:=hZ (uU mb a _ cap rs size w (b.cell 1) (by obtain⟨T,c,e,hr⟩:=RSl.of_owns d;simp only[bMm,true_and] at e;obtain⟨rfl,rfl⟩:=e;exact hr) h1 y D)
 obtain⟨i,t⟩:=nZ (bE rs a);obtain⟨q,l⟩:=nZ (rs.getD i (0,0));rw[←t] at z x r;rw[←l] at r;obtain⟨E,U⟩:=q;dsimp only at r;have G:=hZ b;have I:=hZ d;have V:=hZ l;have m:=(eW rs i x).1;rw[←l] at m;have C:=hZ m;clear b d t l m y;go_in;go_wp2_with fail;refine H.o.mono ?_;rintro e A ⟨rfl,rfl⟩;go_wp2_with fail;refine z.o.mono ?_;rintro e A ⟨rfl,p⟩;have Q:=(G.o.below p).cell 1;have R:A.cell? ⟨g,i*2,none⟩=some E:=by rw[(aD I.o p).cellAt _ (by omega)];exact C.o
 go_wp2_with fail;go_ret;exact⟨rfl,p⟩
theorem aCj (mb i a n c c3:Nat) (d h:Option Addr) (old:Value) (cs0:Value) (rs:List (Nat×Nat)) (b:World) (q:Blk b mb 258 [cs0,old])
  (h1:RSl b 2 d i c (bG (rs.take i))) (z:RSl b 2 h (rs.length-i) c3 (bG (rs.drop i))) (D:i≤rs.length) (E:rs.length≤65536):
  Calls prog 238 #[.slice (some ⟨b.heap.size+1,0,none⟩) 3 3]
   ((b.alloc (.cells #[a,n] 261)).alloc (.cells #[.slice d i c,.slice (some ⟨b.heap.size,0,none⟩) 1 1,.slice h (rs.length-i) c3] 256)).drew
   fun e w'=>∃v,e= .returned v∧w'.ownsRow 0 261 2 v (rs.length+1) (bG (rs.take i++(a,n)::rs.drop i))∧w'.cell? ⟨mb,1,none⟩=some old∧bB b w':=by
 obtain⟨W,m⟩:=nZ (((b.alloc (.cells #[a,n] 261)).alloc (.cells #[.slice d i c,.slice (some ⟨b.heap.size,0,none⟩) 1 1,.slice h (rs.length-i) c3] 256)).drew);have l:bB b W:=by rw[m];exact(((bZ).alloc (by simp) _).drew)
 have y:RSl W 2 (some ⟨b.heap.size,0,none⟩) 1 1 (bG [(a,n)]):=by
  have A:Blk (b.alloc (.cells (bG [(a,n)]).toArray 261)) b.heap.size 261 (bG [(a,n)]):=Blk.new _ _ _;have:=(A.alloc (.cells #[.slice d i c,.slice (some ⟨b.heap.size,0,none⟩) 1 1,.slice h (rs.length-i) c3] 256)).drew.rsl (k:=2) (n:=1) rfl (by unfold maxLen;omega)
  rw[m];exact this
 have x:RSl W 1 (some ⟨b.heap.size+1,0,none⟩) 3 3 (bCg [(d,i,c,bG (rs.take i)),(some ⟨b.heap.size,0,none⟩,1,1,bG [(a,n)]),(h,rs.length-i,c3,bG (rs.drop i))]):=by
  rw[m];exact(Blk.newAt (w:=b.alloc (.cells #[a,n] 261)) 256 _ (by simp)).drew.rsl rfl (by unfold maxLen;omega)
 rw[←m];refine(aNe _ 3 3 _ W x (by omega) (by simp[wJ];omega) ?_).mono ?_
 ·intro p t
  simp only[s8,bLp,bNo] at t;rcases t with rfl|rfl|rfl
  ·exact⟨h1.below l,mW _⟩
  ·exact⟨y,mW _⟩
  ·exact⟨z.below l,mW _⟩
 ·rintro e w' ⟨v,rfl,r,s⟩
  have C:wJ [(d,i,c,bG (rs.take i)),(some ⟨b.heap.size,0,none⟩,1,1,bG [(a,n)]),(h,rs.length-i,c3,bG (rs.drop i))]=rs.length+1:=by simp[wJ];omega
  have e2:aTn [(d,i,c,bG (rs.take i)),(some ⟨b.heap.size,0,none⟩,1,1,bG [(a,n)]),(h,rs.length-i,c3,bG (rs.drop i))]=bG (rs.take i++(a,n)::rs.drop i):=by
   rw[pM,rL];simp[aTn,bG]
  rw[C,e2] at r;refine⟨v,rfl,cY r (z6 _),?_,l.trans (s.mono l.size)⟩;rw[s.cell (p:=⟨mb,1,none⟩) (bNc q.lt l.size),l.cell (p:=⟨mb,1,none⟩) q.lt];exact q.cell 1
theorem aLc (mb size g cap:Nat) (rs:List (Nat×Nat)) (a n i:Nat) (w:World) (h1:size≤65536) (U:lH size rs) (aj:rs.length≤65536)
  (t:Blk w mb 258 [size,.slice (some g) rs.length cap]) (E:w.ownsRow 0 261 2 (.slice (some g) rs.length cap) rs.length (bG rs))
  (O:May size a n) (m:i=bE rs a) (d:i<rs.length→a+n≤(rs.getD i (0,0)).1):
  Calls prog 176 #[.pointer (some mb),a,n] w fun e w'=>e= .returned (0:Int)∧
   (∃v,Blk w' mb 258 [size,v]∧w'.ownsRow 0 261 2 v (fA (rs.take i++(a,n)::rs.drop i)).length (bG (fA (rs.take i++(a,n)::rs.drop i))))∧w.grownBy w' (some mb):=by
 have H:=hZ (aLl mb size a n w (t.cell 0) h1 O);obtain⟨ax,ay,az,ba⟩:=O;have h:RSl w 2 (some g) rs.length cap (bG rs):=by obtain⟨bk,c,e,hr⟩:=RSl.of_owns E;simp only[bMm,true_and] at e;obtain⟨rfl,rfl⟩:=e;exact hr
 have V:=hZ (uU mb a _ cap rs size w (t.cell 1) h h1 U aj);have A:i≤rs.length:=by rw[m];exact wO rs a
 rw[←m] at V;have ap:=h.2.1;have ao:cap≤9223372036854775807:=by have:=h.2.2.1;unfold maxLen at this;exact this
 have x:=hZ t;have ak:=hZ E;have X:=hZ d;have Y:=hZ m;have Z:=hZ h;have bc:(0:Int)≤(i:Int):=by omega
 have bd:(i:Int)≤(rs.length:Int):=by omega
 have be:(i:Int)≤(cap:Int):=by omega
 clear t E m d h;have ac:=hZ (show Row size (rs.take i++(a,n)::rs.drop i) by rw[Y.o];exact aFc U (by omega) (by omega) (by rw[←Y.o];exact X.o))
 obtain⟨M,G⟩:=nZ (fA (rs.take i++(a,n)::rs.drop i));have ae:=hZ G;rw[←G];clear G;obtain⟨I,af⟩:∃I,(if cap=i then some (g:Addr) else some ⟨g,i*2,none⟩)=I:=⟨_,rfl⟩
 go_in;go_wp2_with fail;refine H.o.mono ?_;rintro e y ⟨rfl,rfl⟩;go_wp2_with fail;refine V.o.mono ?_;rintro e y ⟨rfl,b⟩;have bf:=(x.o.below b).cell 1;have ag:=hZ (aCj mb i a n i (cap-i) (some g) I _ _ rs y (x.o.below b) (by have:=(Z.o.below b).takeAt A (fun e=>by simp at e);rw[aXn] at this;exact this) (by have:=(Z.o.below b).dropAt A;rw[r9,aIb,af] at this;exact this) A (by omega))
 have aq:=(x.o.below b).lt;have l:=hZ b;clear b;go_upto_region 4 with fail
 go_cut [36] (fun s al=>s= .bool false∧al=y)
 case first=>
  by_cases R:i<rs.length
  case' _=>
   obtain⟨q,aa⟩:=nZ (rs.getD i (0,0));have r:=(eW rs i R).1;have d:=X.o R;rw[←aa] at r d;obtain⟨ab,bl⟩:=q;dsimp only at r d;have bh:¬(ab:Int)<(a:Int)+(n:Int):=by omega
   have bi:y.cell? ⟨g,i*2,none⟩=some ab:=by rw[(aD ak.o l.o).cellAt _ (by omega)];exact r
   clear r aa d
  rotate_left
  case' _=>
   have ar:¬(i:Int)<(rs.length:Int):=by omega
  all_goals
   go_wp2_with fail;go_meet;exact⟨rfl,rfl⟩
 case rest=>
  obtain⟨rfl,rfl⟩:=hcut;go_wp2_with fail;go_region_with (first
    |(go_at_call 238;refine ag.o.mono ?_;rintro e am ⟨v2,rfl,N,Q,S⟩;obtain⟨ah,ad,rfl,T⟩:=RSl.of_owns N;have J:=aFx size ah _ ad _ am T (by omega) (by omega) ac.o;rw[←ae.o] at J;have an:=hZ J;clear J;have K:=hZ S;clear N T S)
    |(go_at_call 237;refine an.o.mono ?_;rintro e bm ⟨bn,rfl,z,C⟩;obtain⟨bj,au,rfl,_⟩:=RSl.of_owns z;have ai:=hZ (cY z (z6 _));clear z;have av:=(C.cell (p:=⟨mb,1,none⟩) (block_lt_of_cell Q)).trans Q;have D:=hZ (((x.o.below l.o).below K.o).below C);have aw:=D.o.frozen 1))
  all_goals go_wp2_with fail
  all_goals go_ret
  all_goals exact⟨rfl,⟨_,D.o.setCell 1 _,aO ai.o D.o (by decide)⟩,aCn ((l.o.trans (K.o.mono l.o.size)).trans (C.mono (l6 l.o.size K.o.size)))⟩
theorem aLw (mb size:Nat) (a n:Nat) (w:World) (h1:size≤65536)
  (d:Blk w mb 258 [size,.slice none 0 0]) (z:May size a n):
  Calls prog 176 #[.pointer (some mb),a,n] w fun e w'=>e= .returned (0:Int)∧
   (∃v,Blk w' mb 258 [size,v]∧w'.ownsRow 0 261 2 v (fA [(a,n)]).length (bG (fA [(a,n)])))∧w.grownBy w' (some mb):=by
 have H:=hZ (aLl mb size a n w (d.cell 0) h1 z);obtain⟨Z,aa,ab,ac⟩:=z;have G:=hZ (uU mb a none 0 [] size w (d.cell 1) (RSl.nil _ _) h1 ⟨by simp,List.Pairwise.nil⟩ (by simp))
 have h:=hZ d;have A:Row size [(a,n)]:=⟨fun r hr=>by rw[y9.1 hr];dsimp only;omega,List.pairwise_singleton _ _⟩
 have J:=hZ A;obtain⟨M,s⟩:=nZ (fA [(a,n)]);have N:=hZ s;rw[←s];clear d s A;have e0:bE [] a=0:=rfl;rw[e0] at G;clear e0;go_in;go_wp2_with fail;refine H.o.mono ?_;rintro e I ⟨rfl,rfl⟩;go_wp2_with fail;refine G.o.mono ?_;rintro e I ⟨rfl,b⟩;have ad:=(h.o.below b).cell 1;have O:=hZ (aCj mb 0 a n 0 0 none none _ _ [] I (h.o.below b) (RSl.nil _ _) (RSl.nil _ _) (by simp) (by simp))
 have U:=(h.o.below b).lt;have c:=hZ b;clear b;go_wp2_with fail;go_region_with (first
   |(go_at_call 238;refine O.o.mono ?_;rintro e S ⟨v2,rfl,y,C,D⟩;obtain⟨Q,K,rfl,E⟩:=RSl.of_owns y;have t:=aFx size Q _ K [(a,n)] S E (by simp) (by omega) J.o;rw[←N.o] at t;have T:=hZ t;clear t;have x:=hZ D;clear y E D)
   |(go_at_call 237;refine T.o.mono ?_;rintro e af ⟨ag,rfl,l,m⟩;obtain⟨ae,V,rfl,_⟩:=RSl.of_owns l;have R:=hZ (cY l (z6 _));clear l;have X:=(m.cell (p:=⟨mb,1,none⟩) (block_lt_of_cell C)).trans C;have q:=hZ (((h.o.below c.o).below x.o).below m);have Y:=q.o.frozen 1))
 all_goals go_wp2_with fail
 all_goals go_ret
 all_goals exact⟨rfl,⟨_,q.o.setCell 1 _,aO R.o q.o (by decide)⟩,aCn ((c.o.trans (x.o.mono c.o.size)).trans (m.mono (l6 c.o.size x.o.size)))⟩
theorem aQd (mb size:Nat) (rs:List (Nat×Nat)) (a n:Int) (w:World) (h:dF w mb size rs):
  Calls prog 176 #[.pointer (some mb),a,n] w fun e w'=>e= .returned (.int .i64 (cJ size rs a n).1)∧dF w' mb size (cJ size rs a n).2∧w.grownBy w' (some mb):=by
 by_cases p:May size a n
 ·have q:=xF h.2.2.1 a n
  have l:=p;obtain⟨E,t,G,I⟩:=p;obtain⟨a,rfl⟩:=Int.eq_ofNat_of_zero_le t;obtain⟨n,rfl⟩:=Int.eq_ofNat_of_zero_le (show 0≤n by omega)
  by_cases d:bE rs a<rs.length∧(rs.getD (bE rs a) (0,0)).1<a+n
  ·have e:cJ size rs (a:Int) (n:Int)=(13,rs):=by unfold cJ;rw[i6 l,i6 (by simpa using d)]
   rw[e];refine(aWp mb size rs a n w h l d.1 d.2).mono fun e w' ⟨c,m⟩=>⟨c,h.below m,cU m⟩
  ·have e:cJ size rs (a:Int) (n:Int)=(0,fA (rs.take (bE rs a)++(a,n)::rs.drop (bE rs a))):=by unfold cJ;rw[i6 l,i9 (by simpa using d)];simp
   rw[e] at q⊢;obtain⟨h1,h2,z,A,v,m,s⟩:=h;obtain⟨O,cap,rfl,hr⟩:=RSl.of_owns s;have J:=bDj q;rcases s.2 with⟨b,h0⟩|⟨g,D,K,b,N,_⟩
   ·simp only[bMm] at b
    obtain⟨rfl,_,rfl⟩:=b;have x:=bLs h0;subst x;exact(aLw mb size a n w h1 m l).mono fun e w' ⟨c,b,r⟩=>⟨c,⟨h1,h2,q,by omega,b⟩,r⟩
   ·simp only[bMm,true_and] at b
    obtain⟨rfl,rfl⟩:=b;exact(aLc mb size g cap rs a n _ w h1 z A m s l rfl (fun y=>by simp only[not_and,Nat.not_lt] at d;exact d y)).mono fun e w' ⟨c,b,r⟩=>⟨c,⟨h1,h2,q,by omega,b⟩,r⟩
 ·have e:cJ size rs a n=(1,rs):=by unfold cJ;rw[i9 p]
  rw[e];exact(bCq mb size rs a n w h p).mono fun e w' ⟨c,C⟩=>by subst C;exact⟨c,h,World.grownBy.refl _ _⟩
end
section
attribute [local go_sem ↓] Go.wp_at_zero Go.wp_at_succ
theorem bLg (c:Option Addr) (n cap i:Nat) (rs:List (Nat×Nat)) (w:World) (h:RSl w 2 c n cap (bG rs)) (C:n=rs.length) (D:i≤n):
  ∃(s:Option Addr) (q c3:Nat),(∀W:World,(Instr.slice 256 (.slice c n cap) (some i) none none).run prog W= .ok (.slice s q c3) W)∧RSl w 2 s q c3 (bG (rs.drop i))∧q=(rs.drop i).length:=by
 have E:prog.underlying 256=some (.slice (prog.elem 256)):=by kernel_rfl
 have G:∀W:World,(sizeOf (prog.elem 256)).run prog W= .ok 2 W:=fun W=>by kernel_rfl
 have m:∀W:World,(Instr.slice 256 (.slice c n cap) (some i) none none).run prog W= .ok (sliced c i n cap 2) W:=fun W=>by
  rw[run_slice_l (P:=prog) (w:=W) (t:=256) (a:=c) (len:=n) (cap:=cap) (ht:=E) (kl:= .i64) (l:=(i:Int)) (h0:=by omega) (h1:=by omega),G]
  rfl
 have I:n-i=(rs.drop i).length:=by rw[bMe,C]
 cases c with
 |none=>
  have h0:=h.2.2.2.1 rfl;have d:n=0:=by have:=h.2.1;omega
  have p:i=0:=by omega
  subst p;refine⟨none,n,cap,fun W=>?_,?_,by omega⟩
  ·rw[m];subst h0;subst d;rfl
  ·simpa using h
 |some y=>
  by_cases d:0<n
  ·obtain⟨b,r,e,K,N⟩:=h.2.2.2.2 d
   simp only[i5] at e;subst e;have z:=h.dropAt D;rw[aIb] at z;refine⟨_,n-i,cap-i,fun W=>?_,z,I⟩
   rw[m];unfold sliced;rw[show(Option.map (fun x:Addr=>x.add (i*2)) (some ⟨b,r,none⟩))=some ⟨b,r+i*2,none⟩ from by
    simp only[Option.map_some,i5];unfold Addr.add;split<;>simp_all]
  ·have A:=d
   have p:i=0:=by omega
   subst p;refine⟨(if cap=0 then some y else some (y.add 0)),n,cap,fun W=>?_,?_,by omega⟩
   ·rw[m];rfl
   ·refine⟨h.1,h.2.1,h.2.2.1,fun e=>?_,fun J=>absurd J A⟩
    split at e<;>simp at e
theorem aVh (mb size f:Nat) (rs:List (Nat×Nat)) (n:Int) (w:World) (h:dF w mb size rs) (am:f≤size):
  Calls prog 358 #[.pointer (some ⟨mb,0,none⟩),.int .i64 n,.int .i64 f] w (rZ w (.int .i64 (bLf (aDe size rs n f)))):=by
 obtain⟨h1,h2,O,an,v,c,ad⟩:=h;obtain⟨G,cap,rfl,y⟩:=RSl.of_owns ad;have T:=wO rs f;obtain⟨i,E⟩:=nZ (bE rs f);have aq:rs.length≤cap:=y.2.1;have ap:cap≤9223372036854775807:=by have:=y.2.2.1;unfold maxLen at this;exact this
 obtain⟨ay,I,c3,ao,U,V⟩:=bLg G rs.length cap i rs w y rfl (E▸T);have ae:=hZ (uU mb f G cap rs size w.drew (((c.below (i4 _ _).drew)).cell 1) (y.below (i4 _ _).drew) h1 O an);rw[←E] at ae T;have X:aDe size rs n f=mC size n (rs.drop i) f:=by rw[aDe,←E]
 rw[X];have Y:w.cell? ⟨mb,0,none⟩=some (.int .i64 size):=c.cell 0;have Z:w.cell? ⟨mb,1,none⟩=some (.slice G rs.length cap):=c.cell 1;have K:=c.lt;have af:=hZ U;have aa:=hZ V;have N:∀r∈rs.drop i,r.1+r.2≤size:=fun r hr=>(O.1 r (List.mem_of_mem_drop hr)).2
 obtain⟨a,Q⟩:=nZ (rs.drop i);rw[←Q] at af aa N⊢;have ah:=hZ N;have ar:a.length≤65536:=by rw[Q,bMe];omega
 have az:=hZ c;clear c ad y E X U V N Q O;go_enter func358,ntmps358;go_wp21;go_region_held3 (fun w'=>w'.cell? ⟨mb,1,none⟩=some (.slice G rs.length cap)) (go_keep)
  (first
   |(go_at_call 236;refine ae.o.mono ?_;rintro e R ⟨rfl,z⟩;have ai:=(z.cell (p:=⟨mb,1,none⟩) K).trans Z))
 have aj:=hZ (af.o.below (((i4 _ _).drew.trans z).mono (d8 _)));have ab:R.cell? ⟨mb,0,none⟩=some (.int .i64 size):=(((i4 _ _).drew.trans z).cell (p:=⟨mb,0,none⟩) K).trans Y;have ak:=hZ ((i4 w.heap.size w).drew.trans z);clear Y Z K z ai ao;go_wp21;have au:=aa.o;go_loopw [7,20] (fun t i wr=>∃k q:Nat,k≤I∧i= .int .i64 k∧t= .int .i64 q∧q≤size∧mC size n (a.drop k) q=mC size n a f∧Below R.heap.size R wr∧Below w.heap.size w wr) (fun _ i _=>I-(intOf i).toNat)
 case atStart=>exact⟨0,f,by omega,rfl,rfl,am,rfl,i4 _ _,ak.o⟩
 case round=>
  obtain⟨k,q,ba,rfl,rfl,bc,m,s,d⟩:=hrel;by_cases av:k<I
  ·obtain⟨b,ac,rfl,c,S⟩:=aj.o.2.2.2.2 (by omega)
   have A:k<a.length:=by omega
   obtain⟨r,hr⟩:=nZ (a.getD k (0,0));obtain⟨x,l⟩:=r;have c0:wr.cell? ⟨b,ac+k*2,none⟩=some (.int .i64 x):=by rw[s.cell (p:=⟨b,_,none⟩) c,S _ (by omega),(eW a k A).1,←hr]
   have bd:wr.cell? ⟨b,ac+k*2+1,none⟩=some (.int .i64 l):=by rw[bMc,s.cell (p:=⟨b,_,none⟩) c,S _ (by omega),(eW a k A).2,←hr]
   have be:x+l≤size:=ah.o (x,l) (by rw[hr,a8,b9 A];exact n5 _)
   have C:a.drop k=(x,l)::a.drop (k+1):=by
    rw[bNh A,hr,a8,b9 A];rfl
   rw[C] at m;have D:=hZ m;have al:IntKind.i64.wrap ((x:Int)-(q:Int))=(x:Int)-(q:Int):=bLo _ (by omega)
   have aw:IntKind.i64.wrap ((x:Int)+(l:Int))=(x:Int)+(l:Int):=bLo _ (by omega)
   clear C m hr S;by_cases J:n≤(x:Int)-(q:Int)
   ·go_wp21
    go_ret;exact⟨by rw[←D.o,mC,i6 J];rfl,by first|exact d.alloc d.size _|exact(d.alloc d.size _).drewN _⟩
   ·go_wp2_with fail
    go_roundw
    case rel=>
     refine⟨k+1,max q (x+l),by omega,by go_num,?_,by omega,by rw[←D.o,mC,i9 J],s.alloc s.size _,d.alloc d.size _⟩
     congr 1
     first|(split<;>omega)|omega
    case measure=>simp[intOf];omega
  ·have ag:k=I:=by omega
   have C:a.drop k=[]:=bNj (by omega)
   rw[C] at m;have D:=hZ m;clear C m;subst ag;have ax:wr.cell? ⟨mb,0,none⟩=some (.int .i64 size):=(s.cell (p:=⟨mb,0,none⟩) (block_lt_of_cell ab)).trans ab;have al:IntKind.i64.wrap ((size:Int)-(q:Int))=(size:Int)-(q:Int):=bLo _ (by omega)
   by_cases J:n≤(size:Int)-(q:Int)
   ·go_wp21
    go_ret;exact⟨by rw[←D.o,mC,i6 J];rfl,d⟩
   ·go_wp21
    go_ret;exact⟨by rw[←D.o,mC,i9 (by omega)];rfl,d⟩
theorem bCk (mb size:Nat) (rs:List (Nat×Nat)) (n f:Int) (w:World) (h:dF w mb size rs):
  Calls prog 354 #[.pointer (some mb),n,f] w fun e w'=>e= .returned (.tuple #[.int .i64 ((sI size rs n f).getD 0),.bool (sI size rs n f).isSome])∧bB w w':=by
 have t:w.cell? mb=some size:=by
  obtain⟨_,_,_,_,v,K,_⟩:=h;exact K.cell 0
 by_cases D:1≤n∧0≤f∧f≤size
 ·obtain⟨N,O,Q⟩:=D
  obtain⟨q,rfl⟩:∃q:Nat,f=q:=⟨f.toNat,by omega⟩
  have e:sI size rs n q=match aDe size rs n q with|some x=>some x|none=>aDe size rs n 0:=by
   rw[sI,i6 ⟨N,O,Q⟩];rfl
  rw[e];have r:=hZ fun W (b:bB w W)=>aVh mb size q rs n W (h.below b) (by omega)
  have l:=hZ fun W (b:bB w W)=>aVh mb size 0 rs n W (h.below b) (by omega)
  obtain⟨R,y⟩:∃o,o=aDe size rs n q:=⟨_,rfl⟩;obtain⟨S,z⟩:∃o,o=aDe size rs n 0:=⟨_,rfl⟩;rw[←y,←z];rw[←y] at r;rw[←z] at l;clear h e y z;have E:=block_lt_of_cell t;rcases R with _|T
  ·have s:=hZ fun W b=>(show Calls _ _ _ _ fun e w'=>e= .returned (.int .i64 (-1))∧_ from r.o W b)
   clear r;rcases S with _|U
   case' _=>
    have A:=hZ fun W b=>(show Calls _ _ _ _ fun e w'=>e= .returned (.int .i64 (-1))∧_ from l.o W b)
    clear l;go_in;go_wp21;refine bNb 3 ?_;rw[bMl];go_wp21;refine(s.o _ (bZ)).mono ?_;rintro e d ⟨rfl,a⟩;have I:d.cell? mb=some size:=by rw[a.cell (p:=mb) (by simp;omega),World.cell?_alloc_past _ _ _ E];exact t
    have J:d.cell? ⟨w.heap.size,1,none⟩=some (.int .i64 0):=by rw[a.cell (p:=⟨w.heap.size,1,none⟩) (by simp),bMr _ _ _ _ rfl];rfl
    have c:bB w d:=(bZ).trans (a.mono (by simp))
    clear a;go_wp21;rw[bMl];go_wp21;refine(A.o _ c).mono ?_;rintro e C ⟨rfl,m⟩;have G:bB w C:=c.trans (m.mono c.size);clear m;go_wp21;rw[bMl]
   rotate_left
   case' _=>
    have A:=hZ fun W b=>(show Calls _ _ _ _ fun e w'=>e= .returned U∧_ from l.o W b)
    clear l;go_in;go_wp21;refine bNb 3 ?_;rw[bMl];go_wp21;refine(s.o _ (bZ)).mono ?_;rintro e d ⟨rfl,a⟩;have I:d.cell? mb=some size:=by rw[a.cell (p:=mb) (by simp;omega),World.cell?_alloc_past _ _ _ E];exact t
    have J:d.cell? ⟨w.heap.size,1,none⟩=some (.int .i64 0):=by rw[a.cell (p:=⟨w.heap.size,1,none⟩) (by simp),bMr _ _ _ _ rfl];rfl
    have c:bB w d:=(bZ).trans (a.mono (by simp))
    clear a;go_wp21;rw[bMl];go_wp21;refine(A.o _ c).mono ?_;rintro e C ⟨rfl,m⟩;have G:bB w C:=c.trans (m.mono c.size);clear m
   all_goals
    go_wp21;go_ret2;exact⟨rfl,G⟩
  ·have s:=hZ fun W b=>(show Calls _ _ _ _ fun e w'=>e= .returned T∧_ from r.o W b)
   clear r l;go_in;go_wp21;refine bNb 3 ?_;rw[bMl];go_wp21;refine(s.o _ (bZ)).mono ?_;rintro e d ⟨rfl,a⟩;have c:=(bZ).trans (a.mono (by simp))
   clear a;go_wp21;go_ret2;exact⟨rfl,c⟩
 ·have e:sI size rs n f=none:=by rw[sI,i9 D]
  rw[e];clear h e;go_in;go_wp21
  all_goals (go_ret2;exact⟨rfl,i4 _ _⟩)
end
section
attribute [local go_sem ↓] Go.wp_at_zero Go.wp_at_succ
theorem bGb (n:Nat) (w:World) (h:1≤n) (h2:n≤65536):
  Calls prog 174 #[n] w fun e w'=>e= .returned (.tuple #[.pointer (some ⟨w.heap.size,0,none⟩),(0:Int)])∧dF w' w.heap.size n []∧bB w w':=by
 go_in;go_wp2;go_ret2;exact⟨rfl,⟨h2,h,⟨by simp,List.Pairwise.nil⟩,by simp,.slice none 0 0,Blk.new w 258 [n,.slice none 0 0],bMa _ _ _ _⟩,bZ⟩
theorem bBb (mb size:Nat) (rs:List (Nat×Nat)) (w:World) (h:dF w mb size rs):
  Calls prog 177 #[.pointer (some mb)] w fun e w'=>e= .returned size∧w=w':=by
 obtain⟨_,_,_,_,v,a,_⟩:=h;have b:=a.cell 0;go_in;go_wp2;go_ret;exact⟨rfl,rfl⟩
theorem bCy (mb size:Nat) (rs:List (Nat×Nat)) (w:World) (h:dF w mb size rs):
  Calls prog 178 #[.pointer (some mb)] w fun e w'=>∃v,e= .returned v∧w'.ownsRow w.heap.size 261 2 v rs.length (bG rs)∧bB w w':=by
 obtain⟨_,_,_,m,v,c,d⟩:=h;obtain⟨l,cap,rfl,hr⟩:=RSl.of_owns d;have p:=c.cell 1;go_in;go_wp21;refine(aFu l rs.length cap (bG rs) w hr (mW _) (by omega)).mono ?_
 rintro e q ⟨v1,rfl,a,b⟩;go_wp21;go_ret;exact⟨_,rfl,a,b⟩
theorem bEl (mb size:Nat) (rs:List (Nat×Nat)) (w:World) (h:dF w mb size rs):
  Calls prog 85 #[.pointer (some ⟨mb,0,none⟩)] w fun e w'=>∃cb,e= .returned (.pointer (some ⟨cb,0,none⟩))∧w.heap.size≤cb∧dF w' cb size rs∧Below w.heap.size w w':=by
 obtain⟨h1,h2,l,x,v,b,m⟩:=h;obtain⟨q,cap,rfl,hr⟩:=RSl.of_owns m;have s:=b.cell 0;have y:=b.cell 1;have H:=hZ (aFu q rs.length cap (bG rs) w.drew (hr.below (i4 _ _).drew) (mW _) (by omega))
 have d:=b.lt;have z:=hZ l;clear b m hr l;go_in;go_wp2_with fail;go_region_held3 (fun w'=>w'.cell? mb=some size∧w'.cell? ⟨mb,1,none⟩=some (.slice q rs.length cap)) (go_keep)
  (first
   |(go_at_call 150;refine H.o.mono ?_;rintro e A ⟨v1,rfl,c,a⟩;obtain⟨t,r,rfl,_⟩:=RSl.of_owns c;have C:=(a.cell (p:=mb) d).trans s;have D:=(a.cell (p:=⟨mb,1,none⟩) d).trans y))
 go_wp2_with fail;go_ret;exact⟨_,rfl,a.size,⟨h1,h2,z.o,x,_,Blk.new A 258 [size,.slice t rs.length r],cY (c.alloc _) (z6 _)⟩,((i4 _ _).drew.trans a).alloc a.size _⟩
theorem aEz (mb size:Nat) (rs:List (Nat×Nat)) (w:World) (h:dF w mb size rs):
  Calls prog 112 #[.pointer (some mb)] w fun e w'=>e= .returned (.int .i64 ((size:Int)-(fR rs:Int)))∧bB w w':=by
 have T:=aPc h.2.2.1;have Q:=h.1;have K:=hZ (bBb mb size rs w h);have N:=hZ (bCy mb size rs w h);have U:=h.2.2.2.1;clear h;go_in;go_wp2_with fail;refine K.o.mono ?_;rintro e y ⟨rfl,rfl⟩;go_wp2_with fail;refine N.o.mono ?_;rintro e y ⟨v1,rfl,q,E⟩;obtain⟨R,O,rfl,r⟩:=RSl.of_owns q;have G:=hZ r;clear q r;go_wp2_with fail;go_loopw [3,11] (fun t i wr=>∃k:Nat,k≤rs.length∧i= .int .i64 k∧t= .int .i64 ((size:Int)-(fR (rs.take k):Int))∧bB y wr∧bB w wr) (fun _ i _=>rs.length-(intOf i).toNat)
 case atStart=>exact⟨0,by omega,rfl,by simp[fR],i4 _ _,E⟩
 case round=>
  obtain⟨k,V,rfl,rfl,a,c⟩:=hrel;by_cases d:k<rs.length
  ·obtain⟨b,s,rfl,z,m⟩:=G.o.2.2.2.2 (by omega)
   obtain⟨x,A⟩:=nZ ((rs.getD k (0,0)).1);obtain⟨C,hy⟩:=nZ ((rs.getD k (0,0)).2);have c0:wr.cell? ⟨b,s+k*2,none⟩=some (.int .i64 x):=by rw[a.cell (p:=⟨b,_,none⟩) z,m _ (by omega),(eW rs k d).1,←A]
   have X:wr.cell? ⟨b,s+k*2+1,none⟩=some (.int .i64 C):=by rw[bMc,a.cell (p:=⟨b,_,none⟩) z,m _ (by omega),(eW rs k d).2,←hy]
   have l:=uM rs k d;rw[←hy] at l;have I:=aKn rs (k+1);have S:fR (rs.take k)+C≤size:=by omega
   have J:=hZ l;clear l m A hy I;go_wp2_with fail;go_roundw
   case rel=>exact⟨k+1,by omega,by go_num,by rw[J.o];go_num,a.alloc a.size _,c.alloc c.size _⟩
   case measure=>simp[intOf];omega
  ·have D:k=rs.length:=by omega
   subst D;rw[bLz];go_wp2_with fail;go_ret;exact⟨rfl,c⟩
end
theorem dF.ownKept {size:Nat} {e:TypeId} (h:dF w mb size rs) (y:w.ownsRow base e k v n xs) (t:e≠258) (x:e≠261) (c:w.grownBy w' v.ownBlock):dF w' mb size rs:=by
 obtain⟨h1,h2,m,p,v',a,d⟩:=h;rcases y.2 with⟨rfl,_⟩|⟨g,cap,A,rfl,_,q,_⟩
 ·refine⟨h1,h2,m,p,v',?_,d.kept c ?_⟩
  ·unfold Blk
   rw[c.block mb a.lt (by simp[Value.ownBlock])]
   exact a
  ·rcases d.2 with⟨rfl,_⟩|⟨z,r,s,rfl,_,b,_⟩
   ·exact .inl rfl
   ·exact .inr (by simp[Value.ownBlock])
 ·refine⟨h1,h2,m,p,v',?_,d.kept c ?_⟩
  ·unfold Blk
   rw[c.block mb a.lt ?_]
   ·exact a
   ·simp only[Value.ownBlock,ne_eq,i5]
    intro l;subst l;unfold Blk at a;rw[q] at a;simp only[i5,n7] at a;exact t a.2.1
  ·rcases d.2 with⟨rfl,_⟩|⟨z,r,s,rfl,_,b,_⟩
   ·exact .inl rfl
   ·refine .inr ?_
    simp only[Value.ownBlock,ne_eq,i5];intro l;subst l;rw[q] at b;simp only[i5,n7] at b;exact x b.2.1
def aNa (w:World) (F:Nat→Prop):Prop:=∀k,F k→k<w.heap.size→∃cs e,w.heap[k]?=some (.cells cs e (0,0))∧(e=168∨e=258∨e=3)
theorem Mod.owns {size:Nat} (h:Mod F w w') (ht:aNa w F) (m:w.ownsRow base e size v n xs) (h1:e≠168) (h2:e≠258) (q:e≠3):w'.ownsRow base e size v n xs:=by
 refine⟨m.1,?_⟩;rcases m.2 with s|⟨g,cap,p,t,x,c,r⟩
 ·exact .inl s
 ·refine .inr ⟨g,cap,p,t,x,?_,r⟩
  have l:=(i8.1 c).1;rw[h.block g l (fun y=>?_)]
  ·exact c
  ·obtain⟨cs,z,d,a⟩:=ht g y l
   rw[c] at d;simp only[i5,n7] at d;have b:=d.2.1;rcases a with a|a|a
   ·exact h1 (b.trans a)
   ·exact h2 (b.trans a)
   ·exact q (b.trans a)
theorem Mod.map {size:Nat} (h:Mod F w w') (ht:aNa w F) (a:dF w mb size rs) (b:¬F mb):dF w' mb size rs:=by
 obtain⟨h1,h2,c,d,v,l,m⟩:=a;exact⟨h1,h2,c,d,v,h.blk l b,h.owns ht m (by decide) (by decide) (by decide)⟩
theorem Blk.ownKept (h:Blk w g e cs) (b:w.ownsRow base e2 k v n xs) (a:e2≠e) (c:w.grownBy w' v.ownBlock):Blk w' g e cs:=by
 unfold Blk;rw[c.block g h.lt ?_]
 ·exact h
 ·rcases b.2 with⟨rfl,_⟩|⟨p,cap,m,rfl,_,d,_⟩
  ·simp[Value.ownBlock]
  ·simp only[Value.ownBlock,ne_eq,i5]
   intro l;subst l;unfold Blk at h;rw[d] at h;simp only[i5,n7] at h;exact a h.2.1
theorem zM (h:w.ownsRow base e k v n xs) (c:w.ownsRow base2 e2 k2 v2 n2 xs2) (b:e2≠e) (d:w.grownBy w' v2.ownBlock):w'.ownsRow base e k v n xs:=by
 refine h.kept d ?_;rcases h.2 with⟨rfl,_⟩|⟨g,cap,r,rfl,_,l,_⟩
 ·exact .inl rfl
 ·refine .inr ?_
  rcases c.2 with⟨rfl,_⟩|⟨s,p,q,rfl,_,a,_⟩
  ·simp[Value.ownBlock]
  ·simp only[Value.ownBlock,ne_eq,i5]
   intro m;subst m;rw[l] at a;simp only[i5,n7] at a;exact b a.2.1.symm
theorem iX (h:w.ownsRow base e k v n xs) (b:Blk w g e2 cs) (a:e≠e2):(w.setCell ⟨g,j,none⟩ u).ownsRow base e k v n xs:=aO h b a
theorem dF.setOther {size:Nat} (h:dF w mb size rs) (b:Blk w g e2 cs) (h1:258≠e2) (h2:261≠e2):dF (w.setCell ⟨g,j,none⟩ u) mb size rs:=by
 obtain⟨d,l,m,p,v,c,q⟩:=h;refine⟨d,l,m,p,v,c.other (a:=⟨g,j,none⟩) ?_ _,aO q b h2⟩;rintro rfl;unfold Blk at c b;rw[c] at b;simp only[i5,n7] at b;exact h1 b.2.1
abbrev MT:=Nat×Nat×List (Nat×Nat)
def rF (l:List Nat):List Value:=l.map fun b=> .pointer (some ⟨b,0,none⟩)
def fW (l:List Nat):List Value:=l.map fun x=> .int .i64 (x:Nat)
theorem aOm (l:List Nat):∀u∈rF l,u.oneCell'=true:=by
 intro u a;obtain⟨s,_,rfl⟩:=bMn.1 a;rfl
theorem aXo (l:List Nat):∀u∈fW l,u.oneCell'=true:=by
 intro u a;obtain⟨s,_,rfl⟩:=bMn.1 a;rfl
theorem aBx (a b:List Nat):rF (a++b)=rF a++rF b:=by simp[rF]
theorem bBf (l:List Nat) (j:Nat) (h:j<l.length):(rF l)[j]?=some (.pointer (some ⟨l.getD j 0,0,none⟩)):=by simp[rF,List.getD,h]
theorem aJu (l:List Nat) (j:Nat) (h:j<l.length):(fW l)[j]?=some (.int .i64 (l.getD j 0:Nat)):=by simp[fW,List.getD,h]
theorem aYh (l:List Nat) (j x:Nat):(fW l).set j (x:Nat)=fW (l.set j x):=by simp[fW,List.map_set]
def mD:MT:=(0,0,[])
structure aW (w:World) (bb eb:Nat) (gs:Gs) (secs:Int) (ms:List MT) (es:List Nat):Prop where
 right:bH gs secs=true
 mlen:ms.length=gs.length
 elen:es.length=gs.length
 mem:∃gv mv ec,Blk w bb 168 [gv,.int .i64 secs,mv,.slice (some ⟨eb,0,none⟩) gs.length ec]∧w.ownsRow 0 73 2 gv gs.length (iR gs)∧w.ownsRow 0 170 1 mv gs.length (rF (ms.map (·.1)))∧
  w.ownsRow 0 3 1 (.slice (some ⟨eb,0,none⟩) gs.length ec) gs.length (fW es)
 maps:∀m∈ms,dF w m.1 m.2.1 m.2.2
 nodup:(ms.map (·.1)).Nodup
def eK (bb eb:Nat) (ms:List MT) (k:Nat):Prop:=k=bb∨k=eb∨k∈ms.map (·.1)
theorem aW.tyOk {ms:List MT} (h:aW w bb eb gs secs ms es):aNa w (eK bb eb ms):=by
 intro k a _;obtain⟨gv,mv,ec,h1,h2,p,b⟩:=h.mem;rcases a with rfl|rfl|a
 ·exact⟨_,_,h1,.inl rfl⟩
 ·obtain⟨cs,c,_⟩:=gK b
  exact⟨_,_,c,.inr (.inr rfl)⟩
 ·obtain⟨m,d,rfl⟩:=bMn.1 a
  obtain⟨_,_,_,_,v,l,_⟩:=h.maps m d;exact⟨_,_,l,.inr (.inl rfl)⟩
theorem aW.lt {ms:List MT} (h:aW w bb eb gs secs ms es):∀k,eK bb eb ms k→k<w.heap.size:=by
 intro k a;obtain⟨gv,mv,ec,h1,h2,l,b⟩:=h.mem;rcases a with rfl|rfl|a
 ·exact h1.lt
 ·obtain⟨cs,c,_⟩:=gK b
  exact c.lt
 ·obtain⟨m,d,rfl⟩:=bMn.1 a
  exact(h.maps m d).lt
theorem aW.keep {ms:List MT} (h:aW w bb eb gs secs ms es) (a:Mod F w w') (ht:aNa w F) (b:∀k,eK bb eb ms k→¬F k):aW w' bb eb gs secs ms es:=by
 obtain⟨gv,mv,ec,h1,h2,d,l⟩:=h.mem;refine⟨h.right,h.mlen,h.elen,⟨gv,mv,ec,a.blk h1 (b _ (.inl rfl)),a.owns ht h2 (by decide) (by decide) (by decide),a.owns ht d (by decide) (by decide) (by decide),?_⟩,fun m c=>a.map ht (h.maps m c) (b _ (.inr (.inr (List.mem_map_of_mem c)))),h.nodup⟩
 obtain⟨cs,p,q,r,s,t,x⟩:=gK l;have:=gQ (base:=0) (n:=gs.length) (size:=1) (a.blk p (b _ (.inr (.inl rfl)))) q r s t
 rwa [x] at this
theorem aW.below {ms:List MT} (h:aW w bb eb gs secs ms es) (a:bB w w'):aW w' bb eb gs secs ms es:=
 h.keep (F:=fun _=>False) (Mod.below a) (fun _ h=>h.elim) (fun _ _ h=>h)
theorem aW.parts {ms:List MT} (h:aW w bb eb gs secs ms es):
  ∃(gb a mv b ec:Nat),w.cell? ⟨bb,0,none⟩=some (.slice (some ⟨gb,0,none⟩) gs.length a)∧w.cell? ⟨bb,1,none⟩=some (.int .i64 secs)∧w.cell? ⟨bb,2,none⟩=some (.slice (some ⟨mv,0,none⟩) gs.length b)∧w.cell? ⟨bb,3,none⟩=some (.slice (some ⟨eb,0,none⟩) gs.length ec)∧
   oZ w (some ⟨gb,0,none⟩) gs.length a gs∧(∀j,j<gs.length→w.cell? ⟨mv,j,none⟩=some (.pointer (some ⟨(ms.getD j mD).1,0,none⟩)))∧RSl w 1 (some ⟨eb,0,none⟩) gs.length ec (fW es)∧mv<w.heap.size∧eb<w.heap.size∧bb<w.heap.size:=by
 obtain⟨gv,mv,ec,h1,h2,c,d⟩:=h.mem;have hr:=aS h.right;obtain⟨gb,a,rfl,_⟩:=oW h2 (by omega)
 obtain⟨mb,b,rfl,_⟩:=oW c (by omega)
 obtain⟨cs,p,_⟩:=gK d;obtain⟨q,l,_⟩:=gK c;refine⟨gb,a,mb,b,ec,h1.cell 0,h1.cell 1,h1.cell 2,h1.cell 3,bI h2,fun j r=>?_,bI d,l.lt,p.lt,h1.lt⟩
 have s:=h.mlen;rw[c.cellAt j (by omega),bBf _ _ (by rw[List.length_map];omega)]
 have m:j<ms.length:=by omega
 simp[List.getD,m]
section
attribute [local go_sem ↓] Go.wp_at_zero Go.wp_at_succ
theorem bHk:(prog.info? 170).map (fun i=>(i.zero,i.size,i.bytes))=some (some (.pointer none),1,8):=by kernel_rfl
theorem aRq (n:Nat):(madeCells (Value.int .i64 0).cells (n*1)).toList=fW (List.replicate n 0):=by
 rw[Nat.mul_one,fW,List.map_replicate];exact toList_madeCells_one _ _
def aTa (gs:Gs) (secs:Int) (bs:List Nat) (k:Nat):List MT:=(List.range k).map fun i=>(bs.getD i 0,(jF (gs.getD i (0,0)) secs).toNat,[])
theorem aNj (l:Option Addr) (n cap:Nat) (gs:Gs) (secs:Int) (w:World) (h:oZ w l n cap gs) (hr:bH gs secs=true):
  Calls prog 110 #[.agg #[.slice l n cap,.int .i64 secs]] w fun e w'=>∃bb eb ms,e= .returned (.tuple #[.pointer (some ⟨bb,0,none⟩),.int .i64 0])∧aW w' bb eb gs secs ms (List.replicate gs.length 0)∧
   (∀j,j<gs.length→(ms.getD j mD).2=((jF (gs.getD j (0,0)) secs).toNat,[]))∧(∀k,eK bb eb ms k→w.heap.size≤k)∧Below w.heap.size w w':=by
 have bn:=h.len;have cg:=(aS hr).2.1;have ch:=(aS hr).1;obtain⟨cx,bo,ay,R,S⟩:=bMo aJy;have ad:Below w.heap.size w (w.alloc (.cells #[.slice l n cap,.int .i64 secs] 24)):=bZ;have hT:=gX l n cap gs secs (w.alloc (.cells #[.slice l n cap,.int .i64 secs] 24)) (h.below ad);have az:(w.alloc (.cells #[.slice l n cap,.int .i64 secs] 24)).cell? ⟨w.heap.size,0,none⟩=some (.slice l n cap):=by rw[bMr _ _ _ _ rfl];rfl
 have ba:(w.alloc (.cells #[.slice l n cap,.int .i64 secs] 24)).cell? ⟨w.heap.size,1,none⟩=some (.int .i64 secs):=by rw[bMr _ _ _ _ rfl];rfl
 have ci:=hZ az;have cj:=hZ ba;have ck:=hZ ad;rw[hr] at hT;have cy:=hZ hT;have ak:=hZ bn;have bq:=hZ h;have T:=hZ hr;have ea:n≤4:=by omega
 have ds:1≤n:=by omega
 have cl:∀W:World,(Instr.makeSlice 107 (.int .i64 (n:Int)) (.int .i64 (n:Int))).run prog W= .ok (.slice (some ⟨W.heap.size,0,none⟩) n n) (W.alloc (.cells (fW (List.replicate n 0)).toArray 3)):=fun W=>by
  have:=run_make (P:=prog) W 107 3 cx (.int .i64 0) underlying107 bo ay .i64 .i64 (n:Int) (n:Int) (by omega) (by omega) (by rw[S];omega) (by omega)
  rw[this,R];simp only[s7];have e:=aRq n;rw[←e]
 clear hT hr h ad az ba bn cg ch bo ay R S;go_enter func110,ntmps110;go_wp2_with fail;refine cy.o.mono ?_;rintro e c ⟨rfl,G⟩;have al:=hZ (ck.o.trans (G.mono (by simp)))
 have dt:w.heap.size+1≤c.heap.size:=by have:=G.size;simpa using this
 have c0:c.cell? ⟨w.heap.size,0,none⟩=some (.slice l n cap):=by rw[G.cell (p:=⟨w.heap.size,0,none⟩) (by simp)];exact ci.o
 have X:c.cell? ⟨w.heap.size,1,none⟩=some (.int .i64 secs):=by rw[G.cell (p:=⟨w.heap.size,1,none⟩) (by simp)];exact cj.o
 have am:=hZ c0;have br:=hZ X;clear G;go_upto_region 3 with fail
 go_cut [4] (fun v Y=>∃(bb eb:Nat) (gv:Value),v= .pointer (some ⟨bb,0,none⟩)∧Hid (Blk Y bb 168 [gv,.int .i64 secs,.slice none 0 0,.slice (some ⟨eb,0,none⟩) n n])∧Hid (Y.ownsRow 0 73 2 gv n (iR gs))∧Hid (Blk Y eb 3 (fW (List.replicate n 0)))∧Hid (Below c.heap.size c Y)∧w.heap.size+1≤bb∧w.heap.size≤eb)
 case first=>
  have cm:=hZ fun W (an:Below c.heap.size c W)=>(aGb l n cap (iR gs) W (RSl.below (RSl.below bq.o al.o) an) (aNx _) (by omega)).mono fun e w' (cz:∃v,e= .returned v∧w'.ownsRow W.heap.size 73 2 v n (iR gs)∧Below W.heap.size W w')=>(show ∃v,e= .returned v∧w'.ownsRow W.heap.size 73 2 v n (iR gs)∧Below W.heap.size W w'∧Below c.heap.size c w' from by obtain⟨v,h1,h2,bs⟩:=cz;exact⟨v,h1,h2,bs,an.trans (bs.mono an.size)⟩)
  have Q:w.heap.size<c.heap.size:=by omega
  go_region_held3 (fun w'=>w'.cell? ⟨w.heap.size,0,none⟩=some (.slice l n cap)∧w'.cell? ⟨w.heap.size,1,none⟩=some (.int .i64 secs)) (go_keep)
   (first
    |(go_at_call 120;refine(cm.o _ (by first|exact(i4 _ _).drew|exact((i4 _ _).drew).alloc (d8 _) _|exact(bZ).drew)).mono ?_;rintro e K ⟨v2,rfl,ac,I,q⟩;obtain⟨bc,ax,rfl,_⟩:=RSl.of_owns ac;have ed:=(q.cell (p:=⟨w.heap.size,0,none⟩) Q).trans am.o;have ee:=(q.cell (p:=⟨w.heap.size,1,none⟩) Q).trans br.o))
  ·go_wp2_with fail
   go_meet;refine⟨_,_,_,rfl,hZ (Blk.newAt 168 [.slice bc n ax,.int .i64 secs,.slice none 0 0,.slice (some ⟨K.heap.size,0,none⟩) n n] (by simp)),hZ (cY ((ac.alloc _).alloc _) (z6 _)),hZ ((Blk.new K 3 (fW (List.replicate n 0))).alloc _),hZ ((q.alloc q.size _).alloc (by have:=q.size;simp;omega) _),by have:=q.size;omega,by have:=q.size;omega⟩
  ·go_wp2_with fail
   go_meet;refine⟨_,_,_,rfl,hZ (Blk.newAt 168 [.slice bc n ax,.int .i64 secs,.slice none 0 0,.slice (some ⟨c.heap.size,0,none⟩) n n] rfl),hZ (cY (ac.alloc _) (z6 _)),hZ (((Blk.new c 3 (fW (List.replicate n 0))).drew.below I).alloc _),hZ (q.alloc q.size _),by have:=q.size;omega,by omega⟩
 case rest=>
  obtain⟨bb,eb,gv,rfl,bd,be,bf,U,cn,ef⟩:=hcut;have Q:w.heap.size<c.heap.size:=by omega
  have co:wc.cell? ⟨w.heap.size,0,none⟩=some (.slice l n cap):=(U.o.cell (p:=⟨w.heap.size,0,none⟩) Q).trans am.o;have bh:=hZ (U.o.mono (show w.heap.size+1≤c.heap.size by omega))
  have du:=U.o.size;clear cl c0 X;obtain⟨da,db,cp,cq,cr⟩:=bMo bHk;go_wp2_with fail;clear co;go_loopw [26] (fun i wr=>∃(k:Nat) (d:List Nat) (mv:Value),k≤n∧i= .int .i64 k∧d.length=k∧Hid (Blk wr bb 168 [gv,.int .i64 secs,mv,.slice (some ⟨eb,0,none⟩) n n])∧Hid (wr.ownsRow 0 73 2 gv n (iR gs))∧Hid (Blk wr eb 3 (fW (List.replicate n 0)))∧
   Hid (wr.ownsRow (w.heap.size+1) 170 1 mv k (rF d))∧Hid (∀j,j<k→dF wr (d.getD j 0) (jF (gs.getD j (0,0)) secs).toNat [])∧Hid d.Nodup∧Hid (∀b∈d,w.heap.size≤b∧b<wr.heap.size)∧Hid (Below (w.heap.size+1) c wr)) (fun i _=>n-(intOf i).toNat)
  case atStart=>exact⟨0,[],_,by omega,rfl,rfl,bd,be,bf,hZ (bMa _ _ _ _),hZ (fun j t=>absurd t (by omega)),hZ List.nodup_nil,hZ (by simp),bh⟩
  case round=>
   obtain⟨k,d,mv,ej,rfl,ae,ao,bt,ap,aq,bu,bv,ar,A⟩:=hrel;clear bd be bf U bh;by_cases eg:k<n
   ·obtain⟨bw,bx,rfl,_⟩:=RSl.of_owns aq.o
    have bi:w.heap.size<w.heap.size+1:=Nat.lt_succ_self _;have c0:wr.cell? ⟨w.heap.size,0,none⟩=some (.slice l n cap):=(A.o.cell (p:=⟨w.heap.size,0,none⟩) bi).trans am.o;have X:wr.cell? ⟨w.heap.size,1,none⟩=some (.int .i64 secs):=(A.o.cell (p:=⟨w.heap.size,1,none⟩) bi).trans br.o;have af:Below w.heap.size w wr:=al.o.trans (A.o.mono (by omega))
    have au:=yL l n cap gs secs (k:Nat) wr (bq.o.below af);have bj:=bM T.o (show k<gs.length by have:=ak.o;omega)
    obtain⟨_,_,dc,dd,_⟩:=aS T.o;have ct:=yT bj dc dd;have ag:nH gs secs (k:Nat)=((jF (gs.getD k (0,0)) secs).toNat:Nat):=by
     unfold nH;rw[i6 (xY T.o (by omega) (by have:=ak.o;omega)),s7]
     omega
    obtain⟨z,av⟩:=nZ ((jF (gs.getD k (0,0)) secs).toNat);rw[←av] at ag;rw[ag] at au;have de:=hZ au;have R:1≤z:=by omega
    have S:z≤65536:=by omega
    have df:=hZ av;have eh:=hZ af;have V:=hZ ae;clear au bj ct ag av af ae;go_wp2_with fail;refine de.o.mono ?_;rintro e K ⟨rfl,I⟩;have cc:=I.size;have dg:=hZ I;clear I;go_wp2_with fail;refine(bGb z K R S).mono ?_;rintro e s ⟨rfl,ah,ai⟩;have D:=hZ (dg.o.trans (ai.mono cc));have dv:=ai.size;have cd:=ah.lt;have bz:=hZ ah;obtain⟨r,bk⟩:=nZ K.heap.size;rw[←bk] at cd bz⊢;have dw:wr.heap.size≤r:=by omega
    have bl:=hZ (ao.o.below D.o);have E:=hZ (aD aq.o D.o);have d2:s.cell? ⟨bb,2,none⟩=some (.slice bw k bx):=bl.o.cell 2;have dx:=A.o.size;clear ah ai bk c0 X;go_wp2_with (at_builtin;go_must (refine bNe _ rfl (.tmp 40) (.tmp 42) 166 rfl (w.heap.size+1) 170 da (.pointer none) 1 8 underlying166 db cp cq cr rfl (by decide) (.slice bw k bx) k (rF d) rfl (E.o.alloc _) ⟨s.heap.size,0,none⟩ 1 1 (rF [r]) rfl rfl (Blk.news (Blk.newAt (w:=s) 170 (rF [r]) (by simp))) (aOm _) (by unfold maxLen;omega) (by omega) (by simp;omega) ?_;intro v4 w4 O ab _;rw[←aBx] at O;have C:=hZ ((bl.o.alloc (.cells (rF [r]).toArray 170)).ownKept (E.o.alloc _) (by decide) ab);have dy:=C.o.cell 2;have dz:=C.o.frozen 2;obtain⟨ca,vc,rfl,_⟩:=RSl.of_owns O;have dh:=hZ O;have N:=hZ ab;clear O ab))
    have Z:Below s.heap.size s (s.alloc (.cells (rF [r]).toArray 170)):=bZ;have bm:∀b sz,dF s b sz []→dF (w4.setCell ⟨bb,2,none⟩ (.slice ca (k+1) vc)) b sz []:=fun b sz h=>((h.below Z).ownKept (E.o.alloc _) (by decide) (by decide) N.o).setOther C.o (by decide) (by decide)
    have cu:=N.o.size;simp only[World.size_alloc] at cu;go_roundw
    case rel=>
     refine⟨k+1,d++[r],_,by omega,by go_num,by simp[V.o],hZ (C.o.setCell 2 _),hZ (iX (zM (aD (aD bt.o D.o) Z) (E.o.alloc _) (by decide) N.o) C.o (by decide)),
      hZ ((((ap.o.below D.o).below Z).ownKept (E.o.alloc _) (by decide) N.o).other (a:=⟨bb,2,none⟩) ?_ _),hZ (iX dh.o C.o (by decide)),hZ ?_,hZ ?_,hZ ?_,hZ ?_⟩
     ·rintro rfl
      have h1:=ao.o;have h2:=ap.o;unfold Blk at h1 h2;rw[h1] at h2;simp only[i5,n7] at h2;exact absurd h2.2.1 (by decide)
     ·intro j t
      rcases Nat.lt_or_ge j k with cv|ei
      ·have aw:(d++[r]).getD j 0=d.getD j 0:=by rw[a8,a8,bMz (by have:=V.o;omega)]
       rw[aw];obtain⟨di,dj,dk,dl,v,dm,dn⟩:=(bu.o j cv).below D.o;exact bm _ _ ⟨di,dj,dk,dl,v,dm,dn⟩
      ·have e0:j=k:=by omega
       subst e0;have aw:(d++[r]).getD j 0=r:=by rw[a8,bMq (by have:=V.o;omega),V.o];simp
       rw[aw,←df.o];exact bm _ _ bz.o
     ·rw[List.nodup_append]
      refine⟨bv.o,by simp,fun a dp b y=>?_⟩
      rw[y9.1 y];have:=(ar.o a dp).2;omega
     ·intro b y
      have dq:(w4.setCell ⟨bb,2,none⟩ (.slice ca (k+1) vc)).heap.size=w4.heap.size:=by simp[World.setCell]
      rw[dq];rcases bMu.1 y with y|y
      ·have:=ar.o b y;omega
      ·rw[y9.1 y];omega
     ·have h1:Below (w.heap.size+1) c s:=A.o.trans (D.o.mono (by omega))
      exact(cF (base:=w.heap.size+1) (h1.trans (Z.mono (by omega))) (E.o.alloc _) N.o (by simp;omega) (d8 _)).setCell (p:=⟨bb,2,none⟩) cn _
    case measure=>simp[intOf];omega
   ·have cf:k=n:=by omega
    subst cf;go_wp2_with fail;go_ret2;have J:=ak.o;have cw:∀j,j<k→(aTa gs secs d k).getD j mD=(d.getD j 0,(jF (gs.getD j (0,0)) secs).toNat,[]):=fun j t=>by simp[aTa,List.getD,t]
    have aj:(aTa gs secs d k).map (·.1)=d:=by
     apply bNw
     ·simp[aTa,ae]
     ·intro j h1 h2
      simp only[aTa,List.map_map,List.getElem_map,List.getElem_range,Function.comp];rw[a8,b9 h2];rfl
    refine⟨bb,eb,aTa gs secs d k,rfl,⟨T.o,by simp[aTa,J],by simp,⟨gv,mv,k,?_,?_,?_,?_⟩,?_,by rw[aj];exact bv.o⟩,fun j t=>by rw[cw j (by omega)],fun x aa=>?_,al.o.trans (A.o.mono (by omega))⟩
    ·rw[J];exact ao.o
    ·rw[J];exact bt.o
    ·rw[J,aj];exact cY aq.o (z6 _)
    ·rw[J]
     have:=gQ (base:=0) (n:=k) (cap:=k) (size:=1) ap.o (z6 _) (d8 _) (by unfold maxLen;omega) (by simp[fW])
     rwa [bLq (by simp[fW])] at this
    ·intro m dr
     obtain⟨j,t,rfl⟩:=bMn.1 dr;exact bu.o j (bMp.1 t)
    ·rcases aa with rfl|rfl|aa
     ·omega
     ·omega
     ·rw[aj] at aa;exact(ar.o x aa).1
end
section
attribute [local go_sem ↓] Go.wp_at_zero Go.wp_at_succ
def jM (m:MT):Int:=(m.2.1:Int)-(fR m.2.2:Int)
def tQ (ms:List MT):Int:=(ms.map jM).sum
theorem aFg (ms:List MT) (k:Nat) (h:k<ms.length):tQ (ms.take (k+1))=tQ (ms.take k)+jM (ms.getD k mD):=by
 unfold tQ;rw[m8 h,bNa,List.sum_append,a8,b9 h];simp
theorem dF.left_bd {size:Nat} (h:dF w mb size rs):0≤(size:Int)-(fR rs:Int)∧(size:Int)-(fR rs:Int)≤65536:=by
 have h1:=aPc h.2.2.1;have h2:=h.1;omega
theorem aW.left_bd {ms:List MT} (h:aW w bb eb gs secs ms es):∀k,k≤ms.length→0≤tQ (ms.take k)∧tQ (ms.take k)≤65536*k:=by
 intro k
 induction k with
 |zero=>intro _;simp[tQ]
 |succ k a=>
  intro b;have h1:=a (by omega)
  have c:=(h.maps (ms.getD k mD) (by rw[a8,b9 (by omega)];exact n5 _)).left_bd
  rw[aFg ms k (by omega)]
  unfold jM;omega
theorem aZq (bb eb:Nat) (gs:Gs) (secs:Int) (ms:List MT) (es:List Nat) (w:World) (h:aW w bb eb gs secs ms es):
  Calls prog 55 #[.pointer (some bb)] w fun e w'=>e= .returned (.int .i64 (tQ ms))∧bB w w':=by
 obtain⟨gb,ae,mv,af,ec,c0,S,c2,c3,J,s,K,N,ac,ad⟩:=h.parts;have hr:=aS h.right;have O:=hr.2.1;have d:=h.mlen;have Q:=hZ h.left_bd;have A:=hZ s;have T:=hZ h;obtain⟨n,C⟩:=nZ gs.length;rw[←C] at c2 O d A;have x:=hZ d;clear h c0 S c3 J s K hr d C;go_in;go_wp2_with fail;go_loopw [3,13] (fun t i wr=>∃k:Nat,k≤n∧i= .int .i64 k∧t= .int .i64 (tQ (ms.take k))∧Hid (bB w wr)) (fun _ i _=>n-(intOf i).toNat)
 case atStart=>exact⟨0,by omega,rfl,rfl,hZ (i4 _ _)⟩
 case round=>
  obtain⟨k,ag,rfl,rfl,a⟩:=hrel;by_cases R:k<n
  ·have D:=(a.o.cell (p:=⟨mv,k,none⟩) N).trans (A.o k R)
   have l:k<ms.length:=by have:=x.o;omega
   have q:=aFg ms k l;have r:ms.getD k mD∈ms:=by rw[a8,b9 l];exact n5 _
   have b:=T.o.maps _ r;have E:=b.left_bd;obtain⟨m,y⟩:=nZ (ms.getD k mD);rw[←y] at D q b E;obtain⟨U,V,X⟩:=m;have Y:=hZ (aEz U V X wr (b.below a.o));have z:=hZ q;have c:=Q.o k (by omega)
   obtain⟨Z,aa⟩:=c;obtain⟨L,G⟩:=nZ (tQ (ms.take k));rw[←G] at z Z aa⊢;dsimp only at D E;clear y r b q G l;go_wp2_with fail;refine Y.o.mono ?_;rintro e ah ⟨rfl,c⟩;have ab:=hZ (a.o.trans (c.mono a.o.size));clear c;go_wp2_with fail;go_roundw
   case rel=>exact⟨k+1,by omega,by go_num,by rw[z.o];rfl,ab⟩
   case measure=>simp[intOf];omega
  ·have I:k=n:=by omega
   have ht:ms.take k=ms:=bLq (by have:=x.o;omega)
   rw[ht];clear ht;subst I;go_wp2_with fail;go_ret;exact⟨rfl,a.o⟩
end
section
attribute [local go_sem ↓] Go.wp_at_zero Go.wp_at_succ
def cpM (ms:List MT) (bs:List Nat):List MT:=(List.range ms.length).map fun i=>(bs.getD i 0,(ms.getD i mD).2)
theorem aRy (ms:List MT) (a:List Nat):(cpM ms a).length=ms.length:=by simp[cpM]
theorem aLq (ms:List MT) (a:List Nat) (h:a.length=ms.length):(cpM ms a).map (·.1)=a:=by
 apply bNw
 ·simp[cpM,h]
 ·intro j h1 h2
  simp only[cpM,List.map_map,List.getElem_map,List.getElem_range,Function.comp];rw[a8,b9 h2];rfl
theorem aBn (bb eb:Nat) (gs:Gs) (secs:Int) (ms:List MT) (es:List Nat) (w:World) (h:aW w bb eb gs secs ms es):
  Calls prog 41 #[.pointer (some ⟨bb,0,none⟩)] w fun e w'=>∃cb ce c,e= .returned (.pointer (some ⟨cb,0,none⟩))∧c.length=ms.length∧aW w' cb ce gs secs (cpM ms c) es∧
   (∀k,eK cb ce (cpM ms c) k→w.heap.size≤k)∧Below w.heap.size w w':=by
 obtain⟨br,dw,dx,r1,r2,cp,cq⟩:=h.mem;obtain⟨gb,z,mv,cr,ec,c0,be,c2,c3,bs,ar,aa,bt,dy,O⟩:=h.parts;have hr:=aS h.right;have bu:=hr.2.1;have bv:=hr.1;have ab:=h.mlen;have au:=h.elen;have av:br= .slice (some ⟨gb,0,none⟩) gs.length z:=by
  have:=r1.cell 0;rw[c0] at this;simpa using this.symm
 have bf:=hZ ar;have ct:=hZ h;have bw:=hZ r2;have bx:=hZ av;have bz:=hZ aa;have ca:=hZ h.right;have cc:=hZ au;obtain⟨cu,cv,cd,cf,cg⟩:=bMo bHk;have aw:=hZ fun W (cw:Below w.heap.size w W)=>(aSg (some ⟨eb,0,none⟩) gs.length ec (fW es) W (RSl.below aa cw) (aXo _) (by omega))
 obtain⟨n,aj⟩:=nZ gs.length;rw[←aj] at c0 c2 c3 bu bv ab bf aw bz;have Q:=hZ ab;have cx:=hZ aj;have cy:=hZ c0;have cz:=hZ be;have da:=hZ c3;have db:=hZ c2;clear h bs ar aa hr ab aj r1 r2 cp cq av au c2;go_enter func41,ntmps41;go_wp2_with fail;go_region_held3 (fun w'=>w'.cell? ⟨bb,0,none⟩=some (.slice (some ⟨gb,0,none⟩) n z)∧w'.cell? ⟨bb,1,none⟩=some (.int .i64 secs)∧w'.cell? ⟨bb,3,none⟩=some (.slice (some ⟨eb,0,none⟩) n ec)) (go_keep)
  (first
   |(go_at_call 84;refine(aw.o _ (by first|exact(i4 _ _).drew|exact i4 _ _)).mono ?_;rintro e T ⟨v2,rfl,K,A⟩;obtain⟨dz,s,rfl,_⟩:=RSl.of_owns K;have ch:=(A.cell (p:=⟨bb,0,none⟩) O).trans cy.o;have ci:=(A.cell (p:=⟨bb,1,none⟩) O).trans cz.o;have cj:=(A.cell (p:=⟨bb,3,none⟩) O).trans da.o))
 obtain⟨ce,rfl,ck⟩:=aWf K (by omega)
 have dm:w.heap.size≤ce:=ck;have N:Below w.heap.size w T:=(i4 _ _).drew.trans A;obtain⟨cb,ac⟩:=nZ T.heap.size;obtain⟨G,C⟩:=nZ (T.alloc (.cells #[.slice (some ⟨gb,0,none⟩) n z,.int .i64 secs,.slice none 0 0,.slice (some ⟨ce,0,none⟩) n s] 168));rw[←ac,←C];have ad:Hid (Blk G cb 168 [.slice (some ⟨gb,0,none⟩) n z,.int .i64 secs,.slice none 0 0,.slice (some ⟨ce,0,none⟩) n s]):=hZ (by rw[C,ac];exact Blk.new T _ _)
 have ax:Hid (G.ownsRow w.heap.size 3 1 (.slice (some ⟨ce,0,none⟩) n s) n (fW es)):=hZ (by rw[C];exact K.alloc _)
 have bh:Hid (Below w.heap.size w G):=hZ (by rw[C];exact N.alloc N.size _)
 have bn:w.heap.size≤cb:=by have:=N.size;omega
 have dn:cb<G.heap.size:=ad.o.lt;have d2:G.cell? ⟨bb,2,none⟩=some (.slice (some ⟨mv,0,none⟩) n cr):=(bh.o.cell (p:=⟨bb,2,none⟩) O).trans db.o;clear K A N ch ci cj ac C c0 be c3;go_wp2_with fail;clear d2;go_loopw [24] (fun i wr=>∃(k:Nat) (c:List Nat) (l:Value),k≤n∧i= .int .i64 k∧c.length=k∧Hid (Blk wr cb 168 [.slice (some ⟨gb,0,none⟩) n z,.int .i64 secs,l,.slice (some ⟨ce,0,none⟩) n s])∧
  Hid (wr.ownsRow w.heap.size 3 1 (.slice (some ⟨ce,0,none⟩) n s) n (fW es))∧Hid (wr.ownsRow w.heap.size 170 1 l k (rF c))∧Hid (∀j,j<k→dF wr (c.getD j 0) (ms.getD j mD).2.1 (ms.getD j mD).2.2)∧Hid c.Nodup∧Hid (∀b∈c,w.heap.size≤b∧b<wr.heap.size)∧Hid (Below w.heap.size w wr)) (fun i _=>n-(intOf i).toNat)
 case atStart=>exact⟨0,[],_,by omega,rfl,rfl,ad,ax,hZ (bMa _ _ _ _),hZ (fun j U=>absurd U (by omega)),hZ List.nodup_nil,hZ (by simp),bh⟩
 case round=>
  obtain⟨k,c,l,eh,rfl,ay,I,bi,ak,bj,bk,al,t⟩:=hrel;clear ad ax;by_cases cl:k<n
  ·obtain⟨l,ae,rfl,_⟩:=RSl.of_owns ak.o
   have az:k<ms.length:=by have:=Q.o;omega
   have bl:wr.cell? ⟨mv,k,none⟩=some (.pointer (some ⟨(ms.getD k mD).1,0,none⟩)):=(t.o.cell (p:=⟨mv,k,none⟩) bt).trans (bf.o k cl);have ap:ms.getD k mD∈ms:=by rw[a8,b9 az];exact n5 _
   have af:=ct.o.maps _ ap;obtain⟨m,ag⟩:=nZ (ms.getD k mD);rw[←ag] at bl af;have cm:=hZ ag;obtain⟨dc,dd,de⟩:=m;have hT:=bEl dc dd de wr.drew ((af.below t.o).below (i4 _ _).drew);have df:=hZ hT;have R:=hZ ay;have bo:=t.o.size;have e2:wr.cell? ⟨cb,2,none⟩=some (.slice l k ae):=I.o.cell 2;have ei:wr.frozen? ⟨cb,2,none⟩=false:=I.o.frozen 2;have dp:=I.o.lt;dsimp only at bl;clear ag ap af hT ay az;go_wp2_with fail;go_region_law
    (first
     |(go_simp;go_at_call 85;refine df.o.mono ?_;rintro e w4 ⟨d,rfl,ba,ah,ai⟩;have q:=hZ ((i4 wr.heap.size wr).drew.trans ai);have D:=hZ (I.o.below q.o);have J:=hZ (aD ak.o q.o);have ea:=D.o.cell 2;have ed:=D.o.frozen 2;have dq:(w4.alloc (.cells #[.pointer (some ⟨d,0,none⟩)] 170)).cell? ⟨cb,2,none⟩=some (.slice l k ae):=(D.o.alloc _).cell 2;have dr:(w4.alloc (.cells #[.pointer (some ⟨d,0,none⟩)] 170)).frozen? ⟨cb,2,none⟩=false:=(D.o.alloc _).frozen 2;have ds:wr.heap.size≤d:=ba;have dt:=ah.lt;have dg:=hZ ah;have du:=ai.size;clear ah ai ba)
     |(refine step_append_lies _ (by rfl) _ _ _ (by rfl) w.heap.size 170 cu (.pointer none) 1 8 underlying166 cv cd cf cg rfl (by omega) (.slice l k ae) k (rF c) (by rfl) (J.o.alloc _) ⟨w4.heap.size,0,none⟩ 1 1 (rF [d]) (by rfl) rfl (Blk.news (Blk.newAt (w:=w4) 170 (rF [d]) rfl)) (aOm _) (by omega) (by unfold maxLen;omega) (by omega) (by have:=q.o.size;simp;omega) (w4.heap.size+1) (by simp) ?_;intro bm aq am Z Y cn bc;rw[←aBx] at Z;have y:=hZ ((D.o.alloc (.cells (rF [d]).toArray 170)).ownKept (J.o.alloc _) (by decide) Y);have ee:=y.o.cell 2;have ef:=y.o.frozen 2;have dh:=hZ Z;have V:=hZ Y;clear Z Y cn))
   all_goals
    have an:Below w4.heap.size w4 (w4.alloc (.cells (rF [d]).toArray 170)):=bZ;have bd:∀b sz rs,dF w4 b sz rs→dF (am.setCell ⟨cb,2,none⟩ (.slice (some ⟨bm,0,none⟩) (k+1) aq)) b sz rs:=fun b sz rs h=>((h.below an).ownKept (J.o.alloc _) (by decide) (by decide) V.o).setOther y.o (by decide) (by decide)
    have co:=V.o.size;simp only[World.size_alloc] at co;have dv:wr.drew.heap.size=wr.heap.size:=rfl;have dl:wr.heap.size≤w4.heap.size:=q.o.size;go_wp2_with fail;go_roundw
    case rel=>
     refine⟨k+1,c++[d],_,by omega,by go_num,by simp[R.o],hZ (y.o.setCell 2 _),hZ (iX (zM (aD (aD bi.o q.o) an) (J.o.alloc _) (by decide) V.o) y.o (by decide)),
      hZ (iX dh.o y.o (by decide)),hZ ?_,hZ ?_,hZ ?_,hZ ?_⟩
     ·intro j U
      rcases Nat.lt_or_ge j k with bc|eg
      ·have ao:(c++[d]).getD j 0=c.getD j 0:=by rw[a8,a8,bMz (by have:=R.o;omega)]
       rw[ao];exact bd _ _ _ ((bj.o j bc).below q.o)
      ·have e0:j=k:=by omega
       subst e0;have ao:(c++[d]).getD j 0=d:=by rw[a8,bMq (by have:=R.o;omega),R.o];simp
       rw[ao,←cm.o];exact bd _ _ _ dg.o
     ·rw[List.nodup_append]
      refine⟨bk.o,by simp,fun a di b r=>?_⟩
      rw[y9.1 r];have:=(al.o a di).2;omega
     ·intro b r
      have dj:(am.setCell ⟨cb,2,none⟩ (.slice (some ⟨bm,0,none⟩) (k+1) aq)).heap.size=am.heap.size:=by simp[World.setCell]
      rw[dj];rcases bMu.1 r with r|r
      ·have:=al.o b r;omega
      ·rw[y9.1 r];omega
     ·have h1:Below w.heap.size w w4:=t.o.trans (q.o.mono bo)
      exact(cF (base:=w.heap.size) (h1.trans (an.mono (by omega))) (J.o.alloc _) V.o (by simp;omega) (d8 _)).setCell (p:=⟨cb,2,none⟩) bn _
    case measure=>simp[intOf];omega
  ·have bq:k=n:=by omega
   subst bq;go_wp2_with fail;go_ret;have S:c.length=ms.length:=by have:=Q.o;omega
   have E:=cx.o;refine⟨cb,ce,c,rfl,S,⟨ca.o,by rw[aRy];have:=Q.o;omega,by have:=cc.o;omega,⟨.slice (some ⟨gb,0,none⟩) k z,l,s,?_,?_,?_,?_⟩,?_,by rw[aLq _ _ S];exact bk.o⟩,fun x X=>?_,t.o⟩
   ·rw[←E];exact I.o
   ·have:=aD bw.o t.o
    rw[bx.o,←E] at this;rw[←E];exact this
   ·rw[←E,aLq _ _ S];exact cY ak.o (z6 _)
   ·rw[←E];exact cY bi.o (z6 _)
   ·intro m dk
    obtain⟨j,U,rfl⟩:=bMn.1 dk;exact bj.o j (by have:=bMp.1 U;have:=Q.o;omega)
   ·rcases X with rfl|rfl|X
    ·omega
    ·omega
    ·rw[aLq _ _ S] at X;exact(al.o x X).1
end
section
attribute [local go_sem ↓] Go.wp_at_zero Go.wp_at_succ
theorem sC {f:FuncId}
  (h:Calls P f args (w.drewN n) fun e w'=>e= .returned v∧w.drewN n=w'):Calls P f args (w.drewN n) fun e a=>e= .returned v∧∃m,a=w.drewN m:=
 h.mono fun _ _ ⟨b,c⟩=>⟨b,n,c.symm⟩
def jH (a b:Int):Int:=if a<b then-1 else if b<a then 1 else 0
theorem lM (a b:Int) (w:World):Calls prog 157 #[a,b] w fun e w'=>e= .returned (.int .i64 (jH a b))∧w=w':=by
 unfold jH;by_cases h1:a<b
 ·rw[i6 h1]
  go_in;go_wp2;go_ret;exact⟨rfl,rfl⟩
 ·by_cases h2:b<a
  ·rw[i9 h1,i6 h2]
   go_in;go_wp2;go_ret;exact⟨rfl,rfl⟩
  ·rw[i9 h1,i9 h2]
   go_in;go_wp2;go_ret;exact⟨rfl,rfl⟩
def vN (b:Bool):Int:=if b then 1 else 0
theorem aPz (b:Bool) (w:World):Calls prog 357 #[b] w fun e w'=>e= .returned (.int .i64 (vN b))∧w=w':=by
 cases b
 all_goals
  go_in;go_wp2;go_ret;exact⟨rfl,rfl⟩
def orI (a b:Int):Int:=if a≠0 then a else b
theorem aVj (a b:Int) (g:Nat) (w:World) (c0:w.cell? ⟨g,0,none⟩=some (.int .i64 a)) (h:w.cell? ⟨g,1,none⟩=some (.int .i64 b)):
  Calls prog 156 #[.slice (some ⟨g,0,none⟩) 2 2] w fun e w'=>e= .returned (.int .i64 (orI a b))∧w=w':=by
 unfold orI;by_cases h1:a=0
 ·rw[i9 (by simpa using h1)]
  have d:(a != 0)=false:=by simpa using h1
  by_cases h2:b=0
  ·have c:(b != 0)=false:=by simpa using h2
   go_in;go_wp21;refine bNb 3 ?_;rw[bMl];go_wp21;rw[bMl];go_wp21;rw[bMl];go_wp21;go_ret;exact⟨by rw[h2];rfl,rfl⟩
  ·have c:(b != 0)=true:=by simpa using h2
   go_in;go_wp21;refine bNb 3 ?_;rw[bMl];go_wp21;rw[bMl];go_wp21;go_ret;exact⟨rfl,rfl⟩
 ·rw[i6 h1]
  have d:(a != 0)=true:=by simpa using h1
  go_in;go_wp21;refine bNb 3 ?_;rw[bMl];go_wp21;go_ret;exact⟨rfl,rfl⟩
def vY (ms:List MT) (last:Int) (x y:Nat):Int:=
 if(((x:Int) == last) != ((y:Int) == last))=true then jH (vN ((x:Int) == last)) (vN ((y:Int) == last))
 else if jH (jM (ms.getD y mD)) (jM (ms.getD x mD))≠0 then jH (jM (ms.getD y mD)) (jM (ms.getD x mD)) else jH x y
theorem aEg {a b:Int}:jH a b<0↔a<b:=by
 unfold jH;split
 ·simp_all
 ·split<;>simp_all<;>omega
theorem aAd {a b:Int}:jH a b=0↔a=b:=by
 unfold jH;split
 ·simp;omega
 ·split
  ·simp;omega
  ·simp;omega
theorem zS {ms:List MT} {x a:Nat}:vY ms last x a<0↔((x:Int)≠last∧(a:Int)=last)∨(((x:Int)=last↔(a:Int)=last)∧(jM (ms.getD a mD)<jM (ms.getD x mD)∨(jM (ms.getD a mD)=jM (ms.getD x mD)∧x<a))):=by
 unfold vY vN;by_cases b:(x:Int)=last<;>by_cases hy:(a:Int)=last
 ·simp only[b,hy,beq_self_eq_true,bne_self_eq_false,Bool.false_eq_true,if_false]
  have d:x=a:=by omega
  subst d;have:¬(jH (jM (ms.getD x mD)) (jM (ms.getD x mD))≠0):=by simp[aAd]
  rw[i9 this,aEg];simp
 ·have e:((a:Int) == last)=false:=by simpa using hy
  simp[b,hy,e,jH]
 ·have e:((x:Int) == last)=false:=by simpa using b
  simp[b,hy,e,jH]
 ·have e:((x:Int) == last)=false:=by simpa using b
  have e2:((a:Int) == last)=false:=by simpa using hy
  simp only[e,e2,bne_self_eq_false,Bool.false_eq_true,if_false];by_cases c:jH (jM (ms.getD a mD)) (jM (ms.getD x mD))=0
  ·rw[i9 (by simpa using c),aEg]
   rw[aAd] at c;constructor
   ·intro h;exact .inr ⟨⟨fun h=>absurd h b,fun h=>absurd h hy⟩,.inr ⟨c,by omega⟩⟩
   ·rintro(⟨_,h⟩|⟨_,h|⟨_,h⟩⟩)
    ·exact absurd h hy
    ·omega
    ·omega
  ·rw[i6 (by simpa using c),aEg]
   rw[aAd] at c;constructor
   ·intro h;exact .inr ⟨⟨fun h=>absurd h b,fun h=>absurd h hy⟩,.inl h⟩
   ·rintro(⟨_,h⟩|⟨_,h|⟨h,_⟩⟩)
    ·exact absurd h hy
    ·exact h
    ·exact absurd h c
theorem aDt (ms:List MT) (last:Int) (m:Nat):Swo m (vY ms last):=by
 refine⟨fun x l _ _ h1 h2=>?_,fun x l z _ _ _ h1 h2 h=>?_⟩
 ·rw[zS] at h1 h2
  rcases h1 with⟨a,b⟩|⟨a,b⟩<;>rcases h2 with⟨c,d⟩|⟨c,d⟩
  ·omega
  ·omega
  ·omega
  ·omega
 ·rw[zS] at h1 h2 h
  rcases h with⟨a,b⟩|⟨a,b⟩
  ·omega
  ·omega
theorem aQv (E K bb eb:Nat) (gs:Gs) (secs:Int) (ms:List MT) (es:List Nat) (last:Int) (x a:Nat) (w:World) (h:aW w bb eb gs secs ms es) (h0:w.cell? ⟨E,0,none⟩=some (.pointer (some ⟨bb,0,none⟩))) (h1:w.cell? ⟨K,0,none⟩=some (.int .i64 last)) (al:x<gs.length) (hy:a<gs.length):
  Calls prog 356 #[.int .i64 (x:Nat),.int .i64 (a:Nat),.pointer (some ⟨E,0,none⟩),.pointer (some ⟨K,0,none⟩)] w fun e w'=>e= .returned (.int .i64 (vY ms last x a))∧bB w w':=by
 obtain⟨gb,bo,mv,bj,ec,c0,bk,c2,c3,au,U,av,J,bn,aj⟩:=h.parts;have hr:=aS h.right;have aw:=hr.2.1;have ax:=h.mlen;have ak:=block_lt_of_cell h0;have N:=U x al;have O:=U a hy;have V:=h.maps (ms.getD x mD) (by rw[a8,b9 (show x<ms.length by omega)];exact n5 _)
 have X:=h.maps (ms.getD a mD) (by rw[a8,b9 (show a<ms.length by omega)];exact n5 _)
 have r:Hid (vY ms last x a=if(((x:Int) == last) != ((a:Int) == last))=true then jH (vN ((x:Int) == last)) (vN ((a:Int) == last)) else if jH (jM (ms.getD a mD)) (jM (ms.getD x mD))≠0 then jH (jM (ms.getD a mD)) (jM (ms.getD x mD)) else jH x a):=hZ rfl
 obtain⟨mx,ag⟩:∃m,m=ms.getD x mD:=⟨_,rfl⟩;obtain⟨bl,ah⟩:∃m,m=ms.getD a mD:=⟨_,rfl⟩;rw[←ag] at N V r;rw[←ah] at O X r;obtain⟨ac,Q,R⟩:=mx;obtain⟨y1,y2,S⟩:=bl;have Y:=hZ fun W (t:bB w W)=>(aEz ac Q R W (V.below t)).mono fun e w' (G:e= .returned (.int .i64 ((Q:Int)-(fR R:Int)))∧bB W w')=>(show e= .returned (.int .i64 ((Q:Int)-(fR R:Int)))∧bB w w' from⟨G.1,t.trans (G.2.mono t.size)⟩)
 have Z:=hZ fun W (t:bB w W)=>(aEz y1 y2 S W (X.below t)).mono fun e w' (G:e= .returned (.int .i64 ((y2:Int)-(fR S:Int)))∧bB W w')=>(show e= .returned (.int .i64 ((y2:Int)-(fR S:Int)))∧bB w w' from⟨G.1,t.trans (G.2.mono t.size)⟩)
 obtain⟨y,aa⟩:∃l,l=(Q:Int)-(fR R:Int):=⟨_,rfl⟩;obtain⟨z,ab⟩:∃l,l=(y2:Int)-(fR S:Int):=⟨_,rfl⟩;have A:=r.o;unfold jM at A;dsimp only at A;rw[←aa,←ab] at A;rw[←aa] at Y;rw[←ab] at Z;have r:=hZ A;obtain⟨n,am⟩:=nZ gs.length;rw[←am] at c2 al hy;dsimp only at N O;have bq:(0:Int)≤(x:Int):=by omega
 have br:(0:Int)≤(a:Int):=by omega
 have bs:(x:Int)<(n:Int):=by omega
 have bt:(a:Int)<(n:Int):=by omega
 have an:=hZ h0;have ao:=hZ c2;have ap:=hZ N;have aq:=hZ O;have ay:Hid (w.heap.size=w.heap.size):=hZ rfl;clear h c0 bk c3 au U av hr ax V X ag ah aa ab A am aw ay;go_in;go_wp21;go_region_held3 (fun w'=>w'.cell? E=some (.pointer (some bb))∧w'.cell? ⟨bb,2,none⟩=some (.slice (some mv) n bj)∧w'.cell? ⟨mv,x,none⟩=some (.pointer (some ac))∧w'.cell? ⟨mv,a,none⟩=some (.pointer (some y1))) (go_keep)
  (first
   |(go_at_call_of 112 (Value.pointer (some ac));refine(Y.o _ (by first|exact(i4 _ _).drew|assumption)).mono ?_;rintro e bu ⟨rfl,q⟩;have az:=(q.cell (p:=E) ak).trans an.o;have ba:=(q.cell (p:=⟨bb,2,none⟩) aj).trans ao.o;have bc:=(q.cell (p:=⟨mv,x,none⟩) J).trans ap.o;have bd:=(q.cell (p:=⟨mv,a,none⟩) J).trans aq.o)
   |(go_at_call_of 112 (Value.pointer (some y1));refine(Z.o _ (by first|exact(i4 _ _).drew|assumption)).mono ?_;rintro e ad ⟨rfl,d⟩;have be:=(d.cell (p:=E) ak).trans an.o;have bf:=(d.cell (p:=⟨bb,2,none⟩) aj).trans ao.o;have bh:=(d.cell (p:=⟨mv,x,none⟩) J).trans ap.o;have bi:=(d.cell (p:=⟨mv,a,none⟩) J).trans aq.o))
 have bv:ad.cell? K=some last:=(d.cell (p:=K) (block_lt_of_cell h1)).trans h1;have T:=hZ d;have ai:=d.size;clear q d az ba bc bd be bf bh bi Y Z N O h0 h1 c2;obtain⟨bm,q⟩:∃b:Bool,b=((x:Int) == last):=⟨_,rfl⟩;obtain⟨ar,d⟩:∃b:Bool,b=((a:Int) == last):=⟨_,rfl⟩;rw[←q,←d] at r
 cases bm with
 |true=>
  cases ar with
  |true=>
   have ae:=q.symm;have e2:=d.symm;have s:Hid (vY ms last x a=orI (jH z y) (jH x a)):=hZ (by rw[r.o];unfold orI;simp)
   clear q d;go_wp21;refine(lM z y _).mono ?_;rintro e I ⟨rfl,rfl⟩;go_wp21;refine(lM x a _).mono ?_;rintro e I ⟨rfl,rfl⟩;obtain⟨af,C⟩:∃c,c=jH z y:=⟨_,rfl⟩;obtain⟨cb,D⟩:∃c,c=jH x a:=⟨_,rfl⟩;rw[←C,←D] at s⊢;clear C D;go_wp21;refine(aVj af cb ad.heap.size _ (by rw[bMr _ _ _ _ rfl];rfl) (by rw[bMr _ _ _ _ rfl];rfl)).mono ?_
   rintro e I ⟨rfl,rfl⟩;go_wp21;go_ret;exact⟨by rw[s.o];rfl,T.o.alloc ai _⟩
  |false=>
   have ae:=q.symm;have e2:=d.symm;have s:Hid (vY ms last x a=jH (vN true) (vN false)):=hZ (by rw[r.o];simp)
   clear q d;go_wp21;go_quiet (first|(go_at_call 357;exact sC (aPz _ _))|(go_at_call 157;exact sC (lM _ _ _)))
   go_wp21;go_ret;exact⟨by rw[s.o];rfl,dB T.o _⟩
 |false=>
  cases ar with
  |true=>
   have ae:=q.symm;have e2:=d.symm;have s:Hid (vY ms last x a=jH (vN false) (vN true)):=hZ (by rw[r.o];simp)
   clear q d;go_wp21;go_quiet (first|(go_at_call 357;exact sC (aPz _ _))|(go_at_call 157;exact sC (lM _ _ _)))
   go_wp21;go_ret;exact⟨by rw[s.o];rfl,dB T.o _⟩
  |false=>
   have ae:=q.symm;have e2:=d.symm;have s:Hid (vY ms last x a=orI (jH z y) (jH x a)):=hZ (by rw[r.o];unfold orI;simp)
   clear q d;go_wp21;refine(lM z y _).mono ?_;rintro e I ⟨rfl,rfl⟩;go_wp21;refine(lM x a _).mono ?_;rintro e I ⟨rfl,rfl⟩;obtain⟨af,C⟩:∃c,c=jH z y:=⟨_,rfl⟩;obtain⟨cb,D⟩:∃c,c=jH x a:=⟨_,rfl⟩;rw[←C,←D] at s⊢;clear C D;go_wp21;refine(aVj af cb ad.heap.size _ (by rw[bMr _ _ _ _ rfl];rfl) (by rw[bMr _ _ _ _ rfl];rfl)).mono ?_
   rintro e I ⟨rfl,rfl⟩;go_wp21;go_ret;exact⟨by rw[s.o];rfl,T.o.alloc ai _⟩
end
theorem aDa (args:Array Value) (W:World):(callFunc 356 args).run prog W= .ok (.enter 356 args) W:=by kernel_rfl
theorem aWl (f:Nat→Nat) (k:Nat):sV f (k+1)=sV f k++[.int .i64 (f k:Nat)]:=by
 unfold sV;rw[bMk,bNa];rfl
def aUj (w:World) (ms:List MT) (last:Int) (n:Nat) (e:Ending) (w':World):Prop:=
 ∃g cap f,e= .returned (.slice (some ⟨g,0,none⟩) n cap)∧sE n n f∧gU (vY ms last) f n∧w'.ownsRow w.heap.size 3 1 (.slice (some ⟨g,0,none⟩) n cap) n (sV f n)∧Below w.heap.size w w'
theorem aRa (bb eb:Nat) (gs:Gs) (secs:Int) (ms:List MT) (es:List Nat) (last:Int) (w:World) (h:aW w bb eb gs secs ms es):
  Calls prog 353 #[.pointer (some bb),last] w (aUj w ms last gs.length):=by
 obtain⟨gb,be,mv,ao,ec,c0,ap,c2,c3,ab,ac,ad,ay,az,ae⟩:=h.parts;have hr:=aS h.right;obtain⟨aq,s,af,ag,ah⟩:=bMo aJy;have R:=hZ h;obtain⟨n,y⟩:=nZ gs.length;have D:=hr.2.1;have ai:=hr.1;rw[←y] at c2 D ai⊢;have S:=hZ y;obtain⟨wB,b⟩:=nZ ((w.alloc (.cells #[.pointer (some bb)] 110)).alloc (.cells #[last] 3));have q:bB w wB:=by rw[b];exact(bZ).alloc (by simp) _
 have E:cZ wB w.heap.size 0 (.pointer (some bb)):=by
  rw[b];exact((Blk.new w 110 [.pointer (some bb)]).alloc _).cell 0
 have G:wB.cell? ⟨w.heap.size+1,0,none⟩=some last:=by
  rw[b];exact(Blk.newAt (w:=w.alloc (.cells #[.pointer (some bb)] 110)) 3 [last] (by simp)).cell 0
 have ba:w.heap.size+2≤wB.heap.size:=by rw[b];simp
 have aj:cZ wB bb 2 (.slice (some mv) n ao):=(q.cell (p:=⟨bb,2,none⟩) ae).trans c2;have ak:=hZ q;have ar:=hZ E;have au:=hZ G;clear h c0 ap c2 c3 ab ac ad hr y q G;go_in;go_upto_region 1 with fail
 rw[←b];clear b;go_wp21;clear E aj;go_loopw [5,12] (fun v i wr=>∃k:Nat,k≤n∧i= .int .i64 k∧Hid (wr.ownsRow (w.heap.size+2) 3 1 v k (sV (fun i=>i) k))∧Hid (Below (w.heap.size+2) wB wr)) (fun _ i _=>n-(intOf i).toNat)
 case atStart=>exact⟨0,by omega,rfl,hZ (bMa _ _ _ _),hZ (i4 _ _)⟩
 case round=>
  obtain⟨k,bf,rfl,a,c⟩:=hrel;have bc:=c.o.size;by_cases bd:k<n
  ·obtain⟨al,Y,rfl,_⟩:=RSl.of_owns a.o
   go_wp2_with (at_builtin;go_must (refine bNe _ rfl (.tmp 15) (.tmp 17) 107 rfl (w.heap.size+2) 3 aq (.int .i64 0) 1 8 underlying107 s af ag ah rfl (by decide) (.slice al k Y) k (sV (fun i=>i) k) rfl (a.o.alloc _) ⟨wr.heap.size,0,none⟩ 1 1 [(k:Nat)] rfl rfl (Blk.news (Blk.newAt (w:=wr) 3 [(k:Nat)] (by simp))) (by simp[Value.oneCell']) (by unfold maxLen;omega) (by omega) (by simp;omega) ?_;intro v1 T A X _))
   rw[←aWl (fun i=>i) k] at A
   go_roundw
   case rel=>exact⟨k+1,by omega,by go_num,hZ A,hZ (cF (base:=w.heap.size+2) (c.o.alloc (by omega) _) (a.o.alloc _) X (by simp;omega) (d8 _))⟩
   case measure=>simp[intOf];omega
  ·have Z:k=n:=by omega
   subst Z;obtain⟨g,cap,rfl,bh⟩:=oW a.o (by omega)
   have ax:=(a.o.lt g rfl).2;have r:bB w wr:=ak.o.trans (c.o.mono (by omega))
   have l:=R.o.below r;have am:=l.lt;have C:∀x,eK bb eb ms x→x≠g:=fun x d e=>by have:=R.o.lt x d;omega
   obtain⟨cs,I,_⟩:=gK a.o;have J:cZ wr w.heap.size 0 (.pointer (some bb)):=(c.o.cell (p:=⟨w.heap.size,0,none⟩) (by show w.heap.size<w.heap.size+2;omega)).trans ar.o
   have K:wr.cell? ⟨w.heap.size+1,0,none⟩=some last:=(c.o.cell (p:=⟨w.heap.size+1,0,none⟩) (by show w.heap.size+1<w.heap.size+2;omega)).trans au.o
   have av:=hZ (aLs 356 #[.pointer (some ⟨w.heap.size,0,none⟩),.pointer (some ⟨w.heap.size+1,0,none⟩)] (vY ms last) (w.heap.size+2) g k k cap (fun i=>i) wr a.o (by omega) D ⟨fun i s=>s,fun i j _ _ h=>h,fun z hy=>⟨z,hy,rfl⟩⟩ (aDt ms last k) aDa (fun x z d hy W aw=>by
    have m:Mod (fun t=>t=g) wr W:=Mod.grown aw rfl
    have an:aNa wr (fun t=>t=g):=fun t ht _=>by subst ht;exact⟨_,_,I,.inr (.inr rfl)⟩
    refine aQv w.heap.size (w.heap.size+1) bb eb gs secs ms es last x z W (l.keep m an (fun x d e=>C x d e)) ?_ ?_ (by have:=S.o;omega) (by have:=S.o;omega)
    ·rw[bNi (w:=wr) (m.block w.heap.size (by omega) (by show ¬w.heap.size=g;omega))];exact J
    ·rw[bNi (w:=wr) (m.block (w.heap.size+1) (by omega) (by show ¬w.heap.size+1=g;omega))];exact K))
   have N:=hZ r;clear l am C I J K r;go_wp21;refine av.o.mono ?_;rintro e T ⟨rfl,f,U,V,O,Q⟩;have aa:aUj w ms last k (.returned (.slice (some g) k cap)) T:=⟨g,cap,f,rfl,U,V,cY O (by omega),N.o.grown Q N.o.size (fun t ht=>by simp only[i5] at ht;omega)⟩
   clear U V O Q;go_wp21;go_ret;exact aa
theorem pO (ms:List MT) (i:Nat) (x:Nat×List (Nat×Nat)):(ms.set i ((ms.getD i mD).1,x)).map (·.1)=ms.map (·.1):=by
 apply bNw
 ·simp
 ·intro j h1 h2
  simp only[List.map_set,List.getElem_set];split
  ·rename_i e
   subst e;have a:i<ms.length:=by simpa using h2
   simp[List.getD,a]
  ·rfl
theorem qE {a:Type} (l:List a) (i:Nat) (x d:a) (h:i<l.length):(l.set i x).getD i d=x:=by simp[List.getD,h]
theorem oH {a:Type} (l:List a) (i j:Nat) (x d:a) (h:i≠j):(l.set i x).getD j d=l.getD j d:=by simp only[a8,List.getElem?_set,i9 h]
theorem aOy {ms:List MT} (h:i<ms.length):ms.getD i mD∈ms:=by rw[a8,b9 h];exact n5 _
theorem bAd {ms:List MT} (c:(ms.map (·.1)).Nodup) (a:i<ms.length) (b:j<ms.length) (d:i≠j):(ms.getD i mD).1≠(ms.getD j mD).1:=by
 intro e;have h:=List.nodup_iff_pairwise_ne.1 c;rw[List.pairwise_map,bOe] at h;have l:ms.getD i mD=ms[i]:=by rw[a8,b9 a];rfl
 have m:ms.getD j mD=ms[j]:=by rw[a8,b9 b];rfl
 rw[l,m] at e;rcases Nat.lt_or_gt_of_ne d with h1|h1
 ·exact h i j a b h1 e
 ·exact h j i b a h1 e.symm
section
variable {w w':World} {bb eb:Nat} {gs:Gs} {secs:Int} {ms:List MT} {es:List Nat}
theorem aW.map_at (h:aW w bb eb gs secs ms es) (a:i<gs.length):dF w (ms.getD i mD).1 (ms.getD i mD).2.1 (ms.getD i mD).2.2:=h.maps _ (aOy (by rw[h.mlen];exact a))
theorem aW.footMap (h:aW w bb eb gs secs ms es) (a:i<gs.length):eK bb eb ms (ms.getD i mD).1:= .inr (.inr (List.mem_map_of_mem (aOy (by rw[h.mlen];exact a))))
theorem aW.setMap (h:aW w bb eb gs secs ms es) (r:i<gs.length) (l:w.grownBy w' (some (ms.getD i mD).1)) (A:dF w' (ms.getD i mD).1 sz rs):
  aW w' bb eb gs secs (ms.set i ((ms.getD i mD).1,sz,rs)) es:=by
 obtain⟨gv,mv,ec,h1,h2,C,D⟩:=h.mem;have x:i<ms.length:=by rw[h.mlen];exact r
 obtain⟨_,_,_,_,J,d,_⟩:=(h.map_at r);have q:∀e cs k,Blk w k e cs→e≠258→k≠(ms.getD i mD).1:=by
  intro e cs k a p E;rw[E] at a;unfold Blk at a d;rw[d] at a;simp only[i5,n7] at a;exact p a.2.1.symm
 have c:∀{base e size n:Nat} {v:Value} {xs:List Value},w.ownsRow base e size v n xs→e≠258→w'.ownsRow base e size v n xs:=by
  intro base e size n v xs s p;refine s.kept l ?_;rcases s.2 with⟨rfl,_⟩|⟨g,cap,y,rfl,_,G,_⟩
  ·exact .inl rfl
  ·refine .inr ?_
   intro t;simp only[Value.ownBlock,i5] at t;exact q e y.toList g (by simpa[Blk] using G) p t
 refine⟨h.right,by rw[bLy];exact h.mlen,h.elen,⟨gv,mv,ec,?_,c h2 (by decide),?_,c D (by decide)⟩,?_,?_⟩
 ·unfold Blk
  rw[l.block bb h1.lt (by simpa using q _ _ _ h1 (by decide))]
  exact h1
 ·rw[pO];exact c C (by decide)
 ·intro m z
  obtain⟨j,b,rfl⟩:=bOb.1 z;rw[bLy] at b;rw[List.getElem_set];split
  ·exact A
  ·rename_i e
   have I:ms.getD j mD=ms[j]:=by rw[a8,b9 b];rfl
   refine(h.maps _ (n5 b)).other l d ?_;rw[←I];exact bAd h.nodup b x (fun h=>e h.symm)
 ·rw[pO];exact h.nodup
theorem aW.setEnd (h:aW w bb eb gs secs ms es) {x:Nat} (q:i<gs.length):aW (w.setCell ⟨eb,i,none⟩ (x:Nat)) bb eb gs secs ms (es.set i x):=by
 obtain⟨gv,mv,ec,h1,h2,l,c⟩:=h.mem;obtain⟨cs,b,_⟩:=gK c;have d:=(c.stored i (x:Nat)).1;rw[aYh] at d;refine⟨h.right,h.mlen,by rw[bLy];exact h.elen,⟨gv,mv,ec,h1.other (a:=⟨eb,i,none⟩) ?_ _,aO h2 b (by decide),aO l b (by decide),d⟩,fun m p=>(h.maps m p).setOther b (by decide) (by decide),h.nodup⟩
 rintro rfl;unfold Blk at h1 b;rw[h1] at b;simp only[i5,n7] at b;exact absurd b.2.1 (by decide)
end
def Us (rs:List (Nat×Nat)) (x:Nat):Prop:=∃r∈rs,r.1≤x∧x<r.1+r.2
theorem aKi (x:Nat):¬Us [] x:=by rintro⟨r,hr,_⟩;simp at hr
theorem nM (r:Nat×Nat) (t:List (Nat×Nat)) (x:Nat):Us (r::t) x↔(r.1≤x∧x<r.1+r.2)∨Us t x:=by
 simp only[Us,s8];constructor
 ·rintro⟨q,rfl|a,h⟩
  ·exact .inl h
  ·exact .inr ⟨q,a,h⟩
 ·rintro(h|⟨q,a,h⟩)
  ·exact⟨r,.inl rfl,h⟩
  ·exact⟨q,.inr a,h⟩
theorem mN (a b:List (Nat×Nat)) (x:Nat):Us (a++b) x↔Us a x∨Us b x:=by
 induction a with
 |nil=>simp[Us]
 |cons r t c=>rw[List.cons_append,nM,nM,c,or_assoc]
theorem aFm (r:Nat×Nat) (x:Nat):Us [r] x↔r.1≤x∧x<r.1+r.2:=by
 rw[nM];exact or_iff_left (aKi x)
theorem bIj {x:Nat} (h:Us rs x):∃j,∃a:j<rs.length,rs[j].1≤x∧x<rs[j].1+rs[j].2:=by
 obtain⟨r,hr,h⟩:=h;obtain⟨j,a,rfl⟩:=bOb.1 hr;exact⟨j,a,h⟩
theorem bJy {x:Nat} (a:j<rs.length) (h1:rs[j].1≤x) (h2:x<rs[j].1+rs[j].2):Us rs x:=⟨rs[j],n5 _,h1,h2⟩
theorem lH.cons {size:Nat} {r:Nat×Nat} {t:List (Nat×Nat)} (h:lH size (r::t)):1≤r.2∧r.1+r.2≤size∧lH size t∧∀q∈t,r.1+r.2<q.1:=by
 have h1:=h.1 r (by simp)
 have h2:=List.pairwise_cons.1 h.2;exact⟨h1.1,h1.2,⟨fun q a=>h.1 q (by simp[a]),h2.2⟩,h2.1⟩
theorem aPj (out:List (Nat×Nat)) (r:Nat×Nat) (x:Nat):Us (iV out r) x↔Us out x∨(r.1≤x∧x<r.1+r.2):=by
 rcases List.eq_nil_or_concat out with rfl|⟨o,q,rfl⟩
 ·rw[iT,aFm]
  exact(or_iff_right (aKi x)).symm
 ·rw[List.concat_eq_append]
  by_cases h:q.1+q.2=r.1
  ·rw[jR _ _ _ h,mN,mN,aFm,aFm,or_assoc]
   refine or_congr_right ?_;dsimp only;omega
  ·rw[jO _ _ _ h,mN,aFm]
theorem bEo (rs:List (Nat×Nat)) (x:Nat):Us (fA rs) x↔Us rs x:=by
 have b:∀k,k≤rs.length→(Us (fA (rs.take k)) x↔Us (rs.take k) x):=by
  intro k
  induction k with
  |zero=>intro _;simp[fA]
  |succ k c=>
   intro a;rw[oG _ _ a,aPj,c (by omega),m8 a,mN,aFm,a8,b9 a]
   rfl
 have:=b rs.length (d8 _)
 rwa [bLz] at this
theorem aHb (out:List (Nat×Nat)) (r:Nat×Nat):fR (iV out r)=fR out+r.2:=by
 rcases List.eq_nil_or_concat out with rfl|⟨o,q,rfl⟩
 ·rw[iT];simp[fR]
 ·rw[List.concat_eq_append]
  by_cases h:q.1+q.2=r.1
  ·rw[jR _ _ _ h,jI,jI];simp[fR];omega
  ·rw[jO _ _ _ h,jI];simp[fR]
theorem aTv (rs:List (Nat×Nat)):fR (fA rs)=fR rs:=by
 have b:∀k,k≤rs.length→fR (fA (rs.take k))=fR (rs.take k):=by
  intro k
  induction k with
  |zero=>intro _;simp[fA]
  |succ k c=>
   intro a;rw[oG _ _ a,aHb,c (by omega),uM _ _ a]
 have:=b rs.length (d8 _)
 rwa [bLz] at this
theorem aUc {size a:Nat} (h:lH size rs):
  (bE rs a<rs.length∧(rs.getD (bE rs a) (0,0)).1<a+n)↔∃x,a≤x∧x<a+n∧Us rs x∨bE rs a<rs.length∧n=0∧(rs.getD (bE rs a) (0,0)).1<a:=by
 constructor
 ·rintro⟨b,l⟩
  rcases Nat.eq_zero_or_pos n with rfl|t
  ·exact⟨0,.inr ⟨b,rfl,by omega⟩⟩
  ·have d:=List.findIdx_getElem (p:=fun r:Nat×Nat=>decide (a<r.1+r.2)) (w:=b)
   have d:a<rs[bE rs a].1+rs[bE rs a].2:=of_decide_eq_true d;have e:rs.getD (bE rs a) (0,0)=rs[bE rs a]:=by rw[a8,b9 b];rfl
   rw[e] at l;have:=(h.1 rs[bE rs a] (n5 _)).1;exact⟨max a rs[bE rs a].1,.inl ⟨by omega,by omega,bJy b (by omega) (by omega)⟩⟩
 ·rintro⟨x,⟨h1,h2,s⟩|⟨b,rfl,l⟩⟩
  ·obtain⟨j,m,y,z⟩:=bIj s
   have q:bE rs a≤j:=by
    refine Nat.le_of_not_lt fun c=>?_
    have:=oO c m;omega
   have b:bE rs a<rs.length:=by omega
   refine⟨b,?_⟩;rw[a8,b9 b]
   show rs[bE rs a].1<a+n
   rcases Nat.eq_or_lt_of_le q with A|c
   ·have:rs[bE rs a]=rs[j]:=by congr 1
    rw[this];omega
   ·have:=h.le c m
    omega
  ·exact⟨b,by omega⟩
theorem aRg {size:Nat} (h:lH size rs) (a n:Int):
  (¬May size a n∧cJ size rs a n=(1,rs))∨(May size a n∧(∃x,a.toNat≤x∧x<a.toNat+n.toNat∧Us rs x)∧cJ size rs a n=(13,rs))∨
  (May size a n∧(∀x,a.toNat≤x→x<a.toNat+n.toNat→¬Us rs x)∧(cJ size rs a n).1=0∧(∀x,Us (cJ size rs a n).2 x↔Us rs x∨(a.toNat≤x∧x<a.toNat+n.toNat))∧fR (cJ size rs a n).2=fR rs+n.toNat):=by
 by_cases c:May size a n
 ·have b:=c
  obtain⟨p,q,r,s⟩:=c;have m:=aUc (a:=a.toNat) (n:=n.toNat) h;by_cases d:bE rs a.toNat<rs.length∧(rs.getD (bE rs a.toNat) (0,0)).1<a.toNat+n.toNat
  ·refine .inr (.inl ⟨b,?_,by unfold cJ;rw[i6 b,i6 d]⟩)
   obtain⟨x,l|l⟩:=m.1 d
   ·exact⟨x,l⟩
   ·omega
  ·have e:cJ size rs a n=(0,fA (rs.take (bE rs a.toNat)++(a.toNat,n.toNat)::rs.drop (bE rs a.toNat))):=by unfold cJ;rw[i6 b,i9 d]
   refine .inr (.inr ⟨b,fun x h1 h2 l=>d (m.2 ⟨x,.inl ⟨h1,h2,l⟩⟩),by rw[e],fun x=>?_,?_⟩)
   ·rw[e]
    show Us (fA _) x↔_
    rw[bEo,mN,nM]
    conv=>rhs;rw[←bOg (bE rs a.toNat) rs,mN]
    dsimp only;constructor
    ·rintro(h|h|h)
     ·exact .inl (.inl h)
     ·exact .inr h
     ·exact .inl (.inr h)
    ·rintro((h|h)|h)
     ·exact .inl h
     ·exact .inr (.inr h)
     ·exact .inr (.inl h)
   ·rw[e]
    show fR (fA _)=_
    rw[aTv,jI,aZe]
    conv=>rhs;rw[←bOg (bE rs a.toNat) rs,jI]
    dsimp only;omega
 ·exact .inl ⟨c,by unfold cJ;rw[i9 c]⟩
theorem aQr (size n:Nat) (T:1≤n):∀(b:List (Nat×Nat)) (c:Nat),lH size b→
  (∀q,mC size n b c=some q→c≤q∧q+n≤size∧(∀x,q≤x→x<q+n→¬Us b x)∧∀p,c≤p→p<q→∃x,p≤x∧x<p+n∧Us b x)∧
  (mC size n b c=none→∀p,c≤p→p+n≤size→∃x,p≤x∧x<p+n∧Us b x):=by
 intro b
 induction b with
 |nil=>
  intro c _;refine⟨fun q a=>?_,fun a p D A=>?_⟩
  ·rw[mC] at a
   split at a
   ·simp only[i5] at a
    subst a;exact⟨d8 _,by omega,fun x _ _=>aKi x,fun p h1 h2=>by omega⟩
   ·simp at a
  ·rw[mC] at a
   split at a
   ·simp at a
   ·omega
 |cons r t E=>
  intro c G;obtain⟨U,V,I,J⟩:=G.cons;have K:∀x,Us t x→r.1+r.2<x:=by
   rintro x ⟨q,a,h1,_⟩;have:=J q a;omega
  by_cases z:(n:Int)≤(r.1:Int)-(c:Int)
  ·have e:mC size n (r::t) c=some c:=by rw[mC,i6 z]
   rw[e];refine⟨fun q a=>?_,fun h=>by simp at h⟩
   simp only[i5] at a;subst a;refine⟨d8 _,by omega,fun x h1 h2 l=>?_,fun p h1 h2=>by omega⟩
   rcases(nM _ _ _).1 l with h|h
   ·omega
   ·have:=K x h;omega
  ·have e:mC size n (r::t) c=mC size n t (max c (r.1+r.2)):=by rw[mC,i9 z]
   rw[e];obtain⟨N,O⟩:=E (max c (r.1+r.2)) I;have C:∀p,c≤p→p<max c (r.1+r.2)→∃x,p≤x∧x<p+n∧Us (r::t) x:=fun p h1 h2=>
    ⟨max p r.1,by omega,by omega,(nM _ _ _).2 (.inl ⟨by omega,by omega⟩)⟩
   refine⟨fun q a=>?_,fun a p D A=>?_⟩
   ·obtain⟨X,Q,R,S⟩:=N q a
    refine⟨by omega,Q,fun x h1 h2 l=>?_,fun p h1 h2=>?_⟩
    ·rcases(nM _ _ _).1 l with h|h
     ·omega
     ·exact R x h1 h2 h
    ·by_cases d:p<max c (r.1+r.2)
     ·exact C p h1 d
     ·obtain⟨x,m,s,y⟩:=S p (by omega) h2
      exact⟨x,m,s,(nM _ _ _).2 (.inr y)⟩
   ·by_cases d:p<max c (r.1+r.2)
    ·exact C p D d
    ·obtain⟨x,m,s,y⟩:=O a p (by omega) A
     exact⟨x,m,s,(nM _ _ _).2 (.inr y)⟩
theorem aLt {size:Nat} (c:lH size rs) {f x:Nat} (d:f≤x):Us (rs.drop (bE rs f)) x↔Us rs x:=by
 conv=>rhs;rw[←bOg (bE rs f) rs]
 rw[mN];refine(or_iff_right ?_).symm;rintro⟨r,hr,h,l⟩;obtain⟨j,b,a,rfl⟩:=zR hr;have:=oO a b;omega
theorem lH.drop {size:Nat} (h:lH size rs):lH size (rs.drop k):=⟨fun r hr=>h.1 r (List.mem_of_mem_drop hr),h.2.sublist (List.drop_sublist _ _)⟩
theorem aIn {size f:Nat} (h:lH size rs) (m:1≤n):
  (∀q,aDe size rs n f=some q→f≤q∧q+n≤size∧(∀x,q≤x→x<q+n→¬Us rs x)∧∀p,f≤p→p<q→∃x,p≤x∧x<p+n∧Us rs x)∧
  (aDe size rs n f=none→∀p,f≤p→p+n≤size→∃x,p≤x∧x<p+n∧Us rs x):=by
 obtain⟨h1,h2⟩:=aQr size n m (rs.drop (bE rs f)) f h.drop;refine⟨fun q a=>?_,fun a p r l=>?_⟩
 ·obtain⟨s,t,y,z⟩:=h1 q a
  refine⟨s,t,fun x b c A=>y x b c ((aLt h (by omega)).2 A),fun p b c=>?_⟩
  obtain⟨x,d,c2,c3⟩:=z p b c;exact⟨x,d,c2,(aLt h (by omega)).1 c3⟩
 ·obtain⟨x,d,c2,c3⟩:=h2 a p r l
  exact⟨x,d,c2,(aLt h (by omega)).1 c3⟩
theorem xC {size f q:Nat} (h:lH size rs) (d:1≤n) (a:sI size rs n f=some q):f≤size∧q+n≤size∧(∀x,q≤x→x<q+n→¬Us rs x):=by
 unfold sI at a;split at a
 ·rename_i l
  refine⟨by omega,?_⟩
  simp only[s7] at a
  cases e:aDe size rs n f with
  |some x=>
   rw[e] at a;simp only[i5] at a;subst a;obtain⟨_,b,c,_⟩:=(aIn h d).1 _ e;exact⟨b,c⟩
  |none=>
   rw[e] at a;obtain⟨_,b,c,_⟩:=(aIn h d).1 _ a;exact⟨b,c⟩
 ·simp at a
section
attribute [local go_sem ↓] Go.wp_at_zero Go.wp_at_succ
def aCk (gs:Gs) (secs:Int) (ms:List MT) (es:List Nat) (size:Int) (g:Nat):Option Nat:=sI (ms.getD g mD).2.1 (ms.getD g mD).2.2 (bO gs secs g size) (es.getD g 0:Nat)
def aVc (w:World) (bb eb:Nat) (gs:Gs) (secs:Int) (ms:List MT) (es:List Nat) (size last:Int) (e:Ending) (w':World):Prop:=
  ∃f,sE gs.length gs.length f∧gU (vY ms last) f gs.length∧
    ((∃i at_,i<gs.length∧(∀j,j<i→aCk gs secs ms es size (f j)=none)∧aCk gs secs ms es size (f i)=some at_∧e= .returned (.tuple #[.agg #[.int .i64 (f i:Nat),.int .i64 (at_:Nat)],.bool true])∧
        aW w' bb eb gs secs (ms.set (f i) ((ms.getD (f i) mD).1,(ms.getD (f i) mD).2.1,(cJ (ms.getD (f i) mD).2.1 (ms.getD (f i) mD).2.2 (at_:Nat) (bO gs secs (f i) size)).2)) (es.set (f i) (at_+(bO gs secs (f i) size).toNat))∧Mod (eK bb eb ms) w w')∨
     ((∀j,j<gs.length→aCk gs secs ms es size (f j)=none)∧e= .returned (.tuple #[.agg #[.int .i64 0,.int .i64 0],.bool false])∧Below w.heap.size w w'))
theorem qQ {p u:Tmp} {ty:TypeId} (h:fn.results=#[.cell p ty,.tmp u]) (a:Array Value) (w:World) (g:Nat) (t:TypeId) (cs:Array Value) (fr:Nat×Nat) (d:TypeDesc)
  (c:a.getD p undef= .pointer (some ⟨g,0,none⟩)) (l:w.heap[g]?=some (.cells cs t fr))
  (m:P.underlying ty=some d) (q:(match d with| .struct _| .array _ _=>true|_=>false)=true) (r:(P.info? ty).map (·.size)=some cs.size):
  (results fn a).run P w= .ok (.tuple #[.agg cs,a.getD u undef]) w:=by
 have b:a[p]?.getD undef= .pointer (some g):=by simpa using c
 simp[results,h,b,asAddr,run_loadVar_row w g t ty cs fr d l m q r]
section
variable {w:World} {bb eb:Nat} {gs:Gs} {secs:Int} {ms:List MT} {es:List Nat}
theorem aW.setOther (h:aW w bb eb gs secs ms es) (b:Blk w k e cs) (h1:e≠168) (h2:73≠e) (d:170≠e) (l:3≠e) (p:258≠e) (q:261≠e):
  aW (w.setCell ⟨k,j,none⟩ u) bb eb gs secs ms es:=by
 obtain⟨gv,mv,ec,c,r,s,t⟩:=h.mem;refine⟨h.right,h.mlen,h.elen,⟨gv,mv,ec,c.other (a:=⟨k,j,none⟩) ?_ _,aO r b h2,aO s b d,aO t b l⟩,fun m x=>(h.maps m x).setOther b p q,h.nodup⟩
 rintro rfl;unfold Blk at c b;rw[c] at b;simp only[i5,n7] at b;exact h1 b.2.1.symm
end
theorem bEs (bb eb:Nat) (gs:Gs) (secs:Int) (ms:List MT) (es:List Nat) (size last:Int) (w:World) (h:aW w bb eb gs secs ms es) (bk:1≤size) (bl:size≤4):
  Calls prog 350 #[.pointer (some bb),size,last] w (aVc w bb eb gs secs ms es size last):=by
 obtain⟨gb,dw,mv,cf,ec,c0,cg,c2,c3,ae,af,ag,cw,cx,U⟩:=h.parts;have hr:=aS h.right;have aw:=hZ h;obtain⟨n,ax⟩:=nZ gs.length;have cy:=hr.2.1;have cz:=hr.1;have ah:=h.mlen;have ai:=h.elen;rw[←ax] at c0 c2 c3 cy cz ae ag ah ai af;have d:=hZ ax;have ez:=hZ ah;have bm:=hZ ai;have dx:=hZ c0;have dy:=hZ cg;have dz:=hZ c2;have ea:=hZ c3;have da:=hZ ae;have db:=hZ af;have dc:=hZ ag;have ay:bB w (w.alloc (.cells #[(0:Int),(0:Int)] 46)):=bZ;have ed:=hZ ay;have ee:=hZ (aRa bb eb gs secs ms es last (w.alloc (.cells #[(0:Int),(0:Int)] 46)) (h.below ay));have dd:=hZ (Blk.new w 46 [(0:Int),(0:Int)]);have bn:=hZ h.right;clear h c0 cg c2 c3 ae af ag hr ax ah ai ay;go_in;go_wp2_with fail;refine ee.o.mono ?_;rintro e ch ⟨g,cap,f,rfl,az,ba,D,aj⟩;rw[←d.o] at az ba D⊢;have ci:=hZ (ed.o.trans (aj.mono (by simp)))
 have bc:=hZ (dd.o.below aj);have de:=bc.o.lt;have ef:=hZ (bI D);have ak:=hZ az;have cj:=hZ ba;have df:=(D.lt g rfl).2;have fa:w.heap.size+1≤g:=by have:=(D.lt g rfl).1;simpa using this
 clear aj D az ba;go_wp2_with fail;go_loopw [17] (fun i wr=>∃k:Nat,k≤n∧i= .int .i64 k∧Hid (∀j,j<k→aCk gs secs ms es size (f j)=none)∧Hid (bB ch wr)) (fun i _=>n-(intOf i).toNat)
 case atStart=>exact⟨0,by omega,rfl,hZ (fun j ck=>absurd ck (by omega)),hZ (i4 _ _)⟩
 case round=>
  obtain⟨k,eg,rfl,al,E⟩:=hrel;have I:=ci.o.trans (E.o.mono ci.o.size);have am:=hZ I;by_cases an:k<n
  ·obtain⟨x,J⟩:=nZ (f k)
   have dg:x<n:=by rw[J];exact ak.o.lt k an
   have eh:wr.cell? ⟨g,k,none⟩=some (.int .i64 (x:Nat)):=by
    rw[E.o.cell (p:=⟨g,k,none⟩) df,J];obtain⟨b,bo,e,_,K⟩:=ef.o.2.2.2.2 (by omega)
    simp only[i5,bNl,and_true] at e;obtain⟨rfl,rfl⟩:=e;have:=K k (by omega)
    rw[r9] at this;rw[this,tD _ _ _ an]
   have cl:=hZ J;have e0:=(I.cell (p:=bb) U).trans dx.o;have ei:=(I.cell (p:=⟨bb,1,none⟩) U).trans dy.o;have hT:=rV (some gb) n dw gs secs (x:Nat) size wr (da.o.below I);have ao:aCk gs secs ms es size (f k)=sI (ms.getD x mD).2.1 (ms.getD x mD).2.2 (bO gs secs (x:Nat) size) (es.getD x 0:Nat):=by rw[←J];rfl
   have bq:bO gs secs (x:Nat) size=takes (gs.getD x (0,0)) size:=by
    unfold bO;rw[i6 ⟨xY bn.o (by omega) (by have:=d.o;omega),bk,bl⟩]
    rfl
   have br:=aEf (bM bn.o (show x<gs.length by have:=d.o;omega)) bk bl
   rw[←bq] at br;obtain⟨t,ht⟩:=nZ ((bO gs secs (x:Nat) size).toNat);have ap:bO gs secs (x:Nat) size=(t:Int):=by rw[ht,bLx (by omega)]
   have dh:1≤t:=by omega
   have fb:t≤6:=by omega
   rw[ap] at hT ao;have ej:=hZ hT;have V:=hZ ao;have di:=hZ ap;have fc:(0:Int)≤(x:Int):=by omega
   have ev:(x:Int)<(n:Int):=by omega
   clear J hT ao bq br ht ap I;go_wp2_with fail;refine ej.o.mono ?_;rintro e y ⟨rfl,aq⟩;have l:=hZ (am.o.trans (aq.mono am.o.size));have Y:=hZ (E.o.trans (aq.mono E.o.size));clear aq eh e0 ei;have cm:=(l.o.cell (p:=⟨bb,2,none⟩) U).trans dz.o;have cn:=(l.o.cell (p:=⟨bb,3,none⟩) U).trans ea.o;have Z:=(l.o.cell (p:=⟨mv,x,none⟩) cw).trans (db.o x dg);have bs:w.cell? ⟨eb,x,none⟩=some (.int .i64 (es.getD x 0:Nat)):=by
    obtain⟨b,bo,e,_,K⟩:=dc.o.2.2.2.2 (by omega)
    simp only[i5,bNl,and_true] at e;obtain⟨rfl,rfl⟩:=e;have:=K x (by omega)
    rw[r9] at this;rw[this,aJu _ _ (by have:=bm.o;omega)]
   have bd:=(l.o.cell (p:=⟨eb,x,none⟩) cx).trans bs;have ab:=aw.o.below l.o;have s:=ab.map_at (show x<gs.length by have:=d.o;omega)
   obtain⟨m,be⟩:=nZ (ms.getD x mD);rw[←be] at Z s V;have co:=hZ be;obtain⟨z,A,N⟩:=m;obtain⟨aa,bt⟩:=nZ (es.getD x 0);rw[←bt] at bd V;dsimp only at Z s;have hF:=bCk z A N (t:Nat) (aa:Nat) y.drew (s.below (i4 _ _).drew);have ac:=V;obtain⟨r,hr⟩:=nZ (sI A N (t:Nat) (aa:Nat));rw[←hr] at hF ac;have cp:=hZ hF;have dj:=hZ hr;have ar:=hZ s;have ew:=s.lt;have S:bb<y.heap.size:=by have:=l.o.size;omega
   have bh:mv<y.heap.size:=by have:=l.o.size;omega
   have bi:eb<y.heap.size:=by have:=l.o.size;omega
   have bu:=hZ cm;have bv:=hZ cn;have bw:=hZ Z;have bx:=hZ bd;have dk:=hZ ab;clear be bt bs hF hr s ab V;rcases r with _|at_
   ·go_wp2_with fail
    go_region_held3 (fun w'=>w'.cell? ⟨bb,2,none⟩=some (.slice (some mv) n cf)∧w'.cell? ⟨mv,x,none⟩=some (.pointer (some z))∧w'.cell? ⟨bb,3,none⟩=some (.slice (some eb) n ec)∧w'.cell? ⟨eb,x,none⟩=some (aa:Nat)) (go_keep)
     (first
      |(go_at_call 354;refine cp.o.mono ?_;rintro e O ⟨rfl,c⟩;have dl:=(c.cell (p:=⟨bb,2,none⟩) S).trans bu.o;have dm:=(c.cell (p:=⟨mv,x,none⟩) bh).trans bw.o;have dn:=(c.cell (p:=⟨bb,3,none⟩) S).trans bv.o;have dp:=(c.cell (p:=⟨eb,x,none⟩) bi).trans bx.o))
    have q:bB y O:=(i4 _ _).drew.trans c;go_wp2_with fail;go_roundw
    case rel=>
     refine⟨k+1,by omega,by go_num,hZ fun j ck=>?_,hZ (Y.o.trans (q.mono Y.o.size))⟩
     rcases Nat.lt_or_ge j k with h1|h1
     ·exact al.o j h1
     ·rw[show j=k by omega];exact ac.o
    case measure=>simp[intOf];omega
   ·have bz:=ar.o.2.2.1
    have fd:=ar.o.1;obtain⟨_,fe,dq⟩:=xC bz dh dj.o.symm;have dr:=hZ (fun W (ek:dF W z A N)=>aQd z A N (at_:Nat) (t:Nat) W ek)
    clear bz dq;go_wp2_with fail;go_region_held3 (fun w'=>w'.cell? ⟨bb,2,none⟩=some (.slice (some mv) n cf)∧w'.cell? ⟨mv,x,none⟩=some (.pointer (some z))∧w'.cell? ⟨bb,3,none⟩=some (.slice (some eb) n ec)∧w'.cell? ⟨eb,x,none⟩=some (aa:Nat)) (go_keep)
     (first
      |(go_at_call 354;refine cp.o.mono ?_;rintro e O ⟨rfl,c⟩;have dl:=(c.cell (p:=⟨bb,2,none⟩) S).trans bu.o;have dm:=(c.cell (p:=⟨mv,x,none⟩) bh).trans bw.o;have dn:=(c.cell (p:=⟨bb,3,none⟩) S).trans bv.o;have dp:=(c.cell (p:=⟨eb,x,none⟩) bi).trans bx.o))
    have q:bB y O:=(i4 _ _).drew.trans c;have ds:=hZ (ar.o.below q);have ca:=hZ (dk.o.below q);have el:=hZ (l.o.trans (q.mono l.o.size));have em:=hZ (Y.o.trans (q.mono Y.o.size));clear c q cm cn Z bd;go_wp2_with fail;refine(dr.o O ds.o).mono ?_;rintro e w4 ⟨rfl,cc,cd⟩;have au:z=(ms.getD x mD).1:=by rw[←co.o]
    have T:O.grownBy w4 (some (ms.getD x mD).1):=by rw[←au];exact cd
    have bj:dF w4 (ms.getD x mD).1 A (cJ A N (at_:Nat) (t:Nat)).2:=by rw[←au];exact cc
    have R:=ca.o.setMap (show x<gs.length by have:=d.o;omega) T bj
    obtain⟨ff,fg,fh,fi,fj,en,eo,ep,eq,_,_,ad,_,ex,ey⟩:=R.parts;have cq:=(Mod.below el.o).trans (G:=eK bb eb ms) (Mod.grown T (ca.o.footMap (show x<gs.length by have:=d.o;omega))) (fun _ _ h=>h)
    have dt:∀k,k<ch.heap.size→w.heap.size≤k→k≠(ms.getD x mD).1:=by
     intro k _ eg e;have:=aw.o.lt _ (aw.o.footMap (show x<gs.length by have:=d.o;omega))
     omega
    have bf:Blk w4 w.heap.size 46 [(0:Int),(0:Int)]:=by
     have cr:=bc.o.below em.o;unfold Blk;rw[T.block w.heap.size cr.lt (by simpa using dt w.heap.size de (d8 _))]
     exact cr
    rw[←d.o] at eq ad;have k0:w4.cell? ⟨eb,x,none⟩=some (.int .i64 (es.getD x 0:Nat)):=by
     obtain⟨b,bo,e,_,K⟩:=ad.2.2.2.2 (by omega)
     simp only[i5,bNl,and_true] at e;obtain⟨rfl,rfl⟩:=e;have:=K x (by omega)
     rw[r9] at this;rw[this,aJu _ _ (by have:=bm.o;omega)]
    have k1:w4.frozen? ⟨eb,x,none⟩=false:=by
     obtain⟨gv,fk,fl,_,_,_,er⟩:=R.mem;exact er.frozenAt x
    have fm:IntKind.i64.wrap ((at_:Int)+(t:Int))=(at_:Int)+(t:Int):=bLo _ (by omega)
    have du:=hZ (R.setEnd (x:=at_+t) (show x<gs.length by have:=d.o;omega))
    have dv:=hZ cq;have fo:=hZ bf;have cu:w.heap.size≠eb:=by omega
    have C:=hZ ((bf.other (a:=⟨eb,x,none⟩) cu (.int .i64 ((at_:Int)+(t:Int)))));have r0:=C.o.cell 0;have r1:=C.o.cell 1;have r2:=C.o.frozen 0;have et:=C.o.frozen 1;clear cc cd T bj R ad cq bf en eo ep au;go_wp2_with fail;have X:=C.o.setCell 0 (x:Nat);have av:=X.setCell 1 (at_:Nat);refine l9 (qQ rfl _ _ w.heap.size 46 #[(x:Nat),(at_:Nat)] (0,0) _ rfl av rfl rfl rfl) rfl ?_;have ct:((at_+t:Nat):Int)=(at_:Int)+(t:Int):=by omega
    have h1:=du.o;rw[ct] at h1;have h2:=(h1.setOther (j:=0) (u:=(x:Nat)) C.o (by decide) (by decide) (by decide) (by decide) (by decide) (by decide)).setOther (j:=1) (u:=(at_:Nat)) X (by decide) (by decide) (by decide) (by decide) (by decide) (by decide)
    unfold aVc;rw[←d.o];refine⟨f,ak.o,cj.o,.inl ⟨k,at_,an,al.o,ac.o,by rw[←cl.o];rfl,?_,(((dv.o.setCell (.inl (.inr (.inl rfl)))).setCell (.inr (d8 _))).setCell (.inr (d8 _)))⟩⟩
    rw[←cl.o,di.o];have eu:=co.o;rw[←eu] at h2⊢;simpa using h2
  ·have cv:k=n:=by omega
   subst cv;have Q:=hZ (bc.o.below E.o);have r0:=Q.o.cell 0;have r1:=Q.o.cell 1;have r2:=Q.o.frozen 0;have et:=Q.o.frozen 1;go_wp2_with fail;have X:=Q.o.setCell 0 (0:Int);have av:=X.setCell 1 (0:Int);refine l9 (qQ rfl _ _ w.heap.size 46 #[(0:Int),(0:Int)] (0,0) _ rfl av rfl rfl rfl) rfl ?_;unfold aVc;rw[←d.o];exact⟨f,ak.o,cj.o,.inr ⟨al.o,rfl,(am.o.setCell (d8 _) _).setCell (d8 _) _⟩⟩
end
abbrev SN:=List (Nat×List (Nat×Nat))
def fO (ms:List MT):SN:=ms.map (·.2)
def sD:Nat×List (Nat×Nat):=(0,[])
def mkM (sn:SN):List MT:=sn.map fun x=>(0,x)
theorem bFa (ms:List MT) (a:Nat):((mkM (fO ms)).getD a mD).2=(ms.getD a mD).2:=by
 simp only[mkM,fO,a8,bMh];cases ms[a]?<;>rfl
theorem uX (ms:List MT) (a:Nat):(fO ms).getD a sD=(ms.getD a mD).2:=by
 simp only[fO,a8,bMh];cases ms[a]?<;>rfl
def vX (sn:SN) (last:Int) (x y:Nat):Int:=vY (mkM sn) last x y
theorem bFb (ms:List MT) (last:Int):vX (fO ms) last=vY ms last:=by
 funext x a
 have b:∀a,jM ((mkM (fO ms)).getD a mD)=jM (ms.getD a mD):=fun a=>by unfold jM;rw[bFa]
 simp only[vX,vY,b]
def jK (gs:Gs) (secs:Int) (sn:SN) (es:List Nat) (size:Int) (g:Nat):Option Nat:=sI (sn.getD g sD).1 (sn.getD g sD).2 (bO gs secs g size) (es.getD g 0:Nat)
theorem bBs (gs:Gs) (secs:Int) (ms:List MT) (es:List Nat) (size:Int) (g:Nat):jK gs secs (fO ms) es size g=aCk gs secs ms es size g:=by
 unfold jK aCk;rw[uX]
open Classical in
noncomputable def qH (sn:SN) (last:Int) (n:Nat):Nat→Nat:=if h:∃f,sE n n f∧gU (vX sn last) f n then Classical.choose h else id
theorem bDa (sn:SN) (last:Int) {x a:Nat} (h:x≠a):vX sn last x a<0∨vX sn last a x<0:=by
 unfold vX;rw[zS,zS];omega
theorem aDq {sn:SN} (b:sE n n f) (c:gU (vX sn last) f n):sE n n (qH sn last n)∧gU (vX sn last) (qH sn last n) n∧∀i,i<n→qH sn last n i=f i:=by
 have h:∃f,sE n n f∧gU (vX sn last) f n:=⟨f,b,c⟩;have l:qH sn last n=Classical.choose h:=by unfold qH;rw[dif_pos h]
 have a:=Classical.choose_spec h;rw[l];exact⟨a.1,a.2,aPf a.1 b a.2 c (fun x m _ _ d=>bDa sn last d)⟩
noncomputable def aGg (gs:Gs) (secs:Int) (sn:SN) (es:List Nat) (size last:Int):Option (Nat×Nat):=
 (List.range gs.length).findSome? fun j=>(jK gs secs sn es size (qH sn last gs.length j)).map fun a=>(qH sn last gs.length j,a)
theorem tS {d:Type} {p:Nat→Option d}:∀(n i:Nat) (b:d),i<n→(∀j,j<i→p j=none)→p i=some b→(List.range n).findSome? p=some b:=by
 intro n
 induction n with
 |zero=>intro i b h;omega
 |succ n l=>
  intro i b h a c;rw[bMk,List.findSome?_append];rcases Nat.lt_or_ge i n with h1|h1
  ·rw[l i b h1 a c];rfl
  ·have:i=n:=by omega
   subst this;have:(List.range i).findSome? p=none:=by
    rw[List.findSome?_eq_none_iff];intro x m;exact a x (bMp.1 m)
   rw[this];simp[c]
theorem vW {b:Type} {p:Nat→Option b} (n:Nat) (h:∀j,j<n→p j=none):(List.range n).findSome? p=none:=by
 rw[List.findSome?_eq_none_iff];intro x a;exact h x (bMp.1 a)
def putS (gs:Gs) (secs:Int) (sn:SN) (size:Int) (x:Nat×Nat):SN:=sn.set x.1 ((sn.getD x.1 sD).1,(cJ (sn.getD x.1 sD).1 (sn.getD x.1 sD).2 (x.2:Nat) (bO gs secs x.1 size)).2)
def nC (gs:Gs) (secs:Int) (es:List Nat) (size:Int) (x:Nat×Nat):List Nat:=es.set x.1 (x.2+(bO gs secs x.1 size).toNat)
def bHn (w:World) (bb eb:Nat) (gs:Gs) (secs:Int) (ms:List MT) (es:List Nat) (size last:Int) (e:Ending) (w':World):Prop:=
 (aGg gs secs (fO ms) es size last=none∧e= .returned (.tuple #[.agg #[.int .i64 0,.int .i64 0],.bool false])∧Below w.heap.size w w')∨
 ∃x,aGg gs secs (fO ms) es size last=some x∧x.1<gs.length∧e= .returned (.tuple #[.agg #[.int .i64 (x.1:Nat),.int .i64 (x.2:Nat)],.bool true])∧
  ∃ms',fO ms'=putS gs secs (fO ms) size x∧ms'.map (·.1)=ms.map (·.1)∧aW w' bb eb gs secs ms' (nC gs secs es size x)∧Mod (eK bb eb ms) w w'
theorem bJa {ms:List MT} {size:Int} {e:Ending} (h:aVc w bb eb gs secs ms es size last e w'):bHn w bb eb gs secs ms es size last e w':=by
 obtain⟨f,p,q,h⟩:=h;rw[←bFb] at q;obtain⟨h1,_,r⟩:=aDq p q;have d:∀j,j<gs.length→jK gs secs (fO ms) es size (qH (fO ms) last gs.length j)=aCk gs secs ms es size (f j):=fun j b=>by rw[bBs,r j b]
 rcases h with⟨i,a,c,l,s,rfl,m,t⟩|⟨l,rfl,m⟩
 ·refine .inr ⟨(f i,a),tS _ i _ c (fun j b=>?_) ?_,p.lt i c,rfl,_,?_,pO _ _ _,m,t⟩
  ·rw[d j (by omega),l j b];rfl
  ·rw[d i c,s,r i c];rfl
  ·unfold fO putS
   rw[List.map_set];have:(ms.map (·.2)).getD (f i) sD=(ms.getD (f i) mD).2:=uX ms (f i);rw[this]
 ·refine .inl ⟨vW _ fun j b=>?_,rfl,m⟩
  rw[d j b,l j b];rfl
theorem aJc (bb eb:Nat) (gs:Gs) (secs:Int) (ms:List MT) (es:List Nat) (size last:Int) (w:World) (h:aW w bb eb gs secs ms es) (a:1≤size) (b:size≤4):
  Calls prog 350 #[.pointer (some bb),size,last] w (bHn w bb eb gs secs ms es size last):=
 (bEs bb eb gs secs ms es size last w h a b).mono fun _ _ h=>bJa h
theorem oP {ms a:List MT} (h:a.map (·.1)=ms.map (·.1)):eK bb eb a=eK bb eb ms:=by
 funext k
 unfold eK;rw[h]
structure bGn where
 p:Nat×Nat
 q:Nat×Nat
 err:Nat
 sn:SN
 es:List Nat
noncomputable def eE (gs:Gs) (secs:Int) (sn:SN) (es:List Nat) (size:Int) (two:Bool):bGn:=
 if 1≤size∧size≤4 then
  match aGg gs secs sn es size (-1) with
  |none=>⟨(0,0),(0,0),8,sn,es⟩
  |some x=>
   if two=true then
    match aGg gs secs (putS gs secs sn size x) (nC gs secs es size x) size (x.1:Nat) with
    |none=>⟨(0,0),(0,0),8,sn,es⟩
    |some y=>⟨x,y,0,putS gs secs (putS gs secs sn size x) size y,nC gs secs (nC gs secs es size x) size y⟩
   else⟨x,(0,0),0,putS gs secs sn size x,nC gs secs es size x⟩
 else⟨(0,0),(0,0),1,sn,es⟩
def bHb (w:World) (bb eb:Nat) (gs:Gs) (secs:Int) (ms:List MT) (r:bGn) (e:Ending) (w':World):Prop:=
 e= .returned (.tuple #[.agg #[.int .i64 (r.p.1:Nat),.int .i64 (r.p.2:Nat)],.agg #[.int .i64 (r.q.1:Nat),.int .i64 (r.q.2:Nat)],.int .i64 (r.err:Nat)])∧
 ∃eb' ms',aW w' bb eb' gs secs ms' r.es∧fO ms'=r.sn∧(∀k,eK bb eb' ms' k→eK bb eb ms k∨w.heap.size≤k)∧Mod (eK bb eb ms) w w'
theorem aUt (ms:List MT) (a:List Nat):fO (cpM ms a)=fO ms:=by
 apply bNw
 ·simp[fO,cpM]
 ·intro j h1 h2
  simp only[fO,List.length_map] at h2;simp[fO,cpM,List.getD,h2]
theorem gW {p q u:Tmp} {ty:TypeId} (h:fn.results=#[.cell p ty,.cell q ty,.tmp u]) (a:Array Value) (w:World) (g c:Nat) (t:TypeId) (cs b:Array Value) (fr l:Nat×Nat) (d:TypeDesc)
  (C:a.getD p undef= .pointer (some ⟨g,0,none⟩)) (x:a.getD q undef= .pointer (some ⟨c,0,none⟩)) (D:w.heap[g]?=some (.cells cs t fr)) (y:w.heap[c]?=some (.cells b t l))
  (m:P.underlying ty=some d) (r:(match d with| .struct _| .array _ _=>true|_=>false)=true) (E:(P.info? ty).map (·.size)=some cs.size) (z:(P.info? ty).map (·.size)=some b.size):
  (results fn a).run P w= .ok (.tuple #[.agg cs,.agg b,a.getD u undef]) w:=by
 have A:a[p]?.getD undef= .pointer (some g):=by simpa using C
 have s:a[q]?.getD undef= .pointer (some c):=by simpa using x
 simp[results,h,A,s,asAddr,run_loadVar_row w g t ty cs fr d D m r E,run_loadVar_row w c t ty b l d y m r z]
section
variable {w:World} {bb eb:Nat} {gs:Gs} {secs:Int} {ms:List MT} {es:List Nat}
theorem aW.restore {x:List MT} (h:aW w cb ce gs secs x esc) (l:Blk w bb 168 old) (y:old.length=4)
  (h0:w.cell? ⟨cb,0,none⟩=some gv) (h2:w.cell? ⟨cb,2,none⟩=some mv) (z:w.cell? ⟨cb,3,none⟩=some (.slice (some ce) gs.length ec)):
  aW ((((w.setCell bb gv).setCell ⟨bb,1,none⟩ secs).setCell ⟨bb,2,none⟩ mv).setCell ⟨bb,3,none⟩ (.slice (some ce) gs.length ec)) bb ce gs secs x esc:=by
 obtain⟨G,I,J,s,A,C,D⟩:=h.mem;obtain⟨K,N,O,Q,rfl⟩:∃a b c d,old=[a,b,c,d]:=by
  match old,y with
  |[a,b,c,d],_=>exact⟨a,b,c,d,rfl⟩
 have e0:=s.cell 0;have e2:=s.cell 2;have t:=s.cell 3;rw[h0] at e0;rw[h2] at e2;rw[z] at t;simp only[n8,m9,i5,bMm,true_and] at e0 e2 t;subst e0 e2 t;have p:=l.setCell 0 gv;have q:=p.setCell 1 secs;have r:=q.setCell 2 mv;refine⟨h.right,h.mlen,h.elen,⟨gv,mv,ec,r.setCell 3 (.slice (some ce) gs.length ec),?_,?_,?_⟩,fun m E=>?_,h.nodup⟩
 ·exact aO (aO (aO (aO A l (by decide)) p (by decide)) q (by decide)) r (by decide)
 ·exact aO (aO (aO (aO C l (by decide)) p (by decide)) q (by decide)) r (by decide)
 ·exact aO (aO (aO (aO D l (by decide)) p (by decide)) q (by decide)) r (by decide)
 ·exact((((h.maps m E).setOther l (by decide) (by decide)).setOther p (by decide) (by decide)).setOther q (by decide) (by decide)).setOther r (by decide) (by decide)
end
theorem bIc (sn:SN) (last:Int) (n:Nat):sE n n (qH sn last n)∧gU (vX sn last) (qH sn last n) n:=by
 have z:=aDt (mkM sn) last
 let le:Nat→Nat→Bool:=fun x t=> !decide (vX sn last t x<0)
 have G:∀a b c:Nat,le a b=true→le b c=true→le a c=true:=by
  intro a b c h1 h2;simp only[le,bNr,decide_eq_false_iff_not] at*;exact(z (a+b+c+1)).ntrans c b a (by omega) (by omega) (by omega) h2 h1
 have I:∀a b:Nat,(le a b||le b a)=true:=by
  intro a b;simp only[le,Bool.or_eq_true,bNr,decide_eq_false_iff_not];by_cases h:vX sn last b a<0
  ·exact .inr ((z (a+b+1)).asymm b a (by omega) (by omega) h)
  ·exact .inl h
 have C:=List.pairwise_mergeSort G I (List.range n);have r:=List.mergeSort_perm (List.range n) le;generalize (List.range n).mergeSort le=l at C r;have K:l.length=n:=by rw[r.length_eq,List.length_range]
 have y:∀x,x∈l↔x<n:=fun x=>by rw[r.mem_iff,bMp]
 have d:∀i (h:i<l.length),l.getD i 0=l[i]:=fun i h=>by rw[a8,b9 h];rfl
 have D:sE n n (fun i=>l.getD i 0):=by
  refine⟨fun i s=>?_,fun i j s N m=>?_,fun t hy=>?_⟩
  ·show l.getD i 0<n
   rw[d i (by omega)]
   exact(y _).1 (n5 _)
  ·have m:=m
   rw[d i (by omega),d j (by omega)] at m
   have A:=bOe.1 (List.nodup_iff_pairwise_ne.1 (r.nodup_iff.2 List.nodup_range));rcases Nat.lt_trichotomy i j with h|h|h
   ·exact absurd m (A i j (by omega) (by omega) h)
   ·exact h
   ·exact absurd m.symm (A j i (by omega) (by omega) h)
  ·obtain⟨i,s,rfl⟩:=bOb.1 ((y t).2 hy)
   exact⟨i,by omega,d i s⟩
 have E:gU (vX sn last) (fun i=>l.getD i 0) n:=by
  intro p q J O
  show ¬vX sn last (l.getD q 0) (l.getD p 0)<0
  rw[d p (by omega),d q (by omega)]
  have:=bOe.1 C p q (by omega) (by omega) J
  simpa[le] using this
 exact⟨(aDq D E).1,(aDq D E).2.1⟩
theorem bCa (P:Nat→Prop) (i:Nat) (h:P i):∃j,P j∧∀k,k<j→¬P k:=by
 induction i using Nat.strongRecOn with
 |_ i b=>
  by_cases a:∃k,k<i∧P k
  ·obtain⟨k,h1,h2⟩:=a
   exact b k h1 h2
  ·exact⟨i,h,fun k h1 h2=>a ⟨k,h1,h2⟩⟩
theorem uS (gs:Gs) (secs:Int) (sn:SN) (es:List Nat) (size last:Int):
  (aGg gs secs sn es size last=none∧∀g,g<gs.length→jK gs secs sn es size g=none)∨
  ∃x,aGg gs secs sn es size last=some x∧x.1<gs.length∧jK gs secs sn es size x.1=some x.2∧∀g,g<gs.length→vX sn last g x.1<0→jK gs secs sn es size g=none:=by
 obtain⟨d,t⟩:=bIc sn last gs.length;by_cases h:∃i,i<gs.length∧jK gs secs sn es size (qH sn last gs.length i)≠none
 ·obtain⟨i,⟨c,s⟩,r⟩:∃i,(i<gs.length∧jK gs secs sn es size (qH sn last gs.length i)≠none)∧∀j,j<i→¬(j<gs.length∧jK gs secs sn es size (qH sn last gs.length j)≠none):=by
   obtain⟨i,c⟩:=h;exact bCa _ i c
  obtain⟨a,p⟩:=Option.ne_none_iff_exists'.1 s;have m:∀j,j<i→jK gs secs sn es size (qH sn last gs.length j)=none:=fun j b=>by
   have:=r j b;by_cases e:jK gs secs sn es size (qH sn last gs.length j)=none
   ·exact e
   ·exact absurd ⟨by omega,e⟩ this
  refine .inr ⟨(qH sn last gs.length i,a),tS _ i _ c (fun j b=>by rw[m j b];rfl) (by rw[p];rfl),d.lt i c,p,fun g l q=>?_⟩
  obtain⟨j,b,rfl⟩:=d.surj g l;rcases Nat.lt_trichotomy j i with h1|h1|h1
  ·exact m j h1
  ·subst h1
   exact absurd q (fun h=>(aDt (mkM sn) last (qH sn last gs.length j+1)).asymm _ _ (by omega) (by omega) h h)
  ·exact absurd q (t i j h1 b)
 ·refine .inl ⟨vW _ fun j b=>?_,fun g l=>?_⟩
  ·have:jK gs secs sn es size (qH sn last gs.length j)=none:=by
    by_cases e:jK gs secs sn es size (qH sn last gs.length j)=none
    ·exact e
    ·exact absurd ⟨j,b,e⟩ h
   rw[this];rfl
  ·obtain⟨j,b,rfl⟩:=d.surj g l
   by_cases e:jK gs secs sn es size (qH sn last gs.length j)=none
   ·exact e
   ·exact absurd ⟨j,b,e⟩ h
structure Inv (gs:Gs) (secs:Int) (sn:SN) (es:List Nat):Prop where
 right:bH gs secs=true
 slen:sn.length=gs.length
 elen:es.length=gs.length
 size:∀i,i<gs.length→(sn.getD i sD).1=(jF (gs.getD i (0,0)) secs).toNat
 good:∀i,i<gs.length→lH (sn.getD i sD).1 (sn.getD i sD).2
 ends:∀i,i<gs.length→es.getD i 0≤(sn.getD i sD).1
theorem uR (h:bH gs secs=true) (b:i<gs.length) {size:Int} (h1:1≤size) (h2:size≤4):∃t:Nat,bO gs secs i size=(t:Nat)∧1≤t∧t≤6∧t≤(jF (gs.getD i (0,0)) secs).toNat:=by
 have hr:=aS h;have a:=bM h b;have c:=aEf a h1 h2;have d:=yT a hr.2.2.1 hr.2.2.2.1;refine⟨(takes (gs.getD i (0,0)) size).toNat,?_,by omega,by omega,by omega⟩
 unfold bO;rw[i6 ⟨xY h (by omega) (by omega),h1,h2⟩,s7]
 omega
section
variable {gs:Gs} {secs:Int} {sn:SN} {es:List Nat}
theorem Inv.put (h:Inv gs secs sn es) {size:Int} (h1:1≤size) (h2:size≤4) {x:Nat×Nat} (b:x.1<gs.length) (d:jK gs secs sn es size x.1=some x.2):Inv gs secs (putS gs secs sn size x) (nC gs secs es size x):=by
 obtain⟨t,ht,p,r,ts⟩:=uR h.right b h1 h2;unfold jK at d;rw[ht] at d;obtain⟨_,q,_⟩:=xC (h.good _ b) p d;have c:∀i,(putS gs secs sn size x).getD i sD=if i=x.1 then((sn.getD x.1 sD).1,(cJ (sn.getD x.1 sD).1 (sn.getD x.1 sD).2 (x.2:Nat) (t:Nat)).2) else sn.getD i sD:=by
  intro i;unfold putS;rw[ht];by_cases e:i=x.1
  ·rw[i6 e,e,qE _ _ _ _ (by rw[h.slen];exact b)]
  ·rw[i9 e,oH _ _ _ _ _ (fun l=>e l.symm)]
 have m:∀i,(nC gs secs es size x).getD i 0=if i=x.1 then x.2+t else es.getD i 0:=by
  intro i;unfold nC;rw[ht,s7];by_cases e:i=x.1
  ·rw[i6 e,e,qE _ _ _ _ (by rw[h.elen];exact b)]
  ·rw[i9 e,oH _ _ _ _ _ (fun l=>e l.symm)]
 refine⟨h.right,by simp[putS,h.slen],by simp[nC,h.elen],fun i a=>?_,fun i a=>?_,fun i a=>?_⟩
 ·rw[c]
  split
  ·rename_i e;subst e;exact h.size _ a
  ·exact h.size i a
 ·rw[c]
  split
  ·exact xF (h.good _ b) _ _
  ·exact h.good i a
 ·rw[c,m]
  split
  ·exact q
  ·exact h.ends i a
theorem Inv.get (h:Inv gs secs sn es) (size:Int) (two:Bool):Inv gs secs (eE gs secs sn es size two).sn (eE gs secs sn es size two).es:=by
 unfold eE;by_cases a:1≤size∧size≤4
 ·rw[i6 a]
  rcases uS gs secs sn es size (-1) with⟨h0,_⟩|⟨x,h0,hx,hf,_⟩
  ·rw[h0];exact h
  ·rw[h0]
   have h1:=h.put a.1 a.2 hx hf;dsimp only;split
   ·rcases uS gs secs (putS gs secs sn size x) (nC gs secs es size x) size (x.1:Nat) with⟨h2,_⟩|⟨y,h2,hy,hg,_⟩
    ·rw[h2];exact h
    ·rw[h2];exact h1.put a.1 a.2 hy hg
   ·exact h1
 ·rw[i9 a];exact h
theorem Inv.fresh (hr:bH gs secs=true) (c:sn.length=gs.length) (b:∀j,j<gs.length→sn.getD j sD=((jF (gs.getD j (0,0)) secs).toNat,[])):Inv gs secs sn (List.replicate gs.length 0):=by
 refine⟨hr,c,by simp,fun i a=>by rw[b i a],fun i a=>?_,fun i a=>?_⟩
 ·rw[b i a];exact⟨by simp,List.Pairwise.nil⟩
 ·simp[List.getD,a]
end
abbrev St:=Nat×Nat×Nat
def aHe (s:St) (g x:Nat):Prop:=s.1=g∧s.2.1≤x∧x<s.2.1+s.2.2
structure sOk (gs:Gs) (secs:Int) (s:St):Prop where
 lt:s.1<gs.length
 pos:1≤s.2.2
 top:s.2.1+s.2.2≤(jF (gs.getD s.1 (0,0)) secs).toNat
def Dis (s t:St):Prop:=∀g x,aHe s g x→¬aHe t g x
theorem Dis.symm {s t:St} (h:Dis s t):Dis t s:=fun g x h1 h2=>h g x h2 h1
structure zZ (gs:Gs) (secs:Int) (sn:SN) (L:List St):Prop where
 slen:sn.length=gs.length
 size:∀g,g<gs.length→(sn.getD g sD).1=(jF (gs.getD g (0,0)) secs).toNat
 good:∀g,g<gs.length→lH (sn.getD g sD).1 (sn.getD g sD).2
 ok:∀s∈L,sOk gs secs s
 dis:L.Pairwise Dis
 us:∀g x,g<gs.length→(Us (sn.getD g sD).2 x↔∃s∈L,aHe s g x)
def pA (sn:SN) (g:Nat) (rs:List (Nat×Nat)):SN:=sn.set g ((sn.getD g sD).1,rs)
theorem aAo {sn:SN} (h:g<sn.length):(pA sn g rs).getD g sD=((sn.getD g sD).1,rs):=by
 unfold pA;rw[qE _ _ _ _ h]
theorem wZ {sn:SN} (h:k≠g):(pA sn g rs).getD k sD=sn.getD k sD:=by
 unfold pA;rw[oH _ _ _ _ _ (fun e=>h e.symm)]
theorem aQb (sn:SN) (g:Nat) (rs:List (Nat×Nat)):(pA sn g rs).length=sn.length:=by simp[pA]
def iJ (sn:SN):Int:=(sn.map fun s=>(s.1:Int)-(fR s.2:Int)).sum
theorem bFr (ms:List MT):tQ ms=iJ (fO ms):=by
 unfold tQ fO iJ;rw[List.map_map];rfl
theorem aJf:∀{sn:SN} {g:Nat} {rs:List (Nat×Nat)},g<sn.length→iJ (pA sn g rs)+fR rs=iJ sn+fR (sn.getD g sD).2
 |[],g,rs,h=>by simp at h
 |s::sn,0,rs,_=>by simp[pA,iJ];omega
 |s::sn,g+1,rs,h=>by
  have d:=aJf (sn:=sn) (g:=g) (rs:=rs) (by simpa using h)
  have a:pA (s::sn) (g+1) rs=s::pA sn g rs:=by simp[pA]
  have e2:iJ (s::pA sn g rs)=((s.1:Int)-(fR s.2:Int))+iJ (pA sn g rs):=by simp[iJ]
  have b:iJ (s::sn)=((s.1:Int)-(fR s.2:Int))+iJ sn:=by simp[iJ]
  have c:(s::sn).getD (g+1) sD=sn.getD g sD:=by simp
  rw[a,e2,b,c];omega
section
variable {gs:Gs} {secs:Int} {sn:SN} {L:List St}
theorem zZ.may (h:zZ gs secs sn L) {s:St} (a:sOk gs secs s):May (sn.getD s.1 sD).1 (s.2.1:Nat) (s.2.2:Nat):=by
 have h2:=a.top;have b:=a.pos;unfold May;rw[h.size s.1 a.lt];omega
theorem zZ.take (h:zZ gs secs sn L) {s:St} (l:sOk gs secs s) (q:∀t∈L,Dis s t):
  (cJ (sn.getD s.1 sD).1 (sn.getD s.1 sD).2 (s.2.1:Nat) (s.2.2:Nat)).1=0∧zZ gs secs (pA sn s.1 (cJ (sn.getD s.1 sD).1 (sn.getD s.1 sD).2 (s.2.1:Nat) (s.2.2:Nat)).2) (L++[s])∧
   iJ (pA sn s.1 (cJ (sn.getD s.1 sD).1 (sn.getD s.1 sD).2 (s.2.1:Nat) (s.2.2:Nat)).2)+s.2.2=iJ sn:=by
 have r:=h.good s.1 l.lt;have m:s.1<sn.length:=by rw[h.slen];exact l.lt
 have C:=aJf (sn:=sn) (g:=s.1) (rs:=(cJ (sn.getD s.1 sD).1 (sn.getD s.1 sD).2 (s.2.1:Nat) (s.2.2:Nat)).2) m;rcases aRg r (s.2.1:Nat) (s.2.2:Nat) with⟨hn,_⟩|⟨_,⟨x,x1,x2,x3⟩,_⟩|⟨_,hno,e0,hus,hs2⟩
 ·exact absurd (h.may l) hn
 ·simp only[s7] at x1 x2
  obtain⟨t,ht,c⟩:=(h.us s.1 x l.lt).1 x3;exact absurd c (q t ht s.1 x ⟨rfl,x1,x2⟩)
 ·simp only[s7] at hus hs2
  refine⟨e0,⟨by rw[aQb];exact h.slen,fun g d=>?_,fun g d=>?_,fun t ht=>?_,?_,fun g x d=>?_⟩,by omega⟩
  ·by_cases e:g=s.1
   ·subst e;rw[aAo m];exact h.size _ d
   ·rw[wZ e];exact h.size _ d
  ·by_cases e:g=s.1
   ·subst e;rw[aAo m];exact(xF r (s.2.1:Nat) (s.2.2:Nat))
   ·rw[wZ e];exact h.good _ d
  ·rcases bMu.1 ht with ht|ht
   ·exact h.ok t ht
   ·rw[y9.1 ht];exact l
  ·exact bNs.2 ⟨h.dis,List.pairwise_singleton _ _,fun a z b A=>by rw[y9.1 A];exact(q a z).symm⟩
  ·have y:(∃t∈L++[s],aHe t g x)↔(∃t∈L,aHe t g x)∨aHe s g x:=by
    constructor
    ·rintro⟨t,ht,c⟩
     rcases bMu.1 ht with ht|ht
     ·exact .inl ⟨t,ht,c⟩
     ·rw[y9.1 ht] at c;exact .inr c
    ·rintro(⟨t,ht,c⟩|c)
     ·exact⟨t,List.mem_append_left _ ht,c⟩
     ·exact⟨s,by simp,c⟩
   rw[y];by_cases e:g=s.1
   ·subst e
    rw[aAo m]
    show Us (cJ _ _ _ _).2 x↔_
    rw[hus,h.us _ x d];unfold aHe;simp
   ·rw[wZ e,h.us _ x d]
    constructor
    ·exact .inl
    ·rintro(p|p)
     ·exact p
     ·exact absurd p.1.symm e
theorem zZ.empty (c:sn.length=gs.length) (a:∀j,j<gs.length→sn.getD j sD=((jF (gs.getD j (0,0)) secs).toNat,[])):zZ gs secs sn []:=by
 refine⟨c,fun g b=>by rw[a g b],fun g b=>by rw[a g b];exact⟨by simp,List.Pairwise.nil⟩,by simp,List.Pairwise.nil,fun g x b=>?_⟩
 rw[a g b];constructor
 ·exact fun h=>absurd h (aKi x)
 ·rintro⟨s,a,_⟩;simp at a
end
def fQ (gs:Gs) (secs:Int) (size:Int) (x:Nat×Nat):St:=(x.1,x.2,(bO gs secs x.1 size).toNat)
def aLb (gs:Gs) (secs:Int) (size:Int) (two:Bool) (p q:Nat×Nat):List St:=if two=true then[fQ gs secs size p,fQ gs secs size q] else[fQ gs secs size p]
section
variable {gs:Gs} {secs:Int} {sn:SN} {es:List Nat} {L:List St}
theorem Inv.find (h:Inv gs secs sn es) {size:Int} (h1:1≤size) (h2:size≤4) {x:Nat×Nat} (a:x.1<gs.length) (b:jK gs secs sn es size x.1=some x.2) (p:zZ gs secs sn L):
  sOk gs secs (fQ gs secs size x)∧(∀t∈L,Dis (fQ gs secs size x) t)∧putS gs secs sn size x=pA sn x.1 (cJ (sn.getD x.1 sD).1 (sn.getD x.1 sD).2 (x.2:Nat) ((bO gs secs x.1 size).toNat:Nat)).2:=by
 obtain⟨t,ht,c,y,ts⟩:=uR h.right a h1 h2;unfold jK at b;rw[ht] at b;obtain⟨_,q,l⟩:=xC (h.good _ a) c b;unfold fQ putS pA;rw[ht,s7];refine⟨⟨a,c,by dsimp only;rw[←h.size _ a];exact q⟩,fun s r g d hy m=>?_,rfl⟩
 obtain⟨e,y1,y2⟩:=hy;dsimp only at e y1 y2;subst e;exact l d y1 y2 ((p.us x.1 d a).2 ⟨s,r,m⟩)
theorem Inv.rightGet (h:Inv gs secs sn es) (d:zZ gs secs sn L) (size:Int) (two:Bool):
  ((eE gs secs sn es size two).err≠0∧(eE gs secs sn es size two).sn=sn∧(eE gs secs sn es size two).p=(0,0)∧(eE gs secs sn es size two).q=(0,0))∨
  ((eE gs secs sn es size two).err=0∧1≤size∧size≤4∧zZ gs secs (eE gs secs sn es size two).sn (L++aLb gs secs size two (eE gs secs sn es size two).p (eE gs secs sn es size two).q)∧iJ (eE gs secs sn es size two).sn<iJ sn∧
   (two=false→(eE gs secs sn es size two).q=(0,0))):=by
 by_cases a:1≤size∧size≤4
 ·rcases uS gs secs sn es size (-1) with⟨h0,_⟩|⟨x,h0,hx,hf,_⟩
  ·have b:eE gs secs sn es size two=⟨(0,0),(0,0),8,sn,es⟩:=by unfold eE;rw[i6 a,h0]
   rw[b];exact .inl ⟨by simp,rfl,rfl,rfl⟩
  ·have s:=h.put a.1 a.2 hx hf
   obtain⟨l,z,m⟩:=h.find a.1 a.2 hx hf d;obtain⟨_,A,C⟩:=d.take l z;have c:zZ gs secs (putS gs secs sn size x) (L++[fQ gs secs size x]):=by rw[m];exact A
   have t:iJ (putS gs secs sn size x)<iJ sn:=by
    rw[m];have:=l.pos;have E:iJ (pA sn x.1 (cJ (sn.getD x.1 sD).1 (sn.getD x.1 sD).2 (x.2:Nat) ((bO gs secs x.1 size).toNat:Nat)).2)+((fQ gs secs size x).2.2:Nat)=iJ sn:=C;omega
   cases two
   ·have b:eE gs secs sn es size false=⟨x,(0,0),0,putS gs secs sn size x,nC gs secs es size x⟩:=by unfold eE;rw[i6 a,h0];rfl
    rw[b];exact .inr ⟨rfl,a.1,a.2,c,t,fun _=>rfl⟩
   ·rcases uS gs secs (putS gs secs sn size x) (nC gs secs es size x) size (x.1:Nat) with⟨h2,_⟩|⟨y,h2,hy,hf2,_⟩
    ·have b:eE gs secs sn es size true=⟨(0,0),(0,0),8,sn,es⟩:=by unfold eE;rw[i6 a,h0];dsimp only;rw[i6 rfl,h2]
     rw[b];exact .inl ⟨by simp,rfl,rfl,rfl⟩
    ·have b:eE gs secs sn es size true=⟨x,y,0,putS gs secs (putS gs secs sn size x) size y,nC gs secs (nC gs secs es size x) size y⟩:=by unfold eE;rw[i6 a,h0];dsimp only;rw[i6 rfl,h2]
     rw[b];obtain⟨r,d2,e2⟩:=s.find a.1 a.2 hy hf2 c;obtain⟨_,c2,D⟩:=c.take r d2;refine .inr ⟨rfl,a.1,a.2,?_,?_,fun h=>by simp at h⟩
     ·dsimp only
      rw[e2];have:L++aLb gs secs size true x y=L++[fQ gs secs size x]++[fQ gs secs size y]:=by simp[aLb]
      rw[this];exact c2
     ·dsimp only
      rw[e2];have:=r.pos;have G:iJ (pA (putS gs secs sn size x) y.1 (cJ ((putS gs secs sn size x).getD y.1 sD).1 ((putS gs secs sn size x).getD y.1 sD).2 (y.2:Nat) ((bO gs secs y.1 size).toNat:Nat)).2)+((fQ gs secs size y).2.2:Nat)=iJ (putS gs secs sn size x):=D;omega
 ·have b:eE gs secs sn es size two=⟨(0,0),(0,0),1,sn,es⟩:=by unfold eE;rw[i9 a]
  rw[b];exact .inl ⟨by simp,rfl,rfl,rfl⟩
end
section
attribute [local go_sem ↓] Go.wp_at_zero Go.wp_at_succ
theorem bEu (bb eb:Nat) (gs:Gs) (secs:Int) (ms:List MT) (es:List Nat) (size:Int) (two:Bool) (w:World) (h:aW w bb eb gs secs ms es):
  Calls prog 346 #[.pointer (some bb),size,.bool two] w (bHb w bb eb gs secs ms (eE gs secs (fO ms) es size two)):=by
 obtain⟨ab,D⟩:=nZ ((w.alloc (.cells yF 46)).alloc (.cells yF 46));have bf:bB w ab:=by rw[D];exact(bZ).alloc (by simp) _
 have ck:Blk ab w.heap.size 46 zF:=by rw[D];exact(Blk.new w _ _).alloc _
 have cl:Blk ab (w.heap.size+1) 46 zF:=by rw[D];exact Blk.newAt _ _ (by simp)
 have ee:ab.heap.size=w.heap.size+2:=by rw[D];simp
 have bu:=h.below bf;have bh:=hZ bf;have N:=hZ ck;have O:=hZ cl;have ef:=hZ h;have ah:=hZ bu;have cm:=hZ h.lt;have dw:=hZ h.tyOk;clear bf ck cl h bu;go_in;by_cases cn:1≤size∧size≤4
 ·obtain⟨Q,R⟩:=cn
  have eg:¬size<1:=by omega
  have eh:¬4<size:=by omega
  have dm:=hZ (aBn bb eb gs secs ms es ab ah.o);go_wp2_with fail;rw[←D];refine dm.o.mono ?_;rintro e bi ⟨cb,ce,an,rfl,db,bv,bw,S⟩;have bx:=hZ bv;have bz:=hZ bw;have aq:=hZ (ah.o.below S);have co:=hZ (bh.o.trans (S.mono (by omega)))
  have cp:=hZ (N.o.below S);have cq:=hZ (O.o.below S);have dx:=S.size;have dc:=hZ (aUt ms an);have dn:=hZ (aJc bb eb gs secs ms es size (-1) bi aq.o Q R);have E:Hid (∀k,w.heap.size≤k→¬eK bb eb ms k):=hZ (fun k m bj=>by have:=cm.o k bj;omega)
  clear bv bw S db;go_wp2_with fail;refine dn.o.mono ?_;rintro e w4 ar;rcases ar with⟨T,rfl,au⟩|⟨x,U,dy,rfl,ai,ag,cw,br,aj⟩
  case' inl=>
   have ca:Hid (eE gs secs (fO ms) es size two=⟨(0,0),(0,0),8,fO ms,es⟩):=hZ (by unfold eE;rw[i6 ⟨Q,R⟩,T])
   have dd:=au.size;have X:bB bi ((w4.alloc (.cells yF 46)).alloc (.cells yF 46)):=(au.alloc (by omega) _).alloc (by simp;omega) _
   clear T au;have q:aW ((w4.alloc (.cells yF 46)).alloc (.cells yF 46)) bb eb gs secs ms es:=aq.o.below X;have ak:aW ((w4.alloc (.cells yF 46)).alloc (.cells yF 46)) cb ce gs secs (cpM ms an) es:=bx.o.below X;have c:Blk ((w4.alloc (.cells yF 46)).alloc (.cells yF 46)) w.heap.size 46 zF:=cp.o.below X;have d:Blk ((w4.alloc (.cells yF 46)).alloc (.cells yF 46)) (w.heap.size+1) 46 zF:=cq.o.below X;have y:Mod (eK bb eb ms) w ((w4.alloc (.cells yF 46)).alloc (.cells yF 46)):=Mod.below (co.o.trans (X.mono (by omega)))
  case' inr=>
   have dd:=aj.size;have r:w.heap.size≠w4.heap.size+1:=by omega
   have s:w.heap.size+1≠w4.heap.size+1:=by omega
   have t:w4.heap.size≠w4.heap.size+1:=by omega
   have cc:Mod (eK bb eb ms) w w4:=(Mod.below co.o).trans aj (fun _ _ h=>h)
   have cd:Mod (eK bb eb ms) w ((w4.alloc (.cells #[(x.1:Nat),(x.2:Nat)] 46)).alloc (.cells yF 46)):=cc.trans' (((bZ).alloc (by simp) _))
   have al:Mod (eK bb eb ms) bi ((w4.alloc (.cells #[(x.1:Nat),(x.2:Nat)] 46)).alloc (.cells yF 46)):=aj.trans' (((bZ).alloc (by simp) _))
   have bs:=br.below (w':=(w4.alloc (.cells #[(x.1:Nat),(x.2:Nat)] 46)).alloc (.cells yF 46)) ((bZ).alloc (by simp) _)
   have cf:=al.blk cp.o (fun h=>E.o _ (d8 _) h)
   have cg:=al.blk cq.o (fun h=>E.o _ (bLv _) h)
   have dz:((w4.alloc (.cells #[(x.1:Nat),(x.2:Nat)] 46)).alloc (.cells yF 46)).heap.size=w4.heap.size+2:=by simp
   have cr:Blk ((w4.alloc (.cells #[(x.1:Nat),(x.2:Nat)] 46)).alloc (.cells yF 46)) w4.heap.size 46 [(x.1:Nat),(x.2:Nat)]:=(Blk.new w4 _ _).alloc _;have ct:Blk ((w4.alloc (.cells #[(x.1:Nat),(x.2:Nat)] 46)).alloc (.cells yF 46)) (w4.heap.size+1) 46 zF:=Blk.newAt _ _ (by simp)
   have av:=hZ cd;have de:=hZ al;have ap:=hZ bs;have aw:=hZ cf;have ax:=hZ cg;have ay:=hZ cr;have az:=hZ ct;have ba:=hZ (oP (bb:=bb) (eb:=eb) cw);clear aj cc cd al br bs cf cg cr ct;cases two
   case false=>
    have bc:Hid (eE gs secs (fO ms) es size false=⟨x,(0,0),0,putS gs secs (fO ms) size x,nC gs secs es size x⟩):=hZ (by unfold eE;rw[i6 ⟨Q,R⟩,U];rfl)
    clear U;have c:Blk ((w4.alloc (.cells #[(x.1:Nat),(x.2:Nat)] 46)).alloc (.cells yF 46)) w.heap.size 46 zF:=aw.o;have d:Blk ((w4.alloc (.cells #[(x.1:Nat),(x.2:Nat)] 46)).alloc (.cells yF 46)) (w.heap.size+1) 46 zF:=ax.o;have G:Blk ((w4.alloc (.cells #[(x.1:Nat),(x.2:Nat)] 46)).alloc (.cells yF 46)) w4.heap.size 46 [(x.1:Nat),(x.2:Nat)]:=ay.o;have I:Blk ((w4.alloc (.cells #[(x.1:Nat),(x.2:Nat)] 46)).alloc (.cells yF 46)) (w4.heap.size+1) 46 zF:=az.o;have q:aW ((w4.alloc (.cells #[(x.1:Nat),(x.2:Nat)] 46)).alloc (.cells yF 46)) bb eb gs secs ai (nC gs secs es size x):=ap.o;have y:Mod (eK bb eb ms) w ((w4.alloc (.cells #[(x.1:Nat),(x.2:Nat)] 46)).alloc (.cells yF 46)):=av.o;have r0:=c.cell 0;have r1:=c.cell 1;have r2:=d.cell 0;have bk:=d.cell 1;have bl:=c.frozen 0;have bm:=c.frozen 1;have bn:=d.frozen 0;have bo:=d.frozen 1;have dp:=G.cell 0;have z1:=G.cell 1;have z2:=I.cell 0;have z3:=I.cell 1;have Z:=hZ c;have bd:=hZ d;have am:=hZ q;have aa:=hZ y;clear c d G I q y;go_wp2_with fail;go_region;go_wp2_with fail;have z:=Z.o.setCell 0 (x.1:Nat);have ac:=z.setCell 1 (x.2:Nat);have A:=((bd.o.other (a:=⟨w.heap.size,0,none⟩) (by simp) (x.1:Nat)).other (a:=⟨w.heap.size,1,none⟩) (by simp) (x.2:Nat))
    have C:=A.setCell 0 (.int .i64 0);have ad:=C.setCell 1 (.int .i64 0);have ae:=(ac.other (a:=⟨w.heap.size+1,0,none⟩) (by simp) (.int .i64 0)).other (a:=⟨w.heap.size+1,1,none⟩) (by simp) (.int .i64 0)
    have bq:Blk _ w.heap.size 46 [(x.1:Nat),(x.2:Nat)]:=ae.drew;have be:Blk _ (w.heap.size+1) 46 zF:=ad.drew;refine l9 (gW rfl _ _ w.heap.size (w.heap.size+1) 46 #[(x.1:Nat),(x.2:Nat)] yF (0,0) (0,0) _ rfl rfl bq be rfl rfl rfl rfl) rfl ?_;have Y:=(((am.o.setOther (j:=0) (u:=(x.1:Nat)) Z.o (by decide) (by decide) (by decide) (by decide) (by decide) (by decide)).setOther (j:=1) (u:=(x.2:Nat)) z (by decide) (by decide) (by decide) (by decide) (by decide) (by decide)).setOther (j:=0) (u:= .int .i64 0) A (by decide) (by decide) (by decide) (by decide) (by decide) (by decide)).setOther (j:=1) (u:= .int .i64 0) C (by decide) (by decide) (by decide) (by decide) (by decide) (by decide)
    rw[bc.o];refine⟨rfl,eb,ai,Y.below (i4 _ _).drew,ag,fun k m=> .inl ?_,((((aa.o.setCell (.inr (d8 _))).setCell (.inr (d8 _))).setCell (.inr (bLv _))).setCell (.inr (bLv _))).trans' (i4 _ _).drew⟩
    rwa [ba.o] at m
   case' true=>
    have df:=hZ (aJc bb eb gs secs ai (nC gs secs es size x) size (x.1:Nat) ((w4.alloc (.cells #[(x.1:Nat),(x.2:Nat)] 46)).alloc (.cells yF 46)) ap.o Q R);have ei:=ay.o.cell 0;go_wp2_with fail;refine df.o.mono ?_;rintro e p ar;rcases ar with⟨T,rfl,J⟩|⟨b,hy,ea,rfl,ch,cy,cx,cz,K⟩
    case' inl=>
     have ca:Hid (eE gs secs (fO ms) es size true=⟨(0,0),(0,0),8,fO ms,es⟩):=hZ (by
      unfold eE;rw[i6 ⟨Q,R⟩,U];dsimp only;rw[ag] at T;rw[i6 rfl,T])
     have dg:=J.size;have l:=az.o.below J;have bt:=l.setCell 0 (.int .i64 0);have dq:=l.cell 0;have y1:=l.cell 1;have y2:=l.frozen 0;have dr:=l.frozen 1;clear U T;have q:aW ((p.setCell ⟨w4.heap.size+1,0,none⟩ (.int .i64 0)).setCell ⟨w4.heap.size+1,1,none⟩ (.int .i64 0)) bb eb gs secs ai (nC gs secs es size x):=((ap.o.below J).setOther (j:=0) (u:=(.int .i64 0)) l (by decide) (by decide) (by decide) (by decide) (by decide) (by decide)).setOther (j:=1) (u:=(.int .i64 0)) bt (by decide) (by decide) (by decide) (by decide) (by decide) (by decide)
     have ak:aW ((p.setCell ⟨w4.heap.size+1,0,none⟩ (.int .i64 0)).setCell ⟨w4.heap.size+1,1,none⟩ (.int .i64 0)) cb ce gs secs (cpM ms an) es:=(((bx.o.keep de.o aq.o.tyOk (fun k m bj=>E.o k (l6 (by omega) (bz.o k m)) bj)).below J).setOther (j:=0) (u:=(.int .i64 0)) l (by decide) (by decide) (by decide) (by decide) (by decide) (by decide)).setOther (j:=1) (u:=(.int .i64 0)) bt (by decide) (by decide) (by decide) (by decide) (by decide) (by decide)
     have c:Blk ((p.setCell ⟨w4.heap.size+1,0,none⟩ (.int .i64 0)).setCell ⟨w4.heap.size+1,1,none⟩ (.int .i64 0)) w.heap.size 46 zF:=((aw.o.below J).other (a:=⟨w4.heap.size+1,0,none⟩) (by first|exact r|exact s|exact t) _).other (a:=⟨w4.heap.size+1,1,none⟩) (by first|exact r|exact s|exact t) _
     have d:Blk ((p.setCell ⟨w4.heap.size+1,0,none⟩ (.int .i64 0)).setCell ⟨w4.heap.size+1,1,none⟩ (.int .i64 0)) (w.heap.size+1) 46 zF:=((ax.o.below J).other (a:=⟨w4.heap.size+1,0,none⟩) (by first|exact r|exact s|exact t) _).other (a:=⟨w4.heap.size+1,1,none⟩) (by first|exact r|exact s|exact t) _
     have y:Mod (eK bb eb ms) w ((p.setCell ⟨w4.heap.size+1,0,none⟩ (.int .i64 0)).setCell ⟨w4.heap.size+1,1,none⟩ (.int .i64 0)):=((av.o.trans' J).setCell (.inr (by omega))).setCell (.inr (by omega))
    case inr=>
     have bc:Hid (eE gs secs (fO ms) es size true=⟨x,b,0,putS gs secs (putS gs secs (fO ms) size x) size b,nC gs secs (nC gs secs es size x) size b⟩):=hZ (by
      unfold eE;rw[i6 ⟨Q,R⟩,U];dsimp only;rw[ag] at hy;rw[i6 rfl,hy])
     have dg:=K.size;rw[ba.o] at K;have dh:Mod (eK bb eb ms) w p:=av.o.trans K (fun _ _ h=>h)
     have l:=K.blk az.o (fun h=>E.o _ (by omega) h)
     have di:=K.blk ay.o (fun h=>E.o _ (by omega) h)
     have dj:=K.blk aw.o (fun h=>E.o _ (d8 _) h)
     have dk:=K.blk ax.o (fun h=>E.o _ (bLv _) h)
     have dq:=l.cell 0;have y1:=l.cell 1;have y2:=l.frozen 0;have dr:=l.frozen 1;clear U hy;have c:Blk ((p.setCell ⟨w4.heap.size+1,0,none⟩ (b.1:Nat)).setCell ⟨w4.heap.size+1,1,none⟩ (b.2:Nat)) w.heap.size 46 zF:=((dj).other (a:=⟨w4.heap.size+1,0,none⟩) (by first|exact r|exact s|exact t) _).other (a:=⟨w4.heap.size+1,1,none⟩) (by first|exact r|exact s|exact t) _
     have d:Blk ((p.setCell ⟨w4.heap.size+1,0,none⟩ (b.1:Nat)).setCell ⟨w4.heap.size+1,1,none⟩ (b.2:Nat)) (w.heap.size+1) 46 zF:=((dk).other (a:=⟨w4.heap.size+1,0,none⟩) (by first|exact r|exact s|exact t) _).other (a:=⟨w4.heap.size+1,1,none⟩) (by first|exact r|exact s|exact t) _
     have G:Blk ((p.setCell ⟨w4.heap.size+1,0,none⟩ (b.1:Nat)).setCell ⟨w4.heap.size+1,1,none⟩ (b.2:Nat)) w4.heap.size 46 [(x.1:Nat),(x.2:Nat)]:=((di).other (a:=⟨w4.heap.size+1,0,none⟩) (by first|exact r|exact s|exact t) _).other (a:=⟨w4.heap.size+1,1,none⟩) (by first|exact r|exact s|exact t) _
     have I:Blk ((p.setCell ⟨w4.heap.size+1,0,none⟩ (b.1:Nat)).setCell ⟨w4.heap.size+1,1,none⟩ (b.2:Nat)) (w4.heap.size+1) 46 [(b.1:Nat),(b.2:Nat)]:=(l.setCell 0 (b.1:Nat)).setCell 1 (b.2:Nat);have q:aW ((p.setCell ⟨w4.heap.size+1,0,none⟩ (b.1:Nat)).setCell ⟨w4.heap.size+1,1,none⟩ (b.2:Nat)) bb eb gs secs ch (nC gs secs (nC gs secs es size x) size b):=((cz).setOther (j:=0) (u:=(b.1:Nat)) l (by decide) (by decide) (by decide) (by decide) (by decide) (by decide)).setOther (j:=1) (u:=(b.2:Nat)) (l.setCell 0 (b.1:Nat)) (by decide) (by decide) (by decide) (by decide) (by decide) (by decide)
     have y:Mod (eK bb eb ms) w ((p.setCell ⟨w4.heap.size+1,0,none⟩ (b.1:Nat)).setCell ⟨w4.heap.size+1,1,none⟩ (b.2:Nat)):=((dh).setCell (.inr (by omega))).setCell (.inr (by omega))
     have r0:=c.cell 0;have r1:=c.cell 1;have r2:=d.cell 0;have bk:=d.cell 1;have bl:=c.frozen 0;have bm:=c.frozen 1;have bn:=d.frozen 0;have bo:=d.frozen 1;have dp:=G.cell 0;have z1:=G.cell 1;have z2:=I.cell 0;have z3:=I.cell 1;have Z:=hZ c;have bd:=hZ d;have am:=hZ q;have aa:=hZ y;clear c d G I q y;go_wp2_with fail;go_region;go_wp2_with fail;have z:=Z.o.setCell 0 (x.1:Nat);have ac:=z.setCell 1 (x.2:Nat);have A:=((bd.o.other (a:=⟨w.heap.size,0,none⟩) (by simp) (x.1:Nat)).other (a:=⟨w.heap.size,1,none⟩) (by simp) (x.2:Nat))
     have C:=A.setCell 0 (b.1:Nat);have ad:=C.setCell 1 (b.2:Nat);have ae:=(ac.other (a:=⟨w.heap.size+1,0,none⟩) (by simp) (b.1:Nat)).other (a:=⟨w.heap.size+1,1,none⟩) (by simp) (b.2:Nat)
     have bq:Blk _ w.heap.size 46 [(x.1:Nat),(x.2:Nat)]:=ae.drew;have be:Blk _ (w.heap.size+1) 46 [(b.1:Nat),(b.2:Nat)]:=ad.drew;refine l9 (gW rfl _ _ w.heap.size (w.heap.size+1) 46 #[(x.1:Nat),(x.2:Nat)] #[(b.1:Nat),(b.2:Nat)] (0,0) (0,0) _ rfl rfl bq be rfl rfl rfl rfl) rfl ?_;have Y:=(((am.o.setOther (j:=0) (u:=(x.1:Nat)) Z.o (by decide) (by decide) (by decide) (by decide) (by decide) (by decide)).setOther (j:=1) (u:=(x.2:Nat)) z (by decide) (by decide) (by decide) (by decide) (by decide) (by decide)).setOther (j:=0) (u:=(b.1:Nat)) A (by decide) (by decide) (by decide) (by decide) (by decide) (by decide)).setOther (j:=1) (u:=(b.2:Nat)) C (by decide) (by decide) (by decide) (by decide) (by decide) (by decide)
     rw[bc.o];refine⟨rfl,eb,ch,Y.below (i4 _ _).drew,(by rw[cy,ag]),fun k m=> .inl ?_,((((aa.o.setCell (.inr (d8 _))).setCell (.inr (d8 _))).setCell (.inr (bLv _))).setCell (.inr (bLv _))).trans' (i4 _ _).drew⟩
     rwa [oP cx,ba.o] at m
  all_goals
   obtain⟨gv,mv,ec,k1,_,_,_⟩:=q.mem;have k2:=k1.cell 0;have ej:=k1.cell 1;have ek:=k1.cell 2;have el:=k1.cell 3;have em:=k1.frozen 0;have k7:=k1.frozen 1;have en:=k1.frozen 2;have eo:=k1.frozen 3;obtain⟨gb,cu,ci,cv,cj,c0,ep,c2,c3,_,_,_,_,_,_⟩:=ak.parts;have ds:=hZ c0;have dt:=hZ c2;have du:=hZ c3;have dv:=hZ k1;have am:=hZ q;have dl:=hZ ak;have aa:=hZ y;have ed:bb<w.heap.size:=cm.o bb (.inl rfl);have ao:w.heap.size≠bb:=by omega
   have n2:w.heap.size+1≠bb:=by omega
   have V:=hZ ((((c.other (a:=bb) ao (.slice (some gb) gs.length cu)).other (a:=⟨bb,1,none⟩) ao secs).other (a:=⟨bb,2,none⟩) ao (.slice (some ci) gs.length cv)).other (a:=⟨bb,3,none⟩) ao (.slice (some ce) gs.length cj));have af:=hZ ((((d.other (a:=bb) n2 (.slice (some gb) gs.length cu)).other (a:=⟨bb,1,none⟩) n2 secs).other (a:=⟨bb,2,none⟩) n2 (.slice (some ci) gs.length cv)).other (a:=⟨bb,3,none⟩) n2 (.slice (some ce) gs.length cj));have r0:=V.o.cell 0;have r1:=V.o.cell 1;have r2:=af.o.cell 0;have bk:=af.o.cell 1;have bl:=V.o.frozen 0;have bm:=V.o.frozen 1;have bn:=af.o.frozen 0;have bo:=af.o.frozen 1;clear k1 q ak c d y;go_wp2_with fail;have z:=V.o.setCell 0 (.int .i64 0);have ac:=z.setCell 1 (.int .i64 0);have A:=((af.o.other (a:=⟨w.heap.size,0,none⟩) (by simp) (.int .i64 0)).other (a:=⟨w.heap.size,1,none⟩) (by simp) (.int .i64 0))
   have C:=A.setCell 0 (.int .i64 0);have ad:=C.setCell 1 (.int .i64 0);have ae:=(ac.other (a:=⟨w.heap.size+1,0,none⟩) (by simp) (.int .i64 0)).other (a:=⟨w.heap.size+1,1,none⟩) (by simp) (.int .i64 0)
   refine l9 (gW rfl _ _ w.heap.size (w.heap.size+1) 46 yF yF (0,0) (0,0) _ rfl rfl ae ad rfl rfl rfl rfl) rfl ?_;have da:=aW.restore dl.o dv.o rfl ds.o dt.o du.o;have Y:=(((da.setOther (j:=0) (u:= .int .i64 0) V.o (by decide) (by decide) (by decide) (by decide) (by decide) (by decide)).setOther (j:=1) (u:= .int .i64 0) z (by decide) (by decide) (by decide) (by decide) (by decide) (by decide)).setOther (j:=0) (u:= .int .i64 0) A (by decide) (by decide) (by decide) (by decide) (by decide) (by decide)).setOther (j:=1) (u:= .int .i64 0) C (by decide) (by decide) (by decide) (by decide) (by decide) (by decide)
   rw[ca.o];refine⟨rfl,ce,cpM ms an,Y,dc.o,?_,?_⟩
   ·rintro k (rfl|m)
    ·exact .inl (.inl rfl)
    ·exact .inr (l6 (by omega) (bz.o k (.inr m)))
   ·exact(((((((aa.o.setCell (.inl (.inl rfl))).setCell (.inl (.inl rfl))).setCell (.inl (.inl rfl))).setCell (.inl (.inl rfl))).setCell (.inr (d8 _))).setCell (.inr (d8 _))).setCell (.inr (bLv _))).setCell (.inr (bLv _))
 ·have hr:eE gs secs (fO ms) es size two=⟨(0,0),(0,0),1,fO ms,es⟩:=by unfold eE;rw[i9 cn]
  rw[hr];have r0:=N.o.cell 0;have r1:=N.o.cell 1;have r2:=O.o.cell 0;have bk:=O.o.cell 1;have bl:=N.o.frozen 0;have bm:=N.o.frozen 1;have bn:=O.o.frozen 0;have bo:=O.o.frozen 1;by_cases h1:size<1
  ·go_wp2_with fail
   rw[←D];refine l9 (gW rfl _ _ w.heap.size (w.heap.size+1) 46 yF yF (0,0) (0,0) _ rfl rfl N.o O.o rfl rfl rfl rfl) rfl ?_;exact⟨rfl,eb,ms,ah.o,rfl,fun k m=> .inl m,Mod.below bh.o⟩
  ·have h2:4<size:=by omega
   go_wp2_with fail;rw[←D];refine l9 (gW rfl _ _ w.heap.size (w.heap.size+1) 46 yF yF (0,0) (0,0) _ rfl rfl N.o O.o rfl rfl rfl rfl) rfl ?_;exact⟨rfl,eb,ms,ah.o,rfl,fun k m=> .inl m,Mod.below bh.o⟩
end
section
open Go.RowKit Go.ChangeShapes Go.WideShapes Go.Deep
variable {last secs:Int} {w w':World} {args:Array Value} {cs old xs xs2:List Value} {b0 base base2 bb cb ce e e2 eb ec g i j k k2 mb mb' n n2 sz top:Nat} {gv mv u v v2:Value} {es esc:List Nat} {f:Nat→Nat} {gs:Gs} {rs:List (Nat×Nat)} {fn:Func} {F:Nat→Prop} {P:Program}
attribute [local go_sem ↓] Go.wp_at_zero Go.wp_at_succ
theorem aJh (b a j:Nat):(⟨b,a,none⟩:Addr).add j=⟨b,a+j,none⟩:=by unfold Addr.add;split<;>simp_all
section
variable {H:Type} {enc:TypeId×Value→H} {W:World} {base:Nat} {spare:Nat→Bool} {held:Bool}
theorem aOe {K:DataW H×List MemPlace} (h:DataW.trod enc prog W base spare held n 22 [v]=some K):∃a len cap gs,v= .slice a len cap∧oZ W a len cap gs:=by
 rcases open_slice_pairs underlying22 underlying73 (by kernel_rfl) rfl rfl (by kernel_rfl) (by kernel_rfl) h with⟨hcs,_⟩|⟨ad,len,cap,m,k,V0,V1,D0,D1,P0,P1,hcs,hb,hl,hm,hmm,hx,hi⟩
 ·simp at hcs
  exact⟨none,0,0,[],hcs,RSl.nil W 2⟩
 ·simp at hcs
  have N:len≤m:=by rw[hmm];split<;>omega
  have z:∀i,i<len→∃r:Int×Int,W.cell? (ad.add (i*2))=some (.int .i64 r.1)∧W.cell? (ad.add (i*2+1))=some (.int .i64 r.2):=by
   intro i O;obtain⟨c0,C,g0,D⟩:=hi i (by omega)
   obtain⟨E,e0,_,_⟩:=DataW.trod_int underlying3 g0;obtain⟨G,c,_,_⟩:=DataW.trod_int underlying3 D;simp at e0 c;exact⟨(E,G),by rw[c0,e0],by rw[C,c]⟩
  obtain⟨q,y⟩:=choose_lt z;refine⟨some ad,len,cap,(List.range len).map q,hcs,by rw[aBs];simp,hl,hm,fun e=>by simp at e,fun I=>?_⟩
  obtain⟨b,x,t⟩:=ad;have h0:=(y 0 I).1;have J:t=none:=by
   cases t with
   |none=>rfl
   |some s=>simp[Addr.add,World.cell?] at h0;split at h0<;>simp at h0
  subst J;refine⟨b,x,rfl,block_lt_of_cell (a:=⟨b,x,none⟩) (by simpa[Addr.add] using h0),fun j Q=>?_⟩
  have l:j/2<len:=by omega
  have A:((List.range len).map q).getD (j/2) (0,0)=q (j/2):=by simp[List.getD,l]
  obtain⟨e0,c⟩:=xU ((List.range len).map q) (j/2) (by simpa using l)
  rw[A] at e0 c;obtain⟨k0,k1⟩:=y (j/2) l;have p:j%2=0∨j%2=1:=by omega
  rcases p with p|p
  ·have d:j=j/2*2:=by omega
   rw[←d] at e0 k0;rw[aJh] at k0;rw[e0,←k0]
  ·have d:j=j/2*2+1:=by omega
   rw[←d] at c k1;rw[aJh] at k1;rw[c,←k1]
theorem aXd {r:Reach} {d:DataW H} {p:List MemPlace} (m:Value.okWide prog W r b0 24 v) (h:DataW.Trod enc prog W base spare held 24 v d p):
  ∃(a:Option Addr) (b c:Nat) (gs:Gs) (secs:Int),v= .agg #[.slice a b c,secs]∧oZ W a b c gs:=by
 obtain⟨x,v1,y,y1,k,rfl,rfl,rfl,g0,q⟩:=Joins.open_agg2 underlying24 (by kernel_rfl) (by kernel_rfl) m h
 obtain⟨a,b,c,gs,rfl,s⟩:=aOe g0;obtain⟨t,l,_,z⟩:=DataW.trod_int underlying3 q;simp at l;subst l;exact⟨a,b,c,gs,t,rfl,s⟩
end
end

end Go.Proofs.YtepmcdopccflgaaGreatDoor

