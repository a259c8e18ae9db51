/- Texts joined. -/
import Derived.Test.YtbmbhcheonjigaaGreatDoorQG
import Derived.Test.YtbmbhcheonjigaaGreatDoorQF
import Derived.Test.YtbmbhcheonjigaaGreatDoorQD
import Derived.Test.YtbmbhcheonjigaaGreatDoorQE
/- The specification's ai3 on trees as data (plain). -/
set_option linter.unusedSimpArgs false
set_option linter.defProp false
set_option linter.unusedVariables false
set_option maxRecDepth 100000
namespace Go.Proofs.YtbmbhcheonjigaaGreatDoor.Ty
section
open Go Go.Am Go.Proofs Go.Proofs.YtbmbhcheonjigaaGreatDoor
open Go.Proofs.Lx (Tr)
theorem xQ{v:kM}{s:ByteArray}:∀(n:Nat),(∀j,j<n->v.2.1 j≠s)->cK v n s=none
 |0,_=>rfl
 |n+1,h=>by
  simp only[cK];rw[if_neg (λe=>h n (by omega) e.symm),xQ n λj hj=>h j (by omega)]
theorem aq0{v:kM}(hv:VOk v){i:Nat}:∀(n:Nat),n<=v.1->i<n->cK v n (v.2.1 i)=some (au0 v i)
 |0,_,h=>absurd h (by omega)
 |n+1,hn,h=>by
  simp only[cK];by_cases hi:i=n
  ·subst hi;rw[if_pos rfl]
  ·rw[if_neg (λe=>hv.ne i n (by omega) (by omega) e),aq0 hv n (by omega) (by omega)]
theorem fu2{v:kM}{n:Nat}{s:ByteArray}(h:s=v.2.1 n):cK v (n+1) s=some (au0 v n):=by
 simp only[cK];rw[if_pos h]
theorem ez2{v:kM}{n:Nat}{s:ByteArray}(h:¬s=v.2.1 n):cK v (n+1) s=cK v n s:=by
 simp only[cK];rw[if_neg h]
def gO(v:kM):Sg:=(v.1,cK v v.1)
def tbV(v:kM):wY:=(v.1,(λs=>(cK v v.1 s).isSome),(λs=>((cK v v.1 s).getD (0,0,0,0,0)).1),(λs=>((cK v v.1 s).getD (0,0,0,0,0)).2.1),(λs=>((cK v v.1 s).getD (0,0,0,0,0)).2.2.1),(λs=>((cK v v.1 s).getD (0,0,0,0,0)).2.2.2.1),(λs=>((cK v v.1 s).getD (0,0,0,0,0)).2.2.2.2))
theorem ha9(v:kM):aD (tbV v)=cK v v.1:=by
 funext s
 have key:∀o:Option dR,(if o.isSome then some ((o.getD (0,0,0,0,0)).1,(o.getD (0,0,0,0,0)).2.1,(o.getD (0,0,0,0,0)).2.2.1,(o.getD (0,0,0,0,0)).2.2.2.1,(o.getD (0,0,0,0,0)).2.2.2.2)else none)=o:=by
  intro o;cases o<;>rfl
 exact key _
theorem hp6{v:kM}(hv:VOk v):TR v v.1 (tbV v):=by
 intro s;by_cases h:∃j,j<v.1/\v.2.1 j=s
 ·obtain⟨i,hi,rfl⟩:=h;have e:=aq0 hv v.1 (Nat.le_refl _) hi;refine⟨⟨λ_=>⟨i,hi,rfl⟩,λ_=>by unfold tbV;dsimp only;rw[e];rfl⟩,λj hj hs=>?_⟩
  have hji:j=i:=by
   rcases Nat.lt_trichotomy j i with g|g|g
   ·exact absurd hs (hv.ne j i g hi)
   ·exact g
   ·exact absurd hs.symm (hv.ne i j g hj)
  subst hji;unfold tbV;dsimp only;rw[e];exact⟨rfl,rfl,rfl,rfl,rfl⟩
 ·have e:=xQ (v:=v) (s:=s) v.1 λj hj hs=>h ⟨j,hj,hs⟩;refine⟨⟨λg=>?_,λg=>absurd g h⟩,λj hj hs=>absurd ⟨j,hj,hs⟩ h⟩;unfold tbV at g;dsimp only at g;rw[e]at g;cases g
mutual
theorem ea1:∀(t:Tr) (x:n9),Rep t x->Y6 x.2.2.2.1 x.2.2.2.2/\Dp (siz t) x.2.2.2.1 x.2.2.2.2
 | .node k n s l,(k',n',s',m',f),hr=>by
  simp only[Rep]at hr;obtain⟨rfl,rfl,rfl,rfl,hl,ho,hk⟩:=hr;have h:=cq3 l f 0 hk;refine⟨Y6.of ho λj hj=>?_,?_⟩
  ·have:=(h j hj).1
   rwa [Nat.zero_add]at this
  ·simp only[siz];rw[Nat.add_comm];intro j hj;have:=(h j hj).2
   rwa [Nat.zero_add]at this
theorem cq3:∀(l:List Tr) (f:Nat->List V) (i:Nat),n5 l f i->∀j,j<l.length->Y6 (opM f (i+j)) (opF f (i+j))/\Dp (i9 l) (opM f (i+j)) (opF f (i+j))
 | [],_,_,_,j,h=>by simp at h
 |t::l,f,i,h,j,hj=>by
  simp only[n5]at h;simp only[i9];cases j with
  |zero=>
   have:=ea1 t _ h.1;exact⟨this.1,this.2.le (by omega)⟩
  |succ j=>
   have:=cq3 l f (i+1) h.2 j (by simpa using hj);rw[show i+1+j=i+(j+1)by omega]at this;exact⟨this.1,this.2.le (by omega)⟩
end
theorem gb1{v:kM}(hv:VOk v){a:Tr}{x:n9}{q:Nat}(h:Rep a x)(hq:siz a+30<q):
 Z2 (ROf q (x.1,x.2.1,x.2.2.1,x.2.2.2.1,x.2.2.2.2,v)) (λz=>z=ofV (gO v).2 a/\R8 (zR z)):=by
 obtain⟨h1,h2⟩:=ea1 a x h;obtain⟨z,g1,g2,g3⟩:=gt4 hv (hp6 hv) (siz a) q q x.1 x.2.1 x.2.2.1 x.2.2.2.1 x.2.2.2.2 h2 h1 (by omega) (by omega);have g4:=gi6 (tbV v) a x q h (by omega);rw[g1]at g4;refine⟨z,g2,?_,g3⟩;rw[ha9]at g4;show z=ofV (cK v v.1) a;generalize ofV (cK v v.1) a=w at g4⊢;obtain⟨z1,z2,z3,z4,z5,z6,z7⟩:=z;obtain⟨w1,w2,w3,w4,w5,w6,w7⟩:=w;simp only[Option.some.injEq,Prod.mk.injEq]at g4;obtain⟨rfl,rfl,rfl,rfl,rfl,rfl,rfl,_⟩:=g4;rfl
abbrev gy0:Type:=s6
def cf7(z:gy0):kM:=(z.1,z.2.1,z.2.2.1,z.2.2.2.1,z.2.2.2.2.1,z.2.2.2.2.2.1,z.2.2.2.2.2.2.1)
def cf0(z:gy0):Int:=z.2.2.2.2.2.2.2
def mkD(v:kM)(e:Int):gy0:=(v.1,v.2.1,v.2.2.1,v.2.2.2.1,v.2.2.2.2.1,v.2.2.2.2.2.1,v.2.2.2.2.2.2,e)
def Z9(r:Int×Sg)(z:gy0):Prop:=cf0 z=r.1/\(cf0 z=0->VOk (cf7 z)/\gO (cf7 z)=r.2)
theorem Z9.mk{v:kM}(hv:VOk v)(e:Int):Z9 (e,gO v) (mkD v e):=⟨rfl,λ_=>⟨hv,rfl⟩⟩
theorem Z9.bad{v:kM}{r:Int×Sg}{e:Int}(h:e=r.1)(h0:e≠0):Z9 r (mkD v e):=⟨h,λg=>absurd g h0⟩
theorem gm2{v:kM}(hv:VOk v){s:ByteArray}{d:dR}(hd:R8 d){q:Nat}(hq:20<q):
 Z2 (aw7 q (v.1,v.2.1,v.2.2.1,v.2.2.2.1,v.2.2.2.2.1,v.2.2.2.2.2.1,v.2.2.2.2.2.2,s,d.1,d.2.1,d.2.2.1,d.2.2.2.1,d.2.2.2.2)) (Z9 (cW s d (gO v))):=by
 have hn:=hv.n
 have key:Z2 (fh9 q (v.1,v.2.1,v.2.2.1,v.2.2.2.1,v.2.2.2.2.1,v.2.2.2.2.2.1,v.2.2.2.2.2.2,s,d.1,d.2.1,d.2.2.1,d.2.2.2.1,d.2.2.2.2)) (λz=>Z9 (cW s d (gO v)) (bm8 z)):=by
  unfold fh9 cy9 U13;dsimp only;refine BB (be3 (by omega) (by omega)) λ(z:Int) hz=>?_;rcases hz with⟨rfl,hno⟩ | ⟨i,hi,rfl,his,_⟩
  ·have hnone:((gO v).2 s).isSome=false:=by
    show(cK v v.1 s).isSome=false;rw[xQ v.1 hno];rfl
   refine BE (by decide) (BF (λh=>BC ?_) λh=>BD ⟨by simp only[b6];omega,by simp only[maxLen];omega,Nat.le_refl _⟩ (BD ⟨by simp only[b6];omega,by simp only[maxLen];omega,Nat.le_refl _⟩ (BC ?_)))
   ·have h:(v.1:Int)>=12:=by simpa using h
    rw[am1 (by rw[hnone];decide) (show v.1>=12 by omega)];exact Z9.bad (v:=v) rfl (by decide)
   ·have h:¬(v.1:Int)>=12:=by simpa using h
    rw[as6 (by rw[hnone];decide) (show¬v.1>=12 by omega)];refine⟨rfl,λ_=>?_⟩;have e0:∀j,(j<0+v.1)=(j<v.1):=λj=>by rw[Nat.zero_add]
    have ev:cf7 (bm8 (Sum.inr (0+v.1+1,(λj=>if j<0+v.1 then v.2.1 j else s),(λj=>if j<0+v.1 then v.2.2.1 j else d.1),(λj=>if j<0+v.1 then v.2.2.2.1 j else d.2.1),(λj=>if j<0+v.1 then v.2.2.2.2.1 j else d.2.2.1),(λj=>if j<0+v.1 then v.2.2.2.2.2.1 j else d.2.2.2.1),(λj=>if j<0+v.1 then v.2.2.2.2.2.2 j else d.2.2.2.2))))=(v.1+1,(λj=>if j<v.1 then v.2.1 j else s),(λj=>if j<v.1 then v.2.2.1 j else d.1),(λj=>if j<v.1 then v.2.2.2.1 j else d.2.1),(λj=>if j<v.1 then v.2.2.2.2.1 j else d.2.2.1),(λj=>if j<v.1 then v.2.2.2.2.2.1 j else d.2.2.2.1),(λj=>if j<v.1 then v.2.2.2.2.2.2 j else d.2.2.2.2)):=by
     unfold cf7 bm8;simp only[Sum.elim_inr,Nat.zero_add]
    rw[ev];refine⟨⟨by show v.1+1<=12;omega,λa b hab hb=>?_,λj hj=>?_⟩,?_⟩
    ·simp only at hb⊢;by_cases hb':b<v.1
     ·rw[if_pos (by omega),if_pos hb'];exact hv.ne a b hab hb'
     ·rw[if_pos (by omega),if_neg hb'];exact hno a (by omega)
    ·simp only at hj⊢;by_cases hj':j<v.1
     ·simp only[if_pos hj'];exact hv.d j hj'
     ·simp only[if_neg hj'];exact hd
    ·unfold gO;refine Prod.ext rfl ?_;show cK _ (v.1+1)=cd7 (cK v v.1) s d;funext x;unfold cd7;have es:(if v.1<v.1 then v.2.1 v.1 else s)=s:=if_neg (Nat.lt_irrefl _);by_cases hx:x=s
     ·rw[if_pos hx,fu2 (show x=(if v.1<v.1 then v.2.1 v.1 else s)by rw[es];exact hx)];unfold au0;simp only[if_neg (Nat.lt_irrefl _)]
     ·rw[if_neg hx,ez2 (show¬x=(if v.1<v.1 then v.2.1 v.1 else s)by rw[es];exact hx)];refine congrFun (be9 λj hj=>⟨?_,?_⟩) x
      ·simp only[if_pos hj]
      ·unfold au0;simp only[if_pos hj]
  ·have hsome:((gO v).2 s).isSome=true:=by
    show(cK v v.1 s).isSome=true;rw[<-his,aq0 hv v.1 (Nat.le_refl _) hi];rfl
   refine BD (by simp) (BC ?_);rw[ad1 hsome];exact Z9.bad (v:=v) rfl (by decide)
 obtain⟨z,h1,h2⟩:=key;unfold aw7;rw[h1];exact⟨_,rfl,h2⟩
theorem ha3{s:ByteArray}{d:dR}(hd:R8 d){q:Nat}(hq:20<q):Z2 (rK q (s,d.1,d.2.1,d.2.2.1,d.2.2.2.1,d.2.2.2.2)) (Z9 (cW s d (0,λ_=>none))):=by
 have key:Z2 (fj7 q (s,d.1,d.2.1,d.2.2.1,d.2.2.2.1,d.2.2.2.2)) (λz=>Z9 (cW s d (0,λ_=>none)) (cp8 z)):=by
  unfold fj7 db6 U6;dsimp only;refine BB (P:=λz:Int=>z= -1) ?_ λ(z:Int) hz=>?_
  ·obtain⟨q,rfl⟩:∃k,q=k+1:=⟨q-1,by omega⟩;unfold ga3 cx0;refine BB (P:=λ_=>True) (i6 ?_) λz _=>BC rfl;unfold ak5;exact BC trivial
  ·subst hz;refine BE (by decide) (BC ?_);rw[as6 (s:=s) (g:=(0,λ_=>none)) (λh=>by cases h) (show¬(0:Nat)>=12 by omega)];refine⟨rfl,λ_=>⟨⟨by show 1<=12;omega,λi j hij hj=>by have hj:j<1:=hj;omega,λj hj=>hd⟩,?_⟩⟩;refine Prod.ext rfl ?_;funext x;show cK _ 1 x=_;simp only[cK];rfl
 obtain⟨z,h1,h2⟩:=key;unfold rK;rw[h1];exact⟨_,rfl,h2⟩
theorem cz0{v:kM}(hv:VOk v){a:Tr}{x:n9}{q:Nat}(h:Rep a x)(hq:siz a+30<q):Z2 (fa0 q (x.1,x.2.1,x.2.2.1,x.2.2.2.1,x.2.2.2.2,v)) (λ(e:Int)=>e=fM a (gO v)):=by
 unfold fa0 cw9 fM eZ;refine BB (gb1 hv h hq) λz hz=>?_;obtain⟨rfl,_⟩:=hz;generalize ofV (gO v).2 a=T;by_cases he:T.2.2.2.2.2.2=0
 ·rw[if_pos he];refine BD (by simpa using he) (BF (λhb=>BC ?_) λhb=>BC ?_)
  ·rw[if_neg (by simpa using hb)]
  ·rw[if_pos (by simpa using hb)];exact he
 ·rw[if_neg he];exact BE (by simpa using he) (BC rfl)
theorem ef2{v:kM}(hv:VOk v){a:Tr}{x:n9}{d:dR}{q:Nat}(h:Rep a x)(hq:siz a+30<q):
 Z2 (bv7 q (x.1,x.2.1,x.2.2.1,x.2.2.2.1,x.2.2.2.2,v.1,v.2.1,v.2.2.1,v.2.2.2.1,v.2.2.2.2.1,v.2.2.2.2.2.1,v.2.2.2.2.2.2,d)) (λ(e:Int)=>e=jE a d (gO v)):=by
 unfold bv7 cc6 jE eZ U17;refine BB (gb1 hv h hq) λz hz=>?_;obtain⟨rfl,_⟩:=hz;generalize ofV (gO v).2 a=T;by_cases he:T.2.2.2.2.2.2=0
 ·rw[if_pos he];refine BD (by simpa using he) ?_;refine BF (λhb=>BC (if_pos hb).symm) λhb=>BD (by simpa using he) ?_;by_cases hd:zR T=d
  ·exact BE (λg=>(dims_ne.1 g) hd) (BC (by rw[if_neg hb,if_pos hd];exact he))
  ·exact BD (dims_ne.2 hd) (BC (by rw[if_neg hb,if_neg hd]))
 ·rw[if_neg he];exact BE (by simpa using he) (BE (by simpa using he) (BC rfl))
theorem gd9{v:kM}(hv:VOk v){k n:Int}{s:ByteArray}{l:List Tr}{f:Nat->List V}{q:Nat}(hr:n5 l f 0)(h:0<l.length)(hk:k=1\/k=2)(hq:i9 l+30<q):Z2 (gu6 q (k,n,s,l.length,opK f,opN f,opS f,opM f,opF f,v)) (Z9 (dk1 k s (hdT l) (gO v))):=by
 obtain⟨h1,h2⟩:=kD hr h;have hn:=hv.n;unfold gu6 ex4 dk1 U16;dsimp only;refine BD ⟨by omega,by omega⟩ (BB (gb1 hv h1 (by omega)) λz hz=>BB (be3 (by omega) (by omega)) λ(y:Int) hy=>?_);obtain⟨rfl,h8⟩:=hz;generalize ofV (gO v).2 (hdT l)=T at h8⊢;by_cases he:T.2.2.2.2.2.2=0
 ·refine BE (by simpa using he) ?_;have dcl:Z2 ((aw7 q (v.1,v.2.1,v.2.2.1,v.2.2.2.1,v.2.2.2.2.1,v.2.2.2.2.2.1,v.2.2.2.2.2.2,s,T.2.1,T.2.2.1,T.2.2.2.1,T.2.2.2.2.1,T.2.2.2.2.2.1)).bind λz=>some z) (Z9 (cW s (zR T) (gO v))):=BB (gm2 hv (d:=zR T) h8 (by omega)) λz hz=>BC hz;rcases hk with rfl|rfl
  ·refine BE (by decide) (BF (λhb=>?_) λhb=>BE (by decide) ?_)
   ·rw[bt4 he hb];exact BC (Z9.bad (v:=v) rfl (by decide))
   ·rw[cp3 he hb];exact dcl
  ·refine BD (by decide) ?_;rcases hy with⟨rfl,hno⟩ | ⟨i,hi,rfl,his,_⟩
   ·have e:(gO v).2 s=none:=xQ v.1 hno;rw[cm1 he e];exact BD (by decide) (BC (Z9.bad (v:=v) rfl (by decide)))
   ·have e:(gO v).2 s=some (au0 v i):=by
     show cK v v.1 s=_;rw[<-his,aq0 hv v.1 (Nat.le_refl _) hi]
    refine BE (by simp) (BF (λhb=>?_) λhb=>BD (by decide) (BD ⟨by omega,by show(i:Int)< ((v.1:Nat):Int);omega⟩ ?_))
    ·rw[ci0 he e hb];exact BC (Z9.bad (v:=v) rfl (by decide))
    ·simp only[Int.toNat_natCast];by_cases hd:au0 v i=zR T
     ·rw[ck2 he e hb hd];exact BE (λg=>(dims_ne.1 g) hd) (BC (Z9.mk hv 0))
     ·rw[ci4 he e hb hd];exact BD (dims_ne.2 hd) (BC (Z9.bad (v:=v) rfl (by decide)))
 ·rw[eb1 he];exact BD (by simpa using he) (BC (Z9.bad (v:=v) rfl he))
theorem gr5:∀(l:List Tr) (g:Sg),alV 1 l g=alV 0 (l.drop 1) g
 | [],g=>by rw[mD,List.drop_nil,mD]
 |t::l,g=>by rw[cz7];rfl
theorem fp0{c:bP->Option s6}{l:List Tr}{f:Nat->List V}{nk nn ff:Int}{ns:ByteArray}{v0:kM}(hl:l.length<=9223372036854775807)
 (hc:∀(j:Nat) (tr:Tr) (v:kM),VOk v->l[j]? =some tr->Z2 (c (opK f j,opN f j,opS f j,opM f j,opF f j,v)) (Z9 (stV tr (gO v)))):
 ∀(r q i:Nat) (v:kM),i+r=max l.length i->r<q->VOk v->Z2 (dr7 c q (nk,nn,ns,l.length,opK f,opN f,opS f,opM f,opF f,ff,v0) (mkD v (i:Int))) (λz=>Z9 (alV 0 (l.drop i) (gO v)) (Sum.elim id (λv=>mkD v 0) z)):=by
 intro r
 induction r with
 |zero=>
  intro q i v hi hq hv;obtain⟨q,rfl⟩:∃k,q=k+1:=⟨q-1,by omega⟩;refine i6 ?_;unfold vT;rw[List.drop_of_length_le (by omega),mD];exact BE (show¬decide ((i:Int)< (l.length:Int))=true by simp only[decide_eq_true_eq];omega) (BC (Z9.mk hv 0))
 |succ r ih=>
  intro q i v hi hq hv;obtain⟨q,rfl⟩:∃k,q=k+1:=⟨q-1,by omega⟩;refine i6 ?_;unfold vT;have hil:i<l.length:=by omega
  have ht:l[i]? =some l[i]:=List.getElem?_eq_getElem hil;rw[List.drop_eq_getElem_cons hil,tJ];refine BD (show decide ((i:Int)< (l.length:Int))=true by simp only[decide_eq_true_eq];omega) (BD (show(0:Int)<=(i:Int)/\(i:Int)< (l.length:Int)from⟨by omega,by omega⟩) ?_);refine BB (P:=Z9 (stV l[i] (gO v))) (hc i _ v hv ht) λz hz=>?_;have ew:w (((mkD v (i:Int)).2.2.2.2.2.2.2)+1)=((i+1:Nat):Int):=o7 (by omega);rw[ew];obtain⟨h1,h2⟩:=hz;refine BF (λh=>BC ?_) λh=>BC ?_
  ·have h:¬z.2.2.2.2.2.2.2=0:=by simpa using h
   have h:¬cf0 z=0:=h;rw[if_neg (by rw[<-h1];exact h)];exact Z9.bad (v:=v) (e:=cf0 z) h1 h
  ·have h:z.2.2.2.2.2.2.2=0:=by simpa using h
   have h:cf0 z=0:=h;obtain⟨h3,h4⟩:=h2 h;rw[if_pos (by rw[<-h1];exact h),<-h4];exact ih q (i+1) (cf7 z) (by omega) (by omega) h3
theorem hr7:∀q:Nat,(∀(tr:Tr) (x:n9) (v:kM),VOk v->Rep tr x->2*siz tr+40<q->siz tr<=100000->Z2 (co6 q (x.1,x.2.1,x.2.2.1,x.2.2.2.1,x.2.2.2.2,v)) (Z9 (stV tr (gO v))))/\
 (∀(l:List Tr) (f:Nat->List V) (k n:Int) (s:ByteArray) (i:Nat) (v:kM),VOk v->i<=1->n5 l f 0->hJ f->2*i9 l+41<q->i9 l<=100000->Z2 (gx4 q (k,n,s,l.length,f,(i:Int),v)) (Z9 (alV i l (gO v)))):=by
 intro q
 induction q with
 |zero=>exact⟨λ_ _ _ _ _ h=>by omega,λ_ _ _ _ _ _ _ _ _ _ _ h=>by omega⟩
 |succ q ih=>
  obtain⟨ih1,ih2⟩:=ih;refine⟨?_,?_⟩
  ·rintro⟨k,n,s,l⟩ ⟨k',n',s',m',f⟩ v hv hr hq hm;simp only[Rep]at hr;obtain⟨rfl,rfl,rfl,rfl,hl,ho,hk⟩:=hr;simp only[siz]at hq hm;unfold co6 rSB;dsimp only;rw[_root_.if_pos ho];unfold ca2 U16;dsimp only;refine BB (P:=λb=>b=wfV k' l) (fj8 q k' n' s' hk) λb hb=>?_;subst hb;rw[bo8];by_cases hw:wfV k' l=false
   ·rw[if_pos hw];exact BD (by rw[hw];rfl) (BC (Z9.mk hv 7))
   rw[if_neg hw];have hw':wfV k' l=true:=by simpa using hw
   obtain⟨w1,w2,w3⟩:=gf1 hw';refine BE (by rw[hw'];decide) (BB (P:=λb=>b=rgV k' n') (ci8 q k' n' s' l.length _) λb hb=>?_);subst hb;by_cases hg:rgV k' n'=false
   ·rw[if_pos hg];exact BD (by rw[hg];rfl) (BC (Z9.mk hv 5))
   rw[if_neg hg];have hg':rgV k' n'=true:=by simpa using hg
   refine BE (by rw[hg'];decide) ?_
   have allC:∀(i:Nat),i<=1->Z2 (((rSB q).2 (k',n',s',l.length,λj=>[i64 (opK f j),i64 (opN f j),st (opS f j),V.ro 4 (opM f j) (opF f j)],(i:Int),v)).bind λz=>some z) (Z9 (alV i l (gO v))):=λi hi=>by
    rw[cY ho];exact BB (ih2 l f k' n' s' i v hv hi hk ho (by omega) (by omega)) λz hz=>BC hz
   by_cases h14:k'=14
   ·rw[if_neg (show¬(k'=1\/k'=2)by omega),if_neg (show¬k'=7 by omega),if_neg (show¬k'=8 by omega),if_neg (show¬(k'=5\/k'=9)by omega),if_neg (show¬(k'=10\/k'=11)by omega),if_neg (show¬k'=6 by omega),if_neg (show¬k'=3 by omega)];exact BD (by simpa using h14) (allC 0 (by omega))
   refine BE (by simpa using h14) ?_;by_cases h4:k'=4
   ·rw[if_neg (show¬(k'=1\/k'=2)by omega),if_neg (show¬k'=7 by omega),if_neg (show¬k'=8 by omega),if_neg (show¬(k'=5\/k'=9)by omega),if_neg (show¬(k'=10\/k'=11)by omega),if_neg (show¬k'=6 by omega),if_neg (show¬k'=3 by omega)];exact BD (by simpa using h4) (allC 0 (by omega))
   refine BE (by simpa using h4) ?_;by_cases h1:k'=1
   ·rw[if_pos (show k'=1\/k'=2 by omega)];exact BD (by simpa using h1) (BB (gd9 hv hk (w1 (by omega)) (.inl h1) (by omega)) λz hz=>BC hz)
   refine BE (by simpa using h1) ?_;by_cases h2:k'=2
   ·rw[if_pos (show k'=1\/k'=2 by omega)];exact BD (by simpa using h2) (BB (gd9 hv hk (w1 (by omega)) (.inr h2) (by omega)) λz hz=>BC hz)
   rw[if_neg (show¬(k'=1\/k'=2)by omega)];refine BE (by simpa using h2) ?_;by_cases h3:k'=3
   ·rw[if_neg (show¬k'=7 by omega),if_neg (show¬k'=8 by omega),if_neg (show¬(k'=5\/k'=9)by omega),if_neg (show¬(k'=10\/k'=11)by omega),if_neg (show¬k'=6 by omega),if_pos h3];obtain⟨g1,g2⟩:=kD hk (w1 (by omega));have hlen:=w3 h3;refine BD (by simpa using h3) (BD ⟨by omega,by omega⟩ (BB (cz0 hv g1 (by omega)) λ(z:Int) hz=>?_));subst hz;refine BF (λh=>BC ?_) λh=>?_
    ·have h:¬fM (hdT l) (gO v)=0:=by simpa using h
     rw[if_neg h];exact Z9.mk hv _
    ·have h:fM (hdT l) (gO v)=0:=by simpa using h
     rw[if_pos h];exact allC 1 (by omega)
   refine BE (by simpa using h3) ?_;by_cases h6:k'=6
   ·rw[if_neg (show¬k'=7 by omega),if_neg (show¬k'=8 by omega),if_neg (show¬(k'=5\/k'=9)by omega),if_neg (show¬(k'=10\/k'=11)by omega),if_pos h6];obtain⟨g1,g2⟩:=kD hk (w1 (by omega));obtain⟨g3,g4⟩:=gq9 hk (w2 h6);refine BD (by simpa using h6) (BD ⟨by omega,by have:=w1 (by omega);omega⟩ (BB (cz0 hv g1 (by omega)) λ(z:Int) hz=>?_));subst hz;refine BF (λh=>BC ?_) λh=>BD ⟨by omega,by have:=w2 h6;omega⟩ ?_
    ·have h:¬fM (hdT l) (gO v)=0:=by simpa using h
     rw[if_neg h];exact Z9.mk hv _
    ·have h:fM (hdT l) (gO v)=0:=by simpa using h
     rw[if_pos h];exact BB (ef2 hv (d:=(0,0,1,0,0)) g3 (by omega)) λ(z:Int) hz=>BC (by subst hz;exact Z9.mk hv _)
   refine BE (by simpa using h6) ?_;by_cases h7:k'=7
   ·rw[if_pos h7];obtain⟨g1,g2⟩:=kD hk (w1 (by omega));exact BD (by simpa using h7) (BD ⟨by omega,by have:=w1 (by omega);omega⟩ (BB (cz0 hv g1 (by omega)) λ(z:Int) hz=>BC (by subst hz;exact Z9.mk hv _)))
   rw[if_neg h7];refine BE (by simpa using h7) ?_
   have qq:∀{d:dR},(k'=8\/k'=5\/k'=9\/k'=10\/k'=11)->Z2 (if(0:Int)<=(0:Int)/\(0:Int)< ((l.length:Nat):Int)then(bv7 q (opK f 0,opN f 0,opS f 0,opM f 0,opF f 0,v.1,v.2.1,v.2.2.1,v.2.2.2.1,v.2.2.2.2.1,v.2.2.2.2.2.1,v.2.2.2.2.2.2,d)).bind λz=>some (mkD v z)else none) (Z9 (jE (hdT l) d (gO v),gO v)):=λ{d} hkk=>by
    obtain⟨g1,g2⟩:=kD hk (w1 (by omega));exact BD ⟨by omega,by have:=w1 (by omega);omega⟩ (BB (ef2 hv (d:=d) g1 (by omega)) λ(z:Int) hz=>BC (by subst hz;exact Z9.mk hv _))
   by_cases h8:k'=8
   ·rw[if_pos h8];exact BD (by simpa using h8) (qq (d:=(0,0,0,1,0)) (by omega))
   rw[if_neg h8];refine BE (by simpa using h8) ?_;by_cases h5:k'=5
   ·rw[if_pos (show k'=5\/k'=9 by omega)];exact BD (by simpa using h5) (qq (d:=(0,0,1,0,0)) (by omega))
   refine BE (by simpa using h5) ?_;by_cases h9:k'=9
   ·rw[if_pos (show k'=5\/k'=9 by omega)];exact BD (by simpa using h9) (qq (d:=(0,0,1,0,0)) (by omega))
   rw[if_neg (show¬(k'=5\/k'=9)by omega)];refine BE (by simpa using h9) ?_;by_cases h10:k'=10
   ·rw[if_pos (show k'=10\/k'=11 by omega)];exact BD (by simpa using h10) (qq (d:=(0,1,0,0,0)) (by omega))
   refine BE (by simpa using h10) ?_;by_cases h11:k'=11
   ·rw[if_pos (show k'=10\/k'=11 by omega)];exact BD (by simpa using h11) (qq (d:=(0,1,0,0,0)) (by omega))
   rw[if_neg (show¬(k'=10\/k'=11)by omega),if_neg h6,if_neg h3];refine BE (by simpa using h11) (BC ?_)
   have hl0:l=[]:=by
    unfold wfV at hw';rw[if_neg h14,if_neg (show¬(k'=1\/k'=2\/k'=7\/k'=8)by omega),if_neg (show¬(k'=5\/k'=11\/k'=9\/k'=10)by omega),if_neg h6,if_neg h3,if_neg h4]at hw';split at hw'
    ·exact List.length_eq_zero_iff.1 (by simpa using hw')
    ·cases hw'
   subst hl0;rw[mD];exact Z9.mk hv 0
  ·intro l f k n s i v hv hi hk ho hq hm;unfold gx4 rSB;dsimp only;rw[_root_.if_pos ho];unfold cw1 U17;have hlen:=gG l;refine BB (fp0 (v0:=v) (by omega) (λj tr v' hv' hj=>?_) (max l.length i-i) q i v (by omega) (by omega) hv) λz hz=>?_
   ·have h1:=ap9 l f 0 hk j tr hj;rw[Nat.zero_add]at h1;have h2:=bn3 l j tr hj;exact ih1 tr (o6 f j) v' hv' h1 (by omega) (by omega)
   ·have e:alV i l (gO v)=alV 0 (l.drop i) (gO v):=by
     rcases(show i=0\/i=1 by omega)with rfl|rfl
     ·rfl
     ·exact gr5 l _
    rw[e];rcases z with z|z
    ·exact BC hz
    ·exact BC hz
abbrev CoT:Type:=List (Int×Int)
noncomputable def fI(n:Int)(s:ByteArray):Int:=if(n8 s).2.2.2.2.2.2 then w (n*(n8 s).2.2.2.2.2.1)else n
theorem bk7(q:Nat)(k n:Int)(s:ByteArray)(m:Nat)(f:Nat->List V):value q (k,n,s,m,f)=some (fI n s):=by
 unfold value de9 fI;rw[sN];show ite _ _ _=_;split<;>rfl
structure Cp(L:CoT)(N:Nat)(M:ByteArray->Option Nat)(d dm e:Int)(x:b8):Prop where
 n:x.1=L.length
 c:∀j p,L[j]? =some p->x.2.1 j=p.1/\x.2.2.1 j=p.2
 mn:x.2.2.2.1=N
 mh:∀s,x.2.2.2.2.1 s=(M s).isSome
 mv:∀s v,M s=some v->x.2.2.2.2.2.1 s=(v:Int)
 d:x.2.2.2.2.2.2.1=d
 dm:x.2.2.2.2.2.2.2.1=dm
 e:x.2.2.2.2.2.2.2.2=e
def BG:Int:=1000000000
section
variable {L:CoT} {N:Nat} {M:ByteArray->Option Nat} {d dm e:Int} {x:b8}
theorem bV(q:Nat)(o y b:Int)(h:Cp L N M d dm e x)(hL:(L.length:Int)<BG)(hd: -BG<=d+b/\d+b<=BG):
 Z2 (emit q (o,y,b,x)) (λz=>z.1=(L.length:Int)/\Cp (L++[(o,y)]) N M (d+b) (max dm (d+b)) e z.2):=by
 obtain⟨n,co,ca,mn,mh,mv,dp,dm',ce⟩:=x;obtain⟨h1,h2,h3,h4,h5,h6,h7,h8⟩:=h;simp only at h1 h2 h3 h4 h5 h6 h7 h8;subst h1 h3 h6 h7 h8;unfold BG at hL hd;unfold emit er7 U12;dsimp only;have w1:w (((L.length+1:Nat):Int)-1)=(L.length:Int):=by rw[dJ (by unfold inR;omega)];omega
 have w2:w (dp+b)=dp+b:=dJ (by unfold inR;omega);refine BD ⟨by unfold b6;omega,by unfold maxLen;omega,Nat.le_refl _⟩ (BC ⟨w1,?_⟩);refine⟨by simp,λj p hj=>?_,rfl,h4,h5,w2,?_,rfl⟩
 ·show(if j<L.length then co j else o)=_/\(if j<L.length then ca j else y)=_;by_cases hjl:j<L.length
  ·rw[List.getElem?_append_left hjl]at hj;rw[if_pos hjl,if_pos hjl];exact h2 j p hj
  ·rw[List.getElem?_append_right (by omega)]at hj;rw[if_neg hjl,if_neg hjl]
   have:j-L.length=0:=by
    apply Classical.byContradiction;intro hne;rw[List.getElem?_eq_none (by simp;omega)]at hj;cases hj
   rw[this]at hj;simp only[List.getElem?_cons_zero,Option.some.injEq]at hj;subst hj;exact⟨rfl,rfl⟩
 ·show(if w (dp+b)>dm' then w (dp+b)else dm')=_;rw[w2];split<;>omega
theorem ak3(q:Nat){A B:CoT}{o y:Int}(h:Cp (A++(o,y)::B) N M d dm e x){a:Int}(ha:a=(A.length:Int)):
 Z2 (here q (a,x)) (Cp (A++(o,((A++(o,y)::B).length:Int))::B) N M d dm e):=by
 subst ha;obtain⟨n,co,ca,mn,mh,mv,dp,dm',ce⟩:=x;obtain⟨h1,h2,h3,h4,h5,h6,h7,h8⟩:=h;simp only at h1 h2 h3 h4 h5 h6 h7 h8;have hl:A.length<n:=by rw[h1];simp
 unfold here eg3 U5;dsimp only;refine BD ⟨by omega,by omega⟩ (BD ⟨by rw[Int.toNat_natCast];omega,rfl⟩ (BC ?_));refine⟨by rw[h1];simp,λj p hj=>?_,h3,h4,h5,h6,h7,h8⟩;show co j=_/\(if j=0+Int.toNat ((A.length:Nat):Int)then((n:Nat):Int)else ca j)=_;rw[Int.toNat_natCast,Nat.zero_add];by_cases hjA:j=A.length
 ·subst hjA;rw[if_pos rfl];rw[List.getElem?_append_right (Nat.le_refl _),Nat.sub_self,List.getElem?_cons_zero]at hj;simp only[Option.some.injEq]at hj;subst hj;exact⟨(h2 A.length (o,y) (by rw[List.getElem?_append_right (Nat.le_refl _),Nat.sub_self];rfl)).1,by rw[h1]⟩
 ·rw[if_neg hjA];refine h2 j p ?_;by_cases hlt:j<A.length
  ·rw[List.getElem?_append_left hlt]at hj⊢;exact hj
  ·rw[List.getElem?_append_right (by omega)]at hj⊢;obtain⟨i,hi⟩:∃i,j-A.length=i+1:=⟨j-A.length-1,by omega⟩;rw[hi,List.getElem?_cons_succ]at hj⊢;exact hj
theorem ab7(q:Nat)(k n:Int)(s:ByteArray)(m:Nat)(f:Nat->List V)(lim:Int)(h:Cp L N M d dm e x):
 Z2 (xN q (k,n,s,m,f,lim,x)) (λz=>z.1=fI n s/\Cp L N M d dm (if fI n s>lim then 5 else e) z.2):=by
 unfold xN ax1 U15;dsimp only;rw[bk7];refine BF (λhc=>BC ⟨rfl,?_⟩) λhc=>BC ⟨rfl,?_⟩
 ·rw[if_pos (of_decide_eq_true hc)];exact⟨h.n,h.c,h.mn,h.mh,h.mv,h.d,h.dm,rfl⟩
 ·rw[if_neg (λg=>hc (decide_eq_true g))];exact h
end
abbrev zI:ByteArray:=⟨#[38,38]⟩
abbrev sOr:ByteArray:=⟨#[124,124]⟩
abbrev gz3:ByteArray:=⟨#[45]⟩
def bg5(s:ByteArray):Int:=
 if(s==⟨#[33,61]⟩) then 12 else if(s==⟨#[61,61]⟩) then 12 else if(s==⟨#[62]⟩) then 11 else if(s==⟨#[60,61]⟩) then 11 else if(s==⟨#[62,61]⟩) then 10 else if(s==⟨#[60]⟩) then 10 else if(s==⟨#[47]⟩) then 8 else if(s==⟨#[42]⟩) then 7 else if(s==⟨#[45]⟩) then 6 else if(s==⟨#[43]⟩) then 5 else 0
def vC(s:ByteArray):Bool:=s==⟨#[62]⟩||s==⟨#[62,61]⟩||s==⟨#[33,61]⟩
theorem gc0(s:ByteArray):(if(s==⟨#[33,61]⟩||(s==⟨#[61,61]⟩||(s==⟨#[62]⟩||(s==⟨#[60,61]⟩||(s==⟨#[62,61]⟩||(s==⟨#[60]⟩||(s==⟨#[47]⟩||(s==⟨#[42]⟩||(s==⟨#[45]⟩||(s==⟨#[43]⟩||false)))))))))) then bg5 s else 0)=bg5 s:=by
 unfold bg5;by_cases h:(s==⟨#[33,61]⟩||(s==⟨#[61,61]⟩||(s==⟨#[62]⟩||(s==⟨#[60,61]⟩||(s==⟨#[62,61]⟩||(s==⟨#[60]⟩||(s==⟨#[47]⟩||(s==⟨#[42]⟩||(s==⟨#[45]⟩||(s==⟨#[43]⟩||false))))))))))=true
 ·rw[if_pos h]
 ·rw[if_neg h];simp only[Bool.or_eq_true,not_or]at h;obtain⟨h1,h2,h3,h4,h5,h6,h7,h8,h9,h10,_⟩:=h;rw[if_neg h1,if_neg h2,if_neg h3,if_neg h4,if_neg h5,if_neg h6,if_neg h7,if_neg h8,if_neg h9,if_neg h10]
theorem cD(a b:ByteArray):(ByteArray.toList a==ByteArray.toList b)=(a==b):=by
 rw[Bool.eq_iff_iff,tl_eq,ba_eq]
noncomputable def cE(fv:ByteArray->Int):Tr->Nat->CoT
 | .node k n s [],_=>[if k=17 then(2,fv s)else if k=18 then(4,(nU s).1)else(1,fI n s)]
 | .node _ _ s [a],p=>cE fv a p++[if(s==gz3) then(9,0)else(13,0)]
 | .node _ _ s (a::b::_),p=>
  if(s==zI) then cE fv a p++(15,((p+(cE fv a p).length+1+(cE fv b (p+(cE fv a p).length+1)).length+1:Nat):Int))::(cE fv b (p+(cE fv a p).length+1)++[(14,((p+(cE fv a p).length+1+(cE fv b (p+(cE fv a p).length+1)).length+2:Nat):Int)),(1,0)])
  else if(s==sOr) then cE fv a p++(15,((p+(cE fv a p).length+3:Nat):Int))::(1,1)::(14,((p+(cE fv a p).length+3+(cE fv b (p+(cE fv a p).length+3)).length:Nat):Int))::cE fv b (p+(cE fv a p).length+3)
  else cE fv a p++(cE fv b (p+(cE fv a p).length)++(bg5 s,0)::(if vC s then[(13,0)]else[]))
def nE:Tr->Int
 | .node _ _ _ []=>1
 | .node _ _ _ [a]=>nE a
 | .node _ _ s (a::b::_)=>if(s==zI)=true\/(s==sOr) then max (nE a) (nE b)else max (nE a) (nE b+1)
def okE:Tr->Prop
 | .node k _ _ []=>k=15\/k=16\/k=17\/k=18
 | .node k _ _ [a]=>k=19/\okE a
 | .node k _ _ [a,b]=>k=20/\okE a/\okE b
 |_=>False
theorem aO:∀(t:Tr),1<=nE t
 | .node _ _ _ []=>by rw[nE];omega
 | .node _ _ _ [a]=>by rw[nE];exact aO a
 | .node _ _ s (a::b::_)=>by
  rw[nE];have:=aO a;split<;>omega
theorem sT:∀(t:Tr),nE t<=siz t
 | .node _ _ _ []=>by rw[nE,siz];omega
 | .node _ _ _ [a]=>by rw[nE,siz,i9,i9];have:=sT a;omega
 | .node _ _ s (a::b::l)=>by
  rw[nE,siz,i9,i9];have:=sT a;have:=sT b;have:=aJ a;have:=aJ b;split<;>omega
theorem v8(fv:ByteArray->Int):∀(t:Tr) (p:Nat),(cE fv t p).length<=3*siz t
 | .node _ _ _ [],_=>by rw[cE,siz];simp;omega
 | .node _ _ _ [a],p=>by rw[cE,siz,i9,i9];have:=v8 fv a p;simp;omega
 | .node _ _ s (a::b::l),p=>by
  rw[cE,siz,i9,i9];have h1:=v8 fv a p;split
  ·have h2:=v8 fv b (p+(cE fv a p).length+1);simp;omega
  split
  ·have h2:=v8 fv b (p+(cE fv a p).length+3);simp;omega
  ·have h2:=v8 fv b (p+(cE fv a p).length);split<;>simp<;>omega
theorem Cp.cast{L L':CoT}{N:Nat}{M:ByteArray->Option Nat}{d d' dm dm' e:Int}{x:b8}(h:Cp L N M d dm e x)(h1:L=L')(h2:d=d')(h3:dm=dm'):Cp L' N M d' dm' e x:=by subst h1 h2 h3;exact h
def fvM(M:ByteArray->Option Nat)(s:ByteArray):Int:=((M s).getD 0:Nat)
theorem he9{L:CoT}{N:Nat}{M:ByteArray->Option Nat}{d dm e:Int}{x:b8}(h:Cp L N M d dm e x)(s:ByteArray):(if x.2.2.2.2.1 s then x.2.2.2.2.2.1 s else 0)=fvM M s:=by
 unfold fvM;rw[h.mh s];cases hM:M s with
 |none=>rfl
 |some v=>exact h.mv s v hM
theorem am5 (N : Nat) (M : ByteArray -> Option Nat) (e : Int) : ∀ (q : Nat) (t : Tr) (nd : n9) (x : b8) (L : CoT) (d dm : Int), okE t -> Rep t nd -> siz t < q -> (L.length : Int) + 4 * siz t < BG -> 0 <= d -> d + siz t < BG -> Cp L N M d dm e x ->
 Z2 (node q (nd.1, nd.2.1, nd.2.2.1, nd.2.2.2.1, nd.2.2.2.2, x)) (Cp (L ++ cE (fvM M) t L.length) N M (d + 1) (max dm (d + nE t)) e) := by
 intro q
 induction q with
 | zero => intro t nd x L d dm ho hr hq; omega
 | succ q ih =>
  rintro ⟨k, n, s, l⟩ ⟨k', n', s', m', f⟩ x L d dm ho hr hq hL hd hd2 hx;simp only [Rep] at hr;obtain ⟨rfl, rfl, rfl, rfl, hl, hO, hk⟩ := hr;have hBG : BG = 1000000000 := rfl;rw [node];rw [_root_.if_pos hO];unfold bi7 U10;dsimp only;rcases l with _ | ⟨a, _ | ⟨b, _ | ⟨c, l⟩⟩⟩
  ·-- a leaf
   simp only [okE] at ho;simp only [siz, i9] at hL hd2;have hem : ∀ (q : Nat) (o y : Int), Z2 ((emit q (o, y, 1, x)).bind λb => some b.2) (Cp (L ++ [(o, y)]) N M (d + 1) (max dm (d + 1)) e) := λq o y => BB (bV q o y 1 hx (by omega) (by omega)) λz hz => BC hz.2;rw [cE, nE];rcases ho with rfl | rfl | rfl | rfl
   ·iterate 14 refine BE (by decide) ?_
    refine BD rfl (BB (P := Cp _ N M (d + 1) (max dm (d + 1)) e) ?_ λz hz => BC hz);unfold ae8 wP U10;dsimp only;rw [bk7];exact hem q _ _
   ·iterate 15 refine BE (by decide) ?_
    refine BD rfl (BB (P := Cp _ N M (d + 1) (max dm (d + 1)) e) ?_ λz hz => BC hz);unfold ae8 wP U10;dsimp only;rw [bk7];exact hem q _ _
   ·iterate 16 refine BE (by decide) ?_
    refine BD rfl (BB (P := Cp _ N M (d + 1) (max dm (d + 1)) e) ?_ λz hz => BC hz);unfold an8 zO U16;dsimp only;rw [he9 hx];exact hem q _ _
   ·iterate 17 refine BE (by decide) ?_
    refine BD rfl (BB (P := Cp _ N M (d + 1) (max dm (d + 1)) e) ?_ λz hz => BC hz);unfold eu8 db2;dsimp only;rw [cq9];exact hem q _ _
  ·-- one operand
   simp only [okE] at ho;obtain ⟨rfl, ho⟩ := ho;simp only [siz, i9] at hL hd2 hq;simp only [n5] at hk
   iterate 18 refine BE (by decide) ?_
   refine BD rfl (BB (P := Cp (L ++ cE (fvM M) (.node 19 n' s' [a]) L.length) N M (d + 1) (max dm (d + nE (.node 19 n' s' [a]))) e) ?_ λz hz => BC hz);unfold di6 bs9 U10;dsimp only;have hlen := v8 (fvM M) a L.length;have hne := aO a;refine BD (by simp) (BB (ih a (o6 f 0) x L d dm ho hk.1 (by omega) (by omega) hd (by omega) hx) λz hz => ?_);rw [cD, cE, nE];refine BF (λhs => ?_) λhs => ?_
   ·refine BB (bV q 9 0 0 hz (by simp; omega) (by omega)) λz2 hz2 => BC ?_;rw [if_pos hs];exact hz2.2.cast (by simp) (by omega) (by omega)
   ·refine BB (bV q 13 0 0 hz (by simp; omega) (by omega)) λz2 hz2 => BC ?_;rw [if_neg hs];exact hz2.2.cast (by simp) (by omega) (by omega)
  ·-- two operands
   simp only [okE] at ho;obtain ⟨rfl, ho, ho2⟩ := ho;simp only [siz, i9] at hL hd2 hq;simp only [n5] at hk
   iterate 19 refine BE (by decide) ?_
   refine BD rfl (BB (P := Cp (L ++ cE (fvM M) (.node 20 n' s' [a, b]) L.length) N M (d + 1) (max dm (d + nE (.node 20 n' s' [a, b]))) e) ?_ λz hz => BC hz);unfold bw0 bb4 U10;dsimp only;have hla := v8 (fvM M) a L.length;have hna := aO a;have hnb := aO b;have hsa := aJ a;have hsb := aJ b;refine BD (by simp) (BB (ih a (o6 f 0) x L d dm ho hk.1 (by omega) (by omega) hd (by omega) hx) λz hz => ?_);rw [cE, nE];generalize eA : cE (fvM M) a L.length = A at *;rw [cD, cD];refine BF (λhs => ?_) λhs => ?_
   ·rw [if_pos hs, if_pos (.inl hs)];refine BB (bV q 15 0 (-1) hz (by simp; omega) (by omega)) λz2 hz2 => ?_;have e1 : (L ++ A ++ [(15, 0)]).length = L.length + A.length + 1 := by simp; omega
    have hlb := v8 (fvM M) b (L.length + A.length + 1);refine BD (by simp) (BB (ih b (o6 f (0 + 1)) z2.2 _ _ _ ho2 hk.2.1 (by omega) (by rw [e1]; omega) (by omega) (by omega) hz2.2) λz3 hz3 => ?_);rw [e1] at hz3;generalize eB : cE (fvM M) b (L.length + A.length + 1) = B at *;refine BB (bV q 14 0 (-1) hz3 (by simp; omega) (by omega)) λz4 hz4 => ?_;refine BB (ak3 q (A := L ++ A) (B := B ++ [(14, 0)]) (o := 15) (y := 0) (hz4.2.cast (by simp) rfl rfl) (hz2.1.trans (by simp))) λz5 hz5 => ?_;refine BB (bV q 1 0 1 hz5 (by simp; omega) (by omega)) λz6 hz6 => ?_;refine BB (ak3 q (A := L ++ A ++ (15, ((L.length + A.length + 1 + B.length + 1 : Nat) : Int)) :: B) (B := [(1, 0)]) (o := 14) (y := 0) (hz6.2.cast (by simp; omega) rfl rfl) (hz4.1.trans (by simp))) λz7 hz7 => BC ?_;exact hz7.cast (by simp; omega) (by omega) (by omega)
   rw [if_neg hs];refine BF (λhs2 => ?_) λhs2 => ?_
   ·rw [if_pos hs2, if_pos (.inr hs2)];refine BB (bV q 15 0 (-1) hz (by simp; omega) (by omega)) λz2 hz2 => ?_;refine BB (bV q 1 1 1 hz2.2 (by simp; omega) (by omega)) λz3 hz3 => ?_;refine BB (bV q 14 0 (-1) hz3.2 (by simp; omega) (by omega)) λz4 hz4 => ?_;refine BB (ak3 q (A := L ++ A) (B := [(1, 1), (14, 0)]) (o := 15) (y := 0) (hz4.2.cast (by simp) rfl rfl) (hz2.1.trans (by simp))) λz5 hz5 => ?_;have e1 : (L ++ A ++ ((15, ((L ++ A ++ ((15, 0) :: [(1, 1), (14, 0)] : CoT)).length : Int)) :: [(1, 1), (14, 0)] : CoT)).length = L.length + A.length + 3 := by simp; omega
    have hlb := v8 (fvM M) b (L.length + A.length + 3);refine BD (by simp) (BB (ih b (o6 f (0 + 1)) z5 _ _ _ ho2 hk.2.1 (by omega) (by rw [e1]; omega) (by omega) (by omega) hz5) λz6 hz6 => ?_);rw [e1] at hz6;generalize eB : cE (fvM M) b (L.length + A.length + 3) = B at *;refine BB (ak3 q (A := L ++ A ++ ([(15, ((L.length + A.length + 3 : Nat) : Int)), (1, 1)] : CoT)) (B := B) (o := 14) (y := 0) (hz6.cast (by simp; omega) rfl rfl) (hz4.1.trans (by simp))) λz7 hz7 => BC ?_;exact hz7.cast (by simp; omega) (by omega) (by omega)
   ·rw [if_neg hs2, if_neg (not_or.2 ⟨hs, hs2⟩)];have e1 : (L ++ A).length = L.length + A.length := by simp
    have hlb := v8 (fvM M) b (L.length + A.length);refine BD (by simp) (BB (ih b (o6 f (0 + 1)) z _ _ _ ho2 hk.2.1 (by omega) (by rw [e1]; omega) (by omega) (by omega) hz) λz2 hz2 => ?_);rw [e1] at hz2;generalize eB : cE (fvM M) b (L.length + A.length) = B at *;refine BB (P := λz3 => Cp (L ++ A ++ B ++ [(bg5 s', 0)]) N M (d + 1 + 1 + -1) (max (max (max dm (d + nE a)) (d + 1 + nE b)) (d + 1 + 1 + -1)) e z3.2) ((bV q _ 0 (-1) hz2 (by simp; omega) (by omega)).mono λz3 hz3 => hz3.2.cast (congrArg (λo => L ++ A ++ B ++ [(o, 0)]) (gc0 s')) rfl rfl) λz3 hz3 => ?_;rw [cD, cD, cD]
    have fin : ∀ (h : vC s' = true), Z2 ((emit q (13, 0, 0, z3.2)).bind λc => some c.2) (Cp (L ++ (A ++ (B ++ (bg5 s', 0) :: (if vC s' = true then [(13, 0)] else [])))) N M (d + 1) (max dm (d + max (nE a) (nE b + 1))) e) := λh => by
     refine BB (bV q 13 0 0 hz3 (by simp; omega) (by omega)) λz4 hz4 => BC ?_;rw [if_pos h];exact hz4.2.cast (by simp) (by omega) (by omega)
    refine BF (λh1 => fin (by unfold vC; rw [h1]; rfl)) λh1 => BF (λh2 => fin (by unfold vC; rw [h2]; simp)) λh2 => BF (λh3 => fin (by unfold vC; rw [h3]; simp)) λh3 => BC ?_;rw [if_neg (by unfold vC; simp only [Bool.or_eq_true, not_or]; exact ⟨⟨h1, h2⟩, h3⟩)];exact hz3.cast (by simp) (by omega) (by omega)
  ·exact ho.elim
def qG(n:Int)(s:ByteArray):Prop:=(s=⟨#[]⟩\/(n8 s).2.2.2.2.2.2=true)/\0<=fI n s/\fI n s<=2147483647
def ei9(s:ByteArray):Prop:=s∈([⟨#[124,124]⟩,⟨#[38,38]⟩,⟨#[43]⟩,⟨#[45]⟩,⟨#[42]⟩,⟨#[47]⟩,⟨#[60]⟩,⟨#[60,61]⟩,⟨#[62]⟩,⟨#[62,61]⟩,⟨#[61,61]⟩,⟨#[33,61]⟩]:List ByteArray)
def okX(P:ByteArray->Prop):Tr->Prop
 | .node k n s []=>(k=15/\qG n s)\/(k=16/\s=⟨#[]⟩/\(n=0\/n=1))\/(k=17/\P s)\/(k=18/\(nU s).2.2.2.2.2.2=true)
 | .node k _ s [a]=>k=19/\(s=⟨#[33]⟩\/s=gz3)/\okX P a
 | .node k _ s [a,b]=>k=20/\ei9 s/\okX P a/\okX P b
 |_=>False
theorem okX.ok{P:ByteArray->Prop}:∀(t:Tr),okX P t->okE t
 | .node k n s [],h=>by
  simp only[okX]at h;simp only[okE];rcases h with h|h|h|h
  ·exact .inl h.1
  ·exact .inr (.inl h.1)
  ·exact .inr (.inr (.inl h.1))
  ·exact .inr (.inr (.inr h.1))
 | .node k n s [a],h=>by simp only[okX]at h;simp only[okE];exact⟨h.1,okX.ok a h.2.2⟩
 | .node k n s [a,b],h=>by simp only[okX]at h;simp only[okE];exact⟨h.1,okX.ok a h.2.2.1,okX.ok b h.2.2.2⟩
 | .node k n s (a::b::c::l),h=>by simp only[okX]at h
abbrev VM:Type:=Nat×(ByteArray->Option Nat)
def cf2(m:VM)(s:ByteArray):VM:=(m.1+1,λx=>if x=s then some m.1 else m.2 x)
abbrev dmV(m:VM)(s:ByteArray):Prop:=(m.2 s).isSome=true
abbrev at9(v:Int)(u:ByteArray):Tr:=.node 15 v u []
mutual
inductive CoS:Tr->VM->Nat->VM->CoT->Int->Bool->Prop
 |let_ (n:Int) (s:ByteArray) (a:Tr) (m:VM) (p:Nat):okX (dmV m) a->m.2 s=none->CoS (.node 1 n s [a]) m p (cf2 m s) (cE (fvM m.2) a p++[(3,(m.1:Int))]) (nE a) false
 |set_ (n:Int) (s:ByteArray) (a:Tr) (m:VM) (p:Nat):okX (dmV m) a->dmV m s->CoS (.node 2 n s [a]) m p m (cE (fvM m.2) a p++[(3,fvM m.2 s)]) (nE a) false
 |ifE (n:Int) (s:ByteArray) (c a:Tr) (n':Int) (s':ByteArray) (m m1:VM) (p:Nat) (A:CoT) (d:Int) (w:Bool):okX (dmV m) c->kdT a=14->CoS a m (p+(cE (fvM m.2) c p).length+1) m1 A d w->
  CoS (.node 3 n s [c,a,.node 14 n' s' []]) m p m1 (cE (fvM m.2) c p++(15,((p+(cE (fvM m.2) c p).length+1+A.length:Nat):Int))::A) (max (nE c) d) w
 |ifB (n:Int) (s:ByteArray) (c a:Tr) (n':Int) (s':ByteArray) (x:Tr) (l:List Tr) (m m1 m2:VM) (p:Nat) (A B:CoT) (d d':Int) (w w':Bool):okX (dmV m) c->kdT a=14->CoS a m (p+(cE (fvM m.2) c p).length+1) m1 A d w->CoS (.node 14 n' s' (x::l)) m1 (p+(cE (fvM m.2) c p).length+1+A.length+1) m2 B d' w'->
  CoS (.node 3 n s [c,a,.node 14 n' s' (x::l)]) m p m2 (cE (fvM m.2) c p++(15,((p+(cE (fvM m.2) c p).length+1+A.length+1:Nat):Int))::(A++(14,((p+(cE (fvM m.2) c p).length+1+A.length+1+B.length:Nat):Int))::B)) (max (nE c) (max d d')) (w||w')
 |rep (n:Int) (s:ByteArray) (a:Tr) (m m1:VM) (p:Nat) (A:CoT) (d:Int) (w:Bool):1<=n->n<=100->kdT a=14->CoS a m (p+1) m1 A d w->CoS (.node 4 n s [a]) m p m1 ((16,n)::(A++[(17,((p+1:Nat):Int))])) d w
 |wait (n:Int) (s:ByteArray) (v:Int) (u:ByteArray) (m:VM) (p:Nat):qG v u->CoS (.node 5 n s [at9 v u]) m p m [(18,fI v u)] 0 (decide (1000000<fI v u))
 |await (n:Int) (s:ByteArray) (c:Tr) (v:Int) (u:ByteArray) (m:VM) (p:Nat):okX (dmV m) c->qG v u->CoS (.node 6 n s [c,at9 v u]) m p m ((19,fI v u)::(cE (fvM m.2) c (p+1)++[(20,((p+1:Nat):Int))])) (nE c) (decide (1000000<fI v u))
 |req (n:Int) (s:ByteArray) (a:Tr) (m:VM) (p:Nat):okX (dmV m) a->CoS (.node 7 n s [a]) m p m (cE (fvM m.2) a p++[(21,0)]) (nE a) false
 |point (n:Int) (s:ByteArray) (a:Tr) (m:VM) (p:Nat):okX (dmV m) a->CoS (.node 8 n s [a]) m p m (cE (fvM m.2) a p++[(22,0)]) (nE a) false
 |use (n:Int) (s:ByteArray) (v:Int) (u:ByteArray) (m:VM) (p:Nat):0<=n->n<=7->qG v u->CoS (.node 9 n s [at9 v u]) m p m [(23,n*1000000+fI v u)] 0 (decide (999999<fI v u))
 |send (n:Int) (s:ByteArray) (v:Int) (u:ByteArray) (m:VM) (p:Nat):0<=n->n<=7->qG v u->CoS (.node 10 n s [at9 v u]) m p m [(24,fI v u*8+n)] 0 (decide (268435455<fI v u))
 |keep (n:Int) (s:ByteArray) (v:Int) (u:ByteArray) (m:VM) (p:Nat):qG v u->CoS (.node 11 n s [at9 v u]) m p m [(25,fI v u)] 0 false
 |emit (n:Int) (s:ByteArray) (m:VM) (p:Nat):0<=n->n<=99->CoS (.node 12 n s []) m p m [(26,n)] 0 false
 |abort (n:Int) (s:ByteArray) (m:VM) (p:Nat):0<=n->n<=999->CoS (.node 13 n s []) m p m [(27,n)] 0 false
 |blk (n:Int) (s:ByteArray) (l:List Tr) (m m1:VM) (p:Nat) (A:CoT) (d:Int) (w:Bool):CoL l m p m1 A d w->CoS (.node 14 n s l) m p m1 A d w
inductive CoL:List Tr->VM->Nat->VM->CoT->Int->Bool->Prop
 |nil (m:VM) (p:Nat):CoL [] m p m [] 0 false
 |cons (t:Tr) (l:List Tr) (m m1 m2:VM) (p:Nat) (A B:CoT) (d d':Int) (w w':Bool):CoS t m p m1 A d w->CoL l m1 (p+A.length) m2 B d' w'->CoL (t::l) m p m2 (A++B) (max d d') (w||w')
end
mutual
theorem CoS.len:∀{t:Tr} {m:VM} {p:Nat} {m1:VM} {A:CoT} {d:Int} {w:Bool},CoS t m p m1 A d w->A.length<=3*siz t/\0<=d/\d<=siz t
 |_,_,_,_,_,_,_,.let_ n s a m p _ _=>by have:=v8 (fvM m.2) a p;have:=aO a;have:=sT a;simp only[siz,i9,List.length_append,List.length_cons,List.length_nil];omega
 |_,_,_,_,_,_,_,.set_ n s a m p _ _=>by have:=v8 (fvM m.2) a p;have:=aO a;have:=sT a;simp only[siz,i9,List.length_append,List.length_cons,List.length_nil];omega
 |_,_,_,_,_,_,_,.ifE n s c a n' s' m m1 p A d w _ _ h=>by have:=v8 (fvM m.2) c p;have:=aO c;have:=sT c;have:=h.len;simp only[siz,i9,List.length_append,List.length_cons,List.length_nil];omega
 |_,_,_,_,_,_,_,.ifB n s c a n' s' x l m m1 m2 p A B d d' w w' _ _ h g=>by have:=v8 (fvM m.2) c p;have:=aO c;have:=sT c;have:=h.len;have:=g.len;simp only[siz,i9,List.length_append,List.length_cons,List.length_nil]at*;omega
 |_,_,_,_,_,_,_,.rep n s a m m1 p A d w _ _ _ h=>by have:=h.len;simp only[siz,i9,List.length_append,List.length_cons,List.length_nil];omega
 |_,_,_,_,_,_,_,.wait n s v u m p _=>by simp only[siz,i9,List.length_cons,List.length_nil];omega
 |_,_,_,_,_,_,_,.await n s c v u m p _ _=>by have:=v8 (fvM m.2) c (p+1);have:=aO c;have:=sT c;simp only[siz,i9,List.length_append,List.length_cons,List.length_nil];omega
 |_,_,_,_,_,_,_,.req n s a m p _=>by have:=v8 (fvM m.2) a p;have:=aO a;have:=sT a;simp only[siz,i9,List.length_append,List.length_cons,List.length_nil];omega
 |_,_,_,_,_,_,_,.point n s a m p _=>by have:=v8 (fvM m.2) a p;have:=aO a;have:=sT a;simp only[siz,i9,List.length_append,List.length_cons,List.length_nil];omega
 |_,_,_,_,_,_,_,.use n s v u m p _ _ _=>by simp only[siz,i9,List.length_cons,List.length_nil];omega
 |_,_,_,_,_,_,_,.send n s v u m p _ _ _=>by simp only[siz,i9,List.length_cons,List.length_nil];omega
 |_,_,_,_,_,_,_,.keep n s v u m p _=>by simp only[siz,i9,List.length_cons,List.length_nil];omega
 |_,_,_,_,_,_,_,.emit n s m p _ _=>by simp only[siz,i9,List.length_cons,List.length_nil];omega
 |_,_,_,_,_,_,_,.abort n s m p _ _=>by simp only[siz,i9,List.length_cons,List.length_nil];omega
 |_,_,_,_,_,_,_,.blk n s l m m1 p A d w h=>by have:=h.len;simp only[siz];omega
theorem CoL.len:∀{l:List Tr} {m:VM} {p:Nat} {m1:VM} {A:CoT} {d:Int} {w:Bool},CoL l m p m1 A d w->A.length<=3*i9 l/\0<=d/\d<=i9 l
 |_,_,_,_,_,_,_,.nil m p=>by simp[i9]
 |_,_,_,_,_,_,_,.cons t l m m1 m2 p A B d d' w w' h g=>by have:=h.len;have:=g.len;simp only[i9,List.length_append];omega
end
def Y3(C:CoT)(z:f0):Prop:=z.1=C.length/\∀j p,C[j]? =some p->z.2.1 j=p.1/\z.2.2 j=p.2
theorem Y3.cast{C C':CoT}{z:f0}(h:Y3 C z)(e:C=C'):Y3 C' z:=e▸h
theorem xY(q:Nat)(o k:Int):Z2 (bh4 q (o,k)) (Y3 [(o,k)]):=by
 refine⟨_,rfl,rfl,λj p hj=>?_⟩;cases j with
 |zero=>simp only[List.getElem?_cons_zero,Option.some.injEq]at hj;subst hj;exact⟨rfl,rfl⟩
 |succ j=>simp at hj
theorem dU(q:Nat){C:CoT}{z:f0}(o k:Int)(h:Y3 C z)(hL:(C.length:Int)<BG):Z2 (nQ q (z.1,z.2.1,z.2.2,o,k)) (Y3 (C++[(o,k)])):=by
 obtain⟨n,lo,la⟩:=z;obtain⟨h1,h2⟩:=h;simp only at h1 h2;unfold BG at hL;subst h1;unfold nQ gh0 cv3 U5;dsimp only
 have fin:∀j p,(C++[(o,k)])[j]? =some p->(if j<C.length then lo j else o)=p.1/\(if j<C.length then la j else k)=p.2:=λj p hj=>by
  by_cases hjl:j<C.length
  ·rw[List.getElem?_append_left hjl]at hj;rw[if_pos hjl,if_pos hjl];exact h2 j p hj
  ·rw[List.getElem?_append_right (by omega)]at hj;rw[if_neg hjl,if_neg hjl]
   have:j-C.length=0:=by
    apply Classical.byContradiction;intro hne;rw[List.getElem?_eq_none (by simp;omega)]at hj;cases hj
   rw[this]at hj;simp only[List.getElem?_cons_zero,Option.some.injEq]at hj;subst hj;exact⟨rfl,rfl⟩
 by_cases h0:C.length=0
 ·rw[if_pos h0];have hC:=List.eq_nil_of_length_eq_zero h0;subst hC;refine⟨_,rfl,rfl,λj p hj=>?_⟩;have:=fin j p hj;simpa using this
 ·rw[if_neg h0,if_pos ⟨by unfold b6;omega,by unfold maxLen;omega⟩,if_pos ⟨by unfold b6;omega,by unfold maxLen;omega,Nat.le_refl _⟩];exact⟨_,rfl,by show C.length+1=_;simp,fin⟩
theorem sW(q:Nat){A B:CoT}{y z:f0}(h:Y3 A y)(g:Y3 B z)(hL:(A.length:Int)+B.length<BG):Z2 (qV q (y.1,y.2.1,y.2.2,z)) (Y3 (A++B)):=by
 obtain⟨n,lo,la⟩:=y;obtain⟨n',lo',la'⟩:=z;obtain⟨h1,h2⟩:=h;obtain⟨g1,g2⟩:=g;simp only at h1 h2 g1 g2;unfold BG at hL;subst h1 g1;unfold qV ga5 da8 U6;dsimp only;by_cases h0:A.length=0
 ·rw[if_pos h0];have hA:=List.eq_nil_of_length_eq_zero h0;subst hA;by_cases g0:B.length=0
  ·rw[if_pos g0];have hB:=List.eq_nil_of_length_eq_zero g0;subst hB;exact⟨_,rfl,rfl,λj p hj=>by simp at hj⟩
  ·rw[if_neg g0,if_pos ⟨by unfold b6;omega,by unfold maxLen;omega⟩];exact⟨_,rfl,rfl,g2⟩
 ·rw[if_neg h0,if_pos ⟨by unfold b6;omega,by unfold maxLen;omega⟩,if_pos ⟨by unfold b6;omega,by unfold maxLen;omega,Nat.le_refl _⟩];refine⟨_,rfl,by show A.length+B.length=_;simp,λj p hj=>?_⟩;show(if j<A.length then lo j else lo' (j-A.length))=_/\(if j<A.length then la j else la' (j-A.length))=_;by_cases hjl:j<A.length
  ·rw[List.getElem?_append_left hjl]at hj;rw[if_pos hjl,if_pos hjl];exact h2 j p hj
  ·rw[List.getElem?_append_right (by omega)]at hj;rw[if_neg hjl,if_neg hjl];exact g2 _ p hj
def jC:List ByteArray->Nat->ByteArray->Int
 | [],_,_=> -1
 |a::l,i,s=>if a=s then(i:Int)else jC l (i+1) s
abbrev Y5(l:List ByteArray)(vn:Nat)(vs:Nat->ByteArray):Prop:=vn=l.length/\∀j b,l[j]? =some b->vs j=b
theorem ee0{vn:Nat}{vs:Nat->ByteArray}{s:ByteArray}{l:List ByteArray}(hl:l.length<=1000000000)(hn:Y5 l vn vs):∀(r:List ByteArray) (i q:Nat),l.drop i=r->i<=l.length->r.length<q->
 Z2 (br6 q (vn,vs,s) (i:Int)) (λz=>Sum.elim (λk=>k=jC r i s) (λ_=>jC r i s= -1) z):=by
 obtain⟨h1,h2⟩:=hn;subst h1;intro r
 induction r with
 |nil=>
  intro i q hr hi hq;obtain⟨q,rfl⟩:∃k,q=k+1:=⟨q-1,by simp at hq;omega⟩;have:=congrArg List.length hr;simp at this;refine i6 ?_;unfold oM;dsimp only;exact BE (by rw[decide_eq_true_eq];omega) (BC rfl)
 |cons a r ih=>
  intro i q hr hi hq;obtain⟨q,rfl⟩:∃k,q=k+1:=⟨q-1,by simp at hq;omega⟩;have hlen:=congrArg List.length hr;simp at hlen
  have ha:l[i]? =some a:=by
   have:=congrArg (λl=>l[0]?) hr;simpa using this
  refine i6 ?_;unfold oM;dsimp only;refine BD (by rw[decide_eq_true_eq];omega) (BD (by omega) ?_);refine BF (λhc=>BC ?_) λhc=>?_
  ·rw[Int.toNat_natCast,h2 i a ha,cD]at hc;show _=jC (a::r) i s;rw[jC,_root_.if_pos (ba_eq.1 hc)]
  ·rw[Int.toNat_natCast,h2 i a ha,cD]at hc;rw[o7 (by omega)];rw[show jC (a::r) i s=jC r (i+1) s by rw[jC,_root_.if_neg λg=>hc (ba_eq.2 g)]];refine BC (ih (i+1) q ?_ (by omega) (by simp at hq;omega));rw[<-List.drop_drop,hr];rfl
theorem cb9{vn:Nat}{vs:Nat->ByteArray}{s:ByteArray}{l:List ByteArray}{q:Nat}(hl:l.length<=1000000000)(hn:Y5 l vn vs)(hq:l.length<q):Z2 (pC q (vn,vs,s)) (λk=>k=jC l 0 s):=by
 unfold pC ay9;refine BB (ee0 hl hn l 0 q rfl (Nat.zero_le _) hq) λz hz=>?_;rcases z with z|z
 ·exact BC hz
 ·exact BC (Eq.symm hz)
theorem gj9(q:Nat)(u:ByteArray):gT q u=some (n8 u):=by
 obtain⟨v,h1,h2,_⟩:=nB q q u;rw[h2,<-h1,sN]
theorem dk7:(n8 ⟨#[]⟩).2.2.2.2.2.2=false:=by decide+kernel
theorem cm5(q:Nat){k n:Int}{s:ByteArray}{m:Nat}{f:Nat->List V}(h:s=⟨#[]⟩\/(n8 s).2.2.2.2.2.2=true):dW q (k,n,s,m,f)=some (fI n s):=by
 unfold dW an9 fI;dsimp only;rw[cD,gj9];by_cases h0:s=⟨#[]⟩
 ·subst h0;rw[if_pos (ba_eq.2 rfl),dk7];rfl
 ·rw[if_neg λg=>h0 (ba_eq.1 g),if_pos (h.resolve_left h0)];rfl
theorem ho8(q:Nat){s:ByteArray}(h:ei9 s)(h1:¬(s==zI)=true)(h2:¬(s==sOr)=true):gk6 q s=some (bg5 s,vC s):=by
 unfold ei9 at h;simp only[List.mem_cons,List.mem_nil_iff,or_false]at h;rcases h with rfl|rfl|rfl|rfl|rfl|rfl|rfl|rfl|rfl|rfl|rfl|rfl
 ·exact absurd (ba_eq.2 rfl) h2
 ·exact absurd (ba_eq.2 rfl) h1
 all_goals (show bm5 _ some=_;unfold bm5;decide+kernel)
theorem hm5{s:ByteArray}(h:(nU s).2.2.2.2.2.2=true)(q:Nat):Z2 (bz6 (q+8) s) (λk=>k=(nU s).1):=by
 have key:∀(nm:ByteArray) (k:Int),s=nm->(∀q,bz6 (q+8) nm=some k)->(nU nm).1=k->Z2 (bz6 (q+8) s) (λk=>k=(nU s).1):=λnm k e h1 h2=>by subst e;exact⟨k,h1 q,h2.symm⟩
 by_cases h1:s=⟨#[98,97,116,116,101,114,121]⟩
 ·exact key _ 0 h1 (λq=>by kernel_rfl) (by kernel_rfl)
 by_cases h2:s=⟨#[104,101,97,116]⟩
 ·exact key _ 1 h2 (λq=>by kernel_rfl) (by kernel_rfl)
 by_cases h3:s=⟨#[97,110,103,108,101]⟩
 ·exact key _ 2 h3 (λq=>by kernel_rfl) (by kernel_rfl)
 by_cases h4:s=⟨#[110,111,119]⟩
 ·exact key _ 3 h4 (λq=>by kernel_rfl) (by kernel_rfl)
 by_cases h5:s=⟨#[109,111,100,101]⟩
 ·exact key _ 4 h5 (λq=>by kernel_rfl) (by kernel_rfl)
 by_cases h6:s=⟨#[102,114,101,101]⟩
 ·exact key _ 5 h6 (λq=>by kernel_rfl) (by kernel_rfl)
 exfalso;unfold nU cf4 cx7 at h;simp only[cD]at h;rw[if_neg λg=>h1 (ba_eq.1 g),if_neg λg=>h2 (ba_eq.1 g),if_neg λg=>h3 (ba_eq.1 g),if_neg λg=>h4 (ba_eq.1 g),if_neg λg=>h5 (ba_eq.1 g),if_neg λg=>h6 (ba_eq.1 g)]at h;exact absurd h (by simp)
theorem zF(n:Int):fI n ⟨#[]⟩=n:=by unfold fI;rw[dk7];rfl
theorem wc{a:Int}{b:Nat}(h:a=b)(hb:(b:Int)<2*BG):w a=(b:Int):=by
 subst h;unfold BG at hb;exact dJ (by unfold inR;omega)
theorem gy4{vn:Nat}{vs:Nat->ByteArray}{l:List ByteArray}(P:ByteArray->Prop)(hl:l.length<=1000000000)(hn:Y5 l vn vs):∀(q:Nat) (t:Tr) (nd:n9) (p:Nat),okX P t->Rep t nd->siz t+l.length+8<q->(p:Int)+4*siz t<BG->
 Z2 (tZ q (nd.1,nd.2.1,nd.2.2.1,nd.2.2.2.1,nd.2.2.2.2,vn,vs,(p:Int))) (Y3 (cE (jC l 0) t p)):=by
 intro q
 induction q with
 |zero=>intro t nd p ho hr hq;omega
 |succ q ih=>
  rintro⟨k,n,s,r⟩ ⟨k',n',s',m',f⟩ p ho hr hq hp;simp only[Rep]at hr;obtain⟨rfl,rfl,rfl,rfl,hlk,hO,hk⟩:=hr;have hBG:BG=1000000000:=rfl;rw[tZ];rw[_root_.if_pos hO];unfold ca9 U12;dsimp only;rcases r with _| ⟨a,_| ⟨b,_| ⟨c,r⟩⟩⟩
  ·simp only[okX]at ho;simp only[siz,i9]at hq hp;rw[cE];rcases ho with⟨rfl,ho⟩ | ⟨rfl,rfl,_⟩ | ⟨rfl,_⟩ | ⟨rfl,ho⟩
   ·refine BD rfl ?_;rw[cm5 q ho.1];exact BB (BC rfl) λy hy=>BB (xY q 1 _) λz hz=>BC (hz.cast (by rw[<-hy];rfl))
   ·refine BE (by decide) (BD rfl ?_);refine BB (xY q 1 _) λz hz=>BC (hz.cast ?_);rw[if_neg (by decide),if_neg (by decide),zF]
   ·iterate 2 refine BE (by decide) ?_
    refine BD rfl (BB (cb9 hl hn (by omega)) λd hd=>?_);exact BB (xY q 2 _) λz hz=>BC (hz.cast (by rw[hd];rfl))
   ·iterate 3 refine BE (by decide) ?_
    obtain⟨q,rfl⟩:∃k,q=k+8:=⟨q-8,by omega⟩;refine BD rfl (BB (hm5 ho q) λd hd=>?_);exact BB (xY _ 4 _) λz hz=>BC (hz.cast (by rw[hd];rfl))
  ·simp only[okX]at ho;obtain⟨rfl,hs,ho⟩:=ho;simp only[siz,i9]at hq hp;simp only[n5]at hk;have hlen:=v8 (jC l 0) a p
   iterate 4 refine BE (by decide) ?_
   refine BD rfl ?_;rw[cD,cE];refine BF (λhs=>?_) λhs=>?_
   ·refine BD (by simp) (BB (ih a (o6 f 0) p ho hk.1 (by omega) (by omega)) λz hz=>?_);refine BB (dU q 9 0 hz (by omega)) λz2 hz2=>BC ?_;rw[if_pos hs];exact hz2
   ·refine BD (by simp) (BB (ih a (o6 f 0) p ho hk.1 (by omega) (by omega)) λz hz=>?_);refine BB (dU q 13 0 hz (by omega)) λz2 hz2=>BC ?_;rw[if_neg hs];exact hz2
  ·simp only[okX]at ho;obtain⟨rfl,hop,ho,ho2⟩:=ho;simp only[siz,i9]at hq hp;simp only[n5]at hk;have hla:=v8 (jC l 0) a p;have hsa:=aJ a;have hsb:=aJ b
   iterate 5 refine BE (by decide) ?_
   refine BB (P:=Y3 (cE (jC l 0) (.node 20 n' s' [a,b]) p)) ?_ λz hz=>BC hz;unfold gn3 ex8 U12;dsimp only;refine BD (by simp) (BB (ih a (o6 f 0) p ho hk.1 (by omega) (by omega)) λz hz=>?_);rw[cE,cD,cD];generalize eA:cE (jC l 0) a p=A at*;have hzl:=hz.1;refine BF (λhs=>?_) λhs=>?_
   ·rw[if_pos hs];have hlb:=v8 (jC l 0) b (p+A.length+1);have e1:w ((p:Int)+((z.1:Nat):Int))=((p+A.length:Nat):Int):=wc (by omega) (by omega);have e2:w (((p+A.length:Nat):Int)+1)=((p+A.length+1:Nat):Int):=wc (by omega) (by omega);rw[e1,e2];refine BD (by simp) (BB (ih b (o6 f (0+1)) _ ho2 hk.2.1 (by omega) (by omega)) λz2 hz2=>?_);generalize eB:cE (jC l 0) b (p+A.length+1)=B at*;have hz2l:=hz2.1;have e3:w (((p+A.length+1:Nat):Int)+((z2.1:Nat):Int))=((p+A.length+1+B.length:Nat):Int):=wc (by omega) (by omega);have e4:w (((p+A.length+1+B.length:Nat):Int)+1)=((p+A.length+1+B.length+1:Nat):Int):=wc (by omega) (by omega);have e5:w (((p+A.length+1+B.length+1:Nat):Int)+1)=((p+A.length+1+B.length+2:Nat):Int):=wc (by omega) (by omega);rw[e3,e4,e5];refine BB (dU q 15 _ hz (by omega)) λz3 hz3=>?_;refine BB (dU q 14 _ hz2 (by omega)) λz4 hz4=>?_;refine BB (sW q hz3 hz4 (by simp;omega)) λz5 hz5=>?_;refine BB (dU q 1 0 hz5 (by simp;omega)) λz6 hz6=>BC (hz6.cast (by simp))
   rw[if_neg hs];refine BF (λhs2=>?_) λhs2=>?_
   ·rw[if_pos hs2];have hlb:=v8 (jC l 0) b (p+A.length+3);have e1:w ((p:Int)+((z.1:Nat):Int))=((p+A.length:Nat):Int):=wc (by omega) (by omega);have e2:w (((p+A.length:Nat):Int)+3)=((p+A.length+3:Nat):Int):=wc (by omega) (by omega);rw[e1,e2];refine BD (by simp) (BB (ih b (o6 f (0+1)) _ ho2 hk.2.1 (by omega) (by omega)) λz2 hz2=>?_);generalize eB:cE (jC l 0) b (p+A.length+3)=B at*;have hz2l:=hz2.1;have e3:w (((p+A.length+3:Nat):Int)+((z2.1:Nat):Int))=((p+A.length+3+B.length:Nat):Int):=wc (by omega) (by omega);rw[e3];refine BB (dU q 15 _ hz (by omega)) λz3 hz3=>?_;refine BB (dU q 1 1 hz3 (by simp;omega)) λz4 hz4=>?_;refine BB (dU q 14 _ hz4 (by simp;omega)) λz5 hz5=>?_;refine BB (sW q hz5 hz2 (by simp;omega)) λz6 hz6=>BC (hz6.cast (by simp))
   ·rw[if_neg hs2];have hlb:=v8 (jC l 0) b (p+A.length);have e1:w ((p:Int)+((z.1:Nat):Int))=((p+A.length:Nat):Int):=wc (by omega) (by omega);rw[e1];refine BD (by simp) (BB (ih b (o6 f (0+1)) _ ho2 hk.2.1 (by omega) (by omega)) λz2 hz2=>?_);generalize eB:cE (jC l 0) b (p+A.length)=B at*;rw[ho8 q hop hs hs2];refine BB (P:=λy=>y=(bg5 s',vC s')) (BC rfl) λy hy=>?_;subst hy;refine BB (sW q hz hz2 (by omega)) λz3 hz3=>?_;refine BB (dU q _ 0 hz3 (by simp;omega)) λz4 hz4=>?_;refine BF (λh=>?_) λh=>?_
    ·refine BB (dU q 13 0 hz4 (by simp;omega)) λz5 hz5=>BC (hz5.cast ?_);rw[if_pos h];simp
    ·refine BC (hz4.cast ?_);rw[if_neg h];simp
  ·simp only[okX]at ho
def erW(w:Bool)(e:Int):Int:=if w then 5 else e
theorem gj7(a b:Bool)(e:Int):erW b (erW a e)=erW (a||b) e:=by cases a<;>cases b<;>rfl
theorem Cp.err{L:CoT}{N:Nat}{M:ByteArray->Option Nat}{d dm e e':Int}{x:b8}(h:Cp L N M d dm e x)(h1:e=e'):Cp L N M d dm e' x:=by subst h1;exact h
theorem Cp.place{L:CoT}{N:Nat}{M:ByteArray->Option Nat}{d dm e:Int}{x:b8}(h:Cp L N M d dm e x):(L.length:Int)=x.1:=by rw[h.n]
theorem ch2{L:CoT}{m:VM}{dm e:Int}{x:b8}(q:Nat)(o y:Int)(h:Cp L m.1 m.2 0 dm e x)(hL:(L.length:Int)<BG):Z2 ((emit q (o,y,0,x)).bind λb=>some b.2) (Cp (L++[(o,y)]) m.1 m.2 0 (max dm 0) e):=
 BB (bV q o y 0 h hL (by unfold BG;omega)) λz hz=>BC (hz.2.cast rfl rfl rfl)
theorem fO{v:Int}{u:ByteArray}{nd:n9}(h:Rep (at9 v u) nd):nd.2.1=v/\nd.2.2.1=u:=by
 simp only[Rep]at h;exact⟨h.2.1,h.2.2.1⟩
theorem ho6 : ∀ (q : Nat) {t : Tr} {m : VM} {p : Nat} {m1 : VM} {C : CoT} {dd : Int} {ww : Bool}, CoS t m p m1 C dd ww -> ∀ (nd : n9) (x : b8) (L : CoT) (dm e : Int), Rep t nd -> siz t < q -> p = L.length -> (L.length : Int) + 4 * siz t < BG -> 0 <= dm -> Cp L m.1 m.2 0 dm e x ->
 Z2 (node q (nd.1, nd.2.1, nd.2.2.1, nd.2.2.2.1, nd.2.2.2.2, x)) (Cp (L ++ C) m1.1 m1.2 0 (max dm dd) (erW ww e)) := by
 intro q
 induction q with
 | zero => intro t m p m1 C dd ww hc nd x L dm e hr hq; omega
 | succ q ih =>
  intro t m p m1 C dd ww hc ⟨k', n', s', m', f⟩ x L dm e hr hq hp hL hdm hx;have hBG : BG = 1000000000 := rfl;obtain ⟨k, n, s, l⟩ := t;simp only [Rep] at hr;obtain ⟨rfl, rfl, rfl, rfl, hl, hO, hk⟩ := hr;subst hp;have hlen := hc.len;have hx0 : 0 <= (L.length : Int) := by omega
  rw [node];rw [_root_.if_pos hO];unfold bi7 U10;dsimp only;cases hc with
  | let_ _ _ a _ _ h1 h2 =>
   simp only [siz, i9] at hL hq;simp only [n5] at hk;refine BD rfl (BB (P := Cp _ _ _ _ _ _) ?_ λz hz => BC hz);unfold as5 ah2 U10;dsimp only;have hlen := v8 (fvM m.2) a L.length;refine BD (by simp) (BB (am5 _ _ _ q a (o6 f 0) x L 0 dm (okX.ok a h1) hk.1 (by omega) (by omega) (Int.le_refl 0) (by have := aJ a; omega) hx) λz hz => ?_);refine BD rfl ?_;have hn : ¬ z.2.2.2.2.1 s' = true := by rw [hz.mh s', h2]; simp
   have hself : (s' == s') = true := ba_eq.2 rfl;simp only [hself, Bool.true_or, if_true, if_neg hn]
   have hz2 : Cp (L ++ cE (fvM m.2) a L.length) (cf2 m s').1 (cf2 m s').2 (0 + 1) (max dm (0 + nE a)) e (z.1, z.2.1, z.2.2.1, z.2.2.2.1 + 1, (λq => q == s' || z.2.2.2.2.1 q), (λj => if (j == s') = true then ((z.2.2.2.1 : Nat) : Int) else z.2.2.2.2.2.1 j), z.2.2.2.2.2.2) := by
    refine ⟨hz.n, hz.c, by show z.2.2.2.1 + 1 = m.1 + 1; rw [hz.mn], λy => ?_, λy v hv => ?_, hz.d, hz.dm, hz.e⟩
    ·show (y == s' || z.2.2.2.2.1 y) = (if y = s' then some m.1 else m.2 y).isSome;by_cases hy : y = s'
     ·rw [if_pos hy, ba_eq.2 hy]; rfl
     ·rw [if_neg hy, hz.mh y, show (y == s') = false from Bool.eq_false_iff.2 λg => hy (ba_eq.1 g), Bool.false_or]
    ·show (if (y == s') = true then ((z.2.2.2.1 : Nat) : Int) else z.2.2.2.2.2.1 y) = (v : Int);have hv : (if y = s' then some m.1 else m.2 y) = some v := hv;by_cases hy : y = s'
     ·rw [if_pos hy] at hv;rw [if_pos (ba_eq.2 hy), hz.mn];simp only [Option.some.injEq] at hv;rw [hv]
     ·rw [if_neg hy] at hv;rw [if_neg λg => hy (ba_eq.1 g)];exact hz.mv y v hv
   refine BB (bV q 3 _ (-1) hz2 (by simp; omega) (by omega)) λz3 hz3 => BC ?_;have := aO a;refine (hz3.2.cast ?_ (by omega) (by omega)).err rfl;rw [hz.mn, List.append_assoc]
  | set_ _ _ a _ _ h1 h2 =>
   simp only [siz, i9] at hL hq;simp only [n5] at hk;refine BE (by decide) (BD rfl (BB (P := Cp _ _ _ _ _ _) ?_ λz hz => BC hz));unfold as5 ah2 U10;dsimp only;have hlen := v8 (fvM m.2) a L.length;refine BD (by simp) (BB (am5 _ _ _ q a (o6 f 0) x L 0 dm (okX.ok a h1) hk.1 (by omega) (by omega) (Int.le_refl 0) (by have := aJ a; omega) hx) λz hz => ?_);refine BE (by decide) ?_;rw [he9 hz];refine BB (bV q 3 _ (-1) hz (by simp; omega) (by omega)) λz3 hz3 => BC ?_;have := aO a;exact (hz3.2.cast (by simp) (by omega) (by omega)).err rfl
  | ifE _ _ c a n2 s2 _ _ _ A d w h1 h2 h3 =>
   simp only [siz, i9] at hL hq;simp only [n5] at hk;refine BE (by decide) (BE (by decide) (BD rfl (BB (P := Cp _ _ _ _ _ _) ?_ λz hz => BC hz)));unfold bl1 ap0 U10;dsimp only;have hlc := v8 (fvM m.2) c L.length;have hla := h3.len;have hnc := aO c;have hsc := aJ c;refine BD (by simp) (BB (am5 _ _ _ q c (o6 f 0) x L 0 dm (okX.ok c h1) hk.1 (by omega) (by omega) (Int.le_refl 0) (by omega) hx) λz hz => ?_);refine BB (bV q 15 0 (-1) hz (by simp; omega) (by omega)) λz2 hz2 => ?_;refine BD (by simp) (BB (ih h3 (o6 f (0 + 1)) z2.2 _ _ _ hk.2.1 (by omega) (by simp; omega) (by simp; omega) (by omega) (hz2.2.cast rfl (show (0 : Int) + 1 + -1 = 0 by omega) rfl)) λz3 hz3 => ?_)
   have h2e : ((opM f 2 : Nat) : Int) == (0 : Int) := by
    have := hk.2.2.1;simp only [Rep] at this;have : opM f (0 + 1 + 1) = 0 := this.2.2.2.1;rw [this]; rfl
   refine BD (by simp) (BD h2e ?_);refine BB (ak3 q (A := L ++ cE (fvM m.2) c L.length) (B := A) (o := 15) (y := 0) (hz3.cast (by simp) rfl rfl) (hz2.1.trans (by simp))) λz4 hz4 => BC ?_;exact (hz4.cast (by simp; omega) rfl (by omega)).err rfl
  | ifB _ _ c a n2 s2 y l2 _ m2 _ _ A B d d' w w' h1 h2 h3 h4 =>
   simp only [siz, i9] at hL hq;simp only [n5] at hk;refine BE (by decide) (BE (by decide) (BD rfl (BB (P := Cp _ _ _ _ _ _) ?_ λz hz => BC hz)));unfold bl1 ap0 U10;dsimp only;have hlc := v8 (fvM m.2) c L.length;have hla := h3.len;have hlb := h4.len;simp only [siz, i9] at hlb;have hnc := aO c;have hsc := aJ c;refine BD (by simp) (BB (am5 _ _ _ q c (o6 f 0) x L 0 dm (okX.ok c h1) hk.1 (by omega) (by omega) (Int.le_refl 0) (by omega) hx) λz hz => ?_);refine BB (bV q 15 0 (-1) hz (by simp; omega) (by omega)) λz2 hz2 => ?_;refine BD (by simp) (BB (ih h3 (o6 f (0 + 1)) z2.2 _ _ _ hk.2.1 (by omega) (by simp; omega) (by simp; omega) (by omega) (hz2.2.cast rfl (show (0 : Int) + 1 + -1 = 0 by omega) rfl)) λz3 hz3 => ?_)
   have h2e : ¬ (((opM f 2 : Nat) : Int) == (0 : Int)) = true := by
    have := hk.2.2.1;simp only [Rep] at this;have : opM f (0 + 1 + 1) = (y :: l2).length := this.2.2.2.1;rw [this];simp only [List.length_cons, beq_iff_eq];omega
   refine BD (by simp) (BE h2e ?_);refine BB (bV q 14 0 0 hz3 (by simp; omega) (by omega)) λz4 hz4 => ?_;refine BB (ak3 q (A := L ++ cE (fvM m.2) c L.length) (B := A ++ [(14, 0)]) (o := 15) (y := 0) (hz4.2.cast (by simp) rfl rfl) (hz2.1.trans (by simp))) λz5 hz5 => ?_;refine BD (by simp) (BB (ih h4 (o6 f (0 + 1 + 1)) z5 _ _ _ hk.2.2.1 (by simp only [siz, i9]; omega) (by simp; omega) (by simp [siz, i9]; omega) (by omega) (hz5.cast rfl (show (0 : Int) + 0 = 0 by omega) rfl)) λz6 hz6 => ?_);refine BB (ak3 q (A := L ++ cE (fvM m.2) c L.length ++ (15, ((L.length + (cE (fvM m.2) c L.length).length + 1 + A.length + 1 : Nat) : Int)) :: A) (B := B) (o := 14) (y := 0) (hz6.cast (by simp; omega) rfl rfl) (hz4.1.trans (by simp))) λz7 hz7 => BC ?_;exact (hz7.cast (by simp; omega) rfl (by omega)).err (gj7 w w' e)
  | rep _ _ a _ _ _ A d w h1 h2 h3 h4 =>
   simp only [siz, i9] at hL hq;simp only [n5] at hk
   iterate 3 refine BE (by decide) ?_
   refine BD rfl (BB (P := Cp _ _ _ _ _ _) ?_ λz hz => BC hz);unfold by5 az6 U10;dsimp only;have hla := h4.len;refine BB (bV q 16 n' 0 hx (by omega) (by omega)) λz hz => ?_;refine BD (by simp) (BB (ih h4 (o6 f 0) z.2 _ _ _ hk.1 (by omega) (by simp) (by simp; omega) (by omega) (hz.2.cast rfl (show (0 : Int) + 0 = 0 by omega) rfl)) λz2 hz2 => ?_);have w1 : w (z.1 + 1) = ((L.length + 1 : Nat) : Int) := by rw [hz.1, dJ (by unfold inR; omega)]; omega
   rw [w1];refine BB (bV q 17 _ 0 hz2 (by simp; omega) (by omega)) λz3 hz3 => BC ?_;exact (hz3.2.cast (by simp) (by omega) (by omega)).err rfl
  | wait _ _ v u _ _ h1 =>
   simp only [siz, i9] at hL hq;simp only [n5] at hk;obtain ⟨e1, e2⟩ := fO hk.1
   iterate 4 refine BE (by decide) ?_
   refine BD rfl (BB (P := Cp _ _ _ _ _ _) ?_ λz hz => BC hz);unfold ew8 da1 U10;dsimp only;have e1 : opN f 0 = v := e1;have e2 : opS f 0 = u := e2;rw [e1, e2];refine BD (by simp) (BB (ab7 q _ v u _ _ 1000000 hx) λz hz => ?_);rw [hz.1];refine (ch2 q 18 _ hz.2 (by omega)).mono λz2 hz2 => ?_;exact (hz2.cast rfl rfl (by omega)).err (by unfold erW; simp only [decide_eq_true_eq])
  | await _ _ c v u _ _ h1 h2 =>
   simp only [siz, i9] at hL hq;simp only [n5] at hk;obtain ⟨e1, e2⟩ := fO hk.2.1
   iterate 5 refine BE (by decide) ?_
   refine BD rfl (BB (P := Cp _ _ _ _ _ _) ?_ λz hz => BC hz);unfold cy2 bu3 U10;dsimp only;have e1 : opN f 1 = v := e1;have e2 : opS f 1 = u := e2;rw [e1, e2];have hlc := v8 (fvM m.2) c (L.length + 1);have hnc := aO c;have hsc := aJ c;refine BD (by simp) (BB (ab7 q _ v u _ _ 1000000 hx) λz hz => ?_);rw [hz.1];refine BB (bV q 19 _ 0 hz.2 (by omega) (by omega)) λz2 hz2 => ?_;have e3 : (L ++ [(19, fI v u)]).length = L.length + 1 := by simp
   refine BD (by simp) (BB (am5 _ _ _ q c (o6 f 0) z2.2 _ 0 _ (okX.ok c h1) hk.1 (by omega) (by rw [e3]; omega) (Int.le_refl 0) (by omega) (hz2.2.cast rfl (show (0 : Int) + 0 = 0 by omega) rfl)) λz3 hz3 => ?_);rw [e3] at hz3;have w1 : w (z2.1 + 1) = ((L.length + 1 : Nat) : Int) := by rw [hz2.1, dJ (by unfold inR; omega)]; omega
   rw [w1];refine BB (bV q 20 _ (-1) hz3 (by simp; omega) (by omega)) λz4 hz4 => BC ?_;exact (hz4.2.cast (by simp) (by omega) (by omega)).err (by unfold erW; simp only [decide_eq_true_eq])
  | req _ _ a _ _ h1 =>
   simp only [siz, i9] at hL hq;simp only [n5] at hk
   iterate 6 refine BE (by decide) ?_
   refine BD rfl (BB (P := Cp _ _ _ _ _ _) ?_ λz hz => BC hz);unfold bd5 aj3 U10;dsimp only;have hla := v8 (fvM m.2) a L.length;have := aO a;have := aJ a;refine BD (by simp) (BB (am5 _ _ _ q a (o6 f 0) x L 0 dm (okX.ok a h1) hk.1 (by omega) (by omega) (Int.le_refl 0) (by omega) hx) λz hz => ?_);refine BB (bV q 21 0 (-1) hz (by simp; omega) (by omega)) λz3 hz3 => BC ?_;exact (hz3.2.cast (by simp) (by omega) (by omega)).err rfl
  | point _ _ a _ _ h1 =>
   simp only [siz, i9] at hL hq;simp only [n5] at hk
   iterate 7 refine BE (by decide) ?_
   refine BD rfl (BB (P := Cp _ _ _ _ _ _) ?_ λz hz => BC hz);unfold dh7 by7 U10;dsimp only;have hla := v8 (fvM m.2) a L.length;have := aO a;have := aJ a;refine BD (by simp) (BB (am5 _ _ _ q a (o6 f 0) x L 0 dm (okX.ok a h1) hk.1 (by omega) (by omega) (Int.le_refl 0) (by omega) hx) λz hz => ?_);refine BB (bV q 22 0 (-1) hz (by simp; omega) (by omega)) λz3 hz3 => BC ?_;exact (hz3.2.cast (by simp) (by omega) (by omega)).err rfl
  | use _ _ v u _ _ h1 h2 h3 =>
   simp only [siz, i9] at hL hq;simp only [n5] at hk;obtain ⟨e1, e2⟩ := fO hk.1
   iterate 8 refine BE (by decide) ?_
   refine BD rfl (BB (P := Cp _ _ _ _ _ _) ?_ λz hz => BC hz);unfold gh2 ep5 U10;dsimp only;have e1 : opN f 0 = v := e1;have e2 : opS f 0 = u := e2;rw [e1, e2];obtain ⟨_, g1, g2⟩ := h3;refine BD (by simp) (BB (ab7 q _ v u _ _ 999999 hx) λz hz => ?_);rw [hz.1]
   have w1 : w (w (n' * 1000000) + fI v u) = n' * 1000000 + fI v u := by
    rw [dJ (n := n' * 1000000) (by unfold inR; omega), dJ (by unfold inR; omega)]
   rw [w1];refine (ch2 q 23 _ hz.2 (by omega)).mono λz2 hz2 => ?_;exact (hz2.cast rfl rfl (by omega)).err (by unfold erW; simp only [decide_eq_true_eq])
  | send _ _ v u _ _ h1 h2 h3 =>
   simp only [siz, i9] at hL hq;simp only [n5] at hk;obtain ⟨e1, e2⟩ := fO hk.1
   iterate 9 refine BE (by decide) ?_
   refine BD rfl (BB (P := Cp _ _ _ _ _ _) ?_ λz hz => BC hz);unfold ep3 cz1 U10;dsimp only;have e1 : opN f 0 = v := e1;have e2 : opS f 0 = u := e2;rw [e1, e2];obtain ⟨_, g1, g2⟩ := h3;refine BD (by simp) (BB (ab7 q _ v u _ _ 268435455 hx) λz hz => ?_);rw [hz.1]
   have w1 : w (w (fI v u * 8) + n') = fI v u * 8 + n' := by
    rw [dJ (n := fI v u * 8) (by unfold inR; omega), dJ (by unfold inR; omega)]
   rw [w1];refine (ch2 q 24 _ hz.2 (by omega)).mono λz2 hz2 => ?_;exact (hz2.cast rfl rfl (by omega)).err (by unfold erW; simp only [decide_eq_true_eq])
  | keep _ _ v u _ _ h1 =>
   simp only [siz, i9] at hL hq;simp only [n5] at hk;obtain ⟨e1, e2⟩ := fO hk.1
   iterate 10 refine BE (by decide) ?_
   refine BD rfl (BB (P := Cp _ _ _ _ _ _) ?_ λz hz => BC hz);unfold et5 cw8 U10;dsimp only;have e1 : opN f 0 = v := e1;have e2 : opS f 0 = u := e2;rw [e1, e2, bk7];refine BD (by simp) ?_;refine (ch2 q 25 _ hx (by omega)).mono λz2 hz2 => ?_;exact (hz2.cast rfl rfl (by omega)).err rfl
  | emit _ _ _ _ h1 h2 =>
   simp only [siz, i9] at hL hq
   iterate 11 refine BE (by decide) ?_
   refine BD rfl (BB (P := Cp _ _ _ _ _ _) ?_ λz hz => BC hz);unfold dg0 bx4;dsimp only;refine (ch2 q 26 _ hx (by omega)).mono λz2 hz2 => ?_;exact (hz2.cast rfl rfl (by omega)).err rfl
  | abort _ _ _ _ h1 h2 =>
   simp only [siz, i9] at hL hq
   iterate 12 refine BE (by decide) ?_
   refine BD rfl (BB (P := Cp _ _ _ _ _ _) ?_ λz hz => BC hz);unfold cs7 cc9;dsimp only;refine (ch2 q 27 _ hx (by omega)).mono λz2 hz2 => ?_;exact (hz2.cast rfl rfl (by omega)).err rfl
  | blk _ _ _ _ _ _ A d w h1 =>
   simp only [siz] at hL hq
   iterate 13 refine BE (by decide) ?_
   refine BD rfl (BB (P := Cp _ _ _ _ _ _) ?_ λz hz => BC hz);unfold bl5 bz5 U18;dsimp only;have hll := gG l
   -- the av4 one after the other
   have key : ∀ (r : List Tr) (i qq : Nat) {m0 : VM} {p0 : Nat} {m2 : VM} {B : CoT} {d2 : Int} {w2 : Bool}, CoL r m0 p0 m2 B d2 w2 -> ∀ (y : b8) (L0 : CoT) (dm0 e0 : Int), i + r.length = l.length -> n5 r f i -> i9 r <= i9 l -> r.length < qq -> p0 = L0.length -> (L0.length : Int) + 4 * i9 r < BG -> 0 <= dm0 -> Cp L0 m0.1 m0.2 0 dm0 e0 y ->
    Z2 (cp7 (node q) qq (14, n', s', l.length, opK f, opN f, opS f, opM f, opF f, x) ((i : Int), y.1, y.2.2.2.2.2.2.1, y.2.2.2.2.2.2.2.1, y.2.2.2.2.2.2.2.2, y.2.1, y.2.2.1, y.2.2.2.1, y.2.2.2.2.1, y.2.2.2.2.2.1)) (λz => Cp (L0 ++ B) m2.1 m2.2 0 (max dm0 d2) (erW w2 e0) (z.1, z.2.2.2.2.1, z.2.2.2.2.2.1, z.2.2.2.2.2.2.1, z.2.2.2.2.2.2.2.1, z.2.2.2.2.2.2.2.2, z.2.1, z.2.2.1, z.2.2.2.1)) := by
    intro r
    induction r with
    | nil =>
     intro i qq m0 p0 m2 B d2 w2 hcl y L0 dm0 e0 hi hrr hs hqq hp0 hL0 hdm0 hy;cases hcl;obtain ⟨qq, rfl⟩ : ∃ k, qq = k + 1 := ⟨qq - 1, by simp at hqq; omega⟩;refine i6 ?_;unfold sF U10;dsimp only;simp only [List.length_nil, Nat.add_zero] at hi;refine BE (by rw [decide_eq_true_eq]; omega) (BC ?_);show Cp _ _ _ _ _ _ _;exact (hy.cast (by simp) rfl (by omega)).err rfl
    | cons t r ihr =>
     intro i qq m0 p0 m2 B d2 w2 hcl y L0 dm0 e0 hi hrr hs hqq hp0 hL0 hdm0 hy;cases hcl with
     | cons _ _ _ m3 _ _ A1 B1 d1 d3 w1 w3 g1 g2 =>
      obtain ⟨qq, rfl⟩ : ∃ k, qq = k + 1 := ⟨qq - 1, by simp at hqq; omega⟩;simp only [n5] at hrr;simp only [i9] at hs hL0;simp only [List.length_cons] at hi hqq;have hl1 := g1.len;refine i6 ?_;unfold sF U10;dsimp only;refine BD (by rw [decide_eq_true_eq]; omega) (BD (by omega) ?_);rw [Int.toNat_natCast];refine BB (ih g1 (o6 f i) y L0 dm0 e0 hrr.1 (by omega) hp0 (by omega) hdm0 hy) λz hz => BC ?_;rw [o7 (by have := gG l; omega)];subst hp0;refine (ihr (i + 1) qq g2 z (L0 ++ A1) (max dm0 d1) (erW w1 e0) (by omega) hrr.2 (by omega) (by omega) (by simp) (by simp; omega) (by omega) hz).mono λz2 hz2 => ?_;exact (hz2.cast (by simp) rfl (by omega)).err (gj7 w1 w3 e0)
   refine BB (key l 0 q h1 x L dm e (by omega) hk (Nat.le_refl _) (by omega) rfl (by omega) hdm hx) λz hz => BC hz
def AgV(m:VM)(l:List ByteArray):Prop:=∀s v,m.2 s=some v->jC l 0 s=(v:Int)
theorem AgV.put{m:VM}{s:ByteArray}{l:List ByteArray}(h:AgV (cf2 m s) l)(hs:m.2 s=none):AgV m l:=λx v e=>h x v (by
 show(if x=s then _ else _)=_;rw[if_neg]
 ·exact e
 ·rintro rfl;rw[hs]at e;cases e)
theorem AgV.fv{m:VM}{s:ByteArray}{l:List ByteArray}(h:AgV m l)(hs:dmV m s):fvM m.2 s=jC l 0 s:=by
 unfold dmV at hs;obtain⟨v,hv⟩:=Option.isSome_iff_exists.1 hs;rw[h s v hv];unfold fvM;rw[hv];rfl
theorem fi5{m:VM}{l:List ByteArray}(h:AgV m l):∀(t:Tr) (p:Nat),okX (dmV m) t->cE (jC l 0) t p=cE (fvM m.2) t p
 | .node k n s [],p,ho=>by
  simp only[okX]at ho;rw[cE,cE];rcases ho with⟨rfl,_⟩ | ⟨rfl,_⟩ | ⟨rfl,ho⟩ | ⟨rfl,_⟩
  ·rfl
  ·rfl
  ·rw[if_pos rfl,if_pos rfl,h.fv ho]
  ·rfl
 | .node k n s [a],p,ho=>by
  simp only[okX]at ho;rw[cE,cE,fi5 h a p ho.2.2]
 | .node k n s [a,b],p,ho=>by
  simp only[okX]at ho;rw[cE,cE];simp only[fi5 h a _ ho.2.2.1,fi5 h b _ ho.2.2.2]
 | .node k n s (a::b::c::r),p,ho=>by simp only[okX]at ho
mutual
theorem CoS.ag{l:List ByteArray}:∀{t:Tr} {m:VM} {p:Nat} {m1:VM} {A:CoT} {d:Int} {w:Bool},CoS t m p m1 A d w->AgV m1 l->AgV m l
 |_,_,_,_,_,_,_,.let_ n s a m p _ h,g=>g.put h
 |_,_,_,_,_,_,_,.set_ n s a m p _ _,g=>g
 |_,_,_,_,_,_,_,.ifE n s c a n' s' m m1 p A d w _ _ h,g=>h.ag g
 |_,_,_,_,_,_,_,.ifB n s c a n' s' x l m m1 m2 p A B d d' w w' _ _ h h2,g=>h.ag (h2.ag g)
 |_,_,_,_,_,_,_,.rep n s a m m1 p A d w _ _ _ h,g=>h.ag g
 |_,_,_,_,_,_,_,.wait n s v u m p _,g=>g
 |_,_,_,_,_,_,_,.await n s c v u m p _ _,g=>g
 |_,_,_,_,_,_,_,.req n s a m p _,g=>g
 |_,_,_,_,_,_,_,.point n s a m p _,g=>g
 |_,_,_,_,_,_,_,.use n s v u m p _ _ _,g=>g
 |_,_,_,_,_,_,_,.send n s v u m p _ _ _,g=>g
 |_,_,_,_,_,_,_,.keep n s v u m p _,g=>g
 |_,_,_,_,_,_,_,.emit n s m p _ _,g=>g
 |_,_,_,_,_,_,_,.abort n s m p _ _,g=>g
 |_,_,_,_,_,_,_,.blk n s l m m1 p A d w h,g=>h.ag g
theorem CoL.ag{l:List ByteArray}:∀{r:List Tr} {m:VM} {p:Nat} {m1:VM} {A:CoT} {d:Int} {w:Bool},CoL r m p m1 A d w->AgV m1 l->AgV m l
 |_,_,_,_,_,_,_,.nil m p,g=>g
 |_,_,_,_,_,_,_,.cons t r m m1 m2 p A B d d' w w' h h2,g=>h.ag (h2.ag g)
end
theorem gy6{α β:Type}{x:Option α}{f:α->β}{P:β->Prop}(h:Z2 x (λz=>P (f z))):Z2 (x.map f) P:=by
 obtain⟨z,e,hz⟩:=h;exact⟨f z,by rw[e];rfl,hz⟩
theorem oB(q:Nat){k n v:Int}{s u:ByteArray}{m:Nat}{f:Nat->List V}(h:qG v u)(e1:n=v)(e2:s=u):Z2 (dW q (k,n,s,m,f)) (λy=>y=fI v u):=by
 subst e1 e2;exact⟨_,cm5 q h.1,rfl⟩
theorem hb5{vn:Nat}{vs:Nat->ByteArray}{nl:List ByteArray}(hnl:nl.length<=1000000000)(hn:Y5 nl vn vs):∀(q:Nat) {t:Tr} {m:VM} {p:Nat} {m1:VM} {A:CoT} {d:Int} {w0:Bool},CoS t m p m1 A d w0->AgV m1 nl->∀(nd:n9),Rep t nd->siz t+nl.length+9<q->(p:Int)+4*siz t<BG->
 Z2 (qK q (nd.1,nd.2.1,nd.2.2.1,nd.2.2.2.1,nd.2.2.2.2,vn,vs,(p:Int))) (Y3 A):=by
 intro q
 induction q with
 |zero=>intro t m p m1 A d w0 hc hg nd hr hq;omega
 |succ q ih=>
  rintro⟨k,n,s,l⟩ m p m1 A d w0 hc hg ⟨k',n',s',m',f⟩ hr hq hp;simp only[Rep]at hr;obtain⟨rfl,rfl,rfl,rfl,hlk,hO,hk⟩:=hr;have hBG:BG=1000000000:=rfl;have hg0:=hc.ag hg;rw[qK];rw[_root_.if_pos hO];refine gy6 ?_;unfold br5 U12;dsimp only;have ex:∀(c:Tr) (y:n9) (p:Nat),okX (dmV m) c->Rep c y->siz c+nl.length+8<q->(p:Int)+4*siz c<BG->Z2 (tZ q (y.1,y.2.1,y.2.2.1,y.2.2.2.1,y.2.2.2.2,vn,vs,(p:Int))) (Y3 (cE (fvM m.2) c p)):=λc y p h1 h2 h3 h4=>(gy4 _ hnl hn q c y p h1 h2 h3 h4).mono λz hz=>hz.cast (fi5 hg0 c p h1);have wp1:w ((p:Int)+1)=((p+1:Nat):Int):=wc (by omega) (by omega);cases hc with
  |let_ _ _ a _ _ h1 h2=>
   simp only[siz,i9]at hp hq;simp only[n5]at hk;have hlen:=v8 (fvM m.2) a p;refine BD rfl (BD (by simp) (BB (ex a (o6 f 0) p h1 hk.1 (by omega) (by omega)) λz hz=>?_));refine BB (cb9 hnl hn (by omega)) λb hb=>?_;refine BB (dU q 3 _ hz (by omega)) λz2 hz2=>BC ?_;refine hz2.cast ?_;rw[hb,hg s' m.1 (by show(if s'=s' then _ else _)=_;rw[if_pos rfl])]
  |set_ _ _ a _ _ h1 h2=>
   simp only[siz,i9]at hp hq;simp only[n5]at hk;have hlen:=v8 (fvM m.2) a p;refine BE (by decide) (BD rfl (BD (by simp) (BB (ex a (o6 f 0) p h1 hk.1 (by omega) (by omega)) λz hz=>?_)));refine BB (cb9 hnl hn (by omega)) λb hb=>?_;refine BB (dU q 3 _ hz (by omega)) λz2 hz2=>BC ?_;refine hz2.cast ?_;rw[hb,hg0.fv h2]
  |ifE _ _ c a n2 s2 _ _ _ A d wa h1 h2 h3=>
   simp only[siz,i9]at hp hq;simp only[n5]at hk
   iterate 2 refine BE (by decide) ?_
   refine BD rfl (BB (P:=Y3 _) ?_ λz hz=>BC hz);unfold mP ag1 U12;dsimp only;have hlc:=v8 (fvM m.2) c p;have hla:=h3.len;have hsc:=aJ c;refine BD (by simp) (BB (ex c (o6 f 0) p h1 hk.1 (by omega) (by omega)) λz hz=>?_);generalize eC:cE (fvM m.2) c p=C at*;have hzl:=hz.1;have e1:w ((p:Int)+((z.1:Nat):Int))=((p+C.length:Nat):Int):=wc (by omega) (by omega);have e2:w (((p+C.length:Nat):Int)+1)=((p+C.length+1:Nat):Int):=wc (by omega) (by omega);rw[e1,e2];refine BD (by simp) (BB (ih h3 hg (o6 f (0+1)) hk.2.1 (by omega) (by omega)) λz2 hz2=>?_);have hz2l:=hz2.1;have e3:w (((p+C.length+1:Nat):Int)+((z2.1:Nat):Int))=((p+C.length+1+A.length:Nat):Int):=wc (by omega) (by omega)
   have h2e:((opM f 2:Nat):Int)==(0:Int):=by
    have:=hk.2.2.1;simp only[Rep]at this;have:opM f (0+1+1)=0:=this.2.2.2.1;rw[this];rfl
   refine BD (by simp) (BD h2e ?_);rw[e3];refine BB (dU q 15 _ hz (by omega)) λz3 hz3=>?_;refine BB (sW q hz3 hz2 (by simp;omega)) λz4 hz4=>BC (hz4.cast (by simp))
  |ifB _ _ c a n2 s2 y l2 _ m2 _ _ A B d d' wa wb h1 h2 h3 h4=>
   simp only[siz,i9]at hp hq;simp only[n5]at hk
   iterate 2 refine BE (by decide) ?_
   refine BD rfl (BB (P:=Y3 _) ?_ λz hz=>BC hz);unfold mP ag1 U12;dsimp only;have hlc:=v8 (fvM m.2) c p;have hla:=h3.len;have hlb:=h4.len;simp only[siz,i9]at hlb;have hsc:=aJ c;refine BD (by simp) (BB (ex c (o6 f 0) p h1 hk.1 (by omega) (by omega)) λz hz=>?_);generalize eC:cE (fvM m.2) c p=C at*;have hzl:=hz.1;have e1:w ((p:Int)+((z.1:Nat):Int))=((p+C.length:Nat):Int):=wc (by omega) (by omega);have e2:w (((p+C.length:Nat):Int)+1)=((p+C.length+1:Nat):Int):=wc (by omega) (by omega);rw[e1,e2];refine BD (by simp) (BB (ih h3 (h4.ag hg) (o6 f (0+1)) hk.2.1 (by omega) (by omega)) λz2 hz2=>?_);have hz2l:=hz2.1;have e3:w (((p+C.length+1:Nat):Int)+((z2.1:Nat):Int))=((p+C.length+1+A.length:Nat):Int):=wc (by omega) (by omega);have e4:w (((p+C.length+1+A.length:Nat):Int)+1)=((p+C.length+1+A.length+1:Nat):Int):=wc (by omega) (by omega)
   have h2e:¬(((opM f 2:Nat):Int)==(0:Int))=true:=by
    have:=hk.2.2.1;simp only[Rep]at this;have:opM f (0+1+1)=(y::l2).length:=this.2.2.2.1;rw[this];simp only[List.length_cons,beq_iff_eq];omega
   refine BD (by simp) (BE h2e ?_);rw[e3,e4];refine BD (by simp) (BB (ih h4 hg (o6 f (0+1+1)) hk.2.2.1 (by simp only[siz,i9];omega) (by simp only[siz,i9];omega)) λz3 hz3=>?_);have hz3l:=hz3.1;have e5:w (((p+C.length+1+A.length+1:Nat):Int)+((z3.1:Nat):Int))=((p+C.length+1+A.length+1+B.length:Nat):Int):=wc (by omega) (by omega);rw[e5];refine BB (dU q 15 _ hz (by omega)) λz4 hz4=>?_;refine BB (dU q 14 _ hz2 (by omega)) λz5 hz5=>?_;refine BB (sW q hz4 hz5 (by simp;omega)) λz6 hz6=>?_;refine BB (sW q hz6 hz3 (by simp;omega)) λz7 hz7=>BC (hz7.cast (by simp))
  |rep _ _ a _ _ _ A d wa h1 h2 h3 h4=>
   simp only[siz,i9]at hp hq;simp only[n5]at hk
   iterate 3 refine BE (by decide) ?_
   have hla:=h4.len;rw[wp1];refine BD rfl (BD (by simp) (BB (ih h4 hg (o6 f 0) hk.1 (by omega) (by omega)) λz hz=>?_));refine BB (xY q 16 n') λz2 hz2=>?_;refine BB (sW q hz2 hz (by simp;omega)) λz3 hz3=>?_;refine BB (dU q 17 _ hz3 (by simp;omega)) λz4 hz4=>BC (hz4.cast (by simp))
  |wait _ _ v u _ _ h1=>
   simp only[n5]at hk;obtain⟨e1,e2⟩:=fO hk.1
   iterate 4 refine BE (by decide) ?_
   refine BD rfl (BD (by simp) (BB (oB q h1 e1 e2) λy hy=>?_));subst hy;exact BB (xY q 18 _) λz hz=>BC hz
  |await _ _ c v u _ _ h1 h2=>
   simp only[siz,i9]at hp hq;simp only[n5]at hk;obtain⟨e1,e2⟩:=fO hk.2.1
   iterate 5 refine BE (by decide) ?_
   have hlc:=v8 (fvM m.2) c (p+1);have hsc:=aJ c;rw[wp1];refine BD rfl (BD (by simp) (BB (ex c (o6 f 0) (p+1) h1 hk.1 (by omega) (by omega)) λz hz=>?_));refine BD (by simp) (BB (oB q h2 e1 e2) λy hy=>?_);subst hy;refine BB (xY q 19 _) λz2 hz2=>?_;refine BB (sW q hz2 hz (by simp;omega)) λz3 hz3=>?_;refine BB (dU q 20 _ hz3 (by simp;omega)) λz4 hz4=>BC (hz4.cast (by simp))
  |req _ _ a _ _ h1=>
   simp only[siz,i9]at hp hq;simp only[n5]at hk;have hlen:=v8 (fvM m.2) a p
   iterate 6 refine BE (by decide) ?_
   refine BD rfl (BD (by simp) (BB (ex a (o6 f 0) p h1 hk.1 (by omega) (by omega)) λz hz=>?_));exact BB (dU q 21 0 hz (by omega)) λz2 hz2=>BC hz2
  |point _ _ a _ _ h1=>
   simp only[siz,i9]at hp hq;simp only[n5]at hk;have hlen:=v8 (fvM m.2) a p
   iterate 7 refine BE (by decide) ?_
   refine BD rfl (BD (by simp) (BB (ex a (o6 f 0) p h1 hk.1 (by omega) (by omega)) λz hz=>?_));exact BB (dU q 22 0 hz (by omega)) λz2 hz2=>BC hz2
  |use _ _ v u _ _ h1 h2 h3=>
   simp only[n5]at hk;obtain⟨e1,e2⟩:=fO hk.1
   iterate 8 refine BE (by decide) ?_
   refine BD rfl (BD (by simp) (BB (oB q h3 e1 e2) λy hy=>?_));subst hy;obtain⟨_,g1,g2⟩:=h3;rw[dJ (n:=n'*1000000) (by unfold inR;omega),dJ (by unfold inR;omega)];exact BB (xY q 23 _) λz hz=>BC hz
  |send _ _ v u _ _ h1 h2 h3=>
   simp only[n5]at hk;obtain⟨e1,e2⟩:=fO hk.1
   iterate 9 refine BE (by decide) ?_
   refine BD rfl (BD (by simp) (BB (oB q h3 e1 e2) λy hy=>?_));subst hy;obtain⟨_,g1,g2⟩:=h3;rw[dJ (n:=fI v u*8) (by unfold inR;omega),dJ (by unfold inR;omega)];exact BB (xY q 24 _) λz hz=>BC hz
  |keep _ _ v u _ _ h1=>
   simp only[n5]at hk;obtain⟨e1,e2⟩:=fO hk.1
   iterate 10 refine BE (by decide) ?_
   refine BD rfl (BD (by simp) (BB (oB q h1 e1 e2) λy hy=>?_));subst hy;exact BB (xY q 25 _) λz hz=>BC hz
  |emit _ _ _ _ h1 h2=>
   iterate 11 refine BE (by decide) ?_
   exact BD rfl (BB (xY q 26 _) λz hz=>BC hz)
  |abort _ _ _ _ h1 h2=>
   iterate 12 refine BE (by decide) ?_
   exact BD rfl (BB (xY q 27 _) λz hz=>BC hz)
  |blk _ _ _ _ _ _ A d wa h1=>
   simp only[siz]at hp hq
   iterate 13 refine BE (by decide) ?_
   have hll:=gG l
   have key:∀(r:List Tr) (i qq:Nat) {m0:VM} {p0:Nat} {m2:VM} {B:CoT} {d2:Int} {w2:Bool},CoL r m0 p0 m2 B d2 w2->AgV m2 nl->∀(C:CoT) (z:f0),i+r.length=l.length->n5 r f i->i9 r<=i9 l->r.length<qq->p0=p+C.length->(p:Int)+C.length+4*i9 r<BG->Y3 C z->
    Z2 (pT (tZ q) (nQ q) (pC q) (mP (qK q) q) (qK q) (qV q) (ba7 q) (bh4 q) (dW q) qq (14,n',s',l.length,opK f,opN f,opS f,opM f,opF f,vn,vs,(p:Int)) (.inr (z.1,z.2.1,z.2.2,(i:Int)))) (λg=>Sum.elim (λ_=>False) (λz2=>Y3 (C++B) z2) g):=by
    intro r
    induction r with
    |nil=>
     intro i qq m0 p0 m2 B d2 w2 hcl hg2 C z hi hrr hs hqq hp0 hL0 hz;cases hcl;obtain⟨qq,rfl⟩:∃k,qq=k+1:=⟨qq-1,by simp at hqq;omega⟩;refine i6 ?_;dsimp only[Sum.elim_inr,oJ,U12,U4];simp only[List.length_nil,Nat.add_zero]at hi;refine BE (by rw[decide_eq_true_eq];omega) (BC ?_);show Y3 _ _;exact hz.cast (by simp)
    |cons t r ihr=>
     intro i qq m0 p0 m2 B d2 w2 hcl hg2 C z hi hrr hs hqq hp0 hL0 hz;cases hcl with
     |cons _ _ _ m3 _ _ A1 B1 d1 d3 w1 w3 g1 g2=>
      obtain⟨qq,rfl⟩:∃k,qq=k+1:=⟨qq-1,by simp at hqq;omega⟩;simp only[n5]at hrr;simp only[i9]at hs hL0;simp only[List.length_cons]at hi hqq;have hl1:=g1.len;subst hp0;refine i6 ?_;dsimp only[Sum.elim_inr,oJ,U12,U4];refine BD (by rw[decide_eq_true_eq];omega) (BD (by omega) ?_);have hzl:=hz.1;have e1:w ((p:Int)+((z.1:Nat):Int))=((p+C.length:Nat):Int):=wc (by omega) (by omega);rw[Int.toNat_natCast,e1];refine BB (ih g1 (g2.ag hg2) (o6 f i) hrr.1 (by omega) (by omega)) λz2 hz2=>?_;refine BB (sW q hz hz2 (by omega)) λz3 hz3=>BC ?_;rw[o7 (by have:=gG l;omega)];refine(ihr (i+1) qq g2 hg2 (C++A1) z3 (by omega) hrr.2 (by omega) (by omega) (by simp;omega) (by simp;omega) hz3).mono λz4 hz4=>?_;rcases z4 with z4|z4
      ·exact hz4
      ·exact Y3.cast hz4 (by simp)
   have key0:Z2 (pT (tZ q) (nQ q) (pC q) (mP (qK q) q) (qK q) (qV q) (ba7 q) (bh4 q) (dW q) q (14,n',s',l.length,opK f,opN f,opS f,opM f,opF f,vn,vs,(p:Int)) (.inl ())) (λg=>Sum.elim (λ_=>A=[]) (λz2=>Y3 A z2) g):=by
    obtain⟨q',hq'⟩:∃k,q=k+1:=⟨q-1,by omega⟩;cases h1 with
    |nil=>
     unfold pT;rw[hq'];refine i6 ?_;dsimp only[Sum.elim_inl,oG,U12];exact BE (by simp) (BC rfl)
    |cons t r _ m3 _ _ A1 B1 d1 d3 w1 w3 g1 g2=>
     have hrr:=hk;simp only[n5]at hrr;simp only[i9]at hp hq;have hl1:=g1.len;simp only[List.length_cons]at hll;have hZ:Y3 [] ((0,λ_=>0,λ_=>0):f0):=⟨rfl,λj p hj=>by simp at hj⟩;have e1:w ((p:Int)+0)=((p:Nat):Int):=wc (by omega) (by omega)
     have nxt:∀z3:f0,Y3 ([]++A1) z3->Z2 (pT (tZ q) (nQ q) (pC q) (mP (qK q) q) (qK q) (qV q) (ba7 q) (bh4 q) (dW q) q' (14,n',s',(t::r).length,opK f,opN f,opS f,opM f,opF f,vn,vs,(p:Int)) (.inr (z3.1,z3.2.1,z3.2.2,(1:Int)))) (λg=>Sum.elim (λ_=>A1++B1=[]) (λz2=>Y3 (A1++B1) z2) g):=λz3 hz3=>by
      refine(key r 1 q' g2 hg A1 z3 (by simp;omega) hrr.2 (by simp only[i9];omega) (by simp only[i9]at*;omega) rfl (by omega) hz3).mono λz4 hz4=>?_;rcases z4 with z4|z4
      ·exact hz4.elim
      ·exact hz4
     unfold pT;rw[show lpG _ q=lpG _ (q'+1)from congrArg _ hq'];refine i6 ?_;dsimp only[Sum.elim_inl,oG,U12];refine BD (by simp) (BD (by simp) ?_);refine BB (P:=Y3 A1) (by rw[e1];exact ih g1 (g2.ag hg) (o6 f 0) hrr.1 (by omega) (by omega)) λz2 hz2=>?_;refine BB (sW q hZ hz2 (by simp;omega)) λz3 hz3=>BC (nxt z3 hz3)
   refine BB key0 λz hz=>?_;rcases z with z|z
   ·have hz:A=[]:=hz;subst hz;exact BC ⟨rfl,λj p hj=>by simp at hj⟩
   ·exact BC hz
mutual
def nam:Tr->List ByteArray
 | .node k n s l=>(if k=1 then[s]else[])++bK l
def bK:List Tr->List ByteArray
 | []=>[]
 |t::l=>nam t++bK l
end
mutual
theorem ad6:∀t:Tr,(nam t).length<=siz t
 | .node k n s l=>by
  rw[nam,siz];have:=dm4 l;split<;>simp<;>omega
theorem dm4:∀l:List Tr,(bK l).length<=i9 l
 | []=>by simp[bK,i9]
 |t::l=>by rw[bK,i9];have:=ad6 t;have:=dm4 l;simp;omega
end
theorem iM{P:ByteArray->Prop}:∀(t:Tr),okX P t->nam t=[]
 | .node k n s [],h=>by
  simp only[okX]at h;rw[nam,if_neg (by rcases h with h|h|h|h<;>(rw[h.1];decide))];rfl
 | .node k n s [a],h=>by
  simp only[okX]at h;rw[nam,if_neg (by rw[h.1];decide),bK,iM a h.2.2];rfl
 | .node k n s [a,b],h=>by
  simp only[okX]at h;rw[nam,if_neg (by rw[h.1];decide),bK,bK,iM a h.2.2.1,iM b h.2.2.2];rfl
 | .node k n s (a::b::c::l),h=>by simp only[okX]at h
theorem av7(v:Int)(u:ByteArray):nam (at9 v u)=[]:=by rw[nam,if_neg (by decide)];rfl
theorem fg7(b s:ByteArray):∀(l:List ByteArray) (i:Nat),jC (l++[b]) i s=if jC l i s= -1 then(if b=s then((i+l.length:Nat):Int)else-1)else jC l i s
 | [],i=>by simp[jC]
 |a::l,i=>by
  rw[List.cons_append,jC,jC];by_cases h:a=s
  ·rw[if_pos h,if_pos h,if_neg (by omega)]
  ·rw[if_neg h,if_neg h,fg7 b s l (i+1)];simp only[List.length_cons];rw[show i+1+l.length=i+(l.length+1)by omega]
def Y9(m:VM)(l:List ByteArray):Prop:=m.1=l.length/\∀s,(m.2 s=none->jC l 0 s= -1)/\∀v,m.2 s=some v->jC l 0 s=(v:Int)
theorem Y9.ag{m:VM}{l:List ByteArray}(h:Y9 m l):AgV m l:=λs v e=>(h.2 s).2 v e
theorem Y9.cast{m:VM}{l l':List ByteArray}(h:Y9 m l)(e:l=l'):Y9 m l':=e▸h
theorem Y9.put{m:VM}{l:List ByteArray}{s:ByteArray}(h:Y9 m l)(hs:m.2 s=none):Y9 (cf2 m s) (l++[s]):=by
 refine⟨by show m.1+1=_;rw[h.1];simp,λx=>?_⟩;rw[fg7];show((if x=s then some m.1 else m.2 x)=none->_)/\∀v,(if x=s then some m.1 else m.2 x)=some v->_;by_cases hx:x=s
 ·subst hx;rw[if_pos rfl,if_pos ((h.2 x).1 hs),if_pos rfl];refine⟨λe=>(nomatch e),λv e=>?_⟩;cases e;rw[h.1];simp
 ·rw[if_neg hx];refine⟨λe=>?_,λv e=>?_⟩
  ·rw[if_pos ((h.2 x).1 e),if_neg λg=>hx g.symm]
  ·have:=(h.2 x).2 v e;rw[if_neg (by omega),this]
mutual
theorem CoS.num:∀{t:Tr} {m:VM} {p:Nat} {m1:VM} {A:CoT} {d:Int} {w:Bool},CoS t m p m1 A d w->∀{l:List ByteArray},Y9 m l->Y9 m1 (l++nam t)
 |_,_,_,_,_,_,_,.let_ n s a m p ha h,l,g=>(g.put h).cast (by rw[nam,if_pos rfl,bK,iM a ha];rfl)
 |_,_,_,_,_,_,_,.set_ n s a m p ha h,l,g=>g.cast (by rw[nam,if_neg (by decide),bK,iM a ha];simp[bK])
 |_,_,_,_,_,_,_,.ifE n s c a n' s' m m1 p A d w hc _ h,l,g=>(h.num g).cast (by rw[nam,if_neg (by decide),bK,iM c hc,bK,bK,nam,if_neg (by decide)];simp[bK])
 |_,_,_,_,_,_,_,.ifB n s c a n' s' x r m m1 m2 p A B d d' w w' hc _ h h2,l,g=>(h2.num (h.num g)).cast (by rw[nam.eq_1 3,if_neg (by decide),bK,iM c hc,bK,bK];simp[bK])
 |_,_,_,_,_,_,_,.rep n s a m m1 p A d w _ _ _ h,l,g=>(h.num g).cast (by rw[nam.eq_1 4,if_neg (by decide),bK];simp[bK])
 |_,_,_,_,_,_,_,.wait n s v u m p _,l,g=>g.cast (by rw[nam,if_neg (by decide),bK,av7];simp[bK])
 |_,_,_,_,_,_,_,.await n s c v u m p hc _,l,g=>g.cast (by rw[nam,if_neg (by decide),bK,bK,iM c hc,av7];simp[bK])
 |_,_,_,_,_,_,_,.req n s a m p ha,l,g=>g.cast (by rw[nam,if_neg (by decide),bK,iM a ha];simp[bK])
 |_,_,_,_,_,_,_,.point n s a m p ha,l,g=>g.cast (by rw[nam,if_neg (by decide),bK,iM a ha];simp[bK])
 |_,_,_,_,_,_,_,.use n s v u m p _ _ _,l,g=>g.cast (by rw[nam,if_neg (by decide),bK,av7];simp[bK])
 |_,_,_,_,_,_,_,.send n s v u m p _ _ _,l,g=>g.cast (by rw[nam,if_neg (by decide),bK,av7];simp[bK])
 |_,_,_,_,_,_,_,.keep n s v u m p _,l,g=>g.cast (by rw[nam,if_neg (by decide),bK,av7];simp[bK])
 |_,_,_,_,_,_,_,.emit n s m p _ _,l,g=>g.cast (by rw[nam,if_neg (by decide)];simp[bK])
 |_,_,_,_,_,_,_,.abort n s m p _ _,l,g=>g.cast (by rw[nam,if_neg (by decide)];simp[bK])
 |_,_,_,_,_,_,_,.blk n s r m m1 p A d w h,l,g=>(h.num g).cast (by rw[nam,if_neg (by decide)];simp)
theorem CoL.num:∀{r:List Tr} {m:VM} {p:Nat} {m1:VM} {A:CoT} {d:Int} {w:Bool},CoL r m p m1 A d w->∀{l:List ByteArray},Y9 m l->Y9 m1 (l++bK r)
 |_,_,_,_,_,_,_,.nil m p,l,g=>g.cast (by simp[bK])
 |_,_,_,_,_,_,_,.cons t r m m1 m2 p A B d d' w w' h h2,l,g=>(h2.num (h.num g)).cast (by rw[bK,List.append_assoc])
end
theorem Y5.join{C D:List ByteArray}{n n':Nat}{v v':Nat->ByteArray}(h:Y5 C n v)(g:Y5 D n' v'):Y5 (C++D) (n+n') (λj=>if j<n then v j else v' (j-n)):=by
 obtain⟨rfl,h2⟩:=h;obtain⟨rfl,g2⟩:=g;refine⟨by simp,λj b hj=>?_⟩;by_cases hjl:j<C.length
 ·rw[List.getElem?_append_left hjl]at hj;show(if _ then _ else _)=_;rw[if_pos hjl];exact h2 j b hj
 ·rw[List.getElem?_append_right (by omega)]at hj;show(if _ then _ else _)=_;rw[if_neg hjl];exact g2 _ b hj
theorem fj3:∀(q:Nat) (t:Tr) (nd:n9),Rep t nd->siz t<q->(siz t:Int)<BG->Z2 (pX q (nd.1,nd.2.1,nd.2.2.1,nd.2.2.2.1,nd.2.2.2.2)) (λz=>Y5 (nam t) z.1 z.2):=by
 intro q
 induction q with
 |zero=>intro t nd hr hq;omega
 |succ q ih=>
  rintro⟨k,n,s,l⟩ ⟨k',n',s',m',f⟩ hr hq hp;simp only[Rep]at hr;obtain⟨rfl,rfl,rfl,rfl,hlk,hO,hk⟩:=hr;have hBG:BG=1000000000:=rfl;simp only[siz]at hq hp;have hll:=gG l;rw[pX];rw[_root_.if_pos hO];refine gy6 ?_;unfold db5;dsimp only
  have keyA:∀(r:List Tr) (i qq:Nat) (C:List ByteArray) (z:bA),i+r.length=l.length->n5 r f i->i9 r<=i9 l->r.length<qq->Y5 C z.1 z.2->(C.length:Int)+i9 r<BG->
   Z2 (dm5 (pX q) qq (k',n',s',l.length,opK f,opN f,opS f,opM f,opF f) (z.1,(i:Int),z.2)) (λz=>Y5 (C++bK r) z.1 z.2):=by
   intro r
   induction r with
   |nil=>
    intro i qq C z hi hrr hs hqq hz hL;obtain⟨qq,rfl⟩:∃k,qq=k+1:=⟨qq-1,by simp at hqq;omega⟩;refine i6 ?_;dsimp only[wN,U9,U3];simp only[List.length_nil,Nat.add_zero]at hi;refine BE (by rw[decide_eq_true_eq];omega) (BC ?_);simpa[bK]using hz
   |cons t r ihr=>
    intro i qq C z hi hrr hs hqq hz hL;obtain⟨qq,rfl⟩:∃k,qq=k+1:=⟨qq-1,by simp at hqq;omega⟩;simp only[n5]at hrr;simp only[i9]at hs hL;simp only[List.length_cons]at hi hqq;refine i6 ?_;dsimp only[wN,U9,U3];refine BD (by rw[decide_eq_true_eq];omega) (BD (by omega) ?_);rw[Int.toNat_natCast];refine BB (ih t (o6 f i) hrr.1 (by omega) (by omega)) λa ha=>?_;have hzl:=hz.1;have hal:=ha.1;have hnl:=ad6 t;refine BD ⟨by unfold b6;omega,by unfold maxLen;omega,Nat.le_refl _⟩ (BC ?_);rw[o7 (by omega)];refine(ihr (i+1) qq (C++nam t) (z.1+a.1,_) (by omega) hrr.2 (by omega) (by omega) (hz.join ha) (by simp;omega)).mono λz2 hz2=>?_;simpa[bK]using hz2
  have keyB:∀(r:List Tr) (i qq:Nat) (C:List ByteArray) (z:bA),i+r.length=l.length->n5 r f i->i9 r<=i9 l->r.length<qq->Y5 C z.1 z.2->(C.length:Int)+i9 r<BG->
   Z2 (am0 (pX q) qq (k',n',s',l.length,opK f,opN f,opS f,opM f,opF f) (.inr (z.1,z.2,(i:Int)))) (λg=>Sum.elim (λ_=>C++bK r=[]) (λz=>Y5 (C++bK r) z.1 z.2) g):=by
   intro r
   induction r with
   |nil=>
    intro i qq C z hi hrr hs hqq hz hL;obtain⟨qq,rfl⟩:∃k,qq=k+1:=⟨qq-1,by simp at hqq;omega⟩;refine i6 ?_;dsimp only[Sum.elim_inr,mE,U9,U3];simp only[List.length_nil,Nat.add_zero]at hi;refine BE (by rw[decide_eq_true_eq];omega) (BC ?_);show Y5 _ _ _;simpa[bK]using hz
   |cons t r ihr=>
    intro i qq C z hi hrr hs hqq hz hL;obtain⟨qq,rfl⟩:∃k,qq=k+1:=⟨qq-1,by simp at hqq;omega⟩;simp only[n5]at hrr;simp only[i9]at hs hL;simp only[List.length_cons]at hi hqq;refine i6 ?_;dsimp only[Sum.elim_inr,mE,U9,U3];refine BD (by rw[decide_eq_true_eq];omega) (BD (by omega) ?_);rw[Int.toNat_natCast];refine BB (ih t (o6 f i) hrr.1 (by omega) (by omega)) λa ha=>?_;have hzl:=hz.1;have hal:=ha.1;have hnl:=ad6 t;refine BD ⟨by unfold b6;omega,by unfold maxLen;omega,Nat.le_refl _⟩ (BC ?_);rw[o7 (by omega)];have:=ihr (i+1) qq (C++nam t) (z.1+a.1,_) (by omega) hrr.2 (by omega) (by omega) (hz.join ha) (by simp;omega);rw[List.append_assoc]at this;exact this
  have keyC:∀(r:List Tr) (i qq:Nat),i+r.length=l.length->n5 r f i->i9 r<=i9 l->r.length<qq->
   Z2 (am0 (pX q) qq (k',n',s',l.length,opK f,opN f,opS f,opM f,opF f) (.inl (i:Int))) (λg=>Sum.elim (λ_=>bK r=[]) (λz=>Y5 (bK r) z.1 z.2) g):=by
   intro r
   induction r with
   |nil=>
    intro i qq hi hrr hs hqq;obtain⟨qq,rfl⟩:∃k,qq=k+1:=⟨qq-1,by simp at hqq;omega⟩;refine i6 ?_;dsimp only[Sum.elim_inl,lW,U9];simp only[List.length_nil,Nat.add_zero]at hi;exact BE (by rw[decide_eq_true_eq];omega) (BC rfl)
   |cons t r ihr=>
    intro i qq hi hrr hs hqq;obtain⟨qq,rfl⟩:∃k,qq=k+1:=⟨qq-1,by simp at hqq;omega⟩;simp only[n5]at hrr;simp only[i9]at hs;simp only[List.length_cons]at hi hqq;refine i6 ?_;dsimp only[Sum.elim_inl,lW,U9];refine BD (by rw[decide_eq_true_eq];omega) (BD (by omega) ?_);rw[Int.toNat_natCast];refine BB (ih t (o6 f i) hrr.1 (by omega) (by omega)) λa ha=>?_;have hal:=ha.1;have hnl:=ad6 t;rw[o7 (by omega)];refine BF (λh0=>BC ?_) λh0=>?_
    ·have e0:nam t=[]:=List.eq_nil_of_length_eq_zero (by omega);rw[bK,e0,List.nil_append];exact ihr (i+1) qq (by omega) hrr.2 (by omega) (by omega)
    ·refine BD ⟨by unfold b6;omega,by unfold maxLen;omega⟩ (BC ?_);exact keyB r (i+1) qq (nam t) a (by omega) hrr.2 (by omega) (by omega) ha (by omega)
  rw[nam];refine BF (λh1=>?_) λh1=>?_
  ·rw[if_pos (by simpa using h1)];refine BB (keyA l 0 q [s'] (1,λ_=>s') (by omega) hk (Nat.le_refl _) (by omega) ⟨rfl,λj b hj=>?_⟩ (by simp;omega)) λz hz=>BC hz;cases j with
   |zero=>simpa using hj
   |succ j=>simp at hj
  ·rw[if_neg (by simpa using h1),List.nil_append];refine BB (keyC l 0 q (by omega) hk (Nat.le_refl _) (by omega)) λz hz=>?_;rcases z with z|z
   ·have hz:bK l=[]:=hz;rw[hz];exact BC ⟨rfl,λj b hj=>by simp at hj⟩
   ·exact BC hz
mutual
inductive Wd:Tr->Bool->Prop
 |nd (k n:Int) (s:ByteArray) (l:List Tr) (b:Bool):k≠5->k≠6->k≠9->k≠10->WdL l b->Wd (.node k n s l) b
 |w5 (n v:Int) (s u:ByteArray):qG v u->Wd (.node 5 n s [at9 v u]) (decide (1000000<fI v u))
 |w6 (n v:Int) (s u:ByteArray) (c:Tr):qG v u->Wd (.node 6 n s [c,at9 v u]) (decide (1000000<fI v u))
 |w9 (n v:Int) (s u:ByteArray):qG v u->Wd (.node 9 n s [at9 v u]) (decide (999999<fI v u))
 |w10 (n v:Int) (s u:ByteArray):qG v u->Wd (.node 10 n s [at9 v u]) (decide (268435455<fI v u))
inductive WdL:List Tr->Bool->Prop
 |nil:WdL [] false
 |cons (t:Tr) (l:List Tr) (b c:Bool):Wd t b->WdL l c->WdL (t::l) (b||c)
end
theorem Wd.cast{t:Tr}{b c:Bool}(h:Wd t b)(e:b=c):Wd t c:=e▸h
theorem WdL.cast{t:List Tr}{b c:Bool}(h:WdL t b)(e:b=c):WdL t c:=e▸h
theorem Wd.expr{P:ByteArray->Prop}:∀(t:Tr),okX P t->Wd t false
 | .node k n s [],h=>by
  simp only[okX]at h;have:k=15\/k=16\/k=17\/k=18:=by rcases h with h|h|h|h<;>simp[h.1]
  exact .nd _ _ _ _ _ (by omega) (by omega) (by omega) (by omega) .nil
 | .node k n s [a],h=>by
  simp only[okX]at h;exact .nd _ _ _ _ _ (by omega) (by omega) (by omega) (by omega) (.cons _ _ _ _ (Wd.expr a h.2.2) .nil)
 | .node k n s [a,b],h=>by
  simp only[okX]at h;exact .nd _ _ _ _ _ (by omega) (by omega) (by omega) (by omega) (.cons _ _ _ _ (Wd.expr a h.2.2.1) (.cons _ _ _ _ (Wd.expr b h.2.2.2) .nil))
 | .node k n s (a::b::c::l),h=>by simp only[okX]at h
theorem Wd.lit(v:Int)(u:ByteArray):Wd (at9 v u) false:=.nd _ _ _ _ _ (by decide) (by decide) (by decide) (by decide) .nil
theorem Wd.one{k n:Int}{s:ByteArray}{a:Tr}{b:Bool}(h:Wd a b)(h5:k≠5)(h6:k≠6)(h9:k≠9)(h10:k≠10):Wd (.node k n s [a]) b:=.nd _ _ _ _ _ h5 h6 h9 h10 ((WdL.cons _ _ _ _ h .nil).cast (by simp))
mutual
theorem CoS.wd:∀{t:Tr} {m:VM} {p:Nat} {m1:VM} {A:CoT} {d:Int} {w:Bool},CoS t m p m1 A d w->Wd t w
 |_,_,_,_,_,_,_,.let_ n s a m p ha h=>(Wd.expr a ha).one (by decide) (by decide) (by decide) (by decide)
 |_,_,_,_,_,_,_,.set_ n s a m p ha h=>(Wd.expr a ha).one (by decide) (by decide) (by decide) (by decide)
 |_,_,_,_,_,_,_,.ifE n s c a n' s' m m1 p A d w hc _ h=>.nd _ _ _ _ _ (by decide) (by decide) (by decide) (by decide) ((WdL.cons _ _ _ _ (Wd.expr c hc) (.cons _ _ _ _ h.wd (.cons _ _ _ _ (.nd 14 n' s' [] false (by decide) (by decide) (by decide) (by decide) .nil) .nil))).cast (by simp))
 |_,_,_,_,_,_,_,.ifB n s c a n' s' x r m m1 m2 p A B d d' w w' hc _ h h2=>.nd _ _ _ _ _ (by decide) (by decide) (by decide) (by decide) ((WdL.cons _ _ _ _ (Wd.expr c hc) (.cons _ _ _ _ h.wd (.cons _ _ _ _ h2.wd .nil))).cast (by simp))
 |_,_,_,_,_,_,_,.rep n s a m m1 p A d w _ _ _ h=>h.wd.one (by decide) (by decide) (by decide) (by decide)
 |_,_,_,_,_,_,_,.wait n s v u m p h=>.w5 _ _ _ _ h
 |_,_,_,_,_,_,_,.await n s c v u m p hc h=>.w6 _ _ _ _ _ h
 |_,_,_,_,_,_,_,.req n s a m p ha=>(Wd.expr a ha).one (by decide) (by decide) (by decide) (by decide)
 |_,_,_,_,_,_,_,.point n s a m p ha=>(Wd.expr a ha).one (by decide) (by decide) (by decide) (by decide)
 |_,_,_,_,_,_,_,.use n s v u m p _ _ h=>.w9 _ _ _ _ h
 |_,_,_,_,_,_,_,.send n s v u m p _ _ h=>.w10 _ _ _ _ h
 |_,_,_,_,_,_,_,.keep n s v u m p _=>(Wd.lit v u).one (by decide) (by decide) (by decide) (by decide)
 |_,_,_,_,_,_,_,.emit n s m p _ _=>.nd _ _ _ _ _ (by decide) (by decide) (by decide) (by decide) .nil
 |_,_,_,_,_,_,_,.abort n s m p _ _=>.nd _ _ _ _ _ (by decide) (by decide) (by decide) (by decide) .nil
 |_,_,_,_,_,_,_,.blk n s r m m1 p A d w h=>.nd _ _ _ _ _ (by decide) (by decide) (by decide) (by decide) h.wd
theorem CoL.wd:∀{r:List Tr} {m:VM} {p:Nat} {m1:VM} {A:CoT} {d:Int} {w:Bool},CoL r m p m1 A d w->WdL r w
 |_,_,_,_,_,_,_,.nil m p=>.nil
 |_,_,_,_,_,_,_,.cons t r m m1 m2 p A B d d' w w' h h2=>.cons _ _ _ _ h.wd h2.wd
end
theorem ho3:∀(q:Nat) (t:Tr) (nd:n9) (b:Bool),Wd t b->Rep t nd->siz t<q->(siz t:Int)<BG->Z2 (j2 q (nd.1,nd.2.1,nd.2.2.1,nd.2.2.2.1,nd.2.2.2.2)) (λz=>z=b):=by
 intro q
 induction q with
 |zero=>intro t nd b hw hr hq;omega
 |succ q ih=>
  rintro⟨k,n,s,l⟩ ⟨k',n',s',m',f⟩ b hw hr hq hp;simp only[Rep]at hr;obtain⟨rfl,rfl,rfl,rfl,hlk,hO,hk⟩:=hr;have hBG:BG=1000000000:=rfl;simp only[siz]at hq hp;have hll:=gG l;rw[j2];rw[_root_.if_pos hO];unfold cu6 U9;dsimp only
  have key:∀(r:List Tr) (i qq:Nat) (b:Bool),WdL r b->i+r.length=l.length->n5 r f i->i9 r<=i9 l->r.length<qq->
   Z2 (dq2 (dW q) (j2 q) qq (k',n',s',l.length,opK f,opN f,opS f,opM f,opF f) (i:Int)) (λg=>Sum.elim (λ_=>true=b) (λ_=>false=b) g):=by
   intro r
   induction r with
   |nil=>
    intro i qq b hb hi hrr hs hqq;cases hb;obtain⟨qq,rfl⟩:∃k,qq=k+1:=⟨qq-1,by simp at hqq;omega⟩;refine i6 ?_;dsimp only[vA,U9];simp only[List.length_nil,Nat.add_zero]at hi;exact BE (by rw[decide_eq_true_eq];omega) (BC rfl)
   |cons t r ihr=>
    intro i qq b hb hi hrr hs hqq;cases hb with
    |cons _ _ b c h1 h2=>
     obtain⟨qq,rfl⟩:∃k,qq=k+1:=⟨qq-1,by simp at hqq;omega⟩;simp only[n5]at hrr;simp only[i9]at hs;simp only[List.length_cons]at hi hqq;refine i6 ?_;dsimp only[vA,U9];refine BD (by rw[decide_eq_true_eq];omega) (BD (by omega) ?_);rw[Int.toNat_natCast];refine BB (ih t (o6 f i) b h1 hrr.1 (by omega) (by omega)) λa ha=>?_;subst ha;rw[o7 (by omega)];cases a with
     |true=>exact BD rfl (BC (by simp))
     |false=>
      refine BE (by decide) (BC ?_);rw[Bool.false_or];exact ihr (i+1) qq c h2 (by omega) hrr.2 (by omega) (by omega)
  cases hw with
  |nd _ _ _ _ _ h5 h6 h9 h10 h=>
   refine BE (by simpa using h5) (BE (by simpa using h6) (BE (by simpa using h9) (BE (by simpa using h10) ?_)));refine BB (key l 0 q b h (by omega) hk (Nat.le_refl _) (by omega)) λz hz=>?_;rcases z with z|z
   ·exact BC hz
   ·exact BC hz
  |w5 _ v _ u h=>
   simp only[n5]at hk;obtain⟨e1,e2⟩:=fO hk.1;refine BD rfl (BD (by simp) (BB (oB q h e1 e2) λy hy=>?_));subst hy;exact BC rfl
  |w6 _ v _ u c h=>
   simp only[n5]at hk;obtain⟨e1,e2⟩:=fO hk.2.1;refine BE (by decide) (BD rfl (BD (by simp) (BB (oB q h e1 e2) λy hy=>?_)));subst hy;exact BC rfl
  |w9 _ v _ u h=>
   simp only[n5]at hk;obtain⟨e1,e2⟩:=fO hk.1
   iterate 2 refine BE (by decide) ?_
   refine BD rfl (BD (by simp) (BB (oB q h e1 e2) λy hy=>?_));subst hy;exact BC rfl
  |w10 _ v _ u h=>
   simp only[n5]at hk;obtain⟨e1,e2⟩:=fO hk.1
   iterate 3 refine BE (by decide) ?_
   refine BD rfl (BD (by simp) (BB (oB q h e1 e2) λy hy=>?_));subst hy;exact BC rfl
theorem gw2(q:Nat){P:List ByteArray}{nm:ByteArray}{np:Nat}{pn pt:Nat->ByteArray}{t:Tr}{nd:n9}(hP:Y5 P np pn)(hr:Rep t nd)(hq:siz t<q)(hq2:P.length+1<q)(hp:(P.length:Int)+siz t<BG):
 Z2 (ff1 q (nm,np,pn,pt,nd.1,nd.2.1,nd.2.2.1,nd.2.2.2.1,nd.2.2.2.2)) (λg=>Sum.elim (λ_=>P++nam t=[]) (λz=>Y5 (P++nam t) z.1 z.2) g):=by
 obtain⟨rfl,hP⟩:=hP;have hBG:BG=1000000000:=rfl;have hnl:=ad6 t;have hsp:=aJ t;unfold ff1 de1;dsimp only
 have key:∀(r i qq:Nat) (vs:Nat->ByteArray),i+r=P.length->r<qq->Y5 (P.take i) i vs->
  Z2 (yZ (pX q) qq (nm,P.length,pn,pt,nd.1,nd.2.1,nd.2.2.1,nd.2.2.2.1,nd.2.2.2.2) (.inr (i,(i:Int),vs))) (λg=>Sum.elim (λ_=>False) (λz=>Y5 P z.1 z.2) g):=by
  intro r
  induction r with
  |zero=>
   intro i qq vs hi hqq hv;obtain⟨qq,rfl⟩:∃k,qq=k+1:=⟨qq-1,by omega⟩;refine i6 ?_;dsimp only[Sum.elim_inr,rQ,U3];refine BE (by rw[decide_eq_true_eq];omega) (BC ?_);rw[List.take_of_length_le (by omega)]at hv;exact hv
  |succ r ih=>
   intro i qq vs hi hqq hv;obtain⟨qq,rfl⟩:∃k,qq=k+1:=⟨qq-1,by omega⟩;refine i6 ?_;dsimp only[Sum.elim_inr,rQ,U3];refine BD (by rw[decide_eq_true_eq];omega) (BD (by omega) ?_);refine BD ⟨by unfold b6;omega,by unfold maxLen;omega,Nat.le_refl _⟩ (BC ?_);rw[o7 (by omega),Int.toNat_natCast];refine ih (i+1) qq _ (by omega) (by omega) ⟨by rw[List.length_take];omega,λj b hj=>?_⟩;rw[List.getElem?_take]at hj;by_cases hji:j<i
   ·show(if j<i then _ else _)=_;rw[if_pos hji];rw[if_pos (by omega)]at hj;exact hv.2 j b (by rw[List.getElem?_take,if_pos hji];exact hj)
   ·show(if j<i then _ else _)=_;rw[if_neg hji];by_cases hj2:j<i+1
    ·rw[if_pos hj2]at hj;have:j=i:=by omega
     subst this;exact hP j b hj
    ·rw[if_neg hj2]at hj;cases hj
 have key0:Z2 (yZ (pX q) q (nm,P.length,pn,pt,nd.1,nd.2.1,nd.2.2.1,nd.2.2.2.1,nd.2.2.2.2) (.inl ())) (λg=>Sum.elim (λ_=>P=[]) (λz=>Y5 P z.1 z.2) g):=by
  obtain⟨q',hq'⟩:∃k,q=k+1:=⟨q-1,by omega⟩
  have nx:0<P.length->Z2 (yZ (pX q) q' (nm,P.length,pn,pt,nd.1,nd.2.1,nd.2.2.1,nd.2.2.2.1,nd.2.2.2.2) (.inr (1,(1:Int),λ_=>pn 0))) (λg=>Sum.elim (λ_=>P=[]) (λz=>Y5 P z.1 z.2) g):=λhl=>by
   refine(key (P.length-1) 1 q' (λ_=>pn 0) (by omega) (by omega) ⟨by rw[List.length_take];omega,λj b hj=>?_⟩).mono λz hz=>?_
   ·rw[List.getElem?_take]at hj;by_cases hj1:j<1
    ·rw[if_pos hj1]at hj;have:j=0:=by omega
     subst this;exact hP 0 b hj
    ·rw[if_neg hj1]at hj;cases hj
   ·rcases z with z|z
    ·exact hz.elim
    ·exact hz
  unfold yZ;rw[show lpG _ q=lpG _ (q'+1)from congrArg _ hq'];refine i6 ?_;dsimp only[Sum.elim_inl,zA];refine BF (λh=>?_) λh=>?_
  ·rw[decide_eq_true_eq]at h;exact BD ⟨Int.le_refl 0,h⟩ (BC (nx (by omega)))
  ·rw[decide_eq_true_eq]at h;exact BC (List.eq_nil_of_length_eq_zero (by omega))
 refine BB key0 λa ha=>?_;rcases a with a|a
 ·have ha:P=[]:=ha;subst ha;refine BB (fj3 q t nd hr hq (by omega)) λc hc=>?_;have hcl:=hc.1;refine BF (λh0=>BC ?_) λh0=>?_
  ·show[]++nam t=[];rw[List.nil_append];exact List.eq_nil_of_length_eq_zero (by omega)
  ·refine BD ⟨by unfold b6;omega,by unfold maxLen;omega⟩ (BC ?_);exact hc
 ·have ha:Y5 P a.1 a.2:=ha;refine BB (fj3 q t nd hr hq (by omega)) λc hc=>?_;have hcl:=hc.1;have hal:=ha.1;exact BD ⟨by unfold b6;omega,by unfold maxLen;omega,Nat.le_refl _⟩ (BC (ha.join hc))
mutual
def neT:Tr->Int
 | .node k n s l=>neL k s l 0 (if 15<=k then 1 else 0)
def neL(k:Int)(s:ByteArray):List Tr->Nat->Int->Int
 | [],_,r=>r
 |t::l,j,r=>neL k s l (j+1) (max r (if k=20/\j=1/\¬(s==zI)=true/\¬(s==sOr) then neT t+1 else neT t))
end
mutual
theorem cu5:∀t:Tr,0<=neT t/\neT t<=siz t
 | .node k n s l=>by
  rw[neT,siz];have:=fh1 k s l 0 (if 15<=k then 1 else 0) 1 (by split<;>omega) (by split<;>omega) (by omega);omega
theorem fh1(k:Int)(s:ByteArray):∀(l:List Tr) (j:Nat) (r b:Int),0<=r->r<=b->1<=b->0<=neL k s l j r/\neL k s l j r<=b+i9 l
 | [],j,r,b,h,h2,h3=>by rw[neL,i9];omega
 |t::l,j,r,b,h,h2,h3=>by
  rw[neL,i9];have h4:=cu5 t;have:=fh1 k s l (j+1) (max r (if k=20/\j=1/\¬(s==zI)=true/\¬(s==sOr) then neT t+1 else neT t)) (b+siz t) (by split<;>omega) (by split<;>omega) (by have:=aJ t;omega);omega
end
theorem gs3:∀(q:Nat) (t:Tr) (nd:n9),Rep t nd->siz t<q->(siz t:Int)<BG->Z2 (at6 q (nd.1,nd.2.1,nd.2.2.1,nd.2.2.2.1,nd.2.2.2.2)) (λz=>z=neT t):=by
 intro q
 induction q with
 |zero=>intro t nd hr hq;omega
 |succ q ih=>
  rintro⟨k,n,s,l⟩ ⟨k',n',s',m',f⟩ hr hq hp;simp only[Rep]at hr;obtain⟨rfl,rfl,rfl,rfl,hlk,hO,hk⟩:=hr;have hBG:BG=1000000000:=rfl;simp only[siz]at hq hp;have hll:=gG l;rw[at6];rw[_root_.if_pos hO];unfold cs1;dsimp only
  have key:∀(r:List Tr) (i qq:Nat) (a:Int),i+r.length=l.length->n5 r f i->i9 r<=i9 l->r.length<qq->
   Z2 (bx8 (at6 q) qq (k',n',s',l.length,opK f,opN f,opS f,opM f,opF f) (a,(i:Int))) (λg=>g=neL k' s' r i a):=by
   intro r
   induction r with
   |nil=>
    intro i qq a hi hrr hs hqq;obtain⟨qq,rfl⟩:∃k,qq=k+1:=⟨qq-1,by simp at hqq;omega⟩;refine i6 ?_;dsimp only[vU,U9];simp only[List.length_nil,Nat.add_zero]at hi;exact BE (by rw[decide_eq_true_eq];omega) (BC rfl)
   |cons t r ihr=>
    intro i qq a hi hrr hs hqq;obtain⟨qq,rfl⟩:∃k,qq=k+1:=⟨qq-1,by simp at hqq;omega⟩;simp only[n5]at hrr;simp only[i9]at hs;simp only[List.length_cons]at hi hqq;have h4:=cu5 t
    have nx:∀b:Int,b=(if k'=20/\i=1/\¬(s'==zI)=true/\¬(s'==sOr) then neT t+1 else neT t)->Z2 (bx8 (at6 q) qq (k',n',s',l.length,opK f,opN f,opS f,opM f,opF f) (if b>a then b else a,w ((i:Int)+1))) (λg=>g=neL k' s' (t::r) i a):=λb hb=>by
     rw[o7 (by omega),neL,<-hb,show(if b>a then b else a)=max a b by split<;>omega];exact ihr (i+1) qq _ (by omega) hrr.2 (by omega) (by omega)
    refine i6 ?_;dsimp only[vU,U9];refine BD (by rw[decide_eq_true_eq];omega) (BD (by omega) ?_);rw[Int.toNat_natCast];refine BB (ih t (o6 f i) hrr.1 (by omega) (by omega)) λb hb=>?_;subst hb;refine BF (λh1=>?_) λh1=>?_
    ·rw[beq_iff_eq]at h1;refine BF (λh2=>?_) λh2=>?_
     ·rw[beq_iff_eq]at h2;refine BF (λh3=>?_) λh3=>?_
      ·rw[cD]at h3;refine BF (λh4=>?_) λh4=>?_
       ·rw[cD]at h4;rw[dJ (n:=neT t+1) (by unfold inR;omega)];exact BC (nx _ (by rw[if_pos ⟨h1,by omega,by simpa using h3,by simpa using h4⟩]))
       ·rw[cD]at h4;exact BC (nx _ (by rw[if_neg λg=>h4 (by simpa using g.2.2.2)]))
      ·rw[cD]at h3;exact BC (nx _ (by rw[if_neg λg=>h3 (by simpa using g.2.2.1)]))
     ·rw[beq_iff_eq]at h2;exact BC (nx _ (by rw[if_neg λg=>h2 (by omega)]))
    ·rw[beq_iff_eq]at h1;exact BC (nx _ (by rw[if_neg λg=>h1 g.1]))
  rw[neT];refine BF (λh=>?_) λh=>?_
  ·rw[decide_eq_true_eq]at h;rw[if_pos h];exact BB (key l 0 q 1 (by omega) hk (Nat.le_refl _) (by omega)) λz hz=>BC hz
  ·rw[decide_eq_true_eq]at h;rw[if_neg h];exact BB (key l 0 q 0 (by omega) hk (Nat.le_refl _) (by omega)) λz hz=>BC hz
theorem lS{P:ByteArray->Prop}:∀(t:Tr),okX P t->neT t=nE t
 | .node k n s [],h=>by
  simp only[okX]at h;rw[neT,neL,nE,if_pos (by rcases h with h|h|h|h<;>omega)]
 | .node k n s [a],h=>by
  simp only[okX]at h;have:=aO a;rw[neT,neL,neL,nE,lS a h.2.2,if_pos (by omega),if_neg (by omega)];omega
 | .node k n s [a,b],h=>by
  simp only[okX]at h;have:=aO a;have:=aO b;rw[neT,neL,neL,neL,nE,lS a h.2.2.1,lS b h.2.2.2,if_pos (by omega),if_neg (by omega)];by_cases hs:(s==zI)=true\/(s==sOr)=true
  ·rw[if_pos hs,if_neg λg=>hs.elim g.2.2.1 g.2.2.2];omega
  ·rw[if_neg hs,if_pos ⟨h.1,rfl,λg=>hs (.inl g),λg=>hs (.inr g)⟩];omega
 | .node k n s (a::b::c::l),h=>by simp only[okX]at h
def neM:List Tr->Int
 | []=>0
 |t::l=>max (neT t) (neM l)
theorem fz9{k:Int}(s:ByteArray)(hk:k≠20):∀(l:List Tr) (j:Nat) (r:Int),0<=r->neL k s l j r=max r (neM l)
 | [],j,r,h=>by rw[neL,neM];omega
 |t::l,j,r,h=>by
  rw[neL,neM,if_neg λg=>hk g.1,fz9 s hk l (j+1) _ (by have:=cu5 t;omega)];omega
theorem iB{k n:Int}{s:ByteArray}{l:List Tr}(hk:k<15):neT (.node k n s l)=max 0 (neM l):=by
 rw[neT,if_neg (by omega),fz9 s (by omega) l 0 0 (by omega)]
theorem br4(v:Int)(u:ByteArray):neT (at9 v u)=1:=by rw[neT,neL,if_pos (by decide)]
mutual
theorem CoS.ne:∀{t:Tr} {m:VM} {p:Nat} {m1:VM} {A:CoT} {d:Int} {w:Bool},CoS t m p m1 A d w->d<=neT t/\neT t<=max d 1
 |_,_,_,_,_,_,_,.let_ n s a m p ha h=>by have:=aO a;rw[iB (by decide),neM,neM,lS a ha];omega
 |_,_,_,_,_,_,_,.set_ n s a m p ha h=>by have:=aO a;rw[iB (by decide),neM,neM,lS a ha];omega
 |_,_,_,_,_,_,_,.ifE n s c a n' s' m m1 p A d w hc _ h=>by have:=aO c;have:=h.ne;have h3:neT (.node 14 n' s' [])=0:=(iB (by decide)).trans rfl;rw[iB (by decide),neM,neM,neM,neM,lS c hc,h3];omega
 |_,_,_,_,_,_,_,.ifB n s c a n' s' x r m m1 m2 p A B d d' w w' hc _ h h2=>by have:=aO c;have:=h.ne;have:=h2.ne;rw[iB (by decide),neM,neM,neM,neM,lS c hc];omega
 |_,_,_,_,_,_,_,.rep n s a m m1 p A d w _ _ _ h=>by have:=h.ne;have:=h.len;rw[iB (by decide),neM,neM];omega
 |_,_,_,_,_,_,_,.wait n s v u m p h=>by rw[iB (by decide),neM,neM,br4];omega
 |_,_,_,_,_,_,_,.await n s c v u m p hc h=>by have:=aO c;rw[iB (by decide),neM,neM,neM,br4,lS c hc];omega
 |_,_,_,_,_,_,_,.req n s a m p ha=>by have:=aO a;rw[iB (by decide),neM,neM,lS a ha];omega
 |_,_,_,_,_,_,_,.point n s a m p ha=>by have:=aO a;rw[iB (by decide),neM,neM,lS a ha];omega
 |_,_,_,_,_,_,_,.use n s v u m p _ _ h=>by rw[iB (by decide),neM,neM,br4];omega
 |_,_,_,_,_,_,_,.send n s v u m p _ _ h=>by rw[iB (by decide),neM,neM,br4];omega
 |_,_,_,_,_,_,_,.keep n s v u m p _=>by rw[iB (by decide),neM,neM,br4];omega
 |_,_,_,_,_,_,_,.emit n s m p _ _=>by rw[iB (by decide),neM];omega
 |_,_,_,_,_,_,_,.abort n s m p _ _=>by rw[iB (by decide),neM];omega
 |_,_,_,_,_,_,_,.blk n s r m m1 p A d w h=>by have:=h.ne;have:=h.len;rw[iB (by decide)];omega
theorem CoL.ne:∀{r:List Tr} {m:VM} {p:Nat} {m1:VM} {A:CoT} {d:Int} {w:Bool},CoL r m p m1 A d w->d<=neM r/\neM r<=max d 1
 |_,_,_,_,_,_,_,.nil m p=>by rw[neM];omega
 |_,_,_,_,_,_,_,.cons t r m m1 m2 p A B d d' w w' h h2=>by have:=h.ne;have:=h2.ne;rw[neM];omega
end
end
end Go.Proofs.YtbmbhcheonjigaaGreatDoor.Ty
namespace Go.Proofs.YtbmbhcheonjigaaGreatDoor
section
open Go Go.Am Go.Proofs
noncomputable def ex9(q:Nat)(x:j3):Option bA:=(ff1 q x).map (Sum.elim (λz=>(0,λ_=>⟨#[]⟩)) (λz=>z))
theorem fx3(q:Nat):Lw E5 101 oT ct9 (ex9 q):=λx z h=>by
 obtain⟨y,hy,rfl⟩:=Option.map_eq_some_iff.1 h
 exact by
  rcases y with y|y
  ·exact fi4 (du5 q x _ hy)
  ·exact dn0 (du5 q x _ hy)
abbrev cH:Type:=Int⊕(ByteArray×Int×Int×Nat×(Nat->Int)×(Nat->Int))
def an4:cH->Z3:=Sum.elim (λz:Int=>Z3.ret (V.tup [V.agg [st {data:=#[]},i64 0,i64 0,j0],i64 z]) []) (λz:ByteArray×Int×Int×Nat×(Nat->Int)×(Nat->Int)=>Z3.ret (V.tup [V.agg [st (z.1),i64 (z.2.1),i64 (z.2.2.1),V.ro 2 (z.p3) λj=>[i64 (z.p4 j),i64 (z.q5 j)]],i64 0]) [])
abbrev ak0{β:Type}(A:g8->Option Bool)(B:j3->Option bA)(C:bH->Option f0)(D:iQ->Option f0)(E:g8->Option Int)(x:j3)(dn:cH->Option β):Option β:=
 U9 x λF G H I J K L M N=>(A (x.2.2.2.2)).bind λa=>if a then dn (.inl (5))else(B x).bind λb=>(C ((J,K,L,M,N,b.1,b.2,0))).bind λc=>(D ((c.1,c.2.1,c.2.2,28,0))).bind λd=>if decide ((d.1:Int)>300) then dn (.inl (2))else(E (x.2.2.2.2)).bind λe=>if decide (e>16) then dn (.inl (2))else dn (.inr ((F,(G:Int),(b.1:Int),d)))
noncomputable def au1(q:Nat)(x:j3):Option cH:=ak0 (j2 q) (ex9 q) (qK q) (nQ q) (at6 q) x some
theorem do1(q:Nat):Lw E5 44 oT an4 (au1 q):=so hW5 hX5 (kc cJ (hb9 q) (kc at0 (fx3 q) (kc vM (fz5 q) (kc au4 (uA q) (kc cJ (gh4 q) kn))))) λc β=>ak0 (β:=β) c.1 c.2.1 c.2.2.1 c.2.2.2.1 c.2.2.2.2.1
end
end Go.Proofs.YtbmbhcheonjigaaGreatDoor
namespace Go.Proofs.YtbmbhcheonjigaaGreatDoor.Ty
section
open Go Go.Am Go.Proofs Go.Proofs.YtbmbhcheonjigaaGreatDoor
open Go.Proofs.Lx (Tr)
def eF(A:CoT)(d:Int)(w:Bool):Int:=if w then 5 else if 300<A.length+1 then 2 else if 16<d then 2 else 0
def RcP(nm:ByteArray)(np:Nat)(vn:Nat)(A:CoT)(d:Int)(w:Bool):cH->Prop:=Sum.elim (λe=>e≠0/\e=eF A d w) (λz=>eF A d w=0/\z.1=nm/\z.2.1=np/\z.2.2.1=vn/\Y3 (A++[(28,0)]) z.2.2.2)
theorem gk0(q:Nat){P:List ByteArray}{nm:ByteArray}{np:Nat}{pn pt:Nat->ByteArray}{t:Tr}{nd:n9}(hP:Y5 P np pn)(hr:Rep t nd)(hq:siz t<q)(hq2:P.length+1<q)(hp:(P.length:Int)+siz t<BG):
 Z2 (ex9 q (nm,np,pn,pt,nd.1,nd.2.1,nd.2.2.1,nd.2.2.2.1,nd.2.2.2.2)) (λz=>Y5 (P++nam t) z.1 z.2):=by
 refine gy6 ((gw2 q hP hr hq hq2 hp).mono λz hz=>?_);rcases z with z|z
 ·have hz:P++nam t=[]:=hz;rw[hz];exact⟨rfl,λj b hj=>by simp at hj⟩
 ·exact hz
theorem eq4(q:Nat){P:List ByteArray}{nm:ByteArray}{np:Nat}{pn pt:Nat->ByteArray}{t:Tr}{nd:n9}{m m1:VM}{A:CoT}{d:Int}{w0:Bool}(hP:Y5 P np pn)(hm:Y9 m P)(hc:CoS t m 0 m1 A d w0)(hr:Rep t nd)(hq:2*siz t+P.length+12<q)(hp:(P.length:Int)+4*siz t+4<BG):
 Z2 (au1 q (nm,np,pn,pt,nd.1,nd.2.1,nd.2.2.1,nd.2.2.2.1,nd.2.2.2.2)) (RcP nm np m1.1 A d w0):=by
 have hBG:BG=1000000000:=rfl;have hsp:=aJ t;have hnl:=ad6 t;have hlen:=hc.len;have hnum:=hc.num hm;have hne:=hc.ne;unfold au1 ak0 U9;dsimp only;refine BB (ho3 q t nd w0 hc.wd hr (by omega) (by omega)) λa ha=>?_;subst ha;refine BF (λha=>BC ?_) λha=>?_
 ·exact⟨by decide,by unfold eF;rw[if_pos ha]⟩
 refine BB (gk0 q hP hr (by omega) (by omega) (by omega)) λb hb=>?_;have hbl:=hb.1;have hl:(P++nam t).length=P.length+(nam t).length:=by simp
 refine BB (hb5 (by omega) hb q hc hnum.ag nd hr (by omega) (by omega)) λc hcc=>?_;refine BB (dU q 28 0 hcc (by omega)) λz hz=>?_;have hzl:=hz.1;have hal:(A++[((28,0):Int×Int)]).length=A.length+1:=by simp
 refine BF (λh1=>BC ?_) λh1=>?_
 ·rw[decide_eq_true_eq]at h1;exact⟨by decide,by unfold eF;rw[if_neg ha,if_pos (by omega)]⟩
 rw[decide_eq_true_eq]at h1;refine BB (gs3 q t nd hr (by omega) (by omega)) λe he=>?_;subst he;refine BF (λh2=>BC ?_) λh2=>BC ?_
 ·rw[decide_eq_true_eq]at h2;exact⟨by decide,by unfold eF;rw[if_neg ha,if_neg (by omega),if_pos (by omega)]⟩
 ·rw[decide_eq_true_eq]at h2;exact⟨by unfold eF;rw[if_neg ha,if_neg (by omega),if_neg (by omega)],rfl,rfl,by show((b.1:Nat):Int)=_;rw[hbl,hnum.1],hz⟩
end
end Go.Proofs.YtbmbhcheonjigaaGreatDoor.Ty
namespace Go.Proofs.YtbmbhcheonjigaaGreatDoor
section
open Go Go.Am Go.Proofs
noncomputable def eg4(q:Nat)(x:b9):Option b8:=bl5 (node q) q x
theorem fr3(q:Nat):Lw E5 253 s7 r8 (eg4 q):=bz1 (gs0 q) q
abbrev cq7:Type:=Int×ByteArray×Nat×(Nat->Int)×(Nat->Int)×(Nat->ByteArray)×(Nat->Nat)×(Nat->Nat->List V)×Nat×(Nat->Int)×(Nat->Int)×Nat×(ByteArray->Bool)×(ByteArray->Int)×Int×Int×Int
def fg5:AR cq7:=λx=>([.ptr 0 0,.agg [i64 14,i64 x.1,st x.2.1,.ro 4 x.2.2.1 (λj=>[i64 (x.p3 j),i64 (x.p4 j),st (x.p5 j),.ro 4 (x.p6 j) (x.p7 j)])]],[some (.blk [.sl 2 2 0 x.p8,.mp 1,i64 x.p14,i64 x.p15,i64 x.q16]),some (.smap x.p11 x.p12 (λj=>i64 (x.p13 j))),some (.row 49 2 x.p8 (λj=>[i64 (x.p9 j),i64 (x.p10 j)]))])
abbrev cv1{β:Type}(A:b9->Option b8)(x:cq7)(dn:b8->Option β):Option β:=
 (A ((14,x))).bind λa=>dn a
noncomputable def gj6(q:Nat)(x:cq7):Option b8:=cv1 (eg4 q) x some
theorem ga2(q:Nat):Lw E5 98 fg5 r8 (gj6 q):=so hW5 hX5 (kc x9 (fr3 q) (kb (iR hW5 hX5 20).1)) λc β=>cv1 (β:=β) c.1
abbrev vQ:Type:=Int×ByteArray×Nat×(Nat->List V)×Nat×(ByteArray->Bool)×(ByteArray->Int)×Int×Int×Int
def df6:AR vQ:=λx=>([.ptr 0 0,.agg [i64 14,i64 x.1,st x.2.1,.ro 4 x.2.2.1 x.p3]],[some (.blk [j0,.mp 1,i64 x.p7,i64 x.p8,i64 x.q9]),some (.smap x.p4 x.p5 (λj=>i64 (x.p6 j)))])
theorem gt2:VI df6:=vd λt=>((vI ((vAg (ag t 1)).getD 1 .junk)),(vS ((vAg (ag t 1)).getD 2 .junk)),(r7 ((vAg (ag t 1)).getD 3 .junk)),(aW ((vAg (ag t 1)).getD 3 .junk)),(smN (co t 1)),(smH (co t 1)),(λj=>vI (smF (co t 1) j)),vI (cc t 0 2),vI (cc t 0 3),vI (cc t 0 4))
open Classical in
noncomputable def cn5(q:Nat)(x:vQ):Option b8:=if hJ (x.2.2.2.1)then gj6 q (x.1,x.2.1,x.2.2.1,opK x.2.2.2.1,opN x.2.2.2.1,opS x.2.2.2.1,opM x.2.2.2.1,opF x.2.2.2.1,0,λ_=>0,λ_=>0,x.2.2.2.2)else none
theorem gr7(q:Nat):Lw E5 98 df6 r8 (cn5 q):=by
 intro x z h;unfold cn5 at h;split at h
 ·rename_i hO;have this:=ga2 q _ z h;unfold fg5 at this;unfold df6;simp only at this⊢;rw[cY hO]at this;refine SC.virtB 0 [.sl 2 2 0 0,.mp 1,i64 x.2.2.2.2.2.2.2.1,i64 x.2.2.2.2.2.2.2.2.1,i64 x.2.2.2.2.2.2.2.2.2] 49 2 (λj=>[i64 0,i64 0]) (by decide) this rfl (λβ S w us b hb hd=>?_) (by show 1<=2;decide) (by show 1<=1;decide);simp only[d9]at hd⊢;obtain⟨u1,r1,rfl,h1,u2,r2,rfl,h2,u3,r3,rfl,h3,u4,r4,rfl,h4,u5,r5,rfl,h5,rfl⟩:=hd;exact⟨u1,_,rfl,bc3 (by show 2<3;decide) hb h1,u2,_,rfl,h2,u3,_,rfl,h3,u4,_,rfl,h4,u5,_,rfl,h5,rfl⟩
 ·cases h
abbrev cZ:Type:=ByteArray×Nat×(Nat->ByteArray)×(Nat->ByteArray)×Int×ByteArray×Nat×(Nat->List V)
def eb3:AR cZ:=λx=>([.agg [st x.1,.ro 2 x.2.1 (λj=>[st (x.2.2.1 j),st (x.p3 j)]),i64 14,i64 x.p4,st x.p5,.ro 4 x.p6 x.q7]],[])
def ed9:cH->Z3:=Sum.elim (λz:Int=>Z3.ret (V.tup [V.agg [st {data:=#[]},i64 0,i64 0,j0],i64 z]) []) (λz:ByteArray×Int×Int×Nat×(Nat->Int)×(Nat->Int)=>Z3.ret (V.tup [V.agg [st (z.1),i64 (z.2.1),i64 (z.2.2.1),V.sl 0 2 0 (z.p3)],i64 0]) [some (Z1.row 49 2 (z.p3) λj=>[i64 (z.p4 j),i64 (z.q5 j)])])
abbrev fY:Type:=Int×Nat×(ByteArray->Bool)×(ByteArray->Int)
abbrev kS:Type:=Nat×(ByteArray->Bool)×(ByteArray->Int)
def bq7(x:cZ)(y:fY):St:={fr:=[V.junk,V.ptr 0 0,V.ptr 1 0,V.junk,V.ptr 2 0]++jk 6++[V.ro 2 (x.2.1) λj=>[st (x.2.2.1 j),st (x.p3 j)],i64 (x.2.1:Int),i64 (y.1)]++jk 59,H:=hp [some (Z1.blk [st (x.1),V.ro 2 (x.2.1) λj=>[st (x.2.2.1 j),st (x.p3 j)],i64 14,i64 (x.p4),st (x.p5),V.ro 4 (x.p6) (x.q7)]),some (Z1.blk [st {data:=#[]},i64 0,i64 0,j0]),some (Z1.blk [j0,V.mp 3,i64 0,i64 0,i64 0]),some (Z1.smap (y.2.1) (y.2.2.1) λ(j:ByteArray)=>i64 (y.q3 j))],nx:=4,rt:=0,me:=43}
theorem bs4(x:cZ):VL (bq7 x):=vl λs=>((vI (fv s 13)),(smN (s.H 3)),(smH (s.H 3)),(λj=>(vI ((smF (s.H 3)) j))))
def cd2(x:cZ):kS->Ex×St:=(λz=>(Ex.exit 0,{fr:=[V.junk,V.ptr 0 0,V.ptr 1 0,V.junk,V.ptr 2 0]++jk 68,H:=hp [some (Z1.blk [st (x.1),V.ro 2 (x.2.1) λj=>[st (x.2.2.1 j),st (x.p3 j)],i64 14,i64 (x.p4),st (x.p5),V.ro 4 (x.p6) (x.q7)]),some (Z1.blk [st {data:=#[]},i64 0,i64 0,j0]),some (Z1.blk [j0,V.mp 3,i64 0,i64 0,i64 0]),some (Z1.smap (z.1) (z.2.1) λ(j:ByteArray)=>i64 (z.2.2 j))],nx:=4,rt:=0,me:=43}))
abbrev jU{β:Type}(A:vQ->Option b8)(B:bR->Option x5)(x:cZ)(y:fY)(nx:fY->Option β)(dn:kS->Option β):Option β:=
 U4 x λA B C D=>U4 y λA D E F=>if decide (A< (B:Int)) then if 0<=A/\A< (B:Int)then nx ((w (A+1),if E (C (Int.toNat (A))) then D else D+1,λ(q:ByteArray)=>q==C (Int.toNat (A))||E q,λ(j:ByteArray)=>if(j==C (Int.toNat (A))) then A else F j))else none else dn (y.2)
noncomputable def ao5(A:vQ->Option b8)(B:bR->Option x5)(q:Nat)(x:cZ):fY->Option kS:=lpG (λy=>jU A B x y (λy=>some (.inl y)) (λz=>some (.inr z))) q
abbrev aa8{β:Type}(A:vQ->Option b8)(B:bR->Option x5)(C:fY->Option kS)(x:cZ)(dn:cH->Option β):Option β:=
 (C ((0,0,λ(x:ByteArray)=>false,λ(j:ByteArray)=>0))).bind λa=>(A ((x.2.2.2.2.1,x.2.2.2.2.2.1,x.2.2.2.2.2.2.1,x.2.2.2.2.2.2.2,a.1,a.2.1,a.2.2,0,0,0))).bind λb=>(B ((28,0,0,b))).bind λc=>if(c.2.2.2.2.2.2.2.2.2 !=0) then dn (.inl (c.2.2.2.2.2.2.2.2.2))else if decide ((c.2.1:Int)>300) then dn (.inl (2))else if decide (c.2.2.2.2.2.2.2.2.1>16) then dn (.inl (2))else dn (.inr ((x.1,(x.2.1:Int),(c.2.2.2.2.1:Int),c.2.1,c.2.2.1,c.2.2.2.1)))
noncomputable def ab6(q:Nat)(x:cZ):Option cH:=aa8 (cn5 q) (emit q) (ao5 (cn5 q) (emit q) q x) x some
theorem di9(q:Nat):Lw E5 43 eb3 ed9 (ab6 q):=have K:=(kc gt2 (gr7 q) (kc fG (cI q) kn));sl hW5 hX5 K (λx=>(lc 0 (bs4 x) (lp hX5 (cd2 x) 43 0 14358 [(0,22)] 12 K ln q λc l β=>jU (β:=β) c.1 c.2.1 x) ln)) λc l β=>aa8 (β:=β) c.1 c.2.1 l.1
end
end Go.Proofs.YtbmbhcheonjigaaGreatDoor
namespace Go.Proofs.YtbmbhcheonjigaaGreatDoor.Ty
section
open Go Go.Am Go.Proofs Go.Proofs.YtbmbhcheonjigaaGreatDoor
open Go.Proofs.Lx (Tr)
def putL:VM->List ByteArray->VM
 |m,[]=>m
 |m,b::r=>putL (cf2 m b) r
def bh0:VM->List ByteArray->Prop
 |_,[]=>True
 |m,b::r=>m.2 b=none/\bh0 (cf2 m b) r
theorem Y9.putL:∀{r:List ByteArray} {m:VM} {l:List ByteArray},Y9 m l->bh0 m r->Y9 (putL m r) (l++r)
 | [],m,l,h,g=>by rw[List.append_nil];exact h
 |b::r,m,l,h,g=>by
  have:=Y9.putL (h.put g.1) g.2;rw[List.append_assoc]at this;exact this
abbrev m0V:VM:=(0,λ_=>none)
theorem num0:Y9 m0V []:=⟨rfl,λs=>⟨λ_=>rfl,λv e=>nomatch e⟩⟩
theorem hj6(q:Nat)(x:vQ):cn5 q x=node (q+1) (14,x.1,x.2.1,x.2.2.1,x.2.2.2.1,0,(λ_=>0),(λ_=>0),x.2.2.2.2):=by
 unfold cn5 gj6 cv1 eg4;rw[node];rfl
def MR(m:VM)(y:Nat×(ByteArray->Bool)×(ByteArray->Int)):Prop:=y.1=m.1/\(∀s,y.2.1 s=(m.2 s).isSome)/\∀s v,m.2 s=some v->y.2.2 s=(v:Int)
theorem gg6{x:cZ}{P:List ByteArray}{c:vQ->Option b8}{e:bR->Option x5}(hx:x.2.1=P.length)(hP:∀j b,P[j]? =some b->x.2.2.1 j=b)(hl:(P.length:Int)<BG):
 ∀(r:List ByteArray) (i q:Nat) (m:VM) (y:Nat×(ByteArray->Bool)×(ByteArray->Int)),P.drop i=r->i<=P.length->r.length<q->m.1=i->MR m y->bh0 m r->Z2 (ao5 c e q x ((i:Int),y)) (MR (putL m r)):=by
 have hBG:BG=1000000000:=rfl;intro r
 induction r with
 |nil=>
  intro i q m y hr hi hq hm hy hf;obtain⟨q,rfl⟩:∃k,q=k+1:=⟨q-1,by simp at hq;omega⟩;have:=congrArg List.length hr;simp at this;refine i6 ?_;dsimp only[jU,U4];exact BE (by rw[decide_eq_true_eq,hx];omega) (BC hy)
 |cons b r ih=>
  intro i q m y hr hi hq hm hy hf;obtain⟨q,rfl⟩:∃k,q=k+1:=⟨q-1,by simp at hq;omega⟩;have hlen:=congrArg List.length hr;simp at hlen
  have hb:P[i]? =some b:=by
   have:=congrArg (λl=>l[0]?) hr;simpa using this
  obtain⟨y1,y2,y3⟩:=hy;refine i6 ?_;dsimp only[jU,U4];refine BD (by rw[decide_eq_true_eq,hx];omega) (BD (by rw[hx];omega) (BC ?_));rw[o7 (by omega),Int.toNat_natCast,hP i b hb];refine ih (i+1) q (cf2 m b) _ (by rw[<-List.drop_drop,hr];rfl) (by omega) (by simp at hq;omega) (by show m.1+1=_;omega) ⟨?_,λs=>?_,λs v hs=>?_⟩ hf.2
  ·show(if y.2.1 b then y.1 else y.1+1)=m.1+1;rw[y2 b,hf.1,if_neg (by decide),y1]
  ·show(s==b||y.2.1 s)=(if s=b then some m.1 else m.2 s).isSome;rw[y2 s];by_cases hs:s=b
   ·rw[if_pos hs,ba_eq.2 hs];rfl
   ·rw[if_neg hs,show(s==b)=false from Bool.eq_false_iff.2 λg=>hs (ba_eq.1 g),Bool.false_or]
  ·have hs:(if s=b then some m.1 else m.2 s)=some v:=hs;show(if(s==b) then(i:Int)else y.2.2 s)=_;by_cases hsb:s=b
   ·rw[if_pos hsb]at hs;cases hs;rw[if_pos (ba_eq.2 hsb),hm]
   ·rw[if_neg hsb]at hs;rw[if_neg λg=>hsb (ba_eq.1 g)];exact y3 s v hs
theorem dz3(q:Nat){P:List ByteArray}{nm:ByteArray}{np:Nat}{pn pt:Nat->ByteArray}{t:Tr}{nd:n9}{m1:VM}{A:CoT}{d:Int}{w0:Bool}(hP:Y5 P np pn)(hF:bh0 m0V P)(hc:CoS t (putL m0V P) 0 m1 A d w0)(hk:nd.1=14)(hr:Rep t nd)(hq:siz t+P.length+2<q)(hp:(P.length:Int)+4*siz t+4<BG):
 Z2 (ab6 q (nm,np,pn,pt,nd.2.1,nd.2.2.1,nd.2.2.2.1,nd.2.2.2.2)) (RcP nm np m1.1 A d w0):=by
 obtain⟨rfl,hP⟩:=hP;have hBG:BG=1000000000:=rfl;have hlen:=hc.len;have hsp:=aJ t;unfold ab6 aa8;refine BB (gg6 (x:=(nm,P.length,pn,pt,nd.2.1,nd.2.2.1,nd.2.2.2.1,nd.2.2.2.2)) rfl hP (by omega) P 0 q m0V (0,(λ_=>false),(λ_=>0)) rfl (Nat.zero_le _) (by omega) rfl ⟨rfl,λs=>rfl,λs v h=>nomatch h⟩ hF) λa ha=>?_;obtain⟨a1,a2,a3⟩:=ha;dsimp only;refine BB (P:=Cp ([]++A) m1.1 m1.2 0 (max 0 d) (erW w0 0)) ?_ λb hb=>?_
 ·rw[hj6];have:=ho6 (q+1) hc nd (0,(λ_=>0),(λ_=>0),a.1,a.2.1,a.2.2,0,0,0) [] 0 0 hr (by omega) rfl (by simp;omega) (Int.le_refl 0) ⟨rfl,λj p hj=>by simp at hj,a1,a2,a3,rfl,rfl,rfl⟩;rw[hk]at this;exact this
 refine BB (bV q 28 0 0 hb (by simp;omega) (by omega)) λc hcc=>?_;obtain⟨_,hz⟩:=hcc;have he:=hz.e;have hn:=hz.n;have hd:=hz.dm;have hmn:=hz.mn;have hcd:=hz.c;simp only[List.nil_append]at hn hcd;have hal:(A++[((28,0):Int×Int)]).length=A.length+1:=by simp
 refine BF (λh=>BC ?_) λh=>?_
 ·have h:¬c.2.2.2.2.2.2.2.2.2=0:=by simpa using h
  rw[he]at h⊢;refine⟨h,?_⟩;unfold erW at h⊢;unfold eF;cases w0 with
  |true=>rfl
  |false=>exact absurd rfl h
 have h:c.2.2.2.2.2.2.2.2.2=0:=by simpa using h
 rw[he]at h;have hw:¬w0=true:=λg=>by rw[g]at h;cases h
 refine BF (λh1=>BC ?_) λh1=>?_
 ·rw[decide_eq_true_eq]at h1;exact⟨by decide,by unfold eF;rw[if_neg hw,if_pos (by omega)]⟩
 rw[decide_eq_true_eq]at h1;refine BF (λh2=>BC ?_) λh2=>BC ?_
 ·rw[decide_eq_true_eq]at h2;exact⟨by decide,by unfold eF;rw[if_neg hw,if_neg (by omega),if_pos (by omega)]⟩
 ·rw[decide_eq_true_eq]at h2;exact⟨by unfold eF;rw[if_neg hw,if_neg (by omega),if_neg (by omega)],rfl,rfl,by show((c.2.2.2.2.1:Nat):Int)=_;rw[hmn],hn,hcd⟩
theorem gl8(u:ByteArray)(h:(n8 u).2.2.2.2.2.2=true):1<=(n8 u).2.2.2.2.2.1/\(n8 u).2.2.2.2.2.1<=3600:=by
 obtain⟨v,h1,_,h2⟩:=nB 0 0 u;have:v=n8 u:=Option.some.inj (h1.symm.trans (sN 0 u));subst this;exact h2.2 h
theorem gj2{n:Int}{s:ByteArray}(h:(hi8 n s).2.2.2.2.2=0):qG n s:=by
 have e:=gc7 0 15 n s 0 (λ_=>[]);unfold pD ad7 U4 at e;dsimp only at e;rw[cD,sN]at e;by_cases h0:s=⟨#[]⟩
 ·subst h0;rw[if_neg (by rw[ba_eq.2 rfl];decide)]at e;unfold qG;rw[zF];by_cases h1:n<0
  ·rw[if_pos (by rw[decide_eq_true_eq];exact h1)]at e;rw[<-Option.some.inj e]at h;cases h
  ·rw[if_neg (by rw[decide_eq_true_eq];exact h1)]at e;by_cases h2:n>2147483647
   ·rw[if_pos (by rw[decide_eq_true_eq];exact h2)]at e;rw[<-Option.some.inj e]at h;cases h
   ·exact⟨.inl rfl,by omega,by omega⟩
 ·have hs:¬(s==⟨#[]⟩)=true:=λg=>h0 (ba_eq.1 g);rw[if_pos (by simpa using hs),Option.bind_some]at e;by_cases hf:(n8 s).2.2.2.2.2.2=true
  ·obtain⟨f1,f2⟩:=gl8 s hf;rw[if_neg (by rw[hf];decide)]at e;by_cases h1:n<0
   ·rw[if_pos (by rw[decide_eq_true_eq];exact h1)]at e;rw[<-Option.some.inj e]at h;cases h
   ·rw[if_neg (by rw[decide_eq_true_eq];exact h1),if_neg (by omega)]at e;have hd:=Int.tdiv_eq_ediv_of_nonneg (a:=2147483647) (b:=(n8 s).2.2.2.2.2.1) (by decide);have hd1:(2147483647:Int)/(n8 s).2.2.2.2.2.1*(n8 s).2.2.2.2.2.1<=2147483647:=Int.ediv_mul_le _ (by omega);have hd2:0<=(2147483647:Int)/(n8 s).2.2.2.2.2.1:=Int.ediv_nonneg (by decide) (by omega);have hd3:(2147483647:Int)/(n8 s).2.2.2.2.2.1<=2147483647:=Int.ediv_le_self _ (by decide);rw[hd,dJ (by unfold inR;omega)]at e;by_cases h2:n>2147483647/(n8 s).2.2.2.2.2.1
    ·rw[if_pos (by rw[decide_eq_true_eq];exact h2)]at e;rw[<-Option.some.inj e]at h;cases h
    ·have h3:n*(n8 s).2.2.2.2.2.1<=2147483647/(n8 s).2.2.2.2.2.1*(n8 s).2.2.2.2.2.1:=Int.mul_le_mul_of_nonneg_right (by omega) (by omega);have h4:0<=n*(n8 s).2.2.2.2.2.1:=Int.mul_nonneg (by omega) (by omega);unfold qG fI;rw[if_pos hf,dJ (by unfold inR;omega)];exact⟨.inr hf,h4,by omega⟩
  ·rw[if_pos (by simpa using hf)]at e;rw[<-Option.some.inj e]at h;cases h
theorem ha5{s:ByteArray}{k:Int}(h:kind 0 s=some k)(hk:0<k):ei9 s:=by
 unfold kind cr7 at h;simp only[cD]at h;unfold ei9;simp only[List.mem_cons,List.mem_nil_iff,or_false];by_cases h1:s=⟨#[124,124]⟩
 ·simp[h1]
 by_cases h2:s=⟨#[38,38]⟩
 ·simp[h2]
 by_cases h3:s=⟨#[43]⟩
 ·simp[h3]
 by_cases h4:s=⟨#[45]⟩
 ·simp[h4]
 by_cases h5:s=⟨#[42]⟩
 ·simp[h5]
 by_cases h6:s=⟨#[47]⟩
 ·simp[h6]
 by_cases h7:s=⟨#[60]⟩
 ·simp[h7]
 by_cases h8:s=⟨#[60,61]⟩
 ·simp[h8]
 by_cases h9:s=⟨#[62]⟩
 ·simp[h9]
 by_cases h10:s=⟨#[62,61]⟩
 ·simp[h10]
 by_cases h11:s=⟨#[61,61]⟩
 ·simp[h11]
 by_cases h12:s=⟨#[33,61]⟩
 ·simp[h12]
 exfalso;have ne:∀{b:ByteArray},¬s=b->¬(b==s)=true:=λg e=>g (ba_eq.1 e).symm;rw[if_neg (ne h1),if_neg (ne h2),if_neg (ne h3),if_neg (ne h4),if_neg (ne h5),if_neg (ne h6),if_neg (ne h7),if_neg (ne h8),if_neg (ne h9),if_neg (ne h10),if_neg (ne h11),if_neg (ne h12)]at h;have:=Option.some.inj h;omega
theorem fl2{n:Int}{s:ByteArray}(h:dL 16 n s=0):n=0\/n=1:=by
 have e:=rU 0 16 n s 0 (λ_=>[]);unfold av4 bc8 U4 at e;dsimp only at e;rw[if_pos (by decide)]at e;by_cases h0:n=0
 ·exact .inl h0
 ·by_cases h1:n=1
  ·exact .inr h1
  ·rw[if_pos (by simpa using h0),if_pos (by simpa using h1)]at e;have:=Option.some.inj e;omega
theorem gx5{n:Int}{s:ByteArray}(h:dL 19 n s=1):s=⟨#[33]⟩\/s=gz3:=by
 have e:=rU 0 19 n s 0 (λ_=>[]);unfold av4 bc8 U4 at e;dsimp only at e
 iterate 4 rw[if_neg (by decide)]at e
 rw[if_pos (by decide),cD,cD]at e;by_cases h0:s=⟨#[33]⟩
 ·exact .inl h0
 ·by_cases h1:s=gz3
  ·exact .inr h1
  ·rw[if_neg λg=>h0 (ba_eq.1 g),if_neg λg=>h1 (ba_eq.1 g)]at e;have:=Option.some.inj e;omega
theorem gm9{n:Int}{s:ByteArray}(h:dL 20 n s=2):ei9 s:=by
 have e:=rU 0 20 n s 0 (λ_=>[]);unfold av4 bc8 U4 at e;dsimp only at e
 iterate 5 rw[if_neg (by decide)]at e
 rw[if_pos (by decide)]at e;obtain⟨v,hv,_⟩:=ad4 0 0 s;rw[hv,Option.bind_some]at e;by_cases h0:v>0
 ·exact ha5 hv h0
 ·rw[if_neg (by rw[decide_eq_true_eq];exact h0)]at e;have:=Option.some.inj e;omega
theorem cv8(e:Int):eZ (nY e)=e:=rfl
mutual
def bOk:Tr->Prop
 | .node k n s l=>(k=16->s=⟨#[]⟩)/\oD l
def oD:List Tr->Prop
 | []=>True
 |t::l=>bOk t/\oD l
end
theorem fd1{T:ByteArray->Option dR}{P:ByteArray->Prop}(hP:∀s,(T s).isSome=true->P s):∀(t:Tr),bOk t->eZ (ofV T t)=0->okX P t
 | .node k n s [],hb,h=>by
  rw[cr2]at h;simp only[bOk]at hb;simp only[okX];by_cases h0:dL k n s=0
  ·rw[if_pos h0]at h;unfold cb7 at h;rcases(cO k n s).1 h0 with rfl|rfl|rfl|rfl
   ·rw[if_pos rfl]at h;exact .inl ⟨rfl,gj2 h⟩
   ·exact .inr (.inl ⟨rfl,hb.1 rfl,fl2 h0⟩)
   ·rw[if_neg (by decide),if_neg (by decide),if_pos rfl]at h;refine .inr (.inr (.inl ⟨rfl,hP s ?_⟩));cases hT:T s with
    |none=>rw[hT]at h;cases h
    |some d=>rfl
   ·rw[if_neg (by decide),if_neg (by decide),if_neg (by decide)]at h;refine .inr (.inr (.inr ⟨rfl,?_⟩));by_cases ht:(nU s).2.2.2.2.2.2=true
    ·exact ht
    ·rw[if_neg ht]at h;cases h
  ·rw[if_neg h0]at h;cases h
 | .node k n s [a],hb,h=>by
  rw[cw5]at h;simp only[bOk,oD]at hb;simp only[okX];by_cases h0:dL k n s=1
  ·rw[if_pos h0]at h;obtain rfl:=(cO k n s).2.1 h0;unfold unV at h;by_cases he:eZ (ofV T a)=0
   ·exact⟨rfl,gx5 h0,fd1 hP a hb.2.1 he⟩
   ·rw[if_pos he,cv8]at h;exact absurd h he
  ·rw[if_neg h0]at h;cases h
 | .node k n s [a,b],hb,h=>by
  rw[de0]at h;simp only[bOk,oD]at hb;simp only[okX];by_cases h0:dL k n s=2
  ·rw[if_pos h0]at h;obtain rfl:=(cO k n s).2.2.1 h0;unfold biV at h;by_cases he:eZ (ofV T a)=0
   ·rw[if_neg (λg=>g he)]at h;by_cases he':eZ (ofV T b)=0
    ·exact⟨rfl,gm9 h0,fd1 hP a hb.2.1 he,fd1 hP b hb.2.2.1 he'⟩
    ·rw[if_pos he',cv8]at h;exact absurd h he'
   ·rw[if_pos he,cv8]at h;exact absurd h he
  ·rw[if_neg h0]at h;cases h
 | .node k n s (a::b::c::l),hb,h=>by rw[bv5]at h;cases h
theorem bt6{T:ByteArray->Option dR}(a:Tr)(hk:kdT a=15)(h:eZ (ofV T a)=0):∃v u,a=at9 v u/\qG v u:=by
 obtain⟨k,n,s,l⟩:=a;have hk:k=15:=hk;subst hk;rcases l with _| ⟨a,_| ⟨b,_| ⟨c,l⟩⟩⟩
 ·rw[cr2]at h;by_cases h0:dL 15 n s=0
  ·rw[if_pos h0]at h;unfold cb7 at h;rw[if_pos rfl]at h;exact⟨n,s,rfl,gj2 h⟩
  ·rw[if_neg h0]at h;cases h
 ·rw[cw5]at h;by_cases h0:dL 15 n s=1
  ·have:=(cO 15 n s).2.1 h0;omega
  ·rw[if_neg h0]at h;cases h
 ·rw[de0]at h;by_cases h0:dL 15 n s=2
  ·have:=(cO 15 n s).2.2.1 h0;omega
  ·rw[if_neg h0]at h;cases h
 ·rw[bv5]at h;cases h
def MG(m:VM)(g:Sg):Prop:=∀s,(g.2 s).isSome=(m.2 s).isSome
theorem pE{a:Tr}{d:dR}{g:Sg}(h:jE a d g=0):eZ (ofV g.2 a)=0:=by
 unfold jE at h;by_cases he:eZ (ofV g.2 a)=0
 ·exact he
 ·rw[if_neg he]at h;exact absurd h he
theorem cb8{a:Tr}{g:Sg}(h:fM a g=0):eZ (ofV g.2 a)=0:=by
 unfold fM at h;by_cases he:eZ (ofV g.2 a)=0
 ·exact he
 ·rw[if_neg he]at h;exact absurd h he
theorem MG.ok{m:VM}{g:Sg}(h:MG m g){t:Tr}(hb:bOk t)(he:eZ (ofV g.2 t)=0):okX (dmV m) t:=fd1 (λs hs=>by show(m.2 s).isSome=true;rw[<-h s];exact hs) t hb he
theorem xC{l:List Tr}(h:l.length=1):∃a,l=[a]:=by
 rcases l with _| ⟨a,_| ⟨b,l⟩⟩
 ·simp at h
 ·exact⟨a,rfl⟩
 ·simp at h
abbrev hh7(t:Tr):Prop:=∀(m:VM) (g:Sg) (p:Nat),bOk t->MG m g->(stV t g).1=0->∃m1 A d w,CoS t m p m1 A d w/\MG m1 (stV t g).2
theorem hd6:∀(l:List Tr),(∀t∈l,hh7 t)->∀(m:VM) (g:Sg) (p:Nat),oD l->MG m g->(alV 0 l g).1=0->∃m1 A d w,CoL l m p m1 A d w/\MG m1 (alV 0 l g).2
 | [],ih,m,g,p,hb,hm,h=>⟨m,[],0,false,.nil m p,by rw[mD];exact hm⟩
 |t::l,ih,m,g,p,hb,hm,h=>by
  simp only[oD]at hb;rw[tJ]at h⊢;by_cases h0:(stV t g).1=0
  ·rw[if_pos h0]at h⊢;obtain⟨m1,A,d,w,h1,h2⟩:=ih t (by simp) m g p hb.1 hm h0;obtain⟨m2,B,d',w',h3,h4⟩:=hd6 l (λt ht=>ih t (by simp[ht])) m1 (stV t g).2 (p+A.length) hb.2 h2 h;exact⟨m2,A++B,_,_,.cons t l m m1 m2 p A B d d' w w' h1 h3,h4⟩
  ·rw[if_neg h0]at h;exact absurd h h0
theorem hq1:∀(N:Nat) (t:Tr),siz t<N->hh7 t:=by
 intro N
 induction N with
 |zero=>intro t ht;omega
 |succ N ih=>
  rintro⟨k,n,s,l⟩ ht m g p hb hm h;simp only[siz]at ht;simp only[bOk]at hb;have e:=bo8 k n s l g;cases hw:wfV k l with
  |false=>rw[if_pos hw]at e;rw[e]at h;cases h
  |true=>
  rw[if_neg (by rw[hw];decide)]at e;cases hr:rgV k n with
  |false=>rw[if_pos hr]at e;rw[e]at h;cases h
  |true=>
  rw[if_neg (by rw[hr];decide)]at e
  have kid:∀t∈l,hh7 t:=λt h1=>ih t (by
   have:∀(l:List Tr),t∈l->siz t<=i9 l:=λl=>by
    induction l with
    |nil=>intro h;cases h
    |cons a l ihl=>
     intro h;rw[i9];rcases List.mem_cons.1 h with rfl|h
     ·omega
     ·have:=ihl h;omega
   have:=this l h1
   omega)
  by_cases k14:k=14
  ·subst k14
   iterate 7 rw[if_neg (by decide)]at e
   rw[e]at h⊢;obtain⟨m1,A,d,w,h1,h2⟩:=hd6 l kid m g p hb.2 hm h;exact⟨m1,A,d,w,.blk n s l m m1 p A d w h1,h2⟩
  by_cases k1:k=1
  ·subst k1;obtain⟨a,rfl⟩:=xC (by simpa[wfV]using hw);simp only[oD]at hb;rw[if_pos (by decide)]at e;rw[e]at h⊢;unfold dk1 yB at h⊢;have hh:hdT [a]=a:=rfl;rw[hh]at h⊢;by_cases he:eZ (ofV g.2 a)=0
   ·rw[if_pos he,if_neg (by decide)]at h⊢;by_cases hc:(ofV g.2 a).1=true
    ·rw[if_pos hc]at h;cases h
    ·rw[if_neg hc]at h⊢;unfold cW at h⊢;by_cases hd:(g.2 s).isSome=true
     ·rw[if_pos hd]at h;cases h
     ·rw[if_neg hd]at h⊢;by_cases h12:g.1>=12
      ·rw[if_pos h12]at h;cases h
      ·rw[if_neg h12]
       have hn:m.2 s=none:=by
        have:=hm s;cases hms:m.2 s with
        |none=>rfl
        |some v=>rw[hms]at this;exact absurd this hd
       refine⟨_,_,_,_,.let_ n s a m p (hm.ok hb.2.1 he) hn,λx=>?_⟩;show(cd7 g.2 s _ x).isSome=(if x=s then some m.1 else m.2 x).isSome;unfold cd7;by_cases hx:x=s
       ·rw[if_pos hx,if_pos hx];rfl
       ·rw[if_neg hx,if_neg hx];exact hm x
   ·rw[if_neg he]at h;exact absurd h he
  by_cases k2:k=2
  ·subst k2;obtain⟨a,rfl⟩:=xC (by simpa[wfV]using hw);simp only[oD]at hb;rw[if_pos (by decide)]at e;rw[e]at h⊢;unfold dk1 yB at h⊢;have hh:hdT [a]=a:=rfl;rw[hh]at h⊢;by_cases he:eZ (ofV g.2 a)=0
   ·rw[if_pos he,if_pos rfl]at h⊢;cases hg:g.2 s with
    |none=>rw[hg]at h;cases h
    |some d=>
     rw[hg]at h;dsimp only at h⊢;have hd:dmV m s:=by show(m.2 s).isSome=true;rw[<-hm s,hg];rfl
     by_cases hc:(ofV g.2 a).1=true
     ·rw[if_pos hc]at h;cases h
     ·rw[if_neg hc]at h⊢;by_cases hdd:d=zR (ofV g.2 a)
      ·rw[if_pos hdd];exact⟨_,_,_,_,.set_ n s a m p (hm.ok hb.2.1 he) hd,hm⟩
      ·rw[if_neg hdd]at h;cases h
   ·rw[if_neg he]at h;exact absurd h he
  by_cases k7:k=7
  ·subst k7;obtain⟨a,rfl⟩:=xC (by simpa[wfV]using hw);simp only[oD]at hb;rw[if_neg (by decide),if_pos rfl]at e;rw[e]at h⊢;exact⟨_,_,_,_,.req n s a m p (hm.ok hb.2.1 (cb8 h)),hm⟩
  by_cases k8:k=8
  ·subst k8;obtain⟨a,rfl⟩:=xC (by simpa[wfV]using hw);simp only[oD]at hb
   iterate 2 rw[if_neg (by decide)]at e
   rw[if_pos rfl]at e;rw[e]at h⊢;exact⟨_,_,_,_,.point n s a m p (hm.ok hb.2.1 (pE h)),hm⟩
  by_cases k5:k=5
  ·subst k5;have hw:l.length=1/\ah9 l 0=15:=by simpa[wfV]using hw
   obtain⟨a,rfl⟩:=xC hw.1
   iterate 3 rw[if_neg (by decide)]at e
   rw[if_pos (by decide)]at e;rw[e]at h⊢;obtain⟨v,u,rfl,hl⟩:=bt6 a hw.2 (pE h);exact⟨_,_,_,_,.wait n s v u m p hl,hm⟩
  by_cases k9:k=9
  ·subst k9;have hw:l.length=1/\ah9 l 0=15:=by simpa[wfV]using hw
   have hr:0<=n/\n<=7:=by simpa[rgV]using hr
   obtain⟨a,rfl⟩:=xC hw.1
   iterate 3 rw[if_neg (by decide)]at e
   rw[if_pos (by decide)]at e;rw[e]at h⊢;obtain⟨v,u,rfl,hl⟩:=bt6 a hw.2 (pE h);exact⟨_,_,_,_,.use n s v u m p hr.1 hr.2 hl,hm⟩
  by_cases k10:k=10
  ·subst k10;have hw:l.length=1/\ah9 l 0=15:=by simpa[wfV]using hw
   have hr:0<=n/\n<=7:=by simpa[rgV]using hr
   obtain⟨a,rfl⟩:=xC hw.1
   iterate 4 rw[if_neg (by decide)]at e
   rw[if_pos (by decide)]at e;rw[e]at h⊢;obtain⟨v,u,rfl,hl⟩:=bt6 a hw.2 (pE h);exact⟨_,_,_,_,.send n s v u m p hr.1 hr.2 hl,hm⟩
  by_cases k11:k=11
  ·subst k11;have hw:l.length=1/\ah9 l 0=15:=by simpa[wfV]using hw
   obtain⟨a,rfl⟩:=xC hw.1
   iterate 4 rw[if_neg (by decide)]at e
   rw[if_pos (by decide)]at e;rw[e]at h⊢;obtain⟨v,u,rfl,hl⟩:=bt6 a hw.2 (pE h);exact⟨_,_,_,_,.keep n s v u m p hl,hm⟩
  by_cases k6:k=6
  ·subst k6;have hw:l.length=2/\ah9 l 1=15:=by simpa[wfV]using hw
   rcases l with _| ⟨c,_| ⟨a,_| ⟨b,l⟩⟩⟩
   ·simp at hw
   ·simp at hw
   ·simp only[oD]at hb
    iterate 5 rw[if_neg (by decide)]at e
    rw[if_pos rfl]at e;have hh:hdT [c,a]=c:=rfl;have hs:sdT [c,a]=a:=rfl;rw[hh,hs]at e;by_cases hc:fM c g=0
    ·rw[if_pos hc]at e;rw[e]at h⊢;obtain⟨v,u,rfl,hl⟩:=bt6 a hw.2 (pE h);exact⟨_,_,_,_,.await n s c v u m p (hm.ok hb.2.1 (cb8 hc)) hl,hm⟩
    ·rw[if_neg hc]at e;rw[e]at h;exact absurd h hc
   ·simp at hw
  by_cases k3:k=3
  ·subst k3;have hw:l.length=3/\ah9 l 1=14/\ah9 l 2=14:=by simpa[wfV]using hw
   rcases l with _| ⟨c,_| ⟨a,_| ⟨b,_| ⟨y,l⟩⟩⟩⟩
   ·simp at hw
   ·simp at hw
   ·simp at hw
   ·simp only[oD]at hb
    iterate 6 rw[if_neg (by decide)]at e
    rw[if_pos rfl]at e;have hh:hdT [c,a,b]=c:=rfl;rw[hh]at e;by_cases hc:fM c g=0
    ·rw[if_pos hc,cz7,tJ]at e;have hcx:=hm.ok hb.2.1 (cb8 hc);by_cases ha:(stV a g).1=0
     ·rw[if_pos ha,tJ]at e;obtain⟨m1,A,d,w,h1,h2⟩:=kid a (by simp) m g (p+(cE (fvM m.2) c p).length+1) hb.2.2.1 hm ha;obtain⟨k2,n2,s2,l2⟩:=b;have hk2:k2=14:=hw.2.2;subst hk2;by_cases hbb:(stV (.node 14 n2 s2 l2) (stV a g).2).1=0
      ·rw[if_pos hbb,mD]at e;rw[e];obtain⟨m2,B,d',w',h3,h4⟩:=kid (.node 14 n2 s2 l2) (by simp) m1 _ (p+(cE (fvM m.2) c p).length+1+A.length+1) hb.2.2.2.1 h2 hbb;rcases l2 with _| ⟨y,l2⟩
       ·cases h3 with
        |blk _ _ _ _ _ _ _ _ _ h3=>
         cases h3;exact⟨_,_,_,_,.ifE n s c a n2 s2 m m1 p A d w hcx hw.2.1 h1,h4⟩
       ·exact⟨_,_,_,_,.ifB n s c a n2 s2 y l2 m m1 m2 p A B d d' w w' hcx hw.2.1 h1 h3,h4⟩
      ·rw[if_neg hbb]at e;rw[e]at h;exact absurd h hbb
     ·rw[if_neg ha]at e;rw[e]at h;exact absurd h ha
    ·rw[if_neg hc]at e;rw[e]at h;exact absurd h hc
   ·simp at hw
  by_cases k4:k=4
  ·subst k4;have hw:l.length=1/\ah9 l 0=14:=by simpa[wfV]using hw
   have hr:1<=n/\n<=100:=by simpa[rgV]using hr
   obtain⟨a,rfl⟩:=xC hw.1;simp only[oD]at hb
   iterate 7 rw[if_neg (by decide)]at e
   rw[tJ]at e;by_cases ha:(stV a g).1=0
   ·rw[if_pos ha,mD]at e;rw[e];obtain⟨m1,A,d,w,h1,h2⟩:=kid a (by simp) m g (p+1) hb.2.1 hm ha;exact⟨_,_,_,_,.rep n s a m m1 p A d w hr.1 hr.2 hw.2 h1,h2⟩
   ·rw[if_neg ha]at e;rw[e]at h;exact absurd h ha
  by_cases k12:k=12
  ·subst k12;have hw:l=[]:=by simpa[wfV]using hw
   have hr:0<=n/\n<=99:=by simpa[rgV]using hr
   subst hw
   iterate 7 rw[if_neg (by decide)]at e
   rw[mD]at e;rw[e];exact⟨_,_,_,_,.emit n s m p hr.1 hr.2,hm⟩
  by_cases k13:k=13
  ·subst k13;have hw:l=[]:=by simpa[wfV]using hw
   have hr:0<=n/\n<=999:=by simpa[rgV]using hr
   subst hw
   iterate 7 rw[if_neg (by decide)]at e
   rw[mD]at e;rw[e];exact⟨_,_,_,_,.abort n s m p hr.1 hr.2,hm⟩
  exfalso;unfold wfV at hw;rw[if_neg k14,if_neg (by omega),if_neg (by omega),if_neg k6,if_neg k3,if_neg k4,if_neg (by omega)]at hw;cases hw
theorem cl1{pa pu:Nat->ByteArray}{P:List ByteArray}(hP:∀j b,P[j]? =some b->pa j=b):∀(r:List ByteArray) (i:Nat) (m:VM) (g:Sg),P.drop i=r->MG m g->(jD pa pu r.length i g).1=0->bh0 m r/\MG (putL m r) (jD pa pu r.length i g).2
 | [],i,m,g,hr,hm,h=>⟨trivial,hm⟩
 |b::r,i,m,g,hr,hm,h=>by
  have hb:P[i]? =some b:=by
   have:=congrArg (λl=>l[0]?) hr;simpa using this
  have ha:=hP i b hb;rw[List.length_cons,jD]at h⊢;cases hu:nA (pu i)with
  |none=>rw[hu]at h;cases h
  |some d=>
   rw[hu]at h;dsimp only at h⊢;by_cases h0:(cW (pa i) d g).1=0
   ·rw[if_pos h0]at h⊢
    have hd:cW b d g=(0,g.1+1,cd7 g.2 b d):=by
     rw[ha]at h0;by_cases h1:(g.2 b).isSome=true
     ·rw[ad1 h1]at h0;cases h0
     ·by_cases h2:g.1>=12
      ·rw[am1 h1 h2]at h0;cases h0
      ·exact as6 h1 h2
    have hn:m.2 b=none:=by
     rw[ha]at h0;have:=hm b;cases hms:m.2 b with
     |none=>rfl
     |some v=>
      rw[hms]at this;rw[ad1 (by rw[this];rfl)]at h0;cases h0
    rw[ha,hd]at h⊢
    have hm2:MG (cf2 m b) (g.1+1,cd7 g.2 b d):=λx=>by
     show(cd7 g.2 b d x).isSome=(if x=b then some m.1 else m.2 x).isSome;unfold cd7;by_cases hx:x=b
     ·rw[if_pos hx,if_pos hx];rfl
     ·rw[if_neg hx,if_neg hx];exact hm x
    have:=cl1 hP r (i+1) (cf2 m b) _ (by rw[<-List.drop_drop,hr];rfl) hm2 h;exact⟨⟨hn,this.1⟩,this.2⟩
   ·rw[if_neg h0]at h;exact absurd h h0
theorem ew6{P:List ByteArray}{np:Nat}{pa pu:Nat->ByteArray}{t:Tr}(hP:Y5 P np pa)(hb:bOk t)(h:lL np pa pu t=0):kdT t=14/\bh0 m0V P/\∃m1 A d w,CoS t (putL m0V P) 0 m1 A d w:=by
 obtain⟨rfl,hP⟩:=hP;unfold lL at h;by_cases h0:(jD pa pu P.length 0 (0,λ_=>none)).1=0
 ·rw[if_pos h0]at h;obtain⟨hf,hm⟩:=cl1 (pu:=pu) hP P 0 m0V (0,λ_=>none) rfl (λs=>rfl) h0;by_cases hk:kdT t=14
  ·rw[if_pos hk]at h;obtain⟨m1,A,d,w,h1,_⟩:=hq1 (siz t+1) t (by omega) (putL m0V P) _ 0 hb hm h;exact⟨hk,hf,m1,A,d,w,h1⟩
  ·rw[if_neg hk]at h;cases h
 ·rw[if_neg h0]at h;exact absurd h h0
end
end Go.Proofs.YtbmbhcheonjigaaGreatDoor.Ty
namespace Go.Proofs.YtbmbhcheonjigaaGreatDoor
section
open Go Go.Am Go.Proofs
theorem hq6{f:FuncId}{args:List V}{L0:List (Option Z1)}{n:ByteArray}{p v k:Int}{m:Nat}{g:Nat->List V}(h:SC E5 f args L0 (.ret (.tup [.agg [st n,i64 p,i64 v,.sl 0 2 0 m],i64 k]) [some (.row 49 2 m g)])):SC E5 f args L0 (.ret (.tup [.agg [st n,i64 p,i64 v,.ro 2 m g],i64 k]) []):=by
 have:=SC.give h (by simp[V.bw,V.bw1,V.bw2,hp,V.pure,n4,st,i64]);simpa[V.bw,V.bw1,V.bw2,hp,st,i64]using this
noncomputable def zD(q:Nat)(x:j3):Option cH:=if x.2.2.2.2.1=14 then ab6 q (x.1,x.2.1,x.2.2.1,x.2.2.2.1,x.2.2.2.2.2)else none
theorem eb2(q:Nat):Lw E5 43 oT an4 (zD q):=λx z h=>by
 obtain⟨nm,pn,pa,pb,nk,y⟩:=x;unfold zD at h;split at h
 ·rename_i hk;have hk:nk=14:=hk;subst hk;have this:=di9 q _ z h;rcases z with z|z
  ·exact this
  ·exact hq6 this
 ·cases h
abbrev m5:Type:=ByteArray×Int×Int×Nat×(Nat->Int)×(Nat->Int)×Int
def an6:m5->Z3:=λz=>.ret (.tup [.agg [st z.1,i64 z.2.1,i64 z.2.2.1,.ro 2 z.2.2.2.1 (λj=>[i64 (z.2.2.2.2.1 j),i64 (z.2.2.2.2.2.1 j)])],i64 z.2.2.2.2.2.2]) []
def cvC:cH->m5:=Sum.elim (λe=>(⟨#[]⟩,0,0,0,λ_=>0,λ_=>0,e)) (λz=>(z.1,z.2.1,z.2.2.1,z.2.2.2.1,z.2.2.2.2.1,z.2.2.2.2.2,0))
theorem hn5{a b:List V}(h:LeL a b):Le (.agg a) (.agg b):=by
 intro β S w D u hd;simp only[den]at hd⊢;obtain⟨us,rfl,hd,hc⟩:=hd;exact⟨us,rfl,h β S w D us hd,hc⟩
theorem gc9{f:FuncId}{args:List V}{L:List (Option Z1)}{z:cH}(h:SC E5 f args L (an4 z)):SC E5 f args L (an6 (cvC z)):=by
 rcases z with z|z
 ·exact AG h (Le.tup (AE (hn5 (AE (AD _) (AE (AD _) (AE (AD _) (AE AH AF))))) (LeL.refl _)))
 ·exact h
noncomputable def tK(q:Nat)(x:j3):Option m5:=(zD q x).map cvC
theorem dm9(q:Nat):Lw E5 43 oT an6 (tK q):=λx z h=>by
 obtain⟨y,hy,rfl⟩:=Option.map_eq_some_iff.1 h;exact gc9 (eb2 q x y hy)
noncomputable def pR(q:Nat)(x:j3):Option m5:=(au1 q x).map cvC
theorem cq6(q:Nat):Lw E5 44 oT an6 (pR q):=λx z h=>by
 obtain⟨y,hy,rfl⟩:=Option.map_eq_some_iff.1 h;exact gc9 (do1 q x y hy)
end
section
open Go Go.Am Go.Proofs.Lx
theorem bs6(q:Nat)(c:Int):xD q c=some (aC c):=ah1 q c
theorem ax9(q:Nat)(c:Int):al3 q c=some (j8 c):=zB q c
theorem fq3(q:Nat)(c:Int):az2 q c=some (aT c):=by
 unfold az2 bt5 aT;by_cases h1:c=32<;>by_cases h2:c=9<;>by_cases h3:c=10<;>by_cases h4:c=13<;>simp[h1,h2,h3,h4]
def bO:Bool->List UInt8->Nat
 |_,[]=>0
 |true,b::l=>1+bO (!(b==10)) l
 |false,b::l=>if b=35 then 1+bO true l else if aT b.toNat then 1+bO false l else 0
theorem gv1(q:Nat)(s:ByteArray)(x0:f5)(hx:x0.1=s)(hs:s.size<=4000):∀(m p:Nat) (c:Bool),p<=s.size->s.size-p<m->Rs (bo4 (az2 q) m x0 (((p:Nat):Int),c)) (λz=>Sum.elim id id z=((p+bO c (s.data.toList.drop p):Nat):Int)):=by
 intro m
 induction m with
 |zero=>intro p c _ h;omega
 |succ m ih=>
  intro p c hp hm;unfold bo4;refine AO λQ hQ=>?_;unfold am3;rw[hx];dsimp only;by_cases hlt:p<s.size
  ·have hg:=y9 s p hlt
   have hget:List.getD s.data.toList p (0:UInt8)=s.get! p:=by
    rw[List.getD_eq_getElem?_getD,kK s p hlt];rfl
   refine AL (decide_eq_true (Int.ofNat_lt.2 hlt)) (AL (show(0:Int)<=((p:Nat):Int)/\((p:Nat):Int)< ((s.size:Nat):Int)by omega) ?_);rw[Int.toNat_natCast,hget,o7 (by omega)];cases c with
   |true=>
    refine AL rfl (AJ (hQ _ ?_))
    have e:((((s.get! p).toNat:Nat):Int)!=10)= !(s.get! p==10):=by
     rw[Bool.eq_iff_iff];simp only[bne_iff_ne,ne_eq,Bool.not_eq_true',beq_eq_false_iff_ne];constructor
     ·intro h e;rw[e]at h;exact h rfl
     ·intro h e;exact h (UInt8.toNat_inj.1 (by show(s.get! p).toNat=10;omega))
    rw[e];refine(ih (p+1) _ hlt (by omega)).mono λz hz=>?_;rw[hz,hg];simp only[bO];omega
   |false=>
    refine AM (by decide) ?_;by_cases h35:s.get! p=35
    ·refine AL (by rw[h35];rfl) (AJ (hQ _ ?_));refine(ih (p+1) true hlt (by omega)).mono λz hz=>?_;rw[hz,hg];simp only[bO,h35,if_true];omega
    ·refine AM (λh=>h35 (UInt8.toNat_inj.1 (by have:=beq_iff_eq.1 h;show(s.get! p).toNat=35;omega))) ?_;rw[fq3];dsimp only[Option.bind_some];cases hw:aT ((s.get! p).toNat:Int)with
     |false=>
      refine AL rfl (AJ ?_);show((p:Nat):Int)=_;rw[hg];simp only[bO,h35,if_false,hw,Bool.false_eq_true];rfl
     |true=>
      refine AM (by decide) (AJ (hQ _ ?_));refine(ih (p+1) false hlt (by omega)).mono λz hz=>?_;rw[hz,hg];simp only[bO,h35,if_false,hw,if_true];omega
  ·refine AM (λh=>hlt (Int.ofNat_lt.1 (of_decide_eq_true h))) (AJ ?_);have hlen:s.data.toList.length=s.size:=by simp
   have:s.data.toList.drop p=[]:=List.drop_of_length_le (by omega);show((p:Nat):Int)=_;rw[this];cases c<;>rfl
theorem ay6{s:ByteArray}{g:Int->Bool}{p:Nat}(hp:p<s.size)(h:g (s.get! p).toNat=false):g9 g (s.data.toList.drop p)=0:=cp2 s g p hp h
theorem ag3{s:ByteArray}{g:Int->Bool}{p:Nat}(hp:p<s.size)(h:g (s.get! p).toNat=true):g9 g (s.data.toList.drop p)=1+g9 g (s.data.toList.drop (p+1)):=ci1 s g 1 p (by omega) (λj h1 h2=>by rw[show j=p by omega];exact h)
theorem cl5{s:ByteArray}:∀(n p:Nat),s.size-p=n->p<=s.size->bO true (s.data.toList.drop p)=g9 bS (s.data.toList.drop p)+bO false (s.data.toList.drop (p+g9 bS (s.data.toList.drop p))):=by
 intro n
 induction n with
 |zero=>
  intro p h hp;have:s.data.toList.drop p=[]:=List.drop_of_length_le (by simp;omega);rw[this];have h2:s.data.toList.drop (p+g9 bS [])=[]:=List.drop_of_length_le (by simp;omega);rw[h2];rfl
 |succ n ih=>
  intro p h hp;have hlt:p<s.size:=by omega
  cases hb:bS (s.get! p).toNat
  ·rw[ay6 hlt hb,y9 s p hlt]
   have h10:(s.get! p)=10:=by
    simp[bS]at hb;exact UInt8.toNat_inj.1 (by simp;omega)
   have hw:aT ((s.get! p).toNat:Int)=true:=by rw[h10];rfl
   simp only[Nat.add_zero,Nat.zero_add];rw[y9 s p hlt];simp[bO,h10,aT]
  ·rw[ag3 hlt hb,y9 s p hlt]
   have h10:((s.get! p)==10)=false:=by
    simp[bS]at hb;rw[beq_eq_false_iff_ne];intro h;rw[h]at hb;exact hb rfl
   simp only[bO,h10,Bool.not_false];rw[ih (p+1) (by omega) (by omega),show p+(1+g9 bS (s.data.toList.drop (p+1)))=p+1+g9 bS (s.data.toList.drop (p+1))by omega];omega
theorem dt7{s:ByteArray}{acc:List Tkn}{r:List Tkn×Nat×Int}:∀(n p:Nat),s.size-p=n->p<=s.size->Lex s (p+bO false (s.data.toList.drop p)) acc r->Lex s p acc r:=by
 intro n
 induction n using Nat.strongRecOn with
 |ind n ih=>
  intro p h hp hl;by_cases hlt:p<s.size
  ·rw[y9 s p hlt]at hl;simp only[bO]at hl;by_cases h35:(s.get! p)=35
   ·rw[if_pos h35]at hl;have hh:(s.get! p).toNat=35:=by rw[h35];rfl
    have ho:=dg6 hlt hh;refine .hash hlt hh (ih (s.size-(p+g9 bS (s.data.toList.drop p))) (by omega) _ rfl ho.2.1 ?_);have e1:g9 bS (s.data.toList.drop p)=1+g9 bS (s.data.toList.drop (p+1)):=ag3 hlt (by rw[hh];rfl);have e2:=cl5 (s:=s) (s.size-(p+1)) (p+1) rfl (by omega);rw[e2]at hl;rw[e1,show p+(1+g9 bS (s.data.toList.drop (p+1)))=p+1+g9 bS (s.data.toList.drop (p+1))by omega];rw[show p+(1+(g9 bS (s.data.toList.drop (p+1))+bO false (s.data.toList.drop (p+1+g9 bS (s.data.toList.drop (p+1))))))=p+1+g9 bS (s.data.toList.drop (p+1))+bO false (s.data.toList.drop (p+1+g9 bS (s.data.toList.drop (p+1))))by omega]at hl;exact hl
   ·rw[if_neg h35]at hl;cases hw:aT ((s.get! p).toNat:Int)
    ·rw[hw]at hl;simpa using hl
    ·rw[hw,if_pos rfl]at hl;refine .white hlt hw (ih (s.size-(p+1)) (by omega) (p+1) rfl (by omega) ?_)
     rwa [show p+1+bO false (s.data.toList.drop (p+1))=p+(1+bO false (s.data.toList.drop (p+1)))by omega]
  ·have:s.data.toList.drop p=[]:=List.drop_of_length_le (by simp;omega);rw[this]at hl;simpa[bO]using hl
theorem cq2{s:ByteArray}:∀(n p:Nat),s.size-p=n->p<=s.size->p+bO false (s.data.toList.drop p)<s.size->
 aT (s.get! (p+bO false (s.data.toList.drop p))).toNat=false/\(s.get! (p+bO false (s.data.toList.drop p))).toNat≠35:=by
 intro n
 induction n using Nat.strongRecOn with
 |ind n ih=>
  intro p h hp hl;by_cases hlt:p<s.size
  ·rw[y9 s p hlt]at hl⊢;simp only[bO]at hl⊢;by_cases h35:(s.get! p)=35
   ·rw[if_pos h35]at hl⊢;have hh:(s.get! p).toNat=35:=by rw[h35];rfl
    have e2:=cl5 (s:=s) (s.size-(p+1)) (p+1) rfl (by omega);rw[e2]at hl⊢;have hle:=mK bS (s.data.toList.drop (p+1));simp at hle;rw[show p+(1+(g9 bS (s.data.toList.drop (p+1))+bO false (s.data.toList.drop (p+1+g9 bS (s.data.toList.drop (p+1))))))=p+1+g9 bS (s.data.toList.drop (p+1))+bO false (s.data.toList.drop (p+1+g9 bS (s.data.toList.drop (p+1))))by omega]at hl⊢;exact ih _ (by omega) _ rfl (by omega) hl
   ·rw[if_neg h35]at hl⊢;cases hw:aT ((s.get! p).toNat:Int)
    ·refine⟨by simpa using hw,?_⟩;intro hh;apply h35;exact UInt8.toNat_inj.1 (by simpa using hh)
    ·rw[hw,if_pos rfl]at hl;simp only[if_true];rw[show p+(1+bO false (s.data.toList.drop (p+1)))=p+1+bO false (s.data.toList.drop (p+1))by omega]at hl⊢;exact ih (s.size-(p+1)) (by omega) (p+1) rfl (by omega) hl
  ·omega
theorem Rs.ite{α:Type}{c:Prop}{i:Decidable c}{a b:Option α}{P:α->Prop}(h:c->Rs a P)(g:¬c->Rs b P):Rs (@ite _ c i a b) P:=by
 by_cases hc:c
 ·rw[_root_.if_pos hc];exact h hc
 ·rw[_root_.if_neg hc];exact g hc
def zW(s:ByteArray)(p:Nat):ByteArray:=if lK (s.data.toList.drop p)=0 then⟨#[]⟩else s.extract p (p+lK (s.data.toList.drop p))
theorem gz8{s:ByteArray}{p:Nat}(hm:∀l∈oF,s.extract p (p+2)≠⟨l.toArray⟩):¬(1< (s.data.toList.drop p).length/\(s.data.toList.drop p).take 2∈oF):=by
 rintro⟨_,h⟩;refine hm _ h ?_;have:=y4 s p (p+2);rw[Nat.add_sub_cancel_left]at this;rw[<-this]
theorem tE{s:ByteArray}{p:Nat}(h1:p+1<s.size){l:List UInt8}(hl:l∈oF)(e:s.extract p (p+2)=⟨l.toArray⟩):s.extract p (p+2)=zW s p:=by
 have:=y4 s p (p+2);rw[Nat.add_sub_cancel_left,e]at this;have hm:(s.data.toList.drop p).take 2∈oF:=by rw[<-this];exact hl
 have e:lK (s.data.toList.drop p)=2:=by
  unfold lK;rw[if_pos ⟨by simp;omega,hm⟩]
 rw[zW,e];rfl
theorem gt9{b:UInt8}{k:Int}(h:(((b.toNat:Nat):Int)==k)=true)(hk:k∈[(123:Int),125,40,41,61,59,44,58,60,62,43,45,42,47,33,46]):sym1.contains b=true:=by
 have h:=beq_iff_eq.1 h
 have e:b=(k.toNat).toUInt8:=by
  apply UInt8.toNat_inj.1;rw[<-h];simp
 rw[e];simp only[List.mem_cons,List.not_mem_nil,or_false]at hk;rcases hk with rfl|rfl|rfl|rfl|rfl|rfl|rfl|rfl|rfl|rfl|rfl|rfl|rfl|rfl|rfl|rfl<;>decide
theorem m7{s:ByteArray}{p:Nat}(h0:p<s.size)(hno:¬(1< (s.data.toList.drop p).length/\(s.data.toList.drop p).take 2∈oF)){k:Int}(h:((((s.get! p).toNat:Nat):Int)==k)=true)(hk:k∈[(123:Int),125,40,41,61,59,44,58,60,62,43,45,42,47,33,46]):s.extract p (p+1)=zW s p:=by
 have hb:=gt9 h hk
 have e:lK (s.data.toList.drop p)=1:=by
  unfold lK;rw[if_neg hno,y9 s p h0];simp only[List.head?_cons,Option.any_some,hb,cond_true]
 rw[zW,e];rfl
theorem hb4{b:UInt8}(h:∀k∈[(123:Int),125,40,41,61,59,44,58,60,62,43,45,42,47,33,46],¬(((b.toNat:Nat):Int)==k)=true):sym1.contains b=false:=by
 rw[Bool.eq_false_iff];intro hc;have hm:=List.contains_iff_mem.1 hc;refine h b.toNat ?_ (by simp);simp only[sym1,List.mem_cons,List.not_mem_nil,or_false]at hm;rcases hm with rfl|rfl|rfl|rfl|rfl|rfl|rfl|rfl|rfl|rfl|rfl|rfl|rfl|rfl|rfl|rfl<;>simp
theorem cj6{s:ByteArray}{p:Nat}(h0:p<s.size)(hno:¬(1< (s.data.toList.drop p).length/\(s.data.toList.drop p).take 2∈oF))(h:∀k∈[(123:Int),125,40,41,61,59,44,58,60,62,43,45,42,47,33,46],¬((((s.get! p).toNat:Nat):Int)==k)=true):(⟨#[]⟩:ByteArray)=zW s p:=by
 have hb:=hb4 h
 have e:lK (s.data.toList.drop p)=0:=by
  unfold lK;rw[if_neg hno,y9 s p h0];simp only[List.head?_cons,Option.any_some,hb,cond_false]
 rw[zW,e];rfl
theorem gz5(q:Nat)(s:ByteArray)(p:Nat)(hs:s.size<=4000)(hp:p<s.size):Rs (dt8 q (s,((p:Nat):Int))) (λz=>z=zW s p):=by
 unfold dt8 eq7;dsimp only
 have hget:List.getD s.data.toList p (0:UInt8)=s.get! p:=by
  rw[List.getD_eq_getElem?_getD,kK s p hp];rfl
 have e2:w (((p:Nat):Int)+2)=((p+2:Nat):Int):=by rw[dJ (by omega) (by omega)];omega
 rw[o7 (by omega),e2];simp only[Int.toNat_natCast];rw[hget];have hb0:(0:Int)<=((p:Nat):Int)/\((p:Nat):Int)< ((s.size:Nat):Int):=by omega
 have hb1:(0:Int)<=((p:Nat):Int)/\((p:Nat):Int)<=((p+1:Nat):Int)/\((p+1:Nat):Int)<=((s.size:Nat):Int):=by omega
 by_cases h1:p+1<s.size
 ·have hb2:(0:Int)<=((p:Nat):Int)/\((p:Nat):Int)<=((p+2:Nat):Int)/\((p+2:Nat):Int)<=((s.size:Nat):Int):=by omega
  refine AL (decide_eq_true (Int.ofNat_lt.2 h1)) (AL hb2 ?_);refine Rs.ite (λh=>AL hb2 (AJ (tE h1 (by decide) (tl_eq.1 h)))) λc1=>?_;refine Rs.ite (λh=>AL hb2 (AJ (tE h1 (by decide) (tl_eq.1 h)))) λc2=>?_;refine Rs.ite (λh=>AL hb2 (AJ (tE h1 (by decide) (tl_eq.1 h)))) λc3=>?_;refine Rs.ite (λh=>AL hb2 (AJ (tE h1 (by decide) (tl_eq.1 h)))) λc4=>?_;refine Rs.ite (λh=>AL hb2 (AJ (tE h1 (by decide) (tl_eq.1 h)))) λc5=>?_;refine Rs.ite (λh=>AL hb2 (AJ (tE h1 (by decide) (tl_eq.1 h)))) λc6=>?_
  have hno:=gz8 (s:=s) (p:=p) (by
   intro l hl;simp only[oF,List.mem_cons,List.not_mem_nil,or_false]at hl;rcases hl with rfl|rfl|rfl|rfl|rfl|rfl
   ·exact λe=>c1 (tl_eq.2 e)
   ·exact λe=>c2 (tl_eq.2 e)
   ·exact λe=>c3 (tl_eq.2 e)
   ·exact λe=>c4 (tl_eq.2 e)
   ·exact λe=>c5 (tl_eq.2 e)
   ·exact λe=>c6 (tl_eq.2 e))
  refine AL hb0 ?_;refine Rs.ite (λh=>AL hb1 (AJ (m7 hp hno h (by decide)))) λk1=>?_;refine Rs.ite (λh=>AL hb1 (AJ (m7 hp hno h (by decide)))) λk2=>?_;refine Rs.ite (λh=>AL hb1 (AJ (m7 hp hno h (by decide)))) λk3=>?_;refine Rs.ite (λh=>AL hb1 (AJ (m7 hp hno h (by decide)))) λk4=>?_;refine Rs.ite (λh=>AL hb1 (AJ (m7 hp hno h (by decide)))) λk5=>?_;refine Rs.ite (λh=>AL hb1 (AJ (m7 hp hno h (by decide)))) λk6=>?_;refine Rs.ite (λh=>AL hb1 (AJ (m7 hp hno h (by decide)))) λk7=>?_;refine Rs.ite (λh=>AL hb1 (AJ (m7 hp hno h (by decide)))) λk8=>?_;refine Rs.ite (λh=>AL hb1 (AJ (m7 hp hno h (by decide)))) λk9=>?_;refine Rs.ite (λh=>AL hb1 (AJ (m7 hp hno h (by decide)))) λk10=>?_;refine Rs.ite (λh=>AL hb1 (AJ (m7 hp hno h (by decide)))) λk11=>?_;refine Rs.ite (λh=>AL hb1 (AJ (m7 hp hno h (by decide)))) λk12=>?_;refine Rs.ite (λh=>AL hb1 (AJ (m7 hp hno h (by decide)))) λk13=>?_;refine Rs.ite (λh=>AL hb1 (AJ (m7 hp hno h (by decide)))) λk14=>?_;refine Rs.ite (λh=>AL hb1 (AJ (m7 hp hno h (by decide)))) λk15=>?_;refine Rs.ite (λh=>AL hb1 (AJ (m7 hp hno h (by decide)))) λk16=>?_;refine AJ (cj6 hp hno ?_);intro k hk;simp only[List.mem_cons,List.not_mem_nil,or_false]at hk;rcases hk with rfl|rfl|rfl|rfl|rfl|rfl|rfl|rfl|rfl|rfl|rfl|rfl|rfl|rfl|rfl|rfl<;>assumption
 ·have hno:¬(1< (s.data.toList.drop p).length/\(s.data.toList.drop p).take 2∈oF):=λh=>h1 (by have:=h.1;simp at this;omega);refine AM (λh=>h1 (Int.ofNat_lt.1 (of_decide_eq_true h))) ?_;refine AL hb0 ?_;refine Rs.ite (λh=>AL hb1 (AJ (m7 hp hno h (by decide)))) λk1=>?_;refine Rs.ite (λh=>AL hb1 (AJ (m7 hp hno h (by decide)))) λk2=>?_;refine Rs.ite (λh=>AL hb1 (AJ (m7 hp hno h (by decide)))) λk3=>?_;refine Rs.ite (λh=>AL hb1 (AJ (m7 hp hno h (by decide)))) λk4=>?_;refine Rs.ite (λh=>AL hb1 (AJ (m7 hp hno h (by decide)))) λk5=>?_;refine Rs.ite (λh=>AL hb1 (AJ (m7 hp hno h (by decide)))) λk6=>?_;refine Rs.ite (λh=>AL hb1 (AJ (m7 hp hno h (by decide)))) λk7=>?_;refine Rs.ite (λh=>AL hb1 (AJ (m7 hp hno h (by decide)))) λk8=>?_;refine Rs.ite (λh=>AL hb1 (AJ (m7 hp hno h (by decide)))) λk9=>?_;refine Rs.ite (λh=>AL hb1 (AJ (m7 hp hno h (by decide)))) λk10=>?_;refine Rs.ite (λh=>AL hb1 (AJ (m7 hp hno h (by decide)))) λk11=>?_;refine Rs.ite (λh=>AL hb1 (AJ (m7 hp hno h (by decide)))) λk12=>?_;refine Rs.ite (λh=>AL hb1 (AJ (m7 hp hno h (by decide)))) λk13=>?_;refine Rs.ite (λh=>AL hb1 (AJ (m7 hp hno h (by decide)))) λk14=>?_;refine Rs.ite (λh=>AL hb1 (AJ (m7 hp hno h (by decide)))) λk15=>?_;refine Rs.ite (λh=>AL hb1 (AJ (m7 hp hno h (by decide)))) λk16=>?_;refine AJ (cj6 hp hno ?_);intro k hk;simp only[List.mem_cons,List.not_mem_nil,or_false]at hk;rcases hk with rfl|rfl|rfl|rfl|rfl|rfl|rfl|rfl|rfl|rfl|rfl|rfl|rfl|rfl|rfl|rfl<;>assumption
def oneP(s:ByteArray)(p:Nat):Tkn×Int:=if(fH s p).2=0 then({(fH s p).1 with a:=p},0)else(uN,(fH s p).2)
theorem gr0{s:ByteArray}{p:Nat}(hp:p<s.size)(hl:aC (s.get! p).toNat=true)(n:Nat)(hn:g9 bG (s.data.toList.drop p)=n):
 oneP s p=if 12<n then(uN,2)else(⟨1,p,s.extract p (p+n),0⟩,0):=by
 have hle:p+n<=s.size:=by have:=mK bG (s.data.toList.drop p);simp at this;omega
 have e:fH s p=if 12<n then(uN,2)else(⟨1,0,(s.extract p s.size).extract 0 n,0⟩,0):=by
  unfold fH ai7;rw[if_pos hl,nL s p (by omega),hn]
 rw[oneP,e,bm0 s p n hle];by_cases h:12<n
 ·simp[h]
 ·simp[h]
theorem ep2{s:ByteArray}{p:Nat}(hp:p<s.size)(hl:aC (s.get! p).toNat=false)(hd:j8 (s.get! p).toNat=true)(n:Nat)(hn:g9 j8 (s.data.toList.drop p)=n):
 oneP s p=if 1<n/\(s.get! p).toNat=48 then(uN,11)else if aa9 0 ((s.data.toList.drop p).take n)>2147483647 then(uN,5)else(⟨2,p,s.extract p (p+n),aa9 0 ((s.data.toList.drop p).take n)⟩,0):=by
 have hle:p+n<=s.size:=by have:=mK j8 (s.data.toList.drop p);simp at this;omega
 have e0:=em3 j8 dy9 hp hd;rw[hn]at e0;have ht:(s.extract p (p+n)).data.toList=(s.data.toList.drop p).take n:=by rw[y4,Nat.add_sub_cancel_left]
 have hz:(s.extract p (p+n)).size=n:=by simp;omega
 have hg:((s.data.toList.drop p).take n)[0]? =some (s.get! p):=by
  rw[List.getElem?_take_of_lt (by omega),List.getElem?_drop,Nat.add_zero,kK s p hp]
 have h48:((s.data.toList.drop p).take n)[0]? =some 48↔(s.get! p).toNat=48:=by
  rw[hg,Option.some.injEq,<-UInt8.toNat_inj];rfl
 have e:fH s p=gZ (s.extract p (p+n)):=by
  unfold fH;rw[if_neg (by rw[hl];simp),if_pos hd,nL s p (by omega),hn,bm0 s p n hle]
 rw[oneP,e];unfold gZ;rw[ht,hz];by_cases h1:1<n/\(s.get! p).toNat=48
 ·rw[if_pos h1,if_pos (show 1<n/\_ from⟨h1.1,h48.2 h1.2⟩)];rfl
 ·rw[if_neg h1,if_neg (λh:1<n/\_=>h1 ⟨h.1,h48.1 h.2⟩)];by_cases h2:aa9 0 ((s.data.toList.drop p).take n)>2147483647
  ·simp[h2]
  ·simp[h2]
theorem ey7{s:ByteArray}{p:Nat}(hp:p<s.size)(hl:aC (s.get! p).toNat=false)(hd:j8 (s.get! p).toNat=false):
 oneP s p=if lK (s.data.toList.drop p)=0 then(uN,11)else(⟨3,p,zW s p,0⟩,0):=by
 have e:fH s p=if lK (s.data.toList.drop p)=0 then(uN,11)else(⟨3,0,(s.extract p s.size).extract 0 (lK (s.data.toList.drop p)),0⟩,0):=by
  unfold fH eS;rw[if_neg (by rw[hl];simp),if_neg (by rw[hd];simp),nL s p (by omega)]
 rw[oneP,e,zW];by_cases h:lK (s.data.toList.drop p)=0
 ·simp[h]
 ·have:=ez6 hp h;simp only[h,if_false,if_true];rw[bm0 s p _ this.2.1]
theorem dy5{s:ByteArray}{p:Nat}{x:Tkn}(hp:p<s.size)(h:oneP s p=(x,0)):x.a=p/\1<=x.t.size/\p+x.t.size<=s.size/\fH s p=({x with a:=0},0):=by
 unfold oneP at h;by_cases h0:(fH s p).2=0
 ·rw[if_pos h0]at h;simp only[Prod.mk.injEq,and_true]at h;subst h;have hq:fH s p=((fH s p).1,0):=Prod.ext rfl h0;have:=vZ hp hq;refine⟨rfl,this.2.1,this.2.2.1,?_⟩;rw[hq];simp only[Prod.mk.injEq,and_true];have ha:=this.1;cases hx:(fH s p).1;rw[hx]at ha;simp only at ha;subst ha;rfl
 ·rw[if_neg h0]at h;simp only[Prod.mk.injEq]at h;exact absurd h.2 h0
theorem hh9(q:Nat)(s:ByteArray)(x0:f5)(hx:x0.1=s)(hs:s.size<=4000):∀(m p:Nat),p<=s.size->s.size-p<m->Rs (cx2 (xD q) (al3 q) (dt8 q) m x0 ((p:Nat):Int)) (λz=>z=((p+g9 bG (s.data.toList.drop p):Nat):Int)):=by
 intro m
 induction m with
 |zero=>intro p _ h;omega
 |succ m ih=>
  intro p hp hm;unfold cx2;refine AO λQ hQ=>?_;unfold ax3;rw[hx];dsimp only;by_cases hlt:p<s.size
  ·have hget:List.getD s.data.toList p (0:UInt8)=s.get! p:=by
    rw[List.getD_eq_getElem?_getD,kK s p hlt];rfl
   have hb:(0:Int)<=((p:Nat):Int)/\((p:Nat):Int)< ((s.size:Nat):Int):=by omega
   refine AL (decide_eq_true (Int.ofNat_lt.2 hlt)) (AL hb ?_);rw[Int.toNat_natCast,hget,o7 (by omega),bs6,ax9];dsimp only[Option.bind_some]
   have go:bG ((s.get! p).toNat:Int)=true->Q (((p+1:Nat):Int)):=λhw=>hQ _ ((ih (p+1) hlt (by omega)).mono λz hz=>by
    rw[hz,ag3 (p:=p) hlt hw];exact congrArg (λn:Nat=>(n:Int)) (by omega))
   cases hl:aC ((s.get! p).toNat:Int)with
   |true=>exact AL rfl (AJ (go (by unfold bG;rw[hl];rfl)))
   |false=>
    refine AM (by decide) (AL hb ?_);cases hd:j8 ((s.get! p).toNat:Int)with
    |true=>exact AL rfl (AJ (go (by unfold bG;rw[hl,hd];rfl)))
    |false=>
     refine AM (by decide) (AJ ?_);show((p:Nat):Int)=_;rw[ay6 (g:=bG) hlt (by unfold bG;rw[hl,hd];rfl)];rfl
  ·refine AM (λh=>hlt (Int.ofNat_lt.1 (of_decide_eq_true h))) (AJ ?_);have he:p=s.size:=by omega
   show((p:Nat):Int)=_;rw[he,bz9];rfl
theorem hs9(x:Int)(h:0<=x)(h1:x<256):IntKind.wrap .u8 x=x:=by
 have:IntKind.wrap .u8 x=x%256:=by simp[IntKind.wrap,IntKind.bits,IntKind.signed]
 rw[this];omega
theorem fs1(n:Int)(b:UInt8)(l:List UInt8):aa9 n (b::l)=aa9 (10*n+((b.toNat:Int)-48)) l:=rfl
theorem hh8(q:Nat)(s:ByteArray)(x0:f5)(hx:x0.1=s)(hs:s.size<=4000):∀(m p:Nat) (V:Int),p<=s.size->s.size-p<m->0<=V->
 Rs (dh9 (xD q) (al3 q) (dt8 q) m x0 (((p:Nat):Int),min V 2147483648)) (λz=>z=(((p+g9 j8 (s.data.toList.drop p):Nat):Int),min (aa9 V ((s.data.toList.drop p).take (g9 j8 (s.data.toList.drop p)))) 2147483648)):=by
 intro m
 induction m with
 |zero=>intro p V _ h;omega
 |succ m ih=>
  intro p V hp hm hV;unfold dh9;refine AO λQ hQ=>?_;unfold ba5;rw[hx];dsimp only;by_cases hlt:p<s.size
  ·have hget:List.getD s.data.toList p (0:UInt8)=s.get! p:=by
    rw[List.getD_eq_getElem?_getD,kK s p hlt];rfl
   have hb:(0:Int)<=((p:Nat):Int)/\((p:Nat):Int)< ((s.size:Nat):Int):=by omega
   refine AL (decide_eq_true (Int.ofNat_lt.2 hlt)) (AL hb ?_);rw[Int.toNat_natCast,hget,o7 (by omega),ax9];dsimp only[Option.bind_some];cases hd:j8 ((s.get! p).toNat:Int)with
   |true=>
    have hd':=hd;simp[j8]at hd';have e1:IntKind.wrap IntKind.u8 ((((s.get! p).toNat:Nat):Int)-48)=(((s.get! p).toNat:Nat):Int)-48:=hs9 _ (by omega) (by omega)
    have e2:w (w (10*min V 2147483648)+w ((((s.get! p).toNat:Nat):Int)-48))=10*min V 2147483648+((((s.get! p).toNat:Nat):Int)-48):=by
     rw[dJ (n:=10*min V 2147483648) (by omega) (by omega),dJ (n:=(((s.get! p).toNat:Nat):Int)-48) (by omega) (by omega)];exact dJ (by omega) (by omega)
    rw[e1,e2];refine AL rfl (AL hb (AJ ?_))
    have e3:(if(2147483648:Int)<10*min V 2147483648+((((s.get! p).toNat:Nat):Int)-48)then(2147483648:Int)else 10*min V 2147483648+((((s.get! p).toNat:Nat):Int)-48))=min (10*V+((((s.get! p).toNat:Nat):Int)-48)) 2147483648:=by
     by_cases hh:(2147483648:Int)<10*min V 2147483648+((((s.get! p).toNat:Nat):Int)-48)
     ·rw[if_pos hh];omega
     ·rw[if_neg hh];omega
    rw[e3];refine hQ _ ((ih (p+1) _ hlt (by omega) (by omega)).mono λz hz=>?_);rw[hz,ag3 (p:=p) hlt hd,y9 s p hlt,Nat.add_comm 1,List.take_succ_cons,fs1];refine Prod.ext ?_ rfl;dsimp only;omega
   |false=>
    refine AM (by decide) (AJ ?_);show((((p:Nat):Int),min V 2147483648):Int×Int)=_;rw[ay6 hlt hd];rfl
  ·refine AM (λh=>hlt (Int.ofNat_lt.1 (of_decide_eq_true h))) (AJ ?_);have he:p=s.size:=by omega
   show((((p:Nat):Int),min V 2147483648):Int×Int)=_;rw[he,bz9];rfl
theorem fz8(q:Nat)(s:ByteArray)(p:Nat)(hs:s.size<=4000)(hp:p<s.size)(hq:4001<=q):Rs (fx7 q (s,((p:Nat):Int))) (λz=>z=lA (oneP s p)):=by
 unfold fx7 es8
 have hget:List.getD s.data.toList p (0:UInt8)=s.get! p:=by
  rw[List.getD_eq_getElem?_getD,kK s p hp];rfl
 have hb:(0:Int)<=((p:Nat):Int)/\((p:Nat):Int)< ((s.size:Nat):Int):=by omega
 dsimp only;refine AL hb ?_;rw[Int.toNat_natCast,hget,bs6,ax9];dsimp only[Option.bind_some];cases hl:aC ((s.get! p).toNat:Int)with
 |true=>
  refine AL rfl ?_;refine AI (hh9 q s (s,((p:Nat):Int)) rfl hs q p (by omega) (by omega)) λz hz=>?_;subst hz;obtain⟨n,hn⟩:∃n,g9 bG (s.data.toList.drop p)=n:=⟨_,rfl⟩;have hle:=mK bG (s.data.toList.drop p);rw[hn]at hle;simp at hle;rw[gr0 hp hl n hn,hn];have e:w (((p+n:Nat):Int)-((p:Nat):Int))=((n:Nat):Int):=by rw[dJ (by omega) (by omega)];omega
  rw[e];by_cases h:12<n
  ·rw[if_pos h];exact AL (decide_eq_true (show((n:Nat):Int)>12 by omega)) (AJ rfl)
  ·rw[if_neg h];have hb2:(0:Int)<=((p:Nat):Int)/\((p:Nat):Int)<=((p+n:Nat):Int)/\((p+n:Nat):Int)<=((s.size:Nat):Int):=by omega
   refine AM (λhh=>h (by have:=of_decide_eq_true hh;omega)) (AL hb2 (AJ ?_));rw[Int.toNat_natCast];rfl
 |false=>
  refine AM (by decide) (AL hb ?_);cases hd:j8 ((s.get! p).toNat:Int)with
  |true=>
   refine AL rfl ?_;refine AI (hh8 q s (s,((p:Nat):Int)) rfl hs q p 0 (by omega) (by omega) (by omega)) λz hz=>?_;subst hz;obtain⟨n,hn⟩:∃n,g9 j8 (s.data.toList.drop p)=n:=⟨_,rfl⟩;have hle:=mK j8 (s.data.toList.drop p);rw[hn]at hle;simp at hle;rw[ep2 hp hl hd n hn,hn];dsimp only;have e:w (((p+n:Nat):Int)-((p:Nat):Int))=((n:Nat):Int):=by rw[dJ (by omega) (by omega)];omega
   rw[e];generalize aa9 0 ((s.data.toList.drop p).take n)=V;have hb2:(0:Int)<=((p:Nat):Int)/\((p:Nat):Int)<=((p+n:Nat):Int)/\((p+n:Nat):Int)<=((s.size:Nat):Int):=by omega
   have rest:∀c:Prop,[Decidable c]->¬c->Rs (if decide (min V 2147483648>(2147483647:Int)) then some (((0:Int),(0:Int),{data:=#[]},(0:Int),(5:Int)):Int×Int×ByteArray×Int×Int)else if(0:Int)<=((p:Nat):Int)/\((p:Nat):Int)<=((p+n:Nat):Int)/\((p+n:Nat):Int)<=((s.size:Nat):Int)then some (((2:Int),((p:Nat):Int),ByteArray.extract s p (Int.toNat ((p+n:Nat):Int)),min V 2147483648,(0:Int)))else none) (λz=>z=lA (if c then(uN,11)else if V>2147483647 then(uN,5)else(⟨2,p,s.extract p (p+n),V⟩,0))):=by
    intro c _ hc;rw[if_neg hc];by_cases hv:V>2147483647
    ·rw[if_pos hv];exact AL (decide_eq_true (show min V 2147483648>(2147483647:Int)by omega)) (AJ rfl)
    ·rw[if_neg hv];refine AM (λhh=>hv (by have:=of_decide_eq_true hh;omega)) (AL hb2 (AJ ?_));have e3:min V 2147483648=V:=by omega
     rw[e3,Int.toNat_natCast];rfl
   by_cases h1:1<n
   ·refine AL (decide_eq_true (show((n:Nat):Int)>1 by omega)) (AL hb ?_);by_cases h48:(s.get! p).toNat=48
    ·refine AL (by rw[h48];rfl) (AJ ?_);rw[if_pos ⟨h1,h48⟩];rfl
    ·refine AM (λh=>h48 (by have:=beq_iff_eq.1 h;omega)) (rest _ λh=>h48 h.2)
   ·exact AM (λhh=>h1 (by have:=of_decide_eq_true hh;omega)) (rest _ λh=>h1 h.1)
  |false=>
   refine AM (by decide) ?_;refine AI (gz5 q s p hs hp) λz hz=>?_;subst hz;rw[ey7 hp hl hd];by_cases h0:lK (s.data.toList.drop p)=0
   ·rw[if_pos h0];refine AL (tl_eq.2 ?_) (AJ rfl);rw[zW,if_pos h0]
   ·rw[if_neg h0];refine AM (λhh=>?_) (AJ rfl);have:=tl_eq.1 hh;rw[zW,if_neg h0]at this;have h2:(s.extract p (p+lK (s.data.toList.drop p))).size=0:=by rw[this];rfl
    have h3:=ez6 hp h0;simp at h2;omega
theorem aa2:∀(l:List UInt8) (c:Bool),bO c l<=l.length
 | [],c=>by cases c<;>exact Nat.le_refl _
 |b::l,true=>by have:=aa2 l (!(b==10));simp only[bO,List.length_cons];omega
 |b::l,false=>by
  have h1:=aa2 l true;have h2:=aa2 l false;simp only[bO,List.length_cons];by_cases h:b=35
  ·rw[if_pos h];omega
  ·rw[if_neg h];cases aT b.toNat
   ·rw[if_neg (by decide)];omega
   ·rw[if_pos rfl];omega
theorem cd0(q:Nat)(s:ByteArray)(p:Nat)(hs:s.size<=4000)(hp:p<=s.size)(hq:4001<=q):Rs (ap1 q (s,((p:Nat):Int))) (λz=>z=((p+bO false (s.data.toList.drop p):Nat):Int)):=by
 unfold ap1 de2;refine AI (gv1 q s (s,((p:Nat):Int)) rfl hs q p false hp (by omega)) λz hz=>?_;cases z with
 |inl z=>exact AJ hz
 |inr z=>exact AJ hz
theorem ff5{s:ByteArray}{p:Nat}{x:Tkn}{er:Int}(h:oneP s p=(x,er))(he:er≠0):∃y,fH s p=(y,er):=by
 unfold oneP at h;by_cases h0:(fH s p).2=0
 ·rw[if_pos h0]at h;simp only[Prod.mk.injEq]at h;exact absurd h.2.symm he
 ·rw[if_neg h0]at h;simp only[Prod.mk.injEq]at h;exact⟨_,Prod.ext rfl h.2⟩
def RTS(acc:List Tkn)(p:Nat):eM->Prop
 | .inl y=>acc=[]/\y=(p:Int)
 | .inr y=>∃(a:TkT) (n:Nat),y=((p:Int),a.1,a.2.2.2,a.2.1,a.2.2.1,n)/\n=acc.length/\X8 acc a
theorem fq5 (q : Nat) (s : ByteArray) (hs : s.size <= 4000) (hq : 4001 <= q) : ∀ (m p : Nat) (acc : List Tkn) (y : eM), RTS acc p y -> p <= s.size -> s.size - p < m -> acc.length <= p -> (∀ r, Lex s p acc r -> Lex s 0 [] r) -> (p < s.size -> aT (s.get! p).toNat = false /\ (s.get! p).toNat ≠ 35) ->
 Rs (aj7 (ap1 q) (fx7 q) m s y) (TL s) := by
 intro m
 induction m with
 | zero => intro p acc y _ _ h; omega
 | succ m ih =>
  intro p acc y hy hp hm hacc hinv hst;unfold aj7;refine AO λQ hQ => ?_
  -- what follows a token
  have next : ∀ x : Tkn, p < s.size -> oneP s p = (x, 0) -> ∃ p', p + x.t.size + bO false (s.data.toList.drop (p + x.t.size)) = p' /\ w (((p : Nat) : Int) + ((x.t.size : Nat) : Int)) = ((p + x.t.size : Nat) : Int) /\ p + x.t.size <= s.size /\ p < p' /\ p' <= s.size /\ (∀ r, Lex s p' (acc ++ [x]) r -> Lex s 0 [] r) /\ (p' < s.size -> aT (s.get! p').toNat = false /\ (s.get! p').toNat ≠ 35) := by
   intro x hlt hx;obtain ⟨k1, k2, k3, k4⟩ := dy5 hlt hx;have hle := aa2 (s.data.toList.drop (p + x.t.size)) false;simp at hle;refine ⟨_, rfl, by rw [dJ (by omega) (by omega)]; omega, k3, by omega, by omega, λr h => ?_, λh => ?_⟩
   ·have h2 := dt7 (s.size - (p + x.t.size)) (p + x.t.size) rfl k3 h;obtain ⟨w1, w2⟩ := hst hlt;refine hinv r (.tok hlt w1 w2 k4 ?_);have e : ({ ({ x with a := 0 } : Tkn) with a := (p : Int) } : Tkn) = x := by cases x; simp only at k1; subst k1; rfl
    rw [e];exact h2
   ·exact cq2 (s.size - (p + x.t.size)) (p + x.t.size) rfl k3 h
  rcases y with y | y
  ·obtain ⟨rfl, rfl⟩ := hy;rw [Sum.elim_inl];unfold sZ;by_cases hlt : p < s.size
   ·refine AL (decide_eq_true (Int.ofNat_lt.2 hlt)) ?_;refine AI (fz8 q s p hs hlt hq) λz hz => ?_;obtain ⟨x, er, hx⟩ : ∃ x er, oneP s p = (x, er) := ⟨_, _, rfl⟩;rw [hx] at hz;subst hz;by_cases he : er = 0
    ·subst he;refine AM (by show ¬ ((0 : Int) != 0) = true; decide) ?_;obtain ⟨p', e1, e2, g1, g2, g3, g4, g5⟩ := next x hlt hx
     refine AI (P := λz => z = ((p' : Nat) : Int)) ?_ λz hz => ?_
     ·show Rs (ap1 q (s, w (((p : Nat) : Int) + ((x.t.size : Nat) : Int)))) _;rw [e2, <- e1];exact cd0 q s _ hs g1 hq
     ·subst hz;refine AJ (hQ _ (ih p' ([] ++ [x]) _ ⟨(λ_ => x.k, λ_ => x.t, λ_ => x.n, λ_ => x.a), 1, rfl, rfl, X8.one x⟩ g3 (by omega) (by simp; omega) g4 g5))
    ·refine AL (by show (er != 0) = true; rw [bne_iff_ne]; exact he) (AJ ?_);obtain ⟨w1, w2⟩ := hst hlt;obtain ⟨y, hy⟩ := ff5 hx he;exact ⟨p, rfl, he, hinv _ (.err hlt w1 w2 hy he)⟩
   ·refine AM (λh => hlt (Int.ofNat_lt.1 (of_decide_eq_true h))) (AJ ?_);exact hinv _ (.fin (by omega))
  ·obtain ⟨a, n, rfl, rfl, hr⟩ := hy;rw [Sum.elim_inr];unfold sY U6;dsimp only;by_cases hlt : p < s.size
   ·refine AL (decide_eq_true (Int.ofNat_lt.2 hlt)) ?_;refine AI (fz8 q s p hs hlt hq) λz hz => ?_;obtain ⟨x, er, hx⟩ : ∃ x er, oneP s p = (x, er) := ⟨_, _, rfl⟩;rw [hx] at hz;subst hz;by_cases he : er = 0
    ·subst he;refine AM (by show ¬ ((0 : Int) != 0) = true; decide) (AL ⟨by unfold b6; omega, by unfold maxLen; omega, Nat.le_refl _⟩ ?_);obtain ⟨p', e1, e2, g1, g2, g3, g4, g5⟩ := next x hlt hx
     refine AI (P := λz => z = ((p' : Nat) : Int)) ?_ λz hz => ?_
     ·show Rs (ap1 q (s, w (((p : Nat) : Int) + ((x.t.size : Nat) : Int)))) _;rw [e2, <- e1];exact cd0 q s _ hs g1 hq
     ·subst hz;refine AJ (hQ _ (ih p' (acc ++ [x]) _ ⟨_, acc.length + 1, rfl, by simp, hr.push x⟩ g3 (by omega) (by simp; omega) g4 g5))
    ·refine AL (by show (er != 0) = true; rw [bne_iff_ne]; exact he) (AJ ?_);obtain ⟨w1, w2⟩ := hst hlt;obtain ⟨y, hy⟩ := ff5 hx he;exact ⟨p, rfl, he, hinv _ (.err hlt w1 w2 hy he)⟩
   ·refine AM (λh => hlt (Int.ofNat_lt.1 (of_decide_eq_true h))) (AJ ?_);exact ⟨acc, rfl, by omega, hr, hinv _ (.fin (by omega))⟩
end
end Go.Proofs.YtbmbhcheonjigaaGreatDoor
