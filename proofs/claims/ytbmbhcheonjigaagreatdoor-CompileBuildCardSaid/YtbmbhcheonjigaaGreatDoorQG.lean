/- Texts joined. -/
import Derived.Test.YtbmbhcheonjigaaGreatDoorQF
import Derived.Test.YtbmbhcheonjigaaGreatDoorQD
import Derived.Test.YtbmbhcheonjigaaGreatDoorQC
/- Expressions are read as the plain parser reads them (4). -/
set_option linter.unusedSimpArgs false
set_option linter.defProp false
set_option linter.unusedVariables false
set_option maxRecDepth 100000
namespace Go.Proofs.YtbmbhcheonjigaaGreatDoor
section
open Go Go.Am Go.Proofs.Lx
section
variable {N:Nat} {T:Nat->Tkn} {pr:List ByteArray}
theorem fy7(hT:Z4 N T){f q:Nat}(hq:f<q)(hE:HE N T pr f q)(hU:HU N T pr f q)(hP:HP N T pr f q)(lv:Nat)(hl1:1<=lv)(hl:lv<=8)(s:PS)(x:StT)(h:RS N T pr s x)(ho:l9 T (f+1) lv s≠ .out):
 Rs (expr (q+1) (((lv:Nat):Int),x)) (PN N T pr (l9 T (f+1) lv s)):=by
 show Rs ((bj3 (is q) (du3 q) (aq9 q) (expr q) (next q) (rP q) (av0 (is q) (du3 q) (aq9 q) (expr q) (next q) (rP q) q (((lv:Nat):Int),x)) (((lv:Nat):Int),x) some).map bi8) _;refine AK (P:=λy=>PN N T pr (l9 T (f+1) lv s) (bi8 y)) ?_ λz hz=>hz;unfold bj3;dsimp only;have hop:l9 T (f+1) lv s=if lv=3/\isP T bt3 s then aM T f bt3 3 s else if lv=7/\isP T yC s then aM T f yC 7 s else if lv=8 then dK T f s else(l9 T f (lv+1) s).bind λn s'=>dP T f lv n s':=by rw[l9]
 by_cases h3:lv=3
 ·refine AL (by simp[h3]) ?_;rw[br9 q h];dsimp only[Option.bind_some];by_cases hi:isP T bt3 s=true
  ·rw[if_pos ⟨h3,hi⟩]at hop;refine AL hi ?_;refine AW (hU f (Nat.le_refl _) bt3 (by decide) 3 (by decide) (by decide) s x h (hop▸ho)) (λt s1 k n b m c x1 e hr hx=>?_) (λp c e hp=>?_)
   ·rw[hop,e];exact AJ ⟨hr,hx⟩
   ·rw[hop,e];exact AJ ⟨hp,rfl⟩
  ·rw[if_neg (λh=>hi h.2),if_neg (λh=>by omega),if_neg (by omega)]at hop;refine AM hi (AM (by simp;omega) (AM (by simp;omega) ?_));rw[o7 (i:=lv) (by omega)];refine AW (hE f (Nat.le_refl _) (lv+1) (by omega) (by omega) s x h (AT (hop▸ho))) (λt s1 k n b m c x1 e hr hx=>?_) (λp c e hp=>?_)
   ·rw[e]at hop;dsimp only[PR.bind]at hop;refine AI (bx2 hT hE lv hl1 (by omega) x f (Nat.le_refl _) q (by omega) t s1 x1 (.inl (y0 x1 (k,n,b,m,c))) ⟨_,rfl,hr⟩ hx (hop▸ho)) (λz hz=>?_);rw[hop];cases hr2:dP T f lv t s1 with
    |out=>rw[hop,hr2]at ho;exact absurd rfl ho
    |err p c=>
     rw[hr2]at hz;rcases z with z|z|z
     ·exact hz.elim
     ·exact AJ hz
     ·exact hz.elim
    |ok a s2=>
     rw[hr2]at hz;rcases z with z|z|z
     ·obtain⟨x2,op,na,nb,ta,tb,rfl,rfl,g1,g2,g3⟩:=hz;exact AJ ⟨Z7.k2 g1 g2,g3⟩
     ·exact hz.elim
     ·obtain⟨x2,nd,rfl,g1,g3⟩:=hz;exact AJ ⟨g1,g3⟩
   ·rw[hop,e];exact AJ ⟨hp,rfl⟩
 ·refine AM (by simp;omega) ?_;rw[if_neg (λh=>h3 h.1)]at hop;by_cases h7:lv=7
  ·refine AL (by simp[h7]) ?_;rw[br9 q h];dsimp only[Option.bind_some];by_cases hi:isP T yC s=true
   ·rw[if_pos ⟨h7,hi⟩]at hop;refine AL hi ?_;refine AW (hU f (Nat.le_refl _) yC (by decide) 7 (by decide) (by decide) s x h (hop▸ho)) (λt s1 k n b m c x1 e hr hx=>?_) (λp c e hp=>?_)
    ·rw[hop,e];exact AJ ⟨hr,hx⟩
    ·rw[hop,e];exact AJ ⟨hp,rfl⟩
   ·rw[if_neg (λh=>hi h.2),if_neg (by omega)]at hop;refine AM hi (AM (by simp;omega) ?_);rw[o7 (i:=lv) (by omega)];refine AW (hE f (Nat.le_refl _) (lv+1) (by omega) (by omega) s x h (AT (hop▸ho))) (λt s1 k n b m c x1 e hr hx=>?_) (λp c e hp=>?_)
    ·rw[e]at hop;dsimp only[PR.bind]at hop;refine AI (bx2 hT hE lv hl1 (by omega) x f (Nat.le_refl _) q (by omega) t s1 x1 (.inl (y0 x1 (k,n,b,m,c))) ⟨_,rfl,hr⟩ hx (hop▸ho)) (λz hz=>?_);rw[hop];cases hr2:dP T f lv t s1 with
     |out=>rw[hop,hr2]at ho;exact absurd rfl ho
     |err p c=>
      rw[hr2]at hz;rcases z with z|z|z
      ·exact hz.elim
      ·exact AJ hz
      ·exact hz.elim
     |ok a s2=>
      rw[hr2]at hz;rcases z with z|z|z
      ·obtain⟨x2,op,na,nb,ta,tb,rfl,rfl,g1,g2,g3⟩:=hz;exact AJ ⟨Z7.k2 g1 g2,g3⟩
      ·exact hz.elim
      ·obtain⟨x2,nd,rfl,g1,g3⟩:=hz;exact AJ ⟨g1,g3⟩
    ·rw[hop,e];exact AJ ⟨hp,rfl⟩
  ·refine AM (by simp;omega) ?_;rw[if_neg (λh=>h7 h.1)]at hop;by_cases h8:lv=8
   ·rw[if_pos h8]at hop;refine AL (by simp[h8]) ?_;refine AW (hP f (Nat.le_refl _) s x h (hop▸ho)) (λt s1 k n b m c x1 e hr hx=>?_) (λp c e hp=>?_)
    ·rw[hop,e];exact AJ ⟨hr,hx⟩
    ·rw[hop,e];exact AJ ⟨hp,rfl⟩
   ·rw[if_neg h8]at hop;refine AM (by simp;omega) ?_;rw[o7 (i:=lv) (by omega)];refine AW (hE f (Nat.le_refl _) (lv+1) (by omega) (by omega) s x h (AT (hop▸ho))) (λt s1 k n b m c x1 e hr hx=>?_) (λp c e hp=>?_)
    ·rw[e]at hop;dsimp only[PR.bind]at hop;refine AI (bx2 hT hE lv hl1 (by omega) x f (Nat.le_refl _) q (by omega) t s1 x1 (.inl (y0 x1 (k,n,b,m,c))) ⟨_,rfl,hr⟩ hx (hop▸ho)) (λz hz=>?_);rw[hop];cases hr2:dP T f lv t s1 with
     |out=>rw[hop,hr2]at ho;exact absurd rfl ho
     |err p c=>
      rw[hr2]at hz;rcases z with z|z|z
      ·exact hz.elim
      ·exact AJ hz
      ·exact hz.elim
     |ok a s2=>
      rw[hr2]at hz;rcases z with z|z|z
      ·obtain⟨x2,op,na,nb,ta,tb,rfl,rfl,g1,g2,g3⟩:=hz;exact AJ ⟨Z7.k2 g1 g2,g3⟩
      ·exact hz.elim
      ·obtain⟨x2,nd,rfl,g1,g3⟩:=hz;exact AJ ⟨g1,g3⟩
    ·rw[hop,e];exact AJ ⟨hp,rfl⟩
theorem eq5(hT:Z4 N T){f q:Nat}(hE:HE N T pr f q)(b:ByteArray)(hb:b≠⟨#[]⟩)(lv:Nat)(hl1:1<=lv)(hl:lv<=8)(s:PS)(x:StT)(h:RS N T pr s x)(ho:aM T (f+1) b lv s≠ .out):
 Rs (du3 (q+1) (b,((lv:Nat):Int),x)) (PN N T pr (aM T (f+1) b lv s)):=by
 show Rs ((as1 (nC q) (expr q) (b,((lv:Nat):Int),x) some).map at3) _;refine AK (P:=λy=>PN N T pr (aM T (f+1) b lv s) (at3 y)) ?_ λz hz=>hz;unfold as1;dsimp only;have hop:aM T (f+1) b lv s=(fF T b s).bind λ_ s1=>(l9 T f lv s1).bind λn s2=>.ok (.node 19 0 b [n]) (rI s2):=by rw[aM]
 refine AU (bv6 hT q h b hb) (λs1 x1 e1 h1=>?_) (λp c e hp=>?_)
 ·have o1:=kG (T:=T) b s;rw[e1]at hop o1;dsimp only[PR.bind]at hop;refine AW (hE f (Nat.le_refl _) lv hl1 hl s1 x1 h1 (AT (hop▸ho))) (λt s2 k n b m c x2 e hr hx=>?_) (λp c e hp=>?_)
  ·have o2:=(oO (T:=T) f).1 lv s1;rw[e]at hop o2;rw[hop];have o1:s1.o=s.o+1:=o1;have o2:s2.o=s1.o:=o2;exact AJ ⟨AS hr,hx.close hT (by omega)⟩
  ·rw[hop,e];exact AJ ⟨hp,rfl⟩
 ·rw[hop,e];exact AJ ⟨hp,rfl⟩
theorem ft8(hT:Z4 N T){f q:Nat}(hE:HE N T pr f q)(s:PS)(x:StT)(h:RS N T pr s x)(ho:dK T (f+1) s≠ .out):
 Rs (aq9 (q+1) x) (PN N T pr (dK T (f+1) s)):=by
 show Rs ((vF (next q) (pA q) (take q) (uR q) (name q) (is q) (nC q) (expr q) x some).map vH) _;refine AK (P:=λy=>PN N T pr (dK T (f+1) s) (vH y)) ?_ λz hz=>hz;unfold vF;rw[eK q h];dsimp only[Option.bind_some]
 have hop:dK T (f+1) s=if(T s.p).k=2 then oE T s
  else if isP T bb7 s then .ok (.node 16 1 ⟨#[]⟩ []) (adv s)
  else if isP T ag2 s then .ok (.node 16 0 ⟨#[]⟩ []) (adv s)
  else if isP T cn0 s then(x7 T fw6 (adv s)).bind λ_ s1=>(aQ T s1).bind λx s2=>.ok (.node 18 0 x []) s2
  else if isP T kB s then(fF T kB s).bind λ_ s1=>(l9 T f 1 s1).bind λn s2=>(x7 T dV s2).bind λ_ s3=>.ok n (rI s3)
  else(aQ T s).bind λx s1=>.ok (.node 17 0 x []) s1:=by rw[dK]
 by_cases hk:(T s.p).k=2
 ·rw[if_pos hk]at hop;refine AL (by simp[hk]) ?_;refine AW (qB hT q h) (λt s1 k n b m c x1 e hr hx=>?_) (λp c e hp=>?_)
  ·rw[hop,e];exact AJ ⟨hr,hx⟩
  ·rw[hop,e];exact AJ ⟨hp,rfl⟩
 ·rw[if_neg hk]at hop;refine AM (by simp[hk]) ?_;rw[fR q h];dsimp only[Option.bind_some];by_cases h1:isP T bb7 s=true
  ·rw[if_pos h1]at hop⊢;refine AL rfl ?_;rw[hop];exact AJ ⟨AQ,AP hT h (w8 (by decide) h1)⟩
  ·rw[if_neg h1]at hop⊢;refine AM (by simp) ?_;rw[fR q h];dsimp only[Option.bind_some];by_cases h2:isP T ag2 s=true
   ·rw[if_pos h2]at hop⊢;refine AL rfl ?_;rw[hop];exact AJ ⟨AQ,AP hT h (w8 (by decide) h2)⟩
   ·rw[if_neg h2]at hop⊢;refine AM (by simp) ?_;rw[fR q h];dsimp only[Option.bind_some];by_cases h3:isP T cn0 s=true
    ·rw[if_pos h3]at hop⊢;refine AL rfl ?_;refine AU (mB hT q (AP hT h (w8 (by decide) h3)) fw6 (by decide)) (λs1 x1 e1 g1=>?_) (λp c e hp=>?_)
     ·rw[e1]at hop;dsimp only[PR.bind]at hop;refine AV (at2 hT q g1) (λa s2 x2 e2 g2=>?_) (λp c e hp=>?_)
      ·rw[hop,e2];exact AJ ⟨AQ,g2⟩
      ·rw[hop,e];exact AJ ⟨hp,rfl⟩
     ·rw[hop,e];exact AJ ⟨hp,rfl⟩
    ·rw[if_neg h3]at hop⊢;refine AM (by simp) ?_;rw[br9 q h];dsimp only[Option.bind_some];by_cases h4:isP T kB s=true
     ·rw[if_pos h4]at hop;refine AL h4 ?_;refine AU (bv6 hT q h kB (by decide)) (λs1 x1 e1 g1=>?_) (λp c e hp=>?_)
      ·have o1:=kG (T:=T) kB s;rw[e1]at hop o1;dsimp only[PR.bind]at hop;refine AW (hE f (Nat.le_refl _) 1 (by decide) (by decide) s1 x1 g1 (AT (hop▸ho))) (λt s2 k n b m c x2 e hr hx=>?_) (λp c e hp=>?_)
       ·have o2:=(oO (T:=T) f).1 1 s1;rw[e]at hop o2;dsimp only[PR.bind]at hop;refine AU (mB hT q hx dV (by decide)) (λs3 x3 e3 g3=>?_) (λp c e hp=>?_)
        ·have o3:=oI (T:=T) dV s2;rw[e3]at hop o3;have o1:s1.o=s.o+1:=o1;have o2:s2.o=s1.o:=o2;have o3:s3.o=s2.o:=o3;rw[hop];exact AJ ⟨hr,g3.close hT (by omega)⟩
        ·rw[hop,e];exact AJ ⟨hp,rfl⟩
       ·rw[hop,e];exact AJ ⟨hp,rfl⟩
      ·rw[hop,e];exact AJ ⟨hp,rfl⟩
     ·rw[if_neg h4]at hop;refine AM h4 ?_;refine AV (at2 hT q h) (λa s2 x2 e2 g2=>?_) (λp c e hp=>?_)
      ·rw[hop,e2];exact AJ ⟨AQ,g2⟩
      ·rw[hop,e];exact AJ ⟨hp,rfl⟩
theorem hf6(hT:Z4 N T):∀f q,f+1<=q->HE N T pr f q/\HU N T pr f q/\HP N T pr f q:=by
 intro f
 induction f with
 |zero=>
  intro q _;refine⟨λg hg lv _ _ s x _ ho=>?_,λg hg b _ lv _ _ s x _ ho=>?_,λg hg s x _ ho=>?_⟩
  all_goals
   obtain rfl:g=0:=by omega
  ·rw[l9]at ho;exact absurd rfl ho
  ·rw[aM]at ho;exact absurd rfl ho
  ·rw[dK]at ho;exact absurd rfl ho
 |succ f ih=>
  intro q hq;obtain⟨q,rfl⟩:∃k,q=k+1:=⟨q-1,by omega⟩;obtain⟨a1,a2,a3⟩:=ih (q+1) (by omega);obtain⟨b1,b2,b3⟩:=ih q (by omega);refine⟨λg hg lv h1 h2 s x h ho=>?_,λg hg b hb lv h1 h2 s x h ho=>?_,λg hg s x h ho=>?_⟩
  ·by_cases e:g<=f
   ·exact a1 g e lv h1 h2 s x h ho
   ·obtain rfl:g=f+1:=by omega
    exact fy7 hT (by omega) b1 b2 b3 lv h1 h2 s x h ho
  ·by_cases e:g<=f
   ·exact a2 g e b hb lv h1 h2 s x h ho
   ·obtain rfl:g=f+1:=by omega
    exact eq5 hT b1 b hb lv h1 h2 s x h ho
  ·by_cases e:g<=f
   ·exact a3 g e s x h ho
   ·obtain rfl:g=f+1:=by omega
    exact ft8 hT b1 s x h ho
end
theorem PR.bind_assoc{α β γ:Type}(r:PR α)(f:α->PS->PR β)(g:β->PS->PR γ):(r.bind f).bind g=r.bind λa s=>(f a s).bind g:=by cases r<;>rfl
def AX:=@PR.bind_assoc
section
variable (T:Nat->Tkn)
def dr6(f:Nat)(s:PS):PR Tr:=(kZ T s).bind λa s1=>(x7 T am6 s1).bind λ_ s2=>(l9 T f 1 s2).bind λn s3=>.ok (.node 1 0 a [n]) s3
def dx1(f:Nat)(s:PS):PR Tr:=(aQ T s).bind λa s1=>(x7 T am6 s1).bind λ_ s2=>(l9 T f 1 s2).bind λn s3=>.ok (.node 2 0 a [n]) s3
def zH(f:Nat)(s:PS):PR Tr:=(l9 T f 1 s).bind λc s1=>(x7 T mV s1).bind λ_ s2=>(oE T s2).bind λn s3=>.ok (.node 6 0 ⟨#[]⟩ [c,n]) s3
def dn2(k:Int)(s:PS):PR Tr:=(oE T s).bind λn s2=>.ok (.node k 0 ⟨#[]⟩ [n]) s2
def dx0(f:Nat)(k:Int)(s:PS):PR Tr:=(l9 T f 1 s).bind λn s2=>.ok (.node k 0 ⟨#[]⟩ [n]) s2
def dq9(k hi:Int)(s:PS):PR Tr:=(mH T 0 hi s).bind λn s1=>.ok (.node k n ⟨#[]⟩ []) s1
def ee4(k:Int)(b:ByteArray)(s:PS):PR Tr:=(mH T 0 7 s).bind λn s1=>(x7 T b s1).bind λ_ s2=>(oE T s2).bind λm s3=>.ok (.node k n ⟨#[]⟩ [m]) s3
end
theorem eh5(T:Nat->Tkn)(f:Nat)(s:PS):((kZ T s).bind λx s1=>ba1 T f 1 x s1)=(dr6 T f s).bind (Lx.endP T):=by
 simp only[dr6,ba1,AX];rfl
theorem er8(T:Nat->Tkn)(f:Nat)(s:PS):((aQ T s).bind λx s1=>ba1 T f 2 x s1)=(dx1 T f s).bind (Lx.endP T):=by
 simp only[dx1,ba1,AX];rfl
theorem cc2(T:Nat->Tkn)(f:Nat)(s:PS):an3 T f s=(zH T f s).bind (Lx.endP T):=by
 simp only[zH,an3,AX];rfl
theorem bb1(T:Nat->Tkn)(k:Int)(s:PS):bz0 T k s=(dn2 T k s).bind (Lx.endP T):=by
 simp only[dn2,bz0,AX];rfl
theorem ba4(T:Nat->Tkn)(f:Nat)(k:Int)(s:PS):oneP T f k s=(dx0 T f k s).bind (Lx.endP T):=by
 simp only[dx0,oneP,AX];rfl
theorem bc1(T:Nat->Tkn)(k hi:Int)(s:PS):cb2 T k hi s=(dq9 T k hi s).bind (Lx.endP T):=by
 simp only[dq9,cb2,AX];rfl
theorem bb0(T:Nat->Tkn)(k:Int)(b:ByteArray)(s:PS):bu8 T k b s=(ee4 T k b s).bind (Lx.endP T):=by
 simp only[ee4,bu8,AX];rfl
section
variable {N:Nat} {T:Nat->Tkn} {pr:List ByteArray} {s:PS} {x:StT}
theorem fq7(hT:Z4 N T){f q:Nat}(hE:HE N T pr f q)(h:RS N T pr s x)(ho:dx1 T f s≠ .out):Rs (assign q x) (PN N T pr (dx1 T f s)):=by
 unfold assign;refine AK (P:=λy=>PN N T pr (dx1 T f s) (az3 y)) ?_ λz hz=>hz;unfold di4 bd8;have hop:dx1 T f s=(aQ T s).bind λa s1=>(x7 T am6 s1).bind λ_ s2=>(l9 T f 1 s2).bind λn s3=>.ok (.node 2 0 a [n]) s3:=rfl;refine AV (at2 hT q h) (λa s1 x1 e1 g1=>?_) (λp c e hp=>?_)
 ·rw[e1]at hop;dsimp only[PR.bind]at hop;refine AU (mB hT q g1 am6 (by decide)) (λs2 x2 e2 g2=>?_) (λp c e hp=>?_)
  ·rw[e2]at hop;dsimp only[PR.bind]at hop;refine AW (hE f (Nat.le_refl _) 1 (by decide) (by decide) s2 x2 g2 (AT (hop▸ho))) (λt s3 k n b m c x3 e hr hx=>?_) (λp c e hp=>?_)
   ·rw[hop,e];exact AJ ⟨AS hr,hx⟩
   ·(rw[hop,e];exact AJ ⟨hp,rfl⟩)
  ·(rw[hop,e];exact AJ ⟨hp,rfl⟩)
 ·(rw[hop,e];exact AJ ⟨hp,rfl⟩)
theorem hn8(hT:Z4 N T){f q:Nat}(hq:20<=q)(hE:HE N T pr f q)(h:RS N T pr s x)(hne:(T s.p).t≠⟨#[]⟩\/(T s.p).k≠0)(ho:dr6 T f (adv s)≠ .out):Rs (go3 q x) (PN N T pr (dr6 T f (adv s))):=by
 unfold go3;refine AK (P:=λy=>PN N T pr (dr6 T f (adv s)) (dd1 y)) ?_ λz hz=>hz;unfold gf7 da7;have hop:dr6 T f (adv s)=(kZ T (adv s)).bind λa s1=>(x7 T am6 s1).bind λ_ s2=>(l9 T f 1 s2).bind λn s3=>.ok (.node 1 0 a [n]) s3:=rfl;refine AV (an7 hT q hq (h.adv hT hne)) (λa s1 x1 e1 g1=>?_) (λp c e hp=>?_)
 ·rw[e1]at hop;dsimp only[PR.bind]at hop;refine AU (mB hT q g1 am6 (by decide)) (λs2 x2 e2 g2=>?_) (λp c e hp=>?_)
  ·rw[e2]at hop;dsimp only[PR.bind]at hop;refine AW (hE f (Nat.le_refl _) 1 (by decide) (by decide) s2 x2 g2 (AT (hop▸ho))) (λt s3 k n b m c x3 e hr hx=>?_) (λp c e hp=>?_)
   ·rw[hop,e];exact AJ ⟨AS hr,hx⟩
   ·(rw[hop,e];exact AJ ⟨hp,rfl⟩)
  ·(rw[hop,e];exact AJ ⟨hp,rfl⟩)
 ·(rw[hop,e];exact AJ ⟨hp,rfl⟩)
theorem Z7.two{k n:Int}{s:ByteArray}{ta tb:Tr}{a b:n9}(ha:Z7 ta a)(hb:Z7 tb b):Z7 (.node k n s [ta,tb]) (k,n,s,2,λj=>[i64 (if j<1 then a.1 else b.1),i64 (if j<1 then a.2.1 else b.2.1),st (if j<1 then a.2.2.1 else b.2.2.1),.ro 4 (if j<1 then a.2.2.2.1 else b.2.2.2.1) λi=>if j<1 then a.2.2.2.2 i else b.2.2.2.2 i]):=by
 simp only[Z7,n5,List.length_cons,List.length_nil];exact⟨trivial,trivial,trivial,trivial,⟨a,rfl,ha⟩,⟨b,rfl,hb⟩,trivial⟩
theorem gg9(hT:Z4 N T){f q:Nat}(hE:HE N T pr f q)(h:RS N T pr s x)(hne:(T s.p).t≠⟨#[]⟩\/(T s.p).k≠0)(ho:zH T f (adv s)≠ .out):Rs (await q x) (PN N T pr (zH T f (adv s))):=by
 unfold await;refine AK (P:=λy=>PN N T pr (zH T f (adv s)) (bw4 y)) ?_ λz hz=>hz;unfold eo8 cb6;have hop:zH T f (adv s)=(l9 T f 1 (adv s)).bind λc s1=>(x7 T mV s1).bind λ_ s2=>(oE T s2).bind λn s3=>.ok (.node 6 0 ⟨#[]⟩ [c,n]) s3:=rfl;refine AW (hE f (Nat.le_refl _) 1 (by decide) (by decide) (adv s) _ (h.adv hT hne) (AT ho)) (λt s1 k n b m c x1 e1 hr1 g1=>?_) (λp c e hp=>?_)
 ·rw[e1]at hop;dsimp only[PR.bind]at hop;refine AU (mB hT q g1 mV (by decide)) (λs2 x2 e2 g2=>?_) (λp c e hp=>?_)
  ·rw[e2]at hop;dsimp only[PR.bind]at hop;refine AW (qB hT q g2) (λt2 s3 k2 n2 b2 m2 c2 x3 e hr hx=>?_) (λp c e hp=>?_)
   ·rw[hop,e];exact AJ ⟨Z7.two hr1 hr,hx⟩
   ·(rw[hop,e];exact AJ ⟨hp,rfl⟩)
  ·(rw[hop,e];exact AJ ⟨hp,rfl⟩)
 ·(rw[hop,e];exact AJ ⟨hp,rfl⟩)
theorem cj1(hT:Z4 N T)(q:Nat)(h:RS N T pr s x)(hne:(T s.p).t≠⟨#[]⟩\/(T s.p).k≠0):Rs (bo9 q x) (PN N T pr (dn2 T (if isP T tC s then 11 else 5) (adv s))):=by
 unfold bo9;refine AK (P:=λy=>PN N T pr (dn2 T (if isP T tC s then 11 else 5) (adv s)) (be2 y)) ?_ λz hz=>hz;unfold cv2 bb9;rw[br9 q h];dsimp only[Option.bind_some];by_cases hi:isP T tC s=true
 ·refine AL hi ?_;rw[if_pos hi];have hop:dn2 T 11 (adv s)=(oE T (adv s)).bind λn s2=>.ok (.node 11 0 ⟨#[]⟩ [n]) s2:=rfl;refine AW (qB hT q (h.adv hT hne)) (λt2 s3 k2 n2 b2 m2 c2 x3 e hr hx=>?_) (λp c e hp=>?_)
  ·rw[hop,e];exact AJ ⟨AS hr,hx⟩
  ·(rw[hop,e];exact AJ ⟨hp,rfl⟩)
 ·refine AM hi ?_;rw[if_neg hi];have hop:dn2 T 5 (adv s)=(oE T (adv s)).bind λn s2=>.ok (.node 5 0 ⟨#[]⟩ [n]) s2:=rfl;refine AW (qB hT q (h.adv hT hne)) (λt2 s3 k2 n2 b2 m2 c2 x3 e hr hx=>?_) (λp c e hp=>?_)
  ·rw[hop,e];exact AJ ⟨AS hr,hx⟩
  ·(rw[hop,e];exact AJ ⟨hp,rfl⟩)
theorem cm4(hT:Z4 N T){f q:Nat}(hE:HE N T pr f q)(h:RS N T pr s x)(hne:(T s.p).t≠⟨#[]⟩\/(T s.p).k≠0)(ho:l9 T f 1 (adv s)≠ .out):Rs (bt8 q x) (PN N T pr (dx0 T f (if isP T mA s then 8 else 7) (adv s))):=by
 unfold bt8;refine AK (P:=λy=>PN N T pr (dx0 T f (if isP T mA s then 8 else 7) (adv s)) (ba8 y)) ?_ λz hz=>hz;unfold dh5 bd4;rw[br9 q h];dsimp only[Option.bind_some];by_cases hi:isP T mA s=true
 ·refine AL hi ?_;rw[if_pos hi];have hop:dx0 T f 8 (adv s)=(l9 T f 1 (adv s)).bind λn s2=>.ok (.node 8 0 ⟨#[]⟩ [n]) s2:=rfl;refine AW (hE f (Nat.le_refl _) 1 (by decide) (by decide) (adv s) _ (h.adv hT hne) ho) (λt2 s3 k2 n2 b2 m2 c2 x3 e hr hx=>?_) (λp c e hp=>?_)
  ·rw[hop,e];exact AJ ⟨AS hr,hx⟩
  ·(rw[hop,e];exact AJ ⟨hp,rfl⟩)
 ·refine AM hi ?_;rw[if_neg hi];have hop:dx0 T f 7 (adv s)=(l9 T f 1 (adv s)).bind λn s2=>.ok (.node 7 0 ⟨#[]⟩ [n]) s2:=rfl;refine AW (hE f (Nat.le_refl _) 1 (by decide) (by decide) (adv s) _ (h.adv hT hne) ho) (λt2 s3 k2 n2 b2 m2 c2 x3 e hr hx=>?_) (λp c e hp=>?_)
  ·rw[hop,e];exact AJ ⟨AS hr,hx⟩
  ·(rw[hop,e];exact AJ ⟨hp,rfl⟩)
def bs7(T:Nat->Tkn)(s:PS):PR Tr:=if isP T xU s then dq9 T 12 99 (adv s)else if isP T nZ s then dq9 T 13 999 (adv s)else if isP T ar8 s then ee4 T 9 bf7 (adv s)else ee4 T 10 bM (adv s)
theorem gp9(hT:Z4 N T)(q:Nat)(h:RS N T pr s x)(hne:(T s.p).t≠⟨#[]⟩\/(T s.p).k≠0)(kd:Int)(bb:ByteArray)(hb:bb≠⟨#[]⟩):
 Rs ((nR q (0,7,w (x.1+1),x.2)).bind λz=>Sum.elim (λza=>(uR q (bb,za.2)).bind λy=>Sum.elim (λya=>(pA q ya).bind λv=>Sum.elim (λva=>(some (.inr (.inl (kd,za.1,(⟨#[]⟩:ByteArray),va))):Option fZ)) (λvb=>some (.inr (.inr vb))) v) (λyb=>some (.inr (.inr yb))) y) (λzb=>some (.inr (.inr zb))) z) (λy=>PN N T pr (ee4 T kd bb (adv s)) (mY y)):=by
 have hop:ee4 T kd bb (adv s)=(mH T 0 7 (adv s)).bind λn s1=>(x7 T bb s1).bind λ_ s2=>(oE T s2).bind λm s3=>.ok (.node kd n ⟨#[]⟩ [m]) s3:=rfl;refine AV (ac2 hT q (h.adv hT hne) 0 7) (λa s1 x1 e1 g1=>?_) (λp c e hp=>?_)
 ·rw[e1]at hop;dsimp only[PR.bind]at hop;refine AU (mB hT q g1 bb hb) (λs2 x2 e2 g2=>?_) (λp c e hp=>?_)
  ·rw[e2]at hop;dsimp only[PR.bind]at hop;refine AW (qB hT q g2) (λt2 s3 k2 n2 b2 m2 c2 x3 e hr hx=>?_) (λp c e hp=>?_)
   ·rw[hop,e];exact AJ ⟨AS hr,hx⟩
   ·(rw[hop,e];exact AJ ⟨hp,rfl⟩)
  ·(rw[hop,e];exact AJ ⟨hp,rfl⟩)
 ·(rw[hop,e];exact AJ ⟨hp,rfl⟩)
theorem gn0(hT:Z4 N T)(q:Nat)(h:RS N T pr s x)(hne:(T s.p).t≠⟨#[]⟩\/(T s.p).k≠0)(kd hi:Int):
 Rs ((nR q (0,hi,w (x.1+1),x.2)).bind λz=>Sum.elim (λza=>(some (.inl (kd,za.1,(⟨#[]⟩:ByteArray),za.2)):Option fZ)) (λzb=>some (.inr (.inr zb))) z) (λy=>PN N T pr (dq9 T kd hi (adv s)) (mY y)):=by
 have hop:dq9 T kd hi (adv s)=(mH T 0 hi (adv s)).bind λn s1=>.ok (.node kd n ⟨#[]⟩ []) s1:=rfl;refine AV (ac2 hT q (h.adv hT hne) 0 hi) (λa s1 x1 e1 g1=>?_) (λp c e hp=>?_)
 ·rw[hop,e1];exact AJ ⟨AQ,g1⟩
 ·(rw[hop,e];exact AJ ⟨hp,rfl⟩)
theorem sO(hT:Z4 N T)(q:Nat)(h:RS N T pr s x)(hne:(T s.p).t≠⟨#[]⟩\/(T s.p).k≠0):Rs (numbered q x) (PN N T pr (bs7 T s)):=by
 unfold numbered;refine AK (P:=λy=>PN N T pr (bs7 T s) (mY y)) ?_ λz hz=>hz;unfold ba2 aa1 bs7;rw[eK q h];dsimp only[Option.bind_some];rw[ay4,ay4,ay4];by_cases h1:isP T xU s=true
 ·rw[if_pos h1];exact AL h1 (gn0 hT q h hne 12 99)
 ·rw[if_neg h1];refine AM h1 ?_;by_cases h2:isP T nZ s=true
  ·rw[if_pos h2];exact AL h2 (gn0 hT q h hne 13 999)
  ·rw[if_neg h2];refine AM h2 ?_;by_cases h3:isP T ar8 s=true
   ·rw[if_pos h3];exact AL h3 (gp9 hT q h hne 9 bf7 (by decide))
   ·rw[if_neg h3];exact AM h3 (gp9 hT q h hne 10 bM (by decide))
end
section
variable {T:Nat->Tkn}
theorem Op.of{α:Type}{o o':Nat}{r:PR α}(h:Op o r)(e:o=o'):Op o' r:=e▸h
theorem Op.ite{α:Type}{o:Nat}{c:Prop}[Decidable c]{a b:PR α}(h1:Op o a)(h2:Op o b):Op o (if c then a else b):=by
 by_cases h:c
 ·rw[if_pos h];exact h1
 ·rw[if_neg h];exact h2
theorem gu4(s:PS):Op s.o (kZ T s):=by
 unfold kZ;refine(bj1 s).bind λa s1 e=>?_
 repeat' split
 all_goals first|trivial|exact e
theorem hg8(n:Tr)(s:PS):Op s.o (Lx.endP T n s):=(oI ai6 s).bind λ_ s1 e=>e
theorem gu9(f:Nat)(s:PS):Op s.o (dr6 T f s):=(gu4 s).bind λa s1 e1=>(oI am6 s1).bind λ_ s2 e2=>((oO (T:=T) f).1 1 s2).bind λn s3 e3=>by show s3.o=s.o;omega
theorem ha0(f:Nat)(s:PS):Op s.o (dx1 T f s):=(bj1 s).bind λa s1 e1=>(oI am6 s1).bind λ_ s2 e2=>((oO (T:=T) f).1 1 s2).bind λn s3 e3=>by show s3.o=s.o;omega
theorem fm0(f:Nat)(s:PS):Op s.o (zH T f s):=((oO (T:=T) f).1 1 s).bind λn s1 e1=>(oI mV s1).bind λ_ s2 e2=>(cs4 s2).bind λm s3 e3=>by show s3.o=s.o;omega
theorem fh6(k:Int)(s:PS):Op s.o (dn2 T k s):=(cs4 s).bind λn s1 e1=>e1
theorem fd9(f:Nat)(k:Int)(s:PS):Op s.o (dx0 T f k s):=((oO (T:=T) f).1 1 s).bind λn s1 e1=>e1
theorem fb3(k hi:Int)(s:PS):Op s.o (dq9 T k hi s):=(df1 0 hi s).bind λn s1 e1=>e1
theorem fh8(k:Int)(b:ByteArray)(s:PS):Op s.o (ee4 T k b s):=(df1 0 7 s).bind λn s1 e1=>(oI b s1).bind λ_ s2 e2=>(cs4 s2).bind λm s3 e3=>by show s3.o=s.o;omega
theorem jV{r:PR Tr}{o:Nat}(h:Op o r):Op o (r.bind (Lx.endP T)):=h.bind λn s e=>(hg8 n s).of e
theorem fg4:∀f,(∀s,Op s.o (t8 T f s))/\(∀s,Op s.o (s8 T f s))/\(∀s,Op s.o (m9 T f s)):=by
 intro f
 induction f with
 |zero=>exact⟨λ_=>by rw[t8];trivial,λ_=>by rw[s8];trivial,λ_=>by rw[m9];trivial⟩
 |succ f ih=>
  obtain⟨h1,h2,h3⟩:=ih;refine⟨λs=>?_,λs=>?_,λs=>?_⟩
  ·rw[t8];refine(kG ct2 s).bind λ_ s1 e1=>(h2 s1).bind λl s2 e2=>?_;show s2.o-1=s.o;omega
  ·rw[s8];split
   ·rfl
   ·exact(h3 s).bind λn s1 e1=>(h2 s1).bind λl s2 e2=>by show s2.o=s.o;omega
  ·rw[m9];refine Op.ite ?_ ?_
   ·rw[eh5];exact jV (gu9 f (adv s))
   refine Op.ite ?_ ?_
   ·refine((oO (T:=T) f).1 1 (adv s)).bind λc s1 e1=>(h1 s1).bind λy s2 e2=>?_;have e1:s1.o=s.o:=e1;refine Op.ite ?_ ?_
    ·exact(h1 (adv s2)).bind λn s3 e3=>by
      have e3:s3.o=s2.o:=e3;show s3.o=s.o;omega
    ·show s2.o=s.o;omega
   refine Op.ite ?_ ?_
   ·exact(df1 1 100 (adv s)).bind λn s1 e1=>(h1 s1).bind λy s2 e2=>by
     have e1:s1.o=s.o:=e1;show s2.o=s.o;omega
   refine Op.ite ?_ ?_
   ·rw[cc2];exact jV (fm0 f (adv s))
   refine Op.ite ?_ ?_
   ·rw[bb1];exact jV (fh6 5 (adv s))
   refine Op.ite ?_ ?_
   ·rw[bb1];exact jV (fh6 11 (adv s))
   refine Op.ite ?_ ?_
   ·rw[ba4];exact jV (fd9 f 7 (adv s))
   refine Op.ite ?_ ?_
   ·rw[ba4];exact jV (fd9 f 8 (adv s))
   refine Op.ite ?_ ?_
   ·rw[bb0];exact jV (fh8 9 bf7 (adv s))
   refine Op.ite ?_ ?_
   ·rw[bb0];exact jV (fh8 10 bM (adv s))
   refine Op.ite ?_ ?_
   ·rw[bc1];exact jV (fb3 12 99 (adv s))
   refine Op.ite ?_ ?_
   ·rw[bc1];exact jV (fb3 13 999 (adv s))
   ·rw[er8];exact jV (ha0 f s)
end
abbrev Z0:Type:=Nat×(Nat->Int)×(Nat->Int)×(Nat->ByteArray)×(Nat->Int)×Int×Int×Nat×Nat×(Nat->ByteArray)×(Nat->ByteArray)
abbrev ap8:Type:=(Nat->Int)×(Nat->Int)×(Nat->ByteArray)×(Nat->Nat)×(Nat->Nat->List V)×Nat
def z0(x:StT):Z0:=(x.2.2.1,x.2.2.2.1,x.2.2.2.2.1,x.2.2.2.2.2.1,x.2.2.2.2.2.2.1,x.1,x.2.1,x.2.2.2.2.2.2.2.1,x.2.2.2.2.2.2.2.2.2.1,x.2.2.2.2.2.2.2.2.1,x.2.2.2.2.2.2.2.2.2.2)
def za(x:StT)(a:ap8):Nat×(Nat->Int)×(Nat->Int)×(Nat->ByteArray)×(Nat->Int)×Int×Int×Nat×Nat×(Nat->ByteArray)×(Nat->ByteArray)×ap8:=(x.2.2.1,x.2.2.2.1,x.2.2.2.2.1,x.2.2.2.2.2.1,x.2.2.2.2.2.2.1,x.1,x.2.1,x.2.2.2.2.2.2.2.1,x.2.2.2.2.2.2.2.2.2.1,x.2.2.2.2.2.2.2.2.1,x.2.2.2.2.2.2.2.2.2.2,a)
def zb(x:StT)(a:ap8):Nat×(Nat->Int)×(Nat->Int)×(Nat->ByteArray)×(Nat->Int)×Int×Int×Nat×Nat×(Nat->ByteArray)×(Nat->ByteArray)×Nat×(Nat->Int)×(Nat->Int)×(Nat->ByteArray)×(Nat->Nat)×(Nat->Nat->List V):=(x.2.2.1,x.2.2.2.1,x.2.2.2.2.1,x.2.2.2.2.2.1,x.2.2.2.2.2.2.1,x.1,x.2.1,x.2.2.2.2.2.2.2.1,x.2.2.2.2.2.2.2.2.2.1,x.2.2.2.2.2.2.2.2.1,x.2.2.2.2.2.2.2.2.2.2,a.2.2.2.2.2,a.1,a.2.1,a.2.2.1,a.2.2.2.1,a.2.2.2.2.1)
def X7(l:List Tr)(a:ap8):Prop:=a.2.2.2.2.2=l.length/\∀j t,l[j]? =some t->Z7 t (a.1 j,a.2.1 j,a.2.2.1 j,a.2.2.2.1 j,a.2.2.2.2.1 j)
theorem fi3{f:Nat->List V}:∀(l:List Tr) (i:Nat),(∀j t,l[j]? =some t->∃y:n9,f (i+j)=[i64 y.1,i64 y.2.1,st y.2.2.1,.ro 4 y.2.2.2.1 y.2.2.2.2]/\Z7 t y)->n5 l f i
 | [],_,_=>by simp[n5]
 |t::l,i,h=>by
  simp only[n5];refine⟨h 0 t rfl,fi3 l (i+1) λj t' e=>?_⟩;have:=h (j+1) t' (by simpa using e)
  rwa [show i+(j+1)=i+1+j by omega]at this
theorem X7.node{l:List Tr}{a:ap8}(h:X7 l a):Z7 (.node 14 0 ⟨#[]⟩ l) (14,0,⟨#[]⟩,a.2.2.2.2.2,λj=>[i64 (a.1 j),i64 (a.2.1 j),st (a.2.2.1 j),.ro 4 (a.2.2.2.1 j) (a.2.2.2.2.1 j)]):=by
 simp only[Z7];refine⟨trivial,trivial,trivial,h.1,fi3 l 0 λj t e=>⟨(a.1 j,a.2.1 j,a.2.2.1 j,a.2.2.2.1 j,a.2.2.2.2.1 j),by rw[Nat.zero_add],h.2 j t e⟩⟩
def hm3(y:n9):ap8:=(λ_=>y.1,λ_=>y.2.1,λ_=>y.2.2.1,λ_=>y.2.2.2.1,λ_=>y.2.2.2.2,1)
theorem dq6{t:Tr}{y:n9}(h:Z7 t y):X7 [t] (hm3 y):=by
 refine⟨rfl,λj t' e=>?_⟩;cases j with
 |zero=>simp only[List.getElem?_cons_zero,Option.some.injEq]at e;subst e;exact h
 |succ j=>simp at e
def fn4(a:ap8)(y:n9):ap8:=(λj=>if j<a.2.2.2.2.2 then a.1 j else y.1,λj=>if j<a.2.2.2.2.2 then a.2.1 j else y.2.1,λj=>if j<a.2.2.2.2.2 then a.2.2.1 j else y.2.2.1,λj=>if j<a.2.2.2.2.2 then a.2.2.2.1 j else y.2.2.2.1,λj i=>if j<a.2.2.2.2.2 then a.2.2.2.2.1 j i else y.2.2.2.2 i,a.2.2.2.2.2+1)
theorem ec1{l:List Tr}{a:ap8}{t:Tr}{y:n9}(h:X7 l a)(g:Z7 t y):X7 (l++[t]) (fn4 a y):=by
 refine⟨by simp[fn4,h.1],λj t' e=>?_⟩;by_cases hj:j<l.length
 ·rw[List.getElem?_append_left hj]at e;have:=h.2 j t' e;simp only[fn4,h.1,hj,if_true];exact this
 ·rw[List.getElem?_append_right (by omega)]at e;simp only[fn4,h.1,hj,if_false];cases hk:j-l.length with
  |zero=>rw[hk]at e;simp only[List.getElem?_cons_zero,Option.some.injEq]at e;subst e;exact g
  |succ n=>rw[hk]at e;simp at e
section
variable {N:Nat} {T:Nat->Tkn} {pr:List ByteArray}
def BL(N:Nat)(T:Nat->Tkn)(pr:List ByteArray)(acc:List Tr):PR (List Tr)->jK->Prop
 | .ok l s,.inr (.inl z)=>acc++l=[]/\∃x,z=z0 x/\RS N T pr s x
 | .ok l s,.inr (.inr z)=>∃x a,z=zb x a/\X7 (acc++l) a/\RS N T pr s x
 | .err p c,.inl e=>p<N/\e=((T p).a,c)
 |_,_=>False
def BS(acc:List Tr)(x:StT):gD->Prop
 | .inl y=>acc=[]/\y=z0 x
 | .inr y=>∃a,y=za x a/\X7 acc a
def HS(N:Nat)(T:Nat->Tkn)(pr:List ByteArray)(f q:Nat):Prop:=∀g,g<=f->∀(s:PS) (x:StT),RS N T pr s x->m9 T g s≠ .out->Rs (uE q x) (PN N T pr (m9 T g s))
def HB(N:Nat)(T:Nat->Tkn)(pr:List ByteArray)(f q:Nat):Prop:=∀g,g<=f->∀(s:PS) (x:StT),RS N T pr s x->t8 T g s≠ .out->Rs (block q x) (PN N T pr (t8 T g s))
theorem es7(hT:Z4 N T){f q:Nat}(hS:HS N T pr f q)(x0:StT):∀(g:Nat),g<=f->∀(m:Nat),g<m->∀(acc:List Tr) (s:PS) (x:StT) (y:gD),BS acc x y->acc.length+g<=1000000000->RS N T pr s x->s8 T g s≠ .out->
 Rs (af3 (nC q) (take q) (uE q) m x0 y) (BL N T pr acc (s8 T g s)):=by
 intro g
 induction g with
 |zero=>intro _ m _ acc s x y _ _ _ ho;rw[s8]at ho;exact absurd rfl ho
 |succ g ih=>
  intro hg m hm acc s x y hy hb h ho;obtain⟨m,rfl⟩:∃k,m=k+1:=⟨m-1,by omega⟩;unfold af3;refine AO λQ hQ=>?_;have h0:=h;obtain⟨v,u,rfl,h1,h2,h3,h4,h5,h6⟩:=h;have hop:s8 T (g+1) s=if isP T rN s then .ok [] (adv s)else(m9 T g s).bind λn s1=>(s8 T g s1).bind λl s2=>.ok (n::l) s2:=by rw[s8]
  rcases y with y|y
  ·obtain⟨rfl,rfl⟩:=hy;rw[Sum.elim_inl];unfold wQ U11;dsimp only[z0];rw[fR q (s:=s) (pr:=pr) (N:=N) (T:=T) h0];dsimp only[Option.bind_some];by_cases hi:isP T rN s=true
   ·rw[if_pos hi]at hop⊢;refine AM (by simp) (AJ ?_);show BL N T pr [] (s8 T (g+1) s) _;rw[hop];exact⟨rfl,_,rfl,h0.adv hT (w8 (by decide) hi)⟩
   ·rw[if_neg hi]at hop⊢;refine AL (by simp) ?_;refine AW (hS g (by omega) s _ h0 (AT (hop▸ho))) (λt s2 k1 n1 b1 m1 c1 x1 e hr hx=>?_) (λp c e hp=>?_)
    ·rw[e]at hop;dsimp only[PR.bind]at hop;refine AJ (hQ _ ?_);have ho2:=AT (hop▸ho);refine(ih (by omega) m (by omega) [t] s2 x1 (.inr (za x1 (hm3 (k1,n1,b1,m1,c1)))) ⟨_,rfl,dq6 hr⟩ (by simp;omega) hx ho2).mono λz hz=>?_;rw[hop];cases hr2:s8 T g s2 with
     |out=>exact absurd hr2 ho2
     |err p c=>rw[hr2]at hz;rcases z with z|z|z<;>exact hz
     |ok l s3=>
      rw[hr2]at hz;rcases z with z|z|z
      ·exact hz.elim
      ·exact absurd hz.1 (by simp)
      ·exact hz
    ·refine AJ ?_;show BL N T pr [] (s8 T (g+1) s) _;rw[hop,e];exact⟨hp,rfl⟩
  ·obtain⟨a,rfl,ha⟩:=hy;rw[Sum.elim_inr];unfold vP U17;dsimp only[za];rw[fR q (s:=s) (pr:=pr) (N:=N) (T:=T) h0];dsimp only[Option.bind_some];by_cases hi:isP T rN s=true
   ·rw[if_pos hi]at hop⊢;refine AM (by simp) (AJ ?_);show BL N T pr acc (s8 T (g+1) s) _;rw[hop];exact⟨_,a,rfl,by rw[List.append_nil];exact ha,h0.adv hT (w8 (by decide) hi)⟩
   ·rw[if_neg hi]at hop⊢;refine AL (by simp) ?_;refine AW (hS g (by omega) s _ h0 (AT (hop▸ho))) (λt s2 k1 n1 b1 m1 c1 x1 e hr hx=>?_) (λp c e hp=>?_)
    ·rw[e]at hop;dsimp only[PR.bind]at hop;have hal:=ha.1;refine AL ⟨by unfold b6;omega,by unfold maxLen;omega,Nat.le_refl _⟩ (AJ (hQ _ ?_));have ho2:=AT (hop▸ho);refine(ih (by omega) m (by omega) (acc++[t]) s2 x1 (.inr (za x1 (fn4 a (k1,n1,b1,m1,c1)))) ⟨_,rfl,ec1 ha hr⟩ (by simp;omega) hx ho2).mono λz hz=>?_;rw[hop];cases hr2:s8 T g s2 with
     |out=>exact absurd hr2 ho2
     |err p c=>rw[hr2]at hz;rcases z with z|z|z<;>exact hz
     |ok l s3=>
      rw[hr2]at hz;rcases z with z|z|z
      ·exact hz.elim
      ·exact absurd hz.1 (by simp)
      ·obtain⟨x2,a2,e1,e2,e3⟩:=hz;exact⟨x2,a2,e1,by simpa using e2,e3⟩
    ·refine AJ ?_;show BL N T pr acc (s8 T (g+1) s) _;rw[hop,e];exact⟨hp,rfl⟩
end
section
variable (T:Nat->Tkn)
def brQ(f:Nat)(s:PS):PR Tr:=(l9 T f 1 s).bind λc s1=>(t8 T f s1).bind λy s2=>
 if isP T ax0 s2 then(t8 T f (adv s2)).bind λn s3=>.ok (.node 3 0 ⟨#[]⟩ [c,y,n]) s3 else .ok (.node 3 0 ⟨#[]⟩ [c,y,.node 14 0 ⟨#[]⟩ []]) s2
def ej7(f:Nat)(s:PS):PR Tr:=(mH T 1 100 s).bind λn s1=>(t8 T f s1).bind λy s2=>.ok (.node 4 n ⟨#[]⟩ [y]) s2
end
section
variable {N:Nat} {T:Nat->Tkn} {pr:List ByteArray} {s:PS} {x:StT}
theorem ei4(hT:Z4 N T){f q:Nat}(hq:f<q)(hf:f<=1000000000)(hS:HS N T pr f q)(h:RS N T pr s x)(ho:t8 T (f+1) s≠ .out):Rs (block (q+1) x) (PN N T pr (t8 T (f+1) s)):=by
 show Rs ((ao7 (nC q) (take q) (uE q) (af3 (nC q) (take q) (uE q) q x) x some).map ao9) _;refine AK (P:=λy=>PN N T pr (t8 T (f+1) s) (ao9 y)) ?_ λz hz=>hz;unfold ao7;have hop:t8 T (f+1) s=(fF T ct2 s).bind λ_ s1=>(s8 T f s1).bind λl s2=>.ok (.node 14 0 ⟨#[]⟩ l) (rI s2):=by rw[t8]
 refine AU (bv6 hT q h ct2 (by decide)) (λs1 x1 e1 g1=>?_) (λp c e hp=>?_)
 ·have o1:=kG (T:=T) ct2 s;rw[e1]at hop o1;dsimp only[PR.bind]at hop;have o1:s1.o=s.o+1:=o1;have ho2:=AT (hop▸ho);refine AI (es7 hT hS x f (Nat.le_refl _) q hq [] s1 x1 (.inl (z0 x1)) ⟨rfl,rfl⟩ (by simpa using hf) g1 ho2) λz hz=>?_;rw[hop];have o2:=(fg4 (T:=T) f).2.1 s1;cases hr2:s8 T f s1 with
  |out=>exact absurd hr2 ho2
  |err p c=>
   rw[hr2]at hz;rcases z with z|z|z
   ·exact AJ hz
   ·exact hz.elim
   ·exact hz.elim
  |ok l s2=>
   rw[hr2]at hz o2;have o2:s2.o=s1.o:=o2;rcases z with z|z|z
   ·exact hz.elim
   ·obtain⟨e1,x2,rfl,g3⟩:=hz;simp only[List.nil_append]at e1;subst e1;exact AJ ⟨AQ,g3.close hT (by omega)⟩
   ·obtain⟨x2,a,rfl,ha,g3⟩:=hz;exact AJ ⟨X7.node ha,g3.close hT (by omega)⟩
 ·(rw[hop,e];exact AJ ⟨hp,rfl⟩)
theorem fq6(hT:Z4 N T){f q:Nat}(hB:HB N T pr f q)(h:RS N T pr s x)(hne:(T s.p).t≠⟨#[]⟩\/(T s.p).k≠0)(ho:ej7 T f (adv s)≠ .out):Rs (fd4 (q+1) x) (PN N T pr (ej7 T f (adv s))):=by
 show Rs ((wO (nR q) (block q) x some).map wD) _;refine AK (P:=λy=>PN N T pr (ej7 T f (adv s)) (wD y)) ?_ λz hz=>hz;unfold wO;have hop:ej7 T f (adv s)=(mH T 1 100 (adv s)).bind λn s1=>(t8 T f s1).bind λy s2=>.ok (.node 4 n ⟨#[]⟩ [y]) s2:=rfl;refine AV (ac2 hT q (h.adv hT hne) 1 100) (λa s1 x1 e1 g1=>?_) (λp c e hp=>?_)
 ·rw[e1]at hop;dsimp only[PR.bind]at hop;refine AW (hB f (Nat.le_refl _) s1 x1 g1 (AT (hop▸ho))) (λt s3 k n b m c x3 e hr hx=>?_) (λp c e hp=>?_)
  ·rw[hop,e];exact AJ ⟨AS hr,hx⟩
  ·(rw[hop,e];exact AJ ⟨hp,rfl⟩)
 ·(rw[hop,e];exact AJ ⟨hp,rfl⟩)
theorem fv8(hT:Z4 N T){f q:Nat}(hE:HE N T pr f q)(hB:HB N T pr f q)(h:RS N T pr s x)(hne:(T s.p).t≠⟨#[]⟩\/(T s.p).k≠0)(ho:brQ T f (adv s)≠ .out):Rs (gc3 (q+1) x) (PN N T pr (brQ T f (adv s))):=by
 show Rs ((ad3 (expr q) (block q) (take q) x some).map pI) _;refine AK (P:=λy=>PN N T pr (brQ T f (adv s)) (pI y)) ?_ λz hz=>hz;unfold ad3
 have hop:brQ T f (adv s)=(l9 T f 1 (adv s)).bind λc s1=>(t8 T f s1).bind λy s2=>
  if isP T ax0 s2 then(t8 T f (adv s2)).bind λn s3=>.ok (.node 3 0 ⟨#[]⟩ [c,y,n]) s3 else .ok (.node 3 0 ⟨#[]⟩ [c,y,.node 14 0 ⟨#[]⟩ []]) s2:=rfl
 refine AW (hE f (Nat.le_refl _) 1 (by decide) (by decide) (adv s) _ (h.adv hT hne) (AT ho)) (λt1 s1 k1 n1 b1 m1 c1 x1 e1 hr1 g1=>?_) (λp c e hp=>?_)
 ·rw[e1]at hop;dsimp only[PR.bind]at hop;refine AW (hB f (Nat.le_refl _) s1 x1 g1 (AT (hop▸ho))) (λt2 s2 k2 n2 b2 m2 c2 x2 e2 hr2 g2=>?_) (λp c e hp=>?_)
  ·rw[e2]at hop;dsimp only[PR.bind]at hop;rw[fR q g2];dsimp only[Option.bind_some];by_cases hi:isP T ax0 s2=true
   ·rw[if_pos hi]at hop⊢;refine AL rfl ?_;refine AW (hB f (Nat.le_refl _) (adv s2) _ (g2.adv hT (w8 (by decide) hi)) (AT (hop▸ho))) (λt3 s3 k3 n3 b3 m3 c3 x3 e hr hx=>?_) (λp c e hp=>?_)
    ·rw[hop,e];refine AJ ⟨?_,hx⟩;simp only[Z7,n5,List.length_cons,List.length_nil,pI,Sum.elim_inl];exact⟨trivial,trivial,trivial,trivial,⟨(k1,n1,b1,m1,c1),rfl,hr1⟩,⟨(k2,n2,b2,m2,c2),rfl,hr2⟩,⟨(k3,n3,b3,m3,c3),rfl,hr⟩,trivial⟩
    ·(rw[hop,e];exact AJ ⟨hp,rfl⟩)
   ·rw[if_neg hi]at hop⊢;refine AM (by simp) ?_;rw[hop];refine AJ ⟨?_,g2⟩;simp only[Z7,n5,List.length_cons,List.length_nil,pI,Sum.elim_inl];exact⟨trivial,trivial,trivial,trivial,⟨(k1,n1,b1,m1,c1),rfl,hr1⟩,⟨(k2,n2,b2,m2,c2),rfl,hr2⟩,⟨(14,0,⟨#[]⟩,0,λ_=>[]),rfl,by simp⟩,trivial⟩
  ·(rw[hop,e];exact AJ ⟨hp,rfl⟩)
 ·(rw[hop,e];exact AJ ⟨hp,rfl⟩)
theorem kU(hT:Z4 N T)(q:Nat){r:PR Tr}{o:Option b7}(h:Rs o (PN N T pr r)):
 Rs (o.bind λz=>Sum.elim (λza=>(uR q (ai6,za.2.2.2.2.2)).bind λy=>Sum.elim (λya=>(some (.inl (za.1,za.2.1,za.2.2.1,za.2.2.2.1,za.2.2.2.2.1,ya)):Option b7)) (λyb=>some (.inr yb)) y) (λzb=>some (.inr zb)) z) (λy=>PN N T pr (r.bind (Lx.endP T)) (dA y)):=by
 refine AW h (λt s3 k n b m c x3 e hr hx=>?_) (λp c e hp=>?_)
 ·subst e;refine AU (mB hT q hx ai6 (by decide)) (λs4 x4 e4 g4=>?_) (λp c e hp=>?_)
  ·show Rs _ λy=>PN N T pr (Lx.endP T t s3) (dA y);unfold Lx.endP;rw[e4];exact AJ ⟨hr,g4⟩
  ·show Rs _ λy=>PN N T pr (Lx.endP T t s3) (dA y);unfold Lx.endP;rw[e];exact AJ ⟨hp,rfl⟩
 ·subst e;exact AJ ⟨hp,rfl⟩
theorem fg3{r:PR Tr}{o:Option b7}(h:Rs o (PN N T pr r)):
 Rs (o.bind λz=>Sum.elim (λza=>(some (.inl za):Option b7)) (λzb=>some (.inr zb)) z) (λy=>PN N T pr r (dA y)):=by
 refine AW h (λt s3 k n b m c x3 e hr hx=>?_) (λp c e hp=>?_)
 ·subst e;exact AJ ⟨hr,hx⟩
 ·subst e;exact AJ ⟨hp,rfl⟩
theorem af9{a b:ByteArray}(hab:a≠b)(h:isP T a s=true):¬isP T b s=true:=by
 simp only[isP,decide_eq_true_eq]at h⊢;rw[h];exact hab
theorem fp6(hT:Z4 N T){f q:Nat}(hq:20<=q)(hE:HE N T pr f (q+1))(hE0:HE N T pr f q)(hB:HB N T pr f q)(h:RS N T pr s x)(ho:m9 T (f+1) s≠ .out):Rs (uE (q+2) x) (PN N T pr (m9 T (f+1) s)):=by
 show Rs ((oU (next (q+1)) (go3 (q+1)) (gc3 (q+1)) (fd4 (q+1)) (await (q+1)) (bo9 (q+1)) (bt8 (q+1)) (numbered (q+1)) (assign (q+1)) (uR (q+1)) x some).map dA) _;refine AK (P:=λy=>PN N T pr (m9 T (f+1) s) (dA y)) ?_ λz hz=>hz;unfold oU;rw[eK (q+1) h];dsimp only[Option.bind_some];simp only[ay4]
 have hop:m9 T (f+1) s=if isP T bo5 s then(kZ T (adv s)).bind λx s1=>ba1 T f 1 x s1
  else if isP T ex2 s then brQ T f (adv s)
  else if isP T qD s then ej7 T f (adv s)
  else if isP T wX s then an3 T f (adv s)
  else if isP T am9 s then bz0 T 5 (adv s)
  else if isP T tC s then bz0 T 11 (adv s)
  else if isP T lF s then oneP T f 7 (adv s)
  else if isP T mA s then oneP T f 8 (adv s)
  else if isP T ar8 s then bu8 T 9 bf7 (adv s)
  else if isP T aj4 s then bu8 T 10 bM (adv s)
  else if isP T xU s then cb2 T 12 99 (adv s)
  else if isP T nZ s then cb2 T 13 999 (adv s)
  else(aQ T s).bind λx s1=>ba1 T f 2 x s1:=by rw[m9];rfl
 by_cases c1:isP T bo5 s=true
 ·rw[if_pos c1,eh5]at hop;rw[hop];exact AL c1 (kU hT (q+1) (hn8 hT (by omega) hE h (w8 (by decide) c1) (AT (hop▸ho))))
 rw[if_neg c1]at hop;refine AM c1 ?_;by_cases c2:isP T ex2 s=true
 ·rw[if_pos c2]at hop;rw[hop];exact AL c2 (fg3 (fv8 hT hE0 hB h (w8 (by decide) c2) (hop▸ho)))
 rw[if_neg c2]at hop;refine AM c2 ?_;by_cases c3:isP T qD s=true
 ·rw[if_pos c3]at hop;rw[hop];exact AL c3 (fg3 (fq6 hT hB h (w8 (by decide) c3) (hop▸ho)))
 rw[if_neg c3]at hop;refine AM c3 ?_;by_cases c4:isP T wX s=true
 ·rw[if_pos c4,cc2]at hop;rw[hop];exact AL c4 (kU hT (q+1) (gg9 hT hE h (w8 (by decide) c4) (AT (hop▸ho))))
 rw[if_neg c4]at hop;refine AM c4 ?_;by_cases c5:isP T am9 s=true
 ·rw[if_pos c5,bb1]at hop;rw[hop];have:=cj1 hT (q+1) h (w8 (by decide) c5);rw[if_neg (af9 (by decide) c5)]at this;exact AL c5 (kU hT (q+1) this)
 rw[if_neg c5]at hop;refine AM c5 ?_;by_cases c6:isP T tC s=true
 ·rw[if_pos c6,bb1]at hop;rw[hop];have:=cj1 hT (q+1) h (w8 (by decide) c6);rw[if_pos c6]at this;exact AL c6 (kU hT (q+1) this)
 rw[if_neg c6]at hop;refine AM c6 ?_;by_cases c7:isP T lF s=true
 ·rw[if_pos c7,ba4]at hop;rw[hop];have:=cm4 hT hE h (w8 (by decide) c7) (AT (AT (hop▸ho)));rw[if_neg (af9 (by decide) c7)]at this;exact AL c7 (kU hT (q+1) this)
 rw[if_neg c7]at hop;refine AM c7 ?_;by_cases c8:isP T mA s=true
 ·rw[if_pos c8,ba4]at hop;rw[hop];have:=cm4 hT hE h (w8 (by decide) c8) (AT (AT (hop▸ho)));rw[if_pos c8]at this;exact AL c8 (kU hT (q+1) this)
 rw[if_neg c8]at hop;refine AM c8 ?_;by_cases c9:isP T ar8 s=true
 ·rw[if_pos c9,bb0]at hop;rw[hop];have:=sO hT (q+1) h (w8 (by decide) c9);unfold bs7 at this;rw[if_neg (af9 (by decide) c9),if_neg (af9 (by decide) c9),if_pos c9]at this;exact AL c9 (kU hT (q+1) this)
 rw[if_neg c9]at hop;refine AM c9 ?_;by_cases c10:isP T aj4 s=true
 ·rw[if_pos c10,bb0]at hop;rw[hop];have:=sO hT (q+1) h (w8 (by decide) c10);unfold bs7 at this;rw[if_neg (af9 (by decide) c10),if_neg (af9 (by decide) c10),if_neg c9]at this;exact AL c10 (kU hT (q+1) this)
 rw[if_neg c10]at hop;refine AM c10 ?_;by_cases c11:isP T xU s=true
 ·rw[if_pos c11,bc1]at hop;rw[hop];have:=sO hT (q+1) h (w8 (by decide) c11);unfold bs7 at this;rw[if_pos c11]at this;exact AL c11 (kU hT (q+1) this)
 rw[if_neg c11]at hop;refine AM c11 ?_;by_cases c12:isP T nZ s=true
 ·rw[if_pos c12,bc1]at hop;rw[hop];have:=sO hT (q+1) h (w8 (by decide) c12);unfold bs7 at this;rw[if_neg c11,if_pos c12]at this;exact AL c12 (kU hT (q+1) this)
 rw[if_neg c12]at hop;refine AM c12 ?_;rw[er8]at hop;rw[hop];exact kU hT (q+1) (fq7 hT hE h (AT (hop▸ho)))
end
section
variable {N:Nat} {T:Nat->Tkn} {pr:List ByteArray}
theorem hq5(hT:Z4 N T):∀f,f<=1000000000->∀q,2*f+22<=q->HS N T pr f q/\HB N T pr f q:=by
 intro f
 induction f with
 |zero=>
  intro _ q _;refine⟨λg hg s x _ ho=>?_,λg hg s x _ ho=>?_⟩
  all_goals
   obtain rfl:g=0:=by omega
  ·rw[m9]at ho;exact absurd rfl ho
  ·rw[t8]at ho;exact absurd rfl ho
 |succ f ih=>
  intro hf q hq;obtain⟨q,rfl⟩:∃k,q=k+2:=⟨q-2,by omega⟩;obtain⟨a1,a2⟩:=ih (by omega) (q+2) (by omega);obtain⟨b1,b2⟩:=ih (by omega) (q+1) (by omega);obtain⟨c1,c2⟩:=ih (by omega) q (by omega);refine⟨λg hg s x h ho=>?_,λg hg s x h ho=>?_⟩
  ·by_cases e:g<=f
   ·exact a1 g e s x h ho
   ·obtain rfl:g=f+1:=by omega
    exact fp6 hT (by omega) (hf6 hT f (q+1) (by omega)).1 (hf6 hT f q (by omega)).1 c2 h ho
  ·by_cases e:g<=f
   ·exact a2 g e s x h ho
   ·obtain rfl:g=f+1:=by omega
    exact ei4 hT (by omega) (by omega) b1 h ho
end
section
variable (T:Nat->Tkn)
def bD:Nat->PS->PR (List Prm)
 |0,_=>.out
 |f+1,s=>(ak6 T s).bind λx s1=>if isP T bM s1 then(bD f (adv s1)).bind λl s2=>.ok (x::l) s2 else .ok [x] s1
theorem dg5:∀f s,aj0 T f s=(bD T f s).bind λl s2=>(x7 T dV s2).bind λ_ s3=>.ok l s3
 |0,s=>by rw[aj0,bD];rfl
 |f+1,s=>by
  rw[aj0,bD,AX];congr 1;funext x s1;by_cases h:isP T bM s1=true
  ·rw[if_pos h,if_pos h,dg5 f,AX,AX];congr 1;funext l s2;show((x7 T dV s2).bind λ_ s3=>PR.ok l s3).bind _=(x7 T dV s2).bind _;rw[AX];rfl
  ·rw[if_neg h,if_neg h];rfl
end
abbrev PrT:Type:=(Nat->ByteArray)×(Nat->ByteArray)×Nat
def zq(x:StT)(a:PrT):Nat×(Nat->Int)×(Nat->Int)×(Nat->ByteArray)×(Nat->Int)×Int×Int×Nat×Nat×(Nat->ByteArray)×(Nat->ByteArray)×PrT:=(x.2.2.1,x.2.2.2.1,x.2.2.2.2.1,x.2.2.2.2.2.1,x.2.2.2.2.2.2.1,x.1,x.2.1,x.2.2.2.2.2.2.2.1,x.2.2.2.2.2.2.2.2.2.1,x.2.2.2.2.2.2.2.2.1,x.2.2.2.2.2.2.2.2.2.2,a)
def X2(l:List Prm)(a:PrT):Prop:=a.2.2=l.length/\∀j m,l[j]? =some m->a.1 j=m.x/\a.2.1 j=m.u
def gu0(x u:ByteArray):PrT:=(λ_=>x,λ_=>u,1)
theorem aa3(x u:ByteArray):X2 [⟨x,u⟩] (gu0 x u):=by
 refine⟨rfl,λj m e=>?_⟩;cases j with
 |zero=>simp only[List.getElem?_cons_zero,Option.some.injEq]at e;subst e;exact⟨rfl,rfl⟩
 |succ j=>simp at e
def eq6(a:PrT)(x u:ByteArray):PrT:=(λj=>if j<a.2.2 then a.1 j else x,λj=>if j<a.2.2 then a.2.1 j else u,a.2.2+1)
theorem zV{l:List Prm}{a:PrT}(h:X2 l a)(x u:ByteArray):X2 (l++[⟨x,u⟩]) (eq6 a x u):=by
 refine⟨by simp[eq6,h.1],λj m e=>?_⟩;by_cases hj:j<l.length
 ·rw[List.getElem?_append_left hj]at e;have:=h.2 j m e;simp only[eq6,h.1,hj,if_true];exact this
 ·rw[List.getElem?_append_right (by omega)]at e;simp only[eq6,h.1,hj,if_false];cases hk:j-l.length with
  |zero=>rw[hk]at e;simp only[List.getElem?_cons_zero,Option.some.injEq]at e;subst e;exact⟨rfl,rfl⟩
  |succ n=>rw[hk]at e;simp at e
section
variable {N:Nat} {T:Nat->Tkn} {pr:List ByteArray}
def BQ(N:Nat)(T:Nat->Tkn)(pr:List ByteArray)(acc:List Prm):PR (List Prm)->gW->Prop
 | .ok l s,.inr z=>∃x a,z=zq x a/\X2 (acc++l) a/\RS N T pr s x
 | .err p c,.inl e=>p<N/\e=((T p).a,c)
 |_,_=>False
def QS(acc:List Prm)(x:StT):eJ->Prop
 | .inl y=>acc=[]/\y=z0 x
 | .inr y=>∃a,y=zq x a/\X2 acc a
theorem gf6{s:PS}{x:StT}(h:RS N T pr (adv s) x):s.p+1<N:=h.choose_spec.choose_spec.2.2.2.1
theorem fw9(hT:Z4 N T){q:Nat}(hq:20<=q)(x0:SP):∀(g:Nat),∀(m:Nat),g<m->∀(acc:List Prm) (s:PS) (x:StT) (y:eJ),QS acc x y->acc.length+g<=1000000000->RS N T pr s x->bD T g s≠ .out->
 Rs (ak7 (uR q) (take q) (wB q) (next q) (dG q) (fail q) m x0 y) (BQ N T pr acc (bD T g s)):=by
 intro g
 induction g with
 |zero=>intro m _ acc s x y _ _ _ ho;rw[bD]at ho;exact absurd rfl ho
 |succ g ih=>
  intro m hm acc s x y hy hb h ho;obtain⟨m,rfl⟩:∃k,m=k+1:=⟨m-1,by omega⟩;unfold ak7;refine AO λQ hQ=>?_;have h0:=h;obtain⟨v,u,rfl,h1,h2,h3,h4,h5,h6⟩:=h;have hop:bD T (g+1) s=(ak6 T s).bind λx s1=>if isP T bM s1 then(bD T g (adv s1)).bind λl s2=>.ok (x::l) s2 else .ok [x] s1:=by rw[bD]
  have hpp:ak6 T s=(kZ T s).bind λx s1=>if isP T vY s1 then(if(T (s1.p+1)).k≠1 then .err (s1.p+1) 11 else if jW (T (s1.p+1)).t=false then .err (s1.p+1) 10 else .ok ⟨x,(T (s1.p+1)).t⟩ (adv (adv s1)))else .ok ⟨x,⟨#[]⟩⟩ s1:=rfl
  rcases y with y|y
  ·obtain⟨rfl,rfl⟩:=hy;rw[Sum.elim_inl];unfold sX U11;dsimp only[z0,zq];refine AV (an7 hT q hq h0) (λb s1 x1 e1 g1=>?_) (λp c e hp=>?_)
   ·rw[e1]at hpp;dsimp only[PR.bind]at hpp⊢;rw[fR q g1];dsimp only[Option.bind_some];by_cases hc:isP T vY s1=true
    ·rw[if_pos hc]at hpp⊢;refine AL rfl ?_;have g2:=AP hT g1 (w8 (by decide) hc);have hl2:s1.p+1<N:=gf6 g2;rw[eK q g2];dsimp only[Option.bind_some];refine AI (aw9 q (T (adv s1).p).t) λz hz=>?_;by_cases hk:(T (s1.p+1)).k=1
     ·refine AM (by simpa[Lx.adv]using hk) ?_;rw[if_neg (λh=>h hk)]at hpp;by_cases hu:jW (T (s1.p+1)).t=false
      ·rw[if_pos hu]at hpp;rw[hpp]at hop;refine AL (by rw[hz];simpa[Lx.adv]using hu) ?_;rw[eI q g2];refine AJ ?_;show BQ N T pr [] (bD T (g+1) s) _;rw[hop];exact⟨hl2,rfl⟩
      ·rw[if_neg hu]at hpp;rw[hpp]at hop;dsimp only[PR.bind]at hop;refine AM (by rw[hz];simpa[Lx.adv]using hu) ?_;have g3:=AP hT g2 (.inr (by show(T (s1.p+1)).k≠0;rw[hk];decide));dsimp only at g3⊢;rw[fR q g3];dsimp only[Option.bind_some];by_cases hi:isP T bM (adv (adv s1))=true
       ·rw[if_pos hi]at hop⊢;refine AM (by simp) (AJ (hQ _ ?_));have ho2:=AT (hop▸ho);refine(ih m (by omega) ([]++[⟨b,(T (s1.p+1)).t⟩]) (adv (adv (adv s1))) _ (.inr (zq (w ((w (w (x1.1+1)+1),x1.2).1+1),(w (w (x1.1+1)+1),x1.2).2) (gu0 b (T (s1.p+1)).t))) ⟨_,rfl,(aa3 b (T (s1.p+1)).t)⟩ (by simp at hb⊢;omega) (AP hT g3 (w8 (by decide) hi)) ho2).mono λz hz=>?_;rw[hop];cases hr2:bD T g (adv (adv (adv s1)))with
        |out=>exact absurd hr2 ho2
        |err p c=>rw[hr2]at hz;rcases z with z|z<;>exact hz
        |ok l s3=>
         rw[hr2]at hz;rcases z with z|z
         ·exact hz.elim
         ·obtain⟨x2,a2,e1,e2,e3⟩:=hz;exact⟨x2,a2,e1,by simpa using e2,e3⟩
       ·rw[if_neg hi]at hop⊢;refine AL (by simp) (AJ ?_);show BQ N T pr [] (bD T (g+1) s) _;rw[hop];exact⟨_,_,rfl,(aa3 b (T (s1.p+1)).t),g3⟩
     ·rw[if_pos hk]at hpp;rw[hpp]at hop;refine AL (by simpa[Lx.adv]using hk) ?_;rw[eI q g2];refine AJ ?_;show BQ N T pr [] (bD T (g+1) s) _;rw[hop];exact⟨hl2,rfl⟩
    ·rw[if_neg hc]at hpp⊢;rw[hpp]at hop;dsimp only[PR.bind]at hop;refine AM (by simp) ?_;dsimp only;rw[fR q g1];dsimp only[Option.bind_some];by_cases hi:isP T bM s1=true
     ·rw[if_pos hi]at hop⊢;refine AM (by simp) (AJ (hQ _ ?_));have ho2:=AT (hop▸ho);refine(ih m (by omega) ([]++[⟨b,⟨#[]⟩⟩]) (adv s1) _ (.inr (zq (w (x1.1+1),x1.2) (gu0 b ⟨#[]⟩))) ⟨_,rfl,(aa3 b ⟨#[]⟩)⟩ (by simp at hb⊢;omega) (AP hT g1 (w8 (by decide) hi)) ho2).mono λz hz=>?_;rw[hop];cases hr2:bD T g (adv s1)with
      |out=>exact absurd hr2 ho2
      |err p c=>rw[hr2]at hz;rcases z with z|z<;>exact hz
      |ok l s3=>
       rw[hr2]at hz;rcases z with z|z
       ·exact hz.elim
       ·obtain⟨x2,a2,e1,e2,e3⟩:=hz;exact⟨x2,a2,e1,by simpa using e2,e3⟩
     ·rw[if_neg hi]at hop⊢;refine AL (by simp) (AJ ?_);show BQ N T pr [] (bD T (g+1) s) _;rw[hop];exact⟨_,_,rfl,(aa3 b ⟨#[]⟩),g1⟩
   ·rw[e]at hpp;rw[hpp]at hop;refine AJ ?_;show BQ N T pr [] (bD T (g+1) s) _;rw[hop];exact⟨hp,rfl⟩
  ·obtain⟨a,rfl,ha⟩:=hy;have hal:=ha.1;rw[Sum.elim_inr];unfold tB U14;dsimp only[z0,zq];refine AV (an7 hT q hq h0) (λb s1 x1 e1 g1=>?_) (λp c e hp=>?_)
   ·rw[e1]at hpp;dsimp only[PR.bind]at hpp⊢;rw[fR q g1];dsimp only[Option.bind_some];by_cases hc:isP T vY s1=true
    ·rw[if_pos hc]at hpp⊢;refine AL rfl ?_;have g2:=AP hT g1 (w8 (by decide) hc);have hl2:s1.p+1<N:=gf6 g2;rw[eK q g2];dsimp only[Option.bind_some];refine AI (aw9 q (T (adv s1).p).t) λz hz=>?_;by_cases hk:(T (s1.p+1)).k=1
     ·refine AM (by simpa[Lx.adv]using hk) ?_;rw[if_neg (λh=>h hk)]at hpp;by_cases hu:jW (T (s1.p+1)).t=false
      ·rw[if_pos hu]at hpp;rw[hpp]at hop;refine AL (by rw[hz];simpa[Lx.adv]using hu) ?_;rw[eI q g2];refine AJ ?_;show BQ N T pr acc (bD T (g+1) s) _;rw[hop];exact⟨hl2,rfl⟩
      ·rw[if_neg hu]at hpp;rw[hpp]at hop;dsimp only[PR.bind]at hop;refine AM (by rw[hz];simpa[Lx.adv]using hu) ?_;have g3:=AP hT g2 (.inr (by show(T (s1.p+1)).k≠0;rw[hk];decide));dsimp only at g3⊢;refine AL ⟨by unfold b6;omega,by unfold maxLen;omega,Nat.le_refl _⟩ ?_;rw[fR q g3];dsimp only[Option.bind_some];by_cases hi:isP T bM (adv (adv s1))=true
       ·rw[if_pos hi]at hop⊢;refine AM (by simp) (AJ (hQ _ ?_));have ho2:=AT (hop▸ho);refine(ih m (by omega) (acc++[⟨b,(T (s1.p+1)).t⟩]) (adv (adv (adv s1))) _ (.inr (zq (w ((w (w (x1.1+1)+1),x1.2).1+1),(w (w (x1.1+1)+1),x1.2).2) (eq6 a b (T (s1.p+1)).t))) ⟨_,rfl,(zV ha b (T (s1.p+1)).t)⟩ (by simp at hb⊢;omega) (AP hT g3 (w8 (by decide) hi)) ho2).mono λz hz=>?_;rw[hop];cases hr2:bD T g (adv (adv (adv s1)))with
        |out=>exact absurd hr2 ho2
        |err p c=>rw[hr2]at hz;rcases z with z|z<;>exact hz
        |ok l s3=>
         rw[hr2]at hz;rcases z with z|z
         ·exact hz.elim
         ·obtain⟨x2,a2,e1,e2,e3⟩:=hz;exact⟨x2,a2,e1,by simpa using e2,e3⟩
       ·rw[if_neg hi]at hop⊢;refine AL (by simp) (AJ ?_);show BQ N T pr acc (bD T (g+1) s) _;rw[hop];exact⟨_,_,rfl,(zV ha b (T (s1.p+1)).t),g3⟩
     ·rw[if_pos hk]at hpp;rw[hpp]at hop;refine AL (by simpa[Lx.adv]using hk) ?_;rw[eI q g2];refine AJ ?_;show BQ N T pr acc (bD T (g+1) s) _;rw[hop];exact⟨hl2,rfl⟩
    ·rw[if_neg hc]at hpp⊢;rw[hpp]at hop;dsimp only[PR.bind]at hop;refine AM (by simp) ?_;dsimp only;refine AL ⟨by unfold b6;omega,by unfold maxLen;omega,Nat.le_refl _⟩ ?_;rw[fR q g1];dsimp only[Option.bind_some];by_cases hi:isP T bM s1=true
     ·rw[if_pos hi]at hop⊢;refine AM (by simp) (AJ (hQ _ ?_));have ho2:=AT (hop▸ho);refine(ih m (by omega) (acc++[⟨b,⟨#[]⟩⟩]) (adv s1) _ (.inr (zq (w (x1.1+1),x1.2) (eq6 a b ⟨#[]⟩))) ⟨_,rfl,(zV ha b ⟨#[]⟩)⟩ (by simp at hb⊢;omega) (AP hT g1 (w8 (by decide) hi)) ho2).mono λz hz=>?_;rw[hop];cases hr2:bD T g (adv s1)with
      |out=>exact absurd hr2 ho2
      |err p c=>rw[hr2]at hz;rcases z with z|z<;>exact hz
      |ok l s3=>
       rw[hr2]at hz;rcases z with z|z
       ·exact hz.elim
       ·obtain⟨x2,a2,e1,e2,e3⟩:=hz;exact⟨x2,a2,e1,by simpa using e2,e3⟩
     ·rw[if_neg hi]at hop⊢;refine AL (by simp) (AJ ?_);show BQ N T pr acc (bD T (g+1) s) _;rw[hop];exact⟨_,_,rfl,(zV ha b ⟨#[]⟩),g1⟩
   ·rw[e]at hpp;rw[hpp]at hop;refine AJ ?_;show BQ N T pr acc (bD T (g+1) s) _;rw[hop];exact⟨hp,rfl⟩
end
section
variable {N:Nat} {T:Nat->Tkn} {pr:List ByteArray} {s:PS} {x:StT}
def PPm(N:Nat)(T:Nat->Tkn)(pr:List ByteArray):PR (List Prm)->(Nat×(Nat->ByteArray)×(Nat->ByteArray)×StT)⊕(Int×Int)->Prop
 | .ok l s,.inl z=>X2 l (z.2.1,z.2.2.1,z.1)/\RS N T pr s z.2.2.2
 | .err p c,.inr e=>p<N/\e=((T p).a,c)
 |_,_=>False
theorem ej0(hT:Z4 N T){f q:Nat}(hq:20<=q)(hf:f<q)(hf2:f<=1000000000)(h:RS N T pr s x)(ho:aU T f s≠ .out):Rs (bi6 q x) (λy=>PPm N T pr (aU T f s) (ac1 y)):=by
 unfold bi6 ax6
 have hop:aU T f s=(x7 T kB s).bind λ_ s1=>if isP T dV s1 then .ok [] (adv s1)else(bD T f s1).bind λl s2=>(x7 T dV s2).bind λ_ s3=>.ok l s3:=by
  unfold aU;simp only[dg5]
 refine AU (mB hT q h kB (by decide)) (λs1 x1 e1 g1=>?_) (λp c e hp=>?_)
 ·rw[e1]at hop;dsimp only[PR.bind]at hop;rw[fR q g1];dsimp only[Option.bind_some];by_cases hi:isP T dV s1=true
  ·rw[if_pos hi]at hop⊢;refine AL rfl ?_;rw[hop];exact AJ ⟨⟨rfl,λj m e=>by simp at e⟩,g1.adv hT (w8 (by decide) hi)⟩
  ·rw[if_neg hi]at hop⊢;refine AM (by simp) ?_;have ho2:=AT (hop▸ho);refine AI (fw9 hT hq x f q hf [] s1 x1 (.inl (z0 x1)) ⟨rfl,rfl⟩ (by simpa using hf2) g1 ho2) λz hz=>?_;cases hr2:bD T f s1 with
   |out=>exact absurd hr2 ho2
   |err p c=>
    rw[hr2]at hz hop;rcases z with z|z
    ·rw[hop];exact AJ hz
    ·exact hz.elim
   |ok l s2=>
    rw[hr2]at hz hop;dsimp only[PR.bind]at hop;rcases z with z|z
    ·exact hz.elim
    ·obtain⟨x2,a,rfl,ha,g3⟩:=hz;refine AU (mB hT q g3 dV (by decide)) (λs3 x3 e g4=>?_) (λp c e hp=>?_)
     ·rw[hop,e];exact AJ ⟨ha,g4⟩
     ·(rw[hop,e];exact AJ ⟨hp,rfl⟩)
 ·(rw[hop,e];exact AJ ⟨hp,rfl⟩)
theorem fv5(hT:Z4 N T){f q:Nat}(hq:20<=q)(hf:f<q)(hf2:f<=1000000000){u:Nat->ByteArray}(hu:Ag u pr)(hp:s.p<N)(ho4:s.o<=12)(hl:pr.length<=2000000000)(ho:aU T f {s with vs:=[]}≠ .out):
 Rs (params q (((s.p:Nat):Int),((s.o:Nat):Int),N,(λj=>(T j).k),(λj=>(T j).a),(λj=>(T j).t),(λj=>(T j).n),pr.length,u)) (PPm N T pr (aU T f {s with vs:=[]})):=by
 unfold params;refine AK (P:=λy=>PPm N T pr (aU T f {s with vs:=[]}) (ac1 y)) ?_ λz hz=>hz;exact ej0 hT hq hf hf2 (s:={s with vs:=[]}) ⟨λ_=>ByteArray.empty,u,rfl,λj b e=>by simp at e,hu,hp,ho4,by simp,hl⟩ ho
def hn1(c:Prc)(z:ByteArray×Nat×(Nat->ByteArray)×(Nat->ByteArray)×n9):Prop:=z.1=c.x/\X2 c.ps (z.2.2.1,z.2.2.2.1,z.2.1)/\Z7 c.b z.2.2.2.2
def PC(N:Nat)(T:Nat->Tkn)(pr:List ByteArray):PR Prc->m8->Prop
 | .ok c s,.inl z=>hn1 c (z.1,z.2.1,z.2.2.1,z.2.2.2.1,z.2.2.2.2.1,z.2.2.2.2.2.1,z.2.2.2.2.2.2.1,z.2.2.2.2.2.2.2.1,z.2.2.2.2.2.2.2.2.1)/\RS N T (pr++[c.x]) s z.2.2.2.2.2.2.2.2.2
 | .err p c,.inr e=>p<N/\e=((T p).a,c)
 |_,_=>False
theorem en5(q:Nat)(x0:SP)(a:ByteArray){v u:Nat->ByteArray}(h1:Ag v s.vs)(h2:Ag u pr)(h3:s.p<N)(hN:N<=4001)(h4:s.o<=12)(h5:s.vs.length<=12)(h6:pr.length<=2000000000):
 ∀(n i m:Nat),i+n=pr.length->n<m->(∀j,j<i->pr[j]? ≠some a)->
 Rs (lpG (λy=>fW (uR q) (name q) (fail q) (params q) (block q) x0 y (λy=>some (.inl y)) (λz=>some (.inr z))) m (pr.length,((pr.length:Nat):Int),N,(λj=>(T j).k),(λj=>(T j).a),(λj=>(T j).t),(λj=>(T j).n),(((s.p+1:Nat):Nat):Int),((s.o:Nat):Int),s.vs.length,v,u,a,((i:Nat):Int)))
  (λz=>if inP pr a then z= .inl ((T s.p).a,4)else z= .inr (N,(λj=>(T j).k),(λj=>(T j).a),(λj=>(T j).t),(λj=>(T j).n),(((s.p+1:Nat):Nat):Int),((s.o:Nat):Int),s.vs.length,pr.length,v,u,a)):=by
 intro n
 induction n with
 |zero=>
  intro i m hi hm hno;obtain⟨m,rfl⟩:∃k,m=k+1:=⟨m-1,by omega⟩;refine Rs.step ?_;unfold fW U14;dsimp only;refine AM (by simp;omega) (AJ ?_)
  have hnin:¬inP pr a=true:=by
   rw[oS,List.mem_iff_getElem?];rintro⟨j,hj⟩;have:=(List.getElem?_eq_some_iff.1 hj).1;exact hno j (by omega) hj
  show(if inP pr a then _ else _);rw[if_neg hnin]
 |succ n ih=>
  intro i m hi hm hno;obtain⟨m,rfl⟩:∃k,m=k+1:=⟨m-1,by omega⟩;refine Rs.step ?_;unfold fW U14;dsimp only;refine AL (by simp;omega) (AL ⟨by omega,by omega⟩ (AL ⟨by simp;omega,rfl⟩ ?_))
  have hget:pr[i]? =some (u i):=by
   have hlt:i<pr.length:=by omega
   have:=List.getElem?_eq_getElem hlt;rw[this,h2 i _ this]
  have e:0+Int.toNat ((i:Nat):Int)=i:=by omega
  rw[e];refine Rs.ite (λheq=>?_) (λhne=>?_)
  ·rw[tl_eq]at heq
   have hin:inP pr a=true:=by
    rw[oS,<-heq];exact List.mem_iff_getElem?.2 ⟨i,hget⟩
   have e2:w ((((s.p+1:Nat):Nat):Int)-1)=((s.p:Nat):Int):=by rw[dJ (by omega) (by omega)];omega
   rw[e2,eI q (s:=s) (pr:=pr) (N:=N) (T:=T) ⟨v,u,rfl,h1,h2,h3,h4,h5,h6⟩];refine AJ ?_;show(if inP pr a then _ else _);rw[if_pos hin]
  ·rw[tl_eq]at hne;refine AJ ?_;show Rs (lpG _ m _) _;rw[o7 (by omega)];refine ih (i+1) m (by omega) (by omega) λj hj=>?_;by_cases hji:j=i
   ·subst hji;rw[hget];simpa using hne
   ·exact hno j (by omega)
theorem oR(hT:Z4 N T){f q:Nat}(hq:2*f+2000000100<=q)(hf2:f<=1000000000)(h:RS N T pr s x)(hl:pr.length<=1999999999)(ho:iD T f pr s≠ .out):Rs (bI q x) (PC N T pr (iD T f pr s)):=by
 unfold bI yP;have hop:iD T f pr s=(x7 T aS s).bind λ_ s1=>(aQ T s1).bind λx s2=>if inP pr x then .err s1.p 4 else(aU T f {s2 with vs:=[]}).bind λl s3=>(t8 T f s3).bind λb s4=>.ok ⟨x,l,b⟩ s4:=rfl
 refine AU (mB hT q h aS (by decide)) (λs1 x1 e1 g1=>?_) (λp c e hp=>?_)
 ·rw[e1]at hop;dsimp only[PR.bind]at hop;refine AV (at2 hT q g1) (λa s2 x2 e2 g2=>?_) (λp c e hp=>?_)
  ·obtain⟨rfl,rfl,hk,hr⟩:=dn8 e2;rw[e2]at hop;dsimp only[PR.bind]at hop;obtain⟨v,u,rfl,h1,h2,h3,h4,h5,h6⟩:=g2;have hsp:=g1.lt;have hN:=hT.big;unfold as8;refine AI (en5 (s:=s1) (pr:=pr) q x _ h1 h2 hsp hN h4 h5 h6 pr.length 0 q (by omega) (by omega) (λj hj=>absurd hj (Nat.not_lt_zero j))) λz hz=>?_;by_cases hin:inP pr (T s1.p).t=true
   ·rw[if_pos hin]at hz hop;subst hz;rw[hop];exact AJ ⟨hsp,rfl⟩
   ·rw[if_neg hin]at hz hop;subst hz;dsimp only[Sum.elim_inr,Sum.elim_inl];refine AL ⟨by unfold b6;omega,by unfold maxLen;omega,Nat.le_refl _⟩ ?_;have hl2:(pr++[(T s1.p).t]).length=pr.length+1:=by simp
    have hpar:=fv5 (s:=adv s1) (pr:=pr++[(T s1.p).t]) hT (by omega:20<=q) (by omega:f<q) hf2 (h2.push (x:=(T s1.p).t)) h3 h4 (by omega) (AT (hop▸ho));rw[hl2]at hpar;refine AI hpar λz hz2=>?_;cases hr3:aU T f {adv s1 with vs:=[]}with
    |out=>rw[hr3]at hz2;rcases z with z|z<;>exact hz2.elim
    |err p c=>
     rw[hr3]at hz2 hop;rcases z with z|z
     ·exact hz2.elim
     ·rw[hop];exact AJ hz2
    |ok l s3=>
     rw[hr3]at hz2 hop;dsimp only[PR.bind]at hop;rcases z with z|z
     ·obtain⟨z1,z2,z3,x3⟩:=z;obtain⟨k1,k2⟩:=hz2;dsimp only[Sum.elim_inl]at k1 k2⊢;refine AW ((hq5 hT f hf2 q (by omega)).2 f (Nat.le_refl _) s3 x3 k2 (AT (hop▸ho))) (λt s4 k n b m c x4 e hr hx=>?_) (λp c e hp=>?_)
      ·rw[hop,e];exact AJ ⟨⟨rfl,k1,hr⟩,hx⟩
      ·(rw[hop,e];exact AJ ⟨hp,rfl⟩)
     ·exact hz2.elim
  ·(rw[hop,e];exact AJ ⟨hp,rfl⟩)
 ·(rw[hop,e];exact AJ ⟨hp,rfl⟩)
end
end
section
open Go Go.Am Go.Proofs
noncomputable def E6(ds:List Deferred):Env:={E5 with dok:=false,dls:=ds}
theorem hX6(ds:List Deferred):Z6 (E6 ds):=Z6.none λ_ _=>rfl
theorem sc6{ds:List Deferred}{f:FuncId}{args:List V}{L:List (Option Z1)}{cr:Z3}:SC (E6 ds) f args L cr↔SC E5 f args L cr:=
 ⟨λh=>⟨h.1,λβ S w us h1 h2 h3=>h.2 β S w us h1 h2 ⟨h3.rd,h3.inv⟩⟩,λh=>⟨h.1,λβ S w us h1 h2 h3=>h.2 β S w us h1 h2 ⟨h3.rd,h3.inv⟩⟩⟩
variable {ds:List Deferred}
abbrev cB:Type:=Int×Nat×FI×FI×FS×FI
abbrev uP:Type:=Int×Int
def tT:cB->List V×List (Option Z1):=(λx=>(λ(a:Int) (tn:Nat) (tk:Nat->Int) (ta:Nat->Int) (tt:Nat->ByteArray) (tv:Nat->Int)=>((([.junk,.junk,.ptr 0 0,.ptr 1 0,.ptr 2 0,.ro 4 tn (λj=>[i64 (tk j),i64 (ta j),st (tt j),i64 (tv j)])]++jk 25):List V),([some (.blk [j0]),some (.blk [i64 a]),some (.blk [i64 0])]:List (Option Z1)))) x.1 x.2.1 x.2.2.1 x.2.2.2.1 x.2.2.2.2.1 x.2.2.2.2.2)
def bt7:uP->Z3:=λz=>.pan (.ifc 161 (.agg [i64 z.1,i64 z.2]))
abbrev bW:Type:=(Unit)⊕(FS×FN×FM×FI×FI×FS×FN×FM×Nat×FI×FI×FS×FI×Int×Int×Nat×Nat×FS×FS×Nat)
abbrev jH:Type:=(Int×Int)⊕(Unit)⊕(Int×Int×Nat×FS×FN×FM×FI×FI×FS×FN×FM)⊕(Nat×FS×FN×FM×FI×FI×FS×FN×FM)
def dh0(x:cB)(y:Unit):St:={fr:=[V.junk,V.junk,V.ptr 0 0,V.ptr 1 0,V.ptr 2 0,V.junk,V.ptr 3 0]++jk 24,H:=hp [some (Z1.blk [j0]),some (Z1.blk [i64 x.1]),some (Z1.blk [i64 0]),some (Z1.blk [V.ro 4 x.2.1 λj=>[i64 (x.2.2.1 j),i64 (x.2.2.2.1 j),st (x.2.2.2.2.1 j),i64 (x.2.2.2.2.2 j)],i64 0,i64 0,j0,j0])],nx:=4,rt:=3,me:=38}
def di2(s:St):Unit:=()
def cs9(x:cB)(y:FS×FN×FM×FI×FI×FS×FN×FM×Nat×FI×FI×FS×FI×Int×Int×Nat×Nat×FS×FS×Nat):St:={fr:=[V.junk,V.junk,V.ptr 0 0,V.ptr 1 0,V.ptr 2 0,V.junk,V.ptr 4 0]++jk 24,H:=hp [some (Z1.blk [V.sl 3 6 0 y.2.2.2.2.2.2.2.2.2.2.2.2.2.2.2.2.2.2.2]),some (Z1.blk [i64 x.1]),some (Z1.blk [i64 0]),some (Z1.row 40 6 y.2.2.2.2.2.2.2.2.2.2.2.2.2.2.2.2.2.2.2 λj=>[st (y.1 j),V.ro 2 (y.2.1 j) (y.2.2.1 j),i64 (y.2.2.2.1 j),i64 (y.2.2.2.2.1 j),st (y.2.2.2.2.2.1 j),V.ro 4 (y.2.2.2.2.2.2.1 j) (y.2.2.2.2.2.2.2.1 j)]),some (Z1.blk [V.ro 4 y.2.2.2.2.2.2.2.2.1 λj=>[i64 (y.2.2.2.2.2.2.2.2.2.1 j),i64 (y.2.2.2.2.2.2.2.2.2.2.1 j),st (y.2.2.2.2.2.2.2.2.2.2.2.1 j),i64 (y.2.2.2.2.2.2.2.2.2.2.2.2.1 j)],i64 y.2.2.2.2.2.2.2.2.2.2.2.2.2.1,i64 y.2.2.2.2.2.2.2.2.2.2.2.2.2.2.1,V.sl 5 1 0 y.2.2.2.2.2.2.2.2.2.2.2.2.2.2.2.1,V.sl 6 1 0 y.2.2.2.2.2.2.2.2.2.2.2.2.2.2.2.2.1]),some (Z1.row 9 1 y.2.2.2.2.2.2.2.2.2.2.2.2.2.2.2.1 λj=>[st (y.2.2.2.2.2.2.2.2.2.2.2.2.2.2.2.2.2.1 j)]),some (Z1.row 9 1 y.2.2.2.2.2.2.2.2.2.2.2.2.2.2.2.2.1 λj=>[st (y.2.2.2.2.2.2.2.2.2.2.2.2.2.2.2.2.2.2.1 j)])],nx:=7,rt:=3,me:=38}
def cu4(s:St):FS×FN×FM×FI×FI×FS×FN×FM×Nat×FI×FI×FS×FI×Int×Int×Nat×Nat×FS×FS×Nat:=((dRS (s.H 3) 0),dRN (s.H 3) 1,dRF (s.H 3) 1,dRI (s.H 3) 2,dRI (s.H 3) 3,dRS (s.H 3) 4,dRN (s.H 3) 5,dRF (s.H 3) 5,r7 (cb s 4 0),dTI (cb s 4 0) 0,dTI (cb s 4 0) 1,dTS (cb s 4 0) 2,dTI (cb s 4 0) 3,vI (cb s 4 1),vI (cb s 4 2),aV (cb s 4 3),aV (cb s 4 4),dRS (s.H 5) 0,dRS (s.H 6) 0,aV (cb s 0 0))
def dY(x:cB):bW->St:=(Sum.elim (dh0 x) (cs9 x))
def ef3(s:St):bW:=(match s.nx==4 with|true=>(.inl (di2 s)) |false=>(.inr (cu4 s)))
theorem ec9(x:cB):VL (dY x):=vl ef3 (λy=>by rcases y with y|y<;>rfl)
def jR(x:cB):jH->Ex×St:=(Sum.elim (λz=>(Ex.panic (V.ifc 161 (V.agg [i64 z.1,i64 z.2])),{fr:=[V.junk,V.junk,V.ptr 0 0,V.ptr 1 0,V.ptr 2 0]++jk 26,H:=hp [some (Z1.blk [j0]),some (Z1.blk [i64 x.1]),some (Z1.blk [i64 0])],nx:=3,rt:=3,me:=38})) (Sum.elim (λz=>(Ex.exit 0,{fr:=[V.junk,V.junk,V.ptr 0 0,V.ptr 1 0,V.ptr 2 0]++jk 26,H:=hp [some (Z1.blk [j0]),some (Z1.blk [i64 x.1]),some (Z1.blk [i64 0])],nx:=3,rt:=3,me:=38})) (Sum.elim (λz=>(Ex.panic (V.ifc 161 (V.agg [i64 z.1,i64 z.2.1])),{fr:=[V.junk,V.junk,V.ptr 0 0,V.ptr 1 0,V.ptr 2 0]++jk 26,H:=hp [some (Z1.blk [V.sl 3 6 0 z.2.2.1]),some (Z1.blk [i64 x.1]),some (Z1.blk [i64 0]),some (Z1.row 40 6 z.2.2.1 λj=>[st (z.2.2.2.1 j),V.ro 2 (z.2.2.2.2.1 j) (z.2.2.2.2.2.1 j),i64 (z.2.2.2.2.2.2.1 j),i64 (z.2.2.2.2.2.2.2.1 j),st (z.2.2.2.2.2.2.2.2.1 j),V.ro 4 (z.2.2.2.2.2.2.2.2.2.1 j) (z.2.2.2.2.2.2.2.2.2.2 j)])],nx:=4,rt:=3,me:=38})) (λz=>(Ex.exit 0,{fr:=[V.junk,V.junk,V.ptr 0 0,V.ptr 1 0,V.ptr 2 0]++jk 26,H:=hp [some (Z1.blk [V.sl 3 6 0 z.1]),some (Z1.blk [i64 x.1]),some (Z1.blk [i64 0]),some (Z1.row 40 6 z.1 λj=>[st (z.2.1 j),V.ro 2 (z.2.2.1 j) (z.2.2.2.1 j),i64 (z.2.2.2.2.1 j),i64 (z.2.2.2.2.2.1 j),st (z.2.2.2.2.2.2.1 j),V.ro 4 (z.2.2.2.2.2.2.2.1 j) (z.2.2.2.2.2.2.2.2 j)])],nx:=4,rt:=3,me:=38})))))
def gU{β:Type}(A:d8->Option kX)(B:SP->Option bJ)(C:d8->Option m8)(D:SP->Option m8)(x:cB)(y:Unit)(nx:bW->Option β)(dn:jH->Option β):Option β:=
 (A (0,0,x.2)).bind λz359=>if(z359.1 !=0) then(C z359.2.2.2.2).bind λz367=>Sum.elim (λz367a=>nx (.inr (λj=>z367a.1,λj=>z367a.2.1,λ(j j_1:Nat)=>[st (z367a.2.2.1 j_1),st (z367a.2.2.2.1 j_1)],λj=>z367a.2.2.2.2.1,λj=>z367a.2.2.2.2.2.1,λj=>z367a.2.2.2.2.2.2.1,λj=>z367a.2.2.2.2.2.2.2.1,λj=>z367a.2.2.2.2.2.2.2.2.1,z367a.2.2.2.2.2.2.2.2.2.2.2.1,z367a.2.2.2.2.2.2.2.2.2.2.2.2.1,z367a.2.2.2.2.2.2.2.2.2.2.2.2.2.1,z367a.2.2.2.2.2.2.2.2.2.2.2.2.2.2.1,z367a.2.2.2.2.2.2.2.2.2.2.2.2.2.2.2.1,z367a.2.2.2.2.2.2.2.2.2.1,z367a.2.2.2.2.2.2.2.2.2.2.1,z367a.2.2.2.2.2.2.2.2.2.2.2.2.2.2.2.2.1,z367a.2.2.2.2.2.2.2.2.2.2.2.2.2.2.2.2.2.2.1,z367a.2.2.2.2.2.2.2.2.2.2.2.2.2.2.2.2.2.1,z367a.2.2.2.2.2.2.2.2.2.2.2.2.2.2.2.2.2.2.2,1))) (λz367b=>dn (.inl z367b)) z367 else dn (.inr (.inl ()))
theorem dc1{β:Type}(c_nextZ c_next)(c_procedureZ c_procedure)(x)(y)(nx:bW->Option β)(dn):gU c_nextZ c_next c_procedureZ c_procedure x y nx dn=(gU c_nextZ c_next c_procedureZ c_procedure x y (λy=>some (.inl y)) (λz=>some (.inr z))).bind λr=>Sum.elim nx dn r:=by
 unfold gU
 repeat' first|exact n0|refine n1 λ_=>?_|refine n2 ?_ ?_|refine n3 (λ_=>?_) λ_=>?_|rfl
theorem cr9(c_nextZ c_next)(c_procedureZ c_procedure)(x)(y)(lo:aE):nG (E6 ds) (ftg 89 (λ_ L=>L.length==1) j1 af5 c_nextZ (ftb 89 l8 bc0 c_next (fg2 90 (λ_ L=>L.length==1) j1 aI c_procedureZ (fg2 90 (λ_ L=>L.length==3) l8 aI c_procedure ca0)))) lo 0 92 (iW (E6 ds) 38 0) (dY x (.inl y)) (KCM [(0,28),(1000,28)] 28)=gU (vf j1 c_nextZ) (vf l8 c_next) (vf j1 c_procedureZ) (vf l8 c_procedure) x y (λy=>lo 0 92 (iW (E6 ds) 38 0) (dY x y) (KCM [(0,28),(1000,28)] 28)) (λz=>some (.l (jR x z).1 (jR x z).2)):=by kernel_rfl
def gY{β:Type}(A:d8->Option kX)(B:SP->Option bJ)(C:d8->Option m8)(D:SP->Option m8)(x:cB)(y:FS×FN×FM×FI×FI×FS×FN×FM×Nat×FI×FI×FS×FI×Int×Int×Nat×Nat×FS×FS×Nat)(nx:bW->Option β)(dn:jH->Option β):Option β:=
 (B (y.2.2.2.2.2.2.2.2.2.2.2.2.2.1,y.2.2.2.2.2.2.2.2.2.2.2.2.2.2.1,y.2.2.2.2.2.2.2.2.1,y.2.2.2.2.2.2.2.2.2.1,y.2.2.2.2.2.2.2.2.2.2.1,y.2.2.2.2.2.2.2.2.2.2.2.1,y.2.2.2.2.2.2.2.2.2.2.2.2.1,y.2.2.2.2.2.2.2.2.2.2.2.2.2.2.2.1,y.2.2.2.2.2.2.2.2.2.2.2.2.2.2.2.2.2.1,y.2.2.2.2.2.2.2.2.2.2.2.2.2.2.2.2.1,y.2.2.2.2.2.2.2.2.2.2.2.2.2.2.2.2.2.2.1)).bind λz381=>if(z381.1 !=0) then(D z381.2.2.2.2).bind λz393=>Sum.elim (λz393a=>if(y.2.2.2.2.2.2.2.2.2.2.2.2.2.2.2.2.2.2.2+1)*96<=b6/\y.2.2.2.2.2.2.2.2.2.2.2.2.2.2.2.2.2.2.2+1<=maxLen/\y.2.2.2.2.2.2.2.2.2.2.2.2.2.2.2.2.2.2.2<=y.2.2.2.2.2.2.2.2.2.2.2.2.2.2.2.2.2.2.2 then nx (.inr (λj=>if j<y.2.2.2.2.2.2.2.2.2.2.2.2.2.2.2.2.2.2.2 then y.1 j else z393a.1,λj=>if j<y.2.2.2.2.2.2.2.2.2.2.2.2.2.2.2.2.2.2.2 then y.2.1 j else z393a.2.1,λ(j j_1:Nat)=>if j<y.2.2.2.2.2.2.2.2.2.2.2.2.2.2.2.2.2.2.2 then y.2.2.1 j j_1 else[st (z393a.2.2.1 j_1),st (z393a.2.2.2.1 j_1)],λj=>if j<y.2.2.2.2.2.2.2.2.2.2.2.2.2.2.2.2.2.2.2 then y.2.2.2.1 j else z393a.2.2.2.2.1,λj=>if j<y.2.2.2.2.2.2.2.2.2.2.2.2.2.2.2.2.2.2.2 then y.2.2.2.2.1 j else z393a.2.2.2.2.2.1,λj=>if j<y.2.2.2.2.2.2.2.2.2.2.2.2.2.2.2.2.2.2.2 then y.2.2.2.2.2.1 j else z393a.2.2.2.2.2.2.1,λj=>if j<y.2.2.2.2.2.2.2.2.2.2.2.2.2.2.2.2.2.2.2 then y.2.2.2.2.2.2.1 j else z393a.2.2.2.2.2.2.2.1,λ(j j_1:Nat)=>if j<y.2.2.2.2.2.2.2.2.2.2.2.2.2.2.2.2.2.2.2 then y.2.2.2.2.2.2.2.1 j j_1 else z393a.2.2.2.2.2.2.2.2.1 j_1,z393a.2.2.2.2.2.2.2.2.2.2.2.1,z393a.2.2.2.2.2.2.2.2.2.2.2.2.1,z393a.2.2.2.2.2.2.2.2.2.2.2.2.2.1,z393a.2.2.2.2.2.2.2.2.2.2.2.2.2.2.1,z393a.2.2.2.2.2.2.2.2.2.2.2.2.2.2.2.1,z393a.2.2.2.2.2.2.2.2.2.1,z393a.2.2.2.2.2.2.2.2.2.2.1,z393a.2.2.2.2.2.2.2.2.2.2.2.2.2.2.2.2.1,z393a.2.2.2.2.2.2.2.2.2.2.2.2.2.2.2.2.2.2.1,z393a.2.2.2.2.2.2.2.2.2.2.2.2.2.2.2.2.2.1,z393a.2.2.2.2.2.2.2.2.2.2.2.2.2.2.2.2.2.2.2,y.2.2.2.2.2.2.2.2.2.2.2.2.2.2.2.2.2.2.2+1))else none) (λz393b=>dn (.inr (.inr (.inl (z393b.1,z393b.2,y.2.2.2.2.2.2.2.2.2.2.2.2.2.2.2.2.2.2.2,y.1,y.2.1,y.2.2.1,y.2.2.2.1,y.2.2.2.2.1,y.2.2.2.2.2.1,y.2.2.2.2.2.2.1,y.2.2.2.2.2.2.2.1))))) z393 else dn (.inr (.inr (.inr (y.2.2.2.2.2.2.2.2.2.2.2.2.2.2.2.2.2.2.2,y.1,y.2.1,y.2.2.1,y.2.2.2.1,y.2.2.2.2.1,y.2.2.2.2.2.1,y.2.2.2.2.2.2.1,y.2.2.2.2.2.2.2.1))))
theorem di7{β:Type}(c_nextZ c_next)(c_procedureZ c_procedure)(x)(y)(nx:bW->Option β)(dn):gY c_nextZ c_next c_procedureZ c_procedure x y nx dn=(gY c_nextZ c_next c_procedureZ c_procedure x y (λy=>some (.inl y)) (λz=>some (.inr z))).bind λr=>Sum.elim nx dn r:=by
 unfold gY
 repeat' first|exact n0|refine n1 λ_=>?_|refine n2 ?_ ?_|refine n3 (λ_=>?_) λ_=>?_|rfl
theorem dg2(c_nextZ c_next)(c_procedureZ c_procedure)(x)(y)(lo:aE):nG (E6 ds) (ftg 89 (λ_ L=>L.length==1) j1 af5 c_nextZ (ftb 89 l8 bc0 c_next (fg2 90 (λ_ L=>L.length==1) j1 aI c_procedureZ (fg2 90 (λ_ L=>L.length==3) l8 aI c_procedure ca0)))) lo 0 92 (iW (E6 ds) 38 0) (dY x (.inr y)) (KCM [(0,28),(1000,28)] 28)=gY (vf j1 c_nextZ) (vf l8 c_next) (vf j1 c_procedureZ) (vf l8 c_procedure) x y (λy=>lo 0 92 (iW (E6 ds) 38 0) (dY x y) (KCM [(0,28),(1000,28)] 28)) (λz=>some (.l (jR x z).1 (jR x z).2)):=by kernel_rfl
noncomputable def pO(A:d8->Option kX)(B:SP->Option bJ)(C:d8->Option m8)(D:SP->Option m8)(q:Nat)(x:cB):bW->Option jH:=lpG (Sum.elim (λy=>gU A B C D x y (λy=>some (.inl y)) (λz=>some (.inr z))) (λy=>gY A B C D x y (λy=>some (.inl y)) (λz=>some (.inr z)))) q
theorem do6(c_nextZ)(h_nextZ:∀x z,c_nextZ x=some z->SC (E6 ds) 89 (j1 x).1 (j1 x).2 (af5 z))(c_next)(h_next:∀x z,c_next x=some z->SC (E6 ds) 89 (l8 x).1 (l8 x).2 (bc0 z))(c_procedureZ)(h_procedureZ:∀x z,c_procedureZ x=some z->SC (E6 ds) 90 (j1 x).1 (j1 x).2 (aI z))(c_procedure)(h_procedure:∀x z,c_procedure x=some z->SC (E6 ds) 90 (l8 x).1 (l8 x).2 (aI z))(q:Nat)(x:cB):Ll (E6 ds) (iW (E6 ds) 38 0) (dY x) (jR x) (pO c_nextZ c_next c_procedureZ c_procedure q x):=
 slp (fk h_nextZ (fk h_next (fk2 h_procedureZ (fk2 h_procedure lJ)))) (hX6 ds) (λlo y=>by
  rcases y with y|y
  ·exact(cr9 c_nextZ c_next c_procedureZ c_procedure x y lo).trans (by rw[cP,s9,cP,s9];exact dc1 _ _ _ _ _ _ _ _)
  ·exact(dg2 c_nextZ c_next c_procedureZ c_procedure x y lo).trans (by rw[cP,s9,cP,s9];exact di7 _ _ _ _ _ _ _ _)) (λz=>by rcases z with z|z|z|z<;>kernel_rfl) q
def qM{β:Type}(A:d8->Option kX)(B:SP->Option bJ)(C:d8->Option m8)(D:SP->Option m8)(E:bW->Option jH)(x:cB)(dn:uP->Option β):Option β:=
 (E (.inl ())).bind λz339=>Sum.elim (λz339a=>dn z339a) (λz339b=>Sum.elim (λz339ba=>none) (λz339bb=>Sum.elim (λz339bba=>dn (z339bba.1,z339bba.2.1)) (λz339bbb=>none) z339bb) z339b) z339
theorem ga9{β:Type}(c_nextZ c_next)(c_procedureZ c_procedure)(l_ParseP_l0)(x)(dn:uP->Option β):qM c_nextZ c_next c_procedureZ c_procedure l_ParseP_l0 x dn=(qM c_nextZ c_next c_procedureZ c_procedure l_ParseP_l0 x some).bind dn:=by
 unfold qM
 repeat' first|exact n0|refine n1 λ_=>?_|refine n2 ?_ ?_|refine n3 (λ_=>?_) λ_=>?_|rfl
theorem gg7(c_nextZ c_next)(c_procedureZ c_procedure)(l_ParseP_l0)(x):gr4 4 3 (E6 ds) (ftg 89 (λ_ L=>L.length==1) j1 af5 c_nextZ (ftb 89 l8 bc0 c_next (fg2 90 (λ_ L=>L.length==1) j1 aI c_procedureZ (fg2 90 (λ_ L=>L.length==3) l8 aI c_procedure ca0)))) (lt4 0 (λ_=>true) (iW (E6 ds) 38 0) (dY x) (jR x) l_ParseP_l0 lo0) 38 (tT x).1 (tT x).2 K=qM (vf j1 c_nextZ) (vf l8 c_next) (vf j1 c_procedureZ) (vf l8 c_procedure) (lf (iW (E6 ds) 38 0) (dY x) l_ParseP_l0) x (λz=>some (.c (bt7 z))):=by kernel_rfl
theorem go2(c_nextZ)(h_nextZ:∀x z,c_nextZ x=some z->SC (E6 ds) 89 (j1 x).1 (j1 x).2 (af5 z))(c_next)(h_next:∀x z,c_next x=some z->SC (E6 ds) 89 (l8 x).1 (l8 x).2 (bc0 z))(c_procedureZ)(h_procedureZ:∀x z,c_procedureZ x=some z->SC (E6 ds) 90 (j1 x).1 (j1 x).2 (aI z))(c_procedure)(h_procedure:∀x z,c_procedure x=some z->SC (E6 ds) 90 (l8 x).1 (l8 x).2 (aI z))(q:Nat)(x:cB)(z:uP)(h:qM c_nextZ c_next c_procedureZ c_procedure (pO c_nextZ c_next c_procedureZ c_procedure q x) x some=some z):RC 4 3 (E6 ds) 38 (tT x).1 (tT x).2 (bt7 z):=by
 refine RC.of (hX6 ds) (fk h_nextZ (fk h_next (fk2 h_procedureZ (fk2 h_procedure lJ)))) (lk4 (do6 c_nextZ h_nextZ c_next h_next c_procedureZ h_procedureZ c_procedure h_procedure q x) jN) ((gg7 c_nextZ c_next c_procedureZ c_procedure (pO c_nextZ c_next c_procedureZ c_procedure q x) x).trans ?_);rw[cP,s9,cP,s9,ec9,ga9,h];rfl
noncomputable def ct3(q:Nat)(x:cB):Option uP:=qM (ai5 q) (next q) (dE q) (bI q) (pO (ai5 q) (next q) (dE q) (bI q) q x) x some
theorem fs3(q:Nat):∀(x:cB) (z:uP),ct3 q x=some z->RC 4 3 (E6 ds) 38 (tT x).1 (tT x).2 (bt7 z):=λx z h=>go2 (ai5 q) (λx z h=>sc6.2 (dj7 q x z h)) (next q) (λx z h=>sc6.2 (lV q x z h)) (dE q) (λx z h=>sc6.2 (ai2 q x z h)) (bI q) (λx z h=>sc6.2 (xV q x z h)) q x z h
end
section
open Go Go.Am Go.RowKit
noncomputable def c8:Z5:=match E5.code 38 with|some c=>c|none=>.skip
noncomputable def c21:Z5:=match E5.code 88 with|some c=>c|none=>.skip
theorem ht0:E5.code 38=some c8:=by kernel_rfl
def hh3 : Array Oper := #[{ dst := some 17, op := Op.makeFunc (Fn.func 88) #[] #[Operand.tmp 2, Operand.tmp 3, Operand.tmp 4], type := 1, pos := "parser.go:391", after := #[], guard := none },
  { dst := none, op := Op.defer { callee := Callee.value (Operand.tmp 17), args := #[], argTypes := #[] }, type := 0, pos := "parser.go:391", after := #[{ on := 0, ground := Ground.data }], guard := none }]
theorem hr9:c8.erase= .seq (fn6 0 c8).erase (.seq (fn6 1 c8).erase (.seq (fn6 2 c8).erase (.seq (.region 4 hh3 false) (cu9 4 c8).erase))):=by kernel_rfl
def dcl(u0 u1 u2:Value):Deferred:={target:=.fn (.func 88) #[u0,u1,u2],args:=#[]}
theorem aa7{Q:Exit->Act->World->Prop}{a:Act}{w:World}(hs:a.tmps.size=31)
 (hQ:Q .normal {tmps:=a.tmps.setIfInBounds 17 (.func (.func 88) #[] #[a.tmps.getD 2 undef,a.tmps.getD 3 undef,a.tmps.getD 4 undef]),defers:=dcl (a.tmps.getD 2 undef) (a.tmps.getD 3 undef) (a.tmps.getD 4 undef)::a.defers} w):
 (Code.region 4 hh3 false).wp Tryz.prog Q a w:=by
 apply wp_region;simp[hh3,wpOps,go_sem,hs];left;left;simpa[hs,dcl]using hQ
theorem uQ{β:Bt}{S D:Pr}{w:World}:∀us:List Value,d9 β S w D (List.replicate us.length .junk) us
 | []=>by simp[d9]
 |u::us=>by
  simp only[List.length_cons,List.replicate_succ,d9];exact⟨u,us,rfl,(by simp[den]),uQ us⟩
def hh6(a c:Int):List V:=[.ptr 0 0,.ptr 1 0,.ptr 2 0,.ifc 161 (.agg [i64 a,i64 c])]++List.replicate 16 .junk
def H3(x0 x1 x2:V):List (Option Z1):=[some (.blk [x0]),some (.blk [x1]),some (.blk [x2])]
theorem hu4(a c:Int):fS E5 ca0 lo0 (cu9 1 c21) {fr:=hh6 a c,H:=hp (H3 .junk .junk .junk),nx:=3,rt:=3,me:=88} (KN 0)=some (.l .normal {fr:=List.replicate 20 .junk,H:=hp (H3 j0 (i64 a) (i64 c)),nx:=3,rt:=3,me:=88}):=by kernel_rfl
theorem hu1(a c:Int):Am.Ends E5 (cu9 1 c21) {fr:=hh6 a c,H:=hp (H3 .junk .junk .junk),nx:=3,rt:=3,me:=88} .normal {fr:=List.replicate 20 .junk,H:=hp (H3 j0 (i64 a) (i64 c)),nx:=3,rt:=3,me:=88}:=
 Am.Ends.of hX5 lJ jN (hu4 a c)
theorem hs6{β:Bt}{S:Pr}{w:World}{a c:Int}{u0 u1 u2 u:Value}(hM:Mem β S (· <3) (hp (H3 .junk .junk .junk)) w)(hG:Y2 E5 S w)
 (h0:den β S w (· <3) (.ptr 0 0) u0) (h1:den β S w (· <3) (.ptr 1 0) u1) (h2:den β S w (· <3) (.ptr 2 0) u2) (hv:den β S w (· <3) (.ifc 161 (.agg [i64 a,i64 c])) u):
 CallsD Tryz.prog 88 #[u0,u1,u2] (.panicking [{v:=u,recovered:=false}]) w λe u' w'=>(∃v,e= .returned v)/\u'= .panicking [{v:=u,recovered:=true}]/\
  ∃β' S',Mem β' S' (· <3) (hp (H3 j0 (i64 a) (i64 c))) w'/\Y2 E5 S' w'/\Evo β S w β' S' w'/\nW 3 β β':=by
 refine callsD_of_wpS Tryz.func88 rfl λc₀ cs hu=>?_;apply wpS_seq;apply wpS_region;simp[wpOpsS,go_sem,recoverD,hu,Tryz.ntmps88,Exit.thenS];refine wpS_of_wp ?_;refine(congrArg (λc=>Code.wp Tryz.prog c _ _ _) (?_:(cu9 1 c21).erase=_)).mp (wp_mono (hu1 a c β S (· <3) _ w ⟨?_,hM,⟨λ_=>rfl,λd h=>(by cases h),λh=>nomatch (show true=false from h)⟩,λi hi=>hi,hG,λi hi=>hi⟩) ?_)
 ·kernel_rfl
 ·have e:(#[u0,u1,u2]++((Array.replicate 17 undef).setIfInBounds 3 u).setIfInBounds 0 u).toList=[u0,u1,u2,u]++([undef,undef,u]++List.replicate 13 undef):=by
   simp[List.replicate]
  show d9 β S w (· <3) (hh6 a c) (#[u0,u1,u2]++((Array.replicate 17 undef).setIfInBounds 3 u).setIfInBounds 0 u).toList;rw[e];refine bX ?_ ?_
  ·simp only[d9];exact⟨_,_,rfl,h0,_,_,rfl,h1,_,_,rfl,h2,_,_,rfl,hv,rfl⟩
  ·exact uQ [undef,undef,u,undef,undef,undef,undef,undef,undef,undef,undef,undef,undef,undef,undef,undef]
 ·intro e' a' w' hp;obtain⟨rfl,β',S',D',g1,g2,g3,g4,g5⟩:=nF hp
  have hD:D'=(· <3):=by
   funext i;exact propext ⟨g1.lt i,g1.rtD i⟩
  subst hD;refine⟨g1.df.1 rfl,_,?_,_,by simp[results,Tryz.results88,go_sem];rfl,⟨_,rfl⟩,rfl,β',S',g1.mem,g1.gl,g2,g3⟩;cases c₀;simp_all
theorem bt0{E:Env}{c:Z5}{s t:St}(h:Am.Ends E c s .normal t){β:Bt}{S D:Pr}{a:Act}{w:World}(hR:Rel E β S D s a w){rest:Code}{Q:Exit->Act->World->Prop}
 (hQ:∀β' S' D' a' w',Rel E β' S' D' t a' w'->Evo β S w β' S' w'->rest.wp E.P Q a' w'):(Code.seq c.erase rest).wp E.P Q a w:=
 wp_seq (wp_mono (h β S D a w hR) λe' a' w' hp=>by
  obtain⟨rfl,β',S',D',h1,h2,h3,_,_⟩:=nF hp
  exact hQ β' S' D' a' w' h1 h2)
def s0(s:ByteArray):St:={fr:=[st s]++List.replicate 30 (.sc undef),H:=hp [],nx:=0,rt:=0,me:=38}
def s1(s:ByteArray):St:={fr:=[st s,.junk,.ptr 0 0,.ptr 1 0,.ptr 2 0]++jk 26,H:=hp (H3 j0 (i64 0) (i64 0)),nx:=3,rt:=0,me:=38}
def s2(rt:Nat)(z:d8):St:={fr:=[.junk,.junk,.ptr 0 0,.ptr 1 0,.ptr 2 0,.ro 4 z.2.2.1 (λj=>[i64 (z.2.2.2.1 j),i64 (z.2.2.2.2.1 j),st (z.2.2.2.2.2.1 j),i64 (z.2.2.2.2.2.2 j)])]++jk 25,H:=hp (H3 j0 (i64 z.1) (i64 z.2.1)),nx:=3,rt:=rt,me:=38}
theorem st1(s:ByteArray):fS (E6 []) ca0 lo0 (fn6 0 c8) (s0 s) (KN 29)=some (.l .normal (s1 s)):=by kernel_rfl
theorem st2(c:ByteArray->Option d8)(s:ByteArray):fS (E6 []) (ftb 87 j7 bc2 c ca0) lo0 (fn6 1 c8) (s1 s) (KN 60)=(bh9 j7 c (j7 s)).bind λz=>some (.l .normal (s2 0 z)):=by kernel_rfl
theorem st3(a:Int)(T:Nat×(Nat->Int)×(Nat->Int)×(Nat->ByteArray)×(Nat->Int)):fS (E6 []) ca0 lo0 (fn6 2 c8) (s2 0 (a,0,T)) (KN 60)=some (.l .normal (s2 0 (a,0,T))):=by kernel_rfl
def K3(n:Nat)(a c:Int):St:={fr:=.junk:: .junk:: .ptr 0 0:: .ptr 1 0:: .ptr 2 0::List.replicate n .junk,H:=hp (H3 j0 (i64 a) (i64 c)),nx:=3,rt:=3,me:=38}
theorem df7{β:Bt}{S D:Pr}{w:World}:∀{l:List V} {us:List Value},l.length=us.length->(∀i,den β S w D (l.getD i .junk) (us.getD i undef))->d9 β S w D l us
 | [],[],_,_=>by simp[d9]
 |v::l,u::us,hl,h=>by
  simp only[d9];exact⟨u,us,rfl,by simpa using h 0,df7 (by simpa using hl) λi=>by simpa using h (i+1)⟩
theorem pG{β β':Bt}{S S' D D':Pr}{w w':World}{i o n:Nat}{u:Value}(hr:nW n β β')(hi:i<n)(hD:D' i)(h:den β S w D (.ptr i o) u):den β' S' w' D' (.ptr i o) u:=by
 simp only[den]at h⊢;exact⟨⟨hD,h.1.2⟩,λb m hb=>h.2 b m (hr i _ hi hb)⟩
theorem resP(ds:List Deferred)(n:Nat)(a c:Int):bx3 (E6 ds) (K3 n a c) [.cell 2 32,.cell 3 3,.cell 4 23] (λvs=>some (.c (.ret (one1 vs) [])))=some (.c (.ret (.tup [j0,i64 a,i64 c]) [])):=by kernel_rfl
theorem fm1 (q : Nat) (s : ByteArray) (a : Int) (T : Nat × (Nat -> Int) × (Nat -> Int) × (Nat -> ByteArray) × (Nat -> Int)) (hz : dQ q s = some (a, 0, T)) (e : Int × Int) (hp : ct3 q (a, T) = some e) :
 SC E5 38 [st s] [] (.ret (.tup [j0, i64 e.1, i64 e.2]) []) := by
 refine ⟨⟨_, Tryz.func38, by kernel_rfl, by intro e; exact absurd e (by decide +kernel)⟩, λβ S w us hus hM hG => ?_⟩;obtain rfl : us = [.string s] := by simpa [d9, den] using hus
 refine calls_of_wp_defers Tryz.func38 rfl ?_;refine (congrArg (λc => Code.wp Tryz.prog c _ _ _) (?_ : c8.erase = _)).mp ?_
 ·kernel_rfl
 rw [hr9]
 have R0 : Rel (E6 []) β S (· < 0) (s0 s) { tmps := [Value.string s].toArray ++ Array.replicate (31 - [Value.string s].toArray.size) undef, defers := [] } w := by
  refine ⟨?_, hM, ⟨λ_ => rfl, λd hd => (by cases hd), λ_ => rfl⟩, λi hi => hi, ⟨hG.rd, hG.inv⟩, λi hi => hi⟩;have e : ([Value.string s].toArray ++ Array.replicate (31 - [Value.string s].toArray.size) undef).toList = [Value.string s] ++ List.replicate 30 undef := by simp
  rw [e];refine bX hus ?_;have := iL (β := β) (S := S) (w := w) (D := (· < 0)) (f := λ_ : Nat => V.sc undef) (g := λ_ => undef) (l := List.range 30) (λ_ _ => by simp [den]);simpa [List.map_const'] using this
 refine bt0 (E := E6 []) (Am.Ends.of (hX6 []) lJ jN (st1 s)) R0 λβ1 S1 D1 a1 w1 R1 v1 => ?_
 refine bt0 (E := E6 []) (Am.Ends.of (hX6 []) (fk (λx z h => sc6.2 (bs2 q x z h)) lJ) jN ((st2 (dQ q) s).trans (by
  rw [show bh9 j7 (dQ q) (j7 s) = dQ q s from congrFun (l5 (dQ q)) s, hz]; rfl))) R1 λβ2 S2 D2 a2 w2 R2 v2 => ?_
 refine bt0 (E := E6 []) (Am.Ends.of (hX6 []) lJ jN (st3 a T)) R2 λβ3 S3 D3 a3 w3 R3 v3 => ?_
 have hsz : a3.tmps.size = 31 := by
  have := y5 R3.fr;simpa [s2, jk] using this.symm
 have d0 : den β3 S3 w3 D3 (.ptr 0 0) (a3.tmps.getD 2 undef) := by simpa [s2] using fE R3.fr 2
 have d1 : den β3 S3 w3 D3 (.ptr 1 0) (a3.tmps.getD 3 undef) := by simpa [s2] using fE R3.fr 3
 have d2 : den β3 S3 w3 D3 (.ptr 2 0) (a3.tmps.getD 4 undef) := by simpa [s2] using fE R3.fr 4
 have hdf : a3.defers = [] := R3.df.2.2 rfl;refine wp_seq (aa7 hsz ?_);show Code.wp Tryz.prog (cu9 4 c8).erase _ _ w3;rw [hdf]
 have R4 : Rel (E6 [dcl (a3.tmps.getD 2 undef) (a3.tmps.getD 3 undef) (a3.tmps.getD 4 undef)]) β3 S3 D3 (s2 3 (a, 0, T))
  { tmps := a3.tmps.setIfInBounds 17 (.func (.func 88) #[] #[a3.tmps.getD 2 undef, a3.tmps.getD 3 undef, a3.tmps.getD 4 undef]), defers := [dcl (a3.tmps.getD 2 undef) (a3.tmps.getD 3 undef) (a3.tmps.getD 4 undef)] } w3 := by
  refine ⟨?_, R3.mem, ⟨λh => (nomatch (show true = false from h)), λd hd => ?_, λ_ => rfl⟩, R3.lt, ⟨R3.gl.rd, R3.gl.inv⟩, λi hi => ?_⟩
  ·have hfr := R3.fr;refine df7 (by simp [s2, jk, hsz]) λi => ?_;by_cases h17 : i = 17
   ·subst h17;simp [s2, jk, den]
   ·have := fE hfr i
    have e : (a3.tmps.setIfInBounds 17 (.func (.func 88) #[] #[a3.tmps.getD 2 undef, a3.tmps.getD 3 undef, a3.tmps.getD 4 undef])).toList.getD i undef = a3.tmps.toList.getD i undef := by
     rw [Array.toList_setIfInBounds, List.getD_eq_getElem?_getD, List.getD_eq_getElem?_getD, List.getElem?_set_ne (λh => h17 h.symm)]
    rw [e];exact this
  ·simp only [List.mem_singleton] at hd;subst hd;exact ⟨88, _, rfl, rfl⟩
  ·match i, hi with
   | 0, _ => simp only [den] at d0; exact d0.1.1
   | 1, _ => simp only [den] at d1; exact d1.1.1
   | 2, _ => simp only [den] at d2; exact d2.1.1
 obtain ⟨v, s', hv, hE, x0, x1, x2, y0, y1, l, ef, e0, e1, e2⟩ := fs3 (ds := [dcl (a3.tmps.getD 2 undef) (a3.tmps.getD 3 undef) (a3.tmps.getD 4 undef)]) q _ e hp c8 ht0;cases hv;refine wp_mono (hE _ _ _ _ _ R4) λe' a' w' hpost => ?_;obtain ⟨β', S', D', q1, q2, q3, q4, q5, q6⟩ := hpost.ex;cases e' <;> simp only [ExR] at q1;obtain ⟨u, rfl, g1, g2⟩ := q1;show Leaves _ _ _ _ a'.defers (.panicking _) w';rw [show a'.defers = [dcl (a3.tmps.getD 2 undef) (a3.tmps.getD 3 undef) (a3.tmps.getD 4 undef)] from q2.df.2.2 rfl]
 -- the blocks of the results alone
 have M5 : Mem (ofOrder β' [0, 1, 2]) S' (· < 3) (Am.hp (H3 .junk .junk .junk)) w' := by
  have h := q2.mem.renum (order := [0, 1, 2]) (by decide);refine Mem.le h (hf8 ?_);simp only [keep, List.map_cons, List.map_nil, e0, e1, e2, Option.map_some, Z1.ren, H3, an1];exact ⟨X9.blk (AE (Le.junk _) AF), X9.blk (AE (Le.junk _) AF), X9.blk (AE (Le.junk _) AF), trivial⟩
 have r5 : nW 3 β3 (ofOrder β' [0, 1, 2]) := by
  intro i bm hi hb;refine q4 i bm hi ?_
  match i, hi, hb with
  | 0, _, hb => exact hb
  | 1, _, hb => exact hb
  | 2, _, hb => exact hb
 have v5 : Evo β3 S3 w3 (ofOrder β' [0, 1, 2]) S' w' := q3.trans ⟨rfl, rfl, rfl, Nat.le_refl _, λ_ _ _ => rfl, λ_ h => h, λ_ h => .inl h, λi b m hb h0 => by
  obtain ⟨j, _, hj⟩ := v7 hb
  exact .inr ⟨j, m, h0, hj⟩⟩
 have k0 := pG r5 (show 0 < 3 by decide) (show (· < 3) 0 by decide) d0 (S' := S') (w' := w') (D' := (· < 3));have k1 := pG r5 (show 1 < 3 by decide) (show (· < 3) 1 by decide) d1 (S' := S') (w' := w') (D' := (· < 3));have k2 := pG r5 (show 2 < 3 by decide) (show (· < 3) 2 by decide) d2 (S' := S') (w' := w') (D' := (· < 3));have hv5 : den (ofOrder β' [0, 1, 2]) S' w' (· < 3) (.ifc 161 (.agg [i64 e.1, i64 e.2])) u := y6 (λ_ h => h) (λ_ _ => rfl) _ _ g1 g2
 refine leaves_cons (f := 88) (args := #[a3.tmps.getD 2 undef, a3.tmps.getD 3 undef, a3.tmps.getD 4 undef]) (by simp) (by
  have hcal := (gc1 #[a3.tmps.getD 2 undef, a3.tmps.getD 3 undef, a3.tmps.getD 4 undef] w' rfl).1;simp only [invoke, Array.append_empty]
  exact hcal) ((hs6 M5 ⟨q2.gl.rd, q2.gl.inv⟩ k0 k1 k2 hv5).mono ?_)
 rintro e5 u5 w5 ⟨⟨vv, rfl⟩, rfl, β6, S6, M6, G6, v6, r6⟩;show Leaves _ _ _ _ [] .returning w5
 -- the results are read
 have t2 := fE q2.fr 2;have t3 := fE q2.fr 3;have t4 := fE q2.fr 4;rw [ef] at t2 t3 t4
 have r6' : nW 3 β' β6 := by
  intro i bm hi hb;have hb := r6 i bm hi hb
  match i, hi, hb with
  | 0, _, hb => exact hb
  | 1, _, hb => exact hb
  | 2, _, hb => exact hb
 have R7 : Rel (E6 []) β6 S6 (· < 3) (K3 l.length e.1 e.2) { a' with defers := [] } w5 := by
  refine ⟨df7 ?_ λi => ?_, M6, ⟨λ_ => rfl, λd hd => (by cases hd), λ_ => rfl⟩, λi hi => hi, ⟨G6.rd, G6.inv⟩, λi hi => hi⟩
  ·have := y5 q2.fr;rw [ef] at this;simpa [K3] using this
  ·match i with
   | 0 => simp [K3, den]
   | 1 => simp [K3, den]
   | 2 => exact pG r6' (show 0 < 3 by decide) (show (· < 3) 0 by decide) t2
   | 3 => exact pG r6' (show 1 < 3 by decide) (show (· < 3) 1 by decide) t3
   | 4 => exact pG r6' (show 2 < 3 by decide) (show (· < 3) 2 by decide) t4
   | i + 5 =>
    have e : (K3 l.length e.1 e.2).fr.getD (i + 5) V.junk = .junk := by
     simp only [K3, List.getD_eq_getElem?_getD, List.getElem?_cons_succ, List.getElem?_replicate];split <;> rfl
    rw [e];simp [den]
 obtain ⟨vs, h3, h4⟩ := al7 _ (resP [] l.length e.1 e.2);simp only [Option.some.injEq, Ans.c.injEq, Z3.ret.injEq, and_true] at h3;obtain ⟨rs, g3, g4⟩ := h4 β6 S6 (· < 3) { a' with defers := [] } w5 R7;refine ⟨(if h : rs.toArray.size = 1 then rs.toArray[0] else .tuple rs.toArray), ?_, ?_⟩
 ·rw [cc8, Sem.run_bind]
  have hrun : ((#[.cell 2 32, .cell 3 3, .cell 4 23] : Array ResultVar).mapM (en1 a'.tmps)).run Tryz.prog w5 = .ok rs.toArray w5 := by
   rw [Array.mapM_eq_mapM_toList, Sem.run_map];have g3' : (List.mapM (en1 a'.tmps) [ResultVar.cell 2 32, .cell 3 3, .cell 4 23]).run Tryz.prog w5 = .ok rs w5 := g3;rw [show (#[ResultVar.cell 2 32, .cell 3 3, .cell 4 23]).toList = [.cell 2 32, .cell 3 3, .cell 4 23] from rfl, g3'];rfl
  exact (congrArg (λr => Result.andThen r _) hrun).trans rfl
 ·have hd := ea8 g4;rw [h3] at hd;have M8 := M6.renum (order := []) (by decide)
  refine ⟨_, _, S6, rfl, M8, y6 (λ_ h => h) (λ_ _ => rfl) _ _ (by simp [V.pure, n4]) hd, (((v1.trans v2).trans v3).trans v5).trans (v6.trans ⟨rfl, rfl, rfl, Nat.le_refl _, λ_ _ _ => rfl, λ_ h => h, λ_ h => .inl h, λi b m hb h0 => by
   obtain ⟨j, _, hj⟩ := v7 hb
   exact .inr ⟨j, m, h0, hj⟩⟩), λi bm _ hb => ?_⟩
  obtain ⟨j, hj, _⟩ := v7 hb;cases hj
end
section
open Go Go.Am Go.Proofs.Lx
abbrev AcP:Type:=(Nat->ByteArray)×(Nat->Nat)×(Nat->Nat->List V)×(Nat->Int)×(Nat->Int)×(Nat->ByteArray)×(Nat->Nat)×(Nat->Nat->List V)×Nat
def br2(l:List Prc)(a:AcP):Prop:=a.2.2.2.2.2.2.2.2=l.length/\∀j c,l[j]? =some c->a.1 j=c.x/\a.2.1 j=c.ps.length/\(∀i m,c.ps[i]? =some m->a.2.2.1 j i=[st m.x,st m.u])/\Z7 c.b (a.2.2.2.1 j,a.2.2.2.2.1 j,a.2.2.2.2.2.1 j,a.2.2.2.2.2.2.1 j,a.2.2.2.2.2.2.2.1 j)
abbrev hb7:Type:=ByteArray×Nat×(Nat->ByteArray)×(Nat->ByteArray)×n9
def dx2(z:hb7):AcP:=(λ_=>z.1,λ_=>z.2.1,λ_ i=>[st (z.2.2.1 i),st (z.2.2.2.1 i)],λ_=>z.2.2.2.2.1,λ_=>z.2.2.2.2.2.1,λ_=>z.2.2.2.2.2.2.1,λ_=>z.2.2.2.2.2.2.2.1,λ_=>z.2.2.2.2.2.2.2.2,1)
theorem bv0{c:Prc}{z:hb7}(h:hn1 c z):br2 [c] (dx2 z):=by
 refine⟨rfl,λj c' e=>?_⟩;cases j with
 |zero=>
  simp only[List.getElem?_cons_zero,Option.some.injEq]at e;subst e;obtain⟨h1,⟨h2,h3⟩,h4⟩:=h;exact⟨h1,h2,λi m e=>by obtain⟨g1,g2⟩:=h3 i m e;simp only at g1 g2;simp only[dx2,g1,g2],h4⟩
 |succ j=>simp at e
def ap6(a:AcP)(z:hb7):AcP:=(λj=>if j<a.2.2.2.2.2.2.2.2 then a.1 j else z.1,λj=>if j<a.2.2.2.2.2.2.2.2 then a.2.1 j else z.2.1,λj i=>if j<a.2.2.2.2.2.2.2.2 then a.2.2.1 j i else[st (z.2.2.1 i),st (z.2.2.2.1 i)],λj=>if j<a.2.2.2.2.2.2.2.2 then a.2.2.2.1 j else z.2.2.2.2.1,λj=>if j<a.2.2.2.2.2.2.2.2 then a.2.2.2.2.1 j else z.2.2.2.2.2.1,λj=>if j<a.2.2.2.2.2.2.2.2 then a.2.2.2.2.2.1 j else z.2.2.2.2.2.2.1,λj=>if j<a.2.2.2.2.2.2.2.2 then a.2.2.2.2.2.2.1 j else z.2.2.2.2.2.2.2.1,λj i=>if j<a.2.2.2.2.2.2.2.2 then a.2.2.2.2.2.2.2.1 j i else z.2.2.2.2.2.2.2.2 i,a.2.2.2.2.2.2.2.2+1)
theorem bx9{l:List Prc}{a:AcP}{c:Prc}{z:hb7}(h:br2 l a)(g:hn1 c z):br2 (l++[c]) (ap6 a z):=by
 refine⟨by simp[ap6,h.1],λj c' e=>?_⟩;by_cases hj:j<l.length
 ·rw[List.getElem?_append_left hj]at e;have:=h.2 j c' e;simp only[ap6,h.1,hj,if_true];exact this
 ·rw[List.getElem?_append_right (by omega)]at e;simp only[ap6,h.1,hj,if_false];cases hk:j-l.length with
  |zero=>
   rw[hk]at e;simp only[List.getElem?_cons_zero,Option.some.injEq]at e;subst e;obtain⟨h1,⟨h2,h3⟩,h4⟩:=g;exact⟨h1,h2,λi m e=>by obtain⟨g1,g2⟩:=h3 i m e;simp only at g1 g2;simp only[g1,g2],h4⟩
  |succ n=>rw[hk]at e;simp at e
def x00(N:Nat)(T:Nat->Tkn):StT:=(0,0,N,(λj=>(T j).k),(λj=>(T j).a),(λj=>(T j).t),(λj=>(T j).n),0,(λ_=>ByteArray.empty),0,(λ_=>ByteArray.empty))
theorem cy3{N:Nat}{T:Nat->Tkn}(hT:Z4 N T):RS N T [] ⟨0,0,[]⟩ (x00 N T):=⟨_,_,rfl,λj b e=>by simp at e,λj b e=>by simp at e,hT.pos,Nat.zero_le _,by simp,by simp⟩
def uI(N:Nat)(T:Nat->Tkn):Nat×(Nat->Int)×(Nat->Int)×(Nat->ByteArray)×(Nat->Int):=(N,(λj=>(T j).k),(λj=>(T j).a),(λj=>(T j).t),(λj=>(T j).n))
theorem dw7{N:Nat}{T:Nat->Tkn}(hT:Z4 N T)(q:Nat):ai5 q (0,0,uI N T)=some ((T 0).k,(T 0).a,(T 0).t,(T 0).n,0,0,uI N T):=by
 unfold ai5 cs0 U7;have:=hT.pos;refine(if_pos ?_).trans rfl;show(0:Int)<=0/\(0:Int)< ((N:Nat):Int);omega
theorem dk0{N:Nat}{T:Nat->Tkn}{pr:List ByteArray}{s:PS}{x:StT}(q:Nat)(h:RS N T pr s x):next q (x.1,x.2.1,x.2.2.1,x.2.2.2.1,x.2.2.2.2.1,x.2.2.2.2.2.1,x.2.2.2.2.2.2.1,x.2.2.2.2.2.2.2.1,x.2.2.2.2.2.2.2.2.1,x.2.2.2.2.2.2.2.2.2.1,x.2.2.2.2.2.2.2.2.2.2)=some ((T s.p).k,(T s.p).a,(T s.p).t,(T s.p).n,x):=eK q h
section
variable {N:Nat} {T:Nat->Tkn}
def spT(a0 e0:Int)(x:StT)(a:AcP):=(a.1,a.2.1,a.2.2.1,a.2.2.2.1,a.2.2.2.2.1,a.2.2.2.2.2.1,a.2.2.2.2.2.2.1,a.2.2.2.2.2.2.2.1,a0,e0,x.2.2.1,x.2.2.2.1,x.2.2.2.2.1,x.2.2.2.2.2.1,x.2.2.2.2.2.2.1,x.1,x.2.1,x.2.2.2.2.2.2.2.1,x.2.2.2.2.2.2.2.2.2.1,x.2.2.2.2.2.2.2.2.1,x.2.2.2.2.2.2.2.2.2.2,a.2.2.2.2.2.2.2.2)
def BPT(T:Nat->Tkn)(N:Nat)(a0 e0:Int)(acc:List Prc):PR (List Prc)->jP->Prop
 | .ok l s,.inr (.inl _)=>acc++l=[]
 | .ok l s,.inr (.inr (.inr z))=>∃a:AcP,z=(a.2.2.2.2.2.2.2.2,a.1,a.2.1,a.2.2.1,a.2.2.2.1,a.2.2.2.2.1,a.2.2.2.2.2.1,a.2.2.2.2.2.2.1,a.2.2.2.2.2.2.2.1,a0,e0)/\br2 (acc++l) a
 | .err p c,.inl e=>p<N/\e.1=(T p).a/\e.2.1=c
 | .err p c,.inr (.inr (.inl e))=>p<N/\e.1=(T p).a/\e.2.1=c
 |_,_=>False
def PST(N:Nat)(T:Nat->Tkn)(a0 e0:Int)(acc:List Prc)(pr:List ByteArray)(s:PS)(x:StT):gM->Prop
 | .inl y=>acc=[]/\pr=[]/\s=⟨0,0,[]⟩/\x=x00 N T/\y=(a0,e0,uI N T)
 | .inr y=>∃a,y=spT a0 e0 x a/\br2 acc a
theorem dj8(hT:Z4 N T)(a0 e0:Int){F q:Nat}(hF:F<=1000000000)(hq:2*F+2000000100<=q)(x0:ByteArray):∀(g:Nat),g<=F->∀(m:Nat),g<m->∀(acc:List Prc) (pr:List ByteArray) (s:PS) (x:StT) (y:gM),PST N T a0 e0 acc pr s x y->acc.length+g<=1000000000->pr.length+g<=1000000000->RS N T pr s x->n7 T g pr s≠ .out->
 Rs (bc7 (dQ q) (ai5 q) (next q) (dE q) (bI q) m x0 y) (BPT T N a0 e0 acc (n7 T g pr s)):=by
 intro g
 induction g with
 |zero=>intro _ m _ acc pr s x y _ _ _ _ ho;rw[n7]at ho;exact absurd rfl ho
 |succ g ih=>
  intro hg m hm acc pr s x y hy hb hb2 h ho;obtain⟨m,rfl⟩:∃k,m=k+1:=⟨m-1,by omega⟩;unfold bc7;refine AO λQ hQ=>?_;have hop:n7 T (g+1) pr s=if(T s.p).k=0 then .ok [] s else(iD T g pr s).bind λx s1=>(n7 T g (pr++[x.x]) s1).bind λl s2=>.ok (x::l) s2:=by rw[n7]
  rcases y with y|y
  ·obtain⟨rfl,rfl,rfl,rfl,rfl⟩:=hy;rw[Sum.elim_inl];unfold wU U3;dsimp only;rw[dw7 hT];dsimp only[Option.bind_some];by_cases hk:(T 0).k=0
   ·rw[if_pos hk]at hop;refine AM (by simp[hk]) (AJ ?_);show BPT T N a0 e0 [] (n7 T (g+1) [] ⟨0,0,[]⟩) _;rw[hop];rfl
   ·rw[if_neg hk]at hop;refine AL (by simpa using hk) ?_;have hp:=oR (f:=g) (q:=q) hT (by omega) (by omega) (cy3 hT) (by simp) (AT (hop▸ho));refine AI (f:=_) (show Rs (dE q (0,0,uI N T)) _ from hp) λz hz=>?_;cases hr:iD T g [] ⟨0,0,[]⟩with
    |out=>rw[hr]at hz;rcases z with z|z<;>exact hz.elim
    |err p c=>
     rw[hr]at hz hop;rcases z with z|z
     ·exact hz.elim
     ·refine AJ ?_;show BPT T N a0 e0 [] (n7 T (g+1) [] ⟨0,0,[]⟩) _;rw[hop];exact⟨hz.1,by rw[hz.2],by rw[hz.2]⟩
    |ok c s2=>
     rw[hr]at hz hop;dsimp only[PR.bind]at hop;rcases z with z|z
     ·obtain⟨zc,zx⟩:=hz;refine AJ (hQ _ ?_);have ho2:=AT (hop▸ho);refine(ih (by omega) m (by omega) [c] ([]++[c.x]) s2 _ (.inr (spT a0 e0 z.2.2.2.2.2.2.2.2.2 (dx2 (z.1,z.2.1,z.2.2.1,z.2.2.2.1,z.2.2.2.2.1,z.2.2.2.2.2.1,z.2.2.2.2.2.2.1,z.2.2.2.2.2.2.2.1,z.2.2.2.2.2.2.2.2.1)))) ⟨_,rfl,bv0 zc⟩ (by simp;omega) (by simp;omega) zx ho2).mono λz hz=>?_;rw[hop];cases hr2:n7 T g ([]++[c.x]) s2 with
      |out=>exact absurd hr2 ho2
      |err p c=>rw[hr2]at hz;rcases z with z|z|z|z<;>exact hz
      |ok l s3=>
       rw[hr2]at hz;rcases z with z|z|z|z
       ·exact hz.elim
       ·exact absurd (show[c]++l=[]from hz) (by simp)
       ·exact hz.elim
       ·exact hz
     ·exact hz.elim
  ·obtain⟨a,rfl,ha⟩:=hy;have hal:=ha.1;rw[Sum.elim_inr];unfold vR U22;dsimp only[spT];rw[dk0 q h];dsimp only[Option.bind_some];by_cases hk:(T s.p).k=0
   ·rw[if_pos hk]at hop;refine AM (by simp[hk]) (AJ ?_);show BPT T N a0 e0 acc (n7 T (g+1) pr s) _;rw[hop];exact⟨a,rfl,by rw[List.append_nil];exact ha⟩
   ·rw[if_neg hk]at hop;refine AL (by simpa using hk) ?_;have hp:=oR (f:=g) (q:=q) hT (by omega) (by omega) h (by omega) (AT (hop▸ho));refine AI hp λz hz=>?_;cases hr:iD T g pr s with
    |out=>rw[hr]at hz;rcases z with z|z<;>exact hz.elim
    |err p c=>
     rw[hr]at hz hop;rcases z with z|z
     ·exact hz.elim
     ·refine AJ ?_;show BPT T N a0 e0 acc (n7 T (g+1) pr s) _;rw[hop];exact⟨hz.1,by rw[hz.2],by rw[hz.2]⟩
    |ok c s2=>
     rw[hr]at hz hop;dsimp only[PR.bind]at hop;rcases z with z|z
     ·obtain⟨zc,zx⟩:=hz;refine AL ⟨by unfold b6;omega,by unfold maxLen;omega,Nat.le_refl _⟩ (AJ (hQ _ ?_));have ho2:=AT (hop▸ho);refine(ih (by omega) m (by omega) (acc++[c]) (pr++[c.x]) s2 _ (.inr (spT a0 e0 z.2.2.2.2.2.2.2.2.2 (ap6 a (z.1,z.2.1,z.2.2.1,z.2.2.2.1,z.2.2.2.2.1,z.2.2.2.2.2.1,z.2.2.2.2.2.2.1,z.2.2.2.2.2.2.2.1,z.2.2.2.2.2.2.2.2.1)))) ⟨_,rfl,bx9 ha zc⟩ (by simp;omega) (by simp;omega) zx ho2).mono λz hz=>?_;rw[hop];cases hr2:n7 T g (pr++[c.x]) s2 with
      |out=>exact absurd hr2 ho2
      |err p c=>rw[hr2]at hz;rcases z with z|z|z|z<;>exact hz
      |ok l s3=>
       rw[hr2]at hz;rcases z with z|z|z|z
       ·exact hz.elim
       ·exact absurd (show(acc++[c])++l=[]from hz) (by simp)
       ·exact hz.elim
       ·obtain⟨a2,e1,e2⟩:=hz;exact⟨a2,e1,by simpa using e2⟩
     ·exact hz.elim
end
section
variable {N:Nat} {T:Nat->Tkn}
def spP(x:StT)(a:AcP):=(a.1,a.2.1,a.2.2.1,a.2.2.2.1,a.2.2.2.2.1,a.2.2.2.2.2.1,a.2.2.2.2.2.2.1,a.2.2.2.2.2.2.2.1,x.2.2.1,x.2.2.2.1,x.2.2.2.2.1,x.2.2.2.2.2.1,x.2.2.2.2.2.2.1,x.1,x.2.1,x.2.2.2.2.2.2.2.1,x.2.2.2.2.2.2.2.2.2.1,x.2.2.2.2.2.2.2.2.1,x.2.2.2.2.2.2.2.2.2.2,a.2.2.2.2.2.2.2.2)
def BPP(T:Nat->Tkn)(N:Nat)(acc:List Prc):PR (List Prc)->jH->Prop
 | .ok l s,.inr (.inl _)=>acc++l=[]
 | .ok l s,.inr (.inr (.inr z))=>True
 | .err p c,.inl e=>p<N/\e.1=(T p).a/\e.2=c
 | .err p c,.inr (.inr (.inl e))=>p<N/\e.1=(T p).a/\e.2.1=c
 |_,_=>False
def PSP(N:Nat)(T:Nat->Tkn)(acc:List Prc)(pr:List ByteArray)(s:PS)(x:StT):bW->Prop
 | .inl y=>acc=[]/\pr=[]/\s=⟨0,0,[]⟩/\x=x00 N T/\y=()
 | .inr y=>∃a,y=spP x a/\br2 acc a
theorem dt2(hT:Z4 N T){F q:Nat}(hF:F<=1000000000)(hq:2*F+2000000100<=q)(x0:cB)(hx0:x0.2=uI N T):∀(g:Nat),g<=F->∀(m:Nat),g<m->∀(acc:List Prc) (pr:List ByteArray) (s:PS) (x:StT) (y:bW),PSP N T acc pr s x y->acc.length+g<=1000000000->pr.length+g<=1000000000->RS N T pr s x->n7 T g pr s≠ .out->
 Rs (pO (ai5 q) (next q) (dE q) (bI q) m x0 y) (BPP T N acc (n7 T g pr s)):=by
 intro g
 induction g with
 |zero=>intro _ m _ acc pr s x y _ _ _ _ ho;rw[n7]at ho;exact absurd rfl ho
 |succ g ih=>
  intro hg m hm acc pr s x y hy hb hb2 h ho;obtain⟨m,rfl⟩:∃k,m=k+1:=⟨m-1,by omega⟩;unfold pO;refine AO λQ hQ=>?_;have hop:n7 T (g+1) pr s=if(T s.p).k=0 then .ok [] s else(iD T g pr s).bind λx s1=>(n7 T g (pr++[x.x]) s1).bind λl s2=>.ok (x::l) s2:=by rw[n7]
  rcases y with y|y
  ·obtain⟨rfl,rfl,rfl,rfl,rfl⟩:=hy;rw[Sum.elim_inl];unfold gU;rw[hx0];rw[dw7 hT];dsimp only[Option.bind_some];by_cases hk:(T 0).k=0
   ·rw[if_pos hk]at hop;refine AM (by simp[hk]) (AJ ?_);show BPP T N [] (n7 T (g+1) [] ⟨0,0,[]⟩) _;rw[hop];rfl
   ·rw[if_neg hk]at hop;refine AL (by simpa using hk) ?_;have hp:=oR (f:=g) (q:=q) hT (by omega) (by omega) (cy3 hT) (by simp) (AT (hop▸ho));refine AI (f:=_) (show Rs (dE q (0,0,uI N T)) _ from hp) λz hz=>?_;cases hr:iD T g [] ⟨0,0,[]⟩with
    |out=>rw[hr]at hz;rcases z with z|z<;>exact hz.elim
    |err p c=>
     rw[hr]at hz hop;rcases z with z|z
     ·exact hz.elim
     ·refine AJ ?_;show BPP T N [] (n7 T (g+1) [] ⟨0,0,[]⟩) _;rw[hop];exact⟨hz.1,by rw[hz.2],by rw[hz.2]⟩
    |ok c s2=>
     rw[hr]at hz hop;dsimp only[PR.bind]at hop;rcases z with z|z
     ·obtain⟨zc,zx⟩:=hz;refine AJ (hQ _ ?_);have ho2:=AT (hop▸ho);refine(ih (by omega) m (by omega) [c] ([]++[c.x]) s2 _ (.inr (spP z.2.2.2.2.2.2.2.2.2 (dx2 (z.1,z.2.1,z.2.2.1,z.2.2.2.1,z.2.2.2.2.1,z.2.2.2.2.2.1,z.2.2.2.2.2.2.1,z.2.2.2.2.2.2.2.1,z.2.2.2.2.2.2.2.2.1)))) ⟨_,rfl,bv0 zc⟩ (by simp;omega) (by simp;omega) zx ho2).mono λz hz=>?_;rw[hop];cases hr2:n7 T g ([]++[c.x]) s2 with
      |out=>exact absurd hr2 ho2
      |err p c=>rw[hr2]at hz;rcases z with z|z|z|z<;>exact hz
      |ok l s3=>
       rw[hr2]at hz;rcases z with z|z|z|z
       ·exact hz.elim
       ·exact absurd (show[c]++l=[]from hz) (by simp)
       ·exact hz.elim
       ·trivial
     ·exact hz.elim
  ·obtain⟨a,rfl,ha⟩:=hy;have hal:=ha.1;rw[Sum.elim_inr];unfold gY;dsimp only[spP];rw[dk0 q h];dsimp only[Option.bind_some];by_cases hk:(T s.p).k=0
   ·rw[if_pos hk]at hop;refine AM (by simp[hk]) (AJ ?_);show BPP T N acc (n7 T (g+1) pr s) _;rw[hop];trivial
   ·rw[if_neg hk]at hop;refine AL (by simpa using hk) ?_;have hp:=oR (f:=g) (q:=q) hT (by omega) (by omega) h (by omega) (AT (hop▸ho));refine AI hp λz hz=>?_;cases hr:iD T g pr s with
    |out=>rw[hr]at hz;rcases z with z|z<;>exact hz.elim
    |err p c=>
     rw[hr]at hz hop;rcases z with z|z
     ·exact hz.elim
     ·refine AJ ?_;show BPP T N acc (n7 T (g+1) pr s) _;rw[hop];exact⟨hz.1,by rw[hz.2],by rw[hz.2]⟩
    |ok c s2=>
     rw[hr]at hz hop;dsimp only[PR.bind]at hop;rcases z with z|z
     ·obtain⟨zc,zx⟩:=hz;refine AL ⟨by unfold b6;omega,by unfold maxLen;omega,Nat.le_refl _⟩ (AJ (hQ _ ?_));have ho2:=AT (hop▸ho);refine(ih (by omega) m (by omega) (acc++[c]) (pr++[c.x]) s2 _ (.inr (spP z.2.2.2.2.2.2.2.2.2 (ap6 a (z.1,z.2.1,z.2.2.1,z.2.2.2.1,z.2.2.2.2.1,z.2.2.2.2.2.1,z.2.2.2.2.2.2.1,z.2.2.2.2.2.2.2.1,z.2.2.2.2.2.2.2.2.1)))) ⟨_,rfl,bx9 ha zc⟩ (by simp;omega) (by simp;omega) zx ho2).mono λz hz=>?_;rw[hop];cases hr2:n7 T g (pr++[c.x]) s2 with
      |out=>exact absurd hr2 ho2
      |err p c=>rw[hr2]at hz;rcases z with z|z|z|z<;>exact hz
      |ok l s3=>
       rw[hr2]at hz;rcases z with z|z|z|z
       ·exact hz.elim
       ·exact absurd (show(acc++[c])++l=[]from hz) (by simp)
       ·exact hz.elim
       ·trivial
     ·exact hz.elim
end
def dfl:List V:=[i64 0,i64 0,st ⟨#[]⟩,.ro 4 0 (λ_=>[])]
mutual
def iX:Tr->List V
 | .node k n s l=>[i64 k,i64 n,st s,.ro 4 l.length (λj=>(eQ l).getD j dfl)]
def eQ:List Tr->List (List V)
 | []=>[]
 |t::l=>iX t::eQ l
end
def wC(m:Prm):List V:=[st m.x,st m.u]
def nN(c:Prc):List V:=st c.x:: .ro 2 c.ps.length (λj=>(c.ps.map wC).getD j [st ⟨#[]⟩,st ⟨#[]⟩])::iX c.b
def gt1:List V:=st ⟨#[]⟩:: .ro 2 0 (λ_=>[])::dfl
def yS(l:List Prc):V:=.ro 6 l.length (λj=>(l.map nN).getD j gt1)
theorem hd8(t:Tr):n4 (iX t)=true:=by cases t;simp[iX,n4,V.pure]
theorem gg1:∀(l:List Tr) (j:Nat),n4 ((eQ l).getD j dfl)=true
 | [],j=>by simp[eQ,dfl,n4,V.pure]
 |t::l,0=>by simp only[eQ,List.getD_cons_zero];exact hd8 t
 |t::l,j+1=>by simp only[eQ,List.getD_cons_succ];exact gg1 l j
mutual
theorem leT:∀(t:Tr) (x:n9),Z7 t x->LeL [i64 x.1,i64 x.2.1,st x.2.2.1,.ro 4 x.2.2.2.1 x.2.2.2.2] (iX t)
 | .node k n s l,x,h=>by
  simp only[Z7]at h;obtain⟨h1,h2,h3,h4,h5⟩:=h;simp only[iX,h1,h2,h3,h4];refine AE (AD _) (AE (AD _) (AE (AD _) (AE (Le.ro λj hj=>⟨?_,gg1 l j⟩) AF)));have:=ht3 l x.2.2.2.2 0 h5 j hj
  rwa [Nat.zero_add]at this
theorem ht3:∀(l:List Tr) (f:Nat->List V) (i:Nat),n5 l f i->∀j,j<l.length->LeL (f (i+j)) ((eQ l).getD j dfl)
 | [],_,_,_,j,hj=>by simp at hj
 |t::l,f,i,h,0,_=>by
  simp only[n5]at h;obtain⟨⟨y,e,hy⟩,_⟩:=h;simp only[eQ,List.getD_cons_zero,Nat.add_zero];rw[e];exact leT t y hy
 |t::l,f,i,h,j+1,hj=>by
  simp only[n5]at h;have:=ht3 l f (i+1) h.2 j (by simpa using hj);simp only[eQ,List.getD_cons_succ]
  rwa [show i+(j+1)=i+1+j by omega]
end
theorem hs4(c:Prc):n4 (nN c)=true:=by
 have:=hd8 c.b;simp only[nN,n4,V.pure,Bool.and_eq_true];exact⟨trivial,trivial,this⟩
theorem leP{l:List Prc}{a:AcP}(h:br2 l a):Le (.ro 6 a.2.2.2.2.2.2.2.2 (λj=>[st (a.1 j),.ro 2 (a.2.1 j) (a.2.2.1 j),i64 (a.2.2.2.1 j),i64 (a.2.2.2.2.1 j),st (a.2.2.2.2.2.1 j),.ro 4 (a.2.2.2.2.2.2.1 j) (a.2.2.2.2.2.2.2.1 j)])) (yS l):=by
 unfold yS;rw[h.1];refine Le.ro λj hj=>?_;have hj':l[j]? =some l[j]:=List.getElem?_eq_getElem hj;obtain⟨h1,h2,h3,h4⟩:=h.2 j _ hj'
 have e:(l.map nN).getD j gt1=nN l[j]:=by
  rw[List.getD_eq_getElem?_getD,List.getElem?_map,hj'];rfl
 rw[e];refine⟨?_,hs4 _⟩;unfold nN;rw[h1,h2];refine AE (AD _) (AE (Le.ro_eq λi hi=>?_) (leT _ _ h4));have hi':l[j].ps[i]? =some l[j].ps[i]:=List.getElem?_eq_getElem hi;rw[h3 i _ hi',List.getD_eq_getElem?_getD,List.getElem?_map,hi'];exact⟨rfl,rfl⟩
theorem fn7{q:Nat}{s:ByteArray}{z:d8}(hz:dQ q s=some z)(he:z.2.1≠0):SC E5 38 [st s] [] (.ret (.tup [yS [],i64 z.1,i64 z.2.1]) []):=by
 have hp:al5 q s=some (.inl (z.1,z.2.1)):=by
  unfold al5 yE;rw[hz];dsimp only[Option.bind_some];rw[if_pos (by simpa using he)]
 exact AG (ba3 q s _ hp) (Le.tup (AE AH (AE (AD _) (AE (AD _) AF))))
theorem fu1{N:Nat}{T:Nat->Tkn}(hT:Z4 N T){F q:Nat}(hF:F<=1000000000)(hq:2*F+2000000100<=q){s:ByteArray}{a:Int}(hz:dQ q s=some (a,0,uI N T)):
 match n7 T F [] ⟨0,0,[]⟩with
 | .ok l _=>SC E5 38 [st s] [] (.ret (.tup [yS l,i64 0,i64 0]) [])
 | .err p c=>p<N/\SC E5 38 [st s] [] (.ret (.tup [yS [],i64 (T p).a,i64 c]) [])
 | .out=>True:=by
 cases hr:n7 T F [] ⟨0,0,[]⟩with
 |out=>trivial
 |err p c=>
  obtain⟨z,h1,h2⟩:=dt2 (N:=N) hT hF hq (a,uI N T) rfl F (Nat.le_refl _) q (by omega) [] [] ⟨0,0,[]⟩ (x00 N T) (.inl ()) ⟨rfl,rfl,rfl,rfl,rfl⟩ (by simpa using hF) (by simpa using hF) (cy3 hT) (by rw[hr];intro h;cases h);rw[hr]at h2
  have key:∃e:Int×Int,ct3 q (a,uI N T)=some e/\p<N/\e=((T p).a,c):=by
   unfold ct3 qM;rw[h1];dsimp only[Option.bind_some];rcases z with z|z|z|z
   ·obtain⟨g1,g2,g3⟩:=h2;exact⟨z,rfl,g1,Prod.ext g2 g3⟩
   ·exact h2.elim
   ·obtain⟨g1,g2,g3⟩:=h2;exact⟨(z.1,z.2.1),rfl,g1,Prod.ext g2 g3⟩
   ·exact h2.elim
  obtain⟨e,k1,k2,rfl⟩:=key;exact⟨k2,AG (fm1 q s a (uI N T) hz _ k1) (Le.tup (AE AH (AE (AD _) (AE (AD _) AF))))⟩
 |ok l s2=>
  obtain⟨z,h1,h2⟩:=dj8 (N:=N) hT a 0 hF hq s F (Nat.le_refl _) q (by omega) [] [] ⟨0,0,[]⟩ (x00 N T) (.inl (a,0,uI N T)) ⟨rfl,rfl,rfl,rfl,rfl⟩ (by simpa using hF) (by simpa using hF) (cy3 hT) (by rw[hr];intro h;cases h);rw[hr]at h2;rcases z with z|z|z|z
  ·exact h2.elim
  ·have e:l=[]:=by simpa[BPT]using h2
   subst e
   have hp:al5 q s=some (.inl (0,0)):=by
    unfold al5 yE;rw[hz];dsimp only[Option.bind_some];rw[if_neg (by simp),h1];rfl
   exact AG (ba3 q s _ hp) (Le.tup (AE AH (AE (AD _) (AE (AD _) AF))))
  ·exact h2.elim
  ·obtain⟨b,rfl,hb⟩:=h2;rw[List.nil_append]at hb
   have hpt:al5 q s=some (.inr (b.2.2.2.2.2.2.2.2,b.1,b.2.1,b.2.2.1,b.2.2.2.1,b.2.2.2.2.1,b.2.2.2.2.2.1,b.2.2.2.2.2.2.1,b.2.2.2.2.2.2.2.1)):=by
    unfold al5 yE;rw[hz];dsimp only[Option.bind_some];rw[if_neg (by simp),h1];rfl
   have h3:=SC.giveM (L2:=[]) 0 (ba3 q s _ hpt) (by rfl) (by simp[V.bw,V.bw2,V.bw1,Am.hp,V.pure,n4]);simp only[V.bw,V.bw2,V.bw1,Am.hp,List.map_cons,List.map_nil,List.getD_eq_getElem?_getD,List.getElem?_cons_succ,List.getElem?_cons_zero,Option.getD_some,Nat.zero_add,Nat.le_refl,and_self,if_true]at h3;exact AG h3 (Le.tup (AE (leP hb) (AE (AD _) (AE (AD _) AF))))
def dO(x:Tkn):Prop:=(x.k≠3->cF x.t=0)/\(x.k=1->x.t.size<=12/\∀c∈x.t.data.toList,c≠32)
theorem ea3(s:ByteArray):dO (am7 s):=⟨λ_=>(by decide:cF ⟨#[]⟩=0),λh=>absurd h (show¬(0:Int)=1 by decide)⟩
theorem dm1{t:ByteArray}(h:∀c∈t.data.toList,bG c.toNat=true):cF t=0:=by
 have no:∀(b:UInt8) (l:List UInt8),bG b.toNat=false->t≠⟨(b::l).toArray⟩:=by
  intro b l hb e;have:=h b (by rw[e];simp);rw[hb]at this;cases this
 unfold cF;rw[if_neg (no 124 [124] (by decide)),if_neg (no 38 [38] (by decide)),if_neg,if_neg,if_neg]
 ·rintro(e|e)
  ·exact no 42 [] (by decide) e
  ·exact no 47 [] (by decide) e
 ·rintro(e|e)
  ·exact no 43 [] (by decide) e
  ·exact no 45 [] (by decide) e
 ·rintro(e|e|e|e|e|e)
  ·exact no 60 [] (by decide) e
  ·exact no 60 [61] (by decide) e
  ·exact no 62 [] (by decide) e
  ·exact no 62 [61] (by decide) e
  ·exact no 61 [61] (by decide) e
  ·exact no 33 [61] (by decide) e
theorem bo2(g:Int->Bool)(s:ByteArray):∀c∈(s.extract 0 (g9 g s.data.toList)).data.toList,g c.toNat=true:=by
 intro b hb;rw[y4]at hb;simp only[List.drop_zero,Nat.sub_zero]at hb;obtain⟨j,hj⟩:=List.mem_iff_getElem?.1 hb;rw[List.getElem?_take]at hj;split at hj
 ·rename_i hlt;obtain⟨c,h1,h2⟩:=aw0 g s.data.toList j hlt;rw[h1]at hj;cases hj;exact h2
 ·cases hj
theorem en4{c:Int}(h:j8 c=true):bG c=true:=by unfold bG;rw[h];simp
theorem fq9{c:UInt8}(h:bG c.toNat=true):c≠32:=by rintro rfl;revert h;decide
theorem cj7{s:ByteArray}{p:Nat}{x:Tkn}(h:fH s p=(x,0)):dO x:=by
 by_cases h1:aC ((s.get! p).toNat:Int)=true
 ·rw[ae1 h1]at h;unfold ai7 at h;split at h
  ·cases h
  ·rename_i h12;cases h;have hw:=bo2 bG (s.extract p s.size);refine⟨λ_=>dm1 hw,λ_=>⟨?_,λc hc=>fq9 (hw c hc)⟩⟩;have:=bq6 bG (s.extract p s.size);simp only[ByteArray.size_extract]at*;omega
 ·by_cases h2:j8 ((s.get! p).toNat:Int)=true
  ·rw[au8 h1 h2]at h;have hw:=bo2 j8 (s.extract p s.size);unfold gZ at h;split at h
   ·cases h
   ·split at h
    ·cases h
    ·cases h;exact⟨λ_=>dm1 λc hc=>en4 (hw c hc),λh=>absurd h (show¬(2:Int)=1 by decide)⟩
  ·rw[ao1 h1 h2]at h;unfold eS at h;split at h
   ·cases h
   ·cases h;exact⟨λh=>absurd rfl h,λh=>absurd h (show¬(3:Int)=1 by decide)⟩
theorem dy2{s:ByteArray}{p:Nat}{acc:List Tkn}{r:List Tkn×Nat×Int}(h:Lex s p acc r):(∀x∈acc,dO x)->∀x∈r.1,dO x:=by
 induction h with
 |fin _=>
  intro ha x hx;rcases List.mem_append.1 hx with h|h
  ·exact ha x h
  ·simp only[List.mem_singleton]at h;subst h;exact ea3 s
 |white _ _ _ ih=>exact ih
 |hash _ _ _ ih=>exact ih
 |tok h1 h2 h3 h4 _ ih=>
  intro ha;refine ih λx hx=>?_;rcases List.mem_append.1 hx with h|h
  ·exact ha x h
  ·simp only[List.mem_singleton]at h;subst h;exact⟨(cj7 h4).1,(cj7 h4).2⟩
 |err _ _ _ _ _=>intro _ x hx;cases hx
def aA(s:ByteArray)(l:List Tkn)(j:Nat):Tkn:=l.getD j (am7 s)
theorem bm1{s:ByteArray}{acc:List Tkn}(hs:acc.length<=4000)(hg:∀x∈acc,dO x):Z4 (acc.length+1) (aA s acc):=by
 have he:∀j,aA s acc j=am7 s\/aA s acc j∈acc:=by
  intro j;unfold aA;rw[List.getD_eq_getElem?_getD];cases h:acc[j]?with
  |none=>exact .inl rfl
  |some x=>exact .inr (List.mem_of_getElem? h)
 have hgood:∀j,dO (aA s acc j):=λj=>by
  rcases he j with h|h
  ·rw[h];exact ea3 s
  ·exact hg _ h
 have hlast:aA s acc (acc.length+1-1)=am7 s:=by
  unfold aA;rw[List.getD_eq_getElem?_getD,List.getElem?_eq_none (by omega)];rfl
 exact⟨by omega,by omega,by rw[hlast];rfl,by rw[hlast];rfl,λj=>(hgood j).1,λj=>(hgood j).2⟩
theorem dq0(s:ByteArray)(q:Nat)(hq:5000<q):
 (∃z:d8,dQ q s=some z/\z.2.1≠0/\z.2.2.1=0/\∃p:Nat,z.1=(p:Int)/\fP s ([],p,z.2.1))\/
 (∃acc:List Tkn,dQ q s=some (0,0,uI (acc.length+1) (aA s acc))/\Z4 (acc.length+1) (aA s acc)/\fP s (acc++[am7 s],0,0)):=by
 unfold dQ bw8 bx5;by_cases hbig:4000<s.size
 ·refine .inl ⟨(4000,2,0,λ_=>0,λ_=>0,λ_=>ByteArray.empty,λ_=>0),?_,by decide,rfl,4000,rfl,.inl ⟨hbig,rfl⟩⟩;rw[if_pos (decide_eq_true (show((s.size:Nat):Int)>4000 by omega))];rfl
 ·have hs:s.size<=4000:=by omega
  rw[if_neg (λh=>hbig (by have:=of_decide_eq_true h;omega))];obtain⟨z,h1,h2⟩:=ga6 q s hs (by omega) q 0 0 [] (.inl (0,0)) ⟨rfl,rfl⟩ (Nat.zero_le _) (Nat.zero_le _) (by omega) (Bd.refl _ _ _ (Nat.le_refl _)) (Nat.zero_le _) (λr h=>h);rw[h1];dsimp only[Option.bind_some];rcases z with z|z|z
  ·obtain⟨p,g1,g2,g3⟩:=h2;exact .inl ⟨_,rfl,g2,rfl,p,g1,.inr ⟨hs,g3⟩⟩
  ·refine .inr ⟨[],?_,bm1 (by simp) (by simp),.inr ⟨hs,h2⟩⟩;rfl
  ·obtain⟨acc,g1,g2,g3,g4⟩:=h2;have hgood:=dy2 g4 (by simp);have hN:=bm1 (s:=s) (acc:=acc) (by omega) (λx hx=>hgood x (List.mem_append_left _ hx));refine .inr ⟨acc,?_,hN,.inr ⟨hs,g4⟩⟩;obtain⟨n,k,a,t,v⟩:=z;dsimp only at g1 g3⊢;subst g1
   have key:∀j,(if j<acc.length then k j else 0)=(aA s acc j).k/\(if j<acc.length then a j else((s.size:Nat):Int))=(aA s acc j).a/\(if j<acc.length then t j else⟨#[]⟩)=(aA s acc j).t/\(if j<acc.length then v j else 0)=(aA s acc j).n:=by
    intro j;unfold aA;by_cases hj:j<acc.length
    ·have e:=List.getElem?_eq_getElem hj;obtain⟨k1,k2,k3,k4⟩:=g3 j _ e;simp only[hj,if_true];rw[List.getD_eq_getElem?_getD,e];exact⟨k1,k4,k2,k3⟩
    ·simp only[hj,if_false];rw[List.getD_eq_getElem?_getD,List.getElem?_eq_none (by omega)];exact⟨rfl,rfl,rfl,rfl⟩
   show Option.map cp6 (if _ then some (Sum.inr _)else none)=_;rw[if_pos ⟨by unfold b6;omega,by unfold maxLen;omega,Nat.le_refl _⟩];show some _=some _;have f1:(λj=>if j<acc.length then k j else 0)=λj=>(aA s acc j).k:=funext λj=>(key j).1;have f2:(λj=>if j<acc.length then a j else((s.size:Nat):Int))=λj=>(aA s acc j).a:=funext λj=>(key j).2.1;have f3:(λj=>if j<acc.length then t j else(⟨#[]⟩:ByteArray))=λj=>(aA s acc j).t:=funext λj=>(key j).2.2.1;have f4:(λj=>if j<acc.length then v j else 0)=λj=>(aA s acc j).n:=funext λj=>(key j).2.2.2;unfold uI;rw[<-f1,<-f2,<-f3,<-f4];rfl
theorem ek7(s:ByteArray)(q:Nat)(hq:5000<q):
 (∃z:d8,dQ q s=some z/\z.2.1≠0/\∃p:Nat,z.1=(p:Int)/\fP s ([],p,z.2.1))\/
 (∃acc:List Tkn,dQ q s=some (0,0,uI (acc.length+1) (aA s acc))/\Z4 (acc.length+1) (aA s acc)/\fP s (acc++[am7 s],0,0)):=
 (dq0 s q hq).imp (λ⟨z,h1,h2,_,h3⟩=>⟨z,h1,h2,h3⟩) id
def Tot{α:Type}(N p:Nat):PR α->Prop
 | .ok _ s=>p<=s.p/\s.p<N
 | .err _ _=>True
 | .out=>False
theorem Tot.bind{α β:Type}{N p p':Nat}{r:PR α}{k:α->PS->PR β}(h:Tot N p r)(hk:∀a s,p<=s.p->s.p<N->Tot N p' (k a s)):Tot N p' (r.bind k):=by
 cases r with
 |ok a s=>exact hk a s h.1 h.2
 |err p c=>trivial
 |out=>exact h.elim
theorem Tot.mono{α:Type}{N p p':Nat}{r:PR α}(h:Tot N p r)(hp:p'<=p):Tot N p' r:=by
 cases r with
 |ok a s=>exact⟨Nat.le_trans hp h.1,h.2⟩
 |err p c=>trivial
 |out=>exact h.elim
theorem Tot.ite{α:Type}{N p:Nat}{c:Prop}[Decidable c]{a b:PR α}(h1:c->Tot N p a)(h2:¬c->Tot N p b):Tot N p (if c then a else b):=by
 by_cases h:c
 ·rw[if_pos h];exact h1 h
 ·rw[if_neg h];exact h2 h
def AY:=@Tot.ite
section
variable {N:Nat} {T:Nat->Tkn} {s:PS}
theorem iK(hT:Z4 N T)(hp:s.p<N){b:ByteArray}(hb:b≠⟨#[]⟩):Tot N (s.p+1) (x7 T b s):=by
 unfold x7;exact AY (λh=>⟨Nat.le_refl _,hT.lt hp (w8 hb h)⟩) λ_=>trivial
theorem bd6(hT:Z4 N T)(hp:s.p<N){b:ByteArray}(hb:b≠⟨#[]⟩):Tot N (s.p+1) (fF T b s):=by
 unfold fF;exact AY (λh=>AY (λ_=>trivial) λ_=>⟨Nat.le_refl _,hT.lt hp (w8 hb h)⟩) λ_=>trivial
theorem zP(hT:Z4 N T)(hp:s.p<N):Tot N (s.p+1) (aQ T s):=by
 unfold aQ;refine AY (λ_=>trivial) λh=>⟨Nat.le_refl _,hT.lt hp (.inr ?_)⟩
 have:(T s.p).k=1:=by
  by_cases e:(T s.p).k=1
  ·exact e
  ·exact absurd (Or.inl e) h
 rw[this];decide
theorem bj8(hT:Z4 N T)(hp:s.p<N)(lo hi:Int):Tot N (s.p+1) (mH T lo hi s):=by
 unfold mH;refine AY (λ_=>trivial) λh=>AY (λ_=>trivial) λ_=>⟨Nat.le_refl _,hT.lt hp (.inr ?_)⟩;have:(T s.p).k=2:=Decidable.not_not.1 h;rw[this];decide
theorem eb0(hT:Z4 N T)(hp:s.p<N):Tot N (s.p+1) (kZ T s):=by
 unfold kZ;exact(zP hT hp).bind λa s1 h1 h2=>AY (λ_=>trivial) λ_=>AY (λ_=>trivial) λ_=>⟨h1,h2⟩
theorem bn7(hT:Z4 N T)(hp:s.p<N):Tot N (s.p+1) (oE T s):=by
 unfold oE;refine(bj8 hT hp _ _).bind λa s1 h1 h2=>AY (λh=>⟨by show s.p+1<=s1.p+1;omega,hT.lt h2 (.inr ?_)⟩) λ_=>⟨h1,h2⟩;rw[h.1];decide
theorem vD(hT:Z4 N T)(hp:s.p<N){b:ByteArray}(hb:b≠⟨#[]⟩)(h:isP T b s=true):(adv s).p<N:=hT.lt hp (w8 hb h)
end
section
variable {N:Nat} {T:Nat->Tkn}
theorem zQ(hT:Z4 N T):∀f,(∀lv s,1<=lv->lv<=8->s.p<N->20*(N-s.p)+10-lv<=f->Tot N s.p (l9 T f lv s))/\
 (∀lv n s,1<=lv->lv<=7->s.p<N->20*(N-s.p)+1<=f->Tot N s.p (dP T f lv n s))/\
 (∀b lv s,b≠⟨#[]⟩->1<=lv->lv<=8->s.p<N->20*(N-s.p)<=f->Tot N s.p (aM T f b lv s))/\
 (∀s,s.p<N->20*(N-s.p)<=f->Tot N s.p (dK T f s)):=by
 intro f
 induction f with
 |zero=>exact⟨λlv s _ _ h1 h2=>by omega,λlv n s _ _ h1 h2=>by omega,λb lv s _ _ _ h1 h2=>by omega,λs h1 h2=>by omega⟩
 |succ f ih=>
  obtain⟨i1,i2,i3,i4⟩:=ih;refine⟨λlv s l1 l2 hp hf=>?_,λlv n s l1 l2 hp hf=>?_,λb lv s hb l1 l2 hp hf=>?_,λs hp hf=>?_⟩
  ·rw[l9];refine AY (λh=>i3 bt3 3 s (by decide) (by decide) (by decide) hp (by omega)) λh3=>AY (λh=>i3 yC 7 s (by decide) (by decide) (by decide) hp (by omega)) λh7=>AY (λh=>i4 s hp (by omega)) λh8=>?_;refine(i1 (lv+1) s (by omega) (by omega) hp (by omega)).bind λn s1 h1 h2=>?_;exact(i2 lv n s1 l1 (by omega) h2 (by omega)).mono h1
  ·rw[dP];refine AY (λh=>?_) λ_=>⟨Nat.le_refl _,hp⟩;have ha:(adv s).p<N:=hT.lt hp (.inr (by rw[h.2];decide));have hap:(adv s).p=s.p+1:=rfl;refine(i1 (lv+1) (adv s) (by omega) (by omega) ha (by omega)).bind λm s1 h1 h2=>AY (λ_=>⟨by omega,h2⟩) λ_=>?_;exact(i2 lv _ s1 l1 l2 h2 (by omega)).mono (by omega)
  ·rw[aM];refine(bd6 hT hp hb).bind λ_ s1 h1 h2=>(i1 lv s1 l1 l2 h2 (by omega)).bind λn s2 h3 h4=>⟨?_,h4⟩;show s.p<=s2.p;omega
  ·rw[dK];refine AY (λ_=>(bn7 hT hp).mono (by omega)) λ_=>AY (λh=>⟨Nat.le_succ _,vD hT hp (by decide) h⟩) λ_=>AY (λh=>⟨Nat.le_succ _,vD hT hp (by decide) h⟩) λ_=>AY (λh=>?_) λ_=>AY (λh=>?_) λ_=>(zP hT hp).bind λx s1 h1 h2=>⟨by omega,h2⟩
   ·have hap:(adv s).p=s.p+1:=rfl;exact(iK hT (vD hT hp (by decide) h) (by decide)).bind λ_ s1 h1 h2=>(zP hT h2).bind λx s2 h3 h4=>⟨by omega,h4⟩
   ·refine(bd6 hT hp (by decide)).bind λ_ s1 h1 h2=>(i1 1 s1 (by decide) (by decide) h2 (by omega)).bind λn s2 h3 h4=>(iK hT h4 (by decide)).bind λ_ s3 h5 h6=>⟨?_,h6⟩;show s.p<=s3.p;omega
end
section
variable {N:Nat} {T:Nat->Tkn} {s:PS}
theorem hb8(hT:Z4 N T)(hp:s.p<N)(n:Tr):Tot N s.p (Lx.endP T n s):=(iK hT hp (by decide)).bind λ_ s1 h1 h2=>⟨by omega,h2⟩
theorem fX(hT:Z4 N T){r:PR Tr}{p:Nat}(h:Tot N p r):Tot N p (r.bind (Lx.endP T)):=h.bind λn s1 h1 h2=>(hb8 hT h2 n).mono h1
theorem gq8(hT:Z4 N T){f:Nat}(hp:s.p<N)(hf:20*(N-s.p)+10<=f):Tot N s.p (dr6 T f s):=(eb0 hT hp).bind λa s1 h1 h2=>(iK hT h2 (by decide)).bind λ_ s2 h3 h4=>((zQ hT f).1 1 s2 (by decide) (by decide) h4 (by omega)).bind λn s3 h5 h6=>⟨by omega,h6⟩
theorem gd4(hT:Z4 N T){f:Nat}(hp:s.p<N)(hf:20*(N-s.p)<=f+1):Tot N (s.p+1) (dx1 T f s):=(zP hT hp).bind λa s1 h1 h2=>(iK hT h2 (by decide)).bind λ_ s2 h3 h4=>((zQ hT f).1 1 s2 (by decide) (by decide) h4 (by omega)).bind λn s3 h5 h6=>⟨by omega,h6⟩
theorem ex1(hT:Z4 N T){f:Nat}(hp:s.p<N)(hf:20*(N-s.p)+10<=f):Tot N s.p (zH T f s):=((zQ hT f).1 1 s (by decide) (by decide) hp (by omega)).bind λn s1 h1 h2=>(iK hT h2 (by decide)).bind λ_ s2 h3 h4=>(bn7 hT h4).bind λm s3 h5 h6=>⟨by omega,h6⟩
theorem ef4(hT:Z4 N T)(hp:s.p<N)(k:Int):Tot N s.p (dn2 T k s):=(bn7 hT hp).bind λn s1 h1 h2=>⟨by omega,h2⟩
theorem ea5(hT:Z4 N T){f:Nat}(hp:s.p<N)(hf:20*(N-s.p)+10<=f)(k:Int):Tot N s.p (dx0 T f k s):=((zQ hT f).1 1 s (by decide) (by decide) hp (by omega)).bind λn s1 h1 h2=>⟨h1,h2⟩
theorem ds2(hT:Z4 N T)(hp:s.p<N)(k hi:Int):Tot N s.p (dq9 T k hi s):=(bj8 hT hp 0 hi).bind λn s1 h1 h2=>⟨by omega,h2⟩
theorem dv1(hT:Z4 N T)(hp:s.p<N)(k:Int){b:ByteArray}(hb:b≠⟨#[]⟩):Tot N s.p (ee4 T k b s):=(bj8 hT hp 0 7).bind λn s1 h1 h2=>(iK hT h2 hb).bind λ_ s2 h3 h4=>(bn7 hT h4).bind λm s3 h5 h6=>⟨by omega,h6⟩
end
section
variable {N:Nat} {T:Nat->Tkn}
theorem gm8(hT:Z4 N T):∀f,(∀s,s.p<N->20*(N-s.p)+12<=f->Tot N (s.p+1) (t8 T f s))/\(∀s,s.p<N->20*(N-s.p)+11<=f->Tot N s.p (s8 T f s))/\(∀s,s.p<N->20*(N-s.p)+10<=f->Tot N (s.p+1) (m9 T f s)):=by
 intro f
 induction f with
 |zero=>exact⟨λs h1 h2=>by omega,λs h1 h2=>by omega,λs h1 h2=>by omega⟩
 |succ f ih=>
  obtain⟨i1,i2,i3⟩:=ih;refine⟨λs hp hf=>?_,λs hp hf=>?_,λs hp hf=>?_⟩
  ·rw[t8];refine(bd6 hT hp (by decide)).bind λ_ s1 h1 h2=>(i2 s1 h2 (by omega)).bind λl s2 h3 h4=>⟨?_,h4⟩;show s.p+1<=s2.p;omega
  ·rw[s8];refine AY (λh=>⟨Nat.le_succ _,vD hT hp (by decide) h⟩) λ_=>?_;exact(i3 s hp (by omega)).bind λn s1 h1 h2=>(i2 s1 h2 (by omega)).bind λl s2 h3 h4=>⟨by omega,h4⟩
  ·rw[m9];have hap:(adv s).p=s.p+1:=rfl;have ha:∀{b:ByteArray},b≠⟨#[]⟩->isP T b s=true->(adv s).p<N:=λhb h=>vD hT hp hb h;refine AY (λh=>?_) λ_=>?_
   ·rw[eh5];have:=ha (by decide) h;exact fX hT (gq8 hT this (by omega))
   refine AY (λh=>?_) λ_=>?_
   ·have hh:=ha (by decide) h;refine((zQ hT f).1 1 (adv s) (by decide) (by decide) hh (by omega)).bind λc s1 h1 h2=>(i1 s1 h2 (by omega)).bind λy s2 h3 h4=>AY (λh=>?_) λ_=>⟨by omega,h4⟩;have hap2:(adv s2).p=s2.p+1:=rfl;have h5:(adv s2).p<N:=vD hT h4 (by decide) h;exact(i1 (adv s2) h5 (by omega)).bind λn s3 h6 h7=>⟨by omega,h7⟩
   refine AY (λh=>?_) λ_=>?_
   ·have hh:=ha (by decide) h;exact(bj8 hT hh 1 100).bind λn s1 h1 h2=>(i1 s1 h2 (by omega)).bind λy s2 h3 h4=>⟨by omega,h4⟩
   refine AY (λh=>?_) λ_=>?_
   ·rw[cc2];have:=ha (by decide) h;exact fX hT (ex1 hT this (by omega))
   refine AY (λh=>?_) λ_=>?_
   ·rw[bb1];exact fX hT (ef4 hT (ha (by decide) h) _)
   refine AY (λh=>?_) λ_=>?_
   ·rw[bb1];exact fX hT (ef4 hT (ha (by decide) h) _)
   refine AY (λh=>?_) λ_=>?_
   ·rw[ba4];have:=ha (by decide) h;exact fX hT (ea5 hT this (by omega) _)
   refine AY (λh=>?_) λ_=>?_
   ·rw[ba4];have:=ha (by decide) h;exact fX hT (ea5 hT this (by omega) _)
   refine AY (λh=>?_) λ_=>?_
   ·rw[bb0];exact fX hT (dv1 hT (ha (by decide) h) _ (by decide))
   refine AY (λh=>?_) λ_=>?_
   ·rw[bb0];exact fX hT (dv1 hT (ha (by decide) h) _ (by decide))
   refine AY (λh=>?_) λ_=>?_
   ·rw[bc1];exact fX hT (ds2 hT (ha (by decide) h) _ _)
   refine AY (λh=>?_) λ_=>?_
   ·rw[bc1];exact fX hT (ds2 hT (ha (by decide) h) _ _)
   rw[er8];exact fX hT (gd4 hT hp (by omega))
theorem gw9(hT:Z4 N T){s:PS}(hp:s.p<N):Tot N (s.p+1) (ak6 T s):=by
 unfold ak6;refine(eb0 hT hp).bind λx s1 h1 h2=>AY (λh=>?_) λ_=>⟨h1,h2⟩;have h3:s1.p+1<N:=vD hT h2 (by decide) h;refine AY (λ_=>trivial) λhk=>AY (λ_=>trivial) λ_=>⟨?_,?_⟩
 ·show s.p+1<=s1.p+1+1;omega
 ·have hk:(T (s1.p+1)).k=1:=Decidable.not_not.1 hk;exact hT.lt h3 (.inr (by show(T (s1.p+1)).k≠0;rw[hk];decide))
theorem dv6(hT:Z4 N T):∀f s,s.p<N->20*(N-s.p)<=f->Tot N s.p (aj0 T f s)
 |0,s,h1,h2=>by omega
 |f+1,s,hp,hf=>by
  rw[aj0];refine(gw9 hT hp).bind λx s1 h1 h2=>AY (λh=>?_) λ_=>(iK hT h2 (by decide)).bind λ_ s2 h3 h4=>⟨by omega,h4⟩;have hap:(adv s1).p=s1.p+1:=rfl;exact(dv6 hT f (adv s1) (vD hT h2 (by decide) h) (by omega)).bind λl s2 h3 h4=>⟨by omega,h4⟩
theorem em5(hT:Z4 N T){f:Nat}{s:PS}(hp:s.p<N)(hf:20*(N-s.p)<=f):Tot N s.p (aU T f s):=by
 unfold aU;refine(iK hT hp (by decide)).bind λ_ s1 h1 h2=>AY (λh=>⟨?_,vD hT h2 (by decide) h⟩) λ_=>(dv6 hT f s1 h2 (by omega)).mono (by omega);show s.p<=s1.p+1;omega
theorem gk3(hT:Z4 N T){f:Nat}{pr:List ByteArray}{s:PS}(hp:s.p<N)(hf:20*(N-s.p)+12<=f):Tot N (s.p+1) (iD T f pr s):=by
 unfold iD;refine(iK hT hp (by decide)).bind λ_ s1 h1 h2=>(zP hT h2).bind λx s2 h3 h4=>AY (λ_=>trivial) λ_=>?_;refine(em5 hT (s:={s2 with vs:=[]}) h4 (by show 20*(N-s2.p)<=f;omega)).bind λl s3 h5 h6=>?_;have h5:s2.p<=s3.p:=h5;exact((gm8 hT f).1 s3 h6 (by omega)).bind λb s4 h7 h8=>⟨by omega,h8⟩
theorem bb3(hT:Z4 N T):∀f pr s,s.p<N->20*(N-s.p)+13<=f->Tot N s.p (n7 T f pr s)
 |0,pr,s,h1,h2=>by omega
 |f+1,pr,s,hp,hf=>by
  rw[n7];refine AY (λ_=>⟨Nat.le_refl _,hp⟩) λ_=>(gk3 hT hp (by omega)).bind λx s1 h1 h2=>?_;exact(bb3 hT f _ s1 h2 (by omega)).bind λl s2 h3 h4=>⟨by omega,h4⟩
end
def ai9:Nat:=100000
inductive X5(s:ByteArray):List Prc×Int×Int->Prop
 |lex (p:Nat) (e:Int):fP s ([],p,e)->e≠0->X5 s ([],p,e)
 |ok (acc:List Tkn) (l:List Prc) (s':PS):fP s (acc++[am7 s],0,0)->Z4 (acc.length+1) (aA s acc)->n7 (aA s acc) ai9 [] ⟨0,0,[]⟩= .ok l s'->X5 s (l,0,0)
 |err (acc:List Tkn) (p:Nat) (c:Int):fP s (acc++[am7 s],0,0)->Z4 (acc.length+1) (aA s acc)->p<acc.length+1->n7 (aA s acc) ai9 [] ⟨0,0,[]⟩= .err p c->X5 s ([],(aA s acc p).a,c)
theorem ba9(s:ByteArray):∃r,X5 s r/\SC E5 38 [st s] [] (.ret (.tup [yS r.1,i64 r.2.1,i64 r.2.2]) []):=by
 rcases ek7 s 3000000000 (by decide)with⟨z,h1,h2,p,h3,h4⟩ | ⟨acc,h1,h2,h3⟩
 ·refine⟨([],z.1,z.2.1),?_,fn7 h1 h2⟩;rw[h3];exact .lex p _ h4 h2
 ·have ht:=bb3 h2 ai9 [] ⟨0,0,[]⟩ h2.pos (by have:=h2.big;show 20*(acc.length+1-0)+13<=100000;omega);have hr:=fu1 h2 (F:=ai9) (q:=3000000000) (by decide) (by decide) h1;cases hp:n7 (aA s acc) ai9 [] ⟨0,0,[]⟩with
  |out=>rw[hp]at ht;exact ht.elim
  |ok l s'=>
   rw[hp]at hr;exact⟨(l,0,0),.ok acc l s' h3 h2 hp,hr⟩
  |err p c=>
   rw[hp]at hr;exact⟨([],(aA s acc p).a,c),.err acc p c h3 h2 hr.1 hp,hr.2⟩
end
end Go.Proofs.YtbmbhcheonjigaaGreatDoor
namespace Go.Proofs.YtbmbhcheonjigaaGreatDoor.Ty
section
open Go Go.Am Go.Proofs Go.Proofs.YtbmbhcheonjigaaGreatDoor
open Go.Proofs.Lx (Tr)
theorem dJ{n:Int}(h:inR n):w n=n:=by
 unfold w;rw[IntKind.wrap_i64];unfold inR at h;omega
def Z8{α:Type}(x y:Option α)(Q:α->Prop):Prop:=∃v,x=some v/\y=some v/\Q v
theorem Z8.some{α:Type}{v:α}{Q:α->Prop}(h:Q v):Z8 (some v) (some v) Q:=⟨v,rfl,rfl,h⟩
def AZ:=@Z8.some
theorem Z8.bind{α β:Type}{x y:Option α}{Q:α->Prop}{f g:α->Option β}{R:β->Prop}(h:Z8 x y Q)(k:∀v,Q v->Z8 (f v) (g v) R):Z8 (x.bind f) (y.bind g) R:=by
 obtain⟨v,rfl,rfl,hq⟩:=h;exact k v hq
theorem Z8.ite{α:Type}{c:Prop}[Decidable c]{x y x' y':Option α}{Q:α->Prop}(h1:c->Z8 x x' Q)(h2:¬c->Z8 y y' Q):Z8 (_root_.ite c x y) (_root_.ite c x' y') Q:=by
 by_cases h:c
 ·rw[if_pos h,if_pos h];exact h1 h
 ·rw[if_neg h,if_neg h];exact h2 h
def BA:=@Z8.ite
theorem Z8.flip{α:Type}{a b:List UInt8}{x y x' y':Option α}{Q:α->Prop}(h1:Z8 x x' Q)(h2:Z8 y y' Q):Z8 (_root_.ite ((b==a)=true) x y) (_root_.ite ((a==b)=true) x' y') Q:=by
 rw[BEq.comm (a:=b)];exact BA (λ_=>h1) (λ_=>h2)
theorem Z8.same{α:Type}{a b:List UInt8}{x y x' y':Option α}{Q:α->Prop}(h1:Z8 x x' Q)(h2:Z8 y y' Q):Z8 (_root_.ite ((a==b)=true) x y) (_root_.ite ((a==b)=true) x' y') Q:=BA (λ_=>h1) (λ_=>h2)
theorem Z8.mono{α:Type}{x y:Option α}{Q R:α->Prop}(h:Z8 x y Q)(g:∀v,Q v->R v):Z8 x y R:=by
 obtain⟨v,h1,h2,h3⟩:=h;exact⟨v,h1,h2,g v h3⟩
abbrev dR:Type:=Int×Int×Int×Int×Int
def R8(d:dR):Prop:=(-8<=d.1/\d.1<=8)/\(-8<=d.2.1/\d.2.1<=8)/\(-8<=d.2.2.1/\d.2.2.1<=8)/\(-8<=d.2.2.2.1/\d.2.2.2.1<=8)/\(-8<=d.2.2.2.2/\d.2.2.2.2<=8)
theorem ad4(q q':Nat)(s:ByteArray):Z8 (kind q s) (aa4 q' s) (λv=>0<=v/\v<=4):=by
 unfold kind aa4 cr7 aj9
 repeat' first
  |exact AZ (by decide)
  |refine Z8.flip ?_ ?_
theorem nB(q q':Nat)(s:ByteArray):Z8 (dG q s) (gT q' s) (λz=>R8 (z.1,z.2.1,z.2.2.1,z.2.2.2.1,z.2.2.2.2.1)/\(z.2.2.2.2.2.2=true->1<=z.2.2.2.2.2.1/\z.2.2.2.2.2.1<=3600)):=by
 unfold dG gT cm9 uL bl7
 repeat' first
  |exact AZ ⟨by unfold R8;decide,by decide⟩
  |refine Z8.flip ?_ ?_
theorem cj4(q q':Nat)(s:ByteArray):Z8 (cf4 q s) (fe7 q' s) (λz=>R8 (z.2.1,z.2.2.1,z.2.2.2.1,z.2.2.2.2.1,z.2.2.2.2.2.1)):=by
 unfold cf4 fe7 cx7 cz6
 repeat' first
  |exact AZ (by unfold R8;decide)
  |refine Z8.same ?_ ?_
theorem be7(q q':Nat)(x:g8):Z8 (pD q x) (ah0 q' x) (λz=>R8 (z.1,z.2.1,z.2.2.1,z.2.2.2.1,z.2.2.2.2.1)):=by
 unfold pD ah0 ad7 zS U4;refine BA (λ_=>Z8.bind (nB q q' _) λz hz=>?_) λ_=>?_
 ·refine BA (λ_=>AZ (by unfold R8;decide)) λhf=>BA (λ_=>AZ (by unfold R8;decide)) λ_=>?_;have h1:=hz.2 (by simpa using hf);have h0:¬z.2.2.2.2.2.1=0:=by omega
  rw[if_neg h0];exact BA (λ_=>AZ (by unfold R8;decide)) λ_=>AZ hz.1
 ·exact BA (λ_=>AZ (by unfold R8;decide)) λ_=>BA (λ_=>AZ (by unfold R8;decide)) λ_=>AZ (by unfold R8;decide)
theorem he3(a b:Int):(if b>a then b else a)=max a b:=by split<;>omega
theorem he6(a b:Int):(if b<a then b else a)=min a b:=by split<;>omega
theorem bz4(q q':Nat)(d:dR):Z8 (adm q d) (ge3 q' d) (λb=>b=true->R8 d):=by
 obtain⟨a,b,c,e,f⟩:=d;by_cases h:R8 (a,b,c,e,f)
 ·refine⟨true,?_,?_,λ_=>h⟩
  ·unfold adm fd5 U5;unfold R8 at h;simp only at h⊢
   repeat (rw[if_neg (by simp only[decide_eq_true_eq];omega)])
  ·unfold ge3 dg4 U5;unfold R8 at h;simp only[he3,he6]at h⊢;rw[if_pos (by simp only[decide_eq_true_eq];omega)];refine congrArg some (decide_eq_true ?_);omega
 ·refine⟨false,?_,?_,λg=>by cases g⟩
  ·unfold adm fd5 U5;simp only
   repeat' split
   all_goals first
    |rfl
    | (exfalso;apply h;unfold R8;simp only[decide_eq_true_eq]at*;omega)
  ·unfold ge3 dg4 U5;simp only[he3,he6];split
   ·rename_i g;refine congrArg some (decide_eq_false λg2=>h ?_);unfold R8;simp only[decide_eq_true_eq]at g⊢;omega
   ·rfl
theorem ei8(q q':Nat)(x:eO)(h:R8 x.2.2.2.2.2):Z8 (ci3 q x) (db7 q' x) (λ_=>True):=by
 refine⟨_,rfl,?_,trivial⟩;unfold db7 bx6 U10;unfold R8 at h;have e:∀y:Int, -8<=y/\y<=8->w (1*y)=y:=λy hy=>by rw[Int.one_mul];exact dJ (by unfold inR;omega)
 simp only[e _ h.1,e _ h.2.1,e _ h.2.2.1,e _ h.2.2.2.1,e _ h.2.2.2.2]
theorem fn9(q q':Nat)(x:eO):Z8 (Over q x) (go1 q' x) (λ_=>True):=⟨_,rfl,rfl,trivial⟩
theorem bb{x y:Bool}:((!x==y)=true)↔x≠y:=by cases x<;>cases y<;>decide
theorem ec7(q q':Nat)(x:gI)(h1:R8 (x.2.2.2.1,x.2.2.2.2.1,x.2.2.2.2.2.1,x.2.2.2.2.2.2.1,x.2.2.2.2.2.2.2.1))(h2:R8 x.2.2.2.2.2.2.2.2):Z8 (wS q x) (bk8 q' x) (λz=>R8 (z.2.1,z.2.2.1,z.2.2.2.1,z.2.2.2.2.1,z.2.2.2.2.2.1)):=by
 obtain⟨s,x,y,d0,d1,d2,d3,d4,f⟩:=x;unfold wS bk8 av2 bd2 U13;simp only at h1 h2⊢;refine Z8.bind (ad4 q q' s) λk hk=>?_;have z8:R8 (0,0,0,0,0):=by unfold R8;decide
 by_cases k1:k=1
 ·subst k1;cases x<;>cases y<;>simp only[beq_self_eq_true,bne_self_eq_false,show(!(true==true))=false from rfl,show(!(true==false))=true from rfl,show(!(false==true))=true from rfl,show(!(false==false))=false from rfl,Bool.not_true,Bool.not_false,if_true,if_false,Bool.false_eq_true,reduceIte]<;>exact AZ z8
 ·have e1:(k==(1:Int))=false:=by simpa using k1
  have e2:(k !=(1:Int))=true:=by simpa using k1
  cases x<;>cases y<;>simp only[e1,e2,show(!(true==true))=false from rfl,show(!(true==false))=true from rfl,show(!(false==true))=true from rfl,show(!(false==false))=false from rfl,Bool.not_true,Bool.not_false,if_true,if_false,Bool.false_eq_true,reduceIte]
  ·refine BA (λ_=>?_) λ_=>?_
   ·refine Z8.bind (ei8 q q' _ h2) λt _=>BA (λ_=>?_) λ_=>?_
    ·refine Z8.bind (fn9 q q' _) λo _=>Z8.bind (bz4 q q' o) λb hb=>BA (λ_=>AZ z8) λhn=>AZ (hb (by simpa using hn))
    ·refine Z8.bind (bz4 q q' t) λb hb=>BA (λ_=>AZ z8) λhn=>AZ (hb (by simpa using hn))
   ·exact BA (λ_=>AZ z8) λ_=>BA (λ_=>AZ z8) λ_=>AZ h1
  all_goals exact AZ z8
def Z2{α:Type}(o:Option α)(P:α->Prop):Prop:=∃z,o=some z/\P z
theorem Z2.bind{α β:Type}{o:Option α}{f:α->Option β}{P:α->Prop}{Q:β->Prop}(h:Z2 o P)(g:∀z,P z->Z2 (f z) Q):Z2 (o.bind f) Q:=by
 obtain⟨z,rfl,hz⟩:=h;exact g z hz
def BB:=@Z2.bind
theorem Z2.some{α:Type}{z:α}{P:α->Prop}(h:P z):Z2 (some z) P:=⟨z,rfl,h⟩
def BC:=@Z2.some
theorem Z2.mono{α:Type}{o:Option α}{P Q:α->Prop}(h:Z2 o P)(g:∀z,P z->Q z):Z2 o Q:=by
 obtain⟨z,h1,h2⟩:=h;exact⟨z,h1,g z h2⟩
theorem Z2.if_pos{α:Type}{c:Prop}[Decidable c]{a b:Option α}{P:α->Prop}(hc:c)(h:Z2 a P):Z2 (ite c a b) P:=by rw[_root_.if_pos hc];exact h
def BD:=@Z2.if_pos
theorem Z2.if_neg{α:Type}{c:Prop}[Decidable c]{a b:Option α}{P:α->Prop}(hc:¬c)(h:Z2 b P):Z2 (ite c a b) P:=by rw[_root_.if_neg hc];exact h
def BE:=@Z2.if_neg
theorem Z2.ite{α:Type}{c:Prop}[Decidable c]{a b:Option α}{P:α->Prop}(h1:c->Z2 a P)(h2:¬c->Z2 b P):Z2 (_root_.ite c a b) P:=by
 by_cases h:c
 ·exact BD h (h1 h)
 ·exact BE h (h2 h)
def BF:=@Z2.ite
theorem i6{α γ:Type}{st:α->Option (α⊕γ)}{q:Nat}{y:α}{P:γ->Prop}(h:Z2 (st y) (λr=>Sum.elim (λy'=>Z2 (lpG st q y') P) P r)):Z2 (lpG st (q+1) y) P:=by
 obtain⟨r,h1,h2⟩:=h;rw[bo3,h1];cases r with
 |inl y'=>exact h2
 |inr z=>exact⟨z,rfl,h2⟩
def he2:Nat->Nat->(Nat->List V)->Prop
 |0,_,f=>hJ f
 |d+1,m,f=>hJ f/\∀j,j<m->he2 d (opM f j) (opF f j)
def Y6(m:Nat)(f:Nat->List V):Prop:=∀d,he2 d m f
theorem Y6.here{m:Nat}{f:Nat->List V}(h:Y6 m f):hJ f:=h 0
theorem Y6.kid{m:Nat}{f:Nat->List V}(h:Y6 m f){j:Nat}(hj:j<m):Y6 (opM f j) (opF f j):=λd=>(h (d+1)).2 j hj
theorem Y6.of{m:Nat}{f:Nat->List V}(h:hJ f)(g:∀j,j<m->Y6 (opM f j) (opF f j)):Y6 m f
 |0=>h
 |d+1=>⟨h,λj hj=>g j hj d⟩
def Dp:Nat->Nat->(Nat->List V)->Prop
 |0,m,f=>m=0
 |d+1,m,f=>∀j,j<m->Dp d (opM f j) (opF f j)
theorem Dp.succ:∀{d m:Nat} {f:Nat->List V},Dp d m f->Dp (d+1) m f
 |0,m,f,h=>λj hj=>by have h:m=0:=h;omega
 |d+1,m,f,h=>λj hj=>Dp.succ (h j hj)
theorem Dp.le {d d' m : Nat} {f : Nat -> List V} (h : Dp d m f) (hd : d <= d') : Dp d' m f := by
  induction d' with
  | zero => have : d = 0 := by omega
            subst this; exact h
  | succ d' ih =>
    by_cases hh : d = d' + 1
    · subst hh; exact h
    · exact (ih (by omega)).succ
theorem tl_eq{a b:ByteArray}:((ByteArray.toList a==ByteArray.toList b)=true)↔a=b:=by
 rw[beq_iff_eq,ByteArray.toList_eq,ByteArray.toList_eq];constructor
 ·intro h;obtain⟨⟨x⟩⟩:=a;obtain⟨⟨y⟩⟩:=b;simp only at h;rw[h]
 ·rintro rfl;rfl
abbrev kM:Type:=Nat×(Nat->ByteArray)×(Nat->Int)×(Nat->Int)×(Nat->Int)×(Nat->Int)×(Nat->Int)
def FP(n:Nat)(vs:Nat->ByteArray)(s:ByteArray)(z:Int):Prop:=(z= -1/\∀j,j<n->vs j≠s)\/∃i:Nat,i<n/\z=i/\vs i=s/\∀j,j<i->vs j≠s
theorem be3{n:Nat}{vs:Nat->ByteArray}{v0 v1 v2 v3 v4:Nat->Int}{s:ByteArray}(hn:n<=1000){q:Nat}(hq:n<q):Z2 (fx8 q (n,vs,v0,v1,v2,v3,v4,s)) (FP n vs s):=by
 have loop:∀(r q i:Nat),i+r=n->r<q->(∀j,j<i->vs j≠s)->Z2 (fi6 q (n,vs,v0,v1,v2,v3,v4,s) (i:Int)) (λz=>FP n vs s (Sum.elim id (λ_=> -1) z)):=by
  intro r
  induction r with
  |zero=>
   intro q i hi hq hp;obtain⟨q,rfl⟩:∃k,q=k+1:=⟨q-1,by omega⟩;refine i6 ?_;unfold af6;dsimp only;refine BE (show¬decide ((i:Int)< (n:Int))=true by simp only[decide_eq_true_eq];omega) (BC (.inl ⟨rfl,λj hj=>hp j (by omega)⟩))
  |succ r ih=>
   intro q i hi hq hp;obtain⟨q,rfl⟩:∃k,q=k+1:=⟨q-1,by omega⟩;refine i6 ?_;unfold af6;dsimp only;refine BD (show decide ((i:Int)< (n:Int))=true by simp only[decide_eq_true_eq];omega) (BD ⟨by show(0:Int)<=(i:Int);omega,by show(i:Int)< (n:Int);omega⟩ (BF (λh=>BC ?_) λh=>BC ?_))
   ·rw[Int.toNat_natCast,tl_eq]at h;exact .inr ⟨i,by omega,rfl,h,hp⟩
   ·rw[Int.toNat_natCast,tl_eq]at h;have e:w ((i:Int)+1)=((i+1:Nat):Int):=by rw[dJ (by unfold inR;omega)];omega
    show Z2 (lpG _ q (w ((i:Int)+1))) _;rw[e];refine ih q (i+1) (by omega) (by omega) λj hj=>?_;by_cases hji:j=i
    ·subst hji;exact h
    ·exact hp j (by omega)
 unfold fx8 ez3;refine BB (loop n q 0 (by omega) hq λj hj=>by omega) λz hz=>?_;rcases z with z|z
 ·exact BC hz
 ·exact BC hz
structure VOk(z:kM):Prop where
 n:z.1<=12
 ne:∀i j,i<j->j<z.1->z.2.1 i≠z.2.1 j
 d:∀j,j<z.1->R8 (z.2.2.1 j,z.2.2.2.1 j,z.2.2.2.2.1 j,z.2.2.2.2.2.1 j,z.2.2.2.2.2.2 j)
abbrev wY:Type:=Nat×(ByteArray->Bool)×(ByteArray->Int)×(ByteArray->Int)×(ByteArray->Int)×(ByteArray->Int)×(ByteArray->Int)
def TR(v:kM)(i:Nat)(t:wY):Prop:=∀s,(t.2.1 s=true↔∃j,j<i/\v.2.1 j=s)/\∀j,j<i->v.2.1 j=s->t.2.2.1 s=v.2.2.1 j/\t.2.2.2.1 s=v.2.2.2.1 j/\t.2.2.2.2.1 s=v.2.2.2.2.1 j/\t.2.2.2.2.2.1 s=v.2.2.2.2.2.1 j/\t.2.2.2.2.2.2 s=v.2.2.2.2.2.2 j
theorem ba_eq{a b:ByteArray}:((a==b)=true)↔a=b:=by
 obtain⟨x⟩:=a;obtain⟨y⟩:=b;constructor
 ·intro h;have e:x=y:=by simpa using(show(x==y)=true from h)
  rw[e]
 ·intro h;cases h;show(x==x)=true;simp
theorem sG(q q':Nat)(k n:Int)(s:ByteArray)(m:Nat):∃(r:Int) (b:Bool),(∀f,av4 q (k,n,s,m,f)=some r)/\(∀f,tD q' (k,n,s,m,f)=some b)/\(b=true↔r=m)/\(b=true->(m=0/\(k=15\/k=16\/k=17\/k=18))\/(m=1/\k=19)\/(m=2/\k=20)):=by
 unfold av4 tD bc8 bu5 U4 U5;dsimp only;have b0:∀{c:Prop} [Decidable c],(decide c=true)↔c:=decide_eq_true_iff;by_cases h15:k=15
 ·subst h15;refine⟨0,(m:Int)==0,λf=>by simp,λf=>by simp,by rw[beq_iff_eq];omega,λh=>?_⟩;rw[beq_iff_eq]at h;omega
 by_cases h17:k=17
 ·subst h17;refine⟨0,(m:Int)==0,λf=>by simp,λf=>by simp,by rw[beq_iff_eq];omega,λh=>?_⟩;rw[beq_iff_eq]at h;omega
 by_cases h18:k=18
 ·subst h18;refine⟨0,(m:Int)==0,λf=>by simp,λf=>by simp,by rw[beq_iff_eq];omega,λh=>?_⟩;rw[beq_iff_eq]at h;omega
 by_cases h16:k=16
 ·subst h16;refine⟨if n=0\/n=1 then 0 else-1,decide ((m:Int)=0/\(n=0\/n=1)),λf=>?_,λf=>?_,?_,λh=>?_⟩
  ·by_cases h0:n=0<;>by_cases h1:n=1<;>simp[h0,h1]
  ·by_cases hm:m=0<;>by_cases h0:n=0<;>by_cases h1:n=1<;>simp[h0,h1,hm]
  ·rw[b0];split<;>omega
  ·rw[b0]at h;omega
 by_cases h19:k=19
 ·subst h19;obtain⟨b1,x1⟩:∃b,(ByteArray.toList s==ByteArray.toList {data:=#[(33:UInt8)]})=b:=⟨_,rfl⟩;obtain⟨b2,x2⟩:∃b,(ByteArray.toList s==ByteArray.toList {data:=#[(45:UInt8)]})=b:=⟨_,rfl⟩;cases b1<;>cases b2
  ·refine⟨-1,false,λf=>by simp only[x1,x2];simp,λf=>?_,?_,λh=>by cases h⟩
   ·by_cases hm:(m:Int)=1<;>simp only[x1,x2]<;>simp[hm]
   ·simp only[Bool.false_eq_true,false_iff];omega
  all_goals
   refine⟨1,(m:Int)==1,λf=>by simp only[x1,x2];simp,λf=>?_,by rw[beq_iff_eq];omega,λh=>?_⟩
   ·by_cases hm:(m:Int)=1<;>simp only[x1,x2]<;>simp[hm]
   ·rw[beq_iff_eq]at h;omega
 by_cases h20:k=20
 ·subst h20;obtain⟨(v:Int),hv1,hv2,hv3⟩:=ad4 q q' s;refine⟨if v>0 then 2 else-1,decide ((m:Int)=2/\v>0),λf=>?_,λf=>?_,?_,λh=>?_⟩
  ·simp only[hv1,Option.bind_some];by_cases h:v>0<;>simp[h]
  ·simp only[hv2,Option.bind_some];by_cases hm:(m:Int)=2<;>by_cases h:v>0<;>simp[h,hm]
  ·rw[b0];split<;>omega
  ·rw[b0]at h;omega
 refine⟨-1,false,λf=>?_,λf=>?_,?_,λh=>by cases h⟩
 ·simp[h15,h16,h17,h18,h19,h20]
 ·simp[h15,h16,h17,h18,h19,h20]
 ·simp only[Bool.false_eq_true,false_iff];omega
theorem r8z:R8 (0,0,0,0,0):=by unfold R8;decide
theorem gt4{v:kM}(hv:VOk v){t:wY}(ht:TR v v.1 t):∀(d q q':Nat) (k n:Int) (s:ByteArray) (m:Nat) (f:Nat->List V),Dp d m f->Y6 m f->d+21<=q->d+21<=q'->
 ∃z:aK,Of q (k,n,s,m,f,t)=some (z.1,z.2.1,z.2.2.1,z.2.2.2.1,z.2.2.2.2.1,z.2.2.2.2.2.1,z.2.2.2.2.2.2,t)/\ROf q' (k,n,s,m,f,v)=some z/\R8 (z.2.1,z.2.2.1,z.2.2.2.1,z.2.2.2.2.1,z.2.2.2.2.2.1):=by
 have hn:=hv.n
 have leaf:∀(q q':Nat) (k n:Int) (s:ByteArray) (f:Nat->List V),20<=q->20<=q'->Y6 0 f->(k=15\/k=16\/k=17\/k=18)->(∀f,av4 q (k,n,s,0,f)=some 0)->(∀f,tD q' (k,n,s,0,f)=some true)->
  ∃z:aK,Of (q+1) (k,n,s,0,f,t)=some (z.1,z.2.1,z.2.2.1,z.2.2.2.1,z.2.2.2.2.1,z.2.2.2.2.2.1,z.2.2.2.2.2.2,t)/\ROf (q'+1) (k,n,s,0,f,v)=some z/\R8 (z.2.1,z.2.2.1,z.2.2.2.1,z.2.2.2.2.1,z.2.2.2.2.2.1):=by
  intro q q' k n s f hq hq' hf hk hr hb;unfold Of ROf;dsimp only;rw[_root_.if_pos hf.here,_root_.if_pos hf.here];unfold ai4 be0 U16 U10;dsimp only;simp only[hr,hb,Option.bind_some];rcases hk with rfl|rfl|rfl|rfl
  ·obtain⟨z,h1,h2,h3⟩:=be7 q q' (15,n,s,0,f);unfold cq0 ae3;refine⟨(false,z),?_,?_,h3⟩
   ·simp[cY hf.here,h1]
   ·simp[cY hf.here,h2]
  ·refine⟨(true,0,0,0,0,0,0),by simp,by unfold cq0 ae3;simp,r8z⟩
  ·obtain⟨z,h1,h2⟩:=be3 (n:=v.1) (vs:=v.2.1) (v0:=v.2.2.1) (v1:=v.2.2.2.1) (v2:=v.2.2.2.2.1) (v3:=v.2.2.2.2.2.1) (v4:=v.2.2.2.2.2.2) (s:=s) (by omega) (q:=q') (by omega);obtain⟨t1,t2⟩:=ht s;unfold cq0 ae3 cl0 aq6 U6;rcases h2 with⟨rfl,hno⟩ | ⟨i,hi,rfl,his,hno⟩
   ·have hF:t.2.1 s=false:=by
     rw[Bool.eq_false_iff];intro h;obtain⟨j,hj,hjs⟩:=t1.1 h;exact hno j hj hjs
    refine⟨(false,0,0,0,0,0,3),?_,?_,r8z⟩
    ·simp[hF]
    ·simp[h1]
   ·have hT:t.2.1 s=true:=t1.2 ⟨i,hi,his⟩;obtain⟨e0,e1,e2,e3,e4⟩:=t2 i hi his;refine⟨(false,v.2.2.1 i,v.2.2.2.1 i,v.2.2.2.2.1 i,v.2.2.2.2.2.1 i,v.2.2.2.2.2.2 i,0),?_,?_,hv.d i hi⟩
    ·simp[hT,e0,e1,e2,e3,e4]
    ·have hI:(0:Int)<=(i:Int)/\(i:Int)< (v.1:Int):=⟨by omega,by omega⟩;have hN:¬((i:Int)<0):=by omega
     simp[h1,hI,hN,hi]
  ·obtain⟨z,h1,h2,h3⟩:=cj4 q q' s;unfold cq0 ae3 cl0 aq6 U6;by_cases hz:z.2.2.2.2.2.2=true
   ·refine⟨(false,z.2.1,z.2.2.1,z.2.2.2.1,z.2.2.2.2.1,z.2.2.2.2.2.1,0),?_,?_,h3⟩
    ·simp[h1,hz]
    ·simp[h2,hz]
   ·refine⟨(false,0,0,0,0,0,3),?_,?_,r8z⟩
    ·simp[h1,hz]
    ·simp[h2,hz]
 have bad:∀(q q':Nat) (k n:Int) (s:ByteArray) (m:Nat) (f:Nat->List V) (r:Int),Y6 m f->r≠m->(∀f,av4 q (k,n,s,m,f)=some r)->(∀f,tD q' (k,n,s,m,f)=some false)->
  ∃z:aK,Of (q+1) (k,n,s,m,f,t)=some (z.1,z.2.1,z.2.2.1,z.2.2.2.1,z.2.2.2.2.1,z.2.2.2.2.2.1,z.2.2.2.2.2.2,t)/\ROf (q'+1) (k,n,s,m,f,v)=some z/\R8 (z.2.1,z.2.2.1,z.2.2.2.1,z.2.2.2.2.1,z.2.2.2.2.2.1):=by
  intro q q' k n s m f r hf hrm hr hb;unfold Of ROf;dsimp only;rw[_root_.if_pos hf.here,_root_.if_pos hf.here];unfold ai4 be0 U16 U10;dsimp only;simp only[hr,hb,Option.bind_some];exact⟨(false,0,0,0,0,0,7),by simp[hrm],by simp,r8z⟩
 intro d
 induction d with
 |zero=>
  intro q q' k n s m f hd hf hq hq';have hd:m=0:=hd;subst hd;obtain⟨q,rfl⟩:∃k,q=k+1:=⟨q-1,by omega⟩;obtain⟨q',rfl⟩:∃k,q'=k+1:=⟨q'-1,by omega⟩;obtain⟨r,b,hr,hb,h1,h2⟩:=sG q q' k n s 0;by_cases hrm:r=(0:Nat)
  ·obtain rfl:=h1.2 hrm;subst hrm;rcases h2 rfl with⟨_,h⟩ | ⟨h,_⟩ | ⟨h,_⟩
   ·exact leaf q q' k n s f (by omega) (by omega) hf h hr hb
   ·omega
   ·omega
  ·have hb':b=false:=by cases b;rfl;exact absurd (h1.1 rfl) hrm
   subst hb';exact bad q q' k n s 0 f r hf hrm hr hb
 |succ d ih=>
  intro q q' k n s m f hd hf hq hq';obtain⟨q,rfl⟩:∃k,q=k+1:=⟨q-1,by omega⟩;obtain⟨q',rfl⟩:∃k,q'=k+1:=⟨q'-1,by omega⟩;obtain⟨r,b,hr,hb,h1,h2⟩:=sG q q' k n s m;by_cases hrm:r=(m:Nat)
  ·obtain rfl:=h1.2 hrm;subst hrm;rcases h2 rfl with⟨rfl,h⟩ | ⟨rfl,rfl⟩ | ⟨rfl,rfl⟩
   ·exact leaf q q' k n s f (by omega) (by omega) hf h hr hb
   ·obtain⟨z,g1,g2,g3⟩:=ih q q' (opK f 0) (opN f 0) (opS f 0) (opM f 0) (opF f 0) (hd 0 (by omega)) (hf.kid (by omega)) (by omega) (by omega);unfold Of ROf;dsimp only;rw[_root_.if_pos hf.here,_root_.if_pos hf.here];unfold ai4 be0 U16 U10;dsimp only;simp only[hr,hb,Option.bind_some,g1,g2];by_cases he:z.2.2.2.2.2.2=0
    ·by_cases hx:(!z.1==(ByteArray.toList s==ByteArray.toList {data:=#[(33:UInt8)]}))=true
     ·exact⟨(false,0,0,0,0,0,12),by simp only[hx];simp[he],by simp only[hx];simp[he],r8z⟩
     ·exact⟨(z.1,z.2.1,z.2.2.1,z.2.2.2.1,z.2.2.2.2.1,z.2.2.2.2.2.1,0),by simp only[hx];simp[he],by simp only[hx];simp[he],g3⟩
    ·exact⟨(false,0,0,0,0,0,z.2.2.2.2.2.2),by simp[he],by simp[he],r8z⟩
   ·obtain⟨z,g1,g2,g3⟩:=ih q q' (opK f 0) (opN f 0) (opS f 0) (opM f 0) (opF f 0) (hd 0 (by omega)) (hf.kid (by omega)) (by omega) (by omega);obtain⟨z',k1,k2,k3⟩:=ih q q' (opK f 1) (opN f 1) (opS f 1) (opM f 1) (opF f 1) (hd 1 (by omega)) (hf.kid (by omega)) (by omega) (by omega);unfold Of ROf;dsimp only;rw[_root_.if_pos hf.here,_root_.if_pos hf.here];unfold ai4 be0 U16 U10;dsimp only;simp only[hr,hb,Option.bind_some,g1,g2,k1,k2];by_cases he:z.2.2.2.2.2.2=0
    ·by_cases he':z'.2.2.2.2.2.2=0
     ·obtain⟨u,l1,l2,l3⟩:=ec7 q q' (s,z.1,z'.1,z.2.1,z.2.2.1,z.2.2.2.1,z.2.2.2.2.1,z.2.2.2.2.2.1,z'.2.1,z'.2.2.1,z'.2.2.2.1,z'.2.2.2.2.1,z'.2.2.2.2.2.1) g3 k3;exact⟨u,by simp[he,he',l1],by simp[he,he',l2],l3⟩
     ·exact⟨(false,0,0,0,0,0,z'.2.2.2.2.2.2),by simp[he,he'],by simp[he,he'],r8z⟩
    ·exact⟨(false,0,0,0,0,0,z.2.2.2.2.2.2),by simp[he],by simp[he],r8z⟩
  ·have hb':b=false:=by cases b;rfl;exact absurd (h1.1 rfl) hrm
   subst hb';exact bad q q' k n s m f r hf hrm hr hb
mutual
def siz:Tr->Nat
 | .node _ _ _ l=>1+i9 l
def i9:List Tr->Nat
 | []=>0
 |t::l=>siz t+i9 l
end
abbrev n9:Type:=Int×Int×ByteArray×Nat×(Nat->List V)
abbrev o6(f:Nat->List V)(j:Nat):n9:=(opK f j,opN f j,opS f j,opM f j,opF f j)
mutual
def Rep:Tr->n9->Prop
 | .node k n s l,x=>x.1=k/\x.2.1=n/\x.2.2.1=s/\x.2.2.2.1=l.length/\l.length<=Go.maxLen/\hJ x.2.2.2.2/\n5 l x.2.2.2.2 0
def n5:List Tr->(Nat->List V)->Nat->Prop
 | [],_,_=>True
 |t::l,f,j=>Rep t (o6 f j)/\n5 l f (j+1)
end
theorem aJ(t:Tr):1<=siz t:=by cases t;simp[siz]
theorem gG:∀l:List Tr,l.length<=i9 l
 | []=>Nat.le_refl _
 |t::l=>by have:=gG l;have:=aJ t;simp only[i9,List.length_cons];omega
theorem ap9:∀(l:List Tr) (f:Nat->List V) (i:Nat),n5 l f i->∀(j:Nat) (t:Tr),l[j]? =some t->Rep t (o6 f (i+j))
 | [],_,_,_,j,t,h=>by simp at h
 |t::l,f,i,h,0,t',e=>by
  simp only[n5]at h;simp only[List.getElem?_cons_zero,Option.some.injEq]at e;subst e;exact h.1
 |t::l,f,i,h,j+1,t',e=>by
  simp only[n5]at h;have:=ap9 l f (i+1) h.2 j t' (by simpa using e)
  rwa [show i+1+j=i+(j+1)by omega]at this
theorem da5:∀(l:List Tr) (f:Nat->List V) (i:Nat),(∀(j:Nat) (t:Tr),l[j]? =some t->Rep t (o6 f (i+j)))->n5 l f i
 | [],_,_,_=>by simp only[n5]
 |t::l,f,i,h=>by
  simp only[n5];refine⟨h 0 t rfl,da5 l f (i+1) λj t' e=>?_⟩;have:=h (j+1) t' (by simpa using e)
  rwa [show i+(j+1)=i+1+j by omega]at this
theorem bn3:∀(l:List Tr) (j:Nat) (t:Tr),l[j]? =some t->i9 (l.take j)+siz t<=i9 l
 | [],j,t,h=>by simp at h
 |t::l,0,t',e=>by
  simp only[List.getElem?_cons_zero,Option.some.injEq]at e;subst e;simp[i9]
 |t::l,j+1,t',e=>by
  have:=bn3 l j t' (by simpa using e);simp only[List.take_succ_cons,i9];omega
abbrev Ty:Type:=aK
def nY(e:Int):Ty:=(false,0,0,0,0,0,e)
noncomputable def dL(k n:Int)(s:ByteArray):Int:=(av4 0 (k,n,s,0,λ_=>[])).getD 0
noncomputable def hi8(n:Int)(s:ByteArray):jQ:=(pD 0 (15,n,s,0,λ_=>[])).getD (0,0,0,0,0,0)
noncomputable def nU(s:ByteArray):l7:=(cf4 0 s).getD (0,0,0,0,0,0,false)
noncomputable def hs7(x:gI):aK:=(wS 0 x).getD (false,0,0,0,0,0,0)
theorem uH{α:Type}{o:Option α}{d:α}(h:∃z,o=some z):o=some (o.getD d):=by obtain⟨z,rfl⟩:=h;rfl
theorem rU(q:Nat)(k n:Int)(s:ByteArray)(m:Nat)(f:Nat->List V):av4 q (k,n,s,m,f)=some (dL k n s):=by
 obtain⟨r,b,h1,_⟩:=sG 0 0 k n s 0;exact(show av4 q (k,n,s,m,f)=av4 0 (k,n,s,0,λ_=>[])from rfl).trans (uH ⟨r,h1 _⟩)
theorem cO(k n:Int)(s:ByteArray):(dL k n s=0->k=15\/k=16\/k=17\/k=18)/\(dL k n s=1->k=19)/\(dL k n s=2->k=20)/\dL k n s<=2:=by
 have key:∀m:Nat,dL k n s=m->(m=0/\(k=15\/k=16\/k=17\/k=18))\/(m=1/\k=19)\/(m=2/\k=20):=λm hm=>by
  obtain⟨r,b,h1,_,h2,h3⟩:=sG 0 0 k n s m;have e:=(h1 (λ_=>[])).symm.trans (rU 0 k n s m (λ_=>[]));cases e;exact h3 (h2.2 hm)
 refine⟨λh=>?_,λh=>?_,λh=>?_,?_⟩
 ·rcases key 0 h with⟨_,h⟩ | ⟨h,_⟩ | ⟨h,_⟩
  ·exact h
  ·omega
  ·omega
 ·rcases key 1 h with⟨h,_⟩ | ⟨_,h⟩ | ⟨h,_⟩
  ·omega
  ·exact h
  ·omega
 ·rcases key 2 h with⟨h,_⟩ | ⟨h,_⟩ | ⟨_,h⟩
  ·omega
  ·omega
  ·exact h
 ·rcases Int.lt_or_le 2 (dL k n s)with h|h
  ·rcases key (dL k n s).toNat (by omega)with⟨h,_⟩ | ⟨h,_⟩ | ⟨h,_⟩<;>omega
  ·exact h
theorem gc7(q:Nat)(k n:Int)(s:ByteArray)(m:Nat)(f:Nat->List V):pD q (k,n,s,m,f)=some (hi8 n s):=by
 obtain⟨z,h,_⟩:=be7 0 0 (15,n,s,0,λ_=>[]);exact(show pD q (k,n,s,m,f)=pD 0 (15,n,s,0,λ_=>[])from rfl).trans (uH ⟨z,h⟩)
theorem cq9(q:Nat)(s:ByteArray):cf4 q s=some (nU s):=by
 obtain⟨z,h,_⟩:=cj4 0 0 s;exact(show cf4 q s=cf4 0 s from rfl).trans (uH ⟨z,h⟩)
theorem dp0(q:Nat)(d:dR):∃z,adm q d=some z:=by
 obtain⟨z,h,_⟩:=bz4 q q d;exact⟨z,h⟩
theorem hn6(q:Nat)(x:gI):wS q x=some (hs7 x):=by
 refine(show wS q x=wS 0 x from rfl).trans (uH ?_);obtain⟨k,hk,_⟩:=ad4 0 0 x.1;obtain⟨b1,h1⟩:=dp0 0 ((Over 0 x.2.2.2).getD (0,0,0,0,0));obtain⟨b2,h2⟩:=dp0 0 ((ci3 0 x.2.2.2).getD (0,0,0,0,0));have o1:Over 0 x.2.2.2=some ((Over 0 x.2.2.2).getD (0,0,0,0,0)):=rfl;have o2:ci3 0 x.2.2.2=some ((ci3 0 x.2.2.2).getD (0,0,0,0,0)):=rfl;unfold wS av2;rw[hk,o1,o2];simp only[Option.bind_some,h1,h2]
 repeat' split
 all_goals exact⟨_,rfl⟩
noncomputable def cb7(T:ByteArray->Option dR)(k n:Int)(s:ByteArray):Ty:=
 if k=15 then(false,hi8 n s)
 else if k=16 then(true,0,0,0,0,0,0)
 else if k=17 then(match T s with|some d=>(false,d.1,d.2.1,d.2.2.1,d.2.2.2.1,d.2.2.2.2,0) |none=>nY 3)
 else if(nU s).2.2.2.2.2.2 then(false,(nU s).2.1,(nU s).2.2.1,(nU s).2.2.2.1,(nU s).2.2.2.2.1,(nU s).2.2.2.2.2.1,0)else nY 3
def eZ(z:Ty):Int:=z.2.2.2.2.2.2
noncomputable def unV(s:ByteArray)(z:Ty):Ty:=
 if eZ z≠0 then nY (eZ z)
 else if(!z.1==(ByteArray.toList s==ByteArray.toList {data:=#[(33:UInt8)]})) then nY 12 else(z.1,z.2.1,z.2.2.1,z.2.2.2.1,z.2.2.2.2.1,z.2.2.2.2.2.1,0)
noncomputable def biV(s:ByteArray)(z z':Ty):Ty:=
 if eZ z≠0 then nY (eZ z)else if eZ z'≠0 then nY (eZ z')
 else hs7 (s,z.1,z'.1,z.2.1,z.2.2.1,z.2.2.2.1,z.2.2.2.2.1,z.2.2.2.2.2.1,z'.2.1,z'.2.2.1,z'.2.2.2.1,z'.2.2.2.2.1,z'.2.2.2.2.2.1)
noncomputable def ofV(T:ByteArray->Option dR):Tr->Ty
 | .node k n s []=>if dL k n s=0 then cb7 T k n s else nY 7
 | .node k n s [a]=>if dL k n s=1 then unV s (ofV T a)else nY 7
 | .node k n s [a,b]=>if dL k n s=2 then biV s (ofV T a) (ofV T b)else nY 7
 | .node _ _ _ (_::_::_::_)=>nY 7
theorem cr2(T:ByteArray->Option dR)(k n:Int)(s:ByteArray):ofV T (.node k n s [])=if dL k n s=0 then cb7 T k n s else nY 7:=by rw[ofV]
theorem cw5(T:ByteArray->Option dR)(k n:Int)(s:ByteArray)(a:Tr):ofV T (.node k n s [a])=if dL k n s=1 then unV s (ofV T a)else nY 7:=by rw[ofV]
theorem de0(T:ByteArray->Option dR)(k n:Int)(s:ByteArray)(a b:Tr):ofV T (.node k n s [a,b])=if dL k n s=2 then biV s (ofV T a) (ofV T b)else nY 7:=by rw[ofV]
theorem bv5(T:ByteArray->Option dR)(k n:Int)(s:ByteArray)(a b c:Tr)(l:List Tr):ofV T (.node k n s (a::b::c::l))=nY 7:=by rw[ofV]
def aD(t:wY)(s:ByteArray):Option dR:=if t.2.1 s then some (t.2.2.1 s,t.2.2.2.1 s,t.2.2.2.2.1 s,t.2.2.2.2.2.1 s,t.2.2.2.2.2.2 s)else none
theorem gi6(t:wY):∀(tr:Tr) (x:n9) (q:Nat),Rep tr x->siz tr<q->Of q (x.1,x.2.1,x.2.2.1,x.2.2.2.1,x.2.2.2.2,t)=some ((ofV (aD t) tr).1,(ofV (aD t) tr).2.1,(ofV (aD t) tr).2.2.1,(ofV (aD t) tr).2.2.2.1,(ofV (aD t) tr).2.2.2.2.1,(ofV (aD t) tr).2.2.2.2.2.1,(ofV (aD t) tr).2.2.2.2.2.2,t)
 | .node k n s [],(k',n',s',m',f),q,hr,hq=>by
  simp only[Rep]at hr;obtain⟨rfl,rfl,rfl,rfl,hl,ho,hk⟩:=hr;obtain⟨q,rfl⟩:∃k,q=k+1:=⟨q-1,by omega⟩;unfold Of;dsimp only;rw[_root_.if_pos ho];unfold ai4 U16;dsimp only[List.length_nil];simp only[rU,Option.bind_some];rw[cr2];by_cases h0:dL k' n' s'=0
  ·rw[_root_.if_pos h0,h0];unfold cb7 cl0 aq6 U6;rcases(cO k' n' s').1 h0 with rfl|rfl|rfl|rfl
   ·simp[gc7]
   ·simp
   ·by_cases hT:t.2.1 s'=true
    ·simp[aD,hT]
    ·simp[aD,hT,nY]
   ·by_cases hT:(nU s').2.2.2.2.2.2=true
    ·simp[cq9,hT]
    ·simp[cq9,hT,nY]
  ·rw[_root_.if_neg h0];simp[h0,nY]
 | .node k n s [a],(k',n',s',m',f),q,hr,hq=>by
  simp only[Rep,n5]at hr;obtain⟨rfl,rfl,rfl,rfl,hl,ho,ha, -⟩:=hr;obtain⟨q,rfl⟩:∃k,q=k+1:=⟨q-1,by omega⟩;simp only[siz,i9]at hq;have ih:=gi6 t a (o6 f 0) q ha (by omega);unfold Of;dsimp only;rw[_root_.if_pos ho];unfold ai4 U16;dsimp only[List.length_cons,List.length_nil];dsimp only at ih;simp only[rU,Option.bind_some,ih];rw[cw5];generalize ofV (aD t) a=z;by_cases h0:dL k' n' s'=1
  ·rw[_root_.if_pos h0,h0];obtain rfl:=(cO k' n' s').2.1 h0;unfold unV eZ;by_cases he:z.2.2.2.2.2.2=0
   ·by_cases hx:(!z.1==(ByteArray.toList s'==ByteArray.toList {data:=#[(33:UInt8)]}))=true
    ·simp only[hx];simp[he,nY]
    ·simp only[hx];simp[he]
   ·simp[he,nY]
  ·rw[_root_.if_neg h0];simp[h0,nY]
 | .node k n s [a,b],(k',n',s',m',f),q,hr,hq=>by
  simp only[Rep,n5]at hr;obtain⟨rfl,rfl,rfl,rfl,hl,ho,ha,hb, -⟩:=hr;obtain⟨q,rfl⟩:∃k,q=k+1:=⟨q-1,by omega⟩;simp only[siz,i9]at hq;have ih:=gi6 t a (o6 f 0) q ha (by omega);have ih':=gi6 t b (o6 f 1) q hb (by omega);unfold Of;dsimp only;rw[_root_.if_pos ho];unfold ai4 U16;dsimp only[List.length_cons,List.length_nil];dsimp only at ih ih';simp only[rU,Option.bind_some,ih,ih'];rw[de0];generalize ofV (aD t) a=z;generalize ofV (aD t) b=z';by_cases h0:dL k' n' s'=2
  ·rw[_root_.if_pos h0,h0];obtain rfl:=(cO k' n' s').2.2.1 h0;unfold biV eZ;by_cases he:z.2.2.2.2.2.2=0
   ·by_cases he':z'.2.2.2.2.2.2=0
    ·simp[he,he',hn6]
    ·simp[he,he',nY]
   ·simp[he,nY]
  ·rw[_root_.if_neg h0];simp[h0,nY]
 | .node k n s (a::b::c::l),(k',n',s',m',f),q,hr,hq=>by
  simp only[Rep]at hr;obtain⟨rfl,rfl,rfl,rfl,hl,ho,ha⟩:=hr;obtain⟨q,rfl⟩:∃k,q=k+1:=⟨q-1,by omega⟩;unfold Of;dsimp only;rw[_root_.if_pos ho];unfold ai4 U16;dsimp only;simp only[rU,Option.bind_some];rw[bv5];have h2:=(cO k' n' s').2.2.2;have h0:¬dL k' n' s'=(((a::b::c::l).length:Nat):Int):=by simp only[List.length_cons];omega
  rw[_root_.if_pos (show(dL k' n' s' !=(((a::b::c::l).length:Nat):Int))=true by simpa using h0)];rfl
def au0(v:kM)(j:Nat):dR:=(v.2.2.1 j,v.2.2.2.1 j,v.2.2.2.2.1 j,v.2.2.2.2.2.1 j,v.2.2.2.2.2.2 j)
def cK(v:kM):Nat->ByteArray->Option dR
 |0,_=>none
 |n+1,s=>if s=v.2.1 n then some (au0 v n)else cK v n s
theorem be9{v v':kM}:∀{n:Nat},(∀j,j<n->v.2.1 j=v'.2.1 j/\au0 v j=au0 v' j)->cK v n=cK v' n
 |0,_=>rfl
 |n+1,h=>by
  funext s;simp only[cK];rw[(h n (by omega)).1,(h n (by omega)).2,be9 λj hj=>h j (by omega)]
theorem fu4(t:wY)(nm:ByteArray)(d:dR)(n:Nat):aD (n,(λq=>q==nm||t.2.1 q),(λj=>if(j==nm) then d.1 else t.2.2.1 j),(λj=>if(j==nm) then d.2.1 else t.2.2.2.1 j),(λj=>if(j==nm) then d.2.2.1 else t.2.2.2.2.1 j),(λj=>if(j==nm) then d.2.2.2.1 else t.2.2.2.2.2.1 j),(λj=>if(j==nm) then d.2.2.2.2 else t.2.2.2.2.2.2 j))=λs=>if s=nm then some d else aD t s:=by
 funext s;unfold aD;by_cases h:s=nm
 ·subst h;have hb:(s==s)=true:=ba_eq.2 rfl;simp[hb]
 ·have hb:¬(s==nm)=true:=λg=>h (ba_eq.1 g);simp only[hb,if_neg h,Bool.false_or,if_false,Bool.false_eq_true]
theorem o7{i:Nat}(h:i<9223372036854775807):w ((i:Int)+1)=((i+1:Nat):Int):=by rw[dJ (by unfold inR;omega)];omega
theorem dims_ne{a b c d e a' b' c' d' e':Int}:((if true then !(a==a'&&(b==b'&&(c==c'&&(d==d'&&(e==e'&&true)))))else a==a'&&(b==b'&&(c==c'&&(d==d'&&(e==e'&&true)))))=true)↔¬((a,b,c,d,e)=(a',b',c',d',e')):=by
 simp only[if_true,Bool.not_eq_true',Bool.and_true,Prod.mk.injEq];rw[<-Bool.not_eq_true];simp only[Bool.and_eq_true,beq_iff_eq]
abbrev Sg:Type:=Nat×(ByteArray->Option dR)
def cU(t:wY):Sg:=(t.1,aD t)
def cd7(T:ByteArray->Option dR)(s:ByteArray)(d:dR):ByteArray->Option dR:=λx=>if x=s then some d else T x
def cW(s:ByteArray)(d:dR)(g:Sg):Int×Sg:=if(g.2 s).isSome then(4,g)else if g.1>=12 then(2,g)else(0,g.1+1,cd7 g.2 s d)
def zR(z:Ty):dR:=(z.2.1,z.2.2.1,z.2.2.2.1,z.2.2.2.2.1,z.2.2.2.2.2.1)
noncomputable def fM(a:Tr)(g:Sg):Int:=if eZ (ofV g.2 a)=0 then(if(ofV g.2 a).1 then 0 else 12)else eZ (ofV g.2 a)
noncomputable def jE(a:Tr)(d:dR)(g:Sg):Int:=if eZ (ofV g.2 a)=0 then(if(ofV g.2 a).1 then 12 else if zR (ofV g.2 a)=d then 0 else 10)else eZ (ofV g.2 a)
noncomputable def yB(T:Ty)(k:Int)(s:ByteArray)(g:Sg):Int×Sg:=
 if eZ T=0 then
  if k=2 then(match g.2 s with|none=>(3,g) |some d=>if T.1 then(12,g)else if d=zR T then(0,g)else(10,g))
  else if T.1 then(12,g)else cW s (zR T) g
 else(eZ T,g)
noncomputable def dk1(k:Int)(s:ByteArray)(a:Tr)(g:Sg):Int×Sg:=yB (ofV g.2 a) k s g
def kdT:Tr->Int| .node k _ _ _=>k
def ah9(l:List Tr)(i:Nat):Int:=match l[i]?with|some t=>kdT t|none=>0
def wfV(k:Int)(l:List Tr):Bool:=
 if k=14 then true else
 if k=1\/k=2\/k=7\/k=8 then l.length==1 else
 if k=5\/k=11\/k=9\/k=10 then l.length==1&&ah9 l 0==15 else
 if k=6 then l.length==2&&ah9 l 1==15 else
 if k=3 then l.length==3&&(ah9 l 1==14&&ah9 l 2==14)else
 if k=4 then l.length==1&&ah9 l 0==14 else
 if k=12\/k=13 then l.length==0 else false
def rgV(k n:Int):Bool:=
 if k=4 then decide (1<=n/\n<=100)else
 if k=9\/k=10 then decide (0<=n/\n<=7)else
 if k=12 then decide (0<=n/\n<=99)else
 if k=13 then decide (0<=n/\n<=999)else true
def hdT(l:List Tr):Tr:=l.headD (.node 0 0 ByteArray.empty [])
def sdT(l:List Tr):Tr:=l.tail.headD (.node 0 0 ByteArray.empty [])
mutual
noncomputable def stV:Tr->Sg->Int×Sg
 | .node k n s l,g=>
  if wfV k l=false then(7,g)else
  if rgV k n=false then(5,g)else
  if k=1\/k=2 then dk1 k s (hdT l) g else
  if k=7 then(fM (hdT l) g,g)else
  if k=8 then(jE (hdT l) (0,0,0,1,0) g,g)else
  if k=5\/k=9 then(jE (hdT l) (0,0,1,0,0) g,g)else
  if k=10\/k=11 then(jE (hdT l) (0,1,0,0,0) g,g)else
  if k=6 then(if fM (hdT l) g=0 then(jE (sdT l) (0,0,1,0,0) g,g)else(fM (hdT l) g,g))else
  if k=3 then(if fM (hdT l) g=0 then alV 1 l g else(fM (hdT l) g,g))else
  alV 0 l g
noncomputable def alV:Nat->List Tr->Sg->Int×Sg
 |_,[],g=>(0,g)
 |i+1,_::l,g=>alV i l g
 |0,t::l,g=>if(stV t g).1=0 then alV 0 l (stV t g).2 else stV t g
end
theorem bo8(k n:Int)(s:ByteArray)(l:List Tr)(g:Sg):stV (.node k n s l) g=
 if wfV k l=false then(7,g)else
 if rgV k n=false then(5,g)else
 if k=1\/k=2 then dk1 k s (hdT l) g else
 if k=7 then(fM (hdT l) g,g)else
 if k=8 then(jE (hdT l) (0,0,0,1,0) g,g)else
 if k=5\/k=9 then(jE (hdT l) (0,0,1,0,0) g,g)else
 if k=10\/k=11 then(jE (hdT l) (0,1,0,0,0) g,g)else
 if k=6 then(if fM (hdT l) g=0 then(jE (sdT l) (0,0,1,0,0) g,g)else(fM (hdT l) g,g))else
 if k=3 then(if fM (hdT l) g=0 then alV 1 l g else(fM (hdT l) g,g))else
 alV 0 l g:=by rw[stV]
theorem mD(i:Nat)(g:Sg):alV i [] g=(0,g):=by cases i<;>rw[alV]
theorem tJ(t:Tr)(l:List Tr)(g:Sg):alV 0 (t::l) g=if(stV t g).1=0 then alV 0 l (stV t g).2 else stV t g:=by rw[alV]
theorem cz7(t:Tr)(l:List Tr)(g:Sg):alV 1 (t::l) g=alV 0 l g:=by rw[alV]
abbrev Out(r:Int×Sg)(z:f6):Prop:=(z.1,cU z.2)=r
theorem hl5(t:wY)(s:ByteArray):(aD t s).isSome=t.2.1 s:=by
 unfold aD;cases t.2.1 s<;>simp
theorem ad1{s:ByteArray}{d:dR}{g:Sg}(h:(g.2 s).isSome=true):cW s d g=(4,g):=by unfold cW;rw[if_pos h]
theorem am1{s:ByteArray}{d:dR}{g:Sg}(h:¬(g.2 s).isSome=true)(h2:g.1>=12):cW s d g=(2,g):=by unfold cW;rw[if_neg h,if_pos h2]
theorem as6{s:ByteArray}{d:dR}{g:Sg}(h:¬(g.2 s).isSome=true)(h2:¬g.1>=12):cW s d g=(0,g.1+1,cd7 g.2 s d):=by unfold cW;rw[if_neg h,if_neg h2]
theorem cg8(q:Nat)(s:ByteArray)(d:dR)(t:wY):Z2 (iJ q (s,d.1,d.2.1,d.2.2.1,d.2.2.2.1,d.2.2.2.2,t)) (Out (cW s d (cU t))):=by
 have hs:((cU t).2 s).isSome=t.2.1 s:=hl5 t s;unfold iJ al9 U13;dsimp only;refine BF (λh=>BC ?_) λh=>BF (λh2=>BC ?_) λh2=>BC ?_
 ·rw[ad1 (by rw[hs];exact h)]
 ·rw[am1 (by rw[hs];exact h) (show t.1>=12 by simp only[decide_eq_true_eq]at h2;omega)]
 ·rw[as6 (by rw[hs];exact h) (show¬t.1>=12 by simp only[decide_eq_true_eq]at h2;omega)];show((0:Int),cU _)=_;rw[if_neg h];unfold cU;rw[fu4 t s d];rfl
theorem hk6{t:wY}{a:Tr}{x:n9}{q:Nat}(h:Rep a x)(hq:siz a<q):Z2 (Of q (x.1,x.2.1,x.2.2.1,x.2.2.2.1,x.2.2.2.2,t)) (λz=>z=((ofV (aD t) a).1,(ofV (aD t) a).2.1,(ofV (aD t) a).2.2.1,(ofV (aD t) a).2.2.2.1,(ofV (aD t) a).2.2.2.2.1,(ofV (aD t) a).2.2.2.2.2.1,(ofV (aD t) a).2.2.2.2.2.2,t)):=⟨_,gi6 t a x q h hq,rfl⟩
theorem es4{t:wY}{a:Tr}{x:n9}{q:Nat}(h:Rep a x)(hq:siz a<q):Z2 (cond q (x.1,x.2.1,x.2.2.1,x.2.2.2.1,x.2.2.2.2,t)) (Out (fM a (cU t),cU t)):=by
 unfold cond el8 fM eZ;refine BB (hk6 h hq) λz hz=>?_;subst hz;dsimp only;show Z2 _ (Out ((if(ofV (aD t) a).2.2.2.2.2.2=0 then(if(ofV (aD t) a).1 then 0 else 12)else(ofV (aD t) a).2.2.2.2.2.2),cU t));generalize ofV (aD t) a=T;by_cases he:T.2.2.2.2.2.2=0
 ·rw[if_pos (by simpa using he),if_pos he];cases hb:T.1
  ·exact BD rfl (BC rfl)
  ·exact BE (by simp) (BC (by rw[he];rfl))
 ·rw[if_neg (by simpa using he),if_neg he];exact BC rfl
theorem ac0{t:wY}{a:Tr}{x:n9}{d:dR}{q:Nat}(h:Rep a x)(hq:siz a<q):Z2 (fd8 q (x.1,x.2.1,x.2.2.1,x.2.2.2.1,x.2.2.2.2,d.1,d.2.1,d.2.2.1,d.2.2.2.1,d.2.2.2.2,t)) (Out (jE a d (cU t),cU t)):=by
 unfold fd8 cv0 jE eZ U11;refine BB (hk6 h hq) λz hz=>?_;subst hz;dsimp only;show Z2 _ (Out ((if(ofV (aD t) a).2.2.2.2.2.2=0 then(if(ofV (aD t) a).1 then 12 else if zR (ofV (aD t) a)=d then 0 else 10)else(ofV (aD t) a).2.2.2.2.2.2),cU t));generalize ofV (aD t) a=T;by_cases he:T.2.2.2.2.2.2=0
 ·rw[if_neg (by simpa using he),if_pos he];by_cases hb:T.1=true
  ·rw[if_pos hb,if_pos hb];exact BC rfl
  ·rw[if_neg hb,if_neg hb];by_cases hd:zR T=d
   ·rw[if_pos hd,if_neg (by rw[dims_ne];exact λh=>h hd)];exact BC rfl
   ·rw[if_neg hd,if_pos (by rw[dims_ne];exact hd)];exact BC rfl
 ·rw[if_pos (by simpa using he),if_neg he];exact BC rfl
theorem ci8(q:Nat)(k n:Int)(s:ByteArray)(m:Nat)(f:Nat->List V):Z2 (bl2 q (k,n,s,m,f)) (λb=>b=rgV k n):=by
 unfold bl2 aw6 rgV;dsimp only
 have key:∀(lo hi:Int),Z2 (if decide (n>=lo) then(some (decide (n<=hi)):Option Bool)else some false) (λb=>b=decide (lo<=n/\n<=hi)):=λlo hi=>by
  refine BF (λh=>BC ?_) λh=>BC ?_
  ·have h:lo<=n:=by simpa using h
   simp[h]
  ·have h:¬lo<=n:=by simpa using h
   simp[h]
 by_cases h4:k=4
 ·rw[if_pos (show k=4 by omega)];exact BD (by simpa using h4) (key 1 100)
 rw[if_neg (show¬(k=4)by omega)];refine BE (by simpa using h4) ?_;by_cases h9:k=9
 ·rw[if_pos (show k=9\/k=10 by omega)];exact BD (by simpa using h9) (key 0 7)
 refine BE (by simpa using h9) ?_;by_cases h10:k=10
 ·rw[if_pos (show k=9\/k=10 by omega)];exact BD (by simpa using h10) (key 0 7)
 rw[if_neg (show¬(k=9\/k=10)by omega)];refine BE (by simpa using h10) ?_;by_cases h12:k=12
 ·rw[if_pos (show k=12 by omega)];exact BD (by simpa using h12) (key 0 99)
 rw[if_neg (show¬(k=12)by omega)];refine BE (by simpa using h12) ?_;by_cases h13:k=13
 ·rw[if_pos (show k=13 by omega)];exact BD (by simpa using h13) (key 0 999)
 rw[if_neg (show¬(k=13)by omega)];refine BE (by simpa using h13) ?_;exact BC rfl
theorem cu8{t:Tr}{x:n9}(h:Rep t x):x.1=kdT t:=by
 obtain⟨k,n,s,l⟩:=t;unfold Rep at h;exact h.1
theorem aq8{l:List Tr}{f:Nat->List V}(hr:n5 l f 0){i:Nat}(hi:i<l.length):ah9 l i=opK f i:=by
 unfold ah9;rw[List.getElem?_eq_getElem hi];have:=ap9 l f 0 hr i _ (List.getElem?_eq_getElem hi);rw[Nat.zero_add]at this;exact(cu8 this).symm
theorem fj8(q:Nat)(k n:Int)(s:ByteArray){l:List Tr}{f:Nat->List V}(hr:n5 l f 0):Z2 (fg8 q (k,n,s,l.length,opK f,opN f,opS f,opM f,opF f)) (λb=>b=wfV k l):=by
 unfold fg8 db4 wfV U6;dsimp only
 have e1:∀m:Nat,((l.length:Int)==(m:Int))=(l.length==m):=λm=>by
  by_cases h:l.length=m
  ·simp[h]
  ·have h2:¬((l.length:Int)=(m:Int)):=by omega
   rw[beq_eq_false_iff_ne.2 h2,beq_eq_false_iff_ne.2 h]
 have lit:∀(c:Int),Z2 (if((l.length:Int)==(1:Int)) then(if(0:Int)<=(0:Int)/\(0:Int)< (l.length:Int)then(some (opK f 0==c):Option Bool)else none)else some false) (λb=>b=(l.length==1&&ah9 l 0==c)):=λc=>by
  refine BF (λh=>?_) λh=>BC ?_
  ·have h:(l.length:Int)=1:=by simpa using h
   have h':l.length=1:=by omega
   refine BD ⟨by omega,by omega⟩ (BC ?_);rw[aq8 hr (by omega)];simp[h']
  ·have h:¬(l.length:Int)=1:=by simpa using h
   have h':¬l.length=1:=by omega
   simp[h']
 have cnt:∀(m:Nat),((l.length:Int)==((m:Nat):Int))=(l.length==m):=e1;by_cases h14:k=14
 ·rw[if_pos (show k=14 by omega)];exact BD (by simpa using h14) (BC rfl)
 rw[if_neg (show¬(k=14)by omega)];refine BE (by simpa using h14) ?_;by_cases h1:k=1
 ·rw[if_pos (show k=1\/k=2\/k=7\/k=8 by omega)];exact BD (by simpa using h1) (BC (cnt 1))
 refine BE (by simpa using h1) ?_;by_cases h2:k=2
 ·rw[if_pos (show k=1\/k=2\/k=7\/k=8 by omega)];exact BD (by simpa using h2) (BC (cnt 1))
 refine BE (by simpa using h2) ?_;by_cases h7:k=7
 ·rw[if_pos (show k=1\/k=2\/k=7\/k=8 by omega)];exact BD (by simpa using h7) (BC (cnt 1))
 refine BE (by simpa using h7) ?_;by_cases h8:k=8
 ·rw[if_pos (show k=1\/k=2\/k=7\/k=8 by omega)];exact BD (by simpa using h8) (BC (cnt 1))
 rw[if_neg (show¬(k=1\/k=2\/k=7\/k=8)by omega)];refine BE (by simpa using h8) ?_;by_cases h5:k=5
 ·rw[if_pos (show k=5\/k=11\/k=9\/k=10 by omega)];exact BD (by simpa using h5) (lit 15)
 refine BE (by simpa using h5) ?_;by_cases h11:k=11
 ·rw[if_pos (show k=5\/k=11\/k=9\/k=10 by omega)];exact BD (by simpa using h11) (lit 15)
 refine BE (by simpa using h11) ?_;by_cases h9:k=9
 ·rw[if_pos (show k=5\/k=11\/k=9\/k=10 by omega)];exact BD (by simpa using h9) (lit 15)
 refine BE (by simpa using h9) ?_;by_cases h10:k=10
 ·rw[if_pos (show k=5\/k=11\/k=9\/k=10 by omega)];exact BD (by simpa using h10) (lit 15)
 rw[if_neg (show¬(k=5\/k=11\/k=9\/k=10)by omega)];refine BE (by simpa using h10) ?_;by_cases h6:k=6
 ·rw[if_pos (show k=6 by omega)];refine BD (by simpa using h6) ?_;refine BF (λh=>?_) λh=>BC ?_
  ·have h:(l.length:Int)=2:=by simpa using h
   have h':l.length=2:=by omega
   refine BD ⟨by omega,by omega⟩ (BC ?_);rw[aq8 hr (by omega)];simp[h']
  ·have h:¬(l.length:Int)=2:=by simpa using h
   have h':¬l.length=2:=by omega
   simp[h']
 rw[if_neg (show¬(k=6)by omega)];refine BE (by simpa using h6) ?_;by_cases h3:k=3
 ·rw[if_pos (show k=3 by omega)];refine BD (by simpa using h3) ?_;refine BF (λh=>?_) λh=>BC ?_
  ·have h:(l.length:Int)=3:=by simpa using h
   have h':l.length=3:=by omega
   refine BD ⟨by omega,by omega⟩ ?_;rw[aq8 hr (by omega),aq8 hr (by omega)];refine BF (λg=>BD ⟨by omega,by omega⟩ (BC ?_)) λg=>BC ?_
   ·simp[h',g]
   ·have g:(opK f 1==14)=false:=by simpa using g
    simp[g]
  ·have h:¬(l.length:Int)=3:=by simpa using h
   have h':¬l.length=3:=by omega
   simp[h']
 rw[if_neg (show¬(k=3)by omega)];refine BE (by simpa using h3) ?_;by_cases h4:k=4
 ·rw[if_pos (show k=4 by omega)];exact BD (by simpa using h4) (lit 14)
 rw[if_neg (show¬(k=4)by omega)];refine BE (by simpa using h4) ?_;by_cases h12:k=12
 ·rw[if_pos (show k=12\/k=13 by omega)];exact BD (by simpa using h12) (BC (cnt 0))
 refine BE (by simpa using h12) ?_;by_cases h13:k=13
 ·rw[if_pos (show k=12\/k=13 by omega)];exact BD (by simpa using h13) (BC (cnt 0))
 rw[if_neg (show¬(k=12\/k=13)by omega)];refine BE (by simpa using h13) ?_;exact BC rfl
theorem kD{l:List Tr}{f:Nat->List V}(hr:n5 l f 0)(h:0<l.length):Rep (hdT l) (o6 f 0)/\siz (hdT l)<=i9 l:=by
 cases l with
 |nil=>simp at h
 |cons a l=>
  simp only[n5]at hr;refine⟨hr.1,?_⟩;show siz a<=_;simp only[i9];omega
theorem gq9{l:List Tr}{f:Nat->List V}(hr:n5 l f 0)(h:1<l.length):Rep (sdT l) (o6 f 1)/\siz (sdT l)<=i9 l:=by
 cases l with
 |nil=>simp at h
 |cons a l=>
  cases l with
  |nil=>simp at h
  |cons b l=>
   simp only[n5]at hr;refine⟨hr.2.1,?_⟩;show siz b<=_;simp only[i9];omega
theorem eb1{T:Ty}{k:Int}{s:ByteArray}{g:Sg}(h:¬T.2.2.2.2.2.2=0):yB T k s g=(T.2.2.2.2.2.2,g):=by
 unfold yB eZ;rw[if_neg h]
theorem cm1{T:Ty}{s:ByteArray}{g:Sg}(h:T.2.2.2.2.2.2=0)(hs:g.2 s=none):yB T 2 s g=(3,g):=by
 unfold yB eZ;rw[if_pos h,if_pos rfl,hs]
theorem ci0{T:Ty}{s:ByteArray}{g:Sg}{d:dR}(h:T.2.2.2.2.2.2=0)(hs:g.2 s=some d)(hb:T.1=true):yB T 2 s g=(12,g):=by
 unfold yB eZ;rw[if_pos h,if_pos rfl,hs];dsimp only;rw[if_pos hb]
theorem ck2{T:Ty}{s:ByteArray}{g:Sg}{d:dR}(h:T.2.2.2.2.2.2=0)(hs:g.2 s=some d)(hb:¬T.1=true)(hd:d=zR T):yB T 2 s g=(0,g):=by
 unfold yB eZ;rw[if_pos h,if_pos rfl,hs];dsimp only;rw[if_neg hb,if_pos hd]
theorem ci4{T:Ty}{s:ByteArray}{g:Sg}{d:dR}(h:T.2.2.2.2.2.2=0)(hs:g.2 s=some d)(hb:¬T.1=true)(hd:¬d=zR T):yB T 2 s g=(10,g):=by
 unfold yB eZ;rw[if_pos h,if_pos rfl,hs];dsimp only;rw[if_neg hb,if_neg hd]
theorem bt4{T:Ty}{s:ByteArray}{g:Sg}(h:T.2.2.2.2.2.2=0)(hb:T.1=true):yB T 1 s g=(12,g):=by
 unfold yB eZ;rw[if_pos h,if_neg (by decide),if_pos hb]
theorem cp3{T:Ty}{s:ByteArray}{g:Sg}(h:T.2.2.2.2.2.2=0)(hb:¬T.1=true):yB T 1 s g=cW s (zR T) g:=by
 unfold yB eZ;rw[if_pos h,if_neg (by decide),if_neg hb]
theorem gb6{t:wY}{k n:Int}{s:ByteArray}{l:List Tr}{f:Nat->List V}{q:Nat}(hr:n5 l f 0)(h:0<l.length)(hk:k=1\/k=2)(hq:i9 l<q):Z2 (fa7 q (k,n,s,l.length,opK f,opN f,opS f,opM f,opF f,t)) (Out (dk1 k s (hdT l) (cU t))):=by
 obtain⟨h1,h2⟩:=kD hr h;unfold fa7 cu3 dk1 U10;dsimp only;refine BD ⟨by omega,by omega⟩ (BB (hk6 h1 (by omega)) λz hz=>?_);subst hz;dsimp only;show Z2 _ (Out (yB (ofV (aD t) (hdT l)) k s (cU t)));generalize ofV (aD t) (hdT l)=T;by_cases he:T.2.2.2.2.2.2=0
 ·refine BE (by simpa using he) ?_;have dcl:Z2 ((iJ q (s,T.2.1,T.2.2.1,T.2.2.2.1,T.2.2.2.2.1,T.2.2.2.2.2.1,t)).bind λz=>some z) (Out (cW s (zR T) (cU t))):=BB (cg8 q s (zR T) t) λz hz=>BC hz;rcases hk with rfl|rfl
  ·refine BE (by decide) (BF (λhb=>?_) λhb=>BE (by decide) (BE (by decide) ?_))
   ·rw[bt4 he hb];exact BC rfl
   ·rw[cp3 he hb];exact dcl
  ·refine BD (by decide) ?_;by_cases hs:t.2.1 s=true
   ·have e:(cU t).2 s=some (t.2.2.1 s,t.2.2.2.1 s,t.2.2.2.2.1 s,t.2.2.2.2.2.1 s,t.2.2.2.2.2.2 s):=by show aD t s=_;unfold aD;rw[if_pos hs]
    refine BE (by rw[hs];decide) (BF (λhb=>?_) λhb=>BD (by decide) ?_)
    ·rw[ci0 he e hb];exact BC rfl
    ·rw[if_pos hs,if_pos hs,if_pos hs,if_pos hs,if_pos hs];by_cases hd:(t.2.2.1 s,t.2.2.2.1 s,t.2.2.2.2.1 s,t.2.2.2.2.2.1 s,t.2.2.2.2.2.2 s)=zR T
     ·rw[ck2 he e hb hd];exact BE (λg=>(dims_ne.1 g) hd) (BD (by decide) (BC rfl))
     ·rw[ci4 he e hb hd];exact BD (dims_ne.2 hd) (BC rfl)
   ·have e:(cU t).2 s=none:=by show aD t s=_;unfold aD;rw[if_neg hs]
    rw[cm1 he e];exact BD (by simpa using hs) (BC rfl)
 ·rw[eb1 he];exact BD (by simpa using he) (BC rfl)
theorem gf1{k:Int}{l:List Tr}(h:wfV k l=true):(k=1\/k=2\/k=7\/k=8\/k=5\/k=9\/k=10\/k=11\/k=6\/k=3->0<l.length)/\(k=6->1<l.length)/\(k=3->1<l.length):=by
 refine⟨λg=>?_,λg=>?_,λg=>?_⟩
 ·rcases g with rfl|rfl|rfl|rfl|rfl|rfl|rfl|rfl|rfl|rfl<;>simp[wfV]at h<;>omega
 ·subst g;simp[wfV]at h;omega
 ·subst g;simp[wfV]at h;omega
theorem fx9{c:tS->Option f6}{l:List Tr}{f:Nat->List V}{t0:wY}(hl:l.length<=9223372036854775807)
 (hc:∀(j:Nat) (tr:Tr) (t:wY),l[j]? =some tr->Z2 (c (opK f j,opN f j,opS f j,opM f j,opF f j,t)) (Out (stV tr (cU t)))):
 ∀(r q i:Nat) (t:wY),i+r=l.length->r<q->Z2 (ds8 c q (l.length,opK f,opN f,opS f,opM f,opF f,t0) ((i:Int),t)) (λz=>Out (alV 0 (l.drop i) (cU t)) (Sum.elim id (λt=>(0,t)) z)):=by
 intro r
 induction r with
 |zero=>
  intro q i t hi hq;obtain⟨q,rfl⟩:∃k,q=k+1:=⟨q-1,by omega⟩;refine i6 ?_;unfold wR U7;dsimp only;rw[List.drop_of_length_le (by omega),mD];exact BE (by simp only[decide_eq_true_eq];omega) (BC rfl)
 |succ r ih=>
  intro q i t hi hq;obtain⟨q,rfl⟩:∃k,q=k+1:=⟨q-1,by omega⟩;refine i6 ?_;unfold wR U7;dsimp only;have hil:i<l.length:=by omega
  have ht:l[i]? =some l[i]:=List.getElem?_eq_getElem hil;rw[List.drop_eq_getElem_cons hil,tJ];refine BD (by simp only[decide_eq_true_eq];omega) (BD ⟨by omega,by omega⟩ ?_);rw[Int.toNat_natCast,o7 (by omega)];refine BB (hc i _ t ht) λz hz=>?_;have h1:z.1=(stV l[i] (cU t)).1:=congrArg Prod.fst hz;have h2:cU z.2=(stV l[i] (cU t)).2:=congrArg Prod.snd hz;refine BF (λh=>BC ?_) λh=>BC ?_
  ·have h:¬z.1=0:=by simpa using h
   rw[if_neg (by rw[<-h1];exact h)];exact hz
  ·have h:z.1=0:=by simpa using h
   rw[if_pos (by rw[<-h1];exact h),<-h2];exact ih q (i+1) z.2 (by omega) (by omega)
theorem fm2{a:Tr}{l:List Tr}{f:Nat->List V}(h:n5 (a::l) f 0):n5 l (λj=>f (1+j)) 0:=by
 simp only[n5]at h;refine da5 l _ 0 λj t e=>?_;have:=ap9 l f (0+1) h.2 j t e;rw[Nat.zero_add]at this⊢;exact this
theorem hj9:∀q:Nat,(∀(tr:Tr) (x:n9) (t:wY),Rep tr x->2*siz tr<q->siz tr<=9223372036854775807->Z2 (en2 q (x.1,x.2.1,x.2.2.1,x.2.2.2.1,x.2.2.2.2,t)) (Out (stV tr (cU t))))/\
 (∀(l:List Tr) (f:Nat->List V) (t:wY),n5 l f 0->hJ f->2*i9 l+1<q->i9 l<=9223372036854775807->Z2 (gv2 q (l.length,f,t)) (Out (alV 0 l (cU t)))):=by
 intro q
 induction q with
 |zero=>exact⟨λ_ _ _ _ h=>by omega,λ_ _ _ _ _ h=>by omega⟩
 |succ q ih=>
  obtain⟨ih1,ih2⟩:=ih;refine⟨?_,?_⟩
  ·rintro⟨k,n,s,l⟩ ⟨k',n',s',m',f⟩ t hr hq hm;simp only[Rep]at hr;obtain⟨rfl,rfl,rfl,rfl,hl,ho,hk⟩:=hr;simp only[siz]at hq hm;unfold en2 cg3;dsimp only;rw[_root_.if_pos ho];unfold cr8 U10;dsimp only;refine BB (fj8 q k' n' s' hk) λb hb=>?_;subst hb;rw[bo8];by_cases hw:wfV k' l=false
   ·rw[if_pos hw];exact BD (by rw[hw];rfl) (BC rfl)
   rw[if_neg hw];have hw':wfV k' l=true:=by simpa using hw
   obtain⟨w1,w2,w3⟩:=gf1 hw';refine BE (by rw[hw'];decide) (BB (ci8 q k' n' s' l.length _) λb hb=>?_);subst hb;by_cases hg:rgV k' n'=false
   ·rw[if_pos hg];exact BD (by rw[hg];rfl) (BC rfl)
   rw[if_neg hg];have hg':rgV k' n'=true:=by simpa using hg
   refine BE (by rw[hg'];decide) ?_
   have allC:∀t',Z2 (((cg3 q).2 (l.length,λj=>[i64 (opK f j),i64 (opN f j),st (opS f j),V.ro 4 (opM f j) (opF f j)],t')).bind λz=>some z) (Out (alV 0 l (cU t'))):=λt'=>by
    rw[cY ho];exact BB (ih2 l f t' hk ho (by omega) (by omega)) λz hz=>BC hz
   by_cases h1:k'=1
   ·rw[if_pos (show k'=1\/k'=2 by omega)];exact BD (by simpa using h1) (BB (gb6 hk (w1 (by omega)) (.inl h1) (by omega)) λz hz=>BC hz)
   refine BE (by simpa using h1) ?_;by_cases h2:k'=2
   ·rw[if_pos (show k'=1\/k'=2 by omega)];exact BD (by simpa using h2) (BB (gb6 hk (w1 (by omega)) (.inr h2) (by omega)) λz hz=>BC hz)
   rw[if_neg (show¬(k'=1\/k'=2)by omega)];refine BE (by simpa using h2) ?_;by_cases h7:k'=7
   ·rw[if_pos h7];obtain⟨g1,g2⟩:=kD hk (w1 (by omega));exact BD (by simpa using h7) (BD ⟨by omega,by have:=w1 (by omega);omega⟩ (BB (es4 g1 (by omega)) λz hz=>BC hz))
   rw[if_neg h7];refine BE (by simpa using h7) ?_;by_cases h8:k'=8
   ·rw[if_pos h8];obtain⟨g1,g2⟩:=kD hk (w1 (by omega));exact BD (by simpa using h8) (BD ⟨by omega,by have:=w1 (by omega);omega⟩ (BB (ac0 (d:=(0,0,0,1,0)) g1 (by omega)) λz hz=>BC hz))
   rw[if_neg h8];refine BE (by simpa using h8) ?_;by_cases h5:k'=5
   ·rw[if_pos (show k'=5\/k'=9 by omega)];obtain⟨g1,g2⟩:=kD hk (w1 (by omega));exact BD (by simpa using h5) (BD ⟨by omega,by have:=w1 (by omega);omega⟩ (BB (ac0 (d:=(0,0,1,0,0)) g1 (by omega)) λz hz=>BC hz))
   refine BE (by simpa using h5) ?_;by_cases h9:k'=9
   ·rw[if_pos (show k'=5\/k'=9 by omega)];obtain⟨g1,g2⟩:=kD hk (w1 (by omega));exact BD (by simpa using h9) (BD ⟨by omega,by have:=w1 (by omega);omega⟩ (BB (ac0 (d:=(0,0,1,0,0)) g1 (by omega)) λz hz=>BC hz))
   rw[if_neg (show¬(k'=5\/k'=9)by omega)];refine BE (by simpa using h9) ?_;by_cases h10:k'=10
   ·rw[if_pos (show k'=10\/k'=11 by omega)];obtain⟨g1,g2⟩:=kD hk (w1 (by omega));exact BD (by simpa using h10) (BD ⟨by omega,by have:=w1 (by omega);omega⟩ (BB (ac0 (d:=(0,1,0,0,0)) g1 (by omega)) λz hz=>BC hz))
   refine BE (by simpa using h10) ?_;by_cases h11:k'=11
   ·rw[if_pos (show k'=10\/k'=11 by omega)];obtain⟨g1,g2⟩:=kD hk (w1 (by omega));exact BD (by simpa using h11) (BD ⟨by omega,by have:=w1 (by omega);omega⟩ (BB (ac0 (d:=(0,1,0,0,0)) g1 (by omega)) λz hz=>BC hz))
   rw[if_neg (show¬(k'=10\/k'=11)by omega)];refine BE (by simpa using h11) ?_;by_cases h6:k'=6
   ·rw[if_pos h6];obtain⟨g1,g2⟩:=kD hk (w1 (by omega));obtain⟨g3,g4⟩:=gq9 hk (w2 h6);refine BD (by simpa using h6) (BD ⟨by omega,by have:=w1 (by omega);omega⟩ (BB (es4 g1 (by omega)) λz hz=>?_));have e1:z.1=fM (hdT l) (cU t):=congrArg Prod.fst hz;have e2:cU z.2=cU t:=congrArg Prod.snd hz;refine BF (λh=>BC ?_) λh=>BD ⟨by omega,by have:=w2 h6;omega⟩ ?_
    ·have h:¬z.1=0:=by simpa using h
     rw[if_neg (by rw[<-e1];exact h)];exact hz
    ·have h:z.1=0:=by simpa using h
     rw[if_pos (by rw[<-e1];exact h),<-e2];exact BB (ac0 (d:=(0,0,1,0,0)) g3 (by omega)) λz hz=>BC hz
   rw[if_neg h6];refine BE (by simpa using h6) ?_;by_cases h3:k'=3
   ·rw[if_pos h3];obtain⟨g1,g2⟩:=kD hk (w1 (by omega));have hlen:=w3 h3;refine BD (by simpa using h3) (BD ⟨by omega,by omega⟩ (BB (es4 g1 (by omega)) λz hz=>?_));have e1:z.1=fM (hdT l) (cU t):=congrArg Prod.fst hz;have e2:cU z.2=cU t:=congrArg Prod.snd hz;refine BF (λh=>BC ?_) λh=>BD ⟨by omega,by omega,by omega⟩ ?_
    ·have h:¬z.1=0:=by simpa using h
     rw[if_neg (by rw[<-e1];exact h)];exact hz
    ·have h:z.1=0:=by simpa using h
     rw[if_pos (by rw[<-e1];exact h),<-e2];cases l with
     |nil=>simp at hlen
     |cons a l=>
      rw[cz7];have ef:(λj:Nat=>[i64 (opK f (1+j)),i64 (opN f (1+j)),st (opS f (1+j)),V.ro 4 (opM f (1+j)) (opF f (1+j))])=λj=>f (1+j):=funext λj=>(ho (1+j)).symm;have en:Int.toNat ((List.length (a::l):Nat):Int)-1=l.length:=by simp
      rw[ef,en];simp only[i9]at hq hm;exact BB (ih2 l (λj=>f (1+j)) z.2 (fm2 hk) (λj=>ho (1+j)) (by have:=aJ a;omega) (by omega)) λz hz=>BC hz
   rw[if_neg h3];exact BE (by simpa using h3) (allC t)
  ·intro l f t hk ho hq hm;unfold gv2 cg3;dsimp only;rw[_root_.if_pos ho];unfold de5;have hlen:=gG l;refine BB (fx9 (by omega) (λj tr t' hj=>?_) l.length q 0 t (by omega) (by omega)) λz hz=>?_
   ·have h1:=ap9 l f 0 hk j tr hj;rw[Nat.zero_add]at h1;have h2:=bn3 l j tr hj;exact ih1 tr (o6 f j) t' h1 (by omega) (by omega)
   ·rw[List.drop_zero]at hz;rcases z with z|z
    ·exact BC hz
    ·exact BC hz
noncomputable def n8(u:ByteArray):l7:=(dG 0 u).getD (0,0,0,0,0,0,false)
theorem sN(q:Nat)(u:ByteArray):dG q u=some (n8 u):=by
 obtain⟨z,h,_⟩:=nB 0 0 u;exact(show dG q u=dG 0 u from rfl).trans (uH ⟨z,h⟩)
noncomputable def nA(u:ByteArray):Option dR:=if u={data:=#[]}then some (0,0,0,0,0)else if(n8 u).2.2.2.2.2.2 then some ((n8 u).1,(n8 u).2.1,(n8 u).2.2.1,(n8 u).2.2.2.1,(n8 u).2.2.2.2.1)else none
noncomputable def jD(pa pu:Nat->ByteArray):Nat->Nat->Sg->Int×Sg
 |0,_,g=>(0,g)
 |r+1,i,g=>match nA (pu i)with
  |none=>(10,g)
  |some d=>if(cW (pa i) d g).1=0 then jD pa pu r (i+1) (cW (pa i) d g).2 else cW (pa i) d g
def hk7(r:Int×Sg)(z:lB):Prop:=Sum.elim (λe=>e≠0/\r.1=e) (λt=>r=(0,cU t)) z
theorem gb8{pn:ByteArray}{pm:Nat}{pa pu:Nat->ByteArray}{nd:n9}{q':Nat}{c:tS->Option f6}(hm:pm<=9223372036854775807):
 ∀(r q i:Nat) (t:wY),i+r=pm->r<q->Z2 (ca7 (dG q') (iJ q') c q (pn,pm,pa,pu,nd) ((i:Int),t)) (hk7 (jD pa pu r i (cU t))):=by
 intro r
 induction r with
 |zero=>
  intro q i t hi hq;obtain⟨q,rfl⟩:∃k,q=k+1:=⟨q-1,by omega⟩;refine i6 ?_;unfold xL U5;dsimp only;exact BE (by simp only[decide_eq_true_eq];omega) (BC rfl)
 |succ r ih=>
  intro q i t hi hq;obtain⟨q,rfl⟩:∃k,q=k+1:=⟨q-1,by omega⟩;refine i6 ?_;unfold xL U5;dsimp only;refine BD (by simp only[decide_eq_true_eq];omega) (BD ⟨by omega,by omega⟩ ?_);rw[Int.toNat_natCast,o7 (by omega)]
  have dcl:∀d:dR,nA (pu i)=some d->Z2 ((iJ q' (pa i,d.1,d.2.1,d.2.2.1,d.2.2.2.1,d.2.2.2.2,t)).bind λz=>if(z.1 !=(0:Int)) then(some (.inr (.inl z.1)):Option (f6⊕lB))else some (.inl (((i+1:Nat):Int),z.2)))
   (λr'=>Sum.elim (λy'=>Z2 (ca7 (dG q') (iJ q') c q (pn,pm,pa,pu,nd) y') (hk7 (jD pa pu (r+1) i (cU t)))) (hk7 (jD pa pu (r+1) i (cU t))) r'):=λd hd=>by
   refine BB (cg8 q' (pa i) d t) λz hz=>?_;have e1:z.1=(cW (pa i) d (cU t)).1:=congrArg Prod.fst hz;have e2:cU z.2=(cW (pa i) d (cU t)).2:=congrArg Prod.snd hz
   have ep:jD pa pu (r+1) i (cU t)=if(cW (pa i) d (cU t)).1=0 then jD pa pu r (i+1) (cW (pa i) d (cU t)).2 else cW (pa i) d (cU t):=by
    rw[jD,hd]
   rw[ep];refine BF (λh=>BC ?_) λh=>BC ?_
   ·have h:¬z.1=0:=by simpa using h
    rw[if_neg (by rw[<-e1];exact h)];exact⟨h,e1.symm⟩
   ·have h:z.1=0:=by simpa using h
    rw[if_pos (by rw[<-e1];exact h),<-e2];exact ih q (i+1) z.2 (by omega) (by omega)
  refine BF (λh=>?_) λh=>?_
  ·have h:¬pu i={data:=#[]}:=λe=>by rw[e]at h;simp at h
   refine BB (P:=λz=>z=n8 (pu i)) ⟨_,sN _ _,rfl⟩ λz hz=>?_;subst hz;by_cases hf:(n8 (pu i)).2.2.2.2.2.2=true
   ·exact BE (by rw[hf];decide) (dcl ((n8 (pu i)).1,(n8 (pu i)).2.1,(n8 (pu i)).2.2.1,(n8 (pu i)).2.2.2.1,(n8 (pu i)).2.2.2.2.1) (by unfold nA;rw[if_neg h,if_pos hf]))
   ·refine BD (by simpa using hf) (BC ?_);rw[jD,show nA (pu i)=none by unfold nA;rw[if_neg h,if_neg hf]];exact⟨by decide,rfl⟩
  ·have h:pu i={data:=#[]}:=tl_eq.1 (by simpa using h);exact dcl (0,0,0,0,0) (by unfold nA;rw[if_pos h])
noncomputable def lL(pm:Nat)(pa pu:Nat->ByteArray)(b:Tr):Int:=
 if(jD pa pu pm 0 (0,λ_=>none)).1=0 then(if kdT b=14 then(stV b (jD pa pu pm 0 (0,λ_=>none)).2).1 else 7)else(jD pa pu pm 0 (0,λ_=>none)).1
theorem ff4{pn:ByteArray}{pm:Nat}{pa pu:Nat->ByteArray}{b:Tr}{nd:n9}{q:Nat}(hr:Rep b nd)(hm:pm<=9223372036854775807)(hq:pm+2*siz b<q)(hs:siz b<=9223372036854775807):
 Z2 (ai3 q (pn,pm,pa,pu,nd)) (λ(e:Int)=>e=lL pm pa pu b):=by
 unfold ai3 cv9 lL
 have e0:cU (0,(λ_=>false),(λ_=>0),(λ_=>0),(λ_=>0),(λ_=>0),(λ_=>0))=(0,λ_=>none):=by
  unfold cU aD;simp
 refine BB (gb8 (nd:=nd) (pn:=pn) hm pm q 0 (0,(λ_=>false),(λ_=>0),(λ_=>0),(λ_=>0),(λ_=>0),(λ_=>0)) (by omega) (by omega)) λz hz=>?_;rw[e0]at hz;generalize jD pa pu pm 0 (0,λ_=>none)=o at hz⊢;have hkd:nd.1=kdT b:=cu8 hr;rcases z with z|t
 ·obtain⟨h1,h2⟩:=hz;rw[if_neg (by rw[h2];exact h1)];exact BC h2.symm
 ·have hz:o=(0,cU t):=hz;subst hz;rw[if_pos rfl];by_cases hk:kdT b=14
  ·rw[if_pos hk];exact BE (by show¬(nd.1 !=(14:Int))=true;rw[hkd,hk];decide) (BB ((hj9 q).1 b nd t hr (by omega) hs) λy hy=>BC (congrArg Prod.fst hy))
  ·rw[if_neg hk];exact BD (by show(nd.1 !=(14:Int))=true;rw[hkd];simpa using hk) (BC rfl)
end
end Go.Proofs.YtbmbhcheonjigaaGreatDoor.Ty
