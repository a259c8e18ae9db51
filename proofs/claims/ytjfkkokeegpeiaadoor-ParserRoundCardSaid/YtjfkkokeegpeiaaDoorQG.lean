/- Texts joined. -/
import Derived.Test.YtjfkkokeegpeiaaDoorQF
import Derived.Lib.Strings
import Derived.Test.YtjfkkokeegpeiaaDoorQE
/- Plain: tokens of an expression's text are read as the expression. -/
set_option linter.unusedSimpArgs false
set_option linter.unusedVariables false
namespace Go.Proofs.Lx
open Go Go.Proofs.YtjfkkokeegpeiaaDoor
set_option maxRecDepth 100000
def tkW(s:ByteArray):Tkn:=⟨1,0,s,0⟩
def tkN(n:Int):Tkn:=⟨2,0,itS n,n⟩
def tkY(s:ByteArray):Tkn:=⟨3,0,s,0⟩
def bx0(s:ByteArray):Prop:=s.size<=12/\∃c l,s.data.toList=c::l/\p8 c.toNat=true/\∀b∈c::l,aE b.toNat=true
def aH(lv:Nat)(t:Tr)(l:List Tkn):List Tkn:=if lvT t<lv then tkY nG::(l++[tkY jS])else l
def dg4(lv:Nat)(t:Tr)(x:List UInt8):List UInt8:=if lvT t<lv then 40::(x++[41])else x
def df3(lv:Nat)(t:Tr)(d:Nat):Nat:=if lvT t<lv then d+1 else d
inductive Pr:Tr->List UInt8->List Tkn->Nat->Prop
 |lit (n:Int):0<=n->n<=2147483647->Pr (.node 15 n ⟨#[]⟩ []) (itS n).data.toList [tkN n] 0
 |qty (n:Int) (s:ByteArray):0<=n->n<=2147483647->s∈ad0->Pr (.node 15 n s []) ((itS n).data.toList++32::s.data.toList) [tkN n,tkW s] 0
 |yes:Pr (.node 16 1 ⟨#[]⟩ []) w_true.data.toList [tkW w_true] 0
 |no:Pr (.node 16 0 ⟨#[]⟩ []) w_false.data.toList [tkW w_false] 0
 |var (s:ByteArray):io4 s=false->bx0 s->Pr (.node 17 0 s []) s.data.toList [tkW s] 0
 |tlm (s:ByteArray):io4 s=false->bx0 s->Pr (.node 18 0 s []) (116::108::109::46::s.data.toList) [tkW ch7,tkY eo6,tkW s] 0
 |un (s:ByteArray) (a:Tr) (x:List UInt8) (l:List Tkn) (d:Nat):s=oH\/s=sW->Pr a x l d->Pr (.node 19 0 s [a]) (s.data.toList++dg4 (lvT (.node 19 0 s [a])) a x) (tkY s::aH (lvT (.node 19 0 s [a])) a l) (1+df3 (lvT (.node 19 0 s [a])) a d)
 |bin (s:ByteArray) (a b:Tr) (x y:List UInt8) (l m:List Tkn) (d e:Nat):s∈cs5->Pr a x l d->Pr b y m e->
  Pr (.node 20 0 s [a,b]) (dg4 (if j8 s=4 then 5 else j8 s) a x++32::(s.data.toList++32::dg4 (j8 s+1) b y)) (aH (if j8 s=4 then 5 else j8 s) a l++tkY s::aH (j8 s+1) b m) (max (df3 (if j8 s=4 then 5 else j8 s) a d) (df3 (j8 s+1) b e))
def At(T:Nat->Tkn):Nat->List Tkn->Prop
 |_,[]=>True
 |p,x::l=>((T p).k=x.k/\(T p).t=x.t/\(T p).n=x.n)/\At T (p+1) l
theorem At.app{T:Nat->Tkn}:∀{l m:List Tkn} {p:Nat},At T p (l++m)->At T p l/\At T (p+l.length) m
 | [],m,p,h=>⟨trivial,by simpa using h⟩
 |x::l,m,p,h=>by
  obtain⟨h1,h2⟩:=h;obtain⟨h3,h4⟩:=At.app h2;exact⟨⟨h1,h3⟩,by rw[List.length_cons,show p+(l.length+1)=p+1+l.length by omega];exact h4⟩
def Ev{α:Type}(f:Nat->PR α)(r:PR α):Prop:=∃f0,∀q,f0<=q->f q=r
theorem Ev.const{α:Type}{r:PR α}:Ev (λ_=>r) r:=⟨0,λ_ _=>rfl⟩
theorem Ev.step{α:Type}{g h:Nat->PR α}{r:PR α}(hs:∀f,g (f+1)=h f)(k:Ev h r):Ev g r:=by
 obtain⟨f0,k⟩:=k;refine⟨f0+1,λq hq=>?_⟩;obtain⟨q,rfl⟩:∃q',q=q'+1:=⟨q-1,by omega⟩;rw[hs];exact k q (by omega)
theorem Ev.bind{α β:Type}{g:Nat->PR α}{k:Nat->α->PS->PR β}{a:α}{s:PS}{r:PR β}(h:Ev g (.ok a s))(hk:Ev (λf=>k f a s) r):Ev (λf=>(g f).bind (k f)) r:=by
 obtain⟨f0,h⟩:=h;obtain⟨f1,hk⟩:=hk;refine⟨max f0 f1,λq hq=>?_⟩;show(g q).bind (k q)=r;rw[h q (by omega)];exact hk q (by omega)
theorem Ev.det{α:Type}{g:Nat->PR α}{r r':PR α}(h:Ev g r)(h':Ev g r'):r=r':=by
 obtain⟨f0,h⟩:=h;obtain⟨f1,h'⟩:=h';rw[<-h (max f0 f1) (by omega),h' (max f0 f1) (by omega)]
theorem Ev.congr{α:Type}{g h:Nat->PR α}{r:PR α}(e:∀f,g f=h f)(k:Ev h r):Ev g r:=by
 obtain⟨f0,k⟩:=k;exact⟨f0,λq hq=>by rw[e];exact k q hq⟩
section
variable {T:Nat->Tkn}
def Ex(T:Nat->Tkn)(lv:Nat)(s:PS)(t:Tr)(s':PS):Prop:=Ev (λf=>o9 T f lv s) (.ok t s')
def Ops(T:Nat->Tkn)(lv:Nat)(n:Tr)(s:PS)(t:Tr)(s':PS):Prop:=Ev (λf=>mP T f lv n s) (.ok t s')
def go(s:PS)(k:Nat):PS:={s with p:=s.p+k}
theorem rY{lv:Nat}{n:Tr}{s:PS}(h:¬(j8 (T s.p).t=lv/\(T s.p).k=3)):Ops T lv n s n s:=by
 refine Ev.step (h:=λ_=>.ok n s) (λf=>?_) Ev.const;rw[mP,if_neg h]
theorem hy3{lv:Nat}{n m u:Tr}{s s1 s2:PS}(h:j8 (T s.p).t=lv/\(T s.p).k=3)(h4:lv≠4)(hm:Ex T (lv+1) (adv s) m s1)(hu:Ops T lv (.node 20 0 (T s.p).t [n,m]) s1 u s2):Ops T lv n s u s2:=by
 refine Ev.step (h:=λf=>(o9 T f (lv+1) (adv s)).bind λm s'=>if lv=4 then .ok (.node 20 0 (T s.p).t [n,m]) s' else mP T f lv (.node 20 0 (T s.p).t [n,m]) s') (λf=>?_) (Ev.bind hm ?_)
 ·rw[mP,if_pos h]
 ·exact Ev.congr (λf=>if_neg h4) hu
theorem hl4{n m:Tr}{s s1:PS}(h:j8 (T s.p).t=4/\(T s.p).k=3)(hm:Ex T 5 (adv s) m s1):Ops T 4 n s (.node 20 0 (T s.p).t [n,m]) s1:=by
 refine Ev.step (h:=λf=>(o9 T f 5 (adv s)).bind λm s'=>if 4=4 then .ok (.node 20 0 (T s.p).t [n,m]) s' else mP T f 4 (.node 20 0 (T s.p).t [n,m]) s') (λf=>?_) (Ev.bind hm ?_)
 ·rw[mP,if_pos h]
 ·exact Ev.congr (λf=>if_pos rfl) Ev.const
theorem dm5{lv:Nat}{n u:Tr}{s s1 s2:PS}(h3:¬(lv=3/\isP T oH s=true))(h7:¬(lv=7/\isP T sW s=true))(h8:lv≠8)(hn:Ex T (lv+1) s n s1)(hu:Ops T lv n s1 u s2):Ex T lv s u s2:=by
 refine Ev.step (h:=λf=>(o9 T f (lv+1) s).bind λn s'=>mP T f lv n s') (λf=>?_) (Ev.bind hn hu);rw[o9,if_neg h3,if_neg h7,if_neg h8]
theorem dv4(x:ByteArray):j8 x≠3/\j8 x≠7/\j8 x<=6:=by
 unfold j8;split
 ·decide
 ·split
  ·decide
  ·split
   ·decide
   ·split
    ·decide
    ·split<;>decide
theorem fl8{lv:Nat}{n u:Tr}{s s2:PS}(h:¬(j8 (T s.p).t=lv/\(T s.p).k=3))(hu:Ops T lv n s u s2):u=n/\s2=s:=by
 have:=Ev.det hu (rY h);cases this;exact⟨rfl,rfl⟩
def Fol(lv:Nat)(x:Tkn):Prop:=(x.k=3->j8 x.t<=lv/\(lv=4->j8 x.t≠4))/\¬(x.k=1/\vW x.t=true)
theorem ge6{lv lv':Nat}{x:Tkn}(h:Fol lv x)(h1:lv<=lv')(h4:lv'≠4):Fol lv' x:=⟨λg=>⟨Nat.le_trans (h.1 g).1 h1,λe=>absurd e h4⟩,h.2⟩
theorem gp8{s s':PS}{t:Tr}:∀(k lv lv':Nat),lv+k+1=lv'->lv'<=8->(∀j,lv<=j->j<lv'->¬(j=3/\isP T oH s=true)/\¬(j=7/\isP T sW s=true))->Ex T lv' s t s'->Fol lv (T s'.p)->∀u s2,Ops T lv t s' u s2->Ex T lv s u s2
 |0,lv,lv',e,h8,hj,hx,hF,u,s2,hu=>by
  subst e;exact dm5 (hj lv (Nat.le_refl _) (by omega)).1 (hj lv (Nat.le_refl _) (by omega)).2 (by omega) hx hu
 |k+1,lv,lv',e,h8,hj,hx,hF,u,s2,hu=>by
  have hF1:¬(j8 (T s'.p).t=lv+1/\(T s'.p).k=3):=λh=>by have:=hF.1 h.2;omega
  have hF':Fol (lv+1) (T s'.p):=⟨λh=>by have:=hF.1 h;omega,hF.2⟩;have:=gp8 (s:=s) (s':=s') (t:=t) k (lv+1) lv' (by omega) h8 (λj h1 h2=>hj j (by omega) h2) hx hF' t s' (rY hF1);exact dm5 (hj lv (Nat.le_refl _) (by omega)).1 (hj lv (Nat.le_refl _) (by omega)).2 (by omega) this hu
theorem ae7{s s':PS}{t:Tr}(h:Ev (λf=>jX T f s) (.ok t s')):Ex T 8 s t s':=by
 refine Ev.step (λf=>?_) h;rw[o9,if_neg (by simp),if_neg (by simp),if_pos rfl]
theorem ik5{s s1:PS}{w:ByteArray}{a:Tr}{lv:Nat}(hw:(w=oH/\lv=3)\/(w=sW/\lv=7))(hi:(T s.p).t=w)(ho:s.o<12)(ha:Ex T lv {s with p:=s.p+1,o:=s.o+1} a s1):Ex T lv s (.node 19 0 w [a]) (lI s1):=by
 have hip:isP T w s=true:=decide_eq_true hi;refine Ev.step (h:=λf=>fQ T f w lv s) (λf=>?_) ?_
 ·rcases hw with⟨rfl,rfl⟩ | ⟨rfl,rfl⟩
  ·rw[o9,if_pos ⟨rfl,hip⟩]
  ·rw[o9,if_neg (by simp),if_pos ⟨rfl,hip⟩]
 ·refine Ev.step (h:=λf=>(eG T w s).bind λ_ s1=>(o9 T f lv s1).bind λn s2=>.ok (.node 19 0 w [n]) (lI s2)) (λf=>by rw[fQ]) ?_
  have:eG T w s= .ok () {s with p:=s.p+1,o:=s.o+1}:=by
   unfold eG;rw[if_pos hip,if_neg (by omega)]
  refine Ev.bind (g:=λ_=>eG T w s) (by rw[this];exact Ev.const) ?_;exact Ev.bind ha Ev.const
theorem gw2{s s1:PS}{a:Tr}(hk:(T s.p).k=3)(hi:(T s.p).t=nG)(ho:s.o<12)(ha:Ex T 1 {s with p:=s.p+1,o:=s.o+1} a s1)(hr:(T s1.p).t=jS):Ex T 8 s a (lI (adv s1)):=by
 refine ae7 (Ev.step (h:=λf=>(eG T nG s).bind λ_ s1=>(o9 T f 1 s1).bind λn s2=>(y7 T jS s2).bind λ_ s3=>.ok n (lI s3)) (λf=>?_) ?_)
 ·rw[jX,if_neg (by rw[hk];decide),if_neg (by unfold isP;rw[hi];decide),if_neg (by unfold isP;rw[hi];decide),if_neg (by unfold isP;rw[hi];decide),if_pos (by unfold isP;rw[hi];decide)]
 ·have:eG T nG s= .ok () {s with p:=s.p+1,o:=s.o+1}:=by
   unfold eG isP;rw[hi,if_pos (by decide),if_neg (by omega)]
  refine Ev.bind (g:=λ_=>eG T nG s) (by rw[this];exact Ev.const) (Ev.bind ha ?_)
  have:y7 T jS s1= .ok () (adv s1):=by
   unfold y7 isP;rw[hr,if_pos (by decide)]
  exact Ev.bind (g:=λ_=>y7 T jS s1) (by rw[this];exact Ev.const) Ev.const
theorem fh3{t:Tr}{x:List UInt8}{l:List Tkn}{d:Nat}(h:Pr t x l d):1<=lvT t/\lvT t<=8:=by
 have leaf:∀k n s l,k≠20->k≠19->1<=lvT (.node k n s l)/\lvT (.node k n s l)<=8:=by
  intro k n s l h1 h2;show 1<=(if k=20 then j8 s else if k=19 then(if s=oH then 3 else 7)else 8)/\(if k=20 then j8 s else if k=19 then(if s=oH then 3 else 7)else 8)<=8;rw[if_neg h1,if_neg h2];decide
 cases h with
 |un s a x l d hs _=>
  rcases hs with rfl|rfl
  ·show 1<=3/\3<=8;decide
  ·show 1<=7/\7<=8;decide
 |bin s a b x y l m d e hs _ _=>
  have:=(aq2 s hs).2;show 1<=j8 s/\j8 s<=8;omega
 |_=>exact leaf _ _ _ _ (by decide) (by decide)
theorem dj0{s:ByteArray}(h:bx0 s):s≠oH/\s≠sW/\s≠nG:=by
 obtain⟨_,c,l,e,h1,_⟩:=h;refine⟨?_,?_,?_⟩<;>(rintro rfl;simp at e;obtain⟨rfl,_⟩:=e;exact absurd h1 (by decide))
theorem ew0{n:Int}(h0:0<=n):∀c l,(itS n).data.toList=c::l->48<=c.toNat/\c.toNat<=57:=by
 intro c l h
 have key:∀(k u:Nat),u<k->∀b∈Lib.decDigits u,48<=b.toNat/\b.toNat<=57:=by
  intro k
  induction k with
  |zero=>intro u h;omega
  |succ k ih=>
   intro u hu b hb;rw[Lib.decDigits]at hb;split at hb
   ·obtain rfl:=List.mem_singleton.1 hb;rename_i h10;have:(UInt8.ofNat (48+u)).toNat=48+u:=by rw[UInt8.toNat_ofNat'];omega
    omega
   ·rename_i h10;rw[List.mem_append]at hb;rcases hb with hb|hb
    ·exact ih (u/10) (by omega) b hb
    ·obtain rfl:=List.mem_singleton.1 hb;have:u%10<10:=Nat.mod_lt _ (by decide);have:(UInt8.ofNat (48+u%10)).toNat=48+u%10:=by rw[UInt8.toNat_ofNat'];omega
     omega
 unfold itS Lib.itoa at h;rw[if_neg (by omega)]at h;exact key (n.toNat+1) n.toNat (by omega) c (by simp at h;rw[h];simp)
theorem yF{n:Int}(h0:0<=n):itS n≠oH/\itS n≠sW:=by
 refine⟨λe=>?_,λe=>?_⟩
 ·have:=ew0 h0 33 [] (by rw[e]);exact absurd this.1 (by decide)
 ·have:=ew0 h0 45 [] (by rw[e]);exact absurd this.1 (by decide)
theorem fo7 {t : Tr} {x : List UInt8} {l : List Tkn} {d : Nat} (h : Pr t x l d) : ∃ y m, l = y :: m /\ (4 <= lvT t -> y.t ≠ oH) /\ (8 <= lvT t -> y.t ≠ sW) := by
  have p1 : ∀ {lv : Nat} {a : Tr} {l : List Tkn}, (∃ y m, l = y :: m /\ (4 <= lvT a -> y.t ≠ oH) /\ (8 <= lvT a -> y.t ≠ sW)) -> ∃ y m, aH lv a l = y :: m /\ (4 <= lv -> y.t ≠ oH) /\ (8 <= lv -> y.t ≠ sW) := by
    rintro lv a l ⟨y, m, rfl, h1, h2⟩;unfold aH;split
    · exact ⟨_, _, rfl, λ_ => by decide, λ_ => by decide⟩
    · exact ⟨_, _, rfl, λh => h1 (by omega), λh => h2 (by omega)⟩
  induction h with
  | lit n h0 _ => exact ⟨_, _, rfl, λ_ => (yF h0).1, λ_ => (yF h0).2⟩
  | qty n s h0 _ _ => exact ⟨_, _, rfl, λ_ => (yF h0).1, λ_ => (yF h0).2⟩
  | yes => exact ⟨_, _, rfl, λ_ => by decide, λ_ => by decide⟩
  | no => exact ⟨_, _, rfl, λ_ => by decide, λ_ => by decide⟩
  | var s _ hw => exact ⟨_, _, rfl, λ_ => (dj0 hw).1, λ_ => (dj0 hw).2.1⟩
  | tlm s _ hw => exact ⟨_, _, rfl, λ_ => by decide, λ_ => by decide⟩
  | un s a x l d hs _ _ => rcases hs with rfl | rfl
                           · exact ⟨_, _, rfl, λh => absurd h (by show ¬ 4 <= 3; decide), λh => absurd h (by show ¬ 8 <= 3; decide)⟩
                           · exact ⟨_, _, rfl, λ_ => by show sW ≠ oH; decide, λh => absurd h (by show ¬ 8 <= 7; decide)⟩
  | bin s a b x y l m d e hs _ _ ih1 _ =>
    obtain ⟨z, k, e1, h1, h2⟩ := p1 (lv := if j8 s = 4 then 5 else j8 s) ih1;refine ⟨z, k ++ tkY s :: aH (j8 s + 1) b m, by rw [e1]; rfl, λh => h1 ?_, λh => ?_⟩
    · have h : 4 <= j8 s := h;split <;> omega
    · have h : 8 <= j8 s := h;have := dv4 s;omega
theorem hy4{s:ByteArray}(h:io4 s=false):s≠w_true/\s≠w_false/\s≠ch7:=by
 refine⟨?_,?_,?_⟩<;>(rintro rfl;exact absurd h (by decide))
theorem pZ{s s':PS}{t:Tr}{lv:Nat}(h1:1<=lv)(h7:lv<=7)(hx:Ex T 8 s t s')(hn:(T s.p).t≠oH)(hm:(T s.p).t≠sW)(hF:Fol lv (T s'.p)):∀u s2,Ops T lv t s' u s2->Ex T lv s u s2:=
 gp8 (7-lv) lv 8 (by omega) (Nat.le_refl _) (λj _ _=>⟨λh=>hn (of_decide_eq_true h.2),λh=>hm (of_decide_eq_true h.2)⟩) hx hF
theorem fy6{t:Tr}{x:List UInt8}{l:List Tkn}{d:Nat}(h:Pr t x l d):∀(s:PS) (lv:Nat),1<=lv->lv<=7->lv<=lvT t->At T s.p l->s.o+d<=12->Fol lv (T (s.p+l.length))->∀u s2,Ops T lv t (go s l.length) u s2->Ex T lv s u s2:=by
 have full:∀{a:Tr} {x:List UInt8} {m:List Tkn} {e:Nat},Pr a x m e->(∀(s:PS) (lv:Nat),1<=lv->lv<=7->lv<=lvT a->At T s.p m->s.o+e<=12->Fol lv (T (s.p+m.length))->∀u s2,Ops T lv a (go s m.length) u s2->Ex T lv s u s2)->
  ∀(s:PS) (lv:Nat),1<=lv->lv<=7->At T s.p (aH lv a m)->s.o+df3 lv a e<=12->Fol lv (T (s.p+(aH lv a m).length))->∀u s2,Ops T lv a (go s (aH lv a m).length) u s2->Ex T lv s u s2:=by
  intro a x m e hP hc s lv h1 h7 hA hd hF u s2 hu;unfold aH at hA hF hu;unfold df3 at hd;by_cases hl:lvT a<lv
  ·rw[if_pos hl]at hA hF hu hd;obtain⟨⟨k1,k2,_⟩,hA⟩:=hA;obtain⟨hA,⟨_,k5,_⟩,_⟩:=hA.app
   have hin:Ex T 1 {s with p:=s.p+1,o:=s.o+1} a (go {s with p:=s.p+1,o:=s.o+1} m.length):=by
    have hno:¬(j8 (T (s.p+1+m.length)).t=1/\(T (s.p+1+m.length)).k=3):=by rw[k5];exact λh=>absurd h.1 (by decide)
    refine hc {s with p:=s.p+1,o:=s.o+1} 1 (Nat.le_refl _) (by decide) (fh3 hP).1 hA (by show s.o+1+e<=12;omega) ⟨λ_=>?_,λh=>?_⟩ a _ (rY hno)
    ·show j8 (T (s.p+1+m.length)).t<=1/\_;rw[k5];exact⟨by decide,λh=>absurd h (by decide)⟩
    ·have h:(T (s.p+1+m.length)).k=1/\vW (T (s.p+1+m.length)).t=true:=h;rw[k5]at h;exact absurd h.2 (by decide)
   have hp:=gw2 k1 k2 (by omega) hin k5
   have e1:lI (adv (go {s with p:=s.p+1,o:=s.o+1} m.length))=go s (tkY nG::(m++[tkY jS])).length:=by
    simp only[lI,adv,go,List.length_cons,List.length_append,List.length_nil];congr 1<;>omega
   rw[e1]at hp;exact pZ h1 h7 hp (by rw[k2];decide) (by rw[k2];decide) hF u s2 hu
  ·rw[if_neg hl]at hA hF hu hd;exact hc s lv h1 h7 (by omega) hA hd hF u s2 hu
 have lit0:∀(s:PS) (n:Int),(T s.p).k=2->(T s.p).n=n->0<=n->n<=2147483647->tB T 0 2147483647 s= .ok n (adv s):=by
  intro s n k1 k2 h0 h1;unfold tB;rw[k1,k2,if_neg (by decide),if_neg (by omega)]
 induction h with
 |lit n h0 h1=>
  intro s lv g1 g7 _ hA hd hF;obtain⟨⟨k1,k2,k3⟩,_⟩:=hA;have k1:(T s.p).k=2:=k1;refine pZ g1 g7 (ae7 ?_) (by rw[k2];exact(yF h0).1) (by rw[k2];exact(yF h0).2) hF;refine Ev.step (h:=λ_=>tA T s) (λf=>by rw[jX,if_pos k1]) ?_
  have:tA T s= .ok (.node 15 n ⟨#[]⟩ []) (go s 1):=by
   unfold tA;rw[lit0 s n k1 k3 h0 h1];exact if_neg hF.2
  rw[this];exact Ev.const
 |qty n y h0 h1 hy=>
  intro s lv g1 g7 _ hA hd hF;obtain⟨⟨k1,k2,k3⟩,⟨k4,k5,_⟩,_⟩:=hA;have k1:(T s.p).k=2:=k1;have k4:(T (s.p+1)).k=1:=k4;have k5:(T (s.p+1)).t=y:=k5;refine pZ g1 g7 (ae7 ?_) (by rw[k2];exact(yF h0).1) (by rw[k2];exact(yF h0).2) hF;refine Ev.step (h:=λ_=>tA T s) (λf=>by rw[jX,if_pos k1]) ?_
  have:tA T s= .ok (.node 15 n y []) (go s 2):=by
   unfold tA;rw[lit0 s n k1 k3 h0 h1];show(if(T (s.p+1)).k=1/\vW (T (s.p+1)).t=true then PR.ok (Tr.node 15 n (T (s.p+1)).t []) (adv (adv s))else _)=_;rw[k5,if_pos ⟨k4,inP_iff.2 hy⟩];rfl
  rw[this];exact Ev.const
 |yes=>
  intro s lv g1 g7 _ hA hd hF;obtain⟨⟨k1,k2,k3⟩,_⟩:=hA;refine pZ g1 g7 (ae7 ?_) (by rw[k2];decide) (by rw[k2];decide) hF;refine Ev.step (h:=λ_=>.ok (.node 16 1 ⟨#[]⟩ []) (adv s)) (λf=>?_) Ev.const;rw[jX,if_neg (by rw[k1];decide),if_pos (by unfold isP;rw[k2];decide)]
 |no=>
  intro s lv g1 g7 _ hA hd hF;obtain⟨⟨k1,k2,k3⟩,_⟩:=hA;refine pZ g1 g7 (ae7 ?_) (by rw[k2];decide) (by rw[k2];decide) hF;refine Ev.step (h:=λ_=>.ok (.node 16 0 ⟨#[]⟩ []) (adv s)) (λf=>?_) Ev.const;rw[jX,if_neg (by rw[k1];decide),if_neg (by unfold isP;rw[k2];decide),if_pos (by unfold isP;rw[k2];decide)]
 |var y hr hw=>
  intro s lv g1 g7 _ hA hd hF;obtain⟨⟨k1,k2,k3⟩,_⟩:=hA;have k1:(T s.p).k=1:=k1;have k2:(T s.p).t=y:=k2;obtain⟨r1,r2,r3⟩:=hy4 hr;obtain⟨w1,w2,w3⟩:=dj0 hw;refine pZ g1 g7 (ae7 ?_) (by rw[k2];exact w1) (by rw[k2];exact w2) hF;refine Ev.step (h:=λ_=>.ok (.node 17 0 y []) (adv s)) (λf=>?_) Ev.const
  have hn:fD T s= .ok y (adv s):=by
   unfold fD;rw[k1,k2,hr,if_neg (by decide)]
  rw[jX,if_neg (by rw[k1];decide),if_neg (by unfold isP;rw[k2];simpa using r1),if_neg (by unfold isP;rw[k2];simpa using r2),if_neg (by unfold isP;rw[k2];simpa using r3),if_neg (by unfold isP;rw[k2];simpa using w3),hn];rfl
 |tlm y hr hw=>
  intro s lv g1 g7 _ hA hd hF;obtain⟨⟨k1,k2,k3⟩,⟨k4,k5,k6⟩,⟨k7,k8,k9⟩,_⟩:=hA;have k7:(T (s.p+1+1)).k=1:=k7;have k8:(T (s.p+1+1)).t=y:=k8;have k5:(T (s.p+1)).t=eo6:=k5;refine pZ g1 g7 (ae7 ?_) (by rw[k2];decide) (by rw[k2];decide) hF;refine Ev.step (h:=λ_=>.ok (.node 18 0 y []) (go s 3)) (λf=>?_) Ev.const
  have hm:y7 T eo6 (adv s)= .ok () (adv (adv s)):=by
   unfold y7;exact if_pos (decide_eq_true k5)
  have hn:fD T (adv (adv s))= .ok y (adv (adv (adv s))):=by
   unfold fD;show(if(T (s.p+1+1)).k≠1\/io4 (T (s.p+1+1)).t=true then PR.err _ 11 else PR.ok (T (s.p+1+1)).t _)=_;rw[k7,k8,hr,if_neg (by decide)]
  rw[jX,if_neg (by rw[k1];decide),if_neg (by unfold isP;rw[k2];decide),if_neg (by unfold isP;rw[k2];decide),if_pos (by unfold isP;rw[k2];decide),hm];show(fD T (adv (adv s))).bind _=_;rw[hn];rfl
 |un y a x l d hs hP ih=>
  intro s lv g1 g7 gl hA hd hF u s2 hu;obtain⟨⟨k1,k2,k3⟩,hA⟩:=hA;have k2:(T s.p).t=y:=k2;generalize hL:lvT (.node 19 0 y [a])=L at*
  have hcase:(y=oH/\L=3)\/(y=sW/\L=7):=by
   rcases hs with rfl|rfl
   ·exact .inl ⟨rfl,hL.symm⟩
   ·exact .inr ⟨rfl,hL.symm⟩
  have hL37:L=3\/L=7:=by omega
  have hFp:T (s.p+(tkY y::aH L a l).length)=T (s.p+1+(aH L a l).length):=by rw[List.length_cons,show s.p+((aH L a l).length+1)=s.p+1+(aH L a l).length by omega]
  rw[hFp]at hF;have hno:∀p,¬(j8 (T p).t=L/\(T p).k=3):=λp h=>by have:=dv4 (T p).t;omega
  have ha:=full hP ih {s with p:=s.p+1,o:=s.o+1} L (by omega) (by omega) hA (by show s.o+1+df3 L a d<=12;omega) (ge6 hF (by omega) (by omega)) a _ (rY (hno _));have hx:=ik5 hcase k2 (by omega) ha
  have e1:lI (go {s with p:=s.p+1,o:=s.o+1} (aH L a l).length)=go s (tkY y::aH L a l).length:=by
   simp only[lI,go,List.length_cons];congr 1<;>omega
  rw[e1]at hx;rcases Nat.lt_or_ge lv L with hlt|hge
  ·refine gp8 (L-lv-1) lv L (by omega) (by omega) (λj j1 j2=>⟨λh=>?_,λh=>by omega⟩) hx (by show Fol lv (T (s.p+(tkY y::aH L a l).length));rw[hFp];exact hF) u s2 hu;have:=of_decide_eq_true h.2;rw[k2]at this;rcases hcase with⟨rfl,rfl⟩ | ⟨rfl,rfl⟩
   ·omega
   ·exact absurd this (by decide)
  ·obtain rfl:lv=L:=by omega
   obtain⟨rfl,rfl⟩:=fl8 (hno _) hu;exact hx
 |bin y a b x1 x2 l m d e hs hP1 hP2 ih1 ih2=>
  intro s lv g1 g7 gl hA hd hF u s2 hu;have gl:lv<=j8 y:=gl;obtain⟨hA1,⟨k1,k2,k3⟩,hA2⟩:=hA.app;have k2:(T (s.p+(aH (if j8 y=4 then 5 else j8 y) a l).length)).t=y:=k2;have hL:=(aq2 y hs).2;generalize hla:(if j8 y=4 then 5 else j8 y)=la at*;generalize hLe:j8 y=L at*;have hlen:∀p,p+(aH la a l++tkY y::aH (L+1) b m).length=p+(aH la a l).length+1+(aH (L+1) b m).length:=by intro p;rw[List.length_append,List.length_cons];omega
  rw[hlen]at hF;have hst:j8 (T (go s (aH la a l).length).p).t=L/\(T (go s (aH la a l).length).p).k=3:=⟨by show j8 (T (s.p+(aH la a l).length)).t=L;rw[k2];exact hLe,k1⟩;have hFb:∀j,lv<j->¬(j8 (T (s.p+(aH la a l).length+1+(aH (L+1) b m).length)).t=j/\(T (s.p+(aH la a l).length+1+(aH (L+1) b m).length)).k=3):=λj hj h=>by have:=hF.1 h.2;omega
  have hb:=full hP2 ih2 (adv (go s (aH la a l).length)) (L+1) (by omega) (by omega) hA2 (by show s.o+df3 (L+1) b e<=12;omega) (ge6 hF (by omega) (by omega)) b _ (rY (hFb (L+1) (by omega)))
  have he:go (adv (go s (aH la a l).length)) (aH (L+1) b m).length=go s (aH la a l++tkY y::aH (L+1) b m).length:=by
   simp only[adv,go];congr 1;rw[hlen]
  rw[he]at hb
  have hfirst:4<=la->isP T oH s=false:=by
   intro h4;obtain⟨z,k,e1,f1,_⟩:=fo7 hP1;unfold isP
   have:(T s.p).t≠oH:=by
    unfold aH at hA1;split at hA1
    ·rw[hA1.1.2.1];decide
    ·rename_i hge;rw[e1]at hA1;rw[hA1.1.2.1];exact f1 (by omega)
   simpa using this
  have hjs:∀j,lv<=j->j<L->¬(j=3/\isP T oH s=true)/\¬(j=7/\isP T sW s=true):=by
   intro j h1 h2;refine⟨λh=>?_,λh=>by omega⟩;rw[hfirst (by rw[<-hla];split<;>omega)]at h;exact absurd h.2 (by decide)
  have hFe:T (go s (aH la a l++tkY y::aH (L+1) b m).length).p=T (s.p+(aH la a l).length+1+(aH (L+1) b m).length):=by show T (s.p+_)=_;rw[hlen]
  by_cases h4:L=4
  ·subst h4;rw[if_pos rfl]at hla;subst hla;have ha:=full hP1 ih1 s 5 (by omega) (by omega) hA1 (by omega) ⟨λ_=>⟨by rw[show j8 (T (s.p+(aH 5 a l).length)).t=4 from hst.1];decide,λh=>absurd h (by decide)⟩,λh=>by rw[show(T (s.p+(aH 5 a l).length)).k=3 from hst.2]at h;exact absurd h.1 (by decide)⟩ a _ (rY (λh=>by rw[hst.1]at h;exact absurd h.1 (by decide)));have hc:=hl4 (n:=a) hst hb;rw[show(T (go s (aH 5 a l).length).p).t=y from k2]at hc;have hx:=dm5 (λh=>absurd h.1 (by decide)) (λh=>absurd h.1 (by decide)) (by decide) ha hc;rcases Nat.lt_or_ge lv 4 with hlt|hge
   ·exact gp8 (4-lv-1) lv 4 (by omega) (by omega) hjs hx (by rw[hFe];exact hF) u s2 hu
   ·obtain rfl:lv=4:=by omega
    have hno:¬(j8 (T (go s (aH 5 a l++tkY y::aH (4+1) b m).length).p).t=4/\(T (go s (aH 5 a l++tkY y::aH (4+1) b m).length).p).k=3):=by
     rw[hFe];exact λh=>absurd h.1 ((hF.1 h.2).2 rfl)
    obtain⟨rfl,rfl⟩:=fl8 hno hu;exact hx
  ·rw[if_neg h4]at hla;subst hla;have hF0:Fol L (T (s.p+(aH L a l).length)):=⟨λ_=>⟨by rw[show j8 (T (s.p+(aH L a l).length)).t=L from hst.1];exact Nat.le_refl _,λh=>absurd h h4⟩,λh=>by rw[show(T (s.p+(aH L a l).length)).k=3 from hst.2]at h;exact absurd h.1 (by decide)⟩
   have key:∀u s2,Ops T L (.node 20 0 y [a,b]) (go s (aH L a l++tkY y::aH (L+1) b m).length) u s2->Ex T L s u s2:=by
    intro u s2 hu;refine full hP1 ih1 s L (by omega) (by omega) hA1 (by omega) hF0 u s2 (hy3 hst h4 hb ?_);rw[show(T (go s (aH L a l).length).p).t=y from k2];exact hu
   rcases Nat.lt_or_ge lv L with hlt|hge
   ·exact gp8 (L-lv-1) lv L (by omega) (by omega) hjs (key _ _ (rY (by rw[hFe];exact hFb L hlt))) (by rw[hFe];exact hF) u s2 hu
   ·obtain rfl:lv=L:=by omega
    exact key u s2 hu
end
end Go.Proofs.Lx
/- Plain: sources joined, moved, cut. -/
namespace Go.Proofs.Lx
open Go
theorem eD(s:ByteArray):s.data.toList.length=s.size:=by rw[Array.length_toList];rfl
end Go.Proofs.Lx
/- Plain: tokens joined by spaces are the same tokens. -/
namespace Go.Proofs.Lx
open Go
def hp4(x y:Tkn):Prop:=x.k=y.k/\x.t=y.t/\x.n=y.n
inductive Same3:List Tkn->List Tkn->Prop where
 |nil:Same3 [] []
 |cons {x y:Tkn} {l m:List Tkn}:hp4 x y->Same3 l m->Same3 (x::l) (y::m)
theorem Same3.len{l m:List Tkn}(h:Same3 l m):l.length=m.length:=by
 induction h with
 |nil=>rfl
 |cons _ _ ih=>simp[ih]
theorem Same3.get{l m:List Tkn}(h:Same3 l m):∀(i:Nat) (hi:i<l.length) (hj:i<m.length),hp4 l[i] m[i]:=by
 induction h with
 |nil=>intro i hi;simp at hi
 |cons h1 _ ih=>
  intro i hi hj;cases i with
  |zero=>exact h1
  |succ i=>exact ih i (by simpa using hi) (by simpa using hj)
end Go.Proofs.Lx
/- Plain: the text of an expression has its tokens. -/
namespace Go.Proofs.Lx
open Go Go.Proofs.YtjfkkokeegpeiaaDoor
set_option maxRecDepth 100000
inductive Ls:List UInt8->List Tkn->Prop
 |nil:Ls [] []
 |white {c:UInt8} {r:List UInt8} {l:List Tkn}:bD c.toNat=true->Ls r l->Ls (c::r) l
 |tok {r:List UInt8} {l:List Tkn} {x:Tkn}:r≠[]->bD (r.headD 0).toNat=false->(r.headD 0).toNat≠35->gm3 r=(x,0)->Ls (r.drop x.t.size) l->Ls r (x::l)
theorem jh7{r:List UInt8}{l:List Tkn}(h:Ls r l):∀(s:ByteArray) (p:Nat) (acc:List Tkn),s.data.toList.drop p=r->∃ts,Lex s p acc (acc++ts++[⟨0,s.size,⟨#[]⟩,0⟩],0,0)/\Same3 ts l:=by
 have hlt:∀(s:ByteArray) (p:Nat),s.data.toList.drop p≠[]->p<s.size:=by
  intro s p h;rcases Nat.lt_or_ge p s.size with h'|h'
  ·exact h'
  ·rw[<-eD]at h';exact absurd (List.drop_eq_nil_of_le h') h
 induction h with
 |nil=>
  intro s p acc e;have:s.size<=p:=by rw[<-eD];exact List.drop_eq_nil_iff.1 e
  exact⟨[],by rw[List.append_nil];exact .fin this,.nil⟩
 | @white c r l hw _ ih=>
  intro s p acc e;have hp:p<s.size:=hlt s p (by rw[e];simp);have h1:=iS s p hp;rw[e]at h1;obtain⟨e1,e2⟩:=List.cons.inj h1;obtain⟨ts,h2,h3⟩:=ih s (p+1) acc e2.symm;exact⟨ts,.white hp (by rw[<-e1];exact hw) h2,h3⟩
 | @tok r l x hr hw hh ht _ ih=>
  intro s p acc e;have hp:p<s.size:=hlt s p (by rw[e];exact hr);have hg:=je3 hp;rw[e]at hg;obtain⟨ts,h2,h3⟩:=ih s (p+x.t.size) (acc++[{x with a:=p}]) (by rw[<-e,List.drop_drop]);refine⟨{x with a:=p}::ts,?_,.cons ⟨rfl,rfl,rfl⟩ h3⟩;have:acc++{x with a:=p}::ts=acc++[{x with a:=p}]++ts:=by simp
  rw[this];exact .tok hp (by rw[hg];exact hw) (by rw[hg];exact hh) (by rw[jh1 hp,e];exact ht) h2
theorem jb0{s:ByteArray}{l:List Tkn}(h:Ls s.data.toList l)(hs:s.size<=4000):∃ts,fN s (ts++[⟨0,s.size,⟨#[]⟩,0⟩],0,0)/\Same3 ts l:=by
 obtain⟨ts,h1,h2⟩:=jh7 h s 0 [] rfl;exact⟨ts,.inr ⟨hs,by simpa using h1⟩,h2⟩
def Sep(r:List UInt8):Prop:=∀c,r.head? =some c->aE c.toNat=false
def ec8(r:List UInt8):Prop:=∀c,r.head? =some c->c≠61
theorem span_len{g:Int->Bool}{l r:List UInt8}(hl:∀b∈l,g b.toNat=true)(hr:∀c,r.head? =some c->g c.toNat=false):j6 g (l++r)=l.length:=by
 induction l with
 |nil=>cases r with
  |nil=>rfl
  |cons c r=>simp[j6,hr c rfl]
 |cons b l ih=>
  have e2:∀m,j6 g (b::m)=j6 g m+1:=λm=>by simp[j6,hl b (by simp)]
  rw[List.cons_append,e2,ih λb hb=>hl b (by simp[hb])];rfl
theorem jU(s:ByteArray):mkB s.data.toList=s:=aB (m4 _)
theorem aw9{s:ByteArray}{r:List UInt8}{m:List Tkn}(hs:bx0 s)(hr:Sep r)(h:Ls r m):Ls (s.data.toList++r) (tkW s::m):=by
 obtain⟨h12,c,l,e,hc,hw⟩:=hs;have hsp:j6 aE (s.data.toList++r)=s.data.toList.length:=span_len (by rw[e];exact hw) hr;have hhd:(s.data.toList++r).headD 0=c:=by rw[e];rfl
 have hcw:bD c.toNat=false/\c.toNat≠35:=by
  simp only[p8,Bool.or_eq_true,decide_eq_true_eq]at hc;simp only[bD,decide_eq_false_iff_not];omega
 refine .tok (by rw[e];simp) (by rw[hhd];exact hcw.1) (by rw[hhd];exact hcw.2) (x:=tkW s) ?_ ?_
 ·unfold gm3;rw[hhd,if_pos hc,hsp,if_neg (by rw[eD];omega),List.take_left,jU];rfl
 ·show Ls ((s.data.toList++r).drop s.size) m;rw[<-eD,List.drop_left];exact h
theorem vB(u:Nat):(∀b∈Lib.decDigits u,l6 b.toNat=true)/\Lib.decDigits u≠[]/\bc0 0 (Lib.decDigits u)=(u:Int)/\(1<=u->∀c l,Lib.decDigits u=c::l->c≠48):=by
 induction u using Nat.strongRecOn with
 |_ u ih=>
  rw[Lib.decDigits];split
  ·rename_i h10;have hb:(UInt8.ofNat (48+u)).toNat=48+u:=by rw[UInt8.toNat_ofNat'];omega
   refine⟨?_,by simp,?_,?_⟩
   ·intro b h;obtain rfl:=List.mem_singleton.1 h;rw[hb];simp only[l6,decide_eq_true_eq];omega
   ·show 10*(0:Int)+(((UInt8.ofNat (48+u)).toNat:Int)-48)=u;rw[hb];omega
   ·intro h1 c l e;obtain⟨rfl,_⟩:=List.cons.inj e;intro e;have:=congrArg UInt8.toNat e;rw[hb]at this;have:48+u=48:=this;omega
  ·rename_i h10;obtain⟨i1,i2,i3,i4⟩:=ih (u/10) (by omega);have hm:u%10<10:=Nat.mod_lt _ (by decide);have hb:(UInt8.ofNat (48+u%10)).toNat=48+u%10:=by rw[UInt8.toNat_ofNat'];omega
   refine⟨?_,by simp,?_,?_⟩
   ·intro b h;rcases List.mem_append.1 h with h|h
    ·exact i1 b h
    ·obtain rfl:=List.mem_singleton.1 h;rw[hb];simp only[l6,decide_eq_true_eq];omega
   ·unfold bc0 at i3⊢;rw[List.foldl_append,i3];show 10*((u/10:Nat):Int)+(((UInt8.ofNat (48+u%10)).toNat:Int)-48)=u;rw[hb];omega
   ·intro _ c l e;cases hd:Lib.decDigits (u/10)with
    |nil=>exact absurd hd i2
    |cons c' l'=>
     rw[hd]at e;obtain⟨rfl,_⟩:=List.cons.inj e;exact i4 (by omega) c' l' hd
theorem sA{n:Int}(h0:0<=n):(itS n).data.toList=Lib.decDigits n.toNat:=by
 unfold itS Lib.itoa;rw[if_neg (by omega)]
theorem gu8{n:Int}{r:List UInt8}{m:List Tkn}(h0:0<=n)(h1:n<=2147483647)(hr:Sep r)(h:Ls r m):Ls ((itS n).data.toList++r) (tkN n::m):=by
 obtain⟨d1,d2,d3,d4⟩:=vB n.toNat;have e:=sA h0
 have hsep:∀c,r.head? =some c->l6 c.toNat=false:=by
  intro c hc;have:=hr c hc;simp only[aE,Bool.or_eq_false_iff]at this;exact this.2
 have hsp:j6 l6 ((itS n).data.toList++r)=(itS n).data.toList.length:=span_len (by rw[e];exact d1) hsep;cases hd:Lib.decDigits n.toNat with
 |nil=>exact absurd hd d2
 |cons c l=>
  have hhd:((itS n).data.toList++r).headD 0=c:=by rw[e,hd];rfl
  have hc:=d1 c (by rw[hd];simp)
  have hcw:bD c.toNat=false/\c.toNat≠35/\p8 c.toNat=false:=by
   simp only[l6,decide_eq_true_eq]at hc;simp only[bD,p8,decide_eq_false_iff_not,Bool.or_eq_false_iff];omega
  refine .tok (by rw[e,hd];simp) (by rw[hhd];exact hcw.1) (by rw[hhd];exact hcw.2.1) (x:=tkN n) ?_ ?_
  ·unfold gm3;rw[hhd,if_neg (by rw[hcw.2.2];decide),if_pos hc,hsp,List.take_left];unfold ig1;have hv:bc0 0 (itS n).data.toList=n:=by rw[e,d3];omega
   rw[hv,if_neg,if_neg (by omega),jU]
   ·rfl
   ·rintro⟨g1,g2⟩;rw[e,hd]at g1 g2;simp at g2;rcases Nat.lt_or_ge n.toNat 1 with h'|h'
    ·have:n.toNat=0:=by omega
     rw[this,Lib.decDigits,dif_pos (by decide)]at hd;obtain⟨_,rfl⟩:=List.cons.inj hd;simp at g1
    ·exact d4 h' c l hd g2
  ·show Ls (((itS n).data.toList++r).drop (itS n).size) m;rw[<-eD,List.drop_left];exact h
theorem gc5:∀c∈sym1,bD c.toNat=false/\c.toNat≠35/\p8 c.toNat=false/\l6 c.toNat=false:=by decide
theorem ey6:∀x∈aj1,x.length=2/\bD (x.headD 0).toNat=false/\(x.headD 0).toNat≠35/\p8 (x.headD 0).toNat=false/\l6 (x.headD 0).toNat=false:=by decide
theorem hj9:∀x∈aj1,x.headD 0∈sym1->x=[x.headD 0,61]:=by decide
theorem wF{c:UInt8}{r:List UInt8}{m:List Tkn}(hc:c∈sym1)(hr:ec8 r)(h:Ls r m):Ls (c::r) (tkY (mkB [c])::m):=by
 obtain⟨f1,f2,f3,f4⟩:=gc5 c hc
 have hN:ac8 (c::r)=1:=by
  unfold ac8;rw[if_neg,List.head?_cons,Option.any_some]
  ·have:sym1.contains c=true:=by simpa using hc
   rw[this];rfl
  ·rintro⟨_,hm⟩;have:=hj9 _ hm (by cases r<;>exact hc);cases r with
   |nil=>simp at this
   |cons d r=>
    simp at this;exact hr d rfl this
 refine .tok (by simp) f1 f2 (x:=tkY (mkB [c])) ?_ ?_
 ·unfold gm3;rw[List.headD_cons,if_neg (by rw[f3];decide),if_neg (by rw[f4];decide),hN,if_neg (by decide)];rfl
 ·exact h
theorem bn2{a b:UInt8}{r:List UInt8}{m:List Tkn}(hc:[a,b]∈aj1)(h:Ls r m):Ls (a::b::r) (tkY (mkB [a,b])::m):=by
 obtain⟨_,f1,f2,f3,f4⟩:=ey6 _ hc
 have hN:ac8 (a::b::r)=2:=by
  unfold ac8;rw[if_pos];exact⟨by simp,hc⟩
 refine .tok (by simp) f1 f2 (x:=tkY (mkB [a,b])) ?_ ?_
 ·unfold gm3;rw[List.headD_cons,if_neg (by simp only[List.headD_cons]at f3;rw[f3];decide),if_neg (by simp only[List.headD_cons]at f4;rw[f4];decide),hN,if_neg (by decide)];rfl
 ·exact h
theorem dO{r:List UInt8}{m:List Tkn}(h:Ls r m):Ls (32::r) m:=.white (by decide) h
theorem bk7{c:UInt8}{r:List UInt8}(h:aE c.toNat=false):Sep (c::r):=by intro d hd;cases hd;exact h
theorem au5{c:UInt8}{r:List UInt8}(h:c≠61):ec8 (c::r):=by intro d hd;cases hd;exact h
theorem if7{s:ByteArray}(hs:s∈cs5){r:List UInt8}{m:List Tkn}(h:Ls r m):Ls (32::(s.data.toList++32::r)) (tkY s::m):=by
 have h2:=dO h;have hn:ec8 (32::r):=au5 (by decide);simp only[cs5,List.mem_cons,List.not_mem_nil,or_false]at hs;rcases hs with rfl|rfl|rfl|rfl|rfl|rfl|rfl|rfl|rfl|rfl|rfl|rfl
 ·exact dO (bn2 (by decide) h2)
 ·exact dO (bn2 (by decide) h2)
 ·exact dO (wF (by decide) hn h2)
 ·exact dO (bn2 (by decide) h2)
 ·exact dO (wF (by decide) hn h2)
 ·exact dO (bn2 (by decide) h2)
 ·exact dO (bn2 (by decide) h2)
 ·exact dO (bn2 (by decide) h2)
 ·exact dO (wF (by decide) hn h2)
 ·exact dO (wF (by decide) hn h2)
 ·exact dO (wF (by decide) hn h2)
 ·exact dO (wF (by decide) hn h2)
def Hd(x:List UInt8):Prop:=∃c r,x=c::r/\c≠61
theorem go7{lv:Nat}{t:Tr}{x:List UInt8}(h:Hd x):Hd (dg4 lv t x):=by
 unfold dg4;split
 ·exact⟨_,_,rfl,by decide⟩
 ·exact h
theorem ce3{x y:List UInt8}(h:Hd x):Hd (x++y):=by
 obtain⟨c,r,rfl,h⟩:=h;exact⟨c,r++y,rfl,h⟩
theorem do9{x:List UInt8}(h:Hd x):ec8 x:=by
 obtain⟨c,r,rfl,h⟩:=h;exact au5 h
theorem gn5{n:Int}(h0:0<=n):Hd (itS n).data.toList:=by
 cases e:(itS n).data.toList with
 |nil=>
  rw[sA h0]at e;exact absurd e (vB _).2.1
 |cons c l=>
  have:=ew0 h0 c l e;exact⟨c,l,rfl,by rintro rfl;exact absurd this.2 (by decide)⟩
theorem fi4{s:ByteArray}(h:bx0 s):Hd s.data.toList:=by
 obtain⟨_,c,l,e,h1,_⟩:=h;exact⟨c,l,e,by rintro rfl;exact absurd h1 (by decide)⟩
theorem ep6:∀s∈ad0,bx0 s:=by
 intro s hs;have:∀s∈ad0,s.size<=12/\(s.data.toList.headD 0::s.data.toList.tail=s.data.toList)/\p8 (s.data.toList.headD 0).toNat=true/\∀b∈s.data.toList,aE b.toNat=true:=by decide
 obtain⟨h1,h2,h3,h4⟩:=this s hs;exact⟨h1,_,_,h2.symm,h3,by rw[h2];exact h4⟩
theorem ar1:∀s∈keywords,bx0 s:=by
 intro s hs;have:∀s∈keywords,s.size<=12/\(s.data.toList.headD 0::s.data.toList.tail=s.data.toList)/\p8 (s.data.toList.headD 0).toNat=true/\∀b∈s.data.toList,aE b.toNat=true:=by decide
 obtain⟨h1,h2,h3,h4⟩:=this s hs;exact⟨h1,_,_,h2.symm,h3,by rw[h2];exact h4⟩
theorem bh7 {t : Tr} {x : List UInt8} {l : List Tkn} {d : Nat} (h : Pr t x l d) : Hd x := by
  induction h with
  | lit n h0 _ => exact gn5 h0
  | qty n s h0 _ _ => exact ce3 (gn5 h0)
  | yes => exact ⟨_, _, rfl, by decide⟩
  | no => exact ⟨_, _, rfl, by decide⟩
  | var s _ hw => exact fi4 hw
  | tlm s _ _ => exact ⟨_, _, rfl, by decide⟩
  | un s a x l d hs _ _ => rcases hs with rfl | rfl
                           · exact ⟨33, _, rfl, by decide⟩
                           · exact ⟨45, _, rfl, by decide⟩
  | bin s a b x y l m d e hs _ _ ih1 _ => exact ce3 (go7 ih1)
theorem ia2{t:Tr}{x:List UInt8}{l:List Tkn}{d:Nat}(h:Pr t x l d):∀(r:List UInt8) (m:List Tkn),Sep r->(ec8 r)->Ls r m->Ls (x++r) (l++m):=by
 have hp:∀{lv:Nat} {a:Tr} {x:List UInt8} {l:List Tkn},Hd x->(∀(r:List UInt8) (m:List Tkn),Sep r->(ec8 r)->Ls r m->Ls (x++r) (l++m))->∀(r:List UInt8) (m:List Tkn),Sep r->(ec8 r)->Ls r m->Ls (dg4 lv a x++r) (aH lv a l++m):=by
  intro lv a x l hx ih r m hr hq h;unfold dg4 aH;split
  ·have h1:Ls (41::r) (tkY jS::m):=wF (by decide) hq h;have h2:=ih _ _ (bk7 (by decide)) (au5 (by decide)) h1;have h3:Ls (40::(x++41::r)) (tkY nG::(l++tkY jS::m)):=wF (by decide) (do9 (ce3 hx)) h2;simpa using h3
  ·exact ih r m hr hq h
 induction h with
 |lit n h0 h1=>intro r m hr hq h;exact gu8 h0 h1 hr h
 |qty n s h0 h1 hs=>
  intro r m hr hq h;have:=gu8 h0 h1 (bk7 (by decide)) (dO (aw9 (ep6 s hs) hr h));simpa using this
 |yes=>intro r m hr hq h;exact aw9 (ar1 _ (inP_iff.1 (by decide))) hr h
 |no=>intro r m hr hq h;exact aw9 (ar1 _ (inP_iff.1 (by decide))) hr h
 |var s _ hw=>intro r m hr hq h;exact aw9 hw hr h
 |tlm s _ hw=>
  intro r m hr hq h;have h1:Ls (46::(s.data.toList++r)) (tkY eo6::tkW s::m):=wF (by decide) (do9 (ce3 (fi4 hw))) (aw9 hw hr h);exact aw9 (s:=ch7) (ar1 _ (inP_iff.1 (by decide))) (bk7 (by decide)) h1
 |un s a x l d hs ha ih=>
  intro r m hr hq h;have h1:=hp (lv:=lvT (.node 19 0 s [a])) (a:=a) (bh7 ha) ih r m hr hq h;have h2:=do9 (ce3 (y:=r) (go7 (lv:=lvT (.node 19 0 s [a])) (t:=a) (bh7 ha)));rcases hs with rfl|rfl
  ·exact wF (c:=33) (by decide) h2 h1
  ·exact wF (c:=45) (by decide) h2 h1
 |bin s a b x y l m d e hs ha hb ih1 ih2=>
  intro r k hr hq h;have h1:=hp (lv:=j8 s+1) (a:=b) (bh7 hb) ih2 r k hr hq h;have h2:=hp (lv:=if j8 s=4 then 5 else j8 s) (a:=a) (bh7 ha) ih1 _ _ (bk7 (by decide)) (au5 (by decide)) (if7 hs h1);simpa using h2
end Go.Proofs.Lx
/- Plain: the parser looks at no token behind those that it takes, but for one; tokens that are moved, or of which only the offsets differ, are parsed alike; more fuel does no harm. -/
namespace Go.Proofs.Lx
open Go
structure Eq3(x y:Tkn):Prop where
 k:x.k=y.k
 t:x.t=y.t
 n:x.n=y.n
def PS.up(d:Nat)(s:PS):PS:={s with p:=d+s.p}
def PR.up{α:Type}(d:Nat):PR α->PR α
 | .ok x s=>.ok x (s.up d)
 | .err p c=>.err (d+p) c
 | .out=>.out
def Ee{α:Type}(b:Nat):PR α->Nat
 | .ok _ s=>s.p+b
 | .err p _=>p+1
 | .out=>0
structure Lc{α:Type}(b d e p:Nat)(f g:PR α):Prop where
 gr:f≠ .out->p<Ee b f
 eq:f≠ .out->Ee b f<=e->g=f.up d
variable {α β:Type} {b b' d e p:Nat}
theorem Lc.out{g:PR α}:Lc b d e p (.out:PR α) g:=⟨λh=>absurd rfl h,λh=>absurd rfl h⟩
theorem Lc.err{q:Nat}{c:Int}(h:p<=q):Lc b d e p (.err q c:PR α) (.err (d+q) c):=⟨λ_=>Nat.lt_succ_of_le h,λ_ _=>rfl⟩
theorem Lc.ok0{x:α}{s:PS}(h:p<s.p):Lc 0 d e p (.ok x s) (.ok x (s.up d)):=⟨λ_=>h,λ_ _=>rfl⟩
theorem Lc.ok1{x:α}{s:PS}(h:p<=s.p):Lc 1 d e p (.ok x s) (.ok x (s.up d)):=⟨λ_=>Nat.lt_succ_of_le h,λ_ _=>rfl⟩
theorem Lc.one{f g:PR α}(h:Lc 0 d e p f g):Lc 1 d e p f g:=by
 refine⟨λh0=>?_,λh0 h1=>h.eq h0 ?_⟩
 ·have:=h.gr h0;cases f<;>simp only[Ee]at this⊢ <;>omega
 ·cases f<;>simp only[Ee]at h1⊢ <;>omega
theorem Lc.le{p':Nat}{f g:PR α}(h:Lc b d e p' f g)(hp:p<=p'):Lc b d e p f g:=⟨λh0=>Nat.lt_of_le_of_lt hp (h.gr h0),h.eq⟩
theorem Lc.sub{f g g':PR α}(h:Lc b d e p f g')(hg:p<e->g=g'):Lc b d e p f g:=⟨h.gr,λh0 h1=>(hg (Nat.lt_of_lt_of_le (h.gr h0) h1)).trans (h.eq h0 h1)⟩
theorem Lc.ite{c c':Prop}[Decidable c][Decidable c']{f g f' g':PR α}(hc:p<e->(c'↔c))(h1:c->Lc b d e p f g)(h2:¬c->Lc b d e p f' g'):Lc b d e p (if c then f else f') (if c' then g else g'):=by
 by_cases h:c
 ·rw[if_pos h];exact(h1 h).sub λhp=>if_pos ((hc hp).2 h)
 ·rw[if_neg h];exact(h2 h).sub λhp=>if_neg λh'=>h ((hc hp).1 h')
theorem Lc.bind{r r':PR β}{k k':β->PS->PR α}(hb:b<=1)(h:Lc b d e p r r')(hk:∀a s,p<=s.p->Lc b' d e s.p (k a s) (k' a (s.up d))):Lc b' d e p (r.bind k) (r'.bind k'):=by
 cases r with
 |out=>exact Lc.out
 |err q c=>
  have h1:=h.gr (by simp);refine⟨λ_=>h1,λ_ h2=>?_⟩;rw[h.eq (by simp) h2];rfl
 |ok a s=>
  have h1:p<s.p+b:=h.gr (by simp);have hs:=hk a s (by omega);refine⟨λh0=>?_,λh0 h2=>?_⟩
  ·have:=hs.gr h0;show p<Ee b' (k a s);omega
  ·have h3:s.p<Ee b' (k a s):=hs.gr h0;have h2':Ee b' (k a s)<=e:=h2;rw[h.eq (by simp) (show s.p+b<=e by omega)];exact hs.eq h0 h2
theorem Lc.map{r r':PR β}(F:β->α)(G:PS->PS)(h:Lc b d e p r r')(h1:∀s,(G s).p=s.p)(h2:∀s:PS,G (s.up d)=(G s).up d):Lc b d e p (r.bind λa s=>.ok (F a) (G s)) (r'.bind λa s=>.ok (F a) (G s)):=by
 cases r with
 |out=>exact Lc.out
 |err q c=>
  refine⟨λ_=>h.gr (by simp),λ_ h2=>?_⟩;rw[h.eq (by simp) h2];rfl
 |ok a s=>
  have h3:p<s.p+b:=h.gr (by simp);refine⟨λ_=>?_,λ_ h4=>?_⟩
  ·show p< (G s).p+b;rw[h1];exact h3
  ·have h4:(G s).p+b<=e:=h4;rw[h1]at h4;rw[h.eq (by simp) h4];show PR.ok (F a) (G (s.up d))= .ok (F a) ((G s).up d);rw[h2]
section
variable {T U:Nat->Tkn} {s:PS}
theorem hb0(hU:∀j,j<e->Eq3 (U (d+j)) (T j))(w:ByteArray)(h:s.p<e):(isP U w (s.up d)=true↔isP T w s=true):=by
 unfold isP;rw[show(U (s.up d).p).t=(T s.p).t from(hU _ h).t]
theorem in5(hU:∀j,j<e->Eq3 (U (d+j)) (T j))(w:ByteArray)(s:PS):Lc 0 d e s.p (y7 T w s) (y7 U w (s.up d)):=
 Lc.ite (hb0 hU w) (λ_=>Lc.ok0 (Nat.lt_succ_self _)) λ_=>Lc.err (Nat.le_refl _)
theorem is0(hU:∀j,j<e->Eq3 (U (d+j)) (T j))(w:ByteArray)(s:PS):Lc 0 d e s.p (eG T w s) (eG U w (s.up d)):=
 Lc.ite (hb0 hU w) (λ_=>Lc.ite (λ_=>Iff.rfl) (λ_=>Lc.err (Nat.le_refl _)) λ_=>Lc.ok0 (Nat.lt_succ_self s.p)) λ_=>Lc.err (Nat.le_refl _)
theorem it3(hU:∀j,j<e->Eq3 (U (d+j)) (T j))(s:PS):Lc 0 d e s.p (fD T s) (fD U (s.up d)):=by
 unfold fD;refine Lc.ite (λh=>?_) (λ_=>Lc.err (Nat.le_refl _)) λ_=>(Lc.ok0 (Nat.lt_succ_self s.p)).sub λh=>?_
 ·rw[show(U (s.up d).p).t=(T s.p).t from(hU _ h).t,show(U (s.up d).p).k=(T s.p).k from(hU _ h).k]
 ·rw[show(U (s.up d).p).t=(T s.p).t from(hU _ h).t];rfl
theorem ip6{k:ByteArray->PS->PR α}:(fD T s).bind k=if(T s.p).k≠1\/io4 (T s.p).t=true then .err s.p 11 else k (T s.p).t (adv s):=by
 unfold fD;split<;>rfl
theorem iz3(hU:∀j,j<e->Eq3 (U (d+j)) (T j))(s:PS):Lc 0 d e s.p (zL T s) (zL U (s.up d)):=by
 unfold zL;rw[ip6,ip6];refine Lc.ite (λh=>?_) (λ_=>Lc.err (Nat.le_refl _)) λ_=>Lc.ite (λh=>?_) (λ_=>Lc.err (Nat.le_refl _)) λ_=>Lc.ite (λ_=>Iff.rfl) (λ_=>Lc.err (Nat.le_refl _)) λ_=>?_
 ·rw[show(U (s.up d).p).t=(T s.p).t from(hU _ h).t,show(U (s.up d).p).k=(T s.p).k from(hU _ h).k]
 ·rw[show(U (s.up d).p).t=(T s.p).t from(hU _ h).t];exact Iff.rfl
 ·refine Lc.sub (Lc.ok0 (Nat.lt_succ_self s.p)) λh=>?_;rw[show(U (s.up d).p).t=(T s.p).t from(hU _ h).t];rfl
theorem iu2(hU:∀j,j<e->Eq3 (U (d+j)) (T j))(lo hi:Int)(s:PS):Lc 0 d e s.p (tB T lo hi s) (tB U lo hi (s.up d)):=by
 unfold tB;refine Lc.ite (λh=>?_) (λ_=>Lc.err (Nat.le_refl _)) λ_=>Lc.ite (λh=>?_) (λ_=>Lc.err (Nat.le_refl _)) λ_=>(Lc.ok0 (Nat.lt_succ_self s.p)).sub λh=>?_
 ·rw[show(U (s.up d).p).k=(T s.p).k from(hU _ h).k]
 ·rw[show(U (s.up d).p).n=(T s.p).n from(hU _ h).n]
 ·rw[show(U (s.up d).p).n=(T s.p).n from(hU _ h).n];rfl
theorem it1(hU:∀j,j<e->Eq3 (U (d+j)) (T j))(s:PS):Lc 1 d e s.p (tA T s) (tA U (s.up d)):=by
 unfold tA;refine Lc.bind (Nat.zero_le _) (iu2 hU 0 2147483647 s) λn s1 h1=>Lc.ite (λh=>?_) (λ_=>?_) λ_=>Lc.ok1 (Nat.le_refl _)
 ·rw[show(U (s1.up d).p).t=(T s1.p).t from(hU _ h).t,show(U (s1.up d).p).k=(T s1.p).k from(hU _ h).k]
 ·refine Lc.sub (Lc.ok1 (Nat.le_succ s1.p)) λh=>?_;rw[show(U (s1.up d).p).t=(T s1.p).t from(hU _ h).t];rfl
theorem ip9(hU:∀j,j<e->Eq3 (U (d+j)) (T j)):∀f f',f<=f'->(∀lv s,Lc 1 d e s.p (o9 T f lv s) (o9 U f' lv (s.up d)))/\(∀lv n s,Lc 1 d e s.p (mP T f lv n s) (mP U f' lv n (s.up d)))/\
 (∀w lv s,Lc 1 d e s.p (fQ T f w lv s) (fQ U f' w lv (s.up d)))/\(∀s,Lc 1 d e s.p (jX T f s) (jX U f' (s.up d)))
 |0,f',_=>by
  refine⟨λlv s=>?_,λlv n s=>?_,λw lv s=>?_,λs=>?_⟩
  ·rw[o9];exact Lc.out
  ·rw[mP];exact Lc.out
  ·rw[fQ];exact Lc.out
  ·rw[jX];exact Lc.out
 |f+1,0,h=>absurd h (Nat.not_succ_le_zero f)
 |f+1,f'+1,h=>by
  obtain⟨i1,i2,i3,i4⟩:=ip9 hU f f' (Nat.le_of_succ_le_succ h);refine⟨λlv s=>?_,λlv n s=>?_,λw lv s=>?_,λs=>?_⟩
  ·rw[o9,o9];refine Lc.ite (λh=>?_) (λ_=>i3 oH 3 s) λ_=>Lc.ite (λh=>?_) (λ_=>i3 sW 7 s) λ_=>Lc.ite (λ_=>Iff.rfl) (λ_=>i4 s) λ_=>Lc.bind (Nat.le_refl _) (i1 (lv+1) s) λn s1 _=>i2 lv n s1
   ·rw[hb0 hU oH h]
   ·rw[hb0 hU sW h]
  ·rw[mP,mP];refine Lc.ite (λh=>?_) (λ_=>?_) λ_=>Lc.ok1 (Nat.le_refl _)
   ·rw[show(U (s.up d).p).t=(T s.p).t from(hU _ h).t,show(U (s.up d).p).k=(T s.p).k from(hU _ h).k]
   ·refine Lc.sub (g':=(o9 U f' (lv+1) ((adv s).up d)).bind λm s'=>if lv=4 then .ok (.node 20 0 (T s.p).t [n,m]) s' else mP U f' lv (.node 20 0 (T s.p).t [n,m]) s') ?_ λh=>?_
    ·exact(Lc.bind (Nat.le_refl _) (i1 (lv+1) (adv s)) λm s1 _=>Lc.ite (λ_=>Iff.rfl) (λ_=>Lc.ok1 (Nat.le_refl _)) λ_=>i2 lv _ s1).le (Nat.le_succ _)
    ·rw[show(U (s.up d).p).t=(T s.p).t from(hU _ h).t];rfl
  ·rw[fQ,fQ];exact Lc.bind (Nat.zero_le _) (is0 hU w s) λ_ s1 _=>Lc.map (λn=>Tr.node 19 0 w [n]) lI (i1 lv s1) (λ_=>rfl) λ_=>rfl
  ·rw[jX,jX];refine Lc.ite (λh=>?_) (λ_=>it1 hU s) λ_=>Lc.ite (hb0 hU w_true) (λ_=>Lc.ok1 (Nat.le_succ s.p)) λ_=>Lc.ite (hb0 hU w_false) (λ_=>Lc.ok1 (Nat.le_succ s.p)) λ_=>Lc.ite (hb0 hU ch7) (λ_=>?_) λ_=>Lc.ite (hb0 hU nG) (λ_=>?_) λ_=>?_
   ·rw[show(U (s.up d).p).k=(T s.p).k from(hU _ h).k]
   ·exact((Lc.bind (Nat.zero_le _) (in5 hU eo6 (adv s)) λ_ s1 _=>Lc.map (λx=>Tr.node 18 0 x []) id (it3 hU s1) (λ_=>rfl) λ_=>rfl).le (Nat.le_succ _)).one
   ·exact(Lc.bind (Nat.zero_le _) (is0 hU nG s) λ_ s1 _=>Lc.bind (Nat.le_refl _) (i1 1 s1) λn s2 _=>Lc.map (λ_=>n) lI (in5 hU jS s2) (λ_=>rfl) λ_=>rfl).one
   ·exact(Lc.map (λx=>Tr.node 17 0 x []) id (it3 hU s) (λ_=>rfl) λ_=>rfl).one
theorem ip5(hU:∀j,j<e->Eq3 (U (d+j)) (T j))(n:Tr)(s:PS):Lc 0 d e s.p (endP T n s) (endP U n (s.up d)):=Lc.map (λ_=>n) id (in5 hU aj6 s) (λ_=>rfl) λ_=>rfl
theorem jd0(hU:∀j,j<e->Eq3 (U (d+j)) (T j)){f f':Nat}(hf:f<=f')(k:Int)(x:ByteArray)(s:PS):Lc 0 d e s.p (el7 T f k x s) (el7 U f' k x (s.up d)):=
 Lc.bind (Nat.zero_le _) (in5 hU cm8 s) λ_ s1 _=>Lc.bind (Nat.le_refl _) ((ip9 hU f f' hf).1 1 s1) λn s2 _=>ip5 hU _ s2
theorem jd6(hU:∀j,j<e->Eq3 (U (d+j)) (T j)){f f':Nat}(hf:f<=f')(k:Int)(s:PS):Lc 0 d e s.p (oneP T f k s) (oneP U f' k (s.up d)):=
 Lc.bind (Nat.le_refl _) ((ip9 hU f f' hf).1 1 s) λn s2 _=>ip5 hU _ s2
theorem je5(hU:∀j,j<e->Eq3 (U (d+j)) (T j))(k:Int)(s:PS):Lc 0 d e s.p (ga8 T k s) (ga8 U k (s.up d)):=
 Lc.bind (Nat.le_refl _) (it1 hU s) λn s2 _=>ip5 hU _ s2
theorem jc8(hU:∀j,j<e->Eq3 (U (d+j)) (T j)){f f':Nat}(hf:f<=f')(s:PS):Lc 0 d e s.p (dn2 T f s) (dn2 U f' (s.up d)):=
 Lc.bind (Nat.le_refl _) ((ip9 hU f f' hf).1 1 s) λc s1 _=>Lc.bind (Nat.zero_le _) (in5 hU w_within s1) λ_ s2 _=>Lc.bind (Nat.le_refl _) (it1 hU s2) λn s3 _=>ip5 hU _ s3
theorem jc2(hU:∀j,j<e->Eq3 (U (d+j)) (T j))(k hi:Int)(s:PS):Lc 0 d e s.p (fu2 T k hi s) (fu2 U k hi (s.up d)):=
 Lc.bind (Nat.zero_le _) (iu2 hU 0 hi s) λn s1 _=>ip5 hU _ s1
theorem jd1(hU:∀j,j<e->Eq3 (U (d+j)) (T j))(k:Int)(w:ByteArray)(s:PS):Lc 0 d e s.p (fq6 T k w s) (fq6 U k w (s.up d)):=
 Lc.bind (Nat.zero_le _) (iu2 hU 0 7 s) λn s1 _=>Lc.bind (Nat.zero_le _) (in5 hU w s1) λ_ s2 _=>Lc.bind (Nat.le_refl _) (it1 hU s2) λm s3 _=>ip5 hU _ s3
theorem ja4(hU:∀j,j<e->Eq3 (U (d+j)) (T j)):∀f f',f<=f'->(∀s,Lc 0 d e s.p (bC T f s) (bC U f' (s.up d)))/\(∀s,Lc 0 d e s.p (dZ T f s) (dZ U f' (s.up d)))/\(∀s,Lc 1 d e s.p (xQ T f s) (xQ U f' (s.up d)))
 |0,f',_=>by
  refine⟨λs=>?_,λs=>?_,λs=>?_⟩
  ·rw[bC];exact Lc.out
  ·rw[dZ];exact Lc.out
  ·rw[xQ];exact Lc.out
 |f+1,0,h=>absurd h (Nat.not_succ_le_zero f)
 |f+1,f'+1,h=>by
  have hf:=Nat.le_of_succ_le_succ h;obtain⟨i1,i2,i3⟩:=ja4 hU f f' hf;refine⟨λs=>?_,λs=>?_,λs=>?_⟩
  ·rw[bC,bC];exact Lc.bind (Nat.zero_le _) (is0 hU cv8 s) λ_ s1 _=>Lc.map (λl=>Tr.node 14 0 ⟨#[]⟩ l) lI (i2 s1) (λ_=>rfl) λ_=>rfl
  ·rw[dZ,dZ];exact Lc.ite (hb0 hU dk1) (λ_=>Lc.ok0 (Nat.lt_succ_self s.p)) λ_=>Lc.bind (Nat.le_refl _) (i3 s) λn s1 _=>Lc.map (λl=>n::l) id (i2 s1) (λ_=>rfl) λ_=>rfl
  ·rw[xQ,xQ];have nx:∀{g g':PR Tr},Lc 0 d e (adv s).p g g'->Lc 1 d e s.p g g':=λh=>(h.le (Nat.le_succ _)).one;refine Lc.ite (hb0 hU w_let) (λ_=>nx (Lc.bind (Nat.zero_le _) (iz3 hU (adv s)) λx s1 _=>jd0 hU hf 1 x s1)) λ_=>?_;refine Lc.ite (hb0 hU w_if) (λ_=>(Lc.bind (Nat.le_refl _) ((ip9 hU f f' hf).1 1 (adv s)) λc s1 _=>Lc.bind (Nat.zero_le _) (i1 s1) λy s2 _=>Lc.ite (hb0 hU w_else) (λ_=>?_) λ_=>Lc.ok1 (Nat.le_refl _)).le (Nat.le_succ _)) λ_=>?_
   ·exact((Lc.map (λn=>Tr.node 3 0 ⟨#[]⟩ [c,y,n]) id (i1 (adv s2)) (λ_=>rfl) λ_=>rfl).le (Nat.le_succ _)).one
   refine Lc.ite (hb0 hU w_repeat) (λ_=>nx (Lc.bind (Nat.zero_le _) (iu2 hU 1 100 (adv s)) λn s1 _=>Lc.map (λy=>Tr.node 4 n ⟨#[]⟩ [y]) id (i1 s1) (λ_=>rfl) λ_=>rfl)) λ_=>?_;refine Lc.ite (hb0 hU w_await) (λ_=>nx (jc8 hU hf (adv s))) λ_=>?_;refine Lc.ite (hb0 hU be2) (λ_=>nx (je5 hU 5 (adv s))) λ_=>?_;refine Lc.ite (hb0 hU yW) (λ_=>nx (je5 hU 11 (adv s))) λ_=>?_;refine Lc.ite (hb0 hU qO) (λ_=>nx (jd6 hU hf 7 (adv s))) λ_=>?_;refine Lc.ite (hb0 hU rI) (λ_=>nx (jd6 hU hf 8 (adv s))) λ_=>?_;refine Lc.ite (hb0 hU w_use) (λ_=>nx (jd1 hU 9 w_for (adv s))) λ_=>?_;refine Lc.ite (hb0 hU w_send) (λ_=>nx (jd1 hU 10 mN (adv s))) λ_=>?_;refine Lc.ite (hb0 hU yV) (λ_=>nx (jc2 hU 12 99 (adv s))) λ_=>?_;refine Lc.ite (hb0 hU uE) (λ_=>nx (jc2 hU 13 999 (adv s))) λ_=>?_;exact(Lc.bind (Nat.zero_le _) (it3 hU s) λx s1 _=>jd0 hU hf 2 x s1).one
theorem jh6(hU:∀j,j<e->Eq3 (U (d+j)) (T j))(s:PS):Lc 1 d e s.p (ga3 T s) (ga3 U (s.up d)):=by
 unfold ga3;refine Lc.bind (Nat.zero_le _) (iz3 hU s) λx s1 _=>Lc.ite (hb0 hU cl8) (λ_=>?_) λ_=>Lc.ok1 (Nat.le_refl _);have hq:s1.p+1<e->Eq3 (U ((s1.up d).p+1)) (T (s1.p+1)):=λh=>hU _ h;refine Lc.le (p':=s1.p+1) (Lc.ite (λh=>?_) (λ_=>Lc.err (Nat.le_refl _)) λ_=>Lc.ite (λh=>?_) (λ_=>Lc.err (Nat.le_refl _)) λ_=>?_) (Nat.le_succ _)
 ·rw[(hq h).k]
 ·rw[(hq h).t]
 ·refine Lc.sub (Lc.ok1 (Nat.le_succ (s1.p+1))) λh=>?_;rw[(hq h).t];rfl
theorem iy5(hU:∀j,j<e->Eq3 (U (d+j)) (T j)):∀f f',f<=f'->∀s,Lc 0 d e s.p (cf6 T f s) (cf6 U f' (s.up d))
 |0,f',_,s=>by rw[cf6];exact Lc.out
 |f+1,0,h,s=>absurd h (Nat.not_succ_le_zero f)
 |f+1,f'+1,h,s=>by
  rw[cf6,cf6];refine Lc.bind (Nat.le_refl _) (jh6 hU s) λx s1 _=>Lc.ite (hb0 hU mN) (λ_=>?_) λ_=>Lc.map (λ_=>[x]) id (in5 hU jS s1) (λ_=>rfl) λ_=>rfl;exact(Lc.map (λl=>x::l) id (iy5 hU f f' (Nat.le_of_succ_le_succ h) (adv s1)) (λ_=>rfl) λ_=>rfl).le (Nat.le_succ _)
theorem jb2(hU:∀j,j<e->Eq3 (U (d+j)) (T j)){f f':Nat}(hf:f<=f')(s:PS):Lc 0 d e s.p (mC T f s) (mC U f' (s.up d)):=
 Lc.bind (Nat.zero_le _) (in5 hU nG s) λ_ s1 _=>Lc.ite (hb0 hU jS) (λ_=>Lc.ok0 (Nat.lt_succ_self s1.p)) λ_=>iy5 hU f f' hf s1
theorem jg1(hU:∀j,j<e->Eq3 (U (d+j)) (T j)){f f':Nat}(hf:f<=f')(pr:List ByteArray)(s:PS):Lc 0 d e s.p (aj7 T f pr s) (aj7 U f' pr (s.up d)):=by
 unfold aj7;refine Lc.bind (Nat.zero_le _) (in5 hU w_procedure s) λ_ s1 _=>?_;rw[ip6,ip6];have hq:s1.p<e->Eq3 (U (s1.up d).p) (T s1.p):=λh=>hU _ h;refine Lc.ite (λh=>?_) (λ_=>Lc.err (Nat.le_refl _)) λ_=>Lc.ite (λh=>?_) (λ_=>Lc.err (Nat.le_refl _)) λ_=>?_
 ·rw[(hq h).t,(hq h).k]
 ·rw[(hq h).t]
 ·refine Lc.sub (g':=(mC U f' (PS.up d {adv s1 with vs:=[]})).bind λl s3=>(bC U f' s3).bind λb s4=>.ok ⟨(T s1.p).t,l,b⟩ s4) ?_ λh=>?_
  ·exact(Lc.bind (Nat.zero_le _) (jb2 hU hf {adv s1 with vs:=[]}) λl s3 _=>Lc.map (λb=>Prc.mk (T s1.p).t l b) id ((ja4 hU f f' hf).1 s3) (λ_=>rfl) λ_=>rfl).le (Nat.le_succ _)
  ·rw[(hq h).t];rfl
theorem iw9(hU:∀j,j<e->Eq3 (U (d+j)) (T j)):∀f f',f<=f'->∀pr s,Lc 1 d e s.p (s5 T f pr s) (s5 U f' pr (s.up d))
 |0,f',_,pr,s=>by rw[s5];exact Lc.out
 |f+1,0,h,pr,s=>absurd h (Nat.not_succ_le_zero f)
 |f+1,f'+1,h,pr,s=>by
  have hf:=Nat.le_of_succ_le_succ h;rw[s5,s5];refine Lc.ite (λh=>?_) (λ_=>Lc.ok1 (Nat.le_refl _)) λ_=>Lc.bind (Nat.zero_le _) (jg1 hU hf pr s) λx s1 _=>Lc.map (λl=>x::l) id (iw9 hU f f' hf (pr++[x.x]) s1) (λ_=>rfl) λ_=>rfl;rw[show(U (s.up d).p).k=(T s.p).k from(hU _ h).k]
theorem iv7(hU:∀j,Eq3 (U j) (T j)){f f':Nat}(hf:f<=f')(pr:List ByteArray)(s:PS)(ho:s5 T f pr s≠ .out):s5 U f' pr s=s5 T f pr s:=by
 have h:=iw9 (T:=T) (U:=U) (d:=0) (e:=Ee 1 (s5 T f pr s)) (λj _=>by rw[Nat.zero_add];exact hU j) f f' hf pr s;have h1:=h.eq ho (Nat.le_refl _);have e0:∀s:PS,s.up 0=s:=λs=>by cases s;simp[PS.up]
 rw[e0]at h1;rw[h1];cases s5 T f pr s<;>simp[PR.up,e0]
end
end Go.Proofs.Lx
/- Plain: tokens of statements' and procedures' texts are read as the statements and procedures. -/
namespace Go.Proofs.Lx
open Go Go.Proofs.YtjfkkokeegpeiaaDoor
set_option maxRecDepth 100000
def j5(i:Nat):List UInt8:=List.replicate (2*i) 32
def bL(s:ByteArray):List UInt8:=s.data.toList
def am8(s:ByteArray):Prop:=io4 s=false/\bx0 s
def spB:List UInt8:=[32]
inductive PrS:Nat->(Tr⊕List Tr)->List UInt8->List Tkn->Nat->List ByteArray->Prop
 |let(i:Nat) (s:ByteArray) (a:Tr) (x:List UInt8) (l:List Tkn) (d:Nat):am8 s->Pr a x l d->
  PrS i (.inl (.node 1 0 s [a])) (j5 i++(bL w_let++32::(bL s++32::61::32::(x++[59,10])))) (tkW w_let::tkW s::tkY cm8::(l++[tkY aj6])) d [s]
 |set (i:Nat) (s:ByteArray) (a:Tr) (x:List UInt8) (l:List Tkn) (d:Nat):am8 s->Pr a x l d->
  PrS i (.inl (.node 2 0 s [a])) (j5 i++(bL s++32::61::32::(x++[59,10]))) (tkW s::tkY cm8::(l++[tkY aj6])) d []
 |cond (i:Nat) (c:Tr) (ys:List Tr) (x:List UInt8) (l:List Tkn) (d:Nat) (xy:List UInt8) (ly:List Tkn) (dy:Nat) (vy:List ByteArray):Pr c x l d->PrS (i+1) (.inr ys) xy ly dy vy->
  PrS i (.inl (.node 3 0 ⟨#[]⟩ [c,.node 14 0 ⟨#[]⟩ ys,.node 14 0 ⟨#[]⟩ []])) (j5 i++(bL w_if++32::(x++32::123::10::(xy++(j5 i++[125,10]))))) (tkW w_if::(l++tkY cv8::(ly++[tkY dk1]))) (max d (dy+1)) vy
 |both (i:Nat) (c:Tr) (ys:List Tr) (n0:Tr) (ns:List Tr) (x:List UInt8) (l:List Tkn) (d:Nat) (xy:List UInt8) (ly:List Tkn) (dy:Nat) (vy:List ByteArray) (xn:List UInt8) (ln:List Tkn) (dn:Nat) (vn:List ByteArray):Pr c x l d->PrS (i+1) (.inr ys) xy ly dy vy->PrS (i+1) (.inr (n0::ns)) xn ln dn vn->
  PrS i (.inl (.node 3 0 ⟨#[]⟩ [c,.node 14 0 ⟨#[]⟩ ys,.node 14 0 ⟨#[]⟩ (n0::ns)])) (j5 i++(bL w_if++32::(x++32::123::10::(xy++(j5 i++125::32::(bL w_else++32::123::10::(xn++(j5 i++[125,10]))))))))
   (tkW w_if::(l++tkY cv8::(ly++tkY dk1::tkW w_else::tkY cv8::(ln++[tkY dk1])))) (max d (max (dy+1) (dn+1))) (vy++vn)
 |rep (i:Nat) (n:Int) (ys:List Tr) (xy:List UInt8) (ly:List Tkn) (dy:Nat) (vy:List ByteArray):1<=n->n<=100->PrS (i+1) (.inr ys) xy ly dy vy->
  PrS i (.inl (.node 4 n ⟨#[]⟩ [.node 14 0 ⟨#[]⟩ ys])) (j5 i++(bL w_repeat++32::(bL (itS n)++32::123::10::(xy++(j5 i++[125,10]))))) (tkW w_repeat::tkN n::tkY cv8::(ly++[tkY dk1])) (dy+1) vy
 |amt (i:Nat) (k:Int) (w:ByteArray) (n:Int) (u:ByteArray) (x:List UInt8) (l:List Tkn) (d:Nat):(k=5/\w=be2)\/(k=11/\w=yW)->Pr (.node 15 n u []) x l d->
  PrS i (.inl (.node k 0 ⟨#[]⟩ [.node 15 n u []])) (j5 i++(bL w++32::(x++[59,10]))) (tkW w::(l++[tkY aj6])) d []
 |await (i:Nat) (c:Tr) (y:List UInt8) (m:List Tkn) (e:Nat) (n:Int) (u:ByteArray) (x:List UInt8) (l:List Tkn) (d:Nat):Pr c y m e->Pr (.node 15 n u []) x l d->
  PrS i (.inl (.node 6 0 ⟨#[]⟩ [c,.node 15 n u []])) (j5 i++(bL w_await++32::(y++32::(bL w_within++32::(x++[59,10]))))) (tkW w_await::(m++tkW w_within::(l++[tkY aj6]))) e []
 |one (i:Nat) (k:Int) (w:ByteArray) (a:Tr) (x:List UInt8) (l:List Tkn) (d:Nat):(k=7/\w=qO)\/(k=8/\w=rI)->Pr a x l d->
  PrS i (.inl (.node k 0 ⟨#[]⟩ [a])) (j5 i++(bL w++32::(x++[59,10]))) (tkW w::(l++[tkY aj6])) d []
 |use (i:Nat) (j:Int) (n:Int) (u:ByteArray) (x:List UInt8) (l:List Tkn) (d:Nat):0<=j->j<=7->Pr (.node 15 n u []) x l d->
  PrS i (.inl (.node 9 j ⟨#[]⟩ [.node 15 n u []])) (j5 i++(bL w_use++32::(bL (itS j)++32::(bL w_for++32::(x++[59,10]))))) (tkW w_use::tkN j::tkW w_for::(l++[tkY aj6])) d []
 |send (i:Nat) (j:Int) (n:Int) (u:ByteArray) (x:List UInt8) (l:List Tkn) (d:Nat):0<=j->j<=7->Pr (.node 15 n u []) x l d->
  PrS i (.inl (.node 10 j ⟨#[]⟩ [.node 15 n u []])) (j5 i++(bL w_send++32::(bL (itS j)++44::32::(x++[59,10])))) (tkW w_send::tkN j::tkY mN::(l++[tkY aj6])) d []
 |nmb (i:Nat) (k:Int) (w:ByteArray) (j:Int):(k=12/\w=yV/\j<=99)\/(k=13/\w=uE/\j<=999)->0<=j->
  PrS i (.inl (.node k j ⟨#[]⟩ [])) (j5 i++(bL w++32::(bL (itS j)++[59,10]))) [tkW w,tkN j,tkY aj6] 0 []
 |nil (i:Nat):PrS i (.inr []) [] [] 0 []
 |cons (i:Nat) (t:Tr) (ts:List Tr) (x:List UInt8) (l:List Tkn) (d:Nat) (v:List ByteArray) (xs:List UInt8) (ls:List Tkn) (ds:Nat) (vs:List ByteArray):PrS i (.inl t) x l d v->PrS i (.inr ts) xs ls ds vs->
  PrS i (.inr (t::ts)) (x++xs) (l++ls) (max d ds) (v++vs)
section
variable {T:Nat->Tkn}
theorem io0{w:ByteArray}{s:PS}(h:(T s.p).t=w):y7 T w s= .ok () (adv s):=by
 unfold y7 isP;rw[h,if_pos (by simp)]
theorem in1{w:ByteArray}{s:PS}(h:(T s.p).t=w):isP T w s=true:=decide_eq_true h
theorem cI{w v:ByteArray}{s:PS}(h:(T s.p).t=v)(hn:v≠w):isP T w s=false:=by
 unfold isP;rw[h];exact decide_eq_false hn
theorem jd2{w:ByteArray}{s:PS}(h:(T s.p).t=w)(ho:s.o<12):eG T w s= .ok () {s with p:=s.p+1,o:=s.o+1}:=by
 unfold eG isP;rw[h,if_pos (by simp),if_neg (by omega)]
theorem iq9{s:PS}{n lo hi:Int}(k1:(T s.p).k=2)(k2:(T s.p).n=n)(h0:lo<=n)(h1:n<=hi):tB T lo hi s= .ok n (adv s):=by
 unfold tB;rw[k1,k2,if_neg (by decide),if_neg (by omega)]
theorem iu0{s:PS}{y:ByteArray}(k1:(T s.p).k=1)(k2:(T s.p).t=y)(hr:io4 y=false):fD T s= .ok y (adv s):=by
 unfold fD;rw[k1,k2,hr,if_neg (by decide)]
theorem jc9{l:List ByteArray}{x:ByteArray}(h:x∉l):inP l x=false:=by
 cases e:inP l x with
 |false=>rfl
 |true=>exact absurd (inP_iff.1 e) h
theorem it4{s:PS}{y:ByteArray}(k1:(T s.p).k=1)(k2:(T s.p).t=y)(hr:io4 y=false)(hn:y∉s.vs)(hl:s.vs.length<12):zL T s= .ok y {s with p:=s.p+1,vs:=s.vs++[y]}:=by
 unfold zL;rw[iu0 k1 k2 hr];show(if inP s.vs y=true then PR.err _ _ else if s.vs.length=12 then PR.err _ _ else _)=_;rw[jc9 hn,if_neg (by decide),if_neg (by omega)];rfl
theorem iu4{n:Int}{u:ByteArray}{x:List UInt8}{l:List Tkn}{d:Nat}(h:Pr (.node 15 n u []) x l d){s:PS}(hA:At T s.p l)(hf:¬((T (s.p+l.length)).k=1/\vW (T (s.p+l.length)).t=true)):tA T s= .ok (.node 15 n u []) (go s l.length):=by
 cases h with
 |lit n h0 h1=>
  obtain⟨⟨k1,k2,k3⟩,_⟩:=hA;unfold tA;rw[iq9 k1 k3 h0 h1];exact if_neg hf
 |qty n u h0 h1 hu=>
  obtain⟨⟨k1,k2,k3⟩,⟨k4,k5,_⟩,_⟩:=hA;unfold tA;rw[iq9 k1 k3 h0 h1];show(if(T (s.p+1)).k=1/\vW (T (s.p+1)).t=true then PR.ok (Tr.node 15 n (T (s.p+1)).t []) (adv (adv s))else _)=_;rw[k5,if_pos ⟨k4,inP_iff.2 hu⟩];rfl
theorem ia7{x:Tkn}{w:ByteArray}(lv:Nat)(h1:1<=lv)(h:x.t=w)(hl:j8 w=0)(hu:vW w=false):Fol lv x/\¬(j8 x.t=lv/\x.k=3):=by
 refine⟨⟨λ_=>⟨by rw[h,hl];omega,λ_=>by rw[h,hl];decide⟩,λg=>?_⟩,λg=>?_⟩
 ·rw[h,hu]at g;exact absurd g.2 (by decide)
 ·rw[h,hl]at g;omega
theorem hh8{t:Tr}{x:List UInt8}{l:List Tkn}{d:Nat}(h:Pr t x l d){s:PS}{w:ByteArray}(hA:At T s.p l)(hd:s.o+d<=12)(hw:(T (s.p+l.length)).t=w)(hl:j8 w=0)(hu:vW w=false):Ex T 1 s t (go s l.length):=by
 obtain⟨f1,f2⟩:=ia7 (x:=T (s.p+l.length)) 1 (Nat.le_refl _) hw hl hu;exact fy6 h s 1 (Nat.le_refl _) (by decide) (fh3 h).1 hA hd f1 t _ (rY f2)
theorem evc{α:Type}{r r':PR α}(h:r=r'):Ev (λ_=>r) r':=by rw[h];exact Ev.const
theorem ip7{n:Tr}{s:PS}(h:(T s.p).t=aj6):endP T n s= .ok n (adv s):=by
 unfold endP;rw[io0 h];rfl
theorem jd7{k:Int}{y:ByteArray}{a:Tr}{x:List UInt8}{l:List Tkn}{d:Nat}(h:Pr a x l d){s:PS}(hA:At T s.p (tkY cm8::(l++[tkY aj6])))(hd:s.o+d<=12):Ev (λf=>el7 T f k y s) (.ok (.node k 0 y [a]) (go s (l.length+2))):=by
 obtain⟨⟨_,k2,_⟩,hA⟩:=hA;obtain⟨hA,⟨_,k5,_⟩,_⟩:=hA.app;unfold el7;refine Ev.bind (evc (io0 k2)) (Ev.bind (hh8 h (s:=adv s) hA hd k5 (by decide) (by decide)) ?_);refine evc ((ip7 k5).trans ?_);simp only[adv,go];congr 2;omega
def Ok1(s:PS)(v:List ByteArray):Prop:=(s.vs++v).Nodup/\(s.vs++v).length<=12
def jg7(T:Nat->Tkn)(z:Tr⊕List Tr)(l:List Tkn)(d:Nat)(v:List ByteArray):Prop:=match z with
 | .inl t=>∀s:PS,At T s.p l->s.o+d<=12->Ok1 s v->(T (s.p+l.length)).t≠w_else->Ev (λf=>xQ T f s) (.ok t {p:=s.p+l.length,o:=s.o,vs:=s.vs++v})
 | .inr ts=>∀s:PS,At T s.p (l++[tkY dk1])->s.o+d<=12->Ok1 s v->Ev (λf=>dZ T f s) (.ok ts {p:=s.p+l.length+1,o:=s.o,vs:=s.vs++v})
theorem is5{i:Nat}{t:Tr}{x:List UInt8}{l:List Tkn}{d:Nat}{v:List ByteArray}(h:PrS i (.inl t) x l d v):∃y m,l=y::m/\y.t≠dk1/\y.t≠w_else:=by
 cases h with
 |set _ s a x l d hn _=>
  refine⟨_,_,rfl,?_,?_⟩
  ·rintro e;have e:s=dk1:=e;subst e;obtain⟨_,_,c,l,e,h1,_⟩:=hn;simp at e;obtain⟨rfl,_⟩:=e;exact absurd h1 (by decide)
  ·rintro e;have e:s=w_else:=e;subst e;exact absurd hn.1 (by decide)
 |amt _ k w n u x l d hk _=>rcases hk with⟨_,rfl⟩ | ⟨_,rfl⟩<;>exact⟨_,_,rfl,by decide,by decide⟩
 |one _ k w a x l d hk _=>rcases hk with⟨_,rfl⟩ | ⟨_,rfl⟩<;>exact⟨_,_,rfl,by decide,by decide⟩
 |nmb _ k w j hk _=>rcases hk with⟨_,rfl,_⟩ | ⟨_,rfl,_⟩<;>exact⟨_,_,rfl,by decide,by decide⟩
 |_=>exact⟨_,_,rfl,by decide,by decide⟩
theorem io8{ys:List Tr}{l:List Tkn}{d:Nat}{v:List ByteArray}(h:jg7 T (.inr ys) l d v){s:PS}(hA:At T s.p (tkY cv8::(l++[tkY dk1])))(hd:s.o+(d+1)<=12)(hv:Ok1 s v):Ev (λf=>bC T f s) (.ok (.node 14 0 ⟨#[]⟩ ys) {p:=s.p+(l.length+2),o:=s.o,vs:=s.vs++v}):=by
 obtain⟨⟨_,k2,_⟩,hA⟩:=hA;refine Ev.step (h:=λf=>(eG T cv8 s).bind λ_ s1=>(dZ T f s1).bind λl s2=>.ok (.node 14 0 ⟨#[]⟩ l) (lI s2)) (λf=>by rw[bC]) ?_;refine Ev.bind (evc (jd2 k2 (by omega))) (Ev.bind (h {s with p:=s.p+1,o:=s.o+1} hA (by show s.o+1+d<=12;omega) hv) (evc ?_));simp only[lI];congr 2;omega
theorem Ok1.left{s:PS}{v w:List ByteArray}(h:Ok1 s (v++w)):Ok1 s v:=by
 obtain⟨h1,h2⟩:=h;rw[<-List.append_assoc]at h1 h2;exact⟨(List.nodup_append.1 h1).1,by rw[List.length_append]at h2;omega⟩
theorem Ok1.right{s s':PS}{v w:List ByteArray}(h:Ok1 s (v++w))(e:s'.vs=s.vs++v):Ok1 s' w:=by
 unfold Ok1 at h⊢;rw[e,List.append_assoc];exact h
theorem jh0{y:ByteArray}(hr:io4 y=false):∀w∈keywords,y≠w:=by
 rintro w hw rfl;unfold io4 at hr;rw[inP_iff.2 hw]at hr;cases hr
theorem jb8{i:Nat}{z:Tr⊕List Tr}{x:List UInt8}{l:List Tkn}{d:Nat}{v:List ByteArray}(h:PrS i z x l d v):jg7 T z l d v:=by
 induction h with
 |«let» i y a x l d hn hP=>
  intro s hA hd hv _;obtain⟨⟨_,k2,_⟩,⟨k4,k5,_⟩,hA⟩:=hA;have k2:(T s.p).t=w_let:=k2;refine Ev.step (h:=λf=>(zL T (adv s)).bind λx s1=>el7 T f 1 x s1) (λf=>by rw[xQ,if_pos (in1 k2)]) ?_
  have hnd:y∉s.vs:=by
   have:=List.nodup_append.1 hv.1;intro hm;exact this.2.2 y hm y (by simp) rfl
  have hl:s.vs.length<12:=by have:=hv.2;rw[List.length_append]at this;simp at this;omega
  refine Ev.bind (evc (it4 (s:=adv s) k4 k5 hn.1 hnd hl)) ((?_:Ev _ _));have:=jd7 (T:=T) (k:=1) (y:=y) hP (s:={s with p:=s.p+2,vs:=s.vs++[y]}) hA hd
  have e:go {s with p:=s.p+2,vs:=s.vs++[y]} (l.length+2)={p:=s.p+(tkW w_let::tkW y::tkY cm8::(l++[tkY aj6])).length,o:=s.o,vs:=s.vs++[y]}:=by
   simp only[go,List.length_cons,List.length_append,List.length_nil];congr 1;omega
  rw[e]at this;exact this
 |set i y a x l d hn hP=>
  intro s hA hd hv _;obtain⟨⟨k1,k2,_⟩,hA⟩:=hA;have k2:(T s.p).t=y:=k2;have hk:=jh0 hn.1;refine Ev.step (h:=λf=>(fD T s).bind λx s1=>el7 T f 2 x s1) (λf=>?_) ?_
  ·rw[xQ,cI k2 (hk _ (inP_iff.1 (by decide))),cI k2 (hk _ (inP_iff.1 (by decide))),cI k2 (hk _ (inP_iff.1 (by decide))),cI k2 (hk _ (inP_iff.1 (by decide))),cI k2 (hk _ (inP_iff.1 (by decide))),cI k2 (hk _ (inP_iff.1 (by decide))),cI k2 (hk _ (inP_iff.1 (by decide))),cI k2 (hk _ (inP_iff.1 (by decide))),cI k2 (hk _ (inP_iff.1 (by decide))),cI k2 (hk _ (inP_iff.1 (by decide))),cI k2 (hk _ (inP_iff.1 (by decide))),cI k2 (hk _ (inP_iff.1 (by decide)))];rfl
  refine Ev.bind (evc (iu0 k1 k2 hn.1)) ((?_:Ev _ _));have:=jd7 (T:=T) (k:=2) (y:=y) hP (s:=adv s) hA hd
  have e:go (adv s) (l.length+2)={p:=s.p+(tkW y::tkY cm8::(l++[tkY aj6])).length,o:=s.o,vs:=s.vs++[]}:=by
   simp only[go,adv,List.length_cons,List.length_append,List.length_nil,List.append_nil];congr 1;omega
  rw[e]at this;exact this
 |cond i c ys x l d xy ly dy vy hP hY ih=>
  intro s hA hd hv hf;obtain⟨⟨_,k2,_⟩,hA⟩:=hA;have k2:(T s.p).t=w_if:=k2;obtain⟨hA,hB⟩:=hA.app;have k5:=hB.1.2.1;refine Ev.step (h:=λf=>(o9 T f 1 (adv s)).bind λc s1=>(bC T f s1).bind λy s2=>if isP T w_else s2=true then(bC T f (adv s2)).bind λn s3=>.ok (.node 3 0 ⟨#[]⟩ [c,y,n]) s3 else .ok (.node 3 0 ⟨#[]⟩ [c,y,.node 14 0 ⟨#[]⟩ []]) s2) (λf=>by rw[xQ,cI k2 (by decide),if_neg (by decide),if_pos (in1 k2)]) ?_;refine Ev.bind (hh8 hP (s:=adv s) hA (by show s.o+d<=12;omega) k5 (by decide) (by decide)) (Ev.bind (io8 ih (s:=go (adv s) l.length) hB (by show s.o+(dy+1)<=12;omega) hv) ?_);have e:s.p+(tkW w_if::(l++tkY cv8::(ly++[tkY dk1]))).length=s.p+1+l.length+(ly.length+2):=by simp only[List.length_cons,List.length_append,List.length_nil];omega
  rw[e]at hf⊢;refine Ev.congr (λf=>if_neg (by rw[cI rfl hf];decide)) Ev.const
 |both i c ys n0 ns x l d xy ly dy vy xn ln dn vn hP hY hN ih1 ih2=>
  intro s hA hd hv hf;obtain⟨⟨_,k2,_⟩,hA⟩:=hA;have k2:(T s.p).t=w_if:=k2;obtain⟨hA,hB⟩:=hA.app;have k5:=hB.1.2.1;obtain⟨hB0,hB⟩:=hB;obtain⟨hB1,hB2⟩:=hB.app;obtain⟨hB3,⟨_,k8,_⟩,hC⟩:=hB2
  have hB':At T (s.p+1+l.length) (tkY cv8::(ly++[tkY dk1])):=by
   refine⟨hB0,?_⟩
   have qC:∀{a b:List Tkn} {p:Nat},At T p a->At T (p+a.length) b->At T p (a++b):=by
    intro a
    induction a with
    |nil=>intro b p _ h;simpa using h
    |cons z a iha=>intro b p h1 h2;exact⟨h1.1,iha h1.2 (by rw[show p+1+a.length=p+(z::a).length by simp only[List.length_cons];omega];exact h2)⟩
   exact qC hB1 ⟨hB3,trivial⟩
  refine Ev.step (h:=λf=>(o9 T f 1 (adv s)).bind λc s1=>(bC T f s1).bind λy s2=>if isP T w_else s2=true then(bC T f (adv s2)).bind λn s3=>.ok (.node 3 0 ⟨#[]⟩ [c,y,n]) s3 else .ok (.node 3 0 ⟨#[]⟩ [c,y,.node 14 0 ⟨#[]⟩ []]) s2) (λf=>by rw[xQ,cI k2 (by decide),if_neg (by decide),if_pos (in1 k2)]) ?_;refine Ev.bind (hh8 hP (s:=adv s) hA (by show s.o+d<=12;omega) k5 (by decide) (by decide)) (Ev.bind (io8 ih1 (s:=go (adv s) l.length) hB' (by show s.o+(dy+1)<=12;omega) hv.left) ?_)
  have k8':(T (s.p+1+l.length+(ly.length+2))).t=w_else:=by
   rw[show s.p+1+l.length+(ly.length+2)=s.p+1+l.length+1+ly.length+1 by omega];exact k8
  refine Ev.congr (λf=>if_pos (in1 k8')) ?_
  refine Ev.bind (io8 ih2 (s:={p:=s.p+1+l.length+(ly.length+2)+1,o:=s.o,vs:=s.vs++vy}) (by
   show At T (s.p+1+l.length+(ly.length+2)+1) _
   rw[show s.p+1+l.length+(ly.length+2)+1=s.p+1+l.length+1+ly.length+1+1 by omega];exact hC) (by show s.o+(dn+1)<=12;omega) (hv.right rfl)) (evc ?_)
  simp only[List.length_cons,List.length_append,List.length_nil,List.append_assoc];congr 2;omega
 |rep i n ys xy ly dy vy h0 h1 hY ih=>
  intro s hA hd hv hf;obtain⟨⟨_,k2,_⟩,⟨k4,k5,k6⟩,hB⟩:=hA;have k2:(T s.p).t=w_repeat:=k2;have k6:(T (s.p+1)).n=n:=k6;refine Ev.step (h:=λf=>(tB T 1 100 (adv s)).bind λn s1=>(bC T f s1).bind λy s2=>.ok (.node 4 n ⟨#[]⟩ [y]) s2) (λf=>by rw[xQ,cI k2 (by decide),if_neg (by decide),cI k2 (by decide),if_neg (by decide),if_pos (in1 k2)]) ?_;refine Ev.bind (evc (iq9 (s:=adv s) k4 k6 h0 h1)) (Ev.bind (io8 ih (s:=adv (adv s)) hB hd hv) (evc ?_));simp only[List.length_cons,List.length_append,List.length_nil,adv];congr 2;omega
 |amt i k w n u x l d hk hP=>
  intro s hA hd hv hf;obtain⟨⟨_,k2,_⟩,hA⟩:=hA;have k2:(T s.p).t=w:=k2;obtain⟨hA,⟨_,k5,_⟩,_⟩:=hA.app;have hl:=iu4 hP (s:=adv s) hA (by rw[show(T ((adv s).p+l.length)).t=aj6 from k5];exact λh=>absurd h.2 (by decide));refine Ev.step (h:=λf=>ga8 T k (adv s)) (λf=>?_) (evc ?_)
  ·rcases hk with⟨rfl,rfl⟩ | ⟨rfl,rfl⟩
   ·rw[xQ,cI k2 (by decide),if_neg (by decide),cI k2 (by decide),if_neg (by decide),cI k2 (by decide),if_neg (by decide),cI k2 (by decide),if_neg (by decide),if_pos (in1 k2)]
   ·rw[xQ,cI k2 (by decide),if_neg (by decide),cI k2 (by decide),if_neg (by decide),cI k2 (by decide),if_neg (by decide),cI k2 (by decide),if_neg (by decide),cI k2 (by decide),if_neg (by decide),if_pos (in1 k2)]
  ·unfold ga8;rw[hl];refine(ip7 k5).trans ?_;simp only[adv,go,List.length_cons,List.length_append,List.length_nil,List.append_nil];congr 2;omega
 |await i c y m e n u x l d hC hP=>
  intro s hA hd hv hf;obtain⟨⟨_,k2,_⟩,hA⟩:=hA;have k2:(T s.p).t=w_await:=k2;obtain⟨hA,⟨_,k5,_⟩,hB⟩:=hA.app;obtain⟨hB,⟨_,k8,_⟩,_⟩:=hB.app;have hl:=iu4 hP (s:=adv (go (adv s) m.length)) hB (by rw[show(T ((adv (go (adv s) m.length)).p+l.length)).t=aj6 from k8];exact λh=>absurd h.2 (by decide));refine Ev.step (h:=λf=>dn2 T f (adv s)) (λf=>by rw[xQ,cI k2 (by decide),if_neg (by decide),cI k2 (by decide),if_neg (by decide),cI k2 (by decide),if_neg (by decide),if_pos (in1 k2)]) ?_;unfold dn2;refine Ev.bind (hh8 hC (s:=adv s) hA hd k5 (by decide) (by decide)) (Ev.bind (evc (io0 k5)) (evc ?_));show(tA T (adv (go (adv s) m.length))).bind _=_;rw[hl];refine(ip7 k8).trans ?_;simp only[adv,go,List.length_cons,List.length_append,List.length_nil,List.append_nil];congr 2;omega
 |one i k w a x l d hk hP=>
  intro s hA hd hv hf;obtain⟨⟨_,k2,_⟩,hA⟩:=hA;have k2:(T s.p).t=w:=k2;obtain⟨hA,⟨_,k5,_⟩,_⟩:=hA.app;refine Ev.step (h:=λf=>oneP T f k (adv s)) (λf=>?_) ?_
  ·rcases hk with⟨rfl,rfl⟩ | ⟨rfl,rfl⟩
   ·rw[xQ,cI k2 (by decide),if_neg (by decide),cI k2 (by decide),if_neg (by decide),cI k2 (by decide),if_neg (by decide),cI k2 (by decide),if_neg (by decide),cI k2 (by decide),if_neg (by decide),cI k2 (by decide),if_neg (by decide),if_pos (in1 k2)]
   ·rw[xQ,cI k2 (by decide),if_neg (by decide),cI k2 (by decide),if_neg (by decide),cI k2 (by decide),if_neg (by decide),cI k2 (by decide),if_neg (by decide),cI k2 (by decide),if_neg (by decide),cI k2 (by decide),if_neg (by decide),cI k2 (by decide),if_neg (by decide),if_pos (in1 k2)]
  ·unfold oneP;refine Ev.bind (hh8 hP (s:=adv s) hA hd k5 (by decide) (by decide)) (evc ((ip7 k5).trans ?_));simp only[adv,go,List.length_cons,List.length_append,List.length_nil,List.append_nil];congr 2;omega
 |use i j n u x l d h0 h1 hP=>
  intro s hA hd hv hf;obtain⟨⟨_,k2,_⟩,⟨k4,_,k6⟩,⟨_,k8,_⟩,hA⟩:=hA;have k2:(T s.p).t=w_use:=k2;have k6:(T (s.p+1)).n=j:=k6;have k8:(T (s.p+1+1)).t=w_for:=k8;obtain⟨hA,⟨_,k11,_⟩,_⟩:=hA.app;have hl:=iu4 hP (s:=adv (adv (adv s))) hA (by rw[show(T ((adv (adv (adv s))).p+l.length)).t=aj6 from k11];exact λh=>absurd h.2 (by decide));refine Ev.step (h:=λf=>fq6 T 9 w_for (adv s)) (λf=>?_) (evc ?_)
  ·rw[xQ,cI k2 (by decide),if_neg (by decide),cI k2 (by decide),if_neg (by decide),cI k2 (by decide),if_neg (by decide),cI k2 (by decide),if_neg (by decide),cI k2 (by decide),if_neg (by decide),cI k2 (by decide),if_neg (by decide),cI k2 (by decide),if_neg (by decide),cI k2 (by decide),if_neg (by decide),if_pos (in1 k2)]
  ·unfold fq6;rw[iq9 (s:=adv s) k4 k6 h0 h1];show(y7 T w_for (adv (adv s))).bind _=_;rw[io0 (s:=adv (adv s)) k8];show(tA T (adv (adv (adv s)))).bind _=_;rw[hl];refine(ip7 k11).trans ?_;simp only[adv,go,List.length_cons,List.length_append,List.length_nil,List.append_nil];congr 2;omega
 |send i j n u x l d h0 h1 hP=>
  intro s hA hd hv hf;obtain⟨⟨_,k2,_⟩,⟨k4,_,k6⟩,⟨_,k8,_⟩,hA⟩:=hA;have k2:(T s.p).t=w_send:=k2;have k6:(T (s.p+1)).n=j:=k6;have k8:(T (s.p+1+1)).t=mN:=k8;obtain⟨hA,⟨_,k11,_⟩,_⟩:=hA.app;have hl:=iu4 hP (s:=adv (adv (adv s))) hA (by rw[show(T ((adv (adv (adv s))).p+l.length)).t=aj6 from k11];exact λh=>absurd h.2 (by decide));refine Ev.step (h:=λf=>fq6 T 10 mN (adv s)) (λf=>?_) (evc ?_)
  ·rw[xQ,cI k2 (by decide),if_neg (by decide),cI k2 (by decide),if_neg (by decide),cI k2 (by decide),if_neg (by decide),cI k2 (by decide),if_neg (by decide),cI k2 (by decide),if_neg (by decide),cI k2 (by decide),if_neg (by decide),cI k2 (by decide),if_neg (by decide),cI k2 (by decide),if_neg (by decide),cI k2 (by decide),if_neg (by decide),if_pos (in1 k2)]
  ·unfold fq6;rw[iq9 (s:=adv s) k4 k6 h0 h1];show(y7 T mN (adv (adv s))).bind _=_;rw[io0 (s:=adv (adv s)) k8];show(tA T (adv (adv (adv s)))).bind _=_;rw[hl];refine(ip7 k11).trans ?_;simp only[adv,go,List.length_cons,List.length_append,List.length_nil,List.append_nil];congr 2;omega
 |nmb i k w j hk h0=>
  intro s hA hd hv hf;obtain⟨⟨_,k2,_⟩,⟨k4,_,k6⟩,⟨_,k8,_⟩,_⟩:=hA;have k2:(T s.p).t=w:=k2;have k6:(T (s.p+1)).n=j:=k6;have k8:(T (s.p+1+1)).t=aj6:=k8
  have fin:∀hi,j<=hi->fu2 T k hi (adv s)= .ok (.node k j ⟨#[]⟩ []) {p:=s.p+[tkW w,tkN j,tkY aj6].length,o:=s.o,vs:=s.vs++[]}:=by
   intro hi h1;unfold fu2;rw[iq9 (s:=adv s) k4 k6 h0 h1];refine(ip7 k8).trans ?_;simp only[adv,go,List.length_cons,List.length_nil,List.append_nil]
  rcases hk with⟨rfl,rfl,h1⟩ | ⟨rfl,rfl,h1⟩
  ·refine Ev.step (h:=λf=>fu2 T 12 99 (adv s)) (λf=>?_) (evc (fin 99 h1));rw[xQ,cI k2 (by decide),if_neg (by decide),cI k2 (by decide),if_neg (by decide),cI k2 (by decide),if_neg (by decide),cI k2 (by decide),if_neg (by decide),cI k2 (by decide),if_neg (by decide),cI k2 (by decide),if_neg (by decide),cI k2 (by decide),if_neg (by decide),cI k2 (by decide),if_neg (by decide),cI k2 (by decide),if_neg (by decide),cI k2 (by decide),if_neg (by decide),if_pos (in1 k2)]
  ·refine Ev.step (h:=λf=>fu2 T 13 999 (adv s)) (λf=>?_) (evc (fin 999 h1));rw[xQ,cI k2 (by decide),if_neg (by decide),cI k2 (by decide),if_neg (by decide),cI k2 (by decide),if_neg (by decide),cI k2 (by decide),if_neg (by decide),cI k2 (by decide),if_neg (by decide),cI k2 (by decide),if_neg (by decide),cI k2 (by decide),if_neg (by decide),cI k2 (by decide),if_neg (by decide),cI k2 (by decide),if_neg (by decide),cI k2 (by decide),if_neg (by decide),cI k2 (by decide),if_neg (by decide),if_pos (in1 k2)]
 |nil i=>
  intro s hA hd hv;obtain⟨⟨_,k2,_⟩,_⟩:=hA;have k2:(T s.p).t=dk1:=k2;refine Ev.step (h:=λf=>.ok [] (adv s)) (λf=>by rw[dZ,if_pos (in1 k2)]) (evc ?_);simp only[adv,List.length_nil,List.append_nil,Nat.add_zero]
 |cons i t ts x l d v xs ls ds vs h1 h2 ih1 ih2=>
  intro s hA hd hv;rw[List.append_assoc]at hA;obtain⟨hA1,hA2⟩:=hA.app;obtain⟨y,m,e1,f1,f2⟩:=is5 h1
  have hne:(T (s.p+l.length)).t≠w_else:=by
   cases h2 with
   |nil=>rw[hA2.1.2.1];decide
   |cons _ t' ts' x' l' d' v' xs' ls' ds' vs' g1 g2=>
    obtain⟨y',m',e',f1',f2'⟩:=is5 g1;rw[e']at hA2;rw[hA2.1.2.1];exact f2'
  have hno:isP T dk1 s=false:=by
   rw[e1]at hA1;exact cI hA1.1.2.1 f1
  refine Ev.step (h:=λf=>(xQ T f s).bind λn s1=>(dZ T f s1).bind λl s2=>.ok (n::l) s2) (λf=>by rw[dZ,if_neg (by rw[hno];decide)]) ?_;refine Ev.bind (ih1 s hA1 (by omega) hv.left hne) (Ev.bind (ih2 {p:=s.p+l.length,o:=s.o,vs:=s.vs++v} hA2 (by show s.o+ds<=12;omega) (hv.right rfl)) (evc ?_));simp only[List.length_append,List.append_assoc];congr 2;omega
def ih4(m:Prm):List Tkn:=tkW m.x::(if m.u=⟨#[]⟩then[]else[tkY cl8,tkW m.u])
def ay5(m:Prm):List UInt8:=bL m.x++(if m.u=⟨#[]⟩then[]else 58::32::bL m.u)
def hp7:List Prm->List Tkn
 | []=>[]
 | [m]=>ih4 m
 |m::n::l=>ih4 m++tkY mN::hp7 (n::l)
def cK:List Prm->List UInt8
 | []=>[]
 | [m]=>ay5 m
 |m::n::l=>ay5 m++44::32::cK (n::l)
def az7(m:Prm):Prop:=am8 m.x/\(m.u=⟨#[]⟩\/m.u∈ad0)
structure PrP(c:Prc)(x:List UInt8)(l:List Tkn):Prop where
 mk'::
 nm:am8 c.x
 pm:∀m∈c.ps,az7 m
 bd:∃ys xy ly dy vy,PrS 1 (.inr ys) xy ly dy vy/\c.b= .node 14 0 ⟨#[]⟩ ys/\dy+1<=12/\(c.ps.map Prm.x++vy).Nodup/\(c.ps.map Prm.x++vy).length<=12/\
  x=bL w_procedure++32::(bL c.x++40::(cK c.ps++41::32::123::10::(xy++[125,10])))/\l=tkW w_procedure::tkW c.x::tkY nG::(hp7 c.ps++tkY jS::tkY cv8::(ly++[tkY dk1]))
theorem jd3{m:Prm}(h:az7 m){s:PS}(hA:At T s.p (ih4 m))(hv:Ok1 s [m.x])(hc:(T (s.p+(ih4 m).length)).t≠cl8):ga3 T s= .ok m {p:=s.p+(ih4 m).length,o:=s.o,vs:=s.vs++[m.x]}:=by
 obtain⟨x,u⟩:=m;obtain⟨⟨h1,_⟩,h2⟩:=h
 have hnd:x∉s.vs:=by
  have:=List.nodup_append.1 hv.1;intro hm;exact this.2.2 x hm x (by simp) rfl
 have hl:s.vs.length<12:=by have:=hv.2;rw[List.length_append]at this;simp at this;omega
 unfold ih4 at hA hc⊢;dsimp only at hA hc⊢;unfold ga3;by_cases hu:u=⟨#[]⟩
 ·subst hu;rw[if_pos rfl]at hA hc⊢;rw[it4 hA.1.1 hA.1.2.1 h1 hnd hl];show(if isP T cl8 _=true then _ else _)=_;rw[cI rfl hc,if_neg (by decide)];rfl
 ·rw[if_neg hu]at hA hc⊢;obtain⟨⟨k1,k2,_⟩,⟨_,k5,_⟩,⟨k7,k8,_⟩,_⟩:=hA;have k8:(T (s.p+1+1)).t=u:=k8;rw[it4 k1 k2 h1 hnd hl];show(if isP T cl8 _=true then(if(T (s.p+1+1)).k≠1 then _ else if vW (T (s.p+1+1)).t=false then _ else PR.ok (Prm.mk x (T (s.p+1+1)).t) _)else _)=_
  have hu2:vW u=true:=by
   rcases h2 with h2|h2
   ·exact absurd h2 hu
   ·exact inP_iff.2 h2
  have k7:(T (s.p+1+1)).k=1:=k7;rw[if_pos (in1 k5),k7,if_neg (by decide),k8,hu2,if_neg (by decide)];rfl
theorem iz4:∀{l:List Prm} {s:PS},l≠[]->(∀m∈l,az7 m)->At T s.p (hp7 l++[tkY jS])->Ok1 s (l.map Prm.x)->Ev (λf=>cf6 T f s) (.ok l {p:=s.p+(hp7 l).length+1,o:=s.o,vs:=s.vs++l.map Prm.x})
 | [],s,h0,_,_,_=>absurd rfl h0
 | [m],s,_,hm,hA,hv=>by
  obtain⟨hA1,⟨_,k2,_⟩,_⟩:=hA.app;have k2:(T (s.p+(ih4 m).length)).t=jS:=k2;refine Ev.step (h:=λf=>(ga3 T s).bind λx s1=>if isP T mN s1=true then(cf6 T f (adv s1)).bind λl s2=>.ok (x::l) s2 else(y7 T jS s1).bind λ_ s2=>.ok [x] s2) (λf=>by rw[cf6]) ?_;refine Ev.bind (evc (jd3 (hm m (by simp)) hA1 hv (by rw[k2];decide))) ?_;refine Ev.congr (λf=>if_neg (by rw[cI (s:={p:=s.p+(ih4 m).length,o:=s.o,vs:=s.vs++[m.x]}) k2 (by decide)];decide)) (evc ?_);rw[io0 (s:={p:=s.p+(ih4 m).length,o:=s.o,vs:=s.vs++[m.x]}) k2];rfl
 |m::n::l,s,_,hm,hA,hv=>by
  rw[show hp7 (m::n::l)++[tkY jS]=ih4 m++tkY mN::(hp7 (n::l)++[tkY jS])by simp[hp7]]at hA;obtain⟨hA1,⟨_,k2,_⟩,hA2⟩:=hA.app;have k2:(T (s.p+(ih4 m).length)).t=mN:=k2;have hv:Ok1 s ([m.x]++(n::l).map Prm.x):=hv;refine Ev.step (h:=λf=>(ga3 T s).bind λx s1=>if isP T mN s1=true then(cf6 T f (adv s1)).bind λl s2=>.ok (x::l) s2 else(y7 T jS s1).bind λ_ s2=>.ok [x] s2) (λf=>by rw[cf6]) ?_;refine Ev.bind (evc (jd3 (hm m (by simp)) hA1 hv.left (by rw[k2];decide))) ?_;refine Ev.congr (λf=>if_pos (in1 (s:={p:=s.p+(ih4 m).length,o:=s.o,vs:=s.vs++[m.x]}) k2)) ?_;refine Ev.bind (iz4 (l:=n::l) (s:={p:=s.p+(ih4 m).length+1,o:=s.o,vs:=s.vs++[m.x]}) (by simp) (λm' h=>hm m' (by simp at h⊢;exact .inr h)) hA2 (hv.right rfl)) (evc ?_);simp only[hp7,List.length_append,List.length_cons,List.map_cons,List.append_assoc,List.cons_append,List.nil_append];congr 2;omega
theorem je9{c:Prc}{x:List UInt8}{l:List Tkn}(h:PrP c x l){pr:List ByteArray}{s:PS}(hA:At T s.p l)(ho:s.o=0)(hn:c.x∉pr):∃v,Ev (λf=>aj7 T f pr s) (.ok c {p:=s.p+l.length,o:=0,vs:=v}):=by
 obtain⟨⟨hr,_⟩,hm,ys,xy,ly,dy,vy,hS,hb,hd,hv1,hv2,rfl,rfl⟩:=h;obtain⟨cx,ps,cb⟩:=c;dsimp only at*;subst hb;obtain⟨⟨_,k2,_⟩,⟨k4,k5,_⟩,⟨_,k8,_⟩,hA⟩:=hA;have k5:(T (s.p+1)).t=cx:=k5;obtain⟨hA,hB⟩:=hA.app;refine⟨ps.map Prm.x++vy,?_⟩;unfold aj7;refine Ev.bind (evc (io0 k2)) (Ev.bind (evc (iu0 (s:=adv s) k4 k5 hr)) ?_);refine Ev.congr (λf=>if_neg (by rw[jc9 hn];decide)) ?_
 have hps:Ev (λf=>mC T f {(adv (adv s))with vs:=[]}) (.ok ps {p:=s.p+1+1+1+(hp7 ps).length+1,o:=s.o,vs:=ps.map Prm.x}):=by
  unfold mC;refine Ev.bind (evc (io0 (s:={(adv (adv s))with vs:=[]}) k8)) ?_;cases ps with
  |nil=>
   have k9:(T (s.p+1+1+1)).t=jS:=hB.1.2.1;refine Ev.congr (λf=>if_pos (in1 (s:=adv {(adv (adv s))with vs:=[]}) k9)) (evc rfl)
  |cons m ps=>
   have hfst:(T (s.p+1+1+1)).t=m.x:=by
    have:∀ps:List Prm,∃r,hp7 (m::ps)=tkW m.x::r:=by
     intro ps;cases ps with
     |nil=>exact⟨_,rfl⟩
     |cons a b=>exact⟨_,rfl⟩
    obtain⟨r,e⟩:=this ps;rw[e]at hA;exact hA.1.2.1
   have hnp:m.x≠jS:=by
    intro e;obtain⟨_,_,c,l,e1,h1,_⟩:=(hm m (by simp)).1;rw[e]at e1;simp at e1;obtain⟨rfl,_⟩:=e1;exact absurd h1 (by decide)
   refine Ev.congr (λf=>if_neg (by rw[cI (s:=adv {(adv (adv s))with vs:=[]}) hfst hnp];decide)) ?_
   have qC:∀{a b:List Tkn} {p:Nat},At T p a->At T (p+a.length) b->At T p (a++b):=by
    intro a
    induction a with
    |nil=>intro b p _ h;simpa using h
    |cons z a iha=>intro b p h1 h2;exact⟨h1.1,iha h1.2 (by rw[show p+1+a.length=p+(z::a).length by simp only[List.length_cons];omega];exact h2)⟩
   have hok:Ok1 (adv {(adv (adv s))with vs:=[]}) ((m::ps).map Prm.x):=by
    refine⟨?_,?_⟩
    ·show([]++(m::ps).map Prm.x).Nodup;rw[List.nil_append];exact(List.nodup_append.1 hv1).1
    ·show([]++(m::ps).map Prm.x).length<=12;rw[List.nil_append];rw[List.length_append]at hv2;omega
   have:=iz4 (T:=T) (l:=m::ps) (s:=adv {(adv (adv s))with vs:=[]}) (by simp) hm (qC hA ⟨hB.1,trivial⟩) hok;exact this
 refine Ev.bind hps ?_;have hbl:=io8 (T:=T) (jb8 hS) (s:={p:=s.p+1+1+1+(hp7 ps).length+1,o:=s.o,vs:=ps.map Prm.x}) hB.2 (by show s.o+(dy+1)<=12;omega) ⟨hv1,hv2⟩;refine Ev.bind hbl (evc ?_);simp only[List.length_cons,List.length_append,List.length_nil,ho];congr 2;omega
inductive PrPs:List Prc->List UInt8->List Tkn->Prop
 |nil:PrPs [] [] []
 |cons (c:Prc) (cs:List Prc) (x:List UInt8) (l:List Tkn) (xs:List UInt8) (ls:List Tkn):PrP c x l->PrPs cs xs ls->PrPs (c::cs) (x++xs) (l++ls)
theorem jf3{c:Prc}{x:List UInt8}{l:List Tkn}(h:PrP c x l):∃r,l=tkW w_procedure::r:=by
 obtain⟨_,_,ys,xy,ly,dy,vy,hS,hb,hd,hv1,hv2,rfl,rfl⟩:=h;exact⟨_,rfl⟩
theorem jd9{cs:List Prc}{x:List UInt8}{l:List Tkn}(h:PrPs cs x l):∀{pr:List ByteArray} {s:PS},At T s.p l->s.o=0->(T (s.p+l.length)).k=0->(pr++cs.map Prc.x).Nodup->∃s',Ev (λf=>s5 T f pr s) (.ok cs s'):=by
 induction h with
 |nil=>
  intro pr s _ _ hk _;have hk:(T s.p).k=0:=hk;exact⟨s,Ev.step (h:=λf=>.ok [] s) (λf=>by rw[s5,if_pos hk]) Ev.const⟩
 |cons c cs x l xs ls hP _ ih=>
  intro pr s hA ho hk hn;obtain⟨hA1,hA2⟩:=hA.app
  have hcx:c.x∉pr:=by
   have:=List.nodup_append.1 hn;intro hm;exact this.2.2 c.x hm c.x (by simp) rfl
  obtain⟨v,hc⟩:=je9 hP hA1 ho hcx
  obtain⟨s',hs'⟩:=ih (pr:=pr++[c.x]) (s:={p:=s.p+l.length,o:=0,vs:=v}) hA2 rfl (by
   show(T (s.p+l.length+ls.length)).k=0;rw[List.length_append,<-Nat.add_assoc]at hk
   exact hk) (by rw[List.append_assoc];exact hn)
  refine⟨s',Ev.step (h:=λf=>(aj7 T f pr s).bind λx s1=>(s5 T f (pr++[x.x]) s1).bind λl s2=>.ok (x::l) s2) (λf=>?_) (Ev.bind hc (Ev.bind hs' Ev.const))⟩;obtain⟨r,rfl⟩:=jf3 hP;have hk1:(T s.p).k=1:=hA1.1.1;rw[s5,if_neg (by rw[hk1];decide)]
end
end Go.Proofs.Lx
/- The text of a whole tree. -/
namespace Go.Proofs.YtjfkkokeegpeiaaDoor
open Go Go.Am Go.Proofs Go.Proofs.Lx
set_option maxRecDepth 100000
abbrev cb5:Type:=Int×Int×ByteArray×Nat×FL
abbrev df9:Type:=ByteArray
def cc1:AR cb5:=λx=>([.agg [i64 x.1,i64 x.2.1,st x.2.2.1,.ro 4 x.2.2.2.1 x.2.2.2.2]],[])
def gx0(t:TT):cb5:=(vI (ca t 0 0),vI (ca t 0 1),vS (ca t 0 2),u7 (ca t 0 3),iU (ca t 0 3))
theorem hg5:VI cc1:=vd gx0 λ_=>rfl
def fk4:df9->CRes:=λz=>.ret (st z) []
noncomputable def by1(q:Nat)(x:cb5):Option df9:=@dite _ (∃p:Tr×ByteArray,Txt p.1 p.2/\RepN p.1 x/\szT p.1<=1000000) (Classical.propDecidable _) (λh=>some (Classical.choose h).2) (λ_=>none)
theorem gq2(q:Nat):Lw E5 56 cc1 fk4 (by1 q):=by
 intro x z h;unfold by1 at h;split at h
 ·rename_i hc;cases h;obtain⟨h1,h2,h3⟩:=Classical.choose_spec hc;obtain⟨z,h4,h5⟩:=hn4 h1 h3 (2*szT (Classical.choose hc).1+20) (Nat.le_refl _);rw[<-h5];have h6:=gz5 _ _ z h4;have h7:=leT _ _ h2;rw[ac3]at h7;exact SC.arg h6 (LeL.cons (Le.agg h7) LeL.nil) rfl rfl
 ·cases h
theorem oM(a b:List UInt8):mkB (a++b)=mkB a++mkB b:=aB (by rw[m4,ByteArray.data_append,Array.toList_append,m4,m4])
theorem ep7(lv:Nat)(t:Tr)(x:List UInt8):mkB (dg4 lv t x)=par lv t (mkB x):=by
 unfold dg4 par;split
 ·rw[show(40::(x++[41]))=[40]++x++[41]by simp,oM,oM];rfl
 ·rfl
theorem bj0:∀s∈ad0,s≠⟨#[]⟩/\s.size<=12:=by decide
theorem ez5{t:Tr}{x:List UInt8}{l:List Tkn}{d:Nat}(h:Pr t x l d):Txt t (mkB x):=by
 induction h with
 |lit n h0 h1=>have:=Txt.int n ⟨#[]⟩ h0 h1 (by decide);rw[if_pos rfl]at this;rw[jU];exact this
 |qty n s h0 h1 hs=>
  have:=Txt.int n s h0 h1 (bj0 s hs).2;rw[if_neg (bj0 s hs).1]at this
  have e:mkB ((itS n).data.toList++32::s.data.toList)=itS n++⟨#[32]⟩++s:=by
   rw[show(itS n).data.toList++32::s.data.toList=(itS n).data.toList++[32]++s.data.toList by simp,oM,oM,jU,jU];rfl
  rw[e];exact this
 |yes=>have:=Txt.bool 1 ⟨#[]⟩;rw[if_pos rfl]at this;rw[jU];exact this
 |no=>have:=Txt.bool 0 ⟨#[]⟩;rw[if_neg (by decide)]at this;rw[jU];exact this
 |var s _ hw=>rw[jU];exact Txt.var 0 s hw.1
 |tlm s _ hw=>
  have:=Txt.tlm 0 s hw.1
  have e:mkB (116::108::109::46::s.data.toList)=⟨#[116,108,109,46]⟩++s:=by
   rw[show(116::108::109::46::s.data.toList)=[116,108,109,46]++s.data.toList by rfl,oM,jU];rfl
  rw[e];exact this
 |un s a x l d hs _ ih=>
  rw[oM,jU,ep7];exact Txt.un 0 s a (mkB x) hs ih
 |bin s a b x y l m d e hs _ _ ih1 ih2=>
  have:=Txt.bin 0 s a b (mkB x) (mkB y) hs ih1 ih2;rw[<-ep7,<-ep7]at this
  have e:∀u v:List UInt8,mkB (u++32::(s.data.toList++32::v))=mkB u++⟨#[32]⟩++s++⟨#[32]⟩++mkB v:=by
   intro u v;rw[show u++32::(s.data.toList++32::v)=u++[32]++s.data.toList++[32]++v by simp,oM,oM,oM,oM,jU];rfl
  rw[e];exact this
theorem hc9{t:Tr}{x y:ByteArray}(h:Txt t x):Txt t y->x=y:=by
 induction h generalizing y with
 |int n s h0 h1 h2=>intro g;cases g;rfl
 |bool n s=>intro g;cases g;rfl
 |var n s h=>intro g;cases g;rfl
 |tlm n s h=>intro g;cases g;rfl
 |un n s a x hs _ ih=>
  intro g;cases g with
  |un _ _ _ x' _ g=>rw[ih g]
 |bin n s a b x1 x2 hs _ _ ih1 ih2=>
  intro g;cases g with
  |bin _ _ _ _ y1 y2 _ g1 g2=>rw[ih1 g1,ih2 g2]
mutual
theorem fj6:∀(t u:Tr) (x:n4),RepN t x->RepN u x->t=u
 | .node k n s l,.node k' n' s' l',x,h,g=>by
  simp only[RepN]at h g;obtain⟨h1,h2,h3,h4,h5⟩:=h;obtain⟨g1,g2,g3,g4,g5⟩:=g;rw[eg9 l l' _ 0 (by omega) h5 g5];congr 1
  ·exact h1.symm.trans g1
  ·exact h2.symm.trans g2
  ·exact h3.symm.trans g3
theorem eg9:∀(l m:List Tr) (f:FL) (i:Nat),l.length=m.length->rW l f i->rW m f i->l=m
 | [],[],f,i,_,_,_=>rfl
 | [],_::_,f,i,e,_,_=>by simp at e
 |_::_,[],f,i,e,_,_=>by simp at e
 |t::l,u::m,f,i,e,h,g=>by
  simp only[rW]at h g;obtain⟨⟨y,h1,h2⟩,h3⟩:=h;obtain⟨⟨z,g1,g2⟩,g3⟩:=g
  have hyz:y=z:=by
   rw[h1]at g1;simp only[List.cons.injEq,i64,st,V.sc.injEq,Value.int.injEq,Value.string.injEq,V.ro.injEq,and_true,true_and]at g1;obtain⟨e1,e2,e3,e4,e5⟩:=g1;exact Prod.ext e1 (Prod.ext e2 (Prod.ext e3 (Prod.ext e4 e5)))
  subst hyz;rw[fj6 t u y h2 g2,eg9 l m f (i+1) (by simpa using e) h3 g3]
end
theorem ds5(q:Nat){t:Tr}{b:ByteArray}{z:n4}(h:Txt t b)(hr:RepN t z)(hs:szT t<=1000000):by1 q z=some b:=by
 have hE:∃p:Tr×ByteArray,Txt p.1 p.2/\RepN p.1 z/\szT p.1<=1000000:=⟨(t,b),h,hr,hs⟩
 have e:(Classical.choose hE).2=b:=by
  obtain⟨h1,h2,_⟩:=Classical.choose_spec hE;have:=fj6 _ _ _ h2 hr;rw[this]at h1;exact hc9 h1 h
 unfold by1;rw[<-e];exact dif_pos hE
mutual
theorem ex4:∀t:Tr,RepN t (eT t)
 | .node k n s l=>by
  simp only[eT,RepN];exact⟨trivial,trivial,trivial,trivial,cn5 l _ 0 λj t h=>by rw[Nat.zero_add];exact ai0 l j t h⟩
theorem cn5:∀(l:List Tr) (f:FL) (i:Nat),(∀j t,l[j]? =some t->f (i+j)=wR t)->rW l f i
 | [],f,i,_=>by simp[rW]
 |t::l,f,i,h=>by
  simp only[rW];refine⟨⟨eT t,?_,ex4 t⟩,cn5 l f (i+1) λj u hj=>?_⟩
  ·have:=h 0 t rfl;rw[Nat.add_zero]at this;rw[this,ac3]
  ·have:=h (j+1) u (by simpa using hj);rw[show i+1+j=i+(j+1)by omega];exact this
end
end Go.Proofs.YtjfkkokeegpeiaaDoor
/- The printer of the program, lifted: statements. -/
namespace Go.Proofs.YtjfkkokeegpeiaaDoor
open Go Go.Am Go.Proofs Go.Proofs.Lx
set_option maxRecDepth 100000
abbrev ef4:Type:=Int×Int×Int×ByteArray×Nat×FI×FI×FS×FN×FM
abbrev ep0:Type:=ByteArray×Int×Int×ByteArray×Nat×FI×FI×FS×FN×FM
def cn9:AR ef4:=λx=>([i64 x.1,.ptr 0 0],[some (.blk [i64 x.2.1,i64 x.2.2.1,st x.2.2.2.1,.ro 4 x.2.2.2.2.1 (λj=>[i64 (x.2.2.2.2.2.1 j),i64 (x.2.2.2.2.2.2.1 j),st (x.2.2.2.2.2.2.2.1 j),.ro 4 (x.2.2.2.2.2.2.2.2.1 j) (x.2.2.2.2.2.2.2.2.2 j)])])])
def ik7(t:TT):ef4:=((vI (ag t 0)),vI (cc t 0 0),vI (cc t 0 1),vS (cc t 0 2),u7 (cc t 0 3),dTI (cc t 0 3) 0,dTI (cc t 0 3) 1,dTS (cc t 0 3) 2,dTN (cc t 0 3) 3,dTF (cc t 0 3) 3)
theorem ig7:VI cn9:=vd ik7 λ_=>rfl
def fk5:ep0->CRes:=λz=>.ret (st z.1) [some (.blk [i64 z.2.1,i64 z.2.2.1,st z.2.2.2.1,.ro 4 z.2.2.2.2.1 (λj=>[i64 (z.2.2.2.2.2.1 j),i64 (z.2.2.2.2.2.2.1 j),st (z.2.2.2.2.2.2.2.1 j),.ro 4 (z.2.2.2.2.2.2.2.2.1 j) (z.2.2.2.2.2.2.2.2.2 j)])])]
def da0{β:Type}(c_ExprV:cb5->Option df9)(x:ef4)(dn:ep0->Option β):Option β:=
 if 0<=x.1/\x.1< ((x.2.2.2.2.1:Nat):Int)then(c_ExprV (x.2.2.2.2.2.1 (Int.toNat x.1),x.2.2.2.2.2.2.1 (Int.toNat x.1),x.2.2.2.2.2.2.2.1 (Int.toNat x.1),x.2.2.2.2.2.2.2.2.1 (Int.toNat x.1),x.2.2.2.2.2.2.2.2.2 (Int.toNat x.1))).bind λz5=>dn (z5,x.2)else none
theorem if6{β:Type}(c_ExprV)(x)(dn:ep0->Option β):da0 c_ExprV x dn=(da0 c_ExprV x some).bind dn:=by
 unfold da0
 repeat' first|exact n0|refine n1 λ_=>?_|refine n2 ?_ ?_|refine n3 (λ_=>?_) λ_=>?_|rfl
theorem ii7(c_ExprV)(x):f7 E8 (ftb 56 cc1 fk4 c_ExprV ca0) lo0 55 (cn9 x).1 (cn9 x).2 K=da0 (vf cc1 c_ExprV) x (λz=>some (.c (fk5 z))):=by kernel_rfl
noncomputable def kid(q:Nat)(x:ef4):Option ep0:=da0 (by1 q) x some
theorem ia5(q:Nat):Lw E8 55 cn9 fk5 (kid q):=sof hW8 hX8 (fk (λx z h=>sc8.2 (gq2 q x z h)) a8) (λ_=>cB) λx=>(ii7 (by1 q) x).trans (by rw[hg5,if6]<;>rfl)
abbrev by7:Type:=Int×Int×ByteArray×Nat×FL×Int×Nat×FI
abbrev ch6:Type:=Nat×FI
def az4:AR by7:=λx=>([.ptr 0 0,.agg [i64 x.1,i64 x.2.1,st x.2.2.1,.ro 4 x.2.2.2.1 x.2.2.2.2.1],i64 x.2.2.2.2.2.1],[some (.tbk 64 [.ptr 0 0,.sl 1 1 0 x.2.2.2.2.2.2.1]),some (.row 5 1 x.2.2.2.2.2.2.1 (λj=>[u8 (x.2.2.2.2.2.2.2 j)]))])
def ih3(t:TT):by7:=((vI (ca t 1 0)),vI (ca t 1 1),vS (ca t 1 2),u7 (ca t 1 3),iU (ca t 1 3),vI (ag t 2),(chN (co t 1)),dRI (co t 1) 0)
theorem hq6:VI az4:=vd ih3 λ_=>rfl
def en5:ch6->CRes:=λz=>.ret (.tup []) [some (.tbk 64 [.ptr 0 0,.sl 1 1 0 z.1]),some (.row 5 1 z.1 (λj=>[u8 (z.2 j)]))]
abbrev tI:Type:=Int×Int×ByteArray×Nat×FL×Int×Nat×FI
abbrev tK:Type:=Nat×FI
def gL:AR tI:=λx=>([.ptr 0 0,.agg [i64 x.1,i64 x.2.1,st x.2.2.1,.ro 4 x.2.2.2.1 x.2.2.2.2.1],i64 x.2.2.2.2.2.1],[some (.tbk 64 [.ptr 0 0,.sl 1 1 0 x.2.2.2.2.2.2.1]),some (.row 5 1 x.2.2.2.2.2.2.1 (λj=>[u8 (x.2.2.2.2.2.2.2 j)]))])
def ii5(t:TT):tI:=((vI (ca t 1 0)),vI (ca t 1 1),vS (ca t 1 2),u7 (ca t 1 3),iU (ca t 1 3),vI (ag t 2),(chN (co t 1)),dRI (co t 1) 0)
theorem bx7:VI gL:=vd ii5 λ_=>rfl
def yO:tK->CRes:=λz=>.ret (.tup []) [some (.tbk 64 [.ptr 0 0,.sl 1 1 0 z.1]),some (.row 5 1 z.1 (λj=>[u8 (z.2 j)]))]
abbrev gl7:Type:=Int×Int×ByteArray×Nat×FI×FI×FS×FN×FM×Int×Nat×FI
abbrev er4:Type:=Nat×FI
def dp4:AR gl7:=λx=>([.ptr 0 0,.agg [i64 x.1,i64 x.2.1,st x.2.2.1,.ro 4 x.2.2.2.1 (λj=>[i64 (x.2.2.2.2.1 j),i64 (x.2.2.2.2.2.1 j),st (x.2.2.2.2.2.2.1 j),.ro 4 (x.2.2.2.2.2.2.2.1 j) (x.2.2.2.2.2.2.2.2.1 j)])],i64 x.2.2.2.2.2.2.2.2.2.1],[some (.tbk 64 [.ptr 0 0,.sl 1 1 0 x.2.2.2.2.2.2.2.2.2.2.1]),some (.row 5 1 x.2.2.2.2.2.2.2.2.2.2.1 (λj=>[u8 (x.2.2.2.2.2.2.2.2.2.2.2 j)]))])
def gh0:er4->CRes:=λz=>.ret (.tup []) [some (.tbk 64 [.ptr 0 0,.sl 1 1 0 z.1]),some (.row 5 1 z.1 (λj=>[u8 (z.2 j)]))]
abbrev ap3:Type:=Int×Int×ByteArray×Nat×FI×FI×FS×FN×FM×Int×Nat×FI
abbrev eq6:Type:=Nat×FI
def do4:AR ap3:=λx=>([.ptr 0 0,.agg [i64 x.1,i64 x.2.1,st x.2.2.1,.ro 4 x.2.2.2.1 (λj=>[i64 (x.2.2.2.2.1 j),i64 (x.2.2.2.2.2.1 j),st (x.2.2.2.2.2.2.1 j),.ro 4 (x.2.2.2.2.2.2.2.1 j) (x.2.2.2.2.2.2.2.2.1 j)])],i64 x.2.2.2.2.2.2.2.2.2.1],[some (.tbk 64 [.ptr 0 0,.sl 1 1 0 x.2.2.2.2.2.2.2.2.2.2.1]),some (.row 5 1 x.2.2.2.2.2.2.2.2.2.2.1 (λj=>[u8 (x.2.2.2.2.2.2.2.2.2.2.2 j)]))])
def gf9:eq6->CRes:=λz=>.ret (.tup []) [some (.tbk 64 [.ptr 0 0,.sl 1 1 0 z.1]),some (.row 5 1 z.1 (λj=>[u8 (z.2 j)]))]
def fP{β:Type}(c_Itoa:cj0->Option dn8)(c_kid:ef4->Option ep0)(c_lineS:y4->Option eC)(c_pbk:tI->Option tK)(x:gl7)(dn:er4->Option β):Option β:=
 (c_Itoa x.2.1).bind λz1=>if(x.1==1)=true then(c_kid (0,x.1,x.2.1,x.2.2.1,x.2.2.2.1,x.2.2.2.2.1,x.2.2.2.2.2.1,x.2.2.2.2.2.2.1,x.2.2.2.2.2.2.2.1,x.2.2.2.2.2.2.2.2.1)).bind λz12=>if x.2.2.1=z12.2.2.2.1 then(c_lineS (x.2.2.2.2.2.2.2.2.2.1,5,λj=>if j=0 then⟨#[108,101,116,32]⟩else if j-1=0 then x.2.2.1 else if j-1-1=0 then⟨#[32,61,32]⟩else if j-1-1-1=0 then z12.1 else⟨#[59]⟩,x.2.2.2.2.2.2.2.2.2.2)).bind λz18=>dn z18.2.2 else none else if(x.1==2)=true then(c_kid (0,x.1,x.2.1,x.2.2.1,x.2.2.2.1,x.2.2.2.2.1,x.2.2.2.2.2.1,x.2.2.2.2.2.2.1,x.2.2.2.2.2.2.2.1,x.2.2.2.2.2.2.2.2.1)).bind λz29=>if x.2.2.1=z29.2.2.2.1 then(c_lineS (x.2.2.2.2.2.2.2.2.2.1,4,λj=>if j=0 then x.2.2.1 else if j-1=0 then⟨#[32,61,32]⟩else if j-1-1=0 then z29.1 else⟨#[59]⟩,x.2.2.2.2.2.2.2.2.2.2)).bind λz35=>dn z35.2.2 else none else if(x.1==3)=true then(c_kid (0,x.1,x.2.1,x.2.2.1,x.2.2.2.1,x.2.2.2.2.1,x.2.2.2.2.2.1,x.2.2.2.2.2.2.1,x.2.2.2.2.2.2.2.1,x.2.2.2.2.2.2.2.2.1)).bind λz46=>(c_lineS (x.2.2.2.2.2.2.2.2.2.1,3,λj=>if j=0 then⟨#[105,102,32]⟩else if j-1=0 then z46.1 else⟨#[32,123]⟩,x.2.2.2.2.2.2.2.2.2.2)).bind λz52=>if(0:Int)<=1/\1< ((z46.2.2.2.2.1:Nat):Int)then(c_pbk (z46.2.2.2.2.2.1 1,z46.2.2.2.2.2.2.1 1,z46.2.2.2.2.2.2.2.1 1,z46.2.2.2.2.2.2.2.2.1 1,z46.2.2.2.2.2.2.2.2.2 1,x.2.2.2.2.2.2.2.2.2.1,z52.2.2)).bind λz61=>if(0:Int)<=2/\2< ((z46.2.2.2.2.1:Nat):Int)then if decide (((z46.2.2.2.2.2.2.2.2.1 2:Nat):Int)>0)=true then(c_lineS (x.2.2.2.2.2.2.2.2.2.1,1,λj=>⟨#[125,32,101,108,115,101,32,123]⟩,z61)).bind λz67=>if(0:Int)<=2/\2< ((z46.2.2.2.2.1:Nat):Int)then(c_pbk (z46.2.2.2.2.2.1 2,z46.2.2.2.2.2.2.1 2,z46.2.2.2.2.2.2.2.1 2,z46.2.2.2.2.2.2.2.2.1 2,z46.2.2.2.2.2.2.2.2.2 2,x.2.2.2.2.2.2.2.2.2.1,z67.2.2)).bind λz76=>(c_lineS (x.2.2.2.2.2.2.2.2.2.1,1,λj=>⟨#[125]⟩,z76)).bind λz82=>dn z82.2.2 else none else(c_lineS (x.2.2.2.2.2.2.2.2.2.1,1,λj=>⟨#[125]⟩,z61)).bind λz88=>dn z88.2.2 else none else none else if(x.1==4)=true then(c_lineS (x.2.2.2.2.2.2.2.2.2.1,3,λj=>if j=0 then⟨#[114,101,112,101,97,116,32]⟩else if j-1=0 then z1 else⟨#[32,123]⟩,x.2.2.2.2.2.2.2.2.2.2)).bind λz94=>if(0:Int)<=0/\0< ((x.2.2.2.1:Nat):Int)then(c_pbk (x.2.2.2.2.1 0,x.2.2.2.2.2.1 0,x.2.2.2.2.2.2.1 0,x.2.2.2.2.2.2.2.1 0,x.2.2.2.2.2.2.2.2.1 0,x.2.2.2.2.2.2.2.2.2.1,z94.2.2)).bind λz103=>(c_lineS (x.2.2.2.2.2.2.2.2.2.1,1,λj=>⟨#[125]⟩,z103)).bind λz109=>dn z109.2.2 else none else if(x.1==5)=true then(c_kid (0,x.1,x.2.1,x.2.2.1,x.2.2.2.1,x.2.2.2.2.1,x.2.2.2.2.2.1,x.2.2.2.2.2.2.1,x.2.2.2.2.2.2.2.1,x.2.2.2.2.2.2.2.2.1)).bind λz120=>(c_lineS (x.2.2.2.2.2.2.2.2.2.1,3,λj=>if j=0 then⟨#[119,97,105,116,32]⟩else if j-1=0 then z120.1 else⟨#[59]⟩,x.2.2.2.2.2.2.2.2.2.2)).bind λz126=>dn z126.2.2 else if(x.1==6)=true then(c_kid (0,x.1,x.2.1,x.2.2.1,x.2.2.2.1,x.2.2.2.2.1,x.2.2.2.2.2.1,x.2.2.2.2.2.2.1,x.2.2.2.2.2.2.2.1,x.2.2.2.2.2.2.2.2.1)).bind λz137=>(c_kid (1,z137.2)).bind λz148=>(c_lineS (x.2.2.2.2.2.2.2.2.2.1,5,λj=>if j=0 then⟨#[97,119,97,105,116,32]⟩else if j-1=0 then z137.1 else if j-1-1=0 then⟨#[32,119,105,116,104,105,110,32]⟩else if j-1-1-1=0 then z148.1 else⟨#[59]⟩,x.2.2.2.2.2.2.2.2.2.2)).bind λz154=>dn z154.2.2 else if(x.1==7)=true then(c_kid (0,x.1,x.2.1,x.2.2.1,x.2.2.2.1,x.2.2.2.2.1,x.2.2.2.2.2.1,x.2.2.2.2.2.2.1,x.2.2.2.2.2.2.2.1,x.2.2.2.2.2.2.2.2.1)).bind λz165=>(c_lineS (x.2.2.2.2.2.2.2.2.2.1,3,λj=>if j=0 then⟨#[114,101,113,117,105,114,101,32]⟩else if j-1=0 then z165.1 else⟨#[59]⟩,x.2.2.2.2.2.2.2.2.2.2)).bind λz171=>dn z171.2.2 else if(x.1==8)=true then(c_kid (0,x.1,x.2.1,x.2.2.1,x.2.2.2.1,x.2.2.2.2.1,x.2.2.2.2.2.1,x.2.2.2.2.2.2.1,x.2.2.2.2.2.2.2.1,x.2.2.2.2.2.2.2.2.1)).bind λz182=>(c_lineS (x.2.2.2.2.2.2.2.2.2.1,3,λj=>if j=0 then⟨#[112,111,105,110,116,32]⟩else if j-1=0 then z182.1 else⟨#[59]⟩,x.2.2.2.2.2.2.2.2.2.2)).bind λz188=>dn z188.2.2 else if(x.1==9)=true then(c_kid (0,x.1,x.2.1,x.2.2.1,x.2.2.2.1,x.2.2.2.2.1,x.2.2.2.2.2.1,x.2.2.2.2.2.2.1,x.2.2.2.2.2.2.2.1,x.2.2.2.2.2.2.2.2.1)).bind λz199=>(c_lineS (x.2.2.2.2.2.2.2.2.2.1,5,λj=>if j=0 then⟨#[117,115,101,32]⟩else if j-1=0 then z1 else if j-1-1=0 then⟨#[32,102,111,114,32]⟩else if j-1-1-1=0 then z199.1 else⟨#[59]⟩,x.2.2.2.2.2.2.2.2.2.2)).bind λz205=>dn z205.2.2 else if(x.1==10)=true then(c_kid (0,x.1,x.2.1,x.2.2.1,x.2.2.2.1,x.2.2.2.2.1,x.2.2.2.2.2.1,x.2.2.2.2.2.2.1,x.2.2.2.2.2.2.2.1,x.2.2.2.2.2.2.2.2.1)).bind λz216=>(c_lineS (x.2.2.2.2.2.2.2.2.2.1,5,λj=>if j=0 then⟨#[115,101,110,100,32]⟩else if j-1=0 then z1 else if j-1-1=0 then⟨#[44,32]⟩else if j-1-1-1=0 then z216.1 else⟨#[59]⟩,x.2.2.2.2.2.2.2.2.2.2)).bind λz222=>dn z222.2.2 else if(x.1==11)=true then(c_kid (0,x.1,x.2.1,x.2.2.1,x.2.2.2.1,x.2.2.2.2.1,x.2.2.2.2.2.1,x.2.2.2.2.2.2.1,x.2.2.2.2.2.2.2.1,x.2.2.2.2.2.2.2.2.1)).bind λz233=>(c_lineS (x.2.2.2.2.2.2.2.2.2.1,3,λj=>if j=0 then⟨#[107,101,101,112,32]⟩else if j-1=0 then z233.1 else⟨#[59]⟩,x.2.2.2.2.2.2.2.2.2.2)).bind λz239=>dn z239.2.2 else if(x.1==12)=true then(c_lineS (x.2.2.2.2.2.2.2.2.2.1,3,λj=>if j=0 then⟨#[101,109,105,116,32]⟩else if j-1=0 then z1 else⟨#[59]⟩,x.2.2.2.2.2.2.2.2.2.2)).bind λz245=>dn z245.2.2 else if(x.1==13)=true then(c_lineS (x.2.2.2.2.2.2.2.2.2.1,3,λj=>if j=0 then⟨#[97,98,111,114,116,32]⟩else if j-1=0 then z1 else⟨#[59]⟩,x.2.2.2.2.2.2.2.2.2.2)).bind λz251=>dn z251.2.2 else dn x.2.2.2.2.2.2.2.2.2.2
theorem id5{β:Type}(c_Itoa c_kid)(c_lineS c_pbk)(x)(dn:er4->Option β):fP c_Itoa c_kid c_lineS c_pbk x dn=(fP c_Itoa c_kid c_lineS c_pbk x some).bind dn:=by
 unfold fP
 repeat' first|exact n0|refine n1 λ_=>?_|refine n2 ?_ ?_|refine n3 (λ_=>?_) λ_=>?_|rfl
theorem ic9(c_Itoa c_kid)(c_lineS c_pbk)(x):f7 E8 (ftb 54 al2 cp9 c_Itoa (ftb 55 cn9 fk5 c_kid (ftg 20 (λ_ L=>L.length==3) t7 iL c_lineS (ftb 22 gL yO c_pbk ca0)))) lo0 41 (dp4 x).1 (dp4 x).2 K=fP (vf al2 c_Itoa) (vf cn9 c_kid) (vf t7 c_lineS) (vf gL c_pbk) x (λz=>some (.c (gh0 z))):=by kernel_rfl
theorem ic6(c_Itoa)(h_Itoa:Lw E8 54 al2 cp9 c_Itoa)(c_kid)(h_kid:Lw E8 55 cn9 fk5 c_kid)(c_lineS)(h_lineS:Lw E8 20 t7 iL c_lineS)(c_pbk)(h_pbk:Lw E8 22 gL yO c_pbk)(q:Nat):Lw E8 41 dp4 gh0 λx=>fP c_Itoa c_kid c_lineS c_pbk x some:=sof hW8 hX8 (fk h_Itoa (fk h_kid (fk h_lineS (fk h_pbk a8)))) (λ_=>cB) λx=>(ic9 c_Itoa c_kid c_lineS c_pbk x).trans (by rw[gi5,ig7,yI,bx7,id5]<;>rfl)
abbrev qI:Type:=Int×Nat×FI
abbrev as6:Type:=Nat×FI
def vA(x:ap3)(y:qI):St:={fr:=[V.ptr 0 0,V.junk,i64 x.2.2.2.2.2.2.2.2.2.1]++jk 6++[V.ro 4 x.2.2.2.1 λj=>[i64 (x.2.2.2.2.1 j),i64 (x.2.2.2.2.2.1 j),st (x.2.2.2.2.2.2.1 j),V.ro 4 (x.2.2.2.2.2.2.2.1 j) (x.2.2.2.2.2.2.2.2.1 j)],i64 ((x.2.2.2.1:Nat):Int),i64 y.1]++jk 9,H:=hp [some (Chunk.tbk 64 [V.ptr 0 0,V.sl 1 1 0 y.2.1]),some (Chunk.row 5 1 y.2.1 λj=>[V.sc (Value.int IntKind.u8 (y.2.2 j))])],nx:=2,rt:=1,me:=22}
def ga9(s:St):qI:=((vI (s.fr.getD 11 .junk)),dB ((chT (s.H 0)).getD 1 .junk),dRI (s.H 1) 0)
theorem fx6(x:ap3):VL (vA x):=vl ga9 λ_=>rfl
def aw8(x:ap3):as6->Ex×St:=(λz=>(Ex.exit 0,{fr:=[V.junk]++jk 20,H:=hp [some (Chunk.tbk 64 [V.ptr 0 0,V.sl 1 1 0 z.1]),some (Chunk.row 5 1 z.1 λj=>[V.sc (Value.int IntKind.u8 (z.2 j))])],nx:=2,rt:=1,me:=22}))
def rC{β:Type}(c_pst:by7->Option ch6)(x:ap3)(y:qI)(nx:qI->Option β)(dn:as6->Option β):Option β:=
 if decide (y.1< ((x.2.2.2.1:Nat):Int))=true then if 0<=y.1/\y.1< ((x.2.2.2.1:Nat):Int)then(c_pst (x.2.2.2.2.1 (Int.toNat y.1),x.2.2.2.2.2.1 (Int.toNat y.1),x.2.2.2.2.2.2.1 (Int.toNat y.1),x.2.2.2.2.2.2.2.1 (Int.toNat y.1),x.2.2.2.2.2.2.2.2.1 (Int.toNat y.1),w (x.2.2.2.2.2.2.2.2.2.1+1),y.2)).bind λz55=>nx (w (y.1+1),z55)else none else dn y.2
theorem fy0{β:Type}(c_pst)(x)(y)(nx:qI->Option β)(dn):rC c_pst x y nx dn=(rC c_pst x y (λy=>some (.inl y)) (λz=>some (.inr z))).bind λr=>Sum.elim nx dn r:=by
 unfold rC
 repeat' first|exact n0|refine n1 λ_=>?_|refine n2 ?_ ?_|refine n3 (λ_=>?_) λ_=>?_|rfl
theorem ft9(c_pst)(x)(y)(lo:f5):n8 E8 (ftb 41 az4 en5 c_pst ca0) lo 0 3589 (h9 E8 22 0) (vA x y) (KCM [(0,0)] 0)=rC (vf az4 c_pst) x y (λy=>lo 0 3589 (h9 E8 22 0) (vA x y) (KCM [(0,0)] 0)) (λz=>some (.l (aw8 x z).1 (aw8 x z).2)):=by kernel_rfl
noncomputable def uA(c_pst:by7->Option ch6)(q:Nat)(x:ap3):qI->Option as6:=lpG (λy=>rC c_pst x y (λy=>some (.inl y)) (λz=>some (.inr z))) q
theorem fo6(c_pst)(h_pst:Lw E8 41 az4 en5 c_pst)(q:Nat)(x:ap3):Ll E8 (h9 E8 22 0) (vA x) (aw8 x) (uA c_pst q x):=
 slp (fk h_pst a8) hX8 (λlo y=>(ft9 c_pst x y lo).trans (by rw[hq6];exact fy0 _ _ _ _ _)) (λ_=>by kernel_rfl) q
def ak7{β:Type}(c_pst:by7->Option ch6)(l_pbkN_l0:qI->Option as6)(x:ap3)(dn:eq6->Option β):Option β:=
 (l_pbkN_l0 (0,x.2.2.2.2.2.2.2.2.2.2)).bind λz31=>dn z31
theorem ie6{β:Type}(c_pst)(l_pbkN_l0)(x)(dn:eq6->Option β):ak7 c_pst l_pbkN_l0 x dn=(ak7 c_pst l_pbkN_l0 x some).bind dn:=by
 unfold ak7
 repeat' first|exact n0|refine n1 λ_=>?_|refine n2 ?_ ?_|refine n3 (λ_=>?_) λ_=>?_|rfl
theorem hy5(c_pst)(l_pbkN_l0)(x):f7 E8 (ftb 41 az4 en5 c_pst ca0) (lt1 0 (λ_=>true) (h9 E8 22 0) (vA x) (aw8 x) l_pbkN_l0 lo0) 22 (do4 x).1 (do4 x).2 K=ak7 (vf az4 c_pst) (lf (h9 E8 22 0) (vA x) l_pbkN_l0) x (λz=>some (.c (gf9 z))):=by kernel_rfl
theorem hx8(c_pst)(h_pst:Lw E8 41 az4 en5 c_pst)(q:Nat):Lw E8 22 do4 gf9 λx=>ak7 c_pst (uA c_pst q x) x some:=sof hW8 hX8 (fk h_pst a8) (λx=>(lk1 (fo6 c_pst h_pst q x) cB)) λx=>(hy5 c_pst (uA c_pst q x) x).trans (by rw[hq6,fx6,ie6]<;>rfl)
open Classical in
noncomputable def cu3:Nat->(by7->Option ch6)×(tI->Option tK)
 |0=>(λ_=>none,λ_=>none)
 |q+1=>(λx=>if xW x.2.2.2.2.1 then fP (bz2 q) (kid q) (gM q) (cu3 q).2 (x.1,x.2.1,x.2.2.1,x.2.2.2.1,opK x.2.2.2.2.1,opN x.2.2.2.2.1,opS x.2.2.2.2.1,opM x.2.2.2.2.1,opF x.2.2.2.2.1,x.2.2.2.2.2) some else none,
  λx=>if xW x.2.2.2.2.1 then ak7 (cu3 q).1 (uA (cu3 q).1 q (x.1,x.2.1,x.2.2.1,x.2.2.2.1,opK x.2.2.2.2.1,opN x.2.2.2.2.1,opS x.2.2.2.2.1,opM x.2.2.2.2.1,opF x.2.2.2.2.1,x.2.2.2.2.2)) (x.1,x.2.1,x.2.2.1,x.2.2.2.1,opK x.2.2.2.2.1,opN x.2.2.2.2.1,opS x.2.2.2.2.1,opM x.2.2.2.2.1,opF x.2.2.2.2.1,x.2.2.2.2.2) some else none)
noncomputable def pst(q:Nat):by7->Option ch6:=(cu3 q).1
noncomputable def pbk(q:Nat):tI->Option tK:=(cu3 q).2
theorem hi8:∀q,(∀x z,pst q x=some z->SC E8 41 (az4 x).1 (az4 x).2 (en5 z))/\(∀x z,pbk q x=some z->SC E8 22 (gL x).1 (gL x).2 (yO z)):=by
 intro q
 induction q with
 |zero=>exact⟨(λx z h=>by cases h),(λx z h=>by cases h)⟩
 |succ q ih=>
  obtain⟨h1,h2⟩:=ih;refine⟨λx z h=>?_,λx z h=>?_⟩
  ·unfold pst cu3 at h;dsimp only at h;split at h
   ·rename_i hO;have this:=ic6 (bz2 q) (λx z h=>sc8.2 (fm3 q x z h)) (kid q) (ia5 q) (gM q) (cm6 q) (pbk q) h2 q (x.1,x.2.1,x.2.2.1,x.2.2.2.1,opK x.2.2.2.2.1,opN x.2.2.2.2.1,opS x.2.2.2.2.1,opM x.2.2.2.2.1,opF x.2.2.2.2.1,x.2.2.2.2.2) z h;unfold dp4 at this;unfold az4;simp only at this⊢;rw[cV hO]at this;exact this
   ·cases h
  ·unfold pbk cu3 at h;dsimp only at h;split at h
   ·rename_i hO;have this:=hx8 (pst q) h1 q (x.1,x.2.1,x.2.2.1,x.2.2.2.1,opK x.2.2.2.2.1,opN x.2.2.2.2.1,opS x.2.2.2.2.1,opM x.2.2.2.2.1,opF x.2.2.2.2.1,x.2.2.2.2.2) z h;unfold do4 at this;unfold gL;simp only at this⊢;rw[cV hO]at this;exact this
   ·cases h
theorem gt5(q:Nat):Lw E8 22 gL yO (pbk q):=(hi8 q).2
end Go.Proofs.YtjfkkokeegpeiaaDoor
/- The library's builder, in a block of the printer's type, empty: String. -/
namespace Go.Proofs.YtjfkkokeegpeiaaDoor
open Go Go.Am Go.RowKit Go.Shelf
set_option maxRecDepth 100000
section
variable {P:Program} {ρ:Ren}
set_option maxHeartbeats 2000000 in
theorem ck5(L:Lays.n169 P ρ)(X:Builder.Extra P ρ)(b:Nat)(w:World)(c1:w.drew.cell? ⟨b,1,none⟩=some (.slice none 0 0)):
 Calls P (ρ.f 169) #[.pointer (some ⟨b,0,none⟩)] w λe w'=>e= .returned (.string ⟨#[]⟩)/\w'=w.drew:=by
 have hUS:∀(W:World) (q:Option Addr),(Builtin.unsafeString_ #[(ρ.t 127),(ρ.t 3)] (ρ.t 9) #[.pointer q,.int .i64 0]).run P W= .ok (.string .empty) W:=λW q=>Lib.run_unsafeString_none W _ _ _ q;have hSD:(Builtin.unsafeSliceData_ #[(ρ.t 37)] (ρ.t 127) #[.slice none 0 0]).run P w.drew= .ok (.pointer none) w.drew:=rfl;have mixed:=L.mixed;have t72:=L.t72;have a72:=L.a72;have z72:=L.z72;have v72:=L.v72;have u72:=run_underlying L.t72;have t70:=L.t70;have a70:=L.a70;have z70:=L.z70;have v70:=L.v70;have u70:=run_underlying L.t70;have t37:=L.t37;have a37:=L.a37;have z37:=L.z37;have v37:=L.v37;have u37:=run_underlying L.t37;have t127:=L.t127;have a127:=L.a127;have z127:=L.z127;have v127:=L.v127;have u127:=run_underlying L.t127;have t3:=L.t3;have a3:=L.a3;have z3:=L.z3;have v3:=L.v3;have u3:=run_underlying L.t3;have t9:=L.t9;have a9:=L.a9;have z9:=L.z9;have v9:=L.v9;have u9:=run_underlying L.t9;have t5:=X.t5;have a5:=X.a5;have z5:=X.z5;have v5:=X.v5;have u5:=run_underlying X.t5
 go_enter L.f169,Body.n169_ntmps ρ
 go_wp2
 go_region_o
 all_goals (go_wp2;go_ret;exact⟨rfl,rfl⟩)
end
theorem hi5(b:Nat)(w:World)(c1:w.drew.cell? ⟨b,1,none⟩=some (.slice none 0 0)):
 Calls Tryd.prog 23 #[.pointer (some ⟨b,0,none⟩)] w λe w'=>e= .returned (.string ⟨#[]⟩)/\w'=w.drew:=
 ck5 lays169 Tryd.Builder_Extra_105 b w c1
theorem ew1{E:Env}(hP:E.P=Tryd.prog)(c0:V):SC E 23 [.ptr 0 0] [some (.tbk 64 [c0,.sc (.slice none 0 0)])] (.ret (.sc (.string ⟨#[]⟩)) [none]):=by
 refine⟨by rw[hP];exact⟨_,Tryd.func23,by kernel_rfl,by intro e;exact absurd e (by decide+kernel)⟩,λβ S w us hd hM hG=>?_⟩;rw[hP];obtain⟨b,m,hb,hc⟩:=hM.live 0 (.tbk 64 [c0,.sc (.slice none 0 0)]) rfl;obtain⟨h0,x,y,h1,hx,hy,_,_⟩:=cb0 hc;simp only[b8]at hd;obtain⟨u,_,rfl,hu,rfl⟩:=hd;simp only[den]at hu hy;have hu:=hu.2 b m hb;subst hu hy
 refine(hi5 b w (by
  show w.cell? ⟨b,1,none⟩=_
  simp[World.cell?,h1])).mono ?_
 rintro e w' ⟨rfl,rfl⟩;refine⟨_,λ_=>none,S,rfl,⟨λi c hc=>?_,λi _=>rfl,λi b m h=>(by cases h),λi b m h=>(by cases h),λi j b m m' h=>(by cases h),λz hz=>hM.st z hz⟩,by simp only[den],⟨rfl,rfl,rfl,Nat.le_refl _,λz hz hn=>rfl,λ_ h=>h,λ_ h=>.inl h,λi b m h=>(by cases h)⟩,λi bm hi h=>(by cases h)⟩
 match i with
 |0=>cases hc
 |i+1=>simp[hp]at hc
end Go.Proofs.YtjfkkokeegpeiaaDoor
/- The printer of the program, lifted: procedures. -/
namespace Go.Proofs.YtjfkkokeegpeiaaDoor
open Go Go.Am Go.Proofs Go.Proofs.Lx
set_option maxRecDepth 100000
theorem ek7(q:Nat->ByteArray):∀l:List Nat,ca2 (l.map λj=>[st (q j)])=some (l.map q)
 | []=>rfl
 |a::l=>by
  have:=ek7 q l;simp only[List.map_cons,ca2,st]at this⊢;rw[this]
abbrev pC:Type:=Nat×FS×ByteArray
abbrev qJ:Type:=ByteArray
def fX:AR pC:=λx=>([.ro 1 x.1 (λj=>[st (x.2.1 j)]),st x.2.2],[])
def id4(t:TT):pC:=(u7 (ag t 0),dTS (ag t 0) 0,vS (ag t 1))
theorem bc3:VI fX:=vd id4 λ_=>rfl
def wO:qJ->CRes:=λz=>.ret (st z) []
noncomputable def Join(q:Nat)(x:pC):Option qJ:=if(Lib.join (((List.range x.1).map x.2.1).map (·.data.toList)) x.2.2.data.toList).length<=140737488355328/\x.1<=140737488355328 then some ⟨(Lib.join (((List.range x.1).map x.2.1).map (·.data.toList)) x.2.2.data.toList).toArray⟩else none
theorem ff0(q:Nat):Lw E8 21 fX wO (Join q):=by
 rintro⟨n,f,s⟩ z h;unfold Join at h;split at h
 ·rename_i hn;cases h;refine sc8.2 (sc5.2 (SC.ext hX ?_));show bz9 21 [.ro 1 n (λj=>[st (f j)]),st s]=_
  have e:bz9 21 [.ro 1 n (λj=>[st (f j)]),st s]=(match ca2 ((List.range n).map λj=>[st (f j)])with
   |some xs=>if(Lib.join (xs.map (·.data.toList)) s.data.toList).length<=140737488355328/\n<=140737488355328 then some (st ⟨(Lib.join (xs.map (·.data.toList)) s.data.toList).toArray⟩)else none
   |none=>none):=rfl
  rw[e,ek7];exact if_pos hn
 ·cases h
abbrev iG:Type:=ByteArray
abbrev kR:Type:=Unit
def bI:AR iG:=λx=>([.sc (.slice none 0 0),st x],[])
def hm4(t:TT):iG:=(vS (ag t 1))
theorem ad7:VI bI:=vd hm4 λ_=>rfl
def oN:kR->CRes:=(λ_=>.ret (st ⟨#[]⟩) []:(Unit)->CRes)
noncomputable def zZ(q:Nat)(x:iG):Option kR:=some ()
theorem ee7(q:Nat):Lw E8 21 bI oN (zZ q):=by
 intro s z h;exact sc8.2 (sc5.2 (SC.ext hX (show bz9 21 [.sc (.slice none 0 0),st s]=some (st ⟨#[]⟩)from rfl)))
abbrev dQ:Type:=Nat×FI
abbrev eP:Type:=ByteArray
def w8:AR dQ:=λx=>([.ptr 0 0],[some (.tbk 64 [.ptr 0 0,.sl 1 1 0 x.1]),some (.row 5 1 x.1 (λj=>[u8 (x.2 j)]))])
def gd8(t:TT):dQ:=((chN (co t 1)),dRI (co t 1) 0)
theorem wI:VI w8:=vd gd8 λ_=>rfl
def jM:eP->CRes:=λz=>.ret (st z) [none,none]
noncomputable def am5(n:Nat)(f:Nat->Int):List UInt8:=(List.range n).map λj=>UInt8.ofNat (f j).toNat
noncomputable def String(q:Nat)(x:dQ):Option eP:=@ite _ (0<x.1/\∀j,j<x.1->0<=x.2 j/\x.2 j<256) (Classical.propDecidable _) (some ⟨(am5 x.1 x.2).toArray⟩) none
theorem db7(q:Nat):Lw E8 23 w8 jM (String q):=by
 rintro⟨n,f⟩ z h;unfold String at h;split at h
 ·rename_i hc;obtain⟨h0,h1⟩:=hc;cases h
  refine gp7 (E:=E8) rfl (.ptr 0 0) (n:=n) (f:=λj=>[u8 (f j)]) (l:=am5 n f) (by simp[am5]) (by
   intro e;have:(am5 n f).length=n:=by simp[am5]
   rw[e]at this;simp at this
   omega) λj x hx=>?_
  unfold am5 at hx;rw[List.getElem?_map,Option.map_eq_some_iff]at hx;obtain⟨i,hi,rfl⟩:=hx;obtain⟨g1,g2⟩:=List.getElem?_eq_some_iff.1 hi;simp at g1 g2;subst g2;have:0<=f j/\f j<256:=h1 j g1;have e:((UInt8.ofNat (f j).toNat).toNat:Int)=f j:=by rw[UInt8.toNat_ofNat'];omega
  rw[e]
 ·cases h
abbrev aT:Type:=Unit
abbrev bT:Type:=Unit
def q7:aT->List V×List (Option Chunk):=(λ_=>(([.ptr 0 0]:List V),([some (.tbk 64 [.sc (.pointer none),g8])]:List (Option Chunk))))
def fp4(t:TT):aT:=()
theorem pQ:VI q7:=vd fp4 λ_=>rfl
def eR:bT->CRes:=(λ_=>.ret (st ⟨#[]⟩) [none]:(Unit)->CRes)
noncomputable def kE(q:Nat)(x:aT):Option bT:=some ()
theorem cg1(q:Nat):Lw E8 23 q7 eR (kE q):=by
 intro x z h;exact ew1 rfl _
abbrev i6:Type:=Nat×FS×FN×(Nat->Nat->ByteArray)×(Nat->Nat->ByteArray)×FI×FI×FS×FN×FM
abbrev cd2:Type:=ByteArray
def dl2:AR i6:=λx=>([.ro 6 x.1 (λj=>[st (x.2.1 j),.ro 2 (x.2.2.1 j) (λi=>[st (x.2.2.2.1 j i),st (x.2.2.2.2.1 j i)]),i64 (x.2.2.2.2.2.1 j),i64 (x.2.2.2.2.2.2.1 j),st (x.2.2.2.2.2.2.2.1 j),.ro 4 (x.2.2.2.2.2.2.2.2.1 j) (x.2.2.2.2.2.2.2.2.2 j)])],[])
def fi0:cd2->CRes:=λz=>.ret (st z) []
abbrev cL:Type:=(Unit)⊕(FS×Nat×Int)
abbrev pX:Type:=(Unit)⊕(Nat×FS)
def dv2(x:i6)(y:Unit):St:={fr:=[V.junk,V.junk,V.junk,V.ptr 0 0,V.junk,V.ptr 1 0,g8,V.junk,V.junk,V.junk,V.ro 6 x.1 λj=>[st (x.2.1 j),V.ro 2 (x.2.2.1 j) λj_1=>[st (x.2.2.2.1 j j_1),st (x.2.2.2.2.1 j j_1)],i64 (x.2.2.2.2.2.1 j),i64 (x.2.2.2.2.2.2.1 j),st (x.2.2.2.2.2.2.2.1 j),V.ro 4 (x.2.2.2.2.2.2.2.2.1 j) (x.2.2.2.2.2.2.2.2.2 j)],i64 ((x.1:Nat):Int),i64 0]++jk 4++[V.ro 2 (x.2.2.1 0) λj=>[st (x.2.2.2.1 0 j),st (x.2.2.2.2.1 0 j)],i64 ((x.2.2.1 0:Nat):Int),i64 0]++jk 32,H:=hp [some (Chunk.tbk 64 [V.sc (Value.pointer none),g8]),some (Chunk.blk [st (x.2.1 0),V.ro 2 (x.2.2.1 0) λj=>[st (x.2.2.2.1 0 j),st (x.2.2.2.2.1 0 j)],i64 (x.2.2.2.2.2.1 0),i64 (x.2.2.2.2.2.2.1 0),st (x.2.2.2.2.2.2.2.1 0),V.ro 4 (x.2.2.2.2.2.2.2.2.1 0) (x.2.2.2.2.2.2.2.2.2 0)])],nx:=2,rt:=0,me:=9}
def en3(s:St):Unit:=()
def eh8(x:i6)(y:FS×Nat×Int):St:={fr:=[V.junk,V.junk,V.junk,V.ptr 0 0,V.junk,V.ptr 1 0,V.sl 2 1 0 y.2.1,V.junk,V.junk,V.junk,V.ro 6 x.1 λj=>[st (x.2.1 j),V.ro 2 (x.2.2.1 j) λj_1=>[st (x.2.2.2.1 j j_1),st (x.2.2.2.2.1 j j_1)],i64 (x.2.2.2.2.2.1 j),i64 (x.2.2.2.2.2.2.1 j),st (x.2.2.2.2.2.2.2.1 j),V.ro 4 (x.2.2.2.2.2.2.2.2.1 j) (x.2.2.2.2.2.2.2.2.2 j)],i64 ((x.1:Nat):Int),i64 0]++jk 4++[V.ro 2 (x.2.2.1 0) λj=>[st (x.2.2.2.1 0 j),st (x.2.2.2.2.1 0 j)],i64 ((x.2.2.1 0:Nat):Int),i64 y.2.2]++jk 32,H:=hp [some (Chunk.tbk 64 [V.sc (Value.pointer none),g8]),some (Chunk.blk [st (x.2.1 0),V.ro 2 (x.2.2.1 0) λj=>[st (x.2.2.2.1 0 j),st (x.2.2.2.2.1 0 j)],i64 (x.2.2.2.2.2.1 0),i64 (x.2.2.2.2.2.2.1 0),st (x.2.2.2.2.2.2.2.1 0),V.ro 4 (x.2.2.2.2.2.2.2.2.1 0) (x.2.2.2.2.2.2.2.2.2 0)]),some (Chunk.row 9 1 y.2.1 λj=>[st (y.1 j)])],nx:=3,rt:=0,me:=9}
def ej3(s:St):FS×Nat×Int:=((dRS (s.H 2) 0),dB (s.fr.getD 6 .junk),vI (s.fr.getD 19 .junk))
def cM(x:i6):cL->St:=(Sum.elim (dv2 x) (eh8 x))
def eu2(s:St):cL:=(match s.nx==2 with|true=>(.inl (en3 s)) |false=>(.inr (ej3 s)))
theorem co0(x:i6):VL (cM x):=vl eu2 (λy=>by rcases y with y|y<;>rfl)
def jJ(x:i6):pX->Ex×St:=(Sum.elim (λz=>(Ex.exit 2,{fr:=[V.junk,V.junk,V.junk,V.ptr 0 0,V.junk,V.ptr 1 0,g8,V.junk,V.junk,V.junk,V.ro 6 x.1 λj=>[st (x.2.1 j),V.ro 2 (x.2.2.1 j) λj_1=>[st (x.2.2.2.1 j j_1),st (x.2.2.2.2.1 j j_1)],i64 (x.2.2.2.2.2.1 j),i64 (x.2.2.2.2.2.2.1 j),st (x.2.2.2.2.2.2.2.1 j),V.ro 4 (x.2.2.2.2.2.2.2.2.1 j) (x.2.2.2.2.2.2.2.2.2 j)],i64 ((x.1:Nat):Int),i64 0]++jk 39,H:=hp [some (Chunk.tbk 64 [V.sc (Value.pointer none),g8]),some (Chunk.blk [st (x.2.1 0),V.ro 2 (x.2.2.1 0) λj=>[st (x.2.2.2.1 0 j),st (x.2.2.2.2.1 0 j)],i64 (x.2.2.2.2.2.1 0),i64 (x.2.2.2.2.2.2.1 0),st (x.2.2.2.2.2.2.2.1 0),V.ro 4 (x.2.2.2.2.2.2.2.2.1 0) (x.2.2.2.2.2.2.2.2.2 0)])],nx:=2,rt:=0,me:=9})) (λz=>(Ex.exit 2,{fr:=[V.junk,V.junk,V.junk,V.ptr 0 0,V.junk,V.ptr 1 0,V.sl 2 1 0 z.1,V.junk,V.junk,V.junk,V.ro 6 x.1 λj=>[st (x.2.1 j),V.ro 2 (x.2.2.1 j) λj_1=>[st (x.2.2.2.1 j j_1),st (x.2.2.2.2.1 j j_1)],i64 (x.2.2.2.2.2.1 j),i64 (x.2.2.2.2.2.2.1 j),st (x.2.2.2.2.2.2.2.1 j),V.ro 4 (x.2.2.2.2.2.2.2.2.1 j) (x.2.2.2.2.2.2.2.2.2 j)],i64 ((x.1:Nat):Int),i64 0]++jk 39,H:=hp [some (Chunk.tbk 64 [V.sc (Value.pointer none),g8]),some (Chunk.blk [st (x.2.1 0),V.ro 2 (x.2.2.1 0) λj=>[st (x.2.2.2.1 0 j),st (x.2.2.2.2.1 0 j)],i64 (x.2.2.2.2.2.1 0),i64 (x.2.2.2.2.2.2.1 0),st (x.2.2.2.2.2.2.2.1 0),V.ro 4 (x.2.2.2.2.2.2.2.2.1 0) (x.2.2.2.2.2.2.2.2.2 0)]),some (Chunk.row 9 1 z.1 λj=>[st (z.2 j)])],nx:=3,rt:=0,me:=9})))
def nC{β:Type}(c_Join:pC->Option qJ)(c_JoinZ:iG->Option kR)(c_lineF:fT->Option fK)(c_lineS:y4->Option eC)(c_pbk:tI->Option tK)(c_String:dQ->Option eP)(c_StringZ:aT->Option bT)(x:i6)(y:Unit)(nx:cL->Option β)(dn:pX->Option β):Option β:=
 if decide (0< ((x.2.2.1 0:Nat):Int))=true then if(0:Int)<=0/\0< ((x.2.2.1 0:Nat):Int)then if(!ByteArray.toList (x.2.2.2.2.1 0 0)==ByteArray.toList ⟨#[]⟩)=true then if 2+ByteArray.size (x.2.2.2.2.1 0 0)<=maxLen then if ByteArray.size (x.2.2.2.1 0 0)+ByteArray.size (⟨#[58,32]⟩++x.2.2.2.2.1 0 0)<=maxLen then nx (.inr (λj=>x.2.2.2.1 0 0++(⟨#[58,32]⟩++x.2.2.2.2.1 0 0),1,1))else none else none else nx (.inr (λj=>x.2.2.2.1 0 0,1,1))else none else dn (.inl ())
theorem dx3{β:Type}(c_Join c_JoinZ)(c_lineF c_lineS)(c_pbk c_String c_StringZ)(x)(y)(nx:cL->Option β)(dn):nC c_Join c_JoinZ c_lineF c_lineS c_pbk c_String c_StringZ x y nx dn=(nC c_Join c_JoinZ c_lineF c_lineS c_pbk c_String c_StringZ x y (λy=>some (.inl y)) (λz=>some (.inr z))).bind λr=>Sum.elim nx dn r:=by
 unfold nC
 repeat' first|exact n0|refine n1 λ_=>?_|refine n2 ?_ ?_|refine n3 (λ_=>?_) λ_=>?_|rfl
theorem ee2(c_Join c_JoinZ)(c_lineF c_lineS)(c_pbk c_String c_StringZ)(x)(y)(lo:f5):n8 E8 (ftg 21 (λa _=>match a with| [.sc _,_]=>false|_=>true) fX wO c_Join (ftg 21 (λa _=>match a with| [.sc _,_]=>true|_=>false) bI oN c_JoinZ (ftg 20 (λ_ L=>match L with| [some (.tbk 64 [.sc (.pointer none),_]),_]=>true|_=>false) aJ mA c_lineF (ftg 20 (λ_ L=>L.length==3) t7 iL c_lineS (ftb 22 gL yO c_pbk (ftg 23 (λ_ L=>L.length==2) w8 jM c_String (ftg 23 (λ_ L=>L.length==1) q7 eR c_StringZ ca0))))))) lo 2 924776 (h9 E8 9 2) (cM x (.inl y)) (KCM [(2,7272),(1,7176),(0,8)] 4)=nC (vf fX c_Join) (vf bI c_JoinZ) (vf aJ c_lineF) (vf t7 c_lineS) (vf gL c_pbk) (vf w8 c_String) (vf q7 c_StringZ) x y (λy=>lo 2 924776 (h9 E8 9 2) (cM x y) (KCM [(2,7272),(1,7176),(0,8)] 4)) (λz=>some (.l (jJ x z).1 (jJ x z).2)):=by kernel_rfl
def mX{β:Type}(c_Join:pC->Option qJ)(c_JoinZ:iG->Option kR)(c_lineF:fT->Option fK)(c_lineS:y4->Option eC)(c_pbk:tI->Option tK)(c_String:dQ->Option eP)(c_StringZ:aT->Option bT)(x:i6)(y:FS×Nat×Int)(nx:cL->Option β)(dn:pX->Option β):Option β:=
 if decide (y.2.2< ((x.2.2.1 0:Nat):Int))=true then if 0<=y.2.2/\y.2.2< ((x.2.2.1 0:Nat):Int)then if(!ByteArray.toList (x.2.2.2.2.1 0 (Int.toNat y.2.2))==ByteArray.toList ⟨#[]⟩)=true then if 2+ByteArray.size (x.2.2.2.2.1 0 (Int.toNat y.2.2))<=maxLen then if ByteArray.size (x.2.2.2.1 0 (Int.toNat y.2.2))+ByteArray.size (⟨#[58,32]⟩++x.2.2.2.2.1 0 (Int.toNat y.2.2))<=maxLen then if(y.2.1+1)*16<=d5/\y.2.1+1<=maxLen/\y.2.1<=y.2.1 then nx (.inr (λj=>if j<y.2.1 then y.1 j else x.2.2.2.1 0 (Int.toNat y.2.2)++(⟨#[58,32]⟩++x.2.2.2.2.1 0 (Int.toNat y.2.2)),y.2.1+1,w (y.2.2+1)))else none else none else none else if(y.2.1+1)*16<=d5/\y.2.1+1<=maxLen/\y.2.1<=y.2.1 then nx (.inr (λj=>if j<y.2.1 then y.1 j else x.2.2.2.1 0 (Int.toNat y.2.2),y.2.1+1,w (y.2.2+1)))else none else none else dn (.inr (y.2.1,y.1))
theorem dt3{β:Type}(c_Join c_JoinZ)(c_lineF c_lineS)(c_pbk c_String c_StringZ)(x)(y)(nx:cL->Option β)(dn):mX c_Join c_JoinZ c_lineF c_lineS c_pbk c_String c_StringZ x y nx dn=(mX c_Join c_JoinZ c_lineF c_lineS c_pbk c_String c_StringZ x y (λy=>some (.inl y)) (λz=>some (.inr z))).bind λr=>Sum.elim nx dn r:=by
 unfold mX
 repeat' first|exact n0|refine n1 λ_=>?_|refine n2 ?_ ?_|refine n3 (λ_=>?_) λ_=>?_|rfl
theorem ek8(c_Join c_JoinZ)(c_lineF c_lineS)(c_pbk c_String c_StringZ)(x)(y)(lo:f5):n8 E8 (ftg 21 (λa _=>match a with| [.sc _,_]=>false|_=>true) fX wO c_Join (ftg 21 (λa _=>match a with| [.sc _,_]=>true|_=>false) bI oN c_JoinZ (ftg 20 (λ_ L=>match L with| [some (.tbk 64 [.sc (.pointer none),_]),_]=>true|_=>false) aJ mA c_lineF (ftg 20 (λ_ L=>L.length==3) t7 iL c_lineS (ftb 22 gL yO c_pbk (ftg 23 (λ_ L=>L.length==2) w8 jM c_String (ftg 23 (λ_ L=>L.length==1) q7 eR c_StringZ ca0))))))) lo 2 924776 (h9 E8 9 2) (cM x (.inr y)) (KCM [(2,7272),(1,7176),(0,8)] 4)=mX (vf fX c_Join) (vf bI c_JoinZ) (vf aJ c_lineF) (vf t7 c_lineS) (vf gL c_pbk) (vf w8 c_String) (vf q7 c_StringZ) x y (λy=>lo 2 924776 (h9 E8 9 2) (cM x y) (KCM [(2,7272),(1,7176),(0,8)] 4)) (λz=>some (.l (jJ x z).1 (jJ x z).2)):=by kernel_rfl
noncomputable def gN(c_Join:pC->Option qJ)(c_JoinZ:iG->Option kR)(c_lineF:fT->Option fK)(c_lineS:y4->Option eC)(c_pbk:tI->Option tK)(c_String:dQ->Option eP)(c_StringZ:aT->Option bT)(q:Nat)(x:i6):cL->Option pX:=lpG (Sum.elim (λy=>nC c_Join c_JoinZ c_lineF c_lineS c_pbk c_String c_StringZ x y (λy=>some (.inl y)) (λz=>some (.inr z))) (λy=>mX c_Join c_JoinZ c_lineF c_lineS c_pbk c_String c_StringZ x y (λy=>some (.inl y)) (λz=>some (.inr z)))) q
theorem fc5(c_Join)(h_Join:Lw E8 21 fX wO c_Join)(c_JoinZ)(h_JoinZ:Lw E8 21 bI oN c_JoinZ)(c_lineF)(h_lineF:Lw E8 20 aJ mA c_lineF)(c_lineS)(h_lineS:Lw E8 20 t7 iL c_lineS)(c_pbk)(h_pbk:Lw E8 22 gL yO c_pbk)(c_String)(h_String:Lw E8 23 w8 jM c_String)(c_StringZ)(h_StringZ:Lw E8 23 q7 eR c_StringZ)(q:Nat)(x:i6):Ll E8 (h9 E8 9 2) (cM x) (jJ x) (gN c_Join c_JoinZ c_lineF c_lineS c_pbk c_String c_StringZ q x):=
 slp (fk h_Join (fk h_JoinZ (fk h_lineF (fk h_lineS (fk h_pbk (fk h_String (fk h_StringZ a8))))))) hX8 (λlo y=>by
  rcases y with y|y
  ·exact(ee2 c_Join c_JoinZ c_lineF c_lineS c_pbk c_String c_StringZ x y lo).trans (by rw[bc3,ad7,ah8,yI,bx7,wI,pQ];exact dx3 _ _ _ _ _ _ _ _ _ _ _)
  ·exact(ek8 c_Join c_JoinZ c_lineF c_lineS c_pbk c_String c_StringZ x y lo).trans (by rw[bc3,ad7,ah8,yI,bx7,wI,pQ];exact dt3 _ _ _ _ _ _ _ _ _ _ _)) (λz=>by rcases z with z|z<;>kernel_rfl) q
abbrev x6:Type:=(Int×Nat×FS×FS×Int×Nat×FI×ByteArray×Int×Int×ByteArray×Nat×FL)⊕(Int×Nat×FS×FS×Int×Nat×FI×ByteArray×Int×Int×ByteArray×Nat×FL×FS×Nat×Int)
abbrev bB:Type:=(Int×Nat×FI×ByteArray×Nat×FS×FS×Int×Int×ByteArray×Nat×FL)⊕(Nat×Int×Nat×FI×ByteArray×Nat×FS×FS×Int×Int×ByteArray×Nat×FL×FS)
def cs4(x:i6)(y:Int×Nat×FS×FS×Int×Nat×FI×ByteArray×Int×Int×ByteArray×Nat×FL):St:={fr:=[V.junk,V.junk,V.junk,V.ptr 0 0,V.junk,V.ptr 2 0,g8,V.junk,V.junk,V.junk,V.ro 6 (x.1) λ(j:Nat)=>[st (x.2.1 j),V.ro 2 (x.2.2.1 j) λ(j_1:Nat)=>[st (x.2.2.2.1 j j_1),st (x.2.2.2.2.1 j j_1)],i64 (x.2.2.2.2.2.1 j),i64 (x.2.2.2.2.2.2.1 j),st (x.2.2.2.2.2.2.2.1 j),V.ro 4 (x.2.2.2.2.2.2.2.2.1 j) (x.2.2.2.2.2.2.2.2.2 j)],i64 ((x.1:Nat):Int),i64 (y.1)]++jk 4++[V.ro 2 (y.2.1) λ(j:Nat)=>[st (y.2.2.1 j),st (y.2.2.2.1 j)],i64 (y.2.2.2.2.1),i64 (0:Int)]++jk 32,H:=hp [some (Chunk.tbk 64 [V.ptr 0 0,V.sl 1 1 0 (y.2.2.2.2.2.1)]),some (Chunk.row 5 1 (y.2.2.2.2.2.1) λ(j:Nat)=>[V.sc (Value.int IntKind.u8 (y.2.2.2.2.2.2.1 j))]),some (Chunk.blk [st (y.2.2.2.2.2.2.2.1),V.ro 2 (y.2.1) λ(j:Nat)=>[st (y.2.2.1 j),st (y.2.2.2.1 j)],i64 (y.2.2.2.2.2.2.2.2.1),i64 (y.2.2.2.2.2.2.2.2.2.1),st (y.2.2.2.2.2.2.2.2.2.2.1),V.ro 4 (y.2.2.2.2.2.2.2.2.2.2.2.1) (y.2.2.2.2.2.2.2.2.2.2.2.2)])],nx:=3,rt:=0,me:=9}
def cs8(s:St):Int×Nat×FS×FS×Int×Nat×FI×ByteArray×Int×Int×ByteArray×Nat×FL:=((vI (s.fr.getD 12 .junk)),(u7 (s.fr.getD 17 .junk)),(λj=>(vS (((iU (s.fr.getD 17 .junk)) j).getD 0 .junk))),(λj=>(vS (((iU (s.fr.getD 17 .junk)) j).getD 1 .junk))),(vI (s.fr.getD 18 .junk)),(dB ((chT (s.H 0)).getD 1 .junk)),(λj=>(vI (((chF (s.H 1)) j).getD 0 .junk))),(vS ((chB (s.H 2)).getD 0 .junk)),(vI ((chB (s.H 2)).getD 2 .junk)),(vI ((chB (s.H 2)).getD 3 .junk)),(vS ((chB (s.H 2)).getD 4 .junk)),(u7 ((chB (s.H 2)).getD 5 .junk)),(iU ((chB (s.H 2)).getD 5 .junk)))
def cu6(x:i6)(y:Int×Nat×FS×FS×Int×Nat×FI×ByteArray×Int×Int×ByteArray×Nat×FL×FS×Nat×Int):St:={fr:=[V.junk,V.junk,V.junk,V.ptr 0 0,V.junk,V.ptr 2 0,V.sl 3 1 0 (y.2.2.2.2.2.2.2.2.2.2.2.2.2.2.1),V.junk,V.junk,V.junk,V.ro 6 (x.1) λ(j:Nat)=>[st (x.2.1 j),V.ro 2 (x.2.2.1 j) λ(j_1:Nat)=>[st (x.2.2.2.1 j j_1),st (x.2.2.2.2.1 j j_1)],i64 (x.2.2.2.2.2.1 j),i64 (x.2.2.2.2.2.2.1 j),st (x.2.2.2.2.2.2.2.1 j),V.ro 4 (x.2.2.2.2.2.2.2.2.1 j) (x.2.2.2.2.2.2.2.2.2 j)],i64 ((x.1:Nat):Int),i64 (y.1)]++jk 4++[V.ro 2 (y.2.1) λ(j:Nat)=>[st (y.2.2.1 j),st (y.2.2.2.1 j)],i64 (y.2.2.2.2.1),i64 (y.2.2.2.2.2.2.2.2.2.2.2.2.2.2.2)]++jk 32,H:=hp [some (Chunk.tbk 64 [V.ptr 0 0,V.sl 1 1 0 (y.2.2.2.2.2.1)]),some (Chunk.row 5 1 (y.2.2.2.2.2.1) λ(j:Nat)=>[V.sc (Value.int IntKind.u8 (y.2.2.2.2.2.2.1 j))]),some (Chunk.blk [st (y.2.2.2.2.2.2.2.1),V.ro 2 (y.2.1) λ(j:Nat)=>[st (y.2.2.1 j),st (y.2.2.2.1 j)],i64 (y.2.2.2.2.2.2.2.2.1),i64 (y.2.2.2.2.2.2.2.2.2.1),st (y.2.2.2.2.2.2.2.2.2.2.1),V.ro 4 (y.2.2.2.2.2.2.2.2.2.2.2.1) (y.2.2.2.2.2.2.2.2.2.2.2.2.1)]),some (Chunk.row 9 1 (y.2.2.2.2.2.2.2.2.2.2.2.2.2.2.1) λ(j:Nat)=>[st (y.2.2.2.2.2.2.2.2.2.2.2.2.2.1 j)])],nx:=4,rt:=0,me:=9}
def cv7(s:St):Int×Nat×FS×FS×Int×Nat×FI×ByteArray×Int×Int×ByteArray×Nat×FL×FS×Nat×Int:=((vI (s.fr.getD 12 .junk)),(u7 (s.fr.getD 17 .junk)),(λj=>(vS (((iU (s.fr.getD 17 .junk)) j).getD 0 .junk))),(λj=>(vS (((iU (s.fr.getD 17 .junk)) j).getD 1 .junk))),(vI (s.fr.getD 18 .junk)),(dB ((chT (s.H 0)).getD 1 .junk)),(λj=>(vI (((chF (s.H 1)) j).getD 0 .junk))),(vS ((chB (s.H 2)).getD 0 .junk)),(vI ((chB (s.H 2)).getD 2 .junk)),(vI ((chB (s.H 2)).getD 3 .junk)),(vS ((chB (s.H 2)).getD 4 .junk)),(u7 ((chB (s.H 2)).getD 5 .junk)),(iU ((chB (s.H 2)).getD 5 .junk)),(λj=>(vS (((chF (s.H 3)) j).getD 0 .junk))),(dB (s.fr.getD 6 .junk)),(vI (s.fr.getD 19 .junk)))
def n7(x:i6):x6->St:=(Sum.elim (cs4 x) (cu6 x))
def dp5(s:St):x6:=(match s.nx==3 with|true=>(.inl (cs8 s)) |false=>(.inr (cv7 s)))
theorem bl3(x:i6):∀y y',n7 x y=n7 x y'->y=y':=λy y' h=>by rcases y with y|y<;>rcases y' with y|y<;>exact(congrArg dp5 h:)
def i8(x:i6):bB->Ex×St:=(Sum.elim (λz=>(Ex.exit 2,{fr:=[V.junk,V.junk,V.junk,V.ptr 0 0,V.junk,V.ptr 2 0,g8,V.junk,V.junk,V.junk,V.ro 6 (x.1) λ(j:Nat)=>[st (x.2.1 j),V.ro 2 (x.2.2.1 j) λ(j_1:Nat)=>[st (x.2.2.2.1 j j_1),st (x.2.2.2.2.1 j j_1)],i64 (x.2.2.2.2.2.1 j),i64 (x.2.2.2.2.2.2.1 j),st (x.2.2.2.2.2.2.2.1 j),V.ro 4 (x.2.2.2.2.2.2.2.2.1 j) (x.2.2.2.2.2.2.2.2.2 j)],i64 ((x.1:Nat):Int),i64 (z.1)]++jk 39,H:=hp [some (Chunk.tbk 64 [V.ptr 0 0,V.sl 1 1 0 (z.2.1)]),some (Chunk.row 5 1 (z.2.1) λ(j:Nat)=>[V.sc (Value.int IntKind.u8 (z.2.2.1 j))]),some (Chunk.blk [st (z.2.2.2.1),V.ro 2 (z.2.2.2.2.1) λ(j:Nat)=>[st (z.2.2.2.2.2.1 j),st (z.2.2.2.2.2.2.1 j)],i64 (z.2.2.2.2.2.2.2.1),i64 (z.2.2.2.2.2.2.2.2.1),st (z.2.2.2.2.2.2.2.2.2.1),V.ro 4 (z.2.2.2.2.2.2.2.2.2.2.1) (z.2.2.2.2.2.2.2.2.2.2.2)])],nx:=3,rt:=0,me:=9})) (λz=>(Ex.exit 2,{fr:=[V.junk,V.junk,V.junk,V.ptr 0 0,V.junk,V.ptr 2 0,V.sl 3 1 0 (z.1),V.junk,V.junk,V.junk,V.ro 6 (x.1) λ(j:Nat)=>[st (x.2.1 j),V.ro 2 (x.2.2.1 j) λ(j_1:Nat)=>[st (x.2.2.2.1 j j_1),st (x.2.2.2.2.1 j j_1)],i64 (x.2.2.2.2.2.1 j),i64 (x.2.2.2.2.2.2.1 j),st (x.2.2.2.2.2.2.2.1 j),V.ro 4 (x.2.2.2.2.2.2.2.2.1 j) (x.2.2.2.2.2.2.2.2.2 j)],i64 ((x.1:Nat):Int),i64 (z.2.1)]++jk 39,H:=hp [some (Chunk.tbk 64 [V.ptr 0 0,V.sl 1 1 0 (z.2.2.1)]),some (Chunk.row 5 1 (z.2.2.1) λ(j:Nat)=>[V.sc (Value.int IntKind.u8 (z.2.2.2.1 j))]),some (Chunk.blk [st (z.2.2.2.2.1),V.ro 2 (z.2.2.2.2.2.1) λ(j:Nat)=>[st (z.2.2.2.2.2.2.1 j),st (z.2.2.2.2.2.2.2.1 j)],i64 (z.2.2.2.2.2.2.2.2.1),i64 (z.2.2.2.2.2.2.2.2.2.1),st (z.2.2.2.2.2.2.2.2.2.2.1),V.ro 4 (z.2.2.2.2.2.2.2.2.2.2.2.1) (z.2.2.2.2.2.2.2.2.2.2.2.2.1)]),some (Chunk.row 9 1 (z.1) λ(j:Nat)=>[st (z.2.2.2.2.2.2.2.2.2.2.2.2.2 j)])],nx:=4,rt:=0,me:=9})))
def uD(x:i6)(z:bB)(k:KX):Option Ans:=Sum.elim (λza=>k (i8 x (.inl za)).1 (i8 x (.inl za)).2) (λzb=>k (i8 x (.inr zb)).1 (i8 x (.inr zb)).2) z
theorem cs6(x:i6):∀z k,uD x z k=k (i8 x z).1 (i8 x z).2:=λz k=>by
 rcases z with z|z<;>rfl
theorem cs1(x:i6)(z:Int×Nat×FI×ByteArray×Nat×FS×FS×Int×Int×ByteArray×Nat×FL):KCM [(2,7272),(1,7176),(0,8)] 4 (i8 x (.inl z)).1 (i8 x (.inl z)).2=some (.l (i8 x (.inl z)).1 (i8 x (.inl z)).2):=by kernel_rfl
theorem cs3(x:i6)(z:Nat×Int×Nat×FI×ByteArray×Nat×FS×FS×Int×Int×ByteArray×Nat×FL×FS):KCM [(2,7272),(1,7176),(0,8)] 4 (i8 x (.inr z)).1 (i8 x (.inr z)).2=some (.l (i8 x (.inr z)).1 (i8 x (.inr z)).2):=by kernel_rfl
def gT{β:Type}(c_Join:pC->Option qJ)(c_JoinZ:iG->Option kR)(c_lineF:fT->Option fK)(c_lineS:y4->Option eC)(c_pbk:tI->Option tK)(c_String:dQ->Option eP)(c_StringZ:aT->Option bT)(x:i6)(y:Int×Nat×FS×FS×Int×Nat×FI×ByteArray×Int×Int×ByteArray×Nat×FL)(nx:x6->Option β)(dn:bB->Option β):Option β:=
 if decide ((0:Int)<y.2.2.2.2.1)=true then
  if(0:Int)<=(0:Int)/\(0:Int)< ((y.2.1:Nat):Int)then
   if(!ByteArray.toList (y.2.2.2.1 0)==ByteArray.toList ⟨#[]⟩)=true then
    if 2+ByteArray.size (y.2.2.2.1 0)<=maxLen then
     if ByteArray.size (y.2.2.1 0)+ByteArray.size (⟨#[58,32]⟩++y.2.2.2.1 0)<=maxLen then
      nx (.inr ((y.1,y.2.1,y.2.2.1,y.2.2.2.1,y.2.2.2.2.1,y.2.2.2.2.2.1,y.2.2.2.2.2.2.1,y.2.2.2.2.2.2.2.1,y.2.2.2.2.2.2.2.2.1,y.2.2.2.2.2.2.2.2.2.1,y.2.2.2.2.2.2.2.2.2.2.1,y.2.2.2.2.2.2.2.2.2.2.2.1,y.2.2.2.2.2.2.2.2.2.2.2.2,λ(j:Nat)=>y.2.2.1 0++(⟨#[58,32]⟩++y.2.2.2.1 0),1,(1:Int))))
     else
      none
    else
     none
   else
    nx (.inr ((y.1,y.2.1,y.2.2.1,y.2.2.2.1,y.2.2.2.2.1,y.2.2.2.2.2.1,y.2.2.2.2.2.2.1,y.2.2.2.2.2.2.2.1,y.2.2.2.2.2.2.2.2.1,y.2.2.2.2.2.2.2.2.2.1,y.2.2.2.2.2.2.2.2.2.2.1,y.2.2.2.2.2.2.2.2.2.2.2.1,y.2.2.2.2.2.2.2.2.2.2.2.2,λ(j:Nat)=>y.2.2.1 0,1,(1:Int))))
  else
   none
 else
  dn (.inl ((y.1,y.2.2.2.2.2.1,y.2.2.2.2.2.2.1,y.2.2.2.2.2.2.2.1,y.2.1,y.2.2.1,y.2.2.2.1,y.2.2.2.2.2.2.2.2)))
theorem cr9{β:Type}(c_Join c_JoinZ)(c_lineF c_lineS)(c_pbk c_String c_StringZ)(x:i6)(y:Int×Nat×FS×FS×Int×Nat×FI×ByteArray×Int×Int×ByteArray×Nat×FL)(nx:x6->Option β)(dn:bB->Option β):gT c_Join c_JoinZ c_lineF c_lineS c_pbk c_String c_StringZ x y nx dn=(gT c_Join c_JoinZ c_lineF c_lineS c_pbk c_String c_StringZ x y (λy=>some (.inl y)) (λz=>some (.inr z))).bind λr=>Sum.elim nx dn r:=by
 unfold gT
 repeat' first|exact n0|refine n1 λ_=>?_|refine n2 ?_ ?_|refine n3 (λ_=>?_) λ_=>?_|rfl
theorem cv2(c_Join c_JoinZ)(c_lineF c_lineS)(c_pbk c_String c_StringZ)(x:i6)(y:Int×Nat×FS×FS×Int×Nat×FI×ByteArray×Int×Int×ByteArray×Nat×FL)(lo:f5):n8 E8 (ftg 21 (λa _=>match a with| [.sc _,_]=>false|_=>true) fX wO c_Join (ftg 21 (λa _=>match a with| [.sc _,_]=>true|_=>false) bI oN c_JoinZ (ftg 20 (λ_ L=>match L with| [some (.tbk 64 [.sc (.pointer none),_]),_]=>true|_=>false) aJ mA c_lineF (ftg 20 (λ_ L=>L.length==3) t7 iL c_lineS (ftb 22 gL yO c_pbk (ftg 23 (λ_ L=>L.length==2) w8 jM c_String (ftg 23 (λ_ L=>L.length==1) q7 eR c_StringZ ca0))))))) lo 2 924776 (h9 E8 9 2) (n7 x (.inl y)) (KCM [(2,7272),(1,7176),(0,8)] 4)=gT (vf fX c_Join) (vf bI c_JoinZ) (vf aJ c_lineF) (vf t7 c_lineS) (vf gL c_pbk) (vf w8 c_String) (vf q7 c_StringZ) x y (λy=>lo 2 924776 (h9 E8 9 2) (n7 x y) (KCM [(2,7272),(1,7176),(0,8)] 4)) (λz=>some (.l (i8 x z).1 (i8 x z).2)):=by kernel_rfl
def hJ{β:Type}(c_Join:pC->Option qJ)(c_JoinZ:iG->Option kR)(c_lineF:fT->Option fK)(c_lineS:y4->Option eC)(c_pbk:tI->Option tK)(c_String:dQ->Option eP)(c_StringZ:aT->Option bT)(x:i6)(y:Int×Nat×FS×FS×Int×Nat×FI×ByteArray×Int×Int×ByteArray×Nat×FL×FS×Nat×Int)(nx:x6->Option β)(dn:bB->Option β):Option β:=
 if decide (y.2.2.2.2.2.2.2.2.2.2.2.2.2.2.2<y.2.2.2.2.1)=true then
  if(0:Int)<=y.2.2.2.2.2.2.2.2.2.2.2.2.2.2.2/\y.2.2.2.2.2.2.2.2.2.2.2.2.2.2.2< ((y.2.1:Nat):Int)then
   if(!ByteArray.toList (y.2.2.2.1 (Int.toNat (y.2.2.2.2.2.2.2.2.2.2.2.2.2.2.2)))==ByteArray.toList ⟨#[]⟩)=true then
    if 2+ByteArray.size (y.2.2.2.1 (Int.toNat (y.2.2.2.2.2.2.2.2.2.2.2.2.2.2.2)))<=maxLen then
     if ByteArray.size (y.2.2.1 (Int.toNat (y.2.2.2.2.2.2.2.2.2.2.2.2.2.2.2)))+ByteArray.size (⟨#[58,32]⟩++y.2.2.2.1 (Int.toNat (y.2.2.2.2.2.2.2.2.2.2.2.2.2.2.2)))<=maxLen then
      if(y.2.2.2.2.2.2.2.2.2.2.2.2.2.2.1+1)*16<=d5/\y.2.2.2.2.2.2.2.2.2.2.2.2.2.2.1+1<=maxLen/\y.2.2.2.2.2.2.2.2.2.2.2.2.2.2.1<=y.2.2.2.2.2.2.2.2.2.2.2.2.2.2.1 then
       nx (.inr ((y.1,y.2.1,y.2.2.1,y.2.2.2.1,y.2.2.2.2.1,y.2.2.2.2.2.1,y.2.2.2.2.2.2.1,y.2.2.2.2.2.2.2.1,y.2.2.2.2.2.2.2.2.1,y.2.2.2.2.2.2.2.2.2.1,y.2.2.2.2.2.2.2.2.2.2.1,y.2.2.2.2.2.2.2.2.2.2.2.1,y.2.2.2.2.2.2.2.2.2.2.2.2.1,λ(j:Nat)=>if j<y.2.2.2.2.2.2.2.2.2.2.2.2.2.2.1 then y.2.2.2.2.2.2.2.2.2.2.2.2.2.1 j else y.2.2.1 (Int.toNat (y.2.2.2.2.2.2.2.2.2.2.2.2.2.2.2))++(⟨#[58,32]⟩++y.2.2.2.1 (Int.toNat (y.2.2.2.2.2.2.2.2.2.2.2.2.2.2.2))),y.2.2.2.2.2.2.2.2.2.2.2.2.2.2.1+1,w (y.2.2.2.2.2.2.2.2.2.2.2.2.2.2.2+(1:Int)))))
      else
       none
     else
      none
    else
     none
   else
    if(y.2.2.2.2.2.2.2.2.2.2.2.2.2.2.1+1)*16<=d5/\y.2.2.2.2.2.2.2.2.2.2.2.2.2.2.1+1<=maxLen/\y.2.2.2.2.2.2.2.2.2.2.2.2.2.2.1<=y.2.2.2.2.2.2.2.2.2.2.2.2.2.2.1 then
     nx (.inr ((y.1,y.2.1,y.2.2.1,y.2.2.2.1,y.2.2.2.2.1,y.2.2.2.2.2.1,y.2.2.2.2.2.2.1,y.2.2.2.2.2.2.2.1,y.2.2.2.2.2.2.2.2.1,y.2.2.2.2.2.2.2.2.2.1,y.2.2.2.2.2.2.2.2.2.2.1,y.2.2.2.2.2.2.2.2.2.2.2.1,y.2.2.2.2.2.2.2.2.2.2.2.2.1,λ(j:Nat)=>if j<y.2.2.2.2.2.2.2.2.2.2.2.2.2.2.1 then y.2.2.2.2.2.2.2.2.2.2.2.2.2.1 j else y.2.2.1 (Int.toNat (y.2.2.2.2.2.2.2.2.2.2.2.2.2.2.2)),y.2.2.2.2.2.2.2.2.2.2.2.2.2.2.1+1,w (y.2.2.2.2.2.2.2.2.2.2.2.2.2.2.2+(1:Int)))))
    else
     none
  else
   none
 else
  dn (.inr ((y.2.2.2.2.2.2.2.2.2.2.2.2.2.2.1,y.1,y.2.2.2.2.2.1,y.2.2.2.2.2.2.1,y.2.2.2.2.2.2.2.1,y.2.1,y.2.2.1,y.2.2.2.1,y.2.2.2.2.2.2.2.2.1,y.2.2.2.2.2.2.2.2.2.1,y.2.2.2.2.2.2.2.2.2.2.1,y.2.2.2.2.2.2.2.2.2.2.2.1,y.2.2.2.2.2.2.2.2.2.2.2.2.1,y.2.2.2.2.2.2.2.2.2.2.2.2.2.1)))
theorem cw0{β:Type}(c_Join c_JoinZ)(c_lineF c_lineS)(c_pbk c_String c_StringZ)(x:i6)(y:Int×Nat×FS×FS×Int×Nat×FI×ByteArray×Int×Int×ByteArray×Nat×FL×FS×Nat×Int)(nx:x6->Option β)(dn:bB->Option β):hJ c_Join c_JoinZ c_lineF c_lineS c_pbk c_String c_StringZ x y nx dn=(hJ c_Join c_JoinZ c_lineF c_lineS c_pbk c_String c_StringZ x y (λy=>some (.inl y)) (λz=>some (.inr z))).bind λr=>Sum.elim nx dn r:=by
 unfold hJ
 repeat' first|exact n0|refine n1 λ_=>?_|refine n2 ?_ ?_|refine n3 (λ_=>?_) λ_=>?_|rfl
theorem cu8(c_Join c_JoinZ)(c_lineF c_lineS)(c_pbk c_String c_StringZ)(x:i6)(y:Int×Nat×FS×FS×Int×Nat×FI×ByteArray×Int×Int×ByteArray×Nat×FL×FS×Nat×Int)(lo:f5):n8 E8 (ftg 21 (λa _=>match a with| [.sc _,_]=>false|_=>true) fX wO c_Join (ftg 21 (λa _=>match a with| [.sc _,_]=>true|_=>false) bI oN c_JoinZ (ftg 20 (λ_ L=>match L with| [some (.tbk 64 [.sc (.pointer none),_]),_]=>true|_=>false) aJ mA c_lineF (ftg 20 (λ_ L=>L.length==3) t7 iL c_lineS (ftb 22 gL yO c_pbk (ftg 23 (λ_ L=>L.length==2) w8 jM c_String (ftg 23 (λ_ L=>L.length==1) q7 eR c_StringZ ca0))))))) lo 2 924776 (h9 E8 9 2) (n7 x (.inr y)) (KCM [(2,7272),(1,7176),(0,8)] 4)=hJ (vf fX c_Join) (vf bI c_JoinZ) (vf aJ c_lineF) (vf t7 c_lineS) (vf gL c_pbk) (vf w8 c_String) (vf q7 c_StringZ) x y (λy=>lo 2 924776 (h9 E8 9 2) (n7 x y) (KCM [(2,7272),(1,7176),(0,8)] 4)) (λz=>some (.l (i8 x z).1 (i8 x z).2)):=by kernel_rfl
noncomputable def x9(c_Join:pC->Option qJ)(c_JoinZ:iG->Option kR)(c_lineF:fT->Option fK)(c_lineS:y4->Option eC)(c_pbk:tI->Option tK)(c_String:dQ->Option eP)(c_StringZ:aT->Option bT)(q:Nat)(x:i6):x6->Option bB:=lpG (Sum.elim (λy=>gT c_Join c_JoinZ c_lineF c_lineS c_pbk c_String c_StringZ x y (λy=>some (.inl y)) (λz=>some (.inr z))) (λy=>hJ c_Join c_JoinZ c_lineF c_lineS c_pbk c_String c_StringZ x y (λy=>some (.inl y)) (λz=>some (.inr z)))) q
theorem do6(c_Join)(h_Join:Lw E8 21 fX wO c_Join)(c_JoinZ)(h_JoinZ:Lw E8 21 bI oN c_JoinZ)(c_lineF)(h_lineF:Lw E8 20 aJ mA c_lineF)(c_lineS)(h_lineS:Lw E8 20 t7 iL c_lineS)(c_pbk)(h_pbk:Lw E8 22 gL yO c_pbk)(c_String)(h_String:Lw E8 23 w8 jM c_String)(c_StringZ)(h_StringZ:Lw E8 23 q7 eR c_StringZ)(q:Nat)(x:i6):∀y z,x9 c_Join c_JoinZ c_lineF c_lineS c_pbk c_String c_StringZ q x y=some z->SL E8 (h9 E8 9 2) (n7 x y) (i8 x z).1 (i8 x z).2:=
 SL.lp (LT:=λlo=>lo) (T:=i8 x) (S:=n7 x) (fk h_Join (fk h_JoinZ (fk h_lineF (fk h_lineS (fk h_pbk (fk h_String (fk h_StringZ a8))))))) hX8 (λlo h=>h) (λlo y=>by
  rcases y with y|y
  ·exact(cv2 c_Join c_JoinZ c_lineF c_lineS c_pbk c_String c_StringZ x y lo).trans (by rw[bc3,ad7,ah8,yI,bx7,wI,pQ];exact cr9 _ _ _ _ _ _ _ _ _ _ _)
  ·exact(cu8 c_Join c_JoinZ c_lineF c_lineS c_pbk c_String c_StringZ x y lo).trans (by rw[bc3,ad7,ah8,yI,bx7,wI,pQ];exact cw0 _ _ _ _ _ _ _ _ _ _ _)) (λz=>by rcases z with z|z<;>first|exact cs1 x z|exact cs3 x z) q
abbrev dW:Type:=(Unit)⊕(Nat×FI×Int)
abbrev qH:Type:=(Unit)⊕(Nat×FI)
def eo4(x:i6)(y:Unit):St:={fr:=[V.junk,V.junk,V.junk,V.ptr 0 0]++jk 6++[V.ro 6 x.1 λj=>[st (x.2.1 j),V.ro 2 (x.2.2.1 j) λj_1=>[st (x.2.2.2.1 j j_1),st (x.2.2.2.2.1 j j_1)],i64 (x.2.2.2.2.2.1 j),i64 (x.2.2.2.2.2.2.1 j),st (x.2.2.2.2.2.2.2.1 j),V.ro 4 (x.2.2.2.2.2.2.2.2.1 j) (x.2.2.2.2.2.2.2.2.2 j)],i64 ((x.1:Nat):Int),i64 0]++jk 39,H:=hp [some (Chunk.tbk 64 [V.sc (Value.pointer none),g8])],nx:=1,rt:=0,me:=9}
def ed9(s:St):Unit:=()
def du1(x:i6)(y:Nat×FI×Int):St:={fr:=[V.junk,V.junk,V.junk,V.ptr 0 0]++jk 6++[V.ro 6 x.1 λj=>[st (x.2.1 j),V.ro 2 (x.2.2.1 j) λj_1=>[st (x.2.2.2.1 j j_1),st (x.2.2.2.2.1 j j_1)],i64 (x.2.2.2.2.2.1 j),i64 (x.2.2.2.2.2.2.1 j),st (x.2.2.2.2.2.2.2.1 j),V.ro 4 (x.2.2.2.2.2.2.2.2.1 j) (x.2.2.2.2.2.2.2.2.2 j)],i64 ((x.1:Nat):Int),i64 y.2.2]++jk 39,H:=hp [some (Chunk.tbk 64 [V.ptr 0 0,V.sl 1 1 0 y.1]),some (Chunk.row 5 1 y.1 λj=>[V.sc (Value.int IntKind.u8 (y.2.1 j))])],nx:=2,rt:=0,me:=9}
def dv9(s:St):Nat×FI×Int:=((dB ((chT (s.H 0)).getD 1 .junk)),dRI (s.H 1) 0,vI (s.fr.getD 12 .junk))
def fZ(x:i6):dW->St:=(Sum.elim (eo4 x) (du1 x))
def ev4(s:St):dW:=(match s.nx==1 with|true=>(.inl (ed9 s)) |false=>(.inr (dv9 s)))
theorem fe3(x:i6):VL (fZ x):=vl ev4 (λy=>by rcases y with y|y<;>rfl)
def mU(x:i6):qH->Ex×St:=(Sum.elim (λz=>(Ex.exit 0,{fr:=[V.junk,V.junk,V.junk,V.ptr 0 0]++jk 48,H:=hp [some (Chunk.tbk 64 [V.sc (Value.pointer none),g8])],nx:=1,rt:=0,me:=9})) (λz=>(Ex.exit 0,{fr:=[V.junk,V.junk,V.junk,V.ptr 0 0]++jk 48,H:=hp [some (Chunk.tbk 64 [V.ptr 0 0,V.sl 1 1 0 z.1]),some (Chunk.row 5 1 z.1 λj=>[V.sc (Value.int IntKind.u8 (z.2 j))])],nx:=2,rt:=0,me:=9})))
def jP{β:Type}(c_Join:pC->Option qJ)(c_JoinZ:iG->Option kR)(c_lineF:fT->Option fK)(c_lineS:y4->Option eC)(c_pbk:tI->Option tK)(c_String:dQ->Option eP)(c_StringZ:aT->Option bT)(l_Print_l2:cL->Option pX)(l_Print_l2_2:x6->Option bB)(x:i6)(y:Unit)(nx:dW->Option β)(dn:qH->Option β):Option β:=
 if decide (0< ((x.1:Nat):Int))=true then if(0:Int)<=0/\0< ((x.1:Nat):Int)then(l_Print_l2 (.inl ())).bind λz855=>Sum.elim (λz855a=>(c_JoinZ (⟨#[44,32]⟩)).bind λz857=>(c_lineF (x.2.1 0,⟨#[]⟩)).bind λz860=>(c_pbk (x.2.2.2.2.2.1 0,x.2.2.2.2.2.2.1 0,x.2.2.2.2.2.2.2.1 0,x.2.2.2.2.2.2.2.2.1 0,x.2.2.2.2.2.2.2.2.2 0,0,z860.1,z860.2.2)).bind λz869=>(c_lineS (0,1,λj=>⟨#[125]⟩,z869)).bind λz875=>nx (.inr (z875.2.2.1,z875.2.2.2,1))) (λz855b=>if 0+z855b.1<=z855b.1/\1=1 then(c_Join (z855b.1,λj=>z855b.2 (0+j),⟨#[44,32]⟩)).bind λz880=>(c_lineF (x.2.1 0,z880)).bind λz883=>(c_pbk (x.2.2.2.2.2.1 0,x.2.2.2.2.2.2.1 0,x.2.2.2.2.2.2.2.1 0,x.2.2.2.2.2.2.2.2.1 0,x.2.2.2.2.2.2.2.2.2 0,0,z883.1,z883.2.2)).bind λz892=>(c_lineS (0,1,λj=>⟨#[125]⟩,z892)).bind λz898=>nx (.inr (z898.2.2.1,z898.2.2.2,1))else none) z855 else none else dn (.inl ())
theorem ei4{β:Type}(c_Join c_JoinZ)(c_lineF c_lineS)(c_pbk c_String c_StringZ)(l_Print_l2)(l_Print_l2_2)(x)(y)(nx:dW->Option β)(dn):jP c_Join c_JoinZ c_lineF c_lineS c_pbk c_String c_StringZ l_Print_l2 l_Print_l2_2 x y nx dn=(jP c_Join c_JoinZ c_lineF c_lineS c_pbk c_String c_StringZ l_Print_l2 l_Print_l2_2 x y (λy=>some (.inl y)) (λz=>some (.inr z))).bind λr=>Sum.elim nx dn r:=by
 unfold jP
 repeat' first|exact n0|refine n1 λ_=>?_|refine n2 ?_ ?_|refine n3 (λ_=>?_) λ_=>?_|rfl
theorem ek9(c_Join c_JoinZ)(c_lineF c_lineS)(c_pbk c_String c_StringZ)(l_Print_l2)(l_Print_l2_2)(x)(y)(lo:f5):n8 E8 (ftg 21 (λa _=>match a with| [.sc _,_]=>false|_=>true) fX wO c_Join (ftg 21 (λa _=>match a with| [.sc _,_]=>true|_=>false) bI oN c_JoinZ (ftg 20 (λ_ L=>match L with| [some (.tbk 64 [.sc (.pointer none),_]),_]=>true|_=>false) aJ mA c_lineF (ftg 20 (λ_ L=>L.length==3) t7 iL c_lineS (ftb 22 gL yO c_pbk (ftg 23 (λ_ L=>L.length==2) w8 jM c_String (ftg 23 (λ_ L=>L.length==1) q7 eR c_StringZ ca0))))))) (lt2 2 (λs=>match s.H 0 with|some (.tbk _ (.sc _::_))=>true|_=>false) (h9 E8 9 2) (cM x) (jJ x) l_Print_l2 (aj8 2 (λs=>match s.H 0 with|some (.tbk _ (.ptr _ _::_))=>true|_=>false) (h9 E8 9 2) (n7 x) (uD x) l_Print_l2_2 lo)) 0 7176 (h9 E8 9 0) (fZ x (.inl y)) (KCM [(0,8)] 4)=jP (vf fX c_Join) (vf bI c_JoinZ) (vf aJ c_lineF) (vf t7 c_lineS) (vf gL c_pbk) (vf w8 c_String) (vf q7 c_StringZ) (lf (h9 E8 9 2) (cM x) l_Print_l2) (λy=>ay3 (λy=>(h9 E8 9 2,n7 x y)) l_Print_l2_2 (h9 E8 9 2,n7 x y)) x y (λy=>lo 0 7176 (h9 E8 9 0) (fZ x y) (KCM [(0,8)] 4)) (λz=>some (.l (mU x z).1 (mU x z).2)):=by kernel_rfl
def eV{β:Type}(c_Join:pC->Option qJ)(c_JoinZ:iG->Option kR)(c_lineF:fT->Option fK)(c_lineS:y4->Option eC)(c_pbk:tI->Option tK)(c_String:dQ->Option eP)(c_StringZ:aT->Option bT)(l_Print_l2:cL->Option pX)(l_Print_l2_2:x6->Option bB)(x:i6)(y:Nat×FI×Int)(nx:dW->Option β)(dn:qH->Option β):Option β:=
 if decide (y.2.2< ((x.1:Nat):Int))=true then if 0<=y.2.2/\y.2.2< ((x.1:Nat):Int)then(l_Print_l2_2 (.inl (y.2.2,x.2.2.1 (Int.toNat y.2.2),x.2.2.2.1 (Int.toNat y.2.2),x.2.2.2.2.1 (Int.toNat y.2.2),((x.2.2.1 (Int.toNat y.2.2):Nat):Int),y.1,y.2.1,x.2.1 (Int.toNat y.2.2),x.2.2.2.2.2.1 (Int.toNat y.2.2),x.2.2.2.2.2.2.1 (Int.toNat y.2.2),x.2.2.2.2.2.2.2.1 (Int.toNat y.2.2),x.2.2.2.2.2.2.2.2.1 (Int.toNat y.2.2),x.2.2.2.2.2.2.2.2.2 (Int.toNat y.2.2)))).bind λz1268=>Sum.elim (λz1268a=>(c_JoinZ (⟨#[44,32]⟩)).bind λz1270=>(c_lineS (0,5,λj=>if j=0 then⟨#[112,114,111,99,101,100,117,114,101,32]⟩else if j-1=0 then z1268a.2.2.2.1 else if j-1-1=0 then⟨#[40]⟩else if j-1-1-1=0 then⟨#[]⟩else⟨#[41,32,123]⟩,z1268a.2.1,z1268a.2.2.1)).bind λz1276=>(c_pbk (z1268a.2.2.2.2.2.2.2.1,z1268a.2.2.2.2.2.2.2.2.1,z1268a.2.2.2.2.2.2.2.2.2.1,z1268a.2.2.2.2.2.2.2.2.2.2.1,z1268a.2.2.2.2.2.2.2.2.2.2.2,0,z1276.2.2)).bind λz1285=>(c_lineS (0,1,λj=>⟨#[125]⟩,z1285)).bind λz1291=>nx (.inr (z1291.2.2.1,z1291.2.2.2,w (z1268a.1+1)))) (λz1268b=>if 0+z1268b.1<=z1268b.1/\1=1 then(c_Join (z1268b.1,λj=>z1268b.2.2.2.2.2.2.2.2.2.2.2.2.2 (0+j),⟨#[44,32]⟩)).bind λz1296=>(c_lineS (0,5,λj=>if j=0 then⟨#[112,114,111,99,101,100,117,114,101,32]⟩else if j-1=0 then z1268b.2.2.2.2.1 else if j-1-1=0 then⟨#[40]⟩else if j-1-1-1=0 then z1296 else⟨#[41,32,123]⟩,z1268b.2.2.1,z1268b.2.2.2.1)).bind λz1302=>(c_pbk (z1268b.2.2.2.2.2.2.2.2.1,z1268b.2.2.2.2.2.2.2.2.2.1,z1268b.2.2.2.2.2.2.2.2.2.2.1,z1268b.2.2.2.2.2.2.2.2.2.2.2.1,z1268b.2.2.2.2.2.2.2.2.2.2.2.2.1,0,z1302.2.2)).bind λz1311=>(c_lineS (0,1,λj=>⟨#[125]⟩,z1311)).bind λz1317=>nx (.inr (z1317.2.2.1,z1317.2.2.2,w (z1268b.2.1+1)))else none) z1268 else none else dn (.inr (y.1,y.2.1))
theorem ea0{β:Type}(c_Join c_JoinZ)(c_lineF c_lineS)(c_pbk c_String c_StringZ)(l_Print_l2)(l_Print_l2_2)(x)(y)(nx:dW->Option β)(dn):eV c_Join c_JoinZ c_lineF c_lineS c_pbk c_String c_StringZ l_Print_l2 l_Print_l2_2 x y nx dn=(eV c_Join c_JoinZ c_lineF c_lineS c_pbk c_String c_StringZ l_Print_l2 l_Print_l2_2 x y (λy=>some (.inl y)) (λz=>some (.inr z))).bind λr=>Sum.elim nx dn r:=by
 unfold eV
 repeat' first|exact n0|refine n1 λ_=>?_|refine n2 ?_ ?_|refine n3 (λ_=>?_) λ_=>?_|rfl
theorem ds9(c_Join c_JoinZ)(c_lineF c_lineS)(c_pbk c_String c_StringZ)(l_Print_l2)(l_Print_l2_2)(x)(y)(lo:f5):n8 E8 (ftg 21 (λa _=>match a with| [.sc _,_]=>false|_=>true) fX wO c_Join (ftg 21 (λa _=>match a with| [.sc _,_]=>true|_=>false) bI oN c_JoinZ (ftg 20 (λ_ L=>match L with| [some (.tbk 64 [.sc (.pointer none),_]),_]=>true|_=>false) aJ mA c_lineF (ftg 20 (λ_ L=>L.length==3) t7 iL c_lineS (ftb 22 gL yO c_pbk (ftg 23 (λ_ L=>L.length==2) w8 jM c_String (ftg 23 (λ_ L=>L.length==1) q7 eR c_StringZ ca0))))))) (lt2 2 (λs=>match s.H 0 with|some (.tbk _ (.sc _::_))=>true|_=>false) (h9 E8 9 2) (cM x) (jJ x) l_Print_l2 (aj8 2 (λs=>match s.H 0 with|some (.tbk _ (.ptr _ _::_))=>true|_=>false) (h9 E8 9 2) (n7 x) (uD x) l_Print_l2_2 lo)) 0 7176 (h9 E8 9 0) (fZ x (.inr y)) (KCM [(0,8)] 4)=eV (vf fX c_Join) (vf bI c_JoinZ) (vf aJ c_lineF) (vf t7 c_lineS) (vf gL c_pbk) (vf w8 c_String) (vf q7 c_StringZ) (lf (h9 E8 9 2) (cM x) l_Print_l2) (λy=>ay3 (λy=>(h9 E8 9 2,n7 x y)) l_Print_l2_2 (h9 E8 9 2,n7 x y)) x y (λy=>lo 0 7176 (h9 E8 9 0) (fZ x y) (KCM [(0,8)] 4)) (λz=>some (.l (mU x z).1 (mU x z).2)):=by kernel_rfl
noncomputable def bl8(c_Join:pC->Option qJ)(c_JoinZ:iG->Option kR)(c_lineF:fT->Option fK)(c_lineS:y4->Option eC)(c_pbk:tI->Option tK)(c_String:dQ->Option eP)(c_StringZ:aT->Option bT)(q:Nat)(x:i6):dW->Option qH:=lpG (Sum.elim (λy=>jP c_Join c_JoinZ c_lineF c_lineS c_pbk c_String c_StringZ (gN c_Join c_JoinZ c_lineF c_lineS c_pbk c_String c_StringZ q x) (x9 c_Join c_JoinZ c_lineF c_lineS c_pbk c_String c_StringZ q x) x y (λy=>some (.inl y)) (λz=>some (.inr z))) (λy=>eV c_Join c_JoinZ c_lineF c_lineS c_pbk c_String c_StringZ (gN c_Join c_JoinZ c_lineF c_lineS c_pbk c_String c_StringZ q x) (x9 c_Join c_JoinZ c_lineF c_lineS c_pbk c_String c_StringZ q x) x y (λy=>some (.inl y)) (λz=>some (.inr z)))) q
theorem ez1(c_Join)(h_Join:Lw E8 21 fX wO c_Join)(c_JoinZ)(h_JoinZ:Lw E8 21 bI oN c_JoinZ)(c_lineF)(h_lineF:Lw E8 20 aJ mA c_lineF)(c_lineS)(h_lineS:Lw E8 20 t7 iL c_lineS)(c_pbk)(h_pbk:Lw E8 22 gL yO c_pbk)(c_String)(h_String:Lw E8 23 w8 jM c_String)(c_StringZ)(h_StringZ:Lw E8 23 q7 eR c_StringZ)(q:Nat)(x:i6):Ll E8 (h9 E8 9 0) (fZ x) (mU x) (bl8 c_Join c_JoinZ c_lineF c_lineS c_pbk c_String c_StringZ q x):=
 SL.lp (LT:=λlo=>(lt2 2 (λs=>match s.H 0 with|some (.tbk _ (.sc _::_))=>true|_=>false) (h9 E8 9 2) (cM x) (jJ x) (gN c_Join c_JoinZ c_lineF c_lineS c_pbk c_String c_StringZ q x) (aj8 2 (λs=>match s.H 0 with|some (.tbk _ (.ptr _ _::_))=>true|_=>false) (h9 E8 9 2) (n7 x) (uD x) (x9 c_Join c_JoinZ c_lineF c_lineS c_pbk c_String c_StringZ q x) lo))) (T:=mU x) (S:=fZ x) (fk h_Join (fk h_JoinZ (fk h_lineF (fk h_lineS (fk h_pbk (fk h_String (fk h_StringZ a8))))))) hX8 (λlo h=>(lk2 (fc5 c_Join h_Join c_JoinZ h_JoinZ c_lineF h_lineF c_lineS h_lineS c_pbk h_pbk c_String h_String c_StringZ h_StringZ q x) (pP (do6 c_Join h_Join c_JoinZ h_JoinZ c_lineF h_lineF c_lineS h_lineS c_pbk h_pbk c_String h_String c_StringZ h_StringZ q x) (cs6 x) h))) (λlo y=>by
  rcases y with y|y
  ·exact(ek9 c_Join c_JoinZ c_lineF c_lineS c_pbk c_String c_StringZ (gN c_Join c_JoinZ c_lineF c_lineS c_pbk c_String c_StringZ q x) (x9 c_Join c_JoinZ c_lineF c_lineS c_pbk c_String c_StringZ q x) x y lo).trans (by rw[bc3,ad7,ah8,yI,bx7,wI,pQ,co0,br2 (ap1 (h9 E8 9 2) (bl3 x)) (x9 c_Join c_JoinZ c_lineF c_lineS c_pbk c_String c_StringZ q x)];exact ei4 _ _ _ _ _ _ _ _ _ _ _ _ _)
  ·exact(ds9 c_Join c_JoinZ c_lineF c_lineS c_pbk c_String c_StringZ (gN c_Join c_JoinZ c_lineF c_lineS c_pbk c_String c_StringZ q x) (x9 c_Join c_JoinZ c_lineF c_lineS c_pbk c_String c_StringZ q x) x y lo).trans (by rw[bc3,ad7,ah8,yI,bx7,wI,pQ,co0,br2 (ap1 (h9 E8 9 2) (bl3 x)) (x9 c_Join c_JoinZ c_lineF c_lineS c_pbk c_String c_StringZ q x)];exact ea0 _ _ _ _ _ _ _ _ _ _ _ _ _)) (λz=>by rcases z with z|z<;>kernel_rfl) q
def as1{β:Type}(c_Join:pC->Option qJ)(c_JoinZ:iG->Option kR)(c_lineF:fT->Option fK)(c_lineS:y4->Option eC)(c_pbk:tI->Option tK)(c_String:dQ->Option eP)(c_StringZ:aT->Option bT)(l_Print_l0:dW->Option qH)(x:i6)(dn:cd2->Option β):Option β:=
 (l_Print_l0 (.inl ())).bind λz812=>Sum.elim (λz812a=>(c_StringZ ()).bind λz813=>dn (⟨#[]⟩)) (λz812b=>(c_String z812b).bind λz817=>dn z817) z812
theorem he8{β:Type}(c_Join c_JoinZ)(c_lineF c_lineS)(c_pbk c_String c_StringZ)(l_Print_l0)(x)(dn:cd2->Option β):as1 c_Join c_JoinZ c_lineF c_lineS c_pbk c_String c_StringZ l_Print_l0 x dn=(as1 c_Join c_JoinZ c_lineF c_lineS c_pbk c_String c_StringZ l_Print_l0 x some).bind dn:=by
 unfold as1
 repeat' first|exact n0|refine n1 λ_=>?_|refine n2 ?_ ?_|refine n3 (λ_=>?_) λ_=>?_|rfl
theorem hd4(c_Join c_JoinZ)(c_lineF c_lineS)(c_pbk c_String c_StringZ)(l_Print_l0)(x):f7 E8 (ftg 21 (λa _=>match a with| [.sc _,_]=>false|_=>true) fX wO c_Join (ftg 21 (λa _=>match a with| [.sc _,_]=>true|_=>false) bI oN c_JoinZ (ftg 20 (λ_ L=>match L with| [some (.tbk 64 [.sc (.pointer none),_]),_]=>true|_=>false) aJ mA c_lineF (ftg 20 (λ_ L=>L.length==3) t7 iL c_lineS (ftb 22 gL yO c_pbk (ftg 23 (λ_ L=>L.length==2) w8 jM c_String (ftg 23 (λ_ L=>L.length==1) q7 eR c_StringZ ca0))))))) (lt2 0 (λ_=>true) (h9 E8 9 0) (fZ x) (mU x) l_Print_l0 lo0) 9 (dl2 x).1 (dl2 x).2 K=as1 (vf fX c_Join) (vf bI c_JoinZ) (vf aJ c_lineF) (vf t7 c_lineS) (vf gL c_pbk) (vf w8 c_String) (vf q7 c_StringZ) (lf (h9 E8 9 0) (fZ x) l_Print_l0) x (λz=>some (.c (fi0 z))):=by kernel_rfl
noncomputable def ek5(q:Nat)(x:i6):Option cd2:=as1 (Join q) (zZ q) (wV q) (gM q) (pbk q) (String q) (kE q) (bl8 (Join q) (zZ q) (wV q) (gM q) (pbk q) (String q) (kE q) q x) x some
theorem gh1(q:Nat):Lw E8 9 dl2 fi0 (ek5 q):=sof hW8 hX8 (fk (ff0 q) (fk (ee7 q) (fk (em7 q) (fk (cm6 q) (fk (gt5 q) (fk (db7 q) (fk (cg1 q) a8))))))) (λx=>(lk2 (ez1 (Join q) (ff0 q) (zZ q) (ee7 q) (wV q) (em7 q) (gM q) (cm6 q) (pbk q) (gt5 q) (String q) (db7 q) (kE q) (cg1 q) q x) cB)) λx=>(hd4 (Join q) (zZ q) (wV q) (gM q) (pbk q) (String q) (kE q) (bl8 (Join q) (zZ q) (wV q) (gM q) (pbk q) (String q) (kE q) q x) x).trans (by rw[bc3,ad7,ah8,yI,bx7,wI,pQ,fe3,he8]<;>rfl)
end Go.Proofs.YtjfkkokeegpeiaaDoor
/- What the printer of the program writes: lines and statements. -/
namespace Go.Proofs.YtjfkkokeegpeiaaDoor
open Go Go.Am Go.Proofs.Lx
set_option maxRecDepth 100000
def RB(b:List UInt8)(z:Nat×FI):Prop:=z.1=b.length/\∀j,j<b.length->z.2 j=((b.getD j 0).toNat:Int)
theorem dr5(a b:List UInt8)(j:Nat):(a++b).getD j 0=if j<a.length then a.getD j 0 else b.getD (j-a.length) 0:=by
 rw[List.getD_eq_getElem?_getD,List.getD_eq_getElem?_getD,List.getD_eq_getElem?_getD];split
 ·rename_i h;rw[List.getElem?_append_left h]
 ·rename_i h;rw[List.getElem?_append_right (by omega)]
theorem cy6(q:Nat){b:List UInt8}{s:ByteArray}{z:Nat×FI}(h:RB b z)(hl:b.length+s.size<=1000000000):Rs (WS q (s,z)) (λy=>RB (b++s.data.toList) y.2):=by
 obtain⟨n,f⟩:=z;obtain⟨h1,h2⟩:=h;have h1:n=b.length:=h1;subst h1;unfold WS fu0 CC;refine Rs.bind (Rs.of rfl) λz2 e=>?_;subst e;refine Rs.pos ⟨by show(b.length+s.size)*1<=d5;unfold d5;omega,by show b.length+s.size<=maxLen;unfold maxLen;omega,Nat.le_refl _⟩ (Rs.some ⟨?_,λj hj=>?_⟩)
 ·show b.length+s.size=(b++s.data.toList).length;rw[List.length_append,eD]
 ·show(if j<b.length then f j else _)=_;rw[dr5];split
  ·rename_i hjb;exact h2 j hjb
  ·rfl
theorem ho9(q:Nat){b:List UInt8}{z:Nat×FI}(h:RB b z)(hl:b.length+1<=1000000000):Rs (WB q (10,z)) (RB (b++[10])):=by
 obtain⟨n,f⟩:=z;obtain⟨h1,h2⟩:=h;have h1:n=b.length:=h1;subst h1;unfold WB gb6 CC;refine Rs.bind (Rs.of rfl) λz2 e=>?_;subst e;refine Rs.pos ⟨by show(b.length+1)*1<=d5;unfold d5;omega,by show b.length+1<=maxLen;unfold maxLen;omega,Nat.le_refl _⟩ (Rs.some ⟨?_,λj hj=>?_⟩)
 ·show b.length+1=(b++[10]).length;simp
 ·show(if j<b.length then f j else 10)=_;rw[dr5];split
  ·rename_i hjb;exact h2 j hjb
  ·rename_i hjb;have:j-b.length=0:=by simp at hj;omega
   rw[this];rfl
def am7(ps:List ByteArray):List UInt8:=ps.flatMap (·.data.toList)
theorem he9(n:Nat):Lib.repeatL [32,32] n=j5 n:=by
 unfold j5
 induction n with
 |zero=>rfl
 |succ n ih=>
  show[32,32]++Lib.repeatL [32,32] n=_;rw[ih,show 2*(n+1)=2*n+1+1 by omega,List.replicate_succ,List.replicate_succ];rfl
theorem cx2(q0:Nat)(x0:y4){ps:List ByteArray}(hn:x0.2.1=ps.length)(hp:∀j (h:j<ps.length),x0.2.2.1 j=ps[j]):∀(q i:Nat) (b:List UInt8) (z:Nat×FI),i<=ps.length->ps.length-i<q->RB b z->b.length+(am7 (ps.drop i)).length<=1000000000->i<=1000->ps.length<=1000->
 Rs (aq0 (Repeat q0) (WS q0) (WB q0) q x0 (z.1,z.2,(i:Int))) (RB (b++am7 (ps.drop i)))
 |0,i,b,z,hi,hq,_,_,_,_=>by omega
 |q+1,i,b,z,hi,hq,hz,hl,hi2,hp2=>by
  unfold aq0;refine Rs.step3 λQ hQ=>?_;unfold rA;dsimp only;rw[hn];by_cases hil:i<ps.length
  ·have e1:ps.drop i=ps[i]::ps.drop (i+1):=List.drop_eq_getElem_cons hil;have e2:am7 (ps.drop i)=ps[i].data.toList++am7 (ps.drop (i+1)):=by rw[e1];rfl
   rw[e2,List.length_append,eD]at hl;refine Rs.pos (decide_eq_true (by omega)) (Rs.pos ⟨by omega,by omega⟩ (Rs.pos ⟨by omega,rfl⟩ ?_));rw[Int.toNat_natCast,Nat.zero_add,hp i hil];refine Rs.bind (cy6 q0 (z:=(z.1,z.2)) hz (by omega)) λy hy=>Rs.some (hQ _ ?_);rw[s9 (by omega),e2,<-List.append_assoc];exact cx2 q0 x0 hn hp q (i+1) _ (y.2.1,y.2.2) (by omega) (by omega) hy (by rw[List.length_append,eD];omega) (by omega) hp2
  ·refine Rs.neg (λh=>hil (by have:=of_decide_eq_true h;omega)) (Rs.some ?_);rw[List.drop_eq_nil_of_le (by omega)];simpa[am7]using hz
theorem ca8{q:Nat}{dp:Nat}{ps:List ByteArray}{p:Nat->ByteArray}{b:List UInt8}{z:Nat×FI}(hq:ps.length<q)(hp2:ps.length<=1000)(hd:dp<=400)(hp:∀j (h:j<ps.length),p j=ps[j])(hz:RB b z)(hl:b.length+(j5 dp++(am7 ps++[10])).length<=1000000000):
 Rs (gM q ((dp:Int),ps.length,p,z)) (λy=>RB (b++(j5 dp++(am7 ps++[10]))) y.2.2):=by
 unfold gM aw2;rw[List.length_append,List.length_append,List.length_cons,List.length_nil]at hl
 have e1:Repeat q (⟨#[32,32]⟩,(dp:Int))=some (mkB (j5 dp)):=by
  unfold Repeat;rw[if_pos ⟨by omega,by omega,show 2<=1000 by decide⟩];show some (mkB (Lib.repeatL [32,32] (dp:Int).toNat))=_;rw[Int.toNat_natCast,he9]
 refine Rs.bind (Rs.of e1) λz2 e=>?_;subst e;refine Rs.bind (cy6 q hz (by rw[b9];omega)) λz6 h6=>?_;rw[m4]at h6;refine Rs.bind (cx2 q ((dp:Int),ps.length,p,z) rfl hp q 0 _ (z6.2.1,z6.2.2) (by omega) (by omega) h6 (by rw[List.length_append,List.drop_zero];omega) (by omega) hp2) λz28 h28=>?_;rw[List.drop_zero]at h28;refine Rs.bind (ho9 q h28 (by rw[List.length_append,List.length_append];omega)) λz32 h32=>Rs.some ?_;show RB _ (z32.1,z32.2);have e:b++(j5 dp++(am7 ps++[10]))=b++j5 dp++am7 ps++[10]:=by simp
 rw[e];exact h32
end Go.Proofs.YtjfkkokeegpeiaaDoor
/- What the printer of the program writes: statements. -/
namespace Go.Proofs.YtjfkkokeegpeiaaDoor
open Go Go.Am Go.Proofs.Lx
set_option maxRecDepth 100000
def szZ:Tr⊕List Tr->Nat
 | .inl t=>szT t
 | .inr l=>szL l
theorem yS{t:Tr}{x:List UInt8}{l:List Tkn}{d:Nat}(h:Pr t x l d):x.length<=30*szT t:=by
 have:=wS (ez5 h)
 rwa [b9]at this
theorem iz0(t:Tr):1<=szT t:=by cases t;simp only[szT];omega
theorem ep1{s:ByteArray}(h:am8 s):(bL s).length<=12:=by unfold bL;rw[eD];exact h.2.1
theorem ca6{n:Int}(h0:0<=n)(h1:n<=1000):(bL (itS n)).length<=10:=by unfold bL;rw[eD];exact jC h0 (by omega)
theorem p7(i:Nat):(j5 i).length=2*i:=by simp[j5]
theorem ha6{i:Nat}{z:Tr⊕List Tr}{x:List UInt8}{l:List Tkn}{d:Nat}{v:List ByteArray}(h:PrS i z x l d v):i+d<=30->x.length<=250*szZ z:=by
 have key:∀w:ByteArray,w∈keywords->(bL w).length<=12:=λw hw=>by unfold bL;rw[eD];exact(ar1 w hw).1
 induction h with
 |«let» i y a x l d hn hP=>
  intro hd;have h1:=yS hP;have h2:=ep1 hn;have h3:=p7 i;simp only[szZ,szT,szL,List.length_append,List.length_cons,List.length_nil]at*;have:(bL w_let).length=3:=rfl;omega
 |set i y a x l d hn hP=>
  intro hd;have h1:=yS hP;have h2:=ep1 hn;have h3:=p7 i;simp only[szZ,szT,szL,List.length_append,List.length_cons,List.length_nil]at*;omega
 |cond i c ys x l d xy ly dy vy hP hY ih=>
  intro hd;have h1:=yS hP;have h3:=p7 i;have h4:=ih (by omega);simp only[szZ,szT,szL,List.length_append,List.length_cons,List.length_nil]at*;have:(bL w_if).length=2:=rfl;omega
 |both i c ys n0 ns x l d xy ly dy vy xn ln dn vn hP hY hN ih1 ih2=>
  intro hd;have h1:=yS hP;have h3:=p7 i;have h4:=ih1 (by omega);have h5:=ih2 (by omega);simp only[szZ,szT,szL,List.length_append,List.length_cons,List.length_nil]at*;have:(bL w_if).length=2:=rfl;have:(bL w_else).length=4:=rfl;omega
 |rep i n ys xy ly dy vy g0 g1 hY ih=>
  intro hd;have h2:=ca6 (n:=n) (by omega) (by omega);have h3:=p7 i;have h4:=ih (by omega);simp only[szZ,szT,szL,List.length_append,List.length_cons,List.length_nil]at*;have:(bL w_repeat).length=6:=rfl;omega
 |amt i k w n u x l d hk hP=>
  intro hd;have h1:=yS hP;have h3:=p7 i;have h2:(bL w).length<=12:=key w (inP_iff.1 (by rcases hk with⟨_,rfl⟩ | ⟨_,rfl⟩<;>decide));simp only[szZ,szT,szL,List.length_append,List.length_cons,List.length_nil]at*;omega
 |await i c y m e n u x l d hC hP=>
  intro hd;have h1:=yS hP;have h2:=yS hC;have h3:=p7 i;simp only[szZ,szT,szL,List.length_append,List.length_cons,List.length_nil]at*;have:(bL w_await).length=5:=rfl;have:(bL w_within).length=6:=rfl;omega
 |one i k w a x l d hk hP=>
  intro hd;have h1:=yS hP;have h3:=p7 i;have h2:(bL w).length<=12:=key w (inP_iff.1 (by rcases hk with⟨_,rfl⟩ | ⟨_,rfl⟩<;>decide));simp only[szZ,szT,szL,List.length_append,List.length_cons,List.length_nil]at*;omega
 |use i j n u x l d g0 g1 hP=>
  intro hd;have h1:=yS hP;have h2:=ca6 g0 (by omega);have h3:=p7 i;simp only[szZ,szT,szL,List.length_append,List.length_cons,List.length_nil]at*;have:(bL w_use).length=3:=rfl;have:(bL w_for).length=3:=rfl;omega
 |send i j n u x l d g0 g1 hP=>
  intro hd;have h1:=yS hP;have h2:=ca6 g0 (by omega);have h3:=p7 i;simp only[szZ,szT,szL,List.length_append,List.length_cons,List.length_nil]at*;have:(bL w_send).length=4:=rfl;omega
 |nmb i k w j hk g0=>
  intro hd;have h2:=ca6 g0 (by rcases hk with⟨_,_,h⟩ | ⟨_,_,h⟩<;>omega);have h3:=p7 i;have h4:(bL w).length<=12:=key w (inP_iff.1 (by rcases hk with⟨_,rfl,_⟩ | ⟨_,rfl,_⟩<;>decide));simp only[szZ,szT,szL,List.length_append,List.length_cons,List.length_nil]at*;omega
 |nil i=>intro _;simp
 |cons i t ts x l d v xs ls ds vs _ _ ih1 ih2=>
  intro hd;have h1:=ih1 (by omega);have h2:=ih2 (by omega);simp only[szZ,szL,List.length_append]at*;omega
def aS(t:Tr)(i:Nat)(z:Nat×FI):by7:=((eT t).1,(eT t).2.1,(eT t).2.2.1,(eT t).2.2.2.1,(eT t).2.2.2.2,(i:Int),z)
abbrev kF(l:List Tr):FL:=λj=>(r9 l).getD j dfl
abbrev kC(k n:Int)(s:ByteArray)(l:List Tr):Int×Int×ByteArray×Nat×FI×FI×FS×FN×FM:=(k,n,s,l.length,opK (kF l),opN (kF l),opS (kF l),opM (kF l),opF (kF l))
theorem sZ(q:Nat)(k n:Int)(s:ByteArray){l:List Tr}(j:Nat){c:Tr}{y:List UInt8}{m:List Tkn}{d:Nat}(hc:l[j]? =some c)(hP:Pr c y m d)(hs:szT c<=1000000):Rs (kid q ((j:Int),kC k n s l)) (λz=>z=(mkB y,kC k n s l)):=by
 unfold kid da0;obtain⟨h1,_⟩:=List.getElem?_eq_some_iff.1 hc;refine Rs.pos ⟨by omega,show(j:Int)< ((l.length:Nat):Int)by omega⟩ ?_;have e:=mR hc;have:=ds5 q (ez5 hP) (ex4 c) hs;rw[<-e]at this;refine Rs.bind (Rs.of this) λz hz=>Rs.some (by rw[hz])
theorem oQ(q:Nat)(n:Int)(h: -9223372036854775808<=n/\n<=9223372036854775807):Rs (bz2 q n) (λz=>z=itS n):=by
 unfold bz2;exact Rs.pos h (Rs.some rfl)
open Classical in
theorem iW{q:Nat}{k n:Int}{s:ByteArray}{l:List Tr}{i:Nat}{z:Nat×FI}{P:ch6->Prop}(h:Rs (fP (bz2 q) (kid q) (gM q) (pbk q) (k,n,s,l.length,opK (kF l),opN (kF l),opS (kF l),opM (kF l),opF (kF l),(i:Int),z) some) P):Rs (pst (q+1) (aS (.node k n s l) i z)) P:=by
 show Rs (if xW (kF l)then fP (bz2 q) (kid q) (gM q) (cu3 q).2 (k,n,s,l.length,opK (kF l),opN (kF l),opS (kF l),opM (kF l),opF (kF l),(i:Int),z) some else none) P;exact Rs.pos (f8 l) h
open Classical in
theorem gv5{q:Nat}{k n:Int}{s:ByteArray}{l:List Tr}{i:Nat}{z:Nat×FI}{P:tK->Prop}(h:Rs (uA (pst q) q (k,n,s,l.length,opK (kF l),opN (kF l),opS (kF l),opM (kF l),opF (kF l),(i:Int),z) (0,z)) P):Rs (pbk (q+1) (aS (.node k n s l) i z)) P:=by
 show Rs (if xW (kF l)then ak7 (cu3 q).1 (uA (cu3 q).1 q (k,n,s,l.length,opK (kF l),opN (kF l),opS (kF l),opM (kF l),opF (kF l),(i:Int),z)) (k,n,s,l.length,opK (kF l),opN (kF l),opS (kF l),opM (kF l),opF (kF l),(i:Int),z) some else none) P;refine Rs.pos (f8 l) ?_;unfold ak7;exact Rs.bind h λz hz=>Rs.some hz
theorem if1{a:ByteArray}{p:Nat->ByteArray}(h0:p 0=a):∀j (h:j< [a].length),p j=[a][j]
 |0,_=>h0
 |j+1,h=>by simp only[List.length_cons,List.length_nil]at h;omega
theorem il1{a b c:ByteArray}{p:Nat->ByteArray}(h0:p 0=a)(h1:p 1=b)(h2:p 2=c):∀j (h:j< [a,b,c].length),p j=[a,b,c][j]
 |0,_=>h0
 |1,_=>h1
 |2,_=>h2
 |j+3,h=>by simp only[List.length_cons,List.length_nil]at h;omega
theorem ij1{a b c d:ByteArray}{p:Nat->ByteArray}(h0:p 0=a)(h1:p 1=b)(h2:p 2=c)(h3:p 3=d):∀j (h:j< [a,b,c,d].length),p j=[a,b,c,d][j]
 |0,_=>h0
 |1,_=>h1
 |2,_=>h2
 |3,_=>h3
 |j+4,h=>by simp only[List.length_cons,List.length_nil]at h;omega
theorem ii6{a b c d e:ByteArray}{p:Nat->ByteArray}(h0:p 0=a)(h1:p 1=b)(h2:p 2=c)(h3:p 3=d)(h4:p 4=e):∀j (h:j< [a,b,c,d,e].length),p j=[a,b,c,d,e][j]
 |0,_=>h0
 |1,_=>h1
 |2,_=>h2
 |3,_=>h3
 |4,_=>h4
 |j+5,h=>by simp only[List.length_cons,List.length_nil]at h;omega
theorem ln1{q i:Nat}{a:ByteArray}{p:Nat->ByteArray}{b x:List UInt8}{z:Nat×FI}(hq:5<q)(hd:i<=400)(h0:p 0=a)(hz:RB b z)(e:x=j5 i++(a.data.toList++[10]))(hl:b.length+x.length<=1000000000):Rs (gM q ((i:Int),1,p,z)) (λy=>RB (b++x) y.2.2):=by
 have e2:x=j5 i++(am7 [a]++[10]):=by rw[e];simp[am7]
 rw[e2]at hl⊢;exact ca8 (ps:=[a]) (by show 1<q;omega) (show 1<=1000 by decide) hd (if1 h0) hz hl
theorem ln3{q i:Nat}{a1 a2 a3:ByteArray}{p:Nat->ByteArray}{b x:List UInt8}{z:Nat×FI}(hq:5<q)(hd:i<=400)(h0:p 0=a1)(h1:p 1=a2)(h2:p 2=a3)(hz:RB b z)(e:x=j5 i++(a1.data.toList++(a2.data.toList++(a3.data.toList++[10]))))(hl:b.length+x.length<=1000000000):Rs (gM q ((i:Int),3,p,z)) (λy=>RB (b++x) y.2.2):=by
 have e2:x=j5 i++(am7 [a1,a2,a3]++[10]):=by rw[e];simp[am7]
 rw[e2]at hl⊢;exact ca8 (ps:=[a1,a2,a3]) (by show 3<q;omega) (show 3<=1000 by decide) hd (il1 h0 h1 h2) hz hl
theorem ln4{q i:Nat}{a1 a2 a3 a4:ByteArray}{p:Nat->ByteArray}{b x:List UInt8}{z:Nat×FI}(hq:5<q)(hd:i<=400)(h0:p 0=a1)(h1:p 1=a2)(h2:p 2=a3)(h3:p 3=a4)(hz:RB b z)(e:x=j5 i++(a1.data.toList++(a2.data.toList++(a3.data.toList++(a4.data.toList++[10])))))(hl:b.length+x.length<=1000000000):Rs (gM q ((i:Int),4,p,z)) (λy=>RB (b++x) y.2.2):=by
 have e2:x=j5 i++(am7 [a1,a2,a3,a4]++[10]):=by rw[e];simp[am7]
 rw[e2]at hl⊢;exact ca8 (ps:=[a1,a2,a3,a4]) (by show 4<q;omega) (show 4<=1000 by decide) hd (ij1 h0 h1 h2 h3) hz hl
theorem ln5{q i:Nat}{a1 a2 a3 a4 a5:ByteArray}{p:Nat->ByteArray}{b x:List UInt8}{z:Nat×FI}(hq:5<q)(hd:i<=400)(h0:p 0=a1)(h1:p 1=a2)(h2:p 2=a3)(h3:p 3=a4)(h4:p 4=a5)(hz:RB b z)(e:x=j5 i++(a1.data.toList++(a2.data.toList++(a3.data.toList++(a4.data.toList++(a5.data.toList++[10]))))))(hl:b.length+x.length<=1000000000):Rs (gM q ((i:Int),5,p,z)) (λy=>RB (b++x) y.2.2):=by
 have e2:x=j5 i++(am7 [a1,a2,a3,a4,a5]++[10]):=by rw[e];simp[am7]
 rw[e2]at hl⊢;exact ca8 (ps:=[a1,a2,a3,a4,a5]) (by show 5<q;omega) (show 5<=1000 by decide) hd (ii6 h0 h1 h2 h3 h4) hz hl
def hq3(i:Nat)(x:List UInt8):Tr⊕List Tr->Prop
 | .inl t=>∀(q:Nat) (b:List UInt8) (z:Nat×FI),3*szT t+20<=q->RB b z->b.length+x.length<=1000000000->szT t<=1000000->Rs (pst q (aS t i z)) (RB (b++x))
 | .inr ys=>∀(q q2 j:Nat) (k n:Int) (s:ByteArray) (L:List Tr) (z0:Nat×FI) (b:List UInt8) (z:Nat×FI),1<=i->3*szL ys+20<=q->ys.length<q2->L.drop j=ys->j<=L.length->L.length<=1000000->RB b z->b.length+x.length<=1000000000->szL ys<=1000000->
  Rs (uA (pst q) q2 (k,n,s,L.length,opK (kF L),opN (kF L),opS (kF L),opM (kF L),opF (kF L),((i-1:Nat):Int),z0) ((j:Int),z)) (RB (b++x))
theorem cq0{q i:Nat}{ys:List Tr}{x:List UInt8}(h:hq3 (i+1) x (.inr ys)){b:List UInt8}{z:Nat×FI}(hq:3*szL ys+21<=q)(hz:RB b z)(hl:b.length+x.length<=1000000000)(hs:szL ys<=1000000)(k n:Int)(s:ByteArray):Rs (pbk q (aS (.node k n s ys) i z)) (RB (b++x)):=by
 obtain⟨q,rfl⟩:∃q',q=q'+1:=⟨q-1,by omega⟩;have hlen:=ff5 ys;refine gv5 ?_;exact h q q 0 k n s ys z b z (by omega) (by omega) (by omega) rfl (Nat.zero_le _) (by omega) hz hl hs
theorem ht7{i:Nat}{z:Tr⊕List Tr}{x:List UInt8}{l:List Tkn}{d:Nat}{v:List ByteArray}(h:PrS i z x l d v):i+d<=30->hq3 i x z:=by
 induction h with
 |«let» i y a x l d hn hP=>
  intro hd q b z hq hz hl hs;simp only[szT,szL]at hq hs;obtain⟨q,rfl⟩:∃q',q=q'+1:=⟨q-1,by omega⟩;refine iW ?_;unfold fP;dsimp only;refine Rs.bind (oQ q 0 (by decide)) λz1 _=>Rs.pos rfl ?_;refine Rs.bind (sZ q 1 0 y (l:=[a]) 0 rfl hP (by omega)) λz2 e2=>?_;subst e2;refine Rs.pos rfl ?_;refine Rs.bind (ln5 (x:=j5 i++(bL w_let++32::(bL y++32::61::32::(x++[59,10])))) (by omega) (by omega) rfl rfl rfl rfl rfl hz (by simp[bL,mkB]) hl) λz3 h3=>Rs.some h3
 |set i y a x l d hn hP=>
  intro hd q b z hq hz hl hs;simp only[szT,szL]at hq hs;obtain⟨q,rfl⟩:∃q',q=q'+1:=⟨q-1,by omega⟩;refine iW ?_;unfold fP;dsimp only;refine Rs.bind (oQ q 0 (by decide)) λz1 _=>Rs.neg (by decide) (Rs.pos rfl ?_);refine Rs.bind (sZ q 2 0 y (l:=[a]) 0 rfl hP (by omega)) λz2 e2=>?_;subst e2;refine Rs.pos rfl ?_;refine Rs.bind (ln4 (x:=j5 i++(bL y++32::61::32::(x++[59,10]))) (by omega) (by omega) rfl rfl rfl rfl hz (by simp[bL,mkB]) hl) λz3 h3=>Rs.some h3
 |cond i c ys x l d xy ly dy vy hP hY ih=>
  intro hd q b z hq hz hl hs;have ih:=ih (by omega);have hi:=p7 i;simp only[szT,szL]at hq hs;simp only[List.length_append,List.length_cons,List.length_nil]at hl;obtain⟨q,rfl⟩:∃q',q=q'+1:=⟨q-1,by omega⟩;refine iW ?_;unfold fP;dsimp only;refine Rs.bind (oQ q 0 (by decide)) λz1 _=>Rs.neg (by decide) (Rs.neg (by decide) (Rs.pos rfl ?_));refine Rs.bind (sZ q 3 0 ⟨#[]⟩ (l:=[c,.node 14 0 ⟨#[]⟩ ys,.node 14 0 ⟨#[]⟩ []]) 0 rfl hP (by omega)) λz2 e2=>?_;subst e2;have hx1:(j5 i++(bL w_if++32::(x++[32,123,10]))).length=(j5 i).length+((bL w_if).length+(x.length+(0+1+1+1)+1)):=by simp only[List.length_append,List.length_cons,List.length_nil]
  refine Rs.bind (ln3 (x:=j5 i++(bL w_if++32::(x++[32,123,10]))) (by omega) (by omega) rfl rfl rfl hz (by simp[bL,mkB]) (by rw[hx1];omega)) λz3 h3=>?_;refine Rs.pos ⟨by decide,show(1:Int)< ((3:Nat):Int)by decide⟩ ?_;have e1:(opK (kF [c,.node 14 0 ⟨#[]⟩ ys,.node 14 0 ⟨#[]⟩ []]) 1,opN (kF [c,.node 14 0 ⟨#[]⟩ ys,.node 14 0 ⟨#[]⟩ []]) 1,opS (kF [c,.node 14 0 ⟨#[]⟩ ys,.node 14 0 ⟨#[]⟩ []]) 1,opM (kF [c,.node 14 0 ⟨#[]⟩ ys,.node 14 0 ⟨#[]⟩ []]) 1,opF (kF [c,.node 14 0 ⟨#[]⟩ ys,.node 14 0 ⟨#[]⟩ []]) 1,(i:Int),z3.2.2)=aS (.node 14 0 ⟨#[]⟩ ys) i z3.2.2:=rfl;rw[e1];refine Rs.bind (cq0 ih (by omega) h3 (by rw[List.length_append,hx1];omega) (by omega) 14 0 ⟨#[]⟩) λz4 h4=>?_;refine Rs.pos ⟨by decide,show(2:Int)< ((3:Nat):Int)by decide⟩ (Rs.neg (show¬decide (((0:Nat):Int)>0)=true by decide) ?_);have hl5:(b++(j5 i++(bL w_if++32::(x++[32,123,10])))++xy).length=b.length+((j5 i).length+((bL w_if).length+(x.length+(0+1+1+1)+1)))+xy.length:=by rw[List.length_append,List.length_append,hx1]
  refine Rs.bind (ln1 (i:=i) (x:=j5 i++[125,10]) (by omega) (by omega) rfl h4 rfl (by rw[hl5,List.length_append];show _+(_+2)<=_;omega)) λz5 h5=>Rs.some ?_;have e5:b++(j5 i++(bL w_if++32::(x++[32,123,10])))++xy++(j5 i++[125,10])=b++(j5 i++(bL w_if++32::(x++32::123::10::(xy++(j5 i++[125,10]))))):=by simp
  rw[e5]at h5;exact h5
 |both i c ys n0 ns x l d xy ly dy vy xn ln dn vn hP hY hN ih1 ih2=>
  intro hd q b z hq hz hl hs;have ih1:=ih1 (by omega);have ih2:=ih2 (by omega);have hi:=p7 i;simp only[szT]at hq hs;rw[show szL [c,.node 14 0 ⟨#[]⟩ ys,.node 14 0 ⟨#[]⟩ (n0::ns)]=szT c+(1+szL ys+(1+szL (n0::ns)+0+1)+1)+1 by simp only[szL,szT]]at hq hs;simp only[List.length_append,List.length_cons,List.length_nil]at hl;obtain⟨q,rfl⟩:∃q',q=q'+1:=⟨q-1,by omega⟩;refine iW ?_;unfold fP;dsimp only;refine Rs.bind (oQ q 0 (by decide)) λz1 _=>Rs.neg (by decide) (Rs.neg (by decide) (Rs.pos rfl ?_));generalize hL:[c,.node 14 0 ⟨#[]⟩ ys,.node 14 0 ⟨#[]⟩ (n0::ns)]=L;have h0:L[0]? =some c:=by rw[<-hL];rfl
  have h1:L[1]? =some (.node 14 0 ⟨#[]⟩ ys):=by rw[<-hL];rfl
  have h2:L[2]? =some (.node 14 0 ⟨#[]⟩ (n0::ns)):=by rw[<-hL];rfl
  have hL3:L.length=3:=by rw[<-hL];rfl
  clear hL;refine Rs.bind (sZ q 3 0 ⟨#[]⟩ (l:=L) 0 h0 hP (by omega)) λz2 e2=>?_;subst e2;have hx1:(j5 i++(bL w_if++32::(x++[32,123,10]))).length=(j5 i).length+((bL w_if).length+(x.length+(0+1+1+1)+1)):=by simp only[List.length_append,List.length_cons,List.length_nil]
  refine Rs.bind (ln3 (x:=j5 i++(bL w_if++32::(x++[32,123,10]))) (by omega) (by omega) rfl rfl rfl hz (by simp[bL,mkB]) (by rw[hx1];omega)) λz3 h3=>?_;refine Rs.pos ⟨by decide,show(1:Int)< ((L.length:Nat):Int)by omega⟩ ?_
  have e1:(opK (kF L) 1,opN (kF L) 1,opS (kF L) 1,opM (kF L) 1,opF (kF L) 1,(i:Int),z3.2.2)=aS (.node 14 0 ⟨#[]⟩ ys) i z3.2.2:=by
   have this:=mR h1;have a1:=congrArg (λy:n4=>y.1) this;have a2:=congrArg (λy:n4=>y.2.1) this;have a3:=congrArg (λy:n4=>y.2.2.1) this;have a4:=congrArg (λy:n4=>y.2.2.2.1) this;have a5:=congrArg (λy:n4=>y.2.2.2.2) this;dsimp only at a1 a2 a3 a4 a5;unfold aS;rw[<-a1,<-a2,<-a3,<-a4,<-a5]
  have e2:∀w:Nat×FI,(opK (kF L) 2,opN (kF L) 2,opS (kF L) 2,opM (kF L) 2,opF (kF L) 2,(i:Int),w)=aS (.node 14 0 ⟨#[]⟩ (n0::ns)) i w:=by
   intro w;have this:=mR h2;have a1:=congrArg (λy:n4=>y.1) this;have a2:=congrArg (λy:n4=>y.2.1) this;have a3:=congrArg (λy:n4=>y.2.2.1) this;have a4:=congrArg (λy:n4=>y.2.2.2.1) this;have a5:=congrArg (λy:n4=>y.2.2.2.2) this;dsimp only at a1 a2 a3 a4 a5;unfold aS;rw[<-a1,<-a2,<-a3,<-a4,<-a5]
  have e3:opM (kF L) 2=(n0::ns).length:=by
   exact congrArg (λy:n4=>y.2.2.2.1) (mR h2)
  rw[e1];refine Rs.bind (cq0 ih1 (by omega) h3 (by rw[List.length_append,hx1];omega) (by omega) 14 0 ⟨#[]⟩) λz4 h4=>?_;refine Rs.pos ⟨by decide,show(2:Int)< ((L.length:Nat):Int)by omega⟩ (Rs.pos ?_ ?_)
  ·refine decide_eq_true ?_;show((opM (kF L) 2:Nat):Int)>0;rw[e3,List.length_cons];omega
  have hl5:(b++(j5 i++(bL w_if++32::(x++[32,123,10])))++xy).length=b.length+((j5 i).length+((bL w_if).length+(x.length+(0+1+1+1)+1)))+xy.length:=by rw[List.length_append,List.length_append,hx1]
  have hx2:(j5 i++(125::32::(bL w_else++[32,123,10]))).length=(j5 i).length+((bL w_else).length+(0+1+1+1)+1+1):=by simp only[List.length_append,List.length_cons,List.length_nil]
  refine Rs.bind (ln1 (i:=i) (x:=j5 i++(125::32::(bL w_else++[32,123,10]))) (by omega) (by omega) rfl h4 rfl (by rw[hl5,hx2];omega)) λz5 h5=>?_;refine Rs.pos ⟨by decide,show(2:Int)< ((L.length:Nat):Int)by omega⟩ ?_;rw[e2];refine Rs.bind (cq0 ih2 (by omega) h5 (by rw[List.length_append,hl5,hx2];omega) (by omega) 14 0 ⟨#[]⟩) λz6 h6=>?_;refine Rs.bind (ln1 (i:=i) (x:=j5 i++[125,10]) (by omega) (by omega) rfl h6 rfl (by rw[List.length_append,List.length_append,hl5,hx2,List.length_append];show _+(_+2)<=_;omega)) λz7 h7=>Rs.some ?_;have e5:b++(j5 i++(bL w_if++32::(x++[32,123,10])))++xy++(j5 i++(125::32::(bL w_else++[32,123,10])))++xn++(j5 i++[125,10])=b++(j5 i++(bL w_if++32::(x++32::123::10::(xy++(j5 i++125::32::(bL w_else++32::123::10::(xn++(j5 i++[125,10])))))))):=by simp
  rw[e5]at h7;exact h7
 |rep i n ys xy ly dy vy g0 g1 hY ih=>
  intro hd q b z hq hz hl hs;have ih:=ih (by omega);have hi:=p7 i;simp only[szT,szL]at hq hs;simp only[List.length_append,List.length_cons,List.length_nil]at hl;obtain⟨q,rfl⟩:∃q',q=q'+1:=⟨q-1,by omega⟩;refine iW ?_;unfold fP;dsimp only;refine Rs.bind (oQ q n (by omega)) λz1 e1=>Rs.neg (by decide) (Rs.neg (by decide) (Rs.neg (by decide) (Rs.pos rfl ?_)));subst e1;have hx1:(j5 i++(bL w_repeat++32::(bL (itS n)++[32,123,10]))).length=(j5 i).length+((bL w_repeat).length+((bL (itS n)).length+(0+1+1+1)+1)):=by simp only[List.length_append,List.length_cons,List.length_nil]
  refine Rs.bind (ln3 (x:=j5 i++(bL w_repeat++32::(bL (itS n)++[32,123,10]))) (by omega) (by omega) rfl rfl rfl hz (by simp[bL]) (by rw[hx1];omega)) λz3 h3=>?_;refine Rs.pos ⟨by decide,show(0:Int)< ((1:Nat):Int)by decide⟩ ?_;have e1:(opK (kF [.node 14 0 ⟨#[]⟩ ys]) 0,opN (kF [.node 14 0 ⟨#[]⟩ ys]) 0,opS (kF [.node 14 0 ⟨#[]⟩ ys]) 0,opM (kF [.node 14 0 ⟨#[]⟩ ys]) 0,opF (kF [.node 14 0 ⟨#[]⟩ ys]) 0,(i:Int),z3.2.2)=aS (.node 14 0 ⟨#[]⟩ ys) i z3.2.2:=rfl;rw[e1];refine Rs.bind (cq0 ih (by omega) h3 (by rw[List.length_append,hx1];omega) (by omega) 14 0 ⟨#[]⟩) λz4 h4=>?_;have hl5:(b++(j5 i++(bL w_repeat++32::(bL (itS n)++[32,123,10])))++xy).length=b.length+((j5 i).length+((bL w_repeat).length+((bL (itS n)).length+(0+1+1+1)+1)))+xy.length:=by rw[List.length_append,List.length_append,hx1]
  refine Rs.bind (ln1 (i:=i) (x:=j5 i++[125,10]) (by omega) (by omega) rfl h4 rfl (by rw[hl5,List.length_append];show _+(_+2)<=_;omega)) λz5 h5=>Rs.some ?_;have e5:b++(j5 i++(bL w_repeat++32::(bL (itS n)++[32,123,10])))++xy++(j5 i++[125,10])=b++(j5 i++(bL w_repeat++32::(bL (itS n)++32::123::10::(xy++(j5 i++[125,10]))))):=by simp
  rw[e5]at h5;exact h5
 |amt i k w n u x l d hk hP=>
  intro hd q b z hq hz hl hs;simp only[szT,szL]at hq hs;obtain⟨q,rfl⟩:∃q',q=q'+1:=⟨q-1,by omega⟩;refine iW ?_;unfold fP;dsimp only;have hsz:szT (.node 15 n u [])<=1000000:=by simp only[szT,szL];omega
  refine Rs.bind (oQ q 0 (by decide)) λz1 _=>?_;rcases hk with⟨rfl,rfl⟩ | ⟨rfl,rfl⟩
  ·refine Rs.neg (by decide) (Rs.neg (by decide) (Rs.neg (by decide) (Rs.neg (by decide) (Rs.pos rfl ?_))));refine Rs.bind (sZ q 5 0 ⟨#[]⟩ (l:=[.node 15 n u []]) 0 rfl hP hsz) λz2 e2=>?_;subst e2;exact Rs.bind (ln3 (x:=j5 i++(bL be2++32::(x++[59,10]))) (by omega) (by omega) rfl rfl rfl hz (by simp[bL,mkB]) hl) λz3 h3=>Rs.some h3
  ·refine Rs.neg (by decide) (Rs.neg (by decide) (Rs.neg (by decide) (Rs.neg (by decide) (Rs.neg (by decide) (Rs.neg (by decide) (Rs.neg (by decide) (Rs.neg (by decide) (Rs.neg (by decide) (Rs.neg (by decide) (Rs.pos rfl ?_))))))))));refine Rs.bind (sZ q 11 0 ⟨#[]⟩ (l:=[.node 15 n u []]) 0 rfl hP hsz) λz2 e2=>?_;subst e2;exact Rs.bind (ln3 (x:=j5 i++(bL yW++32::(x++[59,10]))) (by omega) (by omega) rfl rfl rfl hz (by simp[bL,mkB]) hl) λz3 h3=>Rs.some h3
 |await i c y m e n u x l d hC hP=>
  intro hd q b z hq hz hl hs;have hsz:szT (.node 15 n u [])<=1000000:=by simp only[szT,szL];omega
  simp only[szT,szL]at hq hs;obtain⟨q,rfl⟩:∃q',q=q'+1:=⟨q-1,by omega⟩;refine iW ?_;unfold fP;dsimp only;refine Rs.bind (oQ q 0 (by decide)) λz1 _=>Rs.neg (by decide) (Rs.neg (by decide) (Rs.neg (by decide) (Rs.neg (by decide) (Rs.neg (by decide) (Rs.pos rfl ?_)))));refine Rs.bind (sZ q 6 0 ⟨#[]⟩ (l:=[c,.node 15 n u []]) 0 rfl hC (by omega)) λz2 e2=>?_;subst e2;refine Rs.bind (sZ q 6 0 ⟨#[]⟩ (l:=[c,.node 15 n u []]) 1 rfl hP hsz) λz3 e3=>?_;subst e3;exact Rs.bind (ln5 (x:=j5 i++(bL w_await++32::(y++32::(bL w_within++32::(x++[59,10]))))) (by omega) (by omega) rfl rfl rfl rfl rfl hz (by simp[bL,mkB]) hl) λz3 h3=>Rs.some h3
 |one i k w a x l d hk hP=>
  intro hd q b z hq hz hl hs;simp only[szT,szL]at hq hs;obtain⟨q,rfl⟩:∃q',q=q'+1:=⟨q-1,by omega⟩;refine iW ?_;unfold fP;dsimp only;refine Rs.bind (oQ q 0 (by decide)) λz1 _=>?_;rcases hk with⟨rfl,rfl⟩ | ⟨rfl,rfl⟩
  ·refine Rs.neg (by decide) (Rs.neg (by decide) (Rs.neg (by decide) (Rs.neg (by decide) (Rs.neg (by decide) (Rs.neg (by decide) (Rs.pos rfl ?_))))));refine Rs.bind (sZ q 7 0 ⟨#[]⟩ (l:=[a]) 0 rfl hP (by omega)) λz2 e2=>?_;subst e2;exact Rs.bind (ln3 (x:=j5 i++(bL qO++32::(x++[59,10]))) (by omega) (by omega) rfl rfl rfl hz (by simp[bL,mkB]) hl) λz3 h3=>Rs.some h3
  ·refine Rs.neg (by decide) (Rs.neg (by decide) (Rs.neg (by decide) (Rs.neg (by decide) (Rs.neg (by decide) (Rs.neg (by decide) (Rs.neg (by decide) (Rs.pos rfl ?_)))))));refine Rs.bind (sZ q 8 0 ⟨#[]⟩ (l:=[a]) 0 rfl hP (by omega)) λz2 e2=>?_;subst e2;exact Rs.bind (ln3 (x:=j5 i++(bL rI++32::(x++[59,10]))) (by omega) (by omega) rfl rfl rfl hz (by simp[bL,mkB]) hl) λz3 h3=>Rs.some h3
 |use i j n u x l d g0 g1 hP=>
  intro hd q b z hq hz hl hs;have hsz:szT (.node 15 n u [])<=1000000:=by simp only[szT,szL];omega
  simp only[szT,szL]at hq hs;obtain⟨q,rfl⟩:∃q',q=q'+1:=⟨q-1,by omega⟩;refine iW ?_;unfold fP;dsimp only;refine Rs.bind (oQ q j (by omega)) λz1 e1=>?_;subst e1;refine Rs.neg (by decide) (Rs.neg (by decide) (Rs.neg (by decide) (Rs.neg (by decide) (Rs.neg (by decide) (Rs.neg (by decide) (Rs.neg (by decide) (Rs.neg (by decide) (Rs.pos rfl ?_))))))));refine Rs.bind (sZ q 9 j ⟨#[]⟩ (l:=[.node 15 n u []]) 0 rfl hP hsz) λz2 e2=>?_;subst e2;exact Rs.bind (ln5 (x:=j5 i++(bL w_use++32::(bL (itS j)++32::(bL w_for++32::(x++[59,10]))))) (by omega) (by omega) rfl rfl rfl rfl rfl hz (by simp[bL,mkB]) hl) λz3 h3=>Rs.some h3
 |send i j n u x l d g0 g1 hP=>
  intro hd q b z hq hz hl hs;have hsz:szT (.node 15 n u [])<=1000000:=by simp only[szT,szL];omega
  simp only[szT,szL]at hq hs;obtain⟨q,rfl⟩:∃q',q=q'+1:=⟨q-1,by omega⟩;refine iW ?_;unfold fP;dsimp only;refine Rs.bind (oQ q j (by omega)) λz1 e1=>?_;subst e1;refine Rs.neg (by decide) (Rs.neg (by decide) (Rs.neg (by decide) (Rs.neg (by decide) (Rs.neg (by decide) (Rs.neg (by decide) (Rs.neg (by decide) (Rs.neg (by decide) (Rs.neg (by decide) (Rs.pos rfl ?_)))))))));refine Rs.bind (sZ q 10 j ⟨#[]⟩ (l:=[.node 15 n u []]) 0 rfl hP hsz) λz2 e2=>?_;subst e2;exact Rs.bind (ln5 (x:=j5 i++(bL w_send++32::(bL (itS j)++44::32::(x++[59,10])))) (by omega) (by omega) rfl rfl rfl rfl rfl hz (by simp[bL,mkB]) hl) λz3 h3=>Rs.some h3
 |nmb i k w j hk g0=>
  intro hd q b z hq hz hl hs;simp only[szT,szL]at hq hs;obtain⟨q,rfl⟩:∃q',q=q'+1:=⟨q-1,by omega⟩;refine iW ?_;unfold fP;dsimp only;refine Rs.bind (oQ q j (by rcases hk with⟨_,_,h⟩ | ⟨_,_,h⟩<;>omega)) λz1 e1=>?_;subst e1;rcases hk with⟨rfl,rfl,h⟩ | ⟨rfl,rfl,h⟩
  ·refine Rs.neg (by decide) (Rs.neg (by decide) (Rs.neg (by decide) (Rs.neg (by decide) (Rs.neg (by decide) (Rs.neg (by decide) (Rs.neg (by decide) (Rs.neg (by decide) (Rs.neg (by decide) (Rs.neg (by decide) (Rs.neg (by decide) (Rs.pos rfl ?_)))))))))));exact Rs.bind (ln3 (x:=j5 i++(bL yV++32::(bL (itS j)++[59,10]))) (by omega) (by omega) rfl rfl rfl hz (by simp[bL,mkB]) hl) λz3 h3=>Rs.some h3
  ·refine Rs.neg (by decide) (Rs.neg (by decide) (Rs.neg (by decide) (Rs.neg (by decide) (Rs.neg (by decide) (Rs.neg (by decide) (Rs.neg (by decide) (Rs.neg (by decide) (Rs.neg (by decide) (Rs.neg (by decide) (Rs.neg (by decide) (Rs.neg (by decide) (Rs.pos rfl ?_))))))))))));exact Rs.bind (ln3 (x:=j5 i++(bL uE++32::(bL (itS j)++[59,10]))) (by omega) (by omega) rfl rfl rfl hz (by simp[bL,mkB]) hl) λz3 h3=>Rs.some h3
 |nil i=>
  intro hd q q2 j k n s L z0 b z hi hq hq2 hL hj hLl hz hl hs;obtain⟨q2,rfl⟩:∃q',q2=q'+1:=⟨q2-1,by simp at hq2;omega⟩;have hjl:L.length<=j:=List.drop_eq_nil_iff.1 hL;unfold uA;refine Rs.step ?_;unfold rC;dsimp only;refine Rs.neg (λh=>by have:=of_decide_eq_true h;omega) (Rs.some ?_);show RB (b++[]) z;rw[List.append_nil];exact hz
 |cons i t ts x l d v xs ls ds vs h1 h2 ih1 ih2=>
  intro hd q q2 j k n s L z0 b z hi hq hq2 hL hj hLl hz hl hs;have ih1:=ih1 (by omega);have ih2:=ih2 (by omega);obtain⟨q2,rfl⟩:∃q',q2=q'+1:=⟨q2-1,by simp at hq2;omega⟩;simp only[szL]at hq hs;rw[List.length_append]at hl
  have hjt:L[j]? =some t:=by
   have:(L.drop j)[0]? =some t:=by rw[hL];rfl
   rw[List.getElem?_drop]at this;simpa using this
  obtain⟨hjl,_⟩:=List.getElem?_eq_some_iff.1 hjt
  have hL2:L.drop (j+1)=ts:=by
   have:(L.drop j).drop 1=ts:=by rw[hL];rfl
   rw[List.drop_drop]at this;exact this
  unfold uA;refine Rs.step3 λQ hQ=>?_;unfold rC;dsimp only;refine Rs.pos (decide_eq_true (by omega)) (Rs.pos ⟨by omega,by omega⟩ ?_);rw[Int.toNat_natCast,s9 (by omega),show i-1+1=i by omega]
  have e1:(opK (kF L) j,opN (kF L) j,opS (kF L) j,opM (kF L) j,opF (kF L) j,(i:Int),z)=aS t i z:=by
   have this:=mR hjt;have a1:=congrArg (λy:n4=>y.1) this;have a2:=congrArg (λy:n4=>y.2.1) this;have a3:=congrArg (λy:n4=>y.2.2.1) this;have a4:=congrArg (λy:n4=>y.2.2.2.1) this;have a5:=congrArg (λy:n4=>y.2.2.2.2) this;dsimp only at a1 a2 a3 a4 a5;unfold aS;rw[<-a1,<-a2,<-a3,<-a4,<-a5]
  rw[e1];refine Rs.bind (ih1 q b z (by omega) hz (by omega) (by omega)) λz2 h2=>Rs.some (hQ _ ?_);rw[s9 (by omega),<-List.append_assoc];exact ih2 q q2 (j+1) k n s L z0 (b++x) z2 hi (by omega) (by simp at hq2;omega) hL2 hjl hLl h2 (by rw[List.length_append];omega) (by omega)
end Go.Proofs.YtjfkkokeegpeiaaDoor
/- What the printer of the program writes: procedures. -/
namespace Go.Proofs.YtjfkkokeegpeiaaDoor
open Go Go.Am Go.Proofs.Lx
set_option maxRecDepth 100000
def ay7(m:Prm):ByteArray:=if m.u=⟨#[]⟩then m.x else m.x++(⟨#[58,32]⟩++m.u)
theorem da1(m:Prm):(ay7 m).data.toList=ay5 m:=by
 unfold ay7 ay5 bL;split
 ·simp
 ·rw[ByteArray.data_append,ByteArray.data_append,Array.toList_append,Array.toList_append];rfl
theorem cc8{β:Type}{m:Prm}(h:az7 m){A:ByteArray->Option β}{P:β->Prop}(hA:Rs (A (ay7 m)) P):
 Rs (if(!ByteArray.toList m.u==ByteArray.toList ⟨#[]⟩)=true then if 2+ByteArray.size m.u<=maxLen then if ByteArray.size m.x+ByteArray.size (⟨#[58,32]⟩++m.u)<=maxLen then A (m.x++(⟨#[58,32]⟩++m.u))else none else none else A m.x) P:=by
 obtain⟨⟨_,hx,_⟩,hu⟩:=h
 have hu:m.u.size<=12:=by
  rcases hu with hu|hu
  ·rw[hu];decide
  ·exact(bj0 _ hu).2
 unfold ay7 at hA;rw[oU];by_cases e:m.u=⟨#[]⟩
 ·rw[if_pos e]at hA;exact Rs.neg (by rw[decide_eq_true e];decide) hA
 ·rw[if_neg e]at hA;refine Rs.pos (by rw[decide_eq_false e];rfl) (Rs.pos (by unfold maxLen;omega) (Rs.pos ?_ hA));rw[ByteArray.size_append];show _+(2+_)<=maxLen;unfold maxLen;omega
theorem fz8(l:List Prm):Lib.join (l.map λm=>(ay7 m).data.toList) [44,32]=cK l:=by
 have tail:∀(m:Prm) (l:List Prm),Lib.join ((m::l).map λm=>(ay7 m).data.toList) [44,32]=cK (m::l):=by
  intro m l
  induction l generalizing m with
  |nil=>rw[List.map_cons,List.map_nil,Lib.join_one,da1];rfl
  |cons n l ih=>
   have:=ih n;rw[List.map_cons,Lib.join_cons]at this⊢;rw[List.map_cons];show _++([44,32]++(ay7 n).data.toList++Lib.joinTail [44,32] (l.map λm=>(ay7 m).data.toList))=ay5 m++44::32::cK (n::l);rw[da1,List.append_assoc,this];rfl
 cases l with
 |nil=>rfl
 |cons m l=>exact tail m l
section
variable (cJ:pC->Option qJ) (cZ:iG->Option kR) (cF:fT->Option fK) (cS:y4->Option eC) (cP:tI->Option tK) (cG:dQ->Option eP) (cH:aT->Option bT)
theorem fj5(x0:i6){ps:List Prm}(hm:∀m∈ps,az7 m)(h12:ps.length<=12)(hQ:x0.2.2.1 0=ps.length)(hN:∀j (h:j<ps.length),x0.2.2.2.1 0 j=ps[j].x)(hU:∀j (h:j<ps.length),x0.2.2.2.2.1 0 j=ps[j].u):∀(q i:Nat) (g:FS),0<i->i<=ps.length->ps.length-i<q->(∀j (h:j<ps.length),j<i->g j=ay7 ps[j])->
 Rs (gN cJ cZ cF cS cP cG cH q x0 (.inr (g,i,(i:Int)))) (λz=>∃g,z= .inr (ps.length,g)/\∀j (h:j<ps.length),g j=ay7 ps[j])
 |0,i,g,_,_,hq,_=>by omega
 |q+1,i,g,h0,hi,hq,hg=>by
  unfold gN;refine Rs.step3 λQ hQ2=>?_;dsimp only[Sum.elim];unfold mX;dsimp only;rw[hQ];by_cases hil:i<ps.length
  ·refine Rs.pos (decide_eq_true (by omega)) (Rs.pos ⟨by omega,by omega⟩ ?_);rw[Int.toNat_natCast,hN i hil,hU i hil];refine cc8 (hm _ (List.getElem_mem hil)) (A:=λt=>if(i+1)*16<=d5/\i+1<=maxLen/\i<=i then some (Sum.inl (Sum.inr (λj=>if j<i then g j else t,i+1,w ((i:Int)+1)):cL))else none) ?_;refine Rs.pos ⟨by unfold d5;omega,by unfold maxLen;omega,Nat.le_refl _⟩ (Rs.some (hQ2 _ ?_));rw[s9 (by omega)];refine fj5 x0 hm h12 hQ hN hU q (i+1) _ (by omega) hil (by omega) λj hj hj1=>?_;by_cases hji:j<i
   ·rw[if_pos hji];exact hg j hj hji
   ·rw[if_neg hji];obtain rfl:j=i:=by omega
    rfl
  ·obtain rfl:i=ps.length:=by omega
   exact Rs.neg (λh=>by have:=of_decide_eq_true h;omega) (Rs.some ⟨g,rfl,λj hj=>hg j hj hj⟩)
theorem ii9(x0:i6){ps:List Prm}(hm:∀m∈ps,az7 m)(h12:ps.length<=12)(hQ:x0.2.2.1 0=ps.length)(hN:∀j (h:j<ps.length),x0.2.2.2.1 0 j=ps[j].x)(hU:∀j (h:j<ps.length),x0.2.2.2.2.1 0 j=ps[j].u){q:Nat}(hq:20<=q):
 Rs (gN cJ cZ cF cS cP cG cH q x0 (.inl ())) (λz=>(ps=[]/\z= .inl ())\/∃g,z= .inr (ps.length,g)/\∀j (h:j<ps.length),g j=ay7 ps[j]):=by
 obtain⟨q,rfl⟩:∃q',q=q'+1:=⟨q-1,by omega⟩;unfold gN;refine Rs.step3 λQ hQ2=>?_;dsimp only[Sum.elim];unfold nC;dsimp only;rw[hQ];cases ps with
 |nil=>exact Rs.neg (by decide) (Rs.some (.inl ⟨rfl,rfl⟩))
 |cons m ps=>
  refine Rs.pos (decide_eq_true (by rw[List.length_cons];omega)) (Rs.pos ⟨by omega,by rw[List.length_cons];omega⟩ ?_);rw[hN 0 (by simp),hU 0 (by simp)];refine cc8 (m:=m) (hm m (by simp)) (A:=λt=>some (Sum.inl (Sum.inr (λ_=>t,1,1):cL))) (Rs.some (hQ2 _ ?_));refine(fj5 cJ cZ cF cS cP cG cH x0 hm h12 hQ hN hU q 1 _ (by omega) (by simp) (by omega) λj hj hj1=>?_).mono λz h=>.inr h;obtain rfl:j=0:=by omega
  rfl
theorem eg3(x0:i6){ps:List Prm}(hm:∀m∈ps,az7 m)(h12:ps.length<=12)(i0:Int)(Nf Uf:FS)(bn:Nat)(bf:FI)(nm:ByteArray)(k n:Int)(s:ByteArray)(c:Nat)(f:FL)(hN:∀j (h:j<ps.length),Nf j=ps[j].x)(hU:∀j (h:j<ps.length),Uf j=ps[j].u):∀(q i:Nat) (g:FS),0<i->i<=ps.length->ps.length-i<q->(∀j (h:j<ps.length),j<i->g j=ay7 ps[j])->
 Rs (x9 cJ cZ cF cS cP cG cH q x0 (.inr (i0,ps.length,Nf,Uf,((ps.length:Nat):Int),bn,bf,nm,k,n,s,c,f,g,i,(i:Int)))) (λz=>∃g,z= .inr (ps.length,i0,bn,bf,nm,ps.length,Nf,Uf,k,n,s,c,f,g)/\∀j (h:j<ps.length),g j=ay7 ps[j])
 |0,i,g,_,_,hq,_=>by omega
 |q+1,i,g,h0,hi,hq,hg=>by
  unfold x9;refine Rs.step3 λQ hQ2=>?_;dsimp only[Sum.elim];unfold hJ;dsimp only;by_cases hil:i<ps.length
  ·refine Rs.pos (decide_eq_true (by omega)) (Rs.pos ⟨by omega,by omega⟩ ?_)
   have em:ps[i]=⟨Nf i,Uf i⟩:=by
    have e1:=hN i hil;have e2:=hU i hil;generalize ps[i]=m at*;cases m;rw[e1,e2]
   refine cc8 (m:=⟨Nf i,Uf i⟩) (em▸hm _ (List.getElem_mem hil)) (A:=λt=>if(i+1)*16<=d5/\i+1<=maxLen/\i<=i then some (Sum.inl (Sum.inr (i0,ps.length,Nf,Uf,((ps.length:Nat):Int),bn,bf,nm,k,n,s,c,f,λj=>if j<i then g j else t,i+1,w ((i:Int)+1)):x6))else none) ?_;refine Rs.pos ⟨by unfold d5;omega,by unfold maxLen;omega,Nat.le_refl _⟩ (Rs.some (hQ2 _ ?_));rw[s9 (by omega)];refine eg3 x0 hm h12 i0 Nf Uf bn bf nm k n s c f hN hU q (i+1) _ (by omega) hil (by omega) λj hj hj1=>?_;by_cases hji:j<i
   ·rw[if_pos hji];exact hg j hj hji
   ·rw[if_neg hji];obtain rfl:j=i:=by omega
    rw[em]
  ·obtain rfl:i=ps.length:=by omega
   exact Rs.neg (λh=>by have:=of_decide_eq_true h;omega) (Rs.some ⟨g,rfl,λj hj=>hg j hj hj⟩)
theorem ib3(x0:i6){ps:List Prm}(hm:∀m∈ps,az7 m)(h12:ps.length<=12)(i0:Int)(Nf Uf:FS)(bn:Nat)(bf:FI)(nm:ByteArray)(k n:Int)(s:ByteArray)(c:Nat)(f:FL)(hN:∀j (h:j<ps.length),Nf j=ps[j].x)(hU:∀j (h:j<ps.length),Uf j=ps[j].u){q:Nat}(hq:20<=q):
 Rs (x9 cJ cZ cF cS cP cG cH q x0 (.inl (i0,ps.length,Nf,Uf,((ps.length:Nat):Int),bn,bf,nm,k,n,s,c,f))) (λz=>(ps=[]/\z= .inl (i0,bn,bf,nm,ps.length,Nf,Uf,k,n,s,c,f))\/∃g,z= .inr (ps.length,i0,bn,bf,nm,ps.length,Nf,Uf,k,n,s,c,f,g)/\∀j (h:j<ps.length),g j=ay7 ps[j]):=by
 obtain⟨q,rfl⟩:∃q',q=q'+1:=⟨q-1,by omega⟩;unfold x9;refine Rs.step3 λQ hQ2=>?_;dsimp only[Sum.elim];unfold gT;dsimp only;cases ps with
 |nil=>exact Rs.neg (show¬decide ((0:Int)< ((0:Nat):Int))=true by decide) (Rs.some (.inl ⟨rfl,rfl⟩))
 |cons m ps=>
  refine Rs.pos (decide_eq_true (by rw[List.length_cons];omega)) (Rs.pos ⟨by omega,by rw[List.length_cons];omega⟩ ?_)
  have em:m=⟨Nf 0,Uf 0⟩:=by
   have e1:Nf 0=m.x:=hN 0 (by simp);have e2:Uf 0=m.u:=hU 0 (by simp);rw[e1,e2]
  refine cc8 (m:=⟨Nf 0,Uf 0⟩) (em▸hm m (by simp)) (A:=λt=>some (Sum.inl (Sum.inr (i0,(m::ps).length,Nf,Uf,(((m::ps).length:Nat):Int),bn,bf,nm,k,n,s,c,f,λ_=>t,1,1):x6))) (Rs.some (hQ2 _ ?_));refine(eg3 cJ cZ cF cS cP cG cH x0 hm h12 i0 Nf Uf bn bf nm k n s c f hN hU q 1 _ (by omega) (by simp) (by omega) λj hj hj1=>?_).mono λz h=>.inr h;obtain rfl:j=0:=by omega
  rw[<-em];rfl
end
end Go.Proofs.YtjfkkokeegpeiaaDoor

