/- Texts joined. -/
import Derived.Test.YtjfkkokeegpeiaaGreatDoorQD
import Derived.Lib.IndexMore
/- Plain: what a token's text is. -/
set_option linter.unusedSimpArgs false
set_option linter.unusedVariables false
namespace Go.Proofs.Lx
open Go
theorem cg7(g:Int→Bool)(l:List UInt8):j6 g l≤l.length:=(List.takeWhile_sublist _).length_le
theorem bt7(g:Int→Bool)(l:List UInt8):∀j,j<j6 g l→∃b,l[j]? =some b∧g b.toNat=true:=by
 induction l with
 |nil=>intro j h;simp[j6]at h
 |cons b l ih=>
  intro j h
  cases hb:g b.toNat
  ·simp[j6,List.takeWhile_cons,hb]at h
  ·cases j with
   |zero=>exact⟨b,rfl,hb⟩
   |succ j=>
    have:j<j6 g l:=by
     simp only[j6,List.takeWhile_cons,hb,if_true,List.length_cons]at h⊢
     omega
    obtain⟨c,h1,h2⟩:=ih j this
    exact⟨c,by simpa using h1,h2⟩
theorem dc1(g:Int→Bool)(b:UInt8)(l:List UInt8)(h:g b.toNat=true):1≤j6 g (b::l):=by
 simp[j6,List.takeWhile_cons,h]
theorem an2(s:ByteArray)(p:Nat)(h:p≤s.size):(s.extract p s.size).data.toList=s.data.toList.drop p:=by
 rw[dM,List.take_of_length_le (by simp)]
theorem gi1(s:ByteArray)(p:Nat):(s.extract p s.size).size=s.size-p:=by simp
theorem aB{a b:ByteArray}(h:a.data.toList=b.data.toList):a=b:=by
 obtain⟨⟨a⟩⟩:=a
 obtain⟨⟨b⟩⟩:=b
 simp only at h
 rw[h]
theorem hg9(s:ByteArray)(p n:Nat)(h:p+n≤s.size):(s.extract p s.size).extract 0 n=s.extract p (p+n):=by
 have e:((s.extract p s.size).extract 0 n).data.toList=(s.extract p (p+n)).data.toList:=by
  rw[dM,dM,dM,List.drop_zero,Nat.sub_zero,List.take_take,Nat.min_eq_left (by omega),Nat.add_sub_cancel_left]
 exact aB e
theorem gs2(s:ByteArray)(j:Nat)(b:UInt8)(h:s.data.toList[j]? =some b):j<s.size∧s.get! j=b:=by
 have hl:j<s.size:=by
  rw[List.getElem?_eq_some_iff]at h
  obtain⟨h,_⟩:=h
  simpa using h
 rw[co4 s j hl]at h
 exact⟨hl,by injection h⟩
theorem fs7(c:Int)(h:aE c=true):c<128:=by simp[aE,p8,l6]at h;omega
theorem ge3(c:Int)(h:l6 c=true):c<128:=by simp[l6]at h;omega
theorem gv9{s:ByteArray}{p:Nat}(g:Int→Bool)(hg:∀c,g c=true→c<128)(hp:p<s.size)(h0:g (s.get! p).toNat=true):
 1≤j6 g (s.data.toList.drop p)∧p+j6 g (s.data.toList.drop p)≤s.size∧∀j,p≤j→j<p+j6 g (s.data.toList.drop p)→(s.get! j).toNat<128:=by
 refine⟨?_,?_,?_⟩
 ·rw[iS s p hp];exact dc1 g _ _ h0
 ·have:=cg7 g (s.data.toList.drop p)
  simp at this
  omega
 ·intro j h1 h2
  obtain⟨b,hb,hgb⟩:=bt7 g (s.data.toList.drop p) (j-p) (by omega)
  rw[List.getElem?_drop,show p+(j-p)=j by omega]at hb
  rw[(gs2 s j b hb).2]
  have:=hg _ hgb
  omega
theorem id6{s:ByteArray}{p:Nat}(hp:p<s.size)(hn:ac8 (s.data.toList.drop p)≠0):
 1≤ac8 (s.data.toList.drop p)∧p+ac8 (s.data.toList.drop p)≤s.size∧∀j,p≤j→j<p+ac8 (s.data.toList.drop p)→(s.get! j).toNat<128:=by
 unfold ac8 at hn⊢
 by_cases h2:1< (s.data.toList.drop p).length∧(s.data.toList.drop p).take 2∈aj1
 ·rw[if_pos h2]
  obtain⟨hl,hm⟩:=h2
  have hl':p+2≤s.size:=by simp at hl;omega
  refine⟨by omega,hl',fun j h1 h2=>?_⟩
  rw[iS s p hp,iS s (p+1) (by omega)]at hm
  simp only[List.take_succ_cons,List.take_zero,aj1,List.mem_cons,List.cons.injEq,and_true,List.not_mem_nil,or_false]at hm
  have hj:j=p∨j=p+1:=by omega
  rcases hj with rfl|rfl<;>rcases hm with h|h|h|h|h|h<;>simp[h.1,h.2]
 ·rw[if_neg h2]at hn⊢
  rw[iS s p hp]at hn⊢
  simp only[List.head?_cons,Option.any_some]at hn⊢
  cases hc:sym1.contains (s.get! p)
  ·rw[hc]at hn;exact absurd rfl hn
  ·simp only[cond_true]
   refine⟨by omega,by omega,fun j h1 h2=>?_⟩
   obtain rfl:j=p:=by omega
   have hm:=List.contains_iff_mem.1 hc
   simp only[sym1,List.mem_cons,List.not_mem_nil,or_false]at hm
   rcases hm with h|h|h|h|h|h|h|h|h|h|h|h|h|h|h|h<;>simp[h]
theorem at4{s:ByteArray}{p:Nat}{x:Tkn}(hp:p<s.size)(h:wM s p=(x,0)):
 x.a=0∧1≤x.t.size∧p+x.t.size≤s.size∧x.t=s.extract p (p+x.t.size)∧∀j,p≤j→j<p+x.t.size→(s.get! j).toNat<128:=by
 have hsz:∀n,p+n≤s.size→(s.extract p (p+n)).size=n:=fun n hn=>by simp;omega
 have fin:∀n,1≤n→p+n≤s.size→(∀j,p≤j→j<p+n→(s.get! j).toNat<128)→∀y:Tkn,y.a=0→y.t=(s.extract p s.size).extract 0 n→
  y.a=0∧1≤y.t.size∧p+y.t.size≤s.size∧y.t=s.extract p (p+y.t.size)∧∀j,p≤j→j<p+y.t.size→(s.get! j).toNat<128:=by
  intro n h1 h2 h3 y ha hy
  rw[hg9 s p n h2]at hy
  rw[hy,hsz n h2]
  exact⟨ha,h1,h2,rfl,h3⟩
 unfold wM at h
 by_cases hl:p8 (s.get! p).toNat=true
 ·rw[if_pos hl]at h
  unfold by5 at h
  by_cases h12:12<j6 aE (s.extract p s.size).data.toList
  ·rw[if_pos h12]at h;simp at h
  ·rw[if_neg h12,an2 s p (by omega)]at h
   have hw:aE (s.get! p).toNat=true:=by simp[aE,hl]
   obtain⟨h1,h2,h3⟩:=gv9 aE fs7 hp hw
   simp only[Prod.mk.injEq,and_true]at h
   subst h
   exact fin _ h1 h2 h3 _ rfl rfl
 ·rw[if_neg hl]at h
  by_cases hd:l6 (s.get! p).toNat=true
  ·rw[if_pos hd,an2 s p (by omega)]at h
   obtain⟨h1,h2,h3⟩:=gv9 l6 ge3 hp hd
   unfold rO at h
   split at h
   ·simp at h
   ·split at h
    ·simp at h
    ·simp only[Prod.mk.injEq,and_true]at h
     subst h
     exact fin _ h1 h2 h3 _ rfl rfl
  ·rw[if_neg hd]at h
   unfold lD at h
   rw[an2 s p (by omega)]at h
   by_cases h0:ac8 (s.data.toList.drop p)=0
   ·rw[if_pos h0]at h;simp at h
   ·rw[if_neg h0]at h
    obtain⟨h1,h2,h3⟩:=id6 hp h0
    simp only[Prod.mk.injEq,and_true]at h
    subst h
    exact fin _ h1 h2 h3 _ rfl rfl
theorem fm2 {s : ByteArray} {p : Nat} (hp : p < s.size) (h : (s.get! p).toNat = 35) :
 1 ≤ j6 qV (s.data.toList.drop p) ∧ p + j6 qV (s.data.toList.drop p) ≤ s.size ∧ Bd s p (p + j6 qV (s.data.toList.drop p)) := by
 have h1 : 1 ≤ j6 qV (s.data.toList.drop p) := by rw [iS s p hp]; exact dc1 _ _ _ (by rw [h]; rfl)
 have h2 : p + j6 qV (s.data.toList.drop p) ≤ s.size := by
  have := cg7 qV (s.data.toList.drop p)
  simp at this
  omega
 refine ⟨h1, h2, ?_⟩
 rcases Nat.eq_or_lt_of_le h2 with he | hlt
 ·exact .inr (.inl he)
 ·right; right
  refine ⟨hlt, ?_⟩
  -- the byte behind the pL is a line feed
  have key : ∀ (l : List UInt8), j6 qV l < l.length → l[j6 qV l]? = some 10 := by
   intro l
   induction l with
   | nil => intro h; simp at h
   | cons b l ih =>
    intro h
    cases hb : qV b.toNat
    ·have : b.toNat = 10 := by simp [qV] at hb; omega
     have hb10 : b = 10 := UInt8.toNat_inj.1 (by simpa using this)
     simp [j6, hb10, qV]
    ·have e : j6 qV (b :: l) = j6 qV l + 1 := by simp [j6, List.takeWhile_cons, hb]
     rw [e] at h ⊢
     simpa using ih (by simpa using h)
  have := key (s.data.toList.drop p) (by simp; omega)
  rw [List.getElem?_drop] at this
  rw [(gs2 s _ _ this).2]
  decide
end Go.Proofs.Lx
/- Plain: Lex is a function; it is reckoned. -/
namespace Go.Proofs.Lx
open Go
theorem hi7{s:ByteArray}{p:Nat}{acc:List Tkn}{r r':List Tkn×Nat×Int}(h:Lex s p acc r):Lex s p acc r'→r=r':=by
 induction h with
 |fin hp=>intro h';cases h'<;>first|rfl|omega
 |white hp hw _ ih=>
  intro h'
  cases h' with
  |fin h=>omega
  |white _ _ h=>exact ih h
  |hash _ h35 _=>rw[h35]at hw;exact absurd hw (by decide)
  |tok _ h _ _ _=>rw[hw]at h;cases h
  |err _ h _ _ _=>rw[hw]at h;cases h
 |hash hp h35 _ ih=>
  intro h'
  cases h' with
  |fin h=>omega
  |white _ hw _=>rw[h35]at hw;exact absurd hw (by decide)
  |hash _ _ h=>exact ih h
  |tok _ _ h _ _=>exact absurd h35 h
  |err _ _ h _ _=>exact absurd h35 h
 |tok hp hw h35 ht _ ih=>
  intro h'
  cases h' with
  |fin h=>omega
  |white _ h _=>rw[hw]at h;cases h
  |hash _ h _=>exact absurd h h35
  |tok _ _ _ h h2=>
   rw[ht]at h
   simp only[Prod.mk.injEq,and_true]at h
   subst h
   exact ih h2
  |err _ _ _ h he=>
   rw[ht]at h
   simp only[Prod.mk.injEq]at h
   exact absurd h.2.symm he
 |err hp hw h35 ht he=>
  intro h'
  cases h' with
  |fin h=>omega
  |white _ h _=>rw[hw]at h;cases h
  |hash _ h _=>exact absurd h h35
  |tok _ _ _ h _=>
   rw[ht]at h
   simp only[Prod.mk.injEq]at h
   exact absurd h.2 he
  |err _ _ _ h _=>
   rw[ht]at h
   simp only[Prod.mk.injEq]at h
   rw[h.2]
def gb4(s:ByteArray):Nat→Nat→List Tkn→Option (List Tkn×Nat×Int)
 |0,_,_=>none
 |f+1,p,acc=>
  if p<s.size then
   if bD (s.get! p).toNat=true then gb4 s f (p+1) acc
   else if(s.get! p).toNat=35 then gb4 s f (p+j6 qV (s.data.toList.drop p)) acc
   else if(wM s p).2=0 then gb4 s f (p+(wM s p).1.t.size) (acc++[{(wM s p).1 with a:=p}])
   else some ([],p,(wM s p).2)
  else some (acc++[⟨0,s.size,⟨#[]⟩,0⟩],0,0)
theorem dm7{s:ByteArray}:∀(f p:Nat) (acc:List Tkn) (r:List Tkn×Nat×Int),gb4 s f p acc=some r→Lex s p acc r:=by
 intro f
 induction f with
 |zero=>intro p acc r h;simp[gb4]at h
 |succ f ih=>
  intro p acc r h
  rw[gb4]at h
  by_cases hp:p<s.size
  ·rw[if_pos hp]at h
   by_cases hw:bD (s.get! p).toNat=true
   ·rw[if_pos hw]at h;exact .white hp hw (ih _ _ _ h)
   ·rw[if_neg hw]at h
    have hw':bD (s.get! p).toNat=false:=by simpa using hw
    by_cases h35:(s.get! p).toNat=35
    ·rw[if_pos h35]at h;exact .hash hp h35 (ih _ _ _ h)
    ·rw[if_neg h35]at h
     by_cases ht:(wM s p).2=0
     ·rw[if_pos ht]at h;exact .tok (x:=(wM s p).1) hp hw' h35 (Prod.ext rfl ht) (ih _ _ _ h)
     ·rw[if_neg ht,Option.some.injEq]at h
      subst h
      exact .err (x:=(wM s p).1) hp hw' h35 rfl ht
  ·rw[if_neg hp,Option.some.injEq]at h
   subst h
   exact .fin (by omega)
def fN(s:ByteArray)(r:List Tkn×Nat×Int):Prop:=(4000<s.size∧r=([],4000,2))∨(s.size≤4000∧Lex s 0 [] r)
theorem wT{s:ByteArray}{r r':List Tkn×Nat×Int}(h:fN s r)(h':fN s r'):r=r':=by
 rcases h with⟨h1,rfl⟩ | ⟨h1,h2⟩<;>rcases h' with⟨h3,rfl⟩ | ⟨h3,h4⟩
 ·rfl
 ·omega
 ·omega
 ·exact hi7 h2 h4
def ex1:List Tkn:=[⟨1,0,⟨#[120]⟩,0⟩,⟨3,1,⟨#[60,61]⟩,0⟩,⟨2,3,⟨#[49,48]⟩,10⟩,⟨0,9,⟨#[]⟩,0⟩]
end Go.Proofs.Lx
/- Plain: the parser, as a function of tokens. -/
namespace Go.Proofs.Lx
open Go
abbrev sOr:ByteArray:=⟨#[124,124]⟩
abbrev gj9:ByteArray:=⟨#[38,38]⟩
abbrev sLt:ByteArray:=⟨#[60]⟩
abbrev sLe:ByteArray:=⟨#[60,61]⟩
abbrev sGt:ByteArray:=⟨#[62]⟩
abbrev sGe:ByteArray:=⟨#[62,61]⟩
abbrev sEq:ByteArray:=⟨#[61,61]⟩
abbrev sNe:ByteArray:=⟨#[33,61]⟩
abbrev ib6:ByteArray:=⟨#[43]⟩
abbrev sW:ByteArray:=⟨#[45]⟩
abbrev hv0:ByteArray:=⟨#[42]⟩
abbrev hw8:ByteArray:=⟨#[47]⟩
abbrev oH:ByteArray:=⟨#[33]⟩
abbrev nG:ByteArray:=⟨#[40]⟩
abbrev jS:ByteArray:=⟨#[41]⟩
abbrev cv8:ByteArray:=⟨#[123]⟩
abbrev dk1:ByteArray:=⟨#[125]⟩
abbrev cm8:ByteArray:=⟨#[61]⟩
abbrev aj6:ByteArray:=⟨#[59]⟩
abbrev mN:ByteArray:=⟨#[44]⟩
abbrev cl8:ByteArray:=⟨#[58]⟩
abbrev eo6:ByteArray:=⟨#[46]⟩
abbrev w_procedure:ByteArray:=⟨#[112,114,111,99,101,100,117,114,101]⟩
abbrev bk8:ByteArray:=⟨#[108,101,116]⟩
abbrev sU:ByteArray:=⟨#[105,102]⟩
abbrev oO:ByteArray:=⟨#[101,108,115,101]⟩
abbrev bX:ByteArray:=⟨#[114,101,112,101,97,116]⟩
abbrev be2:ByteArray:=⟨#[119,97,105,116]⟩
abbrev tS:ByteArray:=⟨#[97,119,97,105,116]⟩
abbrev jF:ByteArray:=⟨#[119,105,116,104,105,110]⟩
abbrev qO:ByteArray:=⟨#[114,101,113,117,105,114,101]⟩
abbrev rI:ByteArray:=⟨#[112,111,105,110,116]⟩
abbrev an0:ByteArray:=⟨#[117,115,101]⟩
abbrev al3:ByteArray:=⟨#[102,111,114]⟩
abbrev ac9:ByteArray:=⟨#[115,101,110,100]⟩
abbrev yW:ByteArray:=⟨#[107,101,101,112]⟩
abbrev yV:ByteArray:=⟨#[101,109,105,116]⟩
abbrev uE:ByteArray:=⟨#[97,98,111,114,116]⟩
abbrev w_true:ByteArray:=⟨#[116,114,117,101]⟩
abbrev w_false:ByteArray:=⟨#[102,97,108,115,101]⟩
abbrev ch7:ByteArray:=⟨#[116,108,109]⟩
def keywords:List ByteArray:=[w_procedure,bk8,sU,oO,bX,be2,tS,jF,qO,rI,an0,al3,ac9,yW,yV,uE,w_true,w_false,ch7]
def ad0:List ByteArray:=[⟨#[74]⟩,⟨#[107,74]⟩,⟨#[87,104]⟩,⟨#[66]⟩,⟨#[107,66]⟩,⟨#[115]⟩,⟨#[109,105,110]⟩,⟨#[104]⟩,⟨#[100,101,103]⟩,⟨#[75]⟩,⟨#[87]⟩,⟨#[107,87]⟩,⟨#[66,112,115]⟩]
def inP(l:List ByteArray)(x:ByteArray):Bool:=l.any fun v=>decide (v=x)
theorem inP_iff{l:List ByteArray}{x:ByteArray}:inP l x=true↔x∈l:=by
 simp only[inP,List.any_eq_true,decide_eq_true_eq]
 exact⟨fun⟨v,h,e⟩=>e▸h,fun h=>⟨x,h,rfl⟩⟩
def resP(s:ByteArray):Bool:=inP keywords s
def vW(s:ByteArray):Bool:=inP ad0 s
def j8(s:ByteArray):Nat:=
 if s=sOr then 1 else if s=gj9 then 2 else if s=sLt∨s=sLe∨s=sGt∨s=sGe∨s=sEq∨s=sNe then 4 else if s=ib6∨s=sW then 5 else if s=hv0∨s=hw8 then 6 else 0
inductive Tr where
 |node (k n:Int) (s:ByteArray) (l:List Tr):Tr
structure PS where
 p:Nat
 o:Nat
 vs:List ByteArray
inductive PR(α:Type) where
 |ok (x:α) (s:PS)
 |err (p:Nat) (c:Int)
 |out
def PR.bind{α β:Type}(r:PR α)(f:α→PS→PR β):PR β:=match r with
 | .ok x s=>f x s
 | .err p c=>.err p c
 | .out=>.out
section
variable (T:Nat→Tkn)
def adv(s:PS):PS:={s with p:=s.p+1}
def isP(w:ByteArray)(s:PS):Bool:=decide ((T s.p).t=w)
def y7(w:ByteArray)(s:PS):PR Unit:=if isP T w s then .ok () (adv s)else .err s.p 11
def eG(w:ByteArray)(s:PS):PR Unit:=if isP T w s then(if s.o=12 then .err s.p 2 else .ok () {s with p:=s.p+1,o:=s.o+1})else .err s.p 11
def lI(s:PS):PS:={s with o:=s.o-1}
def fD(s:PS):PR ByteArray:=if(T s.p).k≠1∨resP (T s.p).t=true then .err s.p 11 else .ok (T s.p).t (adv s)
def zL(s:PS):PR ByteArray:=(fD T s).bind fun x s'=>
 if inP s.vs x=true then .err s.p 4 else if s.vs.length=12 then .err s.p 2 else .ok x {s' with vs:=s.vs++[x]}
def tB(lo hi:Int)(s:PS):PR Int:=if(T s.p).k≠2 then .err s.p 11 else if(T s.p).n<lo∨hi< (T s.p).n then .err s.p 5 else .ok (T s.p).n (adv s)
def tA(s:PS):PR Tr:=(tB T 0 2147483647 s).bind fun n s'=>
 if(T s'.p).k=1∧vW (T s'.p).t=true then .ok (.node 15 n (T s'.p).t []) (adv s')else .ok (.node 15 n ⟨#[]⟩ []) s'
mutual
def o9:Nat→Nat→PS→PR Tr
 |0,_,_=>.out
 |f+1,lv,s=>
  if lv=3∧isP T oH s=true then fQ f oH 3 s
  else if lv=7∧isP T sW s=true then fQ f sW 7 s
  else if lv=8 then jX f s
  else(o9 f (lv+1) s).bind fun n s'=>mP f lv n s'
def mP:Nat→Nat→Tr→PS→PR Tr
 |0,_,_,_=>.out
 |f+1,lv,n,s=>
  if j8 (T s.p).t=lv∧(T s.p).k=3 then
   (o9 f (lv+1) (adv s)).bind fun m s'=>if lv=4 then .ok (.node 20 0 (T s.p).t [n,m]) s' else mP f lv (.node 20 0 (T s.p).t [n,m]) s'
  else .ok n s
def fQ:Nat→ByteArray→Nat→PS→PR Tr
 |0,_,_,_=>.out
 |f+1,w,lv,s=>(eG T w s).bind fun _ s1=>(o9 f lv s1).bind fun n s2=>.ok (.node 19 0 w [n]) (lI s2)
def jX:Nat→PS→PR Tr
 |0,_=>.out
 |f+1,s=>
  if(T s.p).k=2 then tA T s
  else if isP T w_true s=true then .ok (.node 16 1 ⟨#[]⟩ []) (adv s)
  else if isP T w_false s=true then .ok (.node 16 0 ⟨#[]⟩ []) (adv s)
  else if isP T ch7 s=true then(y7 T eo6 (adv s)).bind fun _ s1=>(fD T s1).bind fun x s2=>.ok (.node 18 0 x []) s2
  else if isP T nG s=true then(eG T nG s).bind fun _ s1=>(o9 f 1 s1).bind fun n s2=>(y7 T jS s2).bind fun _ s3=>.ok n (lI s3)
  else(fD T s).bind fun x s1=>.ok (.node 17 0 x []) s1
end
def endP(n:Tr)(s:PS):PR Tr:=(y7 T aj6 s).bind fun _ s'=>.ok n s'
def el7(f:Nat)(k:Int)(x:ByteArray)(s:PS):PR Tr:=(y7 T cm8 s).bind fun _ s1=>(o9 T f 1 s1).bind fun n s2=>endP T (.node k 0 x [n]) s2
def oneP(f:Nat)(k:Int)(s:PS):PR Tr:=(o9 T f 1 s).bind fun n s2=>endP T (.node k 0 ⟨#[]⟩ [n]) s2
def ga8(k:Int)(s:PS):PR Tr:=(tA T s).bind fun n s2=>endP T (.node k 0 ⟨#[]⟩ [n]) s2
def dn2(f:Nat)(s:PS):PR Tr:=(o9 T f 1 s).bind fun c s1=>(y7 T jF s1).bind fun _ s2=>(tA T s2).bind fun n s3=>endP T (.node 6 0 ⟨#[]⟩ [c,n]) s3
def fu2(k hi:Int)(s:PS):PR Tr:=(tB T 0 hi s).bind fun n s1=>endP T (.node k n ⟨#[]⟩ []) s1
def fq6(k:Int)(w:ByteArray)(s:PS):PR Tr:=(tB T 0 7 s).bind fun n s1=>(y7 T w s1).bind fun _ s2=>(tA T s2).bind fun m s3=>endP T (.node k n ⟨#[]⟩ [m]) s3
mutual
def bC:Nat→PS→PR Tr
 |0,_=>.out
 |f+1,s=>(eG T cv8 s).bind fun _ s1=>(dZ f s1).bind fun l s2=>.ok (.node 14 0 ⟨#[]⟩ l) (lI s2)
def dZ:Nat→PS→PR (List Tr)
 |0,_=>.out
 |f+1,s=>if isP T dk1 s=true then .ok [] (adv s)else(xQ f s).bind fun n s1=>(dZ f s1).bind fun l s2=>.ok (n::l) s2
def xQ:Nat→PS→PR Tr
 |0,_=>.out
 |f+1,s=>
  if isP T bk8 s=true then(zL T (adv s)).bind fun x s1=>el7 T f 1 x s1
  else if isP T sU s=true then(o9 T f 1 (adv s)).bind fun c s1=>(bC f s1).bind fun y s2=>
   if isP T oO s2=true then(bC f (adv s2)).bind fun n s3=>.ok (.node 3 0 ⟨#[]⟩ [c,y,n]) s3 else .ok (.node 3 0 ⟨#[]⟩ [c,y,.node 14 0 ⟨#[]⟩ []]) s2
  else if isP T bX s=true then(tB T 1 100 (adv s)).bind fun n s1=>(bC f s1).bind fun y s2=>.ok (.node 4 n ⟨#[]⟩ [y]) s2
  else if isP T tS s=true then dn2 T f (adv s)
  else if isP T be2 s=true then ga8 T 5 (adv s)
  else if isP T yW s=true then ga8 T 11 (adv s)
  else if isP T qO s=true then oneP T f 7 (adv s)
  else if isP T rI s=true then oneP T f 8 (adv s)
  else if isP T an0 s=true then fq6 T 9 al3 (adv s)
  else if isP T ac9 s=true then fq6 T 10 mN (adv s)
  else if isP T yV s=true then fu2 T 12 99 (adv s)
  else if isP T uE s=true then fu2 T 13 999 (adv s)
  else(fD T s).bind fun x s1=>el7 T f 2 x s1
end
structure Prm where
 x:ByteArray
 u:ByteArray
structure Prc where
 x:ByteArray
 ps:List Prm
 b:Tr
def ga3(s:PS):PR Prm:=(zL T s).bind fun x s1=>
 if isP T cl8 s1=true then
  (if(T (s1.p+1)).k≠1 then .err (s1.p+1) 11 else if vW (T (s1.p+1)).t=false then .err (s1.p+1) 10 else .ok ⟨x,(T (s1.p+1)).t⟩ (adv (adv s1)))
 else .ok ⟨x,⟨#[]⟩⟩ s1
def cf6:Nat→PS→PR (List Prm)
 |0,_=>.out
 |f+1,s=>(ga3 T s).bind fun x s1=>if isP T mN s1=true then(cf6 f (adv s1)).bind fun l s2=>.ok (x::l) s2 else(y7 T jS s1).bind fun _ s2=>.ok [x] s2
def mC(f:Nat)(s:PS):PR (List Prm):=(y7 T nG s).bind fun _ s1=>if isP T jS s1=true then .ok [] (adv s1)else cf6 T f s1
def aj7(f:Nat)(pr:List ByteArray)(s:PS):PR Prc:=(y7 T w_procedure s).bind fun _ s1=>(fD T s1).bind fun x s2=>
 if inP pr x=true then .err s1.p 4 else(mC T f {s2 with vs:=[]}).bind fun l s3=>(bC T f s3).bind fun b s4=>.ok ⟨x,l,b⟩ s4
def s5:Nat→List ByteArray→PS→PR (List Prc)
 |0,_,_=>.out
 |f+1,pr,s=>if(T s.p).k=0 then .ok [] s else(aj7 T f pr s).bind fun x s1=>(s5 f (pr++[x.x]) s1).bind fun l s2=>.ok (x::l) s2
end
end Go.Proofs.Lx
/- Plain: a word between spaces in a list of words. -/
namespace Go.Proofs.Lx
open Go
theorem dd5(s sub:List UInt8):Lib.contains s sub=true↔∃a b,s=a++(sub++b):=by
 unfold Lib.contains
 rw[decide_eq_true_eq]
 constructor
 ·intro h
  rcases Lib.index_spec s sub with⟨h1,_⟩ | ⟨i,h1,h2,h3,_⟩
  ·omega
  ·unfold Lib.occAt at h3
   obtain⟨b,hb⟩:=List.isPrefixOf_iff_prefix.1 h3
   exact⟨s.take i,b,by rw[hb,List.take_append_drop]⟩
 ·rintro⟨a,b,rfl⟩
  rcases Lib.index_spec (a++(sub++b)) sub with⟨h1,h2⟩ | ⟨i,h1,_⟩
  ·have:=h2 a.length (by simp)
   unfold Lib.occAt at this
   rw[List.drop_left]at this
   have h3:sub.isPrefixOf (sub++b)=true:=List.isPrefixOf_iff_prefix.2 ⟨b,rfl⟩
   rw[h3]at this
   cases this
  ·omega
def ae2(ws:List (List UInt8)):List UInt8:=ws.flatMap fun w=>w++[32]
theorem dt2{w t a b:List UInt8}(hw:∀c∈w,c≠32)(ht:∀c∈t,c≠32)(h:w++32::a=t++32::b):w=t∧a=b:=by
 induction w generalizing t with
 |nil=>
  cases t with
  |nil=>simp only[List.nil_append,List.cons.injEq,true_and]at h;exact⟨rfl,h⟩
  |cons c t=>simp only[List.nil_append,List.cons_append,List.cons.injEq]at h;exact absurd h.1.symm (ht c (.head _))
 |cons c w ih=>
  cases t with
  |nil=>simp only[List.nil_append,List.cons_append,List.cons.injEq]at h;exact absurd h.1 (hw c (.head _))
  |cons d t=>
   simp only[List.cons_append,List.cons.injEq]at h
   obtain⟨h1,h2⟩:=ih (fun c hc=>hw c (.tail _ hc)) (fun c hc=>ht c (.tail _ hc)) h.2
   exact⟨by rw[h.1,h1],h2⟩
theorem ev8{w x a z:List UInt8}(hw:∀c∈w,c≠32)(h:w++32::x=a++32::z):a=w∧x=z∨∃a',a=w++32::a'∧x=a'++32::z:=by
 induction w generalizing a with
 |nil=>
  cases a with
  |nil=>simp only[List.nil_append,List.cons.injEq,true_and]at h;exact .inl ⟨rfl,h⟩
  |cons c a=>simp only[List.nil_append,List.cons_append,List.cons.injEq]at h;exact .inr ⟨a,by rw[h.1];rfl,h.2⟩
 |cons c w ih=>
  cases a with
  |nil=>simp only[List.nil_append,List.cons_append,List.cons.injEq]at h;exact absurd h.1 (hw c (.head _))
  |cons d a=>
   simp only[List.cons_append,List.cons.injEq]at h
   rcases ih (fun c hc=>hw c (.tail _ hc)) h.2 with⟨h1,h2⟩ | ⟨a',h1,h2⟩
   ·exact .inl ⟨by rw[h.1,h1],h2⟩
   ·exact .inr ⟨a',by rw[h.1,h1];rfl,h2⟩
theorem ci0{t:List UInt8}(ht:∀c∈t,c≠32):∀{ws:List (List UInt8)},(∀w∈ws,∀c∈w,c≠32)→((∃a b,32::ae2 ws=a++32::(t++32::b))↔t∈ws)
 | [],_=>by
  simp only[ae2,List.flatMap_nil,List.not_mem_nil,iff_false]
  rintro⟨a,b,h⟩
  have:=congrArg List.length h
  simp at this
  omega
 |w::ws,hw=>by
  have ih:=ci0 ht (ws:=ws) fun w h=>hw w (.tail _ h)
  have e:ae2 (w::ws)=w++32::ae2 ws:=by simp[ae2]
  rw[e,List.mem_cons,←ih]
  constructor
  ·rintro⟨a,b,h⟩
   cases a with
   |nil=>
    simp only[List.nil_append,List.cons.injEq,true_and]at h
    exact .inl (dt2 (hw w (.head _)) ht h).1.symm
   |cons c a=>
    simp only[List.cons_append,List.cons.injEq]at h
    rcases ev8 (hw w (.head _)) h.2 with⟨_,h2⟩ | ⟨a',_,h2⟩
    ·exact .inr ⟨[],b,by rw[h2];rfl⟩
    ·exact .inr ⟨32::a',b,by rw[h2];rfl⟩
  ·rintro(rfl| ⟨a,b,h⟩)
   ·exact⟨[],ae2 ws,rfl⟩
   ·exact⟨32::(w++a),b,by
     show 32::(w++32::ae2 ws)=_
     rw[h];simp⟩
def kwL:List UInt8:=32::ae2 (keywords.map fun w=>w.data.toList)
theorem gy6{t:ByteArray}(ht:∀c∈t.data.toList,c≠32):Lib.contains kwL (32::(t.data.toList++[32]))=resP t:=by
 rw[Bool.eq_iff_iff,dd5]
 have h:=ci0 ht (ws:=keywords.map fun w=>w.data.toList) (by decide)
 unfold resP
 rw[inP_iff]
 have e:(∃a b,kwL=a++(32::(t.data.toList++[32])++b))↔∃a b,32::ae2 (keywords.map fun w=>w.data.toList)=a++32::(t.data.toList++32::b):=by
  constructor<;>rintro⟨a,b,h⟩<;>exact⟨a,b,by simpa[kwL]using h⟩
 rw[e,h,List.mem_map]
 constructor
 ·rintro⟨w,hw,he⟩
  have:w=t:=by
   obtain⟨⟨x⟩⟩:=w;obtain⟨⟨y⟩⟩:=t
   simp only at he
   rw[he]
  rw[←this];exact hw
 ·intro h
  exact⟨t,h,rfl⟩
end Go.Proofs.Lx
/- The parser's small methods do what the plain parser says. -/
namespace Go.Proofs.YtjfkkokeegpeiaaGreatDoor
open Go Go.Am Go.Proofs.Lx
set_option maxRecDepth 100000
theorem tl_eq{a b:ByteArray}:((ByteArray.toList a==ByteArray.toList b)=true)↔a=b:=by
 rw[beq_iff_eq,ByteArray.toList_eq,ByteArray.toList_eq]
 constructor
 ·intro h
  obtain⟨⟨x⟩⟩:=a
  obtain⟨⟨y⟩⟩:=b
  simp only at h
  rw[h]
 ·rintro rfl;rfl
theorem oU{a b:ByteArray}:(ByteArray.toList a==ByteArray.toList b)=decide (a=b):=by
 rw[Bool.eq_iff_iff,tl_eq,decide_eq_true_eq]
theorem xR{n:Int}(h1: -9223372036854775808≤n)(h2:n≤9223372036854775807):w n=n:=by
 unfold w;rw[IntKind.wrap_i64];omega
theorem s9{i:Nat}(h:i≤4000000000):w ((i:Int)+1)=((i+1:Nat):Int):=by rw[xR (by omega) (by omega)];omega
abbrev StT:Type:=Int×Int×Nat×(Nat→Int)×(Nat→Int)×(Nat→ByteArray)×(Nat→Int)×Nat×(Nat→ByteArray)×Nat×(Nat→ByteArray)
def Ag(v:Nat→ByteArray)(l:List ByteArray):Prop:=∀j b,l[j]? =some b→v j=b
theorem Ag.push{v:Nat→ByteArray}{l:List ByteArray}{x:ByteArray}(h:Ag v l):Ag (fun j=>if j<l.length then v j else x) (l++[x]):=by
 intro j b hb
 by_cases hj:j<l.length
 ·rw[List.getElem?_append_left hj]at hb
  simp only[hj,if_true]
  exact h j b hb
 ·rw[List.getElem?_append_right (by omega)]at hb
  simp only[hj,if_false]
  cases hk:j-l.length with
  |zero=>rw[hk]at hb;simpa using hb
  |succ n=>rw[hk]at hb;simp at hb
structure TokN(N:Nat)(T:Nat→Tkn):Prop where
 pos:0<N
 big:N≤4001
 endk:(T (N-1)).k=0
 endt:(T (N-1)).t=⟨#[]⟩
 sym:∀j,(T j).k≠3→j8 (T j).t=0
 word:∀j,(T j).k=1→(T j).t.size≤12∧∀c∈(T j).t.data.toList,c≠32
def RS(N:Nat)(T:Nat→Tkn)(pr:List ByteArray)(s:PS)(x:StT):Prop:=
 ∃v u,x=(((s.p:Nat):Int),((s.o:Nat):Int),N,(fun j=>(T j).k),(fun j=>(T j).a),(fun j=>(T j).t),(fun j=>(T j).n),s.vs.length,v,pr.length,u)∧
  Ag v s.vs∧Ag u pr∧s.p<N∧s.o≤12∧s.vs.length≤12∧pr.length≤2000000000
section
variable {N:Nat} {T:Nat→Tkn} {pr:List ByteArray} {s:PS} {x:StT}
theorem TokN.lt(hT:TokN N T){p:Nat}(hp:p<N)(h:(T p).t≠⟨#[]⟩∨(T p).k≠0):p+1<N:=by
 by_cases e:p=N-1
 ·subst e
  rcases h with h|h
  ·exact absurd hT.endt h
  ·exact absurd hT.endk h
 ·have:=hT.pos
  omega
theorem RS.adv(hT:TokN N T)(h:RS N T pr s x)(hk:(T s.p).t≠⟨#[]⟩∨(T s.p).k≠0):RS N T pr (adv s) (w (x.1+1),x.2):=by
 obtain⟨v,u,rfl,h1,h2,h3,h4,h5,h6⟩:=h
 refine⟨v,u,?_,h1,h2,hT.lt h3 hk,h4,h5,h6⟩
 have:=hT.big
 show(w ((s.p:Int)+1),_)=_
 rw[s9 (by omega)]
 rfl
end
section
variable {N:Nat} {T:Nat→Tkn} {pr:List ByteArray} {s:PS} {x:StT}
theorem fY(q:Nat)(h:RS N T pr s x)(c:Int):fail q (c,x)=some ((T s.p).a,c):=by
 obtain⟨v,u,rfl,h1,h2,h3,h4,h5,h6⟩:=h
 unfold fail bq8
 dsimp only
 rw[if_pos ⟨by omega,by omega⟩,Int.toNat_natCast]
theorem gH(q:Nat)(h:RS N T pr s x):next q x=some ((T s.p).k,(T s.p).a,(T s.p).t,(T s.p).n,x):=by
 obtain⟨v,u,rfl,h1,h2,h3,h4,h5,h6⟩:=h
 unfold next bt9
 dsimp only
 rw[if_pos ⟨by omega,by omega⟩,Int.toNat_natCast]
theorem cg5(q:Nat)(h:RS N T pr s x)(b:ByteArray):is q (b,x)=some (isP T b s,x):=by
 obtain⟨v,u,rfl,h1,h2,h3,h4,h5,h6⟩:=h
 unfold is fp7
 dsimp only
 rw[if_pos ⟨by omega,by omega⟩,Int.toNat_natCast,oU]
 rfl
theorem iK(q:Nat)(h:RS N T pr s x)(b:ByteArray):take q (b,x)=some (if isP T b s=true then(true,w (x.1+1),x.2)else(false,x)):=by
 unfold take bq1
 rw[cg5 q h]
 dsimp only[Option.bind_some]
 by_cases hb:isP T b s=true
 ·rw[if_pos hb,if_pos hb]
 ·rw[if_neg hb,if_neg hb]
end
def PU(N:Nat)(T:Nat→Tkn)(pr:List ByteArray):PR Unit→StT⊕(Int×Int)→Prop
 | .ok _ s,.inl x=>RS N T pr s x
 | .err p c,.inr e=>p<N∧e=((T p).a,c)
 |_,_=>False
def PX{α:Type}(N:Nat)(T:Nat→Tkn)(pr:List ByteArray):PR α→(α×StT)⊕(Int×Int)→Prop
 | .ok a s,.inl z=>z.1=a∧RS N T pr s z.2
 | .err p c,.inr e=>p<N∧e=((T p).a,c)
 |_,_=>False
section
variable {N:Nat} {T:Nat→Tkn} {pr:List ByteArray} {s:PS} {x:StT}
theorem u6{b:ByteArray}(hb:b≠⟨#[]⟩)(h:isP T b s=true):(T s.p).t≠⟨#[]⟩∨(T s.p).k≠0:=by
 simp only[isP,decide_eq_true_eq]at h
 exact .inl (h▸hb)
theorem rR(hT:TokN N T)(q:Nat)(h:RS N T pr s x)(b:ByteArray)(hb:b≠⟨#[]⟩):Rs (mK q (b,x)) (PU N T pr (y7 T b s)):=by
 unfold mK bv6 y7
 rw[iK q h]
 dsimp only[Option.bind_some]
 by_cases hi:isP T b s=true
 ·rw[if_pos hi,if_pos hi]
  exact Rs.neg (by simp) (Rs.some (RS.adv hT h (u6 hb hi)))
 ·rw[if_neg hi,if_neg hi]
  refine Rs.pos (by simp) ?_
  rw[fY q h]
  have h3:=h.choose_spec.choose_spec.2.2.2.1
  exact Rs.some ⟨h3,rfl⟩
theorem RS.lt(h:RS N T pr s x):s.p<N:=h.choose_spec.choose_spec.2.2.2.1
theorem cp0(hT:TokN N T)(q:Nat)(h:RS N T pr s x)(b:ByteArray)(hb:b≠⟨#[]⟩):Rs (tP q (b,x)) (PU N T pr (eG T b s)):=by
 unfold tP au2 eG
 rw[cg5 q h]
 dsimp only[Option.bind_some]
 by_cases hi:isP T b s=true
 ·rw[if_pos hi]
  refine Rs.neg (by simp[hi]) ?_
  obtain⟨v,u,rfl,h1,h2,h3,h4,h5,h6⟩:=h
  dsimp only
  by_cases ho:s.o=12
  ·rw[if_pos ho]
   refine Rs.pos (by simp[ho]) ?_
   rw[fY q ⟨v,u,rfl,h1,h2,h3,h4,h5,h6⟩]
   exact Rs.some ⟨h3,rfl⟩
  ·rw[if_neg ho]
   refine Rs.neg (by simp;omega) (Rs.some ?_)
   have:=hT.big
   refine⟨v,u,?_,h1,h2,hT.lt h3 (u6 hb hi),(by show s.o+1≤12;omega),h5,h6⟩
   rw[s9 (by omega),s9 (by omega)]
 ·rw[if_neg hi]
  refine Rs.pos (by simp[hi]) ?_
  rw[fY q h]
  exact Rs.some ⟨h.lt,rfl⟩
theorem dz8(q:Nat){t:ByteArray}(h1:t.size≤12)(h2:∀c∈t.data.toList,c≠32):zS q t=some (resP t):=by
 unfold zS qX
 have hs:(({data:=#[32]}:ByteArray)++t).size=1+t.size:=by simp[ByteArray.size_append];rfl
 rw[if_pos (by unfold maxLen;omega),if_pos (by rw[hs];unfold maxLen;omega)]
 unfold an7
 rw[if_pos (by dsimp only;decide)]
 dsimp only[Option.bind_some]
 rw[←gy6 h2]
 refine congrArg some (congr (congrArg Lib.contains ?_) ?_)
 ·decide
 ·simp
theorem bm4(hT:TokN N T)(q:Nat)(h:RS N T pr s x):Rs (name q x) (PX N T pr (fD T s)):=by
 unfold name bw4 fD
 rw[gH q h]
 dsimp only[Option.bind_some]
 by_cases hk:(T s.p).k=1
 ·refine Rs.neg (by simp[hk]) ?_
  obtain⟨g1,g2⟩:=hT.word s.p hk
  rw[dz8 q g1 g2]
  dsimp only[Option.bind_some]
  by_cases hr:resP (T s.p).t=true
  ·rw[if_pos hr,if_pos (.inr hr),fY q h]
   exact Rs.some ⟨h.lt,rfl⟩
  ·rw[if_neg hr,if_neg (by simp[hk,hr])]
   exact Rs.some ⟨rfl,RS.adv hT h (.inr (by rw[hk];decide))⟩
 ·refine Rs.pos (by simp[hk]) ?_
  rw[if_pos (.inl hk),fY q h]
  exact Rs.some ⟨h.lt,rfl⟩
theorem av4(hT:TokN N T)(q:Nat)(h:RS N T pr s x)(lo hi:Int):Rs (oI q (lo,hi,x)) (PX N T pr (tB T lo hi s)):=by
 unfold oI ac1
 rw[gH q h]
 dsimp only[Option.bind_some]
 by_cases hk:(T s.p).k=2
 ·refine Rs.neg (by simp[hk]) ?_
  by_cases h1:(T s.p).n<lo
  ·have e:tB T lo hi s= .err s.p 5:=by unfold tB;rw[if_neg (by simp[hk]),if_pos (.inl h1)]
   refine Rs.pos (by simp[h1]) ?_
   rw[fY q h,e]
   exact Rs.some ⟨h.lt,rfl⟩
  ·refine Rs.neg (by simpa using h1) ?_
   by_cases h2:hi< (T s.p).n
   ·have e:tB T lo hi s= .err s.p 5:=by unfold tB;rw[if_neg (by simp[hk]),if_pos (.inr h2)]
    refine Rs.pos (by simpa using h2) ?_
    rw[fY q h,e]
    exact Rs.some ⟨h.lt,rfl⟩
   ·have e:tB T lo hi s= .ok (T s.p).n (adv s):=by unfold tB;rw[if_neg (by simp[hk]),if_neg (by omega)]
    rw[e]
    exact Rs.neg (by simpa using h2) (Rs.some ⟨rfl,RS.adv hT h (.inr (by rw[hk];decide))⟩)
 ·have e:tB T lo hi s= .err s.p 11:=by unfold tB;rw[if_pos hk]
  refine Rs.pos (by simp[hk]) ?_
  rw[fY q h,e]
  exact Rs.some ⟨h.lt,rfl⟩
theorem bp4(q:Nat)(t:ByteArray):Rs (xB q t) (fun z=>z.2.2.2.2.2.2=vW t):=by
 unfold xB aa8
 repeat' refine Rs.ite (fun h=>?_) (fun h=>?_)
 all_goals refine Rs.some ?_
 all_goals simp only[tl_eq]at*
 all_goals first
  | (subst_vars;decide)
  | (show false=vW t;symm;rw[Bool.eq_false_iff,Ne,vW,inP_iff];simp only[ad0,List.mem_cons,List.not_mem_nil,or_false,not_or];refine⟨?_,?_,?_,?_,?_,?_,?_,?_,?_,?_,?_,?_,?_⟩<;>(intro e;subst e;contradiction))
theorem ed5{a:ByteArray}{s':PS}(h:fD T s= .ok a s'):a=(T s.p).t∧s'=adv s∧(T s.p).k=1∧resP (T s.p).t=false:=by
 unfold fD at h
 split at h
 ·cases h
 ·rename_i hn
  cases h
  simp only[not_or,Decidable.not_not,Bool.not_eq_true]at hn
  exact⟨rfl,rfl,hn.1,hn.2⟩
theorem dn3(q:Nat)(x0:y5)(a:ByteArray){v u:Nat→ByteArray}(h1:Ag v s.vs)(h2:Ag u pr)(h3:s.p<N)(h4:s.o≤12)(h5:s.vs.length≤12)(h6:pr.length≤2000000000):
 ∀(n i m:Nat),i+n=s.vs.length→n<m→(∀j,j<i→s.vs[j]? ≠some a)→
 Rs (lpG (fun y=>dN (name q) (fail q) x0 y (fun y=>some (.inl y)) (fun z=>some (.inr z))) m (a,s.vs.length,((s.vs.length:Nat):Int),N,(fun j=>(T j).k),(fun j=>(T j).a),(fun j=>(T j).t),(fun j=>(T j).n),((s.p:Nat):Int),((s.o:Nat):Int),pr.length,v,u,((i:Nat):Int)))
  (fun z=>if inP s.vs a=true then z= .inl ((T s.p).a,4)else z= .inr (a,N,(fun j=>(T j).k),(fun j=>(T j).a),(fun j=>(T j).t),(fun j=>(T j).n),((s.p:Nat):Int),((s.o:Nat):Int),s.vs.length,pr.length,v,u)):=by
 intro n
 induction n with
 |zero=>
  intro i m hi hm hno
  obtain⟨m,rfl⟩:∃k,m=k+1:=⟨m-1,by omega⟩
  refine Rs.step ?_
  unfold dN
  dsimp only
  refine Rs.neg (by simp;omega) (Rs.some ?_)
  have hnin:¬inP s.vs a=true:=by
   rw[inP_iff,List.mem_iff_getElem?]
   rintro⟨j,hj⟩
   have:=(List.getElem?_eq_some_iff.1 hj).1
   exact hno j (by omega) hj
  show(if inP s.vs a=true then _ else _)
  rw[if_neg hnin]
 |succ n ih=>
  intro i m hi hm hno
  obtain⟨m,rfl⟩:∃k,m=k+1:=⟨m-1,by omega⟩
  refine Rs.step ?_
  unfold dN
  dsimp only
  refine Rs.pos (by simp;omega) (Rs.pos ⟨by omega,by omega⟩ (Rs.pos ⟨by simp;omega,rfl⟩ ?_))
  have hget:s.vs[i]? =some (v i):=by
   have hlt:i<s.vs.length:=by omega
   have:=List.getElem?_eq_getElem hlt
   rw[this,h1 i _ this]
  have e:0+Int.toNat ((i:Nat):Int)=i:=by omega
  rw[e]
  refine Rs.ite (fun heq=>?_) (fun hne=>?_)
  ·rw[tl_eq]at heq
   have hin:inP s.vs a=true:=by
    rw[inP_iff,←heq]
    exact List.mem_iff_getElem?.2 ⟨i,hget⟩
   rw[fY q (s:=s) (pr:=pr) (N:=N) (T:=T) ⟨v,u,rfl,h1,h2,h3,h4,h5,h6⟩]
   refine Rs.some ?_
   show(if inP s.vs a=true then _ else _)
   rw[if_pos hin]
  ·rw[tl_eq]at hne
   refine Rs.some ?_
   show Rs (lpG _ m _) _
   rw[s9 (by omega)]
   refine ih (i+1) m (by omega) (by omega) fun j hj=>?_
   by_cases hji:j=i
   ·subst hji
    rw[hget]
    simpa using hne
   ·exact hno j (by omega)
theorem ba5(hT:TokN N T)(q:Nat)(hq:20≤q)(h:RS N T pr s x):Rs (pA q x) (PX N T pr (zL T s)):=by
 unfold pA vE zL
 refine Rs.bind (bm4 hT q h) fun z hz=>?_
 cases hn:fD T s with
 |out=>rw[hn]at hz;rcases z with z|z<;>exact hz.elim
 |err p c=>
  rw[hn]at hz
  rcases z with z|z
  ·exact hz.elim
  ·exact Rs.some hz
 |ok a s'=>
  rw[hn]at hz
  obtain⟨rfl,rfl,hk,hr⟩:=ed5 hn
  rcases z with z|z
  rotate_left
  ·exact hz.elim
  obtain⟨z1,z2⟩:=z
  obtain⟨rfl,v,u,rfl,h1,h2,h3,h4,h5,h6⟩:=hz
  dsimp only[Sum.elim_inl,PR.bind]
  have hsp:=h.lt
  have hN:=hT.big
  have e1:w (((adv s).p:Int)-1)=((s.p:Nat):Int):=by
   show w (((s.p+1:Nat):Int)-1)=_
   rw[xR (by omega) (by omega)];omega
  rw[e1]
  unfold ag7
  refine Rs.bind (dn3 (s:=s) q x _ h1 h2 hsp h4 h5 h6 s.vs.length 0 q (by omega) (by show s.vs.length<q;have:s.vs.length≤12:=h5;omega) (fun j hj=>absurd hj (Nat.not_lt_zero j))) fun z hz=>?_
  by_cases hin:inP s.vs (T s.p).t=true
  ·rw[if_pos hin]at hz
   subst hz
   rw[if_pos hin]
   exact Rs.some ⟨hsp,rfl⟩
  ·rw[if_neg hin]at hz
   subst hz
   rw[if_neg hin]
   dsimp only[Sum.elim_inr,Sum.elim_inl]
   by_cases hl:s.vs.length=12
   ·rw[if_pos hl]
    refine Rs.pos (by simp[hl]) ?_
    rw[fY q (s:=s) (pr:=pr) (N:=N) (T:=T) ⟨v,u,rfl,h1,h2,hsp,h4,h5,h6⟩]
    exact Rs.some ⟨hsp,rfl⟩
   ·rw[if_neg hl]
    refine Rs.neg (by simp;omega) (Rs.pos ?_ (Rs.some ⟨rfl,?_⟩))
    ·have:s.vs.length≤12:=h5
     exact⟨by unfold d5;omega,by unfold maxLen;omega,by omega⟩
    ·refine⟨_,u,?_,h1.push,h2,h3,h4,(by simp;have:s.vs.length≤12:=h5;omega),h6⟩
     rw[s9 (by omega)]
     simp[adv]
     rfl
end
end Go.Proofs.YtjfkkokeegpeiaaGreatDoor
/- Expressions are read as the plain parser reads them. -/
namespace Go.Proofs.YtjfkkokeegpeiaaGreatDoor
open Go Go.Am Go.Proofs.Lx
set_option maxRecDepth 100000
abbrev n4:Type:=Int×Int×ByteArray×Nat×(Nat→List V)
mutual
def RepN:Tr→n4→Prop
 | .node k n s l,x=>x.1=k∧x.2.1=n∧x.2.2.1=s∧x.2.2.2.1=l.length∧rW l x.2.2.2.2 0
def rW:List Tr→(Nat→List V)→Nat→Prop
 | [],_,_=>True
 |t::l,f,j=>(∃y:n4,f j=[i64 y.1,i64 y.2.1,st y.2.2.1,.ro 4 y.2.2.2.1 y.2.2.2.2]∧RepN t y)∧rW l f (j+1)
end
theorem RepN.leaf{k n:Int}{s:ByteArray}{f:Nat→List V}:RepN (.node k n s []) (k,n,s,0,f):=by simp[RepN,rW]
theorem RepN.k1{k n:Int}{s:ByteArray}{a:Tr}{y:n4}(h:RepN a y):RepN (.node k n s [a]) (k,n,s,1,gP [[i64 y.1,i64 y.2.1,st y.2.2.1,.ro 4 y.2.2.2.1 y.2.2.2.2]]):=by
 simp only[RepN,rW,List.length_cons,List.length_nil]
 exact⟨trivial,trivial,trivial,trivial,⟨y,rfl,h⟩,trivial⟩
theorem RepN.k2{k n:Int}{s:ByteArray}{a b:Tr}{y z:n4}(h:RepN a y)(g:RepN b z):RepN (.node k n s [a,b]) (k,n,s,2,gP [[i64 y.1,i64 y.2.1,st y.2.2.1,.ro 4 y.2.2.2.1 y.2.2.2.2],[i64 z.1,i64 z.2.1,st z.2.2.1,.ro 4 z.2.2.2.1 z.2.2.2.2]]):=by
 simp only[RepN,rW,List.length_cons,List.length_nil]
 exact⟨trivial,trivial,trivial,trivial,⟨y,rfl,h⟩,⟨z,rfl,g⟩,trivial⟩
def PN(N:Nat)(T:Nat→Tkn)(pr:List ByteArray):PR Tr→(Int×Int×ByteArray×Nat×(Nat→List V)×StT)⊕(Int×Int)→Prop
 | .ok a s,.inl z=>RepN a (z.1,z.2.1,z.2.2.1,z.2.2.2.1,z.2.2.2.2.1)∧RS N T pr s z.2.2.2.2.2
 | .err p c,.inr e=>p<N∧e=((T p).a,c)
 |_,_=>False
theorem PR.bind_out{α β:Type}{r:PR α}{k:α→PS→PR β}(h:r.bind k≠ .out):r≠ .out:=by rintro rfl;exact h rfl
section
variable {N:Nat} {T:Nat→Tkn} {pr:List ByteArray} {γ:Type} {P:γ→Prop}
theorem PU.bind{r:PR Unit}{o:Option (StT⊕(Int×Int))}{f:StT→Option γ}{g:Int×Int→Option γ}(h:Rs o (PU N T pr r))(hok:∀s x,r= .ok () s→RS N T pr s x→Rs (f x) P)(herr:∀p c,r= .err p c→p<N→Rs (g ((T p).a,c)) P):
 Rs (o.bind fun z=>Sum.elim f g z) P:=by
 obtain⟨z,rfl,hp⟩:=h
 cases r with
 |ok u s=>cases z with
  |inl z=>exact hok s z rfl hp
  |inr z=>exact hp.elim
 |err p c=>cases z with
  |inl z=>exact hp.elim
  |inr z=>obtain⟨h1,rfl⟩:=hp;exact herr p c rfl h1
 |out=>cases z<;>exact hp.elim
theorem PX.bind{α:Type}{r:PR α}{o:Option ((α×StT)⊕(Int×Int))}{f:α×StT→Option γ}{g:Int×Int→Option γ}(h:Rs o (PX N T pr r))(hok:∀a s x,r= .ok a s→RS N T pr s x→Rs (f (a,x)) P)(herr:∀p c,r= .err p c→p<N→Rs (g ((T p).a,c)) P):
 Rs (o.bind fun z=>Sum.elim f g z) P:=by
 obtain⟨z,rfl,hp⟩:=h
 cases r with
 |ok a s=>cases z with
  |inl z=>obtain⟨z1,z2⟩:=z;obtain⟨rfl,h2⟩:=hp;exact hok _ s z2 rfl h2
  |inr z=>exact hp.elim
 |err p c=>cases z with
  |inl z=>exact hp.elim
  |inr z=>obtain⟨h1,rfl⟩:=hp;exact herr p c rfl h1
 |out=>cases z<;>exact hp.elim
theorem PN.bind{r:PR Tr}{o:Option ((Int×Int×ByteArray×Nat×(Nat→List V)×StT)⊕(Int×Int))}{f:Int×Int×ByteArray×Nat×(Nat→List V)×StT→Option γ}{g:Int×Int→Option γ}(h:Rs o (PN N T pr r))
 (hok:∀t s k n b m c x,r= .ok t s→RepN t (k,n,b,m,c)→RS N T pr s x→Rs (f (k,n,b,m,c,x)) P) (herr:∀p c,r= .err p c→p<N→Rs (g ((T p).a,c)) P):
 Rs (o.bind fun z=>Sum.elim f g z) P:=by
 obtain⟨z,rfl,hp⟩:=h
 cases r with
 |ok a s=>cases z with
  |inl z=>obtain⟨k,n,b,m,c,x⟩:=z;exact hok a s k n b m c x rfl hp.1 hp.2
  |inr z=>exact hp.elim
 |err p c=>cases z with
  |inl z=>exact hp.elim
  |inr z=>obtain⟨h1,rfl⟩:=hp;exact herr p c rfl h1
 |out=>cases z<;>exact hp.elim
end
theorem bb2(q:Nat)(t:ByteArray):oF q t=some ((j8 t:Nat):Int):=by
 unfold oF vJ j8
 simp only[tl_eq]
 by_cases e0:t=sOr
 ·subst e0;rfl
 by_cases e1:t=gj9
 ·subst e1;rfl
 by_cases e2:t=sLt
 ·subst e2;rfl
 by_cases e3:t=sLe
 ·subst e3;rfl
 by_cases e4:t=sGt
 ·subst e4;rfl
 by_cases e5:t=sGe
 ·subst e5;rfl
 by_cases e6:t=sEq
 ·subst e6;rfl
 by_cases e7:t=sNe
 ·subst e7;rfl
 by_cases e8:t=ib6
 ·subst e8;rfl
 by_cases e9:t=sW
 ·subst e9;rfl
 by_cases e10:t=hv0
 ·subst e10;rfl
 by_cases e11:t=hw8
 ·subst e11;rfl
 simp only[e0,e1,e2,e3,e4,e5,e6,e7,e8,e9,e10,e11,or_self,if_false]
 rfl
section
variable {N:Nat} {T:Nat→Tkn} {pr:List ByteArray} {s:PS} {x:StT}
theorem xI(hT:TokN N T)(q:Nat)(h:RS N T pr s x):Rs (kK q x) (PN N T pr (tA T s)):=by
 unfold kK
 refine Rs.map (P:=fun y=>PN N T pr (tA T s) (ba7 y)) ?_ fun z hz=>hz
 unfold cl1 pU tA
 refine PX.bind (av4 hT q h 0 2147483647) (fun n s1 x1 e h1=>?_) (fun p c e hp=>?_)
 ·rw[e]
  dsimp only[PR.bind]
  rw[gH q h1]
  dsimp only[Option.bind_some]
  by_cases hk:(T s1.p).k=1
  ·refine Rs.pos (by simp[hk]) ?_
   refine Rs.bind (bp4 q (T s1.p).t) fun z hz=>?_
   by_cases hu:vW (T s1.p).t=true
   ·refine Rs.pos (hz.trans hu) (Rs.some ?_)
    rw[if_pos (show _∧_ from⟨hk,hu⟩)]
    exact⟨RepN.leaf,RS.adv hT h1 (.inr (by rw[hk];decide))⟩
   ·refine Rs.neg (by rw[hz];exact hu) (Rs.some ?_)
    rw[if_neg (show¬(_∧_)from fun h=>hu h.2)]
    exact⟨RepN.leaf,h1⟩
  ·refine Rs.neg (by simp[hk]) (Rs.some ?_)
   rw[if_neg (show¬(_∧_)from fun h=>hk h.1)]
   exact⟨RepN.leaf,h1⟩
 ·rw[e]
  exact Rs.some ⟨hp,rfl⟩
end
end Go.Proofs.YtjfkkokeegpeiaaGreatDoor
/- Expressions are read as the plain parser reads them (2). -/
namespace Go.Proofs.YtjfkkokeegpeiaaGreatDoor
open Go Go.Am Go.Proofs.Lx
set_option maxRecDepth 100000
abbrev Y0:Type:=Nat×(Nat→Int)×(Nat→Int)×(Nat→ByteArray)×(Nat→Int)×Int×Int×Nat×Nat×(Nat→ByteArray)×(Nat→ByteArray)×n4
abbrev Y1:Type:=Nat×(Nat→Int)×(Nat→Int)×(Nat→ByteArray)×(Nat→Int)×Int×Int×Nat×Nat×(Nat→ByteArray)×(Nat→ByteArray)×ByteArray×Int×Int×ByteArray×Nat×(Nat→List V)×n4
def y0(x:StT)(n:n4):Y0:=(x.2.2.1,x.2.2.2.1,x.2.2.2.2.1,x.2.2.2.2.2.1,x.2.2.2.2.2.2.1,x.1,x.2.1,x.2.2.2.2.2.2.2.1,x.2.2.2.2.2.2.2.2.2.1,x.2.2.2.2.2.2.2.2.1,x.2.2.2.2.2.2.2.2.2.2,n)
def y1(x:StT)(op:ByteArray)(a b:n4):Y1:=(x.2.2.1,x.2.2.2.1,x.2.2.2.2.1,x.2.2.2.2.2.1,x.2.2.2.2.2.2.1,x.1,x.2.1,x.2.2.2.2.2.2.2.1,x.2.2.2.2.2.2.2.2.2.1,x.2.2.2.2.2.2.2.2.1,x.2.2.2.2.2.2.2.2.2.2,op,a.1,a.2.1,a.2.2.1,a.2.2.2.1,a.2.2.2.2,b)
def LP(N:Nat)(T:Nat→Tkn)(pr:List ByteArray):PR Tr→qS→Prop
 | .ok t s,.inl z=>∃x op a b ta tb,z=y1 x op a b∧t= .node 20 0 op [ta,tb]∧RepN ta a∧RepN tb b∧RS N T pr s x
 | .ok t s,.inr (.inr z)=>∃x n,z=y0 x n∧RepN t n∧RS N T pr s x
 | .err p c,.inr (.inl e)=>p<N∧e=((T p).a,c)
 |_,_=>False
def LS(n:Tr)(x:StT):dX→Prop
 | .inl y=>∃a,y=y0 x a∧RepN n a
 | .inr y=>∃op a b ta tb,y=y1 x op a b∧n= .node 20 0 op [ta,tb]∧RepN ta a∧RepN tb b
section
variable {N:Nat} {T:Nat→Tkn} {pr:List ByteArray}
def HE(N:Nat)(T:Nat→Tkn)(pr:List ByteArray)(f q:Nat):Prop:=∀g,g≤f→∀lv,1≤lv→lv≤8→∀(s:PS) (x:StT),RS N T pr s x→o9 T g lv s≠ .out→Rs (af8 q (((lv:Nat):Int),x)) (PN N T pr (o9 T g lv s))
theorem cj9(hT:TokN N T){f q:Nat}(hE:HE N T pr f q)(lv:Nat)(hl1:1≤lv)(hl:lv≤7)(x0:StT):∀(g:Nat),g≤f→∀(m:Nat),g<m→∀(n:Tr) (s:PS) (x:StT) (y:dX),LS n x y→RS N T pr s x→mP T g lv n s≠ .out→
 Rs (wW (is q) (eb7 q) (bg8 q) (af8 q) (next q) (oF q) m (((lv:Nat):Int),x0) y) (LP N T pr (mP T g lv n s)):=by
 intro g
 induction g with
 |zero=>intro _ m _ n s x y _ _ ho;exact absurd rfl ho
 |succ g ih=>
  intro hg m hm n s x y hy h ho
  obtain⟨m,rfl⟩:∃k,m=k+1:=⟨m-1,by omega⟩
  unfold wW
  refine Rs.step3 fun Q hQ=>?_
  have h0:=h
  obtain⟨v,u,rfl,h1,h2,h3,h4,h5,h6⟩:=h
  have hN:=hT.big
  have hop:mP T (g+1) lv n s=if j8 (T s.p).t=lv∧(T s.p).k=3 then(o9 T g (lv+1) (adv s)).bind fun m s'=>if lv=4 then .ok (.node 20 0 (T s.p).t [n,m]) s' else mP T g lv (.node 20 0 (T s.p).t [n,m]) s' else .ok n s:=by rw[mP]
  rcases y with y|y
  ·obtain⟨a,rfl,ha⟩:=hy
   rw[Sum.elim_inl]
   unfold mY
   dsimp only[y0,y1]
   rw[gH q (s:=s) (pr:=pr) (N:=N) (T:=T) h0]
   dsimp only[Option.bind_some]
   rw[bb2]
   dsimp only[Option.bind_some]
   by_cases hlv:j8 (T s.p).t=lv
   ·refine Rs.pos (by simp[hlv]) ?_
    rw[gH q (s:=s) (pr:=pr) (N:=N) (T:=T) h0]
    dsimp only[Option.bind_some]
    by_cases hk:(T s.p).k=3
    ·refine Rs.pos (by simp[hk]) ?_
     rw[gH q (s:=s) (pr:=pr) (N:=N) (T:=T) h0]
     dsimp only[Option.bind_some]
     rw[if_pos ⟨hlv,hk⟩]at hop
     rw[s9 (i:=lv) (by omega)]
     have hadv:=RS.adv hT h0 (.inr (by rw[hk];decide))
     refine PN.bind (hE g (by omega) (lv+1) (by omega) (by omega) (adv s) _ hadv (PR.bind_out (hop▸ho))) (fun t s2 k1 n1 b1 m1 c1 x1 e hr hx=>?_) (fun p c e hp=>?_)
     ·rw[e]at hop
      dsimp only[PR.bind]at hop
      by_cases h4':lv=4
      ·rw[if_pos h4']at hop
       refine Rs.pos (by simp[h4']) (Rs.some ?_)
       show LP N T pr (mP T (g+1) lv _ s) _
       rw[hop]
       exact⟨x1,_,a,(k1,n1,b1,m1,c1),_,t,rfl,rfl,ha,hr,hx⟩
      ·rw[if_neg h4']at hop
       refine Rs.neg (by simp;omega) (Rs.some ?_)
       refine hQ _ ?_
       rw[hop]
       exact ih (by omega) m (by omega) _ s2 x1 (.inr (y1 x1 (T s.p).t a (k1,n1,b1,m1,c1))) ⟨_,a,(k1,n1,b1,m1,c1),_,t,rfl,rfl,ha,hr⟩ hx (hop▸ho)
     ·refine Rs.some ?_
      show LP N T pr (mP T (g+1) lv _ s) _
      rw[hop,e]
      exact⟨hp,rfl⟩
    ·refine Rs.neg (by simp[hk]) (Rs.some ?_)
     rw[if_neg (fun h=>hk h.2)]at hop
     show LP N T pr (mP T (g+1) lv _ s) _
     rw[hop]
     exact⟨_,a,rfl,ha,h0⟩
   ·refine Rs.neg (fun hh=>hlv (by have hh:=(by simpa using hh:((j8 (T s.p).t:Nat):Int)=lv);omega)) (Rs.some ?_)
    rw[if_neg (fun h=>hlv h.1)]at hop
    show LP N T pr (mP T (g+1) lv _ s) _
    rw[hop]
    exact⟨_,a,rfl,ha,h0⟩
  ·obtain⟨op,a,b,ta,tb,rfl,rfl,ha,hb⟩:=hy
   have hab:RepN (.node 20 0 op [ta,tb]) (20,0,op,2,fun j=>[i64 (if 0+j=0 then a.1 else b.1),i64 (if 0+j=0 then a.2.1 else b.2.1),st (if 0+j=0 then a.2.2.1 else b.2.2.1),.ro 4 (if 0+j=0 then a.2.2.2.1 else b.2.2.2.1) fun i=>if 0+j=0 then a.2.2.2.2 i else b.2.2.2.2 i]):=by
    simp only[RepN,rW,List.length_cons,List.length_nil]
    exact⟨trivial,trivial,trivial,trivial,⟨a,rfl,ha⟩,⟨b,rfl,hb⟩,trivial⟩
   rw[Sum.elim_inr]
   unfold mW
   dsimp only[y0,y1]
   rw[gH q (s:=s) (pr:=pr) (N:=N) (T:=T) h0]
   dsimp only[Option.bind_some]
   rw[bb2]
   dsimp only[Option.bind_some]
   by_cases hlv:j8 (T s.p).t=lv
   ·refine Rs.pos (by simp[hlv]) ?_
    rw[gH q (s:=s) (pr:=pr) (N:=N) (T:=T) h0]
    dsimp only[Option.bind_some]
    by_cases hk:(T s.p).k=3
    ·refine Rs.pos (by simp[hk]) ?_
     rw[gH q (s:=s) (pr:=pr) (N:=N) (T:=T) h0]
     dsimp only[Option.bind_some]
     rw[if_pos ⟨hlv,hk⟩]at hop
     rw[s9 (i:=lv) (by omega)]
     have hadv:=RS.adv hT h0 (.inr (by rw[hk];decide))
     refine PN.bind (hE g (by omega) (lv+1) (by omega) (by omega) (adv s) _ hadv (PR.bind_out (hop▸ho))) (fun t s2 k1 n1 b1 m1 c1 x1 e hr hx=>?_) (fun p c e hp=>?_)
     ·rw[e]at hop
      dsimp only[PR.bind]at hop
      by_cases h4':lv=4
      ·rw[if_pos h4']at hop
       refine Rs.pos (by simp[h4']) (Rs.some ?_)
       show LP N T pr (mP T (g+1) lv _ s) _
       rw[hop]
       exact⟨x1,_,(20,0,op,2,fun j=>[i64 (if 0+j=0 then a.1 else b.1),i64 (if 0+j=0 then a.2.1 else b.2.1),st (if 0+j=0 then a.2.2.1 else b.2.2.1),.ro 4 (if 0+j=0 then a.2.2.2.1 else b.2.2.2.1) fun i=>if 0+j=0 then a.2.2.2.2 i else b.2.2.2.2 i]),(k1,n1,b1,m1,c1),_,t,rfl,rfl,hab,hr,hx⟩
      ·rw[if_neg h4']at hop
       refine Rs.neg (by simp;omega) (Rs.some ?_)
       refine hQ _ ?_
       rw[hop]
       exact ih (by omega) m (by omega) _ s2 x1 (.inr (y1 x1 (T s.p).t (20,0,op,2,fun j=>[i64 (if 0+j=0 then a.1 else b.1),i64 (if 0+j=0 then a.2.1 else b.2.1),st (if 0+j=0 then a.2.2.1 else b.2.2.1),.ro 4 (if 0+j=0 then a.2.2.2.1 else b.2.2.2.1) fun i=>if 0+j=0 then a.2.2.2.2 i else b.2.2.2.2 i]) (k1,n1,b1,m1,c1))) ⟨_,(20,0,op,2,fun j=>[i64 (if 0+j=0 then a.1 else b.1),i64 (if 0+j=0 then a.2.1 else b.2.1),st (if 0+j=0 then a.2.2.1 else b.2.2.1),.ro 4 (if 0+j=0 then a.2.2.2.1 else b.2.2.2.1) fun i=>if 0+j=0 then a.2.2.2.2 i else b.2.2.2.2 i]),(k1,n1,b1,m1,c1),_,t,rfl,rfl,hab,hr⟩ hx (hop▸ho)
     ·refine Rs.some ?_
      show LP N T pr (mP T (g+1) lv _ s) _
      rw[hop,e]
      exact⟨hp,rfl⟩
    ·refine Rs.neg (by simp[hk]) (Rs.some ?_)
     rw[if_neg (fun h=>hk h.2)]at hop
     show LP N T pr (mP T (g+1) lv _ s) _
     rw[hop]
     exact⟨_,op,a,b,ta,tb,rfl,rfl,ha,hb,h0⟩
   ·refine Rs.neg (fun hh=>hlv (by have hh:=(by simpa using hh:((j8 (T s.p).t:Nat):Int)=lv);omega)) (Rs.some ?_)
    rw[if_neg (fun h=>hlv h.1)]at hop
    show LP N T pr (mP T (g+1) lv _ s) _
    rw[hop]
    exact⟨_,op,a,b,ta,tb,rfl,rfl,ha,hb,h0⟩
end
end Go.Proofs.YtjfkkokeegpeiaaGreatDoor
/- Expressions are read as the plain parser reads them (3). -/
namespace Go.Proofs.YtjfkkokeegpeiaaGreatDoor
open Go Go.Am Go.Proofs.Lx
set_option maxRecDepth 100000
section
variable {N:Nat} {T:Nat→Tkn} {pr:List ByteArray}
def HU(N:Nat)(T:Nat→Tkn)(pr:List ByteArray)(f q:Nat):Prop:=∀g,g≤f→∀b:ByteArray,b≠⟨#[]⟩→∀lv,1≤lv→lv≤8→∀(s:PS) (x:StT),RS N T pr s x→fQ T g b lv s≠ .out→Rs (eb7 q (b,((lv:Nat):Int),x)) (PN N T pr (fQ T g b lv s))
def HP(N:Nat)(T:Nat→Tkn)(pr:List ByteArray)(f q:Nat):Prop:=∀g,g≤f→∀(s:PS) (x:StT),RS N T pr s x→jX T g s≠ .out→Rs (bg8 q x) (PN N T pr (jX T g s))
theorem RS.close{s:PS}{x:StT}(hT:TokN N T)(h:RS N T pr s x)(ho:1≤s.o):RS N T pr (lI s) (x.1,w (x.2.1-1),x.2.2):=by
 obtain⟨v,u,rfl,h1,h2,h3,h4,h5,h6⟩:=h
 refine⟨v,u,?_,h1,h2,h3,(by show s.o-1≤12;omega),h5,h6⟩
 show(((s.p:Nat):Int),w (((s.o:Nat):Int)-1),_)=_
 rw[xR (by omega) (by omega)]
 have e:((s.o:Nat):Int)-1=((s.o-1:Nat):Int):=by omega
 rw[e]
 rfl
end
section
variable {T:Nat→Tkn}
def Op{α:Type}(o:Nat):PR α→Prop
 | .ok _ s=>s.o=o
 |_=>True
theorem Op.bind{α β:Type}{o o':Nat}{r:PR α}{k:α→PS→PR β}(h:Op o r)(hk:∀a s,s.o=o→Op o' (k a s)):Op o' (r.bind k):=by
 cases r with
 |ok a s=>exact hk a s h
 |err p c=>trivial
 |out=>trivial
theorem yG(b:ByteArray)(s:PS):Op s.o (y7 T b s):=by unfold y7;split<;>trivial
theorem cd3(s:PS):Op s.o (fD T s):=by unfold fD;split<;>trivial
theorem dq0(lo hi:Int)(s:PS):Op s.o (tB T lo hi s):=by unfold tB;repeat' (split<;>try trivial)
theorem zG(b:ByteArray)(s:PS):Op (s.o+1) (eG T b s):=by unfold eG;repeat' (split<;>try trivial)
theorem dm3(s:PS):Op s.o (tA T s):=by
 unfold tA
 refine(dq0 0 2147483647 s).bind fun a s1 h=>?_
 split
 ·exact h
 ·exact h
theorem ae9:∀f,(∀lv s,Op s.o (o9 T f lv s))∧(∀lv n s,Op s.o (mP T f lv n s))∧(∀b lv s,Op s.o (fQ T f b lv s))∧(∀s,Op s.o (jX T f s)):=by
 intro f
 induction f with
 |zero=>exact⟨fun _ _=>by rw[o9];trivial,fun _ _ _=>by rw[mP];trivial,fun _ _ _=>by rw[fQ];trivial,fun _=>by rw[jX];trivial⟩
 |succ f ih=>
  obtain⟨h1,h2,h3,h4⟩:=ih
  refine⟨fun lv s=>?_,fun lv n s=>?_,fun b lv s=>?_,fun s=>?_⟩
  ·rw[o9]
   split
   ·exact h3 _ _ _
   ·split
    ·exact h3 _ _ _
    ·split
     ·exact h4 _
     ·refine(h1 _ _).bind fun a s1 e=>?_
      rw[←e];exact h2 _ _ _
  ·rw[mP]
   split
   ·refine(h1 (lv+1) (adv s)).bind fun a s1 e=>?_
    split
    ·exact e
    ·have:=h2 lv (.node 20 0 (T s.p).t [n,a]) s1
     rw[e]at this;exact this
   ·rfl
  ·rw[fQ]
   refine(zG b s).bind fun _ s1 e1=>(h1 lv s1).bind fun n s2 e2=>?_
   show s2.o-1=s.o
   omega
  ·rw[jX]
   split
   ·exact dm3 s
   ·split
    ·rfl
    ·split
     ·rfl
     ·split
      ·exact(yG eo6 (adv s)).bind fun _ s1 e1=>by
        have:=cd3 (T:=T) s1
        rw[e1]at this
        exact this.bind fun x s2 e2=>e2
      ·split
       ·refine(zG nG s).bind fun _ s1 e1=>(h1 1 s1).bind fun n s2 e2=>(yG jS s2).bind fun _ s3 e3=>?_
        show s3.o-1=s.o
        omega
       ·exact(cd3 s).bind fun x s1 e1=>e1
end
end Go.Proofs.YtjfkkokeegpeiaaGreatDoor
/- Expressions are read as the plain parser reads them (4). -/
namespace Go.Proofs.YtjfkkokeegpeiaaGreatDoor
open Go Go.Am Go.Proofs.Lx
set_option maxRecDepth 100000
section
variable {N:Nat} {T:Nat→Tkn} {pr:List ByteArray}
theorem gb0(hT:TokN N T){f q:Nat}(hq:f<q)(hE:HE N T pr f q)(hU:HU N T pr f q)(hP:HP N T pr f q)(lv:Nat)(hl1:1≤lv)(hl:lv≤8)(s:PS)(x:StT)(h:RS N T pr s x)(ho:o9 T (f+1) lv s≠ .out):
 Rs (af8 (q+1) (((lv:Nat):Int),x)) (PN N T pr (o9 T (f+1) lv s)):=by
 show Rs ((xU (is q) (eb7 q) (bg8 q) (af8 q) (next q) (oF q) (wW (is q) (eb7 q) (bg8 q) (af8 q) (next q) (oF q) q (((lv:Nat):Int),x)) (((lv:Nat):Int),x) some).map cc5) _
 refine Rs.map (P:=fun y=>PN N T pr (o9 T (f+1) lv s) (cc5 y)) ?_ fun z hz=>hz
 unfold xU
 dsimp only
 have hop:o9 T (f+1) lv s=if lv=3∧isP T oH s=true then fQ T f oH 3 s else if lv=7∧isP T sW s=true then fQ T f sW 7 s else if lv=8 then jX T f s else(o9 T f (lv+1) s).bind fun n s'=>mP T f lv n s':=by rw[o9]
 by_cases h3:lv=3
 ·refine Rs.pos (by simp[h3]) ?_
  rw[cg5 q h]
  dsimp only[Option.bind_some]
  by_cases hi:isP T oH s=true
  ·rw[if_pos ⟨h3,hi⟩]at hop
   refine Rs.pos hi ?_
   refine PN.bind (hU f (Nat.le_refl _) oH (by decide) 3 (by decide) (by decide) s x h (hop▸ho)) (fun t s1 k n b m c x1 e hr hx=>?_) (fun p c e hp=>?_)
   ·rw[hop,e];exact Rs.some ⟨hr,hx⟩
   ·rw[hop,e];exact Rs.some ⟨hp,rfl⟩
  ·rw[if_neg (fun h=>hi h.2),if_neg (fun h=>by omega),if_neg (by omega)]at hop
   refine Rs.neg hi (Rs.neg (by simp;omega) (Rs.neg (by simp;omega) ?_))
   rw[s9 (i:=lv) (by omega)]
   refine PN.bind (hE f (Nat.le_refl _) (lv+1) (by omega) (by omega) s x h (PR.bind_out (hop▸ho))) (fun t s1 k n b m c x1 e hr hx=>?_) (fun p c e hp=>?_)
   ·rw[e]at hop
    dsimp only[PR.bind]at hop
    refine Rs.bind (cj9 hT hE lv hl1 (by omega) x f (Nat.le_refl _) q (by omega) t s1 x1 (.inl (y0 x1 (k,n,b,m,c))) ⟨_,rfl,hr⟩ hx (hop▸ho)) (fun z hz=>?_)
    rw[hop]
    cases hr2:mP T f lv t s1 with
    |out=>rw[hop,hr2]at ho;exact absurd rfl ho
    |err p c=>
     rw[hr2]at hz
     rcases z with z|z|z
     ·exact hz.elim
     ·exact Rs.some hz
     ·exact hz.elim
    |ok a s2=>
     rw[hr2]at hz
     rcases z with z|z|z
     ·obtain⟨x2,op,na,nb,ta,tb,rfl,rfl,g1,g2,g3⟩:=hz
      exact Rs.some ⟨RepN.k2 g1 g2,g3⟩
     ·exact hz.elim
     ·obtain⟨x2,nd,rfl,g1,g3⟩:=hz
      exact Rs.some ⟨g1,g3⟩
   ·rw[hop,e]
    exact Rs.some ⟨hp,rfl⟩
 ·refine Rs.neg (by simp;omega) ?_
  rw[if_neg (fun h=>h3 h.1)]at hop
  by_cases h7:lv=7
  ·refine Rs.pos (by simp[h7]) ?_
   rw[cg5 q h]
   dsimp only[Option.bind_some]
   by_cases hi:isP T sW s=true
   ·rw[if_pos ⟨h7,hi⟩]at hop
    refine Rs.pos hi ?_
    refine PN.bind (hU f (Nat.le_refl _) sW (by decide) 7 (by decide) (by decide) s x h (hop▸ho)) (fun t s1 k n b m c x1 e hr hx=>?_) (fun p c e hp=>?_)
    ·rw[hop,e];exact Rs.some ⟨hr,hx⟩
    ·rw[hop,e];exact Rs.some ⟨hp,rfl⟩
   ·rw[if_neg (fun h=>hi h.2),if_neg (by omega)]at hop
    refine Rs.neg hi (Rs.neg (by simp;omega) ?_)
    rw[s9 (i:=lv) (by omega)]
    refine PN.bind (hE f (Nat.le_refl _) (lv+1) (by omega) (by omega) s x h (PR.bind_out (hop▸ho))) (fun t s1 k n b m c x1 e hr hx=>?_) (fun p c e hp=>?_)
    ·rw[e]at hop
     dsimp only[PR.bind]at hop
     refine Rs.bind (cj9 hT hE lv hl1 (by omega) x f (Nat.le_refl _) q (by omega) t s1 x1 (.inl (y0 x1 (k,n,b,m,c))) ⟨_,rfl,hr⟩ hx (hop▸ho)) (fun z hz=>?_)
     rw[hop]
     cases hr2:mP T f lv t s1 with
     |out=>rw[hop,hr2]at ho;exact absurd rfl ho
     |err p c=>
      rw[hr2]at hz
      rcases z with z|z|z
      ·exact hz.elim
      ·exact Rs.some hz
      ·exact hz.elim
     |ok a s2=>
      rw[hr2]at hz
      rcases z with z|z|z
      ·obtain⟨x2,op,na,nb,ta,tb,rfl,rfl,g1,g2,g3⟩:=hz
       exact Rs.some ⟨RepN.k2 g1 g2,g3⟩
      ·exact hz.elim
      ·obtain⟨x2,nd,rfl,g1,g3⟩:=hz
       exact Rs.some ⟨g1,g3⟩
    ·rw[hop,e]
     exact Rs.some ⟨hp,rfl⟩
  ·refine Rs.neg (by simp;omega) ?_
   rw[if_neg (fun h=>h7 h.1)]at hop
   by_cases h8:lv=8
   ·rw[if_pos h8]at hop
    refine Rs.pos (by simp[h8]) ?_
    refine PN.bind (hP f (Nat.le_refl _) s x h (hop▸ho)) (fun t s1 k n b m c x1 e hr hx=>?_) (fun p c e hp=>?_)
    ·rw[hop,e];exact Rs.some ⟨hr,hx⟩
    ·rw[hop,e];exact Rs.some ⟨hp,rfl⟩
   ·rw[if_neg h8]at hop
    refine Rs.neg (by simp;omega) ?_
    rw[s9 (i:=lv) (by omega)]
    refine PN.bind (hE f (Nat.le_refl _) (lv+1) (by omega) (by omega) s x h (PR.bind_out (hop▸ho))) (fun t s1 k n b m c x1 e hr hx=>?_) (fun p c e hp=>?_)
    ·rw[e]at hop
     dsimp only[PR.bind]at hop
     refine Rs.bind (cj9 hT hE lv hl1 (by omega) x f (Nat.le_refl _) q (by omega) t s1 x1 (.inl (y0 x1 (k,n,b,m,c))) ⟨_,rfl,hr⟩ hx (hop▸ho)) (fun z hz=>?_)
     rw[hop]
     cases hr2:mP T f lv t s1 with
     |out=>rw[hop,hr2]at ho;exact absurd rfl ho
     |err p c=>
      rw[hr2]at hz
      rcases z with z|z|z
      ·exact hz.elim
      ·exact Rs.some hz
      ·exact hz.elim
     |ok a s2=>
      rw[hr2]at hz
      rcases z with z|z|z
      ·obtain⟨x2,op,na,nb,ta,tb,rfl,rfl,g1,g2,g3⟩:=hz
       exact Rs.some ⟨RepN.k2 g1 g2,g3⟩
      ·exact hz.elim
      ·obtain⟨x2,nd,rfl,g1,g3⟩:=hz
       exact Rs.some ⟨g1,g3⟩
    ·rw[hop,e]
     exact Rs.some ⟨hp,rfl⟩
theorem fc0(hT:TokN N T){f q:Nat}(hE:HE N T pr f q)(b:ByteArray)(hb:b≠⟨#[]⟩)(lv:Nat)(hl1:1≤lv)(hl:lv≤8)(s:PS)(x:StT)(h:RS N T pr s x)(ho:fQ T (f+1) b lv s≠ .out):
 Rs (eb7 (q+1) (b,((lv:Nat):Int),x)) (PN N T pr (fQ T (f+1) b lv s)):=by
 show Rs ((sN (tP q) (af8 q) (b,((lv:Nat):Int),x) some).map bi2) _
 refine Rs.map (P:=fun y=>PN N T pr (fQ T (f+1) b lv s) (bi2 y)) ?_ fun z hz=>hz
 unfold sN
 dsimp only
 have hop:fQ T (f+1) b lv s=(eG T b s).bind fun _ s1=>(o9 T f lv s1).bind fun n s2=>.ok (.node 19 0 b [n]) (lI s2):=by rw[fQ]
 refine PU.bind (cp0 hT q h b hb) (fun s1 x1 e1 h1=>?_) (fun p c e hp=>?_)
 ·have o1:=zG (T:=T) b s
  rw[e1]at hop o1
  dsimp only[PR.bind]at hop
  refine PN.bind (hE f (Nat.le_refl _) lv hl1 hl s1 x1 h1 (PR.bind_out (hop▸ho))) (fun t s2 k n b m c x2 e hr hx=>?_) (fun p c e hp=>?_)
  ·have o2:=(ae9 (T:=T) f).1 lv s1
   rw[e]at hop o2
   rw[hop]
   have o1:s1.o=s.o+1:=o1
   have o2:s2.o=s1.o:=o2
   exact Rs.some ⟨RepN.k1 hr,hx.close hT (by omega)⟩
  ·rw[hop,e];exact Rs.some ⟨hp,rfl⟩
 ·rw[hop,e];exact Rs.some ⟨hp,rfl⟩
theorem fz0(hT:TokN N T){f q:Nat}(hE:HE N T pr f q)(s:PS)(x:StT)(h:RS N T pr s x)(ho:jX T (f+1) s≠ .out):
 Rs (bg8 (q+1) x) (PN N T pr (jX T (f+1) s)):=by
 show Rs ((jQ (next q) (kK q) (take q) (mK q) (name q) (is q) (tP q) (af8 q) x some).map ad6) _
 refine Rs.map (P:=fun y=>PN N T pr (jX T (f+1) s) (ad6 y)) ?_ fun z hz=>hz
 unfold jQ
 rw[gH q h]
 dsimp only[Option.bind_some]
 have hop:jX T (f+1) s=if(T s.p).k=2 then tA T s
  else if isP T w_true s=true then .ok (.node 16 1 ⟨#[]⟩ []) (adv s)
  else if isP T w_false s=true then .ok (.node 16 0 ⟨#[]⟩ []) (adv s)
  else if isP T ch7 s=true then(y7 T eo6 (adv s)).bind fun _ s1=>(fD T s1).bind fun x s2=>.ok (.node 18 0 x []) s2
  else if isP T nG s=true then(eG T nG s).bind fun _ s1=>(o9 T f 1 s1).bind fun n s2=>(y7 T jS s2).bind fun _ s3=>.ok n (lI s3)
  else(fD T s).bind fun x s1=>.ok (.node 17 0 x []) s1:=by rw[jX]
 by_cases hk:(T s.p).k=2
 ·rw[if_pos hk]at hop
  refine Rs.pos (by simp[hk]) ?_
  refine PN.bind (xI hT q h) (fun t s1 k n b m c x1 e hr hx=>?_) (fun p c e hp=>?_)
  ·rw[hop,e];exact Rs.some ⟨hr,hx⟩
  ·rw[hop,e];exact Rs.some ⟨hp,rfl⟩
 ·rw[if_neg hk]at hop
  refine Rs.neg (by simp[hk]) ?_
  rw[iK q h]
  dsimp only[Option.bind_some]
  by_cases h1:isP T w_true s=true
  ·rw[if_pos h1]at hop⊢
   refine Rs.pos rfl ?_
   rw[hop]
   exact Rs.some ⟨RepN.leaf,RS.adv hT h (u6 (by decide) h1)⟩
  ·rw[if_neg h1]at hop⊢
   refine Rs.neg (by simp) ?_
   rw[iK q h]
   dsimp only[Option.bind_some]
   by_cases h2:isP T w_false s=true
   ·rw[if_pos h2]at hop⊢
    refine Rs.pos rfl ?_
    rw[hop]
    exact Rs.some ⟨RepN.leaf,RS.adv hT h (u6 (by decide) h2)⟩
   ·rw[if_neg h2]at hop⊢
    refine Rs.neg (by simp) ?_
    rw[iK q h]
    dsimp only[Option.bind_some]
    by_cases h3:isP T ch7 s=true
    ·rw[if_pos h3]at hop⊢
     refine Rs.pos rfl ?_
     refine PU.bind (rR hT q (RS.adv hT h (u6 (by decide) h3)) eo6 (by decide)) (fun s1 x1 e1 g1=>?_) (fun p c e hp=>?_)
     ·rw[e1]at hop
      dsimp only[PR.bind]at hop
      refine PX.bind (bm4 hT q g1) (fun a s2 x2 e2 g2=>?_) (fun p c e hp=>?_)
      ·rw[hop,e2]
       exact Rs.some ⟨RepN.leaf,g2⟩
      ·rw[hop,e];exact Rs.some ⟨hp,rfl⟩
     ·rw[hop,e];exact Rs.some ⟨hp,rfl⟩
    ·rw[if_neg h3]at hop⊢
     refine Rs.neg (by simp) ?_
     rw[cg5 q h]
     dsimp only[Option.bind_some]
     by_cases h4:isP T nG s=true
     ·rw[if_pos h4]at hop
      refine Rs.pos h4 ?_
      refine PU.bind (cp0 hT q h nG (by decide)) (fun s1 x1 e1 g1=>?_) (fun p c e hp=>?_)
      ·have o1:=zG (T:=T) nG s
       rw[e1]at hop o1
       dsimp only[PR.bind]at hop
       refine PN.bind (hE f (Nat.le_refl _) 1 (by decide) (by decide) s1 x1 g1 (PR.bind_out (hop▸ho))) (fun t s2 k n b m c x2 e hr hx=>?_) (fun p c e hp=>?_)
       ·have o2:=(ae9 (T:=T) f).1 1 s1
        rw[e]at hop o2
        dsimp only[PR.bind]at hop
        refine PU.bind (rR hT q hx jS (by decide)) (fun s3 x3 e3 g3=>?_) (fun p c e hp=>?_)
        ·have o3:=yG (T:=T) jS s2
         rw[e3]at hop o3
         have o1:s1.o=s.o+1:=o1
         have o2:s2.o=s1.o:=o2
         have o3:s3.o=s2.o:=o3
         rw[hop]
         exact Rs.some ⟨hr,g3.close hT (by omega)⟩
        ·rw[hop,e];exact Rs.some ⟨hp,rfl⟩
       ·rw[hop,e];exact Rs.some ⟨hp,rfl⟩
      ·rw[hop,e];exact Rs.some ⟨hp,rfl⟩
     ·rw[if_neg h4]at hop
      refine Rs.neg h4 ?_
      refine PX.bind (bm4 hT q h) (fun a s2 x2 e2 g2=>?_) (fun p c e hp=>?_)
      ·rw[hop,e2]
       exact Rs.some ⟨RepN.leaf,g2⟩
      ·rw[hop,e];exact Rs.some ⟨hp,rfl⟩
theorem hq5(hT:TokN N T):∀f q,f+1≤q→HE N T pr f q∧HU N T pr f q∧HP N T pr f q:=by
 intro f
 induction f with
 |zero=>
  intro q _
  refine⟨fun g hg lv _ _ s x _ ho=>?_,fun g hg b _ lv _ _ s x _ ho=>?_,fun g hg s x _ ho=>?_⟩
  all_goals
   obtain rfl:g=0:=by omega
  ·rw[o9]at ho;exact absurd rfl ho
  ·rw[fQ]at ho;exact absurd rfl ho
  ·rw[jX]at ho;exact absurd rfl ho
 |succ f ih=>
  intro q hq
  obtain⟨q,rfl⟩:∃k,q=k+1:=⟨q-1,by omega⟩
  obtain⟨a1,a2,a3⟩:=ih (q+1) (by omega)
  obtain⟨b1,b2,b3⟩:=ih q (by omega)
  refine⟨fun g hg lv h1 h2 s x h ho=>?_,fun g hg b hb lv h1 h2 s x h ho=>?_,fun g hg s x h ho=>?_⟩
  ·by_cases e:g≤f
   ·exact a1 g e lv h1 h2 s x h ho
   ·obtain rfl:g=f+1:=by omega
    exact gb0 hT (by omega) b1 b2 b3 lv h1 h2 s x h ho
  ·by_cases e:g≤f
   ·exact a2 g e b hb lv h1 h2 s x h ho
   ·obtain rfl:g=f+1:=by omega
    exact fc0 hT b1 b hb lv h1 h2 s x h ho
  ·by_cases e:g≤f
   ·exact a3 g e s x h ho
   ·obtain rfl:g=f+1:=by omega
    exact fz0 hT b1 s x h ho
end
end Go.Proofs.YtjfkkokeegpeiaaGreatDoor
/- Statements, lifted. -/
namespace Go.Proofs.YtjfkkokeegpeiaaGreatDoor
open Go Go.Am Go.Proofs
set_option maxRecDepth 100000
abbrev bo9:Type:=SP
abbrev vC:Type:=(Int×Int×ByteArray×Int×Int×ByteArray×Nat×FL×SP)⊕(Int×Int)
def bp2:AR bo9:=fun x=>([.ptr 0 0],(hHP x))
def bw0:vC→CRes:=Sum.elim (fun z:Int×Int×ByteArray×Int×Int×ByteArray×Nat×FL×SP=>.ret (.agg [i64 z.1,i64 z.2.1,st z.2.2.1,.sl 3 4 0 1]) [some (.blk [.ro 4 z.2.2.2.2.2.2.2.2.2.2.1 (fun j=>[i64 (z.2.2.2.2.2.2.2.2.2.2.2.1 j),i64 (z.2.2.2.2.2.2.2.2.2.2.2.2.1 j),st (z.2.2.2.2.2.2.2.2.2.2.2.2.2.1 j),i64 (z.2.2.2.2.2.2.2.2.2.2.2.2.2.2.1 j)]),i64 z.2.2.2.2.2.2.2.2.1,i64 z.2.2.2.2.2.2.2.2.2.1,.sl 1 1 0 z.2.2.2.2.2.2.2.2.2.2.2.2.2.2.2.1,.sl 2 1 0 z.2.2.2.2.2.2.2.2.2.2.2.2.2.2.2.2.2.1]),some (.row 9 1 z.2.2.2.2.2.2.2.2.2.2.2.2.2.2.2.1 (fun j=>[st (z.2.2.2.2.2.2.2.2.2.2.2.2.2.2.2.2.1 j)])),some (.row 9 1 z.2.2.2.2.2.2.2.2.2.2.2.2.2.2.2.2.2.1 (fun j=>[st (z.2.2.2.2.2.2.2.2.2.2.2.2.2.2.2.2.2.2 j)])),some (.row 35 4 1 (gP [[i64 z.2.2.2.1,i64 z.2.2.2.2.1,st z.2.2.2.2.2.1,.ro 4 z.2.2.2.2.2.2.1 z.2.2.2.2.2.2.2.1]]))]) (fun z:Int×Int=>.pan (.ifc 45 (.agg [i64 z.1,i64 z.2])))
def uU{β:Type}(c_name:tF→Option tC)(c_must:jT→Option iO)(c_expr:mM→Option mO)(x:bo9)(dn:vC→Option β):Option β:=
 (c_name x).bind fun z11=>Sum.elim (fun z11a=>(c_must (⟨#[61]⟩,z11a.2)).bind fun z24=>Sum.elim (fun z24a=>(c_expr (1,z24a)).bind fun z37=>Sum.elim (fun z37a=>dn (.inl (2,0,z11a.1,z37a))) (fun z37b=>dn (.inr z37b)) z37) (fun z24b=>dn (.inr z24b)) z24) (fun z11b=>dn (.inr z11b)) z11
theorem fx4{β:Type}(c_name c_must c_expr)(x)(dn:vC→Option β):uU c_name c_must c_expr x dn=(uU c_name c_must c_expr x some).bind dn:=by
 unfold uU
 repeat' first|exact n0|refine n1 fun _=>?_|refine n2 ?_ ?_|refine n3 (fun _=>?_) fun _=>?_|rfl
theorem ga0(c_name c_must c_expr)(x):f7 E5 (ft2 54 fR wU c_name (ft2 53 t8 jA c_must (ft2 136 x7 iE c_expr ca0))) lo0 118 (bp2 x).1 (bp2 x).2 K=uU (vf fR c_name) (vf t8 c_must) (vf x7 c_expr) x (fun z=>some (.c (bw0 z))):=by kernel_rfl
noncomputable def de9(q:Nat)(x:bo9):Option vC:=uU (name q) (mK q) (af8 q) x some
theorem er1(q:Nat):Lw E5 118 bp2 bw0 (de9 q):=sof hW5 hX5 (fk2 (ax2 q) (fk2 (rL q) (fk2 (bg5 q) a8))) (fun _=>b6) fun x=>(ga0 (name q) (mK q) (af8 q) x).trans (by rw[bs7,vY,yX,fx4]<;>rfl)
abbrev bi4:Type:=SP
abbrev be4:Type:=(Int×Int×ByteArray×Nat×FL×SP)⊕(Int×Int)
def aq3:AR bi4:=fun x=>([.ptr 0 0],(hHP x))
def gs7(t:TT):bi4:=(dHP t.2)
theorem gq7:VI aq3:=vd gs7 fun _=>rfl
def bj3:be4→CRes:=Sum.elim (fun z:Int×Int×ByteArray×Nat×FL×SP=>.ret (.agg [i64 z.1,i64 z.2.1,st z.2.2.1,.ro 4 z.2.2.2.1 z.2.2.2.2.1]) (hHP z.2.2.2.2.2)) (fun z:Int×Int=>.pan (.ifc 45 (.agg [i64 z.1,i64 z.2])))
def bu9:vC→be4:=Sum.elim (fun z=>.inl (z.1,z.2.1,z.2.2.1,1,gP [[i64 z.2.2.2.1,i64 z.2.2.2.2.1,st z.2.2.2.2.2.1,.ro 4 z.2.2.2.2.2.2.1 z.2.2.2.2.2.2.2.1]],z.2.2.2.2.2.2.2.2)) (fun z=>.inr z)
theorem er0{args:List V}{L:List (Option Chunk)}(z:vC)(h:SC E5 118 args L (bw0 z)):SC E5 118 args L (bj3 (bu9 z)):=by
 rcases z with z|z
 ·exact de2 h
 ·exact h
noncomputable def assign(q:Nat)(x:bi4):Option be4:=(de9 q x).map bu9
theorem fz1(q:Nat):Lw E5 118 aq3 bj3 (assign q):=by
 intro x z h
 obtain⟨y,hy,rfl⟩:=Option.map_eq_some_iff.1 h
 exact er0 y (er1 q x y hy)
abbrev df4:Type:=SP
abbrev as4:Type:=(Int×Int×ByteArray×Int×Int×ByteArray×Nat×FL×SP)⊕(Int×Int)
def de7:AR df4:=fun x=>([.ptr 0 0],(hHP x))
def dh9:as4→CRes:=Sum.elim (fun z:Int×Int×ByteArray×Int×Int×ByteArray×Nat×FL×SP=>.ret (.agg [i64 z.1,i64 z.2.1,st z.2.2.1,.sl 3 4 0 1]) [some (.blk [.ro 4 z.2.2.2.2.2.2.2.2.2.2.1 (fun j=>[i64 (z.2.2.2.2.2.2.2.2.2.2.2.1 j),i64 (z.2.2.2.2.2.2.2.2.2.2.2.2.1 j),st (z.2.2.2.2.2.2.2.2.2.2.2.2.2.1 j),i64 (z.2.2.2.2.2.2.2.2.2.2.2.2.2.2.1 j)]),i64 z.2.2.2.2.2.2.2.2.1,i64 z.2.2.2.2.2.2.2.2.2.1,.sl 1 1 0 z.2.2.2.2.2.2.2.2.2.2.2.2.2.2.2.1,.sl 2 1 0 z.2.2.2.2.2.2.2.2.2.2.2.2.2.2.2.2.2.1]),some (.row 9 1 z.2.2.2.2.2.2.2.2.2.2.2.2.2.2.2.1 (fun j=>[st (z.2.2.2.2.2.2.2.2.2.2.2.2.2.2.2.2.1 j)])),some (.row 9 1 z.2.2.2.2.2.2.2.2.2.2.2.2.2.2.2.2.2.1 (fun j=>[st (z.2.2.2.2.2.2.2.2.2.2.2.2.2.2.2.2.2.2 j)])),some (.row 35 4 1 (gP [[i64 z.2.2.2.1,i64 z.2.2.2.2.1,st z.2.2.2.2.2.1,.ro 4 z.2.2.2.2.2.2.1 z.2.2.2.2.2.2.2.1]]))]) (fun z:Int×Int=>.pan (.ifc 45 (.agg [i64 z.1,i64 z.2])))
def at0{β:Type}(c_declare:y5→Option kS)(c_must:jT→Option iO)(c_expr:mM→Option mO)(x:df4)(dn:as4→Option β):Option β:=
 (c_declare (w (x.1+1),x.2)).bind fun z11=>Sum.elim (fun z11a=>(c_must (⟨#[61]⟩,z11a.2)).bind fun z24=>Sum.elim (fun z24a=>(c_expr (1,z24a)).bind fun z37=>Sum.elim (fun z37a=>dn (.inl (1,0,z11a.1,z37a))) (fun z37b=>dn (.inr z37b)) z37) (fun z24b=>dn (.inr z24b)) z24) (fun z11b=>dn (.inr z11b)) z11
theorem hh2{β:Type}(c_declare c_must c_expr)(x)(dn:as4→Option β):at0 c_declare c_must c_expr x dn=(at0 c_declare c_must c_expr x some).bind dn:=by
 unfold at0
 repeat' first|exact n0|refine n1 fun _=>?_|refine n2 ?_ ?_|refine n3 (fun _=>?_) fun _=>?_|rfl
theorem hg6(c_declare c_must c_expr)(x):f7 E5 (ft2 86 bS qL c_declare (ft2 53 t8 jA c_must (ft2 136 x7 iE c_expr ca0))) lo0 111 (de7 x).1 (de7 x).2 K=at0 (vf bS c_declare) (vf t8 c_must) (vf x7 c_expr) x (fun z=>some (.c (dh9 z))):=by kernel_rfl
noncomputable def gp4(q:Nat)(x:df4):Option as4:=at0 (pA q) (mK q) (af8 q) x some
theorem gv8(q:Nat):Lw E5 111 de7 dh9 (gp4 q):=sof hW5 hX5 (fk2 (bc8 q) (fk2 (rL q) (fk2 (bg5 q) a8))) (fun _=>b6) fun x=>(hg6 (pA q) (mK q) (af8 q) x).trans (by rw[av3,vY,yX,hh2]<;>rfl)
abbrev dl6:Type:=SP
abbrev dq7:Type:=(Int×Int×ByteArray×Nat×FL×SP)⊕(Int×Int)
def ci6:AR dl6:=fun x=>([.ptr 0 0],(hHP x))
def ic2(t:TT):dl6:=(dHP t.2)
theorem ht9:VI ci6:=vd ic2 fun _=>rfl
def dp7:dq7→CRes:=Sum.elim (fun z:Int×Int×ByteArray×Nat×FL×SP=>.ret (.agg [i64 z.1,i64 z.2.1,st z.2.2.1,.ro 4 z.2.2.2.1 z.2.2.2.2.1]) (hHP z.2.2.2.2.2)) (fun z:Int×Int=>.pan (.ifc 45 (.agg [i64 z.1,i64 z.2])))
def dm2:as4→dq7:=Sum.elim (fun z=>.inl (z.1,z.2.1,z.2.2.1,1,gP [[i64 z.2.2.2.1,i64 z.2.2.2.2.1,st z.2.2.2.2.2.1,.ro 4 z.2.2.2.2.2.2.1 z.2.2.2.2.2.2.2.1]],z.2.2.2.2.2.2.2.2)) (fun z=>.inr z)
theorem gf4{args:List V}{L:List (Option Chunk)}(z:as4)(h:SC E5 111 args L (dh9 z)):SC E5 111 args L (dp7 (dm2 z)):=by
 rcases z with z|z
 ·exact de2 h
 ·exact h
noncomputable def fp9(q:Nat)(x:dl6):Option dq7:=(gp4 q x).map dm2
theorem hj7(q:Nat):Lw E5 111 ci6 dp7 (fp9 q):=by
 intro x z h
 obtain⟨y,hy,rfl⟩:=Option.map_eq_some_iff.1 h
 exact gf4 y (gv8 q x y hy)
abbrev cj7:Type:=SP
abbrev zX:Type:=(Int×Int×ByteArray×FL×SP)⊕(Int×Int)
def cq9:AR cj7:=fun x=>([.ptr 0 0],(hHP x))
def cf2:zX→CRes:=Sum.elim (fun z:Int×Int×ByteArray×FL×SP=>.ret (.agg [i64 z.1,i64 z.2.1,st z.2.2.1,.sl 3 4 0 2]) [some (.blk [.ro 4 z.2.2.2.2.2.2.1 (fun j=>[i64 (z.2.2.2.2.2.2.2.1 j),i64 (z.2.2.2.2.2.2.2.2.1 j),st (z.2.2.2.2.2.2.2.2.2.1 j),i64 (z.2.2.2.2.2.2.2.2.2.2.1 j)]),i64 z.2.2.2.2.1,i64 z.2.2.2.2.2.1,.sl 1 1 0 z.2.2.2.2.2.2.2.2.2.2.2.1,.sl 2 1 0 z.2.2.2.2.2.2.2.2.2.2.2.2.2.1]),some (.row 9 1 z.2.2.2.2.2.2.2.2.2.2.2.1 (fun j=>[st (z.2.2.2.2.2.2.2.2.2.2.2.2.1 j)])),some (.row 9 1 z.2.2.2.2.2.2.2.2.2.2.2.2.2.1 (fun j=>[st (z.2.2.2.2.2.2.2.2.2.2.2.2.2.2 j)])),some (.row 35 4 2 z.2.2.2.1)]) (fun z:Int×Int=>.pan (.ifc 45 (.agg [i64 z.1,i64 z.2])))
def aa2{β:Type}(c_expr:mM→Option mO)(c_must:jT→Option iO)(c_literal:qU→Option qY)(x:cj7)(dn:zX→Option β):Option β:=
 (c_expr (1,w (x.1+1),x.2)).bind fun z12=>Sum.elim (fun z12a=>(c_must (⟨#[119,105,116,104,105,110]⟩,z12a.2.2.2.2.2)).bind fun z25=>Sum.elim (fun z25a=>(c_literal z25a).bind fun z37=>Sum.elim (fun z37a=>dn (.inl (6,0,⟨#[]⟩,fun j=>[i64 (if j<1 then z12a.1 else z37a.1),i64 (if j<1 then z12a.2.1 else z37a.2.1),st (if j<1 then z12a.2.2.1 else z37a.2.2.1),V.ro 4 (if j<1 then z12a.2.2.2.1 else z37a.2.2.2.1) fun j_1=>if j<1 then z12a.2.2.2.2.1 j_1 else z37a.2.2.2.2.1 j_1],z37a.2.2.2.2.2))) (fun z37b=>dn (.inr z37b)) z37) (fun z25b=>dn (.inr z25b)) z25) (fun z12b=>dn (.inr z12b)) z12
theorem go6{β:Type}(c_expr c_must c_literal)(x)(dn:zX→Option β):aa2 c_expr c_must c_literal x dn=(aa2 c_expr c_must c_literal x some).bind dn:=by
 unfold aa2
 repeat' first|exact n0|refine n1 fun _=>?_|refine n2 ?_ ?_|refine n3 (fun _=>?_) fun _=>?_|rfl
theorem gk5(c_expr c_must c_literal)(x):f7 E5 (ft2 136 x7 iE c_expr (ft2 53 t8 jA c_must (ft2 138 eF qF c_literal ca0))) lo0 114 (cq9 x).1 (cq9 x).2 K=aa2 (vf x7 c_expr) (vf t8 c_must) (vf eF c_literal) x (fun z=>some (.c (cf2 z))):=by kernel_rfl
noncomputable def fa3(q:Nat)(x:cj7):Option zX:=aa2 (af8 q) (mK q) (kK q) x some
theorem fy3(q:Nat):Lw E5 114 cq9 cf2 (fa3 q):=sof hW5 hX5 (fk2 (bg5 q) (fk2 (rL q) (fk2 (ai5 q) a8))) (fun _=>b6) fun x=>(gk5 (af8 q) (mK q) (kK q) x).trans (by rw[yX,vY,ay1,go6]<;>rfl)
abbrev cc0:Type:=SP
abbrev cb9:Type:=(Int×Int×ByteArray×Nat×FL×SP)⊕(Int×Int)
def bk2:AR cc0:=fun x=>([.ptr 0 0],(hHP x))
def hb9(t:TT):cc0:=(dHP t.2)
theorem hi3:VI bk2:=vd hb9 fun _=>rfl
def cb7:cb9→CRes:=Sum.elim (fun z:Int×Int×ByteArray×Nat×FL×SP=>.ret (.agg [i64 z.1,i64 z.2.1,st z.2.2.1,.ro 4 z.2.2.2.1 z.2.2.2.2.1]) (hHP z.2.2.2.2.2)) (fun z:Int×Int=>.pan (.ifc 45 (.agg [i64 z.1,i64 z.2])))
def cr5:zX→cb9:=Sum.elim (fun z=>.inl (z.1,z.2.1,z.2.2.1,2,z.2.2.2)) (fun z=>.inr z)
theorem fz3{args:List V}{L:List (Option Chunk)}(z:zX)(h:SC E5 114 args L (cf2 z)):SC E5 114 args L (cb7 (cr5 z)):=by
 rcases z with z|z
 ·exact de2 h
 ·exact h
noncomputable def await(q:Nat)(x:cc0):Option cb9:=(fa3 q x).map cr5
theorem gw1(q:Nat):Lw E5 114 bk2 cb7 (await q):=by
 intro x z h
 obtain⟨y,hy,rfl⟩:=Option.map_eq_some_iff.1 h
 exact fz3 y (fy3 q x y hy)
abbrev bn4:Type:=SP
abbrev vK:Type:=(Int×Int×ByteArray×Int×Int×ByteArray×Nat×FL×SP)⊕(Int×Int)
def bq3:AR bn4:=fun x=>([.ptr 0 0],(hHP x))
def br8:vK→CRes:=Sum.elim (fun z:Int×Int×ByteArray×Int×Int×ByteArray×Nat×FL×SP=>.ret (.agg [i64 z.1,i64 z.2.1,st z.2.2.1,.sl 3 4 0 1]) [some (.blk [.ro 4 z.2.2.2.2.2.2.2.2.2.2.1 (fun j=>[i64 (z.2.2.2.2.2.2.2.2.2.2.2.1 j),i64 (z.2.2.2.2.2.2.2.2.2.2.2.2.1 j),st (z.2.2.2.2.2.2.2.2.2.2.2.2.2.1 j),i64 (z.2.2.2.2.2.2.2.2.2.2.2.2.2.2.1 j)]),i64 z.2.2.2.2.2.2.2.2.1,i64 z.2.2.2.2.2.2.2.2.2.1,.sl 1 1 0 z.2.2.2.2.2.2.2.2.2.2.2.2.2.2.2.1,.sl 2 1 0 z.2.2.2.2.2.2.2.2.2.2.2.2.2.2.2.2.2.1]),some (.row 9 1 z.2.2.2.2.2.2.2.2.2.2.2.2.2.2.2.1 (fun j=>[st (z.2.2.2.2.2.2.2.2.2.2.2.2.2.2.2.2.1 j)])),some (.row 9 1 z.2.2.2.2.2.2.2.2.2.2.2.2.2.2.2.2.2.1 (fun j=>[st (z.2.2.2.2.2.2.2.2.2.2.2.2.2.2.2.2.2.2 j)])),some (.row 35 4 1 (gP [[i64 z.2.2.2.1,i64 z.2.2.2.2.1,st z.2.2.2.2.2.1,.ro 4 z.2.2.2.2.2.2.1 z.2.2.2.2.2.2.2.1]]))]) (fun z:Int×Int=>.pan (.ifc 45 (.agg [i64 z.1,i64 z.2])))
def vP{β:Type}(c_is:bn1→Option bs0)(c_literal:qU→Option qY)(x:bn4)(dn:vK→Option β):Option β:=
 (c_is (⟨#[107,101,101,112]⟩,x)).bind fun z12=>if z12.1=true then(c_literal (w (z12.2.1+1),z12.2.2)).bind fun z24=>Sum.elim (fun z24a=>dn (.inl (11,0,⟨#[]⟩,z24a))) (fun z24b=>dn (.inr z24b)) z24 else(c_literal (w (z12.2.1+1),z12.2.2)).bind fun z37=>Sum.elim (fun z37a=>dn (.inl (5,0,⟨#[]⟩,z37a))) (fun z37b=>dn (.inr z37b)) z37
theorem fp2{β:Type}(c_is c_literal)(x)(dn:vK→Option β):vP c_is c_literal x dn=(vP c_is c_literal x some).bind dn:=by
 unfold vP
 repeat' first|exact n0|refine n1 fun _=>?_|refine n2 ?_ ?_|refine n3 (fun _=>?_) fun _=>?_|rfl
theorem gb1(c_is c_literal)(x):f7 E5 (ftb 109 wA bs9 c_is (ft2 138 eF qF c_literal ca0)) lo0 115 (bq3 x).1 (bq3 x).2 K=vP (vf wA c_is) (vf eF c_literal) x (fun z=>some (.c (br8 z))):=by kernel_rfl
noncomputable def dk9(q:Nat)(x:bn4):Option vK:=vP (is q) (kK q) x some
theorem ew4(q:Nat):Lw E5 115 bq3 br8 (dk9 q):=sof hW5 hX5 (fk (cy9 q) (fk2 (ai5 q) a8)) (fun _=>b6) fun x=>(gb1 (is q) (kK q) x).trans (by rw[eh2,ay1,fp2]<;>rfl)
abbrev bi5:Type:=SP
abbrev bi1:Type:=(Int×Int×ByteArray×Nat×FL×SP)⊕(Int×Int)
def al7:AR bi5:=fun x=>([.ptr 0 0],(hHP x))
def gf2(t:TT):bi5:=(dHP t.2)
theorem gm5:VI al7:=vd gf2 fun _=>rfl
def bk0:bi1→CRes:=Sum.elim (fun z:Int×Int×ByteArray×Nat×FL×SP=>.ret (.agg [i64 z.1,i64 z.2.1,st z.2.2.1,.ro 4 z.2.2.2.1 z.2.2.2.2.1]) (hHP z.2.2.2.2.2)) (fun z:Int×Int=>.pan (.ifc 45 (.agg [i64 z.1,i64 z.2])))
def bn8:vK→bi1:=Sum.elim (fun z=>.inl (z.1,z.2.1,z.2.2.1,1,gP [[i64 z.2.2.2.1,i64 z.2.2.2.2.1,st z.2.2.2.2.2.1,.ro 4 z.2.2.2.2.2.2.1 z.2.2.2.2.2.2.2.1]],z.2.2.2.2.2.2.2.2)) (fun z=>.inr z)
theorem fa6{args:List V}{L:List (Option Chunk)}(z:vK)(h:SC E5 115 args L (br8 z)):SC E5 115 args L (bk0 (bn8 z)):=by
 rcases z with z|z
 ·exact de2 h
 ·exact h
noncomputable def bn5(q:Nat)(x:bi5):Option bi1:=(dk9 q x).map bn8
theorem fv3(q:Nat):Lw E5 115 al7 bk0 (bn5 q):=by
 intro x z h
 obtain⟨y,hy,rfl⟩:=Option.map_eq_some_iff.1 h
 exact fa6 y (ew4 q x y hy)
abbrev bn0:Type:=SP
abbrev uW:Type:=(Int×Int×ByteArray×Int×Int×ByteArray×Nat×FL×SP)⊕(Int×Int)
def bp9:AR bn0:=fun x=>([.ptr 0 0],(hHP x))
def bn9:uW→CRes:=Sum.elim (fun z:Int×Int×ByteArray×Int×Int×ByteArray×Nat×FL×SP=>.ret (.agg [i64 z.1,i64 z.2.1,st z.2.2.1,.sl 3 4 0 1]) [some (.blk [.ro 4 z.2.2.2.2.2.2.2.2.2.2.1 (fun j=>[i64 (z.2.2.2.2.2.2.2.2.2.2.2.1 j),i64 (z.2.2.2.2.2.2.2.2.2.2.2.2.1 j),st (z.2.2.2.2.2.2.2.2.2.2.2.2.2.1 j),i64 (z.2.2.2.2.2.2.2.2.2.2.2.2.2.2.1 j)]),i64 z.2.2.2.2.2.2.2.2.1,i64 z.2.2.2.2.2.2.2.2.2.1,.sl 1 1 0 z.2.2.2.2.2.2.2.2.2.2.2.2.2.2.2.1,.sl 2 1 0 z.2.2.2.2.2.2.2.2.2.2.2.2.2.2.2.2.2.1]),some (.row 9 1 z.2.2.2.2.2.2.2.2.2.2.2.2.2.2.2.1 (fun j=>[st (z.2.2.2.2.2.2.2.2.2.2.2.2.2.2.2.2.1 j)])),some (.row 9 1 z.2.2.2.2.2.2.2.2.2.2.2.2.2.2.2.2.2.1 (fun j=>[st (z.2.2.2.2.2.2.2.2.2.2.2.2.2.2.2.2.2.2 j)])),some (.row 35 4 1 (gP [[i64 z.2.2.2.1,i64 z.2.2.2.2.1,st z.2.2.2.2.2.1,.ro 4 z.2.2.2.2.2.2.1 z.2.2.2.2.2.2.2.1]]))]) (fun z:Int×Int=>.pan (.ifc 45 (.agg [i64 z.1,i64 z.2])))
def vD{β:Type}(c_is:bn1→Option bs0)(c_expr:mM→Option mO)(x:bn0)(dn:uW→Option β):Option β:=
 (c_is (⟨#[112,111,105,110,116]⟩,x)).bind fun z12=>if z12.1=true then(c_expr (1,w (z12.2.1+1),z12.2.2)).bind fun z25=>Sum.elim (fun z25a=>dn (.inl (8,0,⟨#[]⟩,z25a))) (fun z25b=>dn (.inr z25b)) z25 else(c_expr (1,w (z12.2.1+1),z12.2.2)).bind fun z39=>Sum.elim (fun z39a=>dn (.inl (7,0,⟨#[]⟩,z39a))) (fun z39b=>dn (.inr z39b)) z39
theorem fw7{β:Type}(c_is c_expr)(x)(dn:uW→Option β):vD c_is c_expr x dn=(vD c_is c_expr x some).bind dn:=by
 unfold vD
 repeat' first|exact n0|refine n1 fun _=>?_|refine n2 ?_ ?_|refine n3 (fun _=>?_) fun _=>?_|rfl
theorem fo4(c_is c_expr)(x):f7 E5 (ftb 109 wA bs9 c_is (ft2 136 x7 iE c_expr ca0)) lo0 116 (bp9 x).1 (bp9 x).2 K=vD (vf wA c_is) (vf x7 c_expr) x (fun z=>some (.c (bn9 z))):=by kernel_rfl
noncomputable def dq9(q:Nat)(x:bn0):Option uW:=vD (is q) (af8 q) x some
theorem et4(q:Nat):Lw E5 116 bp9 bn9 (dq9 q):=sof hW5 hX5 (fk (cy9 q) (fk2 (bg5 q) a8)) (fun _=>b6) fun x=>(fo4 (is q) (af8 q) x).trans (by rw[eh2,yX,fw7]<;>rfl)
abbrev bl0:Type:=SP
abbrev bm8:Type:=(Int×Int×ByteArray×Nat×FL×SP)⊕(Int×Int)
def aq8:AR bl0:=fun x=>([.ptr 0 0],(hHP x))
def gg7(t:TT):bl0:=(dHP t.2)
theorem gk8:VI aq8:=vd gg7 fun _=>rfl
def bf7:bm8→CRes:=Sum.elim (fun z:Int×Int×ByteArray×Nat×FL×SP=>.ret (.agg [i64 z.1,i64 z.2.1,st z.2.2.1,.ro 4 z.2.2.2.1 z.2.2.2.2.1]) (hHP z.2.2.2.2.2)) (fun z:Int×Int=>.pan (.ifc 45 (.agg [i64 z.1,i64 z.2])))
def bq6:uW→bm8:=Sum.elim (fun z=>.inl (z.1,z.2.1,z.2.2.1,1,gP [[i64 z.2.2.2.1,i64 z.2.2.2.2.1,st z.2.2.2.2.2.1,.ro 4 z.2.2.2.2.2.2.1 z.2.2.2.2.2.2.2.1]],z.2.2.2.2.2.2.2.2)) (fun z=>.inr z)
theorem eu4{args:List V}{L:List (Option Chunk)}(z:uW)(h:SC E5 116 args L (bn9 z)):SC E5 116 args L (bf7 (bq6 z)):=by
 rcases z with z|z
 ·exact de2 h
 ·exact h
noncomputable def bn3(q:Nat)(x:bl0):Option bm8:=(dq9 q x).map bq6
theorem gb8(q:Nat):Lw E5 116 aq8 bf7 (bn3 q):=by
 intro x z h
 obtain⟨y,hy,rfl⟩:=Option.map_eq_some_iff.1 h
 exact eu4 y (et4 q x y hy)
abbrev an9:Type:=SP
abbrev eZ:Type:=(Int×Int×ByteArray×SP)⊕(Int×Int×ByteArray×Int×Int×ByteArray×Nat×FL×SP)⊕(Int×Int)
def al9:AR an9:=fun x=>([.ptr 0 0],(hHP x))
def ak5:eZ→CRes:=Sum.elim (fun z:Int×Int×ByteArray×SP=>.ret (.agg [i64 z.1,i64 z.2.1,st z.2.2.1,g8]) (hHP z.2.2.2)) (Sum.elim (fun z:Int×Int×ByteArray×Int×Int×ByteArray×Nat×FL×SP=>.ret (.agg [i64 z.1,i64 z.2.1,st z.2.2.1,.sl 3 4 0 1]) [some (.blk [.ro 4 z.2.2.2.2.2.2.2.2.2.2.1 (fun j=>[i64 (z.2.2.2.2.2.2.2.2.2.2.2.1 j),i64 (z.2.2.2.2.2.2.2.2.2.2.2.2.1 j),st (z.2.2.2.2.2.2.2.2.2.2.2.2.2.1 j),i64 (z.2.2.2.2.2.2.2.2.2.2.2.2.2.2.1 j)]),i64 z.2.2.2.2.2.2.2.2.1,i64 z.2.2.2.2.2.2.2.2.2.1,.sl 1 1 0 z.2.2.2.2.2.2.2.2.2.2.2.2.2.2.2.1,.sl 2 1 0 z.2.2.2.2.2.2.2.2.2.2.2.2.2.2.2.2.2.1]),some (.row 9 1 z.2.2.2.2.2.2.2.2.2.2.2.2.2.2.2.1 (fun j=>[st (z.2.2.2.2.2.2.2.2.2.2.2.2.2.2.2.2.1 j)])),some (.row 9 1 z.2.2.2.2.2.2.2.2.2.2.2.2.2.2.2.2.2.1 (fun j=>[st (z.2.2.2.2.2.2.2.2.2.2.2.2.2.2.2.2.2.2 j)])),some (.row 35 4 1 (gP [[i64 z.2.2.2.1,i64 z.2.2.2.2.1,st z.2.2.2.2.2.1,.ro 4 z.2.2.2.2.2.2.1 z.2.2.2.2.2.2.2.1]]))]) (fun z:Int×Int=>.pan (.ifc 45 (.agg [i64 z.1,i64 z.2]))))
def nT{β:Type}(c_next:aM→Option aL)(c_number:xC→Option xD)(c_must:jT→Option iO)(c_literal:qU→Option qY)(x:an9)(dn:eZ→Option β):Option β:=
 (c_next x).bind fun z11=>if(z11.2.2.1.toList==ByteArray.toList ⟨#[101,109,105,116]⟩)=true then(c_number (0,99,w (z11.2.2.2.2.1+1),z11.2.2.2.2.2)).bind fun z25=>Sum.elim (fun z25a=>dn (.inl (12,z25a.1,⟨#[]⟩,z25a.2))) (fun z25b=>dn (.inr (.inr z25b))) z25 else if(z11.2.2.1.toList==ByteArray.toList ⟨#[97,98,111,114,116]⟩)=true then(c_number (0,999,w (z11.2.2.2.2.1+1),z11.2.2.2.2.2)).bind fun z40=>Sum.elim (fun z40a=>dn (.inl (13,z40a.1,⟨#[]⟩,z40a.2))) (fun z40b=>dn (.inr (.inr z40b))) z40 else if(z11.2.2.1.toList==ByteArray.toList ⟨#[117,115,101]⟩)=true then(c_number (0,7,w (z11.2.2.2.2.1+1),z11.2.2.2.2.2)).bind fun z55=>Sum.elim (fun z55a=>(c_must (⟨#[102,111,114]⟩,z55a.2)).bind fun z68=>Sum.elim (fun z68a=>(c_literal z68a).bind fun z80=>Sum.elim (fun z80a=>dn (.inr (.inl (9,z55a.1,⟨#[]⟩,z80a)))) (fun z80b=>dn (.inr (.inr z80b))) z80) (fun z68b=>dn (.inr (.inr z68b))) z68) (fun z55b=>dn (.inr (.inr z55b))) z55 else(c_number (0,7,w (z11.2.2.2.2.1+1),z11.2.2.2.2.2)).bind fun z97=>Sum.elim (fun z97a=>(c_must (⟨#[44]⟩,z97a.2)).bind fun z110=>Sum.elim (fun z110a=>(c_literal z110a).bind fun z122=>Sum.elim (fun z122a=>dn (.inr (.inl (10,z97a.1,⟨#[]⟩,z122a)))) (fun z122b=>dn (.inr (.inr z122b))) z122) (fun z110b=>dn (.inr (.inr z110b))) z110) (fun z97b=>dn (.inr (.inr z97b))) z97
theorem dz5{β:Type}(c_next c_number)(c_must c_literal)(x)(dn:eZ→Option β):nT c_next c_number c_must c_literal x dn=(nT c_next c_number c_must c_literal x some).bind dn:=by
 unfold nT
 repeat' first|exact n0|refine n1 fun _=>?_|refine n2 ?_ ?_|refine n3 (fun _=>?_) fun _=>?_|rfl
theorem dz6(c_next c_number)(c_must c_literal)(x):f7 E5 (ftb 22 j7 y6 c_next (ft2 137 iZ aa4 c_number (ft2 53 t8 jA c_must (ft2 138 eF qF c_literal ca0)))) lo0 117 (al9 x).1 (al9 x).2 K=nT (vf j7 c_next) (vf iZ c_number) (vf t8 c_must) (vf eF c_literal) x (fun z=>some (.c (ak5 z))):=by kernel_rfl
noncomputable def bp7(q:Nat)(x:an9):Option eZ:=nT (next q) (oI q) (mK q) (kK q) x some
theorem dr1(q:Nat):Lw E5 117 al9 ak5 (bp7 q):=sof hW5 hX5 (fk (lU q) (fk2 (br9 q) (fk2 (rL q) (fk2 (ai5 q) a8)))) (fun _=>b6) fun x=>(dz6 (next q) (oI q) (mK q) (kK q) x).trans (by rw[iD,cq3,vY,ay1,dz5]<;>rfl)
abbrev aj3:Type:=SP
abbrev ah3:Type:=(Int×Int×ByteArray×Nat×FL×SP)⊕(Int×Int)
def xJ:AR aj3:=fun x=>([.ptr 0 0],(hHP x))
def er8(t:TT):aj3:=(dHP t.2)
theorem es5:VI xJ:=vd er8 fun _=>rfl
def ae6:ah3→CRes:=Sum.elim (fun z:Int×Int×ByteArray×Nat×FL×SP=>.ret (.agg [i64 z.1,i64 z.2.1,st z.2.2.1,.ro 4 z.2.2.2.1 z.2.2.2.2.1]) (hHP z.2.2.2.2.2)) (fun z:Int×Int=>.pan (.ifc 45 (.agg [i64 z.1,i64 z.2])))
def sB:eZ→ah3:=Sum.elim (fun z=>.inl (z.1,z.2.1,z.2.2.1,0,fun _=>[],z.2.2.2)) (Sum.elim (fun z=>.inl (z.1,z.2.1,z.2.2.1,1,gP [[i64 z.2.2.2.1,i64 z.2.2.2.2.1,st z.2.2.2.2.2.1,.ro 4 z.2.2.2.2.2.2.1 z.2.2.2.2.2.2.2.1]],z.2.2.2.2.2.2.2.2)) (fun z=>.inr z))
theorem dm9{args:List V}{L:List (Option Chunk)}(z:eZ)(h:SC E5 117 args L (ak5 z)):SC E5 117 args L (ae6 (sB z)):=by
 rcases z with z|z|z
 ·exact hf8 h
 ·exact de2 h
 ·exact h
noncomputable def numbered(q:Nat)(x:aj3):Option ah3:=(bp7 q x).map sB
theorem ek2(q:Nat):Lw E5 117 xJ ae6 (numbered q):=by
 intro x z h
 obtain⟨y,hy,rfl⟩:=Option.map_eq_some_iff.1 h
 exact dm9 y (dr1 q x y hy)
abbrev tW:Type:=SP
abbrev uF:Type:=(Int×Int×ByteArray×Nat×FL×SP)⊕(Int×Int)
def gD:AR tW:=fun x=>([.ptr 0 0],(hHP x))
def hd6(t:TT):tW:=(dHP t.2)
theorem cc9:VI gD:=vd hd6 fun _=>rfl
def rT:uF→CRes:=Sum.elim (fun z:Int×Int×ByteArray×Nat×FL×SP=>.ret (.agg [i64 z.1,i64 z.2.1,st z.2.2.1,.ro 4 z.2.2.2.1 z.2.2.2.2.1]) (hHP z.2.2.2.2.2)) (fun z:Int×Int=>.pan (.ifc 45 (.agg [i64 z.1,i64 z.2])))
abbrev am1:Type:=SP
abbrev ap2:Type:=(Int×Int×ByteArray×Nat×FL×SP)⊕(Int×Int)
def ab1:AR am1:=fun x=>([.ptr 0 0],(hHP x))
def gl5(t:TT):am1:=(dHP t.2)
theorem gf7:VI ab1:=vd gl5 fun _=>rfl
def bi6:ap2→CRes:=Sum.elim (fun z:Int×Int×ByteArray×Nat×FL×SP=>.ret (.agg [i64 z.1,i64 z.2.1,st z.2.2.1,.ro 4 z.2.2.2.1 z.2.2.2.2.1]) (hHP z.2.2.2.2.2)) (fun z:Int×Int=>.pan (.ifc 45 (.agg [i64 z.1,i64 z.2])))
abbrev zO:Type:=SP
abbrev ab3:Type:=(Int×Int×ByteArray×Nat×FL×SP)⊕(Int×Int)
def uZ:AR zO:=fun x=>([.ptr 0 0],(hHP x))
def fu7(t:TT):zO:=(dHP t.2)
theorem ft6:VI uZ:=vd fu7 fun _=>rfl
def av7:ab3→CRes:=Sum.elim (fun z:Int×Int×ByteArray×Nat×FL×SP=>.ret (.agg [i64 z.1,i64 z.2.1,st z.2.2.1,.ro 4 z.2.2.2.1 z.2.2.2.2.1]) (hHP z.2.2.2.2.2)) (fun z:Int×Int=>.pan (.ifc 45 (.agg [i64 z.1,i64 z.2])))
abbrev eS:Type:=SP
abbrev bK:Type:=(Int×Int×ByteArray×Nat×FL×SP)⊕(Int×Int)
def aO:AR eS:=fun x=>([.ptr 0 0],(hHP x))
def ej1(t:TT):eS:=(dHP t.2)
theorem aq1:VI aO:=vd ej1 fun _=>rfl
def jV:bK→CRes:=Sum.elim (fun z:Int×Int×ByteArray×Nat×FL×SP=>.ret (.agg [i64 z.1,i64 z.2.1,st z.2.2.1,.ro 4 z.2.2.2.1 z.2.2.2.2.1]) (hHP z.2.2.2.2.2)) (fun z:Int×Int=>.pan (.ifc 45 (.agg [i64 z.1,i64 z.2])))
abbrev jG:Type:=SP
abbrev an1:Type:=(Int×Int×ByteArray×SP)⊕(Int×Int×ByteArray×Nat×FL×SP)⊕(Int×Int)
def ci9:AR jG:=fun x=>([.ptr 0 0],(hHP x))
def cg0:an1→CRes:=Sum.elim (fun z:Int×Int×ByteArray×SP=>.ret (.agg [i64 z.1,i64 z.2.1,st z.2.2.1,g8]) (hHP z.2.2.2)) (Sum.elim (fun z:Int×Int×ByteArray×Nat×FL×SP=>.ret (.agg [i64 z.1,i64 z.2.1,st z.2.2.1,.sl 3 4 0 z.2.2.2.1]) ((hHP z.2.2.2.2.2)++[some (.row 35 4 z.2.2.2.1 z.2.2.2.2.1)])) (fun z:Int×Int=>.pan (.ifc 45 (.agg [i64 z.1,i64 z.2]))))
abbrev cy8:Type:=SP
abbrev aa6:Type:=(Int×Int×ByteArray×FL×SP)⊕(Int×Int)
def bv4:AR cy8:=fun x=>([.ptr 0 0],(hHP x))
def bq2:aa6→CRes:=Sum.elim (fun z:Int×Int×ByteArray×FL×SP=>.ret (.agg [i64 z.1,i64 z.2.1,st z.2.2.1,.sl 3 4 0 3]) [some (.blk [.ro 4 z.2.2.2.2.2.2.1 (fun j=>[i64 (z.2.2.2.2.2.2.2.1 j),i64 (z.2.2.2.2.2.2.2.2.1 j),st (z.2.2.2.2.2.2.2.2.2.1 j),i64 (z.2.2.2.2.2.2.2.2.2.2.1 j)]),i64 z.2.2.2.2.1,i64 z.2.2.2.2.2.1,.sl 1 1 0 z.2.2.2.2.2.2.2.2.2.2.2.1,.sl 2 1 0 z.2.2.2.2.2.2.2.2.2.2.2.2.2.1]),some (.row 9 1 z.2.2.2.2.2.2.2.2.2.2.2.1 (fun j=>[st (z.2.2.2.2.2.2.2.2.2.2.2.2.1 j)])),some (.row 9 1 z.2.2.2.2.2.2.2.2.2.2.2.2.2.1 (fun j=>[st (z.2.2.2.2.2.2.2.2.2.2.2.2.2.2 j)])),some (.row 35 4 3 z.2.2.2.1)]) (fun z:Int×Int=>.pan (.ifc 45 (.agg [i64 z.1,i64 z.2])))
abbrev cp8:Type:=SP
abbrev xK:Type:=(Int×Int×ByteArray×Int×Int×ByteArray×Nat×FL×SP)⊕(Int×Int)
def bb6:AR cp8:=fun x=>([.ptr 0 0],(hHP x))
def bc7:xK→CRes:=Sum.elim (fun z:Int×Int×ByteArray×Int×Int×ByteArray×Nat×FL×SP=>.ret (.agg [i64 z.1,i64 z.2.1,st z.2.2.1,.sl 3 4 0 1]) [some (.blk [.ro 4 z.2.2.2.2.2.2.2.2.2.2.1 (fun j=>[i64 (z.2.2.2.2.2.2.2.2.2.2.2.1 j),i64 (z.2.2.2.2.2.2.2.2.2.2.2.2.1 j),st (z.2.2.2.2.2.2.2.2.2.2.2.2.2.1 j),i64 (z.2.2.2.2.2.2.2.2.2.2.2.2.2.2.1 j)]),i64 z.2.2.2.2.2.2.2.2.1,i64 z.2.2.2.2.2.2.2.2.2.1,.sl 1 1 0 z.2.2.2.2.2.2.2.2.2.2.2.2.2.2.2.1,.sl 2 1 0 z.2.2.2.2.2.2.2.2.2.2.2.2.2.2.2.2.2.1]),some (.row 9 1 z.2.2.2.2.2.2.2.2.2.2.2.2.2.2.2.1 (fun j=>[st (z.2.2.2.2.2.2.2.2.2.2.2.2.2.2.2.2.1 j)])),some (.row 9 1 z.2.2.2.2.2.2.2.2.2.2.2.2.2.2.2.2.2.1 (fun j=>[st (z.2.2.2.2.2.2.2.2.2.2.2.2.2.2.2.2.2.2 j)])),some (.row 35 4 1 (gP [[i64 z.2.2.2.1,i64 z.2.2.2.2.1,st z.2.2.2.2.2.1,.ro 4 z.2.2.2.2.2.2.1 z.2.2.2.2.2.2.2.1]]))]) (fun z:Int×Int=>.pan (.ifc 45 (.agg [i64 z.1,i64 z.2])))
abbrev bj2:Type:=SP
abbrev gE:Type:=(Int×Int×ByteArray×Nat×FL×SP)⊕(Int×Int)
def ai2:AR bj2:=fun x=>([.ptr 0 0],(hHP x))
def ag8:gE→CRes:=Sum.elim (fun z:Int×Int×ByteArray×Nat×FL×SP=>.ret (.agg [i64 z.1,i64 z.2.1,st z.2.2.1,.ro 4 z.2.2.2.1 z.2.2.2.2.1]) (hHP z.2.2.2.2.2)) (fun z:Int×Int=>.pan (.ifc 45 (.agg [i64 z.1,i64 z.2])))
abbrev bR:Type:=(SC2)⊕(Nat×FI×FI×FS×FI×Int×Int×Nat×Nat×FS×FS×FI×FI×FS×FN×FM×Nat)
abbrev mV:Type:=(Int×Int)⊕(SC2)⊕(Nat×FI×FI×FS×FI×Int×Int×Nat×Nat×FS×FS×Nat×FI×FI×FS×FN×FM)
def dn4(x:jG)(y:SC2):St:={fr:=[V.ptr 0 0,V.junk,V.ptr 3 0,V.ptr 4 0]++jk 21,H:=hp [some (hPB y),some (hPV y),some (hl8 y),some (Chunk.blk [i64 0,i64 0,st ⟨#[]⟩,g8]),some (Chunk.blk [i64 14,i64 0,st ⟨#[]⟩,g8])],nx:=5,rt:=1,me:=57}
def dj5(s:St):SC2:=((u7 (cb s 0 0)),dTI (cb s 0 0) 0,dTI (cb s 0 0) 1,dTS (cb s 0 0) 2,dTI (cb s 0 0) 3,vI (cb s 0 1),vI (cb s 0 2),dB (cb s 0 3),dB (cb s 0 4),dRS (s.H 1) 0,dRS (s.H 2) 0)
def df7(x:jG)(y:Nat×FI×FI×FS×FI×Int×Int×Nat×Nat×FS×FS×FI×FI×FS×FN×FM×Nat):St:={fr:=[V.ptr 0 0,V.junk,V.ptr 3 0,V.ptr 4 0]++jk 21,H:=hp [some (hPB y),some (hPV y),some (hPQ y),some (Chunk.blk [i64 0,i64 0,st ⟨#[]⟩,g8]),some (Chunk.blk [i64 14,i64 0,st ⟨#[]⟩,V.sl 5 4 0 y.2.2.2.2.2.2.2.2.2.2.2.2.2.2.2.2]),some (Chunk.row 35 4 y.2.2.2.2.2.2.2.2.2.2.2.2.2.2.2.2 fun j=>[i64 (y.2.2.2.2.2.2.2.2.2.2.2.1 j),i64 (y.2.2.2.2.2.2.2.2.2.2.2.2.1 j),st (y.2.2.2.2.2.2.2.2.2.2.2.2.2.1 j),V.ro 4 (y.2.2.2.2.2.2.2.2.2.2.2.2.2.2.1 j) (y.2.2.2.2.2.2.2.2.2.2.2.2.2.2.2.1 j)])],nx:=6,rt:=1,me:=57}
def dj1(s:St):Nat×FI×FI×FS×FI×Int×Int×Nat×Nat×FS×FS×FI×FI×FS×FN×FM×Nat:=((u7 (cb s 0 0)),dTI (cb s 0 0) 0,dTI (cb s 0 0) 1,dTS (cb s 0 0) 2,dTI (cb s 0 0) 3,vI (cb s 0 1),vI (cb s 0 2),dB (cb s 0 3),dB (cb s 0 4),dRS (s.H 1) 0,dRS (s.H 2) 0,dRI (s.H 5) 0,dRI (s.H 5) 1,dRS (s.H 5) 2,dRN (s.H 5) 3,dRF (s.H 5) 3,dB (cb s 4 3))
def fB(x:jG):bR→St:=(Sum.elim (dn4 x) (df7 x))
def du3(s:St):bR:=(match s.nx==5 with|true=>(.inl (dj5 s)) |false=>(.inr (dj1 s)))
theorem ds4(x:jG):VL (fB x):=vl du3 (fun y=>by rcases y with y|y<;>rfl)
def nY(x:jG):mV→Ex×St:=(Sum.elim (fun z=>(Ex.panic (V.ifc 45 (V.agg [i64 z.1,i64 z.2])),{fr:=[V.junk]++jk 24,H:=hp [none],nx:=1,rt:=1,me:=57})) (Sum.elim (fun z=>(Ex.exit 0,{fr:=[V.ptr 0 0,V.junk,V.ptr 3 0,V.ptr 4 0]++jk 21,H:=hp [some (hPB z),some (hPV z),some (hl8 z),some (Chunk.blk [i64 0,i64 0,st ⟨#[]⟩,g8]),some (Chunk.blk [i64 14,i64 0,st ⟨#[]⟩,g8])],nx:=5,rt:=1,me:=57})) (fun z=>(Ex.exit 0,{fr:=[V.ptr 0 0,V.junk,V.ptr 3 0,V.ptr 4 0]++jk 21,H:=hp [some (hPB z),some (hPV z),some (hPQ z),some (Chunk.blk [i64 0,i64 0,st ⟨#[]⟩,g8]),some (Chunk.blk [i64 14,i64 0,st ⟨#[]⟩,V.sl 5 4 0 z.2.2.2.2.2.2.2.2.2.2.2.1]),some (Chunk.row 35 4 z.2.2.2.2.2.2.2.2.2.2.2.1 fun j=>[i64 (z.2.2.2.2.2.2.2.2.2.2.2.2.1 j),i64 (z.2.2.2.2.2.2.2.2.2.2.2.2.2.1 j),st (z.2.2.2.2.2.2.2.2.2.2.2.2.2.2.1 j),V.ro 4 (z.2.2.2.2.2.2.2.2.2.2.2.2.2.2.2.1 j) (z.2.2.2.2.2.2.2.2.2.2.2.2.2.2.2.2 j)])],nx:=6,rt:=1,me:=57}))))
def kN{β:Type}(c_opens:rH→Option rJ)(c_take:mF→Option mG)(c_statement:eS→Option bK)(x:jG)(y:SC2)(nx:bR→Option β)(dn:mV→Option β):Option β:=
 (c_take (⟨#[125]⟩,y.2.2.2.2.2.1,y.2.2.2.2.2.2.1,y.1,y.2.1,y.2.2.1,y.2.2.2.1,y.2.2.2.2.1,y.2.2.2.2.2.2.2.1,y.2.2.2.2.2.2.2.2.2.1,y.2.2.2.2.2.2.2.2.1,y.2.2.2.2.2.2.2.2.2.2)).bind fun z454=>if(!z454.1)=true then(c_statement z454.2).bind fun z466=>Sum.elim (fun z466a=>nx (.inr (z466a.2.2.2.2.2.2.2.1,z466a.2.2.2.2.2.2.2.2.1,z466a.2.2.2.2.2.2.2.2.2.1,z466a.2.2.2.2.2.2.2.2.2.2.1,z466a.2.2.2.2.2.2.2.2.2.2.2.1,z466a.2.2.2.2.2.1,z466a.2.2.2.2.2.2.1,z466a.2.2.2.2.2.2.2.2.2.2.2.2.1,z466a.2.2.2.2.2.2.2.2.2.2.2.2.2.2.1,z466a.2.2.2.2.2.2.2.2.2.2.2.2.2.1,z466a.2.2.2.2.2.2.2.2.2.2.2.2.2.2.2,fun j=>z466a.1,fun j=>z466a.2.1,fun j=>z466a.2.2.1,fun j=>z466a.2.2.2.1,fun j=>z466a.2.2.2.2.1,1))) (fun z466b=>dn (.inl z466b)) z466 else dn (.inr (.inl (z454.2.2.2.1,z454.2.2.2.2.1,z454.2.2.2.2.2.1,z454.2.2.2.2.2.2.1,z454.2.2.2.2.2.2.2.1,z454.2.1,z454.2.2.1,z454.2.2.2.2.2.2.2.2.1,z454.2.2.2.2.2.2.2.2.2.2.1,z454.2.2.2.2.2.2.2.2.2.1,z454.2.2.2.2.2.2.2.2.2.2.2)))
theorem dj2{β:Type}(c_opens c_take c_statement)(x)(y)(nx:bR→Option β)(dn):kN c_opens c_take c_statement x y nx dn=(kN c_opens c_take c_statement x y (fun y=>some (.inl y)) (fun z=>some (.inr z))).bind fun r=>Sum.elim nx dn r:=by
 unfold kN
 repeat' first|exact n0|refine n1 fun _=>?_|refine n2 ?_ ?_|refine n3 (fun _=>?_) fun _=>?_|rfl
theorem df0(c_opens c_take c_statement)(x)(y)(lo:f5):n8 E5 (ft2 88 cW oX c_opens (ftb 84 aC lG c_take (ft2 89 aO jV c_statement ca0))) lo 0 13 (b5 E5 57 0) (fB x (.inl y)) (KCM [(0,13)] 4)=kN (vf cW c_opens) (vf aC c_take) (vf aO c_statement) x y (fun y=>lo 0 13 (b5 E5 57 0) (fB x y) (KCM [(0,13)] 4)) (fun z=>some (.l (nY x z).1 (nY x z).2)):=by kernel_rfl
def kJ{β:Type}(c_opens:rH→Option rJ)(c_take:mF→Option mG)(c_statement:eS→Option bK)(x:jG)(y:Nat×FI×FI×FS×FI×Int×Int×Nat×Nat×FS×FS×FI×FI×FS×FN×FM×Nat)(nx:bR→Option β)(dn:mV→Option β):Option β:=
 (c_take (⟨#[125]⟩,y.2.2.2.2.2.1,y.2.2.2.2.2.2.1,y.1,y.2.1,y.2.2.1,y.2.2.2.1,y.2.2.2.2.1,y.2.2.2.2.2.2.2.1,y.2.2.2.2.2.2.2.2.2.1,y.2.2.2.2.2.2.2.2.1,y.2.2.2.2.2.2.2.2.2.2.1)).bind fun z481=>if(!z481.1)=true then(c_statement z481.2).bind fun z493=>Sum.elim (fun z493a=>if(y.2.2.2.2.2.2.2.2.2.2.2.2.2.2.2.2+1)*56≤d5∧y.2.2.2.2.2.2.2.2.2.2.2.2.2.2.2.2+1≤maxLen∧y.2.2.2.2.2.2.2.2.2.2.2.2.2.2.2.2≤y.2.2.2.2.2.2.2.2.2.2.2.2.2.2.2.2 then nx (.inr (z493a.2.2.2.2.2.2.2.1,z493a.2.2.2.2.2.2.2.2.1,z493a.2.2.2.2.2.2.2.2.2.1,z493a.2.2.2.2.2.2.2.2.2.2.1,z493a.2.2.2.2.2.2.2.2.2.2.2.1,z493a.2.2.2.2.2.1,z493a.2.2.2.2.2.2.1,z493a.2.2.2.2.2.2.2.2.2.2.2.2.1,z493a.2.2.2.2.2.2.2.2.2.2.2.2.2.2.1,z493a.2.2.2.2.2.2.2.2.2.2.2.2.2.1,z493a.2.2.2.2.2.2.2.2.2.2.2.2.2.2.2,fun j=>if j<y.2.2.2.2.2.2.2.2.2.2.2.2.2.2.2.2 then y.2.2.2.2.2.2.2.2.2.2.2.1 j else z493a.1,fun j=>if j<y.2.2.2.2.2.2.2.2.2.2.2.2.2.2.2.2 then y.2.2.2.2.2.2.2.2.2.2.2.2.1 j else z493a.2.1,fun j=>if j<y.2.2.2.2.2.2.2.2.2.2.2.2.2.2.2.2 then y.2.2.2.2.2.2.2.2.2.2.2.2.2.1 j else z493a.2.2.1,fun j=>if j<y.2.2.2.2.2.2.2.2.2.2.2.2.2.2.2.2 then y.2.2.2.2.2.2.2.2.2.2.2.2.2.2.1 j else z493a.2.2.2.1,fun(j j_1:Nat)=>if j<y.2.2.2.2.2.2.2.2.2.2.2.2.2.2.2.2 then y.2.2.2.2.2.2.2.2.2.2.2.2.2.2.2.1 j j_1 else z493a.2.2.2.2.1 j_1,y.2.2.2.2.2.2.2.2.2.2.2.2.2.2.2.2+1))else none) (fun z493b=>dn (.inl z493b)) z493 else dn (.inr (.inr (z481.2.2.2.1,z481.2.2.2.2.1,z481.2.2.2.2.2.1,z481.2.2.2.2.2.2.1,z481.2.2.2.2.2.2.2.1,z481.2.1,z481.2.2.1,z481.2.2.2.2.2.2.2.2.1,z481.2.2.2.2.2.2.2.2.2.2.1,z481.2.2.2.2.2.2.2.2.2.1,z481.2.2.2.2.2.2.2.2.2.2.2,y.2.2.2.2.2.2.2.2.2.2.2.2.2.2.2.2,y.2.2.2.2.2.2.2.2.2.2.2.1,y.2.2.2.2.2.2.2.2.2.2.2.2.1,y.2.2.2.2.2.2.2.2.2.2.2.2.2.1,y.2.2.2.2.2.2.2.2.2.2.2.2.2.2.1,y.2.2.2.2.2.2.2.2.2.2.2.2.2.2.2.1)))
theorem dj4{β:Type}(c_opens c_take c_statement)(x)(y)(nx:bR→Option β)(dn):kJ c_opens c_take c_statement x y nx dn=(kJ c_opens c_take c_statement x y (fun y=>some (.inl y)) (fun z=>some (.inr z))).bind fun r=>Sum.elim nx dn r:=by
 unfold kJ
 repeat' first|exact n0|refine n1 fun _=>?_|refine n2 ?_ ?_|refine n3 (fun _=>?_) fun _=>?_|rfl
theorem di7(c_opens c_take c_statement)(x)(y)(lo:f5):n8 E5 (ft2 88 cW oX c_opens (ftb 84 aC lG c_take (ft2 89 aO jV c_statement ca0))) lo 0 13 (b5 E5 57 0) (fB x (.inr y)) (KCM [(0,13)] 4)=kJ (vf cW c_opens) (vf aC c_take) (vf aO c_statement) x y (fun y=>lo 0 13 (b5 E5 57 0) (fB x y) (KCM [(0,13)] 4)) (fun z=>some (.l (nY x z).1 (nY x z).2)):=by kernel_rfl
noncomputable def qW(c_opens:rH→Option rJ)(c_take:mF→Option mG)(c_statement:eS→Option bK)(q:Nat)(x:jG):bR→Option mV:=lpG (Sum.elim (fun y=>kN c_opens c_take c_statement x y (fun y=>some (.inl y)) (fun z=>some (.inr z))) (fun y=>kJ c_opens c_take c_statement x y (fun y=>some (.inl y)) (fun z=>some (.inr z)))) q
theorem dt8(c_opens)(h_opens:Lw E5 88 cW oX c_opens)(c_take)(h_take:Lw E5 84 aC lG c_take)(c_statement)(h_statement:Lw E5 89 aO jV c_statement)(q:Nat)(x:jG):Ll E5 (b5 E5 57 0) (fB x) (nY x) (qW c_opens c_take c_statement q x):=
 slp (fk2 h_opens (fk h_take (fk2 h_statement a8))) hX5 (fun lo y=>by
  rcases y with y|y
  ·exact(df0 c_opens c_take c_statement x y lo).trans (by rw[bl7,ae0,aq1];exact dj2 _ _ _ _ _ _ _)
  ·exact(di7 c_opens c_take c_statement x y lo).trans (by rw[bl7,ae0,aq1];exact dj4 _ _ _ _ _ _ _)) (fun z=>by rcases z with z|z|z<;>kernel_rfl) q
def rX{β:Type}(c_opens:rH→Option rJ)(c_take:mF→Option mG)(c_statement:eS→Option bK)(l_blockR_l0:bR→Option mV)(x:jG)(dn:an1→Option β):Option β:=
 (c_opens (⟨#[123]⟩,x)).bind fun z12=>Sum.elim (fun z12a=>(l_blockR_l0 (.inl (z12a.2.2.1,z12a.2.2.2.1,z12a.2.2.2.2.1,z12a.2.2.2.2.2.1,z12a.2.2.2.2.2.2.1,z12a.1,z12a.2.1,z12a.2.2.2.2.2.2.2.1,z12a.2.2.2.2.2.2.2.2.2.1,z12a.2.2.2.2.2.2.2.2.1,z12a.2.2.2.2.2.2.2.2.2.2))).bind fun z394=>Sum.elim (fun z394a=>dn (.inr (.inr z394a))) (fun z394b=>Sum.elim (fun z394ba=>dn (.inl (14,0,⟨#[]⟩,z394ba.2.2.2.2.2.1,w (z394ba.2.2.2.2.2.2.1-1),z394ba.1,z394ba.2.1,z394ba.2.2.1,z394ba.2.2.2.1,z394ba.2.2.2.2.1,z394ba.2.2.2.2.2.2.2.1,z394ba.2.2.2.2.2.2.2.2.2.1,z394ba.2.2.2.2.2.2.2.2.1,z394ba.2.2.2.2.2.2.2.2.2.2))) (fun z394bb=>dn (.inr (.inl (14,0,⟨#[]⟩,z394bb.2.2.2.2.2.2.2.2.2.2.2.1,fun j=>[i64 (z394bb.2.2.2.2.2.2.2.2.2.2.2.2.1 j),i64 (z394bb.2.2.2.2.2.2.2.2.2.2.2.2.2.1 j),st (z394bb.2.2.2.2.2.2.2.2.2.2.2.2.2.2.1 j),V.ro 4 (z394bb.2.2.2.2.2.2.2.2.2.2.2.2.2.2.2.1 j) (z394bb.2.2.2.2.2.2.2.2.2.2.2.2.2.2.2.2 j)],z394bb.2.2.2.2.2.1,w (z394bb.2.2.2.2.2.2.1-1),z394bb.1,z394bb.2.1,z394bb.2.2.1,z394bb.2.2.2.1,z394bb.2.2.2.2.1,z394bb.2.2.2.2.2.2.2.1,z394bb.2.2.2.2.2.2.2.2.2.1,z394bb.2.2.2.2.2.2.2.2.1,z394bb.2.2.2.2.2.2.2.2.2.2.1)))) z394b) z394) (fun z12b=>dn (.inr (.inr z12b))) z12
theorem ge0{β:Type}(c_opens c_take c_statement)(l_blockR_l0)(x)(dn:an1→Option β):rX c_opens c_take c_statement l_blockR_l0 x dn=(rX c_opens c_take c_statement l_blockR_l0 x some).bind dn:=by
 unfold rX
 repeat' first|exact n0|refine n1 fun _=>?_|refine n2 ?_ ?_|refine n3 (fun _=>?_) fun _=>?_|rfl
theorem gn7(c_opens c_take c_statement)(l_blockR_l0)(x):f7 E5 (ft2 88 cW oX c_opens (ftb 84 aC lG c_take (ft2 89 aO jV c_statement ca0))) (lt3 0 (fun _=>true) (b5 E5 57 0) (fB x) (nY x) l_blockR_l0 lo0) 57 (ci9 x).1 (ci9 x).2 K=rX (vf cW c_opens) (vf aC c_take) (vf aO c_statement) (lf (b5 E5 57 0) (fB x) l_blockR_l0) x (fun z=>some (.c (cg0 z))):=by kernel_rfl
theorem gn6(c_opens)(h_opens:Lw E5 88 cW oX c_opens)(c_take)(h_take:Lw E5 84 aC lG c_take)(c_statement)(h_statement:Lw E5 89 aO jV c_statement)(q:Nat):Lw E5 57 ci9 cg0 fun x=>rX c_opens c_take c_statement (qW c_opens c_take c_statement q x) x some:=sof hW5 hX5 (fk2 h_opens (fk h_take (fk2 h_statement a8))) (fun x=>(lk3 (dt8 c_opens h_opens c_take h_take c_statement h_statement q x) b6)) fun x=>(gn7 c_opens c_take c_statement (qW c_opens c_take c_statement q x) x).trans (by rw[bl7,ae0,aq1,ds4,ge0]<;>rfl)
noncomputable def nM{β:Type}(c_expr:mM→Option mO)(c_block:tW→Option uF)(c_take:mF→Option mG)(x:cy8)(dn:aa6→Option β):Option β:=
 (c_expr (1,w (x.1+1),x.2)).bind fun z12=>Sum.elim (fun z12a=>(c_block z12a.2.2.2.2.2).bind fun z24=>Sum.elim (fun z24a=>(c_take (⟨#[101,108,115,101]⟩,z24a.2.2.2.2.2)).bind fun z37=>if z37.1=true then(c_block z37.2).bind fun z49=>Sum.elim (fun z49a=>dn (.inl (3,0,⟨#[]⟩,fun j=>[i64 (if j<2 then if j<1 then z12a.1 else z24a.1 else z49a.1),i64 (if j<2 then if j<1 then z12a.2.1 else z24a.2.1 else z49a.2.1),st (if j<2 then if j<1 then z12a.2.2.1 else z24a.2.2.1 else z49a.2.2.1),V.ro 4 (if j<2 then if j<1 then z12a.2.2.2.1 else z24a.2.2.2.1 else z49a.2.2.2.1) fun j_1=>if j<2 then if j<1 then z12a.2.2.2.2.1 j_1 else z24a.2.2.2.2.1 j_1 else z49a.2.2.2.2.1 j_1],z49a.2.2.2.2.2))) (fun z49b=>dn (.inr z49b)) z49 else dn (.inl (3,0,⟨#[]⟩,fun j=>[i64 (if j<2 then if j<1 then z12a.1 else z24a.1 else 14),i64 (if j<2 then if j<1 then z12a.2.1 else z24a.2.1 else 0),st (if j<2 then if j<1 then z12a.2.2.1 else z24a.2.2.1 else⟨#[]⟩),Decidable.rec (fun(h:¬j<1+1)=>g8) (fun(h:j<1+1)=>bv7 (j<1) (V.ro 4 z12a.2.2.2.1 z12a.2.2.2.2.1) (V.ro 4 z24a.2.2.2.1 z24a.2.2.2.2.1)) (Nat.decLt j (1+1))],z37.2))) (fun z24b=>dn (.inr z24b)) z24) (fun z12b=>dn (.inr z12b)) z12
theorem fp8{β:Type}(c_expr c_block c_take)(x)(dn:aa6→Option β):nM c_expr c_block c_take x dn=(nM c_expr c_block c_take x some).bind dn:=by
 unfold nM
 repeat' first|exact n0|refine n1 fun _=>?_|refine n2 ?_ ?_|refine n3 (fun _=>?_) fun _=>?_|rfl
theorem fs8(c_expr c_block c_take)(x):f7 E5 (ft2 136 x7 iE c_expr (ft2 57 gD rT c_block (ftb 84 aC lG c_take ca0))) lo0 112 (bv4 x).1 (bv4 x).2 K=nM (vf x7 c_expr) (vf gD c_block) (vf aC c_take) x (fun z=>some (.c (bq2 z))):=by kernel_rfl
theorem fz5(c_expr)(h_expr:Lw E5 136 x7 iE c_expr)(c_block)(h_block:Lw E5 57 gD rT c_block)(c_take)(h_take:Lw E5 84 aC lG c_take)(q:Nat):Lw E5 112 bv4 bq2 fun x=>nM c_expr c_block c_take x some:=sof hW5 hX5 (fk2 h_expr (fk2 h_block (fk h_take a8))) (fun _=>b6) fun x=>(fs8 c_expr c_block c_take x).trans (by rw[yX,cc9,ae0,fp8]<;>rfl)
def jH{β:Type}(c_number:xC→Option xD)(c_block:tW→Option uF)(x:cp8)(dn:xK→Option β):Option β:=
 (c_number (1,100,w (x.1+1),x.2)).bind fun z13=>Sum.elim (fun z13a=>(c_block z13a.2).bind fun z25=>Sum.elim (fun z25a=>dn (.inl (4,z13a.1,⟨#[]⟩,z25a))) (fun z25b=>dn (.inr z25b)) z25) (fun z13b=>dn (.inr z13b)) z13
theorem fd2{β:Type}(c_number c_block)(x)(dn:xK→Option β):jH c_number c_block x dn=(jH c_number c_block x some).bind dn:=by
 unfold jH
 repeat' first|exact n0|refine n1 fun _=>?_|refine n2 ?_ ?_|refine n3 (fun _=>?_) fun _=>?_|rfl
theorem ez7(c_number c_block)(x):f7 E5 (ft2 137 iZ aa4 c_number (ft2 57 gD rT c_block ca0)) lo0 113 (bb6 x).1 (bb6 x).2 K=jH (vf iZ c_number) (vf gD c_block) x (fun z=>some (.c (bc7 z))):=by kernel_rfl
theorem ew3(c_number)(h_number:Lw E5 137 iZ aa4 c_number)(c_block)(h_block:Lw E5 57 gD rT c_block)(q:Nat):Lw E5 113 bb6 bc7 fun x=>jH c_number c_block x some:=sof hW5 hX5 (fk2 h_number (fk2 h_block a8)) (fun _=>b6) fun x=>(ez7 c_number c_block x).trans (by rw[cq3,cc9,fd2]<;>rfl)
def dJ{β:Type}(c_next:aM→Option aL)(c_letS:dl6→Option dq7)(c_branch:am1→Option ap2)(c_repeatS:zO→Option ab3)(c_await:cc0→Option cb9)(c_amount:bi5→Option bi1)(c_single:bl0→Option bm8)(c_numbered:aj3→Option ah3)(c_assign:bi4→Option be4)(c_must:jT→Option iO)(x:bj2)(dn:gE→Option β):Option β:=
 (c_next x).bind fun z11=>if(z11.2.2.1.toList==ByteArray.toList ⟨#[108,101,116]⟩)=true then(c_letS z11.2.2.2.2).bind fun z23=>Sum.elim (fun z23a=>(c_must (⟨#[59]⟩,z23a.2.2.2.2.2)).bind fun z36=>Sum.elim (fun z36a=>dn (.inl (z23a.1,z23a.2.1,z23a.2.2.1,z23a.2.2.2.1,z23a.2.2.2.2.1,z36a))) (fun z36b=>dn (.inr z36b)) z36) (fun z23b=>dn (.inr z23b)) z23 else if(z11.2.2.1.toList==ByteArray.toList ⟨#[105,102]⟩)=true then(c_branch z11.2.2.2.2).bind fun z50=>Sum.elim (fun z50a=>dn (.inl z50a)) (fun z50b=>dn (.inr z50b)) z50 else if(z11.2.2.1.toList==ByteArray.toList ⟨#[114,101,112,101,97,116]⟩)=true then(c_repeatS z11.2.2.2.2).bind fun z63=>Sum.elim (fun z63a=>dn (.inl z63a)) (fun z63b=>dn (.inr z63b)) z63 else if(z11.2.2.1.toList==ByteArray.toList ⟨#[97,119,97,105,116]⟩)=true then(c_await z11.2.2.2.2).bind fun z76=>Sum.elim (fun z76a=>(c_must (⟨#[59]⟩,z76a.2.2.2.2.2)).bind fun z89=>Sum.elim (fun z89a=>dn (.inl (z76a.1,z76a.2.1,z76a.2.2.1,z76a.2.2.2.1,z76a.2.2.2.2.1,z89a))) (fun z89b=>dn (.inr z89b)) z89) (fun z76b=>dn (.inr z76b)) z76 else if(z11.2.2.1.toList==ByteArray.toList ⟨#[119,97,105,116]⟩)=true then(c_amount z11.2.2.2.2).bind fun z103=>Sum.elim (fun z103a=>(c_must (⟨#[59]⟩,z103a.2.2.2.2.2)).bind fun z116=>Sum.elim (fun z116a=>dn (.inl (z103a.1,z103a.2.1,z103a.2.2.1,z103a.2.2.2.1,z103a.2.2.2.2.1,z116a))) (fun z116b=>dn (.inr z116b)) z116) (fun z103b=>dn (.inr z103b)) z103 else if(z11.2.2.1.toList==ByteArray.toList ⟨#[107,101,101,112]⟩)=true then(c_amount z11.2.2.2.2).bind fun z130=>Sum.elim (fun z130a=>(c_must (⟨#[59]⟩,z130a.2.2.2.2.2)).bind fun z143=>Sum.elim (fun z143a=>dn (.inl (z130a.1,z130a.2.1,z130a.2.2.1,z130a.2.2.2.1,z130a.2.2.2.2.1,z143a))) (fun z143b=>dn (.inr z143b)) z143) (fun z130b=>dn (.inr z130b)) z130 else if(z11.2.2.1.toList==ByteArray.toList ⟨#[114,101,113,117,105,114,101]⟩)=true then(c_single z11.2.2.2.2).bind fun z157=>Sum.elim (fun z157a=>(c_must (⟨#[59]⟩,z157a.2.2.2.2.2)).bind fun z170=>Sum.elim (fun z170a=>dn (.inl (z157a.1,z157a.2.1,z157a.2.2.1,z157a.2.2.2.1,z157a.2.2.2.2.1,z170a))) (fun z170b=>dn (.inr z170b)) z170) (fun z157b=>dn (.inr z157b)) z157 else if(z11.2.2.1.toList==ByteArray.toList ⟨#[112,111,105,110,116]⟩)=true then(c_single z11.2.2.2.2).bind fun z184=>Sum.elim (fun z184a=>(c_must (⟨#[59]⟩,z184a.2.2.2.2.2)).bind fun z197=>Sum.elim (fun z197a=>dn (.inl (z184a.1,z184a.2.1,z184a.2.2.1,z184a.2.2.2.1,z184a.2.2.2.2.1,z197a))) (fun z197b=>dn (.inr z197b)) z197) (fun z184b=>dn (.inr z184b)) z184 else if(z11.2.2.1.toList==ByteArray.toList ⟨#[117,115,101]⟩)=true then(c_numbered z11.2.2.2.2).bind fun z211=>Sum.elim (fun z211a=>(c_must (⟨#[59]⟩,z211a.2.2.2.2.2)).bind fun z224=>Sum.elim (fun z224a=>dn (.inl (z211a.1,z211a.2.1,z211a.2.2.1,z211a.2.2.2.1,z211a.2.2.2.2.1,z224a))) (fun z224b=>dn (.inr z224b)) z224) (fun z211b=>dn (.inr z211b)) z211 else if(z11.2.2.1.toList==ByteArray.toList ⟨#[115,101,110,100]⟩)=true then(c_numbered z11.2.2.2.2).bind fun z238=>Sum.elim (fun z238a=>(c_must (⟨#[59]⟩,z238a.2.2.2.2.2)).bind fun z251=>Sum.elim (fun z251a=>dn (.inl (z238a.1,z238a.2.1,z238a.2.2.1,z238a.2.2.2.1,z238a.2.2.2.2.1,z251a))) (fun z251b=>dn (.inr z251b)) z251) (fun z238b=>dn (.inr z238b)) z238 else if(z11.2.2.1.toList==ByteArray.toList ⟨#[101,109,105,116]⟩)=true then(c_numbered z11.2.2.2.2).bind fun z265=>Sum.elim (fun z265a=>(c_must (⟨#[59]⟩,z265a.2.2.2.2.2)).bind fun z278=>Sum.elim (fun z278a=>dn (.inl (z265a.1,z265a.2.1,z265a.2.2.1,z265a.2.2.2.1,z265a.2.2.2.2.1,z278a))) (fun z278b=>dn (.inr z278b)) z278) (fun z265b=>dn (.inr z265b)) z265 else if(z11.2.2.1.toList==ByteArray.toList ⟨#[97,98,111,114,116]⟩)=true then(c_numbered z11.2.2.2.2).bind fun z292=>Sum.elim (fun z292a=>(c_must (⟨#[59]⟩,z292a.2.2.2.2.2)).bind fun z305=>Sum.elim (fun z305a=>dn (.inl (z292a.1,z292a.2.1,z292a.2.2.1,z292a.2.2.2.1,z292a.2.2.2.2.1,z305a))) (fun z305b=>dn (.inr z305b)) z305) (fun z292b=>dn (.inr z292b)) z292 else(c_assign z11.2.2.2.2).bind fun z319=>Sum.elim (fun z319a=>(c_must (⟨#[59]⟩,z319a.2.2.2.2.2)).bind fun z332=>Sum.elim (fun z332a=>dn (.inl (z319a.1,z319a.2.1,z319a.2.2.1,z319a.2.2.2.1,z319a.2.2.2.2.1,z332a))) (fun z332b=>dn (.inr z332b)) z332) (fun z319b=>dn (.inr z319b)) z319
theorem dg6{β:Type}(c_next c_letS)(c_branch c_repeatS)(c_await c_amount)(c_single c_numbered)(c_assign c_must)(x)(dn:gE→Option β):dJ c_next c_letS c_branch c_repeatS c_await c_amount c_single c_numbered c_assign c_must x dn=(dJ c_next c_letS c_branch c_repeatS c_await c_amount c_single c_numbered c_assign c_must x some).bind dn:=by
 unfold dJ
 repeat' first|exact n0|refine n1 fun _=>?_|refine n2 ?_ ?_|refine n3 (fun _=>?_) fun _=>?_|rfl
theorem dq5(c_next c_letS)(c_branch c_repeatS)(c_await c_amount)(c_single c_numbered)(c_assign c_must)(x):f7 E5 (ftb 22 j7 y6 c_next (ft2 111 ci6 dp7 c_letS (ft2 112 ab1 bi6 c_branch (ft2 113 uZ av7 c_repeatS (ft2 114 bk2 cb7 c_await (ft2 115 al7 bk0 c_amount (ft2 116 aq8 bf7 c_single (ft2 117 xJ ae6 c_numbered (ft2 118 aq3 bj3 c_assign (ft2 53 t8 jA c_must ca0)))))))))) lo0 89 (ai2 x).1 (ai2 x).2 K=dJ (vf j7 c_next) (vf ci6 c_letS) (vf ab1 c_branch) (vf uZ c_repeatS) (vf bk2 c_await) (vf al7 c_amount) (vf aq8 c_single) (vf xJ c_numbered) (vf aq3 c_assign) (vf t8 c_must) x (fun z=>some (.c (ag8 z))):=by kernel_rfl
theorem dd6(c_next)(h_next:Lw E5 22 j7 y6 c_next)(c_letS)(h_letS:Lw E5 111 ci6 dp7 c_letS)(c_branch)(h_branch:Lw E5 112 ab1 bi6 c_branch)(c_repeatS)(h_repeatS:Lw E5 113 uZ av7 c_repeatS)(c_await)(h_await:Lw E5 114 bk2 cb7 c_await)(c_amount)(h_amount:Lw E5 115 al7 bk0 c_amount)(c_single)(h_single:Lw E5 116 aq8 bf7 c_single)(c_numbered)(h_numbered:Lw E5 117 xJ ae6 c_numbered)(c_assign)(h_assign:Lw E5 118 aq3 bj3 c_assign)(c_must)(h_must:Lw E5 53 t8 jA c_must)(q:Nat):Lw E5 89 ai2 ag8 fun x=>dJ c_next c_letS c_branch c_repeatS c_await c_amount c_single c_numbered c_assign c_must x some:=sof hW5 hX5 (fk h_next (fk2 h_letS (fk2 h_branch (fk2 h_repeatS (fk2 h_await (fk2 h_amount (fk2 h_single (fk2 h_numbered (fk2 h_assign (fk2 h_must a8)))))))))) (fun _=>b6) fun x=>(dq5 c_next c_letS c_branch c_repeatS c_await c_amount c_single c_numbered c_assign c_must x).trans (by rw[iD,ht9,gf7,ft6,hi3,gm5,gk8,es5,gq7,vY,dg6]<;>rfl)
def bm1:an1→uF:=Sum.elim (fun z=>.inl (z.1,z.2.1,z.2.2.1,0,fun _=>[],z.2.2.2)) (Sum.elim (fun z=>.inl z) (fun z=>.inr z))
theorem fr6{args:List V}{L:List (Option Chunk)}(z:an1)(h:SC E5 57 args L (cg0 z)):SC E5 57 args L (rT (bm1 z)):=by
 rcases z with z|z|z
 ·exact hf8 h
 ·exact ib0 h
 ·exact h
def vL:aa6→ap2:=Sum.elim (fun z=>.inl (z.1,z.2.1,z.2.2.1,3,fun j=>fixC (z.2.2.2.1 j),z.2.2.2.2)) (fun z=>.inr z)
theorem fe4{args:List V}{L:List (Option Chunk)}(z:aa6)(h:SC E5 112 args L (bq2 z)):SC E5 112 args L (bi6 (vL z)):=by
 rcases z with z|z
 ·exact il6 h
 ·exact h
def ag2:xK→ab3:=Sum.elim (fun z=>.inl (z.1,z.2.1,z.2.2.1,1,gP [[i64 z.2.2.2.1,i64 z.2.2.2.2.1,st z.2.2.2.2.2.1,.ro 4 z.2.2.2.2.2.2.1 z.2.2.2.2.2.2.2.1]],z.2.2.2.2.2.2.2.2)) (fun z=>.inr z)
theorem dx9{args:List V}{L:List (Option Chunk)}(z:xK)(h:SC E5 113 args L (bc7 z)):SC E5 113 args L (av7 (ag2 z)):=by
 rcases z with z|z
 ·exact de2 h
 ·exact h
def dH:gE→bK:=Sum.elim (fun z=>.inl z) (fun z=>.inr z)
theorem ct5{args:List V}{L:List (Option Chunk)}(z:gE)(h:SC E5 89 args L (ag8 z)):SC E5 89 args L (jV (dH z)):=by
 rcases z with z|z
 ·exact h
 ·exact h
noncomputable def stS:Nat→(tW→Option uF)×(am1→Option ap2)×(zO→Option ab3)×(eS→Option bK)
 |0=>(fun _=>none,fun _=>none,fun _=>none,fun _=>none)
 |q+1=>(fun x=>(rX ((tP q)) ((take q)) ((stS q).2.2.2) (qW ((tP q)) ((take q)) ((stS q).2.2.2) q x) x some).map bm1,
  fun x=>(nM ((af8 q)) ((stS q).1) ((take q)) x some).map vL,
  fun x=>(jH ((oI q)) ((stS q).1) x some).map ag2,
  fun x=>(dJ ((next q)) ((fp9 q)) ((stS q).2.1) ((stS q).2.2.1) ((await q)) ((bn5 q)) ((bn3 q)) ((numbered q)) ((assign q)) ((mK q)) x some).map dH)
theorem gr4:∀q,(∀x z,(stS q).1 x=some z→SC E5 57 (gD x).1 (gD x).2 (rT z))∧(∀x z,(stS q).2.1 x=some z→SC E5 112 (ab1 x).1 (ab1 x).2 (bi6 z))∧(∀x z,(stS q).2.2.1 x=some z→SC E5 113 (uZ x).1 (uZ x).2 (av7 z))∧(∀x z,(stS q).2.2.2 x=some z→SC E5 89 (aO x).1 (aO x).2 (jV z))
 |0=>⟨(fun x z h=>by cases h),(fun x z h=>by cases h),(fun x z h=>by cases h),(fun x z h=>by cases h)⟩
 |q+1=>by
  obtain⟨h0,h1,h2,h3⟩:=gr4 q
  exact⟨(fun x z h=>by
   obtain⟨y,hy,rfl⟩:=Option.map_eq_some_iff.1 h
   exact fr6 y (gn6 ((tP q)) ((cg4 q)) ((take q)) ((ax9 q)) ((stS q).2.2.2) (h3) q x y hy)),(fun x z h=>by
   obtain⟨y,hy,rfl⟩:=Option.map_eq_some_iff.1 h
   exact fe4 y (fz5 ((af8 q)) ((bg5 q)) ((stS q).1) (h0) ((take q)) ((ax9 q)) q x y hy)),(fun x z h=>by
   obtain⟨y,hy,rfl⟩:=Option.map_eq_some_iff.1 h
   exact dx9 y (ew3 ((oI q)) ((br9 q)) ((stS q).1) (h0) q x y hy)),(fun x z h=>by
   obtain⟨y,hy,rfl⟩:=Option.map_eq_some_iff.1 h
   exact ct5 y (dd6 ((next q)) ((lU q)) ((fp9 q)) ((hj7 q)) ((stS q).2.1) (h1) ((stS q).2.2.1) (h2) ((await q)) ((gw1 q)) ((bn5 q)) ((fv3 q)) ((bn3 q)) ((gb8 q)) ((numbered q)) ((ek2 q)) ((assign q)) ((fz1 q)) ((mK q)) ((rL q)) q x y hy))⟩
noncomputable def block(q:Nat):tW→Option uF:=(stS q).1
theorem ea4(q:Nat):Lw E5 57 gD rT (block q):=(gr4 q).1
noncomputable def gt1(q:Nat):am1→Option ap2:=(stS q).2.1
noncomputable def fg5(q:Nat):zO→Option ab3:=(stS q).2.2.1
noncomputable def ac0(q:Nat):eS→Option bK:=(stS q).2.2.2
end Go.Proofs.YtjfkkokeegpeiaaGreatDoor
/- Procedures, lifted. -/
namespace Go.Proofs.YtjfkkokeegpeiaaGreatDoor
open Go Go.Am Go.Proofs
set_option maxRecDepth 100000
abbrev bU:Type:=SP
abbrev uS:Type:=(SP)⊕(Nat×FS×FS×SP)⊕(Int×Int)
def bv8:AR bU:=fun x=>([.ptr 0 0],[some (.blk [.ro 4 x.2.2.1 (fun j=>[i64 (x.2.2.2.1 j),i64 (x.2.2.2.2.1 j),st (x.2.2.2.2.2.1 j),i64 (x.2.2.2.2.2.2.1 j)]),i64 x.1,i64 x.2.1,.sl 2 1 0 x.2.2.2.2.2.2.2.1,.sl 1 1 0 x.2.2.2.2.2.2.2.2.2.1]),some (.row 9 1 x.2.2.2.2.2.2.2.2.2.1 (fun j=>[st (x.2.2.2.2.2.2.2.2.2.2 j)])),some (.row 9 1 x.2.2.2.2.2.2.2.1 (fun j=>[st (x.2.2.2.2.2.2.2.2.1 j)]))])
def bw3:uS→CRes:=Sum.elim (fun z:SP=>.ret g8 (hHP z)) (Sum.elim (fun z:Nat×FS×FS×SP=>.ret (.sl 3 2 0 z.1) [some (.blk [.ro 4 z.2.2.2.2.2.1 (fun j=>[i64 (z.2.2.2.2.2.2.1 j),i64 (z.2.2.2.2.2.2.2.1 j),st (z.2.2.2.2.2.2.2.2.1 j),i64 (z.2.2.2.2.2.2.2.2.2.1 j)]),i64 z.2.2.2.1,i64 z.2.2.2.2.1,.sl 1 1 0 z.2.2.2.2.2.2.2.2.2.2.1,.sl 2 1 0 z.2.2.2.2.2.2.2.2.2.2.2.2.1]),some (.row 9 1 z.2.2.2.2.2.2.2.2.2.2.1 (fun j=>[st (z.2.2.2.2.2.2.2.2.2.2.2.1 j)])),some (.row 9 1 z.2.2.2.2.2.2.2.2.2.2.2.2.1 (fun j=>[st (z.2.2.2.2.2.2.2.2.2.2.2.2.2 j)])),some (.row 66 2 z.1 (fun j=>[st (z.2.1 j),st (z.2.2.1 j)]))]) (fun z:Int×Int=>.pan (.ifc 45 (.agg [i64 z.1,i64 z.2]))))
abbrev aG:Type:=(SC2)⊕(Nat×FI×FI×FS×FI×Int×Int×Nat×Nat×FS×FS×FS×FS×Nat)
abbrev kL:Type:=(Int×Int)⊕(Nat×FI×FI×FS×FI×Int×Int×Nat×Nat×FS×FS×FS×FS×Nat)
def ct1(x:bU)(y:SC2):St:={fr:=[V.ptr 0 0,V.junk,V.junk,g8]++jk 54,H:=hp [some (hPB y),some (hPV y),some (hl8 y)],nx:=3,rt:=1,me:=56}
def cr8(s:St):SC2:=((u7 (cb s 0 0)),dTI (cb s 0 0) 0,dTI (cb s 0 0) 1,dTS (cb s 0 0) 2,dTI (cb s 0 0) 3,vI (cb s 0 1),vI (cb s 0 2),dB (cb s 0 3),dB (cb s 0 4),dRS (s.H 1) 0,dRS (s.H 2) 0)
def ct4(x:bU)(y:Nat×FI×FI×FS×FI×Int×Int×Nat×Nat×FS×FS×FS×FS×Nat):St:={fr:=[V.ptr 0 0,V.junk,V.junk,V.sl 3 2 0 y.2.2.2.2.2.2.2.2.2.2.2.2.2]++jk 54,H:=hp [some (hPB y),some (hPV y),some (hPQ y),some (Chunk.row 66 2 y.2.2.2.2.2.2.2.2.2.2.2.2.2 fun j=>[st (y.2.2.2.2.2.2.2.2.2.2.2.1 j),st (y.2.2.2.2.2.2.2.2.2.2.2.2.1 j)])],nx:=4,rt:=1,me:=56}
def cw5(s:St):Nat×FI×FI×FS×FI×Int×Int×Nat×Nat×FS×FS×FS×FS×Nat:=((u7 (cb s 0 0)),dTI (cb s 0 0) 0,dTI (cb s 0 0) 1,dTS (cb s 0 0) 2,dTI (cb s 0 0) 3,vI (cb s 0 1),vI (cb s 0 2),dB (cb s 0 3),dB (cb s 0 4),dRS (s.H 1) 0,dRS (s.H 2) 0,dRS (s.H 3) 0,dRS (s.H 3) 1,dB (s.fr.getD 3 .junk))
def dV(x:bU):aG→St:=(Sum.elim (ct1 x) (ct4 x))
def dg8(s:St):aG:=(match s.nx==3 with|true=>(.inl (cr8 s)) |false=>(.inr (cw5 s)))
theorem dm6(x:bU):VL (dV x):=vl dg8 (fun y=>by rcases y with y|y<;>rfl)
def lC(x:bU):kL→Ex×St:=(Sum.elim (fun z=>(Ex.panic (V.ifc 45 (V.agg [i64 z.1,i64 z.2])),{fr:=[V.junk]++jk 57,H:=hp [none],nx:=1,rt:=1,me:=56})) (fun z=>(Ex.exit 0,{fr:=[V.ptr 0 0,V.junk,V.junk,V.sl 3 2 0 z.2.2.2.2.2.2.2.2.2.2.2.2.2]++jk 54,H:=hp [some (hPB z),some (hPV z),some (hPQ z),some (Chunk.row 66 2 z.2.2.2.2.2.2.2.2.2.2.2.2.2 fun j=>[st (z.2.2.2.2.2.2.2.2.2.2.2.1 j),st (z.2.2.2.2.2.2.2.2.2.2.2.2.1 j)])],nx:=4,rt:=1,me:=56})))
def gU{β:Type}(c_must:jT→Option iO)(c_take:mF→Option mG)(c_declare:y5→Option kS)(c_next:aM→Option aL)(c_Lookup:oL→Option oP)(c_fail:iC→Option iB)(x:bU)(y:SC2)(nx:aG→Option β)(dn:kL→Option β):Option β:=
 (c_declare (y.2.2.2.2.2.1,y.2.2.2.2.2.2.1,y.1,y.2.1,y.2.2.1,y.2.2.2.1,y.2.2.2.2.1,y.2.2.2.2.2.2.2.1,y.2.2.2.2.2.2.2.2.2.1,y.2.2.2.2.2.2.2.2.1,y.2.2.2.2.2.2.2.2.2.2)).bind fun z985=>Sum.elim (fun z985a=>(c_take (⟨#[58]⟩,z985a.2)).bind fun z998=>if z998.1=true then(c_next z998.2).bind fun z1010=>(c_Lookup z1010.2.2.1).bind fun z1012=>if(z1010.1 !=1)=true then(c_fail (11,z1010.2.2.2.2)).bind fun z1025=>dn (.inl z1025)else if(!z1012.2.2.2.2.2.2)=true then(c_fail (10,z1010.2.2.2.2)).bind fun z1038=>dn (.inl z1038)else(c_take (⟨#[44]⟩,w (z1010.2.2.2.2.1+1),z1010.2.2.2.2.2)).bind fun z1051=>if(!z1051.1)=true then dn (.inr (z1051.2.2.2.1,z1051.2.2.2.2.1,z1051.2.2.2.2.2.1,z1051.2.2.2.2.2.2.1,z1051.2.2.2.2.2.2.2.1,z1051.2.1,z1051.2.2.1,z1051.2.2.2.2.2.2.2.2.1,z1051.2.2.2.2.2.2.2.2.2.2.1,z1051.2.2.2.2.2.2.2.2.2.1,z1051.2.2.2.2.2.2.2.2.2.2.2,fun j=>z985a.1,fun j=>z1010.2.2.1,1))else nx (.inr (z1051.2.2.2.1,z1051.2.2.2.2.1,z1051.2.2.2.2.2.1,z1051.2.2.2.2.2.2.1,z1051.2.2.2.2.2.2.2.1,z1051.2.1,z1051.2.2.1,z1051.2.2.2.2.2.2.2.2.1,z1051.2.2.2.2.2.2.2.2.2.2.1,z1051.2.2.2.2.2.2.2.2.2.1,z1051.2.2.2.2.2.2.2.2.2.2.2,fun j=>z985a.1,fun j=>z1010.2.2.1,1))else(c_take (⟨#[44]⟩,z998.2)).bind fun z1064=>if(!z1064.1)=true then dn (.inr (z1064.2.2.2.1,z1064.2.2.2.2.1,z1064.2.2.2.2.2.1,z1064.2.2.2.2.2.2.1,z1064.2.2.2.2.2.2.2.1,z1064.2.1,z1064.2.2.1,z1064.2.2.2.2.2.2.2.2.1,z1064.2.2.2.2.2.2.2.2.2.2.1,z1064.2.2.2.2.2.2.2.2.2.1,z1064.2.2.2.2.2.2.2.2.2.2.2,fun j=>z985a.1,fun j=>⟨#[]⟩,1))else nx (.inr (z1064.2.2.2.1,z1064.2.2.2.2.1,z1064.2.2.2.2.2.1,z1064.2.2.2.2.2.2.1,z1064.2.2.2.2.2.2.2.1,z1064.2.1,z1064.2.2.1,z1064.2.2.2.2.2.2.2.2.1,z1064.2.2.2.2.2.2.2.2.2.2.1,z1064.2.2.2.2.2.2.2.2.2.1,z1064.2.2.2.2.2.2.2.2.2.2.2,fun j=>z985a.1,fun j=>⟨#[]⟩,1))) (fun z985b=>dn (.inl z985b)) z985
theorem cs9{β:Type}(c_must c_take)(c_declare c_next)(c_Lookup c_fail)(x)(y)(nx:aG→Option β)(dn):gU c_must c_take c_declare c_next c_Lookup c_fail x y nx dn=(gU c_must c_take c_declare c_next c_Lookup c_fail x y (fun y=>some (.inl y)) (fun z=>some (.inr z))).bind fun r=>Sum.elim nx dn r:=by
 unfold gU
 repeat' first|exact n0|refine n1 fun _=>?_|refine n2 ?_ ?_|refine n3 (fun _=>?_) fun _=>?_|rfl
theorem ct0(c_must c_take)(c_declare c_next)(c_Lookup c_fail)(x)(y)(lo:f5):n8 E5 (ft2 53 t8 jA c_must (ftb 84 aC lG c_take (ft2 86 bS qL c_declare (ftb 22 j7 y6 c_next (ftb 87 eJ wQ c_Lookup (ftb 55 w9 lH c_fail ca0)))))) lo 0 9 (b5 E5 56 0) (dV x (.inl y)) (KCM [(0,9)] 4)=gU (vf t8 c_must) (vf aC c_take) (vf bS c_declare) (vf j7 c_next) (vf eJ c_Lookup) (vf w9 c_fail) x y (fun y=>lo 0 9 (b5 E5 56 0) (dV x y) (KCM [(0,9)] 4)) (fun z=>some (.l (lC x z).1 (lC x z).2)):=by kernel_rfl
def gS{β:Type}(c_must:jT→Option iO)(c_take:mF→Option mG)(c_declare:y5→Option kS)(c_next:aM→Option aL)(c_Lookup:oL→Option oP)(c_fail:iC→Option iB)(x:bU)(y:Nat×FI×FI×FS×FI×Int×Int×Nat×Nat×FS×FS×FS×FS×Nat)(nx:aG→Option β)(dn:kL→Option β):Option β:=
 (c_declare (y.2.2.2.2.2.1,y.2.2.2.2.2.2.1,y.1,y.2.1,y.2.2.1,y.2.2.2.1,y.2.2.2.2.1,y.2.2.2.2.2.2.2.1,y.2.2.2.2.2.2.2.2.2.1,y.2.2.2.2.2.2.2.2.1,y.2.2.2.2.2.2.2.2.2.2.1)).bind fun z1078=>Sum.elim (fun z1078a=>(c_take (⟨#[58]⟩,z1078a.2)).bind fun z1091=>if z1091.1=true then(c_next z1091.2).bind fun z1103=>(c_Lookup z1103.2.2.1).bind fun z1105=>if(z1103.1 !=1)=true then(c_fail (11,z1103.2.2.2.2)).bind fun z1118=>dn (.inl z1118)else if(!z1105.2.2.2.2.2.2)=true then(c_fail (10,z1103.2.2.2.2)).bind fun z1131=>dn (.inl z1131)else if(y.2.2.2.2.2.2.2.2.2.2.2.2.2+1)*32≤d5∧y.2.2.2.2.2.2.2.2.2.2.2.2.2+1≤maxLen∧y.2.2.2.2.2.2.2.2.2.2.2.2.2≤y.2.2.2.2.2.2.2.2.2.2.2.2.2 then(c_take (⟨#[44]⟩,w (z1103.2.2.2.2.1+1),z1103.2.2.2.2.2)).bind fun z1144=>if(!z1144.1)=true then dn (.inr (z1144.2.2.2.1,z1144.2.2.2.2.1,z1144.2.2.2.2.2.1,z1144.2.2.2.2.2.2.1,z1144.2.2.2.2.2.2.2.1,z1144.2.1,z1144.2.2.1,z1144.2.2.2.2.2.2.2.2.1,z1144.2.2.2.2.2.2.2.2.2.2.1,z1144.2.2.2.2.2.2.2.2.2.1,z1144.2.2.2.2.2.2.2.2.2.2.2,fun j=>if j<y.2.2.2.2.2.2.2.2.2.2.2.2.2 then y.2.2.2.2.2.2.2.2.2.2.2.1 j else z1078a.1,fun j=>if j<y.2.2.2.2.2.2.2.2.2.2.2.2.2 then y.2.2.2.2.2.2.2.2.2.2.2.2.1 j else z1103.2.2.1,y.2.2.2.2.2.2.2.2.2.2.2.2.2+1))else nx (.inr (z1144.2.2.2.1,z1144.2.2.2.2.1,z1144.2.2.2.2.2.1,z1144.2.2.2.2.2.2.1,z1144.2.2.2.2.2.2.2.1,z1144.2.1,z1144.2.2.1,z1144.2.2.2.2.2.2.2.2.1,z1144.2.2.2.2.2.2.2.2.2.2.1,z1144.2.2.2.2.2.2.2.2.2.1,z1144.2.2.2.2.2.2.2.2.2.2.2,fun j=>if j<y.2.2.2.2.2.2.2.2.2.2.2.2.2 then y.2.2.2.2.2.2.2.2.2.2.2.1 j else z1078a.1,fun j=>if j<y.2.2.2.2.2.2.2.2.2.2.2.2.2 then y.2.2.2.2.2.2.2.2.2.2.2.2.1 j else z1103.2.2.1,y.2.2.2.2.2.2.2.2.2.2.2.2.2+1))else none else if(y.2.2.2.2.2.2.2.2.2.2.2.2.2+1)*32≤d5∧y.2.2.2.2.2.2.2.2.2.2.2.2.2+1≤maxLen∧y.2.2.2.2.2.2.2.2.2.2.2.2.2≤y.2.2.2.2.2.2.2.2.2.2.2.2.2 then(c_take (⟨#[44]⟩,z1091.2)).bind fun z1157=>if(!z1157.1)=true then dn (.inr (z1157.2.2.2.1,z1157.2.2.2.2.1,z1157.2.2.2.2.2.1,z1157.2.2.2.2.2.2.1,z1157.2.2.2.2.2.2.2.1,z1157.2.1,z1157.2.2.1,z1157.2.2.2.2.2.2.2.2.1,z1157.2.2.2.2.2.2.2.2.2.2.1,z1157.2.2.2.2.2.2.2.2.2.1,z1157.2.2.2.2.2.2.2.2.2.2.2,fun j=>if j<y.2.2.2.2.2.2.2.2.2.2.2.2.2 then y.2.2.2.2.2.2.2.2.2.2.2.1 j else z1078a.1,fun j=>if j<y.2.2.2.2.2.2.2.2.2.2.2.2.2 then y.2.2.2.2.2.2.2.2.2.2.2.2.1 j else⟨#[]⟩,y.2.2.2.2.2.2.2.2.2.2.2.2.2+1))else nx (.inr (z1157.2.2.2.1,z1157.2.2.2.2.1,z1157.2.2.2.2.2.1,z1157.2.2.2.2.2.2.1,z1157.2.2.2.2.2.2.2.1,z1157.2.1,z1157.2.2.1,z1157.2.2.2.2.2.2.2.2.1,z1157.2.2.2.2.2.2.2.2.2.2.1,z1157.2.2.2.2.2.2.2.2.2.1,z1157.2.2.2.2.2.2.2.2.2.2.2,fun j=>if j<y.2.2.2.2.2.2.2.2.2.2.2.2.2 then y.2.2.2.2.2.2.2.2.2.2.2.1 j else z1078a.1,fun j=>if j<y.2.2.2.2.2.2.2.2.2.2.2.2.2 then y.2.2.2.2.2.2.2.2.2.2.2.2.1 j else⟨#[]⟩,y.2.2.2.2.2.2.2.2.2.2.2.2.2+1))else none) (fun z1078b=>dn (.inl z1078b)) z1078
theorem cv5{β:Type}(c_must c_take)(c_declare c_next)(c_Lookup c_fail)(x)(y)(nx:aG→Option β)(dn):gS c_must c_take c_declare c_next c_Lookup c_fail x y nx dn=(gS c_must c_take c_declare c_next c_Lookup c_fail x y (fun y=>some (.inl y)) (fun z=>some (.inr z))).bind fun r=>Sum.elim nx dn r:=by
 unfold gS
 repeat' first|exact n0|refine n1 fun _=>?_|refine n2 ?_ ?_|refine n3 (fun _=>?_) fun _=>?_|rfl
theorem ct2(c_must c_take)(c_declare c_next)(c_Lookup c_fail)(x)(y)(lo:f5):n8 E5 (ft2 53 t8 jA c_must (ftb 84 aC lG c_take (ft2 86 bS qL c_declare (ftb 22 j7 y6 c_next (ftb 87 eJ wQ c_Lookup (ftb 55 w9 lH c_fail ca0)))))) lo 0 9 (b5 E5 56 0) (dV x (.inr y)) (KCM [(0,9)] 4)=gS (vf t8 c_must) (vf aC c_take) (vf bS c_declare) (vf j7 c_next) (vf eJ c_Lookup) (vf w9 c_fail) x y (fun y=>lo 0 9 (b5 E5 56 0) (dV x y) (KCM [(0,9)] 4)) (fun z=>some (.l (lC x z).1 (lC x z).2)):=by kernel_rfl
noncomputable def wE(c_must:jT→Option iO)(c_take:mF→Option mG)(c_declare:y5→Option kS)(c_next:aM→Option aL)(c_Lookup:oL→Option oP)(c_fail:iC→Option iB)(q:Nat)(x:bU):aG→Option kL:=lpG (Sum.elim (fun y=>gU c_must c_take c_declare c_next c_Lookup c_fail x y (fun y=>some (.inl y)) (fun z=>some (.inr z))) (fun y=>gS c_must c_take c_declare c_next c_Lookup c_fail x y (fun y=>some (.inl y)) (fun z=>some (.inr z)))) q
theorem dg9(c_must)(h_must:Lw E5 53 t8 jA c_must)(c_take)(h_take:Lw E5 84 aC lG c_take)(c_declare)(h_declare:Lw E5 86 bS qL c_declare)(c_next)(h_next:Lw E5 22 j7 y6 c_next)(c_Lookup)(h_Lookup:Lw E5 87 eJ wQ c_Lookup)(c_fail)(h_fail:Lw E5 55 w9 lH c_fail)(q:Nat)(x:bU):Ll E5 (b5 E5 56 0) (dV x) (lC x) (wE c_must c_take c_declare c_next c_Lookup c_fail q x):=
 slp (fk2 h_must (fk h_take (fk2 h_declare (fk h_next (fk h_Lookup (fk h_fail a8)))))) hX5 (fun lo y=>by
  rcases y with y|y
  ·exact(ct0 c_must c_take c_declare c_next c_Lookup c_fail x y lo).trans (by rw[vY,ae0,av3,iD,bh5,vV];exact cs9 _ _ _ _ _ _ _ _ _ _)
  ·exact(ct2 c_must c_take c_declare c_next c_Lookup c_fail x y lo).trans (by rw[vY,ae0,av3,iD,bh5,vV];exact cv5 _ _ _ _ _ _ _ _ _ _)) (fun z=>by rcases z with z|z<;>kernel_rfl) q
def uQ{β:Type}(c_must:jT→Option iO)(c_take:mF→Option mG)(c_declare:y5→Option kS)(c_next:aM→Option aL)(c_Lookup:oL→Option oP)(c_fail:iC→Option iB)(l_paramsR_l0:aG→Option kL)(x:bU)(dn:uS→Option β):Option β:=
 (c_must (⟨#[40]⟩,x)).bind fun z12=>Sum.elim (fun z12a=>(c_take (⟨#[41]⟩,z12a)).bind fun z25=>if z25.1=true then dn (.inl z25.2)else(l_paramsR_l0 (.inl (z25.2.2.2.1,z25.2.2.2.2.1,z25.2.2.2.2.2.1,z25.2.2.2.2.2.2.1,z25.2.2.2.2.2.2.2.1,z25.2.1,z25.2.2.1,z25.2.2.2.2.2.2.2.2.1,z25.2.2.2.2.2.2.2.2.2.2.1,z25.2.2.2.2.2.2.2.2.2.1,z25.2.2.2.2.2.2.2.2.2.2.2))).bind fun z918=>Sum.elim (fun z918a=>dn (.inr (.inr z918a))) (fun z918b=>(c_must (⟨#[41]⟩,z918b.2.2.2.2.2.1,z918b.2.2.2.2.2.2.1,z918b.1,z918b.2.1,z918b.2.2.1,z918b.2.2.2.1,z918b.2.2.2.2.1,z918b.2.2.2.2.2.2.2.1,z918b.2.2.2.2.2.2.2.2.2.1,z918b.2.2.2.2.2.2.2.2.1,z918b.2.2.2.2.2.2.2.2.2.2.1)).bind fun z932=>Sum.elim (fun z932a=>dn (.inr (.inl (z918b.2.2.2.2.2.2.2.2.2.2.2.2.2,z918b.2.2.2.2.2.2.2.2.2.2.2.1,z918b.2.2.2.2.2.2.2.2.2.2.2.2.1,z932a)))) (fun z932b=>dn (.inr (.inr z932b))) z932) z918) (fun z12b=>dn (.inr (.inr z12b))) z12
theorem fz4{β:Type}(c_must c_take)(c_declare c_next)(c_Lookup c_fail)(l_paramsR_l0)(x)(dn:uS→Option β):uQ c_must c_take c_declare c_next c_Lookup c_fail l_paramsR_l0 x dn=(uQ c_must c_take c_declare c_next c_Lookup c_fail l_paramsR_l0 x some).bind dn:=by
 unfold uQ
 repeat' first|exact n0|refine n1 fun _=>?_|refine n2 ?_ ?_|refine n3 (fun _=>?_) fun _=>?_|rfl
theorem fw3(c_must c_take)(c_declare c_next)(c_Lookup c_fail)(l_paramsR_l0)(x):f7 E5 (ft2 53 t8 jA c_must (ftb 84 aC lG c_take (ft2 86 bS qL c_declare (ftb 22 j7 y6 c_next (ftb 87 eJ wQ c_Lookup (ftb 55 w9 lH c_fail ca0)))))) (lt2 0 (fun _=>true) (b5 E5 56 0) (dV x) (lC x) l_paramsR_l0 lo0) 56 (bv8 x).1 (bv8 x).2 K=uQ (vf t8 c_must) (vf aC c_take) (vf bS c_declare) (vf j7 c_next) (vf eJ c_Lookup) (vf w9 c_fail) (lf (b5 E5 56 0) (dV x) l_paramsR_l0) x (fun z=>some (.c (bw3 z))):=by kernel_rfl
noncomputable def cd5(q:Nat)(x:bU):Option uS:=uQ (mK q) (take q) (pA q) (next q) (xB q) (fail q) (wE (mK q) (take q) (pA q) (next q) (xB q) (fail q) q x) x some
theorem fb2(q:Nat):Lw E5 56 bv8 bw3 (cd5 q):=sof hW5 hX5 (fk2 (rL q) (fk (ax9 q) (fk2 (bc8 q) (fk (lU q) (fk (bt5 q) (fk (rP q) a8)))))) (fun x=>(lk2 (dg9 (mK q) (rL q) (take q) (ax9 q) (pA q) (bc8 q) (next q) (lU q) (xB q) (bt5 q) (fail q) (rP q) q x) b6)) fun x=>(fw3 (mK q) (take q) (pA q) (next q) (xB q) (fail q) (wE (mK q) (take q) (pA q) (next q) (xB q) (fail q) q x) x).trans (by rw[vY,ae0,av3,iD,bh5,vV,dm6,fz4]<;>rfl)
abbrev zV:Type:=Int×Int×Nat×FI×FI×FS×FI×Nat×FS
abbrev ac7:Type:=(Nat×FS×FS×SP)⊕(Int×Int)
def wX:AR zV:=fun x=>([.ptr 0 0],[some (.blk [.ro 4 x.2.2.1 (fun j=>[i64 (x.2.2.2.1 j),i64 (x.2.2.2.2.1 j),st (x.2.2.2.2.2.1 j),i64 (x.2.2.2.2.2.2.1 j)]),i64 x.1,i64 x.2.1,g8,.sl 1 1 0 x.2.2.2.2.2.2.2.1]),some (.row 9 1 x.2.2.2.2.2.2.2.1 (fun j=>[st (x.2.2.2.2.2.2.2.2 j)]))])
def gm9(t:TT):zV:=((vI (cc t 0 1)),vI (cc t 0 2),u7 (cc t 0 0),dTI (cc t 0 0) 0,dTI (cc t 0 0) 1,dTS (cc t 0 0) 2,dTI (cc t 0 0) 3,dB (cc t 0 4),dRS (co t 1) 0)
theorem dt0:VI wX:=vd gm9 fun _=>rfl
def al4:ac7→CRes:=Sum.elim (fun z:Nat×FS×FS×SP=>.ret (.ro 2 z.1 (fun j=>[st (z.2.1 j),st (z.2.2.1 j)])) (hHP z.2.2.2)) (fun z:Int×Int=>.pan (.ifc 45 (.agg [i64 z.1,i64 z.2])))
def at2:uS→ac7:=Sum.elim (fun z=>.inl (0,fun _=>ByteArray.empty,fun _=>ByteArray.empty,z)) (Sum.elim (fun z=>.inl z) (fun z=>.inr z))
theorem eu0{args:List V}{L:List (Option Chunk)}(z:uS)(h:SC E5 56 args L (bw3 z)):SC E5 56 args L (al4 (at2 z)):=by
 rcases z with z|z|z
 ·exact SC.le h Le.nil_ro
 ·have h2:=SC.giveM (L2:=[some (.blk [.ro 4 z.2.2.2.2.2.1 (fun j=>[i64 (z.2.2.2.2.2.2.1 j),i64 (z.2.2.2.2.2.2.2.1 j),st (z.2.2.2.2.2.2.2.2.1 j),i64 (z.2.2.2.2.2.2.2.2.2.1 j)]),i64 z.2.2.2.1,i64 z.2.2.2.2.1,.sl 1 1 0 z.2.2.2.2.2.2.2.2.2.2.1,.sl 2 1 0 z.2.2.2.2.2.2.2.2.2.2.2.2.1]),some (.row 9 1 z.2.2.2.2.2.2.2.2.2.2.1 (fun j=>[st (z.2.2.2.2.2.2.2.2.2.2.2.1 j)])),some (.row 9 1 z.2.2.2.2.2.2.2.2.2.2.2.2.1 (fun j=>[st (z.2.2.2.2.2.2.2.2.2.2.2.2.2 j)]))]) 3 h (by rfl) (by simp[V.bw,V.bw2,V.bw1,hp,V.pure,m8])
  simp only[V.bw,V.bw2,V.bw1,hp,List.getD_eq_getElem?_getD,List.getElem?_cons_succ,List.getElem?_cons_zero,Option.getD_some,Nat.zero_add,Nat.le_refl,and_self,if_true]at h2
  exact h2
 ·exact h
noncomputable def params(q:Nat)(x:zV):Option ac7:=(cd5 q (x.1,x.2.1,x.2.2.1,x.2.2.2.1,x.2.2.2.2.1,x.2.2.2.2.2.1,x.2.2.2.2.2.2.1,0,fun _=>ByteArray.empty,x.2.2.2.2.2.2.2)).map at2
theorem cz3(q:Nat):Lw E5 56 wX al4 (params q):=by
 intro x z h
 obtain⟨y,hy,rfl⟩:=Option.map_eq_some_iff.1 h
 have:=eu0 y (fb2 q _ y hy)
 refine SC.virtB 0 [.ro 4 x.2.2.1 (fun j=>[i64 (x.2.2.2.1 j),i64 (x.2.2.2.2.1 j),st (x.2.2.2.2.2.1 j),i64 (x.2.2.2.2.2.2.1 j)]),i64 x.1,i64 x.2.1,.sl 2 1 0 0,.sl 1 1 0 x.2.2.2.2.2.2.2.1] 9 1 (fun j=>[st ByteArray.empty]) (by decide) this rfl (fun β S w us b hb hd=>?_) (by show 1≤2;decide) (by show 1≤1;decide)
 simp only[b8]at hd⊢
 obtain⟨u1,r1,rfl,h1,u2,r2,rfl,h2,u3,r3,rfl,h3,u4,r4,rfl,h4,u5,r5,rfl,h5,rfl⟩:=hd
 exact⟨u1,_,rfl,h1,u2,_,rfl,h2,u3,_,rfl,h3,u4,_,rfl,er3 (by show 2<3;decide) hb h4,u5,_,rfl,h5,rfl⟩
abbrev m7:Type:=SP
abbrev t6:Type:=(ByteArray×Nat×FS×FS×Int×Int×ByteArray×Nat×FL×SP)⊕(Int×Int)
def l7:AR m7:=fun x=>([.ptr 0 0],(hHP x))
def dw7(t:TT):m7:=(dHP t.2)
theorem oA:VI l7:=vd dw7 fun _=>rfl
def aN:t6→CRes:=Sum.elim (fun z:ByteArray×Nat×FS×FS×Int×Int×ByteArray×Nat×FL×SP=>.ret (.agg [st z.1,.ro 2 z.2.1 (fun j=>[st (z.2.2.1 j),st (z.2.2.2.1 j)]),i64 z.2.2.2.2.1,i64 z.2.2.2.2.2.1,st z.2.2.2.2.2.2.1,.ro 4 z.2.2.2.2.2.2.2.1 z.2.2.2.2.2.2.2.2.1]) (hHP z.2.2.2.2.2.2.2.2.2)) (fun z:Int×Int=>.pan (.ifc 45 (.agg [i64 z.1,i64 z.2])))
abbrev bZ:Type:=Nat×Int×Nat×FI×FI×FS×FI×Int×Int×Nat×FS×FS×ByteArray×Int
abbrev pJ:Type:=(Int×Int)⊕(Nat×FI×FI×FS×FI×Int×Int×Nat×Nat×FS×FS×ByteArray)
def eH(x:m7)(y:bZ):St:={fr:=[V.ptr 0 0,V.junk,V.ptr 3 0,V.ptr 4 0]++jk 10++[V.sl 2 1 0 y.1,i64 y.2.1,i64 y.2.2.2.2.2.2.2.2.2.2.2.2.2]++jk 38,H:=hp [some (Chunk.blk [V.ro 4 y.2.2.1 fun j=>[i64 (y.2.2.2.1 j),i64 (y.2.2.2.2.1 j),st (y.2.2.2.2.2.1 j),i64 (y.2.2.2.2.2.2.1 j)],i64 y.2.2.2.2.2.2.2.1,i64 y.2.2.2.2.2.2.2.2.1,V.sl 1 1 0 y.2.2.2.2.2.2.2.2.2.1,V.sl 2 1 0 y.1]),some (Chunk.row 9 1 y.2.2.2.2.2.2.2.2.2.1 fun j=>[st (y.2.2.2.2.2.2.2.2.2.2.1 j)]),some (Chunk.row 9 1 y.1 fun j=>[st (y.2.2.2.2.2.2.2.2.2.2.2.1 j)]),some (Chunk.blk [st ⟨#[]⟩,g8,i64 0,i64 0,st ⟨#[]⟩,g8]),some (Chunk.blk [st y.2.2.2.2.2.2.2.2.2.2.2.2.1,g8,i64 0,i64 0,st ⟨#[]⟩,g8])],nx:=5,rt:=1,me:=23}
def cm7(s:St):bZ:=((dB (s.fr.getD 14 .junk)),vI (s.fr.getD 15 .junk),u7 (cb s 0 0),dTI (cb s 0 0) 0,dTI (cb s 0 0) 1,dTS (cb s 0 0) 2,dTI (cb s 0 0) 3,vI (cb s 0 1),vI (cb s 0 2),dB (cb s 0 3),dRS (s.H 1) 0,dRS (s.H 2) 0,vS (cb s 4 0),vI (s.fr.getD 16 .junk))
theorem ce9(x:m7):VL (eH x):=vl cm7 fun _=>rfl
def oW(x:m7):pJ→Ex×St:=(Sum.elim (fun z=>(Ex.panic (V.ifc 45 (V.agg [i64 z.1,i64 z.2])),{fr:=[V.junk]++jk 54,H:=hp [none],nx:=1,rt:=1,me:=23})) (fun z=>(Ex.exit 0,{fr:=[V.ptr 0 0,V.junk,V.ptr 3 0,V.ptr 4 0]++jk 51,H:=hp [some (hPB z),some (hPV z),some (hPQ z),some (Chunk.blk [st ⟨#[]⟩,g8,i64 0,i64 0,st ⟨#[]⟩,g8]),some (Chunk.blk [st z.2.2.2.2.2.2.2.2.2.2.2,g8,i64 0,i64 0,st ⟨#[]⟩,g8])],nx:=5,rt:=1,me:=23})))
def aP{β:Type}(c_must:jT→Option iO)(c_name:tF→Option tC)(c_fail:iC→Option iB)(c_params:zV→Option ac7)(c_block:tW→Option uF)(x:m7)(y:bZ)(nx:bZ→Option β)(dn:pJ→Option β):Option β:=
 if decide (y.2.2.2.2.2.2.2.2.2.2.2.2.2<y.2.1)=true then if 0≤y.2.2.2.2.2.2.2.2.2.2.2.2.2∧y.2.2.2.2.2.2.2.2.2.2.2.2.2< ((y.1:Nat):Int)then if 0+Int.toNat y.2.2.2.2.2.2.2.2.2.2.2.2.2<y.1∧1=1 then if(ByteArray.toList (y.2.2.2.2.2.2.2.2.2.2.2.1 (0+Int.toNat y.2.2.2.2.2.2.2.2.2.2.2.2.2))==y.2.2.2.2.2.2.2.2.2.2.2.2.1.toList)=true then(c_fail (4,w (y.2.2.2.2.2.2.2.1-1),y.2.2.2.2.2.2.2.2.1,y.2.2.1,y.2.2.2.1,y.2.2.2.2.1,y.2.2.2.2.2.1,y.2.2.2.2.2.2.1,y.2.2.2.2.2.2.2.2.2.1,y.2.2.2.2.2.2.2.2.2.2.1,y.1,y.2.2.2.2.2.2.2.2.2.2.2.1)).bind fun z195=>dn (.inl z195)else nx (y.1,y.2.1,y.2.2.1,y.2.2.2.1,y.2.2.2.2.1,y.2.2.2.2.2.1,y.2.2.2.2.2.2.1,y.2.2.2.2.2.2.2.1,y.2.2.2.2.2.2.2.2.1,y.2.2.2.2.2.2.2.2.2.1,y.2.2.2.2.2.2.2.2.2.2.1,y.2.2.2.2.2.2.2.2.2.2.2.1,y.2.2.2.2.2.2.2.2.2.2.2.2.1,w (y.2.2.2.2.2.2.2.2.2.2.2.2.2+1))else none else none else dn (.inr (y.2.2.1,y.2.2.2.1,y.2.2.2.2.1,y.2.2.2.2.2.1,y.2.2.2.2.2.2.1,y.2.2.2.2.2.2.2.1,y.2.2.2.2.2.2.2.2.1,y.2.2.2.2.2.2.2.2.2.1,y.1,y.2.2.2.2.2.2.2.2.2.2.1,y.2.2.2.2.2.2.2.2.2.2.2.1,y.2.2.2.2.2.2.2.2.2.2.2.2.1))
theorem cp4{β:Type}(c_must c_name)(c_fail c_params c_block)(x)(y)(nx:bZ→Option β)(dn):aP c_must c_name c_fail c_params c_block x y nx dn=(aP c_must c_name c_fail c_params c_block x y (fun y=>some (.inl y)) (fun z=>some (.inr z))).bind fun r=>Sum.elim nx dn r:=by
 unfold aP
 repeat' first|exact n0|refine n1 fun _=>?_|refine n2 ?_ ?_|refine n3 (fun _=>?_) fun _=>?_|rfl
theorem cj8(c_must c_name)(c_fail c_params c_block)(x)(y)(lo:f5):n8 E5 (ft2 53 t8 jA c_must (ft2 54 fR wU c_name (ftb 55 w9 lH c_fail (fg2 56 (fun _ L=>L.length==2) wX al4 c_params (ft2 57 gD rT c_block ca0))))) lo 0 114701 (b5 E5 23 0) (eH x y) (KCM [(0,13)] 4)=aP (vf t8 c_must) (vf fR c_name) (vf w9 c_fail) (vf wX c_params) (vf gD c_block) x y (fun y=>lo 0 114701 (b5 E5 23 0) (eH x y) (KCM [(0,13)] 4)) (fun z=>some (.l (oW x z).1 (oW x z).2)):=by kernel_rfl
noncomputable def uC(c_must:jT→Option iO)(c_name:tF→Option tC)(c_fail:iC→Option iB)(c_params:zV→Option ac7)(c_block:tW→Option uF)(q:Nat)(x:m7):bZ→Option pJ:=lpG (fun y=>aP c_must c_name c_fail c_params c_block x y (fun y=>some (.inl y)) (fun z=>some (.inr z))) q
theorem cl0(c_must)(h_must:Lw E5 53 t8 jA c_must)(c_name)(h_name:Lw E5 54 fR wU c_name)(c_fail)(h_fail:Lw E5 55 w9 lH c_fail)(c_params)(h_params:Lw E5 56 wX al4 c_params)(c_block)(h_block:Lw E5 57 gD rT c_block)(q:Nat)(x:m7):Ll E5 (b5 E5 23 0) (eH x) (oW x) (uC c_must c_name c_fail c_params c_block q x):=
 slp (fk2 h_must (fk2 h_name (fk h_fail (fk2 h_params (fk2 h_block a8))))) hX5 (fun lo y=>(cj8 c_must c_name c_fail c_params c_block x y lo).trans (by rw[vY,bs7,vV,dt0,cc9];exact cp4 _ _ _ _ _ _ _ _ _)) (fun z=>by rcases z with z|z<;>kernel_rfl) q
def nP{β:Type}(c_must:jT→Option iO)(c_name:tF→Option tC)(c_fail:iC→Option iB)(c_params:zV→Option ac7)(c_block:tW→Option uF)(l_procedure_l0:bZ→Option pJ)(x:m7)(dn:t6→Option β):Option β:=
 (c_must (⟨#[112,114,111,99,101,100,117,114,101]⟩,x)).bind fun z12=>Sum.elim (fun z12a=>(c_name z12a).bind fun z24=>Sum.elim (fun z24a=>(l_procedure_l0 (z24a.2.2.2.2.2.2.2.2.2.2.1,((z24a.2.2.2.2.2.2.2.2.2.2.1:Nat):Int),z24a.2.2.2.1,z24a.2.2.2.2.1,z24a.2.2.2.2.2.1,z24a.2.2.2.2.2.2.1,z24a.2.2.2.2.2.2.2.1,z24a.2.1,z24a.2.2.1,z24a.2.2.2.2.2.2.2.2.1,z24a.2.2.2.2.2.2.2.2.2.1,z24a.2.2.2.2.2.2.2.2.2.2.2,z24a.1,0)).bind fun z121=>Sum.elim (fun z121a=>dn (.inr z121a)) (fun z121b=>if(z121b.2.2.2.2.2.2.2.2.1+1)*16≤d5∧z121b.2.2.2.2.2.2.2.2.1+1≤maxLen∧z121b.2.2.2.2.2.2.2.2.1≤z121b.2.2.2.2.2.2.2.2.1 then(c_params (z121b.2.2.2.2.2.1,z121b.2.2.2.2.2.2.1,z121b.1,z121b.2.1,z121b.2.2.1,z121b.2.2.2.1,z121b.2.2.2.2.1,z121b.2.2.2.2.2.2.2.2.1+1,fun j=>if j<z121b.2.2.2.2.2.2.2.2.1 then z121b.2.2.2.2.2.2.2.2.2.2.1 j else z121b.2.2.2.2.2.2.2.2.2.2.2)).bind fun z132=>Sum.elim (fun z132a=>(c_block z132a.2.2.2).bind fun z144=>Sum.elim (fun z144a=>dn (.inl (z121b.2.2.2.2.2.2.2.2.2.2.2,z132a.1,z132a.2.1,z132a.2.2.1,z144a))) (fun z144b=>dn (.inr z144b)) z144) (fun z132b=>dn (.inr z132b)) z132 else none) z121) (fun z24b=>dn (.inr z24b)) z24) (fun z12b=>dn (.inr z12b)) z12
theorem du7{β:Type}(c_must c_name)(c_fail c_params c_block)(l_procedure_l0)(x)(dn:t6→Option β):nP c_must c_name c_fail c_params c_block l_procedure_l0 x dn=(nP c_must c_name c_fail c_params c_block l_procedure_l0 x some).bind dn:=by
 unfold nP
 repeat' first|exact n0|refine n1 fun _=>?_|refine n2 ?_ ?_|refine n3 (fun _=>?_) fun _=>?_|rfl
theorem ei1(c_must c_name)(c_fail c_params c_block)(l_procedure_l0)(x):f7 E5 (ft2 53 t8 jA c_must (ft2 54 fR wU c_name (ftb 55 w9 lH c_fail (fg2 56 (fun _ L=>L.length==2) wX al4 c_params (ft2 57 gD rT c_block ca0))))) (lt2 0 (fun _=>true) (b5 E5 23 0) (eH x) (oW x) l_procedure_l0 lo0) 23 (l7 x).1 (l7 x).2 K=nP (vf t8 c_must) (vf fR c_name) (vf w9 c_fail) (vf wX c_params) (vf gD c_block) (lf (b5 E5 23 0) (eH x) l_procedure_l0) x (fun z=>some (.c (aN z))):=by kernel_rfl
noncomputable def y9(q:Nat)(x:m7):Option t6:=nP (mK q) (name q) (fail q) (params q) (block q) (uC (mK q) (name q) (fail q) (params q) (block q) q x) x some
theorem tQ(q:Nat):Lw E5 23 l7 aN (y9 q):=sof hW5 hX5 (fk2 (rL q) (fk2 (ax2 q) (fk (rP q) (fk2 (cz3 q) (fk2 (ea4 q) a8))))) (fun x=>(lk2 (cl0 (mK q) (rL q) (name q) (ax2 q) (fail q) (rP q) (params q) (cz3 q) (block q) (ea4 q) q x) b6)) fun x=>(ei1 (mK q) (name q) (fail q) (params q) (block q) (uC (mK q) (name q) (fail q) (params q) (block q) q x) x).trans (by rw[vY,bs7,vV,dt0,cc9,ce9,du7]<;>rfl)
abbrev v7:Type:=Int×Int×Nat×FI×FI×FS×FI
abbrev aI:Type:=(ByteArray×Nat×FS×FS×Int×Int×ByteArray×Nat×FL×SP)⊕(Int×Int)
def l5:AR v7:=fun x=>([.ptr 0 0],[some (.blk [.ro 4 x.2.2.1 (fun j=>[i64 (x.2.2.2.1 j),i64 (x.2.2.2.2.1 j),st (x.2.2.2.2.2.1 j),i64 (x.2.2.2.2.2.2 j)]),i64 x.1,i64 x.2.1,g8,g8])])
def dp6(t:TT):v7:=((vI (cc t 0 1)),vI (cc t 0 2),u7 (cc t 0 0),dTI (cc t 0 0) 0,dTI (cc t 0 0) 1,dTS (cc t 0 0) 2,dTI (cc t 0 0) 3)
theorem lB:VI l5:=vd dp6 fun _=>rfl
def w6:aI→CRes:=Sum.elim (fun z:ByteArray×Nat×FS×FS×Int×Int×ByteArray×Nat×FL×SP=>.ret (.agg [st z.1,.ro 2 z.2.1 (fun j=>[st (z.2.2.1 j),st (z.2.2.2.1 j)]),i64 z.2.2.2.2.1,i64 z.2.2.2.2.2.1,st z.2.2.2.2.2.2.1,.ro 4 z.2.2.2.2.2.2.2.1 z.2.2.2.2.2.2.2.2.1]) (hHP z.2.2.2.2.2.2.2.2.2)) (fun z:Int×Int=>.pan (.ifc 45 (.agg [i64 z.1,i64 z.2])))
noncomputable def y8(q:Nat)(x:v7):Option aI:=y9 q (x.1,x.2.1,x.2.2.1,x.2.2.2.1,x.2.2.2.2.1,x.2.2.2.2.2.1,x.2.2.2.2.2.2,0,fun _=>ByteArray.empty,0,fun _=>ByteArray.empty)
theorem yU(q:Nat):Lw E5 23 l5 w6 (y8 q):=by
 intro x z h
 have this:=tQ q _ z h
 refine SC.virtB 0 [.ro 4 x.2.2.1 (fun j=>[i64 (x.2.2.2.1 j),i64 (x.2.2.2.2.1 j),st (x.2.2.2.2.2.1 j),i64 (x.2.2.2.2.2.2 j)]),i64 x.1,i64 x.2.1,.sl 1 1 0 0,g8] 9 1 (fun j=>[st ByteArray.empty]) (by decide) (cr:=w6 z) (SC.virtB 0 [.ro 4 x.2.2.1 (fun j=>[i64 (x.2.2.2.1 j),i64 (x.2.2.2.2.1 j),st (x.2.2.2.2.2.1 j),i64 (x.2.2.2.2.2.2 j)]),i64 x.1,i64 x.2.1,.sl 1 1 0 0,.sl 2 1 0 0] 9 1 (fun j=>[st ByteArray.empty]) (by decide) this rfl (fun β S w us b hb hd=>?_) (by show 1≤2;decide) (by show 1≤1;decide)) rfl (fun β S w us b hb hd=>?_) (by show 1≤1;decide) (by show 1≤1;decide)
 all_goals
  simp only[b8]at hd⊢
  obtain⟨u1,r1,rfl,h1,u2,r2,rfl,h2,u3,r3,rfl,h3,u4,r4,rfl,h4,u5,r5,rfl,h5,rfl⟩:=hd
 ·exact⟨u1,_,rfl,h1,u2,_,rfl,h2,u3,_,rfl,h3,u4,_,rfl,h4,u5,_,rfl,er3 (by show 2<3;decide) hb h5,rfl⟩
 ·exact⟨u1,_,rfl,h1,u2,_,rfl,h2,u3,_,rfl,h3,u4,_,rfl,er3 (by show 1<2;decide) hb h4,u5,_,rfl,h5,rfl⟩
end Go.Proofs.YtjfkkokeegpeiaaGreatDoor
/- Statements without blocks are read as the plain parser reads them. -/
namespace Go.Proofs.YtjfkkokeegpeiaaGreatDoor
open Go Go.Am Go.Proofs.Lx
set_option maxRecDepth 100000
theorem PR.bind_assoc{α β γ:Type}(r:PR α)(f:α→PS→PR β)(g:β→PS→PR γ):(r.bind f).bind g=r.bind fun a s=>(f a s).bind g:=by cases r<;>rfl
section
variable (T:Nat→Tkn)
def ee9(f:Nat)(s:PS):PR Tr:=(zL T s).bind fun a s1=>(y7 T cm8 s1).bind fun _ s2=>(o9 T f 1 s2).bind fun n s3=>.ok (.node 1 0 a [n]) s3
def ed1(f:Nat)(s:PS):PR Tr:=(fD T s).bind fun a s1=>(y7 T cm8 s1).bind fun _ s2=>(o9 T f 1 s2).bind fun n s3=>.ok (.node 2 0 a [n]) s3
def am4(f:Nat)(s:PS):PR Tr:=(o9 T f 1 s).bind fun c s1=>(y7 T jF s1).bind fun _ s2=>(tA T s2).bind fun n s3=>.ok (.node 6 0 ⟨#[]⟩ [c,n]) s3
def eh3(k:Int)(s:PS):PR Tr:=(tA T s).bind fun n s2=>.ok (.node k 0 ⟨#[]⟩ [n]) s2
def ei9(f:Nat)(k:Int)(s:PS):PR Tr:=(o9 T f 1 s).bind fun n s2=>.ok (.node k 0 ⟨#[]⟩ [n]) s2
def ee5(k hi:Int)(s:PS):PR Tr:=(tB T 0 hi s).bind fun n s1=>.ok (.node k n ⟨#[]⟩ []) s1
def dr3(k:Int)(b:ByteArray)(s:PS):PR Tr:=(tB T 0 7 s).bind fun n s1=>(y7 T b s1).bind fun _ s2=>(tA T s2).bind fun m s3=>.ok (.node k n ⟨#[]⟩ [m]) s3
end
theorem fd6(T:Nat→Tkn)(f:Nat)(s:PS):((zL T s).bind fun x s1=>el7 T f 1 x s1)=(ee9 T f s).bind (Lx.endP T):=by
 simp only[ee9,el7,PR.bind_assoc];rfl
theorem eu5(T:Nat→Tkn)(f:Nat)(s:PS):((fD T s).bind fun x s1=>el7 T f 2 x s1)=(ed1 T f s).bind (Lx.endP T):=by
 simp only[ed1,el7,PR.bind_assoc];rfl
theorem cl2(T:Nat→Tkn)(f:Nat)(s:PS):dn2 T f s=(am4 T f s).bind (Lx.endP T):=by
 simp only[am4,dn2,PR.bind_assoc];rfl
theorem bo3(T:Nat→Tkn)(k:Int)(s:PS):ga8 T k s=(eh3 T k s).bind (Lx.endP T):=by
 simp only[eh3,ga8,PR.bind_assoc];rfl
theorem bq5(T:Nat→Tkn)(f:Nat)(k:Int)(s:PS):oneP T f k s=(ei9 T f k s).bind (Lx.endP T):=by
 simp only[ei9,oneP,PR.bind_assoc];rfl
theorem bu3(T:Nat→Tkn)(k hi:Int)(s:PS):fu2 T k hi s=(ee5 T k hi s).bind (Lx.endP T):=by
 simp only[ee5,fu2,PR.bind_assoc];rfl
theorem bv9(T:Nat→Tkn)(k:Int)(b:ByteArray)(s:PS):fq6 T k b s=(dr3 T k b s).bind (Lx.endP T):=by
 simp only[dr3,fq6,PR.bind_assoc];rfl
section
variable {N:Nat} {T:Nat→Tkn} {pr:List ByteArray} {s:PS} {x:StT}
theorem fw0(hT:TokN N T){f q:Nat}(hE:HE N T pr f q)(h:RS N T pr s x)(ho:ed1 T f s≠ .out):Rs (assign q x) (PN N T pr (ed1 T f s)):=by
 unfold assign
 refine Rs.map (P:=fun y=>PN N T pr (ed1 T f s) (bu9 y)) ?_ fun z hz=>hz
 unfold de9 uU
 have hop:ed1 T f s=(fD T s).bind fun a s1=>(y7 T cm8 s1).bind fun _ s2=>(o9 T f 1 s2).bind fun n s3=>.ok (.node 2 0 a [n]) s3:=rfl
 refine PX.bind (bm4 hT q h) (fun a s1 x1 e1 g1=>?_) (fun p c e hp=>?_)
 ·rw[e1]at hop
  dsimp only[PR.bind]at hop
  refine PU.bind (rR hT q g1 cm8 (by decide)) (fun s2 x2 e2 g2=>?_) (fun p c e hp=>?_)
  ·rw[e2]at hop
   dsimp only[PR.bind]at hop
   refine PN.bind (hE f (Nat.le_refl _) 1 (by decide) (by decide) s2 x2 g2 (PR.bind_out (hop▸ho))) (fun t s3 k n b m c x3 e hr hx=>?_) (fun p c e hp=>?_)
   ·rw[hop,e];exact Rs.some ⟨RepN.k1 hr,hx⟩
   ·(rw[hop,e];exact Rs.some ⟨hp,rfl⟩)
  ·(rw[hop,e];exact Rs.some ⟨hp,rfl⟩)
 ·(rw[hop,e];exact Rs.some ⟨hp,rfl⟩)
theorem hv4(hT:TokN N T){f q:Nat}(hq:20≤q)(hE:HE N T pr f q)(h:RS N T pr s x)(hne:(T s.p).t≠⟨#[]⟩∨(T s.p).k≠0)(ho:ee9 T f (adv s)≠ .out):Rs (fp9 q x) (PN N T pr (ee9 T f (adv s))):=by
 unfold fp9
 refine Rs.map (P:=fun y=>PN N T pr (ee9 T f (adv s)) (dm2 y)) ?_ fun z hz=>hz
 unfold gp4 at0
 have hop:ee9 T f (adv s)=(zL T (adv s)).bind fun a s1=>(y7 T cm8 s1).bind fun _ s2=>(o9 T f 1 s2).bind fun n s3=>.ok (.node 1 0 a [n]) s3:=rfl
 refine PX.bind (ba5 hT q hq (h.adv hT hne)) (fun a s1 x1 e1 g1=>?_) (fun p c e hp=>?_)
 ·rw[e1]at hop
  dsimp only[PR.bind]at hop
  refine PU.bind (rR hT q g1 cm8 (by decide)) (fun s2 x2 e2 g2=>?_) (fun p c e hp=>?_)
  ·rw[e2]at hop
   dsimp only[PR.bind]at hop
   refine PN.bind (hE f (Nat.le_refl _) 1 (by decide) (by decide) s2 x2 g2 (PR.bind_out (hop▸ho))) (fun t s3 k n b m c x3 e hr hx=>?_) (fun p c e hp=>?_)
   ·rw[hop,e];exact Rs.some ⟨RepN.k1 hr,hx⟩
   ·(rw[hop,e];exact Rs.some ⟨hp,rfl⟩)
  ·(rw[hop,e];exact Rs.some ⟨hp,rfl⟩)
 ·(rw[hop,e];exact Rs.some ⟨hp,rfl⟩)
theorem RepN.two{k n:Int}{s:ByteArray}{ta tb:Tr}{a b:n4}(ha:RepN ta a)(hb:RepN tb b):RepN (.node k n s [ta,tb]) (k,n,s,2,fun j=>[i64 (if j<1 then a.1 else b.1),i64 (if j<1 then a.2.1 else b.2.1),st (if j<1 then a.2.2.1 else b.2.2.1),.ro 4 (if j<1 then a.2.2.2.1 else b.2.2.2.1) fun i=>if j<1 then a.2.2.2.2 i else b.2.2.2.2 i]):=by
 simp only[RepN,rW,List.length_cons,List.length_nil]
 exact⟨trivial,trivial,trivial,trivial,⟨a,rfl,ha⟩,⟨b,rfl,hb⟩,trivial⟩
theorem gn2(hT:TokN N T){f q:Nat}(hE:HE N T pr f q)(h:RS N T pr s x)(hne:(T s.p).t≠⟨#[]⟩∨(T s.p).k≠0)(ho:am4 T f (adv s)≠ .out):Rs (await q x) (PN N T pr (am4 T f (adv s))):=by
 unfold await
 refine Rs.map (P:=fun y=>PN N T pr (am4 T f (adv s)) (cr5 y)) ?_ fun z hz=>hz
 unfold fa3 aa2
 have hop:am4 T f (adv s)=(o9 T f 1 (adv s)).bind fun c s1=>(y7 T jF s1).bind fun _ s2=>(tA T s2).bind fun n s3=>.ok (.node 6 0 ⟨#[]⟩ [c,n]) s3:=rfl
 refine PN.bind (hE f (Nat.le_refl _) 1 (by decide) (by decide) (adv s) _ (h.adv hT hne) (PR.bind_out ho)) (fun t s1 k n b m c x1 e1 hr1 g1=>?_) (fun p c e hp=>?_)
 ·rw[e1]at hop
  dsimp only[PR.bind]at hop
  refine PU.bind (rR hT q g1 jF (by decide)) (fun s2 x2 e2 g2=>?_) (fun p c e hp=>?_)
  ·rw[e2]at hop
   dsimp only[PR.bind]at hop
   refine PN.bind (xI hT q g2) (fun t2 s3 k2 n2 b2 m2 c2 x3 e hr hx=>?_) (fun p c e hp=>?_)
   ·rw[hop,e];exact Rs.some ⟨RepN.two hr1 hr,hx⟩
   ·(rw[hop,e];exact Rs.some ⟨hp,rfl⟩)
  ·(rw[hop,e];exact Rs.some ⟨hp,rfl⟩)
 ·(rw[hop,e];exact Rs.some ⟨hp,rfl⟩)
theorem dc6(hT:TokN N T)(q:Nat)(h:RS N T pr s x)(hne:(T s.p).t≠⟨#[]⟩∨(T s.p).k≠0):Rs (bn5 q x) (PN N T pr (eh3 T (if isP T yW s=true then 11 else 5) (adv s))):=by
 unfold bn5
 refine Rs.map (P:=fun y=>PN N T pr (eh3 T (if isP T yW s=true then 11 else 5) (adv s)) (bn8 y)) ?_ fun z hz=>hz
 unfold dk9 vP
 rw[cg5 q h]
 dsimp only[Option.bind_some]
 by_cases hi:isP T yW s=true
 ·refine Rs.pos hi ?_
  rw[if_pos hi]
  have hop:eh3 T 11 (adv s)=(tA T (adv s)).bind fun n s2=>.ok (.node 11 0 ⟨#[]⟩ [n]) s2:=rfl
  refine PN.bind (xI hT q (h.adv hT hne)) (fun t2 s3 k2 n2 b2 m2 c2 x3 e hr hx=>?_) (fun p c e hp=>?_)
  ·rw[hop,e];exact Rs.some ⟨RepN.k1 hr,hx⟩
  ·(rw[hop,e];exact Rs.some ⟨hp,rfl⟩)
 ·refine Rs.neg hi ?_
  rw[if_neg hi]
  have hop:eh3 T 5 (adv s)=(tA T (adv s)).bind fun n s2=>.ok (.node 5 0 ⟨#[]⟩ [n]) s2:=rfl
  refine PN.bind (xI hT q (h.adv hT hne)) (fun t2 s3 k2 n2 b2 m2 c2 x3 e hr hx=>?_) (fun p c e hp=>?_)
  ·rw[hop,e];exact Rs.some ⟨RepN.k1 hr,hx⟩
  ·(rw[hop,e];exact Rs.some ⟨hp,rfl⟩)
theorem cz7(hT:TokN N T){f q:Nat}(hE:HE N T pr f q)(h:RS N T pr s x)(hne:(T s.p).t≠⟨#[]⟩∨(T s.p).k≠0)(ho:o9 T f 1 (adv s)≠ .out):Rs (bn3 q x) (PN N T pr (ei9 T f (if isP T rI s=true then 8 else 7) (adv s))):=by
 unfold bn3
 refine Rs.map (P:=fun y=>PN N T pr (ei9 T f (if isP T rI s=true then 8 else 7) (adv s)) (bq6 y)) ?_ fun z hz=>hz
 unfold dq9 vD
 rw[cg5 q h]
 dsimp only[Option.bind_some]
 by_cases hi:isP T rI s=true
 ·refine Rs.pos hi ?_
  rw[if_pos hi]
  have hop:ei9 T f 8 (adv s)=(o9 T f 1 (adv s)).bind fun n s2=>.ok (.node 8 0 ⟨#[]⟩ [n]) s2:=rfl
  refine PN.bind (hE f (Nat.le_refl _) 1 (by decide) (by decide) (adv s) _ (h.adv hT hne) ho) (fun t2 s3 k2 n2 b2 m2 c2 x3 e hr hx=>?_) (fun p c e hp=>?_)
  ·rw[hop,e];exact Rs.some ⟨RepN.k1 hr,hx⟩
  ·(rw[hop,e];exact Rs.some ⟨hp,rfl⟩)
 ·refine Rs.neg hi ?_
  rw[if_neg hi]
  have hop:ei9 T f 7 (adv s)=(o9 T f 1 (adv s)).bind fun n s2=>.ok (.node 7 0 ⟨#[]⟩ [n]) s2:=rfl
  refine PN.bind (hE f (Nat.le_refl _) 1 (by decide) (by decide) (adv s) _ (h.adv hT hne) ho) (fun t2 s3 k2 n2 b2 m2 c2 x3 e hr hx=>?_) (fun p c e hp=>?_)
  ·rw[hop,e];exact Rs.some ⟨RepN.k1 hr,hx⟩
  ·(rw[hop,e];exact Rs.some ⟨hp,rfl⟩)
def cf5(T:Nat→Tkn)(s:PS):PR Tr:=if isP T yV s=true then ee5 T 12 99 (adv s)else if isP T uE s=true then ee5 T 13 999 (adv s)else if isP T an0 s=true then dr3 T 9 al3 (adv s)else dr3 T 10 mN (adv s)
theorem go5(hT:TokN N T)(q:Nat)(h:RS N T pr s x)(hne:(T s.p).t≠⟨#[]⟩∨(T s.p).k≠0)(kd:Int)(bb:ByteArray)(hb:bb≠⟨#[]⟩):
 Rs ((oI q (0,7,w (x.1+1),x.2)).bind fun z=>Sum.elim (fun za=>(mK q (bb,za.2)).bind fun y=>Sum.elim (fun ya=>(kK q ya).bind fun v=>Sum.elim (fun va=>(some (.inr (.inl (kd,za.1,(⟨#[]⟩:ByteArray),va))):Option eZ)) (fun vb=>some (.inr (.inr vb))) v) (fun yb=>some (.inr (.inr yb))) y) (fun zb=>some (.inr (.inr zb))) z) (fun y=>PN N T pr (dr3 T kd bb (adv s)) (sB y)):=by
 have hop:dr3 T kd bb (adv s)=(tB T 0 7 (adv s)).bind fun n s1=>(y7 T bb s1).bind fun _ s2=>(tA T s2).bind fun m s3=>.ok (.node kd n ⟨#[]⟩ [m]) s3:=rfl
 refine PX.bind (av4 hT q (h.adv hT hne) 0 7) (fun a s1 x1 e1 g1=>?_) (fun p c e hp=>?_)
 ·rw[e1]at hop
  dsimp only[PR.bind]at hop
  refine PU.bind (rR hT q g1 bb hb) (fun s2 x2 e2 g2=>?_) (fun p c e hp=>?_)
  ·rw[e2]at hop
   dsimp only[PR.bind]at hop
   refine PN.bind (xI hT q g2) (fun t2 s3 k2 n2 b2 m2 c2 x3 e hr hx=>?_) (fun p c e hp=>?_)
   ·rw[hop,e];exact Rs.some ⟨RepN.k1 hr,hx⟩
   ·(rw[hop,e];exact Rs.some ⟨hp,rfl⟩)
  ·(rw[hop,e];exact Rs.some ⟨hp,rfl⟩)
 ·(rw[hop,e];exact Rs.some ⟨hp,rfl⟩)
theorem gj8(hT:TokN N T)(q:Nat)(h:RS N T pr s x)(hne:(T s.p).t≠⟨#[]⟩∨(T s.p).k≠0)(kd hi:Int):
 Rs ((oI q (0,hi,w (x.1+1),x.2)).bind fun z=>Sum.elim (fun za=>(some (.inl (kd,za.1,(⟨#[]⟩:ByteArray),za.2)):Option eZ)) (fun zb=>some (.inr (.inr zb))) z) (fun y=>PN N T pr (ee5 T kd hi (adv s)) (sB y)):=by
 have hop:ee5 T kd hi (adv s)=(tB T 0 hi (adv s)).bind fun n s1=>.ok (.node kd n ⟨#[]⟩ []) s1:=rfl
 refine PX.bind (av4 hT q (h.adv hT hne) 0 hi) (fun a s1 x1 e1 g1=>?_) (fun p c e hp=>?_)
 ·rw[hop,e1]
  exact Rs.some ⟨RepN.leaf,g1⟩
 ·(rw[hop,e];exact Rs.some ⟨hp,rfl⟩)
theorem yA(hT:TokN N T)(q:Nat)(h:RS N T pr s x)(hne:(T s.p).t≠⟨#[]⟩∨(T s.p).k≠0):Rs (numbered q x) (PN N T pr (cf5 T s)):=by
 unfold numbered
 refine Rs.map (P:=fun y=>PN N T pr (cf5 T s) (sB y)) ?_ fun z hz=>hz
 unfold bp7 nT cf5
 rw[gH q h]
 dsimp only[Option.bind_some]
 rw[oU,oU,oU]
 by_cases h1:isP T yV s=true
 ·rw[if_pos h1]
  exact Rs.pos h1 (gj8 hT q h hne 12 99)
 ·rw[if_neg h1]
  refine Rs.neg h1 ?_
  by_cases h2:isP T uE s=true
  ·rw[if_pos h2]
   exact Rs.pos h2 (gj8 hT q h hne 13 999)
  ·rw[if_neg h2]
   refine Rs.neg h2 ?_
   by_cases h3:isP T an0 s=true
   ·rw[if_pos h3]
    exact Rs.pos h3 (go5 hT q h hne 9 al3 (by decide))
   ·rw[if_neg h3]
    exact Rs.neg h3 (go5 hT q h hne 10 mN (by decide))
end
end Go.Proofs.YtjfkkokeegpeiaaGreatDoor
/- Blocks are read as the plain parser reads them. -/
namespace Go.Proofs.YtjfkkokeegpeiaaGreatDoor
open Go Go.Am Go.Proofs.Lx
set_option maxRecDepth 100000
section
variable {T:Nat→Tkn}
theorem Op.of{α:Type}{o o':Nat}{r:PR α}(h:Op o r)(e:o=o'):Op o' r:=e▸h
theorem Op.ite{α:Type}{o:Nat}{c:Prop}[Decidable c]{a b:PR α}(h1:Op o a)(h2:Op o b):Op o (if c then a else b):=by
 by_cases h:c
 ·rw[if_pos h];exact h1
 ·rw[if_neg h];exact h2
theorem hf6(s:PS):Op s.o (zL T s):=by
 unfold zL
 refine(cd3 s).bind fun a s1 e=>?_
 repeat' split
 all_goals first|trivial|exact e
theorem hs8(n:Tr)(s:PS):Op s.o (Lx.endP T n s):=(yG aj6 s).bind fun _ s1 e=>e
theorem gx1(f:Nat)(s:PS):Op s.o (ee9 T f s):=(hf6 s).bind fun a s1 e1=>(yG cm8 s1).bind fun _ s2 e2=>((ae9 (T:=T) f).1 1 s2).bind fun n s3 e3=>by show s3.o=s.o;omega
theorem hi0(f:Nat)(s:PS):Op s.o (ed1 T f s):=(cd3 s).bind fun a s1 e1=>(yG cm8 s1).bind fun _ s2 e2=>((ae9 (T:=T) f).1 1 s2).bind fun n s3 e3=>by show s3.o=s.o;omega
theorem ft5(f:Nat)(s:PS):Op s.o (am4 T f s):=((ae9 (T:=T) f).1 1 s).bind fun n s1 e1=>(yG jF s1).bind fun _ s2 e2=>(dm3 s2).bind fun m s3 e3=>by show s3.o=s.o;omega
theorem fn6(k:Int)(s:PS):Op s.o (eh3 T k s):=(dm3 s).bind fun n s1 e1=>e1
theorem fh4(f:Nat)(k:Int)(s:PS):Op s.o (ei9 T f k s):=((ae9 (T:=T) f).1 1 s).bind fun n s1 e1=>e1
theorem ff4(k hi:Int)(s:PS):Op s.o (ee5 T k hi s):=(dq0 0 hi s).bind fun n s1 e1=>e1
theorem fh5(k:Int)(b:ByteArray)(s:PS):Op s.o (dr3 T k b s):=(dq0 0 7 s).bind fun n s1 e1=>(yG b s1).bind fun _ s2 e2=>(dm3 s2).bind fun m s3 e3=>by show s3.o=s.o;omega
theorem pB{r:PR Tr}{o:Nat}(h:Op o r):Op o (r.bind (Lx.endP T)):=h.bind fun n s e=>(hs8 n s).of e
theorem ho3:∀f,(∀s,Op s.o (bC T f s))∧(∀s,Op s.o (dZ T f s))∧(∀s,Op s.o (xQ T f s)):=by
 intro f
 induction f with
 |zero=>exact⟨fun _=>by rw[bC];trivial,fun _=>by rw[dZ];trivial,fun _=>by rw[xQ];trivial⟩
 |succ f ih=>
  obtain⟨h1,h2,h3⟩:=ih
  refine⟨fun s=>?_,fun s=>?_,fun s=>?_⟩
  ·rw[bC]
   refine(zG cv8 s).bind fun _ s1 e1=>(h2 s1).bind fun l s2 e2=>?_
   show s2.o-1=s.o
   omega
  ·rw[dZ]
   split
   ·rfl
   ·exact(h3 s).bind fun n s1 e1=>(h2 s1).bind fun l s2 e2=>by show s2.o=s.o;omega
  ·rw[xQ]
   refine Op.ite ?_ ?_
   ·rw[fd6];exact pB (gx1 f (adv s))
   refine Op.ite ?_ ?_
   ·refine((ae9 (T:=T) f).1 1 (adv s)).bind fun c s1 e1=>(h1 s1).bind fun y s2 e2=>?_
    have e1:s1.o=s.o:=e1
    refine Op.ite ?_ ?_
    ·exact(h1 (adv s2)).bind fun n s3 e3=>by
      have e3:s3.o=s2.o:=e3
      show s3.o=s.o
      omega
    ·show s2.o=s.o
     omega
   refine Op.ite ?_ ?_
   ·exact(dq0 1 100 (adv s)).bind fun n s1 e1=>(h1 s1).bind fun y s2 e2=>by
     have e1:s1.o=s.o:=e1
     show s2.o=s.o
     omega
   refine Op.ite ?_ ?_
   ·rw[cl2];exact pB (ft5 f (adv s))
   refine Op.ite ?_ ?_
   ·rw[bo3];exact pB (fn6 5 (adv s))
   refine Op.ite ?_ ?_
   ·rw[bo3];exact pB (fn6 11 (adv s))
   refine Op.ite ?_ ?_
   ·rw[bq5];exact pB (fh4 f 7 (adv s))
   refine Op.ite ?_ ?_
   ·rw[bq5];exact pB (fh4 f 8 (adv s))
   refine Op.ite ?_ ?_
   ·rw[bv9];exact pB (fh5 9 al3 (adv s))
   refine Op.ite ?_ ?_
   ·rw[bv9];exact pB (fh5 10 mN (adv s))
   refine Op.ite ?_ ?_
   ·rw[bu3];exact pB (ff4 12 99 (adv s))
   refine Op.ite ?_ ?_
   ·rw[bu3];exact pB (ff4 13 999 (adv s))
   ·rw[eu5];exact pB (hi0 f s)
end
abbrev Z0:Type:=Nat×(Nat→Int)×(Nat→Int)×(Nat→ByteArray)×(Nat→Int)×Int×Int×Nat×Nat×(Nat→ByteArray)×(Nat→ByteArray)
abbrev df8:Type:=(Nat→Int)×(Nat→Int)×(Nat→ByteArray)×(Nat→Nat)×(Nat→Nat→List V)×Nat
def z0(x:StT):Z0:=(x.2.2.1,x.2.2.2.1,x.2.2.2.2.1,x.2.2.2.2.2.1,x.2.2.2.2.2.2.1,x.1,x.2.1,x.2.2.2.2.2.2.2.1,x.2.2.2.2.2.2.2.2.2.1,x.2.2.2.2.2.2.2.2.1,x.2.2.2.2.2.2.2.2.2.2)
def za(x:StT)(a:df8):Nat×(Nat→Int)×(Nat→Int)×(Nat→ByteArray)×(Nat→Int)×Int×Int×Nat×Nat×(Nat→ByteArray)×(Nat→ByteArray)×df8:=(x.2.2.1,x.2.2.2.1,x.2.2.2.2.1,x.2.2.2.2.2.1,x.2.2.2.2.2.2.1,x.1,x.2.1,x.2.2.2.2.2.2.2.1,x.2.2.2.2.2.2.2.2.2.1,x.2.2.2.2.2.2.2.2.1,x.2.2.2.2.2.2.2.2.2.2,a)
def zb(x:StT)(a:df8):Nat×(Nat→Int)×(Nat→Int)×(Nat→ByteArray)×(Nat→Int)×Int×Int×Nat×Nat×(Nat→ByteArray)×(Nat→ByteArray)×Nat×(Nat→Int)×(Nat→Int)×(Nat→ByteArray)×(Nat→Nat)×(Nat→Nat→List V):=(x.2.2.1,x.2.2.2.1,x.2.2.2.2.1,x.2.2.2.2.2.1,x.2.2.2.2.2.2.1,x.1,x.2.1,x.2.2.2.2.2.2.2.1,x.2.2.2.2.2.2.2.2.2.1,x.2.2.2.2.2.2.2.2.1,x.2.2.2.2.2.2.2.2.2.2,a.2.2.2.2.2,a.1,a.2.1,a.2.2.1,a.2.2.2.1,a.2.2.2.2.1)
def RepA(l:List Tr)(a:df8):Prop:=a.2.2.2.2.2=l.length∧∀j t,l[j]? =some t→RepN t (a.1 j,a.2.1 j,a.2.2.1 j,a.2.2.2.1 j,a.2.2.2.2.1 j)
theorem ff1{f:Nat→List V}:∀(l:List Tr) (i:Nat),(∀j t,l[j]? =some t→∃y:n4,f (i+j)=[i64 y.1,i64 y.2.1,st y.2.2.1,.ro 4 y.2.2.2.1 y.2.2.2.2]∧RepN t y)→rW l f i
 | [],_,_=>by simp[rW]
 |t::l,i,h=>by
  simp only[rW]
  refine⟨h 0 t rfl,ff1 l (i+1) fun j t' e=>?_⟩
  have:=h (j+1) t' (by simpa using e)
  rwa [show i+(j+1)=i+1+j by omega]at this
theorem RepA.node{l:List Tr}{a:df8}(h:RepA l a):RepN (.node 14 0 ⟨#[]⟩ l) (14,0,⟨#[]⟩,a.2.2.2.2.2,fun j=>[i64 (a.1 j),i64 (a.2.1 j),st (a.2.2.1 j),.ro 4 (a.2.2.2.1 j) (a.2.2.2.2.1 j)]):=by
 simp only[RepN]
 refine⟨trivial,trivial,trivial,h.1,ff1 l 0 fun j t e=>⟨(a.1 j,a.2.1 j,a.2.2.1 j,a.2.2.2.1 j,a.2.2.2.2.1 j),by rw[Nat.zero_add],h.2 j t e⟩⟩
def ig8(y:n4):df8:=(fun _=>y.1,fun _=>y.2.1,fun _=>y.2.2.1,fun _=>y.2.2.2.1,fun _=>y.2.2.2.2,1)
theorem gf8{t:Tr}{y:n4}(h:RepN t y):RepA [t] (ig8 y):=by
 refine⟨rfl,fun j t' e=>?_⟩
 cases j with
 |zero=>simp only[List.getElem?_cons_zero,Option.some.injEq]at e;subst e;exact h
 |succ j=>simp at e
def gm6(a:df8)(y:n4):df8:=(fun j=>if j<a.2.2.2.2.2 then a.1 j else y.1,fun j=>if j<a.2.2.2.2.2 then a.2.1 j else y.2.1,fun j=>if j<a.2.2.2.2.2 then a.2.2.1 j else y.2.2.1,fun j=>if j<a.2.2.2.2.2 then a.2.2.2.1 j else y.2.2.2.1,fun j i=>if j<a.2.2.2.2.2 then a.2.2.2.2.1 j i else y.2.2.2.2 i,a.2.2.2.2.2+1)
theorem gc7{l:List Tr}{a:df8}{t:Tr}{y:n4}(h:RepA l a)(g:RepN t y):RepA (l++[t]) (gm6 a y):=by
 refine⟨by simp[gm6,h.1],fun j t' e=>?_⟩
 by_cases hj:j<l.length
 ·rw[List.getElem?_append_left hj]at e
  have:=h.2 j t' e
  simp only[gm6,h.1,hj,if_true]
  exact this
 ·rw[List.getElem?_append_right (by omega)]at e
  simp only[gm6,h.1,hj,if_false]
  cases hk:j-l.length with
  |zero=>rw[hk]at e;simp only[List.getElem?_cons_zero,Option.some.injEq]at e;subst e;exact g
  |succ n=>rw[hk]at e;simp at e
section
variable {N:Nat} {T:Nat→Tkn} {pr:List ByteArray}
def BL(N:Nat)(T:Nat→Tkn)(pr:List ByteArray)(acc:List Tr):PR (List Tr)→mV→Prop
 | .ok l s,.inr (.inl z)=>acc++l=[]∧∃x,z=z0 x∧RS N T pr s x
 | .ok l s,.inr (.inr z)=>∃x a,z=zb x a∧RepA (acc++l) a∧RS N T pr s x
 | .err p c,.inl e=>p<N∧e=((T p).a,c)
 |_,_=>False
def BS(acc:List Tr)(x:StT):bR→Prop
 | .inl y=>acc=[]∧y=z0 x
 | .inr y=>∃a,y=za x a∧RepA acc a
def HS(N:Nat)(T:Nat→Tkn)(pr:List ByteArray)(f q:Nat):Prop:=∀g,g≤f→∀(s:PS) (x:StT),RS N T pr s x→xQ T g s≠ .out→Rs (ac0 q x) (PN N T pr (xQ T g s))
def HB(N:Nat)(T:Nat→Tkn)(pr:List ByteArray)(f q:Nat):Prop:=∀g,g≤f→∀(s:PS) (x:StT),RS N T pr s x→bC T g s≠ .out→Rs (block q x) (PN N T pr (bC T g s))
theorem eu1(hT:TokN N T){f q:Nat}(hS:HS N T pr f q)(x0:StT):∀(g:Nat),g≤f→∀(m:Nat),g<m→∀(acc:List Tr) (s:PS) (x:StT) (y:bR),BS acc x y→acc.length+g≤1000000000→RS N T pr s x→dZ T g s≠ .out→
 Rs (qW (tP q) (take q) (ac0 q) m x0 y) (BL N T pr acc (dZ T g s)):=by
 intro g
 induction g with
 |zero=>intro _ m _ acc s x y _ _ _ ho;rw[dZ]at ho;exact absurd rfl ho
 |succ g ih=>
  intro hg m hm acc s x y hy hb h ho
  obtain⟨m,rfl⟩:∃k,m=k+1:=⟨m-1,by omega⟩
  unfold qW
  refine Rs.step3 fun Q hQ=>?_
  have h0:=h
  obtain⟨v,u,rfl,h1,h2,h3,h4,h5,h6⟩:=h
  have hop:dZ T (g+1) s=if isP T dk1 s=true then .ok [] (adv s)else(xQ T g s).bind fun n s1=>(dZ T g s1).bind fun l s2=>.ok (n::l) s2:=by rw[dZ]
  rcases y with y|y
  ·obtain⟨rfl,rfl⟩:=hy
   rw[Sum.elim_inl]
   unfold kN
   dsimp only[z0]
   rw[iK q (s:=s) (pr:=pr) (N:=N) (T:=T) h0]
   dsimp only[Option.bind_some]
   by_cases hi:isP T dk1 s=true
   ·rw[if_pos hi]at hop⊢
    refine Rs.neg (by simp) (Rs.some ?_)
    show BL N T pr [] (dZ T (g+1) s) _
    rw[hop]
    exact⟨rfl,_,rfl,h0.adv hT (u6 (by decide) hi)⟩
   ·rw[if_neg hi]at hop⊢
    refine Rs.pos (by simp) ?_
    refine PN.bind (hS g (by omega) s _ h0 (PR.bind_out (hop▸ho))) (fun t s2 k1 n1 b1 m1 c1 x1 e hr hx=>?_) (fun p c e hp=>?_)
    ·rw[e]at hop
     dsimp only[PR.bind]at hop
     refine Rs.some (hQ _ ?_)
     have ho2:=PR.bind_out (hop▸ho)
     refine(ih (by omega) m (by omega) [t] s2 x1 (.inr (za x1 (ig8 (k1,n1,b1,m1,c1)))) ⟨_,rfl,gf8 hr⟩ (by simp;omega) hx ho2).mono fun z hz=>?_
     rw[hop]
     cases hr2:dZ T g s2 with
     |out=>exact absurd hr2 ho2
     |err p c=>rw[hr2]at hz;rcases z with z|z|z<;>exact hz
     |ok l s3=>
      rw[hr2]at hz
      rcases z with z|z|z
      ·exact hz.elim
      ·exact absurd hz.1 (by simp)
      ·exact hz
    ·refine Rs.some ?_
     show BL N T pr [] (dZ T (g+1) s) _
     rw[hop,e]
     exact⟨hp,rfl⟩
  ·obtain⟨a,rfl,ha⟩:=hy
   rw[Sum.elim_inr]
   unfold kJ
   dsimp only[za]
   rw[iK q (s:=s) (pr:=pr) (N:=N) (T:=T) h0]
   dsimp only[Option.bind_some]
   by_cases hi:isP T dk1 s=true
   ·rw[if_pos hi]at hop⊢
    refine Rs.neg (by simp) (Rs.some ?_)
    show BL N T pr acc (dZ T (g+1) s) _
    rw[hop]
    exact⟨_,a,rfl,by rw[List.append_nil];exact ha,h0.adv hT (u6 (by decide) hi)⟩
   ·rw[if_neg hi]at hop⊢
    refine Rs.pos (by simp) ?_
    refine PN.bind (hS g (by omega) s _ h0 (PR.bind_out (hop▸ho))) (fun t s2 k1 n1 b1 m1 c1 x1 e hr hx=>?_) (fun p c e hp=>?_)
    ·rw[e]at hop
     dsimp only[PR.bind]at hop
     have hal:=ha.1
     refine Rs.pos ⟨by unfold d5;omega,by unfold maxLen;omega,Nat.le_refl _⟩ (Rs.some (hQ _ ?_))
     have ho2:=PR.bind_out (hop▸ho)
     refine(ih (by omega) m (by omega) (acc++[t]) s2 x1 (.inr (za x1 (gm6 a (k1,n1,b1,m1,c1)))) ⟨_,rfl,gc7 ha hr⟩ (by simp;omega) hx ho2).mono fun z hz=>?_
     rw[hop]
     cases hr2:dZ T g s2 with
     |out=>exact absurd hr2 ho2
     |err p c=>rw[hr2]at hz;rcases z with z|z|z<;>exact hz
     |ok l s3=>
      rw[hr2]at hz
      rcases z with z|z|z
      ·exact hz.elim
      ·exact absurd hz.1 (by simp)
      ·obtain⟨x2,a2,e1,e2,e3⟩:=hz
       exact⟨x2,a2,e1,by simpa using e2,e3⟩
    ·refine Rs.some ?_
     show BL N T pr acc (dZ T (g+1) s) _
     rw[hop,e]
     exact⟨hp,rfl⟩
end
end Go.Proofs.YtjfkkokeegpeiaaGreatDoor
/- Statements are read as the plain parser reads them. -/
namespace Go.Proofs.YtjfkkokeegpeiaaGreatDoor
open Go Go.Am Go.Proofs.Lx
set_option maxRecDepth 100000
section
variable (T:Nat→Tkn)
def brQ(f:Nat)(s:PS):PR Tr:=(o9 T f 1 s).bind fun c s1=>(bC T f s1).bind fun y s2=>
 if isP T oO s2=true then(bC T f (adv s2)).bind fun n s3=>.ok (.node 3 0 ⟨#[]⟩ [c,y,n]) s3 else .ok (.node 3 0 ⟨#[]⟩ [c,y,.node 14 0 ⟨#[]⟩ []]) s2
def gg2(f:Nat)(s:PS):PR Tr:=(tB T 1 100 s).bind fun n s1=>(bC T f s1).bind fun y s2=>.ok (.node 4 n ⟨#[]⟩ [y]) s2
end
section
variable {N:Nat} {T:Nat→Tkn} {pr:List ByteArray} {s:PS} {x:StT}
theorem fa9(hT:TokN N T){f q:Nat}(hq:f<q)(hf:f≤1000000000)(hS:HS N T pr f q)(h:RS N T pr s x)(ho:bC T (f+1) s≠ .out):Rs (block (q+1) x) (PN N T pr (bC T (f+1) s)):=by
 show Rs ((rX (tP q) (take q) (ac0 q) (qW (tP q) (take q) (ac0 q) q x) x some).map bm1) _
 refine Rs.map (P:=fun y=>PN N T pr (bC T (f+1) s) (bm1 y)) ?_ fun z hz=>hz
 unfold rX
 have hop:bC T (f+1) s=(eG T cv8 s).bind fun _ s1=>(dZ T f s1).bind fun l s2=>.ok (.node 14 0 ⟨#[]⟩ l) (lI s2):=by rw[bC]
 refine PU.bind (cp0 hT q h cv8 (by decide)) (fun s1 x1 e1 g1=>?_) (fun p c e hp=>?_)
 ·have o1:=zG (T:=T) cv8 s
  rw[e1]at hop o1
  dsimp only[PR.bind]at hop
  have o1:s1.o=s.o+1:=o1
  have ho2:=PR.bind_out (hop▸ho)
  refine Rs.bind (eu1 hT hS x f (Nat.le_refl _) q hq [] s1 x1 (.inl (z0 x1)) ⟨rfl,rfl⟩ (by simpa using hf) g1 ho2) fun z hz=>?_
  rw[hop]
  have o2:=(ho3 (T:=T) f).2.1 s1
  cases hr2:dZ T f s1 with
  |out=>exact absurd hr2 ho2
  |err p c=>
   rw[hr2]at hz
   rcases z with z|z|z
   ·exact Rs.some hz
   ·exact hz.elim
   ·exact hz.elim
  |ok l s2=>
   rw[hr2]at hz o2
   have o2:s2.o=s1.o:=o2
   rcases z with z|z|z
   ·exact hz.elim
   ·obtain⟨e1,x2,rfl,g3⟩:=hz
    simp only[List.nil_append]at e1
    subst e1
    exact Rs.some ⟨RepN.leaf,g3.close hT (by omega)⟩
   ·obtain⟨x2,a,rfl,ha,g3⟩:=hz
    exact Rs.some ⟨RepA.node ha,g3.close hT (by omega)⟩
 ·(rw[hop,e];exact Rs.some ⟨hp,rfl⟩)
theorem fu5(hT:TokN N T){f q:Nat}(hB:HB N T pr f q)(h:RS N T pr s x)(hne:(T s.p).t≠⟨#[]⟩∨(T s.p).k≠0)(ho:gg2 T f (adv s)≠ .out):Rs (fg5 (q+1) x) (PN N T pr (gg2 T f (adv s))):=by
 show Rs ((jH (oI q) (block q) x some).map ag2) _
 refine Rs.map (P:=fun y=>PN N T pr (gg2 T f (adv s)) (ag2 y)) ?_ fun z hz=>hz
 unfold jH
 have hop:gg2 T f (adv s)=(tB T 1 100 (adv s)).bind fun n s1=>(bC T f s1).bind fun y s2=>.ok (.node 4 n ⟨#[]⟩ [y]) s2:=rfl
 refine PX.bind (av4 hT q (h.adv hT hne) 1 100) (fun a s1 x1 e1 g1=>?_) (fun p c e hp=>?_)
 ·rw[e1]at hop
  dsimp only[PR.bind]at hop
  refine PN.bind (hB f (Nat.le_refl _) s1 x1 g1 (PR.bind_out (hop▸ho))) (fun t s3 k n b m c x3 e hr hx=>?_) (fun p c e hp=>?_)
  ·rw[hop,e];exact Rs.some ⟨RepN.k1 hr,hx⟩
  ·(rw[hop,e];exact Rs.some ⟨hp,rfl⟩)
 ·(rw[hop,e];exact Rs.some ⟨hp,rfl⟩)
theorem ft4(hT:TokN N T){f q:Nat}(hE:HE N T pr f q)(hB:HB N T pr f q)(h:RS N T pr s x)(hne:(T s.p).t≠⟨#[]⟩∨(T s.p).k≠0)(ho:brQ T f (adv s)≠ .out):Rs (gt1 (q+1) x) (PN N T pr (brQ T f (adv s))):=by
 show Rs ((nM (af8 q) (block q) (take q) x some).map vL) _
 refine Rs.map (P:=fun y=>PN N T pr (brQ T f (adv s)) (vL y)) ?_ fun z hz=>hz
 unfold nM
 have hop:brQ T f (adv s)=(o9 T f 1 (adv s)).bind fun c s1=>(bC T f s1).bind fun y s2=>
  if isP T oO s2=true then(bC T f (adv s2)).bind fun n s3=>.ok (.node 3 0 ⟨#[]⟩ [c,y,n]) s3 else .ok (.node 3 0 ⟨#[]⟩ [c,y,.node 14 0 ⟨#[]⟩ []]) s2:=rfl
 refine PN.bind (hE f (Nat.le_refl _) 1 (by decide) (by decide) (adv s) _ (h.adv hT hne) (PR.bind_out ho)) (fun t1 s1 k1 n1 b1 m1 c1 x1 e1 hr1 g1=>?_) (fun p c e hp=>?_)
 ·rw[e1]at hop
  dsimp only[PR.bind]at hop
  refine PN.bind (hB f (Nat.le_refl _) s1 x1 g1 (PR.bind_out (hop▸ho))) (fun t2 s2 k2 n2 b2 m2 c2 x2 e2 hr2 g2=>?_) (fun p c e hp=>?_)
  ·rw[e2]at hop
   dsimp only[PR.bind]at hop
   rw[iK q g2]
   dsimp only[Option.bind_some]
   by_cases hi:isP T oO s2=true
   ·rw[if_pos hi]at hop⊢
    refine Rs.pos rfl ?_
    refine PN.bind (hB f (Nat.le_refl _) (adv s2) _ (g2.adv hT (u6 (by decide) hi)) (PR.bind_out (hop▸ho))) (fun t3 s3 k3 n3 b3 m3 c3 x3 e hr hx=>?_) (fun p c e hp=>?_)
    ·rw[hop,e]
     refine Rs.some ⟨?_,hx⟩
     simp only[RepN,rW,List.length_cons,List.length_nil,vL,Sum.elim_inl]
     exact⟨trivial,trivial,trivial,trivial,⟨(k1,n1,b1,m1,c1),rfl,hr1⟩,⟨(k2,n2,b2,m2,c2),rfl,hr2⟩,⟨(k3,n3,b3,m3,c3),rfl,hr⟩,trivial⟩
    ·(rw[hop,e];exact Rs.some ⟨hp,rfl⟩)
   ·rw[if_neg hi]at hop⊢
    refine Rs.neg (by simp) ?_
    rw[hop]
    refine Rs.some ⟨?_,g2⟩
    simp only[RepN,rW,List.length_cons,List.length_nil,vL,Sum.elim_inl]
    exact⟨trivial,trivial,trivial,trivial,⟨(k1,n1,b1,m1,c1),rfl,hr1⟩,⟨(k2,n2,b2,m2,c2),rfl,hr2⟩,⟨(14,0,⟨#[]⟩,0,fun _=>[]),rfl,by simp⟩,trivial⟩
  ·(rw[hop,e];exact Rs.some ⟨hp,rfl⟩)
 ·(rw[hop,e];exact Rs.some ⟨hp,rfl⟩)
theorem oY(hT:TokN N T)(q:Nat){r:PR Tr}{o:Option bK}(h:Rs o (PN N T pr r)):
 Rs (o.bind fun z=>Sum.elim (fun za=>(mK q (aj6,za.2.2.2.2.2)).bind fun y=>Sum.elim (fun ya=>(some (.inl (za.1,za.2.1,za.2.2.1,za.2.2.2.1,za.2.2.2.2.1,ya)):Option gE)) (fun yb=>some (.inr yb)) y) (fun zb=>some (.inr zb)) z) (fun y=>PN N T pr (r.bind (Lx.endP T)) (dH y)):=by
 refine PN.bind h (fun t s3 k n b m c x3 e hr hx=>?_) (fun p c e hp=>?_)
 ·subst e
  refine PU.bind (rR hT q hx aj6 (by decide)) (fun s4 x4 e4 g4=>?_) (fun p c e hp=>?_)
  ·show Rs _ fun y=>PN N T pr (Lx.endP T t s3) (dH y)
   unfold Lx.endP
   rw[e4]
   exact Rs.some ⟨hr,g4⟩
  ·show Rs _ fun y=>PN N T pr (Lx.endP T t s3) (dH y)
   unfold Lx.endP
   rw[e]
   exact Rs.some ⟨hp,rfl⟩
 ·subst e
  exact Rs.some ⟨hp,rfl⟩
theorem fn0{r:PR Tr}{o:Option bK}(h:Rs o (PN N T pr r)):
 Rs (o.bind fun z=>Sum.elim (fun za=>(some (.inl za):Option gE)) (fun zb=>some (.inr zb)) z) (fun y=>PN N T pr r (dH y)):=by
 refine PN.bind h (fun t s3 k n b m c x3 e hr hx=>?_) (fun p c e hp=>?_)
 ·subst e;exact Rs.some ⟨hr,hx⟩
 ·subst e;exact Rs.some ⟨hp,rfl⟩
theorem au6{a b:ByteArray}(hab:a≠b)(h:isP T a s=true):¬isP T b s=true:=by
 simp only[isP,decide_eq_true_eq]at h⊢
 rw[h];exact hab
theorem fw8(hT:TokN N T){f q:Nat}(hq:20≤q)(hE:HE N T pr f (q+1))(hE0:HE N T pr f q)(hB:HB N T pr f q)(h:RS N T pr s x)(ho:xQ T (f+1) s≠ .out):Rs (ac0 (q+2) x) (PN N T pr (xQ T (f+1) s)):=by
 show Rs ((dJ (next (q+1)) (fp9 (q+1)) (gt1 (q+1)) (fg5 (q+1)) (await (q+1)) (bn5 (q+1)) (bn3 (q+1)) (numbered (q+1)) (assign (q+1)) (mK (q+1)) x some).map dH) _
 refine Rs.map (P:=fun y=>PN N T pr (xQ T (f+1) s) (dH y)) ?_ fun z hz=>hz
 unfold dJ
 rw[gH (q+1) h]
 dsimp only[Option.bind_some]
 simp only[oU]
 have hop:xQ T (f+1) s=if isP T bk8 s=true then(zL T (adv s)).bind fun x s1=>el7 T f 1 x s1
  else if isP T sU s=true then brQ T f (adv s)
  else if isP T bX s=true then gg2 T f (adv s)
  else if isP T tS s=true then dn2 T f (adv s)
  else if isP T be2 s=true then ga8 T 5 (adv s)
  else if isP T yW s=true then ga8 T 11 (adv s)
  else if isP T qO s=true then oneP T f 7 (adv s)
  else if isP T rI s=true then oneP T f 8 (adv s)
  else if isP T an0 s=true then fq6 T 9 al3 (adv s)
  else if isP T ac9 s=true then fq6 T 10 mN (adv s)
  else if isP T yV s=true then fu2 T 12 99 (adv s)
  else if isP T uE s=true then fu2 T 13 999 (adv s)
  else(fD T s).bind fun x s1=>el7 T f 2 x s1:=by rw[xQ];rfl
 by_cases c1:isP T bk8 s=true
 ·rw[if_pos c1,fd6]at hop
  rw[hop]
  exact Rs.pos c1 (oY hT (q+1) (hv4 hT (by omega) hE h (u6 (by decide) c1) (PR.bind_out (hop▸ho))))
 rw[if_neg c1]at hop
 refine Rs.neg c1 ?_
 by_cases c2:isP T sU s=true
 ·rw[if_pos c2]at hop
  rw[hop]
  exact Rs.pos c2 (fn0 (ft4 hT hE0 hB h (u6 (by decide) c2) (hop▸ho)))
 rw[if_neg c2]at hop
 refine Rs.neg c2 ?_
 by_cases c3:isP T bX s=true
 ·rw[if_pos c3]at hop
  rw[hop]
  exact Rs.pos c3 (fn0 (fu5 hT hB h (u6 (by decide) c3) (hop▸ho)))
 rw[if_neg c3]at hop
 refine Rs.neg c3 ?_
 by_cases c4:isP T tS s=true
 ·rw[if_pos c4,cl2]at hop
  rw[hop]
  exact Rs.pos c4 (oY hT (q+1) (gn2 hT hE h (u6 (by decide) c4) (PR.bind_out (hop▸ho))))
 rw[if_neg c4]at hop
 refine Rs.neg c4 ?_
 by_cases c5:isP T be2 s=true
 ·rw[if_pos c5,bo3]at hop
  rw[hop]
  have:=dc6 hT (q+1) h (u6 (by decide) c5)
  rw[if_neg (au6 (by decide) c5)]at this
  exact Rs.pos c5 (oY hT (q+1) this)
 rw[if_neg c5]at hop
 refine Rs.neg c5 ?_
 by_cases c6:isP T yW s=true
 ·rw[if_pos c6,bo3]at hop
  rw[hop]
  have:=dc6 hT (q+1) h (u6 (by decide) c6)
  rw[if_pos c6]at this
  exact Rs.pos c6 (oY hT (q+1) this)
 rw[if_neg c6]at hop
 refine Rs.neg c6 ?_
 by_cases c7:isP T qO s=true
 ·rw[if_pos c7,bq5]at hop
  rw[hop]
  have:=cz7 hT hE h (u6 (by decide) c7) (PR.bind_out (PR.bind_out (hop▸ho)))
  rw[if_neg (au6 (by decide) c7)]at this
  exact Rs.pos c7 (oY hT (q+1) this)
 rw[if_neg c7]at hop
 refine Rs.neg c7 ?_
 by_cases c8:isP T rI s=true
 ·rw[if_pos c8,bq5]at hop
  rw[hop]
  have:=cz7 hT hE h (u6 (by decide) c8) (PR.bind_out (PR.bind_out (hop▸ho)))
  rw[if_pos c8]at this
  exact Rs.pos c8 (oY hT (q+1) this)
 rw[if_neg c8]at hop
 refine Rs.neg c8 ?_
 by_cases c9:isP T an0 s=true
 ·rw[if_pos c9,bv9]at hop
  rw[hop]
  have:=yA hT (q+1) h (u6 (by decide) c9)
  unfold cf5 at this
  rw[if_neg (au6 (by decide) c9),if_neg (au6 (by decide) c9),if_pos c9]at this
  exact Rs.pos c9 (oY hT (q+1) this)
 rw[if_neg c9]at hop
 refine Rs.neg c9 ?_
 by_cases c10:isP T ac9 s=true
 ·rw[if_pos c10,bv9]at hop
  rw[hop]
  have:=yA hT (q+1) h (u6 (by decide) c10)
  unfold cf5 at this
  rw[if_neg (au6 (by decide) c10),if_neg (au6 (by decide) c10),if_neg c9]at this
  exact Rs.pos c10 (oY hT (q+1) this)
 rw[if_neg c10]at hop
 refine Rs.neg c10 ?_
 by_cases c11:isP T yV s=true
 ·rw[if_pos c11,bu3]at hop
  rw[hop]
  have:=yA hT (q+1) h (u6 (by decide) c11)
  unfold cf5 at this
  rw[if_pos c11]at this
  exact Rs.pos c11 (oY hT (q+1) this)
 rw[if_neg c11]at hop
 refine Rs.neg c11 ?_
 by_cases c12:isP T uE s=true
 ·rw[if_pos c12,bu3]at hop
  rw[hop]
  have:=yA hT (q+1) h (u6 (by decide) c12)
  unfold cf5 at this
  rw[if_neg c11,if_pos c12]at this
  exact Rs.pos c12 (oY hT (q+1) this)
 rw[if_neg c12]at hop
 refine Rs.neg c12 ?_
 rw[eu5]at hop
 rw[hop]
 exact oY hT (q+1) (fw0 hT hE h (PR.bind_out (hop▸ho)))
end
end Go.Proofs.YtjfkkokeegpeiaaGreatDoor
/- Statements are read as the plain parser reads them (2). -/
namespace Go.Proofs.YtjfkkokeegpeiaaGreatDoor
open Go Go.Am Go.Proofs.Lx
set_option maxRecDepth 100000
section
variable {N:Nat} {T:Nat→Tkn} {pr:List ByteArray}
theorem if4(hT:TokN N T):∀f,f≤1000000000→∀q,2*f+22≤q→HS N T pr f q∧HB N T pr f q:=by
 intro f
 induction f with
 |zero=>
  intro _ q _
  refine⟨fun g hg s x _ ho=>?_,fun g hg s x _ ho=>?_⟩
  all_goals
   obtain rfl:g=0:=by omega
  ·rw[xQ]at ho;exact absurd rfl ho
  ·rw[bC]at ho;exact absurd rfl ho
 |succ f ih=>
  intro hf q hq
  obtain⟨q,rfl⟩:∃k,q=k+2:=⟨q-2,by omega⟩
  obtain⟨a1,a2⟩:=ih (by omega) (q+2) (by omega)
  obtain⟨b1,b2⟩:=ih (by omega) (q+1) (by omega)
  obtain⟨c1,c2⟩:=ih (by omega) q (by omega)
  refine⟨fun g hg s x h ho=>?_,fun g hg s x h ho=>?_⟩
  ·by_cases e:g≤f
   ·exact a1 g e s x h ho
   ·obtain rfl:g=f+1:=by omega
    exact fw8 hT (by omega) (hq5 hT f (q+1) (by omega)).1 (hq5 hT f q (by omega)).1 c2 h ho
  ·by_cases e:g≤f
   ·exact a2 g e s x h ho
   ·obtain rfl:g=f+1:=by omega
    exact fa9 hT (by omega) (by omega) b1 h ho
end
end Go.Proofs.YtjfkkokeegpeiaaGreatDoor
/- Parameters are read as the plain parser reads them. -/
namespace Go.Proofs.YtjfkkokeegpeiaaGreatDoor
open Go Go.Am Go.Proofs.Lx
set_option maxRecDepth 100000
section
variable (T:Nat→Tkn)
def fI:Nat→PS→PR (List Prm)
 |0,_=>.out
 |f+1,s=>(ga3 T s).bind fun x s1=>if isP T mN s1=true then(fI f (adv s1)).bind fun l s2=>.ok (x::l) s2 else .ok [x] s1
theorem fg9:∀f s,cf6 T f s=(fI T f s).bind fun l s2=>(y7 T jS s2).bind fun _ s3=>.ok l s3
 |0,s=>by rw[cf6,fI];rfl
 |f+1,s=>by
  rw[cf6,fI,PR.bind_assoc]
  congr 1
  funext x s1
  by_cases h:isP T mN s1=true
  ·rw[if_pos h,if_pos h,fg9 f,PR.bind_assoc,PR.bind_assoc]
   congr 1
   funext l s2
   show((y7 T jS s2).bind fun _ s3=>PR.ok l s3).bind _=(y7 T jS s2).bind _
   rw[PR.bind_assoc]
   rfl
  ·rw[if_neg h,if_neg h]
   rfl
end
abbrev PrT:Type:=(Nat→ByteArray)×(Nat→ByteArray)×Nat
def zq(x:StT)(a:PrT):Nat×(Nat→Int)×(Nat→Int)×(Nat→ByteArray)×(Nat→Int)×Int×Int×Nat×Nat×(Nat→ByteArray)×(Nat→ByteArray)×PrT:=(x.2.2.1,x.2.2.2.1,x.2.2.2.2.1,x.2.2.2.2.2.1,x.2.2.2.2.2.2.1,x.1,x.2.1,x.2.2.2.2.2.2.2.1,x.2.2.2.2.2.2.2.2.2.1,x.2.2.2.2.2.2.2.2.1,x.2.2.2.2.2.2.2.2.2.2,a)
def RepQ(l:List Prm)(a:PrT):Prop:=a.2.2=l.length∧∀j m,l[j]? =some m→a.1 j=m.x∧a.2.1 j=m.u
def hw3(x u:ByteArray):PrT:=(fun _=>x,fun _=>u,1)
theorem bf3(x u:ByteArray):RepQ [⟨x,u⟩] (hw3 x u):=by
 refine⟨rfl,fun j m e=>?_⟩
 cases j with
 |zero=>simp only[List.getElem?_cons_zero,Option.some.injEq]at e;subst e;exact⟨rfl,rfl⟩
 |succ j=>simp at e
def gb9(a:PrT)(x u:ByteArray):PrT:=(fun j=>if j<a.2.2 then a.1 j else x,fun j=>if j<a.2.2 then a.2.1 j else u,a.2.2+1)
theorem bf4{l:List Prm}{a:PrT}(h:RepQ l a)(x u:ByteArray):RepQ (l++[⟨x,u⟩]) (gb9 a x u):=by
 refine⟨by simp[gb9,h.1],fun j m e=>?_⟩
 by_cases hj:j<l.length
 ·rw[List.getElem?_append_left hj]at e
  have:=h.2 j m e
  simp only[gb9,h.1,hj,if_true]
  exact this
 ·rw[List.getElem?_append_right (by omega)]at e
  simp only[gb9,h.1,hj,if_false]
  cases hk:j-l.length with
  |zero=>rw[hk]at e;simp only[List.getElem?_cons_zero,Option.some.injEq]at e;subst e;exact⟨rfl,rfl⟩
  |succ n=>rw[hk]at e;simp at e
section
variable {N:Nat} {T:Nat→Tkn} {pr:List ByteArray}
def BQ(N:Nat)(T:Nat→Tkn)(pr:List ByteArray)(acc:List Prm):PR (List Prm)→kL→Prop
 | .ok l s,.inr z=>∃x a,z=zq x a∧RepQ (acc++l) a∧RS N T pr s x
 | .err p c,.inl e=>p<N∧e=((T p).a,c)
 |_,_=>False
def QS(acc:List Prm)(x:StT):aG→Prop
 | .inl y=>acc=[]∧y=z0 x
 | .inr y=>∃a,y=zq x a∧RepQ acc a
theorem gn8{s:PS}{x:StT}(h:RS N T pr (adv s) x):s.p+1<N:=h.choose_spec.choose_spec.2.2.2.1
theorem gc1(hT:TokN N T){q:Nat}(hq:20≤q)(x0:bU):∀(g:Nat),∀(m:Nat),g<m→∀(acc:List Prm) (s:PS) (x:StT) (y:aG),QS acc x y→acc.length+g≤1000000000→RS N T pr s x→fI T g s≠ .out→
 Rs (wE (mK q) (take q) (pA q) (next q) (xB q) (fail q) m x0 y) (BQ N T pr acc (fI T g s)):=by
 intro g
 induction g with
 |zero=>intro m _ acc s x y _ _ _ ho;rw[fI]at ho;exact absurd rfl ho
 |succ g ih=>
  intro m hm acc s x y hy hb h ho
  obtain⟨m,rfl⟩:∃k,m=k+1:=⟨m-1,by omega⟩
  unfold wE
  refine Rs.step3 fun Q hQ=>?_
  have h0:=h
  obtain⟨v,u,rfl,h1,h2,h3,h4,h5,h6⟩:=h
  have hop:fI T (g+1) s=(ga3 T s).bind fun x s1=>if isP T mN s1=true then(fI T g (adv s1)).bind fun l s2=>.ok (x::l) s2 else .ok [x] s1:=by rw[fI]
  have hpp:ga3 T s=(zL T s).bind fun x s1=>if isP T cl8 s1=true then(if(T (s1.p+1)).k≠1 then .err (s1.p+1) 11 else if vW (T (s1.p+1)).t=false then .err (s1.p+1) 10 else .ok ⟨x,(T (s1.p+1)).t⟩ (adv (adv s1)))else .ok ⟨x,⟨#[]⟩⟩ s1:=rfl
  rcases y with y|y
  ·obtain⟨rfl,rfl⟩:=hy
   rw[Sum.elim_inl]
   unfold gU
   dsimp only[z0,zq]
   refine PX.bind (ba5 hT q hq h0) (fun b s1 x1 e1 g1=>?_) (fun p c e hp=>?_)
   ·rw[e1]at hpp
    dsimp only[PR.bind]at hpp⊢
    rw[iK q g1]
    dsimp only[Option.bind_some]
    by_cases hc:isP T cl8 s1=true
    ·rw[if_pos hc]at hpp⊢
     refine Rs.pos rfl ?_
     have g2:=RS.adv hT g1 (u6 (by decide) hc)
     have hl2:s1.p+1<N:=gn8 g2
     rw[gH q g2]
     dsimp only[Option.bind_some]
     refine Rs.bind (bp4 q (T (adv s1).p).t) fun z hz=>?_
     by_cases hk:(T (s1.p+1)).k=1
     ·refine Rs.neg (by simpa[Lx.adv]using hk) ?_
      rw[if_neg (fun h=>h hk)]at hpp
      by_cases hu:vW (T (s1.p+1)).t=false
      ·rw[if_pos hu]at hpp
       rw[hpp]at hop
       refine Rs.pos (by rw[hz];simpa[Lx.adv]using hu) ?_
       rw[fY q g2]
       refine Rs.some ?_
       show BQ N T pr [] (fI T (g+1) s) _
       rw[hop]
       exact⟨hl2,rfl⟩
      ·rw[if_neg hu]at hpp
       rw[hpp]at hop
       dsimp only[PR.bind]at hop
       refine Rs.neg (by rw[hz];simpa[Lx.adv]using hu) ?_
       have g3:=RS.adv hT g2 (.inr (by show(T (s1.p+1)).k≠0;rw[hk];decide))
       dsimp only at g3⊢
       rw[iK q g3]
       dsimp only[Option.bind_some]
       by_cases hi:isP T mN (adv (adv s1))=true
       ·rw[if_pos hi]at hop⊢
        refine Rs.neg (by simp) (Rs.some (hQ _ ?_))
        have ho2:=PR.bind_out (hop▸ho)
        refine(ih m (by omega) ([]++[⟨b,(T (s1.p+1)).t⟩]) (adv (adv (adv s1))) _ (.inr (zq (w ((w (w (x1.1+1)+1),x1.2).1+1),(w (w (x1.1+1)+1),x1.2).2) (hw3 b (T (s1.p+1)).t))) ⟨_,rfl,(bf3 b (T (s1.p+1)).t)⟩ (by simp at hb⊢;omega) (RS.adv hT g3 (u6 (by decide) hi)) ho2).mono fun z hz=>?_
        rw[hop]
        cases hr2:fI T g (adv (adv (adv s1)))with
        |out=>exact absurd hr2 ho2
        |err p c=>rw[hr2]at hz;rcases z with z|z<;>exact hz
        |ok l s3=>
         rw[hr2]at hz
         rcases z with z|z
         ·exact hz.elim
         ·obtain⟨x2,a2,e1,e2,e3⟩:=hz
          exact⟨x2,a2,e1,by simpa using e2,e3⟩
       ·rw[if_neg hi]at hop⊢
        refine Rs.pos (by simp) (Rs.some ?_)
        show BQ N T pr [] (fI T (g+1) s) _
        rw[hop]
        exact⟨_,_,rfl,(bf3 b (T (s1.p+1)).t),g3⟩
     ·rw[if_pos hk]at hpp
      rw[hpp]at hop
      refine Rs.pos (by simpa[Lx.adv]using hk) ?_
      rw[fY q g2]
      refine Rs.some ?_
      show BQ N T pr [] (fI T (g+1) s) _
      rw[hop]
      exact⟨hl2,rfl⟩
    ·rw[if_neg hc]at hpp⊢
     rw[hpp]at hop
     dsimp only[PR.bind]at hop
     refine Rs.neg (by simp) ?_
     dsimp only
     rw[iK q g1]
     dsimp only[Option.bind_some]
     by_cases hi:isP T mN s1=true
     ·rw[if_pos hi]at hop⊢
      refine Rs.neg (by simp) (Rs.some (hQ _ ?_))
      have ho2:=PR.bind_out (hop▸ho)
      refine(ih m (by omega) ([]++[⟨b,⟨#[]⟩⟩]) (adv s1) _ (.inr (zq (w (x1.1+1),x1.2) (hw3 b ⟨#[]⟩))) ⟨_,rfl,(bf3 b ⟨#[]⟩)⟩ (by simp at hb⊢;omega) (RS.adv hT g1 (u6 (by decide) hi)) ho2).mono fun z hz=>?_
      rw[hop]
      cases hr2:fI T g (adv s1)with
      |out=>exact absurd hr2 ho2
      |err p c=>rw[hr2]at hz;rcases z with z|z<;>exact hz
      |ok l s3=>
       rw[hr2]at hz
       rcases z with z|z
       ·exact hz.elim
       ·obtain⟨x2,a2,e1,e2,e3⟩:=hz
        exact⟨x2,a2,e1,by simpa using e2,e3⟩
     ·rw[if_neg hi]at hop⊢
      refine Rs.pos (by simp) (Rs.some ?_)
      show BQ N T pr [] (fI T (g+1) s) _
      rw[hop]
      exact⟨_,_,rfl,(bf3 b ⟨#[]⟩),g1⟩
   ·rw[e]at hpp
    rw[hpp]at hop
    refine Rs.some ?_
    show BQ N T pr [] (fI T (g+1) s) _
    rw[hop]
    exact⟨hp,rfl⟩
  ·obtain⟨a,rfl,ha⟩:=hy
   have hal:=ha.1
   rw[Sum.elim_inr]
   unfold gS
   dsimp only[z0,zq]
   refine PX.bind (ba5 hT q hq h0) (fun b s1 x1 e1 g1=>?_) (fun p c e hp=>?_)
   ·rw[e1]at hpp
    dsimp only[PR.bind]at hpp⊢
    rw[iK q g1]
    dsimp only[Option.bind_some]
    by_cases hc:isP T cl8 s1=true
    ·rw[if_pos hc]at hpp⊢
     refine Rs.pos rfl ?_
     have g2:=RS.adv hT g1 (u6 (by decide) hc)
     have hl2:s1.p+1<N:=gn8 g2
     rw[gH q g2]
     dsimp only[Option.bind_some]
     refine Rs.bind (bp4 q (T (adv s1).p).t) fun z hz=>?_
     by_cases hk:(T (s1.p+1)).k=1
     ·refine Rs.neg (by simpa[Lx.adv]using hk) ?_
      rw[if_neg (fun h=>h hk)]at hpp
      by_cases hu:vW (T (s1.p+1)).t=false
      ·rw[if_pos hu]at hpp
       rw[hpp]at hop
       refine Rs.pos (by rw[hz];simpa[Lx.adv]using hu) ?_
       rw[fY q g2]
       refine Rs.some ?_
       show BQ N T pr acc (fI T (g+1) s) _
       rw[hop]
       exact⟨hl2,rfl⟩
      ·rw[if_neg hu]at hpp
       rw[hpp]at hop
       dsimp only[PR.bind]at hop
       refine Rs.neg (by rw[hz];simpa[Lx.adv]using hu) ?_
       have g3:=RS.adv hT g2 (.inr (by show(T (s1.p+1)).k≠0;rw[hk];decide))
       dsimp only at g3⊢
       refine Rs.pos ⟨by unfold d5;omega,by unfold maxLen;omega,Nat.le_refl _⟩ ?_
       rw[iK q g3]
       dsimp only[Option.bind_some]
       by_cases hi:isP T mN (adv (adv s1))=true
       ·rw[if_pos hi]at hop⊢
        refine Rs.neg (by simp) (Rs.some (hQ _ ?_))
        have ho2:=PR.bind_out (hop▸ho)
        refine(ih m (by omega) (acc++[⟨b,(T (s1.p+1)).t⟩]) (adv (adv (adv s1))) _ (.inr (zq (w ((w (w (x1.1+1)+1),x1.2).1+1),(w (w (x1.1+1)+1),x1.2).2) (gb9 a b (T (s1.p+1)).t))) ⟨_,rfl,(bf4 ha b (T (s1.p+1)).t)⟩ (by simp at hb⊢;omega) (RS.adv hT g3 (u6 (by decide) hi)) ho2).mono fun z hz=>?_
        rw[hop]
        cases hr2:fI T g (adv (adv (adv s1)))with
        |out=>exact absurd hr2 ho2
        |err p c=>rw[hr2]at hz;rcases z with z|z<;>exact hz
        |ok l s3=>
         rw[hr2]at hz
         rcases z with z|z
         ·exact hz.elim
         ·obtain⟨x2,a2,e1,e2,e3⟩:=hz
          exact⟨x2,a2,e1,by simpa using e2,e3⟩
       ·rw[if_neg hi]at hop⊢
        refine Rs.pos (by simp) (Rs.some ?_)
        show BQ N T pr acc (fI T (g+1) s) _
        rw[hop]
        exact⟨_,_,rfl,(bf4 ha b (T (s1.p+1)).t),g3⟩
     ·rw[if_pos hk]at hpp
      rw[hpp]at hop
      refine Rs.pos (by simpa[Lx.adv]using hk) ?_
      rw[fY q g2]
      refine Rs.some ?_
      show BQ N T pr acc (fI T (g+1) s) _
      rw[hop]
      exact⟨hl2,rfl⟩
    ·rw[if_neg hc]at hpp⊢
     rw[hpp]at hop
     dsimp only[PR.bind]at hop
     refine Rs.neg (by simp) ?_
     dsimp only
     refine Rs.pos ⟨by unfold d5;omega,by unfold maxLen;omega,Nat.le_refl _⟩ ?_
     rw[iK q g1]
     dsimp only[Option.bind_some]
     by_cases hi:isP T mN s1=true
     ·rw[if_pos hi]at hop⊢
      refine Rs.neg (by simp) (Rs.some (hQ _ ?_))
      have ho2:=PR.bind_out (hop▸ho)
      refine(ih m (by omega) (acc++[⟨b,⟨#[]⟩⟩]) (adv s1) _ (.inr (zq (w (x1.1+1),x1.2) (gb9 a b ⟨#[]⟩))) ⟨_,rfl,(bf4 ha b ⟨#[]⟩)⟩ (by simp at hb⊢;omega) (RS.adv hT g1 (u6 (by decide) hi)) ho2).mono fun z hz=>?_
      rw[hop]
      cases hr2:fI T g (adv s1)with
      |out=>exact absurd hr2 ho2
      |err p c=>rw[hr2]at hz;rcases z with z|z<;>exact hz
      |ok l s3=>
       rw[hr2]at hz
       rcases z with z|z
       ·exact hz.elim
       ·obtain⟨x2,a2,e1,e2,e3⟩:=hz
        exact⟨x2,a2,e1,by simpa using e2,e3⟩
     ·rw[if_neg hi]at hop⊢
      refine Rs.pos (by simp) (Rs.some ?_)
      show BQ N T pr acc (fI T (g+1) s) _
      rw[hop]
      exact⟨_,_,rfl,(bf4 ha b ⟨#[]⟩),g1⟩
   ·rw[e]at hpp
    rw[hpp]at hop
    refine Rs.some ?_
    show BQ N T pr acc (fI T (g+1) s) _
    rw[hop]
    exact⟨hp,rfl⟩
end
end Go.Proofs.YtjfkkokeegpeiaaGreatDoor
/- Procedures are read as the plain parser reads them. -/
namespace Go.Proofs.YtjfkkokeegpeiaaGreatDoor
open Go Go.Am Go.Proofs.Lx
set_option maxRecDepth 100000
section
variable {N:Nat} {T:Nat→Tkn} {pr:List ByteArray} {s:PS} {x:StT}
def PPm(N:Nat)(T:Nat→Tkn)(pr:List ByteArray):PR (List Prm)→(Nat×(Nat→ByteArray)×(Nat→ByteArray)×StT)⊕(Int×Int)→Prop
 | .ok l s,.inl z=>RepQ l (z.2.1,z.2.2.1,z.1)∧RS N T pr s z.2.2.2
 | .err p c,.inr e=>p<N∧e=((T p).a,c)
 |_,_=>False
theorem fb4(hT:TokN N T){f q:Nat}(hq:20≤q)(hf:f<q)(hf2:f≤1000000000)(h:RS N T pr s x)(ho:mC T f s≠ .out):Rs (cd5 q x) (fun y=>PPm N T pr (mC T f s) (at2 y)):=by
 unfold cd5 uQ
 have hop:mC T f s=(y7 T nG s).bind fun _ s1=>if isP T jS s1=true then .ok [] (adv s1)else(fI T f s1).bind fun l s2=>(y7 T jS s2).bind fun _ s3=>.ok l s3:=by
  unfold mC
  simp only[fg9]
 refine PU.bind (rR hT q h nG (by decide)) (fun s1 x1 e1 g1=>?_) (fun p c e hp=>?_)
 ·rw[e1]at hop
  dsimp only[PR.bind]at hop
  rw[iK q g1]
  dsimp only[Option.bind_some]
  by_cases hi:isP T jS s1=true
  ·rw[if_pos hi]at hop⊢
   refine Rs.pos rfl ?_
   rw[hop]
   exact Rs.some ⟨⟨rfl,fun j m e=>by simp at e⟩,g1.adv hT (u6 (by decide) hi)⟩
  ·rw[if_neg hi]at hop⊢
   refine Rs.neg (by simp) ?_
   have ho2:=PR.bind_out (hop▸ho)
   refine Rs.bind (gc1 hT hq x f q hf [] s1 x1 (.inl (z0 x1)) ⟨rfl,rfl⟩ (by simpa using hf2) g1 ho2) fun z hz=>?_
   cases hr2:fI T f s1 with
   |out=>exact absurd hr2 ho2
   |err p c=>
    rw[hr2]at hz hop
    rcases z with z|z
    ·rw[hop];exact Rs.some hz
    ·exact hz.elim
   |ok l s2=>
    rw[hr2]at hz hop
    dsimp only[PR.bind]at hop
    rcases z with z|z
    ·exact hz.elim
    ·obtain⟨x2,a,rfl,ha,g3⟩:=hz
     refine PU.bind (rR hT q g3 jS (by decide)) (fun s3 x3 e g4=>?_) (fun p c e hp=>?_)
     ·rw[hop,e]
      exact Rs.some ⟨ha,g4⟩
     ·(rw[hop,e];exact Rs.some ⟨hp,rfl⟩)
 ·(rw[hop,e];exact Rs.some ⟨hp,rfl⟩)
theorem ft3(hT:TokN N T){f q:Nat}(hq:20≤q)(hf:f<q)(hf2:f≤1000000000){u:Nat→ByteArray}(hu:Ag u pr)(hp:s.p<N)(ho4:s.o≤12)(hl:pr.length≤2000000000)(ho:mC T f {s with vs:=[]}≠ .out):
 Rs (params q (((s.p:Nat):Int),((s.o:Nat):Int),N,(fun j=>(T j).k),(fun j=>(T j).a),(fun j=>(T j).t),(fun j=>(T j).n),pr.length,u)) (PPm N T pr (mC T f {s with vs:=[]})):=by
 unfold params
 refine Rs.map (P:=fun y=>PPm N T pr (mC T f {s with vs:=[]}) (at2 y)) ?_ fun z hz=>hz
 exact fb4 hT hq hf hf2 (s:={s with vs:=[]}) ⟨fun _=>ByteArray.empty,u,rfl,fun j b e=>by simp at e,hu,hp,ho4,by simp,hl⟩ ho
def ia4(c:Prc)(z:ByteArray×Nat×(Nat→ByteArray)×(Nat→ByteArray)×n4):Prop:=z.1=c.x∧RepQ c.ps (z.2.2.1,z.2.2.2.1,z.2.1)∧RepN c.b z.2.2.2.2
def PC(N:Nat)(T:Nat→Tkn)(pr:List ByteArray):PR Prc→t6→Prop
 | .ok c s,.inl z=>ia4 c (z.1,z.2.1,z.2.2.1,z.2.2.2.1,z.2.2.2.2.1,z.2.2.2.2.2.1,z.2.2.2.2.2.2.1,z.2.2.2.2.2.2.2.1,z.2.2.2.2.2.2.2.2.1)∧RS N T (pr++[c.x]) s z.2.2.2.2.2.2.2.2.2
 | .err p c,.inr e=>p<N∧e=((T p).a,c)
 |_,_=>False
theorem et7(q:Nat)(x0:m7)(a:ByteArray){v u:Nat→ByteArray}(h1:Ag v s.vs)(h2:Ag u pr)(h3:s.p<N)(hN:N≤4001)(h4:s.o≤12)(h5:s.vs.length≤12)(h6:pr.length≤2000000000):
 ∀(n i m:Nat),i+n=pr.length→n<m→(∀j,j<i→pr[j]? ≠some a)→
 Rs (lpG (fun y=>aP (mK q) (name q) (fail q) (params q) (block q) x0 y (fun y=>some (.inl y)) (fun z=>some (.inr z))) m (pr.length,((pr.length:Nat):Int),N,(fun j=>(T j).k),(fun j=>(T j).a),(fun j=>(T j).t),(fun j=>(T j).n),(((s.p+1:Nat):Nat):Int),((s.o:Nat):Int),s.vs.length,v,u,a,((i:Nat):Int)))
  (fun z=>if inP pr a=true then z= .inl ((T s.p).a,4)else z= .inr (N,(fun j=>(T j).k),(fun j=>(T j).a),(fun j=>(T j).t),(fun j=>(T j).n),(((s.p+1:Nat):Nat):Int),((s.o:Nat):Int),s.vs.length,pr.length,v,u,a)):=by
 intro n
 induction n with
 |zero=>
  intro i m hi hm hno
  obtain⟨m,rfl⟩:∃k,m=k+1:=⟨m-1,by omega⟩
  refine Rs.step ?_
  unfold aP
  dsimp only
  refine Rs.neg (by simp;omega) (Rs.some ?_)
  have hnin:¬inP pr a=true:=by
   rw[inP_iff,List.mem_iff_getElem?]
   rintro⟨j,hj⟩
   have:=(List.getElem?_eq_some_iff.1 hj).1
   exact hno j (by omega) hj
  show(if inP pr a=true then _ else _)
  rw[if_neg hnin]
 |succ n ih=>
  intro i m hi hm hno
  obtain⟨m,rfl⟩:∃k,m=k+1:=⟨m-1,by omega⟩
  refine Rs.step ?_
  unfold aP
  dsimp only
  refine Rs.pos (by simp;omega) (Rs.pos ⟨by omega,by omega⟩ (Rs.pos ⟨by simp;omega,rfl⟩ ?_))
  have hget:pr[i]? =some (u i):=by
   have hlt:i<pr.length:=by omega
   have:=List.getElem?_eq_getElem hlt
   rw[this,h2 i _ this]
  have e:0+Int.toNat ((i:Nat):Int)=i:=by omega
  rw[e]
  refine Rs.ite (fun heq=>?_) (fun hne=>?_)
  ·rw[tl_eq]at heq
   have hin:inP pr a=true:=by
    rw[inP_iff,←heq]
    exact List.mem_iff_getElem?.2 ⟨i,hget⟩
   have e2:w ((((s.p+1:Nat):Nat):Int)-1)=((s.p:Nat):Int):=by rw[xR (by omega) (by omega)];omega
   rw[e2,fY q (s:=s) (pr:=pr) (N:=N) (T:=T) ⟨v,u,rfl,h1,h2,h3,h4,h5,h6⟩]
   refine Rs.some ?_
   show(if inP pr a=true then _ else _)
   rw[if_pos hin]
  ·rw[tl_eq]at hne
   refine Rs.some ?_
   show Rs (lpG _ m _) _
   rw[s9 (by omega)]
   refine ih (i+1) m (by omega) (by omega) fun j hj=>?_
   by_cases hji:j=i
   ·subst hji
    rw[hget]
    simpa using hne
   ·exact hno j (by omega)
theorem tR(hT:TokN N T){f q:Nat}(hq:2*f+2000000100≤q)(hf2:f≤1000000000)(h:RS N T pr s x)(hl:pr.length≤1999999999)(ho:aj7 T f pr s≠ .out):Rs (y9 q x) (PC N T pr (aj7 T f pr s)):=by
 unfold y9 nP
 have hop:aj7 T f pr s=(y7 T w_procedure s).bind fun _ s1=>(fD T s1).bind fun x s2=>if inP pr x=true then .err s1.p 4 else(mC T f {s2 with vs:=[]}).bind fun l s3=>(bC T f s3).bind fun b s4=>.ok ⟨x,l,b⟩ s4:=rfl
 refine PU.bind (rR hT q h w_procedure (by decide)) (fun s1 x1 e1 g1=>?_) (fun p c e hp=>?_)
 ·rw[e1]at hop
  dsimp only[PR.bind]at hop
  refine PX.bind (bm4 hT q g1) (fun a s2 x2 e2 g2=>?_) (fun p c e hp=>?_)
  ·obtain⟨rfl,rfl,hk,hr⟩:=ed5 e2
   rw[e2]at hop
   dsimp only[PR.bind]at hop
   obtain⟨v,u,rfl,h1,h2,h3,h4,h5,h6⟩:=g2
   have hsp:=g1.lt
   have hN:=hT.big
   unfold uC
   refine Rs.bind (et7 (s:=s1) (pr:=pr) q x _ h1 h2 hsp hN h4 h5 h6 pr.length 0 q (by omega) (by omega) (fun j hj=>absurd hj (Nat.not_lt_zero j))) fun z hz=>?_
   by_cases hin:inP pr (T s1.p).t=true
   ·rw[if_pos hin]at hz hop
    subst hz
    rw[hop]
    exact Rs.some ⟨hsp,rfl⟩
   ·rw[if_neg hin]at hz hop
    subst hz
    dsimp only[Sum.elim_inr,Sum.elim_inl]
    refine Rs.pos ⟨by unfold d5;omega,by unfold maxLen;omega,Nat.le_refl _⟩ ?_
    have hl2:(pr++[(T s1.p).t]).length=pr.length+1:=by simp
    have hpar:=ft3 (s:=adv s1) (pr:=pr++[(T s1.p).t]) hT (by omega:20≤q) (by omega:f<q) hf2 (h2.push (x:=(T s1.p).t)) h3 h4 (by omega) (PR.bind_out (hop▸ho))
    rw[hl2]at hpar
    refine Rs.bind hpar fun z hz2=>?_
    cases hr3:mC T f {adv s1 with vs:=[]}with
    |out=>rw[hr3]at hz2;rcases z with z|z<;>exact hz2.elim
    |err p c=>
     rw[hr3]at hz2 hop
     rcases z with z|z
     ·exact hz2.elim
     ·rw[hop];exact Rs.some hz2
    |ok l s3=>
     rw[hr3]at hz2 hop
     dsimp only[PR.bind]at hop
     rcases z with z|z
     ·obtain⟨z1,z2,z3,x3⟩:=z
      obtain⟨k1,k2⟩:=hz2
      dsimp only[Sum.elim_inl]at k1 k2⊢
      refine PN.bind ((if4 hT f hf2 q (by omega)).2 f (Nat.le_refl _) s3 x3 k2 (PR.bind_out (hop▸ho))) (fun t s4 k n b m c x4 e hr hx=>?_) (fun p c e hp=>?_)
      ·rw[hop,e]
       exact Rs.some ⟨⟨rfl,k1,hr⟩,hx⟩
      ·(rw[hop,e];exact Rs.some ⟨hp,rfl⟩)
     ·exact hz2.elim
  ·(rw[hop,e];exact Rs.some ⟨hp,rfl⟩)
 ·(rw[hop,e];exact Rs.some ⟨hp,rfl⟩)
end
end Go.Proofs.YtjfkkokeegpeiaaGreatDoor

