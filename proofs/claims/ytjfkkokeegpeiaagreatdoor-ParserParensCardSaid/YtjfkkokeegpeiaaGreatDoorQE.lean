/- Texts joined. -/
import Derived.Test.YtjfkkokeegpeiaaGreatDoorQD
import Derived.Lib.IndexMore
/- Plain: what a token's text is. -/
set_option linter.unusedSimpArgs false
set_option linter.unusedVariables false
namespace Go.Proofs.Lx
open Go
theorem spanL_le(g:Int→Bool)(l:List UInt8):spanL g l≤l.length:=(List.takeWhile_sublist _).length_le
theorem spanL_get(g:Int→Bool)(l:List UInt8):∀j,j<spanL g l→∃b,l[j]? =some b∧g b.toNat=true:=by
 induction l with
 |nil=>intro j h;simp[spanL]at h
 |cons b l ih=>
  intro j h
  cases hb:g b.toNat
  ·simp[spanL,List.takeWhile_cons,hb]at h
  ·cases j with
   |zero=>exact⟨b,rfl,hb⟩
   |succ j=>
    have:j<spanL g l:=by
     simp only[spanL,List.takeWhile_cons,hb,if_true,List.length_cons]at h⊢
     omega
    obtain⟨c,h1,h2⟩:=ih j this
    exact⟨c,by simpa using h1,h2⟩
theorem spanL_pos(g:Int→Bool)(b:UInt8)(l:List UInt8)(h:g b.toNat=true):1≤spanL g (b::l):=by
 simp[spanL,List.takeWhile_cons,h]
theorem ext_list(s:ByteArray)(p:Nat)(h:p≤s.size):(s.extract p s.size).data.toList=s.data.toList.drop p:=by
 rw[extract_list,List.take_of_length_le (by simp)]
theorem ext_size(s:ByteArray)(p:Nat):(s.extract p s.size).size=s.size-p:=by simp
theorem ba_ext{a b:ByteArray}(h:a.data.toList=b.data.toList):a=b:=by
 obtain⟨⟨a⟩⟩:=a
 obtain⟨⟨b⟩⟩:=b
 simp only at h
 rw[h]
theorem ext_ext(s:ByteArray)(p n:Nat)(h:p+n≤s.size):(s.extract p s.size).extract 0 n=s.extract p (p+n):=by
 have e:((s.extract p s.size).extract 0 n).data.toList=(s.extract p (p+n)).data.toList:=by
  rw[extract_list,extract_list,extract_list,List.drop_zero,Nat.sub_zero,List.take_take,Nat.min_eq_left (by omega),Nat.add_sub_cancel_left]
 exact ba_ext e
theorem get_of(s:ByteArray)(j:Nat)(b:UInt8)(h:s.data.toList[j]? =some b):j<s.size∧s.get! j=b:=by
 have hl:j<s.size:=by
  rw[List.getElem?_eq_some_iff]at h
  obtain⟨h,_⟩:=h
  simpa using h
 rw[get_list s j hl]at h
 exact⟨hl,by injection h⟩
theorem letter_lt(c:Int)(h:wordI c=true):c<128:=by simp[wordI,letterI,digitI]at h;omega
theorem digit_lt(c:Int)(h:digitI c=true):c<128:=by simp[digitI]at h;omega
theorem seg_ok{s:ByteArray}{p:Nat}(g:Int→Bool)(hg:∀c,g c=true→c<128)(hp:p<s.size)(h0:g (s.get! p).toNat=true):
 1≤spanL g (s.data.toList.drop p)∧p+spanL g (s.data.toList.drop p)≤s.size∧∀j,p≤j→j<p+spanL g (s.data.toList.drop p)→(s.get! j).toNat<128:=by
 refine⟨?_,?_,?_⟩
 ·rw[drop_get s p hp];exact spanL_pos g _ _ h0
 ·have:=spanL_le g (s.data.toList.drop p)
  simp at this
  omega
 ·intro j h1 h2
  obtain⟨b,hb,hgb⟩:=spanL_get g (s.data.toList.drop p) (j-p) (by omega)
  rw[List.getElem?_drop,show p+(j-p)=j by omega]at hb
  rw[(get_of s j b hb).2]
  have:=hg _ hgb
  omega
theorem sym_ok{s:ByteArray}{p:Nat}(hp:p<s.size)(hn:symN (s.data.toList.drop p)≠0):
 1≤symN (s.data.toList.drop p)∧p+symN (s.data.toList.drop p)≤s.size∧∀j,p≤j→j<p+symN (s.data.toList.drop p)→(s.get! j).toNat<128:=by
 unfold symN at hn⊢
 by_cases h2:1< (s.data.toList.drop p).length∧(s.data.toList.drop p).take 2∈sym2
 ·rw[if_pos h2]
  obtain⟨hl,hm⟩:=h2
  have hl':p+2≤s.size:=by simp at hl;omega
  refine⟨by omega,hl',fun j h1 h2=>?_⟩
  rw[drop_get s p hp,drop_get s (p+1) (by omega)]at hm
  simp only[List.take_succ_cons,List.take_zero,sym2,List.mem_cons,List.cons.injEq,and_true,List.not_mem_nil,or_false]at hm
  have hj:j=p∨j=p+1:=by omega
  rcases hj with rfl|rfl<;>rcases hm with h|h|h|h|h|h<;>simp[h.1,h.2]
 ·rw[if_neg h2]at hn⊢
  rw[drop_get s p hp]at hn⊢
  simp only[List.head?_cons,Option.any_some]at hn⊢
  cases hc:sym1.contains (s.get! p)
  ·rw[hc]at hn;exact absurd rfl hn
  ·simp only[cond_true]
   refine⟨by omega,by omega,fun j h1 h2=>?_⟩
   obtain rfl:j=p:=by omega
   have hm:=List.contains_iff_mem.1 hc
   simp only[sym1,List.mem_cons,List.not_mem_nil,or_false]at hm
   rcases hm with h|h|h|h|h|h|h|h|h|h|h|h|h|h|h|h<;>simp[h]
theorem tokP_ok{s:ByteArray}{p:Nat}{x:Tkn}(hp:p<s.size)(h:tokP s p=(x,0)):
 x.a=0∧1≤x.t.size∧p+x.t.size≤s.size∧x.t=s.extract p (p+x.t.size)∧∀j,p≤j→j<p+x.t.size→(s.get! j).toNat<128:=by
 have hsz:∀n,p+n≤s.size→(s.extract p (p+n)).size=n:=fun n hn=>by simp;omega
 have fin:∀n,1≤n→p+n≤s.size→(∀j,p≤j→j<p+n→(s.get! j).toNat<128)→∀y:Tkn,y.a=0→y.t=(s.extract p s.size).extract 0 n→
  y.a=0∧1≤y.t.size∧p+y.t.size≤s.size∧y.t=s.extract p (p+y.t.size)∧∀j,p≤j→j<p+y.t.size→(s.get! j).toNat<128:=by
  intro n h1 h2 h3 y ha hy
  rw[ext_ext s p n h2]at hy
  rw[hy,hsz n h2]
  exact⟨ha,h1,h2,rfl,h3⟩
 unfold tokP at h
 by_cases hl:letterI (s.get! p).toNat=true
 ·rw[if_pos hl]at h
  unfold wordP at h
  by_cases h12:12<spanL wordI (s.extract p s.size).data.toList
  ·rw[if_pos h12]at h;simp at h
  ·rw[if_neg h12,ext_list s p (by omega)]at h
   have hw:wordI (s.get! p).toNat=true:=by simp[wordI,hl]
   obtain⟨h1,h2,h3⟩:=seg_ok wordI letter_lt hp hw
   simp only[Prod.mk.injEq,and_true]at h
   subst h
   exact fin _ h1 h2 h3 _ rfl rfl
 ·rw[if_neg hl]at h
  by_cases hd:digitI (s.get! p).toNat=true
  ·rw[if_pos hd,ext_list s p (by omega)]at h
   obtain⟨h1,h2,h3⟩:=seg_ok digitI digit_lt hp hd
   unfold numberP at h
   split at h
   ·simp at h
   ·split at h
    ·simp at h
    ·simp only[Prod.mk.injEq,and_true]at h
     subst h
     exact fin _ h1 h2 h3 _ rfl rfl
  ·rw[if_neg hd]at h
   unfold symbolP at h
   rw[ext_list s p (by omega)]at h
   by_cases h0:symN (s.data.toList.drop p)=0
   ·rw[if_pos h0]at h;simp at h
   ·rw[if_neg h0]at h
    obtain⟨h1,h2,h3⟩:=sym_ok hp h0
    simp only[Prod.mk.injEq,and_true]at h
    subst h
    exact fin _ h1 h2 h3 _ rfl rfl
theorem hash_ok {s : ByteArray} {p : Nat} (hp : p < s.size) (h : (s.get! p).toNat = 35) :
 1 ≤ spanL ne10 (s.data.toList.drop p) ∧ p + spanL ne10 (s.data.toList.drop p) ≤ s.size ∧ Bd s p (p + spanL ne10 (s.data.toList.drop p)) := by
 have h1 : 1 ≤ spanL ne10 (s.data.toList.drop p) := by rw [drop_get s p hp]; exact spanL_pos _ _ _ (by rw [h]; rfl)
 have h2 : p + spanL ne10 (s.data.toList.drop p) ≤ s.size := by
  have := spanL_le ne10 (s.data.toList.drop p)
  simp at this
  omega
 refine ⟨h1, h2, ?_⟩
 rcases Nat.eq_or_lt_of_le h2 with he | hlt
 ·exact .inr (.inl he)
 ·right; right
  refine ⟨hlt, ?_⟩
  -- the byte behind the span is a line feed
  have key : ∀ (l : List UInt8), spanL ne10 l < l.length → l[spanL ne10 l]? = some 10 := by
   intro l
   induction l with
   | nil => intro h; simp at h
   | cons b l ih =>
    intro h
    cases hb : ne10 b.toNat
    ·have : b.toNat = 10 := by simp [ne10] at hb; omega
     have hb10 : b = 10 := UInt8.toNat_inj.1 (by simpa using this)
     simp [spanL, hb10, ne10]
    ·have e : spanL ne10 (b :: l) = spanL ne10 l + 1 := by simp [spanL, List.takeWhile_cons, hb]
     rw [e] at h ⊢
     simpa using ih (by simpa using h)
  have := key (s.data.toList.drop p) (by simp; omega)
  rw [List.getElem?_drop] at this
  rw [(get_of s _ _ this).2]
  decide
end Go.Proofs.Lx
/- Plain: Lex is a function; it is reckoned. -/
namespace Go.Proofs.Lx
open Go
theorem lex_det{s:ByteArray}{p:Nat}{acc:List Tkn}{r r':List Tkn×Nat×Int}(h:Lex s p acc r):Lex s p acc r'→r=r':=by
 induction h with
 |fin hp=>intro h';cases h'<;>first|rfl|omega
 |white hp hw _ ih=>
  intro h'
  cases h' with
  |fin h=>omega
  |white _ _ h=>exact ih h
  |hash _ h35 _=>rw[h35]at hw;exact absurd hw (by decide)
  |tok _ h _ _ _=>rw[hw]at h;cases h
  |err _ h _ _ _=>rw[hw]at h;cases h
 |hash hp h35 _ ih=>
  intro h'
  cases h' with
  |fin h=>omega
  |white _ hw _=>rw[h35]at hw;exact absurd hw (by decide)
  |hash _ _ h=>exact ih h
  |tok _ _ h _ _=>exact absurd h35 h
  |err _ _ h _ _=>exact absurd h35 h
 |tok hp hw h35 ht _ ih=>
  intro h'
  cases h' with
  |fin h=>omega
  |white _ h _=>rw[hw]at h;cases h
  |hash _ h _=>exact absurd h h35
  |tok _ _ _ h h2=>
   rw[ht]at h
   simp only[Prod.mk.injEq,and_true]at h
   subst h
   exact ih h2
  |err _ _ _ h he=>
   rw[ht]at h
   simp only[Prod.mk.injEq]at h
   exact absurd h.2.symm he
 |err hp hw h35 ht he=>
  intro h'
  cases h' with
  |fin h=>omega
  |white _ h _=>rw[hw]at h;cases h
  |hash _ h _=>exact absurd h h35
  |tok _ _ _ h _=>
   rw[ht]at h
   simp only[Prod.mk.injEq]at h
   exact absurd h.2 he
  |err _ _ _ h _=>
   rw[ht]at h
   simp only[Prod.mk.injEq]at h
   rw[h.2]
def lexF(s:ByteArray):Nat→Nat→List Tkn→Option (List Tkn×Nat×Int)
 |0,_,_=>none
 |f+1,p,acc=>
  if p<s.size then
   if whiteI (s.get! p).toNat=true then lexF s f (p+1) acc
   else if(s.get! p).toNat=35 then lexF s f (p+spanL ne10 (s.data.toList.drop p)) acc
   else if(tokP s p).2=0 then lexF s f (p+(tokP s p).1.t.size) (acc++[{(tokP s p).1 with a:=p}])
   else some ([],p,(tokP s p).2)
  else some (acc++[⟨0,s.size,⟨#[]⟩,0⟩],0,0)
theorem lexF_ok{s:ByteArray}:∀(f p:Nat) (acc:List Tkn) (r:List Tkn×Nat×Int),lexF s f p acc=some r→Lex s p acc r:=by
 intro f
 induction f with
 |zero=>intro p acc r h;simp[lexF]at h
 |succ f ih=>
  intro p acc r h
  rw[lexF]at h
  by_cases hp:p<s.size
  ·rw[if_pos hp]at h
   by_cases hw:whiteI (s.get! p).toNat=true
   ·rw[if_pos hw]at h;exact .white hp hw (ih _ _ _ h)
   ·rw[if_neg hw]at h
    have hw':whiteI (s.get! p).toNat=false:=by simpa using hw
    by_cases h35:(s.get! p).toNat=35
    ·rw[if_pos h35]at h;exact .hash hp h35 (ih _ _ _ h)
    ·rw[if_neg h35]at h
     by_cases ht:(tokP s p).2=0
     ·rw[if_pos ht]at h;exact .tok (x:=(tokP s p).1) hp hw' h35 (Prod.ext rfl ht) (ih _ _ _ h)
     ·rw[if_neg ht,Option.some.injEq]at h
      subst h
      exact .err (x:=(tokP s p).1) hp hw' h35 rfl ht
  ·rw[if_neg hp,Option.some.injEq]at h
   subst h
   exact .fin (by omega)
def TokensR(s:ByteArray)(r:List Tkn×Nat×Int):Prop:=(4000<s.size∧r=([],4000,2))∨(s.size≤4000∧Lex s 0 [] r)
theorem tokR_det{s:ByteArray}{r r':List Tkn×Nat×Int}(h:TokensR s r)(h':TokensR s r'):r=r':=by
 rcases h with⟨h1,rfl⟩ | ⟨h1,h2⟩<;>rcases h' with⟨h3,rfl⟩ | ⟨h3,h4⟩
 ·rfl
 ·omega
 ·omega
 ·exact lex_det h2 h4
def ex1:List Tkn:=[⟨1,0,⟨#[120]⟩,0⟩,⟨3,1,⟨#[60,61]⟩,0⟩,⟨2,3,⟨#[49,48]⟩,10⟩,⟨0,9,⟨#[]⟩,0⟩]
end Go.Proofs.Lx
/- Plain: the parser, as a function of tokens. -/
namespace Go.Proofs.Lx
open Go
abbrev sOr:ByteArray:=⟨#[124,124]⟩
abbrev sAnd:ByteArray:=⟨#[38,38]⟩
abbrev sLt:ByteArray:=⟨#[60]⟩
abbrev sLe:ByteArray:=⟨#[60,61]⟩
abbrev sGt:ByteArray:=⟨#[62]⟩
abbrev sGe:ByteArray:=⟨#[62,61]⟩
abbrev sEq:ByteArray:=⟨#[61,61]⟩
abbrev sNe:ByteArray:=⟨#[33,61]⟩
abbrev sAdd:ByteArray:=⟨#[43]⟩
abbrev sSub:ByteArray:=⟨#[45]⟩
abbrev sMul:ByteArray:=⟨#[42]⟩
abbrev sDiv:ByteArray:=⟨#[47]⟩
abbrev sNot:ByteArray:=⟨#[33]⟩
abbrev sLPar:ByteArray:=⟨#[40]⟩
abbrev sRPar:ByteArray:=⟨#[41]⟩
abbrev sLBr:ByteArray:=⟨#[123]⟩
abbrev sRBr:ByteArray:=⟨#[125]⟩
abbrev sSet:ByteArray:=⟨#[61]⟩
abbrev sSemi:ByteArray:=⟨#[59]⟩
abbrev sComma:ByteArray:=⟨#[44]⟩
abbrev sColon:ByteArray:=⟨#[58]⟩
abbrev sDot:ByteArray:=⟨#[46]⟩
abbrev w_procedure:ByteArray:=⟨#[112,114,111,99,101,100,117,114,101]⟩
abbrev w_let:ByteArray:=⟨#[108,101,116]⟩
abbrev w_if:ByteArray:=⟨#[105,102]⟩
abbrev w_else:ByteArray:=⟨#[101,108,115,101]⟩
abbrev w_repeat:ByteArray:=⟨#[114,101,112,101,97,116]⟩
abbrev w_wait:ByteArray:=⟨#[119,97,105,116]⟩
abbrev w_await:ByteArray:=⟨#[97,119,97,105,116]⟩
abbrev w_within:ByteArray:=⟨#[119,105,116,104,105,110]⟩
abbrev w_require:ByteArray:=⟨#[114,101,113,117,105,114,101]⟩
abbrev w_point:ByteArray:=⟨#[112,111,105,110,116]⟩
abbrev w_use:ByteArray:=⟨#[117,115,101]⟩
abbrev w_for:ByteArray:=⟨#[102,111,114]⟩
abbrev w_send:ByteArray:=⟨#[115,101,110,100]⟩
abbrev w_keep:ByteArray:=⟨#[107,101,101,112]⟩
abbrev w_emit:ByteArray:=⟨#[101,109,105,116]⟩
abbrev w_abort:ByteArray:=⟨#[97,98,111,114,116]⟩
abbrev w_true:ByteArray:=⟨#[116,114,117,101]⟩
abbrev w_false:ByteArray:=⟨#[102,97,108,115,101]⟩
abbrev w_tlm:ByteArray:=⟨#[116,108,109]⟩
def keywords:List ByteArray:=[w_procedure,w_let,w_if,w_else,w_repeat,w_wait,w_await,w_within,w_require,w_point,w_use,w_for,w_send,w_keep,w_emit,w_abort,w_true,w_false,w_tlm]
def unitsL:List ByteArray:=[⟨#[74]⟩,⟨#[107,74]⟩,⟨#[87,104]⟩,⟨#[66]⟩,⟨#[107,66]⟩,⟨#[115]⟩,⟨#[109,105,110]⟩,⟨#[104]⟩,⟨#[100,101,103]⟩,⟨#[75]⟩,⟨#[87]⟩,⟨#[107,87]⟩,⟨#[66,112,115]⟩]
def inP(l:List ByteArray)(x:ByteArray):Bool:=l.any fun v=>decide (v=x)
theorem inP_iff{l:List ByteArray}{x:ByteArray}:inP l x=true↔x∈l:=by
 simp only[inP,List.any_eq_true,decide_eq_true_eq]
 exact⟨fun⟨v,h,e⟩=>e▸h,fun h=>⟨x,h,rfl⟩⟩
def resP(s:ByteArray):Bool:=inP keywords s
def unitP(s:ByteArray):Bool:=inP unitsL s
def levP(s:ByteArray):Nat:=
 if s=sOr then 1 else if s=sAnd then 2 else if s=sLt∨s=sLe∨s=sGt∨s=sGe∨s=sEq∨s=sNe then 4 else if s=sAdd∨s=sSub then 5 else if s=sMul∨s=sDiv then 6 else 0
inductive Tr where
 |node (k n:Int) (s:ByteArray) (l:List Tr):Tr
structure PS where
 p:Nat
 o:Nat
 vs:List ByteArray
inductive PR(α:Type) where
 |ok (x:α) (s:PS)
 |err (p:Nat) (c:Int)
 |out
def PR.bind{α β:Type}(r:PR α)(f:α→PS→PR β):PR β:=match r with
 | .ok x s=>f x s
 | .err p c=>.err p c
 | .out=>.out
section
variable (T:Nat→Tkn)
def adv(s:PS):PS:={s with p:=s.p+1}
def isP(w:ByteArray)(s:PS):Bool:=decide ((T s.p).t=w)
def mustP(w:ByteArray)(s:PS):PR Unit:=if isP T w s then .ok () (adv s)else .err s.p 11
def opensP(w:ByteArray)(s:PS):PR Unit:=if isP T w s then(if s.o=12 then .err s.p 2 else .ok () {s with p:=s.p+1,o:=s.o+1})else .err s.p 11
def closeP(s:PS):PS:={s with o:=s.o-1}
def nameP(s:PS):PR ByteArray:=if(T s.p).k≠1∨resP (T s.p).t=true then .err s.p 11 else .ok (T s.p).t (adv s)
def declP(s:PS):PR ByteArray:=(nameP T s).bind fun x s'=>
 if inP s.vs x=true then .err s.p 4 else if s.vs.length=12 then .err s.p 2 else .ok x {s' with vs:=s.vs++[x]}
def numP(lo hi:Int)(s:PS):PR Int:=if(T s.p).k≠2 then .err s.p 11 else if(T s.p).n<lo∨hi< (T s.p).n then .err s.p 5 else .ok (T s.p).n (adv s)
def litP(s:PS):PR Tr:=(numP T 0 2147483647 s).bind fun n s'=>
 if(T s'.p).k=1∧unitP (T s'.p).t=true then .ok (.node 15 n (T s'.p).t []) (adv s')else .ok (.node 15 n ⟨#[]⟩ []) s'
mutual
def exprP:Nat→Nat→PS→PR Tr
 |0,_,_=>.out
 |f+1,lv,s=>
  if lv=3∧isP T sNot s=true then unaryP f sNot 3 s
  else if lv=7∧isP T sSub s=true then unaryP f sSub 7 s
  else if lv=8 then primP f s
  else(exprP f (lv+1) s).bind fun n s'=>opsP f lv n s'
def opsP:Nat→Nat→Tr→PS→PR Tr
 |0,_,_,_=>.out
 |f+1,lv,n,s=>
  if levP (T s.p).t=lv∧(T s.p).k=3 then
   (exprP f (lv+1) (adv s)).bind fun m s'=>if lv=4 then .ok (.node 20 0 (T s.p).t [n,m]) s' else opsP f lv (.node 20 0 (T s.p).t [n,m]) s'
  else .ok n s
def unaryP:Nat→ByteArray→Nat→PS→PR Tr
 |0,_,_,_=>.out
 |f+1,w,lv,s=>(opensP T w s).bind fun _ s1=>(exprP f lv s1).bind fun n s2=>.ok (.node 19 0 w [n]) (closeP s2)
def primP:Nat→PS→PR Tr
 |0,_=>.out
 |f+1,s=>
  if(T s.p).k=2 then litP T s
  else if isP T w_true s=true then .ok (.node 16 1 ⟨#[]⟩ []) (adv s)
  else if isP T w_false s=true then .ok (.node 16 0 ⟨#[]⟩ []) (adv s)
  else if isP T w_tlm s=true then(mustP T sDot (adv s)).bind fun _ s1=>(nameP T s1).bind fun x s2=>.ok (.node 18 0 x []) s2
  else if isP T sLPar s=true then(opensP T sLPar s).bind fun _ s1=>(exprP f 1 s1).bind fun n s2=>(mustP T sRPar s2).bind fun _ s3=>.ok n (closeP s3)
  else(nameP T s).bind fun x s1=>.ok (.node 17 0 x []) s1
end
def endP(n:Tr)(s:PS):PR Tr:=(mustP T sSemi s).bind fun _ s'=>.ok n s'
def setP(f:Nat)(k:Int)(x:ByteArray)(s:PS):PR Tr:=(mustP T sSet s).bind fun _ s1=>(exprP T f 1 s1).bind fun n s2=>endP T (.node k 0 x [n]) s2
def oneP(f:Nat)(k:Int)(s:PS):PR Tr:=(exprP T f 1 s).bind fun n s2=>endP T (.node k 0 ⟨#[]⟩ [n]) s2
def amtP(k:Int)(s:PS):PR Tr:=(litP T s).bind fun n s2=>endP T (.node k 0 ⟨#[]⟩ [n]) s2
def awaitP(f:Nat)(s:PS):PR Tr:=(exprP T f 1 s).bind fun c s1=>(mustP T w_within s1).bind fun _ s2=>(litP T s2).bind fun n s3=>endP T (.node 6 0 ⟨#[]⟩ [c,n]) s3
def nmbP(k hi:Int)(s:PS):PR Tr:=(numP T 0 hi s).bind fun n s1=>endP T (.node k n ⟨#[]⟩ []) s1
def useP(k:Int)(w:ByteArray)(s:PS):PR Tr:=(numP T 0 7 s).bind fun n s1=>(mustP T w s1).bind fun _ s2=>(litP T s2).bind fun m s3=>endP T (.node k n ⟨#[]⟩ [m]) s3
mutual
def blockP:Nat→PS→PR Tr
 |0,_=>.out
 |f+1,s=>(opensP T sLBr s).bind fun _ s1=>(stmtsP f s1).bind fun l s2=>.ok (.node 14 0 ⟨#[]⟩ l) (closeP s2)
def stmtsP:Nat→PS→PR (List Tr)
 |0,_=>.out
 |f+1,s=>if isP T sRBr s=true then .ok [] (adv s)else(stmtP f s).bind fun n s1=>(stmtsP f s1).bind fun l s2=>.ok (n::l) s2
def stmtP:Nat→PS→PR Tr
 |0,_=>.out
 |f+1,s=>
  if isP T w_let s=true then(declP T (adv s)).bind fun x s1=>setP T f 1 x s1
  else if isP T w_if s=true then(exprP T f 1 (adv s)).bind fun c s1=>(blockP f s1).bind fun y s2=>
   if isP T w_else s2=true then(blockP f (adv s2)).bind fun n s3=>.ok (.node 3 0 ⟨#[]⟩ [c,y,n]) s3 else .ok (.node 3 0 ⟨#[]⟩ [c,y,.node 14 0 ⟨#[]⟩ []]) s2
  else if isP T w_repeat s=true then(numP T 1 100 (adv s)).bind fun n s1=>(blockP f s1).bind fun y s2=>.ok (.node 4 n ⟨#[]⟩ [y]) s2
  else if isP T w_await s=true then awaitP T f (adv s)
  else if isP T w_wait s=true then amtP T 5 (adv s)
  else if isP T w_keep s=true then amtP T 11 (adv s)
  else if isP T w_require s=true then oneP T f 7 (adv s)
  else if isP T w_point s=true then oneP T f 8 (adv s)
  else if isP T w_use s=true then useP T 9 w_for (adv s)
  else if isP T w_send s=true then useP T 10 sComma (adv s)
  else if isP T w_emit s=true then nmbP T 12 99 (adv s)
  else if isP T w_abort s=true then nmbP T 13 999 (adv s)
  else(nameP T s).bind fun x s1=>setP T f 2 x s1
end
structure Prm where
 x:ByteArray
 u:ByteArray
structure Prc where
 x:ByteArray
 ps:List Prm
 b:Tr
def prmP(s:PS):PR Prm:=(declP T s).bind fun x s1=>
 if isP T sColon s1=true then
  (if(T (s1.p+1)).k≠1 then .err (s1.p+1) 11 else if unitP (T (s1.p+1)).t=false then .err (s1.p+1) 10 else .ok ⟨x,(T (s1.p+1)).t⟩ (adv (adv s1)))
 else .ok ⟨x,⟨#[]⟩⟩ s1
def prmsP:Nat→PS→PR (List Prm)
 |0,_=>.out
 |f+1,s=>(prmP T s).bind fun x s1=>if isP T sComma s1=true then(prmsP f (adv s1)).bind fun l s2=>.ok (x::l) s2 else(mustP T sRPar s1).bind fun _ s2=>.ok [x] s2
def paramsP(f:Nat)(s:PS):PR (List Prm):=(mustP T sLPar s).bind fun _ s1=>if isP T sRPar s1=true then .ok [] (adv s1)else prmsP T f s1
def procP(f:Nat)(pr:List ByteArray)(s:PS):PR Prc:=(mustP T w_procedure s).bind fun _ s1=>(nameP T s1).bind fun x s2=>
 if inP pr x=true then .err s1.p 4 else(paramsP T f {s2 with vs:=[]}).bind fun l s3=>(blockP T f s3).bind fun b s4=>.ok ⟨x,l,b⟩ s4
def procsP:Nat→List ByteArray→PS→PR (List Prc)
 |0,_,_=>.out
 |f+1,pr,s=>if(T s.p).k=0 then .ok [] s else(procP T f pr s).bind fun x s1=>(procsP f (pr++[x.x]) s1).bind fun l s2=>.ok (x::l) s2
end
end Go.Proofs.Lx
/- Plain: a word between spaces in a list of words. -/
namespace Go.Proofs.Lx
open Go
theorem contains_iff(s sub:List UInt8):Lib.contains s sub=true↔∃a b,s=a++(sub++b):=by
 unfold Lib.contains
 rw[decide_eq_true_eq]
 constructor
 ·intro h
  rcases Lib.index_spec s sub with⟨h1,_⟩ | ⟨i,h1,h2,h3,_⟩
  ·omega
  ·unfold Lib.occAt at h3
   obtain⟨b,hb⟩:=List.isPrefixOf_iff_prefix.1 h3
   exact⟨s.take i,b,by rw[hb,List.take_append_drop]⟩
 ·rintro⟨a,b,rfl⟩
  rcases Lib.index_spec (a++(sub++b)) sub with⟨h1,h2⟩ | ⟨i,h1,_⟩
  ·have:=h2 a.length (by simp)
   unfold Lib.occAt at this
   rw[List.drop_left]at this
   have h3:sub.isPrefixOf (sub++b)=true:=List.isPrefixOf_iff_prefix.2 ⟨b,rfl⟩
   rw[h3]at this
   cases this
  ·omega
def spaced(ws:List (List UInt8)):List UInt8:=ws.flatMap fun w=>w++[32]
theorem first_space{w t a b:List UInt8}(hw:∀c∈w,c≠32)(ht:∀c∈t,c≠32)(h:w++32::a=t++32::b):w=t∧a=b:=by
 induction w generalizing t with
 |nil=>
  cases t with
  |nil=>simp only[List.nil_append,List.cons.injEq,true_and]at h;exact⟨rfl,h⟩
  |cons c t=>simp only[List.nil_append,List.cons_append,List.cons.injEq]at h;exact absurd h.1.symm (ht c (.head _))
 |cons c w ih=>
  cases t with
  |nil=>simp only[List.nil_append,List.cons_append,List.cons.injEq]at h;exact absurd h.1 (hw c (.head _))
  |cons d t=>
   simp only[List.cons_append,List.cons.injEq]at h
   obtain⟨h1,h2⟩:=ih (fun c hc=>hw c (.tail _ hc)) (fun c hc=>ht c (.tail _ hc)) h.2
   exact⟨by rw[h.1,h1],h2⟩
theorem after_word{w x a z:List UInt8}(hw:∀c∈w,c≠32)(h:w++32::x=a++32::z):a=w∧x=z∨∃a',a=w++32::a'∧x=a'++32::z:=by
 induction w generalizing a with
 |nil=>
  cases a with
  |nil=>simp only[List.nil_append,List.cons.injEq,true_and]at h;exact .inl ⟨rfl,h⟩
  |cons c a=>simp only[List.nil_append,List.cons_append,List.cons.injEq]at h;exact .inr ⟨a,by rw[h.1];rfl,h.2⟩
 |cons c w ih=>
  cases a with
  |nil=>simp only[List.nil_append,List.cons_append,List.cons.injEq]at h;exact absurd h.1 (hw c (.head _))
  |cons d a=>
   simp only[List.cons_append,List.cons.injEq]at h
   rcases ih (fun c hc=>hw c (.tail _ hc)) h.2 with⟨h1,h2⟩ | ⟨a',h1,h2⟩
   ·exact .inl ⟨by rw[h.1,h1],h2⟩
   ·exact .inr ⟨a',by rw[h.1,h1];rfl,h2⟩
theorem spaced_iff{t:List UInt8}(ht:∀c∈t,c≠32):∀{ws:List (List UInt8)},(∀w∈ws,∀c∈w,c≠32)→((∃a b,32::spaced ws=a++32::(t++32::b))↔t∈ws)
 | [],_=>by
  simp only[spaced,List.flatMap_nil,List.not_mem_nil,iff_false]
  rintro⟨a,b,h⟩
  have:=congrArg List.length h
  simp at this
  omega
 |w::ws,hw=>by
  have ih:=spaced_iff ht (ws:=ws) fun w h=>hw w (.tail _ h)
  have e:spaced (w::ws)=w++32::spaced ws:=by simp[spaced]
  rw[e,List.mem_cons,←ih]
  constructor
  ·rintro⟨a,b,h⟩
   cases a with
   |nil=>
    simp only[List.nil_append,List.cons.injEq,true_and]at h
    exact .inl (first_space (hw w (.head _)) ht h).1.symm
   |cons c a=>
    simp only[List.cons_append,List.cons.injEq]at h
    rcases after_word (hw w (.head _)) h.2 with⟨_,h2⟩ | ⟨a',_,h2⟩
    ·exact .inr ⟨[],b,by rw[h2];rfl⟩
    ·exact .inr ⟨32::a',b,by rw[h2];rfl⟩
  ·rintro(rfl| ⟨a,b,h⟩)
   ·exact⟨[],spaced ws,rfl⟩
   ·exact⟨32::(w++a),b,by
     show 32::(w++32::spaced ws)=_
     rw[h];simp⟩
def kwL:List UInt8:=32::spaced (keywords.map fun w=>w.data.toList)
theorem res_iff{t:ByteArray}(ht:∀c∈t.data.toList,c≠32):Lib.contains kwL (32::(t.data.toList++[32]))=resP t:=by
 rw[Bool.eq_iff_iff,contains_iff]
 have h:=spaced_iff ht (ws:=keywords.map fun w=>w.data.toList) (by decide)
 unfold resP
 rw[inP_iff]
 have e:(∃a b,kwL=a++(32::(t.data.toList++[32])++b))↔∃a b,32::spaced (keywords.map fun w=>w.data.toList)=a++32::(t.data.toList++32::b):=by
  constructor<;>rintro⟨a,b,h⟩<;>exact⟨a,b,by simpa[kwL]using h⟩
 rw[e,h,List.mem_map]
 constructor
 ·rintro⟨w,hw,he⟩
  have:w=t:=by
   obtain⟨⟨x⟩⟩:=w;obtain⟨⟨y⟩⟩:=t
   simp only at he
   rw[he]
  rw[←this];exact hw
 ·intro h
  exact⟨t,h,rfl⟩
end Go.Proofs.Lx
/- The parser's small methods do what the plain parser says. -/
namespace Go.Proofs.YtjfkkokeegpeiaaGreatDoor
open Go Go.Am Go.Proofs.Lx
set_option maxRecDepth 100000
theorem tl_eq{a b:ByteArray}:((ByteArray.toList a==ByteArray.toList b)=true)↔a=b:=by
 rw[beq_iff_eq,ByteArray.toList_eq,ByteArray.toList_eq]
 constructor
 ·intro h
  obtain⟨⟨x⟩⟩:=a
  obtain⟨⟨y⟩⟩:=b
  simp only at h
  rw[h]
 ·rintro rfl;rfl
theorem tl_dec{a b:ByteArray}:(ByteArray.toList a==ByteArray.toList b)=decide (a=b):=by
 rw[Bool.eq_iff_iff,tl_eq,decide_eq_true_eq]
theorem w_in{n:Int}(h1: -9223372036854775808≤n)(h2:n≤9223372036854775807):w n=n:=by
 unfold w;rw[IntKind.wrap_i64];omega
theorem w_succ{i:Nat}(h:i≤4000000000):w ((i:Int)+1)=((i+1:Nat):Int):=by rw[w_in (by omega) (by omega)];omega
abbrev StT:Type:=Int×Int×Nat×(Nat→Int)×(Nat→Int)×(Nat→ByteArray)×(Nat→Int)×Nat×(Nat→ByteArray)×Nat×(Nat→ByteArray)
def Ag(v:Nat→ByteArray)(l:List ByteArray):Prop:=∀j b,l[j]? =some b→v j=b
theorem Ag.push{v:Nat→ByteArray}{l:List ByteArray}{x:ByteArray}(h:Ag v l):Ag (fun j=>if j<l.length then v j else x) (l++[x]):=by
 intro j b hb
 by_cases hj:j<l.length
 ·rw[List.getElem?_append_left hj]at hb
  simp only[hj,if_true]
  exact h j b hb
 ·rw[List.getElem?_append_right (by omega)]at hb
  simp only[hj,if_false]
  cases hk:j-l.length with
  |zero=>rw[hk]at hb;simpa using hb
  |succ n=>rw[hk]at hb;simp at hb
structure TokN(N:Nat)(T:Nat→Tkn):Prop where
 pos:0<N
 big:N≤4001
 endk:(T (N-1)).k=0
 endt:(T (N-1)).t=⟨#[]⟩
 sym:∀j,(T j).k≠3→levP (T j).t=0
 word:∀j,(T j).k=1→(T j).t.size≤12∧∀c∈(T j).t.data.toList,c≠32
def RS(N:Nat)(T:Nat→Tkn)(pr:List ByteArray)(s:PS)(x:StT):Prop:=
 ∃v u,x=(((s.p:Nat):Int),((s.o:Nat):Int),N,(fun j=>(T j).k),(fun j=>(T j).a),(fun j=>(T j).t),(fun j=>(T j).n),s.vs.length,v,pr.length,u)∧
  Ag v s.vs∧Ag u pr∧s.p<N∧s.o≤12∧s.vs.length≤12∧pr.length≤2000000000
section
variable {N:Nat} {T:Nat→Tkn} {pr:List ByteArray} {s:PS} {x:StT}
theorem TokN.lt(hT:TokN N T){p:Nat}(hp:p<N)(h:(T p).t≠⟨#[]⟩∨(T p).k≠0):p+1<N:=by
 by_cases e:p=N-1
 ·subst e
  rcases h with h|h
  ·exact absurd hT.endt h
  ·exact absurd hT.endk h
 ·have:=hT.pos
  omega
theorem RS.adv(hT:TokN N T)(h:RS N T pr s x)(hk:(T s.p).t≠⟨#[]⟩∨(T s.p).k≠0):RS N T pr (adv s) (w (x.1+1),x.2):=by
 obtain⟨v,u,rfl,h1,h2,h3,h4,h5,h6⟩:=h
 refine⟨v,u,?_,h1,h2,hT.lt h3 hk,h4,h5,h6⟩
 have:=hT.big
 show(w ((s.p:Int)+1),_)=_
 rw[w_succ (by omega)]
 rfl
end
section
variable {N:Nat} {T:Nat→Tkn} {pr:List ByteArray} {s:PS} {x:StT}
theorem fail_eq(q:Nat)(h:RS N T pr s x)(c:Int):fail q (c,x)=some ((T s.p).a,c):=by
 obtain⟨v,u,rfl,h1,h2,h3,h4,h5,h6⟩:=h
 unfold fail t_fail
 dsimp only
 rw[if_pos ⟨by omega,by omega⟩,Int.toNat_natCast]
theorem next_eq(q:Nat)(h:RS N T pr s x):next q x=some ((T s.p).k,(T s.p).a,(T s.p).t,(T s.p).n,x):=by
 obtain⟨v,u,rfl,h1,h2,h3,h4,h5,h6⟩:=h
 unfold next t_next
 dsimp only
 rw[if_pos ⟨by omega,by omega⟩,Int.toNat_natCast]
theorem is_eq(q:Nat)(h:RS N T pr s x)(b:ByteArray):is q (b,x)=some (isP T b s,x):=by
 obtain⟨v,u,rfl,h1,h2,h3,h4,h5,h6⟩:=h
 unfold is t_is
 dsimp only
 rw[if_pos ⟨by omega,by omega⟩,Int.toNat_natCast,tl_dec]
 rfl
theorem take_eq(q:Nat)(h:RS N T pr s x)(b:ByteArray):take q (b,x)=some (if isP T b s=true then(true,w (x.1+1),x.2)else(false,x)):=by
 unfold take t_take
 rw[is_eq q h]
 dsimp only[Option.bind_some]
 by_cases hb:isP T b s=true
 ·rw[if_pos hb,if_pos hb]
 ·rw[if_neg hb,if_neg hb]
end
def PU(N:Nat)(T:Nat→Tkn)(pr:List ByteArray):PR Unit→StT⊕(Int×Int)→Prop
 | .ok _ s,.inl x=>RS N T pr s x
 | .err p c,.inr e=>p<N∧e=((T p).a,c)
 |_,_=>False
def PX{α:Type}(N:Nat)(T:Nat→Tkn)(pr:List ByteArray):PR α→(α×StT)⊕(Int×Int)→Prop
 | .ok a s,.inl z=>z.1=a∧RS N T pr s z.2
 | .err p c,.inr e=>p<N∧e=((T p).a,c)
 |_,_=>False
section
variable {N:Nat} {T:Nat→Tkn} {pr:List ByteArray} {s:PS} {x:StT}
theorem isP_ne{b:ByteArray}(hb:b≠⟨#[]⟩)(h:isP T b s=true):(T s.p).t≠⟨#[]⟩∨(T s.p).k≠0:=by
 simp only[isP,decide_eq_true_eq]at h
 exact .inl (h▸hb)
theorem must_rs(hT:TokN N T)(q:Nat)(h:RS N T pr s x)(b:ByteArray)(hb:b≠⟨#[]⟩):Rs (must q (b,x)) (PU N T pr (mustP T b s)):=by
 unfold must t_must mustP
 rw[take_eq q h]
 dsimp only[Option.bind_some]
 by_cases hi:isP T b s=true
 ·rw[if_pos hi,if_pos hi]
  exact Rs.neg (by simp) (Rs.some (RS.adv hT h (isP_ne hb hi)))
 ·rw[if_neg hi,if_neg hi]
  refine Rs.pos (by simp) ?_
  rw[fail_eq q h]
  have h3:=h.choose_spec.choose_spec.2.2.2.1
  exact Rs.some ⟨h3,rfl⟩
theorem RS.lt(h:RS N T pr s x):s.p<N:=h.choose_spec.choose_spec.2.2.2.1
theorem opens_rs(hT:TokN N T)(q:Nat)(h:RS N T pr s x)(b:ByteArray)(hb:b≠⟨#[]⟩):Rs (opens q (b,x)) (PU N T pr (opensP T b s)):=by
 unfold opens t_opens opensP
 rw[is_eq q h]
 dsimp only[Option.bind_some]
 by_cases hi:isP T b s=true
 ·rw[if_pos hi]
  refine Rs.neg (by simp[hi]) ?_
  obtain⟨v,u,rfl,h1,h2,h3,h4,h5,h6⟩:=h
  dsimp only
  by_cases ho:s.o=12
  ·rw[if_pos ho]
   refine Rs.pos (by simp[ho]) ?_
   rw[fail_eq q ⟨v,u,rfl,h1,h2,h3,h4,h5,h6⟩]
   exact Rs.some ⟨h3,rfl⟩
  ·rw[if_neg ho]
   refine Rs.neg (by simp;omega) (Rs.some ?_)
   have:=hT.big
   refine⟨v,u,?_,h1,h2,hT.lt h3 (isP_ne hb hi),(by show s.o+1≤12;omega),h5,h6⟩
   rw[w_succ (by omega),w_succ (by omega)]
 ·rw[if_neg hi]
  refine Rs.pos (by simp[hi]) ?_
  rw[fail_eq q h]
  exact Rs.some ⟨h.lt,rfl⟩
theorem reserved_eq(q:Nat){t:ByteArray}(h1:t.size≤12)(h2:∀c∈t.data.toList,c≠32):reserved q t=some (resP t):=by
 unfold reserved t_reserved
 have hs:(({data:=#[32]}:ByteArray)++t).size=1+t.size:=by simp[ByteArray.size_append];rfl
 rw[if_pos (by unfold maxLen;omega),if_pos (by rw[hs];unfold maxLen;omega)]
 unfold Contains
 rw[if_pos (by dsimp only;decide)]
 dsimp only[Option.bind_some]
 rw[←res_iff h2]
 refine congrArg some (congr (congrArg Lib.contains ?_) ?_)
 ·decide
 ·simp
theorem name_rs(hT:TokN N T)(q:Nat)(h:RS N T pr s x):Rs (name q x) (PX N T pr (nameP T s)):=by
 unfold name t_name nameP
 rw[next_eq q h]
 dsimp only[Option.bind_some]
 by_cases hk:(T s.p).k=1
 ·refine Rs.neg (by simp[hk]) ?_
  obtain⟨g1,g2⟩:=hT.word s.p hk
  rw[reserved_eq q g1 g2]
  dsimp only[Option.bind_some]
  by_cases hr:resP (T s.p).t=true
  ·rw[if_pos hr,if_pos (.inr hr),fail_eq q h]
   exact Rs.some ⟨h.lt,rfl⟩
  ·rw[if_neg hr,if_neg (by simp[hk,hr])]
   exact Rs.some ⟨rfl,RS.adv hT h (.inr (by rw[hk];decide))⟩
 ·refine Rs.pos (by simp[hk]) ?_
  rw[if_pos (.inl hk),fail_eq q h]
  exact Rs.some ⟨h.lt,rfl⟩
theorem number_rs(hT:TokN N T)(q:Nat)(h:RS N T pr s x)(lo hi:Int):Rs (number q (lo,hi,x)) (PX N T pr (numP T lo hi s)):=by
 unfold number t_number
 rw[next_eq q h]
 dsimp only[Option.bind_some]
 by_cases hk:(T s.p).k=2
 ·refine Rs.neg (by simp[hk]) ?_
  by_cases h1:(T s.p).n<lo
  ·have e:numP T lo hi s= .err s.p 5:=by unfold numP;rw[if_neg (by simp[hk]),if_pos (.inl h1)]
   refine Rs.pos (by simp[h1]) ?_
   rw[fail_eq q h,e]
   exact Rs.some ⟨h.lt,rfl⟩
  ·refine Rs.neg (by simpa using h1) ?_
   by_cases h2:hi< (T s.p).n
   ·have e:numP T lo hi s= .err s.p 5:=by unfold numP;rw[if_neg (by simp[hk]),if_pos (.inr h2)]
    refine Rs.pos (by simpa using h2) ?_
    rw[fail_eq q h,e]
    exact Rs.some ⟨h.lt,rfl⟩
   ·have e:numP T lo hi s= .ok (T s.p).n (adv s):=by unfold numP;rw[if_neg (by simp[hk]),if_neg (by omega)]
    rw[e]
    exact Rs.neg (by simpa using h2) (Rs.some ⟨rfl,RS.adv hT h (.inr (by rw[hk];decide))⟩)
 ·have e:numP T lo hi s= .err s.p 11:=by unfold numP;rw[if_pos hk]
  refine Rs.pos (by simp[hk]) ?_
  rw[fail_eq q h,e]
  exact Rs.some ⟨h.lt,rfl⟩
theorem Lookup_rs(q:Nat)(t:ByteArray):Rs (Lookup q t) (fun z=>z.2.2.2.2.2.2=unitP t):=by
 unfold Lookup t_Lookup
 repeat' refine Rs.ite (fun h=>?_) (fun h=>?_)
 all_goals refine Rs.some ?_
 all_goals simp only[tl_eq]at*
 all_goals first
  | (subst_vars;decide)
  | (show false=unitP t;symm;rw[Bool.eq_false_iff,Ne,unitP,inP_iff];simp only[unitsL,List.mem_cons,List.not_mem_nil,or_false,not_or];refine⟨?_,?_,?_,?_,?_,?_,?_,?_,?_,?_,?_,?_,?_⟩<;>(intro e;subst e;contradiction))
theorem nameP_ok{a:ByteArray}{s':PS}(h:nameP T s= .ok a s'):a=(T s.p).t∧s'=adv s∧(T s.p).k=1∧resP (T s.p).t=false:=by
 unfold nameP at h
 split at h
 ·cases h
 ·rename_i hn
  cases h
  simp only[not_or,Decidable.not_not,Bool.not_eq_true]at hn
  exact⟨rfl,rfl,hn.1,hn.2⟩
theorem declare_loop(q:Nat)(x0:a_declare)(a:ByteArray){v u:Nat→ByteArray}(h1:Ag v s.vs)(h2:Ag u pr)(h3:s.p<N)(h4:s.o≤12)(h5:s.vs.length≤12)(h6:pr.length≤2000000000):
 ∀(n i m:Nat),i+n=s.vs.length→n<m→(∀j,j<i→s.vs[j]? ≠some a)→
 Rs (lpG (fun y=>declare_l0_t (name q) (fail q) x0 y (fun y=>some (.inl y)) (fun z=>some (.inr z))) m (a,s.vs.length,((s.vs.length:Nat):Int),N,(fun j=>(T j).k),(fun j=>(T j).a),(fun j=>(T j).t),(fun j=>(T j).n),((s.p:Nat):Int),((s.o:Nat):Int),pr.length,v,u,((i:Nat):Int)))
  (fun z=>if inP s.vs a=true then z= .inl ((T s.p).a,4)else z= .inr (a,N,(fun j=>(T j).k),(fun j=>(T j).a),(fun j=>(T j).t),(fun j=>(T j).n),((s.p:Nat):Int),((s.o:Nat):Int),s.vs.length,pr.length,v,u)):=by
 intro n
 induction n with
 |zero=>
  intro i m hi hm hno
  obtain⟨m,rfl⟩:∃k,m=k+1:=⟨m-1,by omega⟩
  refine Rs.step ?_
  unfold declare_l0_t
  dsimp only
  refine Rs.neg (by simp;omega) (Rs.some ?_)
  have hnin:¬inP s.vs a=true:=by
   rw[inP_iff,List.mem_iff_getElem?]
   rintro⟨j,hj⟩
   have:=(List.getElem?_eq_some_iff.1 hj).1
   exact hno j (by omega) hj
  show(if inP s.vs a=true then _ else _)
  rw[if_neg hnin]
 |succ n ih=>
  intro i m hi hm hno
  obtain⟨m,rfl⟩:∃k,m=k+1:=⟨m-1,by omega⟩
  refine Rs.step ?_
  unfold declare_l0_t
  dsimp only
  refine Rs.pos (by simp;omega) (Rs.pos ⟨by omega,by omega⟩ (Rs.pos ⟨by simp;omega,rfl⟩ ?_))
  have hget:s.vs[i]? =some (v i):=by
   have hlt:i<s.vs.length:=by omega
   have:=List.getElem?_eq_getElem hlt
   rw[this,h1 i _ this]
  have e:0+Int.toNat ((i:Nat):Int)=i:=by omega
  rw[e]
  refine Rs.ite (fun heq=>?_) (fun hne=>?_)
  ·rw[tl_eq]at heq
   have hin:inP s.vs a=true:=by
    rw[inP_iff,←heq]
    exact List.mem_iff_getElem?.2 ⟨i,hget⟩
   rw[fail_eq q (s:=s) (pr:=pr) (N:=N) (T:=T) ⟨v,u,rfl,h1,h2,h3,h4,h5,h6⟩]
   refine Rs.some ?_
   show(if inP s.vs a=true then _ else _)
   rw[if_pos hin]
  ·rw[tl_eq]at hne
   refine Rs.some ?_
   show Rs (lpG _ m _) _
   rw[w_succ (by omega)]
   refine ih (i+1) m (by omega) (by omega) fun j hj=>?_
   by_cases hji:j=i
   ·subst hji
    rw[hget]
    simpa using hne
   ·exact hno j (by omega)
theorem declare_rs(hT:TokN N T)(q:Nat)(hq:20≤q)(h:RS N T pr s x):Rs (declare q x) (PX N T pr (declP T s)):=by
 unfold declare t_declare declP
 refine Rs.bind (name_rs hT q h) fun z hz=>?_
 cases hn:nameP T s with
 |out=>rw[hn]at hz;rcases z with z|z<;>exact hz.elim
 |err p c=>
  rw[hn]at hz
  rcases z with z|z
  ·exact hz.elim
  ·exact Rs.some hz
 |ok a s'=>
  rw[hn]at hz
  obtain⟨rfl,rfl,hk,hr⟩:=nameP_ok hn
  rcases z with z|z
  rotate_left
  ·exact hz.elim
  obtain⟨z1,z2⟩:=z
  obtain⟨rfl,v,u,rfl,h1,h2,h3,h4,h5,h6⟩:=hz
  dsimp only[Sum.elim_inl,PR.bind]
  have hsp:=h.lt
  have hN:=hT.big
  have e1:w (((adv s).p:Int)-1)=((s.p:Nat):Int):=by
   show w (((s.p+1:Nat):Int)-1)=_
   rw[w_in (by omega) (by omega)];omega
  rw[e1]
  unfold declare_l0
  refine Rs.bind (declare_loop (s:=s) q x _ h1 h2 hsp h4 h5 h6 s.vs.length 0 q (by omega) (by show s.vs.length<q;have:s.vs.length≤12:=h5;omega) (fun j hj=>absurd hj (Nat.not_lt_zero j))) fun z hz=>?_
  by_cases hin:inP s.vs (T s.p).t=true
  ·rw[if_pos hin]at hz
   subst hz
   rw[if_pos hin]
   exact Rs.some ⟨hsp,rfl⟩
  ·rw[if_neg hin]at hz
   subst hz
   rw[if_neg hin]
   dsimp only[Sum.elim_inr,Sum.elim_inl]
   by_cases hl:s.vs.length=12
   ·rw[if_pos hl]
    refine Rs.pos (by simp[hl]) ?_
    rw[fail_eq q (s:=s) (pr:=pr) (N:=N) (T:=T) ⟨v,u,rfl,h1,h2,hsp,h4,h5,h6⟩]
    exact Rs.some ⟨hsp,rfl⟩
   ·rw[if_neg hl]
    refine Rs.neg (by simp;omega) (Rs.pos ?_ (Rs.some ⟨rfl,?_⟩))
    ·have:s.vs.length≤12:=h5
     exact⟨by unfold roomBound;omega,by unfold maxLen;omega,by omega⟩
    ·refine⟨_,u,?_,h1.push,h2,h3,h4,(by simp;have:s.vs.length≤12:=h5;omega),h6⟩
     rw[w_succ (by omega)]
     simp[adv]
     rfl
end
end Go.Proofs.YtjfkkokeegpeiaaGreatDoor
/- Expressions are read as the plain parser reads them. -/
namespace Go.Proofs.YtjfkkokeegpeiaaGreatDoor
open Go Go.Am Go.Proofs.Lx
set_option maxRecDepth 100000
abbrev NodeT:Type:=Int×Int×ByteArray×Nat×(Nat→List V)
mutual
def RepN:Tr→NodeT→Prop
 | .node k n s l,x=>x.1=k∧x.2.1=n∧x.2.2.1=s∧x.2.2.2.1=l.length∧RepL l x.2.2.2.2 0
def RepL:List Tr→(Nat→List V)→Nat→Prop
 | [],_,_=>True
 |t::l,f,j=>(∃y:NodeT,f j=[i64 y.1,i64 y.2.1,st y.2.2.1,.ro 4 y.2.2.2.1 y.2.2.2.2]∧RepN t y)∧RepL l f (j+1)
end
theorem RepN.leaf{k n:Int}{s:ByteArray}{f:Nat→List V}:RepN (.node k n s []) (k,n,s,0,f):=by simp[RepN,RepL]
theorem RepN.k1{k n:Int}{s:ByteArray}{a:Tr}{y:NodeT}(h:RepN a y):RepN (.node k n s [a]) (k,n,s,1,selL [[i64 y.1,i64 y.2.1,st y.2.2.1,.ro 4 y.2.2.2.1 y.2.2.2.2]]):=by
 simp only[RepN,RepL,List.length_cons,List.length_nil]
 exact⟨trivial,trivial,trivial,trivial,⟨y,rfl,h⟩,trivial⟩
theorem RepN.k2{k n:Int}{s:ByteArray}{a b:Tr}{y z:NodeT}(h:RepN a y)(g:RepN b z):RepN (.node k n s [a,b]) (k,n,s,2,selL [[i64 y.1,i64 y.2.1,st y.2.2.1,.ro 4 y.2.2.2.1 y.2.2.2.2],[i64 z.1,i64 z.2.1,st z.2.2.1,.ro 4 z.2.2.2.1 z.2.2.2.2]]):=by
 simp only[RepN,RepL,List.length_cons,List.length_nil]
 exact⟨trivial,trivial,trivial,trivial,⟨y,rfl,h⟩,⟨z,rfl,g⟩,trivial⟩
def PN(N:Nat)(T:Nat→Tkn)(pr:List ByteArray):PR Tr→(Int×Int×ByteArray×Nat×(Nat→List V)×StT)⊕(Int×Int)→Prop
 | .ok a s,.inl z=>RepN a (z.1,z.2.1,z.2.2.1,z.2.2.2.1,z.2.2.2.2.1)∧RS N T pr s z.2.2.2.2.2
 | .err p c,.inr e=>p<N∧e=((T p).a,c)
 |_,_=>False
theorem PR.bind_out{α β:Type}{r:PR α}{k:α→PS→PR β}(h:r.bind k≠ .out):r≠ .out:=by rintro rfl;exact h rfl
section
variable {N:Nat} {T:Nat→Tkn} {pr:List ByteArray} {γ:Type} {P:γ→Prop}
theorem PU.bind{r:PR Unit}{o:Option (StT⊕(Int×Int))}{f:StT→Option γ}{g:Int×Int→Option γ}(h:Rs o (PU N T pr r))(hok:∀s x,r= .ok () s→RS N T pr s x→Rs (f x) P)(herr:∀p c,r= .err p c→p<N→Rs (g ((T p).a,c)) P):
 Rs (o.bind fun z=>Sum.elim f g z) P:=by
 obtain⟨z,rfl,hp⟩:=h
 cases r with
 |ok u s=>cases z with
  |inl z=>exact hok s z rfl hp
  |inr z=>exact hp.elim
 |err p c=>cases z with
  |inl z=>exact hp.elim
  |inr z=>obtain⟨h1,rfl⟩:=hp;exact herr p c rfl h1
 |out=>cases z<;>exact hp.elim
theorem PX.bind{α:Type}{r:PR α}{o:Option ((α×StT)⊕(Int×Int))}{f:α×StT→Option γ}{g:Int×Int→Option γ}(h:Rs o (PX N T pr r))(hok:∀a s x,r= .ok a s→RS N T pr s x→Rs (f (a,x)) P)(herr:∀p c,r= .err p c→p<N→Rs (g ((T p).a,c)) P):
 Rs (o.bind fun z=>Sum.elim f g z) P:=by
 obtain⟨z,rfl,hp⟩:=h
 cases r with
 |ok a s=>cases z with
  |inl z=>obtain⟨z1,z2⟩:=z;obtain⟨rfl,h2⟩:=hp;exact hok _ s z2 rfl h2
  |inr z=>exact hp.elim
 |err p c=>cases z with
  |inl z=>exact hp.elim
  |inr z=>obtain⟨h1,rfl⟩:=hp;exact herr p c rfl h1
 |out=>cases z<;>exact hp.elim
theorem PN.bind{r:PR Tr}{o:Option ((Int×Int×ByteArray×Nat×(Nat→List V)×StT)⊕(Int×Int))}{f:Int×Int×ByteArray×Nat×(Nat→List V)×StT→Option γ}{g:Int×Int→Option γ}(h:Rs o (PN N T pr r))
 (hok:∀t s k n b m c x,r= .ok t s→RepN t (k,n,b,m,c)→RS N T pr s x→Rs (f (k,n,b,m,c,x)) P) (herr:∀p c,r= .err p c→p<N→Rs (g ((T p).a,c)) P):
 Rs (o.bind fun z=>Sum.elim f g z) P:=by
 obtain⟨z,rfl,hp⟩:=h
 cases r with
 |ok a s=>cases z with
  |inl z=>obtain⟨k,n,b,m,c,x⟩:=z;exact hok a s k n b m c x rfl hp.1 hp.2
  |inr z=>exact hp.elim
 |err p c=>cases z with
  |inl z=>exact hp.elim
  |inr z=>obtain⟨h1,rfl⟩:=hp;exact herr p c rfl h1
 |out=>cases z<;>exact hp.elim
end
theorem levelOf_eq(q:Nat)(t:ByteArray):levelOf q t=some ((levP t:Nat):Int):=by
 unfold levelOf t_levelOf levP
 simp only[tl_eq]
 by_cases e0:t=sOr
 ·subst e0;rfl
 by_cases e1:t=sAnd
 ·subst e1;rfl
 by_cases e2:t=sLt
 ·subst e2;rfl
 by_cases e3:t=sLe
 ·subst e3;rfl
 by_cases e4:t=sGt
 ·subst e4;rfl
 by_cases e5:t=sGe
 ·subst e5;rfl
 by_cases e6:t=sEq
 ·subst e6;rfl
 by_cases e7:t=sNe
 ·subst e7;rfl
 by_cases e8:t=sAdd
 ·subst e8;rfl
 by_cases e9:t=sSub
 ·subst e9;rfl
 by_cases e10:t=sMul
 ·subst e10;rfl
 by_cases e11:t=sDiv
 ·subst e11;rfl
 simp only[e0,e1,e2,e3,e4,e5,e6,e7,e8,e9,e10,e11,or_self,if_false]
 rfl
section
variable {N:Nat} {T:Nat→Tkn} {pr:List ByteArray} {s:PS} {x:StT}
theorem literal_rs(hT:TokN N T)(q:Nat)(h:RS N T pr s x):Rs (literal q x) (PN N T pr (litP T s)):=by
 unfold literal
 refine Rs.map (P:=fun y=>PN N T pr (litP T s) (cv_literal y)) ?_ fun z hz=>hz
 unfold literalR t_literalR litP
 refine PX.bind (number_rs hT q h 0 2147483647) (fun n s1 x1 e h1=>?_) (fun p c e hp=>?_)
 ·rw[e]
  dsimp only[PR.bind]
  rw[next_eq q h1]
  dsimp only[Option.bind_some]
  by_cases hk:(T s1.p).k=1
  ·refine Rs.pos (by simp[hk]) ?_
   refine Rs.bind (Lookup_rs q (T s1.p).t) fun z hz=>?_
   by_cases hu:unitP (T s1.p).t=true
   ·refine Rs.pos (hz.trans hu) (Rs.some ?_)
    rw[if_pos (show _∧_ from⟨hk,hu⟩)]
    exact⟨RepN.leaf,RS.adv hT h1 (.inr (by rw[hk];decide))⟩
   ·refine Rs.neg (by rw[hz];exact hu) (Rs.some ?_)
    rw[if_neg (show¬(_∧_)from fun h=>hu h.2)]
    exact⟨RepN.leaf,h1⟩
  ·refine Rs.neg (by simp[hk]) (Rs.some ?_)
   rw[if_neg (show¬(_∧_)from fun h=>hk h.1)]
   exact⟨RepN.leaf,h1⟩
 ·rw[e]
  exact Rs.some ⟨hp,rfl⟩
end
end Go.Proofs.YtjfkkokeegpeiaaGreatDoor
/- Expressions are read as the plain parser reads them (2). -/
namespace Go.Proofs.YtjfkkokeegpeiaaGreatDoor
open Go Go.Am Go.Proofs.Lx
set_option maxRecDepth 100000
abbrev Y0:Type:=Nat×(Nat→Int)×(Nat→Int)×(Nat→ByteArray)×(Nat→Int)×Int×Int×Nat×Nat×(Nat→ByteArray)×(Nat→ByteArray)×NodeT
abbrev Y1:Type:=Nat×(Nat→Int)×(Nat→Int)×(Nat→ByteArray)×(Nat→Int)×Int×Int×Nat×Nat×(Nat→ByteArray)×(Nat→ByteArray)×ByteArray×Int×Int×ByteArray×Nat×(Nat→List V)×NodeT
def y0(x:StT)(n:NodeT):Y0:=(x.2.2.1,x.2.2.2.1,x.2.2.2.2.1,x.2.2.2.2.2.1,x.2.2.2.2.2.2.1,x.1,x.2.1,x.2.2.2.2.2.2.2.1,x.2.2.2.2.2.2.2.2.2.1,x.2.2.2.2.2.2.2.2.1,x.2.2.2.2.2.2.2.2.2.2,n)
def y1(x:StT)(op:ByteArray)(a b:NodeT):Y1:=(x.2.2.1,x.2.2.2.1,x.2.2.2.2.1,x.2.2.2.2.2.1,x.2.2.2.2.2.2.1,x.1,x.2.1,x.2.2.2.2.2.2.2.1,x.2.2.2.2.2.2.2.2.2.1,x.2.2.2.2.2.2.2.2.1,x.2.2.2.2.2.2.2.2.2.2,op,a.1,a.2.1,a.2.2.1,a.2.2.2.1,a.2.2.2.2,b)
def LP(N:Nat)(T:Nat→Tkn)(pr:List ByteArray):PR Tr→exprR_l1_g→Prop
 | .ok t s,.inl z=>∃x op a b ta tb,z=y1 x op a b∧t= .node 20 0 op [ta,tb]∧RepN ta a∧RepN tb b∧RS N T pr s x
 | .ok t s,.inr (.inr z)=>∃x n,z=y0 x n∧RepN t n∧RS N T pr s x
 | .err p c,.inr (.inl e)=>p<N∧e=((T p).a,c)
 |_,_=>False
def LS(n:Tr)(x:StT):exprR_l1_a→Prop
 | .inl y=>∃a,y=y0 x a∧RepN n a
 | .inr y=>∃op a b ta tb,y=y1 x op a b∧n= .node 20 0 op [ta,tb]∧RepN ta a∧RepN tb b
section
variable {N:Nat} {T:Nat→Tkn} {pr:List ByteArray}
def HE(N:Nat)(T:Nat→Tkn)(pr:List ByteArray)(f q:Nat):Prop:=∀g,g≤f→∀lv,1≤lv→lv≤8→∀(s:PS) (x:StT),RS N T pr s x→exprP T g lv s≠ .out→Rs (expr q (((lv:Nat):Int),x)) (PN N T pr (exprP T g lv s))
theorem ops_loop(hT:TokN N T){f q:Nat}(hE:HE N T pr f q)(lv:Nat)(hl1:1≤lv)(hl:lv≤7)(x0:StT):∀(g:Nat),g≤f→∀(m:Nat),g<m→∀(n:Tr) (s:PS) (x:StT) (y:exprR_l1_a),LS n x y→RS N T pr s x→opsP T g lv n s≠ .out→
 Rs (exprR_l1 (is q) (unary q) (primary q) (expr q) (next q) (levelOf q) m (((lv:Nat):Int),x0) y) (LP N T pr (opsP T g lv n s)):=by
 intro g
 induction g with
 |zero=>intro _ m _ n s x y _ _ ho;exact absurd rfl ho
 |succ g ih=>
  intro hg m hm n s x y hy h ho
  obtain⟨m,rfl⟩:∃k,m=k+1:=⟨m-1,by omega⟩
  unfold exprR_l1
  refine Rs.step3 fun Q hQ=>?_
  have h0:=h
  obtain⟨v,u,rfl,h1,h2,h3,h4,h5,h6⟩:=h
  have hN:=hT.big
  have hop:opsP T (g+1) lv n s=if levP (T s.p).t=lv∧(T s.p).k=3 then(exprP T g (lv+1) (adv s)).bind fun m s'=>if lv=4 then .ok (.node 20 0 (T s.p).t [n,m]) s' else opsP T g lv (.node 20 0 (T s.p).t [n,m]) s' else .ok n s:=by rw[opsP]
  rcases y with y|y
  ·obtain⟨a,rfl,ha⟩:=hy
   rw[Sum.elim_inl]
   unfold exprR_l1_t0
   dsimp only[y0,y1]
   rw[next_eq q (s:=s) (pr:=pr) (N:=N) (T:=T) h0]
   dsimp only[Option.bind_some]
   rw[levelOf_eq]
   dsimp only[Option.bind_some]
   by_cases hlv:levP (T s.p).t=lv
   ·refine Rs.pos (by simp[hlv]) ?_
    rw[next_eq q (s:=s) (pr:=pr) (N:=N) (T:=T) h0]
    dsimp only[Option.bind_some]
    by_cases hk:(T s.p).k=3
    ·refine Rs.pos (by simp[hk]) ?_
     rw[next_eq q (s:=s) (pr:=pr) (N:=N) (T:=T) h0]
     dsimp only[Option.bind_some]
     rw[if_pos ⟨hlv,hk⟩]at hop
     rw[w_succ (i:=lv) (by omega)]
     have hadv:=RS.adv hT h0 (.inr (by rw[hk];decide))
     refine PN.bind (hE g (by omega) (lv+1) (by omega) (by omega) (adv s) _ hadv (PR.bind_out (hop▸ho))) (fun t s2 k1 n1 b1 m1 c1 x1 e hr hx=>?_) (fun p c e hp=>?_)
     ·rw[e]at hop
      dsimp only[PR.bind]at hop
      by_cases h4':lv=4
      ·rw[if_pos h4']at hop
       refine Rs.pos (by simp[h4']) (Rs.some ?_)
       show LP N T pr (opsP T (g+1) lv _ s) _
       rw[hop]
       exact⟨x1,_,a,(k1,n1,b1,m1,c1),_,t,rfl,rfl,ha,hr,hx⟩
      ·rw[if_neg h4']at hop
       refine Rs.neg (by simp;omega) (Rs.some ?_)
       refine hQ _ ?_
       rw[hop]
       exact ih (by omega) m (by omega) _ s2 x1 (.inr (y1 x1 (T s.p).t a (k1,n1,b1,m1,c1))) ⟨_,a,(k1,n1,b1,m1,c1),_,t,rfl,rfl,ha,hr⟩ hx (hop▸ho)
     ·refine Rs.some ?_
      show LP N T pr (opsP T (g+1) lv _ s) _
      rw[hop,e]
      exact⟨hp,rfl⟩
    ·refine Rs.neg (by simp[hk]) (Rs.some ?_)
     rw[if_neg (fun h=>hk h.2)]at hop
     show LP N T pr (opsP T (g+1) lv _ s) _
     rw[hop]
     exact⟨_,a,rfl,ha,h0⟩
   ·refine Rs.neg (fun hh=>hlv (by have hh:=(by simpa using hh:((levP (T s.p).t:Nat):Int)=lv);omega)) (Rs.some ?_)
    rw[if_neg (fun h=>hlv h.1)]at hop
    show LP N T pr (opsP T (g+1) lv _ s) _
    rw[hop]
    exact⟨_,a,rfl,ha,h0⟩
  ·obtain⟨op,a,b,ta,tb,rfl,rfl,ha,hb⟩:=hy
   have hab:RepN (.node 20 0 op [ta,tb]) (20,0,op,2,fun j=>[i64 (if 0+j=0 then a.1 else b.1),i64 (if 0+j=0 then a.2.1 else b.2.1),st (if 0+j=0 then a.2.2.1 else b.2.2.1),.ro 4 (if 0+j=0 then a.2.2.2.1 else b.2.2.2.1) fun i=>if 0+j=0 then a.2.2.2.2 i else b.2.2.2.2 i]):=by
    simp only[RepN,RepL,List.length_cons,List.length_nil]
    exact⟨trivial,trivial,trivial,trivial,⟨a,rfl,ha⟩,⟨b,rfl,hb⟩,trivial⟩
   rw[Sum.elim_inr]
   unfold exprR_l1_t1
   dsimp only[y0,y1]
   rw[next_eq q (s:=s) (pr:=pr) (N:=N) (T:=T) h0]
   dsimp only[Option.bind_some]
   rw[levelOf_eq]
   dsimp only[Option.bind_some]
   by_cases hlv:levP (T s.p).t=lv
   ·refine Rs.pos (by simp[hlv]) ?_
    rw[next_eq q (s:=s) (pr:=pr) (N:=N) (T:=T) h0]
    dsimp only[Option.bind_some]
    by_cases hk:(T s.p).k=3
    ·refine Rs.pos (by simp[hk]) ?_
     rw[next_eq q (s:=s) (pr:=pr) (N:=N) (T:=T) h0]
     dsimp only[Option.bind_some]
     rw[if_pos ⟨hlv,hk⟩]at hop
     rw[w_succ (i:=lv) (by omega)]
     have hadv:=RS.adv hT h0 (.inr (by rw[hk];decide))
     refine PN.bind (hE g (by omega) (lv+1) (by omega) (by omega) (adv s) _ hadv (PR.bind_out (hop▸ho))) (fun t s2 k1 n1 b1 m1 c1 x1 e hr hx=>?_) (fun p c e hp=>?_)
     ·rw[e]at hop
      dsimp only[PR.bind]at hop
      by_cases h4':lv=4
      ·rw[if_pos h4']at hop
       refine Rs.pos (by simp[h4']) (Rs.some ?_)
       show LP N T pr (opsP T (g+1) lv _ s) _
       rw[hop]
       exact⟨x1,_,(20,0,op,2,fun j=>[i64 (if 0+j=0 then a.1 else b.1),i64 (if 0+j=0 then a.2.1 else b.2.1),st (if 0+j=0 then a.2.2.1 else b.2.2.1),.ro 4 (if 0+j=0 then a.2.2.2.1 else b.2.2.2.1) fun i=>if 0+j=0 then a.2.2.2.2 i else b.2.2.2.2 i]),(k1,n1,b1,m1,c1),_,t,rfl,rfl,hab,hr,hx⟩
      ·rw[if_neg h4']at hop
       refine Rs.neg (by simp;omega) (Rs.some ?_)
       refine hQ _ ?_
       rw[hop]
       exact ih (by omega) m (by omega) _ s2 x1 (.inr (y1 x1 (T s.p).t (20,0,op,2,fun j=>[i64 (if 0+j=0 then a.1 else b.1),i64 (if 0+j=0 then a.2.1 else b.2.1),st (if 0+j=0 then a.2.2.1 else b.2.2.1),.ro 4 (if 0+j=0 then a.2.2.2.1 else b.2.2.2.1) fun i=>if 0+j=0 then a.2.2.2.2 i else b.2.2.2.2 i]) (k1,n1,b1,m1,c1))) ⟨_,(20,0,op,2,fun j=>[i64 (if 0+j=0 then a.1 else b.1),i64 (if 0+j=0 then a.2.1 else b.2.1),st (if 0+j=0 then a.2.2.1 else b.2.2.1),.ro 4 (if 0+j=0 then a.2.2.2.1 else b.2.2.2.1) fun i=>if 0+j=0 then a.2.2.2.2 i else b.2.2.2.2 i]),(k1,n1,b1,m1,c1),_,t,rfl,rfl,hab,hr⟩ hx (hop▸ho)
     ·refine Rs.some ?_
      show LP N T pr (opsP T (g+1) lv _ s) _
      rw[hop,e]
      exact⟨hp,rfl⟩
    ·refine Rs.neg (by simp[hk]) (Rs.some ?_)
     rw[if_neg (fun h=>hk h.2)]at hop
     show LP N T pr (opsP T (g+1) lv _ s) _
     rw[hop]
     exact⟨_,op,a,b,ta,tb,rfl,rfl,ha,hb,h0⟩
   ·refine Rs.neg (fun hh=>hlv (by have hh:=(by simpa using hh:((levP (T s.p).t:Nat):Int)=lv);omega)) (Rs.some ?_)
    rw[if_neg (fun h=>hlv h.1)]at hop
    show LP N T pr (opsP T (g+1) lv _ s) _
    rw[hop]
    exact⟨_,op,a,b,ta,tb,rfl,rfl,ha,hb,h0⟩
end
end Go.Proofs.YtjfkkokeegpeiaaGreatDoor
/- Expressions are read as the plain parser reads them (3). -/
namespace Go.Proofs.YtjfkkokeegpeiaaGreatDoor
open Go Go.Am Go.Proofs.Lx
set_option maxRecDepth 100000
section
variable {N:Nat} {T:Nat→Tkn} {pr:List ByteArray}
def HU(N:Nat)(T:Nat→Tkn)(pr:List ByteArray)(f q:Nat):Prop:=∀g,g≤f→∀b:ByteArray,b≠⟨#[]⟩→∀lv,1≤lv→lv≤8→∀(s:PS) (x:StT),RS N T pr s x→unaryP T g b lv s≠ .out→Rs (unary q (b,((lv:Nat):Int),x)) (PN N T pr (unaryP T g b lv s))
def HP(N:Nat)(T:Nat→Tkn)(pr:List ByteArray)(f q:Nat):Prop:=∀g,g≤f→∀(s:PS) (x:StT),RS N T pr s x→primP T g s≠ .out→Rs (primary q x) (PN N T pr (primP T g s))
theorem RS.close{s:PS}{x:StT}(hT:TokN N T)(h:RS N T pr s x)(ho:1≤s.o):RS N T pr (closeP s) (x.1,w (x.2.1-1),x.2.2):=by
 obtain⟨v,u,rfl,h1,h2,h3,h4,h5,h6⟩:=h
 refine⟨v,u,?_,h1,h2,h3,(by show s.o-1≤12;omega),h5,h6⟩
 show(((s.p:Nat):Int),w (((s.o:Nat):Int)-1),_)=_
 rw[w_in (by omega) (by omega)]
 have e:((s.o:Nat):Int)-1=((s.o-1:Nat):Int):=by omega
 rw[e]
 rfl
end
section
variable {T:Nat→Tkn}
def Op{α:Type}(o:Nat):PR α→Prop
 | .ok _ s=>s.o=o
 |_=>True
theorem Op.bind{α β:Type}{o o':Nat}{r:PR α}{k:α→PS→PR β}(h:Op o r)(hk:∀a s,s.o=o→Op o' (k a s)):Op o' (r.bind k):=by
 cases r with
 |ok a s=>exact hk a s h
 |err p c=>trivial
 |out=>trivial
theorem must_op(b:ByteArray)(s:PS):Op s.o (mustP T b s):=by unfold mustP;split<;>trivial
theorem name_op(s:PS):Op s.o (nameP T s):=by unfold nameP;split<;>trivial
theorem num_op(lo hi:Int)(s:PS):Op s.o (numP T lo hi s):=by unfold numP;repeat' (split<;>try trivial)
theorem opens_op(b:ByteArray)(s:PS):Op (s.o+1) (opensP T b s):=by unfold opensP;repeat' (split<;>try trivial)
theorem lit_op(s:PS):Op s.o (litP T s):=by
 unfold litP
 refine(num_op 0 2147483647 s).bind fun a s1 h=>?_
 split
 ·exact h
 ·exact h
theorem expr_op:∀f,(∀lv s,Op s.o (exprP T f lv s))∧(∀lv n s,Op s.o (opsP T f lv n s))∧(∀b lv s,Op s.o (unaryP T f b lv s))∧(∀s,Op s.o (primP T f s)):=by
 intro f
 induction f with
 |zero=>exact⟨fun _ _=>by rw[exprP];trivial,fun _ _ _=>by rw[opsP];trivial,fun _ _ _=>by rw[unaryP];trivial,fun _=>by rw[primP];trivial⟩
 |succ f ih=>
  obtain⟨h1,h2,h3,h4⟩:=ih
  refine⟨fun lv s=>?_,fun lv n s=>?_,fun b lv s=>?_,fun s=>?_⟩
  ·rw[exprP]
   split
   ·exact h3 _ _ _
   ·split
    ·exact h3 _ _ _
    ·split
     ·exact h4 _
     ·refine(h1 _ _).bind fun a s1 e=>?_
      rw[←e];exact h2 _ _ _
  ·rw[opsP]
   split
   ·refine(h1 (lv+1) (adv s)).bind fun a s1 e=>?_
    split
    ·exact e
    ·have:=h2 lv (.node 20 0 (T s.p).t [n,a]) s1
     rw[e]at this;exact this
   ·rfl
  ·rw[unaryP]
   refine(opens_op b s).bind fun _ s1 e1=>(h1 lv s1).bind fun n s2 e2=>?_
   show s2.o-1=s.o
   omega
  ·rw[primP]
   split
   ·exact lit_op s
   ·split
    ·rfl
    ·split
     ·rfl
     ·split
      ·exact(must_op sDot (adv s)).bind fun _ s1 e1=>by
        have:=name_op (T:=T) s1
        rw[e1]at this
        exact this.bind fun x s2 e2=>e2
      ·split
       ·refine(opens_op sLPar s).bind fun _ s1 e1=>(h1 1 s1).bind fun n s2 e2=>(must_op sRPar s2).bind fun _ s3 e3=>?_
        show s3.o-1=s.o
        omega
       ·exact(name_op s).bind fun x s1 e1=>e1
end
end Go.Proofs.YtjfkkokeegpeiaaGreatDoor
/- Expressions are read as the plain parser reads them (4). -/
namespace Go.Proofs.YtjfkkokeegpeiaaGreatDoor
open Go Go.Am Go.Proofs.Lx
set_option maxRecDepth 100000
section
variable {N:Nat} {T:Nat→Tkn} {pr:List ByteArray}
theorem expr_step(hT:TokN N T){f q:Nat}(hq:f<q)(hE:HE N T pr f q)(hU:HU N T pr f q)(hP:HP N T pr f q)(lv:Nat)(hl1:1≤lv)(hl:lv≤8)(s:PS)(x:StT)(h:RS N T pr s x)(ho:exprP T (f+1) lv s≠ .out):
 Rs (expr (q+1) (((lv:Nat):Int),x)) (PN N T pr (exprP T (f+1) lv s)):=by
 show Rs ((t_exprR (is q) (unary q) (primary q) (expr q) (next q) (levelOf q) (exprR_l1 (is q) (unary q) (primary q) (expr q) (next q) (levelOf q) q (((lv:Nat):Int),x)) (((lv:Nat):Int),x) some).map cv_expr) _
 refine Rs.map (P:=fun y=>PN N T pr (exprP T (f+1) lv s) (cv_expr y)) ?_ fun z hz=>hz
 unfold t_exprR
 dsimp only
 have hop:exprP T (f+1) lv s=if lv=3∧isP T sNot s=true then unaryP T f sNot 3 s else if lv=7∧isP T sSub s=true then unaryP T f sSub 7 s else if lv=8 then primP T f s else(exprP T f (lv+1) s).bind fun n s'=>opsP T f lv n s':=by rw[exprP]
 by_cases h3:lv=3
 ·refine Rs.pos (by simp[h3]) ?_
  rw[is_eq q h]
  dsimp only[Option.bind_some]
  by_cases hi:isP T sNot s=true
  ·rw[if_pos ⟨h3,hi⟩]at hop
   refine Rs.pos hi ?_
   refine PN.bind (hU f (Nat.le_refl _) sNot (by decide) 3 (by decide) (by decide) s x h (hop▸ho)) (fun t s1 k n b m c x1 e hr hx=>?_) (fun p c e hp=>?_)
   ·rw[hop,e];exact Rs.some ⟨hr,hx⟩
   ·rw[hop,e];exact Rs.some ⟨hp,rfl⟩
  ·rw[if_neg (fun h=>hi h.2),if_neg (fun h=>by omega),if_neg (by omega)]at hop
   refine Rs.neg hi (Rs.neg (by simp;omega) (Rs.neg (by simp;omega) ?_))
   rw[w_succ (i:=lv) (by omega)]
   refine PN.bind (hE f (Nat.le_refl _) (lv+1) (by omega) (by omega) s x h (PR.bind_out (hop▸ho))) (fun t s1 k n b m c x1 e hr hx=>?_) (fun p c e hp=>?_)
   ·rw[e]at hop
    dsimp only[PR.bind]at hop
    refine Rs.bind (ops_loop hT hE lv hl1 (by omega) x f (Nat.le_refl _) q (by omega) t s1 x1 (.inl (y0 x1 (k,n,b,m,c))) ⟨_,rfl,hr⟩ hx (hop▸ho)) (fun z hz=>?_)
    rw[hop]
    cases hr2:opsP T f lv t s1 with
    |out=>rw[hop,hr2]at ho;exact absurd rfl ho
    |err p c=>
     rw[hr2]at hz
     rcases z with z|z|z
     ·exact hz.elim
     ·exact Rs.some hz
     ·exact hz.elim
    |ok a s2=>
     rw[hr2]at hz
     rcases z with z|z|z
     ·obtain⟨x2,op,na,nb,ta,tb,rfl,rfl,g1,g2,g3⟩:=hz
      exact Rs.some ⟨RepN.k2 g1 g2,g3⟩
     ·exact hz.elim
     ·obtain⟨x2,nd,rfl,g1,g3⟩:=hz
      exact Rs.some ⟨g1,g3⟩
   ·rw[hop,e]
    exact Rs.some ⟨hp,rfl⟩
 ·refine Rs.neg (by simp;omega) ?_
  rw[if_neg (fun h=>h3 h.1)]at hop
  by_cases h7:lv=7
  ·refine Rs.pos (by simp[h7]) ?_
   rw[is_eq q h]
   dsimp only[Option.bind_some]
   by_cases hi:isP T sSub s=true
   ·rw[if_pos ⟨h7,hi⟩]at hop
    refine Rs.pos hi ?_
    refine PN.bind (hU f (Nat.le_refl _) sSub (by decide) 7 (by decide) (by decide) s x h (hop▸ho)) (fun t s1 k n b m c x1 e hr hx=>?_) (fun p c e hp=>?_)
    ·rw[hop,e];exact Rs.some ⟨hr,hx⟩
    ·rw[hop,e];exact Rs.some ⟨hp,rfl⟩
   ·rw[if_neg (fun h=>hi h.2),if_neg (by omega)]at hop
    refine Rs.neg hi (Rs.neg (by simp;omega) ?_)
    rw[w_succ (i:=lv) (by omega)]
    refine PN.bind (hE f (Nat.le_refl _) (lv+1) (by omega) (by omega) s x h (PR.bind_out (hop▸ho))) (fun t s1 k n b m c x1 e hr hx=>?_) (fun p c e hp=>?_)
    ·rw[e]at hop
     dsimp only[PR.bind]at hop
     refine Rs.bind (ops_loop hT hE lv hl1 (by omega) x f (Nat.le_refl _) q (by omega) t s1 x1 (.inl (y0 x1 (k,n,b,m,c))) ⟨_,rfl,hr⟩ hx (hop▸ho)) (fun z hz=>?_)
     rw[hop]
     cases hr2:opsP T f lv t s1 with
     |out=>rw[hop,hr2]at ho;exact absurd rfl ho
     |err p c=>
      rw[hr2]at hz
      rcases z with z|z|z
      ·exact hz.elim
      ·exact Rs.some hz
      ·exact hz.elim
     |ok a s2=>
      rw[hr2]at hz
      rcases z with z|z|z
      ·obtain⟨x2,op,na,nb,ta,tb,rfl,rfl,g1,g2,g3⟩:=hz
       exact Rs.some ⟨RepN.k2 g1 g2,g3⟩
      ·exact hz.elim
      ·obtain⟨x2,nd,rfl,g1,g3⟩:=hz
       exact Rs.some ⟨g1,g3⟩
    ·rw[hop,e]
     exact Rs.some ⟨hp,rfl⟩
  ·refine Rs.neg (by simp;omega) ?_
   rw[if_neg (fun h=>h7 h.1)]at hop
   by_cases h8:lv=8
   ·rw[if_pos h8]at hop
    refine Rs.pos (by simp[h8]) ?_
    refine PN.bind (hP f (Nat.le_refl _) s x h (hop▸ho)) (fun t s1 k n b m c x1 e hr hx=>?_) (fun p c e hp=>?_)
    ·rw[hop,e];exact Rs.some ⟨hr,hx⟩
    ·rw[hop,e];exact Rs.some ⟨hp,rfl⟩
   ·rw[if_neg h8]at hop
    refine Rs.neg (by simp;omega) ?_
    rw[w_succ (i:=lv) (by omega)]
    refine PN.bind (hE f (Nat.le_refl _) (lv+1) (by omega) (by omega) s x h (PR.bind_out (hop▸ho))) (fun t s1 k n b m c x1 e hr hx=>?_) (fun p c e hp=>?_)
    ·rw[e]at hop
     dsimp only[PR.bind]at hop
     refine Rs.bind (ops_loop hT hE lv hl1 (by omega) x f (Nat.le_refl _) q (by omega) t s1 x1 (.inl (y0 x1 (k,n,b,m,c))) ⟨_,rfl,hr⟩ hx (hop▸ho)) (fun z hz=>?_)
     rw[hop]
     cases hr2:opsP T f lv t s1 with
     |out=>rw[hop,hr2]at ho;exact absurd rfl ho
     |err p c=>
      rw[hr2]at hz
      rcases z with z|z|z
      ·exact hz.elim
      ·exact Rs.some hz
      ·exact hz.elim
     |ok a s2=>
      rw[hr2]at hz
      rcases z with z|z|z
      ·obtain⟨x2,op,na,nb,ta,tb,rfl,rfl,g1,g2,g3⟩:=hz
       exact Rs.some ⟨RepN.k2 g1 g2,g3⟩
      ·exact hz.elim
      ·obtain⟨x2,nd,rfl,g1,g3⟩:=hz
       exact Rs.some ⟨g1,g3⟩
    ·rw[hop,e]
     exact Rs.some ⟨hp,rfl⟩
theorem unary_step(hT:TokN N T){f q:Nat}(hE:HE N T pr f q)(b:ByteArray)(hb:b≠⟨#[]⟩)(lv:Nat)(hl1:1≤lv)(hl:lv≤8)(s:PS)(x:StT)(h:RS N T pr s x)(ho:unaryP T (f+1) b lv s≠ .out):
 Rs (unary (q+1) (b,((lv:Nat):Int),x)) (PN N T pr (unaryP T (f+1) b lv s)):=by
 show Rs ((t_unaryR (opens q) (expr q) (b,((lv:Nat):Int),x) some).map cv_unary) _
 refine Rs.map (P:=fun y=>PN N T pr (unaryP T (f+1) b lv s) (cv_unary y)) ?_ fun z hz=>hz
 unfold t_unaryR
 dsimp only
 have hop:unaryP T (f+1) b lv s=(opensP T b s).bind fun _ s1=>(exprP T f lv s1).bind fun n s2=>.ok (.node 19 0 b [n]) (closeP s2):=by rw[unaryP]
 refine PU.bind (opens_rs hT q h b hb) (fun s1 x1 e1 h1=>?_) (fun p c e hp=>?_)
 ·have o1:=opens_op (T:=T) b s
  rw[e1]at hop o1
  dsimp only[PR.bind]at hop
  refine PN.bind (hE f (Nat.le_refl _) lv hl1 hl s1 x1 h1 (PR.bind_out (hop▸ho))) (fun t s2 k n b m c x2 e hr hx=>?_) (fun p c e hp=>?_)
  ·have o2:=(expr_op (T:=T) f).1 lv s1
   rw[e]at hop o2
   rw[hop]
   have o1:s1.o=s.o+1:=o1
   have o2:s2.o=s1.o:=o2
   exact Rs.some ⟨RepN.k1 hr,hx.close hT (by omega)⟩
  ·rw[hop,e];exact Rs.some ⟨hp,rfl⟩
 ·rw[hop,e];exact Rs.some ⟨hp,rfl⟩
theorem prim_step(hT:TokN N T){f q:Nat}(hE:HE N T pr f q)(s:PS)(x:StT)(h:RS N T pr s x)(ho:primP T (f+1) s≠ .out):
 Rs (primary (q+1) x) (PN N T pr (primP T (f+1) s)):=by
 show Rs ((t_primaryR (next q) (literal q) (take q) (must q) (name q) (is q) (opens q) (expr q) x some).map cv_primary) _
 refine Rs.map (P:=fun y=>PN N T pr (primP T (f+1) s) (cv_primary y)) ?_ fun z hz=>hz
 unfold t_primaryR
 rw[next_eq q h]
 dsimp only[Option.bind_some]
 have hop:primP T (f+1) s=if(T s.p).k=2 then litP T s
  else if isP T w_true s=true then .ok (.node 16 1 ⟨#[]⟩ []) (adv s)
  else if isP T w_false s=true then .ok (.node 16 0 ⟨#[]⟩ []) (adv s)
  else if isP T w_tlm s=true then(mustP T sDot (adv s)).bind fun _ s1=>(nameP T s1).bind fun x s2=>.ok (.node 18 0 x []) s2
  else if isP T sLPar s=true then(opensP T sLPar s).bind fun _ s1=>(exprP T f 1 s1).bind fun n s2=>(mustP T sRPar s2).bind fun _ s3=>.ok n (closeP s3)
  else(nameP T s).bind fun x s1=>.ok (.node 17 0 x []) s1:=by rw[primP]
 by_cases hk:(T s.p).k=2
 ·rw[if_pos hk]at hop
  refine Rs.pos (by simp[hk]) ?_
  refine PN.bind (literal_rs hT q h) (fun t s1 k n b m c x1 e hr hx=>?_) (fun p c e hp=>?_)
  ·rw[hop,e];exact Rs.some ⟨hr,hx⟩
  ·rw[hop,e];exact Rs.some ⟨hp,rfl⟩
 ·rw[if_neg hk]at hop
  refine Rs.neg (by simp[hk]) ?_
  rw[take_eq q h]
  dsimp only[Option.bind_some]
  by_cases h1:isP T w_true s=true
  ·rw[if_pos h1]at hop⊢
   refine Rs.pos rfl ?_
   rw[hop]
   exact Rs.some ⟨RepN.leaf,RS.adv hT h (isP_ne (by decide) h1)⟩
  ·rw[if_neg h1]at hop⊢
   refine Rs.neg (by simp) ?_
   rw[take_eq q h]
   dsimp only[Option.bind_some]
   by_cases h2:isP T w_false s=true
   ·rw[if_pos h2]at hop⊢
    refine Rs.pos rfl ?_
    rw[hop]
    exact Rs.some ⟨RepN.leaf,RS.adv hT h (isP_ne (by decide) h2)⟩
   ·rw[if_neg h2]at hop⊢
    refine Rs.neg (by simp) ?_
    rw[take_eq q h]
    dsimp only[Option.bind_some]
    by_cases h3:isP T w_tlm s=true
    ·rw[if_pos h3]at hop⊢
     refine Rs.pos rfl ?_
     refine PU.bind (must_rs hT q (RS.adv hT h (isP_ne (by decide) h3)) sDot (by decide)) (fun s1 x1 e1 g1=>?_) (fun p c e hp=>?_)
     ·rw[e1]at hop
      dsimp only[PR.bind]at hop
      refine PX.bind (name_rs hT q g1) (fun a s2 x2 e2 g2=>?_) (fun p c e hp=>?_)
      ·rw[hop,e2]
       exact Rs.some ⟨RepN.leaf,g2⟩
      ·rw[hop,e];exact Rs.some ⟨hp,rfl⟩
     ·rw[hop,e];exact Rs.some ⟨hp,rfl⟩
    ·rw[if_neg h3]at hop⊢
     refine Rs.neg (by simp) ?_
     rw[is_eq q h]
     dsimp only[Option.bind_some]
     by_cases h4:isP T sLPar s=true
     ·rw[if_pos h4]at hop
      refine Rs.pos h4 ?_
      refine PU.bind (opens_rs hT q h sLPar (by decide)) (fun s1 x1 e1 g1=>?_) (fun p c e hp=>?_)
      ·have o1:=opens_op (T:=T) sLPar s
       rw[e1]at hop o1
       dsimp only[PR.bind]at hop
       refine PN.bind (hE f (Nat.le_refl _) 1 (by decide) (by decide) s1 x1 g1 (PR.bind_out (hop▸ho))) (fun t s2 k n b m c x2 e hr hx=>?_) (fun p c e hp=>?_)
       ·have o2:=(expr_op (T:=T) f).1 1 s1
        rw[e]at hop o2
        dsimp only[PR.bind]at hop
        refine PU.bind (must_rs hT q hx sRPar (by decide)) (fun s3 x3 e3 g3=>?_) (fun p c e hp=>?_)
        ·have o3:=must_op (T:=T) sRPar s2
         rw[e3]at hop o3
         have o1:s1.o=s.o+1:=o1
         have o2:s2.o=s1.o:=o2
         have o3:s3.o=s2.o:=o3
         rw[hop]
         exact Rs.some ⟨hr,g3.close hT (by omega)⟩
        ·rw[hop,e];exact Rs.some ⟨hp,rfl⟩
       ·rw[hop,e];exact Rs.some ⟨hp,rfl⟩
      ·rw[hop,e];exact Rs.some ⟨hp,rfl⟩
     ·rw[if_neg h4]at hop
      refine Rs.neg h4 ?_
      refine PX.bind (name_rs hT q h) (fun a s2 x2 e2 g2=>?_) (fun p c e hp=>?_)
      ·rw[hop,e2]
       exact Rs.some ⟨RepN.leaf,g2⟩
      ·rw[hop,e];exact Rs.some ⟨hp,rfl⟩
theorem exprs(hT:TokN N T):∀f q,f+1≤q→HE N T pr f q∧HU N T pr f q∧HP N T pr f q:=by
 intro f
 induction f with
 |zero=>
  intro q _
  refine⟨fun g hg lv _ _ s x _ ho=>?_,fun g hg b _ lv _ _ s x _ ho=>?_,fun g hg s x _ ho=>?_⟩
  all_goals
   obtain rfl:g=0:=by omega
  ·rw[exprP]at ho;exact absurd rfl ho
  ·rw[unaryP]at ho;exact absurd rfl ho
  ·rw[primP]at ho;exact absurd rfl ho
 |succ f ih=>
  intro q hq
  obtain⟨q,rfl⟩:∃k,q=k+1:=⟨q-1,by omega⟩
  obtain⟨a1,a2,a3⟩:=ih (q+1) (by omega)
  obtain⟨b1,b2,b3⟩:=ih q (by omega)
  refine⟨fun g hg lv h1 h2 s x h ho=>?_,fun g hg b hb lv h1 h2 s x h ho=>?_,fun g hg s x h ho=>?_⟩
  ·by_cases e:g≤f
   ·exact a1 g e lv h1 h2 s x h ho
   ·obtain rfl:g=f+1:=by omega
    exact expr_step hT (by omega) b1 b2 b3 lv h1 h2 s x h ho
  ·by_cases e:g≤f
   ·exact a2 g e b hb lv h1 h2 s x h ho
   ·obtain rfl:g=f+1:=by omega
    exact unary_step hT b1 b hb lv h1 h2 s x h ho
  ·by_cases e:g≤f
   ·exact a3 g e s x h ho
   ·obtain rfl:g=f+1:=by omega
    exact prim_step hT b1 s x h ho
end
end Go.Proofs.YtjfkkokeegpeiaaGreatDoor
/- Statements, lifted. -/
namespace Go.Proofs.YtjfkkokeegpeiaaGreatDoor
open Go Go.Am Go.Proofs
set_option maxRecDepth 100000
abbrev a_assignR:Type:=SP
abbrev g_assignR:Type:=(Int×Int×ByteArray×Int×Int×ByteArray×Nat×FL×SP)⊕(Int×Int)
def A_assignR:AR a_assignR:=fun x=>([.ptr 0 0],(hHP x))
def R_assignR:g_assignR→CRes:=Sum.elim (fun z:Int×Int×ByteArray×Int×Int×ByteArray×Nat×FL×SP=>.ret (.agg [i64 z.1,i64 z.2.1,st z.2.2.1,.sl 3 4 0 1]) [some (.blk [.ro 4 z.2.2.2.2.2.2.2.2.2.2.1 (fun j=>[i64 (z.2.2.2.2.2.2.2.2.2.2.2.1 j),i64 (z.2.2.2.2.2.2.2.2.2.2.2.2.1 j),st (z.2.2.2.2.2.2.2.2.2.2.2.2.2.1 j),i64 (z.2.2.2.2.2.2.2.2.2.2.2.2.2.2.1 j)]),i64 z.2.2.2.2.2.2.2.2.1,i64 z.2.2.2.2.2.2.2.2.2.1,.sl 1 1 0 z.2.2.2.2.2.2.2.2.2.2.2.2.2.2.2.1,.sl 2 1 0 z.2.2.2.2.2.2.2.2.2.2.2.2.2.2.2.2.2.1]),some (.row 9 1 z.2.2.2.2.2.2.2.2.2.2.2.2.2.2.2.1 (fun j=>[st (z.2.2.2.2.2.2.2.2.2.2.2.2.2.2.2.2.1 j)])),some (.row 9 1 z.2.2.2.2.2.2.2.2.2.2.2.2.2.2.2.2.2.1 (fun j=>[st (z.2.2.2.2.2.2.2.2.2.2.2.2.2.2.2.2.2.2 j)])),some (.row 35 4 1 (selL [[i64 z.2.2.2.1,i64 z.2.2.2.2.1,st z.2.2.2.2.2.1,.ro 4 z.2.2.2.2.2.2.1 z.2.2.2.2.2.2.2.1]]))]) (fun z:Int×Int=>.pan (.ifc 45 (.agg [i64 z.1,i64 z.2])))
def t_assignR{β:Type}(c_name:a_name→Option g_name)(c_must:a_must→Option g_must)(c_expr:a_expr→Option g_expr)(x:a_assignR)(dn:g_assignR→Option β):Option β:=
 (c_name x).bind fun z11=>Sum.elim (fun z11a=>(c_must (⟨#[61]⟩,z11a.2)).bind fun z24=>Sum.elim (fun z24a=>(c_expr (1,z24a)).bind fun z37=>Sum.elim (fun z37a=>dn (.inl (2,0,z11a.1,z37a))) (fun z37b=>dn (.inr z37b)) z37) (fun z24b=>dn (.inr z24b)) z24) (fun z11b=>dn (.inr z11b)) z11
theorem n_assignR{β:Type}(c_name c_must c_expr)(x)(dn:g_assignR→Option β):t_assignR c_name c_must c_expr x dn=(t_assignR c_name c_must c_expr x some).bind dn:=by
 unfold t_assignR
 repeat' first|exact n0|refine n1 fun _=>?_|refine n2 ?_ ?_|refine n3 (fun _=>?_) fun _=>?_|rfl
theorem r_assignR(c_name c_must c_expr)(x):callK E5 (ft2 54 A_name R_name c_name (ft2 53 A_must R_must c_must (ft2 136 A_expr R_expr c_expr ca0))) lo0 118 (A_assignR x).1 (A_assignR x).2 K=t_assignR (vf A_name c_name) (vf A_must c_must) (vf A_expr c_expr) x (fun z=>some (.c (R_assignR z))):=by kernel_rfl
noncomputable def assignR(q:Nat)(x:a_assignR):Option g_assignR:=t_assignR (name q) (must q) (expr q) x some
theorem sc_assignR(q:Nat):Lw E5 118 A_assignR R_assignR (assignR q):=sof hW5 hX5 (fk2 (sc_name q) (fk2 (sc_must q) (fk2 (sc_expr q) ca0_sound))) (fun _=>lo0_sound) fun x=>(r_assignR (name q) (must q) (expr q) x).trans (by rw[v_name,v_must,v_expr,n_assignR]<;>rfl)
abbrev a_assign:Type:=SP
abbrev g_assign:Type:=(Int×Int×ByteArray×Nat×FL×SP)⊕(Int×Int)
def A_assign:AR a_assign:=fun x=>([.ptr 0 0],(hHP x))
def d_assign(t:TT):a_assign:=(dHP t.2)
theorem v_assign:VI A_assign:=vd d_assign fun _=>rfl
def R_assign:g_assign→CRes:=Sum.elim (fun z:Int×Int×ByteArray×Nat×FL×SP=>.ret (.agg [i64 z.1,i64 z.2.1,st z.2.2.1,.ro 4 z.2.2.2.1 z.2.2.2.2.1]) (hHP z.2.2.2.2.2)) (fun z:Int×Int=>.pan (.ifc 45 (.agg [i64 z.1,i64 z.2])))
def cv_assign:g_assignR→g_assign:=Sum.elim (fun z=>.inl (z.1,z.2.1,z.2.2.1,1,selL [[i64 z.2.2.2.1,i64 z.2.2.2.2.1,st z.2.2.2.2.2.1,.ro 4 z.2.2.2.2.2.2.1 z.2.2.2.2.2.2.2.1]],z.2.2.2.2.2.2.2.2)) (fun z=>.inr z)
theorem cvs_assign{args:List V}{L:List (Option Chunk)}(z:g_assignR)(h:SC E5 118 args L (R_assignR z)):SC E5 118 args L (R_assign (cv_assign z)):=by
 rcases z with z|z
 ·exact cv_k h
 ·exact h
noncomputable def assign(q:Nat)(x:a_assign):Option g_assign:=(assignR q x).map cv_assign
theorem sc_assign(q:Nat):Lw E5 118 A_assign R_assign (assign q):=by
 intro x z h
 obtain⟨y,hy,rfl⟩:=Option.map_eq_some_iff.1 h
 exact cvs_assign y (sc_assignR q x y hy)
abbrev a_letSR:Type:=SP
abbrev g_letSR:Type:=(Int×Int×ByteArray×Int×Int×ByteArray×Nat×FL×SP)⊕(Int×Int)
def A_letSR:AR a_letSR:=fun x=>([.ptr 0 0],(hHP x))
def R_letSR:g_letSR→CRes:=Sum.elim (fun z:Int×Int×ByteArray×Int×Int×ByteArray×Nat×FL×SP=>.ret (.agg [i64 z.1,i64 z.2.1,st z.2.2.1,.sl 3 4 0 1]) [some (.blk [.ro 4 z.2.2.2.2.2.2.2.2.2.2.1 (fun j=>[i64 (z.2.2.2.2.2.2.2.2.2.2.2.1 j),i64 (z.2.2.2.2.2.2.2.2.2.2.2.2.1 j),st (z.2.2.2.2.2.2.2.2.2.2.2.2.2.1 j),i64 (z.2.2.2.2.2.2.2.2.2.2.2.2.2.2.1 j)]),i64 z.2.2.2.2.2.2.2.2.1,i64 z.2.2.2.2.2.2.2.2.2.1,.sl 1 1 0 z.2.2.2.2.2.2.2.2.2.2.2.2.2.2.2.1,.sl 2 1 0 z.2.2.2.2.2.2.2.2.2.2.2.2.2.2.2.2.2.1]),some (.row 9 1 z.2.2.2.2.2.2.2.2.2.2.2.2.2.2.2.1 (fun j=>[st (z.2.2.2.2.2.2.2.2.2.2.2.2.2.2.2.2.1 j)])),some (.row 9 1 z.2.2.2.2.2.2.2.2.2.2.2.2.2.2.2.2.2.1 (fun j=>[st (z.2.2.2.2.2.2.2.2.2.2.2.2.2.2.2.2.2.2 j)])),some (.row 35 4 1 (selL [[i64 z.2.2.2.1,i64 z.2.2.2.2.1,st z.2.2.2.2.2.1,.ro 4 z.2.2.2.2.2.2.1 z.2.2.2.2.2.2.2.1]]))]) (fun z:Int×Int=>.pan (.ifc 45 (.agg [i64 z.1,i64 z.2])))
def t_letSR{β:Type}(c_declare:a_declare→Option g_declare)(c_must:a_must→Option g_must)(c_expr:a_expr→Option g_expr)(x:a_letSR)(dn:g_letSR→Option β):Option β:=
 (c_declare (w (x.1+1),x.2)).bind fun z11=>Sum.elim (fun z11a=>(c_must (⟨#[61]⟩,z11a.2)).bind fun z24=>Sum.elim (fun z24a=>(c_expr (1,z24a)).bind fun z37=>Sum.elim (fun z37a=>dn (.inl (1,0,z11a.1,z37a))) (fun z37b=>dn (.inr z37b)) z37) (fun z24b=>dn (.inr z24b)) z24) (fun z11b=>dn (.inr z11b)) z11
theorem n_letSR{β:Type}(c_declare c_must c_expr)(x)(dn:g_letSR→Option β):t_letSR c_declare c_must c_expr x dn=(t_letSR c_declare c_must c_expr x some).bind dn:=by
 unfold t_letSR
 repeat' first|exact n0|refine n1 fun _=>?_|refine n2 ?_ ?_|refine n3 (fun _=>?_) fun _=>?_|rfl
theorem r_letSR(c_declare c_must c_expr)(x):callK E5 (ft2 86 A_declare R_declare c_declare (ft2 53 A_must R_must c_must (ft2 136 A_expr R_expr c_expr ca0))) lo0 111 (A_letSR x).1 (A_letSR x).2 K=t_letSR (vf A_declare c_declare) (vf A_must c_must) (vf A_expr c_expr) x (fun z=>some (.c (R_letSR z))):=by kernel_rfl
noncomputable def letSR(q:Nat)(x:a_letSR):Option g_letSR:=t_letSR (declare q) (must q) (expr q) x some
theorem sc_letSR(q:Nat):Lw E5 111 A_letSR R_letSR (letSR q):=sof hW5 hX5 (fk2 (sc_declare q) (fk2 (sc_must q) (fk2 (sc_expr q) ca0_sound))) (fun _=>lo0_sound) fun x=>(r_letSR (declare q) (must q) (expr q) x).trans (by rw[v_declare,v_must,v_expr,n_letSR]<;>rfl)
abbrev a_letS:Type:=SP
abbrev g_letS:Type:=(Int×Int×ByteArray×Nat×FL×SP)⊕(Int×Int)
def A_letS:AR a_letS:=fun x=>([.ptr 0 0],(hHP x))
def d_letS(t:TT):a_letS:=(dHP t.2)
theorem v_letS:VI A_letS:=vd d_letS fun _=>rfl
def R_letS:g_letS→CRes:=Sum.elim (fun z:Int×Int×ByteArray×Nat×FL×SP=>.ret (.agg [i64 z.1,i64 z.2.1,st z.2.2.1,.ro 4 z.2.2.2.1 z.2.2.2.2.1]) (hHP z.2.2.2.2.2)) (fun z:Int×Int=>.pan (.ifc 45 (.agg [i64 z.1,i64 z.2])))
def cv_letS:g_letSR→g_letS:=Sum.elim (fun z=>.inl (z.1,z.2.1,z.2.2.1,1,selL [[i64 z.2.2.2.1,i64 z.2.2.2.2.1,st z.2.2.2.2.2.1,.ro 4 z.2.2.2.2.2.2.1 z.2.2.2.2.2.2.2.1]],z.2.2.2.2.2.2.2.2)) (fun z=>.inr z)
theorem cvs_letS{args:List V}{L:List (Option Chunk)}(z:g_letSR)(h:SC E5 111 args L (R_letSR z)):SC E5 111 args L (R_letS (cv_letS z)):=by
 rcases z with z|z
 ·exact cv_k h
 ·exact h
noncomputable def letS(q:Nat)(x:a_letS):Option g_letS:=(letSR q x).map cv_letS
theorem sc_letS(q:Nat):Lw E5 111 A_letS R_letS (letS q):=by
 intro x z h
 obtain⟨y,hy,rfl⟩:=Option.map_eq_some_iff.1 h
 exact cvs_letS y (sc_letSR q x y hy)
abbrev a_awaitR:Type:=SP
abbrev g_awaitR:Type:=(Int×Int×ByteArray×FL×SP)⊕(Int×Int)
def A_awaitR:AR a_awaitR:=fun x=>([.ptr 0 0],(hHP x))
def R_awaitR:g_awaitR→CRes:=Sum.elim (fun z:Int×Int×ByteArray×FL×SP=>.ret (.agg [i64 z.1,i64 z.2.1,st z.2.2.1,.sl 3 4 0 2]) [some (.blk [.ro 4 z.2.2.2.2.2.2.1 (fun j=>[i64 (z.2.2.2.2.2.2.2.1 j),i64 (z.2.2.2.2.2.2.2.2.1 j),st (z.2.2.2.2.2.2.2.2.2.1 j),i64 (z.2.2.2.2.2.2.2.2.2.2.1 j)]),i64 z.2.2.2.2.1,i64 z.2.2.2.2.2.1,.sl 1 1 0 z.2.2.2.2.2.2.2.2.2.2.2.1,.sl 2 1 0 z.2.2.2.2.2.2.2.2.2.2.2.2.2.1]),some (.row 9 1 z.2.2.2.2.2.2.2.2.2.2.2.1 (fun j=>[st (z.2.2.2.2.2.2.2.2.2.2.2.2.1 j)])),some (.row 9 1 z.2.2.2.2.2.2.2.2.2.2.2.2.2.1 (fun j=>[st (z.2.2.2.2.2.2.2.2.2.2.2.2.2.2 j)])),some (.row 35 4 2 z.2.2.2.1)]) (fun z:Int×Int=>.pan (.ifc 45 (.agg [i64 z.1,i64 z.2])))
def t_awaitR{β:Type}(c_expr:a_expr→Option g_expr)(c_must:a_must→Option g_must)(c_literal:a_literal→Option g_literal)(x:a_awaitR)(dn:g_awaitR→Option β):Option β:=
 (c_expr (1,w (x.1+1),x.2)).bind fun z12=>Sum.elim (fun z12a=>(c_must (⟨#[119,105,116,104,105,110]⟩,z12a.2.2.2.2.2)).bind fun z25=>Sum.elim (fun z25a=>(c_literal z25a).bind fun z37=>Sum.elim (fun z37a=>dn (.inl (6,0,⟨#[]⟩,fun j=>[i64 (if j<1 then z12a.1 else z37a.1),i64 (if j<1 then z12a.2.1 else z37a.2.1),st (if j<1 then z12a.2.2.1 else z37a.2.2.1),V.ro 4 (if j<1 then z12a.2.2.2.1 else z37a.2.2.2.1) fun j_1=>if j<1 then z12a.2.2.2.2.1 j_1 else z37a.2.2.2.2.1 j_1],z37a.2.2.2.2.2))) (fun z37b=>dn (.inr z37b)) z37) (fun z25b=>dn (.inr z25b)) z25) (fun z12b=>dn (.inr z12b)) z12
theorem n_awaitR{β:Type}(c_expr c_must c_literal)(x)(dn:g_awaitR→Option β):t_awaitR c_expr c_must c_literal x dn=(t_awaitR c_expr c_must c_literal x some).bind dn:=by
 unfold t_awaitR
 repeat' first|exact n0|refine n1 fun _=>?_|refine n2 ?_ ?_|refine n3 (fun _=>?_) fun _=>?_|rfl
theorem r_awaitR(c_expr c_must c_literal)(x):callK E5 (ft2 136 A_expr R_expr c_expr (ft2 53 A_must R_must c_must (ft2 138 A_literal R_literal c_literal ca0))) lo0 114 (A_awaitR x).1 (A_awaitR x).2 K=t_awaitR (vf A_expr c_expr) (vf A_must c_must) (vf A_literal c_literal) x (fun z=>some (.c (R_awaitR z))):=by kernel_rfl
noncomputable def awaitR(q:Nat)(x:a_awaitR):Option g_awaitR:=t_awaitR (expr q) (must q) (literal q) x some
theorem sc_awaitR(q:Nat):Lw E5 114 A_awaitR R_awaitR (awaitR q):=sof hW5 hX5 (fk2 (sc_expr q) (fk2 (sc_must q) (fk2 (sc_literal q) ca0_sound))) (fun _=>lo0_sound) fun x=>(r_awaitR (expr q) (must q) (literal q) x).trans (by rw[v_expr,v_must,v_literal,n_awaitR]<;>rfl)
abbrev a_await:Type:=SP
abbrev g_await:Type:=(Int×Int×ByteArray×Nat×FL×SP)⊕(Int×Int)
def A_await:AR a_await:=fun x=>([.ptr 0 0],(hHP x))
def d_await(t:TT):a_await:=(dHP t.2)
theorem v_await:VI A_await:=vd d_await fun _=>rfl
def R_await:g_await→CRes:=Sum.elim (fun z:Int×Int×ByteArray×Nat×FL×SP=>.ret (.agg [i64 z.1,i64 z.2.1,st z.2.2.1,.ro 4 z.2.2.2.1 z.2.2.2.2.1]) (hHP z.2.2.2.2.2)) (fun z:Int×Int=>.pan (.ifc 45 (.agg [i64 z.1,i64 z.2])))
def cv_await:g_awaitR→g_await:=Sum.elim (fun z=>.inl (z.1,z.2.1,z.2.2.1,2,z.2.2.2)) (fun z=>.inr z)
theorem cvs_await{args:List V}{L:List (Option Chunk)}(z:g_awaitR)(h:SC E5 114 args L (R_awaitR z)):SC E5 114 args L (R_await (cv_await z)):=by
 rcases z with z|z
 ·exact cv_k h
 ·exact h
noncomputable def await(q:Nat)(x:a_await):Option g_await:=(awaitR q x).map cv_await
theorem sc_await(q:Nat):Lw E5 114 A_await R_await (await q):=by
 intro x z h
 obtain⟨y,hy,rfl⟩:=Option.map_eq_some_iff.1 h
 exact cvs_await y (sc_awaitR q x y hy)
abbrev a_amountR:Type:=SP
abbrev g_amountR:Type:=(Int×Int×ByteArray×Int×Int×ByteArray×Nat×FL×SP)⊕(Int×Int)
def A_amountR:AR a_amountR:=fun x=>([.ptr 0 0],(hHP x))
def R_amountR:g_amountR→CRes:=Sum.elim (fun z:Int×Int×ByteArray×Int×Int×ByteArray×Nat×FL×SP=>.ret (.agg [i64 z.1,i64 z.2.1,st z.2.2.1,.sl 3 4 0 1]) [some (.blk [.ro 4 z.2.2.2.2.2.2.2.2.2.2.1 (fun j=>[i64 (z.2.2.2.2.2.2.2.2.2.2.2.1 j),i64 (z.2.2.2.2.2.2.2.2.2.2.2.2.1 j),st (z.2.2.2.2.2.2.2.2.2.2.2.2.2.1 j),i64 (z.2.2.2.2.2.2.2.2.2.2.2.2.2.2.1 j)]),i64 z.2.2.2.2.2.2.2.2.1,i64 z.2.2.2.2.2.2.2.2.2.1,.sl 1 1 0 z.2.2.2.2.2.2.2.2.2.2.2.2.2.2.2.1,.sl 2 1 0 z.2.2.2.2.2.2.2.2.2.2.2.2.2.2.2.2.2.1]),some (.row 9 1 z.2.2.2.2.2.2.2.2.2.2.2.2.2.2.2.1 (fun j=>[st (z.2.2.2.2.2.2.2.2.2.2.2.2.2.2.2.2.1 j)])),some (.row 9 1 z.2.2.2.2.2.2.2.2.2.2.2.2.2.2.2.2.2.1 (fun j=>[st (z.2.2.2.2.2.2.2.2.2.2.2.2.2.2.2.2.2.2 j)])),some (.row 35 4 1 (selL [[i64 z.2.2.2.1,i64 z.2.2.2.2.1,st z.2.2.2.2.2.1,.ro 4 z.2.2.2.2.2.2.1 z.2.2.2.2.2.2.2.1]]))]) (fun z:Int×Int=>.pan (.ifc 45 (.agg [i64 z.1,i64 z.2])))
def t_amountR{β:Type}(c_is:a_is→Option g_is)(c_literal:a_literal→Option g_literal)(x:a_amountR)(dn:g_amountR→Option β):Option β:=
 (c_is (⟨#[107,101,101,112]⟩,x)).bind fun z12=>if z12.1=true then(c_literal (w (z12.2.1+1),z12.2.2)).bind fun z24=>Sum.elim (fun z24a=>dn (.inl (11,0,⟨#[]⟩,z24a))) (fun z24b=>dn (.inr z24b)) z24 else(c_literal (w (z12.2.1+1),z12.2.2)).bind fun z37=>Sum.elim (fun z37a=>dn (.inl (5,0,⟨#[]⟩,z37a))) (fun z37b=>dn (.inr z37b)) z37
theorem n_amountR{β:Type}(c_is c_literal)(x)(dn:g_amountR→Option β):t_amountR c_is c_literal x dn=(t_amountR c_is c_literal x some).bind dn:=by
 unfold t_amountR
 repeat' first|exact n0|refine n1 fun _=>?_|refine n2 ?_ ?_|refine n3 (fun _=>?_) fun _=>?_|rfl
theorem r_amountR(c_is c_literal)(x):callK E5 (ftb 109 A_is R_is c_is (ft2 138 A_literal R_literal c_literal ca0)) lo0 115 (A_amountR x).1 (A_amountR x).2 K=t_amountR (vf A_is c_is) (vf A_literal c_literal) x (fun z=>some (.c (R_amountR z))):=by kernel_rfl
noncomputable def amountR(q:Nat)(x:a_amountR):Option g_amountR:=t_amountR (is q) (literal q) x some
theorem sc_amountR(q:Nat):Lw E5 115 A_amountR R_amountR (amountR q):=sof hW5 hX5 (fk (sc_is q) (fk2 (sc_literal q) ca0_sound)) (fun _=>lo0_sound) fun x=>(r_amountR (is q) (literal q) x).trans (by rw[v_is,v_literal,n_amountR]<;>rfl)
abbrev a_amount:Type:=SP
abbrev g_amount:Type:=(Int×Int×ByteArray×Nat×FL×SP)⊕(Int×Int)
def A_amount:AR a_amount:=fun x=>([.ptr 0 0],(hHP x))
def d_amount(t:TT):a_amount:=(dHP t.2)
theorem v_amount:VI A_amount:=vd d_amount fun _=>rfl
def R_amount:g_amount→CRes:=Sum.elim (fun z:Int×Int×ByteArray×Nat×FL×SP=>.ret (.agg [i64 z.1,i64 z.2.1,st z.2.2.1,.ro 4 z.2.2.2.1 z.2.2.2.2.1]) (hHP z.2.2.2.2.2)) (fun z:Int×Int=>.pan (.ifc 45 (.agg [i64 z.1,i64 z.2])))
def cv_amount:g_amountR→g_amount:=Sum.elim (fun z=>.inl (z.1,z.2.1,z.2.2.1,1,selL [[i64 z.2.2.2.1,i64 z.2.2.2.2.1,st z.2.2.2.2.2.1,.ro 4 z.2.2.2.2.2.2.1 z.2.2.2.2.2.2.2.1]],z.2.2.2.2.2.2.2.2)) (fun z=>.inr z)
theorem cvs_amount{args:List V}{L:List (Option Chunk)}(z:g_amountR)(h:SC E5 115 args L (R_amountR z)):SC E5 115 args L (R_amount (cv_amount z)):=by
 rcases z with z|z
 ·exact cv_k h
 ·exact h
noncomputable def amount(q:Nat)(x:a_amount):Option g_amount:=(amountR q x).map cv_amount
theorem sc_amount(q:Nat):Lw E5 115 A_amount R_amount (amount q):=by
 intro x z h
 obtain⟨y,hy,rfl⟩:=Option.map_eq_some_iff.1 h
 exact cvs_amount y (sc_amountR q x y hy)
abbrev a_singleR:Type:=SP
abbrev g_singleR:Type:=(Int×Int×ByteArray×Int×Int×ByteArray×Nat×FL×SP)⊕(Int×Int)
def A_singleR:AR a_singleR:=fun x=>([.ptr 0 0],(hHP x))
def R_singleR:g_singleR→CRes:=Sum.elim (fun z:Int×Int×ByteArray×Int×Int×ByteArray×Nat×FL×SP=>.ret (.agg [i64 z.1,i64 z.2.1,st z.2.2.1,.sl 3 4 0 1]) [some (.blk [.ro 4 z.2.2.2.2.2.2.2.2.2.2.1 (fun j=>[i64 (z.2.2.2.2.2.2.2.2.2.2.2.1 j),i64 (z.2.2.2.2.2.2.2.2.2.2.2.2.1 j),st (z.2.2.2.2.2.2.2.2.2.2.2.2.2.1 j),i64 (z.2.2.2.2.2.2.2.2.2.2.2.2.2.2.1 j)]),i64 z.2.2.2.2.2.2.2.2.1,i64 z.2.2.2.2.2.2.2.2.2.1,.sl 1 1 0 z.2.2.2.2.2.2.2.2.2.2.2.2.2.2.2.1,.sl 2 1 0 z.2.2.2.2.2.2.2.2.2.2.2.2.2.2.2.2.2.1]),some (.row 9 1 z.2.2.2.2.2.2.2.2.2.2.2.2.2.2.2.1 (fun j=>[st (z.2.2.2.2.2.2.2.2.2.2.2.2.2.2.2.2.1 j)])),some (.row 9 1 z.2.2.2.2.2.2.2.2.2.2.2.2.2.2.2.2.2.1 (fun j=>[st (z.2.2.2.2.2.2.2.2.2.2.2.2.2.2.2.2.2.2 j)])),some (.row 35 4 1 (selL [[i64 z.2.2.2.1,i64 z.2.2.2.2.1,st z.2.2.2.2.2.1,.ro 4 z.2.2.2.2.2.2.1 z.2.2.2.2.2.2.2.1]]))]) (fun z:Int×Int=>.pan (.ifc 45 (.agg [i64 z.1,i64 z.2])))
def t_singleR{β:Type}(c_is:a_is→Option g_is)(c_expr:a_expr→Option g_expr)(x:a_singleR)(dn:g_singleR→Option β):Option β:=
 (c_is (⟨#[112,111,105,110,116]⟩,x)).bind fun z12=>if z12.1=true then(c_expr (1,w (z12.2.1+1),z12.2.2)).bind fun z25=>Sum.elim (fun z25a=>dn (.inl (8,0,⟨#[]⟩,z25a))) (fun z25b=>dn (.inr z25b)) z25 else(c_expr (1,w (z12.2.1+1),z12.2.2)).bind fun z39=>Sum.elim (fun z39a=>dn (.inl (7,0,⟨#[]⟩,z39a))) (fun z39b=>dn (.inr z39b)) z39
theorem n_singleR{β:Type}(c_is c_expr)(x)(dn:g_singleR→Option β):t_singleR c_is c_expr x dn=(t_singleR c_is c_expr x some).bind dn:=by
 unfold t_singleR
 repeat' first|exact n0|refine n1 fun _=>?_|refine n2 ?_ ?_|refine n3 (fun _=>?_) fun _=>?_|rfl
theorem r_singleR(c_is c_expr)(x):callK E5 (ftb 109 A_is R_is c_is (ft2 136 A_expr R_expr c_expr ca0)) lo0 116 (A_singleR x).1 (A_singleR x).2 K=t_singleR (vf A_is c_is) (vf A_expr c_expr) x (fun z=>some (.c (R_singleR z))):=by kernel_rfl
noncomputable def singleR(q:Nat)(x:a_singleR):Option g_singleR:=t_singleR (is q) (expr q) x some
theorem sc_singleR(q:Nat):Lw E5 116 A_singleR R_singleR (singleR q):=sof hW5 hX5 (fk (sc_is q) (fk2 (sc_expr q) ca0_sound)) (fun _=>lo0_sound) fun x=>(r_singleR (is q) (expr q) x).trans (by rw[v_is,v_expr,n_singleR]<;>rfl)
abbrev a_single:Type:=SP
abbrev g_single:Type:=(Int×Int×ByteArray×Nat×FL×SP)⊕(Int×Int)
def A_single:AR a_single:=fun x=>([.ptr 0 0],(hHP x))
def d_single(t:TT):a_single:=(dHP t.2)
theorem v_single:VI A_single:=vd d_single fun _=>rfl
def R_single:g_single→CRes:=Sum.elim (fun z:Int×Int×ByteArray×Nat×FL×SP=>.ret (.agg [i64 z.1,i64 z.2.1,st z.2.2.1,.ro 4 z.2.2.2.1 z.2.2.2.2.1]) (hHP z.2.2.2.2.2)) (fun z:Int×Int=>.pan (.ifc 45 (.agg [i64 z.1,i64 z.2])))
def cv_single:g_singleR→g_single:=Sum.elim (fun z=>.inl (z.1,z.2.1,z.2.2.1,1,selL [[i64 z.2.2.2.1,i64 z.2.2.2.2.1,st z.2.2.2.2.2.1,.ro 4 z.2.2.2.2.2.2.1 z.2.2.2.2.2.2.2.1]],z.2.2.2.2.2.2.2.2)) (fun z=>.inr z)
theorem cvs_single{args:List V}{L:List (Option Chunk)}(z:g_singleR)(h:SC E5 116 args L (R_singleR z)):SC E5 116 args L (R_single (cv_single z)):=by
 rcases z with z|z
 ·exact cv_k h
 ·exact h
noncomputable def single(q:Nat)(x:a_single):Option g_single:=(singleR q x).map cv_single
theorem sc_single(q:Nat):Lw E5 116 A_single R_single (single q):=by
 intro x z h
 obtain⟨y,hy,rfl⟩:=Option.map_eq_some_iff.1 h
 exact cvs_single y (sc_singleR q x y hy)
abbrev a_numberedR:Type:=SP
abbrev g_numberedR:Type:=(Int×Int×ByteArray×SP)⊕(Int×Int×ByteArray×Int×Int×ByteArray×Nat×FL×SP)⊕(Int×Int)
def A_numberedR:AR a_numberedR:=fun x=>([.ptr 0 0],(hHP x))
def R_numberedR:g_numberedR→CRes:=Sum.elim (fun z:Int×Int×ByteArray×SP=>.ret (.agg [i64 z.1,i64 z.2.1,st z.2.2.1,nilS]) (hHP z.2.2.2)) (Sum.elim (fun z:Int×Int×ByteArray×Int×Int×ByteArray×Nat×FL×SP=>.ret (.agg [i64 z.1,i64 z.2.1,st z.2.2.1,.sl 3 4 0 1]) [some (.blk [.ro 4 z.2.2.2.2.2.2.2.2.2.2.1 (fun j=>[i64 (z.2.2.2.2.2.2.2.2.2.2.2.1 j),i64 (z.2.2.2.2.2.2.2.2.2.2.2.2.1 j),st (z.2.2.2.2.2.2.2.2.2.2.2.2.2.1 j),i64 (z.2.2.2.2.2.2.2.2.2.2.2.2.2.2.1 j)]),i64 z.2.2.2.2.2.2.2.2.1,i64 z.2.2.2.2.2.2.2.2.2.1,.sl 1 1 0 z.2.2.2.2.2.2.2.2.2.2.2.2.2.2.2.1,.sl 2 1 0 z.2.2.2.2.2.2.2.2.2.2.2.2.2.2.2.2.2.1]),some (.row 9 1 z.2.2.2.2.2.2.2.2.2.2.2.2.2.2.2.1 (fun j=>[st (z.2.2.2.2.2.2.2.2.2.2.2.2.2.2.2.2.1 j)])),some (.row 9 1 z.2.2.2.2.2.2.2.2.2.2.2.2.2.2.2.2.2.1 (fun j=>[st (z.2.2.2.2.2.2.2.2.2.2.2.2.2.2.2.2.2.2 j)])),some (.row 35 4 1 (selL [[i64 z.2.2.2.1,i64 z.2.2.2.2.1,st z.2.2.2.2.2.1,.ro 4 z.2.2.2.2.2.2.1 z.2.2.2.2.2.2.2.1]]))]) (fun z:Int×Int=>.pan (.ifc 45 (.agg [i64 z.1,i64 z.2]))))
def t_numberedR{β:Type}(c_next:a_next→Option g_next)(c_number:a_number→Option g_number)(c_must:a_must→Option g_must)(c_literal:a_literal→Option g_literal)(x:a_numberedR)(dn:g_numberedR→Option β):Option β:=
 (c_next x).bind fun z11=>if(z11.2.2.1.toList==ByteArray.toList ⟨#[101,109,105,116]⟩)=true then(c_number (0,99,w (z11.2.2.2.2.1+1),z11.2.2.2.2.2)).bind fun z25=>Sum.elim (fun z25a=>dn (.inl (12,z25a.1,⟨#[]⟩,z25a.2))) (fun z25b=>dn (.inr (.inr z25b))) z25 else if(z11.2.2.1.toList==ByteArray.toList ⟨#[97,98,111,114,116]⟩)=true then(c_number (0,999,w (z11.2.2.2.2.1+1),z11.2.2.2.2.2)).bind fun z40=>Sum.elim (fun z40a=>dn (.inl (13,z40a.1,⟨#[]⟩,z40a.2))) (fun z40b=>dn (.inr (.inr z40b))) z40 else if(z11.2.2.1.toList==ByteArray.toList ⟨#[117,115,101]⟩)=true then(c_number (0,7,w (z11.2.2.2.2.1+1),z11.2.2.2.2.2)).bind fun z55=>Sum.elim (fun z55a=>(c_must (⟨#[102,111,114]⟩,z55a.2)).bind fun z68=>Sum.elim (fun z68a=>(c_literal z68a).bind fun z80=>Sum.elim (fun z80a=>dn (.inr (.inl (9,z55a.1,⟨#[]⟩,z80a)))) (fun z80b=>dn (.inr (.inr z80b))) z80) (fun z68b=>dn (.inr (.inr z68b))) z68) (fun z55b=>dn (.inr (.inr z55b))) z55 else(c_number (0,7,w (z11.2.2.2.2.1+1),z11.2.2.2.2.2)).bind fun z97=>Sum.elim (fun z97a=>(c_must (⟨#[44]⟩,z97a.2)).bind fun z110=>Sum.elim (fun z110a=>(c_literal z110a).bind fun z122=>Sum.elim (fun z122a=>dn (.inr (.inl (10,z97a.1,⟨#[]⟩,z122a)))) (fun z122b=>dn (.inr (.inr z122b))) z122) (fun z110b=>dn (.inr (.inr z110b))) z110) (fun z97b=>dn (.inr (.inr z97b))) z97
theorem n_numberedR{β:Type}(c_next c_number)(c_must c_literal)(x)(dn:g_numberedR→Option β):t_numberedR c_next c_number c_must c_literal x dn=(t_numberedR c_next c_number c_must c_literal x some).bind dn:=by
 unfold t_numberedR
 repeat' first|exact n0|refine n1 fun _=>?_|refine n2 ?_ ?_|refine n3 (fun _=>?_) fun _=>?_|rfl
theorem r_numberedR(c_next c_number)(c_must c_literal)(x):callK E5 (ftb 22 A_next R_next c_next (ft2 137 A_number R_number c_number (ft2 53 A_must R_must c_must (ft2 138 A_literal R_literal c_literal ca0)))) lo0 117 (A_numberedR x).1 (A_numberedR x).2 K=t_numberedR (vf A_next c_next) (vf A_number c_number) (vf A_must c_must) (vf A_literal c_literal) x (fun z=>some (.c (R_numberedR z))):=by kernel_rfl
noncomputable def numberedR(q:Nat)(x:a_numberedR):Option g_numberedR:=t_numberedR (next q) (number q) (must q) (literal q) x some
theorem sc_numberedR(q:Nat):Lw E5 117 A_numberedR R_numberedR (numberedR q):=sof hW5 hX5 (fk (sc_next q) (fk2 (sc_number q) (fk2 (sc_must q) (fk2 (sc_literal q) ca0_sound)))) (fun _=>lo0_sound) fun x=>(r_numberedR (next q) (number q) (must q) (literal q) x).trans (by rw[v_next,v_number,v_must,v_literal,n_numberedR]<;>rfl)
abbrev a_numbered:Type:=SP
abbrev g_numbered:Type:=(Int×Int×ByteArray×Nat×FL×SP)⊕(Int×Int)
def A_numbered:AR a_numbered:=fun x=>([.ptr 0 0],(hHP x))
def d_numbered(t:TT):a_numbered:=(dHP t.2)
theorem v_numbered:VI A_numbered:=vd d_numbered fun _=>rfl
def R_numbered:g_numbered→CRes:=Sum.elim (fun z:Int×Int×ByteArray×Nat×FL×SP=>.ret (.agg [i64 z.1,i64 z.2.1,st z.2.2.1,.ro 4 z.2.2.2.1 z.2.2.2.2.1]) (hHP z.2.2.2.2.2)) (fun z:Int×Int=>.pan (.ifc 45 (.agg [i64 z.1,i64 z.2])))
def cv_numbered:g_numberedR→g_numbered:=Sum.elim (fun z=>.inl (z.1,z.2.1,z.2.2.1,0,fun _=>[],z.2.2.2)) (Sum.elim (fun z=>.inl (z.1,z.2.1,z.2.2.1,1,selL [[i64 z.2.2.2.1,i64 z.2.2.2.2.1,st z.2.2.2.2.2.1,.ro 4 z.2.2.2.2.2.2.1 z.2.2.2.2.2.2.2.1]],z.2.2.2.2.2.2.2.2)) (fun z=>.inr z))
theorem cvs_numbered{args:List V}{L:List (Option Chunk)}(z:g_numberedR)(h:SC E5 117 args L (R_numberedR z)):SC E5 117 args L (R_numbered (cv_numbered z)):=by
 rcases z with z|z|z
 ·exact cv_z h
 ·exact cv_k h
 ·exact h
noncomputable def numbered(q:Nat)(x:a_numbered):Option g_numbered:=(numberedR q x).map cv_numbered
theorem sc_numbered(q:Nat):Lw E5 117 A_numbered R_numbered (numbered q):=by
 intro x z h
 obtain⟨y,hy,rfl⟩:=Option.map_eq_some_iff.1 h
 exact cvs_numbered y (sc_numberedR q x y hy)
abbrev a_block:Type:=SP
abbrev g_block:Type:=(Int×Int×ByteArray×Nat×FL×SP)⊕(Int×Int)
def A_block:AR a_block:=fun x=>([.ptr 0 0],(hHP x))
def d_block(t:TT):a_block:=(dHP t.2)
theorem v_block:VI A_block:=vd d_block fun _=>rfl
def R_block:g_block→CRes:=Sum.elim (fun z:Int×Int×ByteArray×Nat×FL×SP=>.ret (.agg [i64 z.1,i64 z.2.1,st z.2.2.1,.ro 4 z.2.2.2.1 z.2.2.2.2.1]) (hHP z.2.2.2.2.2)) (fun z:Int×Int=>.pan (.ifc 45 (.agg [i64 z.1,i64 z.2])))
abbrev a_branch:Type:=SP
abbrev g_branch:Type:=(Int×Int×ByteArray×Nat×FL×SP)⊕(Int×Int)
def A_branch:AR a_branch:=fun x=>([.ptr 0 0],(hHP x))
def d_branch(t:TT):a_branch:=(dHP t.2)
theorem v_branch:VI A_branch:=vd d_branch fun _=>rfl
def R_branch:g_branch→CRes:=Sum.elim (fun z:Int×Int×ByteArray×Nat×FL×SP=>.ret (.agg [i64 z.1,i64 z.2.1,st z.2.2.1,.ro 4 z.2.2.2.1 z.2.2.2.2.1]) (hHP z.2.2.2.2.2)) (fun z:Int×Int=>.pan (.ifc 45 (.agg [i64 z.1,i64 z.2])))
abbrev a_repeatS:Type:=SP
abbrev g_repeatS:Type:=(Int×Int×ByteArray×Nat×FL×SP)⊕(Int×Int)
def A_repeatS:AR a_repeatS:=fun x=>([.ptr 0 0],(hHP x))
def d_repeatS(t:TT):a_repeatS:=(dHP t.2)
theorem v_repeatS:VI A_repeatS:=vd d_repeatS fun _=>rfl
def R_repeatS:g_repeatS→CRes:=Sum.elim (fun z:Int×Int×ByteArray×Nat×FL×SP=>.ret (.agg [i64 z.1,i64 z.2.1,st z.2.2.1,.ro 4 z.2.2.2.1 z.2.2.2.2.1]) (hHP z.2.2.2.2.2)) (fun z:Int×Int=>.pan (.ifc 45 (.agg [i64 z.1,i64 z.2])))
abbrev a_statement:Type:=SP
abbrev g_statement:Type:=(Int×Int×ByteArray×Nat×FL×SP)⊕(Int×Int)
def A_statement:AR a_statement:=fun x=>([.ptr 0 0],(hHP x))
def d_statement(t:TT):a_statement:=(dHP t.2)
theorem v_statement:VI A_statement:=vd d_statement fun _=>rfl
def R_statement:g_statement→CRes:=Sum.elim (fun z:Int×Int×ByteArray×Nat×FL×SP=>.ret (.agg [i64 z.1,i64 z.2.1,st z.2.2.1,.ro 4 z.2.2.2.1 z.2.2.2.2.1]) (hHP z.2.2.2.2.2)) (fun z:Int×Int=>.pan (.ifc 45 (.agg [i64 z.1,i64 z.2])))
abbrev a_blockR:Type:=SP
abbrev g_blockR:Type:=(Int×Int×ByteArray×SP)⊕(Int×Int×ByteArray×Nat×FL×SP)⊕(Int×Int)
def A_blockR:AR a_blockR:=fun x=>([.ptr 0 0],(hHP x))
def R_blockR:g_blockR→CRes:=Sum.elim (fun z:Int×Int×ByteArray×SP=>.ret (.agg [i64 z.1,i64 z.2.1,st z.2.2.1,nilS]) (hHP z.2.2.2)) (Sum.elim (fun z:Int×Int×ByteArray×Nat×FL×SP=>.ret (.agg [i64 z.1,i64 z.2.1,st z.2.2.1,.sl 3 4 0 z.2.2.2.1]) ((hHP z.2.2.2.2.2)++[some (.row 35 4 z.2.2.2.1 z.2.2.2.2.1)])) (fun z:Int×Int=>.pan (.ifc 45 (.agg [i64 z.1,i64 z.2]))))
abbrev a_branchR:Type:=SP
abbrev g_branchR:Type:=(Int×Int×ByteArray×FL×SP)⊕(Int×Int)
def A_branchR:AR a_branchR:=fun x=>([.ptr 0 0],(hHP x))
def R_branchR:g_branchR→CRes:=Sum.elim (fun z:Int×Int×ByteArray×FL×SP=>.ret (.agg [i64 z.1,i64 z.2.1,st z.2.2.1,.sl 3 4 0 3]) [some (.blk [.ro 4 z.2.2.2.2.2.2.1 (fun j=>[i64 (z.2.2.2.2.2.2.2.1 j),i64 (z.2.2.2.2.2.2.2.2.1 j),st (z.2.2.2.2.2.2.2.2.2.1 j),i64 (z.2.2.2.2.2.2.2.2.2.2.1 j)]),i64 z.2.2.2.2.1,i64 z.2.2.2.2.2.1,.sl 1 1 0 z.2.2.2.2.2.2.2.2.2.2.2.1,.sl 2 1 0 z.2.2.2.2.2.2.2.2.2.2.2.2.2.1]),some (.row 9 1 z.2.2.2.2.2.2.2.2.2.2.2.1 (fun j=>[st (z.2.2.2.2.2.2.2.2.2.2.2.2.1 j)])),some (.row 9 1 z.2.2.2.2.2.2.2.2.2.2.2.2.2.1 (fun j=>[st (z.2.2.2.2.2.2.2.2.2.2.2.2.2.2 j)])),some (.row 35 4 3 z.2.2.2.1)]) (fun z:Int×Int=>.pan (.ifc 45 (.agg [i64 z.1,i64 z.2])))
abbrev a_repeatSR:Type:=SP
abbrev g_repeatSR:Type:=(Int×Int×ByteArray×Int×Int×ByteArray×Nat×FL×SP)⊕(Int×Int)
def A_repeatSR:AR a_repeatSR:=fun x=>([.ptr 0 0],(hHP x))
def R_repeatSR:g_repeatSR→CRes:=Sum.elim (fun z:Int×Int×ByteArray×Int×Int×ByteArray×Nat×FL×SP=>.ret (.agg [i64 z.1,i64 z.2.1,st z.2.2.1,.sl 3 4 0 1]) [some (.blk [.ro 4 z.2.2.2.2.2.2.2.2.2.2.1 (fun j=>[i64 (z.2.2.2.2.2.2.2.2.2.2.2.1 j),i64 (z.2.2.2.2.2.2.2.2.2.2.2.2.1 j),st (z.2.2.2.2.2.2.2.2.2.2.2.2.2.1 j),i64 (z.2.2.2.2.2.2.2.2.2.2.2.2.2.2.1 j)]),i64 z.2.2.2.2.2.2.2.2.1,i64 z.2.2.2.2.2.2.2.2.2.1,.sl 1 1 0 z.2.2.2.2.2.2.2.2.2.2.2.2.2.2.2.1,.sl 2 1 0 z.2.2.2.2.2.2.2.2.2.2.2.2.2.2.2.2.2.1]),some (.row 9 1 z.2.2.2.2.2.2.2.2.2.2.2.2.2.2.2.1 (fun j=>[st (z.2.2.2.2.2.2.2.2.2.2.2.2.2.2.2.2.1 j)])),some (.row 9 1 z.2.2.2.2.2.2.2.2.2.2.2.2.2.2.2.2.2.1 (fun j=>[st (z.2.2.2.2.2.2.2.2.2.2.2.2.2.2.2.2.2.2 j)])),some (.row 35 4 1 (selL [[i64 z.2.2.2.1,i64 z.2.2.2.2.1,st z.2.2.2.2.2.1,.ro 4 z.2.2.2.2.2.2.1 z.2.2.2.2.2.2.2.1]]))]) (fun z:Int×Int=>.pan (.ifc 45 (.agg [i64 z.1,i64 z.2])))
abbrev a_statementR:Type:=SP
abbrev g_statementR:Type:=(Int×Int×ByteArray×Nat×FL×SP)⊕(Int×Int)
def A_statementR:AR a_statementR:=fun x=>([.ptr 0 0],(hHP x))
def R_statementR:g_statementR→CRes:=Sum.elim (fun z:Int×Int×ByteArray×Nat×FL×SP=>.ret (.agg [i64 z.1,i64 z.2.1,st z.2.2.1,.ro 4 z.2.2.2.1 z.2.2.2.2.1]) (hHP z.2.2.2.2.2)) (fun z:Int×Int=>.pan (.ifc 45 (.agg [i64 z.1,i64 z.2])))
abbrev blockR_l0_a:Type:=(SC2)⊕(Nat×FI×FI×FS×FI×Int×Int×Nat×Nat×FS×FS×FI×FI×FS×FN×FM×Nat)
abbrev blockR_l0_g:Type:=(Int×Int)⊕(SC2)⊕(Nat×FI×FI×FS×FI×Int×Int×Nat×Nat×FS×FS×Nat×FI×FI×FS×FN×FM)
def blockR_l0_S0(x:a_blockR)(y:SC2):St:={fr:=[V.ptr 0 0,V.junk,V.ptr 3 0,V.ptr 4 0]++jk 21,H:=hp [some (hPB y),some (hPV y),some (hPQ0 y),some (Chunk.blk [i64 0,i64 0,st ⟨#[]⟩,nilS]),some (Chunk.blk [i64 14,i64 0,st ⟨#[]⟩,nilS])],nx:=5,rt:=1,me:=57}
def blockR_l0_d0(s:St):SC2:=((vRoN (cb s 0 0)),dTI (cb s 0 0) 0,dTI (cb s 0 0) 1,dTS (cb s 0 0) 2,dTI (cb s 0 0) 3,vI (cb s 0 1),vI (cb s 0 2),vSlN (cb s 0 3),vSlN (cb s 0 4),dRS (s.H 1) 0,dRS (s.H 2) 0)
def blockR_l0_S1(x:a_blockR)(y:Nat×FI×FI×FS×FI×Int×Int×Nat×Nat×FS×FS×FI×FI×FS×FN×FM×Nat):St:={fr:=[V.ptr 0 0,V.junk,V.ptr 3 0,V.ptr 4 0]++jk 21,H:=hp [some (hPB y),some (hPV y),some (hPQ y),some (Chunk.blk [i64 0,i64 0,st ⟨#[]⟩,nilS]),some (Chunk.blk [i64 14,i64 0,st ⟨#[]⟩,V.sl 5 4 0 y.2.2.2.2.2.2.2.2.2.2.2.2.2.2.2.2]),some (Chunk.row 35 4 y.2.2.2.2.2.2.2.2.2.2.2.2.2.2.2.2 fun j=>[i64 (y.2.2.2.2.2.2.2.2.2.2.2.1 j),i64 (y.2.2.2.2.2.2.2.2.2.2.2.2.1 j),st (y.2.2.2.2.2.2.2.2.2.2.2.2.2.1 j),V.ro 4 (y.2.2.2.2.2.2.2.2.2.2.2.2.2.2.1 j) (y.2.2.2.2.2.2.2.2.2.2.2.2.2.2.2.1 j)])],nx:=6,rt:=1,me:=57}
def blockR_l0_d1(s:St):Nat×FI×FI×FS×FI×Int×Int×Nat×Nat×FS×FS×FI×FI×FS×FN×FM×Nat:=((vRoN (cb s 0 0)),dTI (cb s 0 0) 0,dTI (cb s 0 0) 1,dTS (cb s 0 0) 2,dTI (cb s 0 0) 3,vI (cb s 0 1),vI (cb s 0 2),vSlN (cb s 0 3),vSlN (cb s 0 4),dRS (s.H 1) 0,dRS (s.H 2) 0,dRI (s.H 5) 0,dRI (s.H 5) 1,dRS (s.H 5) 2,dRN (s.H 5) 3,dRF (s.H 5) 3,vSlN (cb s 4 3))
def blockR_l0_S(x:a_blockR):blockR_l0_a→St:=(Sum.elim (blockR_l0_S0 x) (blockR_l0_S1 x))
def blockR_l0_d(s:St):blockR_l0_a:=(match s.nx==5 with|true=>(.inl (blockR_l0_d0 s)) |false=>(.inr (blockR_l0_d1 s)))
theorem blockR_l0_u(x:a_blockR):VL (blockR_l0_S x):=vl blockR_l0_d (fun y=>by rcases y with y|y<;>rfl)
def blockR_l0_T(x:a_blockR):blockR_l0_g→Ex×St:=(Sum.elim (fun z=>(Ex.panic (V.ifc 45 (V.agg [i64 z.1,i64 z.2])),{fr:=[V.junk]++jk 24,H:=hp [none],nx:=1,rt:=1,me:=57})) (Sum.elim (fun z=>(Ex.exit 0,{fr:=[V.ptr 0 0,V.junk,V.ptr 3 0,V.ptr 4 0]++jk 21,H:=hp [some (hPB z),some (hPV z),some (hPQ0 z),some (Chunk.blk [i64 0,i64 0,st ⟨#[]⟩,nilS]),some (Chunk.blk [i64 14,i64 0,st ⟨#[]⟩,nilS])],nx:=5,rt:=1,me:=57})) (fun z=>(Ex.exit 0,{fr:=[V.ptr 0 0,V.junk,V.ptr 3 0,V.ptr 4 0]++jk 21,H:=hp [some (hPB z),some (hPV z),some (hPQ z),some (Chunk.blk [i64 0,i64 0,st ⟨#[]⟩,nilS]),some (Chunk.blk [i64 14,i64 0,st ⟨#[]⟩,V.sl 5 4 0 z.2.2.2.2.2.2.2.2.2.2.2.1]),some (Chunk.row 35 4 z.2.2.2.2.2.2.2.2.2.2.2.1 fun j=>[i64 (z.2.2.2.2.2.2.2.2.2.2.2.2.1 j),i64 (z.2.2.2.2.2.2.2.2.2.2.2.2.2.1 j),st (z.2.2.2.2.2.2.2.2.2.2.2.2.2.2.1 j),V.ro 4 (z.2.2.2.2.2.2.2.2.2.2.2.2.2.2.2.1 j) (z.2.2.2.2.2.2.2.2.2.2.2.2.2.2.2.2 j)])],nx:=6,rt:=1,me:=57}))))
def blockR_l0_t0{β:Type}(c_opens:a_opens→Option g_opens)(c_take:a_take→Option g_take)(c_statement:a_statement→Option g_statement)(x:a_blockR)(y:SC2)(nx:blockR_l0_a→Option β)(dn:blockR_l0_g→Option β):Option β:=
 (c_take (⟨#[125]⟩,y.2.2.2.2.2.1,y.2.2.2.2.2.2.1,y.1,y.2.1,y.2.2.1,y.2.2.2.1,y.2.2.2.2.1,y.2.2.2.2.2.2.2.1,y.2.2.2.2.2.2.2.2.2.1,y.2.2.2.2.2.2.2.2.1,y.2.2.2.2.2.2.2.2.2.2)).bind fun z454=>if(!z454.1)=true then(c_statement z454.2).bind fun z466=>Sum.elim (fun z466a=>nx (.inr (z466a.2.2.2.2.2.2.2.1,z466a.2.2.2.2.2.2.2.2.1,z466a.2.2.2.2.2.2.2.2.2.1,z466a.2.2.2.2.2.2.2.2.2.2.1,z466a.2.2.2.2.2.2.2.2.2.2.2.1,z466a.2.2.2.2.2.1,z466a.2.2.2.2.2.2.1,z466a.2.2.2.2.2.2.2.2.2.2.2.2.1,z466a.2.2.2.2.2.2.2.2.2.2.2.2.2.2.1,z466a.2.2.2.2.2.2.2.2.2.2.2.2.2.1,z466a.2.2.2.2.2.2.2.2.2.2.2.2.2.2.2,fun j=>z466a.1,fun j=>z466a.2.1,fun j=>z466a.2.2.1,fun j=>z466a.2.2.2.1,fun j=>z466a.2.2.2.2.1,1))) (fun z466b=>dn (.inl z466b)) z466 else dn (.inr (.inl (z454.2.2.2.1,z454.2.2.2.2.1,z454.2.2.2.2.2.1,z454.2.2.2.2.2.2.1,z454.2.2.2.2.2.2.2.1,z454.2.1,z454.2.2.1,z454.2.2.2.2.2.2.2.2.1,z454.2.2.2.2.2.2.2.2.2.2.1,z454.2.2.2.2.2.2.2.2.2.1,z454.2.2.2.2.2.2.2.2.2.2.2)))
theorem blockR_l0_n0{β:Type}(c_opens c_take c_statement)(x)(y)(nx:blockR_l0_a→Option β)(dn):blockR_l0_t0 c_opens c_take c_statement x y nx dn=(blockR_l0_t0 c_opens c_take c_statement x y (fun y=>some (.inl y)) (fun z=>some (.inr z))).bind fun r=>Sum.elim nx dn r:=by
 unfold blockR_l0_t0
 repeat' first|exact n0|refine n1 fun _=>?_|refine n2 ?_ ?_|refine n3 (fun _=>?_) fun _=>?_|rfl
theorem blockR_l0_r0(c_opens c_take c_statement)(x)(y)(lo:LoopT):loopK E5 (ft2 88 A_opens R_opens c_opens (ftb 84 A_take R_take c_take (ft2 89 A_statement R_statement c_statement ca0))) lo 0 13 (bodyOf E5 57 0) (blockR_l0_S x (.inl y)) (KCM [(0,13)] 4)=blockR_l0_t0 (vf A_opens c_opens) (vf A_take c_take) (vf A_statement c_statement) x y (fun y=>lo 0 13 (bodyOf E5 57 0) (blockR_l0_S x y) (KCM [(0,13)] 4)) (fun z=>some (.l (blockR_l0_T x z).1 (blockR_l0_T x z).2)):=by kernel_rfl
def blockR_l0_t1{β:Type}(c_opens:a_opens→Option g_opens)(c_take:a_take→Option g_take)(c_statement:a_statement→Option g_statement)(x:a_blockR)(y:Nat×FI×FI×FS×FI×Int×Int×Nat×Nat×FS×FS×FI×FI×FS×FN×FM×Nat)(nx:blockR_l0_a→Option β)(dn:blockR_l0_g→Option β):Option β:=
 (c_take (⟨#[125]⟩,y.2.2.2.2.2.1,y.2.2.2.2.2.2.1,y.1,y.2.1,y.2.2.1,y.2.2.2.1,y.2.2.2.2.1,y.2.2.2.2.2.2.2.1,y.2.2.2.2.2.2.2.2.2.1,y.2.2.2.2.2.2.2.2.1,y.2.2.2.2.2.2.2.2.2.2.1)).bind fun z481=>if(!z481.1)=true then(c_statement z481.2).bind fun z493=>Sum.elim (fun z493a=>if(y.2.2.2.2.2.2.2.2.2.2.2.2.2.2.2.2+1)*56≤roomBound∧y.2.2.2.2.2.2.2.2.2.2.2.2.2.2.2.2+1≤maxLen∧y.2.2.2.2.2.2.2.2.2.2.2.2.2.2.2.2≤y.2.2.2.2.2.2.2.2.2.2.2.2.2.2.2.2 then nx (.inr (z493a.2.2.2.2.2.2.2.1,z493a.2.2.2.2.2.2.2.2.1,z493a.2.2.2.2.2.2.2.2.2.1,z493a.2.2.2.2.2.2.2.2.2.2.1,z493a.2.2.2.2.2.2.2.2.2.2.2.1,z493a.2.2.2.2.2.1,z493a.2.2.2.2.2.2.1,z493a.2.2.2.2.2.2.2.2.2.2.2.2.1,z493a.2.2.2.2.2.2.2.2.2.2.2.2.2.2.1,z493a.2.2.2.2.2.2.2.2.2.2.2.2.2.1,z493a.2.2.2.2.2.2.2.2.2.2.2.2.2.2.2,fun j=>if j<y.2.2.2.2.2.2.2.2.2.2.2.2.2.2.2.2 then y.2.2.2.2.2.2.2.2.2.2.2.1 j else z493a.1,fun j=>if j<y.2.2.2.2.2.2.2.2.2.2.2.2.2.2.2.2 then y.2.2.2.2.2.2.2.2.2.2.2.2.1 j else z493a.2.1,fun j=>if j<y.2.2.2.2.2.2.2.2.2.2.2.2.2.2.2.2 then y.2.2.2.2.2.2.2.2.2.2.2.2.2.1 j else z493a.2.2.1,fun j=>if j<y.2.2.2.2.2.2.2.2.2.2.2.2.2.2.2.2 then y.2.2.2.2.2.2.2.2.2.2.2.2.2.2.1 j else z493a.2.2.2.1,fun(j j_1:Nat)=>if j<y.2.2.2.2.2.2.2.2.2.2.2.2.2.2.2.2 then y.2.2.2.2.2.2.2.2.2.2.2.2.2.2.2.1 j j_1 else z493a.2.2.2.2.1 j_1,y.2.2.2.2.2.2.2.2.2.2.2.2.2.2.2.2+1))else none) (fun z493b=>dn (.inl z493b)) z493 else dn (.inr (.inr (z481.2.2.2.1,z481.2.2.2.2.1,z481.2.2.2.2.2.1,z481.2.2.2.2.2.2.1,z481.2.2.2.2.2.2.2.1,z481.2.1,z481.2.2.1,z481.2.2.2.2.2.2.2.2.1,z481.2.2.2.2.2.2.2.2.2.2.1,z481.2.2.2.2.2.2.2.2.2.1,z481.2.2.2.2.2.2.2.2.2.2.2,y.2.2.2.2.2.2.2.2.2.2.2.2.2.2.2.2,y.2.2.2.2.2.2.2.2.2.2.2.1,y.2.2.2.2.2.2.2.2.2.2.2.2.1,y.2.2.2.2.2.2.2.2.2.2.2.2.2.1,y.2.2.2.2.2.2.2.2.2.2.2.2.2.2.1,y.2.2.2.2.2.2.2.2.2.2.2.2.2.2.2.1)))
theorem blockR_l0_n1{β:Type}(c_opens c_take c_statement)(x)(y)(nx:blockR_l0_a→Option β)(dn):blockR_l0_t1 c_opens c_take c_statement x y nx dn=(blockR_l0_t1 c_opens c_take c_statement x y (fun y=>some (.inl y)) (fun z=>some (.inr z))).bind fun r=>Sum.elim nx dn r:=by
 unfold blockR_l0_t1
 repeat' first|exact n0|refine n1 fun _=>?_|refine n2 ?_ ?_|refine n3 (fun _=>?_) fun _=>?_|rfl
theorem blockR_l0_r1(c_opens c_take c_statement)(x)(y)(lo:LoopT):loopK E5 (ft2 88 A_opens R_opens c_opens (ftb 84 A_take R_take c_take (ft2 89 A_statement R_statement c_statement ca0))) lo 0 13 (bodyOf E5 57 0) (blockR_l0_S x (.inr y)) (KCM [(0,13)] 4)=blockR_l0_t1 (vf A_opens c_opens) (vf A_take c_take) (vf A_statement c_statement) x y (fun y=>lo 0 13 (bodyOf E5 57 0) (blockR_l0_S x y) (KCM [(0,13)] 4)) (fun z=>some (.l (blockR_l0_T x z).1 (blockR_l0_T x z).2)):=by kernel_rfl
noncomputable def blockR_l0(c_opens:a_opens→Option g_opens)(c_take:a_take→Option g_take)(c_statement:a_statement→Option g_statement)(q:Nat)(x:a_blockR):blockR_l0_a→Option blockR_l0_g:=lpG (Sum.elim (fun y=>blockR_l0_t0 c_opens c_take c_statement x y (fun y=>some (.inl y)) (fun z=>some (.inr z))) (fun y=>blockR_l0_t1 c_opens c_take c_statement x y (fun y=>some (.inl y)) (fun z=>some (.inr z)))) q
theorem blockR_l0_s(c_opens)(h_opens:Lw E5 88 A_opens R_opens c_opens)(c_take)(h_take:Lw E5 84 A_take R_take c_take)(c_statement)(h_statement:Lw E5 89 A_statement R_statement c_statement)(q:Nat)(x:a_blockR):Ll E5 (bodyOf E5 57 0) (blockR_l0_S x) (blockR_l0_T x) (blockR_l0 c_opens c_take c_statement q x):=
 slp (fk2 h_opens (fk h_take (fk2 h_statement ca0_sound))) hX5 (fun lo y=>by
  rcases y with y|y
  ·exact(blockR_l0_r0 c_opens c_take c_statement x y lo).trans (by rw[v_opens,v_take,v_statement];exact blockR_l0_n0 _ _ _ _ _ _ _)
  ·exact(blockR_l0_r1 c_opens c_take c_statement x y lo).trans (by rw[v_opens,v_take,v_statement];exact blockR_l0_n1 _ _ _ _ _ _ _)) (fun z=>by rcases z with z|z|z<;>kernel_rfl) q
def t_blockR{β:Type}(c_opens:a_opens→Option g_opens)(c_take:a_take→Option g_take)(c_statement:a_statement→Option g_statement)(l_blockR_l0:blockR_l0_a→Option blockR_l0_g)(x:a_blockR)(dn:g_blockR→Option β):Option β:=
 (c_opens (⟨#[123]⟩,x)).bind fun z12=>Sum.elim (fun z12a=>(l_blockR_l0 (.inl (z12a.2.2.1,z12a.2.2.2.1,z12a.2.2.2.2.1,z12a.2.2.2.2.2.1,z12a.2.2.2.2.2.2.1,z12a.1,z12a.2.1,z12a.2.2.2.2.2.2.2.1,z12a.2.2.2.2.2.2.2.2.2.1,z12a.2.2.2.2.2.2.2.2.1,z12a.2.2.2.2.2.2.2.2.2.2))).bind fun z394=>Sum.elim (fun z394a=>dn (.inr (.inr z394a))) (fun z394b=>Sum.elim (fun z394ba=>dn (.inl (14,0,⟨#[]⟩,z394ba.2.2.2.2.2.1,w (z394ba.2.2.2.2.2.2.1-1),z394ba.1,z394ba.2.1,z394ba.2.2.1,z394ba.2.2.2.1,z394ba.2.2.2.2.1,z394ba.2.2.2.2.2.2.2.1,z394ba.2.2.2.2.2.2.2.2.2.1,z394ba.2.2.2.2.2.2.2.2.1,z394ba.2.2.2.2.2.2.2.2.2.2))) (fun z394bb=>dn (.inr (.inl (14,0,⟨#[]⟩,z394bb.2.2.2.2.2.2.2.2.2.2.2.1,fun j=>[i64 (z394bb.2.2.2.2.2.2.2.2.2.2.2.2.1 j),i64 (z394bb.2.2.2.2.2.2.2.2.2.2.2.2.2.1 j),st (z394bb.2.2.2.2.2.2.2.2.2.2.2.2.2.2.1 j),V.ro 4 (z394bb.2.2.2.2.2.2.2.2.2.2.2.2.2.2.2.1 j) (z394bb.2.2.2.2.2.2.2.2.2.2.2.2.2.2.2.2 j)],z394bb.2.2.2.2.2.1,w (z394bb.2.2.2.2.2.2.1-1),z394bb.1,z394bb.2.1,z394bb.2.2.1,z394bb.2.2.2.1,z394bb.2.2.2.2.1,z394bb.2.2.2.2.2.2.2.1,z394bb.2.2.2.2.2.2.2.2.2.1,z394bb.2.2.2.2.2.2.2.2.1,z394bb.2.2.2.2.2.2.2.2.2.2.1)))) z394b) z394) (fun z12b=>dn (.inr (.inr z12b))) z12
theorem n_blockR{β:Type}(c_opens c_take c_statement)(l_blockR_l0)(x)(dn:g_blockR→Option β):t_blockR c_opens c_take c_statement l_blockR_l0 x dn=(t_blockR c_opens c_take c_statement l_blockR_l0 x some).bind dn:=by
 unfold t_blockR
 repeat' first|exact n0|refine n1 fun _=>?_|refine n2 ?_ ?_|refine n3 (fun _=>?_) fun _=>?_|rfl
theorem r_blockR(c_opens c_take c_statement)(l_blockR_l0)(x):callK E5 (ft2 88 A_opens R_opens c_opens (ftb 84 A_take R_take c_take (ft2 89 A_statement R_statement c_statement ca0))) (lt3 0 (fun _=>true) (bodyOf E5 57 0) (blockR_l0_S x) (blockR_l0_T x) l_blockR_l0 lo0) 57 (A_blockR x).1 (A_blockR x).2 K=t_blockR (vf A_opens c_opens) (vf A_take c_take) (vf A_statement c_statement) (lf (bodyOf E5 57 0) (blockR_l0_S x) l_blockR_l0) x (fun z=>some (.c (R_blockR z))):=by kernel_rfl
theorem s_blockR(c_opens)(h_opens:Lw E5 88 A_opens R_opens c_opens)(c_take)(h_take:Lw E5 84 A_take R_take c_take)(c_statement)(h_statement:Lw E5 89 A_statement R_statement c_statement)(q:Nat):Lw E5 57 A_blockR R_blockR fun x=>t_blockR c_opens c_take c_statement (blockR_l0 c_opens c_take c_statement q x) x some:=sof hW5 hX5 (fk2 h_opens (fk h_take (fk2 h_statement ca0_sound))) (fun x=>(lk3 (blockR_l0_s c_opens h_opens c_take h_take c_statement h_statement q x) lo0_sound)) fun x=>(r_blockR c_opens c_take c_statement (blockR_l0 c_opens c_take c_statement q x) x).trans (by rw[v_opens,v_take,v_statement,blockR_l0_u,n_blockR]<;>rfl)
noncomputable def t_branchR{β:Type}(c_expr:a_expr→Option g_expr)(c_block:a_block→Option g_block)(c_take:a_take→Option g_take)(x:a_branchR)(dn:g_branchR→Option β):Option β:=
 (c_expr (1,w (x.1+1),x.2)).bind fun z12=>Sum.elim (fun z12a=>(c_block z12a.2.2.2.2.2).bind fun z24=>Sum.elim (fun z24a=>(c_take (⟨#[101,108,115,101]⟩,z24a.2.2.2.2.2)).bind fun z37=>if z37.1=true then(c_block z37.2).bind fun z49=>Sum.elim (fun z49a=>dn (.inl (3,0,⟨#[]⟩,fun j=>[i64 (if j<2 then if j<1 then z12a.1 else z24a.1 else z49a.1),i64 (if j<2 then if j<1 then z12a.2.1 else z24a.2.1 else z49a.2.1),st (if j<2 then if j<1 then z12a.2.2.1 else z24a.2.2.1 else z49a.2.2.1),V.ro 4 (if j<2 then if j<1 then z12a.2.2.2.1 else z24a.2.2.2.1 else z49a.2.2.2.1) fun j_1=>if j<2 then if j<1 then z12a.2.2.2.2.1 j_1 else z24a.2.2.2.2.1 j_1 else z49a.2.2.2.2.1 j_1],z49a.2.2.2.2.2))) (fun z49b=>dn (.inr z49b)) z49 else dn (.inl (3,0,⟨#[]⟩,fun j=>[i64 (if j<2 then if j<1 then z12a.1 else z24a.1 else 14),i64 (if j<2 then if j<1 then z12a.2.1 else z24a.2.1 else 0),st (if j<2 then if j<1 then z12a.2.2.1 else z24a.2.2.1 else⟨#[]⟩),Decidable.rec (fun(h:¬j<1+1)=>nilS) (fun(h:j<1+1)=>mergeV (j<1) (V.ro 4 z12a.2.2.2.1 z12a.2.2.2.2.1) (V.ro 4 z24a.2.2.2.1 z24a.2.2.2.2.1)) (Nat.decLt j (1+1))],z37.2))) (fun z24b=>dn (.inr z24b)) z24) (fun z12b=>dn (.inr z12b)) z12
theorem n_branchR{β:Type}(c_expr c_block c_take)(x)(dn:g_branchR→Option β):t_branchR c_expr c_block c_take x dn=(t_branchR c_expr c_block c_take x some).bind dn:=by
 unfold t_branchR
 repeat' first|exact n0|refine n1 fun _=>?_|refine n2 ?_ ?_|refine n3 (fun _=>?_) fun _=>?_|rfl
theorem r_branchR(c_expr c_block c_take)(x):callK E5 (ft2 136 A_expr R_expr c_expr (ft2 57 A_block R_block c_block (ftb 84 A_take R_take c_take ca0))) lo0 112 (A_branchR x).1 (A_branchR x).2 K=t_branchR (vf A_expr c_expr) (vf A_block c_block) (vf A_take c_take) x (fun z=>some (.c (R_branchR z))):=by kernel_rfl
theorem s_branchR(c_expr)(h_expr:Lw E5 136 A_expr R_expr c_expr)(c_block)(h_block:Lw E5 57 A_block R_block c_block)(c_take)(h_take:Lw E5 84 A_take R_take c_take)(q:Nat):Lw E5 112 A_branchR R_branchR fun x=>t_branchR c_expr c_block c_take x some:=sof hW5 hX5 (fk2 h_expr (fk2 h_block (fk h_take ca0_sound))) (fun _=>lo0_sound) fun x=>(r_branchR c_expr c_block c_take x).trans (by rw[v_expr,v_block,v_take,n_branchR]<;>rfl)
def t_repeatSR{β:Type}(c_number:a_number→Option g_number)(c_block:a_block→Option g_block)(x:a_repeatSR)(dn:g_repeatSR→Option β):Option β:=
 (c_number (1,100,w (x.1+1),x.2)).bind fun z13=>Sum.elim (fun z13a=>(c_block z13a.2).bind fun z25=>Sum.elim (fun z25a=>dn (.inl (4,z13a.1,⟨#[]⟩,z25a))) (fun z25b=>dn (.inr z25b)) z25) (fun z13b=>dn (.inr z13b)) z13
theorem n_repeatSR{β:Type}(c_number c_block)(x)(dn:g_repeatSR→Option β):t_repeatSR c_number c_block x dn=(t_repeatSR c_number c_block x some).bind dn:=by
 unfold t_repeatSR
 repeat' first|exact n0|refine n1 fun _=>?_|refine n2 ?_ ?_|refine n3 (fun _=>?_) fun _=>?_|rfl
theorem r_repeatSR(c_number c_block)(x):callK E5 (ft2 137 A_number R_number c_number (ft2 57 A_block R_block c_block ca0)) lo0 113 (A_repeatSR x).1 (A_repeatSR x).2 K=t_repeatSR (vf A_number c_number) (vf A_block c_block) x (fun z=>some (.c (R_repeatSR z))):=by kernel_rfl
theorem s_repeatSR(c_number)(h_number:Lw E5 137 A_number R_number c_number)(c_block)(h_block:Lw E5 57 A_block R_block c_block)(q:Nat):Lw E5 113 A_repeatSR R_repeatSR fun x=>t_repeatSR c_number c_block x some:=sof hW5 hX5 (fk2 h_number (fk2 h_block ca0_sound)) (fun _=>lo0_sound) fun x=>(r_repeatSR c_number c_block x).trans (by rw[v_number,v_block,n_repeatSR]<;>rfl)
def t_statementR{β:Type}(c_next:a_next→Option g_next)(c_letS:a_letS→Option g_letS)(c_branch:a_branch→Option g_branch)(c_repeatS:a_repeatS→Option g_repeatS)(c_await:a_await→Option g_await)(c_amount:a_amount→Option g_amount)(c_single:a_single→Option g_single)(c_numbered:a_numbered→Option g_numbered)(c_assign:a_assign→Option g_assign)(c_must:a_must→Option g_must)(x:a_statementR)(dn:g_statementR→Option β):Option β:=
 (c_next x).bind fun z11=>if(z11.2.2.1.toList==ByteArray.toList ⟨#[108,101,116]⟩)=true then(c_letS z11.2.2.2.2).bind fun z23=>Sum.elim (fun z23a=>(c_must (⟨#[59]⟩,z23a.2.2.2.2.2)).bind fun z36=>Sum.elim (fun z36a=>dn (.inl (z23a.1,z23a.2.1,z23a.2.2.1,z23a.2.2.2.1,z23a.2.2.2.2.1,z36a))) (fun z36b=>dn (.inr z36b)) z36) (fun z23b=>dn (.inr z23b)) z23 else if(z11.2.2.1.toList==ByteArray.toList ⟨#[105,102]⟩)=true then(c_branch z11.2.2.2.2).bind fun z50=>Sum.elim (fun z50a=>dn (.inl z50a)) (fun z50b=>dn (.inr z50b)) z50 else if(z11.2.2.1.toList==ByteArray.toList ⟨#[114,101,112,101,97,116]⟩)=true then(c_repeatS z11.2.2.2.2).bind fun z63=>Sum.elim (fun z63a=>dn (.inl z63a)) (fun z63b=>dn (.inr z63b)) z63 else if(z11.2.2.1.toList==ByteArray.toList ⟨#[97,119,97,105,116]⟩)=true then(c_await z11.2.2.2.2).bind fun z76=>Sum.elim (fun z76a=>(c_must (⟨#[59]⟩,z76a.2.2.2.2.2)).bind fun z89=>Sum.elim (fun z89a=>dn (.inl (z76a.1,z76a.2.1,z76a.2.2.1,z76a.2.2.2.1,z76a.2.2.2.2.1,z89a))) (fun z89b=>dn (.inr z89b)) z89) (fun z76b=>dn (.inr z76b)) z76 else if(z11.2.2.1.toList==ByteArray.toList ⟨#[119,97,105,116]⟩)=true then(c_amount z11.2.2.2.2).bind fun z103=>Sum.elim (fun z103a=>(c_must (⟨#[59]⟩,z103a.2.2.2.2.2)).bind fun z116=>Sum.elim (fun z116a=>dn (.inl (z103a.1,z103a.2.1,z103a.2.2.1,z103a.2.2.2.1,z103a.2.2.2.2.1,z116a))) (fun z116b=>dn (.inr z116b)) z116) (fun z103b=>dn (.inr z103b)) z103 else if(z11.2.2.1.toList==ByteArray.toList ⟨#[107,101,101,112]⟩)=true then(c_amount z11.2.2.2.2).bind fun z130=>Sum.elim (fun z130a=>(c_must (⟨#[59]⟩,z130a.2.2.2.2.2)).bind fun z143=>Sum.elim (fun z143a=>dn (.inl (z130a.1,z130a.2.1,z130a.2.2.1,z130a.2.2.2.1,z130a.2.2.2.2.1,z143a))) (fun z143b=>dn (.inr z143b)) z143) (fun z130b=>dn (.inr z130b)) z130 else if(z11.2.2.1.toList==ByteArray.toList ⟨#[114,101,113,117,105,114,101]⟩)=true then(c_single z11.2.2.2.2).bind fun z157=>Sum.elim (fun z157a=>(c_must (⟨#[59]⟩,z157a.2.2.2.2.2)).bind fun z170=>Sum.elim (fun z170a=>dn (.inl (z157a.1,z157a.2.1,z157a.2.2.1,z157a.2.2.2.1,z157a.2.2.2.2.1,z170a))) (fun z170b=>dn (.inr z170b)) z170) (fun z157b=>dn (.inr z157b)) z157 else if(z11.2.2.1.toList==ByteArray.toList ⟨#[112,111,105,110,116]⟩)=true then(c_single z11.2.2.2.2).bind fun z184=>Sum.elim (fun z184a=>(c_must (⟨#[59]⟩,z184a.2.2.2.2.2)).bind fun z197=>Sum.elim (fun z197a=>dn (.inl (z184a.1,z184a.2.1,z184a.2.2.1,z184a.2.2.2.1,z184a.2.2.2.2.1,z197a))) (fun z197b=>dn (.inr z197b)) z197) (fun z184b=>dn (.inr z184b)) z184 else if(z11.2.2.1.toList==ByteArray.toList ⟨#[117,115,101]⟩)=true then(c_numbered z11.2.2.2.2).bind fun z211=>Sum.elim (fun z211a=>(c_must (⟨#[59]⟩,z211a.2.2.2.2.2)).bind fun z224=>Sum.elim (fun z224a=>dn (.inl (z211a.1,z211a.2.1,z211a.2.2.1,z211a.2.2.2.1,z211a.2.2.2.2.1,z224a))) (fun z224b=>dn (.inr z224b)) z224) (fun z211b=>dn (.inr z211b)) z211 else if(z11.2.2.1.toList==ByteArray.toList ⟨#[115,101,110,100]⟩)=true then(c_numbered z11.2.2.2.2).bind fun z238=>Sum.elim (fun z238a=>(c_must (⟨#[59]⟩,z238a.2.2.2.2.2)).bind fun z251=>Sum.elim (fun z251a=>dn (.inl (z238a.1,z238a.2.1,z238a.2.2.1,z238a.2.2.2.1,z238a.2.2.2.2.1,z251a))) (fun z251b=>dn (.inr z251b)) z251) (fun z238b=>dn (.inr z238b)) z238 else if(z11.2.2.1.toList==ByteArray.toList ⟨#[101,109,105,116]⟩)=true then(c_numbered z11.2.2.2.2).bind fun z265=>Sum.elim (fun z265a=>(c_must (⟨#[59]⟩,z265a.2.2.2.2.2)).bind fun z278=>Sum.elim (fun z278a=>dn (.inl (z265a.1,z265a.2.1,z265a.2.2.1,z265a.2.2.2.1,z265a.2.2.2.2.1,z278a))) (fun z278b=>dn (.inr z278b)) z278) (fun z265b=>dn (.inr z265b)) z265 else if(z11.2.2.1.toList==ByteArray.toList ⟨#[97,98,111,114,116]⟩)=true then(c_numbered z11.2.2.2.2).bind fun z292=>Sum.elim (fun z292a=>(c_must (⟨#[59]⟩,z292a.2.2.2.2.2)).bind fun z305=>Sum.elim (fun z305a=>dn (.inl (z292a.1,z292a.2.1,z292a.2.2.1,z292a.2.2.2.1,z292a.2.2.2.2.1,z305a))) (fun z305b=>dn (.inr z305b)) z305) (fun z292b=>dn (.inr z292b)) z292 else(c_assign z11.2.2.2.2).bind fun z319=>Sum.elim (fun z319a=>(c_must (⟨#[59]⟩,z319a.2.2.2.2.2)).bind fun z332=>Sum.elim (fun z332a=>dn (.inl (z319a.1,z319a.2.1,z319a.2.2.1,z319a.2.2.2.1,z319a.2.2.2.2.1,z332a))) (fun z332b=>dn (.inr z332b)) z332) (fun z319b=>dn (.inr z319b)) z319
theorem n_statementR{β:Type}(c_next c_letS)(c_branch c_repeatS)(c_await c_amount)(c_single c_numbered)(c_assign c_must)(x)(dn:g_statementR→Option β):t_statementR c_next c_letS c_branch c_repeatS c_await c_amount c_single c_numbered c_assign c_must x dn=(t_statementR c_next c_letS c_branch c_repeatS c_await c_amount c_single c_numbered c_assign c_must x some).bind dn:=by
 unfold t_statementR
 repeat' first|exact n0|refine n1 fun _=>?_|refine n2 ?_ ?_|refine n3 (fun _=>?_) fun _=>?_|rfl
theorem r_statementR(c_next c_letS)(c_branch c_repeatS)(c_await c_amount)(c_single c_numbered)(c_assign c_must)(x):callK E5 (ftb 22 A_next R_next c_next (ft2 111 A_letS R_letS c_letS (ft2 112 A_branch R_branch c_branch (ft2 113 A_repeatS R_repeatS c_repeatS (ft2 114 A_await R_await c_await (ft2 115 A_amount R_amount c_amount (ft2 116 A_single R_single c_single (ft2 117 A_numbered R_numbered c_numbered (ft2 118 A_assign R_assign c_assign (ft2 53 A_must R_must c_must ca0)))))))))) lo0 89 (A_statementR x).1 (A_statementR x).2 K=t_statementR (vf A_next c_next) (vf A_letS c_letS) (vf A_branch c_branch) (vf A_repeatS c_repeatS) (vf A_await c_await) (vf A_amount c_amount) (vf A_single c_single) (vf A_numbered c_numbered) (vf A_assign c_assign) (vf A_must c_must) x (fun z=>some (.c (R_statementR z))):=by kernel_rfl
theorem s_statementR(c_next)(h_next:Lw E5 22 A_next R_next c_next)(c_letS)(h_letS:Lw E5 111 A_letS R_letS c_letS)(c_branch)(h_branch:Lw E5 112 A_branch R_branch c_branch)(c_repeatS)(h_repeatS:Lw E5 113 A_repeatS R_repeatS c_repeatS)(c_await)(h_await:Lw E5 114 A_await R_await c_await)(c_amount)(h_amount:Lw E5 115 A_amount R_amount c_amount)(c_single)(h_single:Lw E5 116 A_single R_single c_single)(c_numbered)(h_numbered:Lw E5 117 A_numbered R_numbered c_numbered)(c_assign)(h_assign:Lw E5 118 A_assign R_assign c_assign)(c_must)(h_must:Lw E5 53 A_must R_must c_must)(q:Nat):Lw E5 89 A_statementR R_statementR fun x=>t_statementR c_next c_letS c_branch c_repeatS c_await c_amount c_single c_numbered c_assign c_must x some:=sof hW5 hX5 (fk h_next (fk2 h_letS (fk2 h_branch (fk2 h_repeatS (fk2 h_await (fk2 h_amount (fk2 h_single (fk2 h_numbered (fk2 h_assign (fk2 h_must ca0_sound)))))))))) (fun _=>lo0_sound) fun x=>(r_statementR c_next c_letS c_branch c_repeatS c_await c_amount c_single c_numbered c_assign c_must x).trans (by rw[v_next,v_letS,v_branch,v_repeatS,v_await,v_amount,v_single,v_numbered,v_assign,v_must,n_statementR]<;>rfl)
def cv_block:g_blockR→g_block:=Sum.elim (fun z=>.inl (z.1,z.2.1,z.2.2.1,0,fun _=>[],z.2.2.2)) (Sum.elim (fun z=>.inl z) (fun z=>.inr z))
theorem cvs_block{args:List V}{L:List (Option Chunk)}(z:g_blockR)(h:SC E5 57 args L (R_blockR z)):SC E5 57 args L (R_block (cv_block z)):=by
 rcases z with z|z|z
 ·exact cv_z h
 ·exact cv_r h
 ·exact h
def cv_branch:g_branchR→g_branch:=Sum.elim (fun z=>.inl (z.1,z.2.1,z.2.2.1,3,fun j=>fixC (z.2.2.2.1 j),z.2.2.2.2)) (fun z=>.inr z)
theorem cvs_branch{args:List V}{L:List (Option Chunk)}(z:g_branchR)(h:SC E5 112 args L (R_branchR z)):SC E5 112 args L (R_branch (cv_branch z)):=by
 rcases z with z|z
 ·exact cv_F h
 ·exact h
def cv_repeatS:g_repeatSR→g_repeatS:=Sum.elim (fun z=>.inl (z.1,z.2.1,z.2.2.1,1,selL [[i64 z.2.2.2.1,i64 z.2.2.2.2.1,st z.2.2.2.2.2.1,.ro 4 z.2.2.2.2.2.2.1 z.2.2.2.2.2.2.2.1]],z.2.2.2.2.2.2.2.2)) (fun z=>.inr z)
theorem cvs_repeatS{args:List V}{L:List (Option Chunk)}(z:g_repeatSR)(h:SC E5 113 args L (R_repeatSR z)):SC E5 113 args L (R_repeatS (cv_repeatS z)):=by
 rcases z with z|z
 ·exact cv_k h
 ·exact h
def cv_statement:g_statementR→g_statement:=Sum.elim (fun z=>.inl z) (fun z=>.inr z)
theorem cvs_statement{args:List V}{L:List (Option Chunk)}(z:g_statementR)(h:SC E5 89 args L (R_statementR z)):SC E5 89 args L (R_statement (cv_statement z)):=by
 rcases z with z|z
 ·exact h
 ·exact h
noncomputable def stS:Nat→(a_block→Option g_block)×(a_branch→Option g_branch)×(a_repeatS→Option g_repeatS)×(a_statement→Option g_statement)
 |0=>(fun _=>none,fun _=>none,fun _=>none,fun _=>none)
 |q+1=>(fun x=>(t_blockR ((opens q)) ((take q)) ((stS q).2.2.2) (blockR_l0 ((opens q)) ((take q)) ((stS q).2.2.2) q x) x some).map cv_block,
  fun x=>(t_branchR ((expr q)) ((stS q).1) ((take q)) x some).map cv_branch,
  fun x=>(t_repeatSR ((number q)) ((stS q).1) x some).map cv_repeatS,
  fun x=>(t_statementR ((next q)) ((letS q)) ((stS q).2.1) ((stS q).2.2.1) ((await q)) ((amount q)) ((single q)) ((numbered q)) ((assign q)) ((must q)) x some).map cv_statement)
theorem stS_sc:∀q,(∀x z,(stS q).1 x=some z→SC E5 57 (A_block x).1 (A_block x).2 (R_block z))∧(∀x z,(stS q).2.1 x=some z→SC E5 112 (A_branch x).1 (A_branch x).2 (R_branch z))∧(∀x z,(stS q).2.2.1 x=some z→SC E5 113 (A_repeatS x).1 (A_repeatS x).2 (R_repeatS z))∧(∀x z,(stS q).2.2.2 x=some z→SC E5 89 (A_statement x).1 (A_statement x).2 (R_statement z))
 |0=>⟨(fun x z h=>by cases h),(fun x z h=>by cases h),(fun x z h=>by cases h),(fun x z h=>by cases h)⟩
 |q+1=>by
  obtain⟨h0,h1,h2,h3⟩:=stS_sc q
  exact⟨(fun x z h=>by
   obtain⟨y,hy,rfl⟩:=Option.map_eq_some_iff.1 h
   exact cvs_block y (s_blockR ((opens q)) ((sc_opens q)) ((take q)) ((sc_take q)) ((stS q).2.2.2) (h3) q x y hy)),(fun x z h=>by
   obtain⟨y,hy,rfl⟩:=Option.map_eq_some_iff.1 h
   exact cvs_branch y (s_branchR ((expr q)) ((sc_expr q)) ((stS q).1) (h0) ((take q)) ((sc_take q)) q x y hy)),(fun x z h=>by
   obtain⟨y,hy,rfl⟩:=Option.map_eq_some_iff.1 h
   exact cvs_repeatS y (s_repeatSR ((number q)) ((sc_number q)) ((stS q).1) (h0) q x y hy)),(fun x z h=>by
   obtain⟨y,hy,rfl⟩:=Option.map_eq_some_iff.1 h
   exact cvs_statement y (s_statementR ((next q)) ((sc_next q)) ((letS q)) ((sc_letS q)) ((stS q).2.1) (h1) ((stS q).2.2.1) (h2) ((await q)) ((sc_await q)) ((amount q)) ((sc_amount q)) ((single q)) ((sc_single q)) ((numbered q)) ((sc_numbered q)) ((assign q)) ((sc_assign q)) ((must q)) ((sc_must q)) q x y hy))⟩
noncomputable def block(q:Nat):a_block→Option g_block:=(stS q).1
theorem sc_block(q:Nat):Lw E5 57 A_block R_block (block q):=(stS_sc q).1
noncomputable def branch(q:Nat):a_branch→Option g_branch:=(stS q).2.1
noncomputable def repeatS(q:Nat):a_repeatS→Option g_repeatS:=(stS q).2.2.1
noncomputable def statement(q:Nat):a_statement→Option g_statement:=(stS q).2.2.2
end Go.Proofs.YtjfkkokeegpeiaaGreatDoor
/- Procedures, lifted. -/
namespace Go.Proofs.YtjfkkokeegpeiaaGreatDoor
open Go Go.Am Go.Proofs
set_option maxRecDepth 100000
abbrev a_paramsR:Type:=SP
abbrev g_paramsR:Type:=(SP)⊕(Nat×FS×FS×SP)⊕(Int×Int)
def A_paramsR:AR a_paramsR:=fun x=>([.ptr 0 0],[some (.blk [.ro 4 x.2.2.1 (fun j=>[i64 (x.2.2.2.1 j),i64 (x.2.2.2.2.1 j),st (x.2.2.2.2.2.1 j),i64 (x.2.2.2.2.2.2.1 j)]),i64 x.1,i64 x.2.1,.sl 2 1 0 x.2.2.2.2.2.2.2.1,.sl 1 1 0 x.2.2.2.2.2.2.2.2.2.1]),some (.row 9 1 x.2.2.2.2.2.2.2.2.2.1 (fun j=>[st (x.2.2.2.2.2.2.2.2.2.2 j)])),some (.row 9 1 x.2.2.2.2.2.2.2.1 (fun j=>[st (x.2.2.2.2.2.2.2.2.1 j)]))])
def R_paramsR:g_paramsR→CRes:=Sum.elim (fun z:SP=>.ret nilS (hHP z)) (Sum.elim (fun z:Nat×FS×FS×SP=>.ret (.sl 3 2 0 z.1) [some (.blk [.ro 4 z.2.2.2.2.2.1 (fun j=>[i64 (z.2.2.2.2.2.2.1 j),i64 (z.2.2.2.2.2.2.2.1 j),st (z.2.2.2.2.2.2.2.2.1 j),i64 (z.2.2.2.2.2.2.2.2.2.1 j)]),i64 z.2.2.2.1,i64 z.2.2.2.2.1,.sl 1 1 0 z.2.2.2.2.2.2.2.2.2.2.1,.sl 2 1 0 z.2.2.2.2.2.2.2.2.2.2.2.2.1]),some (.row 9 1 z.2.2.2.2.2.2.2.2.2.2.1 (fun j=>[st (z.2.2.2.2.2.2.2.2.2.2.2.1 j)])),some (.row 9 1 z.2.2.2.2.2.2.2.2.2.2.2.2.1 (fun j=>[st (z.2.2.2.2.2.2.2.2.2.2.2.2.2 j)])),some (.row 66 2 z.1 (fun j=>[st (z.2.1 j),st (z.2.2.1 j)]))]) (fun z:Int×Int=>.pan (.ifc 45 (.agg [i64 z.1,i64 z.2]))))
abbrev paramsR_l0_a:Type:=(SC2)⊕(Nat×FI×FI×FS×FI×Int×Int×Nat×Nat×FS×FS×FS×FS×Nat)
abbrev paramsR_l0_g:Type:=(Int×Int)⊕(Nat×FI×FI×FS×FI×Int×Int×Nat×Nat×FS×FS×FS×FS×Nat)
def paramsR_l0_S0(x:a_paramsR)(y:SC2):St:={fr:=[V.ptr 0 0,V.junk,V.junk,nilS]++jk 54,H:=hp [some (hPB y),some (hPV y),some (hPQ0 y)],nx:=3,rt:=1,me:=56}
def paramsR_l0_d0(s:St):SC2:=((vRoN (cb s 0 0)),dTI (cb s 0 0) 0,dTI (cb s 0 0) 1,dTS (cb s 0 0) 2,dTI (cb s 0 0) 3,vI (cb s 0 1),vI (cb s 0 2),vSlN (cb s 0 3),vSlN (cb s 0 4),dRS (s.H 1) 0,dRS (s.H 2) 0)
def paramsR_l0_S1(x:a_paramsR)(y:Nat×FI×FI×FS×FI×Int×Int×Nat×Nat×FS×FS×FS×FS×Nat):St:={fr:=[V.ptr 0 0,V.junk,V.junk,V.sl 3 2 0 y.2.2.2.2.2.2.2.2.2.2.2.2.2]++jk 54,H:=hp [some (hPB y),some (hPV y),some (hPQ y),some (Chunk.row 66 2 y.2.2.2.2.2.2.2.2.2.2.2.2.2 fun j=>[st (y.2.2.2.2.2.2.2.2.2.2.2.1 j),st (y.2.2.2.2.2.2.2.2.2.2.2.2.1 j)])],nx:=4,rt:=1,me:=56}
def paramsR_l0_d1(s:St):Nat×FI×FI×FS×FI×Int×Int×Nat×Nat×FS×FS×FS×FS×Nat:=((vRoN (cb s 0 0)),dTI (cb s 0 0) 0,dTI (cb s 0 0) 1,dTS (cb s 0 0) 2,dTI (cb s 0 0) 3,vI (cb s 0 1),vI (cb s 0 2),vSlN (cb s 0 3),vSlN (cb s 0 4),dRS (s.H 1) 0,dRS (s.H 2) 0,dRS (s.H 3) 0,dRS (s.H 3) 1,vSlN (s.fr.getD 3 .junk))
def paramsR_l0_S(x:a_paramsR):paramsR_l0_a→St:=(Sum.elim (paramsR_l0_S0 x) (paramsR_l0_S1 x))
def paramsR_l0_d(s:St):paramsR_l0_a:=(match s.nx==3 with|true=>(.inl (paramsR_l0_d0 s)) |false=>(.inr (paramsR_l0_d1 s)))
theorem paramsR_l0_u(x:a_paramsR):VL (paramsR_l0_S x):=vl paramsR_l0_d (fun y=>by rcases y with y|y<;>rfl)
def paramsR_l0_T(x:a_paramsR):paramsR_l0_g→Ex×St:=(Sum.elim (fun z=>(Ex.panic (V.ifc 45 (V.agg [i64 z.1,i64 z.2])),{fr:=[V.junk]++jk 57,H:=hp [none],nx:=1,rt:=1,me:=56})) (fun z=>(Ex.exit 0,{fr:=[V.ptr 0 0,V.junk,V.junk,V.sl 3 2 0 z.2.2.2.2.2.2.2.2.2.2.2.2.2]++jk 54,H:=hp [some (hPB z),some (hPV z),some (hPQ z),some (Chunk.row 66 2 z.2.2.2.2.2.2.2.2.2.2.2.2.2 fun j=>[st (z.2.2.2.2.2.2.2.2.2.2.2.1 j),st (z.2.2.2.2.2.2.2.2.2.2.2.2.1 j)])],nx:=4,rt:=1,me:=56})))
def paramsR_l0_t0{β:Type}(c_must:a_must→Option g_must)(c_take:a_take→Option g_take)(c_declare:a_declare→Option g_declare)(c_next:a_next→Option g_next)(c_Lookup:a_Lookup→Option g_Lookup)(c_fail:a_fail→Option g_fail)(x:a_paramsR)(y:SC2)(nx:paramsR_l0_a→Option β)(dn:paramsR_l0_g→Option β):Option β:=
 (c_declare (y.2.2.2.2.2.1,y.2.2.2.2.2.2.1,y.1,y.2.1,y.2.2.1,y.2.2.2.1,y.2.2.2.2.1,y.2.2.2.2.2.2.2.1,y.2.2.2.2.2.2.2.2.2.1,y.2.2.2.2.2.2.2.2.1,y.2.2.2.2.2.2.2.2.2.2)).bind fun z985=>Sum.elim (fun z985a=>(c_take (⟨#[58]⟩,z985a.2)).bind fun z998=>if z998.1=true then(c_next z998.2).bind fun z1010=>(c_Lookup z1010.2.2.1).bind fun z1012=>if(z1010.1 !=1)=true then(c_fail (11,z1010.2.2.2.2)).bind fun z1025=>dn (.inl z1025)else if(!z1012.2.2.2.2.2.2)=true then(c_fail (10,z1010.2.2.2.2)).bind fun z1038=>dn (.inl z1038)else(c_take (⟨#[44]⟩,w (z1010.2.2.2.2.1+1),z1010.2.2.2.2.2)).bind fun z1051=>if(!z1051.1)=true then dn (.inr (z1051.2.2.2.1,z1051.2.2.2.2.1,z1051.2.2.2.2.2.1,z1051.2.2.2.2.2.2.1,z1051.2.2.2.2.2.2.2.1,z1051.2.1,z1051.2.2.1,z1051.2.2.2.2.2.2.2.2.1,z1051.2.2.2.2.2.2.2.2.2.2.1,z1051.2.2.2.2.2.2.2.2.2.1,z1051.2.2.2.2.2.2.2.2.2.2.2,fun j=>z985a.1,fun j=>z1010.2.2.1,1))else nx (.inr (z1051.2.2.2.1,z1051.2.2.2.2.1,z1051.2.2.2.2.2.1,z1051.2.2.2.2.2.2.1,z1051.2.2.2.2.2.2.2.1,z1051.2.1,z1051.2.2.1,z1051.2.2.2.2.2.2.2.2.1,z1051.2.2.2.2.2.2.2.2.2.2.1,z1051.2.2.2.2.2.2.2.2.2.1,z1051.2.2.2.2.2.2.2.2.2.2.2,fun j=>z985a.1,fun j=>z1010.2.2.1,1))else(c_take (⟨#[44]⟩,z998.2)).bind fun z1064=>if(!z1064.1)=true then dn (.inr (z1064.2.2.2.1,z1064.2.2.2.2.1,z1064.2.2.2.2.2.1,z1064.2.2.2.2.2.2.1,z1064.2.2.2.2.2.2.2.1,z1064.2.1,z1064.2.2.1,z1064.2.2.2.2.2.2.2.2.1,z1064.2.2.2.2.2.2.2.2.2.2.1,z1064.2.2.2.2.2.2.2.2.2.1,z1064.2.2.2.2.2.2.2.2.2.2.2,fun j=>z985a.1,fun j=>⟨#[]⟩,1))else nx (.inr (z1064.2.2.2.1,z1064.2.2.2.2.1,z1064.2.2.2.2.2.1,z1064.2.2.2.2.2.2.1,z1064.2.2.2.2.2.2.2.1,z1064.2.1,z1064.2.2.1,z1064.2.2.2.2.2.2.2.2.1,z1064.2.2.2.2.2.2.2.2.2.2.1,z1064.2.2.2.2.2.2.2.2.2.1,z1064.2.2.2.2.2.2.2.2.2.2.2,fun j=>z985a.1,fun j=>⟨#[]⟩,1))) (fun z985b=>dn (.inl z985b)) z985
theorem paramsR_l0_n0{β:Type}(c_must c_take)(c_declare c_next)(c_Lookup c_fail)(x)(y)(nx:paramsR_l0_a→Option β)(dn):paramsR_l0_t0 c_must c_take c_declare c_next c_Lookup c_fail x y nx dn=(paramsR_l0_t0 c_must c_take c_declare c_next c_Lookup c_fail x y (fun y=>some (.inl y)) (fun z=>some (.inr z))).bind fun r=>Sum.elim nx dn r:=by
 unfold paramsR_l0_t0
 repeat' first|exact n0|refine n1 fun _=>?_|refine n2 ?_ ?_|refine n3 (fun _=>?_) fun _=>?_|rfl
theorem paramsR_l0_r0(c_must c_take)(c_declare c_next)(c_Lookup c_fail)(x)(y)(lo:LoopT):loopK E5 (ft2 53 A_must R_must c_must (ftb 84 A_take R_take c_take (ft2 86 A_declare R_declare c_declare (ftb 22 A_next R_next c_next (ftb 87 A_Lookup R_Lookup c_Lookup (ftb 55 A_fail R_fail c_fail ca0)))))) lo 0 9 (bodyOf E5 56 0) (paramsR_l0_S x (.inl y)) (KCM [(0,9)] 4)=paramsR_l0_t0 (vf A_must c_must) (vf A_take c_take) (vf A_declare c_declare) (vf A_next c_next) (vf A_Lookup c_Lookup) (vf A_fail c_fail) x y (fun y=>lo 0 9 (bodyOf E5 56 0) (paramsR_l0_S x y) (KCM [(0,9)] 4)) (fun z=>some (.l (paramsR_l0_T x z).1 (paramsR_l0_T x z).2)):=by kernel_rfl
def paramsR_l0_t1{β:Type}(c_must:a_must→Option g_must)(c_take:a_take→Option g_take)(c_declare:a_declare→Option g_declare)(c_next:a_next→Option g_next)(c_Lookup:a_Lookup→Option g_Lookup)(c_fail:a_fail→Option g_fail)(x:a_paramsR)(y:Nat×FI×FI×FS×FI×Int×Int×Nat×Nat×FS×FS×FS×FS×Nat)(nx:paramsR_l0_a→Option β)(dn:paramsR_l0_g→Option β):Option β:=
 (c_declare (y.2.2.2.2.2.1,y.2.2.2.2.2.2.1,y.1,y.2.1,y.2.2.1,y.2.2.2.1,y.2.2.2.2.1,y.2.2.2.2.2.2.2.1,y.2.2.2.2.2.2.2.2.2.1,y.2.2.2.2.2.2.2.2.1,y.2.2.2.2.2.2.2.2.2.2.1)).bind fun z1078=>Sum.elim (fun z1078a=>(c_take (⟨#[58]⟩,z1078a.2)).bind fun z1091=>if z1091.1=true then(c_next z1091.2).bind fun z1103=>(c_Lookup z1103.2.2.1).bind fun z1105=>if(z1103.1 !=1)=true then(c_fail (11,z1103.2.2.2.2)).bind fun z1118=>dn (.inl z1118)else if(!z1105.2.2.2.2.2.2)=true then(c_fail (10,z1103.2.2.2.2)).bind fun z1131=>dn (.inl z1131)else if(y.2.2.2.2.2.2.2.2.2.2.2.2.2+1)*32≤roomBound∧y.2.2.2.2.2.2.2.2.2.2.2.2.2+1≤maxLen∧y.2.2.2.2.2.2.2.2.2.2.2.2.2≤y.2.2.2.2.2.2.2.2.2.2.2.2.2 then(c_take (⟨#[44]⟩,w (z1103.2.2.2.2.1+1),z1103.2.2.2.2.2)).bind fun z1144=>if(!z1144.1)=true then dn (.inr (z1144.2.2.2.1,z1144.2.2.2.2.1,z1144.2.2.2.2.2.1,z1144.2.2.2.2.2.2.1,z1144.2.2.2.2.2.2.2.1,z1144.2.1,z1144.2.2.1,z1144.2.2.2.2.2.2.2.2.1,z1144.2.2.2.2.2.2.2.2.2.2.1,z1144.2.2.2.2.2.2.2.2.2.1,z1144.2.2.2.2.2.2.2.2.2.2.2,fun j=>if j<y.2.2.2.2.2.2.2.2.2.2.2.2.2 then y.2.2.2.2.2.2.2.2.2.2.2.1 j else z1078a.1,fun j=>if j<y.2.2.2.2.2.2.2.2.2.2.2.2.2 then y.2.2.2.2.2.2.2.2.2.2.2.2.1 j else z1103.2.2.1,y.2.2.2.2.2.2.2.2.2.2.2.2.2+1))else nx (.inr (z1144.2.2.2.1,z1144.2.2.2.2.1,z1144.2.2.2.2.2.1,z1144.2.2.2.2.2.2.1,z1144.2.2.2.2.2.2.2.1,z1144.2.1,z1144.2.2.1,z1144.2.2.2.2.2.2.2.2.1,z1144.2.2.2.2.2.2.2.2.2.2.1,z1144.2.2.2.2.2.2.2.2.2.1,z1144.2.2.2.2.2.2.2.2.2.2.2,fun j=>if j<y.2.2.2.2.2.2.2.2.2.2.2.2.2 then y.2.2.2.2.2.2.2.2.2.2.2.1 j else z1078a.1,fun j=>if j<y.2.2.2.2.2.2.2.2.2.2.2.2.2 then y.2.2.2.2.2.2.2.2.2.2.2.2.1 j else z1103.2.2.1,y.2.2.2.2.2.2.2.2.2.2.2.2.2+1))else none else if(y.2.2.2.2.2.2.2.2.2.2.2.2.2+1)*32≤roomBound∧y.2.2.2.2.2.2.2.2.2.2.2.2.2+1≤maxLen∧y.2.2.2.2.2.2.2.2.2.2.2.2.2≤y.2.2.2.2.2.2.2.2.2.2.2.2.2 then(c_take (⟨#[44]⟩,z1091.2)).bind fun z1157=>if(!z1157.1)=true then dn (.inr (z1157.2.2.2.1,z1157.2.2.2.2.1,z1157.2.2.2.2.2.1,z1157.2.2.2.2.2.2.1,z1157.2.2.2.2.2.2.2.1,z1157.2.1,z1157.2.2.1,z1157.2.2.2.2.2.2.2.2.1,z1157.2.2.2.2.2.2.2.2.2.2.1,z1157.2.2.2.2.2.2.2.2.2.1,z1157.2.2.2.2.2.2.2.2.2.2.2,fun j=>if j<y.2.2.2.2.2.2.2.2.2.2.2.2.2 then y.2.2.2.2.2.2.2.2.2.2.2.1 j else z1078a.1,fun j=>if j<y.2.2.2.2.2.2.2.2.2.2.2.2.2 then y.2.2.2.2.2.2.2.2.2.2.2.2.1 j else⟨#[]⟩,y.2.2.2.2.2.2.2.2.2.2.2.2.2+1))else nx (.inr (z1157.2.2.2.1,z1157.2.2.2.2.1,z1157.2.2.2.2.2.1,z1157.2.2.2.2.2.2.1,z1157.2.2.2.2.2.2.2.1,z1157.2.1,z1157.2.2.1,z1157.2.2.2.2.2.2.2.2.1,z1157.2.2.2.2.2.2.2.2.2.2.1,z1157.2.2.2.2.2.2.2.2.2.1,z1157.2.2.2.2.2.2.2.2.2.2.2,fun j=>if j<y.2.2.2.2.2.2.2.2.2.2.2.2.2 then y.2.2.2.2.2.2.2.2.2.2.2.1 j else z1078a.1,fun j=>if j<y.2.2.2.2.2.2.2.2.2.2.2.2.2 then y.2.2.2.2.2.2.2.2.2.2.2.2.1 j else⟨#[]⟩,y.2.2.2.2.2.2.2.2.2.2.2.2.2+1))else none) (fun z1078b=>dn (.inl z1078b)) z1078
theorem paramsR_l0_n1{β:Type}(c_must c_take)(c_declare c_next)(c_Lookup c_fail)(x)(y)(nx:paramsR_l0_a→Option β)(dn):paramsR_l0_t1 c_must c_take c_declare c_next c_Lookup c_fail x y nx dn=(paramsR_l0_t1 c_must c_take c_declare c_next c_Lookup c_fail x y (fun y=>some (.inl y)) (fun z=>some (.inr z))).bind fun r=>Sum.elim nx dn r:=by
 unfold paramsR_l0_t1
 repeat' first|exact n0|refine n1 fun _=>?_|refine n2 ?_ ?_|refine n3 (fun _=>?_) fun _=>?_|rfl
theorem paramsR_l0_r1(c_must c_take)(c_declare c_next)(c_Lookup c_fail)(x)(y)(lo:LoopT):loopK E5 (ft2 53 A_must R_must c_must (ftb 84 A_take R_take c_take (ft2 86 A_declare R_declare c_declare (ftb 22 A_next R_next c_next (ftb 87 A_Lookup R_Lookup c_Lookup (ftb 55 A_fail R_fail c_fail ca0)))))) lo 0 9 (bodyOf E5 56 0) (paramsR_l0_S x (.inr y)) (KCM [(0,9)] 4)=paramsR_l0_t1 (vf A_must c_must) (vf A_take c_take) (vf A_declare c_declare) (vf A_next c_next) (vf A_Lookup c_Lookup) (vf A_fail c_fail) x y (fun y=>lo 0 9 (bodyOf E5 56 0) (paramsR_l0_S x y) (KCM [(0,9)] 4)) (fun z=>some (.l (paramsR_l0_T x z).1 (paramsR_l0_T x z).2)):=by kernel_rfl
noncomputable def paramsR_l0(c_must:a_must→Option g_must)(c_take:a_take→Option g_take)(c_declare:a_declare→Option g_declare)(c_next:a_next→Option g_next)(c_Lookup:a_Lookup→Option g_Lookup)(c_fail:a_fail→Option g_fail)(q:Nat)(x:a_paramsR):paramsR_l0_a→Option paramsR_l0_g:=lpG (Sum.elim (fun y=>paramsR_l0_t0 c_must c_take c_declare c_next c_Lookup c_fail x y (fun y=>some (.inl y)) (fun z=>some (.inr z))) (fun y=>paramsR_l0_t1 c_must c_take c_declare c_next c_Lookup c_fail x y (fun y=>some (.inl y)) (fun z=>some (.inr z)))) q
theorem paramsR_l0_s(c_must)(h_must:Lw E5 53 A_must R_must c_must)(c_take)(h_take:Lw E5 84 A_take R_take c_take)(c_declare)(h_declare:Lw E5 86 A_declare R_declare c_declare)(c_next)(h_next:Lw E5 22 A_next R_next c_next)(c_Lookup)(h_Lookup:Lw E5 87 A_Lookup R_Lookup c_Lookup)(c_fail)(h_fail:Lw E5 55 A_fail R_fail c_fail)(q:Nat)(x:a_paramsR):Ll E5 (bodyOf E5 56 0) (paramsR_l0_S x) (paramsR_l0_T x) (paramsR_l0 c_must c_take c_declare c_next c_Lookup c_fail q x):=
 slp (fk2 h_must (fk h_take (fk2 h_declare (fk h_next (fk h_Lookup (fk h_fail ca0_sound)))))) hX5 (fun lo y=>by
  rcases y with y|y
  ·exact(paramsR_l0_r0 c_must c_take c_declare c_next c_Lookup c_fail x y lo).trans (by rw[v_must,v_take,v_declare,v_next,v_Lookup,v_fail];exact paramsR_l0_n0 _ _ _ _ _ _ _ _ _ _)
  ·exact(paramsR_l0_r1 c_must c_take c_declare c_next c_Lookup c_fail x y lo).trans (by rw[v_must,v_take,v_declare,v_next,v_Lookup,v_fail];exact paramsR_l0_n1 _ _ _ _ _ _ _ _ _ _)) (fun z=>by rcases z with z|z<;>kernel_rfl) q
def t_paramsR{β:Type}(c_must:a_must→Option g_must)(c_take:a_take→Option g_take)(c_declare:a_declare→Option g_declare)(c_next:a_next→Option g_next)(c_Lookup:a_Lookup→Option g_Lookup)(c_fail:a_fail→Option g_fail)(l_paramsR_l0:paramsR_l0_a→Option paramsR_l0_g)(x:a_paramsR)(dn:g_paramsR→Option β):Option β:=
 (c_must (⟨#[40]⟩,x)).bind fun z12=>Sum.elim (fun z12a=>(c_take (⟨#[41]⟩,z12a)).bind fun z25=>if z25.1=true then dn (.inl z25.2)else(l_paramsR_l0 (.inl (z25.2.2.2.1,z25.2.2.2.2.1,z25.2.2.2.2.2.1,z25.2.2.2.2.2.2.1,z25.2.2.2.2.2.2.2.1,z25.2.1,z25.2.2.1,z25.2.2.2.2.2.2.2.2.1,z25.2.2.2.2.2.2.2.2.2.2.1,z25.2.2.2.2.2.2.2.2.2.1,z25.2.2.2.2.2.2.2.2.2.2.2))).bind fun z918=>Sum.elim (fun z918a=>dn (.inr (.inr z918a))) (fun z918b=>(c_must (⟨#[41]⟩,z918b.2.2.2.2.2.1,z918b.2.2.2.2.2.2.1,z918b.1,z918b.2.1,z918b.2.2.1,z918b.2.2.2.1,z918b.2.2.2.2.1,z918b.2.2.2.2.2.2.2.1,z918b.2.2.2.2.2.2.2.2.2.1,z918b.2.2.2.2.2.2.2.2.1,z918b.2.2.2.2.2.2.2.2.2.2.1)).bind fun z932=>Sum.elim (fun z932a=>dn (.inr (.inl (z918b.2.2.2.2.2.2.2.2.2.2.2.2.2,z918b.2.2.2.2.2.2.2.2.2.2.2.1,z918b.2.2.2.2.2.2.2.2.2.2.2.2.1,z932a)))) (fun z932b=>dn (.inr (.inr z932b))) z932) z918) (fun z12b=>dn (.inr (.inr z12b))) z12
theorem n_paramsR{β:Type}(c_must c_take)(c_declare c_next)(c_Lookup c_fail)(l_paramsR_l0)(x)(dn:g_paramsR→Option β):t_paramsR c_must c_take c_declare c_next c_Lookup c_fail l_paramsR_l0 x dn=(t_paramsR c_must c_take c_declare c_next c_Lookup c_fail l_paramsR_l0 x some).bind dn:=by
 unfold t_paramsR
 repeat' first|exact n0|refine n1 fun _=>?_|refine n2 ?_ ?_|refine n3 (fun _=>?_) fun _=>?_|rfl
theorem r_paramsR(c_must c_take)(c_declare c_next)(c_Lookup c_fail)(l_paramsR_l0)(x):callK E5 (ft2 53 A_must R_must c_must (ftb 84 A_take R_take c_take (ft2 86 A_declare R_declare c_declare (ftb 22 A_next R_next c_next (ftb 87 A_Lookup R_Lookup c_Lookup (ftb 55 A_fail R_fail c_fail ca0)))))) (lt2 0 (fun _=>true) (bodyOf E5 56 0) (paramsR_l0_S x) (paramsR_l0_T x) l_paramsR_l0 lo0) 56 (A_paramsR x).1 (A_paramsR x).2 K=t_paramsR (vf A_must c_must) (vf A_take c_take) (vf A_declare c_declare) (vf A_next c_next) (vf A_Lookup c_Lookup) (vf A_fail c_fail) (lf (bodyOf E5 56 0) (paramsR_l0_S x) l_paramsR_l0) x (fun z=>some (.c (R_paramsR z))):=by kernel_rfl
noncomputable def paramsR(q:Nat)(x:a_paramsR):Option g_paramsR:=t_paramsR (must q) (take q) (declare q) (next q) (Lookup q) (fail q) (paramsR_l0 (must q) (take q) (declare q) (next q) (Lookup q) (fail q) q x) x some
theorem sc_paramsR(q:Nat):Lw E5 56 A_paramsR R_paramsR (paramsR q):=sof hW5 hX5 (fk2 (sc_must q) (fk (sc_take q) (fk2 (sc_declare q) (fk (sc_next q) (fk (sc_Lookup q) (fk (sc_fail q) ca0_sound)))))) (fun x=>(lk2 (paramsR_l0_s (must q) (sc_must q) (take q) (sc_take q) (declare q) (sc_declare q) (next q) (sc_next q) (Lookup q) (sc_Lookup q) (fail q) (sc_fail q) q x) lo0_sound)) fun x=>(r_paramsR (must q) (take q) (declare q) (next q) (Lookup q) (fail q) (paramsR_l0 (must q) (take q) (declare q) (next q) (Lookup q) (fail q) q x) x).trans (by rw[v_must,v_take,v_declare,v_next,v_Lookup,v_fail,paramsR_l0_u,n_paramsR]<;>rfl)
abbrev a_params:Type:=Int×Int×Nat×FI×FI×FS×FI×Nat×FS
abbrev g_params:Type:=(Nat×FS×FS×SP)⊕(Int×Int)
def A_params:AR a_params:=fun x=>([.ptr 0 0],[some (.blk [.ro 4 x.2.2.1 (fun j=>[i64 (x.2.2.2.1 j),i64 (x.2.2.2.2.1 j),st (x.2.2.2.2.2.1 j),i64 (x.2.2.2.2.2.2.1 j)]),i64 x.1,i64 x.2.1,nilS,.sl 1 1 0 x.2.2.2.2.2.2.2.1]),some (.row 9 1 x.2.2.2.2.2.2.2.1 (fun j=>[st (x.2.2.2.2.2.2.2.2 j)]))])
def d_params(t:TT):a_params:=((vI (cc t 0 1)),vI (cc t 0 2),vRoN (cc t 0 0),dTI (cc t 0 0) 0,dTI (cc t 0 0) 1,dTS (cc t 0 0) 2,dTI (cc t 0 0) 3,vSlN (cc t 0 4),dRS (co t 1) 0)
theorem v_params:VI A_params:=vd d_params fun _=>rfl
def R_params:g_params→CRes:=Sum.elim (fun z:Nat×FS×FS×SP=>.ret (.ro 2 z.1 (fun j=>[st (z.2.1 j),st (z.2.2.1 j)])) (hHP z.2.2.2)) (fun z:Int×Int=>.pan (.ifc 45 (.agg [i64 z.1,i64 z.2])))
def cv_params:g_paramsR→g_params:=Sum.elim (fun z=>.inl (0,fun _=>ByteArray.empty,fun _=>ByteArray.empty,z)) (Sum.elim (fun z=>.inl z) (fun z=>.inr z))
theorem cvs_params{args:List V}{L:List (Option Chunk)}(z:g_paramsR)(h:SC E5 56 args L (R_paramsR z)):SC E5 56 args L (R_params (cv_params z)):=by
 rcases z with z|z|z
 ·exact SC.le h Le.nil_ro
 ·have h2:=SC.giveM (L2:=[some (.blk [.ro 4 z.2.2.2.2.2.1 (fun j=>[i64 (z.2.2.2.2.2.2.1 j),i64 (z.2.2.2.2.2.2.2.1 j),st (z.2.2.2.2.2.2.2.2.1 j),i64 (z.2.2.2.2.2.2.2.2.2.1 j)]),i64 z.2.2.2.1,i64 z.2.2.2.2.1,.sl 1 1 0 z.2.2.2.2.2.2.2.2.2.2.1,.sl 2 1 0 z.2.2.2.2.2.2.2.2.2.2.2.2.1]),some (.row 9 1 z.2.2.2.2.2.2.2.2.2.2.1 (fun j=>[st (z.2.2.2.2.2.2.2.2.2.2.2.1 j)])),some (.row 9 1 z.2.2.2.2.2.2.2.2.2.2.2.2.1 (fun j=>[st (z.2.2.2.2.2.2.2.2.2.2.2.2.2 j)]))]) 3 h (by rfl) (by simp[V.bw,V.bw2,V.bw1,hp,V.pure,pureL])
  simp only[V.bw,V.bw2,V.bw1,hp,List.getD_eq_getElem?_getD,List.getElem?_cons_succ,List.getElem?_cons_zero,Option.getD_some,Nat.zero_add,Nat.le_refl,and_self,if_true]at h2
  exact h2
 ·exact h
noncomputable def params(q:Nat)(x:a_params):Option g_params:=(paramsR q (x.1,x.2.1,x.2.2.1,x.2.2.2.1,x.2.2.2.2.1,x.2.2.2.2.2.1,x.2.2.2.2.2.2.1,0,fun _=>ByteArray.empty,x.2.2.2.2.2.2.2)).map cv_params
theorem sc_params(q:Nat):Lw E5 56 A_params R_params (params q):=by
 intro x z h
 obtain⟨y,hy,rfl⟩:=Option.map_eq_some_iff.1 h
 have:=cvs_params y (sc_paramsR q _ y hy)
 refine SC.virtB 0 [.ro 4 x.2.2.1 (fun j=>[i64 (x.2.2.2.1 j),i64 (x.2.2.2.2.1 j),st (x.2.2.2.2.2.1 j),i64 (x.2.2.2.2.2.2.1 j)]),i64 x.1,i64 x.2.1,.sl 2 1 0 0,.sl 1 1 0 x.2.2.2.2.2.2.2.1] 9 1 (fun j=>[st ByteArray.empty]) (by decide) this rfl (fun β S w us b hb hd=>?_) (by show 1≤2;decide) (by show 1≤1;decide)
 simp only[denL]at hd⊢
 obtain⟨u1,r1,rfl,h1,u2,r2,rfl,h2,u3,r3,rfl,h3,u4,r4,rfl,h4,u5,r5,rfl,h5,rfl⟩:=hd
 exact⟨u1,_,rfl,h1,u2,_,rfl,h2,u3,_,rfl,h3,u4,_,rfl,nil_sl (by show 2<3;decide) hb h4,u5,_,rfl,h5,rfl⟩
abbrev a_procedure:Type:=SP
abbrev g_procedure:Type:=(ByteArray×Nat×FS×FS×Int×Int×ByteArray×Nat×FL×SP)⊕(Int×Int)
def A_procedure:AR a_procedure:=fun x=>([.ptr 0 0],(hHP x))
def d_procedure(t:TT):a_procedure:=(dHP t.2)
theorem v_procedure:VI A_procedure:=vd d_procedure fun _=>rfl
def R_procedure:g_procedure→CRes:=Sum.elim (fun z:ByteArray×Nat×FS×FS×Int×Int×ByteArray×Nat×FL×SP=>.ret (.agg [st z.1,.ro 2 z.2.1 (fun j=>[st (z.2.2.1 j),st (z.2.2.2.1 j)]),i64 z.2.2.2.2.1,i64 z.2.2.2.2.2.1,st z.2.2.2.2.2.2.1,.ro 4 z.2.2.2.2.2.2.2.1 z.2.2.2.2.2.2.2.2.1]) (hHP z.2.2.2.2.2.2.2.2.2)) (fun z:Int×Int=>.pan (.ifc 45 (.agg [i64 z.1,i64 z.2])))
abbrev procedure_l0_a:Type:=Nat×Int×Nat×FI×FI×FS×FI×Int×Int×Nat×FS×FS×ByteArray×Int
abbrev procedure_l0_g:Type:=(Int×Int)⊕(Nat×FI×FI×FS×FI×Int×Int×Nat×Nat×FS×FS×ByteArray)
def procedure_l0_S(x:a_procedure)(y:procedure_l0_a):St:={fr:=[V.ptr 0 0,V.junk,V.ptr 3 0,V.ptr 4 0]++jk 10++[V.sl 2 1 0 y.1,i64 y.2.1,i64 y.2.2.2.2.2.2.2.2.2.2.2.2.2]++jk 38,H:=hp [some (Chunk.blk [V.ro 4 y.2.2.1 fun j=>[i64 (y.2.2.2.1 j),i64 (y.2.2.2.2.1 j),st (y.2.2.2.2.2.1 j),i64 (y.2.2.2.2.2.2.1 j)],i64 y.2.2.2.2.2.2.2.1,i64 y.2.2.2.2.2.2.2.2.1,V.sl 1 1 0 y.2.2.2.2.2.2.2.2.2.1,V.sl 2 1 0 y.1]),some (Chunk.row 9 1 y.2.2.2.2.2.2.2.2.2.1 fun j=>[st (y.2.2.2.2.2.2.2.2.2.2.1 j)]),some (Chunk.row 9 1 y.1 fun j=>[st (y.2.2.2.2.2.2.2.2.2.2.2.1 j)]),some (Chunk.blk [st ⟨#[]⟩,nilS,i64 0,i64 0,st ⟨#[]⟩,nilS]),some (Chunk.blk [st y.2.2.2.2.2.2.2.2.2.2.2.2.1,nilS,i64 0,i64 0,st ⟨#[]⟩,nilS])],nx:=5,rt:=1,me:=23}
def procedure_l0_d(s:St):procedure_l0_a:=((vSlN (s.fr.getD 14 .junk)),vI (s.fr.getD 15 .junk),vRoN (cb s 0 0),dTI (cb s 0 0) 0,dTI (cb s 0 0) 1,dTS (cb s 0 0) 2,dTI (cb s 0 0) 3,vI (cb s 0 1),vI (cb s 0 2),vSlN (cb s 0 3),dRS (s.H 1) 0,dRS (s.H 2) 0,vS (cb s 4 0),vI (s.fr.getD 16 .junk))
theorem procedure_l0_u(x:a_procedure):VL (procedure_l0_S x):=vl procedure_l0_d fun _=>rfl
def procedure_l0_T(x:a_procedure):procedure_l0_g→Ex×St:=(Sum.elim (fun z=>(Ex.panic (V.ifc 45 (V.agg [i64 z.1,i64 z.2])),{fr:=[V.junk]++jk 54,H:=hp [none],nx:=1,rt:=1,me:=23})) (fun z=>(Ex.exit 0,{fr:=[V.ptr 0 0,V.junk,V.ptr 3 0,V.ptr 4 0]++jk 51,H:=hp [some (hPB z),some (hPV z),some (hPQ z),some (Chunk.blk [st ⟨#[]⟩,nilS,i64 0,i64 0,st ⟨#[]⟩,nilS]),some (Chunk.blk [st z.2.2.2.2.2.2.2.2.2.2.2,nilS,i64 0,i64 0,st ⟨#[]⟩,nilS])],nx:=5,rt:=1,me:=23})))
def procedure_l0_t{β:Type}(c_must:a_must→Option g_must)(c_name:a_name→Option g_name)(c_fail:a_fail→Option g_fail)(c_params:a_params→Option g_params)(c_block:a_block→Option g_block)(x:a_procedure)(y:procedure_l0_a)(nx:procedure_l0_a→Option β)(dn:procedure_l0_g→Option β):Option β:=
 if decide (y.2.2.2.2.2.2.2.2.2.2.2.2.2<y.2.1)=true then if 0≤y.2.2.2.2.2.2.2.2.2.2.2.2.2∧y.2.2.2.2.2.2.2.2.2.2.2.2.2< ((y.1:Nat):Int)then if 0+Int.toNat y.2.2.2.2.2.2.2.2.2.2.2.2.2<y.1∧1=1 then if(ByteArray.toList (y.2.2.2.2.2.2.2.2.2.2.2.1 (0+Int.toNat y.2.2.2.2.2.2.2.2.2.2.2.2.2))==y.2.2.2.2.2.2.2.2.2.2.2.2.1.toList)=true then(c_fail (4,w (y.2.2.2.2.2.2.2.1-1),y.2.2.2.2.2.2.2.2.1,y.2.2.1,y.2.2.2.1,y.2.2.2.2.1,y.2.2.2.2.2.1,y.2.2.2.2.2.2.1,y.2.2.2.2.2.2.2.2.2.1,y.2.2.2.2.2.2.2.2.2.2.1,y.1,y.2.2.2.2.2.2.2.2.2.2.2.1)).bind fun z195=>dn (.inl z195)else nx (y.1,y.2.1,y.2.2.1,y.2.2.2.1,y.2.2.2.2.1,y.2.2.2.2.2.1,y.2.2.2.2.2.2.1,y.2.2.2.2.2.2.2.1,y.2.2.2.2.2.2.2.2.1,y.2.2.2.2.2.2.2.2.2.1,y.2.2.2.2.2.2.2.2.2.2.1,y.2.2.2.2.2.2.2.2.2.2.2.1,y.2.2.2.2.2.2.2.2.2.2.2.2.1,w (y.2.2.2.2.2.2.2.2.2.2.2.2.2+1))else none else none else dn (.inr (y.2.2.1,y.2.2.2.1,y.2.2.2.2.1,y.2.2.2.2.2.1,y.2.2.2.2.2.2.1,y.2.2.2.2.2.2.2.1,y.2.2.2.2.2.2.2.2.1,y.2.2.2.2.2.2.2.2.2.1,y.1,y.2.2.2.2.2.2.2.2.2.2.1,y.2.2.2.2.2.2.2.2.2.2.2.1,y.2.2.2.2.2.2.2.2.2.2.2.2.1))
theorem procedure_l0_n{β:Type}(c_must c_name)(c_fail c_params c_block)(x)(y)(nx:procedure_l0_a→Option β)(dn):procedure_l0_t c_must c_name c_fail c_params c_block x y nx dn=(procedure_l0_t c_must c_name c_fail c_params c_block x y (fun y=>some (.inl y)) (fun z=>some (.inr z))).bind fun r=>Sum.elim nx dn r:=by
 unfold procedure_l0_t
 repeat' first|exact n0|refine n1 fun _=>?_|refine n2 ?_ ?_|refine n3 (fun _=>?_) fun _=>?_|rfl
theorem procedure_l0_r(c_must c_name)(c_fail c_params c_block)(x)(y)(lo:LoopT):loopK E5 (ft2 53 A_must R_must c_must (ft2 54 A_name R_name c_name (ftb 55 A_fail R_fail c_fail (fg2 56 (fun _ L=>L.length==2) A_params R_params c_params (ft2 57 A_block R_block c_block ca0))))) lo 0 114701 (bodyOf E5 23 0) (procedure_l0_S x y) (KCM [(0,13)] 4)=procedure_l0_t (vf A_must c_must) (vf A_name c_name) (vf A_fail c_fail) (vf A_params c_params) (vf A_block c_block) x y (fun y=>lo 0 114701 (bodyOf E5 23 0) (procedure_l0_S x y) (KCM [(0,13)] 4)) (fun z=>some (.l (procedure_l0_T x z).1 (procedure_l0_T x z).2)):=by kernel_rfl
noncomputable def procedure_l0(c_must:a_must→Option g_must)(c_name:a_name→Option g_name)(c_fail:a_fail→Option g_fail)(c_params:a_params→Option g_params)(c_block:a_block→Option g_block)(q:Nat)(x:a_procedure):procedure_l0_a→Option procedure_l0_g:=lpG (fun y=>procedure_l0_t c_must c_name c_fail c_params c_block x y (fun y=>some (.inl y)) (fun z=>some (.inr z))) q
theorem procedure_l0_s(c_must)(h_must:Lw E5 53 A_must R_must c_must)(c_name)(h_name:Lw E5 54 A_name R_name c_name)(c_fail)(h_fail:Lw E5 55 A_fail R_fail c_fail)(c_params)(h_params:Lw E5 56 A_params R_params c_params)(c_block)(h_block:Lw E5 57 A_block R_block c_block)(q:Nat)(x:a_procedure):Ll E5 (bodyOf E5 23 0) (procedure_l0_S x) (procedure_l0_T x) (procedure_l0 c_must c_name c_fail c_params c_block q x):=
 slp (fk2 h_must (fk2 h_name (fk h_fail (fk2 h_params (fk2 h_block ca0_sound))))) hX5 (fun lo y=>(procedure_l0_r c_must c_name c_fail c_params c_block x y lo).trans (by rw[v_must,v_name,v_fail,v_params,v_block];exact procedure_l0_n _ _ _ _ _ _ _ _ _)) (fun z=>by rcases z with z|z<;>kernel_rfl) q
def t_procedure{β:Type}(c_must:a_must→Option g_must)(c_name:a_name→Option g_name)(c_fail:a_fail→Option g_fail)(c_params:a_params→Option g_params)(c_block:a_block→Option g_block)(l_procedure_l0:procedure_l0_a→Option procedure_l0_g)(x:a_procedure)(dn:g_procedure→Option β):Option β:=
 (c_must (⟨#[112,114,111,99,101,100,117,114,101]⟩,x)).bind fun z12=>Sum.elim (fun z12a=>(c_name z12a).bind fun z24=>Sum.elim (fun z24a=>(l_procedure_l0 (z24a.2.2.2.2.2.2.2.2.2.2.1,((z24a.2.2.2.2.2.2.2.2.2.2.1:Nat):Int),z24a.2.2.2.1,z24a.2.2.2.2.1,z24a.2.2.2.2.2.1,z24a.2.2.2.2.2.2.1,z24a.2.2.2.2.2.2.2.1,z24a.2.1,z24a.2.2.1,z24a.2.2.2.2.2.2.2.2.1,z24a.2.2.2.2.2.2.2.2.2.1,z24a.2.2.2.2.2.2.2.2.2.2.2,z24a.1,0)).bind fun z121=>Sum.elim (fun z121a=>dn (.inr z121a)) (fun z121b=>if(z121b.2.2.2.2.2.2.2.2.1+1)*16≤roomBound∧z121b.2.2.2.2.2.2.2.2.1+1≤maxLen∧z121b.2.2.2.2.2.2.2.2.1≤z121b.2.2.2.2.2.2.2.2.1 then(c_params (z121b.2.2.2.2.2.1,z121b.2.2.2.2.2.2.1,z121b.1,z121b.2.1,z121b.2.2.1,z121b.2.2.2.1,z121b.2.2.2.2.1,z121b.2.2.2.2.2.2.2.2.1+1,fun j=>if j<z121b.2.2.2.2.2.2.2.2.1 then z121b.2.2.2.2.2.2.2.2.2.2.1 j else z121b.2.2.2.2.2.2.2.2.2.2.2)).bind fun z132=>Sum.elim (fun z132a=>(c_block z132a.2.2.2).bind fun z144=>Sum.elim (fun z144a=>dn (.inl (z121b.2.2.2.2.2.2.2.2.2.2.2,z132a.1,z132a.2.1,z132a.2.2.1,z144a))) (fun z144b=>dn (.inr z144b)) z144) (fun z132b=>dn (.inr z132b)) z132 else none) z121) (fun z24b=>dn (.inr z24b)) z24) (fun z12b=>dn (.inr z12b)) z12
theorem n_procedure{β:Type}(c_must c_name)(c_fail c_params c_block)(l_procedure_l0)(x)(dn:g_procedure→Option β):t_procedure c_must c_name c_fail c_params c_block l_procedure_l0 x dn=(t_procedure c_must c_name c_fail c_params c_block l_procedure_l0 x some).bind dn:=by
 unfold t_procedure
 repeat' first|exact n0|refine n1 fun _=>?_|refine n2 ?_ ?_|refine n3 (fun _=>?_) fun _=>?_|rfl
theorem r_procedure(c_must c_name)(c_fail c_params c_block)(l_procedure_l0)(x):callK E5 (ft2 53 A_must R_must c_must (ft2 54 A_name R_name c_name (ftb 55 A_fail R_fail c_fail (fg2 56 (fun _ L=>L.length==2) A_params R_params c_params (ft2 57 A_block R_block c_block ca0))))) (lt2 0 (fun _=>true) (bodyOf E5 23 0) (procedure_l0_S x) (procedure_l0_T x) l_procedure_l0 lo0) 23 (A_procedure x).1 (A_procedure x).2 K=t_procedure (vf A_must c_must) (vf A_name c_name) (vf A_fail c_fail) (vf A_params c_params) (vf A_block c_block) (lf (bodyOf E5 23 0) (procedure_l0_S x) l_procedure_l0) x (fun z=>some (.c (R_procedure z))):=by kernel_rfl
noncomputable def procedure(q:Nat)(x:a_procedure):Option g_procedure:=t_procedure (must q) (name q) (fail q) (params q) (block q) (procedure_l0 (must q) (name q) (fail q) (params q) (block q) q x) x some
theorem sc_procedure(q:Nat):Lw E5 23 A_procedure R_procedure (procedure q):=sof hW5 hX5 (fk2 (sc_must q) (fk2 (sc_name q) (fk (sc_fail q) (fk2 (sc_params q) (fk2 (sc_block q) ca0_sound))))) (fun x=>(lk2 (procedure_l0_s (must q) (sc_must q) (name q) (sc_name q) (fail q) (sc_fail q) (params q) (sc_params q) (block q) (sc_block q) q x) lo0_sound)) fun x=>(r_procedure (must q) (name q) (fail q) (params q) (block q) (procedure_l0 (must q) (name q) (fail q) (params q) (block q) q x) x).trans (by rw[v_must,v_name,v_fail,v_params,v_block,procedure_l0_u,n_procedure]<;>rfl)
abbrev a_procedureZ:Type:=Int×Int×Nat×FI×FI×FS×FI
abbrev g_procedureZ:Type:=(ByteArray×Nat×FS×FS×Int×Int×ByteArray×Nat×FL×SP)⊕(Int×Int)
def A_procedureZ:AR a_procedureZ:=fun x=>([.ptr 0 0],[some (.blk [.ro 4 x.2.2.1 (fun j=>[i64 (x.2.2.2.1 j),i64 (x.2.2.2.2.1 j),st (x.2.2.2.2.2.1 j),i64 (x.2.2.2.2.2.2 j)]),i64 x.1,i64 x.2.1,nilS,nilS])])
def d_procedureZ(t:TT):a_procedureZ:=((vI (cc t 0 1)),vI (cc t 0 2),vRoN (cc t 0 0),dTI (cc t 0 0) 0,dTI (cc t 0 0) 1,dTS (cc t 0 0) 2,dTI (cc t 0 0) 3)
theorem v_procedureZ:VI A_procedureZ:=vd d_procedureZ fun _=>rfl
def R_procedureZ:g_procedureZ→CRes:=Sum.elim (fun z:ByteArray×Nat×FS×FS×Int×Int×ByteArray×Nat×FL×SP=>.ret (.agg [st z.1,.ro 2 z.2.1 (fun j=>[st (z.2.2.1 j),st (z.2.2.2.1 j)]),i64 z.2.2.2.2.1,i64 z.2.2.2.2.2.1,st z.2.2.2.2.2.2.1,.ro 4 z.2.2.2.2.2.2.2.1 z.2.2.2.2.2.2.2.2.1]) (hHP z.2.2.2.2.2.2.2.2.2)) (fun z:Int×Int=>.pan (.ifc 45 (.agg [i64 z.1,i64 z.2])))
noncomputable def procedureZ(q:Nat)(x:a_procedureZ):Option g_procedureZ:=procedure q (x.1,x.2.1,x.2.2.1,x.2.2.2.1,x.2.2.2.2.1,x.2.2.2.2.2.1,x.2.2.2.2.2.2,0,fun _=>ByteArray.empty,0,fun _=>ByteArray.empty)
theorem sc_procedureZ(q:Nat):Lw E5 23 A_procedureZ R_procedureZ (procedureZ q):=by
 intro x z h
 have this:=sc_procedure q _ z h
 refine SC.virtB 0 [.ro 4 x.2.2.1 (fun j=>[i64 (x.2.2.2.1 j),i64 (x.2.2.2.2.1 j),st (x.2.2.2.2.2.1 j),i64 (x.2.2.2.2.2.2 j)]),i64 x.1,i64 x.2.1,.sl 1 1 0 0,nilS] 9 1 (fun j=>[st ByteArray.empty]) (by decide) (cr:=R_procedureZ z) (SC.virtB 0 [.ro 4 x.2.2.1 (fun j=>[i64 (x.2.2.2.1 j),i64 (x.2.2.2.2.1 j),st (x.2.2.2.2.2.1 j),i64 (x.2.2.2.2.2.2 j)]),i64 x.1,i64 x.2.1,.sl 1 1 0 0,.sl 2 1 0 0] 9 1 (fun j=>[st ByteArray.empty]) (by decide) this rfl (fun β S w us b hb hd=>?_) (by show 1≤2;decide) (by show 1≤1;decide)) rfl (fun β S w us b hb hd=>?_) (by show 1≤1;decide) (by show 1≤1;decide)
 all_goals
  simp only[denL]at hd⊢
  obtain⟨u1,r1,rfl,h1,u2,r2,rfl,h2,u3,r3,rfl,h3,u4,r4,rfl,h4,u5,r5,rfl,h5,rfl⟩:=hd
 ·exact⟨u1,_,rfl,h1,u2,_,rfl,h2,u3,_,rfl,h3,u4,_,rfl,h4,u5,_,rfl,nil_sl (by show 2<3;decide) hb h5,rfl⟩
 ·exact⟨u1,_,rfl,h1,u2,_,rfl,h2,u3,_,rfl,h3,u4,_,rfl,nil_sl (by show 1<2;decide) hb h4,u5,_,rfl,h5,rfl⟩
end Go.Proofs.YtjfkkokeegpeiaaGreatDoor
/- Statements without blocks are read as the plain parser reads them. -/
namespace Go.Proofs.YtjfkkokeegpeiaaGreatDoor
open Go Go.Am Go.Proofs.Lx
set_option maxRecDepth 100000
theorem PR.bind_assoc{α β γ:Type}(r:PR α)(f:α→PS→PR β)(g:β→PS→PR γ):(r.bind f).bind g=r.bind fun a s=>(f a s).bind g:=by cases r<;>rfl
section
variable (T:Nat→Tkn)
def letQ(f:Nat)(s:PS):PR Tr:=(declP T s).bind fun a s1=>(mustP T sSet s1).bind fun _ s2=>(exprP T f 1 s2).bind fun n s3=>.ok (.node 1 0 a [n]) s3
def asgQ(f:Nat)(s:PS):PR Tr:=(nameP T s).bind fun a s1=>(mustP T sSet s1).bind fun _ s2=>(exprP T f 1 s2).bind fun n s3=>.ok (.node 2 0 a [n]) s3
def awaitQ(f:Nat)(s:PS):PR Tr:=(exprP T f 1 s).bind fun c s1=>(mustP T w_within s1).bind fun _ s2=>(litP T s2).bind fun n s3=>.ok (.node 6 0 ⟨#[]⟩ [c,n]) s3
def amtQ(k:Int)(s:PS):PR Tr:=(litP T s).bind fun n s2=>.ok (.node k 0 ⟨#[]⟩ [n]) s2
def sglQ(f:Nat)(k:Int)(s:PS):PR Tr:=(exprP T f 1 s).bind fun n s2=>.ok (.node k 0 ⟨#[]⟩ [n]) s2
def nmbQ(k hi:Int)(s:PS):PR Tr:=(numP T 0 hi s).bind fun n s1=>.ok (.node k n ⟨#[]⟩ []) s1
def useQ(k:Int)(b:ByteArray)(s:PS):PR Tr:=(numP T 0 7 s).bind fun n s1=>(mustP T b s1).bind fun _ s2=>(litP T s2).bind fun m s3=>.ok (.node k n ⟨#[]⟩ [m]) s3
end
theorem let_eq(T:Nat→Tkn)(f:Nat)(s:PS):((declP T s).bind fun x s1=>setP T f 1 x s1)=(letQ T f s).bind (Lx.endP T):=by
 simp only[letQ,setP,PR.bind_assoc];rfl
theorem asg_eq(T:Nat→Tkn)(f:Nat)(s:PS):((nameP T s).bind fun x s1=>setP T f 2 x s1)=(asgQ T f s).bind (Lx.endP T):=by
 simp only[asgQ,setP,PR.bind_assoc];rfl
theorem await_eq(T:Nat→Tkn)(f:Nat)(s:PS):awaitP T f s=(awaitQ T f s).bind (Lx.endP T):=by
 simp only[awaitQ,awaitP,PR.bind_assoc];rfl
theorem amt_eq(T:Nat→Tkn)(k:Int)(s:PS):amtP T k s=(amtQ T k s).bind (Lx.endP T):=by
 simp only[amtQ,amtP,PR.bind_assoc];rfl
theorem sgl_eq(T:Nat→Tkn)(f:Nat)(k:Int)(s:PS):oneP T f k s=(sglQ T f k s).bind (Lx.endP T):=by
 simp only[sglQ,oneP,PR.bind_assoc];rfl
theorem nmb_eq(T:Nat→Tkn)(k hi:Int)(s:PS):nmbP T k hi s=(nmbQ T k hi s).bind (Lx.endP T):=by
 simp only[nmbQ,nmbP,PR.bind_assoc];rfl
theorem use_eq(T:Nat→Tkn)(k:Int)(b:ByteArray)(s:PS):useP T k b s=(useQ T k b s).bind (Lx.endP T):=by
 simp only[useQ,useP,PR.bind_assoc];rfl
section
variable {N:Nat} {T:Nat→Tkn} {pr:List ByteArray} {s:PS} {x:StT}
theorem assign_rs(hT:TokN N T){f q:Nat}(hE:HE N T pr f q)(h:RS N T pr s x)(ho:asgQ T f s≠ .out):Rs (assign q x) (PN N T pr (asgQ T f s)):=by
 unfold assign
 refine Rs.map (P:=fun y=>PN N T pr (asgQ T f s) (cv_assign y)) ?_ fun z hz=>hz
 unfold assignR t_assignR
 have hop:asgQ T f s=(nameP T s).bind fun a s1=>(mustP T sSet s1).bind fun _ s2=>(exprP T f 1 s2).bind fun n s3=>.ok (.node 2 0 a [n]) s3:=rfl
 refine PX.bind (name_rs hT q h) (fun a s1 x1 e1 g1=>?_) (fun p c e hp=>?_)
 ·rw[e1]at hop
  dsimp only[PR.bind]at hop
  refine PU.bind (must_rs hT q g1 sSet (by decide)) (fun s2 x2 e2 g2=>?_) (fun p c e hp=>?_)
  ·rw[e2]at hop
   dsimp only[PR.bind]at hop
   refine PN.bind (hE f (Nat.le_refl _) 1 (by decide) (by decide) s2 x2 g2 (PR.bind_out (hop▸ho))) (fun t s3 k n b m c x3 e hr hx=>?_) (fun p c e hp=>?_)
   ·rw[hop,e];exact Rs.some ⟨RepN.k1 hr,hx⟩
   ·(rw[hop,e];exact Rs.some ⟨hp,rfl⟩)
  ·(rw[hop,e];exact Rs.some ⟨hp,rfl⟩)
 ·(rw[hop,e];exact Rs.some ⟨hp,rfl⟩)
theorem let_rs(hT:TokN N T){f q:Nat}(hq:20≤q)(hE:HE N T pr f q)(h:RS N T pr s x)(hne:(T s.p).t≠⟨#[]⟩∨(T s.p).k≠0)(ho:letQ T f (adv s)≠ .out):Rs (letS q x) (PN N T pr (letQ T f (adv s))):=by
 unfold letS
 refine Rs.map (P:=fun y=>PN N T pr (letQ T f (adv s)) (cv_letS y)) ?_ fun z hz=>hz
 unfold letSR t_letSR
 have hop:letQ T f (adv s)=(declP T (adv s)).bind fun a s1=>(mustP T sSet s1).bind fun _ s2=>(exprP T f 1 s2).bind fun n s3=>.ok (.node 1 0 a [n]) s3:=rfl
 refine PX.bind (declare_rs hT q hq (h.adv hT hne)) (fun a s1 x1 e1 g1=>?_) (fun p c e hp=>?_)
 ·rw[e1]at hop
  dsimp only[PR.bind]at hop
  refine PU.bind (must_rs hT q g1 sSet (by decide)) (fun s2 x2 e2 g2=>?_) (fun p c e hp=>?_)
  ·rw[e2]at hop
   dsimp only[PR.bind]at hop
   refine PN.bind (hE f (Nat.le_refl _) 1 (by decide) (by decide) s2 x2 g2 (PR.bind_out (hop▸ho))) (fun t s3 k n b m c x3 e hr hx=>?_) (fun p c e hp=>?_)
   ·rw[hop,e];exact Rs.some ⟨RepN.k1 hr,hx⟩
   ·(rw[hop,e];exact Rs.some ⟨hp,rfl⟩)
  ·(rw[hop,e];exact Rs.some ⟨hp,rfl⟩)
 ·(rw[hop,e];exact Rs.some ⟨hp,rfl⟩)
theorem RepN.two{k n:Int}{s:ByteArray}{ta tb:Tr}{a b:NodeT}(ha:RepN ta a)(hb:RepN tb b):RepN (.node k n s [ta,tb]) (k,n,s,2,fun j=>[i64 (if j<1 then a.1 else b.1),i64 (if j<1 then a.2.1 else b.2.1),st (if j<1 then a.2.2.1 else b.2.2.1),.ro 4 (if j<1 then a.2.2.2.1 else b.2.2.2.1) fun i=>if j<1 then a.2.2.2.2 i else b.2.2.2.2 i]):=by
 simp only[RepN,RepL,List.length_cons,List.length_nil]
 exact⟨trivial,trivial,trivial,trivial,⟨a,rfl,ha⟩,⟨b,rfl,hb⟩,trivial⟩
theorem await_rs(hT:TokN N T){f q:Nat}(hE:HE N T pr f q)(h:RS N T pr s x)(hne:(T s.p).t≠⟨#[]⟩∨(T s.p).k≠0)(ho:awaitQ T f (adv s)≠ .out):Rs (await q x) (PN N T pr (awaitQ T f (adv s))):=by
 unfold await
 refine Rs.map (P:=fun y=>PN N T pr (awaitQ T f (adv s)) (cv_await y)) ?_ fun z hz=>hz
 unfold awaitR t_awaitR
 have hop:awaitQ T f (adv s)=(exprP T f 1 (adv s)).bind fun c s1=>(mustP T w_within s1).bind fun _ s2=>(litP T s2).bind fun n s3=>.ok (.node 6 0 ⟨#[]⟩ [c,n]) s3:=rfl
 refine PN.bind (hE f (Nat.le_refl _) 1 (by decide) (by decide) (adv s) _ (h.adv hT hne) (PR.bind_out ho)) (fun t s1 k n b m c x1 e1 hr1 g1=>?_) (fun p c e hp=>?_)
 ·rw[e1]at hop
  dsimp only[PR.bind]at hop
  refine PU.bind (must_rs hT q g1 w_within (by decide)) (fun s2 x2 e2 g2=>?_) (fun p c e hp=>?_)
  ·rw[e2]at hop
   dsimp only[PR.bind]at hop
   refine PN.bind (literal_rs hT q g2) (fun t2 s3 k2 n2 b2 m2 c2 x3 e hr hx=>?_) (fun p c e hp=>?_)
   ·rw[hop,e];exact Rs.some ⟨RepN.two hr1 hr,hx⟩
   ·(rw[hop,e];exact Rs.some ⟨hp,rfl⟩)
  ·(rw[hop,e];exact Rs.some ⟨hp,rfl⟩)
 ·(rw[hop,e];exact Rs.some ⟨hp,rfl⟩)
theorem amount_rs(hT:TokN N T)(q:Nat)(h:RS N T pr s x)(hne:(T s.p).t≠⟨#[]⟩∨(T s.p).k≠0):Rs (amount q x) (PN N T pr (amtQ T (if isP T w_keep s=true then 11 else 5) (adv s))):=by
 unfold amount
 refine Rs.map (P:=fun y=>PN N T pr (amtQ T (if isP T w_keep s=true then 11 else 5) (adv s)) (cv_amount y)) ?_ fun z hz=>hz
 unfold amountR t_amountR
 rw[is_eq q h]
 dsimp only[Option.bind_some]
 by_cases hi:isP T w_keep s=true
 ·refine Rs.pos hi ?_
  rw[if_pos hi]
  have hop:amtQ T 11 (adv s)=(litP T (adv s)).bind fun n s2=>.ok (.node 11 0 ⟨#[]⟩ [n]) s2:=rfl
  refine PN.bind (literal_rs hT q (h.adv hT hne)) (fun t2 s3 k2 n2 b2 m2 c2 x3 e hr hx=>?_) (fun p c e hp=>?_)
  ·rw[hop,e];exact Rs.some ⟨RepN.k1 hr,hx⟩
  ·(rw[hop,e];exact Rs.some ⟨hp,rfl⟩)
 ·refine Rs.neg hi ?_
  rw[if_neg hi]
  have hop:amtQ T 5 (adv s)=(litP T (adv s)).bind fun n s2=>.ok (.node 5 0 ⟨#[]⟩ [n]) s2:=rfl
  refine PN.bind (literal_rs hT q (h.adv hT hne)) (fun t2 s3 k2 n2 b2 m2 c2 x3 e hr hx=>?_) (fun p c e hp=>?_)
  ·rw[hop,e];exact Rs.some ⟨RepN.k1 hr,hx⟩
  ·(rw[hop,e];exact Rs.some ⟨hp,rfl⟩)
theorem single_rs(hT:TokN N T){f q:Nat}(hE:HE N T pr f q)(h:RS N T pr s x)(hne:(T s.p).t≠⟨#[]⟩∨(T s.p).k≠0)(ho:exprP T f 1 (adv s)≠ .out):Rs (single q x) (PN N T pr (sglQ T f (if isP T w_point s=true then 8 else 7) (adv s))):=by
 unfold single
 refine Rs.map (P:=fun y=>PN N T pr (sglQ T f (if isP T w_point s=true then 8 else 7) (adv s)) (cv_single y)) ?_ fun z hz=>hz
 unfold singleR t_singleR
 rw[is_eq q h]
 dsimp only[Option.bind_some]
 by_cases hi:isP T w_point s=true
 ·refine Rs.pos hi ?_
  rw[if_pos hi]
  have hop:sglQ T f 8 (adv s)=(exprP T f 1 (adv s)).bind fun n s2=>.ok (.node 8 0 ⟨#[]⟩ [n]) s2:=rfl
  refine PN.bind (hE f (Nat.le_refl _) 1 (by decide) (by decide) (adv s) _ (h.adv hT hne) ho) (fun t2 s3 k2 n2 b2 m2 c2 x3 e hr hx=>?_) (fun p c e hp=>?_)
  ·rw[hop,e];exact Rs.some ⟨RepN.k1 hr,hx⟩
  ·(rw[hop,e];exact Rs.some ⟨hp,rfl⟩)
 ·refine Rs.neg hi ?_
  rw[if_neg hi]
  have hop:sglQ T f 7 (adv s)=(exprP T f 1 (adv s)).bind fun n s2=>.ok (.node 7 0 ⟨#[]⟩ [n]) s2:=rfl
  refine PN.bind (hE f (Nat.le_refl _) 1 (by decide) (by decide) (adv s) _ (h.adv hT hne) ho) (fun t2 s3 k2 n2 b2 m2 c2 x3 e hr hx=>?_) (fun p c e hp=>?_)
  ·rw[hop,e];exact Rs.some ⟨RepN.k1 hr,hx⟩
  ·(rw[hop,e];exact Rs.some ⟨hp,rfl⟩)
def numbQ(T:Nat→Tkn)(s:PS):PR Tr:=if isP T w_emit s=true then nmbQ T 12 99 (adv s)else if isP T w_abort s=true then nmbQ T 13 999 (adv s)else if isP T w_use s=true then useQ T 9 w_for (adv s)else useQ T 10 sComma (adv s)
theorem use_rs(hT:TokN N T)(q:Nat)(h:RS N T pr s x)(hne:(T s.p).t≠⟨#[]⟩∨(T s.p).k≠0)(kd:Int)(bb:ByteArray)(hb:bb≠⟨#[]⟩):
 Rs ((number q (0,7,w (x.1+1),x.2)).bind fun z=>Sum.elim (fun za=>(must q (bb,za.2)).bind fun y=>Sum.elim (fun ya=>(literal q ya).bind fun v=>Sum.elim (fun va=>(some (.inr (.inl (kd,za.1,(⟨#[]⟩:ByteArray),va))):Option g_numberedR)) (fun vb=>some (.inr (.inr vb))) v) (fun yb=>some (.inr (.inr yb))) y) (fun zb=>some (.inr (.inr zb))) z) (fun y=>PN N T pr (useQ T kd bb (adv s)) (cv_numbered y)):=by
 have hop:useQ T kd bb (adv s)=(numP T 0 7 (adv s)).bind fun n s1=>(mustP T bb s1).bind fun _ s2=>(litP T s2).bind fun m s3=>.ok (.node kd n ⟨#[]⟩ [m]) s3:=rfl
 refine PX.bind (number_rs hT q (h.adv hT hne) 0 7) (fun a s1 x1 e1 g1=>?_) (fun p c e hp=>?_)
 ·rw[e1]at hop
  dsimp only[PR.bind]at hop
  refine PU.bind (must_rs hT q g1 bb hb) (fun s2 x2 e2 g2=>?_) (fun p c e hp=>?_)
  ·rw[e2]at hop
   dsimp only[PR.bind]at hop
   refine PN.bind (literal_rs hT q g2) (fun t2 s3 k2 n2 b2 m2 c2 x3 e hr hx=>?_) (fun p c e hp=>?_)
   ·rw[hop,e];exact Rs.some ⟨RepN.k1 hr,hx⟩
   ·(rw[hop,e];exact Rs.some ⟨hp,rfl⟩)
  ·(rw[hop,e];exact Rs.some ⟨hp,rfl⟩)
 ·(rw[hop,e];exact Rs.some ⟨hp,rfl⟩)
theorem nmb_rs(hT:TokN N T)(q:Nat)(h:RS N T pr s x)(hne:(T s.p).t≠⟨#[]⟩∨(T s.p).k≠0)(kd hi:Int):
 Rs ((number q (0,hi,w (x.1+1),x.2)).bind fun z=>Sum.elim (fun za=>(some (.inl (kd,za.1,(⟨#[]⟩:ByteArray),za.2)):Option g_numberedR)) (fun zb=>some (.inr (.inr zb))) z) (fun y=>PN N T pr (nmbQ T kd hi (adv s)) (cv_numbered y)):=by
 have hop:nmbQ T kd hi (adv s)=(numP T 0 hi (adv s)).bind fun n s1=>.ok (.node kd n ⟨#[]⟩ []) s1:=rfl
 refine PX.bind (number_rs hT q (h.adv hT hne) 0 hi) (fun a s1 x1 e1 g1=>?_) (fun p c e hp=>?_)
 ·rw[hop,e1]
  exact Rs.some ⟨RepN.leaf,g1⟩
 ·(rw[hop,e];exact Rs.some ⟨hp,rfl⟩)
theorem numbered_rs(hT:TokN N T)(q:Nat)(h:RS N T pr s x)(hne:(T s.p).t≠⟨#[]⟩∨(T s.p).k≠0):Rs (numbered q x) (PN N T pr (numbQ T s)):=by
 unfold numbered
 refine Rs.map (P:=fun y=>PN N T pr (numbQ T s) (cv_numbered y)) ?_ fun z hz=>hz
 unfold numberedR t_numberedR numbQ
 rw[next_eq q h]
 dsimp only[Option.bind_some]
 rw[tl_dec,tl_dec,tl_dec]
 by_cases h1:isP T w_emit s=true
 ·rw[if_pos h1]
  exact Rs.pos h1 (nmb_rs hT q h hne 12 99)
 ·rw[if_neg h1]
  refine Rs.neg h1 ?_
  by_cases h2:isP T w_abort s=true
  ·rw[if_pos h2]
   exact Rs.pos h2 (nmb_rs hT q h hne 13 999)
  ·rw[if_neg h2]
   refine Rs.neg h2 ?_
   by_cases h3:isP T w_use s=true
   ·rw[if_pos h3]
    exact Rs.pos h3 (use_rs hT q h hne 9 w_for (by decide))
   ·rw[if_neg h3]
    exact Rs.neg h3 (use_rs hT q h hne 10 sComma (by decide))
end
end Go.Proofs.YtjfkkokeegpeiaaGreatDoor
/- Blocks are read as the plain parser reads them. -/
namespace Go.Proofs.YtjfkkokeegpeiaaGreatDoor
open Go Go.Am Go.Proofs.Lx
set_option maxRecDepth 100000
section
variable {T:Nat→Tkn}
theorem Op.of{α:Type}{o o':Nat}{r:PR α}(h:Op o r)(e:o=o'):Op o' r:=e▸h
theorem Op.ite{α:Type}{o:Nat}{c:Prop}[Decidable c]{a b:PR α}(h1:Op o a)(h2:Op o b):Op o (if c then a else b):=by
 by_cases h:c
 ·rw[if_pos h];exact h1
 ·rw[if_neg h];exact h2
theorem decl_op(s:PS):Op s.o (declP T s):=by
 unfold declP
 refine(name_op s).bind fun a s1 e=>?_
 repeat' split
 all_goals first|trivial|exact e
theorem end_op(n:Tr)(s:PS):Op s.o (Lx.endP T n s):=(must_op sSemi s).bind fun _ s1 e=>e
theorem letQ_op(f:Nat)(s:PS):Op s.o (letQ T f s):=(decl_op s).bind fun a s1 e1=>(must_op sSet s1).bind fun _ s2 e2=>((expr_op (T:=T) f).1 1 s2).bind fun n s3 e3=>by show s3.o=s.o;omega
theorem asgQ_op(f:Nat)(s:PS):Op s.o (asgQ T f s):=(name_op s).bind fun a s1 e1=>(must_op sSet s1).bind fun _ s2 e2=>((expr_op (T:=T) f).1 1 s2).bind fun n s3 e3=>by show s3.o=s.o;omega
theorem awaitQ_op(f:Nat)(s:PS):Op s.o (awaitQ T f s):=((expr_op (T:=T) f).1 1 s).bind fun n s1 e1=>(must_op w_within s1).bind fun _ s2 e2=>(lit_op s2).bind fun m s3 e3=>by show s3.o=s.o;omega
theorem amtQ_op(k:Int)(s:PS):Op s.o (amtQ T k s):=(lit_op s).bind fun n s1 e1=>e1
theorem sglQ_op(f:Nat)(k:Int)(s:PS):Op s.o (sglQ T f k s):=((expr_op (T:=T) f).1 1 s).bind fun n s1 e1=>e1
theorem nmbQ_op(k hi:Int)(s:PS):Op s.o (nmbQ T k hi s):=(num_op 0 hi s).bind fun n s1 e1=>e1
theorem useQ_op(k:Int)(b:ByteArray)(s:PS):Op s.o (useQ T k b s):=(num_op 0 7 s).bind fun n s1 e1=>(must_op b s1).bind fun _ s2 e2=>(lit_op s2).bind fun m s3 e3=>by show s3.o=s.o;omega
theorem semi_op{r:PR Tr}{o:Nat}(h:Op o r):Op o (r.bind (Lx.endP T)):=h.bind fun n s e=>(end_op n s).of e
theorem stmt_op:∀f,(∀s,Op s.o (blockP T f s))∧(∀s,Op s.o (stmtsP T f s))∧(∀s,Op s.o (stmtP T f s)):=by
 intro f
 induction f with
 |zero=>exact⟨fun _=>by rw[blockP];trivial,fun _=>by rw[stmtsP];trivial,fun _=>by rw[stmtP];trivial⟩
 |succ f ih=>
  obtain⟨h1,h2,h3⟩:=ih
  refine⟨fun s=>?_,fun s=>?_,fun s=>?_⟩
  ·rw[blockP]
   refine(opens_op sLBr s).bind fun _ s1 e1=>(h2 s1).bind fun l s2 e2=>?_
   show s2.o-1=s.o
   omega
  ·rw[stmtsP]
   split
   ·rfl
   ·exact(h3 s).bind fun n s1 e1=>(h2 s1).bind fun l s2 e2=>by show s2.o=s.o;omega
  ·rw[stmtP]
   refine Op.ite ?_ ?_
   ·rw[let_eq];exact semi_op (letQ_op f (adv s))
   refine Op.ite ?_ ?_
   ·refine((expr_op (T:=T) f).1 1 (adv s)).bind fun c s1 e1=>(h1 s1).bind fun y s2 e2=>?_
    have e1:s1.o=s.o:=e1
    refine Op.ite ?_ ?_
    ·exact(h1 (adv s2)).bind fun n s3 e3=>by
      have e3:s3.o=s2.o:=e3
      show s3.o=s.o
      omega
    ·show s2.o=s.o
     omega
   refine Op.ite ?_ ?_
   ·exact(num_op 1 100 (adv s)).bind fun n s1 e1=>(h1 s1).bind fun y s2 e2=>by
     have e1:s1.o=s.o:=e1
     show s2.o=s.o
     omega
   refine Op.ite ?_ ?_
   ·rw[await_eq];exact semi_op (awaitQ_op f (adv s))
   refine Op.ite ?_ ?_
   ·rw[amt_eq];exact semi_op (amtQ_op 5 (adv s))
   refine Op.ite ?_ ?_
   ·rw[amt_eq];exact semi_op (amtQ_op 11 (adv s))
   refine Op.ite ?_ ?_
   ·rw[sgl_eq];exact semi_op (sglQ_op f 7 (adv s))
   refine Op.ite ?_ ?_
   ·rw[sgl_eq];exact semi_op (sglQ_op f 8 (adv s))
   refine Op.ite ?_ ?_
   ·rw[use_eq];exact semi_op (useQ_op 9 w_for (adv s))
   refine Op.ite ?_ ?_
   ·rw[use_eq];exact semi_op (useQ_op 10 sComma (adv s))
   refine Op.ite ?_ ?_
   ·rw[nmb_eq];exact semi_op (nmbQ_op 12 99 (adv s))
   refine Op.ite ?_ ?_
   ·rw[nmb_eq];exact semi_op (nmbQ_op 13 999 (adv s))
   ·rw[asg_eq];exact semi_op (asgQ_op f s)
end
abbrev Z0:Type:=Nat×(Nat→Int)×(Nat→Int)×(Nat→ByteArray)×(Nat→Int)×Int×Int×Nat×Nat×(Nat→ByteArray)×(Nat→ByteArray)
abbrev AccT:Type:=(Nat→Int)×(Nat→Int)×(Nat→ByteArray)×(Nat→Nat)×(Nat→Nat→List V)×Nat
def z0(x:StT):Z0:=(x.2.2.1,x.2.2.2.1,x.2.2.2.2.1,x.2.2.2.2.2.1,x.2.2.2.2.2.2.1,x.1,x.2.1,x.2.2.2.2.2.2.2.1,x.2.2.2.2.2.2.2.2.2.1,x.2.2.2.2.2.2.2.2.1,x.2.2.2.2.2.2.2.2.2.2)
def za(x:StT)(a:AccT):Nat×(Nat→Int)×(Nat→Int)×(Nat→ByteArray)×(Nat→Int)×Int×Int×Nat×Nat×(Nat→ByteArray)×(Nat→ByteArray)×AccT:=(x.2.2.1,x.2.2.2.1,x.2.2.2.2.1,x.2.2.2.2.2.1,x.2.2.2.2.2.2.1,x.1,x.2.1,x.2.2.2.2.2.2.2.1,x.2.2.2.2.2.2.2.2.2.1,x.2.2.2.2.2.2.2.2.1,x.2.2.2.2.2.2.2.2.2.2,a)
def zb(x:StT)(a:AccT):Nat×(Nat→Int)×(Nat→Int)×(Nat→ByteArray)×(Nat→Int)×Int×Int×Nat×Nat×(Nat→ByteArray)×(Nat→ByteArray)×Nat×(Nat→Int)×(Nat→Int)×(Nat→ByteArray)×(Nat→Nat)×(Nat→Nat→List V):=(x.2.2.1,x.2.2.2.1,x.2.2.2.2.1,x.2.2.2.2.2.1,x.2.2.2.2.2.2.1,x.1,x.2.1,x.2.2.2.2.2.2.2.1,x.2.2.2.2.2.2.2.2.2.1,x.2.2.2.2.2.2.2.2.1,x.2.2.2.2.2.2.2.2.2.2,a.2.2.2.2.2,a.1,a.2.1,a.2.2.1,a.2.2.2.1,a.2.2.2.2.1)
def RepA(l:List Tr)(a:AccT):Prop:=a.2.2.2.2.2=l.length∧∀j t,l[j]? =some t→RepN t (a.1 j,a.2.1 j,a.2.2.1 j,a.2.2.2.1 j,a.2.2.2.2.1 j)
theorem repL_of{f:Nat→List V}:∀(l:List Tr) (i:Nat),(∀j t,l[j]? =some t→∃y:NodeT,f (i+j)=[i64 y.1,i64 y.2.1,st y.2.2.1,.ro 4 y.2.2.2.1 y.2.2.2.2]∧RepN t y)→RepL l f i
 | [],_,_=>by simp[RepL]
 |t::l,i,h=>by
  simp only[RepL]
  refine⟨h 0 t rfl,repL_of l (i+1) fun j t' e=>?_⟩
  have:=h (j+1) t' (by simpa using e)
  rwa [show i+(j+1)=i+1+j by omega]at this
theorem RepA.node{l:List Tr}{a:AccT}(h:RepA l a):RepN (.node 14 0 ⟨#[]⟩ l) (14,0,⟨#[]⟩,a.2.2.2.2.2,fun j=>[i64 (a.1 j),i64 (a.2.1 j),st (a.2.2.1 j),.ro 4 (a.2.2.2.1 j) (a.2.2.2.2.1 j)]):=by
 simp only[RepN]
 refine⟨trivial,trivial,trivial,h.1,repL_of l 0 fun j t e=>⟨(a.1 j,a.2.1 j,a.2.2.1 j,a.2.2.2.1 j,a.2.2.2.2.1 j),by rw[Nat.zero_add],h.2 j t e⟩⟩
def acc1(y:NodeT):AccT:=(fun _=>y.1,fun _=>y.2.1,fun _=>y.2.2.1,fun _=>y.2.2.2.1,fun _=>y.2.2.2.2,1)
theorem acc1_rep{t:Tr}{y:NodeT}(h:RepN t y):RepA [t] (acc1 y):=by
 refine⟨rfl,fun j t' e=>?_⟩
 cases j with
 |zero=>simp only[List.getElem?_cons_zero,Option.some.injEq]at e;subst e;exact h
 |succ j=>simp at e
def accN(a:AccT)(y:NodeT):AccT:=(fun j=>if j<a.2.2.2.2.2 then a.1 j else y.1,fun j=>if j<a.2.2.2.2.2 then a.2.1 j else y.2.1,fun j=>if j<a.2.2.2.2.2 then a.2.2.1 j else y.2.2.1,fun j=>if j<a.2.2.2.2.2 then a.2.2.2.1 j else y.2.2.2.1,fun j i=>if j<a.2.2.2.2.2 then a.2.2.2.2.1 j i else y.2.2.2.2 i,a.2.2.2.2.2+1)
theorem accN_rep{l:List Tr}{a:AccT}{t:Tr}{y:NodeT}(h:RepA l a)(g:RepN t y):RepA (l++[t]) (accN a y):=by
 refine⟨by simp[accN,h.1],fun j t' e=>?_⟩
 by_cases hj:j<l.length
 ·rw[List.getElem?_append_left hj]at e
  have:=h.2 j t' e
  simp only[accN,h.1,hj,if_true]
  exact this
 ·rw[List.getElem?_append_right (by omega)]at e
  simp only[accN,h.1,hj,if_false]
  cases hk:j-l.length with
  |zero=>rw[hk]at e;simp only[List.getElem?_cons_zero,Option.some.injEq]at e;subst e;exact g
  |succ n=>rw[hk]at e;simp at e
section
variable {N:Nat} {T:Nat→Tkn} {pr:List ByteArray}
def BL(N:Nat)(T:Nat→Tkn)(pr:List ByteArray)(acc:List Tr):PR (List Tr)→blockR_l0_g→Prop
 | .ok l s,.inr (.inl z)=>acc++l=[]∧∃x,z=z0 x∧RS N T pr s x
 | .ok l s,.inr (.inr z)=>∃x a,z=zb x a∧RepA (acc++l) a∧RS N T pr s x
 | .err p c,.inl e=>p<N∧e=((T p).a,c)
 |_,_=>False
def BS(acc:List Tr)(x:StT):blockR_l0_a→Prop
 | .inl y=>acc=[]∧y=z0 x
 | .inr y=>∃a,y=za x a∧RepA acc a
def HS(N:Nat)(T:Nat→Tkn)(pr:List ByteArray)(f q:Nat):Prop:=∀g,g≤f→∀(s:PS) (x:StT),RS N T pr s x→stmtP T g s≠ .out→Rs (statement q x) (PN N T pr (stmtP T g s))
def HB(N:Nat)(T:Nat→Tkn)(pr:List ByteArray)(f q:Nat):Prop:=∀g,g≤f→∀(s:PS) (x:StT),RS N T pr s x→blockP T g s≠ .out→Rs (block q x) (PN N T pr (blockP T g s))
theorem stmts_loop(hT:TokN N T){f q:Nat}(hS:HS N T pr f q)(x0:StT):∀(g:Nat),g≤f→∀(m:Nat),g<m→∀(acc:List Tr) (s:PS) (x:StT) (y:blockR_l0_a),BS acc x y→acc.length+g≤1000000000→RS N T pr s x→stmtsP T g s≠ .out→
 Rs (blockR_l0 (opens q) (take q) (statement q) m x0 y) (BL N T pr acc (stmtsP T g s)):=by
 intro g
 induction g with
 |zero=>intro _ m _ acc s x y _ _ _ ho;rw[stmtsP]at ho;exact absurd rfl ho
 |succ g ih=>
  intro hg m hm acc s x y hy hb h ho
  obtain⟨m,rfl⟩:∃k,m=k+1:=⟨m-1,by omega⟩
  unfold blockR_l0
  refine Rs.step3 fun Q hQ=>?_
  have h0:=h
  obtain⟨v,u,rfl,h1,h2,h3,h4,h5,h6⟩:=h
  have hop:stmtsP T (g+1) s=if isP T sRBr s=true then .ok [] (adv s)else(stmtP T g s).bind fun n s1=>(stmtsP T g s1).bind fun l s2=>.ok (n::l) s2:=by rw[stmtsP]
  rcases y with y|y
  ·obtain⟨rfl,rfl⟩:=hy
   rw[Sum.elim_inl]
   unfold blockR_l0_t0
   dsimp only[z0]
   rw[take_eq q (s:=s) (pr:=pr) (N:=N) (T:=T) h0]
   dsimp only[Option.bind_some]
   by_cases hi:isP T sRBr s=true
   ·rw[if_pos hi]at hop⊢
    refine Rs.neg (by simp) (Rs.some ?_)
    show BL N T pr [] (stmtsP T (g+1) s) _
    rw[hop]
    exact⟨rfl,_,rfl,h0.adv hT (isP_ne (by decide) hi)⟩
   ·rw[if_neg hi]at hop⊢
    refine Rs.pos (by simp) ?_
    refine PN.bind (hS g (by omega) s _ h0 (PR.bind_out (hop▸ho))) (fun t s2 k1 n1 b1 m1 c1 x1 e hr hx=>?_) (fun p c e hp=>?_)
    ·rw[e]at hop
     dsimp only[PR.bind]at hop
     refine Rs.some (hQ _ ?_)
     have ho2:=PR.bind_out (hop▸ho)
     refine(ih (by omega) m (by omega) [t] s2 x1 (.inr (za x1 (acc1 (k1,n1,b1,m1,c1)))) ⟨_,rfl,acc1_rep hr⟩ (by simp;omega) hx ho2).mono fun z hz=>?_
     rw[hop]
     cases hr2:stmtsP T g s2 with
     |out=>exact absurd hr2 ho2
     |err p c=>rw[hr2]at hz;rcases z with z|z|z<;>exact hz
     |ok l s3=>
      rw[hr2]at hz
      rcases z with z|z|z
      ·exact hz.elim
      ·exact absurd hz.1 (by simp)
      ·exact hz
    ·refine Rs.some ?_
     show BL N T pr [] (stmtsP T (g+1) s) _
     rw[hop,e]
     exact⟨hp,rfl⟩
  ·obtain⟨a,rfl,ha⟩:=hy
   rw[Sum.elim_inr]
   unfold blockR_l0_t1
   dsimp only[za]
   rw[take_eq q (s:=s) (pr:=pr) (N:=N) (T:=T) h0]
   dsimp only[Option.bind_some]
   by_cases hi:isP T sRBr s=true
   ·rw[if_pos hi]at hop⊢
    refine Rs.neg (by simp) (Rs.some ?_)
    show BL N T pr acc (stmtsP T (g+1) s) _
    rw[hop]
    exact⟨_,a,rfl,by rw[List.append_nil];exact ha,h0.adv hT (isP_ne (by decide) hi)⟩
   ·rw[if_neg hi]at hop⊢
    refine Rs.pos (by simp) ?_
    refine PN.bind (hS g (by omega) s _ h0 (PR.bind_out (hop▸ho))) (fun t s2 k1 n1 b1 m1 c1 x1 e hr hx=>?_) (fun p c e hp=>?_)
    ·rw[e]at hop
     dsimp only[PR.bind]at hop
     have hal:=ha.1
     refine Rs.pos ⟨by unfold roomBound;omega,by unfold maxLen;omega,Nat.le_refl _⟩ (Rs.some (hQ _ ?_))
     have ho2:=PR.bind_out (hop▸ho)
     refine(ih (by omega) m (by omega) (acc++[t]) s2 x1 (.inr (za x1 (accN a (k1,n1,b1,m1,c1)))) ⟨_,rfl,accN_rep ha hr⟩ (by simp;omega) hx ho2).mono fun z hz=>?_
     rw[hop]
     cases hr2:stmtsP T g s2 with
     |out=>exact absurd hr2 ho2
     |err p c=>rw[hr2]at hz;rcases z with z|z|z<;>exact hz
     |ok l s3=>
      rw[hr2]at hz
      rcases z with z|z|z
      ·exact hz.elim
      ·exact absurd hz.1 (by simp)
      ·obtain⟨x2,a2,e1,e2,e3⟩:=hz
       exact⟨x2,a2,e1,by simpa using e2,e3⟩
    ·refine Rs.some ?_
     show BL N T pr acc (stmtsP T (g+1) s) _
     rw[hop,e]
     exact⟨hp,rfl⟩
end
end Go.Proofs.YtjfkkokeegpeiaaGreatDoor
/- Statements are read as the plain parser reads them. -/
namespace Go.Proofs.YtjfkkokeegpeiaaGreatDoor
open Go Go.Am Go.Proofs.Lx
set_option maxRecDepth 100000
section
variable (T:Nat→Tkn)
def brQ(f:Nat)(s:PS):PR Tr:=(exprP T f 1 s).bind fun c s1=>(blockP T f s1).bind fun y s2=>
 if isP T w_else s2=true then(blockP T f (adv s2)).bind fun n s3=>.ok (.node 3 0 ⟨#[]⟩ [c,y,n]) s3 else .ok (.node 3 0 ⟨#[]⟩ [c,y,.node 14 0 ⟨#[]⟩ []]) s2
def repQ(f:Nat)(s:PS):PR Tr:=(numP T 1 100 s).bind fun n s1=>(blockP T f s1).bind fun y s2=>.ok (.node 4 n ⟨#[]⟩ [y]) s2
end
section
variable {N:Nat} {T:Nat→Tkn} {pr:List ByteArray} {s:PS} {x:StT}
theorem block_step(hT:TokN N T){f q:Nat}(hq:f<q)(hf:f≤1000000000)(hS:HS N T pr f q)(h:RS N T pr s x)(ho:blockP T (f+1) s≠ .out):Rs (block (q+1) x) (PN N T pr (blockP T (f+1) s)):=by
 show Rs ((t_blockR (opens q) (take q) (statement q) (blockR_l0 (opens q) (take q) (statement q) q x) x some).map cv_block) _
 refine Rs.map (P:=fun y=>PN N T pr (blockP T (f+1) s) (cv_block y)) ?_ fun z hz=>hz
 unfold t_blockR
 have hop:blockP T (f+1) s=(opensP T sLBr s).bind fun _ s1=>(stmtsP T f s1).bind fun l s2=>.ok (.node 14 0 ⟨#[]⟩ l) (closeP s2):=by rw[blockP]
 refine PU.bind (opens_rs hT q h sLBr (by decide)) (fun s1 x1 e1 g1=>?_) (fun p c e hp=>?_)
 ·have o1:=opens_op (T:=T) sLBr s
  rw[e1]at hop o1
  dsimp only[PR.bind]at hop
  have o1:s1.o=s.o+1:=o1
  have ho2:=PR.bind_out (hop▸ho)
  refine Rs.bind (stmts_loop hT hS x f (Nat.le_refl _) q hq [] s1 x1 (.inl (z0 x1)) ⟨rfl,rfl⟩ (by simpa using hf) g1 ho2) fun z hz=>?_
  rw[hop]
  have o2:=(stmt_op (T:=T) f).2.1 s1
  cases hr2:stmtsP T f s1 with
  |out=>exact absurd hr2 ho2
  |err p c=>
   rw[hr2]at hz
   rcases z with z|z|z
   ·exact Rs.some hz
   ·exact hz.elim
   ·exact hz.elim
  |ok l s2=>
   rw[hr2]at hz o2
   have o2:s2.o=s1.o:=o2
   rcases z with z|z|z
   ·exact hz.elim
   ·obtain⟨e1,x2,rfl,g3⟩:=hz
    simp only[List.nil_append]at e1
    subst e1
    exact Rs.some ⟨RepN.leaf,g3.close hT (by omega)⟩
   ·obtain⟨x2,a,rfl,ha,g3⟩:=hz
    exact Rs.some ⟨RepA.node ha,g3.close hT (by omega)⟩
 ·(rw[hop,e];exact Rs.some ⟨hp,rfl⟩)
theorem repeat_rs(hT:TokN N T){f q:Nat}(hB:HB N T pr f q)(h:RS N T pr s x)(hne:(T s.p).t≠⟨#[]⟩∨(T s.p).k≠0)(ho:repQ T f (adv s)≠ .out):Rs (repeatS (q+1) x) (PN N T pr (repQ T f (adv s))):=by
 show Rs ((t_repeatSR (number q) (block q) x some).map cv_repeatS) _
 refine Rs.map (P:=fun y=>PN N T pr (repQ T f (adv s)) (cv_repeatS y)) ?_ fun z hz=>hz
 unfold t_repeatSR
 have hop:repQ T f (adv s)=(numP T 1 100 (adv s)).bind fun n s1=>(blockP T f s1).bind fun y s2=>.ok (.node 4 n ⟨#[]⟩ [y]) s2:=rfl
 refine PX.bind (number_rs hT q (h.adv hT hne) 1 100) (fun a s1 x1 e1 g1=>?_) (fun p c e hp=>?_)
 ·rw[e1]at hop
  dsimp only[PR.bind]at hop
  refine PN.bind (hB f (Nat.le_refl _) s1 x1 g1 (PR.bind_out (hop▸ho))) (fun t s3 k n b m c x3 e hr hx=>?_) (fun p c e hp=>?_)
  ·rw[hop,e];exact Rs.some ⟨RepN.k1 hr,hx⟩
  ·(rw[hop,e];exact Rs.some ⟨hp,rfl⟩)
 ·(rw[hop,e];exact Rs.some ⟨hp,rfl⟩)
theorem branch_rs(hT:TokN N T){f q:Nat}(hE:HE N T pr f q)(hB:HB N T pr f q)(h:RS N T pr s x)(hne:(T s.p).t≠⟨#[]⟩∨(T s.p).k≠0)(ho:brQ T f (adv s)≠ .out):Rs (branch (q+1) x) (PN N T pr (brQ T f (adv s))):=by
 show Rs ((t_branchR (expr q) (block q) (take q) x some).map cv_branch) _
 refine Rs.map (P:=fun y=>PN N T pr (brQ T f (adv s)) (cv_branch y)) ?_ fun z hz=>hz
 unfold t_branchR
 have hop:brQ T f (adv s)=(exprP T f 1 (adv s)).bind fun c s1=>(blockP T f s1).bind fun y s2=>
  if isP T w_else s2=true then(blockP T f (adv s2)).bind fun n s3=>.ok (.node 3 0 ⟨#[]⟩ [c,y,n]) s3 else .ok (.node 3 0 ⟨#[]⟩ [c,y,.node 14 0 ⟨#[]⟩ []]) s2:=rfl
 refine PN.bind (hE f (Nat.le_refl _) 1 (by decide) (by decide) (adv s) _ (h.adv hT hne) (PR.bind_out ho)) (fun t1 s1 k1 n1 b1 m1 c1 x1 e1 hr1 g1=>?_) (fun p c e hp=>?_)
 ·rw[e1]at hop
  dsimp only[PR.bind]at hop
  refine PN.bind (hB f (Nat.le_refl _) s1 x1 g1 (PR.bind_out (hop▸ho))) (fun t2 s2 k2 n2 b2 m2 c2 x2 e2 hr2 g2=>?_) (fun p c e hp=>?_)
  ·rw[e2]at hop
   dsimp only[PR.bind]at hop
   rw[take_eq q g2]
   dsimp only[Option.bind_some]
   by_cases hi:isP T w_else s2=true
   ·rw[if_pos hi]at hop⊢
    refine Rs.pos rfl ?_
    refine PN.bind (hB f (Nat.le_refl _) (adv s2) _ (g2.adv hT (isP_ne (by decide) hi)) (PR.bind_out (hop▸ho))) (fun t3 s3 k3 n3 b3 m3 c3 x3 e hr hx=>?_) (fun p c e hp=>?_)
    ·rw[hop,e]
     refine Rs.some ⟨?_,hx⟩
     simp only[RepN,RepL,List.length_cons,List.length_nil,cv_branch,Sum.elim_inl]
     exact⟨trivial,trivial,trivial,trivial,⟨(k1,n1,b1,m1,c1),rfl,hr1⟩,⟨(k2,n2,b2,m2,c2),rfl,hr2⟩,⟨(k3,n3,b3,m3,c3),rfl,hr⟩,trivial⟩
    ·(rw[hop,e];exact Rs.some ⟨hp,rfl⟩)
   ·rw[if_neg hi]at hop⊢
    refine Rs.neg (by simp) ?_
    rw[hop]
    refine Rs.some ⟨?_,g2⟩
    simp only[RepN,RepL,List.length_cons,List.length_nil,cv_branch,Sum.elim_inl]
    exact⟨trivial,trivial,trivial,trivial,⟨(k1,n1,b1,m1,c1),rfl,hr1⟩,⟨(k2,n2,b2,m2,c2),rfl,hr2⟩,⟨(14,0,⟨#[]⟩,0,fun _=>[]),rfl,by simp⟩,trivial⟩
  ·(rw[hop,e];exact Rs.some ⟨hp,rfl⟩)
 ·(rw[hop,e];exact Rs.some ⟨hp,rfl⟩)
theorem semi_rs(hT:TokN N T)(q:Nat){r:PR Tr}{o:Option g_statement}(h:Rs o (PN N T pr r)):
 Rs (o.bind fun z=>Sum.elim (fun za=>(must q (sSemi,za.2.2.2.2.2)).bind fun y=>Sum.elim (fun ya=>(some (.inl (za.1,za.2.1,za.2.2.1,za.2.2.2.1,za.2.2.2.2.1,ya)):Option g_statementR)) (fun yb=>some (.inr yb)) y) (fun zb=>some (.inr zb)) z) (fun y=>PN N T pr (r.bind (Lx.endP T)) (cv_statement y)):=by
 refine PN.bind h (fun t s3 k n b m c x3 e hr hx=>?_) (fun p c e hp=>?_)
 ·subst e
  refine PU.bind (must_rs hT q hx sSemi (by decide)) (fun s4 x4 e4 g4=>?_) (fun p c e hp=>?_)
  ·show Rs _ fun y=>PN N T pr (Lx.endP T t s3) (cv_statement y)
   unfold Lx.endP
   rw[e4]
   exact Rs.some ⟨hr,g4⟩
  ·show Rs _ fun y=>PN N T pr (Lx.endP T t s3) (cv_statement y)
   unfold Lx.endP
   rw[e]
   exact Rs.some ⟨hp,rfl⟩
 ·subst e
  exact Rs.some ⟨hp,rfl⟩
theorem pass_rs{r:PR Tr}{o:Option g_statement}(h:Rs o (PN N T pr r)):
 Rs (o.bind fun z=>Sum.elim (fun za=>(some (.inl za):Option g_statementR)) (fun zb=>some (.inr zb)) z) (fun y=>PN N T pr r (cv_statement y)):=by
 refine PN.bind h (fun t s3 k n b m c x3 e hr hx=>?_) (fun p c e hp=>?_)
 ·subst e;exact Rs.some ⟨hr,hx⟩
 ·subst e;exact Rs.some ⟨hp,rfl⟩
theorem isP_not{a b:ByteArray}(hab:a≠b)(h:isP T a s=true):¬isP T b s=true:=by
 simp only[isP,decide_eq_true_eq]at h⊢
 rw[h];exact hab
theorem stmt_step(hT:TokN N T){f q:Nat}(hq:20≤q)(hE:HE N T pr f (q+1))(hE0:HE N T pr f q)(hB:HB N T pr f q)(h:RS N T pr s x)(ho:stmtP T (f+1) s≠ .out):Rs (statement (q+2) x) (PN N T pr (stmtP T (f+1) s)):=by
 show Rs ((t_statementR (next (q+1)) (letS (q+1)) (branch (q+1)) (repeatS (q+1)) (await (q+1)) (amount (q+1)) (single (q+1)) (numbered (q+1)) (assign (q+1)) (must (q+1)) x some).map cv_statement) _
 refine Rs.map (P:=fun y=>PN N T pr (stmtP T (f+1) s) (cv_statement y)) ?_ fun z hz=>hz
 unfold t_statementR
 rw[next_eq (q+1) h]
 dsimp only[Option.bind_some]
 simp only[tl_dec]
 have hop:stmtP T (f+1) s=if isP T w_let s=true then(declP T (adv s)).bind fun x s1=>setP T f 1 x s1
  else if isP T w_if s=true then brQ T f (adv s)
  else if isP T w_repeat s=true then repQ T f (adv s)
  else if isP T w_await s=true then awaitP T f (adv s)
  else if isP T w_wait s=true then amtP T 5 (adv s)
  else if isP T w_keep s=true then amtP T 11 (adv s)
  else if isP T w_require s=true then oneP T f 7 (adv s)
  else if isP T w_point s=true then oneP T f 8 (adv s)
  else if isP T w_use s=true then useP T 9 w_for (adv s)
  else if isP T w_send s=true then useP T 10 sComma (adv s)
  else if isP T w_emit s=true then nmbP T 12 99 (adv s)
  else if isP T w_abort s=true then nmbP T 13 999 (adv s)
  else(nameP T s).bind fun x s1=>setP T f 2 x s1:=by rw[stmtP];rfl
 by_cases c1:isP T w_let s=true
 ·rw[if_pos c1,let_eq]at hop
  rw[hop]
  exact Rs.pos c1 (semi_rs hT (q+1) (let_rs hT (by omega) hE h (isP_ne (by decide) c1) (PR.bind_out (hop▸ho))))
 rw[if_neg c1]at hop
 refine Rs.neg c1 ?_
 by_cases c2:isP T w_if s=true
 ·rw[if_pos c2]at hop
  rw[hop]
  exact Rs.pos c2 (pass_rs (branch_rs hT hE0 hB h (isP_ne (by decide) c2) (hop▸ho)))
 rw[if_neg c2]at hop
 refine Rs.neg c2 ?_
 by_cases c3:isP T w_repeat s=true
 ·rw[if_pos c3]at hop
  rw[hop]
  exact Rs.pos c3 (pass_rs (repeat_rs hT hB h (isP_ne (by decide) c3) (hop▸ho)))
 rw[if_neg c3]at hop
 refine Rs.neg c3 ?_
 by_cases c4:isP T w_await s=true
 ·rw[if_pos c4,await_eq]at hop
  rw[hop]
  exact Rs.pos c4 (semi_rs hT (q+1) (await_rs hT hE h (isP_ne (by decide) c4) (PR.bind_out (hop▸ho))))
 rw[if_neg c4]at hop
 refine Rs.neg c4 ?_
 by_cases c5:isP T w_wait s=true
 ·rw[if_pos c5,amt_eq]at hop
  rw[hop]
  have:=amount_rs hT (q+1) h (isP_ne (by decide) c5)
  rw[if_neg (isP_not (by decide) c5)]at this
  exact Rs.pos c5 (semi_rs hT (q+1) this)
 rw[if_neg c5]at hop
 refine Rs.neg c5 ?_
 by_cases c6:isP T w_keep s=true
 ·rw[if_pos c6,amt_eq]at hop
  rw[hop]
  have:=amount_rs hT (q+1) h (isP_ne (by decide) c6)
  rw[if_pos c6]at this
  exact Rs.pos c6 (semi_rs hT (q+1) this)
 rw[if_neg c6]at hop
 refine Rs.neg c6 ?_
 by_cases c7:isP T w_require s=true
 ·rw[if_pos c7,sgl_eq]at hop
  rw[hop]
  have:=single_rs hT hE h (isP_ne (by decide) c7) (PR.bind_out (PR.bind_out (hop▸ho)))
  rw[if_neg (isP_not (by decide) c7)]at this
  exact Rs.pos c7 (semi_rs hT (q+1) this)
 rw[if_neg c7]at hop
 refine Rs.neg c7 ?_
 by_cases c8:isP T w_point s=true
 ·rw[if_pos c8,sgl_eq]at hop
  rw[hop]
  have:=single_rs hT hE h (isP_ne (by decide) c8) (PR.bind_out (PR.bind_out (hop▸ho)))
  rw[if_pos c8]at this
  exact Rs.pos c8 (semi_rs hT (q+1) this)
 rw[if_neg c8]at hop
 refine Rs.neg c8 ?_
 by_cases c9:isP T w_use s=true
 ·rw[if_pos c9,use_eq]at hop
  rw[hop]
  have:=numbered_rs hT (q+1) h (isP_ne (by decide) c9)
  unfold numbQ at this
  rw[if_neg (isP_not (by decide) c9),if_neg (isP_not (by decide) c9),if_pos c9]at this
  exact Rs.pos c9 (semi_rs hT (q+1) this)
 rw[if_neg c9]at hop
 refine Rs.neg c9 ?_
 by_cases c10:isP T w_send s=true
 ·rw[if_pos c10,use_eq]at hop
  rw[hop]
  have:=numbered_rs hT (q+1) h (isP_ne (by decide) c10)
  unfold numbQ at this
  rw[if_neg (isP_not (by decide) c10),if_neg (isP_not (by decide) c10),if_neg c9]at this
  exact Rs.pos c10 (semi_rs hT (q+1) this)
 rw[if_neg c10]at hop
 refine Rs.neg c10 ?_
 by_cases c11:isP T w_emit s=true
 ·rw[if_pos c11,nmb_eq]at hop
  rw[hop]
  have:=numbered_rs hT (q+1) h (isP_ne (by decide) c11)
  unfold numbQ at this
  rw[if_pos c11]at this
  exact Rs.pos c11 (semi_rs hT (q+1) this)
 rw[if_neg c11]at hop
 refine Rs.neg c11 ?_
 by_cases c12:isP T w_abort s=true
 ·rw[if_pos c12,nmb_eq]at hop
  rw[hop]
  have:=numbered_rs hT (q+1) h (isP_ne (by decide) c12)
  unfold numbQ at this
  rw[if_neg c11,if_pos c12]at this
  exact Rs.pos c12 (semi_rs hT (q+1) this)
 rw[if_neg c12]at hop
 refine Rs.neg c12 ?_
 rw[asg_eq]at hop
 rw[hop]
 exact semi_rs hT (q+1) (assign_rs hT hE h (PR.bind_out (hop▸ho)))
end
end Go.Proofs.YtjfkkokeegpeiaaGreatDoor
/- Statements are read as the plain parser reads them (2). -/
namespace Go.Proofs.YtjfkkokeegpeiaaGreatDoor
open Go Go.Am Go.Proofs.Lx
set_option maxRecDepth 100000
section
variable {N:Nat} {T:Nat→Tkn} {pr:List ByteArray}
theorem stmts(hT:TokN N T):∀f,f≤1000000000→∀q,2*f+22≤q→HS N T pr f q∧HB N T pr f q:=by
 intro f
 induction f with
 |zero=>
  intro _ q _
  refine⟨fun g hg s x _ ho=>?_,fun g hg s x _ ho=>?_⟩
  all_goals
   obtain rfl:g=0:=by omega
  ·rw[stmtP]at ho;exact absurd rfl ho
  ·rw[blockP]at ho;exact absurd rfl ho
 |succ f ih=>
  intro hf q hq
  obtain⟨q,rfl⟩:∃k,q=k+2:=⟨q-2,by omega⟩
  obtain⟨a1,a2⟩:=ih (by omega) (q+2) (by omega)
  obtain⟨b1,b2⟩:=ih (by omega) (q+1) (by omega)
  obtain⟨c1,c2⟩:=ih (by omega) q (by omega)
  refine⟨fun g hg s x h ho=>?_,fun g hg s x h ho=>?_⟩
  ·by_cases e:g≤f
   ·exact a1 g e s x h ho
   ·obtain rfl:g=f+1:=by omega
    exact stmt_step hT (by omega) (exprs hT f (q+1) (by omega)).1 (exprs hT f q (by omega)).1 c2 h ho
  ·by_cases e:g≤f
   ·exact a2 g e s x h ho
   ·obtain rfl:g=f+1:=by omega
    exact block_step hT (by omega) (by omega) b1 h ho
end
end Go.Proofs.YtjfkkokeegpeiaaGreatDoor
/- Parameters are read as the plain parser reads them. -/
namespace Go.Proofs.YtjfkkokeegpeiaaGreatDoor
open Go Go.Am Go.Proofs.Lx
set_option maxRecDepth 100000
section
variable (T:Nat→Tkn)
def prmsQ:Nat→PS→PR (List Prm)
 |0,_=>.out
 |f+1,s=>(prmP T s).bind fun x s1=>if isP T sComma s1=true then(prmsQ f (adv s1)).bind fun l s2=>.ok (x::l) s2 else .ok [x] s1
theorem prms_eq:∀f s,prmsP T f s=(prmsQ T f s).bind fun l s2=>(mustP T sRPar s2).bind fun _ s3=>.ok l s3
 |0,s=>by rw[prmsP,prmsQ];rfl
 |f+1,s=>by
  rw[prmsP,prmsQ,PR.bind_assoc]
  congr 1
  funext x s1
  by_cases h:isP T sComma s1=true
  ·rw[if_pos h,if_pos h,prms_eq f,PR.bind_assoc,PR.bind_assoc]
   congr 1
   funext l s2
   show((mustP T sRPar s2).bind fun _ s3=>PR.ok l s3).bind _=(mustP T sRPar s2).bind _
   rw[PR.bind_assoc]
   rfl
  ·rw[if_neg h,if_neg h]
   rfl
end
abbrev PrT:Type:=(Nat→ByteArray)×(Nat→ByteArray)×Nat
def zq(x:StT)(a:PrT):Nat×(Nat→Int)×(Nat→Int)×(Nat→ByteArray)×(Nat→Int)×Int×Int×Nat×Nat×(Nat→ByteArray)×(Nat→ByteArray)×PrT:=(x.2.2.1,x.2.2.2.1,x.2.2.2.2.1,x.2.2.2.2.2.1,x.2.2.2.2.2.2.1,x.1,x.2.1,x.2.2.2.2.2.2.2.1,x.2.2.2.2.2.2.2.2.2.1,x.2.2.2.2.2.2.2.2.1,x.2.2.2.2.2.2.2.2.2.2,a)
def RepQ(l:List Prm)(a:PrT):Prop:=a.2.2=l.length∧∀j m,l[j]? =some m→a.1 j=m.x∧a.2.1 j=m.u
def prm1(x u:ByteArray):PrT:=(fun _=>x,fun _=>u,1)
theorem prm1_rep(x u:ByteArray):RepQ [⟨x,u⟩] (prm1 x u):=by
 refine⟨rfl,fun j m e=>?_⟩
 cases j with
 |zero=>simp only[List.getElem?_cons_zero,Option.some.injEq]at e;subst e;exact⟨rfl,rfl⟩
 |succ j=>simp at e
def prmN(a:PrT)(x u:ByteArray):PrT:=(fun j=>if j<a.2.2 then a.1 j else x,fun j=>if j<a.2.2 then a.2.1 j else u,a.2.2+1)
theorem prmN_rep{l:List Prm}{a:PrT}(h:RepQ l a)(x u:ByteArray):RepQ (l++[⟨x,u⟩]) (prmN a x u):=by
 refine⟨by simp[prmN,h.1],fun j m e=>?_⟩
 by_cases hj:j<l.length
 ·rw[List.getElem?_append_left hj]at e
  have:=h.2 j m e
  simp only[prmN,h.1,hj,if_true]
  exact this
 ·rw[List.getElem?_append_right (by omega)]at e
  simp only[prmN,h.1,hj,if_false]
  cases hk:j-l.length with
  |zero=>rw[hk]at e;simp only[List.getElem?_cons_zero,Option.some.injEq]at e;subst e;exact⟨rfl,rfl⟩
  |succ n=>rw[hk]at e;simp at e
section
variable {N:Nat} {T:Nat→Tkn} {pr:List ByteArray}
def BQ(N:Nat)(T:Nat→Tkn)(pr:List ByteArray)(acc:List Prm):PR (List Prm)→paramsR_l0_g→Prop
 | .ok l s,.inr z=>∃x a,z=zq x a∧RepQ (acc++l) a∧RS N T pr s x
 | .err p c,.inl e=>p<N∧e=((T p).a,c)
 |_,_=>False
def QS(acc:List Prm)(x:StT):paramsR_l0_a→Prop
 | .inl y=>acc=[]∧y=z0 x
 | .inr y=>∃a,y=zq x a∧RepQ acc a
theorem rs_lt1{s:PS}{x:StT}(h:RS N T pr (adv s) x):s.p+1<N:=h.choose_spec.choose_spec.2.2.2.1
theorem prms_loop(hT:TokN N T){q:Nat}(hq:20≤q)(x0:a_paramsR):∀(g:Nat),∀(m:Nat),g<m→∀(acc:List Prm) (s:PS) (x:StT) (y:paramsR_l0_a),QS acc x y→acc.length+g≤1000000000→RS N T pr s x→prmsQ T g s≠ .out→
 Rs (paramsR_l0 (must q) (take q) (declare q) (next q) (Lookup q) (fail q) m x0 y) (BQ N T pr acc (prmsQ T g s)):=by
 intro g
 induction g with
 |zero=>intro m _ acc s x y _ _ _ ho;rw[prmsQ]at ho;exact absurd rfl ho
 |succ g ih=>
  intro m hm acc s x y hy hb h ho
  obtain⟨m,rfl⟩:∃k,m=k+1:=⟨m-1,by omega⟩
  unfold paramsR_l0
  refine Rs.step3 fun Q hQ=>?_
  have h0:=h
  obtain⟨v,u,rfl,h1,h2,h3,h4,h5,h6⟩:=h
  have hop:prmsQ T (g+1) s=(prmP T s).bind fun x s1=>if isP T sComma s1=true then(prmsQ T g (adv s1)).bind fun l s2=>.ok (x::l) s2 else .ok [x] s1:=by rw[prmsQ]
  have hpp:prmP T s=(declP T s).bind fun x s1=>if isP T sColon s1=true then(if(T (s1.p+1)).k≠1 then .err (s1.p+1) 11 else if unitP (T (s1.p+1)).t=false then .err (s1.p+1) 10 else .ok ⟨x,(T (s1.p+1)).t⟩ (adv (adv s1)))else .ok ⟨x,⟨#[]⟩⟩ s1:=rfl
  rcases y with y|y
  ·obtain⟨rfl,rfl⟩:=hy
   rw[Sum.elim_inl]
   unfold paramsR_l0_t0
   dsimp only[z0,zq]
   refine PX.bind (declare_rs hT q hq h0) (fun b s1 x1 e1 g1=>?_) (fun p c e hp=>?_)
   ·rw[e1]at hpp
    dsimp only[PR.bind]at hpp⊢
    rw[take_eq q g1]
    dsimp only[Option.bind_some]
    by_cases hc:isP T sColon s1=true
    ·rw[if_pos hc]at hpp⊢
     refine Rs.pos rfl ?_
     have g2:=RS.adv hT g1 (isP_ne (by decide) hc)
     have hl2:s1.p+1<N:=rs_lt1 g2
     rw[next_eq q g2]
     dsimp only[Option.bind_some]
     refine Rs.bind (Lookup_rs q (T (adv s1).p).t) fun z hz=>?_
     by_cases hk:(T (s1.p+1)).k=1
     ·refine Rs.neg (by simpa[Lx.adv]using hk) ?_
      rw[if_neg (fun h=>h hk)]at hpp
      by_cases hu:unitP (T (s1.p+1)).t=false
      ·rw[if_pos hu]at hpp
       rw[hpp]at hop
       refine Rs.pos (by rw[hz];simpa[Lx.adv]using hu) ?_
       rw[fail_eq q g2]
       refine Rs.some ?_
       show BQ N T pr [] (prmsQ T (g+1) s) _
       rw[hop]
       exact⟨hl2,rfl⟩
      ·rw[if_neg hu]at hpp
       rw[hpp]at hop
       dsimp only[PR.bind]at hop
       refine Rs.neg (by rw[hz];simpa[Lx.adv]using hu) ?_
       have g3:=RS.adv hT g2 (.inr (by show(T (s1.p+1)).k≠0;rw[hk];decide))
       dsimp only at g3⊢
       rw[take_eq q g3]
       dsimp only[Option.bind_some]
       by_cases hi:isP T sComma (adv (adv s1))=true
       ·rw[if_pos hi]at hop⊢
        refine Rs.neg (by simp) (Rs.some (hQ _ ?_))
        have ho2:=PR.bind_out (hop▸ho)
        refine(ih m (by omega) ([]++[⟨b,(T (s1.p+1)).t⟩]) (adv (adv (adv s1))) _ (.inr (zq (w ((w (w (x1.1+1)+1),x1.2).1+1),(w (w (x1.1+1)+1),x1.2).2) (prm1 b (T (s1.p+1)).t))) ⟨_,rfl,(prm1_rep b (T (s1.p+1)).t)⟩ (by simp at hb⊢;omega) (RS.adv hT g3 (isP_ne (by decide) hi)) ho2).mono fun z hz=>?_
        rw[hop]
        cases hr2:prmsQ T g (adv (adv (adv s1)))with
        |out=>exact absurd hr2 ho2
        |err p c=>rw[hr2]at hz;rcases z with z|z<;>exact hz
        |ok l s3=>
         rw[hr2]at hz
         rcases z with z|z
         ·exact hz.elim
         ·obtain⟨x2,a2,e1,e2,e3⟩:=hz
          exact⟨x2,a2,e1,by simpa using e2,e3⟩
       ·rw[if_neg hi]at hop⊢
        refine Rs.pos (by simp) (Rs.some ?_)
        show BQ N T pr [] (prmsQ T (g+1) s) _
        rw[hop]
        exact⟨_,_,rfl,(prm1_rep b (T (s1.p+1)).t),g3⟩
     ·rw[if_pos hk]at hpp
      rw[hpp]at hop
      refine Rs.pos (by simpa[Lx.adv]using hk) ?_
      rw[fail_eq q g2]
      refine Rs.some ?_
      show BQ N T pr [] (prmsQ T (g+1) s) _
      rw[hop]
      exact⟨hl2,rfl⟩
    ·rw[if_neg hc]at hpp⊢
     rw[hpp]at hop
     dsimp only[PR.bind]at hop
     refine Rs.neg (by simp) ?_
     dsimp only
     rw[take_eq q g1]
     dsimp only[Option.bind_some]
     by_cases hi:isP T sComma s1=true
     ·rw[if_pos hi]at hop⊢
      refine Rs.neg (by simp) (Rs.some (hQ _ ?_))
      have ho2:=PR.bind_out (hop▸ho)
      refine(ih m (by omega) ([]++[⟨b,⟨#[]⟩⟩]) (adv s1) _ (.inr (zq (w (x1.1+1),x1.2) (prm1 b ⟨#[]⟩))) ⟨_,rfl,(prm1_rep b ⟨#[]⟩)⟩ (by simp at hb⊢;omega) (RS.adv hT g1 (isP_ne (by decide) hi)) ho2).mono fun z hz=>?_
      rw[hop]
      cases hr2:prmsQ T g (adv s1)with
      |out=>exact absurd hr2 ho2
      |err p c=>rw[hr2]at hz;rcases z with z|z<;>exact hz
      |ok l s3=>
       rw[hr2]at hz
       rcases z with z|z
       ·exact hz.elim
       ·obtain⟨x2,a2,e1,e2,e3⟩:=hz
        exact⟨x2,a2,e1,by simpa using e2,e3⟩
     ·rw[if_neg hi]at hop⊢
      refine Rs.pos (by simp) (Rs.some ?_)
      show BQ N T pr [] (prmsQ T (g+1) s) _
      rw[hop]
      exact⟨_,_,rfl,(prm1_rep b ⟨#[]⟩),g1⟩
   ·rw[e]at hpp
    rw[hpp]at hop
    refine Rs.some ?_
    show BQ N T pr [] (prmsQ T (g+1) s) _
    rw[hop]
    exact⟨hp,rfl⟩
  ·obtain⟨a,rfl,ha⟩:=hy
   have hal:=ha.1
   rw[Sum.elim_inr]
   unfold paramsR_l0_t1
   dsimp only[z0,zq]
   refine PX.bind (declare_rs hT q hq h0) (fun b s1 x1 e1 g1=>?_) (fun p c e hp=>?_)
   ·rw[e1]at hpp
    dsimp only[PR.bind]at hpp⊢
    rw[take_eq q g1]
    dsimp only[Option.bind_some]
    by_cases hc:isP T sColon s1=true
    ·rw[if_pos hc]at hpp⊢
     refine Rs.pos rfl ?_
     have g2:=RS.adv hT g1 (isP_ne (by decide) hc)
     have hl2:s1.p+1<N:=rs_lt1 g2
     rw[next_eq q g2]
     dsimp only[Option.bind_some]
     refine Rs.bind (Lookup_rs q (T (adv s1).p).t) fun z hz=>?_
     by_cases hk:(T (s1.p+1)).k=1
     ·refine Rs.neg (by simpa[Lx.adv]using hk) ?_
      rw[if_neg (fun h=>h hk)]at hpp
      by_cases hu:unitP (T (s1.p+1)).t=false
      ·rw[if_pos hu]at hpp
       rw[hpp]at hop
       refine Rs.pos (by rw[hz];simpa[Lx.adv]using hu) ?_
       rw[fail_eq q g2]
       refine Rs.some ?_
       show BQ N T pr acc (prmsQ T (g+1) s) _
       rw[hop]
       exact⟨hl2,rfl⟩
      ·rw[if_neg hu]at hpp
       rw[hpp]at hop
       dsimp only[PR.bind]at hop
       refine Rs.neg (by rw[hz];simpa[Lx.adv]using hu) ?_
       have g3:=RS.adv hT g2 (.inr (by show(T (s1.p+1)).k≠0;rw[hk];decide))
       dsimp only at g3⊢
       refine Rs.pos ⟨by unfold roomBound;omega,by unfold maxLen;omega,Nat.le_refl _⟩ ?_
       rw[take_eq q g3]
       dsimp only[Option.bind_some]
       by_cases hi:isP T sComma (adv (adv s1))=true
       ·rw[if_pos hi]at hop⊢
        refine Rs.neg (by simp) (Rs.some (hQ _ ?_))
        have ho2:=PR.bind_out (hop▸ho)
        refine(ih m (by omega) (acc++[⟨b,(T (s1.p+1)).t⟩]) (adv (adv (adv s1))) _ (.inr (zq (w ((w (w (x1.1+1)+1),x1.2).1+1),(w (w (x1.1+1)+1),x1.2).2) (prmN a b (T (s1.p+1)).t))) ⟨_,rfl,(prmN_rep ha b (T (s1.p+1)).t)⟩ (by simp at hb⊢;omega) (RS.adv hT g3 (isP_ne (by decide) hi)) ho2).mono fun z hz=>?_
        rw[hop]
        cases hr2:prmsQ T g (adv (adv (adv s1)))with
        |out=>exact absurd hr2 ho2
        |err p c=>rw[hr2]at hz;rcases z with z|z<;>exact hz
        |ok l s3=>
         rw[hr2]at hz
         rcases z with z|z
         ·exact hz.elim
         ·obtain⟨x2,a2,e1,e2,e3⟩:=hz
          exact⟨x2,a2,e1,by simpa using e2,e3⟩
       ·rw[if_neg hi]at hop⊢
        refine Rs.pos (by simp) (Rs.some ?_)
        show BQ N T pr acc (prmsQ T (g+1) s) _
        rw[hop]
        exact⟨_,_,rfl,(prmN_rep ha b (T (s1.p+1)).t),g3⟩
     ·rw[if_pos hk]at hpp
      rw[hpp]at hop
      refine Rs.pos (by simpa[Lx.adv]using hk) ?_
      rw[fail_eq q g2]
      refine Rs.some ?_
      show BQ N T pr acc (prmsQ T (g+1) s) _
      rw[hop]
      exact⟨hl2,rfl⟩
    ·rw[if_neg hc]at hpp⊢
     rw[hpp]at hop
     dsimp only[PR.bind]at hop
     refine Rs.neg (by simp) ?_
     dsimp only
     refine Rs.pos ⟨by unfold roomBound;omega,by unfold maxLen;omega,Nat.le_refl _⟩ ?_
     rw[take_eq q g1]
     dsimp only[Option.bind_some]
     by_cases hi:isP T sComma s1=true
     ·rw[if_pos hi]at hop⊢
      refine Rs.neg (by simp) (Rs.some (hQ _ ?_))
      have ho2:=PR.bind_out (hop▸ho)
      refine(ih m (by omega) (acc++[⟨b,⟨#[]⟩⟩]) (adv s1) _ (.inr (zq (w (x1.1+1),x1.2) (prmN a b ⟨#[]⟩))) ⟨_,rfl,(prmN_rep ha b ⟨#[]⟩)⟩ (by simp at hb⊢;omega) (RS.adv hT g1 (isP_ne (by decide) hi)) ho2).mono fun z hz=>?_
      rw[hop]
      cases hr2:prmsQ T g (adv s1)with
      |out=>exact absurd hr2 ho2
      |err p c=>rw[hr2]at hz;rcases z with z|z<;>exact hz
      |ok l s3=>
       rw[hr2]at hz
       rcases z with z|z
       ·exact hz.elim
       ·obtain⟨x2,a2,e1,e2,e3⟩:=hz
        exact⟨x2,a2,e1,by simpa using e2,e3⟩
     ·rw[if_neg hi]at hop⊢
      refine Rs.pos (by simp) (Rs.some ?_)
      show BQ N T pr acc (prmsQ T (g+1) s) _
      rw[hop]
      exact⟨_,_,rfl,(prmN_rep ha b ⟨#[]⟩),g1⟩
   ·rw[e]at hpp
    rw[hpp]at hop
    refine Rs.some ?_
    show BQ N T pr acc (prmsQ T (g+1) s) _
    rw[hop]
    exact⟨hp,rfl⟩
end
end Go.Proofs.YtjfkkokeegpeiaaGreatDoor
/- Procedures are read as the plain parser reads them. -/
namespace Go.Proofs.YtjfkkokeegpeiaaGreatDoor
open Go Go.Am Go.Proofs.Lx
set_option maxRecDepth 100000
section
variable {N:Nat} {T:Nat→Tkn} {pr:List ByteArray} {s:PS} {x:StT}
def PPm(N:Nat)(T:Nat→Tkn)(pr:List ByteArray):PR (List Prm)→(Nat×(Nat→ByteArray)×(Nat→ByteArray)×StT)⊕(Int×Int)→Prop
 | .ok l s,.inl z=>RepQ l (z.2.1,z.2.2.1,z.1)∧RS N T pr s z.2.2.2
 | .err p c,.inr e=>p<N∧e=((T p).a,c)
 |_,_=>False
theorem paramsR_rs(hT:TokN N T){f q:Nat}(hq:20≤q)(hf:f<q)(hf2:f≤1000000000)(h:RS N T pr s x)(ho:paramsP T f s≠ .out):Rs (paramsR q x) (fun y=>PPm N T pr (paramsP T f s) (cv_params y)):=by
 unfold paramsR t_paramsR
 have hop:paramsP T f s=(mustP T sLPar s).bind fun _ s1=>if isP T sRPar s1=true then .ok [] (adv s1)else(prmsQ T f s1).bind fun l s2=>(mustP T sRPar s2).bind fun _ s3=>.ok l s3:=by
  unfold paramsP
  simp only[prms_eq]
 refine PU.bind (must_rs hT q h sLPar (by decide)) (fun s1 x1 e1 g1=>?_) (fun p c e hp=>?_)
 ·rw[e1]at hop
  dsimp only[PR.bind]at hop
  rw[take_eq q g1]
  dsimp only[Option.bind_some]
  by_cases hi:isP T sRPar s1=true
  ·rw[if_pos hi]at hop⊢
   refine Rs.pos rfl ?_
   rw[hop]
   exact Rs.some ⟨⟨rfl,fun j m e=>by simp at e⟩,g1.adv hT (isP_ne (by decide) hi)⟩
  ·rw[if_neg hi]at hop⊢
   refine Rs.neg (by simp) ?_
   have ho2:=PR.bind_out (hop▸ho)
   refine Rs.bind (prms_loop hT hq x f q hf [] s1 x1 (.inl (z0 x1)) ⟨rfl,rfl⟩ (by simpa using hf2) g1 ho2) fun z hz=>?_
   cases hr2:prmsQ T f s1 with
   |out=>exact absurd hr2 ho2
   |err p c=>
    rw[hr2]at hz hop
    rcases z with z|z
    ·rw[hop];exact Rs.some hz
    ·exact hz.elim
   |ok l s2=>
    rw[hr2]at hz hop
    dsimp only[PR.bind]at hop
    rcases z with z|z
    ·exact hz.elim
    ·obtain⟨x2,a,rfl,ha,g3⟩:=hz
     refine PU.bind (must_rs hT q g3 sRPar (by decide)) (fun s3 x3 e g4=>?_) (fun p c e hp=>?_)
     ·rw[hop,e]
      exact Rs.some ⟨ha,g4⟩
     ·(rw[hop,e];exact Rs.some ⟨hp,rfl⟩)
 ·(rw[hop,e];exact Rs.some ⟨hp,rfl⟩)
theorem params_rs(hT:TokN N T){f q:Nat}(hq:20≤q)(hf:f<q)(hf2:f≤1000000000){u:Nat→ByteArray}(hu:Ag u pr)(hp:s.p<N)(ho4:s.o≤12)(hl:pr.length≤2000000000)(ho:paramsP T f {s with vs:=[]}≠ .out):
 Rs (params q (((s.p:Nat):Int),((s.o:Nat):Int),N,(fun j=>(T j).k),(fun j=>(T j).a),(fun j=>(T j).t),(fun j=>(T j).n),pr.length,u)) (PPm N T pr (paramsP T f {s with vs:=[]})):=by
 unfold params
 refine Rs.map (P:=fun y=>PPm N T pr (paramsP T f {s with vs:=[]}) (cv_params y)) ?_ fun z hz=>hz
 exact paramsR_rs hT hq hf hf2 (s:={s with vs:=[]}) ⟨fun _=>ByteArray.empty,u,rfl,fun j b e=>by simp at e,hu,hp,ho4,by simp,hl⟩ ho
def RepC(c:Prc)(z:ByteArray×Nat×(Nat→ByteArray)×(Nat→ByteArray)×NodeT):Prop:=z.1=c.x∧RepQ c.ps (z.2.2.1,z.2.2.2.1,z.2.1)∧RepN c.b z.2.2.2.2
def PC(N:Nat)(T:Nat→Tkn)(pr:List ByteArray):PR Prc→g_procedure→Prop
 | .ok c s,.inl z=>RepC c (z.1,z.2.1,z.2.2.1,z.2.2.2.1,z.2.2.2.2.1,z.2.2.2.2.2.1,z.2.2.2.2.2.2.1,z.2.2.2.2.2.2.2.1,z.2.2.2.2.2.2.2.2.1)∧RS N T (pr++[c.x]) s z.2.2.2.2.2.2.2.2.2
 | .err p c,.inr e=>p<N∧e=((T p).a,c)
 |_,_=>False
theorem procs_loop(q:Nat)(x0:a_procedure)(a:ByteArray){v u:Nat→ByteArray}(h1:Ag v s.vs)(h2:Ag u pr)(h3:s.p<N)(hN:N≤4001)(h4:s.o≤12)(h5:s.vs.length≤12)(h6:pr.length≤2000000000):
 ∀(n i m:Nat),i+n=pr.length→n<m→(∀j,j<i→pr[j]? ≠some a)→
 Rs (lpG (fun y=>procedure_l0_t (must q) (name q) (fail q) (params q) (block q) x0 y (fun y=>some (.inl y)) (fun z=>some (.inr z))) m (pr.length,((pr.length:Nat):Int),N,(fun j=>(T j).k),(fun j=>(T j).a),(fun j=>(T j).t),(fun j=>(T j).n),(((s.p+1:Nat):Nat):Int),((s.o:Nat):Int),s.vs.length,v,u,a,((i:Nat):Int)))
  (fun z=>if inP pr a=true then z= .inl ((T s.p).a,4)else z= .inr (N,(fun j=>(T j).k),(fun j=>(T j).a),(fun j=>(T j).t),(fun j=>(T j).n),(((s.p+1:Nat):Nat):Int),((s.o:Nat):Int),s.vs.length,pr.length,v,u,a)):=by
 intro n
 induction n with
 |zero=>
  intro i m hi hm hno
  obtain⟨m,rfl⟩:∃k,m=k+1:=⟨m-1,by omega⟩
  refine Rs.step ?_
  unfold procedure_l0_t
  dsimp only
  refine Rs.neg (by simp;omega) (Rs.some ?_)
  have hnin:¬inP pr a=true:=by
   rw[inP_iff,List.mem_iff_getElem?]
   rintro⟨j,hj⟩
   have:=(List.getElem?_eq_some_iff.1 hj).1
   exact hno j (by omega) hj
  show(if inP pr a=true then _ else _)
  rw[if_neg hnin]
 |succ n ih=>
  intro i m hi hm hno
  obtain⟨m,rfl⟩:∃k,m=k+1:=⟨m-1,by omega⟩
  refine Rs.step ?_
  unfold procedure_l0_t
  dsimp only
  refine Rs.pos (by simp;omega) (Rs.pos ⟨by omega,by omega⟩ (Rs.pos ⟨by simp;omega,rfl⟩ ?_))
  have hget:pr[i]? =some (u i):=by
   have hlt:i<pr.length:=by omega
   have:=List.getElem?_eq_getElem hlt
   rw[this,h2 i _ this]
  have e:0+Int.toNat ((i:Nat):Int)=i:=by omega
  rw[e]
  refine Rs.ite (fun heq=>?_) (fun hne=>?_)
  ·rw[tl_eq]at heq
   have hin:inP pr a=true:=by
    rw[inP_iff,←heq]
    exact List.mem_iff_getElem?.2 ⟨i,hget⟩
   have e2:w ((((s.p+1:Nat):Nat):Int)-1)=((s.p:Nat):Int):=by rw[w_in (by omega) (by omega)];omega
   rw[e2,fail_eq q (s:=s) (pr:=pr) (N:=N) (T:=T) ⟨v,u,rfl,h1,h2,h3,h4,h5,h6⟩]
   refine Rs.some ?_
   show(if inP pr a=true then _ else _)
   rw[if_pos hin]
  ·rw[tl_eq]at hne
   refine Rs.some ?_
   show Rs (lpG _ m _) _
   rw[w_succ (by omega)]
   refine ih (i+1) m (by omega) (by omega) fun j hj=>?_
   by_cases hji:j=i
   ·subst hji
    rw[hget]
    simpa using hne
   ·exact hno j (by omega)
theorem procedure_rs(hT:TokN N T){f q:Nat}(hq:2*f+2000000100≤q)(hf2:f≤1000000000)(h:RS N T pr s x)(hl:pr.length≤1999999999)(ho:procP T f pr s≠ .out):Rs (procedure q x) (PC N T pr (procP T f pr s)):=by
 unfold procedure t_procedure
 have hop:procP T f pr s=(mustP T w_procedure s).bind fun _ s1=>(nameP T s1).bind fun x s2=>if inP pr x=true then .err s1.p 4 else(paramsP T f {s2 with vs:=[]}).bind fun l s3=>(blockP T f s3).bind fun b s4=>.ok ⟨x,l,b⟩ s4:=rfl
 refine PU.bind (must_rs hT q h w_procedure (by decide)) (fun s1 x1 e1 g1=>?_) (fun p c e hp=>?_)
 ·rw[e1]at hop
  dsimp only[PR.bind]at hop
  refine PX.bind (name_rs hT q g1) (fun a s2 x2 e2 g2=>?_) (fun p c e hp=>?_)
  ·obtain⟨rfl,rfl,hk,hr⟩:=nameP_ok e2
   rw[e2]at hop
   dsimp only[PR.bind]at hop
   obtain⟨v,u,rfl,h1,h2,h3,h4,h5,h6⟩:=g2
   have hsp:=g1.lt
   have hN:=hT.big
   unfold procedure_l0
   refine Rs.bind (procs_loop (s:=s1) (pr:=pr) q x _ h1 h2 hsp hN h4 h5 h6 pr.length 0 q (by omega) (by omega) (fun j hj=>absurd hj (Nat.not_lt_zero j))) fun z hz=>?_
   by_cases hin:inP pr (T s1.p).t=true
   ·rw[if_pos hin]at hz hop
    subst hz
    rw[hop]
    exact Rs.some ⟨hsp,rfl⟩
   ·rw[if_neg hin]at hz hop
    subst hz
    dsimp only[Sum.elim_inr,Sum.elim_inl]
    refine Rs.pos ⟨by unfold roomBound;omega,by unfold maxLen;omega,Nat.le_refl _⟩ ?_
    have hl2:(pr++[(T s1.p).t]).length=pr.length+1:=by simp
    have hpar:=params_rs (s:=adv s1) (pr:=pr++[(T s1.p).t]) hT (by omega:20≤q) (by omega:f<q) hf2 (h2.push (x:=(T s1.p).t)) h3 h4 (by omega) (PR.bind_out (hop▸ho))
    rw[hl2]at hpar
    refine Rs.bind hpar fun z hz2=>?_
    cases hr3:paramsP T f {adv s1 with vs:=[]}with
    |out=>rw[hr3]at hz2;rcases z with z|z<;>exact hz2.elim
    |err p c=>
     rw[hr3]at hz2 hop
     rcases z with z|z
     ·exact hz2.elim
     ·rw[hop];exact Rs.some hz2
    |ok l s3=>
     rw[hr3]at hz2 hop
     dsimp only[PR.bind]at hop
     rcases z with z|z
     ·obtain⟨z1,z2,z3,x3⟩:=z
      obtain⟨k1,k2⟩:=hz2
      dsimp only[Sum.elim_inl]at k1 k2⊢
      refine PN.bind ((stmts hT f hf2 q (by omega)).2 f (Nat.le_refl _) s3 x3 k2 (PR.bind_out (hop▸ho))) (fun t s4 k n b m c x4 e hr hx=>?_) (fun p c e hp=>?_)
      ·rw[hop,e]
       exact Rs.some ⟨⟨rfl,k1,hr⟩,hx⟩
      ·(rw[hop,e];exact Rs.some ⟨hp,rfl⟩)
     ·exact hz2.elim
  ·(rw[hop,e];exact Rs.some ⟨hp,rfl⟩)
 ·(rw[hop,e];exact Rs.some ⟨hp,rfl⟩)
end
end Go.Proofs.YtjfkkokeegpeiaaGreatDoor

