/- Texts joined. -/
import Derived.Test.YtjfkkokeegpeiaaDoorQE
import Derived.Test.YtjfkkokeegpeiaaDoorQF
import Derived.Lib.Strings
import Derived.Test.YtjfkkokeegpeiaaDoorQC
/- Plain: a token is known by its own bytes and the byte behind it; sources joined, moved, cut. -/
set_option linter.unusedSimpArgs false
set_option linter.unusedVariables false
namespace Go.Proofs.Lx
open Go
def mkB(l:List UInt8):ByteArray:=⟨l.toArray⟩
theorem mkB_size(l:List UInt8):(mkB l).size=l.length:=by simp[mkB,ByteArray.size]
theorem mkB_list(l:List UInt8):(mkB l).data.toList=l:=by simp[mkB]
def numL(D:List UInt8):Tkn×Int:=if 1<D.length∧D[0]? =some 48 then(noTok,11)else if valI 0 D>2147483647 then(noTok,5)else(⟨2,0,mkB D,valI 0 D⟩,0)
def tokL(l:List UInt8):Tkn×Int:=
 if letterI (l.headD 0).toNat then(if 12<spanL wordI l then(noTok,2)else(⟨1,0,mkB (l.take (spanL wordI l)),0⟩,0))
 else if digitI (l.headD 0).toNat then numL (l.take (spanL digitI l))
 else if symN l=0 then(noTok,11)else(⟨3,0,mkB (l.take (symN l)),0⟩,0)
theorem ext_mkB(s:ByteArray)(p n:Nat)(h:p≤s.size):(s.extract p s.size).extract 0 n=mkB ((s.data.toList.drop p).take n):=ba_ext (by rw[extract_list,ext_list s p h,mkB_list];simp)
theorem get_hd{s:ByteArray}{p:Nat}(hp:p<s.size):s.get! p=(s.data.toList.drop p).headD 0:=by rw[drop_get s p hp];rfl
theorem numberP_L(D:List UInt8):numberP (mkB D)=numL D:=by
 unfold numberP numL
 rw[mkB_size,mkB_list]
theorem tokP_L{s:ByteArray}{p:Nat}(hp:p<s.size):tokP s p=tokL (s.data.toList.drop p):=by
 unfold tokP tokL
 rw[get_hd hp,ext_mkB s p _ (by omega)]
 unfold wordP symbolP
 rw[numberP_L,ext_mkB s p _ (by omega),ext_mkB s p _ (by omega),ext_list s p (by omega)]
theorem span_loc(g:Int→Bool)(l rest:List UInt8)(h:∀c,rest.head? =some c→g c.toNat=false):spanL g (l.take (spanL g l)++rest)=spanL g l:=by
 induction l with
 |nil=>cases rest with
  |nil=>rfl
  |cons c r=>simp[spanL,h c rfl]
 |cons b l ih=>
  cases hb:g b.toNat with
  |false=>
   have e:spanL g (b::l)=0:=by simp[spanL,hb]
   rw[e,List.take_zero,List.nil_append]
   cases rest with
   |nil=>rfl
   |cons c r=>simp[spanL,h c rfl]
  |true=>
   have e2:∀m,spanL g (b::m)=spanL g m+1:=fun m=>by simp[spanL,hb]
   rw[e2,List.take_succ_cons,List.cons_append,e2,ih]
theorem span_halt(g:Int→Bool)(l:List UInt8)(c:UInt8)(h:(l.drop (spanL g l)).head? =some c):g c.toNat=false:=by
 induction l with
 |nil=>simp[spanL]at h
 |cons b l ih=>
  cases hb:g b.toNat with
  |false=>
   have e:spanL g (b::l)=0:=by simp[spanL,hb]
   rw[e]at h
   simp at h
   subst h
   exact hb
  |true=>
   have e:spanL g (b::l)=spanL g l+1:=by simp[spanL,hb]
   rw[e,List.drop_succ_cons]at h
   exact ih h
theorem span_app(g:Int→Bool)(l b:List UInt8)(c:UInt8)(h:g c.toNat=false):spanL g (l++c::b)=spanL g l:=by
 induction l with
 |nil=>simp[spanL,h]
 |cons d l ih=>
  cases hd:g d.toNat with
  |false=>simp[spanL,hd]
  |true=>
   have e2:∀m,spanL g (d::m)=spanL g m+1:=fun m=>by simp[spanL,hd]
   rw[List.cons_append,e2,e2,ih]
theorem white_word{c:UInt8}(h:whiteI c.toNat=true):wordI c.toNat=false∧digitI c.toNat=false∧∀a,[a,c]∉sym2:=by
 simp only[whiteI,decide_eq_true_eq]at h
 refine⟨?_,?_,?_⟩
 ·simp[wordI,letterI,digitI];omega
 ·simp[digitI];omega
 ·intro a hm
  simp[sym2]at hm
  have hc:c=124∨c=38∨c=61:=by
   rcases hm with h|h|h|h|h|h<;>simp[h.2]
  rcases hc with rfl|rfl|rfl<;>simp at h
theorem headD_take{l rest:List UInt8}{n:Nat}(h:1≤n)(hl:l≠[]):(l.take n++rest).headD 0=l.headD 0:=by
 cases l with
 |nil=>exact absurd rfl hl
 |cons b l=>obtain⟨n,rfl⟩:∃m,n=m+1:=⟨n-1,by omega⟩;rfl
theorem sym_loc{l rest:List UInt8}(hn:symN l≠0)(hc:∀c,rest.head? =some c→whiteI c.toNat=true∨(l.drop (symN l)).head? =some c):symN (l.take (symN l)++rest)=symN l∧1≤symN l∧symN l≤l.length:=by
 by_cases h2:1<l.length∧l.take 2∈sym2
 ·have e:symN l=2:=by unfold symN;rw[if_pos h2]
  rw[e]
  refine⟨?_,by omega,by omega⟩
  unfold symN
  rw[if_pos ⟨by simp;omega,by rw[List.take_left' (by simp;omega)];exact h2.2⟩]
 ·have e0:symN l=cond ((l.head?).any (fun b=>sym1.contains b)) 1 0:=by unfold symN;rw[if_neg h2]
  cases l with
  |nil=>simp[e0]at hn
  |cons a l=>
   rw[List.head?_cons,Option.any_some]at e0
   have hs:sym1.contains a=true:=by
    cases hs:sym1.contains a with
    |true=>rfl
    |false=>rw[hs]at e0;exact absurd e0 hn
   have e:symN (a::l)=1:=by rw[e0,hs];rfl
   rw[e]at hc⊢
   refine⟨?_,by omega,by simp⟩
   rw[List.take_succ_cons,List.take_zero,List.cons_append,List.nil_append]
   unfold symN
   rw[if_neg,List.head?_cons,Option.any_some,hs]
   ·rfl
   ·rintro⟨_,hm⟩
    cases rest with
    |nil=>simp[sym2]at hm
    |cons c r=>
     rcases hc c rfl with hw|hw
     ·exact(white_word hw).2.2 a (by simpa using hm)
     ·cases l with
      |nil=>simp at hw
      |cons d l=>
       simp at hw
       subst hw
       exact h2 ⟨by simp,by simpa using hm⟩
theorem tok_loc{l rest:List UInt8}{x:Tkn}(h:tokL l=(x,0))(hc:∀c,rest.head? =some c→whiteI c.toNat=true∨(l.drop x.t.size).head? =some c):tokL (l.take x.t.size++rest)=(x,0):=by
 unfold tokL at h
 by_cases hl:letterI (l.headD 0).toNat=true
 ·rw[if_pos hl]at h
  by_cases h12:12<spanL wordI l
  ·rw[if_pos h12]at h;simp at h
  ·rw[if_neg h12]at h
   simp only[Prod.mk.injEq,and_true]at h
   subst h
   have hn:(mkB (l.take (spanL wordI l))).size=spanL wordI l:=by rw[mkB_size,List.length_take];have:=spanL_le wordI l;omega
   dsimp only at hc⊢
   rw[hn]at hc⊢
   have hs:=span_loc wordI l rest (fun c h=>(hc c h).elim (fun h=>(white_word h).1) (fun h=>span_halt _ _ _ h))
   cases l with
   |nil=>exact absurd hl (by decide)
   |cons b l=>
    have hp:=spanL_pos wordI b l (by simp[wordI];left;exact hl)
    have hh:((b::l).take (spanL wordI (b::l))++rest).headD 0=(b::l).headD 0:=headD_take hp (by simp)
    unfold tokL
    rw[hh,if_pos hl,hs,if_neg h12,List.take_left' (by rw[List.length_take];have:=spanL_le wordI (b::l);omega)]
 ·rw[if_neg hl]at h
  by_cases hd:digitI (l.headD 0).toNat=true
  ·rw[if_pos hd]at h
   have hn:x.t.size=spanL digitI l:=by
    unfold numL at h
    split at h
    ·simp at h
    ·split at h
     ·simp at h
     ·simp only[Prod.mk.injEq,and_true]at h
      subst h
      rw[mkB_size,List.length_take]
      have:=spanL_le digitI l
      omega
   rw[hn]at hc⊢
   have hs:=span_loc digitI l rest (fun c h=>(hc c h).elim (fun h=>(white_word h).2.1) (fun h=>span_halt _ _ _ h))
   cases l with
   |nil=>exact absurd hd (by decide)
   |cons b l=>
    have hp:=spanL_pos digitI b l hd
    have hh:((b::l).take (spanL digitI (b::l))++rest).headD 0=(b::l).headD 0:=headD_take hp (by simp)
    unfold tokL
    rw[hh,if_neg hl,if_pos hd,hs,List.take_left' (by rw[List.length_take];have:=spanL_le digitI (b::l);omega),h]
  ·rw[if_neg hd]at h
   by_cases h0:symN l=0
   ·rw[if_pos h0]at h;simp at h
   ·rw[if_neg h0]at h
    simp only[Prod.mk.injEq,and_true]at h
    subst h
    have hle:symN l≤l.length:=(sym_loc (rest:=[]) h0 (fun c h=>by simp at h)).2.2
    have hn:(mkB (l.take (symN l))).size=symN l:=by rw[mkB_size,List.length_take];omega
    dsimp only at hc⊢
    rw[hn]at hc⊢
    obtain⟨hs,hp,_⟩:=sym_loc h0 hc
    have hh:(l.take (symN l)++rest).headD 0=l.headD 0:=headD_take hp (by rintro rfl;simp[symN]at h0)
    unfold tokL
    rw[hh,if_neg hl,if_neg hd,hs,if_neg h0,List.take_left' (by rw[List.length_take];omega)]
end Go.Proofs.Lx
/- Plain: sources joined, moved, cut. -/
namespace Go.Proofs.Lx
open Go
def mv(d:Nat)(x:Tkn):Tkn:={x with a:=x.a+d}
theorem size_list(s:ByteArray):s.data.toList.length=s.size:=by rw[Array.length_toList];rfl
theorem lex_shift{b:ByteArray}{p:Nat}{acc:List Tkn}{r:List Tkn×Nat×Int}(h:Lex b p acc r):r.2.2=0→∀(s:ByteArray) (pre:List UInt8) (hd:List Tkn),s.data.toList=pre++b.data.toList→
 Lex s (pre.length+p) (hd++acc.map (mv pre.length)) (hd++r.1.map (mv pre.length),0,0):=by
 have hsz:∀{s:ByteArray} {pre:List UInt8},s.data.toList=pre++b.data.toList→s.size=pre.length+b.size:=by
  intro s pre hs
  have:=congrArg List.length hs
  rwa [List.length_append,size_list,size_list]at this
 have hdr:∀{s:ByteArray} {pre:List UInt8} (p:Nat),s.data.toList=pre++b.data.toList→s.data.toList.drop (pre.length+p)=b.data.toList.drop p:=by
  intro s pre p hs
  rw[hs,←List.drop_drop,List.drop_left]
 have hget:∀{s:ByteArray} {pre:List UInt8} {p:Nat},s.data.toList=pre++b.data.toList→p<b.size→s.get! (pre.length+p)=b.get! p:=by
  intro s pre p hs hp
  rw[get_hd (by have:=hsz hs;omega),get_hd hp,hdr p hs]
 induction h with
 | @fin p acc hp=>
  intro _ s pre hd hs
  have:=hsz hs
  have h1:=Lex.fin (s:=s) (p:=pre.length+p) (acc:=hd++List.map (mv pre.length) acc) (by omega)
  rw[List.map_append,←List.append_assoc]
  have e:[({k:=0,a:=(s.size:Int),t:=⟨#[]⟩,n:=0}:Tkn)]=List.map (mv pre.length) [{k:=0,a:=(b.size:Int),t:=⟨#[]⟩,n:=0}]:=by
   simp only[List.map_cons,List.map_nil,mv]
   rw[this,Int.natCast_add,Int.add_comm]
  rw[e]at h1
  exact h1
 | @white p acc r hp hw _ ih=>
  intro h0 s pre hd hs
  have:=hsz hs
  exact .white (by omega) (by rw[hget hs hp];exact hw) (ih h0 s pre hd hs)
 | @hash p acc r hp hw _ ih=>
  intro h0 s pre hd hs
  have:=hsz hs
  exact .hash (by omega) (by rw[hget hs hp];exact hw) (by rw[hdr _ hs,Nat.add_assoc];exact ih h0 s pre hd hs)
 | @tok p acc r x hp hw h35 ht _ ih=>
  intro h0 s pre hd hs
  have:=hsz hs
  refine .tok (by omega) (by rw[hget hs hp];exact hw) (by rw[hget hs hp];exact h35) (by rw[tokP_L (by omega),hdr _ hs,←tokP_L hp];exact ht) ?_
  have h1:=ih h0 s pre hd hs
  rw[List.map_append,←List.append_assoc]at h1
  simp only[List.map_cons,List.map_nil,mv]at h1
  rw[Int.add_comm,←Int.natCast_add]at h1
  rw[Nat.add_assoc]
  exact h1
 |err _ _ _ _ he=>intro h0;exact absurd h0 he
theorem lex_cat{a:ByteArray}{p:Nat}{acc:List Tkn}{r:List Tkn×Nat×Int}(h:Lex a p acc r):p≤a.size→r.2.2=0→∃ts,r=(ts++[⟨0,a.size,⟨#[]⟩,0⟩],0,0)∧
 ∀(s:ByteArray) (b:List UInt8),s.data.toList=a.data.toList++10::b→∀r',Lex s a.size ts r'→Lex s p acc r':=by
 have hsz:∀{s:ByteArray} {b:List UInt8},s.data.toList=a.data.toList++10::b→a.size<s.size:=by
  intro s b hs
  have:=congrArg List.length hs
  rw[List.length_append,size_list,size_list,List.length_cons]at this
  omega
 have hdr:∀{s:ByteArray} {b:List UInt8} {p:Nat},s.data.toList=a.data.toList++10::b→p<a.size→s.data.toList.drop p=a.data.toList.drop p++10::b:=by
  intro s b p hs hp
  rw[hs,List.drop_append_of_le_length (by rw[size_list];omega)]
 have hget:∀{s:ByteArray} {b:List UInt8} {p:Nat},s.data.toList=a.data.toList++10::b→p<a.size→s.get! p=a.get! p:=by
  intro s b p hs hp
  rw[get_hd (by have:=hsz hs;omega),hdr hs hp,get_hd hp,drop_get a p hp]
  rfl
 induction h with
 | @fin p acc hp=>
  intro hp2 _
  refine⟨_,rfl,fun s b hs r' h'=>?_⟩
  rwa [Nat.le_antisymm hp2 hp]
 | @white p acc r hp hw _ ih=>
  intro _ h0
  obtain⟨ts,h1,h2⟩:=ih (by omega) h0
  refine⟨ts,h1,fun s b hs r' h'=>?_⟩
  have:=hsz hs
  exact .white (by omega) (by rw[hget hs hp];exact hw) (h2 s b hs r' h')
 | @hash p acc r hp hw _ ih=>
  intro _ h0
  have hle:=spanL_le ne10 (a.data.toList.drop p)
  rw[List.length_drop,size_list]at hle
  obtain⟨ts,h1,h2⟩:=ih (by omega) h0
  refine⟨ts,h1,fun s b hs r' h'=>?_⟩
  have:=hsz hs
  exact .hash (by omega) (by rw[hget hs hp];exact hw) (by rw[hdr hs hp,span_app _ _ _ _ (by decide)];exact h2 s b hs r' h')
 | @tok p acc r x hp hw h35 ht _ ih=>
  intro _ h0
  have hok:=tokP_ok hp ht
  obtain⟨ts,h1,h2⟩:=ih (by omega) h0
  refine⟨ts,h1,fun s b hs r' h'=>?_⟩
  have:=hsz hs
  refine .tok (by omega) (by rw[hget hs hp];exact hw) (by rw[hget hs hp];exact h35) ?_ (h2 s b hs r' h')
  rw[tokP_L hp]at ht
  rw[tokP_L (by omega),hdr hs hp]
  have:=tok_loc (rest:=(a.data.toList.drop p).drop x.t.size++10::b) ht (fun c hc=>by
   cases hd:(a.data.toList.drop p).drop x.t.size with
   |nil=>rw[hd]at hc;simp at hc;subst hc;exact .inl (by decide)
   |cons d l=>rw[hd]at hc;simp at hc;subst hc;exact .inr (by first|rfl| (rw[hd];rfl) |simp))
  rwa [←List.append_assoc,List.take_append_drop]at this
 |err _ _ _ _ he=>intro _ h0;exact absurd h0 he
end Go.Proofs.Lx
/- Plain: tokens joined by spaces are the same tokens. -/
namespace Go.Proofs.Lx
open Go
def same3(x y:Tkn):Prop:=x.k=y.k∧x.t=y.t∧x.n=y.n
inductive Same3:List Tkn→List Tkn→Prop where
 |nil:Same3 [] []
 |cons {x y:Tkn} {l m:List Tkn}:same3 x y→Same3 l m→Same3 (x::l) (y::m)
theorem Same3.len{l m:List Tkn}(h:Same3 l m):l.length=m.length:=by
 induction h with
 |nil=>rfl
 |cons _ _ ih=>simp[ih]
theorem Same3.get{l m:List Tkn}(h:Same3 l m):∀(i:Nat) (hi:i<l.length) (hj:i<m.length),same3 l[i] m[i]:=by
 induction h with
 |nil=>intro i hi;simp at hi
 |cons h1 _ ih=>
  intro i hi hj
  cases i with
  |zero=>exact h1
  |succ i=>exact ih i (by simpa using hi) (by simpa using hj)
end Go.Proofs.Lx
/- Spaces: the texts of the tokens, joined by spaces, are parsed alike. -/
namespace Go.Proofs.YtjfkkokeegpeiaaDoor
open Go Go.Am Go.Proofs.Lx
set_option maxRecDepth 100000
theorem lex_of{s:ByteArray}{r:List Tkn×Nat×Int}(h:TokensR s r)(h0:r.2.2=0):s.size≤4000∧Lex s 0 [] r:=by
 rcases h with⟨_,rfl⟩ |h
 ·cases h0
 ·exact h
end Go.Proofs.YtjfkkokeegpeiaaDoor
/- Plain: a source cut behind a token; tokens stand in order. -/
namespace Go.Proofs.Lx
open Go
theorem tokP_k{s:ByteArray}{p:Nat}{x:Tkn}(h:tokP s p=(x,0)):x.k≠0:=by
 unfold tokP at h
 split at h
 ·unfold wordP at h
  split at h
  ·cases h
  ·cases h;show(1:Int)≠0;decide
 ·split at h
  ·unfold numberP at h
   split at h
   ·cases h
   ·split at h
    ·cases h
    ·cases h;show(2:Int)≠0;decide
  ·unfold symbolP at h
   split at h
   ·cases h
   ·cases h;show(3:Int)≠0;decide
theorem lex_ord{s:ByteArray}{p:Nat}{acc:List Tkn}{r:List Tkn×Nat×Int}(h:Lex s p acc r):r.2.2=0→(acc.Pairwise fun x y=>x.a<y.a)→(∀x∈acc,x.a< (p:Int)∧0≤x.a∧x.k≠0)→
 ∃ts,r.1=ts++[⟨0,s.size,⟨#[]⟩,0⟩]∧(ts.Pairwise fun x y=>x.a<y.a)∧∀x∈ts,0≤x.a∧x.k≠0:=by
 induction h with
 |fin _=>exact fun _ h1 h2=>⟨_,rfl,h1,fun x hx=>(h2 x hx).2⟩
 | @white p acc r hp hw _ ih=>exact fun h0 h1 h2=>ih h0 h1 fun x hx=>⟨by have:=(h2 x hx).1;omega,(h2 x hx).2⟩
 | @hash p acc r hp hw _ ih=>exact fun h0 h1 h2=>ih h0 h1 fun x hx=>⟨by have:=(h2 x hx).1;omega,(h2 x hx).2⟩
 | @tok p acc r y hp hw h35 ht _ ih=>
  intro h0 h1 h2
  have hok:=tokP_ok hp ht
  refine ih h0 ?_ ?_
  ·refine List.pairwise_append.2 ⟨h1,List.pairwise_singleton _ _,fun x hx z hz=>?_⟩
   rw[List.mem_singleton.1 hz]
   exact(h2 x hx).1
  ·intro x hx
   rcases List.mem_append.1 hx with h|h
   ·have:=h2 x h
    exact⟨by have:=hok.2.1;omega,this.2⟩
   ·rw[List.mem_singleton.1 h]
    exact⟨by show(p:Int)<_;have:=hok.2.1;omega,Int.natCast_nonneg p,(show y.k≠0 from tokP_k ht)⟩
 |err _ _ _ _ he=>intro h0;exact absurd h0 he
end Go.Proofs.Lx
/- The law of Tail. -/
namespace Go.Proofs.YtjfkkokeegpeiaaDoor
open Go Go.Am Go.Proofs.Lx
set_option maxRecDepth 100000
theorem toks_ord{s:ByteArray}{acc:List Tkn}(h:TokensR s (acc++[endT s],0,0)):(∀i j,i<j→j<acc.length→(tokAt s acc i).a< (tokAt s acc j).a)∧∀j,j<acc.length→0≤(tokAt s acc j).a∧(tokAt s acc j).k≠0:=by
 obtain⟨h1,h2⟩:=lex_of h rfl
 obtain⟨ts,h3,h4,h5⟩:=lex_ord h2 rfl List.Pairwise.nil (by simp)
 obtain rfl:acc=ts:=List.append_cancel_right h3
 have ht:∀j (hj:j<acc.length),tokAt s acc j=acc[j]:=fun j hj=>by unfold tokAt;rw[List.getD_eq_getElem?_getD,List.getElem?_eq_getElem hj];rfl
 refine⟨fun i j hij hj=>?_,fun j hj=>?_⟩
 ·rw[ht i (by omega),ht j hj]
  exact List.pairwise_iff_getElem.1 h4 i j (by omega) hj hij
 ·rw[ht j hj]
  exact h5 _ (List.getElem_mem hj)
end Go.Proofs.YtjfkkokeegpeiaaDoor
/- Plain: two sources, the one behind the other, have the procedures of both. -/
namespace Go.Proofs.YtjfkkokeegpeiaaDoor
open Go Go.Am Go.Proofs.Lx
set_option maxRecDepth 100000
section
variable {T U:Nat→Tkn}
theorem Op.ite'{α:Type}{o:Nat}{c:Prop}[Decidable c]{f g:PR α}(h1:Op o f)(h2:Op o g):Op o (if c then f else g):=by split<;>assumption
theorem prm_op(s:PS):Op s.o (prmP T s):=by
 unfold prmP
 refine(decl_op s).bind fun x s1 e=>Op.ite' (Op.ite' trivial (Op.ite' trivial ?_)) e
 exact e
theorem prms_op:∀f s,Op s.o (prmsP T f s)
 |0,s=>by rw[prmsP];trivial
 |f+1,s=>by
  rw[prmsP]
  refine(prm_op s).bind fun x s1 e=>Op.ite' ((prms_op f (adv s1)).bind fun l s2 e2=>?_) ((must_op sRPar s1).bind fun _ s2 e2=>?_)
  ·exact e2.trans e
  ·exact e2.trans e
theorem params_op(f:Nat)(s:PS):Op s.o (paramsP T f s):=by
 unfold paramsP
 refine(must_op sLPar s).bind fun _ s1 e=>Op.ite' e ?_
 rw[←e]
 exact prms_op f s1
theorem proc_op(f:Nat)(pr:List ByteArray)(s:PS):Op s.o (procP T f pr s):=by
 unfold procP
 refine(must_op w_procedure s).bind fun _ s1 e1=>(name_op s1).bind fun x s2 e2=>Op.ite' trivial ((params_op f _).bind fun l s3 e3=>(((stmt_op (T:=T) f).1 s3).bind fun b s4 e4=>?_))
 exact e4.trans (e3.trans (e2.trans e1))
theorem procs_op:∀f pr s,Op s.o (procsP T f pr s)
 |0,pr,s=>by rw[procsP];trivial
 |f+1,pr,s=>by
  rw[procsP]
  refine Op.ite' rfl ((proc_op f pr s).bind fun x s1 e1=>(procs_op f _ s1).bind fun l s2 e2=>?_)
  exact e2.trans e1
theorem procs_end:∀f pr s l s',procsP T f pr s= .ok l s'→(T s'.p).k=0
 |0,pr,s,l,s',h=>by rw[procsP]at h;cases h
 |f+1,pr,s,l,s',h=>by
  rw[procsP]at h
  split at h
  ·cases h;assumption
  ·cases hp:procP T f pr s with
   |out=>rw[hp]at h;cases h
   |err p c=>rw[hp]at h;cases h
   |ok x s1=>
    rw[hp]at h
    cases hq:procsP T f (pr++[x.x]) s1 with
    |out=>simp only[PR.bind,hq]at h;cases h
    |err p c=>simp only[PR.bind,hq]at h;cases h
    |ok l2 s2=>
     simp only[PR.bind,hq]at h
     injection h with h1 h2
     subst h2
     exact procs_end f _ s1 l2 _ hq
theorem proc_more{f:Nat}{p0 pr:List ByteArray}{s s1:PS}{x:Prc}(h:procP T f pr s= .ok x s1)(hx:x.x∉p0):procP T f (p0++pr) s= .ok x s1:=by
 unfold procP at h⊢
 cases hm:mustP T w_procedure s with
 |out=>rw[hm]at h;cases h
 |err p c=>rw[hm]at h;cases h
 |ok u s2=>
  rw[hm]at h
  show(nameP T s2).bind _=_
  have h:(nameP T s2).bind _=_:=h
  cases hn:nameP T s2 with
  |out=>rw[hn]at h;cases h
  |err p c=>rw[hn]at h;cases h
  |ok nm s3=>
   rw[hn]at h
   have h:(if inP pr nm=true then PR.err s2.p 4 else _)=_:=h
   split at h
   ·cases h
   ·rename_i hi
    have hxe:x.x=nm:=by
     cases hq:paramsP T f {s3 with vs:=[]}with
     |out=>rw[hq]at h;cases h
     |err p c=>rw[hq]at h;cases h
     |ok l s4=>
      rw[hq]at h
      have h:(blockP T f s4).bind _=_:=h
      cases hb:blockP T f s4 with
      |out=>rw[hb]at h;cases h
      |err p c=>rw[hb]at h;cases h
      |ok b s5=>rw[hb]at h;cases h;rfl
    show(if inP (p0++pr) nm=true then PR.err s2.p 4 else _)=_
    rw[if_neg ?_]
    ·exact h
    ·rw[inP_iff,List.mem_append]
     rintro(h1|h1)
     ·rw[hxe]at hx;exact hx h1
     ·exact hi (inP_iff.2 h1)
theorem procs_more{p0:List ByteArray}:∀f pr s l s',procsP T f pr s= .ok l s'→(∀c∈l,c.x∉p0)→procsP T f (p0++pr) s= .ok l s'
 |0,pr,s,l,s',h,_=>by rw[procsP]at h;cases h
 |f+1,pr,s,l,s',h,hx=>by
  rw[procsP]at h⊢
  split at h
  ·rename_i h0
   rw[if_pos h0];exact h
  ·rename_i h0
   rw[if_neg h0]
   cases hp:procP T f pr s with
   |out=>rw[hp]at h;cases h
   |err p c=>rw[hp]at h;cases h
   |ok x s1=>
    rw[hp]at h
    cases hq:procsP T f (pr++[x.x]) s1 with
    |out=>simp only[PR.bind,hq]at h;cases h
    |err p c=>simp only[PR.bind,hq]at h;cases h
    |ok l2 s2=>
     simp only[PR.bind,hq]at h
     injection h with h1 h2
     subst h1 h2
     rw[proc_more hp (hx x (.head _))]
     show(procsP T f (p0++pr++[x.x]) s1).bind _=_
     rw[List.append_assoc,procs_more f _ s1 l2 s2 hq fun c hc=>hx c (.tail _ hc)]
     rfl
theorem procs_vs{f:Nat}{pr:List ByteArray}{s s':PS}{l:List Prc}(h:procsP T f pr s= .ok l s')(v:List ByteArray):∃s'',procsP T f pr {s with vs:=v}= .ok l s'':=by
 cases f with
 |zero=>rw[procsP]at h;cases h
 |succ f=>
  rw[procsP]at h⊢
  by_cases h0:(T s.p).k=0
  ·rw[if_pos h0]at h
   rw[if_pos (show(T ({s with vs:=v}:PS).p).k=0 from h0)]
   cases h
   exact⟨_,rfl⟩
  ·rw[if_neg h0]at h
   rw[if_neg (show¬(T ({s with vs:=v}:PS).p).k=0 from h0)]
   refine⟨s',?_⟩
   rw[←h]
   congr 1
   unfold procP mustP
   rw[show isP T w_procedure {s with vs:=v}=isP T w_procedure s from rfl]
   split
   ·show(nameP T (adv {s with vs:=v})).bind _=(nameP T (adv s)).bind _
    rw[name_bind,name_bind]
    rfl
   ·rfl
theorem procs_cat{n:Nat}(hU:∀j,j<n→Eq3 (U j) (T j)):∀f f' pr s l s',f≤f'→procsP T f pr s= .ok l s'→s'.p≤n→procsP U f' pr s=(procsP U (f'-l.length) (pr++l.map Prc.x) s').bind fun l2 s2=>.ok (l++l2) s2
 |0,f',pr,s,l,s',_,h,_=>by rw[procsP]at h;cases h
 |f+1,0,pr,s,l,s',hf,_,_=>absurd hf (Nat.not_succ_le_zero f)
 |f+1,f'+1,pr,s,l,s',hf,h,hn=>by
  have hf':=Nat.le_of_succ_le_succ hf
  rw[procsP]at h
  split at h
  ·cases h
   rw[List.map_nil,List.append_nil,List.length_nil,Nat.sub_zero]
   cases procsP U (f'+1) pr s<;>rfl
  ·rename_i h0
   cases hp:procP T f pr s with
   |out=>rw[hp]at h;cases h
   |err p c=>rw[hp]at h;cases h
   |ok x s1=>
    rw[hp]at h
    cases hq:procsP T f (pr++[x.x]) s1 with
    |out=>simp only[PR.bind,hq]at h;cases h
    |err p c=>simp only[PR.bind,hq]at h;cases h
    |ok l2 s2=>
     simp only[PR.bind,hq]at h
     injection h with h1 h2
     subst h1 h2
     have hU':∀j,j<n→Eq3 (U (0+j)) (T j):=fun j hj=>by rw[Nat.zero_add];exact hU j hj
     have e0:∀s:PS,s.up 0=s:=fun s=>by cases s;simp[PS.up]
     have g1:=proc_up hU' hf' pr s
     have g2:=procs_up hU' f f (Nat.le_refl f) (pr++[x.x]) s1
     rw[hp]at g1
     rw[hq]at g2
     have k1:s.p<s1.p:=g1.gr (by simp)
     have k2:s1.p<s2.p+1:=g2.gr (by simp)
     have k3:=g1.eq (by simp) (show s1.p≤n by omega)
     rw[e0]at k3
     rw[procsP,if_neg (by rw[(hU s.p (by omega)).k];exact h0),k3]
     show(procsP U f' (pr++[x.x]) (s1.up 0)).bind _=_
     rw[e0,procs_cat hU f f' _ s1 l2 s2 hf' hq hn]
     simp only[List.map_cons,List.length_cons,Nat.add_sub_add_right,List.append_assoc,List.cons_append,List.nil_append]
     cases procsP U (f'-l2.length) (pr++x.x::l2.map Prc.x) s2<;>rfl
end
theorem tok_join{a b s:ByteArray}{l m:List Tkn}{x y:Int}(hs:s.data.toList=a.data.toList++10::b.data.toList)(hsz:s.size≤4000)(ha:Lex a 0 [] (l++[endT a],0,0))(hb:Lex b 0 [] (m++[endT b],0,0)):
 TokensR s ((l++m.map (mv (a.size+1)))++[endT s],0,0):=by
 obtain⟨ts,h1,h2⟩:=lex_cat ha (Nat.zero_le _) rfl
 obtain rfl:l=ts:=List.append_cancel_right (congrArg (fun r:List Tkn×Nat×Int=>r.1) h1)
 have h3:=lex_shift hb rfl s (a.data.toList++[10]) l (by rw[hs];simp)
 have e:(a.data.toList++[10]).length=a.size+1:=by rw[List.length_append,size_list];rfl
 rw[e,List.map_nil,List.append_nil,Nat.add_zero]at h3
 have hsl:s.size=a.size+1+b.size:=by
  have:=congrArg List.length hs
  rw[List.length_append,size_list,size_list,List.length_cons,size_list]at this
  omega
 have hg:s.get! a.size=10:=by
  rw[get_hd (by omega),hs,←size_list,List.drop_left]
  rfl
 have h4:=h2 s _ hs _ (.white (by omega) (by rw[hg];decide) h3)
 refine .inr ⟨hsz,?_⟩
 have e2:l++(m++[endT b]).map (mv (a.size+1))=(l++m.map (mv (a.size+1)))++[endT s]:=by
  rw[List.map_append,←List.append_assoc]
  congr 1
  unfold endT
  rw[hsl]
  exact congrArg (fun a:Int=>[(⟨0,a,⟨#[]⟩,0⟩:Tkn)]) (show((b.size:Nat):Int)+((a.size+1:Nat):Int)=((a.size+1+b.size:Nat):Int)by omega)
 rw[←e2]
 exact h4
theorem tokAt_app{s u a b:ByteArray}{m l:List Tkn}{d:Nat}(hm:d=l.length):(∀j,j<d→tokAt u (l++m.map (mv (a.size+1))) j=tokAt s l j)∧∀j,Eq3 (tokAt u (l++m.map (mv (a.size+1))) (d+j)) (tokAt b m j):=by
 subst hm
 refine⟨fun j hj=>?_,fun j=>?_⟩
 ·unfold tokAt
  rw[List.getD_eq_getElem?_getD,List.getD_eq_getElem?_getD,List.getElem?_append_left hj,List.getElem?_eq_getElem hj]
  rfl
 ·unfold tokAt
  rw[List.getD_eq_getElem?_getD,List.getD_eq_getElem?_getD,List.getElem?_append_right (by omega),Nat.add_sub_cancel_left,List.getElem?_map]
  cases m[j]?with
  |none=>exact⟨rfl,rfl,rfl⟩
  |some x=>exact⟨rfl,rfl,rfl⟩
theorem concat_parse {a b u : ByteArray} {l m : List Prc} (ha : ParseR a (l, 0, 0)) (hb : ParseR b (m, 0, 0)) (hu : u.data.toList = a.data.toList ++ 10 :: b.data.toList) (hs : u.size ≤ 4000) (hd : ∀ x ∈ l, ∀ y ∈ m, x.x ≠ y.x) : ParseR u (l ++ m, 0, 0) := by
 generalize hr : (l, (0 : Int), (0 : Int)) = r at ha
 generalize hr' : (m, (0 : Int), (0 : Int)) = r' at hb
 cases ha with
 | lex p e h1 h2 => simp at hr; exact absurd hr.2.2.symm h2
 | err acc p c h1 h2 h3 h4 => simp at hr; exact absurd hr.2.2.symm (procs_code h4)
 | ok acc l' s1 h1 h2 h3 =>
 cases hb with
 | lex p e k1 k2 => simp at hr'; exact absurd hr'.2.2.symm k2
 | err acc p c k1 k2 k3 k4 => simp at hr'; exact absurd hr'.2.2.symm (procs_code k4)
 | ok acc' m' s2 k1 k2 k3 =>
  simp only [Prod.mk.injEq, and_true] at hr hr'
  subst hr hr'
  obtain ⟨_, a2⟩ := lex_of h1 rfl
  obtain ⟨_, b2⟩ := lex_of k1 rfl
  have hT := tok_join (x := 0) (y := 0) hu hs a2 b2
  obtain ⟨t1, t2⟩ := tokAt_app (s := a) (u := u) (a := a) (b := b) (m := acc') (l := acc) rfl
  obtain ⟨_, o2⟩ := toks_ord h1
  -- where the first ends
  have hend := procs_end _ _ _ _ _ h3
  have htot := procs_tot h2 fuelP [] ⟨0, 0, []⟩ h2.pos (by have := h2.big; show 20 * (acc.length + 1 - 0) + 13 ≤ 100000; omega)
  rw [h3] at htot
  have hlt : s1.p < acc.length + 1 := htot.2
  have hp1 : s1.p = acc.length := by
   rcases Nat.lt_or_ge s1.p acc.length with h | h
   ·exact absurd hend (o2 _ h).2
   ·omega
  have ho : s1.o = 0 := by
   have := procs_op (T := tokAt a acc) fuelP [] ⟨0, 0, []⟩
   rw [h3] at this
   exact this
  have hll : l.length ≤ acc.length := by
   have := procs_okr (T := tokAt a acc) fuelP [] ⟨0, 0, []⟩
   rw [h3] at this
   have := this.1
   simp at this
   omega
  have hbig := h2.big
  have hbig' := k2.big
  -- the second, with less fuel
  have ntot := procs_tot k2 (fuelP - l.length) [] ⟨0, 0, []⟩ k2.pos (by show 20 * (acc'.length + 1 - 0) + 13 ≤ 100000 - l.length; omega)
  have nout : procsP (tokAt b acc') (fuelP - l.length) [] ⟨0, 0, []⟩ ≠ .out := by intro h; rw [h] at ntot; exact ntot
  have k4 := procs_alike (T := tokAt b acc') (U := tokAt b acc') (fun j => ⟨rfl, rfl, rfl⟩) (show fuelP - l.length ≤ fuelP by omega) [] ⟨0, 0, []⟩ nout
  rw [k3] at k4
  have k5 := procs_more (p0 := l.map Prc.x) _ _ _ _ _ k4.symm (fun c hc hm => by
   obtain ⟨x, hx, e⟩ := List.mem_map.1 hm
   exact hd x hx c hc e)
  have k6 := procs_up (T := tokAt b acc') (U := tokAt u (acc ++ acc'.map (mv (a.size + 1)))) (d := acc.length) (e := s2.p + 1) (fun j _ => t2 j) (fuelP - l.length) (fuelP - l.length) (Nat.le_refl _) (l.map Prc.x ++ []) ⟨0, 0, []⟩
  rw [k5] at k6
  have k7 := k6.eq (by simp) (Nat.le_refl _)
  obtain ⟨s3, k8⟩ := procs_vs k7 s1.vs
  have hs1 : ({ (PS.up acc.length ⟨0, 0, []⟩) with vs := s1.vs } : PS) = s1 := by
   obtain ⟨p, o, vs⟩ := s1
   dsimp only at hp1 ho
   subst hp1 ho
   rfl
  rw [hs1] at k8
  have k9 := procs_cat (T := tokAt a acc) (U := tokAt u (acc ++ acc'.map (mv (a.size + 1)))) (n := acc.length) (fun j hj => by rw [t1 j hj]; exact ⟨rfl, rfl, rfl⟩) fuelP fuelP [] ⟨0, 0, []⟩ l s1 (Nat.le_refl _) h3 (by omega)
  rw [List.nil_append, show l.map Prc.x = l.map Prc.x ++ [] from (List.append_nil _).symm, k8] at k9
  exact .ok _ _ s3 hT (tokN_tok hT) k9
end Go.Proofs.YtjfkkokeegpeiaaDoor
/- The law of Concat. -/
namespace Go.Proofs.YtjfkkokeegpeiaaDoor
open Go Go.Am Go.Proofs.Lx
set_option maxRecDepth 400000
section
variable {n m:Nat} {xs ys ts yt:FS} {pq yq tm ym:FN} {pf yf tf yg:FM} {tk tn yk yn:FI}
theorem cc_l2(x0:a_Concat)(hn:n≤20000)(hm:m≤20000){i:Nat}(hi:i<n):∀q k,k≤m→m<q+k→
 Rs (Concat_l2 (ParseC 40000) (SameW 40000) (SameZ 40000) (Lives 40000) q x0 (n,xs,pq,pf,tk,tn,ts,tm,tf,m,ys,yq,yf,yk,yn,yt,ym,yg,(i:Int),(k:Int))) (fun z=>z= .inl true∨(z= .inr (n,xs,pq,pf,tk,tn,ts,tm,tf,m,ys,yq,yf,yk,yn,yt,ym,yg,(i:Int))∧∀k',k≤k'→k'<m→xs i≠ys k'))
 |0,k,hk,hq=>absurd hq (by omega)
 |q+1,k,hk,hq=>by
  refine Rs.step ?_
  unfold Concat_l2_t
  dsimp only
  by_cases hkm:k<m
  ·refine Rs.pos (by rw[decide_eq_true_eq];omega) (Rs.pos (by omega) (Rs.pos (by omega) ?_))
   rw[Int.toNat_natCast,Int.toNat_natCast]
   refine Rs.ite (fun h=>?_) fun h=>?_
   ·exact Rs.bind (Rs.of (lives_true 40000)) fun z e=>Rs.some (.inl (by rw[e]))
   ·refine Rs.some ?_
    rw[w_succ (by omega)]
    refine(cc_l2 x0 hn hm hi q (k+1) (by omega) (by omega)).mono fun z hz=>hz.imp id fun⟨e,h2⟩=>⟨e,fun k' h3 h4=>?_⟩
    rcases Nat.lt_or_ge k k' with h5|h5
    ·exact h2 k' h5 h4
    ·obtain rfl:k'=k:=by omega
     exact fun he=>h (tl_eq.2 he)
  ·refine Rs.neg (by rw[decide_eq_true_eq];omega) (Rs.some (.inr ⟨rfl,fun k' h3 h4=>by omega⟩))
theorem cc_l0(x0:a_Concat)(hn:n≤20000)(hm:m≤20000){q0:Nat}(hq0:30000≤q0):∀q i,i≤n→n<q+i→
 Rs (lpG (fun y=>Concat_l0_t (ParseC 40000) (SameW 40000) (SameZ 40000) (Lives 40000) (Concat_l2 (ParseC 40000) (SameW 40000) (SameZ 40000) (Lives 40000) q0 x0) x0 y (fun y=>some (.inl y)) (fun z=>some (.inr z))) q (n,xs,pq,pf,tk,tn,ts,tm,tf,m,ys,yq,yf,yk,yn,yt,ym,yg,(i:Int))) (fun z=>z= .inl true∨(z= .inr (n,xs,pq,pf,tk,tn,ts,tm,tf,m,ys,yq,yf,yk,yn,yt,ym,yg)∧∀i',i≤i'→i'<n→∀k',k'<m→xs i'≠ys k'))
 |0,i,hi,hq=>absurd hq (by omega)
 |q+1,i,hi,hq=>by
  refine Rs.step ?_
  unfold Concat_l0_t
  dsimp only
  by_cases hin:i<n
  ·refine Rs.pos (by rw[decide_eq_true_eq];omega) ?_
   refine Rs.bind (cc_l2 x0 hn hm hin q0 0 (Nat.zero_le _) (by omega)) fun z hz=>?_
   rcases hz with rfl| ⟨rfl,h2⟩
   ·exact Rs.some (.inl rfl)
   ·refine Rs.some ?_
    dsimp only
    rw[w_succ (by omega)]
    refine(cc_l0 x0 hn hm hq0 q (i+1) (by omega) (by omega)).mono fun z hz=>hz.imp id fun⟨e,h3⟩=>⟨e,fun i' h4 h5 k' h6=>?_⟩
    rcases Nat.lt_or_ge i i' with h7|h7
    ·exact h3 i' h7 h5 k' h6
    ·obtain rfl:i'=i:=by omega
     exact h2 k' (Nat.zero_le _) h6
  ·refine Rs.neg (by rw[decide_eq_true_eq];omega) (Rs.some (.inr ⟨rfl,fun i' h3 h4=>by omega⟩))
end
def pC(c:Prc):List V:=[st c.x,.ro 2 c.ps.length (fun i=>[st (c.ps.getD i dPm).x,st (c.ps.getD i dPm).u]),i64 (eT c.b).1,i64 (eT c.b).2.1,st (eT c.b).2.2.1,.ro 4 (eT c.b).2.2.2.1 (eT c.b).2.2.2.2]
theorem pX_eq(l:List Prc)(j:Nat):pX l j=pC (l.getD j dC):=rfl
theorem getD_l{l m:List Prc}{j:Nat}(h:j<l.length):(l++m).getD j dC=l.getD j dC:=by
 rw[List.getD_eq_getElem?_getD,List.getD_eq_getElem?_getD,List.getElem?_append_left h]
theorem getD_r{l m:List Prc}{j:Nat}(h:l.length≤j):(l++m).getD j dC=m.getD (j-l.length) dC:=by
 rw[List.getD_eq_getElem?_getD,List.getD_eq_getElem?_getD,List.getElem?_append_right h]
theorem ok_zero{s:ByteArray}{l:List Prc}{p e:Int}(h:ansP s=(l,p,e))(he:e=0):ParseR s (l,0,0):=by
 have hp:=ansP_ok s
 rw[h]at hp
 subst he
 generalize hr:(l,p,(0:Int))=r at hp
 cases hp with
 |lex p e h1 h2=>simp at hr;exact absurd hr.2.2.symm h2
 |err acc p c h1 h2 h3 h4=>simp at hr;exact absurd hr.2.2.symm (procs_code h4)
 |ok acc l' s' h1 h2 h3=>
  simp only[Prod.mk.injEq,and_true]at hr
  rw[hr.1]
  exact .ok acc l' s' h1 h2 h3
theorem ok_size{s:ByteArray}{l:List Prc}(h:ParseR s (l,0,0)):s.size≤4000:=by
 generalize hr:(l,(0:Int),(0:Int))=r at h
 cases h with
 |lex p e h1 h2=>simp at hr;exact absurd hr.2.2.symm h2
 |err acc p c h1 h2 h3 h4=>simp at hr;exact absurd hr.2.2.symm (procs_code h4)
 |ok acc l' s' h1 h2 h3=>exact(lex_of h1 rfl).1
theorem parseC_eq{s:ByteArray}{l:List Prc}(h:ParseR s (l,0,0)):ParseC 40000 s=some (l.length,cX l,cQ l,cN l,cU l,(fun j=>(cT l j).1),(fun j=>(cT l j).2.1),(fun j=>(cT l j).2.2.1),(fun j=>(cT l j).2.2.2.1),(fun j=>(cT l j).2.2.2.2),0,0):=by
 unfold ParseC
 rw[ansP_eq h]
theorem concat_true(s t:ByteArray):Concat 40000 (s,t)=some true:=by
 refine Rs.eq ?_
 unfold Concat t_Concat
 have hl:Rs (Lives 40000 ()) (fun z=>z=true):=Rs.of (lives_true 40000)
 obtain⟨l,p,e,hs⟩:∃l p e,ansP s=(l,p,e):=⟨_,_,_,rfl⟩
 obtain⟨m,p',e',ht⟩:∃l p e,ansP t=(l,p,e):=⟨_,_,_,rfl⟩
 refine Rs.bind (Rs.of (show ParseC 40000 s=some (l.length,cX l,cQ l,cN l,cU l,(fun j=>(cT l j).1),(fun j=>(cT l j).2.1),(fun j=>(cT l j).2.2.1),(fun j=>(cT l j).2.2.2.1),(fun j=>(cT l j).2.2.2.2),p,e)by unfold ParseC;rw[hs])) fun z ez=>?_
 subst ez
 refine Rs.bind (Rs.of (show ParseC 40000 t=some (m.length,cX m,cQ m,cN m,cU m,(fun j=>(cT m j).1),(fun j=>(cT m j).2.1),(fun j=>(cT m j).2.2.1),(fun j=>(cT m j).2.2.2.1),(fun j=>(cT m j).2.2.2.2),p',e')by unfold ParseC;rw[ht])) fun z ez=>?_
 subst ez
 refine Rs.ite (fun _=>Rs.bind hl fun z e=>Rs.some e) fun h1=>Rs.ite (fun _=>Rs.bind hl fun z e=>Rs.some e) fun h2=>Rs.ite (fun _=>Rs.bind hl fun z e=>Rs.some e) fun h3=>?_
 have ha:=ok_zero hs (by simpa using h1)
 have hb:=ok_zero ht (by simpa using h2)
 have za:=ok_size ha
 have zb:=ok_size hb
 have ba:l.length≤20000∧_:=parse_small ha
 have bb:m.length≤20000∧_:=parse_small hb
 have hz:s.size+t.size+1≤4000:=by
  dsimp only at h3
  rw[w_in (n:=(s.size:Int)+(t.size:Int)) (by omega) (by omega),w_in (by omega) (by omega)]at h3
  simp at h3
  omega
 have hul:(s++(⟨#[10]⟩:ByteArray)++t).data.toList=s.data.toList++10::t.data.toList:=by simp[ByteArray.data_append]
 have hus:(s++(⟨#[10]⟩:ByteArray)++t).size≤4000:=by
  rw[ByteArray.size_append,ByteArray.size_append]
  show s.size+1+t.size≤4000
  omega
 have hs1:(s++(⟨#[10]⟩:ByteArray)).size=s.size+1:=by rw[ByteArray.size_append];rfl
 refine Rs.bind (cc_l0 (n:=l.length) (m:=m.length) (s,t) ba.1 bb.1 (q0:=40000) (by decide) 40000 0 (Nat.zero_le _) (by have:=ba.1;omega)) fun z hz=>?_
 rcases hz with rfl| ⟨rfl,hd⟩
 ·exact Rs.some rfl
 have hd':∀x∈l,∀y∈m,x.x≠y.x:=by
  intro x hx y hy
  obtain⟨i,hi,rfl⟩:=List.getElem_of_mem hx
  obtain⟨k,hk,rfl⟩:=List.getElem_of_mem hy
  have:=hd i (Nat.zero_le _) hi k hk
  dsimp only at this
  unfold cX at this
  rwa [List.getD_eq_getElem?_getD,List.getD_eq_getElem?_getD,List.getElem?_eq_getElem hi,List.getElem?_eq_getElem hk]at this
 have hP:=concat_parse ha hb hul hus hd'
 have bP:=parse_small hP
 have hpc:=parseC_eq hP
 generalize hu:s++(⟨#[10]⟩:ByteArray)++t=u at hP hpc
 have tyl:∀(f:Nat→List V),(∀j,j< (l++m).length→f j=pX (l++m) j)→tyX (l++m).length f (l++m):=fun f hf=>⟨rfl,fun j hj=>hf j hj▸LeL.refl _⟩
 have hfin:∀(f g:Nat→List V) (k:Nat),k=(l++m).length→(∀j,j< (l++m).length→f j=pX (l++m) j)→(∀j,j< (l++m).length→g j=pX (l++m) j)→Rs (SameW 40000 ((l++m).length,f,k,g)) (fun z=>z=true):=fun f g k hk hf hg=>by
  subst hk
  exact Rs.of (if_pos ⟨l++m,tyl f hf,tyl g hg,bP.1,bP.2⟩)
 dsimp only
 rw[hpc]
 dsimp only[Option.bind_some]
 have b1:=ba.1
 have b2:=bb.1
 have bm:m.length*96≤roomBound∧m.length≤maxLen:=⟨by unfold roomBound;omega,by unfold maxLen;omega⟩
 have bl:l.length*96≤roomBound∧l.length≤maxLen:=⟨by unfold roomBound;omega,by unfold maxLen;omega⟩
 have blm:(l.length+m.length)*96≤roomBound∧l.length+m.length≤maxLen∧l.length≤l.length:=⟨by unfold roomBound;omega,by unfold maxLen;omega,Nat.le_refl _⟩
 have z1:s.size+1≤maxLen:=by unfold maxLen;omega
 have z2:(s++(⟨#[10]⟩:ByteArray)).size+t.size≤maxLen:=by rw[hs1];unfold maxLen;omega
 refine Rs.ite (fun h5=>Rs.ite (fun h6=>?_) fun h6=>?_) fun h5=>?_
 ·refine Rs.pos z1 (Rs.pos z2 ?_)
  have hlm:(l++m).length=0:=by rw[List.length_append];have h5':l.length=0:=h5;have h6':m.length=0:=h6;omega
  refine Rs.pos rfl (Rs.bind (Rs.of (show SameZ 40000 ((l++m).length,_)=some true from if_pos hlm)) fun z e=>?_)
  subst e
  exact Rs.pos rfl (Rs.bind hl fun z e=>Rs.some e)
 ·refine Rs.pos bm (Rs.pos z1 (Rs.pos z2 ?_))
  have hln:l=[]:=List.length_eq_zero_iff.1 h5
  refine Rs.pos rfl (Rs.pos ⟨Nat.le_of_eq (Nat.zero_add _),rfl⟩ (Rs.bind (hfin _ _ _ (by rw[hln];rfl) (fun j hj=>rfl) fun j hj=>?_) fun z e=>?_))
  ·subst hln
   rw[Nat.zero_add]
   rfl
  ·subst e
   exact Rs.pos rfl (Rs.bind hl fun z e=>Rs.some e)
 ·refine Rs.pos bl (Rs.pos blm (Rs.pos z1 (Rs.pos z2 ?_)))
  refine Rs.pos rfl (Rs.pos ⟨Nat.le_of_eq (Nat.zero_add _),rfl⟩ (Rs.bind (hfin _ _ _ (List.length_append).symm (fun j hj=>rfl) fun j hj=>?_) fun z e=>?_))
  ·rw[pX_eq]
   dsimp only
   simp only[Nat.zero_add]
   rcases Nat.lt_or_ge j l.length with h7|h7
   ·simp only[if_pos h7]
    rw[getD_l h7]
    rfl
   ·simp only[if_neg (Nat.not_lt.2 h7)]
    rw[getD_r h7]
    rfl
  ·subst e
   exact Rs.pos rfl (Rs.bind hl fun z e=>Rs.some e)
theorem law_concat(s t:ByteArray):SC E5 6 [st s,st t] [] (.ret (bo true) []):=sc_Concat 40000 (s,t) true (concat_true s t)
theorem parserConcat(v0 v1:V)(h0:WTV E.P 9 v0)(h1:WTV E.P 9 v1):∃l',LeL [v0,v1] l'∧SC E 6 l' [] (.ret (bo true) []):=by
 obtain⟨s,rfl,_⟩:=h0.str (by kernel_rfl) (by kernel_rfl)
 obtain⟨t,rfl,_⟩:=h1.str (by kernel_rfl) (by kernel_rfl)
 exact⟨[st s,st t],LeL.refl _,sc5.1 (law_concat s t)⟩
end Go.Proofs.YtjfkkokeegpeiaaDoor

