/- Texts joined. -/
import Derived.Test.YtjfkkokeegpeiaaDoorQG
import Derived.Test.YtjfkkokeegpeiaaDoorQF
import Derived.Test.YtjfkkokeegpeiaaDoorQC
/- ek5 of the program: the text of procedures. -/
set_option linter.unusedSimpArgs false
set_option linter.unusedVariables false
namespace Go.Proofs.YtjfkkokeegpeiaaDoor
open Go Go.Am Go.Proofs.Lx
set_option maxRecDepth 100000
abbrev bProc:ByteArray:=⟨#[112,114,111,99,101,100,117,114,101,32]⟩
def hdL(c:Prc):List UInt8:=bProc.data.toList++(c.x.data.toList++(40::(cK c.ps++[41,32,123,10])))
theorem fn1{q:Nat}{c:Prc}{t:ByteArray}{b:List UInt8}{z:Nat×FI}(hq:5<q)(ht:t=mkB (cK c.ps))(hz:RB b z)(hl:b.length+(hdL c).length<=1000000000):
 Rs (gM q (0,5,λj=>if j=0 then⟨#[112,114,111,99,101,100,117,114,101,32]⟩else if j-1=0 then c.x else if j-1-1=0 then⟨#[40]⟩else if j-1-1-1=0 then t else⟨#[41,32,123]⟩,z)) (λy=>RB (b++hdL c) y.2.2):=by
 subst ht;exact ln5 (i:=0) hq (by omega) rfl rfl rfl rfl rfl hz (by simp[hdL,j5,mkB]) hl
theorem en4{q:Nat}{c:Prc}{t:ByteArray}(ht:t=mkB (cK c.ps))(hl:(hdL c).length<=1000000000):Rs (wV q (c.x,t)) (λy=>RB (hdL c) (y.1,y.2.2)):=by
 subst ht;have s0:bProc.data.toList.length=10:=rfl;have s1:c.x.data.toList.length=c.x.size:=eD _;have s2:(⟨#[40]⟩:ByteArray).data.toList.length=1:=rfl;have s3:(mkB (cK c.ps)).data.toList.length=(cK c.ps).length:=by rw[m4]
 have s4:(⟨#[41,32,123]⟩:ByteArray).data.toList.length=3:=rfl
 have hlen:(hdL c).length=10+(c.x.size+((cK c.ps).length+(0+1+1+1+1)+1)):=by
  unfold hdL;simp only[List.length_append,List.length_cons,List.length_nil,s1,s0]
 unfold wV aw1;refine Rs.bind (Rs.of rfl) λz0 _=>Rs.bind (P:=λ_=>True) ⟨_,rfl,trivial⟩ λz1 _=>?_
 have hN:Rs (WSN q ()) (λy=>RB bProc.data.toList y.2):=by
  refine⟨_,rfl,rfl,λj hj=>rfl⟩
 refine Rs.bind hN λz2 h2=>?_;refine Rs.bind (cy6 q (s:=c.x) (z:=z2.2) h2 (by rw[s0];omega)) λz6 h6=>?_;refine Rs.bind (cy6 q (s:=⟨#[40]⟩) (z:=z6.2) h6 (by rw[List.length_append,s0,s1];show 10+c.x.size+1<=_;omega)) λz10 h10=>?_;refine Rs.bind (cy6 q (s:=mkB (cK c.ps)) (z:=z10.2) h10 (by rw[List.length_append,List.length_append,s0,s1,s2,b9];omega)) λz14 h14=>?_;refine Rs.bind (cy6 q (s:=⟨#[41,32,123]⟩) (z:=z14.2) h14 (by rw[List.length_append,List.length_append,List.length_append,s0,s1,s2,s3];show 10+c.x.size+1+_+3<=_;omega)) λz18 h18=>?_;refine Rs.bind (ho9 q (z:=z18.2) h18 (by rw[List.length_append,List.length_append,List.length_append,List.length_append,s0,s1,s2,s3,s4];omega)) λz22 h22=>Rs.some ?_;have e:bProc.data.toList++c.x.data.toList++(⟨#[40]⟩:ByteArray).data.toList++(mkB (cK c.ps)).data.toList++(⟨#[41,32,123]⟩:ByteArray).data.toList++[10]=hdL c:=by simp[hdL,mkB]
 rw[e]at h22;exact h22
theorem fi5{ps:List Prm}{g:FS}(hg:∀j (h:j<ps.length),g j=ay7 ps[j])(hl:(cK ps).length<=1000000000)(hn:ps.length<=1000)(q:Nat):Join q (ps.length,λj=>g (0+j),⟨#[44,32]⟩)=some (mkB (cK ps)):=by
 have e:(List.range ps.length).map (λj=>g (0+j))=ps.map ay7:=by
  apply List.ext_getElem
  ·simp
  ·intro j h1 h2;simp only[List.length_map,List.length_range]at h1;rw[List.getElem_map,List.getElem_map,List.getElem_range,Nat.zero_add];exact hg j h1
 have e2:Lib.join (((List.range ps.length).map (λj=>g (0+j))).map (·.data.toList)) (⟨#[44,32]⟩:ByteArray).data.toList=cK ps:=by
  rw[e,List.map_map];exact fz8 ps
 unfold Join;show(if(Lib.join (((List.range ps.length).map (λj=>g (0+j))).map (·.data.toList)) (⟨#[44,32]⟩:ByteArray).data.toList).length<=140737488355328/\ps.length<=140737488355328 then some (mkB (Lib.join (((List.range ps.length).map (λj=>g (0+j))).map (·.data.toList)) (⟨#[44,32]⟩:ByteArray).data.toList))else none)=_;rw[e2,if_pos ⟨by omega,by omega⟩]
theorem bj9{q:Nat}{c:Prc}{x:List UInt8}{l:List Tkn}(h:PrP c x l)(hq:3*szT c.b+30<=q)(hs:szT c.b<=1000000){b0:List UInt8}{z:Nat×FI}(hz:RB (b0++hdL c) z)(hl:b0.length+x.length<=1000000000):
 Rs (pbk q ((eT c.b).1,(eT c.b).2.1,(eT c.b).2.2.1,(eT c.b).2.2.2.1,(eT c.b).2.2.2.2,0,z)) (λz=>Rs (gM q (0,1,λj=>⟨#[125]⟩,z)) (λy=>RB (b0++x) y.2.2)):=by
 obtain⟨_,hm,ys,xy,ly,dy,vy,hS,hb,hd,hv1,hv2,hx,rfl⟩:=h
 have hx2:x=hdL c++(xy++[125,10]):=by
  rw[hx];unfold hdL bL;simp
 rw[hb]at hq hs⊢;simp only[szT]at hq hs;have hlx:x.length=(hdL c).length+(xy.length+2):=by rw[hx2,List.length_append,List.length_append];rfl
 have hp:=ht7 hS (by omega);have e1:((eT (.node 14 0 ⟨#[]⟩ ys)).1,(eT (.node 14 0 ⟨#[]⟩ ys)).2.1,(eT (.node 14 0 ⟨#[]⟩ ys)).2.2.1,(eT (.node 14 0 ⟨#[]⟩ ys)).2.2.2.1,(eT (.node 14 0 ⟨#[]⟩ ys)).2.2.2.2,(0:Int),z)=aS (.node 14 0 ⟨#[]⟩ ys) 0 z:=rfl;rw[e1];refine(cq0 hp (by omega) hz (by rw[List.length_append];omega) (by omega) 14 0 ⟨#[]⟩).mono λz2 h2=>?_;refine(ln1 (i:=0) (x:=[125,10]) (by omega) (by omega) rfl h2 rfl (by rw[List.length_append,List.length_append];show _+2<=_;omega)).mono λz3 h3=>?_;rw[hx2];have e:b0++hdL c++xy++[125,10]=b0++(hdL c++(xy++[125,10])):=by simp
 rw[e]at h3;exact h3
theorem gs6{c:Prc}{x:List UInt8}{l:List Tkn}(h:PrP c x l):(hdL c).length<=x.length/\(cK c.ps).length<=x.length/\c.ps.length<=12:=by
 obtain⟨_,hm,ys,xy,ly,dy,vy,hS,hb,hd,hv1,hv2,hx,rfl⟩:=h
 have hx2:x=hdL c++(xy++[125,10]):=by
  rw[hx];unfold hdL bL;simp
 refine⟨by rw[hx2,List.length_append];omega,?_,?_⟩
 ·rw[hx];simp only[List.length_append,List.length_cons];omega
 ·rw[List.length_append,List.length_map]at hv2;omega
def bc1(cs:List Prc):i6:=(cs.length,cX cs,cQ cs,cN cs,cU cs,λj=>(cT cs j).1,λj=>(cT cs j).2.1,λj=>(cT cs j).2.2.1,λj=>(cT cs j).2.2.2.1,λj=>(cT cs j).2.2.2.2)
theorem hd3{cs:List Prc}{i:Nat}{c:Prc}(h:cs[i]? =some c):cX cs i=c.x/\cQ cs i=c.ps.length/\(∀j (h:j<c.ps.length),cN cs i j=c.ps[j].x)/\(∀j (h:j<c.ps.length),cU cs i j=c.ps[j].u)/\cT cs i=eT c.b:=by
 have e:cs.getD i dC=c:=by rw[List.getD_eq_getElem?_getD,h];rfl
 unfold cX cQ cN cU cT;rw[e];refine⟨rfl,rfl,λj h=>?_,λj h=>?_,rfl⟩<;>(rw[List.getD_eq_getElem?_getD,List.getElem?_eq_getElem h];rfl)
noncomputable def cx6(q Q0:Nat)(x:i6):dW->Option (dW⊕qH):=Sum.elim (λy=>jP (Join q) (zZ q) (wV q) (gM q) (pbk q) (String q) (kE q) (gN (Join q) (zZ q) (wV q) (gM q) (pbk q) (String q) (kE q) Q0 x) (x9 (Join q) (zZ q) (wV q) (gM q) (pbk q) (String q) (kE q) Q0 x) x y (λy=>some (.inl y)) (λz=>some (.inr z))) (λy=>eV (Join q) (zZ q) (wV q) (gM q) (pbk q) (String q) (kE q) (gN (Join q) (zZ q) (wV q) (gM q) (pbk q) (String q) (kE q) Q0 x) (x9 (Join q) (zZ q) (wV q) (gM q) (pbk q) (String q) (kE q) Q0 x) x y (λy=>some (.inl y)) (λz=>some (.inr z)))
theorem er6{q Q0:Nat}(cs0:List Prc)(hq:∀c∈cs0,3*szT c.b+30<=q/\szT c.b<=1000000)(hq0:30<=q)(hQ:20<=Q0)(hn:cs0.length<=10000){cs:List Prc}{x:List UInt8}{l:List Tkn}(h:PrPs cs x l):∀(q2 i:Nat) (b:List UInt8) (z:Nat×FI),cs.length<q2->cs0.drop i=cs->i<=cs0.length->RB b z->b.length+x.length<=1000000000->
 Rs (lpG (cx6 q Q0 (bc1 cs0)) q2 (.inr (z.1,z.2,(i:Int)))) (λy=>∃z,y= .inr z/\RB (b++x) z):=by
 induction h with
 |nil=>
  intro q2 i b z hlt hd hi hz hl;obtain⟨q2,rfl⟩:∃q',q2=q'+1:=⟨q2-1,by simp at hlt;omega⟩;have:cs0.length<=i:=List.drop_eq_nil_iff.1 hd;refine Rs.step ?_;dsimp only[cx6,Sum.elim];unfold eV;dsimp only[bc1];refine Rs.neg (λh=>by have:=of_decide_eq_true h;omega) (Rs.some ⟨z,rfl,?_⟩);rw[List.append_nil];exact hz
 |cons c cs x l xs ls hP _ ih=>
  intro q2 i b z hlt hd hi hz hl;obtain⟨q2,rfl⟩:∃q',q2=q'+1:=⟨q2-1,by simp at hlt;omega⟩;rw[List.length_append]at hl
  have hc:cs0[i]? =some c:=by
   have:(cs0.drop i)[0]? =some c:=by rw[hd];rfl
   rw[List.getElem?_drop]at this;simpa using this
  obtain⟨hil,hci⟩:=List.getElem?_eq_some_iff.1 hc
  have hd2:cs0.drop (i+1)=cs:=by
   have:(cs0.drop i).drop 1=cs:=by rw[hd];rfl
   rw[List.drop_drop]at this;exact this
  obtain⟨eX,eQ,eN,eU,eT'⟩:=hd3 hc;obtain⟨k1,k2,k3⟩:=gs6 hP;have hmem:c∈cs0:=by rw[<-hci];exact List.getElem_mem hil
  obtain⟨s1,s2⟩:=hq c hmem;refine Rs.step3 λQ hQ2=>?_;dsimp only[cx6,Sum.elim];unfold eV;dsimp only[bc1];refine Rs.pos (decide_eq_true (by omega)) (Rs.pos ⟨by omega,by omega⟩ ?_);rw[Int.toNat_natCast,eX,eQ,eT'];refine Rs.bind (ib3 _ _ _ _ _ _ _ _ hP.pm k3 (i:Int) (cN cs0 i) (cU cs0 i) z.1 z.2 c.x _ _ _ _ _ eN eU hQ) λy hy=>?_;rcases hy with⟨e,rfl⟩ | ⟨g,rfl,hg⟩
  ·dsimp only[Sum.elim];refine Rs.bind (Rs.of rfl) λ_ _=>?_;refine Rs.bind (fn1 (c:=c) (t:=⟨#[]⟩) (z:=(z.1,z.2)) (by omega) (by rw[e];rfl) hz (by omega)) λy1 h1=>?_;refine Rs.bind (bj9 hP s1 s2 h1 (by omega)) λy2 h2=>?_;refine Rs.bind h2 λy3 h3=>Rs.some (hQ2 _ ?_);rw[s9 (by omega),<-List.append_assoc];exact ih q2 (i+1) (b++x) (y3.2.2.1,y3.2.2.2) (by simp at hlt;omega) hd2 hil h3 (by rw[List.length_append];omega)
  ·dsimp only[Sum.elim];refine Rs.pos ⟨by omega,rfl⟩ ?_;refine Rs.bind (Rs.of (fi5 hg (by omega) (by omega) q)) λt ht=>?_;refine Rs.bind (fn1 (c:=c) (t:=t) (z:=(z.1,z.2)) (by omega) ht hz (by omega)) λy1 h1=>?_;refine Rs.bind (bj9 hP s1 s2 h1 (by omega)) λy2 h2=>?_;refine Rs.bind h2 λy3 h3=>Rs.some (hQ2 _ ?_);rw[s9 (by omega),<-List.append_assoc];exact ih q2 (i+1) (b++x) (y3.2.2.1,y3.2.2.2) (by simp at hlt;omega) hd2 hil h3 (by rw[List.length_append];omega)
theorem ga5{b:List UInt8}{z:Nat×FI}(h:RB b z):am5 z.1 z.2=b:=by
 obtain⟨h1,h2⟩:=h;unfold am5;rw[h1];apply List.ext_getElem
 ·simp
 ·intro j g1 g2;rw[List.getElem_map,List.getElem_range,h2 j g2,List.getD_eq_getElem?_getD,List.getElem?_eq_getElem g2];simp
theorem gk2{cs:List Prc}{x:List UInt8}{l:List Tkn}(h:PrPs cs x l){q:Nat}(hq:∀c∈cs,3*szT c.b+30<=q/\szT c.b<=1000000)(hn:cs.length+30<=q)(hn2:cs.length<=10000)(hl:x.length<=1000000000):ek5 q (bc1 cs)=some (mkB x):=by
 refine Rs.eq ?_;unfold ek5 as1
 have hloop:Rs (bl8 (Join q) (zZ q) (wV q) (gM q) (pbk q) (String q) (kE q) q (bc1 cs) (.inl ())) (λy=>(x=[]/\y= .inl ())\/∃z,y= .inr z/\RB x z/\0<x.length):=by
  show Rs (lpG (cx6 q q (bc1 cs)) q (.inl ())) _;obtain⟨q2,rfl⟩:∃q',q=q'+1:=⟨q-1,by omega⟩;refine Rs.step3 λQ hQ2=>?_;dsimp only[cx6,Sum.elim];unfold jP;dsimp only[bc1];cases h with
  |nil=>exact Rs.neg (by decide) (Rs.some (.inl ⟨rfl,rfl⟩))
  |cons c cs x l xs ls hP hPs=>
   obtain⟨eX,eQ,eN,eU,eT'⟩:=hd3 (cs:=c::cs) (i:=0) rfl;obtain⟨k1,k2,k3⟩:=gs6 hP;rw[List.length_append]at hl;obtain⟨s1,s2⟩:=hq c (by simp);refine Rs.pos (decide_eq_true (by rw[List.length_cons];omega)) (Rs.pos ⟨by omega,by rw[List.length_cons];omega⟩ ?_);rw[eX,eT']
   have hxl:0<x.length:=by
    have:0< (hdL c).length:=by unfold hdL;simp
    omega
   have fin:∀z:Nat×FI,RB x z->Rs (lpG (cx6 (q2+1) (q2+1) (bc1 (c::cs))) q2 (.inr (z.1,z.2,((1:Nat):Int)))) (λy=>(x++xs=[]/\y= .inl ())\/∃z,y= .inr z/\RB (x++xs) z/\0< (x++xs).length):=by
    intro z hz;refine(er6 (c::cs) hq (by omega) (by omega) hn2 hPs q2 1 x z (by simp only[List.length_cons]at hn;omega) rfl (by simp) hz (by omega)).mono ?_;rintro y ⟨z,rfl,h2⟩;exact .inr ⟨z,rfl,h2,by rw[List.length_append];omega⟩
   refine Rs.bind (ii9 _ _ _ _ _ _ _ (bc1 (c::cs)) hP.pm k3 eQ eN eU (q:=q2+1) (by omega)) λy hy=>?_;rcases hy with⟨e,rfl⟩ | ⟨g,rfl,hg⟩
   ·dsimp only[Sum.elim];refine Rs.bind (Rs.of rfl) λ_ _=>?_;refine Rs.bind (en4 (c:=c) (t:=⟨#[]⟩) (by rw[e];rfl) (by omega)) λy1 h1=>?_;refine Rs.bind (bj9 hP s1 s2 (b0:=[]) h1 (by simp;omega)) λy2 h2=>?_;exact Rs.bind h2 λy3 h3=>Rs.some (hQ2 _ (fin _ h3))
   ·dsimp only[Sum.elim];refine Rs.pos ⟨by omega,rfl⟩ ?_;refine Rs.bind (Rs.of (fi5 hg (by omega) (by omega) (q2+1))) λt ht=>?_;refine Rs.bind (en4 (c:=c) (t:=t) ht (by omega)) λy1 h1=>?_;refine Rs.bind (bj9 hP s1 s2 (b0:=[]) h1 (by simp;omega)) λy2 h2=>?_;exact Rs.bind h2 λy3 h3=>Rs.some (hQ2 _ (fin _ h3))
 refine Rs.bind hloop λy hy=>?_;rcases hy with⟨rfl,rfl⟩ | ⟨z,rfl,h1,h2⟩
 ·dsimp only[Sum.elim];exact Rs.bind (Rs.of rfl) λ_ _=>Rs.some rfl
 ·dsimp only[Sum.elim];refine Rs.bind (P:=λt=>t=mkB x) ?_ λt ht=>Rs.some ht;unfold String;refine Rs.pos ⟨by rw[h1.1];exact h2,λj hj=>?_⟩ (Rs.some (by rw[ga5 h1];rfl));rw[h1.2 j (by rw[<-h1.1];exact hj)];have:=(x.getD j 0).toNat_lt;omega
end Go.Proofs.YtjfkkokeegpeiaaDoor
/- Plain: what is read can be printed: expressions. -/
namespace Go.Proofs.Lx
open Go Go.Proofs.YtjfkkokeegpeiaaDoor
set_option maxRecDepth 100000
theorem ix6{s:ByteArray}{p:Nat}{x:Tkn}(hp:p<s.size)(h:wM s p=(x,0)):x.k=1->bx0 x.t:=by
 by_cases h1:p8 ((s.get! p).toNat:Int)=true
 ·rw[bn7 h1]at h;unfold by5 at h;split at h
  ·cases h
  ·rename_i h12;cases h;intro _;have hw:=ch5 aE (s.extract p s.size);have hl:=Go.Proofs.YtjfkkokeegpeiaaDoor.span_len aE (s.extract p s.size);refine⟨?_,?_⟩
   ·simp only[ByteArray.size_extract]at*;omega
   ·have hd:(s.extract p s.size).data.toList=s.get! p::s.data.toList.drop (p+1):=by
     rw[an2 s p (by omega),iS s p hp]
    have hsp:j6 aE (s.extract p s.size).data.toList=j6 aE (s.data.toList.drop (p+1))+1:=by
     rw[hd];have hw1:aE ((s.get! p).toNat:Int)=true:=by unfold aE;rw[h1];rfl
     show(List.takeWhile (λb=>aE b.toNat) (s.get! p::List.drop (p+1) s.data.toList)).length=_;rw[List.takeWhile_cons_of_pos (p:=λb:UInt8=>aE b.toNat) hw1];rfl
    have e:((s.extract p s.size).extract 0 (j6 aE (s.extract p s.size).data.toList)).data.toList=s.get! p::(s.data.toList.drop (p+1)).take (j6 aE (s.data.toList.drop (p+1))):=by
     rw[hsp,dM,hd];simp only[List.drop_zero,Nat.sub_zero,List.take_succ_cons]
    refine⟨_,_,e,h1,?_⟩;rw[<-e];exact hw
 ·by_cases h2:l6 ((s.get! p).toNat:Int)=true
  ·rw[ck4 h1 h2]at h;unfold rO at h;split at h
   ·cases h
   ·split at h
    ·cases h
    ·cases h;exact λh=>absurd h (show¬(2:Int)=1 by decide)
  ·rw[cj1 h1 h2]at h;unfold lD at h;split at h
   ·cases h
   ·cases h;exact λh=>absurd h (show¬(3:Int)=1 by decide)
theorem jb5{s:ByteArray}{p:Nat}{acc:List Tkn}{r:List Tkn×Nat×Int}(h:Lex s p acc r):(∀x∈acc,x.k=1->bx0 x.t)->∀x∈r.1,x.k=1->bx0 x.t:=by
 induction h with
 |fin _=>
  intro ha x hx;rcases List.mem_append.1 hx with h|h
  ·exact ha x h
  ·simp only[List.mem_singleton]at h;subst h;exact λh=>absurd h (show¬(0:Int)=1 by decide)
 |white _ _ _ ih=>exact ih
 |hash _ _ _ ih=>exact ih
 |tok h1 h2 h3 h4 _ ih=>
  intro ha;refine ih λx hx=>?_;rcases List.mem_append.1 hx with h|h
  ·exact ha x h
  ·simp only[List.mem_singleton]at h;subst h;have:=ix6 h1 h4;exact λhk=>this hk
 |err _ _ _ _ _=>intro _ x hx;cases hx
theorem jg3{s:ByteArray}(h:j8 s≠0):s∈cs5:=by
 unfold j8 at h;unfold cs5;simp only[List.mem_cons,List.not_mem_nil,or_false];split at h
 ·exact .inl ‹_›
 split at h
 ·exact .inr (.inl ‹_›)
 split at h
 ·rename_i e;rcases e with e|e|e|e|e|e<;>subst e<;>decide
 split at h
 ·rename_i e;rcases e with e|e<;>subst e<;>decide
 split at h
 ·rename_i e;rcases e with e|e<;>subst e<;>decide
 ·exact absurd rfl h
theorem iq7{a b:Nat}(h:a<=b)(t:Tr)(d:Nat):df3 a t d<=df3 b t d:=by
 unfold df3;split<;>split<;>omega
theorem jf8(a:Nat)(t:Tr)(d:Nat):df3 a t d<=d+1:=by
 unfold df3;split<;>omega
theorem io2{a:Nat}{t:Tr}(h:a<=lvT t)(d:Nat):df3 a t d=d:=by
 unfold df3;rw[if_neg (by omega)]
theorem jc0{t:Tr}{x:List UInt8}{l:List Tkn}{d:Nat}(h:Pr t x l d):1<=lvT t:=by
 cases h with
 |lit n _ _=>exact(by decide:1<=8)
 |qty n s _ _ _=>exact(by decide:1<=8)
 |yes=>exact(by decide:1<=8)
 |no=>exact(by decide:1<=8)
 |var s _ _=>exact(by decide:1<=8)
 |tlm s _ _=>exact(by decide:1<=8)
 |un s a x l d hs _=>
  show 1<=(if s=oH then 3 else 7);split<;>omega
 |bin s a b x y l m d e hs _ _=>
  show 1<=j8 s;have:=(aq2 s hs).2;omega
section
variable {T:Nat->Tkn}
theorem io7(b:ByteArray)(s:PS):Okr (λ_ s'=>s'=adv s) (y7 T b s):=Okr.ite (λ_=>rfl) λ_=>trivial
theorem iv4(b:ByteArray){s:PS}(h:s.o<=12):Okr (λ_ s'=>s'.o=s.o+1/\s'.o<=12/\s'.vs=s.vs) (eG T b s):=
 Okr.ite (λ_=>Okr.ite (λ_=>trivial) λh2=>⟨rfl,by show s.o+1<=12;omega,rfl⟩) λ_=>trivial
theorem is4(hW:∀j,(T j).k=1->bx0 (T j).t)(s:PS):Okr (λx s'=>s'=adv s/\am8 x) (fD T s):=
 Okr.ite (λ_=>trivial) λh=>by
  have h1:(T s.p).k=1:=Decidable.byContradiction λe=>h (.inl e);exact⟨rfl,by cases e:io4 (T s.p).t with|true=>exact absurd (.inr e) h|false=>rfl,hW _ h1⟩
theorem ja6(lo hi:Int)(s:PS):Okr (λn s'=>s'=adv s/\lo<=n/\n<=hi) (tB T lo hi s):=
 Okr.ite (λ_=>trivial) λ_=>Okr.ite (λ_=>trivial) λh=>⟨rfl,by omega,by omega⟩
def ji5(s:PS)(t:Tr)(s':PS):Prop:=s'.o=s.o/\s'.vs=s.vs/\∃n u x l,t= .node 15 n u []/\Pr t x l 0
theorem iy9(s:PS):Okr (ji5 s) (tA T s):=
 (ja6 _ _ s).bind λn s1 h=>by
  obtain⟨rfl,h0,h1⟩:=h;exact Okr.ite (λh=>⟨rfl,rfl,n,_,_,_,rfl,.qty n _ h0 h1 (inP_iff.1 h.2)⟩) λ_=>⟨rfl,rfl,n,_,_,_,rfl,.lit n h0 h1⟩
def Gx(s:PS)(lv:Nat)(t:Tr)(s':PS):Prop:=s'.o=s.o/\s'.vs=s.vs/\∃x l d,Pr t x l d/\s.o+df3 lv t d<=12
theorem Gx.of{s s1 s':PS}{lv lv':Nat}{t:Tr}(h:Gx s1 lv' t s')(ho:s1.o=s.o)(hv:s1.vs=s.vs)(hl:lv<=lv'):Gx s lv t s':=by
 obtain⟨h1,h2,x,l,d,h3,h4⟩:=h;have:=iq7 hl t d;exact⟨h1.trans ho,h2.trans hv,x,l,d,h3,by omega⟩
theorem jh4(hW:∀j,(T j).k=1->bx0 (T j).t):∀f,(∀lv s,1<=lv->lv<=8->s.o<=12->Okr (Gx s lv) (o9 T f lv s))/\
 (∀lv n s x l d,1<=lv->lv<=8->s.o<=12->Pr n x l d->s.o+df3 (if lv=4 then 5 else lv) n d<=12->Okr (Gx s lv) (mP T f lv n s))/\
 (∀w lv s,(w=oH/\lv=3)\/(w=sW/\lv=7)->s.o<=12->Okr (Gx s lv) (fQ T f w lv s))/\(∀s,s.o<=12->Okr (Gx s 8) (jX T f s)):=by
 intro f
 induction f with
 |zero=>exact⟨λ_ _ _ _ _=>by rw[o9];trivial,λ_ _ _ _ _ _ _ _ _ _ _=>by rw[mP];trivial,λ_ _ _ _ _=>by rw[fQ];trivial,λ_ _=>by rw[jX];trivial⟩
 |succ f ih=>
  obtain⟨h1,h2,h3,h4⟩:=ih;refine⟨λlv s hl1 hl8 ho=>?_,λlv n s x l d hl1 hl8 ho hP hd=>?_,λw lv s hw ho=>?_,λs ho=>?_⟩
  ·rw[o9];refine Okr.ite (λh=>?_) λ_=>Okr.ite (λh=>?_) λ_=>Okr.ite (λh=>?_) λh8=>?_
   ·rw[h.1];exact h3 _ _ _ (.inl ⟨rfl,rfl⟩) ho
   ·rw[h.1];exact h3 _ _ _ (.inr ⟨rfl,rfl⟩) ho
   ·rw[h];exact h4 _ ho
   ·refine(h1 (lv+1) s (by omega) (by omega) ho).bind λt s1 e=>?_;obtain⟨e1,e2,x,l,d,e3,e4⟩:=e;have hm:(if lv=4 then 5 else lv)<=lv+1:=by split<;>omega
    have:=iq7 hm t d;exact(h2 lv t s1 x l d hl1 hl8 (by omega) e3 (by omega)).mono λu s2 g=>g.of e1 e2 (Nat.le_refl _)
  ·rw[mP];refine Okr.ite (λh=>?_) λ_=>⟨rfl,rfl,x,l,d,hP,?_⟩
   ·obtain⟨hlv,hk⟩:=h;have hop:=jg3 (s:=(T s.p).t) (by omega);have hlo:=(aq2 _ hop).2;refine(h1 (lv+1) (adv s) (by omega) (by omega) ho).bind λt s1 e=>?_;obtain⟨e1,e2,y,m,e,e3,e4⟩:=e;have e1:s1.o=s.o:=e1;have e4:s.o+df3 (lv+1) t e<=12:=e4;have hB:=Pr.bin (T s.p).t n t x y l m d e hop hP e3
    have hdd:s.o+max (df3 (if j8 (T s.p).t=4 then 5 else j8 (T s.p).t) n d) (df3 (j8 (T s.p).t+1) t e)<=12:=by
     rw[hlv];omega
    have hlvT:lvT (.node 20 0 (T s.p).t [n,t])=lv:=hlv;refine Okr.ite (λh4=>⟨e1,e2,_,_,_,hB,?_⟩) λh4=>?_
    ·rw[io2 (by omega)];exact hdd
    ·refine(h2 lv _ s1 _ _ _ hl1 hl8 (by omega) hB ?_).mono λu s2 g=>g.of e1 e2 (Nat.le_refl _);rw[if_neg h4,io2 (by omega)];omega
   ·have hm:lv<=(if lv=4 then 5 else lv):=by split<;>omega
    have:=iq7 hm n d;omega
  ·rw[fQ];have hlv:1<=lv/\lv<=8:=by rcases hw with⟨_,h⟩ | ⟨_,h⟩<;>omega
   refine(iv4 w ho).bind λ_ s1 e1=>(h1 lv s1 hlv.1 hlv.2 e1.2.1).bind λt s2 e2=>?_;obtain⟨a1,a2,a3⟩:=e1;obtain⟨b1,b2,x,l,d,b3,b4⟩:=e2;have hs:w=oH\/w=sW:=hw.imp And.left And.left
   have hT:lvT (.node 19 0 w [t])=lv:=by
    rcases hw with⟨rfl,rfl⟩ | ⟨rfl,rfl⟩
    ·rfl
    ·rfl
   have hU:=Pr.un w t x l d hs b3;refine⟨?_,b2.trans a3,_,_,_,hU,?_⟩
   ·show s2.o-1=s.o;omega
   ·rw[io2 (by omega),hT];omega
  ·rw[jX];have leaf:∀{t:Tr} {x:List UInt8} {l:List Tkn},Pr t x l 0->lvT t=8->s.o+df3 8 t 0<=12:=λhP h=>by rw[io2 (by omega)];omega
   refine Okr.ite (λ_=>(iy9 s).mono λt s1 e=>?_) λ_=>?_
   ·obtain⟨e1,e2,n,u,x,l,rfl,e3⟩:=e;exact⟨e1,e2,x,l,0,e3,leaf e3 rfl⟩
   refine Okr.ite (λ_=>⟨rfl,rfl,_,_,0,.yes,leaf .yes rfl⟩) λ_=>Okr.ite (λ_=>⟨rfl,rfl,_,_,0,.no,leaf .no rfl⟩) λ_=>Okr.ite (λ_=>?_) λ_=>Okr.ite (λ_=>?_) λ_=>?_
   ·refine(io7 _ _).bind λ_ s1 e1=>(is4 hW s1).bind λx s2 e2=>?_;obtain⟨rfl,e2⟩:=e2;subst e1;exact⟨rfl,rfl,_,_,0,.tlm x e2.1 e2.2,leaf (.tlm x e2.1 e2.2) rfl⟩
   ·refine(iv4 _ ho).bind λ_ s1 e1=>(h1 1 s1 (by decide) (by decide) e1.2.1).bind λt s2 e2=>(io7 _ s2).bind λ_ s3 e3=>?_;obtain⟨a1,a2,a3⟩:=e1;obtain⟨b1,b2,x,l,d,b3,b4⟩:=e2;subst e3;rw[io2 (jc0 b3)]at b4;have:=jf8 8 t d;refine⟨?_,b2.trans a3,x,l,d,b3,by omega⟩;show s2.o-1=s.o;omega
   ·refine(is4 hW s).bind λx s1 e1=>?_;obtain⟨rfl,e2⟩:=e1;exact⟨rfl,rfl,_,_,0,.var x e2.1 e2.2,leaf (.var x e2.1 e2.2) rfl⟩
end
end Go.Proofs.Lx
/- Plain: the text of procedures has its tokens; what is printed is read. -/
namespace Go.Proofs.Lx
open Go Go.Proofs.YtjfkkokeegpeiaaDoor
set_option maxRecDepth 100000
theorem im9{r:List UInt8}{m:List Tkn}(h:Ls r m):∀n,Ls (List.replicate n 32++r) m
 |0=>by simpa using h
 |n+1=>by rw[List.replicate_succ,List.cons_append];exact dO (im9 h n)
theorem jc6{r:List UInt8}{m:List Tkn}(h:Ls r m):Ls (10::r) m:=.white (by decide) h
theorem in0{w:ByteArray}(hw:inP keywords w=true){r:List UInt8}{m:List Tkn}(h:Ls r m):Ls (bL w++32::r) (tkW w::m):=aw9 (ar1 w (inP_iff.1 hw)) (bk7 (by decide)) (dO h)
theorem ip1{r:List UInt8}{m:List Tkn}(h:Ls r m):Ls (59::10::r) (tkY aj6::m):=wF (c:=59) (by decide) (au5 (by decide)) (jc6 h)
theorem iq1{r:List UInt8}{m:List Tkn}(h:Ls r m):Ls (123::10::r) (tkY cv8::m):=wF (c:=123) (by decide) (au5 (by decide)) (jc6 h)
theorem iq0{r:List UInt8}{m:List Tkn}(i:Nat)(h:Ls r m):Ls (j5 i++125::10::r) (tkY dk1::m):=im9 (wF (c:=125) (by decide) (au5 (by decide)) (jc6 h)) _
theorem je4{r:List UInt8}{m:List Tkn}(h:Ls r m):Ls (61::32::r) (tkY cm8::m):=wF (c:=61) (by decide) (au5 (by decide)) (dO h)
theorem in3{t:Tr}{x:List UInt8}{l:List Tkn}{d:Nat}(h:Pr t x l d){c:UInt8}(hc:aE c.toNat=false/\c≠61){r:List UInt8}{m:List Tkn}(g:Ls (c::r) m):Ls (x++c::r) (l++m):=ia2 h _ _ (bk7 hc.1) (au5 hc.2) g
theorem is3:aE (59:UInt8).toNat=false/\(59:UInt8)≠61:=by decide
theorem jd5:aE (32:UInt8).toNat=false/\(32:UInt8)≠61:=by decide
theorem jf9{i:Nat}{z:Tr⊕List Tr}{x:List UInt8}{l:List Tkn}{d:Nat}{v:List ByteArray}(h:PrS i z x l d v):∀(r:List UInt8) (m:List Tkn),Ls r m->Ls (x++r) (l++m):=by
 induction h with
 |«let» i y a x l d hn hP=>
  intro r m h;have:=im9 (in0 (w:=w_let) (by decide) (aw9 hn.2 (bk7 (by decide)) (dO (je4 (in3 hP is3 (ip1 h)))))) (2*i);simpa[j5,bL,mkB]using this
 |set i y a x l d hn hP=>
  intro r m h;have:=im9 (aw9 hn.2 (bk7 (c:=32) (by decide)) (dO (je4 (in3 hP is3 (ip1 h))))) (2*i);simpa[j5,bL,mkB]using this
 |cond i c ys x l d xy ly dy vy hP hY ih=>
  intro r m h;have:=im9 (in0 (w:=w_if) (by decide) (in3 hP jd5 (dO (iq1 (ih _ _ (iq0 i h)))))) (2*i);simpa[j5,bL,mkB]using this
 |both i c ys n0 ns x l d xy ly dy vy xn ln dn vn hP hY hN ih1 ih2=>
  intro r m h;have:=im9 (in0 (w:=w_if) (by decide) (in3 hP jd5 (dO (iq1 (ih1 _ _ (im9 (wF (c:=125) (by decide) (au5 (by decide)) (dO (in0 (w:=w_else) (by decide) (iq1 (ih2 _ _ (iq0 i h)))))) (2*i))))))) (2*i);simpa[j5,bL,mkB]using this
 |rep i n ys xy ly dy vy h0 h1 hY ih=>
  intro r m h;have:=im9 (in0 (w:=w_repeat) (by decide) (gu8 (n:=n) (show 0<=n by omega) (show n<=2147483647 by omega) (bk7 (by decide)) (dO (iq1 (ih _ _ (iq0 i h)))))) (2*i);simpa[j5,bL,mkB]using this
 |amt i k w n u x l d hk hP=>
  intro r m h;have hw:inP keywords w=true:=by rcases hk with⟨_,rfl⟩ | ⟨_,rfl⟩<;>decide
  have:=im9 (in0 hw (in3 hP is3 (ip1 h))) (2*i);simpa[j5,bL,mkB]using this
 |await i c y m e n u x l d hC hP=>
  intro r k h;have:=im9 (in0 (w:=w_await) (by decide) (in3 hC jd5 (dO (in0 (w:=w_within) (by decide) (in3 hP is3 (ip1 h)))))) (2*i);simpa[j5,bL,mkB]using this
 |one i k w a x l d hk hP=>
  intro r m h;have hw:inP keywords w=true:=by rcases hk with⟨_,rfl⟩ | ⟨_,rfl⟩<;>decide
  have:=im9 (in0 hw (in3 hP is3 (ip1 h))) (2*i);simpa[j5,bL,mkB]using this
 |use i j n u x l d h0 h1 hP=>
  intro r m h;have:=im9 (in0 (w:=w_use) (by decide) (gu8 h0 (show j<=2147483647 by omega) (bk7 (by decide)) (dO (in0 (w:=w_for) (by decide) (in3 hP is3 (ip1 h)))))) (2*i);simpa[j5,bL,mkB]using this
 |send i j n u x l d h0 h1 hP=>
  intro r m h;have:=im9 (in0 (w:=w_send) (by decide) (gu8 h0 (show j<=2147483647 by omega) (bk7 (by decide)) (wF (c:=44) (by decide) (au5 (by decide)) (dO (in3 hP is3 (ip1 h)))))) (2*i);simpa[j5,bL,mkB]using this
 |nmb i k w j hk h0=>
  intro r m h;have hw:inP keywords w=true:=by rcases hk with⟨_,rfl,_⟩ | ⟨_,rfl,_⟩<;>decide
  have hj:j<=2147483647:=by rcases hk with⟨_,_,_⟩ | ⟨_,_,_⟩<;>omega
  have:=im9 (in0 hw (gu8 h0 hj (bk7 (by decide)) (ip1 h))) (2*i);simpa[j5,bL,mkB]using this
 |nil i=>intro r m h;exact h
 |cons i t ts x l d v xs ls ds vs h1 h2 ih1 ih2=>
  intro r m h;have:=ih1 _ _ (ih2 _ _ h);simpa using this
theorem iy6{m:Prm}(h:az7 m){c:UInt8}(hc:aE c.toNat=false/\c≠61){r:List UInt8}{k:List Tkn}(g:Ls (c::r) k):Ls (ay5 m++c::r) (ih4 m++k):=by
 obtain⟨x,u⟩:=m;obtain⟨⟨_,h1⟩,h2⟩:=h;unfold ay5 ih4;dsimp only at*;by_cases hu:u=⟨#[]⟩
 ·rw[if_pos hu,if_pos hu];have:=aw9 h1 (bk7 (r:=r) hc.1) g;simpa[bL,mkB]using this
 ·rw[if_neg hu,if_neg hu]
  have hu2:bx0 u:=by
   rcases h2 with h2|h2
   ·exact absurd h2 hu
   ·exact ep6 u h2
  have:=aw9 h1 (bk7 (c:=58) (by decide)) (wF (c:=58) (by decide) (au5 (by decide)) (dO (aw9 hu2 (bk7 (r:=r) hc.1) g)));simpa[bL,mkB]using this
theorem iv6:∀{l:List Prm},(∀m∈l,az7 m)->∀{r:List UInt8} {k:List Tkn},Ls (41::r) k->Ls (cK l++41::r) (hp7 l++k)
 | [],_,r,k,h=>h
 | [m],hm,r,k,h=>iy6 (hm m (by simp)) (by decide) h
 |m::n::l,hm,r,k,h=>by
  have h1:=iv6 (l:=n::l) (λm' h=>hm m' (by simp at h⊢;exact .inr h)) h;have:=iy6 (hm m (by simp)) (c:=44) (by decide) (wF (c:=44) (by decide) (au5 (by decide)) (dO h1));simpa[cK,hp7,mkB]using this
theorem jg4{c:Prc}{x:List UInt8}{l:List Tkn}(h:PrP c x l){r:List UInt8}{m:List Tkn}(g:Ls r m):Ls (x++r) (l++m):=by
 obtain⟨⟨_,hn⟩,hm,ys,xy,ly,dy,vy,hS,hb,hd,hv1,hv2,rfl,rfl⟩:=h;have h1:Ls (125::10::r) (tkY dk1::m):=iq0 0 g;have h2:=jf9 hS _ _ h1;have h3:=iv6 hm (wF (c:=41) (by decide) (au5 (by decide)) (dO (iq1 h2)))
 have hne:ec8 (cK c.ps++41::32::123::10::(xy++125::10::r)):=by
  cases e:c.ps with
  |nil=>exact au5 (by decide)
  |cons p ps=>
   have hw:=(hm p (by rw[e];simp)).1.2
   have:Hd (cK (p::ps)):=by
    cases ps with
    |nil=>exact ce3 (fi4 hw)
    |cons a b=>exact ce3 (ce3 (fi4 hw))
   exact do9 (ce3 this)
 have:=in0 (w:=w_procedure) (by decide) (aw9 hn (bk7 (c:=40) (by decide)) (wF (c:=40) (by decide) hne h3));simpa[bL,mkB]using this
theorem jc3{cs:List Prc}{x:List UInt8}{l:List Tkn}(h:PrPs cs x l):Ls x l:=by
 induction h with
 |nil=>exact .nil
 |cons c cs x l xs ls hP _ ih=>exact jg4 hP ih
theorem jg0{s:ByteArray}{ts l:List Tkn}(h:Same3 ts l):At (dL s ts) 0 l:=by
 have key:∀{ts l:List Tkn},Same3 ts l->∀(T:Nat->Tkn) (p:Nat),(∀j (hj:j<ts.length),T (p+j)=ts[j])->At T p l:=by
  intro ts l h
  induction h with
  |nil=>intro T p _;trivial
  |cons h1 _ ih=>
   intro T p hT;have h0:=hT 0 (by simp);refine⟨?_,ih T (p+1) λj hj=>?_⟩
   ·rw[Nat.add_zero]at h0;rw[h0];exact h1
   ·have:=hT (j+1) (by simpa using hj);rw[show p+1+j=p+(j+1)by omega,this];rfl
 refine key h _ 0 λj hj=>?_;unfold dL;rw[Nat.zero_add,List.getD_eq_getElem?_getD,List.getElem?_eq_getElem hj];rfl
theorem iy0{s:ByteArray}{l:List Tkn}{cs:List Prc}(hl:Ls s.data.toList l)(hs:s.size<=4000)(h:∀T:Nat->Tkn,At T 0 l->(T l.length).k=0->∃s',Ev (λf=>s5 T f [] ⟨0,0,[]⟩) (.ok cs s')):ParseR s (cs,0,0):=by
 obtain⟨ts,h1,h2⟩:=jb0 hl hs;have hN:=cf4 (s:=s) (acc:=ts) h1
 have hend:(dL s ts l.length).k=0:=by
  unfold dL;rw[List.getD_eq_getElem?_getD,List.getElem?_eq_none (by rw[h2.len];exact Nat.le_refl _)];rfl
 obtain⟨s',f0,hf⟩:=h (dL s ts) (jg0 h2) hend;have hr:=bs3 s
 have e:s5 (dL s ts) cy2 [] ⟨0,0,[]⟩= .ok cs s':=by
  obtain⟨r,hr,_⟩:=bs3 s
  have hno:s5 (dL s ts) cy2 [] ⟨0,0,[]⟩≠ .out:=by
   cases hr with
   |lex p e g1 g2=>exact absurd (congrArg (λr=>r.2.2) (wT g1 h1)) g2
   |ok acc l s'' g1 g2 g3=>
    obtain rfl:=bg2 h1 g1;rw[g3];intro e;cases e
   |err acc p c g1 g2 g3 g4=>
    obtain rfl:=bg2 h1 g1;rw[g4];intro e;cases e
  have:=iv7 (T:=dL s ts) (U:=dL s ts) (λj=>⟨rfl,rfl,rfl⟩) (Nat.le_max_right f0 cy2) [] ⟨0,0,[]⟩ hno;rw[<-this];exact hf _ (Nat.le_max_left _ _)
 exact .ok ts cs s' h1 hN e
theorem is6{cs:List Prc}{x:List UInt8}{l:List Tkn}(h:PrPs cs x l)(hn:(cs.map Prc.x).Nodup){s:ByteArray}(he:s.data.toList=x)(hs:s.size<=4000):ParseR s (cs,0,0):=
 iy0 (by rw[he];exact jc3 h) hs λT hA hk=>jd9 h hA rfl (by rw[Nat.zero_add];exact hk) hn
end Go.Proofs.Lx
/- Plain: what is read can be printed: statements, procedures, sources. -/
namespace Go.Proofs.Lx
open Go Go.Proofs.YtjfkkokeegpeiaaDoor
set_option maxRecDepth 100000
def Vk(v:List ByteArray):Prop:=v.Nodup/\v.length<=12
def Gs(s:PS)(z:Tr⊕List Tr)(s':PS):Prop:=s'.o=s.o/\Vk s'.vs/\∃v,s'.vs=s.vs++v/\∃d,s.o+d<=12/\∀i,∃x l,PrS i z x l d v
def Gb(s:PS)(t:Tr)(s':PS):Prop:=∃ys,t= .node 14 0 ⟨#[]⟩ ys/\s'.o=s.o/\Vk s'.vs/\∃v,s'.vs=s.vs++v/\∃d,s.o+(d+1)<=12/\∀i,∃x l,PrS i (.inr ys) x l d v
def Ge(s:PS)(t:Tr)(s':PS):Prop:=s'.o=s.o/\s'.vs=s.vs/\∃x l d,Pr t x l d/\s.o+d<=12
section
variable {T:Nat->Tkn}
theorem jd4(hW:∀j,(T j).k=1->bx0 (T j).t){s:PS}(hv:Vk s.vs):Okr (λx s'=>s'.o=s.o/\s'.vs=s.vs++[x]/\am8 x/\Vk s'.vs) (zL T s):=
 (is4 hW s).bind λx s1 h=>by
  obtain⟨rfl,h2⟩:=h;refine Okr.ite (λ_=>trivial) λh3=>Okr.ite (λ_=>trivial) λh4=>⟨rfl,rfl,h2,?_,?_⟩
  ·refine List.nodup_append.2 ⟨hv.1,by simp,λa ha b hb e=>?_⟩;simp only[List.mem_singleton]at hb;subst hb e;exact h3 (inP_iff.2 ha)
  ·have:=hv.2;have h4:s.vs.length≠12:=h4;show(s.vs++[x]).length<=12;rw[List.length_append];simp only[List.length_cons,List.length_nil];omega
theorem ir3(hW:∀j,(T j).k=1->bx0 (T j).t)(f:Nat){s:PS}(ho:s.o<=12):Okr (Ge s) (o9 T f 1 s):=
 ((jh4 hW f).1 1 s (by decide) (by decide) ho).mono λt s1 h=>by
  obtain⟨h1,h2,x,l,d,h3,h4⟩:=h;rw[io2 (jc0 h3)]at h4;exact⟨h1,h2,x,l,d,h3,h4⟩
theorem is9(n:Tr)(s:PS):Okr (λt s'=>t=n/\s'=adv s) (Lx.endP T n s):=(io7 _ s).bind λ_ s1 e=>⟨rfl,e⟩
theorem jg9(hW:∀j,(T j).k=1->bx0 (T j).t)(f:Nat)(k:Int)(b:ByteArray){s:PS}(ho:s.o<=12):Okr (λt s'=>∃a s0,t= .node k 0 b [a]/\Ge s a s0/\s'.o=s0.o/\s'.vs=s0.vs) (el7 T f k b s):=
 (io7 _ s).bind λ_ s1 e1=>by
  subst e1
  exact(ir3 hW f (s:=adv s) ho).bind λa s2 e2=>(is9 _ s2).mono λt s3 e3=>by
   obtain⟨rfl,rfl⟩:=e3;exact⟨a,s2,rfl,e2,rfl,rfl⟩
theorem ji3(hW:∀j,(T j).k=1->bx0 (T j).t)(f:Nat)(k:Int){s:PS}(ho:s.o<=12):Okr (λt s'=>∃a s0,t= .node k 0 ⟨#[]⟩ [a]/\Ge s a s0/\s'.o=s0.o/\s'.vs=s0.vs) (Lx.oneP T f k s):=
 (ir3 hW f ho).bind λa s2 e2=>(is9 _ s2).mono λt s3 e3=>by
  obtain⟨rfl,rfl⟩:=e3;exact⟨a,s2,rfl,e2,rfl,rfl⟩
theorem ir9{s s':PS}{t:Tr}{d:Nat}(hv:Vk s.vs)(ho:s'.o=s.o)(hs:s'.vs=s.vs)(hd:s.o+d<=12)(h:∀i,∃x l,PrS i (.inl t) x l d []):Gs s (.inl t) s':=by
 refine⟨ho,by rw[hs];exact hv,[],by rw[hs,List.append_nil],d,hd,h⟩
theorem jg5{k:Int}{w:ByteArray}(hk:(k=5/\w=be2)\/(k=11/\w=yW)){s:PS}(hv:Vk s.vs)(ho:s.o<=12):Okr (λt s'=>Gs s (.inl t) s') (ga8 T k s):=
 (iy9 s).bind λn s2 e2=>(is9 _ s2).mono λt s3 e3=>by
  obtain⟨rfl,rfl⟩:=e3;obtain⟨h1,h2,n,u,x,l,rfl,h3⟩:=e2;exact ir9 hv h1 h2 (d:=0) (by omega) λi=>⟨_,_,.amt i k w n u x l 0 hk h3⟩
theorem jf4(hW:∀j,(T j).k=1->bx0 (T j).t)(f:Nat){s:PS}(hv:Vk s.vs)(ho:s.o<=12):Okr (λt s'=>Gs s (.inl t) s') (dn2 T f s):=
 (ir3 hW f ho).bind λc s1 e1=>(io7 _ s1).bind λ_ s2 e2=>(iy9 s2).bind λn s3 e3=>(is9 _ s3).mono λt s4 e4=>by
  obtain⟨rfl,rfl⟩:=e4;subst e2;obtain⟨a1,a2,y,m,e,a3,a4⟩:=e1;obtain⟨h1,h2,n,u,x,l,rfl,h3⟩:=e3;exact ir9 hv (h1.trans a1) (h2.trans a2) a4 λi=>⟨_,_,.await i c y m e n u x l 0 a3 h3⟩
theorem jg6{k hi:Int}{w:ByteArray}(hk:(k=12/\w=yV/\hi=99)\/(k=13/\w=uE/\hi=999)){s:PS}(hv:Vk s.vs)(ho:s.o<=12):Okr (λt s'=>Gs s (.inl t) s') (fu2 T k hi s):=
 (ja6 _ _ s).bind λn s2 e2=>(is9 _ s2).mono λt s3 e3=>by
  obtain⟨rfl,rfl⟩:=e3;obtain⟨rfl,h0,h1⟩:=e2;refine ir9 hv rfl rfl (d:=0) (by omega) λi=>⟨_,_,.nmb i k w n ?_ h0⟩;rcases hk with⟨a,b,c⟩ | ⟨a,b,c⟩
  ·exact .inl ⟨a,b,by omega⟩
  ·exact .inr ⟨a,b,by omega⟩
theorem jg8{k:Int}{w:ByteArray}(hk:k=9\/k=10){s:PS}(hv:Vk s.vs)(ho:s.o<=12):Okr (λt s'=>Gs s (.inl t) s') (fq6 T k w s):=
 (ja6 _ _ s).bind λj s1 e1=>(io7 _ s1).bind λ_ s2 e2=>(iy9 s2).bind λn s3 e3=>(is9 _ s3).mono λt s4 e4=>by
  obtain⟨rfl,rfl⟩:=e4;subst e2;obtain⟨rfl,g0,g1⟩:=e1;obtain⟨h1,h2,n,u,x,l,rfl,h3⟩:=e3;rcases hk with rfl|rfl
  ·exact ir9 hv h1 h2 (d:=0) (by omega) λi=>⟨_,_,.use i j n u x l 0 g0 g1 h3⟩
  ·exact ir9 hv h1 h2 (d:=0) (by omega) λi=>⟨_,_,.send i j n u x l 0 g0 g1 h3⟩
theorem jh8(hW:∀j,(T j).k=1->bx0 (T j).t):∀f,(∀s,Vk s.vs->s.o<=12->Okr (Gb s) (bC T f s))/\(∀s,Vk s.vs->s.o<=12->Okr (λl s'=>Gs s (.inr l) s') (dZ T f s))/\(∀s,Vk s.vs->s.o<=12->Okr (λt s'=>Gs s (.inl t) s') (xQ T f s)):=by
 intro f
 induction f with
 |zero=>exact⟨λ_ _ _=>by rw[bC];trivial,λ_ _ _=>by rw[dZ];trivial,λ_ _ _=>by rw[xQ];trivial⟩
 |succ f ih=>
  obtain⟨h1,h2,h3⟩:=ih;refine⟨λs hv ho=>?_,λs hv ho=>?_,λs hv ho=>?_⟩
  ·rw[bC];refine(iv4 _ ho).bind λ_ s1 e1=>?_;obtain⟨a1,a2,a3⟩:=e1;refine(h2 s1 (by rw[a3];exact hv) a2).bind λl s2 e2=>?_;obtain⟨b1,b2,v,b3,d,b4,b5⟩:=e2;refine⟨l,rfl,?_,b2,v,by rw[<-a3];exact b3,d,by omega,b5⟩;show s2.o-1=s.o;omega
  ·rw[dZ];refine Okr.ite (λ_=>⟨rfl,hv,[],(List.append_nil _).symm,0,ho,λi=>⟨_,_,.nil i⟩⟩) λ_=>(h3 s hv ho).bind λt s1 e1=>?_;obtain⟨a1,a2,v,a3,d,a4,a5⟩:=e1;refine(h2 s1 a2 (by omega)).bind λl s2 e2=>?_;obtain⟨b1,b2,u,b3,e,b4,b5⟩:=e2;refine⟨b1.trans a1,b2,v++u,by rw[b3,a3,List.append_assoc],max d e,by omega,λi=>?_⟩;obtain⟨x,m,c1⟩:=a5 i;obtain⟨y,n,c2⟩:=b5 i;exact⟨_,_,.cons i t l x m d v y n e u c1 c2⟩
  ·rw[xQ];have hov:Vk (adv s).vs:=hv;refine Okr.ite (λ_=>(jd4 hW (s:=adv s) hv).bind λx s1 e1=>?_) λ_=>?_
   ·obtain⟨a1,a2,a3,a4⟩:=e1;have a1:s1.o=s.o:=a1;refine(jg9 hW f 1 x (s:=s1) (by omega)).mono λt s2 e2=>?_;obtain⟨a,s0,rfl,⟨b1,b2,y,l,d,b3,b4⟩,b5,b6⟩:=e2;exact⟨by omega,by rw[b6,b2];exact a4,[x],by rw[b6,b2];exact a2,d,by omega,λi=>⟨_,_,.let i x a y l d a3 b3⟩⟩
   refine Okr.ite (λ_=>?_) λ_=>?_
   ·refine(ir3 hW f (s:=adv s) ho).bind λc s1 e1=>?_;obtain⟨a1,a2,x,l,d,a3,a4⟩:=e1;have a1:s1.o=s.o:=a1;have a2:s1.vs=s.vs:=a2;have a4:s.o+d<=12:=a4;refine(h1 s1 (by rw[a2];exact hv) (by omega)).bind λy s2 e2=>?_;obtain⟨ys,rfl,b1,b2,v,b3,e,b4,b5⟩:=e2;refine Okr.ite (λ_=>?_) λ_=>?_
    ·refine(h1 (adv s2) b2 (by show s2.o<=12;omega)).bind λn s3 e3=>?_;obtain⟨ns,rfl,c1,c2,u,c3,g,c4,c5⟩:=e3;have c1:s3.o=s2.o:=c1;have c3:s3.vs=s2.vs++u:=c3;have c4:s2.o+(g+1)<=12:=c4;cases ns with
     |nil=>
      obtain rfl:u=[]:=by
       obtain⟨_,_,h⟩:=c5 0;cases h;rfl
      refine⟨by omega,c2,v,by rw[c3,b3,a2,List.append_nil],max d (e+1),by omega,λi=>?_⟩;obtain⟨xy,ly,hy⟩:=b5 (i+1);exact⟨_,_,.cond i c ys x l d xy ly e v a3 hy⟩
     |cons n0 ns=>
      refine⟨by omega,c2,v++u,by rw[c3,b3,a2,List.append_assoc],max d (max (e+1) (g+1)),by omega,λi=>?_⟩;obtain⟨xy,ly,hy⟩:=b5 (i+1);obtain⟨xn,ln,hn⟩:=c5 (i+1);exact⟨_,_,.both i c ys n0 ns x l d xy ly e v xn ln g u a3 hy hn⟩
    ·refine⟨by omega,b2,v,by rw[b3,a2],max d (e+1),by omega,λi=>?_⟩;obtain⟨xy,ly,hy⟩:=b5 (i+1);exact⟨_,_,.cond i c ys x l d xy ly e v a3 hy⟩
   refine Okr.ite (λ_=>?_) λ_=>?_
   ·refine(ja6 _ _ (adv s)).bind λn s1 e1=>?_;obtain⟨rfl,g0,g1⟩:=e1;refine(h1 (adv (adv s)) hv ho).bind λy s2 e2=>?_;obtain⟨ys,rfl,b1,b2,v,b3,e,b4,b5⟩:=e2;refine⟨b1,b2,v,b3,e+1,b4,λi=>?_⟩;obtain⟨xy,ly,hy⟩:=b5 (i+1);exact⟨_,_,.rep i n ys xy ly e v g0 g1 hy⟩
   have up:∀{r:PR Tr},Okr (λt s'=>Gs (adv s) (.inl t) s') r->Okr (λt s'=>Gs s (.inl t) s') r:=λh=>h
   have one:∀{k:Int} {w:ByteArray},(k=7/\w=qO)\/(k=8/\w=rI)->Okr (λt s'=>Gs s (.inl t) s') (Lx.oneP T f k (adv s)):=λ{k w} hk=>
    (ji3 hW f k (s:=adv s) ho).mono λt s2 e2=>by
     obtain⟨a,s0,rfl,⟨b1,b2,y,l,d,b3,b4⟩,b5,b6⟩:=e2;exact ir9 hv (b5.trans b1) (b6.trans b2) b4 λi=>⟨_,_,.one i k w a y l d hk b3⟩
   refine Okr.ite (λ_=>up (jf4 hW f (s:=adv s) hv ho)) λ_=>Okr.ite (λ_=>up (jg5 (.inl ⟨rfl,rfl⟩) (s:=adv s) hv ho)) λ_=>Okr.ite (λ_=>up (jg5 (.inr ⟨rfl,rfl⟩) (s:=adv s) hv ho)) λ_=>Okr.ite (λ_=>one (.inl ⟨rfl,rfl⟩)) λ_=>Okr.ite (λ_=>one (.inr ⟨rfl,rfl⟩)) λ_=>Okr.ite (λ_=>up (jg8 (.inl rfl) (s:=adv s) hv ho)) λ_=>Okr.ite (λ_=>up (jg8 (.inr rfl) (s:=adv s) hv ho)) λ_=>Okr.ite (λ_=>up (jg6 (.inl ⟨rfl,rfl,rfl⟩) (s:=adv s) hv ho)) λ_=>Okr.ite (λ_=>up (jg6 (.inr ⟨rfl,rfl,rfl⟩) (s:=adv s) hv ho)) λ_=>?_;refine(is4 hW s).bind λx s1 e1=>?_;obtain⟨rfl,a3⟩:=e1;refine(jg9 hW f 2 x (s:=adv s) ho).mono λt s2 e2=>?_;obtain⟨a,s0,rfl,⟨b1,b2,y,l,d,b3,b4⟩,b5,b6⟩:=e2;exact ir9 hv (b5.trans b1) (b6.trans b2) b4 λi=>⟨_,_,.set i x a y l d a3 b3⟩
theorem ji2(hW:∀j,(T j).k=1->bx0 (T j).t){s:PS}(hv:Vk s.vs):Okr (λm s'=>az7 m/\s'.o=s.o/\s'.vs=s.vs++[m.x]/\Vk s'.vs) (ga3 T s):=by
 unfold ga3;refine(jd4 hW hv).bind λx s1 e1=>?_;obtain⟨a1,a2,a3,a4⟩:=e1;refine Okr.ite (λ_=>Okr.ite (λ_=>trivial) λ_=>Okr.ite (λ_=>trivial) λh=>⟨⟨a3,.inr (inP_iff.1 (by cases e:vW (T (s1.p+1)).t with|true=>exact e|false=>exact absurd e h))⟩,a1,a2,a4⟩) λ_=>⟨⟨a3,.inl rfl⟩,a1,a2,a4⟩
theorem je2(hW:∀j,(T j).k=1->bx0 (T j).t):∀f s,Vk s.vs->Okr (λl s'=>(∀m∈l,az7 m)/\s'.o=s.o/\s'.vs=s.vs++l.map Prm.x/\Vk s'.vs) (cf6 T f s)
 |0,s,_=>by rw[cf6];trivial
 |f+1,s,hv=>by
  rw[cf6];refine(ji2 hW hv).bind λx s1 e1=>?_;obtain⟨a1,a2,a3,a4⟩:=e1;refine Okr.ite (λ_=>(je2 hW f (adv s1) a4).bind λl s2 e2=>?_) λ_=>(io7 _ s1).bind λ_ s2 e2=>?_
  ·obtain⟨b1,b2,b3,b4⟩:=e2;refine⟨λm hm=>?_,b2.trans a2,?_,b4⟩
   ·rcases List.mem_cons.1 hm with rfl|hm
    ·exact a1
    ·exact b1 m hm
   ·rw[b3,show(adv s1).vs=s1.vs from rfl,a3,List.append_assoc];rfl
  ·subst e2;exact⟨λm hm=>by rw[List.mem_singleton]at hm;subst hm;exact a1,a2,a3,a4⟩
theorem je0(hW:∀j,(T j).k=1->bx0 (T j).t)(f:Nat){s:PS}(hv:Vk s.vs):Okr (λl s'=>(∀m∈l,az7 m)/\s'.o=s.o/\s'.vs=s.vs++l.map Prm.x/\Vk s'.vs) (mC T f s):=by
 unfold mC;refine(io7 _ s).bind λ_ s1 e1=>?_;subst e1;exact Okr.ite (λ_=>⟨λm hm=>(by cases hm),rfl,(List.append_nil _).symm,hv⟩) λ_=>je2 hW f (adv s) hv
theorem ji0(hW:∀j,(T j).k=1->bx0 (T j).t)(f:Nat)(pr:List ByteArray){s:PS}(ho:s.o=0):Okr (λc s'=>s'.o=0/\c.x∉pr/\∃x l,PrP c x l) (aj7 T f pr s):=by
 unfold aj7;refine(io7 _ s).bind λ_ s1 e1=>?_;subst e1;refine(is4 hW _).bind λx s2 e2=>Okr.ite (λ_=>trivial) λhx=>?_;obtain⟨rfl,hn⟩:=e2;have v0:Vk []:=⟨List.nodup_nil,by decide⟩;refine(je0 hW f (s:={adv (adv s)with vs:=[]}) v0).bind λl s3 e3=>?_;obtain⟨a1,a2,a3,a4⟩:=e3;have a2:s3.o=s.o:=a2;have a3:s3.vs=[]++l.map Prm.x:=a3;rw[List.nil_append]at a3;refine((jh8 hW f).1 s3 a4 (by omega)).bind λb s4 e4=>?_;obtain⟨ys,rfl,b1,b2,v,b3,d,b4,b5⟩:=e4;obtain⟨xy,ly,hS⟩:=b5 1;rw[b3,a3]at b2;exact⟨by omega,λh=>hx (inP_iff.2 h),_,_,⟨hn,a1,ys,xy,ly,d,v,hS,rfl,by omega,b2.1,b2.2,rfl,rfl⟩⟩
theorem iz8(hW:∀j,(T j).k=1->bx0 (T j).t):∀f pr s,s.o=0->Okr (λcs _=>(∀c∈cs,c.x∉pr)/\(cs.map Prc.x).Nodup/\∃x l,PrPs cs x l) (s5 T f pr s)
 |0,pr,s,_=>by rw[s5];trivial
 |f+1,pr,s,ho=>by
  rw[s5];refine Okr.ite (λ_=>⟨λc hc=>(by cases hc),List.nodup_nil,_,_,.nil⟩) λ_=>(ji0 hW f pr ho).bind λc s1 e1=>?_;obtain⟨a1,a2,x,l,a3⟩:=e1;refine(iz8 hW f (pr++[c.x]) s1 a1).bind λcs s2 e2=>?_;obtain⟨b1,b2,y,m,b3⟩:=e2;refine⟨λd hd=>?_,?_,_,_,.cons c cs x l y m a3 b3⟩
  ·rcases List.mem_cons.1 hd with rfl|hd
   ·exact a2
   ·exact λh=>b1 d hd (List.mem_append.2 (.inl h))
  ·rw[List.map_cons,List.nodup_cons];refine⟨λh=>?_,b2⟩;obtain⟨d,hd,he⟩:=List.mem_map.1 h;exact b1 d hd (List.mem_append.2 (.inr (by rw[he];simp)))
end
theorem iu7{s:ByteArray}{cs:List Prc}{a e:Int}(h:ParseR s (cs,a,e)):(cs.map Prc.x).Nodup/\∃x l,PrPs cs x l:=by
 cases h with
 |lex p e _ _=>exact⟨List.nodup_nil,_,_,.nil⟩
 |err acc p c _ _ _ _=>exact⟨List.nodup_nil,_,_,.nil⟩
 |ok acc l s' h1 h2 h3=>
  have hW:∀j,(dL s acc j).k=1->bx0 (dL s acc j).t:=by
   have hw:∀x∈acc++[ay2 s],x.k=1->bx0 x.t:=by
    rcases h1 with⟨_,h1⟩ | ⟨_,h1⟩
    ·exact absurd h1 (by simp)
    ·exact jb5 h1 (λx hx=>by cases hx)
   intro j hj;unfold dL at hj⊢;rw[List.getD_eq_getElem?_getD]at hj⊢;cases e:acc[j]?with
   |none=>rw[e]at hj;exact absurd hj (show¬(0:Int)=1 by decide)
   |some x=>rw[e]at hj;exact hw x (List.mem_append.2 (.inl (List.mem_of_getElem? e))) hj
  have:=iz8 hW cy2 [] ⟨0,0,[]⟩ rfl;rw[h3]at this;exact this.2
end Go.Proofs.Lx
/- Plain: how long the printed text is. -/
namespace Go.Proofs.Lx
open Go Go.Proofs.YtjfkkokeegpeiaaDoor
set_option maxRecDepth 100000
theorem ja7{n:Int}(h0:0<=n)(h1:n<=2147483647):(itS n).data.toList.length<=10:=by
 rw[eD];exact jC h0 (by omega)
theorem iw5{s:ByteArray}(h:bx0 s):s.data.toList.length<=12:=by rw[eD];exact h.1
theorem iv9:∀u∈ad0,u.data.toList.length<=3:=by decide
theorem is1(lv:Nat)(t:Tr)(x:List UInt8):(dg4 lv t x).length<=x.length+2:=by
 unfold dg4;split
 ·simp
 ·omega
theorem yS{t:Tr}{x:List UInt8}{l:List Tkn}{d:Nat}(h:Pr t x l d):x.length<=30*szT t:=by
 induction h with
 |lit n h0 h1=>have:=ja7 h0 h1;rw[io9];omega
 |qty n s h0 h1 hu=>
  have:=ja7 h0 h1;have:=iv9 s hu;rw[io9,List.length_append,List.length_cons];omega
 |yes=>decide
 |no=>decide
 |var s _ hw=>have:=iw5 hw;rw[io9];omega
 |tlm s _ hw=>have:=iw5 hw;rw[io9];simp only[List.length_cons];omega
 |un s a x l d hs _ ih=>
  have h1:=is1 (lvT (.node 19 0 s [a])) a x;have h2:s.data.toList.length=1:=by rcases hs with rfl|rfl<;>rfl
  rw[in9,List.length_append];omega
 |bin s a b x y l m d e hs _ _ ih1 ih2=>
  have h1:=is1 (if j8 s=4 then 5 else j8 s) a x;have h2:=is1 (j8 s+1) b y;have h3:=(aq2 s hs).1;rw[ix0];simp only[List.length_append,List.length_cons,eD];omega
def szZ:Tr⊕List Tr->Nat
 | .inl t=>szT t
 | .inr ts=>szL ts
theorem hj0(i:Nat):(j5 i).length=2*i:=by unfold j5;rw[List.length_replicate]
theorem iw7(k n:Int)(s:ByteArray)(ys:List Tr):szT (.node k n s ys)=szL ys+1:=by simp only[szT];omega
theorem ha6{i:Nat}{z:Tr⊕List Tr}{x:List UInt8}{l:List Tkn}{d:Nat}{v:List ByteArray}(h:PrS i z x l d v):∀K,2*(i+d)+130<=K->x.length<=K*szZ z:=by
 have big:∀{t:Tr} {x:List UInt8} {l:List Tkn} {d:Nat} (K:Nat),130<=K->Pr t x l d->x.length<=K*szT t:=λ{t x l d} K hK hP=>
  Nat.le_trans (yS hP) (Nat.mul_le_mul_right _ (by omega))
 have bl:∀s:ByteArray,(bL s).length=s.size:=λs=>eD s
 induction h with
 |«let» i s a x l d hn hP=>
  intro K hK;have h1:=big K (by omega) hP;have h2:=hn.2.1;have e:w_let.size=3:=rfl;simp only[szZ,in9,Nat.mul_add,List.length_append,List.length_cons,List.length_nil,hj0,bl];omega
 |set i s a x l d hn hP=>
  intro K hK;have h1:=big K (by omega) hP;have h2:=hn.2.1;simp only[szZ,in9,Nat.mul_add,List.length_append,List.length_cons,List.length_nil,hj0,bl];omega
 |cond i c ys x l d xy ly dy vy hP hY ih=>
  intro K hK;have h1:=big K (by omega) hP;have h2:=ih K (by omega);have e:w_if.size=2:=rfl;simp only[szZ]at h2;simp only[szZ];rw[iz1];simp only[iw7,szL,Nat.mul_add,List.length_append,List.length_cons,List.length_nil,hj0,bl];omega
 |both i c ys n0 ns x l d xy ly dy vy xn ln dn vn hP hY hN ih1 ih2=>
  intro K hK;have h1:=big K (by omega) hP;have h2:=ih1 K (by omega);have h3:=ih2 K (by omega);have e:w_if.size=2:=rfl;have e2:w_else.size=4:=rfl;simp only[szZ]at h2 h3;simp only[szZ];rw[iz1];simp only[iw7,Nat.mul_add,List.length_append,List.length_cons,List.length_nil,hj0,bl];omega
 |rep i n ys xy ly dy vy h0 h1 hY ih=>
  intro K hK;have h2:=ih K (by omega);have h3:(itS n).size<=10:=jC (by omega) (by omega);have e:w_repeat.size=6:=rfl;simp only[szZ]at h2;simp only[szZ];rw[in9];simp only[iw7,Nat.mul_add,List.length_append,List.length_cons,List.length_nil,hj0,bl];omega
 |amt i k w n u x l d hk hP=>
  intro K hK;have h1:=big K (by omega) hP;have e:w.size<=9:=by rcases hk with⟨_,rfl⟩ | ⟨_,rfl⟩<;>decide
  simp only[szZ,in9,Nat.mul_add,List.length_append,List.length_cons,List.length_nil,hj0,bl];omega
 |await i c y m e n u x l d hC hP=>
  intro K hK;have h1:=big K (by omega) hP;have h2:=big K (by omega) hC;have e:w_await.size=5:=rfl;have e2:w_within.size=6:=rfl;simp only[szZ,ix0,Nat.mul_add,List.length_append,List.length_cons,List.length_nil,hj0,bl];omega
 |one i k w a x l d hk hP=>
  intro K hK;have h1:=big K (by omega) hP;have e:w.size<=9:=by rcases hk with⟨_,rfl⟩ | ⟨_,rfl⟩<;>decide
  simp only[szZ,in9,Nat.mul_add,List.length_append,List.length_cons,List.length_nil,hj0,bl];omega
 |use i j n u x l d h0 h1 hP=>
  intro K hK;have h2:=big K (by omega) hP;have h3:(itS j).size<=10:=jC h0 (by omega);have e:w_use.size=3:=rfl;have e2:w_for.size=3:=rfl;simp only[szZ,in9,Nat.mul_add,List.length_append,List.length_cons,List.length_nil,hj0,bl];omega
 |send i j n u x l d h0 h1 hP=>
  intro K hK;have h2:=big K (by omega) hP;have h3:(itS j).size<=10:=jC h0 (by omega);have e:w_send.size=4:=rfl;simp only[szZ,in9,Nat.mul_add,List.length_append,List.length_cons,List.length_nil,hj0,bl];omega
 |nmb i k w j hk h0=>
  intro K hK;have h3:(itS j).size<=10:=jC h0 (by rcases hk with⟨_,_,_⟩ | ⟨_,_,_⟩<;>omega);have e:w.size<=9:=by rcases hk with⟨_,rfl,_⟩ | ⟨_,rfl,_⟩<;>decide
  simp only[szZ,io9,Nat.mul_add,Nat.mul_one,List.length_append,List.length_cons,List.length_nil,hj0,bl];omega
 |nil i=>intro K _;exact Nat.zero_le _
 |cons i t ts x l d v xs ls ds vs h1 h2 ih1 ih2=>
  intro K hK;have h1:=ih1 K (by omega);have h2:=ih2 K (by omega);simp only[szZ]at h1 h2;simp only[szZ,szL,Nat.mul_add,List.length_append];omega
theorem iw6{m:Prm}(h:az7 m):(ay5 m).length<=17:=by
 have h1:=h.1.2.1;have bl:∀s:ByteArray,(bL s).length=s.size:=λs=>eD s;unfold ay5;split
 ·simp only[List.length_append,List.length_nil,bl];omega
 ·rename_i hu;have h2:m.u.data.toList.length<=3:=iv9 _ (h.2.resolve_left hu);rw[eD]at h2;simp only[List.length_append,List.length_cons,bl];omega
theorem db5:∀{l:List Prm},(∀m∈l,az7 m)->(cK l).length<=20*l.length
 | [],_=>by decide
 | [m],h=>by
  have:=iw6 (h m (by simp));simp only[cK,List.length_cons,List.length_nil];omega
 |m::n::l,h=>by
  have h1:=iw6 (h m (by simp));have h2:=db5 (l:=n::l) λa ha=>h a (List.mem_cons_of_mem _ ha);simp only[cK,List.length_append,List.length_cons]at h2⊢;omega
def wgt:List Prc->Nat
 | []=>0
 |c::cs=>szT c.b+c.ps.length+1+wgt cs
theorem jd8{cs:List Prc}{x:List UInt8}{l:List Tkn}(h:PrPs cs x l):x.length<=160*wgt cs:=by
 have bl:∀s:ByteArray,(bL s).length=s.size:=λs=>eD s
 induction h with
 |nil=>decide
 |cons c cs x l xs ls hP _ ih=>
  obtain⟨hn,hm,ys,xy,ly,dy,vy,hS,hb,hd,_,_,rfl,rfl⟩:=hP;have h1:=ha6 hS 160 (by omega);have h2:=db5 hm;have h3:=hn.2.1;have e:w_procedure.size=9:=rfl;simp only[szZ]at h1;simp only[wgt,hb,iw7,List.length_append,List.length_cons,List.length_nil,bl];omega
section
variable {T:Nat->Tkn}
theorem is7:∀f pr s,Okr (λl s'=>wgt l+4*s.p<=4*s'.p) (s5 T f pr s)
 |0,pr,s=>by rw[s5];trivial
 |f+1,pr,s=>by
  rw[s5];refine Okr.ite (λ_=>Nat.le_of_eq (Nat.zero_add _)) λ_=>?_
  have hp:Okr (λc s'=>szT c.b+c.ps.length+1+4*s.p<=4*s'.p) (aj7 T f pr s):=by
   unfold aj7;refine(im6 _ s).bind λ_ s1 e1=>(io3 s1).bind λx s2 e2=>Okr.ite (λ_=>trivial) λ_=>(ir7 f _).bind λl s3 e3=>((iw2 f).1 s3).bind λb s4 e4=>?_;have e3:l.length+s2.p<=s3.p:=e3;show szT b+l.length+1+4*s.p<=4*s4.p;omega
  refine hp.bind λc s1 e1=>(is7 f _ s1).bind λl s2 e2=>?_;show szT c.b+c.ps.length+1+wgt l+4*s.p<=4*s2.p;omega
end
theorem iz0(t:Tr):1<=szT t:=by obtain⟨k,n,s,l⟩:=t;rw[iw7];omega
theorem ja5:∀cs:List Prc,2*cs.length<=wgt cs
 | []=>Nat.le_refl _
 |c::cs=>by
  have:=ja5 cs;have:=iz0 c.b;simp only[wgt,List.length_cons];omega
theorem iz7:∀{cs:List Prc} {c:Prc},c∈cs->szT c.b<=wgt cs
 |a::cs,c,h=>by
  rcases List.mem_cons.1 h with rfl|h
  ·simp only[wgt];omega
  ·have:=iz7 h;simp only[wgt];omega
theorem jb6{s:ByteArray}{r:List Prc×Int×Int}(h:ParseR s r):wgt r.1<=16004:=by
 cases h with
 |lex p e g1 g2=>exact Nat.zero_le _
 |err acc p c g1 g2 g3 g4=>exact Nat.zero_le _
 |ok acc l s' g1 g2 g3=>
  have h1:=is7 (T:=dL s acc) cy2 [] ⟨0,0,[]⟩;have h2:=cy4 g2 cy2 [] ⟨0,0,[]⟩ g2.pos (by have:=g2.big;show 20*(acc.length+1-0)+13<=100000;omega);rw[g3]at h1 h2;have h1:wgt l+4*0<=4*s'.p:=h1;have h2:=h2.2;have:=g2.big;show wgt l<=16004;omega
theorem iy3{s:ByteArray}{cs:List Prc}{a e:Int}(h:ParseR s (cs,a,e)):(cs.map Prc.x).Nodup/\cs.length<=8002/\(∀c∈cs,szT c.b<=16004)/\∃x l,PrPs cs x l/\x.length<=2600000:=by
 obtain⟨h1,x,l,h2⟩:=iu7 h;have hw:=jb6 h;have hw:wgt cs<=16004:=hw;have:=ja5 cs;have:=jd8 h2;exact⟨h1,by omega,λc hc=>by have:=iz7 hc;omega,x,l,h2,by omega⟩
end Go.Proofs.Lx
/- The law of Round, lifted. -/
namespace Go.Proofs.YtjfkkokeegpeiaaDoor
open Go Go.Am Go.Proofs Go.Proofs.Lx
set_option maxRecDepth 100000
structure PrnOk(cs:List Prc)(x:List UInt8):Prop where
 pr:∃l,PrPs cs x l
 sz:∀c∈cs,szT c.b<=1000000
 l4:cs.length<=10000
 l9:x.length<=1000000000
abbrev iq3:Type:=Nat×FL
abbrev ir8:Type:=ByteArray
def iq2:AR iq3:=λx=>([.ro 6 x.1 x.2],[])
def jc5(t:TT):iq3:=(u7 (ag t 0),iU (ag t 0))
theorem jc4:VI iq2:=vd jc5 λ_=>rfl
def iw1:ir8->CRes:=λz=>.ret (st z) []
noncomputable def ip8(q:Nat)(x:iq3):Option ir8:=@dite _ (∃p:List Prc×List UInt8,PrnOk p.1 p.2/\x=(p.1.length,pF p.1)) (Classical.propDecidable _) (λh=>some (mkB (Classical.choose h).2)) (λ_=>none)
theorem jb4(q:Nat):Lw E5 9 iq2 iw1 (ip8 q):=by
 intro x z h;unfold ip8 at h;split at h
 ·rename_i hc;cases h;have hH:=Classical.choose_spec hc;generalize Classical.choose hc=p at*;obtain⟨hH,rfl⟩:=hH;obtain⟨l,hl⟩:=hH.pr;have h1:=gk2 hl (q:=4000000) (λc hc=>⟨by have:=hH.sz c hc;omega,hH.sz c hc⟩) (by have:=hH.l4;omega) hH.l4 hH.l9;have h2:=gh1 4000000 _ _ h1;exact SC.arg (sc8.1 h2) (LeL.cons (fl5 p.1) LeL.nil) rfl rfl
 ·cases h
abbrev iv1:Type:=ByteArray
abbrev ir5:Type:=Bool
def it6:AR iv1:=λx=>([st x],[])
def iy7:ir5->CRes:=λz=>.ret (bo z) []
def ip2{β:Type}(c_ParseV:bh1->Option co8)(c_PrintW:iq3->Option ir8)(c_SameV:ir4->Option it2)(c_Lives:bf9->Option bj8)(x:iv1)(dn:ir5->Option β):Option β:=
 (c_ParseV x).bind λz1=>(c_PrintW (z1.1,z1.2.1)).bind λz4=>if(z1.2.2.2 !=0)=true then(c_Lives ()).bind λz5=>dn z5 else if decide ((z4.size:Int)>4000)=true then(c_Lives ()).bind λz6=>dn z6 else(c_ParseV z4).bind λz8=>if(z8.2.2.2==0)=true then(c_SameV (z1.1,z1.2.1,z8.1,z8.2.1)).bind λz13=>if z13=true then(c_PrintW (z8.1,z8.2.1)).bind λz16=>if(z16.toList==z4.toList)=true then(c_Lives ()).bind λz17=>dn z17 else dn false else dn false else dn false
theorem jf2{β:Type}(c_ParseV c_PrintW)(c_SameV c_Lives)(x)(dn:ir5->Option β):ip2 c_ParseV c_PrintW c_SameV c_Lives x dn=(ip2 c_ParseV c_PrintW c_SameV c_Lives x some).bind dn:=by
 unfold ip2
 repeat' first|exact n0|refine n1 λ_=>?_|refine n2 ?_ ?_|refine n3 (λ_=>?_) λ_=>?_|rfl
theorem jf1(c_ParseV c_PrintW)(c_SameV c_Lives)(x):f7 E5 (ftb 8 bj6 ds3 c_ParseV (ftb 9 iq2 iw1 c_PrintW (ftb 11 ir0 iz6 c_SameV (ftb 10 ax1 dg0 c_Lives ca0)))) lo0 3 (it6 x).1 (it6 x).2 K=ip2 (vf bj6 c_ParseV) (vf iq2 c_PrintW) (vf ir0 c_SameV) (vf ax1 c_Lives) x (λz=>some (.c (iy7 z))):=by kernel_rfl
noncomputable def Round(q:Nat)(x:iv1):Option ir5:=ip2 (ai3 q) (ip8 q) (iw0 q) (eo3 q) x some
theorem jc7(q:Nat):Lw E5 3 it6 iy7 (Round q):=sof hW5 hX5 (fk (gc6 q) (fk (jb4 q) (fk (jc1 q) (fk (gj2 q) a8)))) (λ_=>cB) λx=>(jf1 (ai3 q) (ip8 q) (iw0 q) (eo3 q) x).trans (by rw[go0,jc4,jf7,hn5,jf2]<;>rfl)
end Go.Proofs.YtjfkkokeegpeiaaDoor
/- Spaces, Tail, Concat: the laws, lifted. -/
namespace Go.Proofs.YtjfkkokeegpeiaaDoor
open Go Go.Am Go.Proofs Go.Proofs.Lx
set_option maxRecDepth 100000
abbrev iu9:Type:=ByteArray
abbrev it5:Type:=Nat×FI×FI×FS×FI×Int×Int
noncomputable def ji4(q:Nat)(x:iu9):Option it5:=(bJ 3000000000 x).map λz=>(z.2.2.1,z.2.2.2.1,z.2.2.2.2.1,z.2.2.2.2.2.1,z.2.2.2.2.2.2,z.1,z.2.1)
abbrev iq4:Type:=ByteArray
abbrev iv8:Type:=ByteArray
abbrev in8:Type:=Nat×FI×FI×FS×FI×ByteArray×Int
abbrev ip0:Type:=ByteArray
def iw4{β:Type}(c_LexV:iu9->Option it5)(x:iq4)(y:in8)(nx:in8->Option β)(dn:ip0->Option β):Option β:=
 if decide (y.2.2.2.2.2.2< ((y.1:Nat):Int))=true then if decide (y.2.2.2.2.2.2>0)=true then if y.2.2.2.2.2.1.size+1<=maxLen then if 0<=y.2.2.2.2.2.2/\y.2.2.2.2.2.2< ((y.1:Nat):Int)then if ByteArray.size (y.2.2.2.2.2.1++⟨#[32]⟩)+ByteArray.size (y.2.2.2.1 (Int.toNat y.2.2.2.2.2.2))<=maxLen then nx (y.1,y.2.1,y.2.2.1,y.2.2.2.1,y.2.2.2.2.1,y.2.2.2.2.2.1++⟨#[32]⟩++y.2.2.2.1 (Int.toNat y.2.2.2.2.2.2),w (y.2.2.2.2.2.2+1))else none else none else none else if 0<=y.2.2.2.2.2.2/\y.2.2.2.2.2.2< ((y.1:Nat):Int)then if y.2.2.2.2.2.1.size+ByteArray.size (y.2.2.2.1 (Int.toNat y.2.2.2.2.2.2))<=maxLen then nx (y.1,y.2.1,y.2.2.1,y.2.2.2.1,y.2.2.2.2.1,y.2.2.2.2.2.1++y.2.2.2.1 (Int.toNat y.2.2.2.2.2.2),w (y.2.2.2.2.2.2+1))else none else none else dn y.2.2.2.2.2.1
noncomputable def jb7(c_LexV:iu9->Option it5)(q:Nat)(x:iq4):in8->Option ip0:=lpG (λy=>iw4 c_LexV x y (λy=>some (.inl y)) (λz=>some (.inr z))) q
def je1{β:Type}(c_LexV:iu9->Option it5)(l_joined_l0:in8->Option ip0)(x:iq4)(dn:iv8->Option β):Option β:=
 (c_LexV x).bind λz1=>(l_joined_l0 (z1.1,z1.2.1,z1.2.2.1,z1.2.2.2.1,z1.2.2.2.2.1,⟨#[]⟩,0)).bind λz32=>dn z32
noncomputable def joined(q:Nat)(x:iq4):Option iv8:=je1 (ji4 q) (jb7 (ji4 q) q x) x some
end Go.Proofs.YtjfkkokeegpeiaaDoor
/- Plain: codes of errors are not 0; what a tree says occurs among the tokens. -/
namespace Go.Proofs.Lx
open Go
def Ob{α:Type}(P:α->Prop):PR α->Prop
 | .ok x _=>P x
 | .err _ c=>c≠0
 | .out=>True
variable {α β:Type}
theorem Ob.bind{P:β->Prop}{Q:α->Prop}{r:PR β}{k:β->PS->PR α}(h:Ob P r)(hk:∀a s,P a->Ob Q (k a s)):Ob Q (r.bind k):=by
 cases r with
 |out=>trivial
 |err p c=>exact h
 |ok a s=>exact hk a s h
theorem Ob.ite{P:α->Prop}{c:Prop}[Decidable c]{f g:PR α}(h1:c->Ob P f)(h2:¬c->Ob P g):Ob P (if c then f else g):=by
 by_cases h:c
 ·rw[if_pos h];exact h1 h
 ·rw[if_neg h];exact h2 h
end Go.Proofs.Lx
/- The law of Round. -/
namespace Go.Proofs.YtjfkkokeegpeiaaDoor
open Go Go.Am Go.Proofs.Lx
set_option maxRecDepth 100000
theorem ji1{l m:List Prc}(hl:l.length=m.length)(hf:pF l=pF m):l.map Prc.x=m.map Prc.x:=by
 apply List.ext_getElem
 ·rw[List.length_map,List.length_map,hl]
 ·intro j h1 h2;rw[List.length_map]at h1 h2;rw[List.getElem_map,List.getElem_map];have e:=congrFun hf j;unfold pF at e;rw[List.getD_eq_getElem?_getD,List.getD_eq_getElem?_getD,List.getElem?_map,List.getElem?_map,List.getElem?_eq_getElem h1,List.getElem?_eq_getElem h2]at e;have e:lF l[j]=lF m[j]:=e;unfold lF at e;injection e with e1 _;injection e1 with e2;injection e2
theorem ix2(s:ByteArray):Round 10000 s=some true:=by
 refine Rs.eq ?_;unfold Round ip2;have hp:=gz0 s;refine Rs.bind (Rs.of (show ai3 10000 s=some ((fs5 s).1.length,pF (fs5 s).1,(fs5 s).2.1,(fs5 s).2.2)from rfl)) λz e=>?_;subst e;have hl:Rs (eo3 10000 ()) (λz=>z=true):=Rs.of (ey2 10000);generalize fs5 s=r at*;obtain⟨cs,p0,e0⟩:=r;obtain⟨hn,hlen,hsz,x,l,hx,hxl⟩:=iy3 hp;have hE:∃p:List Prc×List UInt8,PrnOk p.1 p.2/\(cs.length,pF cs)=(p.1.length,pF p.1):=⟨(cs,x),⟨⟨l,hx⟩,λc hc=>Nat.le_trans (hsz c hc) (by decide),Nat.le_trans hlen (by decide),Nat.le_trans hxl (by decide)⟩,rfl⟩;have e1:ip8 10000 (cs.length,pF cs)=some (mkB (Classical.choose hE).2):=by unfold ip8;exact dif_pos hE
 have hH:=Classical.choose_spec hE;generalize Classical.choose hE=p at*;obtain⟨cs',x'⟩:=p;obtain⟨hH,hq⟩:=hH;dsimp only at hH hq e1⊢;refine Rs.bind (Rs.of e1) λz g=>?_;subst g;refine Rs.ite (λ_=>Rs.bind hl λz e=>Rs.some e) λh0=>Rs.ite (λ_=>Rs.bind hl λz e=>Rs.some e) λhs=>?_
 have hs:(mkB x').size<=4000:=by
  have:¬(((mkB x').size:Int)>4000):=λh=>hs (decide_eq_true h);omega
 simp only[Prod.mk.injEq]at hq;obtain⟨l',hl'⟩:=hH.pr;have hn':(cs'.map Prc.x).Nodup:=by rw[<-ji1 hq.1 hq.2];exact hn
 have hP:=is6 hl' hn' (m4 x') hs;obtain⟨s1,s2⟩:=iw8 hP;refine Rs.bind (Rs.of (br7 10000 hP)) λz2 g2=>?_;subst g2;refine Rs.pos rfl ?_;refine Rs.bind (Rs.of (show iw0 10000 (cs.length,pF cs,cs'.length,pF cs')=some true from if_pos ⟨cs',by rw[hq.1,hq.2],s1,s2⟩)) λz e=>?_;subst e;refine Rs.pos rfl ?_;refine Rs.bind (Rs.of (show ip8 10000 (cs'.length,pF cs')=some (mkB x')by rw[<-hq.1,<-hq.2];exact e1)) λz e=>?_;subst e;exact Rs.pos (beq_self_eq_true _) (Rs.bind hl λz e=>Rs.some e)
theorem parserRound(v0:V)(h0:WTV E.P 9 v0):∃l',LeL [v0] l'/\SC E 3 l' [] (.ret (bo true) []):=by
 obtain⟨s,rfl,_⟩:=h0.str (by kernel_rfl) (by kernel_rfl);exact⟨[st s],LeL.refl _,sc5.1 (jc7 10000 s true (ix2 s))⟩
end Go.Proofs.YtjfkkokeegpeiaaDoor

