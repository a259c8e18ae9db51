/- Texts joined. -/
import Derived.Test.YtjfkkokeegpeiaaGreatDoorQG
/- ek5 of the program: the text of procedures. -/
set_option linter.unusedSimpArgs false
set_option linter.unusedVariables false
namespace Go.Proofs.YtjfkkokeegpeiaaGreatDoor
open Go Go.Am Go.Proofs.Lx
set_option maxRecDepth 100000
abbrev bProc:ByteArray:=⟨#[112,114,111,99,101,100,117,114,101,32]⟩
def hdL(c:Prc):List UInt8:=bProc.data.toList++(c.x.data.toList++(40::(cK c.ps++[41,32,123,10])))
theorem fn1{q:Nat}{c:Prc}{t:ByteArray}{b:List UInt8}{z:Nat×FI}(hq:5<q)(ht:t=mkB (cK c.ps))(hz:RB b z)(hl:b.length+(hdL c).length≤1000000000):
 Rs (gM q (0,5,fun j=>if j=0 then⟨#[112,114,111,99,101,100,117,114,101,32]⟩else if j-1=0 then c.x else if j-1-1=0 then⟨#[40]⟩else if j-1-1-1=0 then t else⟨#[41,32,123]⟩,z)) (fun y=>RB (b++hdL c) y.2.2):=by
 subst ht
 exact ln5 (i:=0) hq (by omega) rfl rfl rfl rfl rfl hz (by simp[hdL,j5,mkB]) hl
theorem en4{q:Nat}{c:Prc}{t:ByteArray}(ht:t=mkB (cK c.ps))(hl:(hdL c).length≤1000000000):Rs (wV q (c.x,t)) (fun y=>RB (hdL c) (y.1,y.2.2)):=by
 subst ht
 have s0:bProc.data.toList.length=10:=rfl
 have s1:c.x.data.toList.length=c.x.size:=eD _
 have s2:(⟨#[40]⟩:ByteArray).data.toList.length=1:=rfl
 have s3:(mkB (cK c.ps)).data.toList.length=(cK c.ps).length:=by rw[m4]
 have s4:(⟨#[41,32,123]⟩:ByteArray).data.toList.length=3:=rfl
 have hlen:(hdL c).length=10+(c.x.size+((cK c.ps).length+(0+1+1+1+1)+1)):=by
  unfold hdL
  simp only[List.length_append,List.length_cons,List.length_nil,s1,s0]
 unfold wV aw1
 refine Rs.bind (Rs.of rfl) fun z0 _=>Rs.bind (P:=fun _=>True) ⟨_,rfl,trivial⟩ fun z1 _=>?_
 have hN:Rs (WSN q ()) (fun y=>RB bProc.data.toList y.2):=by
  refine⟨_,rfl,rfl,fun j hj=>rfl⟩
 refine Rs.bind hN fun z2 h2=>?_
 refine Rs.bind (cy6 q (s:=c.x) (z:=z2.2) h2 (by rw[s0];omega)) fun z6 h6=>?_
 refine Rs.bind (cy6 q (s:=⟨#[40]⟩) (z:=z6.2) h6 (by rw[List.length_append,s0,s1];show 10+c.x.size+1≤_;omega)) fun z10 h10=>?_
 refine Rs.bind (cy6 q (s:=mkB (cK c.ps)) (z:=z10.2) h10 (by rw[List.length_append,List.length_append,s0,s1,s2,b9];omega)) fun z14 h14=>?_
 refine Rs.bind (cy6 q (s:=⟨#[41,32,123]⟩) (z:=z14.2) h14 (by rw[List.length_append,List.length_append,List.length_append,s0,s1,s2,s3];show 10+c.x.size+1+_+3≤_;omega)) fun z18 h18=>?_
 refine Rs.bind (ho9 q (z:=z18.2) h18 (by rw[List.length_append,List.length_append,List.length_append,List.length_append,s0,s1,s2,s3,s4];omega)) fun z22 h22=>Rs.some ?_
 have e:bProc.data.toList++c.x.data.toList++(⟨#[40]⟩:ByteArray).data.toList++(mkB (cK c.ps)).data.toList++(⟨#[41,32,123]⟩:ByteArray).data.toList++[10]=hdL c:=by simp[hdL,mkB]
 rw[e]at h22
 exact h22
theorem fi5{ps:List Prm}{g:FS}(hg:∀j (h:j<ps.length),g j=ay7 ps[j])(hl:(cK ps).length≤1000000000)(hn:ps.length≤1000)(q:Nat):Join q (ps.length,fun j=>g (0+j),⟨#[44,32]⟩)=some (mkB (cK ps)):=by
 have e:(List.range ps.length).map (fun j=>g (0+j))=ps.map ay7:=by
  apply List.ext_getElem
  ·simp
  ·intro j h1 h2
   simp only[List.length_map,List.length_range]at h1
   rw[List.getElem_map,List.getElem_map,List.getElem_range,Nat.zero_add]
   exact hg j h1
 have e2:Lib.join (((List.range ps.length).map (fun j=>g (0+j))).map (·.data.toList)) (⟨#[44,32]⟩:ByteArray).data.toList=cK ps:=by
  rw[e,List.map_map]
  exact fz8 ps
 unfold Join
 show(if(Lib.join (((List.range ps.length).map (fun j=>g (0+j))).map (·.data.toList)) (⟨#[44,32]⟩:ByteArray).data.toList).length≤140737488355328∧ps.length≤140737488355328 then some (mkB (Lib.join (((List.range ps.length).map (fun j=>g (0+j))).map (·.data.toList)) (⟨#[44,32]⟩:ByteArray).data.toList))else none)=_
 rw[e2,if_pos ⟨by omega,by omega⟩]
theorem bj9{q:Nat}{c:Prc}{x:List UInt8}{l:List Tkn}(h:PrP c x l)(hq:3*szT c.b+30≤q)(hs:szT c.b≤1000000){b0:List UInt8}{z:Nat×FI}(hz:RB (b0++hdL c) z)(hl:b0.length+x.length≤1000000000):
 Rs (pbk q ((eT c.b).1,(eT c.b).2.1,(eT c.b).2.2.1,(eT c.b).2.2.2.1,(eT c.b).2.2.2.2,0,z)) (fun z=>Rs (gM q (0,1,fun j=>⟨#[125]⟩,z)) (fun y=>RB (b0++x) y.2.2)):=by
 obtain⟨_,hm,ys,xy,ly,dy,vy,hS,hb,hd,hv1,hv2,hx,rfl⟩:=h
 have hx2:x=hdL c++(xy++[125,10]):=by
  rw[hx];unfold hdL bL
  simp
 rw[hb]at hq hs⊢
 simp only[szT]at hq hs
 have hlx:x.length=(hdL c).length+(xy.length+2):=by rw[hx2,List.length_append,List.length_append];rfl
 have hp:=ht7 hS (by omega)
 have e1:((eT (.node 14 0 ⟨#[]⟩ ys)).1,(eT (.node 14 0 ⟨#[]⟩ ys)).2.1,(eT (.node 14 0 ⟨#[]⟩ ys)).2.2.1,(eT (.node 14 0 ⟨#[]⟩ ys)).2.2.2.1,(eT (.node 14 0 ⟨#[]⟩ ys)).2.2.2.2,(0:Int),z)=aS (.node 14 0 ⟨#[]⟩ ys) 0 z:=rfl
 rw[e1]
 refine(cq0 hp (by omega) hz (by rw[List.length_append];omega) (by omega) 14 0 ⟨#[]⟩).mono fun z2 h2=>?_
 refine(ln1 (i:=0) (x:=[125,10]) (by omega) (by omega) rfl h2 rfl (by rw[List.length_append,List.length_append];show _+2≤_;omega)).mono fun z3 h3=>?_
 rw[hx2]
 have e:b0++hdL c++xy++[125,10]=b0++(hdL c++(xy++[125,10])):=by simp
 rw[e]at h3
 exact h3
theorem gs6{c:Prc}{x:List UInt8}{l:List Tkn}(h:PrP c x l):(hdL c).length≤x.length∧(cK c.ps).length≤x.length∧c.ps.length≤12:=by
 obtain⟨_,hm,ys,xy,ly,dy,vy,hS,hb,hd,hv1,hv2,hx,rfl⟩:=h
 have hx2:x=hdL c++(xy++[125,10]):=by
  rw[hx];unfold hdL bL
  simp
 refine⟨by rw[hx2,List.length_append];omega,?_,?_⟩
 ·rw[hx];simp only[List.length_append,List.length_cons];omega
 ·rw[List.length_append,List.length_map]at hv2;omega
def bc1(cs:List Prc):i6:=(cs.length,cX cs,cQ cs,cN cs,cU cs,fun j=>(cT cs j).1,fun j=>(cT cs j).2.1,fun j=>(cT cs j).2.2.1,fun j=>(cT cs j).2.2.2.1,fun j=>(cT cs j).2.2.2.2)
theorem hd3{cs:List Prc}{i:Nat}{c:Prc}(h:cs[i]? =some c):cX cs i=c.x∧cQ cs i=c.ps.length∧(∀j (h:j<c.ps.length),cN cs i j=c.ps[j].x)∧(∀j (h:j<c.ps.length),cU cs i j=c.ps[j].u)∧cT cs i=eT c.b:=by
 have e:cs.getD i dC=c:=by rw[List.getD_eq_getElem?_getD,h];rfl
 unfold cX cQ cN cU cT
 rw[e]
 refine⟨rfl,rfl,fun j h=>?_,fun j h=>?_,rfl⟩<;>(rw[List.getD_eq_getElem?_getD,List.getElem?_eq_getElem h];rfl)
noncomputable def cx6(q Q0:Nat)(x:i6):dW→Option (dW⊕qH):=Sum.elim (fun y=>jP (Join q) (zZ q) (wV q) (gM q) (pbk q) (String q) (kE q) (gN (Join q) (zZ q) (wV q) (gM q) (pbk q) (String q) (kE q) Q0 x) (x9 (Join q) (zZ q) (wV q) (gM q) (pbk q) (String q) (kE q) Q0 x) x y (fun y=>some (.inl y)) (fun z=>some (.inr z))) (fun y=>eV (Join q) (zZ q) (wV q) (gM q) (pbk q) (String q) (kE q) (gN (Join q) (zZ q) (wV q) (gM q) (pbk q) (String q) (kE q) Q0 x) (x9 (Join q) (zZ q) (wV q) (gM q) (pbk q) (String q) (kE q) Q0 x) x y (fun y=>some (.inl y)) (fun z=>some (.inr z)))
theorem er6{q Q0:Nat}(cs0:List Prc)(hq:∀c∈cs0,3*szT c.b+30≤q∧szT c.b≤1000000)(hq0:30≤q)(hQ:20≤Q0)(hn:cs0.length≤10000){cs:List Prc}{x:List UInt8}{l:List Tkn}(h:PrPs cs x l):∀(q2 i:Nat) (b:List UInt8) (z:Nat×FI),cs.length<q2→cs0.drop i=cs→i≤cs0.length→RB b z→b.length+x.length≤1000000000→
 Rs (lpG (cx6 q Q0 (bc1 cs0)) q2 (.inr (z.1,z.2,(i:Int)))) (fun y=>∃z,y= .inr z∧RB (b++x) z):=by
 induction h with
 |nil=>
  intro q2 i b z hlt hd hi hz hl
  obtain⟨q2,rfl⟩:∃q',q2=q'+1:=⟨q2-1,by simp at hlt;omega⟩
  have:cs0.length≤i:=List.drop_eq_nil_iff.1 hd
  refine Rs.step ?_
  dsimp only[cx6,Sum.elim]
  unfold eV
  dsimp only[bc1]
  refine Rs.neg (fun h=>by have:=of_decide_eq_true h;omega) (Rs.some ⟨z,rfl,?_⟩)
  rw[List.append_nil];exact hz
 |cons c cs x l xs ls hP _ ih=>
  intro q2 i b z hlt hd hi hz hl
  obtain⟨q2,rfl⟩:∃q',q2=q'+1:=⟨q2-1,by simp at hlt;omega⟩
  rw[List.length_append]at hl
  have hc:cs0[i]? =some c:=by
   have:(cs0.drop i)[0]? =some c:=by rw[hd];rfl
   rw[List.getElem?_drop]at this
   simpa using this
  obtain⟨hil,hci⟩:=List.getElem?_eq_some_iff.1 hc
  have hd2:cs0.drop (i+1)=cs:=by
   have:(cs0.drop i).drop 1=cs:=by rw[hd];rfl
   rw[List.drop_drop]at this
   exact this
  obtain⟨eX,eQ,eN,eU,eT'⟩:=hd3 hc
  obtain⟨k1,k2,k3⟩:=gs6 hP
  have hmem:c∈cs0:=by rw[←hci];exact List.getElem_mem hil
  obtain⟨s1,s2⟩:=hq c hmem
  refine Rs.step3 fun Q hQ2=>?_
  dsimp only[cx6,Sum.elim]
  unfold eV
  dsimp only[bc1]
  refine Rs.pos (decide_eq_true (by omega)) (Rs.pos ⟨by omega,by omega⟩ ?_)
  rw[Int.toNat_natCast,eX,eQ,eT']
  refine Rs.bind (ib3 _ _ _ _ _ _ _ _ hP.pm k3 (i:Int) (cN cs0 i) (cU cs0 i) z.1 z.2 c.x _ _ _ _ _ eN eU hQ) fun y hy=>?_
  rcases hy with⟨e,rfl⟩ | ⟨g,rfl,hg⟩
  ·dsimp only[Sum.elim]
   refine Rs.bind (Rs.of rfl) fun _ _=>?_
   refine Rs.bind (fn1 (c:=c) (t:=⟨#[]⟩) (z:=(z.1,z.2)) (by omega) (by rw[e];rfl) hz (by omega)) fun y1 h1=>?_
   refine Rs.bind (bj9 hP s1 s2 h1 (by omega)) fun y2 h2=>?_
   refine Rs.bind h2 fun y3 h3=>Rs.some (hQ2 _ ?_)
   rw[s9 (by omega),←List.append_assoc]
   exact ih q2 (i+1) (b++x) (y3.2.2.1,y3.2.2.2) (by simp at hlt;omega) hd2 hil h3 (by rw[List.length_append];omega)
  ·dsimp only[Sum.elim]
   refine Rs.pos ⟨by omega,rfl⟩ ?_
   refine Rs.bind (Rs.of (fi5 hg (by omega) (by omega) q)) fun t ht=>?_
   refine Rs.bind (fn1 (c:=c) (t:=t) (z:=(z.1,z.2)) (by omega) ht hz (by omega)) fun y1 h1=>?_
   refine Rs.bind (bj9 hP s1 s2 h1 (by omega)) fun y2 h2=>?_
   refine Rs.bind h2 fun y3 h3=>Rs.some (hQ2 _ ?_)
   rw[s9 (by omega),←List.append_assoc]
   exact ih q2 (i+1) (b++x) (y3.2.2.1,y3.2.2.2) (by simp at hlt;omega) hd2 hil h3 (by rw[List.length_append];omega)
theorem ga5{b:List UInt8}{z:Nat×FI}(h:RB b z):am5 z.1 z.2=b:=by
 obtain⟨h1,h2⟩:=h
 unfold am5
 rw[h1]
 apply List.ext_getElem
 ·simp
 ·intro j g1 g2
  rw[List.getElem_map,List.getElem_range,h2 j g2,List.getD_eq_getElem?_getD,List.getElem?_eq_getElem g2]
  simp
theorem gk2{cs:List Prc}{x:List UInt8}{l:List Tkn}(h:PrPs cs x l){q:Nat}(hq:∀c∈cs,3*szT c.b+30≤q∧szT c.b≤1000000)(hn:cs.length+30≤q)(hn2:cs.length≤10000)(hl:x.length≤1000000000):ek5 q (bc1 cs)=some (mkB x):=by
 refine Rs.eq ?_
 unfold ek5 as1
 have hloop:Rs (bl8 (Join q) (zZ q) (wV q) (gM q) (pbk q) (String q) (kE q) q (bc1 cs) (.inl ())) (fun y=>(x=[]∧y= .inl ())∨∃z,y= .inr z∧RB x z∧0<x.length):=by
  show Rs (lpG (cx6 q q (bc1 cs)) q (.inl ())) _
  obtain⟨q2,rfl⟩:∃q',q=q'+1:=⟨q-1,by omega⟩
  refine Rs.step3 fun Q hQ2=>?_
  dsimp only[cx6,Sum.elim]
  unfold jP
  dsimp only[bc1]
  cases h with
  |nil=>exact Rs.neg (by decide) (Rs.some (.inl ⟨rfl,rfl⟩))
  |cons c cs x l xs ls hP hPs=>
   obtain⟨eX,eQ,eN,eU,eT'⟩:=hd3 (cs:=c::cs) (i:=0) rfl
   obtain⟨k1,k2,k3⟩:=gs6 hP
   rw[List.length_append]at hl
   obtain⟨s1,s2⟩:=hq c (by simp)
   refine Rs.pos (decide_eq_true (by rw[List.length_cons];omega)) (Rs.pos ⟨by omega,by rw[List.length_cons];omega⟩ ?_)
   rw[eX,eT']
   have hxl:0<x.length:=by
    have:0< (hdL c).length:=by unfold hdL;simp
    omega
   have fin:∀z:Nat×FI,RB x z→Rs (lpG (cx6 (q2+1) (q2+1) (bc1 (c::cs))) q2 (.inr (z.1,z.2,((1:Nat):Int)))) (fun y=>(x++xs=[]∧y= .inl ())∨∃z,y= .inr z∧RB (x++xs) z∧0< (x++xs).length):=by
    intro z hz
    refine(er6 (c::cs) hq (by omega) (by omega) hn2 hPs q2 1 x z (by simp only[List.length_cons]at hn;omega) rfl (by simp) hz (by omega)).mono ?_
    rintro y ⟨z,rfl,h2⟩
    exact .inr ⟨z,rfl,h2,by rw[List.length_append];omega⟩
   refine Rs.bind (ii9 _ _ _ _ _ _ _ (bc1 (c::cs)) hP.pm k3 eQ eN eU (q:=q2+1) (by omega)) fun y hy=>?_
   rcases hy with⟨e,rfl⟩ | ⟨g,rfl,hg⟩
   ·dsimp only[Sum.elim]
    refine Rs.bind (Rs.of rfl) fun _ _=>?_
    refine Rs.bind (en4 (c:=c) (t:=⟨#[]⟩) (by rw[e];rfl) (by omega)) fun y1 h1=>?_
    refine Rs.bind (bj9 hP s1 s2 (b0:=[]) h1 (by simp;omega)) fun y2 h2=>?_
    exact Rs.bind h2 fun y3 h3=>Rs.some (hQ2 _ (fin _ h3))
   ·dsimp only[Sum.elim]
    refine Rs.pos ⟨by omega,rfl⟩ ?_
    refine Rs.bind (Rs.of (fi5 hg (by omega) (by omega) (q2+1))) fun t ht=>?_
    refine Rs.bind (en4 (c:=c) (t:=t) ht (by omega)) fun y1 h1=>?_
    refine Rs.bind (bj9 hP s1 s2 (b0:=[]) h1 (by simp;omega)) fun y2 h2=>?_
    exact Rs.bind h2 fun y3 h3=>Rs.some (hQ2 _ (fin _ h3))
 refine Rs.bind hloop fun y hy=>?_
 rcases hy with⟨rfl,rfl⟩ | ⟨z,rfl,h1,h2⟩
 ·dsimp only[Sum.elim]
  exact Rs.bind (Rs.of rfl) fun _ _=>Rs.some rfl
 ·dsimp only[Sum.elim]
  refine Rs.bind (P:=fun t=>t=mkB x) ?_ fun t ht=>Rs.some ht
  unfold String
  refine Rs.pos ⟨by rw[h1.1];exact h2,fun j hj=>?_⟩ (Rs.some (by rw[ga5 h1];rfl))
  rw[h1.2 j (by rw[←h1.1];exact hj)]
  have:=(x.getD j 0).toNat_lt
  omega
end Go.Proofs.YtjfkkokeegpeiaaGreatDoor
/- The printer of the reference, lifted. -/
namespace Go.Proofs.YtjfkkokeegpeiaaGreatDoor
open Go Go.Am Go.Proofs Go.Proofs.Lx
set_option maxRecDepth 100000
abbrev yC:Type:=Int×Int×ByteArray×Nat×FL×ByteArray
abbrev ae5:Type:=ByteArray
def rU:AR yC:=fun x=>([.agg [i64 x.1,i64 x.2.1,st x.2.2.1,.ro 4 x.2.2.2.1 x.2.2.2.2.1],st x.2.2.2.2.2],[])
def hd9(t:TT):yC:=((vI (ca t 0 0)),vI (ca t 0 1),vS (ca t 0 2),u7 (ca t 0 3),iU (ca t 0 3),vS (ag t 1))
theorem fl2:VI rU:=vd hd9 fun _=>rfl
def bm7:ae5→CRes:=fun z=>.ret (st z) []
abbrev eO:Type:=Int×Int×ByteArray×Nat×FL×ByteArray
abbrev gV:Type:=ByteArray
def aA:AR eO:=fun x=>([.agg [i64 x.1,i64 x.2.1,st x.2.2.1,.ro 4 x.2.2.2.1 x.2.2.2.2.1],st x.2.2.2.2.2],[])
def ft8(t:TT):eO:=((vI (ca t 0 0)),vI (ca t 0 1),vS (ca t 0 2),u7 (ca t 0 3),iU (ca t 0 3),vS (ag t 1))
theorem aq9:VI aA:=vd ft8 fun _=>rfl
def kX:gV→CRes:=fun z=>.ret (st z) []
abbrev be9:Type:=Int×Int×ByteArray×Nat×FL×ByteArray
abbrev bg1:Type:=ByteArray
def ag5:AR be9:=fun x=>([.agg [i64 x.1,i64 x.2.1,st x.2.2.1,.ro 4 x.2.2.2.1 x.2.2.2.2.1],st x.2.2.2.2.2],[])
def he5(t:TT):be9:=((vI (ca t 0 0)),vI (ca t 0 1),vS (ca t 0 2),u7 (ca t 0 3),iU (ca t 0 3),vS (ag t 1))
theorem hm8:VI ag5:=vd he5 fun _=>rfl
def dr0:bg1→CRes:=fun z=>.ret (st z) []
abbrev du0:Type:=Int×Int×ByteArray×Nat×FI×FI×FS×FN×FM×ByteArray
abbrev ci1:Type:=ByteArray
def be7:AR du0:=fun x=>([.agg [i64 x.1,i64 x.2.1,st x.2.2.1,.ro 4 x.2.2.2.1 (fun j=>[i64 (x.2.2.2.2.1 j),i64 (x.2.2.2.2.2.1 j),st (x.2.2.2.2.2.2.1 j),.ro 4 (x.2.2.2.2.2.2.2.1 j) (x.2.2.2.2.2.2.2.2.1 j)])],st x.2.2.2.2.2.2.2.2.2],[])
def ep5:ci1→CRes:=fun z=>.ret (st z) []
abbrev ch9:Type:=Int×Int×ByteArray×Nat×FL×ByteArray
abbrev bd5:Type:=ByteArray
def ba4:AR ch9:=fun x=>([.agg [i64 x.1,i64 x.2.1,st x.2.2.1,.ro 4 x.2.2.2.1 x.2.2.2.2.1],st x.2.2.2.2.2],[])
def cf1:bd5→CRes:=fun z=>.ret (st z) []
abbrev sO:Type:=Int×Int×ByteArray×Nat×FI×FI×FS×FN×FM×ByteArray
abbrev ck1:Type:=ByteArray
def bg6:AR sO:=fun x=>([.agg [i64 x.1,i64 x.2.1,st x.2.2.1,.ro 4 x.2.2.2.1 (fun j=>[i64 (x.2.2.2.2.1 j),i64 (x.2.2.2.2.2.1 j),st (x.2.2.2.2.2.2.1 j),.ro 4 (x.2.2.2.2.2.2.2.1 j) (x.2.2.2.2.2.2.2.2.1 j)])],st x.2.2.2.2.2.2.2.2.2],[])
def eb4:ck1→CRes:=fun z=>.ret (st z) []
def x5{β:Type}(c_Decimal:m6→Option s6)(c_RExprV:bj7→Option cj2)(c_rbraces:eO→Option gV)(x:du0)(dn:ci1→Option β):Option β:=
 (c_Decimal x.2.1).bind fun z1=>if(x.1==1)=true then if 4+x.2.2.1.size≤maxLen then if ByteArray.size (⟨#[108,101,116,32]⟩++x.2.2.1)+3≤maxLen then if(0:Int)≤0∧0< ((x.2.2.2.1:Nat):Int)then(c_RExprV (x.2.2.2.2.1 0,x.2.2.2.2.2.1 0,x.2.2.2.2.2.2.1 0,x.2.2.2.2.2.2.2.1 0,x.2.2.2.2.2.2.2.2.1 0)).bind fun z7=>if ByteArray.size (⟨#[108,101,116,32]⟩++x.2.2.1++⟨#[32,61,32]⟩)+z7.size≤maxLen then if ByteArray.size (⟨#[108,101,116,32]⟩++x.2.2.1++⟨#[32,61,32]⟩++z7)+1≤maxLen then dn (⟨#[108,101,116,32]⟩++x.2.2.1++⟨#[32,61,32]⟩++z7++⟨#[59]⟩)else none else none else none else none else none else if(x.1==2)=true then if x.2.2.1.size+3≤maxLen then if(0:Int)≤0∧0< ((x.2.2.2.1:Nat):Int)then(c_RExprV (x.2.2.2.2.1 0,x.2.2.2.2.2.1 0,x.2.2.2.2.2.2.1 0,x.2.2.2.2.2.2.2.1 0,x.2.2.2.2.2.2.2.2.1 0)).bind fun z13=>if ByteArray.size (x.2.2.1++⟨#[32,61,32]⟩)+z13.size≤maxLen then if ByteArray.size (x.2.2.1++⟨#[32,61,32]⟩++z13)+1≤maxLen then dn (x.2.2.1++⟨#[32,61,32]⟩++z13++⟨#[59]⟩)else none else none else none else none else if(x.1==3)=true then if(0:Int)≤0∧0< ((x.2.2.2.1:Nat):Int)then(c_RExprV (x.2.2.2.2.1 0,x.2.2.2.2.2.1 0,x.2.2.2.2.2.2.1 0,x.2.2.2.2.2.2.2.1 0,x.2.2.2.2.2.2.2.2.1 0)).bind fun z19=>if 3+z19.size≤maxLen then if ByteArray.size (⟨#[105,102,32]⟩++z19)+1≤maxLen then if(0:Int)≤1∧1< ((x.2.2.2.1:Nat):Int)then(c_rbraces (x.2.2.2.2.1 1,x.2.2.2.2.2.1 1,x.2.2.2.2.2.2.1 1,x.2.2.2.2.2.2.2.1 1,x.2.2.2.2.2.2.2.2.1 1,x.2.2.2.2.2.2.2.2.2)).bind fun z26=>if ByteArray.size (⟨#[105,102,32]⟩++z19++⟨#[32]⟩)+z26.size≤maxLen then if(0:Int)≤2∧2< ((x.2.2.2.1:Nat):Int)then if decide (((x.2.2.2.2.2.2.2.1 2:Nat):Int)>0)=true then if ByteArray.size (⟨#[105,102,32]⟩++z19++⟨#[32]⟩++z26)+6≤maxLen then if(0:Int)≤2∧2< ((x.2.2.2.1:Nat):Int)then(c_rbraces (x.2.2.2.2.1 2,x.2.2.2.2.2.1 2,x.2.2.2.2.2.2.1 2,x.2.2.2.2.2.2.2.1 2,x.2.2.2.2.2.2.2.2.1 2,x.2.2.2.2.2.2.2.2.2)).bind fun z33=>if ByteArray.size (⟨#[105,102,32]⟩++z19++⟨#[32]⟩++z26++⟨#[32,101,108,115,101,32]⟩)+z33.size≤maxLen then dn (⟨#[105,102,32]⟩++z19++⟨#[32]⟩++z26++⟨#[32,101,108,115,101,32]⟩++z33)else none else none else none else dn (⟨#[105,102,32]⟩++z19++⟨#[32]⟩++z26)else none else none else none else none else none else none else if(x.1==4)=true then if 7+z1.size≤maxLen then if ByteArray.size (⟨#[114,101,112,101,97,116,32]⟩++z1)+1≤maxLen then if(0:Int)≤0∧0< ((x.2.2.2.1:Nat):Int)then(c_rbraces (x.2.2.2.2.1 0,x.2.2.2.2.2.1 0,x.2.2.2.2.2.2.1 0,x.2.2.2.2.2.2.2.1 0,x.2.2.2.2.2.2.2.2.1 0,x.2.2.2.2.2.2.2.2.2)).bind fun z40=>if ByteArray.size (⟨#[114,101,112,101,97,116,32]⟩++z1++⟨#[32]⟩)+z40.size≤maxLen then dn (⟨#[114,101,112,101,97,116,32]⟩++z1++⟨#[32]⟩++z40)else none else none else none else none else if(x.1==5)=true then if(0:Int)≤0∧0< ((x.2.2.2.1:Nat):Int)then(c_RExprV (x.2.2.2.2.1 0,x.2.2.2.2.2.1 0,x.2.2.2.2.2.2.1 0,x.2.2.2.2.2.2.2.1 0,x.2.2.2.2.2.2.2.2.1 0)).bind fun z46=>if 5+z46.size≤maxLen then if ByteArray.size (⟨#[119,97,105,116,32]⟩++z46)+1≤maxLen then dn (⟨#[119,97,105,116,32]⟩++z46++⟨#[59]⟩)else none else none else none else if(x.1==6)=true then if(0:Int)≤0∧0< ((x.2.2.2.1:Nat):Int)then(c_RExprV (x.2.2.2.2.1 0,x.2.2.2.2.2.1 0,x.2.2.2.2.2.2.1 0,x.2.2.2.2.2.2.2.1 0,x.2.2.2.2.2.2.2.2.1 0)).bind fun z52=>if 6+z52.size≤maxLen then if ByteArray.size (⟨#[97,119,97,105,116,32]⟩++z52)+8≤maxLen then if(0:Int)≤1∧1< ((x.2.2.2.1:Nat):Int)then(c_RExprV (x.2.2.2.2.1 1,x.2.2.2.2.2.1 1,x.2.2.2.2.2.2.1 1,x.2.2.2.2.2.2.2.1 1,x.2.2.2.2.2.2.2.2.1 1)).bind fun z58=>if ByteArray.size (⟨#[97,119,97,105,116,32]⟩++z52++⟨#[32,119,105,116,104,105,110,32]⟩)+z58.size≤maxLen then if ByteArray.size (⟨#[97,119,97,105,116,32]⟩++z52++⟨#[32,119,105,116,104,105,110,32]⟩++z58)+1≤maxLen then dn (⟨#[97,119,97,105,116,32]⟩++z52++⟨#[32,119,105,116,104,105,110,32]⟩++z58++⟨#[59]⟩)else none else none else none else none else none else none else if(x.1==7)=true then if(0:Int)≤0∧0< ((x.2.2.2.1:Nat):Int)then(c_RExprV (x.2.2.2.2.1 0,x.2.2.2.2.2.1 0,x.2.2.2.2.2.2.1 0,x.2.2.2.2.2.2.2.1 0,x.2.2.2.2.2.2.2.2.1 0)).bind fun z64=>if 8+z64.size≤maxLen then if ByteArray.size (⟨#[114,101,113,117,105,114,101,32]⟩++z64)+1≤maxLen then dn (⟨#[114,101,113,117,105,114,101,32]⟩++z64++⟨#[59]⟩)else none else none else none else if(x.1==8)=true then if(0:Int)≤0∧0< ((x.2.2.2.1:Nat):Int)then(c_RExprV (x.2.2.2.2.1 0,x.2.2.2.2.2.1 0,x.2.2.2.2.2.2.1 0,x.2.2.2.2.2.2.2.1 0,x.2.2.2.2.2.2.2.2.1 0)).bind fun z70=>if 6+z70.size≤maxLen then if ByteArray.size (⟨#[112,111,105,110,116,32]⟩++z70)+1≤maxLen then dn (⟨#[112,111,105,110,116,32]⟩++z70++⟨#[59]⟩)else none else none else none else if(x.1==9)=true then if 4+z1.size≤maxLen then if ByteArray.size (⟨#[117,115,101,32]⟩++z1)+5≤maxLen then if(0:Int)≤0∧0< ((x.2.2.2.1:Nat):Int)then(c_RExprV (x.2.2.2.2.1 0,x.2.2.2.2.2.1 0,x.2.2.2.2.2.2.1 0,x.2.2.2.2.2.2.2.1 0,x.2.2.2.2.2.2.2.2.1 0)).bind fun z76=>if ByteArray.size (⟨#[117,115,101,32]⟩++z1++⟨#[32,102,111,114,32]⟩)+z76.size≤maxLen then if ByteArray.size (⟨#[117,115,101,32]⟩++z1++⟨#[32,102,111,114,32]⟩++z76)+1≤maxLen then dn (⟨#[117,115,101,32]⟩++z1++⟨#[32,102,111,114,32]⟩++z76++⟨#[59]⟩)else none else none else none else none else none else if(x.1==10)=true then if 5+z1.size≤maxLen then if ByteArray.size (⟨#[115,101,110,100,32]⟩++z1)+2≤maxLen then if(0:Int)≤0∧0< ((x.2.2.2.1:Nat):Int)then(c_RExprV (x.2.2.2.2.1 0,x.2.2.2.2.2.1 0,x.2.2.2.2.2.2.1 0,x.2.2.2.2.2.2.2.1 0,x.2.2.2.2.2.2.2.2.1 0)).bind fun z82=>if ByteArray.size (⟨#[115,101,110,100,32]⟩++z1++⟨#[44,32]⟩)+z82.size≤maxLen then if ByteArray.size (⟨#[115,101,110,100,32]⟩++z1++⟨#[44,32]⟩++z82)+1≤maxLen then dn (⟨#[115,101,110,100,32]⟩++z1++⟨#[44,32]⟩++z82++⟨#[59]⟩)else none else none else none else none else none else if(x.1==11)=true then if(0:Int)≤0∧0< ((x.2.2.2.1:Nat):Int)then(c_RExprV (x.2.2.2.2.1 0,x.2.2.2.2.2.1 0,x.2.2.2.2.2.2.1 0,x.2.2.2.2.2.2.2.1 0,x.2.2.2.2.2.2.2.2.1 0)).bind fun z88=>if 5+z88.size≤maxLen then if ByteArray.size (⟨#[107,101,101,112,32]⟩++z88)+1≤maxLen then dn (⟨#[107,101,101,112,32]⟩++z88++⟨#[59]⟩)else none else none else none else if(x.1==12)=true then if 5+z1.size≤maxLen then if ByteArray.size (⟨#[101,109,105,116,32]⟩++z1)+1≤maxLen then dn (⟨#[101,109,105,116,32]⟩++z1++⟨#[59]⟩)else none else none else if 6+z1.size≤maxLen then if ByteArray.size (⟨#[97,98,111,114,116,32]⟩++z1)+1≤maxLen then dn (⟨#[97,98,111,114,116,32]⟩++z1++⟨#[59]⟩)else none else none
theorem go9{β:Type}(c_Decimal c_RExprV c_rbraces)(x)(dn:ci1→Option β):x5 c_Decimal c_RExprV c_rbraces x dn=(x5 c_Decimal c_RExprV c_rbraces x some).bind dn:=by
 unfold x5
 repeat' first|exact n0|refine n1 fun _=>?_|refine n2 ?_ ?_|refine n3 (fun _=>?_) fun _=>?_|rfl
theorem gc8(c_Decimal c_RExprV c_rbraces)(x):f7 E5 (ftb 31 j3 s7 c_Decimal (ftb 17 ap7 ce2 c_RExprV (ftb 38 aA kX c_rbraces ca0))) lo0 106 (be7 x).1 (be7 x).2 K=x5 (vf j3 c_Decimal) (vf ap7 c_RExprV) (vf aA c_rbraces) x (fun z=>some (.c (ep5 z))):=by kernel_rfl
theorem gf3(c_Decimal)(h_Decimal:Lw E5 31 j3 s7 c_Decimal)(c_RExprV)(h_RExprV:Lw E5 17 ap7 ce2 c_RExprV)(c_rbraces)(h_rbraces:Lw E5 38 aA kX c_rbraces)(q:Nat):Lw E5 106 be7 ep5 fun x=>x5 c_Decimal c_RExprV c_rbraces x some:=sof hW5 hX5 (fk h_Decimal (fk h_RExprV (fk h_rbraces a8))) (fun _=>b6) fun x=>(gc8 c_Decimal c_RExprV c_rbraces x).trans (by rw[gR,gp1,aq9,go9]<;>rfl)
def jO{β:Type}(c_rbody:be9→Option bg1)(x:ch9)(dn:bd5→Option β):Option β:=
 if x.2.2.2.2.2.size+2≤maxLen then(c_rbody (x.1,x.2.1,x.2.2.1,x.2.2.2.1,x.2.2.2.2.1,x.2.2.2.2.2++⟨#[32,32]⟩)).bind fun z6=>if 2+z6.size≤maxLen then if ByteArray.size (⟨#[123,10]⟩++z6)+x.2.2.2.2.2.size≤maxLen then if ByteArray.size (⟨#[123,10]⟩++z6++x.2.2.2.2.2)+1≤maxLen then dn (⟨#[123,10]⟩++z6++x.2.2.2.2.2++⟨#[125]⟩)else none else none else none else none
theorem fe5{β:Type}(c_rbody)(x)(dn:bd5→Option β):jO c_rbody x dn=(jO c_rbody x some).bind dn:=by
 unfold jO
 repeat' first|exact n0|refine n1 fun _=>?_|refine n2 ?_ ?_|refine n3 (fun _=>?_) fun _=>?_|rfl
theorem ev7(c_rbody)(x):f7 E5 (ftb 75 ag5 dr0 c_rbody ca0) lo0 38 (ba4 x).1 (ba4 x).2 K=jO (vf ag5 c_rbody) x (fun z=>some (.c (cf1 z))):=by kernel_rfl
theorem ex8(c_rbody)(h_rbody:Lw E5 75 ag5 dr0 c_rbody)(q:Nat):Lw E5 38 ba4 cf1 fun x=>jO c_rbody x some:=sof hW5 hX5 (fk h_rbody a8) (fun _=>b6) fun x=>(ev7 c_rbody x).trans (by rw[hm8,fe5]<;>rfl)
abbrev jD:Type:=ByteArray×Int
abbrev yK:Type:=ByteArray
def nW(x:sO)(y:jD):St:={fr:=[V.junk,st x.2.2.2.2.2.2.2.2.2,V.ptr 0 0,V.junk,V.junk,st y.1,i64 y.2]++jk 20,H:=hp [some (Chunk.blk [i64 x.1,i64 x.2.1,st x.2.2.1,V.ro 4 x.2.2.2.1 fun j=>[i64 (x.2.2.2.2.1 j),i64 (x.2.2.2.2.2.1 j),st (x.2.2.2.2.2.2.1 j),V.ro 4 (x.2.2.2.2.2.2.2.1 j) (x.2.2.2.2.2.2.2.2.1 j)]])],nx:=1,rt:=0,me:=75}
def el5(s:St):jD:=((vS (s.fr.getD 5 .junk)),vI (s.fr.getD 6 .junk))
theorem dz4(x:sO):VL (nW x):=vl el5 fun _=>rfl
def xX(x:sO):yK→Ex×St:=(fun z=>(Ex.exit 0,{fr:=jk 5++[st z]++jk 21,H:=hp [],nx:=0,rt:=0,me:=75}))
def iY{β:Type}(c_rline:yC→Option ae5)(x:sO)(y:jD)(nx:jD→Option β)(dn:yK→Option β):Option β:=
 if decide (y.2< ((x.2.2.2.1:Nat):Int))=true then if y.1.size+x.2.2.2.2.2.2.2.2.2.size≤maxLen then if 0≤y.2∧y.2< ((x.2.2.2.1:Nat):Int)then(c_rline (x.2.2.2.2.1 (Int.toNat y.2),x.2.2.2.2.2.1 (Int.toNat y.2),x.2.2.2.2.2.2.1 (Int.toNat y.2),x.2.2.2.2.2.2.2.1 (Int.toNat y.2),x.2.2.2.2.2.2.2.2.1 (Int.toNat y.2),x.2.2.2.2.2.2.2.2.2)).bind fun z41=>if ByteArray.size (y.1++x.2.2.2.2.2.2.2.2.2)+z41.size≤maxLen then if ByteArray.size (y.1++x.2.2.2.2.2.2.2.2.2++z41)+1≤maxLen then nx (y.1++x.2.2.2.2.2.2.2.2.2++z41++⟨#[10]⟩,w (y.2+1))else none else none else none else none else dn y.1
theorem ej4{β:Type}(c_rline)(x)(y)(nx:jD→Option β)(dn):iY c_rline x y nx dn=(iY c_rline x y (fun y=>some (.inl y)) (fun z=>some (.inr z))).bind fun r=>Sum.elim nx dn r:=by
 unfold iY
 repeat' first|exact n0|refine n1 fun _=>?_|refine n2 ?_ ?_|refine n3 (fun _=>?_) fun _=>?_|rfl
theorem dz2(c_rline)(x)(y)(lo:f5):n8 E5 (ftb 106 rU bm7 c_rline ca0) lo 0 102 (b5 E5 75 0) (nW x y) (KCM [(0,32)] 16)=iY (vf rU c_rline) x y (fun y=>lo 0 102 (b5 E5 75 0) (nW x y) (KCM [(0,32)] 16)) (fun z=>some (.l (xX x z).1 (xX x z).2)):=by kernel_rfl
noncomputable def kY(c_rline:yC→Option ae5)(q:Nat)(x:sO):jD→Option yK:=lpG (fun y=>iY c_rline x y (fun y=>some (.inl y)) (fun z=>some (.inr z))) q
theorem em6(c_rline)(h_rline:Lw E5 106 rU bm7 c_rline)(q:Nat)(x:sO):Ll E5 (b5 E5 75 0) (nW x) (xX x) (kY c_rline q x):=
 slp (fk h_rline a8) hX5 (fun lo y=>(dz2 c_rline x y lo).trans (by rw[fl2];exact ej4 _ _ _ _ _)) (fun _=>by kernel_rfl) q
def sF{β:Type}(c_rline:yC→Option ae5)(l_rbodyN_l0:jD→Option yK)(x:sO)(dn:ck1→Option β):Option β:=
 (l_rbodyN_l0 (⟨#[]⟩,0)).bind fun z22=>dn z22
theorem gm8{β:Type}(c_rline)(l_rbodyN_l0)(x)(dn:ck1→Option β):sF c_rline l_rbodyN_l0 x dn=(sF c_rline l_rbodyN_l0 x some).bind dn:=by
 unfold sF
 repeat' first|exact n0|refine n1 fun _=>?_|refine n2 ?_ ?_|refine n3 (fun _=>?_) fun _=>?_|rfl
theorem gl3(c_rline)(l_rbodyN_l0)(x):f7 E5 (ftb 106 rU bm7 c_rline ca0) (lt1 0 (fun _=>true) (b5 E5 75 0) (nW x) (xX x) l_rbodyN_l0 lo0) 75 (bg6 x).1 (bg6 x).2 K=sF (vf rU c_rline) (lf (b5 E5 75 0) (nW x) l_rbodyN_l0) x (fun z=>some (.c (eb4 z))):=by kernel_rfl
theorem gr1(c_rline)(h_rline:Lw E5 106 rU bm7 c_rline)(q:Nat):Lw E5 75 bg6 eb4 fun x=>sF c_rline (kY c_rline q x) x some:=sof hW5 hX5 (fk h_rline a8) (fun x=>(lk1 (em6 c_rline h_rline q x) b6)) fun x=>(gl3 c_rline (kY c_rline q x) x).trans (by rw[fl2,dz4,gm8]<;>rfl)
open Classical in
noncomputable def bz4:Nat→(yC→Option ae5)×(eO→Option gV)×(be9→Option bg1)
 |0=>(fun _=>none,fun _=>none,fun _=>none)
 |q+1=>(fun x=>if xW x.2.2.2.2.1 then x5 (f9 q) (yY q) (bz4 q).2.1 (x.1,x.2.1,x.2.2.1,x.2.2.2.1,opK x.2.2.2.2.1,opN x.2.2.2.2.1,opS x.2.2.2.2.1,opM x.2.2.2.2.1,opF x.2.2.2.2.1,x.2.2.2.2.2) some else none,
  fun x=>jO (bz4 q).2.2 x some,
  fun x=>if xW x.2.2.2.2.1 then sF (bz4 q).1 (kY (bz4 q).1 q (x.1,x.2.1,x.2.2.1,x.2.2.2.1,opK x.2.2.2.2.1,opN x.2.2.2.2.1,opS x.2.2.2.2.1,opM x.2.2.2.2.1,opF x.2.2.2.2.1,x.2.2.2.2.2)) (x.1,x.2.1,x.2.2.1,x.2.2.2.1,opK x.2.2.2.2.1,opN x.2.2.2.2.1,opS x.2.2.2.2.1,opM x.2.2.2.2.1,opF x.2.2.2.2.1,x.2.2.2.2.2) some else none)
noncomputable def ce1(q:Nat):yC→Option ae5:=(bz4 q).1
noncomputable def kW(q:Nat):eO→Option gV:=(bz4 q).2.1
noncomputable def da5(q:Nat):be9→Option bg1:=(bz4 q).2.2
theorem gy1:∀q,(∀x z,ce1 q x=some z→SC E5 106 (rU x).1 (rU x).2 (bm7 z))∧(∀x z,kW q x=some z→SC E5 38 (aA x).1 (aA x).2 (kX z))∧(∀x z,da5 q x=some z→SC E5 75 (ag5 x).1 (ag5 x).2 (dr0 z)):=by
 intro q
 induction q with
 |zero=>exact⟨(fun x z h=>by cases h),(fun x z h=>by cases h),(fun x z h=>by cases h)⟩
 |succ q ih=>
  obtain⟨h1,h2,h3⟩:=ih
  refine⟨fun x z h=>?_,fun x z h=>ex8 (da5 q) h3 q x z h,fun x z h=>?_⟩
  ·unfold ce1 bz4 at h
   dsimp only at h
   split at h
   ·rename_i hO
    have this:=gf3 (f9 q) (wC q) (yY q) (fv7 q) (kW q) h2 q (x.1,x.2.1,x.2.2.1,x.2.2.2.1,opK x.2.2.2.2.1,opN x.2.2.2.2.1,opS x.2.2.2.2.1,opM x.2.2.2.2.1,opF x.2.2.2.2.1,x.2.2.2.2.2) z h
    unfold be7 at this
    unfold rU
    simp only at this⊢
    rw[cV hO]at this
    exact this
   ·cases h
  ·unfold da5 bz4 at h
   dsimp only at h
   split at h
   ·rename_i hO
    have this:=gr1 (ce1 q) h1 q (x.1,x.2.1,x.2.2.1,x.2.2.2.1,opK x.2.2.2.2.1,opN x.2.2.2.2.1,opS x.2.2.2.2.1,opM x.2.2.2.2.1,opF x.2.2.2.2.1,x.2.2.2.2.2) z h
    unfold bg6 at this
    unfold ag5
    simp only at this⊢
    rw[cV hO]at this
    exact this
   ·cases h
theorem cf9(q:Nat):Lw E5 38 aA kX (kW q):=(gy1 q).2.1
abbrev aY:Type:=Nat×FS×FN×(Nat→Nat→ByteArray)×(Nat→Nat→ByteArray)×FI×FI×FS×FN×FM
abbrev bj1:Type:=ByteArray
def cp5:AR aY:=fun x=>([.ro 6 x.1 (fun j=>[st (x.2.1 j),.ro 2 (x.2.2.1 j) (fun i=>[st (x.2.2.2.1 j i),st (x.2.2.2.2.1 j i)]),i64 (x.2.2.2.2.2.1 j),i64 (x.2.2.2.2.2.2.1 j),st (x.2.2.2.2.2.2.2.1 j),.ro 4 (x.2.2.2.2.2.2.2.2.1 j) (x.2.2.2.2.2.2.2.2.2 j)])],[])
def dt4:bj1→CRes:=fun z=>.ret (st z) []
abbrev iP:Type:=ByteArray×Int×Int
abbrev yN:Type:=ByteArray×Int
def jL(x:aY)(y:iP):St:={fr:=[V.ro 6 x.1 fun j=>[st (x.2.1 j),V.ro 2 (x.2.2.1 j) fun j_1=>[st (x.2.2.2.1 j j_1),st (x.2.2.2.2.1 j j_1)],i64 (x.2.2.2.2.2.1 j),i64 (x.2.2.2.2.2.2.1 j),st (x.2.2.2.2.2.2.2.1 j),V.ro 4 (x.2.2.2.2.2.2.2.2.1 j) (x.2.2.2.2.2.2.2.2.2 j)],V.junk,V.junk,st y.1,i64 y.2.1,i64 y.2.2]++jk 73,H:=hp [],nx:=0,rt:=0,me:=14}
def ee6(s:St):iP:=((vS (s.fr.getD 3 .junk)),vI (s.fr.getD 4 .junk),vI (s.fr.getD 5 .junk))
theorem dy6(x:aY):VL (jL x):=vl ee6 fun _=>rfl
def sK(x:aY):yN→Ex×St:=(fun z=>(Ex.exit 2,{fr:=[V.ro 6 x.1 fun j=>[st (x.2.1 j),V.ro 2 (x.2.2.1 j) fun j_1=>[st (x.2.2.2.1 j j_1),st (x.2.2.2.2.1 j j_1)],i64 (x.2.2.2.2.2.1 j),i64 (x.2.2.2.2.2.2.1 j),st (x.2.2.2.2.2.2.2.1 j),V.ro 4 (x.2.2.2.2.2.2.2.2.1 j) (x.2.2.2.2.2.2.2.2.2 j)],V.junk,V.junk,st z.1,i64 z.2]++jk 74,H:=hp [],nx:=0,rt:=0,me:=14}))
def nL{β:Type}(c_rbraces:eO→Option gV)(x:aY)(y:iP)(nx:iP→Option β)(dn:yN→Option β):Option β:=
 if 0≤y.2.1∧y.2.1< ((x.1:Nat):Int)then if decide (y.2.2< ((x.2.2.1 (Int.toNat y.2.1):Nat):Int))=true then if decide (y.2.2>0)=true then if y.1.size+2≤maxLen then if 0≤y.2.1∧y.2.1< ((x.1:Nat):Int)then if 0≤y.2.2∧y.2.2< ((x.2.2.1 (Int.toNat y.2.1):Nat):Int)then if ByteArray.size (y.1++⟨#[44,32]⟩)+ByteArray.size (x.2.2.2.1 (Int.toNat y.2.1) (Int.toNat y.2.2))≤maxLen then if 0≤y.2.1∧y.2.1< ((x.1:Nat):Int)then if 0≤y.2.2∧y.2.2< ((x.2.2.1 (Int.toNat y.2.1):Nat):Int)then if(!ByteArray.toList (x.2.2.2.2.1 (Int.toNat y.2.1) (Int.toNat y.2.2))==ByteArray.toList ⟨#[]⟩)=true then if ByteArray.size (y.1++⟨#[44,32]⟩++x.2.2.2.1 (Int.toNat y.2.1) (Int.toNat y.2.2))+2≤maxLen then if 0≤y.2.1∧y.2.1< ((x.1:Nat):Int)then if 0≤y.2.2∧y.2.2< ((x.2.2.1 (Int.toNat y.2.1):Nat):Int)then if ByteArray.size (y.1++⟨#[44,32]⟩++x.2.2.2.1 (Int.toNat y.2.1) (Int.toNat y.2.2)++⟨#[58,32]⟩)+ByteArray.size (x.2.2.2.2.1 (Int.toNat y.2.1) (Int.toNat y.2.2))≤maxLen then nx (y.1++⟨#[44,32]⟩++x.2.2.2.1 (Int.toNat y.2.1) (Int.toNat y.2.2)++⟨#[58,32]⟩++x.2.2.2.2.1 (Int.toNat y.2.1) (Int.toNat y.2.2),y.2.1,w (y.2.2+1))else none else none else none else none else nx (y.1++⟨#[44,32]⟩++x.2.2.2.1 (Int.toNat y.2.1) (Int.toNat y.2.2),y.2.1,w (y.2.2+1))else none else none else none else none else none else none else if 0≤y.2.1∧y.2.1< ((x.1:Nat):Int)then if 0≤y.2.2∧y.2.2< ((x.2.2.1 (Int.toNat y.2.1):Nat):Int)then if y.1.size+ByteArray.size (x.2.2.2.1 (Int.toNat y.2.1) (Int.toNat y.2.2))≤maxLen then if 0≤y.2.1∧y.2.1< ((x.1:Nat):Int)then if 0≤y.2.2∧y.2.2< ((x.2.2.1 (Int.toNat y.2.1):Nat):Int)then if(!ByteArray.toList (x.2.2.2.2.1 (Int.toNat y.2.1) (Int.toNat y.2.2))==ByteArray.toList ⟨#[]⟩)=true then if ByteArray.size (y.1++x.2.2.2.1 (Int.toNat y.2.1) (Int.toNat y.2.2))+2≤maxLen then if 0≤y.2.1∧y.2.1< ((x.1:Nat):Int)then if 0≤y.2.2∧y.2.2< ((x.2.2.1 (Int.toNat y.2.1):Nat):Int)then if ByteArray.size (y.1++x.2.2.2.1 (Int.toNat y.2.1) (Int.toNat y.2.2)++⟨#[58,32]⟩)+ByteArray.size (x.2.2.2.2.1 (Int.toNat y.2.1) (Int.toNat y.2.2))≤maxLen then nx (y.1++x.2.2.2.1 (Int.toNat y.2.1) (Int.toNat y.2.2)++⟨#[58,32]⟩++x.2.2.2.2.1 (Int.toNat y.2.1) (Int.toNat y.2.2),y.2.1,w (y.2.2+1))else none else none else none else none else nx (y.1++x.2.2.2.1 (Int.toNat y.2.1) (Int.toNat y.2.2),y.2.1,w (y.2.2+1))else none else none else none else none else none else dn (y.1,y.2.1)else none
theorem em8{β:Type}(c_rbraces)(x)(y)(nx:iP→Option β)(dn):nL c_rbraces x y nx dn=(nL c_rbraces x y (fun y=>some (.inl y)) (fun z=>some (.inr z))).bind fun r=>Sum.elim nx dn r:=by
 unfold nL
 repeat' first|exact n0|refine n1 fun _=>?_|refine n2 ?_ ?_|refine n3 (fun _=>?_) fun _=>?_|rfl
theorem en7(c_rbraces)(x)(y)(lo:f5):n8 E5 (ftb 38 aA kX c_rbraces ca0) lo 2 57 (b5 E5 14 2) (jL x y) (KCM [(2,25),(1,25),(0,8)] 4)=nL (vf aA c_rbraces) x y (fun y=>lo 2 57 (b5 E5 14 2) (jL x y) (KCM [(2,25),(1,25),(0,8)] 4)) (fun z=>some (.l (sK x z).1 (sK x z).2)):=by kernel_rfl
noncomputable def qP(c_rbraces:eO→Option gV)(q:Nat)(x:aY):iP→Option yN:=lpG (fun y=>nL c_rbraces x y (fun y=>some (.inl y)) (fun z=>some (.inr z))) q
theorem dw4(c_rbraces)(h_rbraces:Lw E5 38 aA kX c_rbraces)(q:Nat)(x:aY):Ll E5 (b5 E5 14 2) (jL x) (sK x) (qP c_rbraces q x):=
 slp (fk h_rbraces a8) hX5 (fun lo y=>(en7 c_rbraces x y lo).trans (by rw[aq9];exact em8 _ _ _ _ _)) (fun _=>by kernel_rfl) q
abbrev dR:Type:=ByteArray×Int
abbrev sP:Type:=ByteArray
def iN(x:aY)(y:dR):St:={fr:=[V.ro 6 x.1 fun j=>[st (x.2.1 j),V.ro 2 (x.2.2.1 j) fun j_1=>[st (x.2.2.2.1 j j_1),st (x.2.2.2.2.1 j j_1)],i64 (x.2.2.2.2.2.1 j),i64 (x.2.2.2.2.2.2.1 j),st (x.2.2.2.2.2.2.2.1 j),V.ro 4 (x.2.2.2.2.2.2.2.2.1 j) (x.2.2.2.2.2.2.2.2.2 j)],V.junk,V.junk,st y.1,i64 y.2]++jk 74,H:=hp [],nx:=0,rt:=0,me:=14}
def ei7(s:St):dR:=((vS (s.fr.getD 3 .junk)),vI (s.fr.getD 4 .junk))
theorem eb2(x:aY):VL (iN x):=vl ei7 fun _=>rfl
def sV(x:aY):sP→Ex×St:=(fun z=>(Ex.exit 0,{fr:=[V.junk,V.junk,V.junk,st z]++jk 75,H:=hp [],nx:=0,rt:=0,me:=14}))
def fG{β:Type}(c_rbraces:eO→Option gV)(l_RPrint_l2:iP→Option yN)(x:aY)(y:dR)(nx:dR→Option β)(dn:sP→Option β):Option β:=
 if decide (y.2< ((x.1:Nat):Int))=true then if y.1.size+10≤maxLen then if 0≤y.2∧y.2< ((x.1:Nat):Int)then if ByteArray.size (y.1++⟨#[112,114,111,99,101,100,117,114,101,32]⟩)+ByteArray.size (x.2.1 (Int.toNat y.2))≤maxLen then if ByteArray.size (y.1++⟨#[112,114,111,99,101,100,117,114,101,32]⟩++x.2.1 (Int.toNat y.2))+1≤maxLen then(l_RPrint_l2 (y.1++⟨#[112,114,111,99,101,100,117,114,101,32]⟩++x.2.1 (Int.toNat y.2)++⟨#[40]⟩,y.2,0)).bind fun z98=>if z98.1.size+2≤maxLen then if 0≤z98.2∧z98.2< ((x.1:Nat):Int)then(c_rbraces (x.2.2.2.2.2.1 (Int.toNat z98.2),x.2.2.2.2.2.2.1 (Int.toNat z98.2),x.2.2.2.2.2.2.2.1 (Int.toNat z98.2),x.2.2.2.2.2.2.2.2.1 (Int.toNat z98.2),x.2.2.2.2.2.2.2.2.2 (Int.toNat z98.2),⟨#[]⟩)).bind fun z105=>if ByteArray.size (z98.1++⟨#[41,32]⟩)+z105.size≤maxLen then if ByteArray.size (z98.1++⟨#[41,32]⟩++z105)+1≤maxLen then nx (z98.1++⟨#[41,32]⟩++z105++⟨#[10]⟩,w (z98.2+1))else none else none else none else none else none else none else none else none else dn y.1
theorem eb5{β:Type}(c_rbraces)(l_RPrint_l2)(x)(y)(nx:dR→Option β)(dn):fG c_rbraces l_RPrint_l2 x y nx dn=(fG c_rbraces l_RPrint_l2 x y (fun y=>some (.inl y)) (fun z=>some (.inr z))).bind fun r=>Sum.elim nx dn r:=by
 unfold fG
 repeat' first|exact n0|refine n1 fun _=>?_|refine n2 ?_ ?_|refine n3 (fun _=>?_) fun _=>?_|rfl
theorem ek0(c_rbraces)(l_RPrint_l2)(x)(y)(lo:f5):n8 E5 (ftb 38 aA kX c_rbraces ca0) (lt1 2 (fun _=>true) (b5 E5 14 2) (jL x) (sK x) l_RPrint_l2 lo) 0 25 (b5 E5 14 0) (iN x y) (KCM [(0,8)] 4)=fG (vf aA c_rbraces) (lf (b5 E5 14 2) (jL x) l_RPrint_l2) x y (fun y=>lo 0 25 (b5 E5 14 0) (iN x y) (KCM [(0,8)] 4)) (fun z=>some (.l (sV x z).1 (sV x z).2)):=by kernel_rfl
noncomputable def bo5(c_rbraces:eO→Option gV)(q:Nat)(x:aY):dR→Option sP:=lpG (fun y=>fG c_rbraces (qP c_rbraces q x) x y (fun y=>some (.inl y)) (fun z=>some (.inr z))) q
theorem eg6(c_rbraces)(h_rbraces:Lw E5 38 aA kX c_rbraces)(q:Nat)(x:aY):Ll E5 (b5 E5 14 0) (iN x) (sV x) (bo5 c_rbraces q x):=
 SL.lp (LT:=fun lo=>(lt1 2 (fun _=>true) (b5 E5 14 2) (jL x) (sK x) (qP c_rbraces q x) lo)) (T:=sV x) (S:=iN x) (fk h_rbraces a8) hX5 (fun lo h=>(lk1 (dw4 c_rbraces h_rbraces q x) h)) (fun lo y=>(ek0 c_rbraces (qP c_rbraces q x) x y lo).trans (by rw[aq9,dy6];exact eb5 _ _ _ _ _ _)) (fun _=>by kernel_rfl) q
def ab9{β:Type}(c_rbraces:eO→Option gV)(l_RPrint_l0:dR→Option sP)(x:aY)(dn:bj1→Option β):Option β:=
 (l_RPrint_l0 (⟨#[]⟩,0)).bind fun z61=>dn z61
theorem gw0{β:Type}(c_rbraces)(l_RPrint_l0)(x)(dn:bj1→Option β):ab9 c_rbraces l_RPrint_l0 x dn=(ab9 c_rbraces l_RPrint_l0 x some).bind dn:=by
 unfold ab9
 repeat' first|exact n0|refine n1 fun _=>?_|refine n2 ?_ ?_|refine n3 (fun _=>?_) fun _=>?_|rfl
theorem gg4(c_rbraces)(l_RPrint_l0)(x):f7 E5 (ftb 38 aA kX c_rbraces ca0) (lt1 0 (fun _=>true) (b5 E5 14 0) (iN x) (sV x) l_RPrint_l0 lo0) 14 (cp5 x).1 (cp5 x).2 K=ab9 (vf aA c_rbraces) (lf (b5 E5 14 0) (iN x) l_RPrint_l0) x (fun z=>some (.c (dt4 z))):=by kernel_rfl
noncomputable def fd9(q:Nat)(x:aY):Option bj1:=ab9 (kW q) (bo5 (kW q) q x) x some
theorem fv4(q:Nat):Lw E5 14 cp5 dt4 (fd9 q):=sof hW5 hX5 (fk (cf9 q) a8) (fun x=>(lk1 (eg6 (kW q) (cf9 q) q x) b6)) fun x=>(gg4 (kW q) (bo5 (kW q) q x) x).trans (by rw[aq9,eb2,gw0]<;>rfl)
end Go.Proofs.YtjfkkokeegpeiaaGreatDoor
/- What the printer of the reference writes. -/
namespace Go.Proofs.YtjfkkokeegpeiaaGreatDoor
open Go Go.Am Go.Proofs.Lx
set_option maxRecDepth 100000
theorem bsz(l:List UInt8):ByteArray.size ⟨l.toArray⟩=l.length:=rfl
theorem d6(s:ByteArray):(bL s).length=s.size:=eD s
theorem aU{n:Int}(h0:0≤n)(h1:n<4000000000){q:Nat}(hq:12≤q):Rs (f9 q n) (fun z=>z=itS n):=by
 obtain⟨z,h,e⟩:=ci4 h0 h1
 refine⟨z,?_,e⟩
 unfold f9 nQ at h⊢
 by_cases hn:(n==0)=true
 ·rw[if_pos hn]at h⊢
  exact h
 ·rw[if_neg hn]at h⊢
  cases hl:iX 12 n (⟨#[]⟩,n)with
  |none=>rw[hl]at h;cases h
  |some y=>
   rw[hl]at h
   unfold iX at hl⊢
   rw[cp6 (fun _ _ h=>h) hq hl]
   exact h
theorem gc0(q:Nat){t:Tr}{b:ByteArray}{z:n4}(h:Txt t b)(hr:RepN t z)(hs:szT t≤1000000):yY q z=some b:=by
 obtain⟨c,e1,e2⟩:=gb5 q h hr hs
 rw[ds5 q h hr hs]at e1
 rw[e2,←e1]
theorem lY(q:Nat){l:List Tr}(j:Nat){c:Tr}{y:List UInt8}{m:List Tkn}{d:Nat}(hc:l[j]? =some c)(hP:Pr c y m d)(hs:szT c≤1000000):Rs (yY q (opK (kF l) j,opN (kF l) j,opS (kF l) j,opM (kF l) j,opF (kF l) j)) (fun z=>z=mkB y):=by
 have:=gc0 q (ez5 hP) (ex4 c) hs
 rw[←mR hc]at this
 exact Rs.of this
def rS(t:Tr)(i:Nat):yC:=((eT t).1,(eT t).2.1,(eT t).2.2.1,(eT t).2.2.2.1,(eT t).2.2.2.2,mkB (j5 i))
open Classical in
theorem cE{q:Nat}{k n:Int}{s:ByteArray}{l:List Tr}{i:Nat}{P:ae5→Prop}(h:Rs (x5 (f9 q) (yY q) (kW q) (k,n,s,l.length,opK (kF l),opN (kF l),opS (kF l),opM (kF l),opF (kF l),mkB (j5 i)) some) P):Rs (ce1 (q+1) (rS (.node k n s l) i)) P:=by
 show Rs (if xW (kF l)then x5 (f9 q) (yY q) (bz4 q).2.1 (k,n,s,l.length,opK (kF l),opN (kF l),opS (kF l),opM (kF l),opF (kF l),mkB (j5 i)) some else none) P
 exact Rs.pos (f8 l) h
open Classical in
theorem fb7{q:Nat}{k n:Int}{s:ByteArray}{l:List Tr}{i:Nat}{P:bg1→Prop}(h:Rs (kY (ce1 q) q (k,n,s,l.length,opK (kF l),opN (kF l),opS (kF l),opM (kF l),opF (kF l),mkB (j5 i)) (⟨#[]⟩,0)) P):Rs (da5 (q+1) (rS (.node k n s l) i)) P:=by
 show Rs (if xW (kF l)then sF (bz4 q).1 (kY (bz4 q).1 q (k,n,s,l.length,opK (kF l),opN (kF l),opS (kF l),opM (kF l),opF (kF l),mkB (j5 i))) (k,n,s,l.length,opK (kF l),opN (kF l),opS (kF l),opM (kF l),opF (kF l),mkB (j5 i)) some else none) P
 refine Rs.pos (f8 l) ?_
 unfold sF
 exact Rs.bind h fun z hz=>Rs.some hz
def ii3(i:Nat)(x:List UInt8):Tr⊕List Tr→Prop
 | .inl t=>∃core,x=j5 i++(core++[10])∧∀q,3*szT t+40≤q→szT t≤1000000→x.length≤1000000000→Rs (ce1 q (rS t i)) (fun z=>z=mkB core)
 | .inr ys=>∀(q q2 j:Nat) (k n:Int) (s:ByteArray) (L:List Tr) (acc:List UInt8),3*szL ys+40≤q→ys.length<q2→L.drop j=ys→j≤L.length→L.length≤1000000→acc.length+x.length≤1000000000→szL ys≤1000000→
  Rs (kY (ce1 q) q2 (k,n,s,L.length,opK (kF L),opN (kF L),opS (kF L),opM (kF L),opF (kF L),mkB (j5 i)) (mkB acc,(j:Int))) (fun z=>z=mkB (acc++x))
theorem xP{q i:Nat}{ys:List Tr}{x:List UInt8}(h:ii3 (i+1) x (.inr ys))(hq:3*szL ys+42≤q)(hl:x.length≤1000000000)(hs:szL ys≤1000000)(hi:i≤30)(k n:Int)(s:ByteArray):Rs (kW q (rS (.node k n s ys) i)) (fun z=>z=mkB (123::10::(x++(j5 i++[125])))):=by
 obtain⟨q,rfl⟩:∃q',q=q'+1+1:=⟨q-2,by omega⟩
 have hlen:=ff5 ys
 have hi2:=p7 i
 show Rs (jO (da5 (q+1)) (rS (.node k n s ys) i) some) _
 unfold jO
 dsimp only[rS]
 have e1:mkB (j5 i)++(⟨#[32,32]⟩:ByteArray)=mkB (j5 (i+1)):=by
  rw[show j5 (i+1)=j5 i++[32,32]by exact(show List.replicate (2*(i+1)) 32=List.replicate (2*i) 32++List.replicate 2 32 by rw[List.replicate_append_replicate];rfl),oM];rfl
 rw[e1]
 refine Rs.pos (by (first | (simp only [ByteArray.size_append, b9, bsz, d6, List.length_append, List.length_cons, List.length_nil]; unfold maxLen; omega) | (unfold maxLen; omega))) ?_
 have hb:Rs (da5 (q+1) (rS (.node k n s ys) (i+1))) (fun z=>z=mkB ([]++x)):=fb7 (h q q 0 k n s ys [] (by omega) (by omega) rfl (Nat.zero_le _) (by omega) (by simp;omega) hs)
 refine Rs.bind hb fun z hz=>?_
 rw[List.nil_append]at hz
 subst hz
 exact Rs.pos (by (first | (simp only [ByteArray.size_append, b9, bsz, d6, List.length_append, List.length_cons, List.length_nil]; unfold maxLen; omega) | (unfold maxLen; omega))) (Rs.pos (by (first | (simp only [ByteArray.size_append, b9, bsz, d6, List.length_append, List.length_cons, List.length_nil]; unfold maxLen; omega) | (unfold maxLen; omega))) (Rs.pos (by (first | (simp only [ByteArray.size_append, b9, bsz, d6, List.length_append, List.length_cons, List.length_nil]; unfold maxLen; omega) | (unfold maxLen; omega))) (Rs.some (by (exact aB (by simp [ByteArray.data_append, m4, bL]))))))
theorem gm2{i:Nat}{z:Tr⊕List Tr}{x:List UInt8}{l:List Tkn}{d:Nat}{v:List ByteArray}(h:PrS i z x l d v):i+d≤30→ii3 i x z:=by
 induction h with
 |«let» i y a x l d hn hP=>
  intro hd
  refine⟨bL bk8++32::(bL y++32::61::32::(x++[59])),by simp[bL],fun q hq hs hl=>?_⟩
  have hi:=p7 i
  simp only[szT,szL]at hq hs
  simp only[List.length_append,List.length_cons,List.length_nil,d6,bsz]at hl
  obtain⟨q,rfl⟩:∃q',q=q'+1:=⟨q-1,by omega⟩
  refine cE ?_
  unfold x5
  dsimp only
  refine Rs.bind (aU (n:=0) (by omega) (by omega) (q:=q) (by omega)) fun z1 e1=>?_
  subst e1
  have hn2:=hn.2.1
  refine Rs.pos rfl ?_
  refine Rs.pos (by (first | (simp only [ByteArray.size_append, b9, bsz, d6, List.length_append, List.length_cons, List.length_nil]; unfold maxLen; omega) | (unfold maxLen; omega))) (Rs.pos (by (first | (simp only [ByteArray.size_append, b9, bsz, d6, List.length_append, List.length_cons, List.length_nil]; unfold maxLen; omega) | (unfold maxLen; omega))) (Rs.pos ⟨by decide,by show(0:Int)< ((1:Nat):Int);decide⟩ ?_))
  refine Rs.bind (lY q (l:=[a]) 0 rfl hP (by omega)) fun z2 e2=>?_
  subst e2
  exact Rs.pos (by (first | (simp only [ByteArray.size_append, b9, bsz, d6, List.length_append, List.length_cons, List.length_nil]; unfold maxLen; omega) | (unfold maxLen; omega))) (Rs.pos (by (first | (simp only [ByteArray.size_append, b9, bsz, d6, List.length_append, List.length_cons, List.length_nil]; unfold maxLen; omega) | (unfold maxLen; omega))) (Rs.some (by (exact aB (by simp [ByteArray.data_append, m4, bL])))))
 |set i y a x l d hn hP=>
  intro hd
  refine⟨bL y++32::61::32::(x++[59]),by simp[bL],fun q hq hs hl=>?_⟩
  have hi:=p7 i
  simp only[szT,szL]at hq hs
  simp only[List.length_append,List.length_cons,List.length_nil,d6,bsz]at hl
  obtain⟨q,rfl⟩:∃q',q=q'+1:=⟨q-1,by omega⟩
  refine cE ?_
  unfold x5
  dsimp only
  refine Rs.bind (aU (n:=0) (by omega) (by omega) (q:=q) (by omega)) fun z1 e1=>?_
  subst e1
  have hn2:=hn.2.1
  refine Rs.neg (by decide) (Rs.pos rfl ?_)
  refine Rs.pos (by (first | (simp only [ByteArray.size_append, b9, bsz, d6, List.length_append, List.length_cons, List.length_nil]; unfold maxLen; omega) | (unfold maxLen; omega))) (Rs.pos ⟨by decide,by show(0:Int)< ((1:Nat):Int);decide⟩ ?_)
  refine Rs.bind (lY q (l:=[a]) 0 rfl hP (by omega)) fun z2 e2=>?_
  subst e2
  exact Rs.pos (by (first | (simp only [ByteArray.size_append, b9, bsz, d6, List.length_append, List.length_cons, List.length_nil]; unfold maxLen; omega) | (unfold maxLen; omega))) (Rs.pos (by (first | (simp only [ByteArray.size_append, b9, bsz, d6, List.length_append, List.length_cons, List.length_nil]; unfold maxLen; omega) | (unfold maxLen; omega))) (Rs.some (by (exact aB (by simp [ByteArray.data_append, m4, bL])))))
 |cond i c ys x l d xy ly dy vy hP hY ih=>
  intro hd
  have ih:=ih (by omega)
  refine⟨bL sU++32::(x++32::123::10::(xy++(j5 i++[125]))),by simp[bL],fun q hq hs hl=>?_⟩
  have hi:=p7 i
  simp only[szT,szL]at hq hs
  simp only[List.length_append,List.length_cons,List.length_nil,d6,bsz]at hl
  obtain⟨q,rfl⟩:∃q',q=q'+1:=⟨q-1,by omega⟩
  refine cE ?_
  unfold x5
  dsimp only
  refine Rs.bind (aU (n:=0) (by omega) (by omega) (q:=q) (by omega)) fun z1 e1=>?_
  subst e1
  refine Rs.neg (by decide) (Rs.neg (by decide) (Rs.pos rfl ?_))
  refine Rs.pos ⟨by decide,by show(0:Int)< ((3:Nat):Int);decide⟩ ?_
  refine Rs.bind (lY q (l:=[c,.node 14 0 ⟨#[]⟩ ys,.node 14 0 ⟨#[]⟩ []]) 0 rfl hP (by omega)) fun z2 e2=>?_
  subst e2
  refine Rs.pos (by (first | (simp only [ByteArray.size_append, b9, bsz, d6, List.length_append, List.length_cons, List.length_nil]; unfold maxLen; omega) | (unfold maxLen; omega))) (Rs.pos (by (first | (simp only [ByteArray.size_append, b9, bsz, d6, List.length_append, List.length_cons, List.length_nil]; unfold maxLen; omega) | (unfold maxLen; omega))) (Rs.pos ⟨by decide,by show(1:Int)< ((3:Nat):Int);decide⟩ ?_))
  have e3:(opK (kF [c,.node 14 0 ⟨#[]⟩ ys,.node 14 0 ⟨#[]⟩ []]) 1,opN (kF [c,.node 14 0 ⟨#[]⟩ ys,.node 14 0 ⟨#[]⟩ []]) 1,opS (kF [c,.node 14 0 ⟨#[]⟩ ys,.node 14 0 ⟨#[]⟩ []]) 1,opM (kF [c,.node 14 0 ⟨#[]⟩ ys,.node 14 0 ⟨#[]⟩ []]) 1,opF (kF [c,.node 14 0 ⟨#[]⟩ ys,.node 14 0 ⟨#[]⟩ []]) 1,mkB (j5 i))=rS (.node 14 0 ⟨#[]⟩ ys) i:=rfl
  rw[e3]
  refine Rs.bind (xP ih (by omega) (by omega) (by omega) (by omega) 14 0 ⟨#[]⟩) fun z4 e4=>?_
  subst e4
  exact Rs.pos (by (first | (simp only [ByteArray.size_append, b9, bsz, d6, List.length_append, List.length_cons, List.length_nil]; unfold maxLen; omega) | (unfold maxLen; omega))) (Rs.pos ⟨by decide,by show(2:Int)< ((3:Nat):Int);decide⟩ (Rs.neg (show¬decide (((0:Nat):Int)>0)=true by decide) (Rs.some (by (exact aB (by simp [ByteArray.data_append, m4, bL]))))))
 |both i c ys n0 ns x l d xy ly dy vy xn ln dn vn hP hY hN ih1 ih2=>
  intro hd
  have ih1:=ih1 (by omega)
  have ih2:=ih2 (by omega)
  refine⟨bL sU++32::(x++32::123::10::(xy++(j5 i++125::32::(bL oO++32::123::10::(xn++(j5 i++[125])))))),by simp[bL],fun q hq hs hl=>?_⟩
  have hi:=p7 i
  simp only[szT]at hq hs
  rw[show szL [c,.node 14 0 ⟨#[]⟩ ys,.node 14 0 ⟨#[]⟩ (n0::ns)]=szT c+(1+szL ys+(1+szL (n0::ns)+0+1)+1)+1 by simp only[szL,szT]]at hq hs
  simp only[List.length_append,List.length_cons,List.length_nil,d6,bsz]at hl
  obtain⟨q,rfl⟩:∃q',q=q'+1:=⟨q-1,by omega⟩
  refine cE ?_
  unfold x5
  dsimp only
  refine Rs.bind (aU (n:=0) (by omega) (by omega) (q:=q) (by omega)) fun z1 e1=>?_
  subst e1
  refine Rs.neg (by decide) (Rs.neg (by decide) (Rs.pos rfl ?_))
  refine Rs.pos ⟨by decide,by show(0:Int)< ((3:Nat):Int);decide⟩ ?_
  refine Rs.bind (lY q (l:=[c,.node 14 0 ⟨#[]⟩ ys,.node 14 0 ⟨#[]⟩ (n0::ns)]) 0 rfl hP (by omega)) fun z2 e2=>?_
  subst e2
  refine Rs.pos (by (first | (simp only [ByteArray.size_append, b9, bsz, d6, List.length_append, List.length_cons, List.length_nil]; unfold maxLen; omega) | (unfold maxLen; omega))) (Rs.pos (by (first | (simp only [ByteArray.size_append, b9, bsz, d6, List.length_append, List.length_cons, List.length_nil]; unfold maxLen; omega) | (unfold maxLen; omega))) (Rs.pos ⟨by decide,by show(1:Int)< ((3:Nat):Int);decide⟩ ?_))
  have e3:(opK (kF [c,.node 14 0 ⟨#[]⟩ ys,.node 14 0 ⟨#[]⟩ (n0::ns)]) 1,opN (kF [c,.node 14 0 ⟨#[]⟩ ys,.node 14 0 ⟨#[]⟩ (n0::ns)]) 1,opS (kF [c,.node 14 0 ⟨#[]⟩ ys,.node 14 0 ⟨#[]⟩ (n0::ns)]) 1,opM (kF [c,.node 14 0 ⟨#[]⟩ ys,.node 14 0 ⟨#[]⟩ (n0::ns)]) 1,opF (kF [c,.node 14 0 ⟨#[]⟩ ys,.node 14 0 ⟨#[]⟩ (n0::ns)]) 1,mkB (j5 i))=rS (.node 14 0 ⟨#[]⟩ ys) i:=rfl
  rw[e3]
  refine Rs.bind (xP ih1 (by omega) (by omega) (by omega) (by omega) 14 0 ⟨#[]⟩) fun z4 e4=>?_
  subst e4
  refine Rs.pos (by (first | (simp only [ByteArray.size_append, b9, bsz, d6, List.length_append, List.length_cons, List.length_nil]; unfold maxLen; omega) | (unfold maxLen; omega))) (Rs.pos ⟨by decide,by show(2:Int)< ((3:Nat):Int);decide⟩ (Rs.pos ?_ (Rs.pos (by (first | (simp only [ByteArray.size_append, b9, bsz, d6, List.length_append, List.length_cons, List.length_nil]; unfold maxLen; omega) | (unfold maxLen; omega))) (Rs.pos ⟨by decide,by show(2:Int)< ((3:Nat):Int);decide⟩ ?_))))
  ·refine decide_eq_true ?_
   show(((n0::ns).length:Nat):Int)>0
   rw[List.length_cons];omega
  have e5:(opK (kF [c,.node 14 0 ⟨#[]⟩ ys,.node 14 0 ⟨#[]⟩ (n0::ns)]) 2,opN (kF [c,.node 14 0 ⟨#[]⟩ ys,.node 14 0 ⟨#[]⟩ (n0::ns)]) 2,opS (kF [c,.node 14 0 ⟨#[]⟩ ys,.node 14 0 ⟨#[]⟩ (n0::ns)]) 2,opM (kF [c,.node 14 0 ⟨#[]⟩ ys,.node 14 0 ⟨#[]⟩ (n0::ns)]) 2,opF (kF [c,.node 14 0 ⟨#[]⟩ ys,.node 14 0 ⟨#[]⟩ (n0::ns)]) 2,mkB (j5 i))=rS (.node 14 0 ⟨#[]⟩ (n0::ns)) i:=rfl
  rw[e5]
  refine Rs.bind (xP ih2 (by omega) (by omega) (by omega) (by omega) 14 0 ⟨#[]⟩) fun z6 e6=>?_
  subst e6
  exact Rs.pos (by (first | (simp only [ByteArray.size_append, b9, bsz, d6, List.length_append, List.length_cons, List.length_nil]; unfold maxLen; omega) | (unfold maxLen; omega))) (Rs.some (by (exact aB (by simp [ByteArray.data_append, m4, bL]))))
 |rep i n ys xy ly dy vy g0 g1 hY ih=>
  intro hd
  have ih:=ih (by omega)
  refine⟨bL bX++32::(bL (itS n)++32::123::10::(xy++(j5 i++[125]))),by simp[bL],fun q hq hs hl=>?_⟩
  have hi:=p7 i
  simp only[szT,szL]at hq hs
  simp only[List.length_append,List.length_cons,List.length_nil,d6,bsz]at hl
  obtain⟨q,rfl⟩:∃q',q=q'+1:=⟨q-1,by omega⟩
  refine cE ?_
  unfold x5
  dsimp only
  refine Rs.bind (aU (n:=n) (by omega) (by omega) (q:=q) (by omega)) fun z1 e1=>?_
  subst e1
  have hsz:(itS n).size≤10:=jC (by omega) (by omega)
  refine Rs.neg (by decide) (Rs.neg (by decide) (Rs.neg (by decide) (Rs.pos rfl ?_)))
  refine Rs.pos (by (first | (simp only [ByteArray.size_append, b9, bsz, d6, List.length_append, List.length_cons, List.length_nil]; unfold maxLen; omega) | (unfold maxLen; omega))) (Rs.pos (by (first | (simp only [ByteArray.size_append, b9, bsz, d6, List.length_append, List.length_cons, List.length_nil]; unfold maxLen; omega) | (unfold maxLen; omega))) (Rs.pos ⟨by decide,by show(0:Int)< ((1:Nat):Int);decide⟩ ?_))
  have e3:(opK (kF [.node 14 0 ⟨#[]⟩ ys]) 0,opN (kF [.node 14 0 ⟨#[]⟩ ys]) 0,opS (kF [.node 14 0 ⟨#[]⟩ ys]) 0,opM (kF [.node 14 0 ⟨#[]⟩ ys]) 0,opF (kF [.node 14 0 ⟨#[]⟩ ys]) 0,mkB (j5 i))=rS (.node 14 0 ⟨#[]⟩ ys) i:=rfl
  rw[e3]
  refine Rs.bind (xP ih (by omega) (by omega) (by omega) (by omega) 14 0 ⟨#[]⟩) fun z4 e4=>?_
  subst e4
  exact Rs.pos (by (first | (simp only [ByteArray.size_append, b9, bsz, d6, List.length_append, List.length_cons, List.length_nil]; unfold maxLen; omega) | (unfold maxLen; omega))) (Rs.some (by (exact aB (by simp [ByteArray.data_append, m4, bL]))))
 |amt i k w n u x l d hk hP=>
  intro hd
  have hszl:szT (.node 15 n u [])≤1000000:=by simp only[szT,szL];decide
  refine⟨bL w++32::(x++[59]),by simp[bL],fun q hq hs hl=>?_⟩
  have hi:=p7 i
  simp only[szT,szL]at hq hs
  simp only[List.length_append,List.length_cons,List.length_nil,d6,bsz]at hl
  obtain⟨q,rfl⟩:∃q',q=q'+1:=⟨q-1,by omega⟩
  refine cE ?_
  unfold x5
  dsimp only
  refine Rs.bind (aU (n:=0) (by omega) (by omega) (q:=q) (by omega)) fun z1 e1=>?_
  subst e1
  rcases hk with⟨rfl,rfl⟩ | ⟨rfl,rfl⟩
  ·refine Rs.neg (by decide) (Rs.neg (by decide) (Rs.neg (by decide) (Rs.neg (by decide) (Rs.pos rfl ?_))))
   refine Rs.pos ⟨by decide,by show(0:Int)< ((1:Nat):Int);decide⟩ ?_
   refine Rs.bind (lY q (l:=[.node 15 n u []]) 0 rfl hP hszl) fun z2 e2=>?_
   subst e2
   exact Rs.pos (by (first | (simp only [ByteArray.size_append, b9, bsz, d6, List.length_append, List.length_cons, List.length_nil]; unfold maxLen; omega) | (unfold maxLen; omega))) (Rs.pos (by (first | (simp only [ByteArray.size_append, b9, bsz, d6, List.length_append, List.length_cons, List.length_nil]; unfold maxLen; omega) | (unfold maxLen; omega))) (Rs.some (by (exact aB (by simp [ByteArray.data_append, m4, bL])))))
  ·refine Rs.neg (by decide) (Rs.neg (by decide) (Rs.neg (by decide) (Rs.neg (by decide) (Rs.neg (by decide) (Rs.neg (by decide) (Rs.neg (by decide) (Rs.neg (by decide) (Rs.neg (by decide) (Rs.neg (by decide) (Rs.pos rfl ?_))))))))))
   refine Rs.pos ⟨by decide,by show(0:Int)< ((1:Nat):Int);decide⟩ ?_
   refine Rs.bind (lY q (l:=[.node 15 n u []]) 0 rfl hP hszl) fun z2 e2=>?_
   subst e2
   exact Rs.pos (by (first | (simp only [ByteArray.size_append, b9, bsz, d6, List.length_append, List.length_cons, List.length_nil]; unfold maxLen; omega) | (unfold maxLen; omega))) (Rs.pos (by (first | (simp only [ByteArray.size_append, b9, bsz, d6, List.length_append, List.length_cons, List.length_nil]; unfold maxLen; omega) | (unfold maxLen; omega))) (Rs.some (by (exact aB (by simp [ByteArray.data_append, m4, bL])))))
 |await i c y m e n u x l d hC hP=>
  intro hd
  have hszl:szT (.node 15 n u [])≤1000000:=by simp only[szT,szL];decide
  refine⟨bL tS++32::(y++32::(bL jF++32::(x++[59]))),by simp[bL],fun q hq hs hl=>?_⟩
  have hi:=p7 i
  simp only[szT,szL]at hq hs
  simp only[List.length_append,List.length_cons,List.length_nil,d6,bsz]at hl
  obtain⟨q,rfl⟩:∃q',q=q'+1:=⟨q-1,by omega⟩
  refine cE ?_
  unfold x5
  dsimp only
  refine Rs.bind (aU (n:=0) (by omega) (by omega) (q:=q) (by omega)) fun z1 e1=>?_
  subst e1
  refine Rs.neg (by decide) (Rs.neg (by decide) (Rs.neg (by decide) (Rs.neg (by decide) (Rs.neg (by decide) (Rs.pos rfl ?_)))))
  refine Rs.pos ⟨by decide,by show(0:Int)< ((2:Nat):Int);decide⟩ ?_
  refine Rs.bind (lY q (l:=[c,.node 15 n u []]) 0 rfl hC (by omega)) fun z2 e2=>?_
  subst e2
  refine Rs.pos (by (first | (simp only [ByteArray.size_append, b9, bsz, d6, List.length_append, List.length_cons, List.length_nil]; unfold maxLen; omega) | (unfold maxLen; omega))) (Rs.pos (by (first | (simp only [ByteArray.size_append, b9, bsz, d6, List.length_append, List.length_cons, List.length_nil]; unfold maxLen; omega) | (unfold maxLen; omega))) (Rs.pos ⟨by decide,by show(1:Int)< ((2:Nat):Int);decide⟩ ?_))
  refine Rs.bind (lY q (l:=[c,.node 15 n u []]) 1 rfl hP hszl) fun z3 e3=>?_
  subst e3
  exact Rs.pos (by (first | (simp only [ByteArray.size_append, b9, bsz, d6, List.length_append, List.length_cons, List.length_nil]; unfold maxLen; omega) | (unfold maxLen; omega))) (Rs.pos (by (first | (simp only [ByteArray.size_append, b9, bsz, d6, List.length_append, List.length_cons, List.length_nil]; unfold maxLen; omega) | (unfold maxLen; omega))) (Rs.some (by (exact aB (by simp [ByteArray.data_append, m4, bL])))))
 |one i k w a x l d hk hP=>
  intro hd
  refine⟨bL w++32::(x++[59]),by simp[bL],fun q hq hs hl=>?_⟩
  have hi:=p7 i
  simp only[szT,szL]at hq hs
  simp only[List.length_append,List.length_cons,List.length_nil,d6,bsz]at hl
  obtain⟨q,rfl⟩:∃q',q=q'+1:=⟨q-1,by omega⟩
  refine cE ?_
  unfold x5
  dsimp only
  refine Rs.bind (aU (n:=0) (by omega) (by omega) (q:=q) (by omega)) fun z1 e1=>?_
  subst e1
  rcases hk with⟨rfl,rfl⟩ | ⟨rfl,rfl⟩
  ·refine Rs.neg (by decide) (Rs.neg (by decide) (Rs.neg (by decide) (Rs.neg (by decide) (Rs.neg (by decide) (Rs.neg (by decide) (Rs.pos rfl ?_))))))
   refine Rs.pos ⟨by decide,by show(0:Int)< ((1:Nat):Int);decide⟩ ?_
   refine Rs.bind (lY q (l:=[a]) 0 rfl hP (by omega)) fun z2 e2=>?_
   subst e2
   exact Rs.pos (by (first | (simp only [ByteArray.size_append, b9, bsz, d6, List.length_append, List.length_cons, List.length_nil]; unfold maxLen; omega) | (unfold maxLen; omega))) (Rs.pos (by (first | (simp only [ByteArray.size_append, b9, bsz, d6, List.length_append, List.length_cons, List.length_nil]; unfold maxLen; omega) | (unfold maxLen; omega))) (Rs.some (by (exact aB (by simp [ByteArray.data_append, m4, bL])))))
  ·refine Rs.neg (by decide) (Rs.neg (by decide) (Rs.neg (by decide) (Rs.neg (by decide) (Rs.neg (by decide) (Rs.neg (by decide) (Rs.neg (by decide) (Rs.pos rfl ?_)))))))
   refine Rs.pos ⟨by decide,by show(0:Int)< ((1:Nat):Int);decide⟩ ?_
   refine Rs.bind (lY q (l:=[a]) 0 rfl hP (by omega)) fun z2 e2=>?_
   subst e2
   exact Rs.pos (by (first | (simp only [ByteArray.size_append, b9, bsz, d6, List.length_append, List.length_cons, List.length_nil]; unfold maxLen; omega) | (unfold maxLen; omega))) (Rs.pos (by (first | (simp only [ByteArray.size_append, b9, bsz, d6, List.length_append, List.length_cons, List.length_nil]; unfold maxLen; omega) | (unfold maxLen; omega))) (Rs.some (by (exact aB (by simp [ByteArray.data_append, m4, bL])))))
 |use i j n u x l d g0 g1 hP=>
  intro hd
  have hszl:szT (.node 15 n u [])≤1000000:=by simp only[szT,szL];decide
  refine⟨bL an0++32::(bL (itS j)++32::(bL al3++32::(x++[59]))),by simp[bL],fun q hq hs hl=>?_⟩
  have hi:=p7 i
  simp only[szT,szL]at hq hs
  simp only[List.length_append,List.length_cons,List.length_nil,d6,bsz]at hl
  obtain⟨q,rfl⟩:∃q',q=q'+1:=⟨q-1,by omega⟩
  refine cE ?_
  unfold x5
  dsimp only
  refine Rs.bind (aU (n:=j) (by omega) (by omega) (q:=q) (by omega)) fun z1 e1=>?_
  subst e1
  have hsz:(itS j).size≤10:=jC (by omega) (by omega)
  refine Rs.neg (by decide) (Rs.neg (by decide) (Rs.neg (by decide) (Rs.neg (by decide) (Rs.neg (by decide) (Rs.neg (by decide) (Rs.neg (by decide) (Rs.neg (by decide) (Rs.pos rfl ?_))))))))
  refine Rs.pos (by (first | (simp only [ByteArray.size_append, b9, bsz, d6, List.length_append, List.length_cons, List.length_nil]; unfold maxLen; omega) | (unfold maxLen; omega))) (Rs.pos (by (first | (simp only [ByteArray.size_append, b9, bsz, d6, List.length_append, List.length_cons, List.length_nil]; unfold maxLen; omega) | (unfold maxLen; omega))) (Rs.pos ⟨by decide,by show(0:Int)< ((1:Nat):Int);decide⟩ ?_))
  refine Rs.bind (lY q (l:=[.node 15 n u []]) 0 rfl hP hszl) fun z2 e2=>?_
  subst e2
  exact Rs.pos (by (first | (simp only [ByteArray.size_append, b9, bsz, d6, List.length_append, List.length_cons, List.length_nil]; unfold maxLen; omega) | (unfold maxLen; omega))) (Rs.pos (by (first | (simp only [ByteArray.size_append, b9, bsz, d6, List.length_append, List.length_cons, List.length_nil]; unfold maxLen; omega) | (unfold maxLen; omega))) (Rs.some (by (exact aB (by simp [ByteArray.data_append, m4, bL])))))
 |send i j n u x l d g0 g1 hP=>
  intro hd
  have hszl:szT (.node 15 n u [])≤1000000:=by simp only[szT,szL];decide
  refine⟨bL ac9++32::(bL (itS j)++44::32::(x++[59])),by simp[bL],fun q hq hs hl=>?_⟩
  have hi:=p7 i
  simp only[szT,szL]at hq hs
  simp only[List.length_append,List.length_cons,List.length_nil,d6,bsz]at hl
  obtain⟨q,rfl⟩:∃q',q=q'+1:=⟨q-1,by omega⟩
  refine cE ?_
  unfold x5
  dsimp only
  refine Rs.bind (aU (n:=j) (by omega) (by omega) (q:=q) (by omega)) fun z1 e1=>?_
  subst e1
  have hsz:(itS j).size≤10:=jC (by omega) (by omega)
  refine Rs.neg (by decide) (Rs.neg (by decide) (Rs.neg (by decide) (Rs.neg (by decide) (Rs.neg (by decide) (Rs.neg (by decide) (Rs.neg (by decide) (Rs.neg (by decide) (Rs.neg (by decide) (Rs.pos rfl ?_)))))))))
  refine Rs.pos (by (first | (simp only [ByteArray.size_append, b9, bsz, d6, List.length_append, List.length_cons, List.length_nil]; unfold maxLen; omega) | (unfold maxLen; omega))) (Rs.pos (by (first | (simp only [ByteArray.size_append, b9, bsz, d6, List.length_append, List.length_cons, List.length_nil]; unfold maxLen; omega) | (unfold maxLen; omega))) (Rs.pos ⟨by decide,by show(0:Int)< ((1:Nat):Int);decide⟩ ?_))
  refine Rs.bind (lY q (l:=[.node 15 n u []]) 0 rfl hP hszl) fun z2 e2=>?_
  subst e2
  exact Rs.pos (by (first | (simp only [ByteArray.size_append, b9, bsz, d6, List.length_append, List.length_cons, List.length_nil]; unfold maxLen; omega) | (unfold maxLen; omega))) (Rs.pos (by (first | (simp only [ByteArray.size_append, b9, bsz, d6, List.length_append, List.length_cons, List.length_nil]; unfold maxLen; omega) | (unfold maxLen; omega))) (Rs.some (by (exact aB (by simp [ByteArray.data_append, m4, bL])))))
 |nmb i k w j hk g0=>
  intro hd
  have hj:j≤1000:=by rcases hk with⟨_,_,h⟩ | ⟨_,_,h⟩<;>omega
  refine⟨bL w++32::(bL (itS j)++[59]),by simp[bL],fun q hq hs hl=>?_⟩
  have hi:=p7 i
  simp only[szT,szL]at hq hs
  simp only[List.length_append,List.length_cons,List.length_nil,d6,bsz]at hl
  obtain⟨q,rfl⟩:∃q',q=q'+1:=⟨q-1,by omega⟩
  refine cE ?_
  unfold x5
  dsimp only
  refine Rs.bind (aU (n:=j) (by omega) (by omega) (q:=q) (by omega)) fun z1 e1=>?_
  subst e1
  have hsz:(itS j).size≤10:=jC (by omega) (by omega)
  rcases hk with⟨rfl,rfl,h⟩ | ⟨rfl,rfl,h⟩
  ·refine Rs.neg (by decide) (Rs.neg (by decide) (Rs.neg (by decide) (Rs.neg (by decide) (Rs.neg (by decide) (Rs.neg (by decide) (Rs.neg (by decide) (Rs.neg (by decide) (Rs.neg (by decide) (Rs.neg (by decide) (Rs.neg (by decide) (Rs.pos rfl ?_)))))))))))
   exact Rs.pos (by (first | (simp only [ByteArray.size_append, b9, bsz, d6, List.length_append, List.length_cons, List.length_nil]; unfold maxLen; omega) | (unfold maxLen; omega))) (Rs.pos (by (first | (simp only [ByteArray.size_append, b9, bsz, d6, List.length_append, List.length_cons, List.length_nil]; unfold maxLen; omega) | (unfold maxLen; omega))) (Rs.some (by (exact aB (by simp [ByteArray.data_append, m4, bL])))))
  ·refine Rs.neg (by decide) (Rs.neg (by decide) (Rs.neg (by decide) (Rs.neg (by decide) (Rs.neg (by decide) (Rs.neg (by decide) (Rs.neg (by decide) (Rs.neg (by decide) (Rs.neg (by decide) (Rs.neg (by decide) (Rs.neg (by decide) (Rs.neg (by decide) (?_))))))))))))
   exact Rs.pos (by (first | (simp only [ByteArray.size_append, b9, bsz, d6, List.length_append, List.length_cons, List.length_nil]; unfold maxLen; omega) | (unfold maxLen; omega))) (Rs.pos (by (first | (simp only [ByteArray.size_append, b9, bsz, d6, List.length_append, List.length_cons, List.length_nil]; unfold maxLen; omega) | (unfold maxLen; omega))) (Rs.some (by (exact aB (by simp [ByteArray.data_append, m4, bL])))))
 |nil i=>
  intro hd q q2 j k n s L acc hq hq2 hL hj hLl hl hs
  obtain⟨q2,rfl⟩:∃q',q2=q'+1:=⟨q2-1,by simp at hq2;omega⟩
  have hjl:L.length≤j:=List.drop_eq_nil_iff.1 hL
  unfold kY
  refine Rs.step ?_
  unfold iY
  dsimp only
  refine Rs.neg (fun h=>by have:=of_decide_eq_true h;omega) (Rs.some ?_)
  rw[List.append_nil]
  rfl
 |cons i t ts x l d v xs ls ds vs h1 h2 ih1 ih2=>
  intro hd q q2 j k n s L acc hq hq2 hL hj hLl hl hs
  obtain⟨core,hx,ih1⟩:=ih1 (by omega)
  have ih2:=ih2 (by omega)
  obtain⟨q2,rfl⟩:∃q',q2=q'+1:=⟨q2-1,by simp at hq2;omega⟩
  simp only[szL]at hq hs
  rw[List.length_append]at hl
  have hxl:x.length=(j5 i).length+(core.length+1):=by rw[hx];simp only[List.length_append,List.length_cons,List.length_nil]
  have hjt:L[j]? =some t:=by
   have:(L.drop j)[0]? =some t:=by rw[hL];rfl
   rw[List.getElem?_drop]at this
   simpa using this
  obtain⟨hjl,_⟩:=List.getElem?_eq_some_iff.1 hjt
  have hL2:L.drop (j+1)=ts:=by
   have:(L.drop j).drop 1=ts:=by rw[hL];rfl
   rw[List.drop_drop]at this
   exact this
  unfold kY
  refine Rs.step3 fun Q hQ=>?_
  unfold iY
  dsimp only
  refine Rs.pos (decide_eq_true (by omega)) (Rs.pos (by (first | (simp only [ByteArray.size_append, b9, bsz, d6, List.length_append, List.length_cons, List.length_nil]; unfold maxLen; omega) | (unfold maxLen; omega))) (Rs.pos ⟨by omega,by omega⟩ ?_))
  rw[Int.toNat_natCast]
  have e1:(opK (kF L) j,opN (kF L) j,opS (kF L) j,opM (kF L) j,opF (kF L) j,mkB (j5 i))=rS t i:=by
   have this:=mR hjt
   have a1:=congrArg (fun y:n4=>y.1) this
   have a2:=congrArg (fun y:n4=>y.2.1) this
   have a3:=congrArg (fun y:n4=>y.2.2.1) this
   have a4:=congrArg (fun y:n4=>y.2.2.2.1) this
   have a5:=congrArg (fun y:n4=>y.2.2.2.2) this
   dsimp only at a1 a2 a3 a4 a5
   unfold rS
   rw[←a1,←a2,←a3,←a4,←a5]
  rw[e1]
  refine Rs.bind (ih1 q (by omega) (by omega) (by omega)) fun z2 h2=>?_
  subst h2
  refine Rs.pos (by (first | (simp only [ByteArray.size_append, b9, bsz, d6, List.length_append, List.length_cons, List.length_nil]; unfold maxLen; omega) | (unfold maxLen; omega))) (Rs.pos (by (first | (simp only [ByteArray.size_append, b9, bsz, d6, List.length_append, List.length_cons, List.length_nil]; unfold maxLen; omega) | (unfold maxLen; omega))) (Rs.some (hQ _ ?_)))
  rw[s9 (by omega),←List.append_assoc]
  have e2:mkB acc++mkB (j5 i)++mkB core++(⟨#[10]⟩:ByteArray)=mkB (acc++x):=by rw[hx];(exact aB (by simp [ByteArray.data_append, m4, bL]))
  rw[e2]
  exact ih2 q q2 (j+1) k n s L (acc++x) (by omega) (by simp at hq2;omega) hL2 hjl hLl (by rw[List.length_append];omega) (by omega)
end Go.Proofs.YtjfkkokeegpeiaaGreatDoor
/- ek5 of the reference: the text of procedures. -/
namespace Go.Proofs.YtjfkkokeegpeiaaGreatDoor
open Go Go.Am Go.Proofs.Lx
set_option maxRecDepth 100000
def pT:Nat→List Prm→List UInt8
 |_,[]=>[]
 |i,m::l=>(if 0<i then[44,32]else[])++(ay5 m++pT (i+1) l)
theorem hq9:∀(l:List Prm) (m:Prm) (i:Nat),pT (i+1) (m::l)=44::32::cK (m::l)
 | [],m,i=>by simp[pT,cK]
 |n::l,m,i=>by
  rw[pT,if_pos (by omega),hq9 l n (i+1)]
  simp[cK]
theorem hm9(l:List Prm):pT 0 l=cK l:=by
 cases l with
 |nil=>rfl
 |cons m l=>
  cases l with
  |nil=>simp[pT,cK]
  |cons n l=>
   rw[pT,if_neg (by omega),hq9 l n 0]
   simp[cK]
theorem ff3(cR:eO→Option gV){cs0:List Prc}{i:Nat}{c:Prc}(hc:cs0[i]? =some c)(hm:∀m∈c.ps,az7 m)(h12:c.ps.length≤12):∀(q j:Nat) (acc:List UInt8) (ps:List Prm),j≤c.ps.length→c.ps.drop j=ps→ps.length<q→acc.length+100*ps.length≤2000000000→
 Rs (qP cR q (bc1 cs0) (mkB acc,(i:Int),(j:Int))) (fun z=>z=(mkB (acc++pT j ps),(i:Int)))
 |0,j,acc,ps,_,_,hq,_=>by omega
 |q+1,j,acc,ps,hj,hd,hq,hl=>by
  obtain⟨hil,_⟩:=List.getElem?_eq_some_iff.1 hc
  obtain⟨eX,eQ,eN,eU,eT'⟩:=hd3 hc
  unfold qP
  refine Rs.step3 fun Q hQ=>?_
  unfold nL
  dsimp only[bc1]
  simp only[Int.toNat_natCast,eQ]
  refine Rs.pos ⟨by omega,by omega⟩ ?_
  by_cases hjl:j<c.ps.length
  ·have e1:c.ps.drop j=c.ps[j]::c.ps.drop (j+1):=List.drop_eq_getElem_cons hjl
   rw[e1]at hd
   subst hd
   rw[List.length_cons]at hq hl
   simp only[eN j hjl,eU j hjl]
   have hok:=hm _ (List.getElem_mem hjl)
   generalize c.ps[j]=m at hok hQ⊢
   obtain⟨⟨_,hx,_⟩,hu⟩:=hok
   have hu:m.u.size≤12:=by
    rcases hu with hu|hu
    ·rw[hu];decide
    ·exact(bj0 _ hu).2
   have hij:(0:Int)≤(j:Int)∧(j:Int)< ((c.ps.length:Nat):Int):=⟨by omega,by omega⟩
   have hii:(0:Int)≤(i:Int)∧(i:Int)< ((cs0.length:Nat):Int):=⟨by omega,by omega⟩
   have hpm:(ay5 m).length≤30:=by
    unfold ay5
    split<;>simp only[List.length_append,List.length_cons,List.length_nil,d6]<;>omega
   refine Rs.pos (decide_eq_true hij.2) ?_
   have fin:∀t:ByteArray,t=mkB (acc++(if 0<j then[44,32]else[])++ay5 m)→Q (t,(i:Int),w ((j:Int)+1)):=by
    intro t ht
    refine hQ _ ?_
    rw[ht,s9 (by omega)]
    have:=ff3 cR hc hm h12 q (j+1) (acc++(if 0<j then[44,32]else[])++ay5 m) _ hjl rfl (by omega) (by
     rw[List.length_append,List.length_append]
     have:(if 0<j then[(44:UInt8),32]else[]).length≤2:=by split<;>decide
     omega)
    refine this.mono fun z hz=>?_
    rw[hz,pT]
    simp
   by_cases hj0:0<j
   ·refine Rs.pos (decide_eq_true (by omega)) (Rs.pos (by (first | (simp only [ByteArray.size_append, b9, bsz, d6, List.length_append, List.length_cons, List.length_nil]; unfold maxLen; omega) | (unfold maxLen; omega))) (Rs.pos hii (Rs.pos hij (Rs.pos (by (first | (simp only [ByteArray.size_append, b9, bsz, d6, List.length_append, List.length_cons, List.length_nil]; unfold maxLen; omega) | (unfold maxLen; omega))) (Rs.pos hii (Rs.pos hij ?_))))))
    rw[if_pos hj0]at fin
    by_cases e:m.u=⟨#[]⟩
    ·refine Rs.neg (by rw[oU,decide_eq_true e];decide) (Rs.some (fin _ ?_))
     unfold ay5
     rw[if_pos e]
     (exact aB (by simp [ByteArray.data_append, m4, bL]))
    ·refine Rs.pos (by rw[oU,decide_eq_false e];rfl) (Rs.pos (by (first | (simp only [ByteArray.size_append, b9, bsz, d6, List.length_append, List.length_cons, List.length_nil]; unfold maxLen; omega) | (unfold maxLen; omega))) (Rs.pos hii (Rs.pos hij (Rs.pos (by (first | (simp only [ByteArray.size_append, b9, bsz, d6, List.length_append, List.length_cons, List.length_nil]; unfold maxLen; omega) | (unfold maxLen; omega))) (Rs.some (fin _ ?_))))))
     unfold ay5
     rw[if_neg e]
     (exact aB (by simp [ByteArray.data_append, m4, bL]))
   ·refine Rs.neg (fun h=>hj0 (by have:=of_decide_eq_true h;omega)) (Rs.pos hii (Rs.pos hij (Rs.pos (by (first | (simp only [ByteArray.size_append, b9, bsz, d6, List.length_append, List.length_cons, List.length_nil]; unfold maxLen; omega) | (unfold maxLen; omega))) (Rs.pos hii (Rs.pos hij ?_)))))
    rw[if_neg hj0]at fin
    by_cases e:m.u=⟨#[]⟩
    ·refine Rs.neg (by rw[oU,decide_eq_true e];decide) (Rs.some (fin _ ?_))
     unfold ay5
     rw[if_pos e]
     (exact aB (by simp [ByteArray.data_append, m4, bL]))
    ·refine Rs.pos (by rw[oU,decide_eq_false e];rfl) (Rs.pos (by (first | (simp only [ByteArray.size_append, b9, bsz, d6, List.length_append, List.length_cons, List.length_nil]; unfold maxLen; omega) | (unfold maxLen; omega))) (Rs.pos hii (Rs.pos hij (Rs.pos (by (first | (simp only [ByteArray.size_append, b9, bsz, d6, List.length_append, List.length_cons, List.length_nil]; unfold maxLen; omega) | (unfold maxLen; omega))) (Rs.some (fin _ ?_))))))
     unfold ay5
     rw[if_neg e]
     (exact aB (by simp [ByteArray.data_append, m4, bL]))
  ·rw[List.drop_eq_nil_of_le (by omega)]at hd
   subst hd
   refine Rs.neg (fun h=>hjl (by have:=of_decide_eq_true h;omega)) (Rs.some ?_)
   rw[pT,List.append_nil]
   rfl
noncomputable def gt7(q Q0:Nat)(x:aY):dR→Option (dR⊕sP):=fun y=>fG (kW q) (qP (kW q) Q0 x) x y (fun y=>some (.inl y)) (fun z=>some (.inr z))
theorem ef1{q Q0:Nat}(cs0:List Prc)(hq:∀c∈cs0,3*szT c.b+60≤q∧szT c.b≤1000000)(hQ:20≤Q0)(hn:cs0.length≤10000){cs:List Prc}{x:List UInt8}{l:List Tkn}(h:PrPs cs x l):∀(q2 i:Nat) (acc:List UInt8),cs.length<q2→cs0.drop i=cs→i≤cs0.length→acc.length+x.length≤1000000000→
 Rs (lpG (gt7 q Q0 (bc1 cs0)) q2 (mkB acc,(i:Int))) (fun z=>z=mkB (acc++x)):=by
 induction h with
 |nil=>
  intro q2 i acc hlt hd hi hl
  obtain⟨q2,rfl⟩:∃q',q2=q'+1:=⟨q2-1,by simp at hlt;omega⟩
  have:cs0.length≤i:=List.drop_eq_nil_iff.1 hd
  refine Rs.step ?_
  dsimp only[gt7]
  unfold fG
  dsimp only[bc1]
  refine Rs.neg (fun h=>by have:=of_decide_eq_true h;omega) (Rs.some ?_)
  rw[List.append_nil]
  rfl
 |cons c cs x l xs ls hP _ ih=>
  intro q2 i acc hlt hd hi hl
  obtain⟨q2,rfl⟩:∃q',q2=q'+1:=⟨q2-1,by simp at hlt;omega⟩
  rw[List.length_append]at hl
  have hc:cs0[i]? =some c:=by
   have:(cs0.drop i)[0]? =some c:=by rw[hd];rfl
   rw[List.getElem?_drop]at this
   simpa using this
  obtain⟨hil,hci⟩:=List.getElem?_eq_some_iff.1 hc
  have hd2:cs0.drop (i+1)=cs:=by
   have:(cs0.drop i).drop 1=cs:=by rw[hd];rfl
   rw[List.drop_drop]at this
   exact this
  obtain⟨eX,eQ,eN,eU,eT'⟩:=hd3 hc
  have hmem:c∈cs0:=by rw[←hci];exact List.getElem_mem hil
  obtain⟨s1,s2⟩:=hq c hmem
  obtain⟨k1,k2,k3⟩:=gs6 hP
  obtain⟨⟨_,hnm⟩,hm,ys,xy,ly,dy,vy,hS,hb,hdp,hv1,hv2,hx,rfl⟩:=hP
  have hnm:=hnm.1
  have hxl:x.length=9+(c.x.size+((cK c.ps).length+(xy.length+(0+1+1)+1+1+1+1)+1)+1):=by
   rw[hx]
   simp only[List.length_append,List.length_cons,List.length_nil,d6]
   rfl
  refine Rs.step3 fun Q hQ2=>?_
  dsimp only[gt7]
  unfold fG
  dsimp only[bc1]
  simp only[Int.toNat_natCast,eX]
  refine Rs.pos (decide_eq_true (by omega)) (Rs.pos (by (first | (simp only [ByteArray.size_append, b9, bsz, d6, List.length_append, List.length_cons, List.length_nil]; unfold maxLen; omega) | (unfold maxLen; omega))) (Rs.pos ⟨by omega,by omega⟩ (Rs.pos (by (first | (simp only [ByteArray.size_append, b9, bsz, d6, List.length_append, List.length_cons, List.length_nil]; unfold maxLen; omega) | (unfold maxLen; omega))) (Rs.pos (by (first | (simp only [ByteArray.size_append, b9, bsz, d6, List.length_append, List.length_cons, List.length_nil]; unfold maxLen; omega) | (unfold maxLen; omega))) ?_))))
  have e1:mkB acc++(⟨#[112,114,111,99,101,100,117,114,101,32]⟩:ByteArray)++c.x++(⟨#[40]⟩:ByteArray)=mkB (acc++(bProc.data.toList++(bL c.x++[40]))):=by (exact aB (by simp [ByteArray.data_append, m4, bL]))
  rw[e1]
  refine Rs.bind (ff3 (kW q) hc hm k3 Q0 0 (acc++(bProc.data.toList++(bL c.x++[40]))) c.ps (Nat.zero_le _) rfl (by omega) (by
   simp only[List.length_append,List.length_cons,List.length_nil,d6]
   omega)) fun z hz=>?_
  rw[hm9]at hz
  subst hz
  have s3:(acc++(bProc.data.toList++(bL c.x++[40]))++cK c.ps).length=acc.length+(10+(c.x.size+1))+(cK c.ps).length:=by
   simp only[List.length_append,List.length_cons,List.length_nil,d6]
  refine Rs.pos (by rw[b9,s3];unfold maxLen;omega) (Rs.pos ⟨by omega,by omega⟩ ?_)
  simp only[Int.toNat_natCast,eT']
  rw[hb]at s1 s2⊢
  simp only[szT]at s1 s2
  have hbr:=xP (q:=q) (i:=0) (gm2 hS (by omega)) (by omega) (by omega) (by omega) (by omega) 14 0 ⟨#[]⟩
  refine Rs.bind hbr fun z2 h2=>?_
  subst h2
  have s4:(mkB (123::10::(xy++(j5 0++[125])))).size=xy.length+3:=by
   rw[b9]
   simp only[List.length_append,List.length_cons,List.length_nil,p7]
  refine Rs.pos (by rw[s4,ByteArray.size_append,b9,s3];show _+2+_≤maxLen;unfold maxLen;omega) (Rs.pos (by rw[ByteArray.size_append,s4,ByteArray.size_append,b9,s3];show _+2+_+1≤maxLen;unfold maxLen;omega) (Rs.some (hQ2 _ ?_)))
  have e2:mkB (acc++(bProc.data.toList++(bL c.x++[40]))++cK c.ps)++(⟨#[41,32]⟩:ByteArray)++mkB (123::10::(xy++(j5 0++[125])))++(⟨#[10]⟩:ByteArray)=mkB (acc++x):=by
   rw[hx]
   exact aB (by simp[ByteArray.data_append,m4,bL,j5])
  rw[s9 (by omega),e2,←List.append_assoc]
  exact ih q2 (i+1) (acc++x) (by simp at hlt;omega) hd2 hil (by rw[List.length_append];omega)
theorem fr0{cs:List Prc}{x:List UInt8}{l:List Tkn}(h:PrPs cs x l){q:Nat}(hq:∀c∈cs,3*szT c.b+60≤q∧szT c.b≤1000000)(hn:cs.length+30≤q)(hn2:cs.length≤10000)(hl:x.length≤1000000000):fd9 q (bc1 cs)=some (mkB x):=by
 refine Rs.eq ?_
 unfold fd9 ab9
 refine Rs.bind (P:=fun z=>z=mkB x) ?_ fun z hz=>Rs.some hz
 have:=ef1 (q:=q) (Q0:=q) cs hq (by omega) hn2 h q 0 [] (by omega) rfl (Nat.zero_le _) (by simpa using hl)
 rw[List.nil_append]at this
 exact this
end Go.Proofs.YtjfkkokeegpeiaaGreatDoor
/- Procedures made from numbers, lifted. -/
namespace Go.Proofs.YtjfkkokeegpeiaaGreatDoor
open Go Go.Am Go.Proofs Go.Proofs.Lx
set_option maxRecDepth 100000
abbrev aR:Type:=Int×Nat×FI×Int×Int
abbrev aQ:Type:=Int×Int×ByteArray×Nat×FL×Nat×FI×Int×Int
def o7:AR aR:=fun x=>([.ptr 0 0,i64 x.1],[some (.blk [.ro 1 x.2.1 (fun j=>[i64 (x.2.2.1 j)]),i64 x.2.2.2.1,i64 x.2.2.2.2])])
def gl9(t:TT):aR:=((vI (ag t 1)),u7 (cc t 0 0),dTI (cc t 0 0) 0,vI (cc t 0 1),vI (cc t 0 2))
theorem sS:VI o7:=vd gl9 fun _=>rfl
def cD:aQ→CRes:=fun z=>.ret (.agg [i64 z.1,i64 z.2.1,st z.2.2.1,.ro 4 z.2.2.2.1 z.2.2.2.2.1]) [some (.blk [.ro 1 z.2.2.2.2.2.1 (fun j=>[i64 (z.2.2.2.2.2.2.1 j)]),i64 z.2.2.2.2.2.2.2.1,i64 z.2.2.2.2.2.2.2.2])]
abbrev ai6:Type:=Int×Nat×FI×Int×Int
abbrev xS:Type:=Int×Int×ByteArray×Nat×FL×Nat×FI×Int×Int
def oB:AR ai6:=fun x=>([.ptr 0 0,i64 x.1],[some (.blk [.ro 1 x.2.1 (fun j=>[i64 (x.2.2.1 j)]),i64 x.2.2.2.1,i64 x.2.2.2.2])])
def hg4(t:TT):ai6:=((vI (ag t 1)),u7 (cc t 0 0),dTI (cc t 0 0) 0,vI (cc t 0 1),vI (cc t 0 2))
theorem di8:VI oB:=vd hg4 fun _=>rfl
def ag6:xS→CRes:=fun z=>.ret (.agg [i64 z.1,i64 z.2.1,st z.2.2.1,.ro 4 z.2.2.2.1 z.2.2.2.2.1]) [some (.blk [.ro 1 z.2.2.2.2.2.1 (fun j=>[i64 (z.2.2.2.2.2.2.1 j)]),i64 z.2.2.2.2.2.2.2.1,i64 z.2.2.2.2.2.2.2.2])]
abbrev dE:Type:=Int×Nat×FI×Int×Int
abbrev ac4:Type:=(Int×Int×ByteArray×Nat×FI×Int×Int)⊕(Int×Int×ByteArray×Nat×FL×Nat×FI×Int×Int)
def bu0:AR dE:=fun x=>([.ptr 0 0,i64 x.1],[some (.blk [.ro 1 x.2.1 (fun j=>[i64 (x.2.2.1 j)]),i64 x.2.2.2.1,i64 x.2.2.2.2])])
def bq7:ac4→CRes:=Sum.elim (fun z:Int×Int×ByteArray×Nat×FI×Int×Int=>.ret (.agg [i64 z.1,i64 z.2.1,st z.2.2.1,g8]) [some (.blk [.ro 1 z.2.2.2.1 (fun j=>[i64 (z.2.2.2.2.1 j)]),i64 z.2.2.2.2.2.1,i64 z.2.2.2.2.2.2])]) (fun z:Int×Int×ByteArray×Nat×FL×Nat×FI×Int×Int=>.ret (.agg [i64 z.1,i64 z.2.1,st z.2.2.1,.sl 1 4 0 z.2.2.2.1]) ([some (.blk [.ro 1 z.2.2.2.2.2.1 (fun j=>[i64 (z.2.2.2.2.2.2.1 j)]),i64 z.2.2.2.2.2.2.2.1,i64 z.2.2.2.2.2.2.2.2])]++[some (.row 35 4 z.2.2.2.1 z.2.2.2.2.1)]))
abbrev cr6:Type:=Int×Nat×FI×Int×Int
abbrev vU:Type:=(Int×Int×ByteArray×Nat×FI×Int×Int)⊕(Int×Int×ByteArray×Nat×FL×Nat×FI×Int×Int)⊕(Int×Int×ByteArray×Int×Int×ByteArray×Nat×FL×Nat×FI×Int×Int)⊕(Int×Int×ByteArray×Int×Int×ByteArray×Nat×FL×Int×Int×ByteArray×Nat×FL×Nat×FI×Int×Int)⊕(Int×Int×ByteArray×Int×Int×ByteArray×Nat×FL×Int×Int×ByteArray×Nat×FL×Int×Int×ByteArray×Nat×FL×Nat×FI×Int×Int)
def ck2:AR cr6:=fun x=>([.ptr 0 0,i64 x.1],[some (.blk [.ro 1 x.2.1 (fun j=>[i64 (x.2.2.1 j)]),i64 x.2.2.2.1,i64 x.2.2.2.2])])
def ci8:vU→CRes:=Sum.elim (fun z:Int×Int×ByteArray×Nat×FI×Int×Int=>.ret (.agg [i64 z.1,i64 z.2.1,st z.2.2.1,g8]) [some (.blk [.ro 1 z.2.2.2.1 (fun j=>[i64 (z.2.2.2.2.1 j)]),i64 z.2.2.2.2.2.1,i64 z.2.2.2.2.2.2])]) (Sum.elim (fun z:Int×Int×ByteArray×Nat×FL×Nat×FI×Int×Int=>.ret (.agg [i64 z.1,i64 z.2.1,st z.2.2.1,.ro 4 z.2.2.2.1 z.2.2.2.2.1]) [some (.blk [.ro 1 z.2.2.2.2.2.1 (fun j=>[i64 (z.2.2.2.2.2.2.1 j)]),i64 z.2.2.2.2.2.2.2.1,i64 z.2.2.2.2.2.2.2.2])]) (Sum.elim (fun z:Int×Int×ByteArray×Int×Int×ByteArray×Nat×FL×Nat×FI×Int×Int=>.ret (.agg [i64 z.1,i64 z.2.1,st z.2.2.1,.sl 1 4 0 1]) [some (.blk [.ro 1 z.2.2.2.2.2.2.2.2.1 (fun j=>[i64 (z.2.2.2.2.2.2.2.2.2.1 j)]),i64 z.2.2.2.2.2.2.2.2.2.2.1,i64 z.2.2.2.2.2.2.2.2.2.2.2]),some (.row 35 4 1 (gP [[i64 z.2.2.2.1,i64 z.2.2.2.2.1,st z.2.2.2.2.2.1,.ro 4 z.2.2.2.2.2.2.1 z.2.2.2.2.2.2.2.1]]))]) (Sum.elim (fun z:Int×Int×ByteArray×Int×Int×ByteArray×Nat×FL×Int×Int×ByteArray×Nat×FL×Nat×FI×Int×Int=>.ret (.agg [i64 z.1,i64 z.2.1,st z.2.2.1,.sl 1 4 0 2]) [some (.blk [.ro 1 z.2.2.2.2.2.2.2.2.2.2.2.2.2.1 (fun j=>[i64 (z.2.2.2.2.2.2.2.2.2.2.2.2.2.2.1 j)]),i64 z.2.2.2.2.2.2.2.2.2.2.2.2.2.2.2.1,i64 z.2.2.2.2.2.2.2.2.2.2.2.2.2.2.2.2]),some (.row 35 4 2 (gP [[i64 z.2.2.2.1,i64 z.2.2.2.2.1,st z.2.2.2.2.2.1,.ro 4 z.2.2.2.2.2.2.1 z.2.2.2.2.2.2.2.1],[i64 z.2.2.2.2.2.2.2.2.1,i64 z.2.2.2.2.2.2.2.2.2.1,st z.2.2.2.2.2.2.2.2.2.2.1,.ro 4 z.2.2.2.2.2.2.2.2.2.2.2.1 z.2.2.2.2.2.2.2.2.2.2.2.2.1]]))]) (fun z:Int×Int×ByteArray×Int×Int×ByteArray×Nat×FL×Int×Int×ByteArray×Nat×FL×Int×Int×ByteArray×Nat×FL×Nat×FI×Int×Int=>.ret (.agg [i64 z.1,i64 z.2.1,st z.2.2.1,.sl 1 4 0 3]) [some (.blk [.ro 1 z.2.2.2.2.2.2.2.2.2.2.2.2.2.2.2.2.2.2.1 (fun j=>[i64 (z.2.2.2.2.2.2.2.2.2.2.2.2.2.2.2.2.2.2.2.1 j)]),i64 z.2.2.2.2.2.2.2.2.2.2.2.2.2.2.2.2.2.2.2.2.1,i64 z.2.2.2.2.2.2.2.2.2.2.2.2.2.2.2.2.2.2.2.2.2]),some (.row 35 4 3 (gP [[i64 z.2.2.2.1,i64 z.2.2.2.2.1,st z.2.2.2.2.2.1,.ro 4 z.2.2.2.2.2.2.1 z.2.2.2.2.2.2.2.1],[i64 z.2.2.2.2.2.2.2.2.1,i64 z.2.2.2.2.2.2.2.2.2.1,st z.2.2.2.2.2.2.2.2.2.2.1,.ro 4 z.2.2.2.2.2.2.2.2.2.2.2.1 z.2.2.2.2.2.2.2.2.2.2.2.2.1],[i64 z.2.2.2.2.2.2.2.2.2.2.2.2.2.1,i64 z.2.2.2.2.2.2.2.2.2.2.2.2.2.2.1,st z.2.2.2.2.2.2.2.2.2.2.2.2.2.2.2.1,.ro 4 z.2.2.2.2.2.2.2.2.2.2.2.2.2.2.2.2.1 z.2.2.2.2.2.2.2.2.2.2.2.2.2.2.2.2.2.1]]))]))))
abbrev dI:Type:=(Int×Nat×FI×Int×Int)⊕(Int×Nat×FI×Int×Int×FI×FI×FS×FN×FM×Int×Nat)
abbrev pK:Type:=(Nat×FI×Int×Int)⊕(Nat×FI×Int×Int×Nat×FI×FI×FS×FN×FM)
def cu7(x:dE)(y:Int×Nat×FI×Int×Int):St:={fr:=[V.ptr 0 0,i64 x.1,V.junk,V.junk,V.ptr 1 0,V.ptr 2 0,i64 y.1,i64 0]++jk 17,H:=hp [some (Chunk.blk [V.ro 1 y.2.1 fun j=>[i64 (y.2.2.1 j)],i64 y.2.2.2.1,i64 y.2.2.2.2]),some (Chunk.blk [i64 0,i64 0,st ⟨#[]⟩,g8]),some (Chunk.blk [i64 14,i64 0,st ⟨#[]⟩,g8])],nx:=3,rt:=1,me:=33}
def cv4(s:St):Int×Nat×FI×Int×Int:=((vI (s.fr.getD 6 .junk)),u7 (cb s 0 0),dTI (cb s 0 0) 0,vI (cb s 0 1),vI (cb s 0 2))
def cv6(x:dE)(y:Int×Nat×FI×Int×Int×FI×FI×FS×FN×FM×Int×Nat):St:={fr:=[V.ptr 0 0,i64 x.1,V.junk,V.junk,V.ptr 1 0,V.ptr 2 0,i64 y.1,i64 y.2.2.2.2.2.2.2.2.2.2.1]++jk 17,H:=hp [some (Chunk.blk [V.ro 1 y.2.1 fun j=>[i64 (y.2.2.1 j)],i64 y.2.2.2.1,i64 y.2.2.2.2.1]),some (Chunk.blk [i64 0,i64 0,st ⟨#[]⟩,g8]),some (Chunk.blk [i64 14,i64 0,st ⟨#[]⟩,V.sl 3 4 0 y.2.2.2.2.2.2.2.2.2.2.2]),some (Chunk.row 35 4 y.2.2.2.2.2.2.2.2.2.2.2 fun j=>[i64 (y.2.2.2.2.2.1 j),i64 (y.2.2.2.2.2.2.1 j),st (y.2.2.2.2.2.2.2.1 j),V.ro 4 (y.2.2.2.2.2.2.2.2.1 j) (y.2.2.2.2.2.2.2.2.2.1 j)])],nx:=4,rt:=1,me:=33}
def cu1(s:St):Int×Nat×FI×Int×Int×FI×FI×FS×FN×FM×Int×Nat:=((vI (s.fr.getD 6 .junk)),u7 (cb s 0 0),dTI (cb s 0 0) 0,vI (cb s 0 1),vI (cb s 0 2),dRI (s.H 3) 0,dRI (s.H 3) 1,dRS (s.H 3) 2,dRN (s.H 3) 3,dRF (s.H 3) 3,vI (s.fr.getD 7 .junk),dB (cb s 2 3))
def dU(x:dE):dI→St:=(Sum.elim (cu7 x) (cv6 x))
def dq8(s:St):dI:=(match s.nx==3 with|true=>(.inl (cv4 s)) |false=>(.inr (cu1 s)))
theorem dl4(x:dE):VL (dU x):=vl dq8 (fun y=>by rcases y with y|y<;>rfl)
def kI(x:dE):pK→Ex×St:=(Sum.elim (fun z=>(Ex.exit 0,{fr:=jk 4++[V.ptr 1 0,V.ptr 2 0]++jk 19,H:=hp [some (Chunk.blk [V.ro 1 z.1 fun j=>[i64 (z.2.1 j)],i64 z.2.2.1,i64 z.2.2.2]),some (Chunk.blk [i64 0,i64 0,st ⟨#[]⟩,g8]),some (Chunk.blk [i64 14,i64 0,st ⟨#[]⟩,g8])],nx:=3,rt:=1,me:=33})) (fun z=>(Ex.exit 0,{fr:=jk 4++[V.ptr 1 0,V.ptr 2 0]++jk 19,H:=hp [some (Chunk.blk [V.ro 1 z.1 fun j=>[i64 (z.2.1 j)],i64 z.2.2.1,i64 z.2.2.2.1]),some (Chunk.blk [i64 0,i64 0,st ⟨#[]⟩,g8]),some (Chunk.blk [i64 14,i64 0,st ⟨#[]⟩,V.sl 3 4 0 z.2.2.2.2.1]),some (Chunk.row 35 4 z.2.2.2.2.1 fun j=>[i64 (z.2.2.2.2.2.1 j),i64 (z.2.2.2.2.2.2.1 j),st (z.2.2.2.2.2.2.2.1 j),V.ro 4 (z.2.2.2.2.2.2.2.2.1 j) (z.2.2.2.2.2.2.2.2.2 j)])],nx:=4,rt:=1,me:=33})))
def gZ{β:Type}(c_Next:bG→Option aZ)(c_MStmt:ai6→Option xS)(x:dE)(y:Int×Nat×FI×Int×Int)(nx:dI→Option β)(dn:pK→Option β):Option β:=
 if decide (0<y.1)=true then(c_MStmt (x.1,y.2)).bind fun z214=>nx (.inr (y.1,z214.2.2.2.2.2.1,z214.2.2.2.2.2.2.1,z214.2.2.2.2.2.2.2.1,z214.2.2.2.2.2.2.2.2,fun j=>z214.1,fun j=>z214.2.1,fun j=>z214.2.2.1,fun j=>z214.2.2.2.1,fun j=>z214.2.2.2.2.1,1,1))else dn (.inl y.2)
theorem cs7{β:Type}(c_Next c_MStmt)(x)(y)(nx:dI→Option β)(dn):gZ c_Next c_MStmt x y nx dn=(gZ c_Next c_MStmt x y (fun y=>some (.inl y)) (fun z=>some (.inr z))).bind fun r=>Sum.elim nx dn r:=by
 unfold gZ
 repeat' first|exact n0|refine n1 fun _=>?_|refine n2 ?_ ?_|refine n3 (fun _=>?_) fun _=>?_|rfl
theorem cu9(c_Next c_MStmt)(x)(y)(lo:f5):n8 E5 (ftb 30 n9 dD c_Next (ftb 69 oB ag6 c_MStmt ca0)) lo 0 243 (b5 E5 33 0) (dU x (.inl y)) (KCM [(0,48)] 16)=gZ (vf n9 c_Next) (vf oB c_MStmt) x y (fun y=>lo 0 243 (b5 E5 33 0) (dU x y) (KCM [(0,48)] 16)) (fun z=>some (.l (kI x z).1 (kI x z).2)):=by kernel_rfl
def iA{β:Type}(c_Next:bG→Option aZ)(c_MStmt:ai6→Option xS)(x:dE)(y:Int×Nat×FI×Int×Int×FI×FI×FS×FN×FM×Int×Nat)(nx:dI→Option β)(dn:pK→Option β):Option β:=
 if decide (y.2.2.2.2.2.2.2.2.2.2.1<y.1)=true then(c_MStmt (x.1,y.2.1,y.2.2.1,y.2.2.2.1,y.2.2.2.2.1)).bind fun z221=>if(y.2.2.2.2.2.2.2.2.2.2.2+1)*56≤d5∧y.2.2.2.2.2.2.2.2.2.2.2+1≤maxLen∧y.2.2.2.2.2.2.2.2.2.2.2≤y.2.2.2.2.2.2.2.2.2.2.2 then nx (.inr (y.1,z221.2.2.2.2.2.1,z221.2.2.2.2.2.2.1,z221.2.2.2.2.2.2.2.1,z221.2.2.2.2.2.2.2.2,fun j=>if j<y.2.2.2.2.2.2.2.2.2.2.2 then y.2.2.2.2.2.1 j else z221.1,fun j=>if j<y.2.2.2.2.2.2.2.2.2.2.2 then y.2.2.2.2.2.2.1 j else z221.2.1,fun j=>if j<y.2.2.2.2.2.2.2.2.2.2.2 then y.2.2.2.2.2.2.2.1 j else z221.2.2.1,fun j=>if j<y.2.2.2.2.2.2.2.2.2.2.2 then y.2.2.2.2.2.2.2.2.1 j else z221.2.2.2.1,fun(j j_1:Nat)=>if j<y.2.2.2.2.2.2.2.2.2.2.2 then y.2.2.2.2.2.2.2.2.2.1 j j_1 else z221.2.2.2.2.1 j_1,w (y.2.2.2.2.2.2.2.2.2.2.1+1),y.2.2.2.2.2.2.2.2.2.2.2+1))else none else dn (.inr (y.2.1,y.2.2.1,y.2.2.2.1,y.2.2.2.2.1,y.2.2.2.2.2.2.2.2.2.2.2,y.2.2.2.2.2.1,y.2.2.2.2.2.2.1,y.2.2.2.2.2.2.2.1,y.2.2.2.2.2.2.2.2.1,y.2.2.2.2.2.2.2.2.2.1))
theorem cv9{β:Type}(c_Next c_MStmt)(x)(y)(nx:dI→Option β)(dn):iA c_Next c_MStmt x y nx dn=(iA c_Next c_MStmt x y (fun y=>some (.inl y)) (fun z=>some (.inr z))).bind fun r=>Sum.elim nx dn r:=by
 unfold iA
 repeat' first|exact n0|refine n1 fun _=>?_|refine n2 ?_ ?_|refine n3 (fun _=>?_) fun _=>?_|rfl
theorem ct9(c_Next c_MStmt)(x)(y)(lo:f5):n8 E5 (ftb 30 n9 dD c_Next (ftb 69 oB ag6 c_MStmt ca0)) lo 0 243 (b5 E5 33 0) (dU x (.inr y)) (KCM [(0,48)] 16)=iA (vf n9 c_Next) (vf oB c_MStmt) x y (fun y=>lo 0 243 (b5 E5 33 0) (dU x y) (KCM [(0,48)] 16)) (fun z=>some (.l (kI x z).1 (kI x z).2)):=by kernel_rfl
noncomputable def gF(c_Next:bG→Option aZ)(c_MStmt:ai6→Option xS)(q:Nat)(x:dE):dI→Option pK:=lpG (Sum.elim (fun y=>gZ c_Next c_MStmt x y (fun y=>some (.inl y)) (fun z=>some (.inr z))) (fun y=>iA c_Next c_MStmt x y (fun y=>some (.inl y)) (fun z=>some (.inr z)))) q
theorem dk8(c_Next)(h_Next:Lw E5 30 n9 dD c_Next)(c_MStmt)(h_MStmt:Lw E5 69 oB ag6 c_MStmt)(q:Nat)(x:dE):Ll E5 (b5 E5 33 0) (dU x) (kI x) (gF c_Next c_MStmt q x):=
 slp (fk h_Next (fk h_MStmt a8)) hX5 (fun lo y=>by
  rcases y with y|y
  ·exact(cu9 c_Next c_MStmt x y lo).trans (by rw[qG,di8];exact cs7 _ _ _ _ _ _)
  ·exact(ct9 c_Next c_MStmt x y lo).trans (by rw[qG,di8];exact cv9 _ _ _ _ _ _)) (fun z=>by rcases z with z|z<;>kernel_rfl) q
def nB{β:Type}(c_Next:bG→Option aZ)(c_MStmt:ai6→Option xS)(l_MBlockR_l0:dI→Option pK)(x:dE)(dn:ac4→Option β):Option β:=
 (c_Next (5,x.2)).bind fun z5=>(l_MBlockR_l0 (.inl z5)).bind fun z185=>Sum.elim (fun z185a=>dn (.inl (14,0,⟨#[]⟩,z185a))) (fun z185b=>dn (.inr (14,0,⟨#[]⟩,z185b.2.2.2.2.1,fun j=>[i64 (z185b.2.2.2.2.2.1 j),i64 (z185b.2.2.2.2.2.2.1 j),st (z185b.2.2.2.2.2.2.2.1 j),V.ro 4 (z185b.2.2.2.2.2.2.2.2.1 j) (z185b.2.2.2.2.2.2.2.2.2 j)],z185b.1,z185b.2.1,z185b.2.2.1,z185b.2.2.2.1))) z185
theorem fs1{β:Type}(c_Next c_MStmt)(l_MBlockR_l0)(x)(dn:ac4→Option β):nB c_Next c_MStmt l_MBlockR_l0 x dn=(nB c_Next c_MStmt l_MBlockR_l0 x some).bind dn:=by
 unfold nB
 repeat' first|exact n0|refine n1 fun _=>?_|refine n2 ?_ ?_|refine n3 (fun _=>?_) fun _=>?_|rfl
theorem fy9(c_Next c_MStmt)(l_MBlockR_l0)(x):f7 E5 (ftb 30 n9 dD c_Next (ftb 69 oB ag6 c_MStmt ca0)) (lt2 0 (fun _=>true) (b5 E5 33 0) (dU x) (kI x) l_MBlockR_l0 lo0) 33 (bu0 x).1 (bu0 x).2 K=nB (vf n9 c_Next) (vf oB c_MStmt) (lf (b5 E5 33 0) (dU x) l_MBlockR_l0) x (fun z=>some (.c (bq7 z))):=by kernel_rfl
theorem fv8(c_Next)(h_Next:Lw E5 30 n9 dD c_Next)(c_MStmt)(h_MStmt:Lw E5 69 oB ag6 c_MStmt)(q:Nat):Lw E5 33 bu0 bq7 fun x=>nB c_Next c_MStmt (gF c_Next c_MStmt q x) x some:=sof hW5 hX5 (fk h_Next (fk h_MStmt a8)) (fun x=>(lk2 (dk8 c_Next h_Next c_MStmt h_MStmt q x) b6)) fun x=>(fy9 c_Next c_MStmt (gF c_Next c_MStmt q x) x).trans (by rw[qG,di8,dl4,fs1]<;>rfl)
def sE{β:Type}(c_Next:bG→Option aZ)(c_Decimal:m6→Option s6)(c_Word:ag1→Option ah9)(c_MExpr:rQ→Option oC)(c_Literal:pS→Option pR)(c_one:cz2→Option da8)(c_MBlock:aR→Option aQ)(x:cr6)(dn:vU→Option β):Option β:=
 (c_Next (13,x.2)).bind fun z5=>if decide (x.1≤0)=true then if(z5.1==2)=true then(c_Next (7,z5.2)).bind fun z11=>(c_Word z11.1).bind fun z13=>(c_MExpr (3,z11.2)).bind fun z19=>dn (.inr (.inr (.inl (2,0,z13,z19))))else if(z5.1==3)=true then(c_Next (7,z5.2)).bind fun z25=>(c_Word z25.1).bind fun z27=>(c_MExpr (3,z25.2)).bind fun z33=>dn (.inr (.inr (.inl (2,0,z27,z33))))else if(z5.1==0)=true then if decide (w (z5.2.2.2.2+1)>12)=true then dn (.inl (12,0,⟨#[]⟩,z5.2.1,z5.2.2.1,z5.2.2.2.1,w (z5.2.2.2.2+1)))else(c_Decimal (w (z5.2.2.2.2+1))).bind fun z35=>if 1+z35.size≤maxLen then(c_MExpr (3,z5.2.1,z5.2.2.1,z5.2.2.2.1,w (z5.2.2.2.2+1))).bind fun z41=>dn (.inr (.inr (.inl (1,0,⟨#[118]⟩++z35,z41))))else none else if(z5.1==1)=true then(c_Next (7,z5.2)).bind fun z47=>(c_Word z47.1).bind fun z49=>(c_MExpr (3,z47.2)).bind fun z55=>dn (.inr (.inr (.inl (2,0,z49,z55))))else if(z5.1==2)=true then(c_MExpr (2,z5.2)).bind fun z61=>(c_MBlock (w (x.1-1),z61.2.2.2.2.2)).bind fun z67=>(c_MBlock (w (x.1-1),z67.2.2.2.2.2)).bind fun z73=>dn (.inr (.inr (.inr (.inr (3,0,⟨#[]⟩,z61.1,z61.2.1,z61.2.2.1,z61.2.2.2.1,z61.2.2.2.2.1,z67.1,z67.2.1,z67.2.2.1,z67.2.2.2.1,z67.2.2.2.2.1,z73)))))else if(z5.1==3)=true then(c_Next (100,z5.2)).bind fun z79=>(c_MBlock (w (x.1-1),z79.2)).bind fun z85=>dn (.inr (.inr (.inl (4,w (1+z79.1),⟨#[]⟩,z85))))else if(z5.1==4)=true then(c_Literal z5.2).bind fun z90=>(c_one (5,z90.1,z90.2.1,z90.2.2.1,z90.2.2.2.1,z90.2.2.2.2.1)).bind fun z97=>dn (.inr (.inl (z97.1,0,⟨#[]⟩,1,fun j=>[i64 z97.2.1,i64 z97.2.2.1,st z97.2.2.2.1,V.ro 4 z97.2.2.2.2.1 z97.2.2.2.2.2],z90.2.2.2.2.2)))else if(z5.1==5)=true then(c_MExpr (3,z5.2)).bind fun z103=>(c_Literal z103.2.2.2.2.2).bind fun z108=>dn (.inr (.inr (.inr (.inl (6,0,⟨#[]⟩,z103.1,z103.2.1,z103.2.2.1,z103.2.2.2.1,z103.2.2.2.2.1,z108)))))else if(z5.1==6)=true then(c_MExpr (4,z5.2)).bind fun z114=>(c_one (7,z114.1,z114.2.1,z114.2.2.1,z114.2.2.2.1,z114.2.2.2.2.1)).bind fun z121=>dn (.inr (.inl (z121.1,0,⟨#[]⟩,1,fun j=>[i64 z121.2.1,i64 z121.2.2.1,st z121.2.2.2.1,V.ro 4 z121.2.2.2.2.1 z121.2.2.2.2.2],z114.2.2.2.2.2)))else if(z5.1==7)=true then(c_MExpr (3,z5.2)).bind fun z127=>(c_one (8,z127.1,z127.2.1,z127.2.2.1,z127.2.2.2.1,z127.2.2.2.2.1)).bind fun z134=>dn (.inr (.inl (z134.1,0,⟨#[]⟩,1,fun j=>[i64 z134.2.1,i64 z134.2.2.1,st z134.2.2.2.1,V.ro 4 z134.2.2.2.2.1 z134.2.2.2.2.2],z127.2.2.2.2.2)))else if(z5.1==8)=true then(c_Next (8,z5.2)).bind fun z140=>(c_Literal z140.2).bind fun z145=>dn (.inr (.inr (.inl (9,z140.1,⟨#[]⟩,z145))))else if(z5.1==9)=true then(c_Next (8,z5.2)).bind fun z151=>(c_Literal z151.2).bind fun z156=>dn (.inr (.inr (.inl (10,z151.1,⟨#[]⟩,z156))))else if(z5.1==10)=true then(c_Literal z5.2).bind fun z161=>(c_one (11,z161.1,z161.2.1,z161.2.2.1,z161.2.2.2.1,z161.2.2.2.2.1)).bind fun z168=>dn (.inr (.inl (z168.1,0,⟨#[]⟩,1,fun j=>[i64 z168.2.1,i64 z168.2.2.1,st z168.2.2.2.1,V.ro 4 z168.2.2.2.2.1 z168.2.2.2.2.2],z161.2.2.2.2.2)))else if(z5.1==11)=true then(c_Next (100,z5.2)).bind fun z174=>dn (.inl (12,z174.1,⟨#[]⟩,z174.2))else(c_Next (1000,z5.2)).bind fun z180=>dn (.inl (13,z180.1,⟨#[]⟩,z180.2))else if(z5.1==0)=true then if decide (w (z5.2.2.2.2+1)>12)=true then dn (.inl (12,0,⟨#[]⟩,z5.2.1,z5.2.2.1,z5.2.2.2.1,w (z5.2.2.2.2+1)))else(c_Decimal (w (z5.2.2.2.2+1))).bind fun z182=>if 1+z182.size≤maxLen then(c_MExpr (3,z5.2.1,z5.2.2.1,z5.2.2.2.1,w (z5.2.2.2.2+1))).bind fun z188=>dn (.inr (.inr (.inl (1,0,⟨#[118]⟩++z182,z188))))else none else if(z5.1==1)=true then(c_Next (7,z5.2)).bind fun z194=>(c_Word z194.1).bind fun z196=>(c_MExpr (3,z194.2)).bind fun z202=>dn (.inr (.inr (.inl (2,0,z196,z202))))else if(z5.1==2)=true then(c_MExpr (2,z5.2)).bind fun z208=>(c_MBlock (w (x.1-1),z208.2.2.2.2.2)).bind fun z214=>(c_MBlock (w (x.1-1),z214.2.2.2.2.2)).bind fun z220=>dn (.inr (.inr (.inr (.inr (3,0,⟨#[]⟩,z208.1,z208.2.1,z208.2.2.1,z208.2.2.2.1,z208.2.2.2.2.1,z214.1,z214.2.1,z214.2.2.1,z214.2.2.2.1,z214.2.2.2.2.1,z220)))))else if(z5.1==3)=true then(c_Next (100,z5.2)).bind fun z226=>(c_MBlock (w (x.1-1),z226.2)).bind fun z232=>dn (.inr (.inr (.inl (4,w (1+z226.1),⟨#[]⟩,z232))))else if(z5.1==4)=true then(c_Literal z5.2).bind fun z237=>(c_one (5,z237.1,z237.2.1,z237.2.2.1,z237.2.2.2.1,z237.2.2.2.2.1)).bind fun z244=>dn (.inr (.inl (z244.1,0,⟨#[]⟩,1,fun j=>[i64 z244.2.1,i64 z244.2.2.1,st z244.2.2.2.1,V.ro 4 z244.2.2.2.2.1 z244.2.2.2.2.2],z237.2.2.2.2.2)))else if(z5.1==5)=true then(c_MExpr (3,z5.2)).bind fun z250=>(c_Literal z250.2.2.2.2.2).bind fun z255=>dn (.inr (.inr (.inr (.inl (6,0,⟨#[]⟩,z250.1,z250.2.1,z250.2.2.1,z250.2.2.2.1,z250.2.2.2.2.1,z255)))))else if(z5.1==6)=true then(c_MExpr (4,z5.2)).bind fun z261=>(c_one (7,z261.1,z261.2.1,z261.2.2.1,z261.2.2.2.1,z261.2.2.2.2.1)).bind fun z268=>dn (.inr (.inl (z268.1,0,⟨#[]⟩,1,fun j=>[i64 z268.2.1,i64 z268.2.2.1,st z268.2.2.2.1,V.ro 4 z268.2.2.2.2.1 z268.2.2.2.2.2],z261.2.2.2.2.2)))else if(z5.1==7)=true then(c_MExpr (3,z5.2)).bind fun z274=>(c_one (8,z274.1,z274.2.1,z274.2.2.1,z274.2.2.2.1,z274.2.2.2.2.1)).bind fun z281=>dn (.inr (.inl (z281.1,0,⟨#[]⟩,1,fun j=>[i64 z281.2.1,i64 z281.2.2.1,st z281.2.2.2.1,V.ro 4 z281.2.2.2.2.1 z281.2.2.2.2.2],z274.2.2.2.2.2)))else if(z5.1==8)=true then(c_Next (8,z5.2)).bind fun z287=>(c_Literal z287.2).bind fun z292=>dn (.inr (.inr (.inl (9,z287.1,⟨#[]⟩,z292))))else if(z5.1==9)=true then(c_Next (8,z5.2)).bind fun z298=>(c_Literal z298.2).bind fun z303=>dn (.inr (.inr (.inl (10,z298.1,⟨#[]⟩,z303))))else if(z5.1==10)=true then(c_Literal z5.2).bind fun z308=>(c_one (11,z308.1,z308.2.1,z308.2.2.1,z308.2.2.2.1,z308.2.2.2.2.1)).bind fun z315=>dn (.inr (.inl (z315.1,0,⟨#[]⟩,1,fun j=>[i64 z315.2.1,i64 z315.2.2.1,st z315.2.2.2.1,V.ro 4 z315.2.2.2.2.1 z315.2.2.2.2.2],z308.2.2.2.2.2)))else if(z5.1==11)=true then(c_Next (100,z5.2)).bind fun z321=>dn (.inl (12,z321.1,⟨#[]⟩,z321.2))else(c_Next (1000,z5.2)).bind fun z327=>dn (.inl (13,z327.1,⟨#[]⟩,z327.2))
theorem gk9{β:Type}(c_Next c_Decimal)(c_Word c_MExpr)(c_Literal c_one c_MBlock)(x)(dn:vU→Option β):sE c_Next c_Decimal c_Word c_MExpr c_Literal c_one c_MBlock x dn=(sE c_Next c_Decimal c_Word c_MExpr c_Literal c_one c_MBlock x some).bind dn:=by
 unfold sE
 repeat' first|exact n0|refine n1 fun _=>?_|refine n2 ?_ ?_|refine n3 (fun _=>?_) fun _=>?_|rfl
theorem gt4(c_Next c_Decimal)(c_Word c_MExpr)(c_Literal c_one c_MBlock)(x):f7 E5 (ftb 30 n9 dD c_Next (ftb 31 j3 s7 c_Decimal (ftb 77 yT bv5 c_Word (ftb 39 rN aj4 c_MExpr (ftb 76 nH vO c_Literal (ftb 99 ck7 fg8 c_one (ftb 33 o7 cD c_MBlock ca0))))))) lo0 69 (ck2 x).1 (ck2 x).2 K=sE (vf n9 c_Next) (vf j3 c_Decimal) (vf yT c_Word) (vf rN c_MExpr) (vf nH c_Literal) (vf ck7 c_one) (vf o7 c_MBlock) x (fun z=>some (.c (ci8 z))):=by kernel_rfl
theorem gu4(c_Next)(h_Next:Lw E5 30 n9 dD c_Next)(c_Decimal)(h_Decimal:Lw E5 31 j3 s7 c_Decimal)(c_Word)(h_Word:Lw E5 77 yT bv5 c_Word)(c_MExpr)(h_MExpr:Lw E5 39 rN aj4 c_MExpr)(c_Literal)(h_Literal:Lw E5 76 nH vO c_Literal)(c_one)(h_one:Lw E5 99 ck7 fg8 c_one)(c_MBlock)(h_MBlock:Lw E5 33 o7 cD c_MBlock)(q:Nat):Lw E5 69 ck2 ci8 fun x=>sE c_Next c_Decimal c_Word c_MExpr c_Literal c_one c_MBlock x some:=sof hW5 hX5 (fk h_Next (fk h_Decimal (fk h_Word (fk h_MExpr (fk h_Literal (fk h_one (fk h_MBlock a8))))))) (fun _=>b6) fun x=>(gt4 c_Next c_Decimal c_Word c_MExpr c_Literal c_one c_MBlock x).trans (by rw[qG,gR,gd6,fn8,cx0,if5,sS,gk9]<;>rfl)
def av6:ac4→aQ:=Sum.elim (fun z=>(z.1,z.2.1,z.2.2.1,0,fun _=>[],z.2.2.2)) (fun z=>z)
theorem fc2{args:List V}{L:List (Option Chunk)}(z:ac4)(h:SC E5 33 args L (bq7 z)):SC E5 33 args L (cD (av6 z)):=by
 rcases z with z|z
 ·exact gx4 h
 ·exact ig4 h
def sM:vU→xS:=Sum.elim (fun z=>(z.1,z.2.1,z.2.2.1,0,fun _=>[],z.2.2.2)) (Sum.elim (fun z=>z) (Sum.elim (fun z=>(z.1,z.2.1,z.2.2.1,1,gP [[i64 z.2.2.2.1,i64 z.2.2.2.2.1,st z.2.2.2.2.2.1,.ro 4 z.2.2.2.2.2.2.1 z.2.2.2.2.2.2.2.1]],z.2.2.2.2.2.2.2.2)) (Sum.elim (fun z=>(z.1,z.2.1,z.2.2.1,2,gP [[i64 z.2.2.2.1,i64 z.2.2.2.2.1,st z.2.2.2.2.2.1,.ro 4 z.2.2.2.2.2.2.1 z.2.2.2.2.2.2.2.1],[i64 z.2.2.2.2.2.2.2.2.1,i64 z.2.2.2.2.2.2.2.2.2.1,st z.2.2.2.2.2.2.2.2.2.2.1,.ro 4 z.2.2.2.2.2.2.2.2.2.2.2.1 z.2.2.2.2.2.2.2.2.2.2.2.2.1]],z.2.2.2.2.2.2.2.2.2.2.2.2.2)) (fun z=>(z.1,z.2.1,z.2.2.1,3,gP [[i64 z.2.2.2.1,i64 z.2.2.2.2.1,st z.2.2.2.2.2.1,.ro 4 z.2.2.2.2.2.2.1 z.2.2.2.2.2.2.2.1],[i64 z.2.2.2.2.2.2.2.2.1,i64 z.2.2.2.2.2.2.2.2.2.1,st z.2.2.2.2.2.2.2.2.2.2.1,.ro 4 z.2.2.2.2.2.2.2.2.2.2.2.1 z.2.2.2.2.2.2.2.2.2.2.2.2.1],[i64 z.2.2.2.2.2.2.2.2.2.2.2.2.2.1,i64 z.2.2.2.2.2.2.2.2.2.2.2.2.2.2.1,st z.2.2.2.2.2.2.2.2.2.2.2.2.2.2.2.1,.ro 4 z.2.2.2.2.2.2.2.2.2.2.2.2.2.2.2.2.1 z.2.2.2.2.2.2.2.2.2.2.2.2.2.2.2.2.2.1]],z.2.2.2.2.2.2.2.2.2.2.2.2.2.2.2.2.2.2)))))
theorem fu8{args:List V}{L:List (Option Chunk)}(z:vU)(h:SC E5 69 args L (ci8 z)):SC E5 69 args L (ag6 (sM z)):=by
 rcases z with z|z|z|z|z
 ·exact gx4 h
 ·exact h
 ·exact gt2 h
 ·exact gt2 h
 ·exact gt2 h
noncomputable def ag4:Nat→(aR→Option aQ)×(ai6→Option xS)
 |0=>(fun _=>none,fun _=>none)
 |q+1=>(fun x=>(nB ((Next q)) ((ag4 q).2) (gF ((Next q)) ((ag4 q).2) q x) x some).map av6,
  fun x=>(sE ((Next q)) ((f9 q)) ((ba9 q)) ((az2 q)) ((iI q)) ((one q)) ((ag4 q).1) x some).map sM)
theorem fg3:∀q,(∀x z,(ag4 q).1 x=some z→SC E5 33 (o7 x).1 (o7 x).2 (cD z))∧(∀x z,(ag4 q).2 x=some z→SC E5 69 (oB x).1 (oB x).2 (ag6 z))
 |0=>⟨(fun x z h=>by cases h),(fun x z h=>by cases h)⟩
 |q+1=>by
  obtain⟨h0,h1⟩:=fg3 q
  exact⟨(fun x z h=>by
   obtain⟨y,hy,rfl⟩:=Option.map_eq_some_iff.1 h
   exact fc2 y (fv8 ((Next q)) ((ax5 q)) ((ag4 q).2) (h1) q x y hy)),(fun x z h=>by
   obtain⟨y,hy,rfl⟩:=Option.map_eq_some_iff.1 h
   exact fu8 y (gu4 ((Next q)) ((ax5 q)) ((f9 q)) ((wC q)) ((ba9 q)) ((fi2 q)) ((az2 q)) ((gq0 q)) ((iI q)) ((ck9 q)) ((one q)) ((hw7 q)) ((ag4 q).1) (h0) q x y hy))⟩
noncomputable def dA(q:Nat):aR→Option aQ:=(ag4 q).1
theorem cw7(q:Nat):Lw E5 33 o7 cD (dA q):=(fg3 q).1
abbrev fb6:Type:=Nat×FI×Int
abbrev bo8:Type:=(Unit)⊕(Nat×FI)
def fd3:AR fb6:=fun x=>([.ro 1 x.1 (fun j=>[i64 (x.2.1 j)]),i64 x.2.2],[])
def fb1:bo8→CRes:=Sum.elim (fun z=>CRes.ret (g8) []:(Unit)→CRes) (fun z=>CRes.ret (V.sl 0 1 0 z.1) [some (Chunk.row 3 1 z.1 fun j=>[i64 (z.2 j)])]:(Nat×FI)→CRes)
def bt8{β:Type}(x:fb6)(dn:bo8→Option β):Option β:=
 if(0:Int)≤0∧(0≤if x.2.2< ((x.1:Nat):Int)then x.2.2 else((x.1:Nat):Int))∧(if x.2.2< ((x.1:Nat):Int)then x.2.2 else((x.1:Nat):Int))≤((x.1:Nat):Int)then if Int.toNat (if x.2.2< ((x.1:Nat):Int)then x.2.2 else((x.1:Nat):Int))-0=0 then dn (.inl ())else if(Int.toNat (if x.2.2< ((x.1:Nat):Int)then x.2.2 else((x.1:Nat):Int))-0)*8≤d5∧Int.toNat (if x.2.2< ((x.1:Nat):Int)then x.2.2 else((x.1:Nat):Int))-0≤maxLen then dn (.inr (Int.toNat (if x.2.2< ((x.1:Nat):Int)then x.2.2 else((x.1:Nat):Int))-0,fun j=>x.2.1 (0+j)))else none else none
theorem ib8{β:Type}(x)(dn:bo8→Option β):bt8 x dn=(bt8 x some).bind dn:=by
 unfold bt8
 repeat' first|exact n0|refine n1 fun _=>?_|refine n2 ?_ ?_|refine n3 (fun _=>?_) fun _=>?_|rfl
theorem hw5(x):f7 E5 ca0 lo0 29 (fd3 x).1 (fd3 x).2 K=bt8 x (fun z=>some (.c (fb1 z))):=by kernel_rfl
noncomputable def hu3(q:Nat)(x:fb6):Option bo8:=bt8 x some
theorem ho6(q:Nat):Lw E5 29 fd3 fb1 (hu3 q):=sof hW5 hX5 a8 (fun _=>b6) fun x=>(hw5 x).trans (by rw[ib8]<;>rfl)
end Go.Proofs.YtjfkkokeegpeiaaGreatDoor
/- Make, lifted. -/
namespace Go.Proofs.YtjfkkokeegpeiaaGreatDoor
open Go Go.Am Go.Proofs Go.Proofs.Lx
set_option maxRecDepth 100000
noncomputable def E9:Env:={E5 with rows:=false,push:=false}
theorem hW9:WF E9:=WF.of E9 (fun _=>rfl) (by kernel_rfl) hW.1.1
theorem hX9:SoundX E9:=SoundX.none fun _ _=>rfl
theorem sc9{f:FuncId}{args:List V}{L:List (Option Chunk)}{cr:CRes}:SC E9 f args L cr↔SC E5 f args L cr:=
 ⟨fun h=>⟨h.1,fun β S w us h1 h2 h3=>h.2 β S w us h1 h2 ⟨h3.rd,h3.inv⟩⟩,fun h=>⟨h.1,fun β S w us h1 h2 h3=>h.2 β S w us h1 h2 ⟨h3.rd,h3.inv⟩⟩⟩
abbrev iJ:Type:=Nat×FI×Int
abbrev iM:Type:=Nat×FI
def bE:AR iJ:=fun x=>([.ro 1 x.1 (fun j=>[i64 (x.2.1 j)]),i64 x.2.2],[])
def hj3(t:TT):iJ:=(u7 (ag t 0),dTI (ag t 0) 0,vI (ag t 1))
theorem ad1:VI bE:=vd hj3 fun _=>rfl
def lX:iM→CRes:=fun z=>.ret (.ro 1 z.1 (fun j=>[i64 (z.2 j)])) []
def bm5:bo8→iM:=Sum.elim (fun _=>(0,fun _=>0)) (fun z=>z)
theorem fv0{args:List V}{L:List (Option Chunk)}(z:bo8)(h:SC E5 29 args L (fb1 z)):SC E5 29 args L (lX (bm5 z)):=by
 rcases z with z|z
 ·exact SC.le h Le.nil_ro
 ·have h2:=SC.giveM (L2:=[]) 0 h (by rfl) (by simp[V.bw,V.bw2,V.bw1,hp,V.pure,m8])
  simp[V.bw,V.bw2,V.bw1,hp]at h2
  exact h2
noncomputable def jK(q:Nat)(x:iJ):Option iM:=(hu3 q x).map bm5
theorem ea6(q:Nat):Lw E5 29 bE lX (jK q):=by
 intro x z h
 obtain⟨y,hy,rfl⟩:=Option.map_eq_some_iff.1 h
 exact fv0 y (ho6 q x y hy)
abbrev g9:Type:=Nat×FI
abbrev ar3:Type:=(Unit)⊕(Nat×FL)
def dd8:AR g9:=fun x=>([.ro 1 x.1 (fun j=>[i64 (x.2 j)])],[])
def dp3:ar3→CRes:=Sum.elim (fun _=>.ret (.sc (.slice none 0 0)) []:(Unit)→CRes) (fun z:Nat×FL=>.ret (.sl 0 6 0 z.1) [some (.row 56 6 z.1 z.2)])
abbrev gA:Type:=(Int×Nat×FI×Int×Int×ByteArray)⊕(Int×Nat×FI×Int×Int×ByteArray×FL×Int×Nat)
abbrev pN:Type:=(Int×Nat×FI×Int×Int×ByteArray)⊕(Int×Nat×FI×Int×Int×ByteArray×Nat×FL)
def ei8(x:g9)(y:Int×Nat×FI×Int×Int×ByteArray):St:={fr:=[V.junk,V.junk,V.junk,V.ptr 0 0,g8,i64 y.1,i64 0,V.ptr 1 0,i64 0]++jk 49,H:=hp [some (Chunk.blk [V.ro 1 y.2.1 fun j=>[i64 (y.2.2.1 j)],i64 y.2.2.2.1,i64 y.2.2.2.2.1]),some (Chunk.blk [st y.2.2.2.2.2,g8,i64 0,i64 0,st ⟨#[]⟩,g8])],nx:=2,rt:=0,me:=12}
def dx7(s:St):Int×Nat×FI×Int×Int×ByteArray:=((vI (s.fr.getD 5 .junk)),u7 (cb s 0 0),dTI (cb s 0 0) 0,vI (cb s 0 1),vI (cb s 0 2),vS (cb s 1 0))
def eb1(x:g9)(y:Int×Nat×FI×Int×Int×ByteArray×FL×Int×Nat):St:={fr:=[V.junk,V.junk,V.junk,V.ptr 0 0,g8,i64 y.1,i64 0,V.ptr 1 0,i64 y.2.2.2.2.2.2.2.1]++jk 49,H:=hp [some (Chunk.blk [V.ro 1 y.2.1 fun j=>[i64 (y.2.2.1 j)],i64 y.2.2.2.1,i64 y.2.2.2.2.1]),some (Chunk.blk [st y.2.2.2.2.2.1,V.sl 2 2 0 y.2.2.2.2.2.2.2.2,i64 0,i64 0,st ⟨#[]⟩,g8]),some (Chunk.row 66 2 y.2.2.2.2.2.2.2.2 y.2.2.2.2.2.2.1)],nx:=3,rt:=0,me:=12}
def dr6(s:St):Int×Nat×FI×Int×Int×ByteArray×FL×Int×Nat:=((vI (s.fr.getD 5 .junk)),u7 (cb s 0 0),dTI (cb s 0 0) 0,vI (cb s 0 1),vI (cb s 0 2),vS (cb s 1 0),(chF (s.H 2)),vI (s.fr.getD 8 .junk),dB (cb s 1 1))
def bY(x:g9):gA→St:=(Sum.elim (ei8 x) (eb1 x))
def ez2(s:St):gA:=(match s.nx==2 with|true=>(.inl (dx7 s)) |false=>(.inr (dr6 s)))
theorem cm0(x:g9):VL (bY x):=vl ez2 (fun y=>by rcases y with y|y<;>rfl)
def jW(x:g9):pN→Ex×St:=(Sum.elim (fun z=>(Ex.exit 2,{fr:=[V.junk,V.junk,V.junk,V.ptr 0 0,g8,i64 z.1,i64 0,V.ptr 1 0]++jk 50,H:=hp [some (Chunk.blk [V.ro 1 z.2.1 fun j=>[i64 (z.2.2.1 j)],i64 z.2.2.2.1,i64 z.2.2.2.2.1]),some (Chunk.blk [st z.2.2.2.2.2,g8,i64 0,i64 0,st ⟨#[]⟩,g8])],nx:=2,rt:=0,me:=12})) (fun z=>(Ex.exit 2,{fr:=[V.junk,V.junk,V.junk,V.ptr 0 0,g8,i64 z.1,i64 0,V.ptr 1 0]++jk 50,H:=hp [some (Chunk.blk [V.ro 1 z.2.1 fun j=>[i64 (z.2.2.1 j)],i64 z.2.2.2.1,i64 z.2.2.2.2.1]),some (Chunk.blk [st z.2.2.2.2.2.1,V.sl 2 2 0 z.2.2.2.2.2.2.1,i64 0,i64 0,st ⟨#[]⟩,g8]),some (Chunk.row 66 2 z.2.2.2.2.2.2.1 z.2.2.2.2.2.2.2)],nx:=3,rt:=0,me:=12})))
def nE{β:Type}(c_IntsV:iJ→Option iM)(c_Next:bG→Option aZ)(c_Decimal:m6→Option s6)(c_UnitM:fW→Option fS)(c_MBlock:aR→Option aQ)(x:g9)(y:Int×Nat×FI×Int×Int×ByteArray)(nx:gA→Option β)(dn:pN→Option β):Option β:=
 if decide (0<y.2.2.2.2.1)=true then(c_Decimal (1)).bind fun z1630=>if 1+z1630.size≤maxLen then(c_Next (9,y.2.1,y.2.2.1,y.2.2.2.1,y.2.2.2.2.1)).bind fun z1636=>(c_UnitM z1636.1).bind fun z1638=>nx (.inr (y.1,z1636.2.1,z1636.2.2.1,z1636.2.2.2.1,z1636.2.2.2.2,y.2.2.2.2.2,fun j=>ay4 false [[st (⟨#[118]⟩++z1630),st z1638]] (0+j),1,1))else none else dn (.inl y)
theorem dw9{β:Type}(c_IntsV c_Next)(c_Decimal c_UnitM c_MBlock)(x)(y)(nx:gA→Option β)(dn):nE c_IntsV c_Next c_Decimal c_UnitM c_MBlock x y nx dn=(nE c_IntsV c_Next c_Decimal c_UnitM c_MBlock x y (fun y=>some (.inl y)) (fun z=>some (.inr z))).bind fun r=>Sum.elim nx dn r:=by
 unfold nE
 repeat' first|exact n0|refine n1 fun _=>?_|refine n2 ?_ ?_|refine n3 (fun _=>?_) fun _=>?_|rfl
theorem du2(c_IntsV c_Next)(c_Decimal c_UnitM c_MBlock)(x)(y)(lo:f5):n8 E9 (ftb 29 bE lX c_IntsV (ftb 30 n9 dD c_Next (ftb 31 j3 s7 c_Decimal (ftb 32 v8 kP c_UnitM (ftb 33 o7 cD c_MBlock ca0))))) lo 2 504 (b5 E9 12 2) (bY x (.inl y)) (KCM [(2,248),(1,120),(0,16)] 4)=nE (vf bE c_IntsV) (vf n9 c_Next) (vf j3 c_Decimal) (vf v8 c_UnitM) (vf o7 c_MBlock) x y (fun y=>lo 2 504 (b5 E9 12 2) (bY x y) (KCM [(2,248),(1,120),(0,16)] 4)) (fun z=>some (.l (jW x z).1 (jW x z).2)):=by kernel_rfl
def nN{β:Type}(c_IntsV:iJ→Option iM)(c_Next:bG→Option aZ)(c_Decimal:m6→Option s6)(c_UnitM:fW→Option fS)(c_MBlock:aR→Option aQ)(x:g9)(y:Int×Nat×FI×Int×Int×ByteArray×FL×Int×Nat)(nx:gA→Option β)(dn:pN→Option β):Option β:=
 if decide (y.2.2.2.2.2.2.2.1<y.2.2.2.2.1)=true then(c_Decimal (w (y.2.2.2.2.2.2.2.1+1))).bind fun z1641=>if 1+z1641.size≤maxLen then(c_Next (9,y.2.1,y.2.2.1,y.2.2.2.1,y.2.2.2.2.1)).bind fun z1647=>(c_UnitM z1647.1).bind fun z1649=>if(y.2.2.2.2.2.2.2.2+1)*32≤d5∧y.2.2.2.2.2.2.2.2+1≤maxLen∧y.2.2.2.2.2.2.2.2≤y.2.2.2.2.2.2.2.2 then nx (.inr (y.1,z1647.2.1,z1647.2.2.1,z1647.2.2.2.1,z1647.2.2.2.2,y.2.2.2.2.2.1,ak1 false 1 y.2.2.2.2.2.2.2.2 y.2.2.2.2.2.2.1 fun j=>ay4 false [[st (⟨#[118]⟩++z1641),st z1649]] (0+j),w (y.2.2.2.2.2.2.2.1+1),y.2.2.2.2.2.2.2.2+1))else none else none else dn (.inr (y.1,y.2.1,y.2.2.1,y.2.2.2.1,y.2.2.2.2.1,y.2.2.2.2.2.1,y.2.2.2.2.2.2.2.2,y.2.2.2.2.2.2.1))
theorem ef2{β:Type}(c_IntsV c_Next)(c_Decimal c_UnitM c_MBlock)(x)(y)(nx:gA→Option β)(dn):nN c_IntsV c_Next c_Decimal c_UnitM c_MBlock x y nx dn=(nN c_IntsV c_Next c_Decimal c_UnitM c_MBlock x y (fun y=>some (.inl y)) (fun z=>some (.inr z))).bind fun r=>Sum.elim nx dn r:=by
 unfold nN
 repeat' first|exact n0|refine n1 fun _=>?_|refine n2 ?_ ?_|refine n3 (fun _=>?_) fun _=>?_|rfl
theorem ee3(c_IntsV c_Next)(c_Decimal c_UnitM c_MBlock)(x)(y)(lo:f5):n8 E9 (ftb 29 bE lX c_IntsV (ftb 30 n9 dD c_Next (ftb 31 j3 s7 c_Decimal (ftb 32 v8 kP c_UnitM (ftb 33 o7 cD c_MBlock ca0))))) lo 2 504 (b5 E9 12 2) (bY x (.inr y)) (KCM [(2,248),(1,120),(0,16)] 4)=nN (vf bE c_IntsV) (vf n9 c_Next) (vf j3 c_Decimal) (vf v8 c_UnitM) (vf o7 c_MBlock) x y (fun y=>lo 2 504 (b5 E9 12 2) (bY x y) (KCM [(2,248),(1,120),(0,16)] 4)) (fun z=>some (.l (jW x z).1 (jW x z).2)):=by kernel_rfl
noncomputable def bV(c_IntsV:iJ→Option iM)(c_Next:bG→Option aZ)(c_Decimal:m6→Option s6)(c_UnitM:fW→Option fS)(c_MBlock:aR→Option aQ)(q:Nat)(x:g9):gA→Option pN:=lpG (Sum.elim (fun y=>nE c_IntsV c_Next c_Decimal c_UnitM c_MBlock x y (fun y=>some (.inl y)) (fun z=>some (.inr z))) (fun y=>nN c_IntsV c_Next c_Decimal c_UnitM c_MBlock x y (fun y=>some (.inl y)) (fun z=>some (.inr z)))) q
theorem eq1(c_IntsV)(h_IntsV:Lw E9 29 bE lX c_IntsV)(c_Next)(h_Next:Lw E9 30 n9 dD c_Next)(c_Decimal)(h_Decimal:Lw E9 31 j3 s7 c_Decimal)(c_UnitM)(h_UnitM:Lw E9 32 v8 kP c_UnitM)(c_MBlock)(h_MBlock:Lw E9 33 o7 cD c_MBlock)(q:Nat)(x:g9):Ll E9 (b5 E9 12 2) (bY x) (jW x) (bV c_IntsV c_Next c_Decimal c_UnitM c_MBlock q x):=
 slp (fk h_IntsV (fk h_Next (fk h_Decimal (fk h_UnitM (fk h_MBlock a8))))) hX9 (fun lo y=>by
  rcases y with y|y
  ·exact(du2 c_IntsV c_Next c_Decimal c_UnitM c_MBlock x y lo).trans (by rw[ad1,qG,gR,xT,sS];exact dw9 _ _ _ _ _ _ _ _ _)
  ·exact(ee3 c_IntsV c_Next c_Decimal c_UnitM c_MBlock x y lo).trans (by rw[ad1,qG,gR,xT,sS];exact ef2 _ _ _ _ _ _ _ _ _)) (fun z=>by rcases z with z|z<;>kernel_rfl) q
abbrev bA:Type:=(Nat×Int×Int×Nat×FI×Int×Int×FL×ByteArray)⊕(Nat×Int×Int×Nat×FI×Int×Int×FL×ByteArray×FL×Int×Nat)
abbrev bH:Type:=(Nat×Int×Int×Nat×FI×Int×Int×FL×ByteArray)⊕(Nat×Int×Int×Nat×FI×Int×Int×FL×ByteArray×Nat×FL)
def cv3(x:g9)(y:Nat×Int×Int×Nat×FI×Int×Int×FL×ByteArray):St:={fr:=[V.junk,V.junk,V.junk,V.ptr 0 0,V.sl 1 6 0 (y.1),i64 (y.2.1),i64 (y.2.2.1),V.ptr 2 0,i64 (0:Int)]++jk 49,H:=hp [some (Chunk.blk [V.ro 1 (y.2.2.2.1) fun(j:Nat)=>[i64 (y.2.2.2.2.1 j)],i64 (y.2.2.2.2.2.1),i64 (y.2.2.2.2.2.2.1)]),some (Chunk.row 56 6 (y.1) (y.2.2.2.2.2.2.2.1)),some (Chunk.blk [st (y.2.2.2.2.2.2.2.2),g8,i64 (0:Int),i64 (0:Int),st ⟨#[]⟩,g8])],nx:=3,rt:=0,me:=12}
def cr7(s:St):Nat×Int×Int×Nat×FI×Int×Int×FL×ByteArray:=((dB (s.fr.getD 4 .junk)),(vI (s.fr.getD 5 .junk)),(vI (s.fr.getD 6 .junk)),(u7 ((chB (s.H 0)).getD 0 .junk)),(fun j=>(vI (((iU ((chB (s.H 0)).getD 0 .junk)) j).getD 0 .junk))),(vI ((chB (s.H 0)).getD 1 .junk)),(vI ((chB (s.H 0)).getD 2 .junk)),(chF (s.H 1)),(vS ((chB (s.H 2)).getD 0 .junk)))
def cw2(x:g9)(y:Nat×Int×Int×Nat×FI×Int×Int×FL×ByteArray×FL×Int×Nat):St:={fr:=[V.junk,V.junk,V.junk,V.ptr 0 0,V.sl 1 6 0 (y.1),i64 (y.2.1),i64 (y.2.2.1),V.ptr 2 0,i64 (y.2.2.2.2.2.2.2.2.2.2.1)]++jk 49,H:=hp [some (Chunk.blk [V.ro 1 (y.2.2.2.1) fun(j:Nat)=>[i64 (y.2.2.2.2.1 j)],i64 (y.2.2.2.2.2.1),i64 (y.2.2.2.2.2.2.1)]),some (Chunk.row 56 6 (y.1) (y.2.2.2.2.2.2.2.1)),some (Chunk.blk [st (y.2.2.2.2.2.2.2.2.1),V.sl 3 2 0 (y.2.2.2.2.2.2.2.2.2.2.2),i64 (0:Int),i64 (0:Int),st ⟨#[]⟩,g8]),some (Chunk.row 66 2 (y.2.2.2.2.2.2.2.2.2.2.2) (y.2.2.2.2.2.2.2.2.2.1))],nx:=4,rt:=0,me:=12}
def ct3(s:St):Nat×Int×Int×Nat×FI×Int×Int×FL×ByteArray×FL×Int×Nat:=((dB (s.fr.getD 4 .junk)),(vI (s.fr.getD 5 .junk)),(vI (s.fr.getD 6 .junk)),(u7 ((chB (s.H 0)).getD 0 .junk)),(fun j=>(vI (((iU ((chB (s.H 0)).getD 0 .junk)) j).getD 0 .junk))),(vI ((chB (s.H 0)).getD 1 .junk)),(vI ((chB (s.H 0)).getD 2 .junk)),(chF (s.H 1)),(vS ((chB (s.H 2)).getD 0 .junk)),(chF (s.H 3)),(vI (s.fr.getD 8 .junk)),(dB ((chB (s.H 2)).getD 1 .junk)))
def n6(x:g9):bA→St:=(Sum.elim (cv3 x) (cw2 x))
def df2(s:St):bA:=(match s.nx==3 with|true=>(.inl (cr7 s)) |false=>(.inr (ct3 s)))
theorem bf5(x:g9):∀y y',n6 x y=n6 x y'→y=y':=fun y y' h=>by rcases y with y|y<;>rcases y' with y|y<;>exact(congrArg df2 h:)
def j0(x:g9):bH→Ex×St:=(Sum.elim (fun z=>(Ex.exit 2,{fr:=[V.junk,V.junk,V.junk,V.ptr 0 0,V.sl 1 6 0 (z.1),i64 (z.2.1),i64 (z.2.2.1),V.ptr 2 0]++jk 50,H:=hp [some (Chunk.blk [V.ro 1 (z.2.2.2.1) fun(j:Nat)=>[i64 (z.2.2.2.2.1 j)],i64 (z.2.2.2.2.2.1),i64 (z.2.2.2.2.2.2.1)]),some (Chunk.row 56 6 (z.1) (z.2.2.2.2.2.2.2.1)),some (Chunk.blk [st (z.2.2.2.2.2.2.2.2),g8,i64 (0:Int),i64 (0:Int),st ⟨#[]⟩,g8])],nx:=3,rt:=0,me:=12})) (fun z=>(Ex.exit 2,{fr:=[V.junk,V.junk,V.junk,V.ptr 0 0,V.sl 1 6 0 (z.1),i64 (z.2.1),i64 (z.2.2.1),V.ptr 2 0]++jk 50,H:=hp [some (Chunk.blk [V.ro 1 (z.2.2.2.1) fun(j:Nat)=>[i64 (z.2.2.2.2.1 j)],i64 (z.2.2.2.2.2.1),i64 (z.2.2.2.2.2.2.1)]),some (Chunk.row 56 6 (z.1) (z.2.2.2.2.2.2.2.1)),some (Chunk.blk [st (z.2.2.2.2.2.2.2.2.1),V.sl 3 2 0 (z.2.2.2.2.2.2.2.2.2.1),i64 (0:Int),i64 (0:Int),st ⟨#[]⟩,g8]),some (Chunk.row 66 2 (z.2.2.2.2.2.2.2.2.2.1) (z.2.2.2.2.2.2.2.2.2.2))],nx:=4,rt:=0,me:=12})))
def uP(x:g9)(z:bH)(k:KX):Option Ans:=Sum.elim (fun za=>k (j0 x (.inl za)).1 (j0 x (.inl za)).2) (fun zb=>k (j0 x (.inr zb)).1 (j0 x (.inr zb)).2) z
theorem cw4(x:g9):∀z k,uP x z k=k (j0 x z).1 (j0 x z).2:=fun z k=>by
 rcases z with z|z<;>rfl
theorem cu2(x:g9)(z:Nat×Int×Int×Nat×FI×Int×Int×FL×ByteArray):KCM [(2,248),(1,120),(0,16)] 4 (j0 x (.inl z)).1 (j0 x (.inl z)).2=some (.l (j0 x (.inl z)).1 (j0 x (.inl z)).2):=by kernel_rfl
theorem cv1(x:g9)(z:Nat×Int×Int×Nat×FI×Int×Int×FL×ByteArray×Nat×FL):KCM [(2,248),(1,120),(0,16)] 4 (j0 x (.inr z)).1 (j0 x (.inr z)).2=some (.l (j0 x (.inr z)).1 (j0 x (.inr z)).2):=by kernel_rfl
def gX{β:Type}(c_IntsV:iJ→Option iM)(c_Next:bG→Option aZ)(c_Decimal:m6→Option s6)(c_UnitM:fW→Option fS)(c_MBlock:aR→Option aQ)(x:g9)(y:Nat×Int×Int×Nat×FI×Int×Int×FL×ByteArray)(nx:bA→Option β)(dn:bH→Option β):Option β:=
 if decide ((0:Int)<y.2.2.2.2.2.2.1)=true then
  (c_Decimal ((1:Int))).bind fun z1652=>
   if 1+ByteArray.size z1652≤maxLen then
    (c_Next (((9:Int),y.2.2.2.1,y.2.2.2.2.1,y.2.2.2.2.2.1,y.2.2.2.2.2.2.1))).bind fun z1658=>
     (c_UnitM (z1658.1)).bind fun z1660=>
      nx (.inr ((y.1,y.2.1,y.2.2.1,z1658.2.1,z1658.2.2.1,z1658.2.2.2.1,z1658.2.2.2.2,y.2.2.2.2.2.2.2.1,y.2.2.2.2.2.2.2.2,fun(j:Nat)=>ay4 false [[st (⟨#[118]⟩++z1652),st z1660]] (0+j),(1:Int),1)))
   else
    none
 else
  dn (.inl y)
theorem cu5{β:Type}(c_IntsV c_Next)(c_Decimal c_UnitM c_MBlock)(x:g9)(y:Nat×Int×Int×Nat×FI×Int×Int×FL×ByteArray)(nx:bA→Option β)(dn:bH→Option β):gX c_IntsV c_Next c_Decimal c_UnitM c_MBlock x y nx dn=(gX c_IntsV c_Next c_Decimal c_UnitM c_MBlock x y (fun y=>some (.inl y)) (fun z=>some (.inr z))).bind fun r=>Sum.elim nx dn r:=by
 unfold gX
 repeat' first|exact n0|refine n1 fun _=>?_|refine n2 ?_ ?_|refine n3 (fun _=>?_) fun _=>?_|rfl
theorem ct7(c_IntsV c_Next)(c_Decimal c_UnitM c_MBlock)(x:g9)(y:Nat×Int×Int×Nat×FI×Int×Int×FL×ByteArray)(lo:f5):n8 E9 (ftb 29 bE lX c_IntsV (ftb 30 n9 dD c_Next (ftb 31 j3 s7 c_Decimal (ftb 32 v8 kP c_UnitM (ftb 33 o7 cD c_MBlock ca0))))) lo 2 504 (b5 E9 12 2) (n6 x (.inl y)) (KCM [(2,248),(1,120),(0,16)] 4)=gX (vf bE c_IntsV) (vf n9 c_Next) (vf j3 c_Decimal) (vf v8 c_UnitM) (vf o7 c_MBlock) x y (fun y=>lo 2 504 (b5 E9 12 2) (n6 x y) (KCM [(2,248),(1,120),(0,16)] 4)) (fun z=>some (.l (j0 x z).1 (j0 x z).2)):=by kernel_rfl
def gW{β:Type}(c_IntsV:iJ→Option iM)(c_Next:bG→Option aZ)(c_Decimal:m6→Option s6)(c_UnitM:fW→Option fS)(c_MBlock:aR→Option aQ)(x:g9)(y:Nat×Int×Int×Nat×FI×Int×Int×FL×ByteArray×FL×Int×Nat)(nx:bA→Option β)(dn:bH→Option β):Option β:=
 if decide (y.2.2.2.2.2.2.2.2.2.2.1<y.2.2.2.2.2.2.1)=true then
  (c_Decimal (w (y.2.2.2.2.2.2.2.2.2.2.1+(1:Int)))).bind fun z1663=>
   if 1+ByteArray.size z1663≤maxLen then
    (c_Next (((9:Int),y.2.2.2.1,y.2.2.2.2.1,y.2.2.2.2.2.1,y.2.2.2.2.2.2.1))).bind fun z1669=>
     (c_UnitM (z1669.1)).bind fun z1671=>
      if(y.2.2.2.2.2.2.2.2.2.2.2+1)*32≤d5∧y.2.2.2.2.2.2.2.2.2.2.2+1≤maxLen∧y.2.2.2.2.2.2.2.2.2.2.2≤y.2.2.2.2.2.2.2.2.2.2.2 then
       nx (.inr ((y.1,y.2.1,y.2.2.1,z1669.2.1,z1669.2.2.1,z1669.2.2.2.1,z1669.2.2.2.2,y.2.2.2.2.2.2.2.1,y.2.2.2.2.2.2.2.2.1,ak1 false 1 (y.2.2.2.2.2.2.2.2.2.2.2) (y.2.2.2.2.2.2.2.2.2.1) fun(j:Nat)=>ay4 false [[st (⟨#[118]⟩++z1663),st z1671]] (0+j),w (y.2.2.2.2.2.2.2.2.2.2.1+(1:Int)),y.2.2.2.2.2.2.2.2.2.2.2+1)))
      else
       none
   else
    none
 else
  dn (.inr ((y.1,y.2.1,y.2.2.1,y.2.2.2.1,y.2.2.2.2.1,y.2.2.2.2.2.1,y.2.2.2.2.2.2.1,y.2.2.2.2.2.2.2.1,y.2.2.2.2.2.2.2.2.1,y.2.2.2.2.2.2.2.2.2.2.2,y.2.2.2.2.2.2.2.2.2.1)))
theorem cu4{β:Type}(c_IntsV c_Next)(c_Decimal c_UnitM c_MBlock)(x:g9)(y:Nat×Int×Int×Nat×FI×Int×Int×FL×ByteArray×FL×Int×Nat)(nx:bA→Option β)(dn:bH→Option β):gW c_IntsV c_Next c_Decimal c_UnitM c_MBlock x y nx dn=(gW c_IntsV c_Next c_Decimal c_UnitM c_MBlock x y (fun y=>some (.inl y)) (fun z=>some (.inr z))).bind fun r=>Sum.elim nx dn r:=by
 unfold gW
 repeat' first|exact n0|refine n1 fun _=>?_|refine n2 ?_ ?_|refine n3 (fun _=>?_) fun _=>?_|rfl
theorem cu0(c_IntsV c_Next)(c_Decimal c_UnitM c_MBlock)(x:g9)(y:Nat×Int×Int×Nat×FI×Int×Int×FL×ByteArray×FL×Int×Nat)(lo:f5):n8 E9 (ftb 29 bE lX c_IntsV (ftb 30 n9 dD c_Next (ftb 31 j3 s7 c_Decimal (ftb 32 v8 kP c_UnitM (ftb 33 o7 cD c_MBlock ca0))))) lo 2 504 (b5 E9 12 2) (n6 x (.inr y)) (KCM [(2,248),(1,120),(0,16)] 4)=gW (vf bE c_IntsV) (vf n9 c_Next) (vf j3 c_Decimal) (vf v8 c_UnitM) (vf o7 c_MBlock) x y (fun y=>lo 2 504 (b5 E9 12 2) (n6 x y) (KCM [(2,248),(1,120),(0,16)] 4)) (fun z=>some (.l (j0 x z).1 (j0 x z).2)):=by kernel_rfl
noncomputable def o8(c_IntsV:iJ→Option iM)(c_Next:bG→Option aZ)(c_Decimal:m6→Option s6)(c_UnitM:fW→Option fS)(c_MBlock:aR→Option aQ)(q:Nat)(x:g9):bA→Option bH:=lpG (Sum.elim (fun y=>gX c_IntsV c_Next c_Decimal c_UnitM c_MBlock x y (fun y=>some (.inl y)) (fun z=>some (.inr z))) (fun y=>gW c_IntsV c_Next c_Decimal c_UnitM c_MBlock x y (fun y=>some (.inl y)) (fun z=>some (.inr z)))) q
theorem dj8(c_IntsV)(h_IntsV:Lw E9 29 bE lX c_IntsV)(c_Next)(h_Next:Lw E9 30 n9 dD c_Next)(c_Decimal)(h_Decimal:Lw E9 31 j3 s7 c_Decimal)(c_UnitM)(h_UnitM:Lw E9 32 v8 kP c_UnitM)(c_MBlock)(h_MBlock:Lw E9 33 o7 cD c_MBlock)(q:Nat)(x:g9):∀y z,o8 c_IntsV c_Next c_Decimal c_UnitM c_MBlock q x y=some z→SL E9 (b5 E9 12 2) (n6 x y) (j0 x z).1 (j0 x z).2:=
 SL.lp (LT:=fun lo=>lo) (T:=j0 x) (S:=n6 x) (fk h_IntsV (fk h_Next (fk h_Decimal (fk h_UnitM (fk h_MBlock a8))))) hX9 (fun lo h=>h) (fun lo y=>by
  rcases y with y|y
  ·exact(ct7 c_IntsV c_Next c_Decimal c_UnitM c_MBlock x y lo).trans (by rw[ad1,qG,gR,xT,sS];exact cu5 _ _ _ _ _ _ _ _ _)
  ·exact(cu0 c_IntsV c_Next c_Decimal c_UnitM c_MBlock x y lo).trans (by rw[ad1,qG,gR,xT,sS];exact cu4 _ _ _ _ _ _ _ _ _)) (fun z=>by rcases z with z|z<;>first|exact cu2 x z|exact cv1 x z) q
abbrev iT:Type:=(Int×Nat×FI×Int×Int)⊕(Int×Nat×FI×Int×Int×FL×Nat×Int)
abbrev wB:Type:=(Unit)⊕(Nat×FL)
def ed0(x:g9)(y:Int×Nat×FI×Int×Int):St:={fr:=[V.junk,V.junk,V.junk,V.ptr 0 0,g8,i64 y.1,i64 0]++jk 51,H:=hp [some (Chunk.blk [V.ro 1 y.2.1 fun j=>[i64 (y.2.2.1 j)],i64 y.2.2.2.1,i64 y.2.2.2.2])],nx:=1,rt:=0,me:=12}
def dx1(s:St):Int×Nat×FI×Int×Int:=((vI (s.fr.getD 5 .junk)),u7 (cb s 0 0),dTI (cb s 0 0) 0,vI (cb s 0 1),vI (cb s 0 2))
def ec5(x:g9)(y:Int×Nat×FI×Int×Int×FL×Nat×Int):St:={fr:=[V.junk,V.junk,V.junk,V.ptr 0 0,V.sl 1 6 0 y.2.2.2.2.2.2.1,i64 y.1,i64 y.2.2.2.2.2.2.2]++jk 51,H:=hp [some (Chunk.blk [V.ro 1 y.2.1 fun j=>[i64 (y.2.2.1 j)],i64 y.2.2.2.1,i64 y.2.2.2.2.1]),some (Chunk.row 56 6 y.2.2.2.2.2.2.1 y.2.2.2.2.2.1)],nx:=2,rt:=0,me:=12}
def dz7(s:St):Int×Nat×FI×Int×Int×FL×Nat×Int:=((vI (s.fr.getD 5 .junk)),u7 (cb s 0 0),dTI (cb s 0 0) 0,vI (cb s 0 1),vI (cb s 0 2),(chF (s.H 1)),dB (s.fr.getD 4 .junk),vI (s.fr.getD 6 .junk))
def fM(x:g9):iT→St:=(Sum.elim (ed0 x) (ec5 x))
def es4(s:St):iT:=(match s.nx==1 with|true=>(.inl (dx1 s)) |false=>(.inr (dz7 s)))
theorem eq7(x:g9):VL (fM x):=vl es4 (fun y=>by rcases y with y|y<;>rfl)
def mJ(x:g9):wB→Ex×St:=(Sum.elim (fun z=>(Ex.exit 0,{fr:=jk 4++[g8]++jk 53,H:=hp [],nx:=0,rt:=0,me:=12})) (fun z=>(Ex.exit 0,{fr:=jk 4++[V.sl 0 6 0 z.1]++jk 53,H:=hp [some (Chunk.row 56 6 z.1 z.2)],nx:=1,rt:=0,me:=12})))
def eW{β:Type}(c_IntsV:iJ→Option iM)(c_Next:bG→Option aZ)(c_Decimal:m6→Option s6)(c_UnitM:fW→Option fS)(c_MBlock:aR→Option aQ)(l_MakeR_l2:gA→Option pN)(l_MakeR_l2_2:bA→Option bH)(x:g9)(y:Int×Nat×FI×Int×Int)(nx:iT→Option β)(dn:wB→Option β):Option β:=
 if decide (0<y.1)=true then(c_Decimal (0)).bind fun z1192=>if 1+z1192.size≤maxLen then(c_Next (4,y.2)).bind fun z1198=>(l_MakeR_l2 (.inl (y.1,z1198.2.1,z1198.2.2.1,z1198.2.2.2.1,z1198.1,⟨#[112]⟩++z1192))).bind fun z1371=>Sum.elim (fun z1371a=>(c_MBlock (2,z1371a.2.1,z1371a.2.2.1,z1371a.2.2.2.1,z1371a.2.2.2.2.1)).bind fun z1377=>nx (.inr (z1371a.1,z1377.2.2.2.2.2.1,z1377.2.2.2.2.2.2.1,z1377.2.2.2.2.2.2.2.1,z1377.2.2.2.2.2.2.2.2,fun j=>ay4 false [[st z1371a.2.2.2.2.2,g8,i64 z1377.1,i64 z1377.2.1,st z1377.2.2.1,V.ro 4 z1377.2.2.2.1 z1377.2.2.2.2.1]] (0+j),1,1))) (fun z1371b=>(c_MBlock (2,z1371b.2.1,z1371b.2.2.1,z1371b.2.2.2.1,z1371b.2.2.2.2.1)).bind fun z1384=>if 0+z1371b.2.2.2.2.2.2.1≤z1371b.2.2.2.2.2.2.1∧2=2 then nx (.inr (z1371b.1,z1384.2.2.2.2.2.1,z1384.2.2.2.2.2.2.1,z1384.2.2.2.2.2.2.2.1,z1384.2.2.2.2.2.2.2.2,fun j=>ay4 false [[st z1371b.2.2.2.2.2.1,V.ro 2 z1371b.2.2.2.2.2.2.1 fun j=>z1371b.2.2.2.2.2.2.2 (0+j),i64 z1384.1,i64 z1384.2.1,st z1384.2.2.1,V.ro 4 z1384.2.2.2.1 z1384.2.2.2.2.1]] (0+j),1,1))else none) z1371 else none else dn (.inl ())
theorem ej0{β:Type}(c_IntsV c_Next)(c_Decimal c_UnitM c_MBlock)(l_MakeR_l2)(l_MakeR_l2_2)(x)(y)(nx:iT→Option β)(dn):eW c_IntsV c_Next c_Decimal c_UnitM c_MBlock l_MakeR_l2 l_MakeR_l2_2 x y nx dn=(eW c_IntsV c_Next c_Decimal c_UnitM c_MBlock l_MakeR_l2 l_MakeR_l2_2 x y (fun y=>some (.inl y)) (fun z=>some (.inr z))).bind fun r=>Sum.elim nx dn r:=by
 unfold eW
 repeat' first|exact n0|refine n1 fun _=>?_|refine n2 ?_ ?_|refine n3 (fun _=>?_) fun _=>?_|rfl
theorem ee8(c_IntsV c_Next)(c_Decimal c_UnitM c_MBlock)(l_MakeR_l2)(l_MakeR_l2_2)(x)(y)(lo:f5):n8 E9 (ftb 29 bE lX c_IntsV (ftb 30 n9 dD c_Next (ftb 31 j3 s7 c_Decimal (ftb 32 v8 kP c_UnitM (ftb 33 o7 cD c_MBlock ca0))))) (lt2 2 (fun s=>bs1 (s.fr.getD 4 .junk)) (b5 E9 12 2) (bY x) (jW x) l_MakeR_l2 (aj8 2 (fun s=> !bs1 (s.fr.getD 4 .junk)) (b5 E9 12 2) (n6 x) (uP x) l_MakeR_l2_2 lo)) 0 120 (b5 E9 12 0) (fM x (.inl y)) (KCM [(0,16)] 4)=eW (vf bE c_IntsV) (vf n9 c_Next) (vf j3 c_Decimal) (vf v8 c_UnitM) (vf o7 c_MBlock) (lf (b5 E9 12 2) (bY x) l_MakeR_l2) (fun y=>ay3 (fun y=>(b5 E9 12 2,n6 x y)) l_MakeR_l2_2 (b5 E9 12 2,n6 x y)) x y (fun y=>lo 0 120 (b5 E9 12 0) (fM x y) (KCM [(0,16)] 4)) (fun z=>some (.l (mJ x z).1 (mJ x z).2)):=by kernel_rfl
def eY{β:Type}(c_IntsV:iJ→Option iM)(c_Next:bG→Option aZ)(c_Decimal:m6→Option s6)(c_UnitM:fW→Option fS)(c_MBlock:aR→Option aQ)(l_MakeR_l2:gA→Option pN)(l_MakeR_l2_2:bA→Option bH)(x:g9)(y:Int×Nat×FI×Int×Int×FL×Nat×Int)(nx:iT→Option β)(dn:wB→Option β):Option β:=
 if decide (y.2.2.2.2.2.2.2<y.1)=true then(c_Decimal y.2.2.2.2.2.2.2).bind fun z1387=>if 1+z1387.size≤maxLen then(c_Next (4,y.2.1,y.2.2.1,y.2.2.2.1,y.2.2.2.2.1)).bind fun z1393=>(l_MakeR_l2_2 (.inl (y.2.2.2.2.2.2.1,y.1,y.2.2.2.2.2.2.2,z1393.2.1,z1393.2.2.1,z1393.2.2.2.1,z1393.1,y.2.2.2.2.2.1,⟨#[112]⟩++z1387))).bind fun z1614=>Sum.elim (fun z1614a=>(c_MBlock (2,z1614a.2.2.2.1,z1614a.2.2.2.2.1,z1614a.2.2.2.2.2.1,z1614a.2.2.2.2.2.2.1)).bind fun z1620=>if(z1614a.1+1)*96≤d5∧z1614a.1+1≤maxLen∧z1614a.1≤z1614a.1 then nx (.inr (z1614a.2.1,z1620.2.2.2.2.2.1,z1620.2.2.2.2.2.2.1,z1620.2.2.2.2.2.2.2.1,z1620.2.2.2.2.2.2.2.2,ak1 false 1 z1614a.1 z1614a.2.2.2.2.2.2.2.1 fun j=>ay4 false [[st z1614a.2.2.2.2.2.2.2.2,g8,i64 z1620.1,i64 z1620.2.1,st z1620.2.2.1,V.ro 4 z1620.2.2.2.1 z1620.2.2.2.2.1]] (0+j),z1614a.1+1,w (z1614a.2.2.1+1)))else none) (fun z1614b=>(c_MBlock (2,z1614b.2.2.2.1,z1614b.2.2.2.2.1,z1614b.2.2.2.2.2.1,z1614b.2.2.2.2.2.2.1)).bind fun z1627=>if 0+z1614b.2.2.2.2.2.2.2.2.2.1≤z1614b.2.2.2.2.2.2.2.2.2.1∧2=2 then if(z1614b.1+1)*96≤d5∧z1614b.1+1≤maxLen∧z1614b.1≤z1614b.1 then nx (.inr (z1614b.2.1,z1627.2.2.2.2.2.1,z1627.2.2.2.2.2.2.1,z1627.2.2.2.2.2.2.2.1,z1627.2.2.2.2.2.2.2.2,ak1 false 1 z1614b.1 z1614b.2.2.2.2.2.2.2.1 fun j=>ay4 false [[st z1614b.2.2.2.2.2.2.2.2.1,V.ro 2 z1614b.2.2.2.2.2.2.2.2.2.1 fun j=>z1614b.2.2.2.2.2.2.2.2.2.2 (0+j),i64 z1627.1,i64 z1627.2.1,st z1627.2.2.1,V.ro 4 z1627.2.2.2.1 z1627.2.2.2.2.1]] (0+j),z1614b.1+1,w (z1614b.2.2.1+1)))else none else none) z1614 else none else dn (.inr (y.2.2.2.2.2.2.1,y.2.2.2.2.2.1))
theorem ee0{β:Type}(c_IntsV c_Next)(c_Decimal c_UnitM c_MBlock)(l_MakeR_l2)(l_MakeR_l2_2)(x)(y)(nx:iT→Option β)(dn):eY c_IntsV c_Next c_Decimal c_UnitM c_MBlock l_MakeR_l2 l_MakeR_l2_2 x y nx dn=(eY c_IntsV c_Next c_Decimal c_UnitM c_MBlock l_MakeR_l2 l_MakeR_l2_2 x y (fun y=>some (.inl y)) (fun z=>some (.inr z))).bind fun r=>Sum.elim nx dn r:=by
 unfold eY
 repeat' first|exact n0|refine n1 fun _=>?_|refine n2 ?_ ?_|refine n3 (fun _=>?_) fun _=>?_|rfl
theorem eh6(c_IntsV c_Next)(c_Decimal c_UnitM c_MBlock)(l_MakeR_l2)(l_MakeR_l2_2)(x)(y)(lo:f5):n8 E9 (ftb 29 bE lX c_IntsV (ftb 30 n9 dD c_Next (ftb 31 j3 s7 c_Decimal (ftb 32 v8 kP c_UnitM (ftb 33 o7 cD c_MBlock ca0))))) (lt2 2 (fun s=>bs1 (s.fr.getD 4 .junk)) (b5 E9 12 2) (bY x) (jW x) l_MakeR_l2 (aj8 2 (fun s=> !bs1 (s.fr.getD 4 .junk)) (b5 E9 12 2) (n6 x) (uP x) l_MakeR_l2_2 lo)) 0 120 (b5 E9 12 0) (fM x (.inr y)) (KCM [(0,16)] 4)=eY (vf bE c_IntsV) (vf n9 c_Next) (vf j3 c_Decimal) (vf v8 c_UnitM) (vf o7 c_MBlock) (lf (b5 E9 12 2) (bY x) l_MakeR_l2) (fun y=>ay3 (fun y=>(b5 E9 12 2,n6 x y)) l_MakeR_l2_2 (b5 E9 12 2,n6 x y)) x y (fun y=>lo 0 120 (b5 E9 12 0) (fM x y) (KCM [(0,16)] 4)) (fun z=>some (.l (mJ x z).1 (mJ x z).2)):=by kernel_rfl
noncomputable def am9(c_IntsV:iJ→Option iM)(c_Next:bG→Option aZ)(c_Decimal:m6→Option s6)(c_UnitM:fW→Option fS)(c_MBlock:aR→Option aQ)(q:Nat)(x:g9):iT→Option wB:=lpG (Sum.elim (fun y=>eW c_IntsV c_Next c_Decimal c_UnitM c_MBlock (bV c_IntsV c_Next c_Decimal c_UnitM c_MBlock q x) (o8 c_IntsV c_Next c_Decimal c_UnitM c_MBlock q x) x y (fun y=>some (.inl y)) (fun z=>some (.inr z))) (fun y=>eY c_IntsV c_Next c_Decimal c_UnitM c_MBlock (bV c_IntsV c_Next c_Decimal c_UnitM c_MBlock q x) (o8 c_IntsV c_Next c_Decimal c_UnitM c_MBlock q x) x y (fun y=>some (.inl y)) (fun z=>some (.inr z)))) q
theorem fc7(c_IntsV)(h_IntsV:Lw E9 29 bE lX c_IntsV)(c_Next)(h_Next:Lw E9 30 n9 dD c_Next)(c_Decimal)(h_Decimal:Lw E9 31 j3 s7 c_Decimal)(c_UnitM)(h_UnitM:Lw E9 32 v8 kP c_UnitM)(c_MBlock)(h_MBlock:Lw E9 33 o7 cD c_MBlock)(q:Nat)(x:g9):Ll E9 (b5 E9 12 0) (fM x) (mJ x) (am9 c_IntsV c_Next c_Decimal c_UnitM c_MBlock q x):=
 SL.lp (LT:=fun lo=>(lt2 2 (fun s=>bs1 (s.fr.getD 4 .junk)) (b5 E9 12 2) (bY x) (jW x) (bV c_IntsV c_Next c_Decimal c_UnitM c_MBlock q x) (aj8 2 (fun s=> !bs1 (s.fr.getD 4 .junk)) (b5 E9 12 2) (n6 x) (uP x) (o8 c_IntsV c_Next c_Decimal c_UnitM c_MBlock q x) lo))) (T:=mJ x) (S:=fM x) (fk h_IntsV (fk h_Next (fk h_Decimal (fk h_UnitM (fk h_MBlock a8))))) hX9 (fun lo h=>(lk2 (eq1 c_IntsV h_IntsV c_Next h_Next c_Decimal h_Decimal c_UnitM h_UnitM c_MBlock h_MBlock q x) (pP (dj8 c_IntsV h_IntsV c_Next h_Next c_Decimal h_Decimal c_UnitM h_UnitM c_MBlock h_MBlock q x) (cw4 x) h))) (fun lo y=>by
  rcases y with y|y
  ·exact(ee8 c_IntsV c_Next c_Decimal c_UnitM c_MBlock (bV c_IntsV c_Next c_Decimal c_UnitM c_MBlock q x) (o8 c_IntsV c_Next c_Decimal c_UnitM c_MBlock q x) x y lo).trans (by rw[ad1,qG,gR,xT,sS,cm0,br2 (ap1 (b5 E9 12 2) (bf5 x)) (o8 c_IntsV c_Next c_Decimal c_UnitM c_MBlock q x)];exact ej0 _ _ _ _ _ _ _ _ _ _ _)
  ·exact(eh6 c_IntsV c_Next c_Decimal c_UnitM c_MBlock (bV c_IntsV c_Next c_Decimal c_UnitM c_MBlock q x) (o8 c_IntsV c_Next c_Decimal c_UnitM c_MBlock q x) x y lo).trans (by rw[ad1,qG,gR,xT,sS,cm0,br2 (ap1 (b5 E9 12 2) (bf5 x)) (o8 c_IntsV c_Next c_Decimal c_UnitM c_MBlock q x)];exact ee0 _ _ _ _ _ _ _ _ _ _ _)) (fun z=>by rcases z with z|z<;>kernel_rfl) q
def au0{β:Type}(c_IntsV:iJ→Option iM)(c_Next:bG→Option aZ)(c_Decimal:m6→Option s6)(c_UnitM:fW→Option fS)(c_MBlock:aR→Option aQ)(l_MakeR_l0:iT→Option wB)(x:g9)(dn:ar3→Option β):Option β:=
 (c_IntsV (x.1,x.2,200)).bind fun z3=>(c_Next (4,z3.1,z3.2,0,0)).bind fun z9=>(l_MakeR_l0 (.inl z9)).bind fun z1184=>Sum.elim (fun z1184a=>dn (.inl ())) (fun z1184b=>dn (.inr z1184b)) z1184
theorem gx2{β:Type}(c_IntsV c_Next)(c_Decimal c_UnitM c_MBlock)(l_MakeR_l0)(x)(dn:ar3→Option β):au0 c_IntsV c_Next c_Decimal c_UnitM c_MBlock l_MakeR_l0 x dn=(au0 c_IntsV c_Next c_Decimal c_UnitM c_MBlock l_MakeR_l0 x some).bind dn:=by
 unfold au0
 repeat' first|exact n0|refine n1 fun _=>?_|refine n2 ?_ ?_|refine n3 (fun _=>?_) fun _=>?_|rfl
theorem he3(c_IntsV c_Next)(c_Decimal c_UnitM c_MBlock)(l_MakeR_l0)(x):f7 E9 (ftb 29 bE lX c_IntsV (ftb 30 n9 dD c_Next (ftb 31 j3 s7 c_Decimal (ftb 32 v8 kP c_UnitM (ftb 33 o7 cD c_MBlock ca0))))) (lt2 0 (fun _=>true) (b5 E9 12 0) (fM x) (mJ x) l_MakeR_l0 lo0) 12 (dd8 x).1 (dd8 x).2 K=au0 (vf bE c_IntsV) (vf n9 c_Next) (vf j3 c_Decimal) (vf v8 c_UnitM) (vf o7 c_MBlock) (lf (b5 E9 12 0) (fM x) l_MakeR_l0) x (fun z=>some (.c (dp3 z))):=by kernel_rfl
noncomputable def fj3(q:Nat)(x:g9):Option ar3:=au0 (jK q) (Next q) (f9 q) (dS q) (dA q) (am9 (jK q) (Next q) (f9 q) (dS q) (dA q) q x) x some
theorem gl4(q:Nat):Lw E9 12 dd8 dp3 (fj3 q):=sof hW9 hX9 (fk (fun x z h=>sc9.2 (ea6 q x z h)) (fk (fun x z h=>sc9.2 (ax5 q x z h)) (fk (fun x z h=>sc9.2 (wC q x z h)) (fk (fun x z h=>sc9.2 (cn0 q x z h)) (fk (fun x z h=>sc9.2 (cw7 q x z h)) a8))))) (fun x=>(lk2 (fc7 (jK q) (fun x z h=>sc9.2 (ea6 q x z h)) (Next q) (fun x z h=>sc9.2 (ax5 q x z h)) (f9 q) (fun x z h=>sc9.2 (wC q x z h)) (dS q) (fun x z h=>sc9.2 (cn0 q x z h)) (dA q) (fun x z h=>sc9.2 (cw7 q x z h)) q x) b6)) fun x=>(he3 (jK q) (Next q) (f9 q) (dS q) (dA q) (am9 (jK q) (Next q) (f9 q) (dS q) (dA q) q x) x).trans (by rw[ad1,qG,gR,xT,sS,eq7,gx2]<;>rfl)
end Go.Proofs.YtjfkkokeegpeiaaGreatDoor
/- Procedures made from numbers, plain: what the maker makes of statements and blocks. -/
namespace Go.Proofs.YtjfkkokeegpeiaaGreatDoor
open Go Go.Am Go.Proofs.Lx
set_option maxRecDepth 100000
def vN(n:Nat):ByteArray:=⟨#[118]⟩++itS (n:Int)
def nmL(a b:Nat):List ByteArray:=(List.range (min b 12-min a 12)).map fun j=>vN (min a 12+j+1)
theorem eI(a:Nat):nmL a a=[]:=by unfold nmL;rw[Nat.sub_self];rfl
theorem cc4{a b c:Nat}(h1:a≤b)(h2:b≤c):nmL a b++nmL b c=nmL a c:=by
 unfold nmL
 rw[show min c 12-min a 12=(min b 12-min a 12)+(min c 12-min b 12)by omega,List.range_add,List.map_append,List.map_map]
 congr 1
 refine List.map_congr_left fun j _=>?_
 show vN (min b 12+j+1)=vN (min a 12+(min b 12-min a 12+j)+1)
 rw[show min a 12+(min b 12-min a 12+j)+1=min b 12+j+1 by omega]
theorem ff9{a:Nat}(h:a<12):nmL a (a+1)=[vN (a+1)]:=by
 unfold nmL
 rw[show min (a+1) 12-min a 12=1 by omega]
 show[vN (min a 12+0+1)]=_
 rw[show min a 12+0+1=a+1 by omega]
theorem gi0{a b:Nat}(h:12≤a)(hb:a≤b):nmL a b=[]:=by
 unfold nmL
 rw[show min b 12-min a 12=0 by omega]
 rfl
theorem hq4:∀n,1≤n→n≤12→am8 (vN n):=by
 intro n h1 h2
 have key:∀n,n<12→Lx.resP (⟨#[118]⟩++mkB (if n<9 then[UInt8.ofNat (49+n)]else[49,UInt8.ofNat (39+n)]))=false∧(⟨#[118]⟩++mkB (if n<9 then[UInt8.ofNat (49+n)]else[49,UInt8.ofNat (39+n)]):ByteArray).size≤12∧(⟨#[118]⟩++mkB (if n<9 then[UInt8.ofNat (49+n)]else[49,UInt8.ofNat (39+n)]):ByteArray).data.toList=118::(if n<9 then[UInt8.ofNat (49+n)]else[49,UInt8.ofNat (39+n)])∧∀b∈118::(if n<9 then[UInt8.ofNat (49+n)]else[49,UInt8.ofNat (39+n)]),aE b.toNat=true:=by decide
 have e:itS (n:Int)=mkB (if n-1<9 then[UInt8.ofNat (49+(n-1))]else[49,UInt8.ofNat (39+(n-1))]):=by
  refine aB ?_
  rw[sA (by omega),Int.toNat_natCast,m4]
  split
  ·rw[Lib.decDigits,dif_pos (by omega),show 49+(n-1)=48+n by omega]
  ·rw[Lib.decDigits,dif_neg (by omega),show n/10=1 by omega,show n%10=n-10 by omega,Lib.decDigits,dif_pos (by decide),show 39+(n-1)=48+(n-10)by omega]
   rfl
 obtain⟨k1,k2,k3,k4⟩:=key (n-1) (by omega)
 unfold vN
 rw[e]
 exact⟨k1,k2,_,_,k3,by decide,k4⟩
theorem id7{m n:Nat}(h:vN m=vN n):m=n:=by
 have h1:(vN m).data.toList=(vN n).data.toList:=by rw[h]
 unfold vN at h1
 rw[ByteArray.data_append,ByteArray.data_append,Array.toList_append,Array.toList_append,sA (by omega),sA (by omega),Int.toNat_natCast,Int.toNat_natCast]at h1
 have h2:=List.append_cancel_left h1
 have v1:=(vB m).2.2.1
 have v2:=(vB n).2.2.1
 rw[h2]at v1
 omega
theorem RepN.one{k n:Int}{s:ByteArray}{a:Tr}{y:n4}(h:RepN a y):RepN (.node k n s [a]) (k,n,s,1,fun _=>[i64 y.1,i64 y.2.1,st y.2.2.1,.ro 4 y.2.2.2.1 y.2.2.2.2]):=by
 simp only[_root_.Go.Proofs.YtjfkkokeegpeiaaGreatDoor.RepN,rW,List.length_cons,List.length_nil]
 exact⟨trivial,trivial,trivial,trivial,⟨y,rfl,h⟩,trivial⟩
theorem RepN.k3{k n:Int}{s:ByteArray}{a b c:Tr}{y z u:n4}(h:RepN a y)(g:RepN b z)(f:RepN c u):RepN (.node k n s [a,b,c]) (k,n,s,3,gP [[i64 y.1,i64 y.2.1,st y.2.2.1,.ro 4 y.2.2.2.1 y.2.2.2.2],[i64 z.1,i64 z.2.1,st z.2.2.1,.ro 4 z.2.2.2.1 z.2.2.2.2],[i64 u.1,i64 u.2.1,st u.2.2.1,.ro 4 u.2.2.2.1 u.2.2.2.2]]):=by
 simp only[_root_.Go.Proofs.YtjfkkokeegpeiaaGreatDoor.RepN,rW,List.length_cons,List.length_nil]
 exact⟨trivial,trivial,trivial,trivial,⟨y,rfl,h⟩,⟨z,rfl,g⟩,⟨u,rfl,f⟩,trivial⟩
def NS:Nat→Nat
 |0=>200
 |d+1=>200+2*(1+4*NS d)
def NB(d:Nat):Nat:=1+4*NS d
def SS:Nat→Nat
 |0=>200
 |d+1=>200+2*(4*(SS d+1)+4)
def MS(ln:Nat)(lf:Nat→Int)(P:Tr→Nat→Prop)(a b n:Nat)(z:xS):Prop:=∃(t:Tr) (y:n4) (a' b':Nat),z=(y.1,y.2.1,y.2.2.1,y.2.2.2.1,y.2.2.2.2,ln,lf,(a':Int),(b':Int))∧P t b'∧RepN t y∧a≤a'∧a'≤a+n∧b≤b'∧b'≤b+n
def PS1(d b:Nat)(t:Tr)(b':Nat):Prop:=szT t≤SS d∧∀i,∃x l e,PrS i (.inl t) x l e (nmL b b')∧e≤8+d
def PB1(d b:Nat)(t:Tr)(b':Nat):Prop:=∃ts,t= .node 14 0 ⟨#[]⟩ ts∧szL ts≤4*(SS d+1)∧∀i,∃x l e,PrS i (.inr ts) x l e (nmL b b')∧e≤8+d
def dst(c_Next:bG→Option aZ)(c_Decimal:m6→Option s6)(c_Word:ag1→Option ah9)(c_MExpr:rQ→Option oC)(c_Literal:pS→Option pR)(c_one:cz2→Option da8)(c_MBlock:aR→Option aQ)(dp k:Int)(s:Nat×FI×Int×Int):Option vU:=
 if(k==0)=true then if decide (w (s.2.2.2+1)>12)=true then some (.inl (12,0,⟨#[]⟩,s.1,s.2.1,s.2.2.1,w (s.2.2.2+1)))else(c_Decimal (w (s.2.2.2+1))).bind fun z182=>if 1+z182.size≤maxLen then(c_MExpr (3,s.1,s.2.1,s.2.2.1,w (s.2.2.2+1))).bind fun z188=>some (.inr (.inr (.inl (1,0,⟨#[118]⟩++z182,z188))))else none else if(k==1)=true then(c_Next (7,s)).bind fun z194=>(c_Word z194.1).bind fun z196=>(c_MExpr (3,z194.2)).bind fun z202=>some (.inr (.inr (.inl (2,0,z196,z202))))else if(k==2)=true then(c_MExpr (2,s)).bind fun z208=>(c_MBlock (w (dp-1),z208.2.2.2.2.2)).bind fun z214=>(c_MBlock (w (dp-1),z214.2.2.2.2.2)).bind fun z220=>some (.inr (.inr (.inr (.inr (3,0,⟨#[]⟩,z208.1,z208.2.1,z208.2.2.1,z208.2.2.2.1,z208.2.2.2.2.1,z214.1,z214.2.1,z214.2.2.1,z214.2.2.2.1,z214.2.2.2.2.1,z220)))))else if(k==3)=true then(c_Next (100,s)).bind fun z226=>(c_MBlock (w (dp-1),z226.2)).bind fun z232=>some (.inr (.inr (.inl (4,w (1+z226.1),⟨#[]⟩,z232))))else if(k==4)=true then(c_Literal s).bind fun z237=>(c_one (5,z237.1,z237.2.1,z237.2.2.1,z237.2.2.2.1,z237.2.2.2.2.1)).bind fun z244=>some (.inr (.inl (z244.1,0,⟨#[]⟩,1,fun j=>[i64 z244.2.1,i64 z244.2.2.1,st z244.2.2.2.1,V.ro 4 z244.2.2.2.2.1 z244.2.2.2.2.2],z237.2.2.2.2.2)))else if(k==5)=true then(c_MExpr (3,s)).bind fun z250=>(c_Literal z250.2.2.2.2.2).bind fun z255=>some (.inr (.inr (.inr (.inl (6,0,⟨#[]⟩,z250.1,z250.2.1,z250.2.2.1,z250.2.2.2.1,z250.2.2.2.2.1,z255)))))else if(k==6)=true then(c_MExpr (4,s)).bind fun z261=>(c_one (7,z261.1,z261.2.1,z261.2.2.1,z261.2.2.2.1,z261.2.2.2.2.1)).bind fun z268=>some (.inr (.inl (z268.1,0,⟨#[]⟩,1,fun j=>[i64 z268.2.1,i64 z268.2.2.1,st z268.2.2.2.1,V.ro 4 z268.2.2.2.2.1 z268.2.2.2.2.2],z261.2.2.2.2.2)))else if(k==7)=true then(c_MExpr (3,s)).bind fun z274=>(c_one (8,z274.1,z274.2.1,z274.2.2.1,z274.2.2.2.1,z274.2.2.2.2.1)).bind fun z281=>some (.inr (.inl (z281.1,0,⟨#[]⟩,1,fun j=>[i64 z281.2.1,i64 z281.2.2.1,st z281.2.2.2.1,V.ro 4 z281.2.2.2.2.1 z281.2.2.2.2.2],z274.2.2.2.2.2)))else if(k==8)=true then(c_Next (8,s)).bind fun z287=>(c_Literal z287.2).bind fun z292=>some (.inr (.inr (.inl (9,z287.1,⟨#[]⟩,z292))))else if(k==9)=true then(c_Next (8,s)).bind fun z298=>(c_Literal z298.2).bind fun z303=>some (.inr (.inr (.inl (10,z298.1,⟨#[]⟩,z303))))else if(k==10)=true then(c_Literal s).bind fun z308=>(c_one (11,z308.1,z308.2.1,z308.2.2.1,z308.2.2.2.1,z308.2.2.2.2.1)).bind fun z315=>some (.inr (.inl (z315.1,0,⟨#[]⟩,1,fun j=>[i64 z315.2.1,i64 z315.2.2.1,st z315.2.2.2.1,V.ro 4 z315.2.2.2.2.1 z315.2.2.2.2.2],z308.2.2.2.2.2)))else if(k==11)=true then(c_Next (100,s)).bind fun z321=>some (.inl (12,z321.1,⟨#[]⟩,z321.2))else(c_Next (1000,s)).bind fun z327=>some (.inl (13,z327.1,⟨#[]⟩,z327.2))
def asg(c_Next:bG→Option aZ)(c_Word:ag1→Option ah9)(c_MExpr:rQ→Option oC)(s:Nat×FI×Int×Int):Option vU:=(c_Next (7,s)).bind fun z=>(c_Word z.1).bind fun v=>(c_MExpr (3,z.2)).bind fun e=>some (.inr (.inr (.inl (2,0,v,e))))
theorem ib4(c_Next c_Decimal c_Word c_MExpr c_Literal c_one c_MBlock)(x:cr6):sE c_Next c_Decimal c_Word c_MExpr c_Literal c_one c_MBlock x some=(c_Next (13,x.2)).bind fun z=>if decide (x.1≤0)=true then(if(z.1==2)=true then asg c_Next c_Word c_MExpr z.2 else if(z.1==3)=true then asg c_Next c_Word c_MExpr z.2 else dst c_Next c_Decimal c_Word c_MExpr c_Literal c_one c_MBlock x.1 z.1 z.2)else dst c_Next c_Decimal c_Word c_MExpr c_Literal c_one c_MBlock x.1 z.1 z.2:=rfl
theorem gs1(d:Nat):200≤NS d:=by cases d<;>simp only[NS]<;>omega
theorem gr9(d:Nat):200≤SS d:=by cases d<;>simp only[SS]<;>omega
section
variable {q:Nat} {ln:Nat} {lf:Nat→Int}
theorem cx5(hr:uI ln lf)(d:Nat)(hd:d≤4)(hq:10<q)(a b:Nat)(ha:a+100≤1000000):Rs (az2 q ((d:Int),ln,lf,(a:Int),(b:Int))) (fun z=>∃(t:Tr) (y:n4) (a':Nat),z=(y.1,y.2.1,y.2.2.1,y.2.2.2.1,y.2.2.2.2,ln,lf,(a':Int),(b:Int))∧Mk d t∧RepN t y∧a≤a'∧a'≤a+78):=by
 have hp:2^d≤2^4:=Nat.pow_le_pow_right (by decide) hd
 refine(gj1 hr (b:Int) q d (by omega) (by omega) a (by omega)).mono fun z hz=>?_
 obtain⟨t,y,a',h1,h2,h3,h4,h5⟩:=hz
 exact⟨t,y,a',h1,h2,h3,h4,by omega⟩
theorem ec9(hr:uI ln lf)(a b:Nat)(ha:a+10≤1000000):Rs (iI q (ln,lf,(a:Int),(b:Int))) (fun z=>∃(n:Int) (s:ByteArray) (y:n4) (a':Nat),z=(y.1,y.2.1,y.2.2.1,y.2.2.2.1,y.2.2.2.2,ln,lf,(a':Int),(b:Int))∧(∃x l e,Pr (.node 15 n s []) x l e∧e≤8)∧RepN (.node 15 n s []) y∧a≤a'∧a'≤a+2):=by
 refine(gk4 q hr a (by omega) (by omega) (b:Int) 0).mono fun z hz=>?_
 obtain⟨t,y,a',h1,⟨n,s,rfl,g0,g1,g2⟩,h3,h4,h5⟩:=hz
 obtain⟨x,l,e,hP,he⟩:=(Mk.int 0 n s g0 g1 g2).pr
 exact⟨n,s,y,a',h1,⟨x,l,e,hP,by omega⟩,h3,h4,h5⟩
theorem da9{d:Nat}{t:Tr}(h:Mk d t)(hd:d≤4):szT t≤125:=by
 have hp:2^d≤2^4:=Nat.pow_le_pow_right (by decide) hd
 have:=h.size
 omega
theorem cx7{d:Nat}{t:Tr}(h:Mk d t)(hd:d≤4):∃x l e,Pr t x l e∧e≤8:=by
 obtain⟨x,l,e,h1,h2⟩:=h.pr
 exact⟨x,l,e,h1,by omega⟩
theorem cq8(n:Int)(s:ByteArray):szT (.node 15 n s [])=1:=by simp[szT,szL]
theorem gs8(hr:uI ln lf)(d:Nat)(hq:10<q)(a b:Nat)(ha:a+150≤1000000):Rs (asg (Next q) (ba9 q) (az2 q) (ln,lf,(a:Int),(b:Int))) (fun z=>MS ln lf (PS1 d b) a b 150 (sM z)):=by
 unfold asg
 refine Rs.bind (w7 q hr a (by omega) (b:Int) 7 (by decide)) fun z hz=>?_
 obtain⟨j,rfl,g0,g1⟩:=hz
 refine Rs.bind (dl1 q g0) fun s hs=>?_
 refine Rs.bind (cx5 hr 3 (by decide) hq (a+1) b (by omega)) fun z hz=>Rs.some ?_
 obtain⟨t,y,a',rfl,h1,h2,h3,h4⟩:=hz
 have hsz:=da9 h1 (by decide)
 have hS:=gr9 d
 refine⟨.node 2 0 s [t],_,a',b,rfl,⟨by simp only[szT,szL];omega,fun i=>?_⟩,RepN.k1 h2,by omega,by omega,by omega,by omega⟩
 obtain⟨x,l,e,hP,he⟩:=cx7 h1 (by decide)
 rw[eI]
 exact⟨_,_,e,.set i s t x l e (ao5 s hs) hP,by omega⟩
theorem fj1(kd:Int)(y:n4):Rs (one q (kd,y)) (fun z=>z=(kd,y)):=by
 unfold one cz8
 exact Rs.some rfl
theorem hu0(hr:uI ln lf)(d:Nat)(hd:d≤2)(hq:12≤q)
 (ih:∀d',d'<d→∀a b:Nat,a+NB d'≤1000000→b+NB d'≤1000000→Rs ((ag4 q).1 ((d':Int),ln,lf,(a:Int),(b:Int))) (MS ln lf (PB1 d' b) a b (NB d')))
 (k:Int) (h0:0≤k) (hk0:d=0→k≠2∧k≠3) (a b:Nat) (n:Nat) (hn:n+5=NS d) (ha:a+n≤1000000) (hb:b+n≤1000000):
 Rs (dst (Next q) (f9 q) (ba9 q) (az2 q) (iI q) (one q) (ag4 q).1 (d:Int) k (ln,lf,(a:Int),(b:Int))) (fun z=>MS ln lf (PS1 d b) a b n (sM z)):=by
 have hN:=gs1 d
 have hS:=gr9 d
 have hw:d≠0→w ((d:Int)-1)=((d-1:Nat):Int):=fun h=>by rw[xR (by omega) (by omega)];omega
 unfold dst
 dsimp only
 refine Rs.ite (fun _=>?_) fun k0=>Rs.ite (fun _=>?_) fun k1=>Rs.ite (fun k2=>?_) fun k2=>Rs.ite (fun k3=>?_) fun k3=>Rs.ite (fun _=>?_) fun k4=>Rs.ite (fun _=>?_) fun k5=>Rs.ite (fun _=>?_) fun k6=>Rs.ite (fun _=>?_) fun k7=>Rs.ite (fun _=>?_) fun k8=>Rs.ite (fun _=>?_) fun k9=>Rs.ite (fun _=>?_) fun k10=>Rs.ite (fun _=>?_) fun k11=>?_
 ·rw[s9 (i:=b) (by omega)]
  refine Rs.ite (fun h=>Rs.some ?_) fun h=>?_
  ·have h:((b+1:Nat):Int)>12:=of_decide_eq_true h
   refine⟨.node 12 0 ⟨#[]⟩ [],(12,0,⟨#[]⟩,0,fun _=>[]),a,b+1,rfl,⟨by simp only[szT,szL];omega,fun i=>?_⟩,RepN.leaf,by omega,by omega,by omega,by omega⟩
   rw[gi0 (by omega) (by omega)]
   exact⟨_,_,0,.nmb i 12 yV 0 (.inl ⟨rfl,rfl,by decide⟩) (by decide),by omega⟩
  ·have h:¬((b+1:Nat):Int)>12:=fun g=>h (decide_eq_true g)
   have hs:(itS ((b+1:Nat):Int)).size≤10:=jC (by omega) (by omega)
   refine Rs.bind (aU (n:=((b+1:Nat):Int)) (by omega) (by omega) hq) fun z e=>?_
   subst e
   refine Rs.pos (by unfold maxLen;omega) ?_
   refine Rs.bind (cx5 hr 3 (by decide) (by omega) a (b+1) (by omega)) fun z hz=>Rs.some ?_
   obtain⟨t,y,a',rfl,h1,h2,h3,h4⟩:=hz
   have hsz:=da9 h1 (by decide)
   refine⟨.node 1 0 (vN (b+1)) [t],_,a',b+1,rfl,⟨by simp only[szT,szL];omega,fun i=>?_⟩,RepN.k1 h2,by omega,by omega,by omega,by omega⟩
   obtain⟨x,l,e,hP,he⟩:=cx7 h1 (by decide)
   rw[ff9 (by omega)]
   exact⟨_,_,e,.let i (vN (b+1)) t x l e (hq4 (b+1) (by omega) (by omega)) hP,by omega⟩
 ·refine(gs8 hr d (by omega) a b (by omega)).mono fun z hz=>?_
  obtain⟨t,y,a',b',h1,h2,h3,h4,h5,h6,h7⟩:=hz
  exact⟨t,y,a',b',h1,h2,h3,h4,by omega,h6,by omega⟩
 ·have hd0:d≠0:=fun e=>(hk0 e).1 (by simpa using k2)
  rw[hw hd0]
  obtain⟨d,rfl⟩:∃e,d=e+1:=⟨d-1,by omega⟩
  have ih:=ih d (by omega)
  have hn2:n+5=200+2*NB d:=hn
  have hS2:SS (d+1)=200+2*(4*(SS d+1)+4):=rfl
  refine Rs.bind (cx5 hr 2 (by decide) (by omega) a b (by omega)) fun z hz=>?_
  obtain⟨t,y,a1,rfl,h1,h2,h3,h4⟩:=hz
  refine Rs.bind (ih a1 b (by omega) (by omega)) fun z hz=>?_
  obtain⟨t1,y1,a2,b2,rfl,⟨ts,rfl,s1,p1⟩,r1,h5,h6,h7,h8⟩:=hz
  refine Rs.bind (ih a2 b2 (by omega) (by omega)) fun z hz=>Rs.some ?_
  obtain⟨t2,y2,a3,b3,rfl,⟨us,rfl,s2,p2⟩,r2,h9,h10,h11,h12⟩:=hz
  have hsz:=da9 h1 (by decide)
  refine⟨.node 3 0 ⟨#[]⟩ [t,.node 14 0 ⟨#[]⟩ ts,.node 14 0 ⟨#[]⟩ us],_,a3,b3,rfl,⟨by simp only[szT,szL];omega,fun i=>?_⟩,RepN.k3 h2 r1 r2,by omega,by omega,by omega,by omega⟩
  obtain⟨x,l,e,hP,he⟩:=cx7 h1 (by decide)
  obtain⟨x1,l1,e1,g1,f1⟩:=p1 (i+1)
  obtain⟨x2,l2,e2,g2,f2⟩:=p2 (i+1)
  rw[←cc4 h7 h11]
  cases us with
  |nil=>
   have hv:nmL b2 b3=[]:=by
    generalize nmL b2 b3=v at g2
    cases g2
    rfl
   rw[hv,List.append_nil]
   exact⟨_,_,_,.cond i t ts x l e x1 l1 e1 _ hP g1,by omega⟩
  |cons u us=>exact⟨_,_,_,.both i t ts u us x l e x1 l1 e1 _ x2 l2 e2 _ hP g1 g2,by omega⟩
 ·have hd0:d≠0:=fun e=>(hk0 e).2 (by simpa using k3)
  rw[hw hd0]
  obtain⟨d,rfl⟩:∃e,d=e+1:=⟨d-1,by omega⟩
  have ih:=ih d (by omega)
  have hn2:n+5=200+2*NB d:=hn
  have hS2:SS (d+1)=200+2*(4*(SS d+1)+4):=rfl
  refine Rs.bind (w7 q hr a (by omega) (b:Int) 100 (by decide)) fun z hz=>?_
  obtain⟨j,rfl,g0,g1⟩:=hz
  refine Rs.bind (ih (a+1) b (by omega) (by omega)) fun z hz=>Rs.some ?_
  obtain⟨t1,y1,a2,b2,rfl,⟨ts,rfl,s1,p1⟩,r1,h5,h6,h7,h8⟩:=hz
  have hj:w (1+j)=1+j:=xR (by omega) (by omega)
  refine⟨.node 4 (w (1+j)) ⟨#[]⟩ [.node 14 0 ⟨#[]⟩ ts],_,a2,b2,rfl,⟨by simp only[szT,szL];omega,fun i=>?_⟩,RepN.k1 r1,by omega,by omega,by omega,by omega⟩
  obtain⟨x1,l1,e1,g1',f1⟩:=p1 (i+1)
  exact⟨_,_,_,.rep i _ ts x1 l1 e1 _ (by omega) (by omega) g1',by omega⟩
 ·refine Rs.bind (ec9 hr a b (by omega)) fun z hz=>?_
  obtain⟨n1,s,y,a',rfl,⟨x,l,e,hP,he⟩,h2,h3,h4⟩:=hz
  refine Rs.bind (fj1 5 y) fun z hz=>Rs.some ?_
  subst hz
  have hsz:=cq8 n1 s
  refine⟨.node 5 0 ⟨#[]⟩ [.node 15 n1 s []],(5,0,⟨#[]⟩,1,_),a',b,rfl,⟨by simp only[szT,szL];omega,fun i=>?_⟩,RepN.one h2,by omega,by omega,by omega,by omega⟩
  rw[eI]
  exact⟨_,_,e,.amt i 5 be2 n1 s x l e (.inl ⟨rfl,rfl⟩) hP,by omega⟩
 ·refine Rs.bind (cx5 hr 3 (by decide) (by omega) a b (by omega)) fun z hz=>?_
  obtain⟨t,y,a1,rfl,h1,h2,h3,h4⟩:=hz
  refine Rs.bind (ec9 hr a1 b (by omega)) fun z hz=>Rs.some ?_
  obtain⟨n1,s,y2,a',rfl,⟨x,l,e,hP,he⟩,h5,h6,h7⟩:=hz
  have hsz:=da9 h1 (by decide)
  have hsz2:=cq8 n1 s
  refine⟨.node 6 0 ⟨#[]⟩ [t,.node 15 n1 s []],_,a',b,rfl,⟨by simp only[szT,szL];omega,fun i=>?_⟩,RepN.k2 h2 h5,by omega,by omega,by omega,by omega⟩
  obtain⟨x2,l2,e2,hP2,he2⟩:=cx7 h1 (by decide)
  rw[eI]
  exact⟨_,_,e2,.await i t x2 l2 e2 n1 s x l e hP2 hP,by omega⟩
 ·refine Rs.bind (cx5 hr 4 (by decide) (by omega) a b (by omega)) fun z hz=>?_
  obtain⟨t,y,a',rfl,h1,h2,h3,h4⟩:=hz
  refine Rs.bind (fj1 7 y) fun z hz=>Rs.some ?_
  subst hz
  have hsz:=da9 h1 (by decide)
  refine⟨.node 7 0 ⟨#[]⟩ [t],(7,0,⟨#[]⟩,1,_),a',b,rfl,⟨by simp only[szT,szL];omega,fun i=>?_⟩,RepN.one h2,by omega,by omega,by omega,by omega⟩
  obtain⟨x,l,e,hP,he⟩:=cx7 h1 (by decide)
  rw[eI]
  exact⟨_,_,e,.one i 7 qO t x l e (.inl ⟨rfl,rfl⟩) hP,by omega⟩
 ·refine Rs.bind (cx5 hr 3 (by decide) (by omega) a b (by omega)) fun z hz=>?_
  obtain⟨t,y,a',rfl,h1,h2,h3,h4⟩:=hz
  refine Rs.bind (fj1 8 y) fun z hz=>Rs.some ?_
  subst hz
  have hsz:=da9 h1 (by decide)
  refine⟨.node 8 0 ⟨#[]⟩ [t],(8,0,⟨#[]⟩,1,_),a',b,rfl,⟨by simp only[szT,szL];omega,fun i=>?_⟩,RepN.one h2,by omega,by omega,by omega,by omega⟩
  obtain⟨x,l,e,hP,he⟩:=cx7 h1 (by decide)
  rw[eI]
  exact⟨_,_,e,.one i 8 rI t x l e (.inr ⟨rfl,rfl⟩) hP,by omega⟩
 ·refine Rs.bind (w7 q hr a (by omega) (b:Int) 8 (by decide)) fun z hz=>?_
  obtain⟨j,rfl,g0,g1⟩:=hz
  refine Rs.bind (ec9 hr (a+1) b (by omega)) fun z hz=>Rs.some ?_
  obtain⟨n1,s,y,a',rfl,⟨x,l,e,hP,he⟩,h2,h3,h4⟩:=hz
  have hsz:=cq8 n1 s
  refine⟨.node 9 j ⟨#[]⟩ [.node 15 n1 s []],_,a',b,rfl,⟨by simp only[szT,szL];omega,fun i=>?_⟩,RepN.k1 h2,by omega,by omega,by omega,by omega⟩
  rw[eI]
  exact⟨_,_,e,.use i j n1 s x l e g0 (by omega) hP,by omega⟩
 ·refine Rs.bind (w7 q hr a (by omega) (b:Int) 8 (by decide)) fun z hz=>?_
  obtain⟨j,rfl,g0,g1⟩:=hz
  refine Rs.bind (ec9 hr (a+1) b (by omega)) fun z hz=>Rs.some ?_
  obtain⟨n1,s,y,a',rfl,⟨x,l,e,hP,he⟩,h2,h3,h4⟩:=hz
  have hsz:=cq8 n1 s
  refine⟨.node 10 j ⟨#[]⟩ [.node 15 n1 s []],_,a',b,rfl,⟨by simp only[szT,szL];omega,fun i=>?_⟩,RepN.k1 h2,by omega,by omega,by omega,by omega⟩
  rw[eI]
  exact⟨_,_,e,.send i j n1 s x l e g0 (by omega) hP,by omega⟩
 ·refine Rs.bind (ec9 hr a b (by omega)) fun z hz=>?_
  obtain⟨n1,s,y,a',rfl,⟨x,l,e,hP,he⟩,h2,h3,h4⟩:=hz
  refine Rs.bind (fj1 11 y) fun z hz=>Rs.some ?_
  subst hz
  have hsz:=cq8 n1 s
  refine⟨.node 11 0 ⟨#[]⟩ [.node 15 n1 s []],(11,0,⟨#[]⟩,1,_),a',b,rfl,⟨by simp only[szT,szL];omega,fun i=>?_⟩,RepN.one h2,by omega,by omega,by omega,by omega⟩
  rw[eI]
  exact⟨_,_,e,.amt i 11 yW n1 s x l e (.inr ⟨rfl,rfl⟩) hP,by omega⟩
 ·refine Rs.bind (w7 q hr a (by omega) (b:Int) 100 (by decide)) fun z hz=>Rs.some ?_
  obtain⟨j,rfl,g0,g1⟩:=hz
  refine⟨.node 12 j ⟨#[]⟩ [],(12,j,⟨#[]⟩,0,fun _=>[]),a+1,b,rfl,⟨by simp only[szT,szL];omega,fun i=>?_⟩,RepN.leaf,by omega,by omega,by omega,by omega⟩
  rw[eI]
  exact⟨_,_,0,.nmb i 12 yV j (.inl ⟨rfl,rfl,by omega⟩) g0,by omega⟩
 ·refine Rs.bind (w7 q hr a (by omega) (b:Int) 1000 (by decide)) fun z hz=>Rs.some ?_
  obtain⟨j,rfl,g0,g1⟩:=hz
  refine⟨.node 13 j ⟨#[]⟩ [],(13,j,⟨#[]⟩,0,fun _=>[]),a+1,b,rfl,⟨by simp only[szT,szL];omega,fun i=>?_⟩,RepN.leaf,by omega,by omega,by omega,by omega⟩
  rw[eI]
  exact⟨_,_,0,.nmb i 13 uE j (.inr ⟨rfl,rfl,by omega⟩) g0,by omega⟩
end
end Go.Proofs.YtjfkkokeegpeiaaGreatDoor
/- What the maker makes: blocks. -/
namespace Go.Proofs.YtjfkkokeegpeiaaGreatDoor
open Go Go.Am Go.Proofs.Lx
set_option maxRecDepth 100000
theorem ds2{i:Nat}{t:Tr}{x':List UInt8}{l':List Tkn}{d':Nat}{v':List ByteArray}(g:PrS i (.inl t) x' l' d' v'):∀(ts:List Tr) (x:List UInt8) (l:List Tkn) (d:Nat) (v:List ByteArray),PrS i (.inr ts) x l d v→∃x'' l'' d'',PrS i (.inr (ts++[t])) x'' l'' d'' (v++v')∧d''≤max d d'
 | [],x,l,d,v,h=>by
  cases h
  obtain⟨x2,l2,d2,h2,h3⟩:∃x2 l2 d2,PrS i (.inr [t]) x2 l2 d2 (v'++[])∧d2≤max 0 d':=⟨_,_,_,.cons i t [] x' l' d' v' [] [] 0 [] g (.nil i),by omega⟩
  rw[List.append_nil]at h2
  exact⟨x2,l2,d2,h2,h3⟩
 |u::ts,x,l,d,v,h=>by
  cases h with
  |cons _ _ _ x1 l1 d1 v1 xs ls ds vs h1 h2=>
   obtain⟨x2,l2,d2,h3,h4⟩:=ds2 g ts xs ls ds vs h2
   rw[List.append_assoc]
   exact⟨_,_,_,.cons i u (ts++[t]) x1 l1 d1 v1 x2 l2 d2 (vs++v') h1 h3,by omega⟩
theorem fh9:∀(l:List Tr) (f:FL) (i:Nat),(∀j t,l[j]? =some t→∃y:n4,f (i+j)=[i64 y.1,i64 y.2.1,st y.2.2.1,.ro 4 y.2.2.2.1 y.2.2.2.2]∧RepN t y)→rW l f i
 | [],f,i,_=>by simp[rW]
 |t::l,f,i,h=>by
  simp only[rW]
  refine⟨h 0 t rfl,fh9 l f (i+1) fun j u hj=>?_⟩
  have:=h (j+1) u (by simpa using hj)
  rwa [show i+1+j=i+(j+1)by omega]
theorem fi8:∀(l m:List Tr),szL (l++m)=szL l+szL m
 | [],m=>by simp[szL]
 |t::l,m=>by rw[List.cons_append,szL,fi8 l m,szL];omega
section
variable {q:Nat} {ln:Nat} {lf:Nat→Int}
structure BI(d b0:Nat)(ts:List Tr)(b:Nat)(kf nf:FI)(sf:FS)(mf:FN)(ff:FM):Prop where
 rep:∀j t,ts[j]? =some t→RepN t (kf j,nf j,sf j,mf j,ff j)
 sz:szL ts≤ts.length*(SS d+1)
 pr:∀i,∃x l e,PrS i (.inr ts) x l e (nmL b0 b)∧e≤8+d
theorem BI.snoc{d b0:Nat}{ts:List Tr}{b b':Nat}{kf nf:FI}{sf:FS}{mf:FN}{ff:FM}(h:BI d b0 ts b kf nf sf mf ff)(h0:b0≤b)(h1:b≤b'){t:Tr}{y:n4}(hy:RepN t y)(hp:PS1 d b t b'){kf' nf':FI}{sf':FS}{mf':FN}{ff':FM}
 (e1:∀j,(kf' j,nf' j,sf' j,mf' j,ff' j)=if j<ts.length then(kf j,nf j,sf j,mf j,ff j)else y):BI d b0 (ts++[t]) b' kf' nf' sf' mf' ff':=by
 obtain⟨s1,p1⟩:=hp
 refine⟨fun j u hj=>?_,?_,fun i=>?_⟩
 ·rw[e1]
  by_cases hjl:j<ts.length
  ·rw[if_pos hjl]
   rw[List.getElem?_append_left hjl]at hj
   exact h.rep j u hj
  ·rw[if_neg hjl]
   rw[List.getElem?_append_right (by omega)]at hj
   have:j-ts.length=0:=by
    have:=(List.getElem?_eq_some_iff.1 hj).1
    simp at this;omega
   rw[this]at hj
   simp at hj
   subst hj
   exact hy
 ·rw[fi8,List.length_append]
  have:=h.sz
  simp only[szL,List.length_cons,List.length_nil]
  rw[Nat.add_mul]
  omega
 ·obtain⟨x,l,e,g1,g2⟩:=h.pr i
  obtain⟨x',l',e',g3,g4⟩:=p1 i
  obtain⟨x2,l2,e2,g5,g6⟩:=ds2 g3 ts x l e _ g1
  rw[←cc4 h0 h1]
  exact⟨x2,l2,e2,g5,by omega⟩
theorem fk3(d:Nat)(K a0 b0:Nat)(hms:∀a b:Nat,a+NS d≤1000000→b+NS d≤1000000→Rs ((ag4 q).2 ((d:Int),ln,lf,(a:Int),(b:Int))) (MS ln lf (PS1 d b) a b (NS d)))(hK:K≤4)(ha0:a0+4*NS d≤1000000)(hb0:b0+4*NS d≤1000000)(x0:dE)(hx0:x0.1=(d:Int)):
 ∀(q2:Nat) (ts:List Tr) (a b:Nat) (kf nf:FI) (sf:FS) (mf:FN) (ff:FM),K-ts.length<q2→ts.length≤K→a0≤a→a≤a0+ts.length*NS d→b0≤b→b≤b0+ts.length*NS d→BI d b0 ts b kf nf sf mf ff→
 Rs (gF (Next q) (ag4 q).2 q2 x0 (.inr ((K:Int),ln,lf,(a:Int),(b:Int),kf,nf,sf,mf,ff,(ts.length:Int),ts.length)))
  (fun z=>∃(ts:List Tr) (a b:Nat) (kf nf:FI) (sf:FS) (mf:FN) (ff:FM),z= .inr (ln,lf,(a:Int),(b:Int),ts.length,kf,nf,sf,mf,ff)∧ts.length≤K∧a0≤a∧a≤a0+4*NS d∧b0≤b∧b≤b0+4*NS d∧BI d b0 ts b kf nf sf mf ff)
 |0,ts,a,b,kf,nf,sf,mf,ff,hq,_,_,_,_,_,_=>by omega
 |q2+1,ts,a,b,kf,nf,sf,mf,ff,hq,hk,h1,h2,h3,h4,hB=>by
  have hle:ts.length*NS d≤K*NS d:=Nat.mul_le_mul_right _ hk
  have hle2:K*NS d≤4*NS d:=Nat.mul_le_mul_right _ hK
  unfold gF
  refine Rs.step3 fun Q hQ=>?_
  dsimp only[Sum.elim]
  unfold iA
  dsimp only
  by_cases hlt:ts.length<K
  ·have hle3:(ts.length+1)*NS d≤4*NS d:=Nat.mul_le_mul_right _ (by omega)
   rw[Nat.add_mul,Nat.one_mul]at hle3
   refine Rs.pos (decide_eq_true (by omega)) ?_
   rw[hx0]
   refine Rs.bind (hms a b (by omega) (by omega)) fun z hz=>?_
   obtain⟨t,y,a',b',rfl,hp,hy,g1,g2,g3,g4⟩:=hz
   refine Rs.pos ⟨by unfold d5;omega,by unfold maxLen;omega,Nat.le_refl _⟩ (Rs.some (hQ _ ?_))
   rw[s9 (by omega)]
   have:=fk3 d K a0 b0 hms hK ha0 hb0 x0 hx0 q2 (ts++[t]) a' b' (fun j=>if j<ts.length then kf j else y.1) (fun j=>if j<ts.length then nf j else y.2.1) (fun j=>if j<ts.length then sf j else y.2.2.1) (fun j=>if j<ts.length then mf j else y.2.2.2.1) (fun j i=>if j<ts.length then ff j i else y.2.2.2.2 i) (by rw[List.length_append];show K-(ts.length+1)<q2;omega) (by rw[List.length_append];exact hlt) (by omega) (by rw[List.length_append];show a'≤a0+(ts.length+1)*NS d;rw[Nat.add_mul,Nat.one_mul];omega) (by omega) (by rw[List.length_append];show b'≤b0+(ts.length+1)*NS d;rw[Nat.add_mul,Nat.one_mul];omega) (hB.snoc h3 g3 hy hp fun j=>by
    by_cases hj:j<ts.length
    ·simp only[if_pos hj]
    ·simp only[if_neg hj])
   rw[List.length_append]at this
   exact this
  ·exact Rs.neg (fun h=>by have:=of_decide_eq_true h;omega) (Rs.some ⟨ts,a,b,kf,nf,sf,mf,ff,rfl,hk,h1,by omega,h3,by omega,hB⟩)
end
theorem if9{ln:Nat}{lf:Nat→Int}(hr:uI ln lf):∀(d:Nat),d≤2→∀q,2*d+16≤q→∀a b:Nat,a+NB d≤1000000→b+NB d≤1000000→Rs ((ag4 q).1 ((d:Int),ln,lf,(a:Int),(b:Int))) (MS ln lf (PB1 d b) a b (NB d)):=by
 intro d
 induction d using Nat.strongRecOn with
 |_ d ih=>
  intro hd q hq a b ha hb
  obtain⟨q,rfl⟩:∃q',q=q'+1+1:=⟨q-2,by omega⟩
  have hNB:NB d=1+4*NS d:=rfl
  have hNS:=gs1 d
  have hms:∀a b:Nat,a+NS d≤1000000→b+NS d≤1000000→Rs ((ag4 (q+1)).2 ((d:Int),ln,lf,(a:Int),(b:Int))) (MS ln lf (PS1 d b) a b (NS d)):=by
   intro a b ha hb
   show Rs ((sE (Next q) (f9 q) (ba9 q) (az2 q) (iI q) (one q) (ag4 q).1 ((d:Int),ln,lf,(a:Int),(b:Int)) some).map sM) _
   refine Rs.map (P:=fun z=>MS ln lf (PS1 d b) a b (NS d) (sM z)) ?_ fun z h=>h
   rw[ib4]
   refine Rs.bind (w7 q hr a (by omega) (b:Int) 13 (by decide)) fun z hz=>?_
   obtain⟨k,rfl,g0,g1⟩:=hz
   have up:∀z,MS ln lf (PS1 d b) (a+1) b (NS d-5) z→MS ln lf (PS1 d b) a b (NS d) z:=by
    rintro z ⟨t,y,a',b',h1,h2,h3,h4,h5,h6,h7⟩
    exact⟨t,y,a',b',h1,h2,h3,by omega,by omega,h6,by omega⟩
   have hasg:Rs (asg (Next q) (ba9 q) (az2 q) (ln,lf,((a+1:Nat):Int),(b:Int))) (fun z=>MS ln lf (PS1 d b) a b (NS d) (sM z)):=by
    refine(gs8 hr d (by omega) (a+1) b (by omega)).mono fun z hz=>?_
    obtain⟨t,y,a',b',h1,h2,h3,h4,h5,h6,h7⟩:=hz
    exact⟨t,y,a',b',h1,h2,h3,by omega,by omega,h6,by omega⟩
   have hdst:(d=0→k≠2∧k≠3)→Rs (dst (Next q) (f9 q) (ba9 q) (az2 q) (iI q) (one q) (ag4 q).1 (d:Int) k (ln,lf,((a+1:Nat):Int),(b:Int))) (fun z=>MS ln lf (PS1 d b) a b (NS d) (sM z)):=by
    intro hk
    exact(hu0 hr d hd (by omega) (fun d' h=>ih d' h (by omega) q (by omega)) k g0 hk (a+1) b (NS d-5) (by omega) (by omega) (by omega)).mono fun z hz=>up _ hz
   refine Rs.ite (fun h0=>?_) fun h0=>hdst fun e=>absurd (decide_eq_true (show((d:Nat):Int)≤0 by omega)) h0
   refine Rs.ite (fun _=>hasg) fun h2=>Rs.ite (fun _=>hasg) fun h3=>hdst fun _=>⟨fun e=>h2 (by rw[e];rfl),fun e=>h3 (by rw[e];rfl)⟩
  show Rs ((nB (Next (q+1)) (ag4 (q+1)).2 (gF (Next (q+1)) (ag4 (q+1)).2 (q+1) ((d:Int),ln,lf,(a:Int),(b:Int))) ((d:Int),ln,lf,(a:Int),(b:Int)) some).map av6) _
  refine Rs.map (P:=fun z=>MS ln lf (PB1 d b) a b (NB d) (av6 z)) ?_ fun z h=>h
  unfold nB
  refine Rs.bind (w7 (q+1) hr a (by omega) (b:Int) 5 (by decide)) fun z hz=>?_
  obtain⟨K,rfl,g0,g1⟩:=hz
  obtain⟨K,rfl⟩:∃k:Nat,K=(k:Int):=⟨K.toNat,by omega⟩
  have hl:Rs (gF (Next (q+1)) (ag4 (q+1)).2 (q+1) ((d:Int),ln,lf,(a:Int),(b:Int)) (.inl ((K:Int),ln,lf,((a+1:Nat):Int),(b:Int)))) (fun z=>(z= .inl (ln,lf,((a+1:Nat):Int),(b:Int)))∨∃(ts:List Tr) (a' b':Nat) (kf nf:FI) (sf:FS) (mf:FN) (ff:FM),z= .inr (ln,lf,(a':Int),(b':Int),ts.length,kf,nf,sf,mf,ff)∧ts.length≤K∧a+1≤a'∧a'≤a+1+4*NS d∧b≤b'∧b'≤b+4*NS d∧BI d b ts b' kf nf sf mf ff):=by
   unfold gF
   refine Rs.step3 fun Q hQ=>?_
   dsimp only[Sum.elim]
   unfold gZ
   dsimp only
   by_cases hK:0<K
   ·refine Rs.pos (decide_eq_true (by omega)) ?_
    refine Rs.bind (hms (a+1) b (by omega) (by omega)) fun z hz=>Rs.some (hQ _ ?_)
    obtain⟨t,y,a',b',rfl,hp,hy,k1,k2,k3,k4⟩:=hz
    have hB0:BI d b [] b (fun _=>0) (fun _=>0) (fun _=>⟨#[]⟩) (fun _=>0) (fun _ _=>[]):=⟨fun j t h=>(by simp at h),by simp[szL],fun i=>⟨_,_,_,by rw[eI];exact .nil i,by omega⟩⟩
    have hB1:=hB0.snoc (Nat.le_refl _) k3 hy hp (kf':=fun _=>y.1) (nf':=fun _=>y.2.1) (sf':=fun _=>y.2.2.1) (mf':=fun _=>y.2.2.2.1) (ff':=fun _=>y.2.2.2.2) fun j=>by simp
    have:=fk3 d K (a+1) b hms (by omega) (by omega) (by omega) ((d:Int),ln,lf,(a:Int),(b:Int)) rfl q [t] a' b' _ _ _ _ _ (by show K-1<q;omega) (by show 1≤K;omega) k1 (by show a'≤a+1+1*NS d;omega) k3 (by show b'≤b+1*NS d;omega) hB1
    refine this.mono fun z hz=>.inr ?_
    exact hz
   ·exact Rs.neg (fun h=>hK (by have:=of_decide_eq_true h;omega)) (Rs.some (.inl rfl))
  refine Rs.bind hl fun z hz=>?_
  rcases hz with rfl| ⟨ts,a',b',kf,nf,sf,mf,ff,rfl,k0,k1,k2,k3,k4,hB⟩
  ·dsimp only[Sum.elim]
   refine Rs.some ⟨.node 14 0 ⟨#[]⟩ [],(14,0,⟨#[]⟩,0,fun _=>[]),a+1,b,rfl,⟨[],rfl,by simp[szL],fun i=>?_⟩,RepN.leaf,by omega,by omega,by omega,by omega⟩
   rw[eI]
   exact⟨_,_,_,.nil i,by omega⟩
  ·dsimp only[Sum.elim]
   refine Rs.some ⟨.node 14 0 ⟨#[]⟩ ts,(14,0,⟨#[]⟩,ts.length,fun j=>[i64 (kf j),i64 (nf j),st (sf j),.ro 4 (mf j) (ff j)]),a',b',rfl,⟨ts,rfl,?_,hB.pr⟩,?_,by omega,by omega,by omega,by omega⟩
   ·have:=hB.sz
    have h4:ts.length*(SS d+1)≤4*(SS d+1):=Nat.mul_le_mul_right _ (by omega)
    omega
   ·simp only[_root_.Go.Proofs.YtjfkkokeegpeiaaGreatDoor.RepN]
    exact⟨trivial,trivial,trivial,trivial,fh9 ts _ 0 fun j t hj=>⟨(kf j,nf j,sf j,mf j,ff j),by rw[Nat.zero_add],hB.rep j t hj⟩⟩
end Go.Proofs.YtjfkkokeegpeiaaGreatDoor
/- What the maker makes: procedures. -/
namespace Go.Proofs.YtjfkkokeegpeiaaGreatDoor
open Go Go.Am Go.Proofs.Lx
set_option maxRecDepth 100000
theorem ha8(q:Nat){ln:Nat}{lf:Nat→Int}(hr:uI ln lf):Rs (jK q (ln,lf,200)) (fun z=>uI z.1 z.2):=by
 unfold jK hu3 bt8
 refine Rs.map (P:=fun z=>uI (bm5 z).1 (bm5 z).2) ?_ fun z h=>h
 dsimp only
 refine Rs.pos ⟨by decide,by split<;>omega,by split<;>omega⟩ ?_
 refine Rs.ite (fun _=>Rs.some fun j hj=>absurd hj (Nat.not_lt_zero j)) fun h0=>?_
 have hle:Int.toNat (if(200:Int)< ((ln:Nat):Int)then 200 else((ln:Nat):Int))-0≤200∧Int.toNat (if(200:Int)< ((ln:Nat):Int)then 200 else((ln:Nat):Int))-0≤ln:=by split<;>omega
 refine Rs.pos ⟨by unfold d5;omega,by unfold maxLen;omega⟩ (Rs.some fun j hj=>?_)
 show-9223372036854775808≤lf (0+j)∧lf (0+j)≤9223372036854775807
 rw[Nat.zero_add]
 exact hr j (Nat.lt_of_lt_of_le hj hle.2)
structure PM(m:Nat)(ps:List Prm):Prop where
 len:ps.length=m
 ok:∀p∈ps,az7 p
 nm:ps.map Prm.x=nmL 0 m
theorem PM.nil:PM 0 []:=⟨rfl,(fun p h=>by cases h),(eI 0).symm⟩
theorem PM.snoc{m:Nat}{ps:List Prm}(h:PM m ps)(hm:m<12){u:ByteArray}(hu:u∈wY):PM (m+1) (ps++[⟨vN (m+1),u⟩]):=by
 refine⟨by rw[List.length_append,h.len];rfl,fun p hp=>?_,?_⟩
 ·rcases List.mem_append.1 hp with hp|hp
  ·exact h.ok p hp
  ·obtain rfl:=List.mem_singleton.1 hp
   exact⟨hq4 (m+1) (by omega) (by omega),en9 u hu⟩
 ·rw[List.map_append,h.nm,←cc4 (a:=0) (b:=m) (c:=m+1) (by omega) (by omega),ff9 hm]
  rfl
def PRow(ps:List Prm)(g:FL):Prop:=∀j p,ps[j]? =some p→g j=[st p.x,st p.u]
theorem PRow.snoc{ps:List Prm}{g:FL}(h:PRow ps g){p:Prm}{n:Nat}(hn:n=ps.length){g':FL}(e:∀j,g' j=if j<n then g j else[st p.x,st p.u]):PRow (ps++[p]) g':=by
 intro j r hj
 rw[e,hn]
 by_cases hjl:j<ps.length
 ·rw[if_pos hjl]
  rw[List.getElem?_append_left hjl]at hj
  exact h j r hj
 ·rw[if_neg hjl]
  rw[List.getElem?_append_right (by omega)]at hj
  have:j-ps.length=0:=by
   have:=(List.getElem?_eq_some_iff.1 hj).1
   simp at this;omega
  rw[this]at hj
  simp at hj
  subst hj
  rfl
theorem em9{ps:List Prm}{g:FL}(hP:PM ps.length ps)(hR:PRow ps g)(h12:ps.length<12){u:ByteArray}(hu:u∈wY):PM (ps.length+1) (ps++[⟨vN (ps.length+1),u⟩])∧PRow (ps++[⟨vN (ps.length+1),u⟩]) (ak1 false 1 ps.length g fun j=>ay4 false [[st (vN (ps.length+1)),st u]] (0+j)):=by
 refine⟨hP.snoc h12 hu,fun j r hj=>?_⟩
 show az3 ps.length g (fun j=>ay4 false [[st (vN (ps.length+1)),st u]] (0+j)) j=_
 unfold az3
 by_cases hjl:j<ps.length
 ·rw[if_pos hjl]
  rw[List.getElem?_append_left hjl]at hj
  exact hR j r hj
 ·rw[if_neg hjl]
  rw[List.getElem?_append_right (by omega)]at hj
  have e0:j-ps.length=0:=by
   have:=(List.getElem?_eq_some_iff.1 hj).1
   simp at this;omega
  rw[e0]at hj⊢
  simp at hj
  subst hj
  rfl
theorem dc4{u:ByteArray}(hu:u∈wY):PM 1 [⟨vN 1,u⟩]∧PRow [⟨vN 1,u⟩] (fun j=>ay4 false [[st (vN 1),st u]] (0+j)):=by
 refine⟨PM.nil.snoc (by decide) hu,fun j r hj=>?_⟩
 match j,hj with
 |0,hj=>simp at hj;subst hj;rfl
 |j+1,hj=>simp at hj
section
variable {q:Nat} {ln:Nat} {lf:Nat→Int} (cI:iJ→Option iM) (cB:aR→Option aQ)
theorem fh6(q:Nat)(hq:12≤q)(m:Nat)(hm:m≤10):Rs (f9 q ((m:Nat):Int)) (fun z=>(⟨#[118]⟩:ByteArray)++z=vN m∧z.size≤10):=by
 refine(aU (n:=(m:Int)) (by omega) (by omega) hq).mono fun z hz=>?_
 subst hz
 exact⟨rfl,jC (by omega) (by omega)⟩
theorem ej5(hr:uI ln lf)(hq:12≤q)(x0:g9)(k0:Int)(nm:ByteArray)(m:Nat)(hm:m≤3):∀(q2:Nat) (ps:List Prm) (g:FL) (a:Nat),ps.length≤m→m-ps.length<q2→a+(m-ps.length)≤999990→PM ps.length ps→PRow ps g→
 Rs (bV cI (Next q) (f9 q) (dS q) cB q2 x0 (.inr (k0,ln,lf,(a:Int),(m:Int),nm,g,(ps.length:Int),ps.length))) (fun z=>∃(ps1:List Prm) (g1:FL) (a':Nat),z= .inr (k0,ln,lf,(a':Int),(m:Int),nm,ps1.length,g1)∧PM m ps1∧PRow ps1 g1∧a≤a'∧a'≤a+(m-ps.length))
 |0,ps,g,a,_,hq2,_,_,_=>by omega
 |q2+1,ps,g,a,hle,hq2,ha,hP,hR=>by
  unfold bV
  refine Rs.step3 fun Q hQ=>?_
  dsimp only[Sum.elim]
  unfold nN
  dsimp only
  by_cases hlt:ps.length<m
  ·refine Rs.pos (decide_eq_true (by omega)) ?_
   rw[s9 (by omega)]
   refine Rs.bind (fh6 q hq (ps.length+1) (by omega)) fun z hz=>?_
   obtain⟨e1,e2⟩:=hz
   refine Rs.pos (by unfold maxLen;omega) ?_
   refine Rs.bind (w7 q hr a (by omega) (m:Int) 9 (by decide)) fun y hy=>?_
   obtain⟨j,rfl,g0,g1⟩:=hy
   refine Rs.bind (bm2 q g0) fun u hu=>?_
   refine Rs.pos ⟨by unfold d5;omega,by unfold maxLen;omega,Nat.le_refl _⟩ (Rs.some (hQ _ ?_))
   rw[e1]
   obtain⟨hP2,hR2⟩:=em9 hP hR (by omega) hu
   have:=ej5 hr hq x0 k0 nm m hm q2 (ps++[⟨vN (ps.length+1),u⟩]) _ (a+1) (by rw[List.length_append];exact hlt) (by rw[List.length_append];show m-(ps.length+1)<q2;omega) (by rw[List.length_append];show a+1+(m-(ps.length+1))≤999990;omega) (by rw[List.length_append];exact hP2) hR2
   rw[List.length_append]at this
   refine this.mono fun z hz=>?_
   obtain⟨ps',g',a',h1,h2,h3,h4,h5⟩:=hz
   exact⟨ps',g',a',h1,h2,h3,by omega,by have:[(⟨vN (ps.length+1),u⟩:Prm)].length=1:=rfl;omega⟩
  ·refine Rs.neg (fun h=>by have:=of_decide_eq_true h;omega) (Rs.some ⟨ps,g,a,rfl,?_,hR,by omega,by omega⟩)
   rw[show m=ps.length by omega]
   exact hP
theorem ht8(hr:uI ln lf)(hq:12≤q)(x0:g9)(k0:Int)(nm:ByteArray)(m:Nat)(hm:m≤3)(a:Nat)(ha:a+m≤999990):
 Rs (bV cI (Next q) (f9 q) (dS q) cB q x0 (.inl (k0,ln,lf,(a:Int),(m:Int),nm))) (fun z=>(z= .inl (k0,ln,lf,(a:Int),(m:Int),nm)∧m=0)∨∃(ps1:List Prm) (g1:FL) (a':Nat),z= .inr (k0,ln,lf,(a':Int),(m:Int),nm,ps1.length,g1)∧PM m ps1∧PRow ps1 g1∧a≤a'∧a'≤a+m):=by
 obtain⟨q2,hq2⟩:∃q',q=q'+1:=⟨q-1,by omega⟩
 have main:Rs (bV cI (Next q) (f9 q) (dS q) cB (q2+1) x0 (.inl (k0,ln,lf,(a:Int),(m:Int),nm))) (fun z=>(z= .inl (k0,ln,lf,(a:Int),(m:Int),nm)∧m=0)∨∃(ps1:List Prm) (g1:FL) (a':Nat),z= .inr (k0,ln,lf,(a':Int),(m:Int),nm,ps1.length,g1)∧PM m ps1∧PRow ps1 g1∧a≤a'∧a'≤a+m):=by
  unfold bV
  refine Rs.step3 fun Q hQ=>?_
  dsimp only[Sum.elim]
  unfold nE
  dsimp only
  by_cases h0:0<m
  ·refine Rs.pos (decide_eq_true (by omega)) ?_
   refine Rs.bind (fh6 q hq 1 (by omega)) fun z hz=>?_
   obtain⟨e1,e2⟩:=hz
   refine Rs.pos (by unfold maxLen;omega) ?_
   refine Rs.bind (w7 q hr a (by omega) (m:Int) 9 (by decide)) fun y hy=>?_
   obtain⟨j,rfl,g0,g1⟩:=hy
   refine Rs.bind (bm2 q g0) fun u hu=>Rs.some (hQ _ ?_)
   rw[e1]
   obtain⟨hP2,hR2⟩:=dc4 hu
   have:=ej5 cI cB hr hq x0 k0 nm m hm q2 [⟨vN 1,u⟩] _ (a+1) (by show 1≤m;omega) (by show m-1<q2;omega) (by show a+1+(m-1)≤999990;omega) hP2 hR2
   refine this.mono fun z hz=>?_
   obtain⟨ps',g',a',h1,h2,h3,h4,h5⟩:=hz
   exact .inr ⟨ps',g',a',h1,h2,h3,by omega,by have h5:a'≤a+1+(m-1):=h5;omega⟩
  ·exact Rs.neg (fun h=>h0 (by have:=of_decide_eq_true h;omega)) (Rs.some (.inl ⟨rfl,by omega⟩))
 rw[←hq2]at main
 exact main
theorem db0(hr:uI ln lf)(hq:12≤q)(x0:g9)(n0:Nat)(k0 i0:Int)(f0:FL)(nm:ByteArray)(m:Nat)(hm:m≤3):∀(q2:Nat) (ps:List Prm) (g:FL) (a:Nat),ps.length≤m→m-ps.length<q2→a+(m-ps.length)≤999990→PM ps.length ps→PRow ps g→
 Rs (o8 cI (Next q) (f9 q) (dS q) cB q2 x0 (.inr (n0,k0,i0,ln,lf,(a:Int),(m:Int),f0,nm,g,(ps.length:Int),ps.length))) (fun z=>∃(ps1:List Prm) (g1:FL) (a':Nat),z= .inr (n0,k0,i0,ln,lf,(a':Int),(m:Int),f0,nm,ps1.length,g1)∧PM m ps1∧PRow ps1 g1∧a≤a'∧a'≤a+(m-ps.length))
 |0,ps,g,a,_,hq2,_,_,_=>by omega
 |q2+1,ps,g,a,hle,hq2,ha,hP,hR=>by
  unfold o8
  refine Rs.step3 fun Q hQ=>?_
  dsimp only[Sum.elim]
  unfold gW
  dsimp only
  by_cases hlt:ps.length<m
  ·refine Rs.pos (decide_eq_true (by omega)) ?_
   rw[s9 (by omega)]
   refine Rs.bind (fh6 q hq (ps.length+1) (by omega)) fun z hz=>?_
   obtain⟨e1,e2⟩:=hz
   refine Rs.pos (by unfold maxLen;omega) ?_
   refine Rs.bind (w7 q hr a (by omega) (m:Int) 9 (by decide)) fun y hy=>?_
   obtain⟨j,rfl,g0,g1⟩:=hy
   refine Rs.bind (bm2 q g0) fun u hu=>?_
   refine Rs.pos ⟨by unfold d5;omega,by unfold maxLen;omega,Nat.le_refl _⟩ (Rs.some (hQ _ ?_))
   rw[e1]
   obtain⟨hP2,hR2⟩:=em9 hP hR (by omega) hu
   have:=db0 hr hq x0 n0 k0 i0 f0 nm m hm q2 (ps++[⟨vN (ps.length+1),u⟩]) _ (a+1) (by rw[List.length_append];exact hlt) (by rw[List.length_append];show m-(ps.length+1)<q2;omega) (by rw[List.length_append];show a+1+(m-(ps.length+1))≤999990;omega) (by rw[List.length_append];exact hP2) hR2
   rw[List.length_append]at this
   refine this.mono fun z hz=>?_
   obtain⟨ps',g',a',h1,h2,h3,h4,h5⟩:=hz
   exact⟨ps',g',a',h1,h2,h3,by omega,by have:[(⟨vN (ps.length+1),u⟩:Prm)].length=1:=rfl;omega⟩
  ·refine Rs.neg (fun h=>by have:=of_decide_eq_true h;omega) (Rs.some ⟨ps,g,a,rfl,?_,hR,by omega,by omega⟩)
   rw[show m=ps.length by omega]
   exact hP
theorem hf4(hr:uI ln lf)(hq:12≤q)(x0:g9)(n0:Nat)(k0 i0:Int)(f0:FL)(nm:ByteArray)(m:Nat)(hm:m≤3)(a:Nat)(ha:a+m≤999990):
 Rs (o8 cI (Next q) (f9 q) (dS q) cB q x0 (.inl (n0,k0,i0,ln,lf,(a:Int),(m:Int),f0,nm))) (fun z=>(z= .inl (n0,k0,i0,ln,lf,(a:Int),(m:Int),f0,nm)∧m=0)∨∃(ps1:List Prm) (g1:FL) (a':Nat),z= .inr (n0,k0,i0,ln,lf,(a':Int),(m:Int),f0,nm,ps1.length,g1)∧PM m ps1∧PRow ps1 g1∧a≤a'∧a'≤a+m):=by
 obtain⟨q2,hq2⟩:∃q',q=q'+1:=⟨q-1,by omega⟩
 have main:Rs (o8 cI (Next q) (f9 q) (dS q) cB (q2+1) x0 (.inl (n0,k0,i0,ln,lf,(a:Int),(m:Int),f0,nm))) (fun z=>(z= .inl (n0,k0,i0,ln,lf,(a:Int),(m:Int),f0,nm)∧m=0)∨∃(ps1:List Prm) (g1:FL) (a':Nat),z= .inr (n0,k0,i0,ln,lf,(a':Int),(m:Int),f0,nm,ps1.length,g1)∧PM m ps1∧PRow ps1 g1∧a≤a'∧a'≤a+m):=by
  unfold o8
  refine Rs.step3 fun Q hQ=>?_
  dsimp only[Sum.elim]
  unfold gX
  dsimp only
  by_cases h0:0<m
  ·refine Rs.pos (decide_eq_true (by omega)) ?_
   refine Rs.bind (fh6 q hq 1 (by omega)) fun z hz=>?_
   obtain⟨e1,e2⟩:=hz
   refine Rs.pos (by unfold maxLen;omega) ?_
   refine Rs.bind (w7 q hr a (by omega) (m:Int) 9 (by decide)) fun y hy=>?_
   obtain⟨j,rfl,g0,g1⟩:=hy
   refine Rs.bind (bm2 q g0) fun u hu=>Rs.some (hQ _ ?_)
   rw[e1]
   obtain⟨hP2,hR2⟩:=dc4 hu
   have:=db0 cI cB hr hq x0 n0 k0 i0 f0 nm m hm q2 [⟨vN 1,u⟩] _ (a+1) (by show 1≤m;omega) (by show m-1<q2;omega) (by show a+1+(m-1)≤999990;omega) hP2 hR2
   refine this.mono fun z hz=>?_
   obtain⟨ps',g',a',h1,h2,h3,h4,h5⟩:=hz
   exact .inr ⟨ps',g',a',h1,h2,h3,by omega,by have h5:a'≤a+1+(m-1):=h5;omega⟩
  ·exact Rs.neg (fun h=>h0 (by have:=of_decide_eq_true h;omega)) (Rs.some (.inl ⟨rfl,by omega⟩))
 rw[←hq2]at main
 exact main
end
end Go.Proofs.YtjfkkokeegpeiaaGreatDoor
/- Make: procedures that are printed and read. -/
namespace Go.Proofs.YtjfkkokeegpeiaaGreatDoor
open Go Go.Am Go.Proofs.Lx
set_option maxRecDepth 100000
def pNm(i:Nat):ByteArray:=⟨#[112]⟩++itS (i:Int)
theorem hf5{i:Nat}(h:i<10):itS (i:Int)=mkB [UInt8.ofNat (48+i)]:=by
 refine aB ?_
 rw[sA (by omega),Int.toNat_natCast,m4,Lib.decDigits,dif_pos h]
theorem gs0(i:Nat)(h:i≤5):am8 (pNm i):=by
 have key:∀i,i≤5→Lx.resP (⟨#[112]⟩++mkB [UInt8.ofNat (48+i)])=false∧(⟨#[112]⟩++mkB [UInt8.ofNat (48+i)]:ByteArray).size≤12∧(⟨#[112]⟩++mkB [UInt8.ofNat (48+i)]:ByteArray).data.toList=112::[UInt8.ofNat (48+i)]∧∀b∈112::[UInt8.ofNat (48+i)],aE b.toNat=true:=by decide
 obtain⟨k1,k2,k3,k4⟩:=key i h
 unfold pNm
 rw[hf5 (by omega)]
 exact⟨k1,k2,_,_,k3,by decide,k4⟩
theorem gy8{m n:Nat}(h:pNm m=pNm n):m=n:=by
 have h1:(pNm m).data.toList=(pNm n).data.toList:=by rw[h]
 unfold pNm at h1
 rw[ByteArray.data_append,ByteArray.data_append,Array.toList_append,Array.toList_append,sA (by omega),sA (by omega),Int.toNat_natCast,Int.toNat_natCast]at h1
 have h2:=List.append_cancel_left h1
 have v1:=(vB m).2.2.1
 have v2:=(vB n).2.2.1
 rw[h2]at v1
 omega
theorem fp3(a b:Nat):(nmL a b).Nodup:=by
 unfold nmL
 refine List.Pairwise.map _ (fun i j hij h=>hij ?_) List.nodup_range
 have:=id7 h
 omega
theorem hb6(a b:Nat):(nmL a b).length≤12:=by unfold nmL;rw[List.length_map,List.length_range];omega
def bd0(c:Prc)(l:List V):Prop:=∃y:n4,RepN c.b y∧((c.ps=[]∧l=[st c.x,g8,i64 y.1,i64 y.2.1,st y.2.2.1,.ro 4 y.2.2.2.1 y.2.2.2.2])∨∃g,PRow c.ps g∧l=[st c.x,.ro 2 c.ps.length g,i64 y.1,i64 y.2.1,st y.2.2.1,.ro 4 y.2.2.2.1 y.2.2.2.2])
theorem hb4{c:Prc}{l:List V}(h:bd0 c l):LeL l (lF c):=by
 obtain⟨y,hy,h⟩:=h
 have ht:=leT _ _ hy
 unfold lF
 rcases h with⟨e,rfl⟩ | ⟨g,hg,rfl⟩
 ·rw[e]
  exact LeL.cons (Le.refl _) (LeL.cons Le.nil_ro ht)
 ·refine LeL.cons (Le.refl _) (LeL.cons (Le.ro_eq fun j hj=>?_) ht)
  have e1:(c.ps.map gh5).getD j [st ⟨#[]⟩,st ⟨#[]⟩]=[st c.ps[j].x,st c.ps[j].u]:=by
   rw[List.getD_eq_getElem?_getD,List.getElem?_map,List.getElem?_eq_getElem hj];rfl
  rw[e1]
  exact⟨hg j _ (List.getElem?_eq_getElem hj),by simp[m8,V.pure]⟩
theorem ek1(c:Prc):m8 (lF c)=true:=by
 unfold lF
 have:=fm8 c.b
 simp only[m8,V.pure,Bool.true_and,this,Bool.and_true]
theorem gw8{cs:List Prc}{f:FL}(h:∀j c,cs[j]? =some c→bd0 c (f j)):Le (.ro 6 cs.length f) (aj5 cs):=by
 unfold aj5
 refine Le.ro fun j hj=>?_
 have hc:cs[j]? =some cs[j]:=List.getElem?_eq_getElem hj
 have e:(cs.map lF).getD j gl0=lF cs[j]:=by rw[List.getD_eq_getElem?_getD,List.getElem?_map,hc];rfl
 rw[e]
 exact⟨hb4 (h j _ hc),ek1 _⟩
theorem fq9{c:Prc}{x':List UInt8}{l':List Tkn}(g:PrP c x' l'){cs:List Prc}{x:List UInt8}{l:List Tkn}(h:PrPs cs x l):PrPs (cs++[c]) (x++x') (l++l'):=by
 induction h with
 |nil=>
  have:=PrPs.cons c [] x' l' [] [] g .nil
  simpa using this
 |cons c0 cs x l xs ls h1 _ ih=>
  have:=PrPs.cons c0 (cs++[c]) x l (xs++x') (ls++l') h1 ih
  simpa using this
theorem fj4{m:Prm}(h:az7 m):(ay5 m).length≤30:=by
 obtain⟨⟨_,hx,_⟩,hu⟩:=h
 have hu:m.u.size≤12:=by
  rcases hu with hu|hu
  ·rw[hu];decide
  ·exact(bj0 _ hu).2
 unfold ay5
 split<;>simp only[List.length_append,List.length_cons,List.length_nil,d6]<;>omega
theorem db5:∀(ps:List Prm),(∀p∈ps,az7 p)→(cK ps).length≤40*ps.length
 | [],_=>by simp[cK]
 | [m],h=>by
  have:=fj4 (h m (by simp))
  simp only[cK,List.length_cons,List.length_nil]
  omega
 |m::n::l,h=>by
  have h1:=fj4 (h m (by simp))
  have h2:=db5 (n::l) fun p hp=>h p (by simp at hp⊢;exact .inr hp)
  simp only[cK,List.length_cons,List.length_append]at h2⊢
  omega
theorem eh4{m:Nat}{ps:List Prm}(hP:PM m ps)(hm:m≤3){t:Tr}{b':Nat}(hB:PB1 2 m t b')(hb:m≤b'){i:Nat}(hi:i≤5):∃x l,PrP ⟨pNm i,ps,t⟩ x l∧x.length≤20000000∧szT t≤60000:=by
 obtain⟨ts,rfl,s1,p1⟩:=hB
 have hSS:SS 2=14744:=rfl
 obtain⟨xy,ly,dy,hS,hd⟩:=p1 1
 have hv:ps.map Prm.x++nmL m b'=nmL 0 b':=by rw[hP.nm,cc4 (by omega) hb]
 have h1:=ha6 hS (by omega)
 have h2:=db5 ps hP.ok
 rw[hP.len]at h2
 have h3:=(gs0 i hi).2.1
 refine⟨_,_,⟨gs0 i hi,hP.ok,ts,xy,ly,dy,nmL m b',hS,rfl,by omega,by rw[hv];exact fp3 0 b',by rw[hv];exact hb6 0 b',rfl,rfl⟩,?_,?_⟩
 ·simp only[szZ]at h1
  simp only[List.length_append,List.length_cons,List.length_nil,d6]
  have:w_procedure.size=9:=rfl
  omega
 ·simp only[szT];omega
structure CI(cs:List Prc)(f:FL):Prop where
 cell:∀j c,cs[j]? =some c→bd0 c (f j)
 pr:∃x l,PrPs cs x l∧x.length≤cs.length*20000000
 sz:∀c∈cs,szT c.b≤60000
 nm:cs.map Prc.x=(List.range cs.length).map pNm
theorem CI.nil(f:FL):CI [] f:=⟨fun j c h=>(by simp at h),⟨_,_,.nil,by simp⟩,(fun c h=>by cases h),rfl⟩
theorem CI.snoc{cs:List Prc}{f:FL}(h:CI cs f){ps:List Prm}{t:Tr}{x:List UInt8}{l:List Tkn}(hp:PrP ⟨pNm cs.length,ps,t⟩ x l)(hx:x.length≤20000000)(hs:szT t≤60000){v:List V}(hv:bd0 ⟨pNm cs.length,ps,t⟩ v){f':FL}(e:∀j,j≤cs.length→f' j=if j<cs.length then f j else v):CI (cs++[⟨pNm cs.length,ps,t⟩]) f':=by
 refine⟨fun j c hj=>?_,?_,fun c hc=>?_,?_⟩
 ·by_cases hjl:j<cs.length
  ·rw[e j (by omega),if_pos hjl]
   rw[List.getElem?_append_left hjl]at hj
   exact h.cell j c hj
  ·rw[List.getElem?_append_right (by omega)]at hj
   have e0:j-cs.length=0:=by
    have:=(List.getElem?_eq_some_iff.1 hj).1
    simp at this;omega
   rw[e j (by omega),if_neg hjl]
   rw[e0]at hj
   simp at hj
   subst hj
   exact hv
 ·obtain⟨x0,l0,h1,h2⟩:=h.pr
  refine⟨_,_,fq9 hp h1,?_⟩
  rw[List.length_append,List.length_append]
  show _≤(cs.length+1)*20000000
  omega
 ·rcases List.mem_append.1 hc with hc|hc
  ·exact h.sz c hc
  ·obtain rfl:=List.mem_singleton.1 hc
   exact hs
 ·rw[List.map_append,h.nm,List.length_append,List.length_cons,List.length_nil,List.range_succ,List.map_append]
  rfl
section
variable {q:Nat} {ln:Nat} {lf:Nat→Int}
theorem hp3(q:Nat)(hq:12≤q)(m:Nat)(hm:m≤10):Rs (f9 q ((m:Nat):Int)) (fun z=>(⟨#[112]⟩:ByteArray)++z=pNm m∧z.size≤10):=by
 refine(aU (n:=(m:Int)) (by omega) (by omega) hq).mono fun z hz=>?_
 subst hz
 exact⟨rfl,jC (by omega) (by omega)⟩
theorem gw9(hr:uI ln lf)(hq:30≤q)(a m:Nat)(ha:a+60000≤1000000)(hm:m≤3):Rs (dA q (2,ln,lf,(a:Int),(m:Int))) (MS ln lf (PB1 2 m) a m 60000):=by
 have h:=if9 hr 2 (by omega) q (by omega) a m (by show a+58473≤_;omega) (by show m+58473≤_;omega)
 refine h.mono fun z hz=>?_
 obtain⟨t,y,a',b',h1,h2,h3,h4,h5,h6,h7⟩:=hz
 have h5:a'≤a+58473:=h5
 have h7:b'≤m+58473:=h7
 exact⟨t,y,a',b',h1,h2,h3,h4,by omega,h6,by omega⟩
theorem fe8(hr:uI ln lf)(hq:30≤q)(x0:g9)(K:Nat)(hK:K≤3):∀(q2:Nat) (cs:List Prc) (f:FL) (a:Nat) (mn:Int),cs.length≤K→K-cs.length<q2→a+(K-cs.length)*70000≤900000→CI cs f→
 Rs (lpG (Sum.elim (fun y=>eW (jK q) (Next q) (f9 q) (dS q) (dA q) (bV (jK q) (Next q) (f9 q) (dS q) (dA q) q x0) (o8 (jK q) (Next q) (f9 q) (dS q) (dA q) q x0) x0 y (fun y=>some (.inl y)) (fun z=>some (.inr z))) (fun y=>eY (jK q) (Next q) (f9 q) (dS q) (dA q) (bV (jK q) (Next q) (f9 q) (dS q) (dA q) q x0) (o8 (jK q) (Next q) (f9 q) (dS q) (dA q) q x0) x0 y (fun y=>some (.inl y)) (fun z=>some (.inr z)))) q2 (.inr ((K:Int),ln,lf,(a:Int),mn,f,cs.length,(cs.length:Int)))) (fun z=>∃cs f,z= .inr (cs.length,f)∧CI cs f∧cs.length≤K)
 |0,cs,f,a,mn,_,hq2,_,_=>by omega
 |q2+1,cs,f,a,mn,hle,hq2,ha,hC=>by
  refine Rs.step3 fun Q hQ=>?_
  dsimp only[Sum.elim]
  unfold eY
  dsimp only
  by_cases hlt:cs.length<K
  ·have hK2:(K-cs.length)*70000=(K-(cs.length+1))*70000+70000:=by
    rw[show K-cs.length=K-(cs.length+1)+1 by omega,Nat.add_mul,Nat.one_mul]
   refine Rs.pos (decide_eq_true (by omega)) ?_
   refine Rs.bind (hp3 q (by omega) cs.length (by omega)) fun z hz=>?_
   obtain⟨e1,e2⟩:=hz
   refine Rs.pos (by unfold maxLen;omega) ?_
   refine Rs.bind (w7 q hr a (by omega) mn 4 (by decide)) fun y hy=>?_
   obtain⟨m,hy,g0,g1⟩:=hy
   obtain⟨m,rfl⟩:∃k:Nat,m=(k:Int):=⟨m.toNat,by omega⟩
   subst hy
   rw[e1]
   refine Rs.bind (hf4 (jK q) (dA q) hr (by omega) x0 cs.length (K:Int) (cs.length:Int) f (pNm cs.length) m (by omega) (a+1) (by omega)) fun z hz=>?_
   have fin:∀(ps:List Prm) (hP:PM m ps) (a':Nat) (t:Tr) (y:n4) (a2 b2:Nat) (v:List V) (f':FL),PB1 2 m t b2→m≤b2→RepN t y→a2≤a+65000→bd0 ⟨pNm cs.length,ps,t⟩ v→(∀j,j≤cs.length→f' j=if j<cs.length then f j else v)→Q (.inr ((K:Int),ln,lf,(a2:Int),(b2:Int),f',cs.length+1,w ((cs.length:Int)+1))):=by
    intro ps hP a' t y a2 b2 v f' hB hb hy ha2 hv he
    obtain⟨x,l,p1,p2,p3⟩:=eh4 hP (by omega) hB hb (i:=cs.length) (by omega)
    refine hQ _ ?_
    rw[s9 (by omega)]
    have:=fe8 hr hq x0 K hK q2 (cs++[⟨pNm cs.length,ps,t⟩]) f' a2 (b2:Int) (by rw[List.length_append];exact hlt) (by rw[List.length_append];show K-(cs.length+1)<q2;omega) (by rw[List.length_append];show a2+(K-(cs.length+1))*70000≤900000;omega) (hC.snoc p1 p2 p3 hv he)
    rw[List.length_append]at this
    exact this
   rcases hz with⟨rfl,hm0⟩ | ⟨ps,g,a',rfl,hP,hR,h1,h2⟩
   ·subst hm0
    dsimp only[Sum.elim]
    refine Rs.bind (gw9 hr hq (a+1) 0 (by omega) (by omega)) fun z hz=>?_
    obtain⟨t,y,a2,b2,rfl,hB,hy,k1,k2,k3,k4⟩:=hz
    refine Rs.pos ⟨by unfold d5;omega,by unfold maxLen;omega,Nat.le_refl _⟩ (Rs.some ?_)
    refine fin [] PM.nil 0 t y a2 b2 [st (pNm cs.length),g8,i64 y.1,i64 y.2.1,st y.2.2.1,.ro 4 y.2.2.2.1 y.2.2.2.2] _ hB k3 hy (by omega) ⟨y,hy,.inl ⟨rfl,rfl⟩⟩ fun j hj=>?_
    simp only[ak1,az3]
    by_cases hjl:j<cs.length
    ·rw[if_pos hjl,if_pos hjl]
    ·rw[if_neg hjl,if_neg hjl,show j-cs.length=0 by omega]
     rfl
   ·dsimp only[Sum.elim]
    refine Rs.bind (gw9 hr hq a' m (by omega) (by omega)) fun z hz=>?_
    obtain⟨t,y,a2,b2,rfl,hB,hy,k1,k2,k3,k4⟩:=hz
    refine Rs.pos ⟨by omega,rfl⟩ (Rs.pos ⟨by unfold d5;omega,by unfold maxLen;omega,Nat.le_refl _⟩ (Rs.some ?_))
    refine fin ps hP 0 t y a2 b2 [st (pNm cs.length),.ro 2 ps.length (fun j=>g (0+j)),i64 y.1,i64 y.2.1,st y.2.2.1,.ro 4 y.2.2.2.1 y.2.2.2.2] _ hB k3 hy (by omega) ⟨y,hy,.inr ⟨_,fun j p hj=>by rw[Nat.zero_add];exact hR j p hj,rfl⟩⟩ fun j hj=>?_
    simp only[ak1,az3]
    by_cases hjl:j<cs.length
    ·rw[if_pos hjl,if_pos hjl]
    ·rw[if_neg hjl,if_neg hjl,show j-cs.length=0 by omega]
     rfl
  ·exact Rs.neg (fun h=>hlt (by have:=of_decide_eq_true h;omega)) (Rs.some ⟨cs,f,rfl,hC,hle⟩)
end
theorem hf7{ln:Nat}{lf:Nat→Int}(hr:uI ln lf){q:Nat}(hq:30≤q):Rs (fj3 q (ln,lf)) (fun z=>z= .inl ()∨∃cs f,z= .inr (cs.length,f)∧CI cs f∧cs.length≤3):=by
 unfold fj3 au0
 refine Rs.bind (ha8 q hr) fun z hz=>?_
 obtain⟨ln,lf⟩:=z
 have hr:uI ln lf:=hz
 refine Rs.bind (w7 q hr 0 (by omega) 0 4 (by decide)) fun y hy=>?_
 obtain⟨K,hy,g0,g1⟩:=hy
 obtain⟨K,rfl⟩:∃k:Nat,K=(k:Int):=⟨K.toNat,by omega⟩
 subst hy
 have hl:∀x0:g9,Rs (am9 (jK q) (Next q) (f9 q) (dS q) (dA q) q x0 (.inl ((K:Int),ln,lf,((0+1:Nat):Int),0))) (fun z=>z= .inl ()∨∃cs f,z= .inr (cs.length,f)∧CI cs f∧cs.length≤3):=by
  intro x0
  obtain⟨q2,hq2⟩:∃q',q=q'+1:=⟨q-1,by omega⟩
  unfold am9
  have main:∀q1,q1=q2+1→Rs (lpG (Sum.elim (fun y=>eW (jK q) (Next q) (f9 q) (dS q) (dA q) (bV (jK q) (Next q) (f9 q) (dS q) (dA q) q x0) (o8 (jK q) (Next q) (f9 q) (dS q) (dA q) q x0) x0 y (fun y=>some (.inl y)) (fun z=>some (.inr z))) (fun y=>eY (jK q) (Next q) (f9 q) (dS q) (dA q) (bV (jK q) (Next q) (f9 q) (dS q) (dA q) q x0) (o8 (jK q) (Next q) (f9 q) (dS q) (dA q) q x0) x0 y (fun y=>some (.inl y)) (fun z=>some (.inr z)))) q1 (.inl ((K:Int),ln,lf,((0+1:Nat):Int),0))) (fun z=>z= .inl ()∨∃cs f,z= .inr (cs.length,f)∧CI cs f∧cs.length≤3):=by
   rintro q1 rfl
   refine Rs.step3 fun Q hQ=>?_
   dsimp only[Sum.elim]
   unfold eW
   dsimp only
   by_cases h0:0<K
   ·refine Rs.pos (decide_eq_true (by omega)) ?_
    refine Rs.bind (hp3 q (by omega) 0 (by omega)) fun z hz=>?_
    obtain⟨e1,e2⟩:=hz
    refine Rs.pos (by unfold maxLen;omega) ?_
    refine Rs.bind (w7 q hr (0+1) (by omega) 0 4 (by decide)) fun y hy=>?_
    obtain⟨m,hy,m0,m1⟩:=hy
    obtain⟨m,rfl⟩:∃k:Nat,m=(k:Int):=⟨m.toNat,by omega⟩
    subst hy
    rw[e1]
    refine Rs.bind (ht8 (jK q) (dA q) hr (by omega) x0 (K:Int) (pNm 0) m (by omega) (0+1+1) (by omega)) fun z hz=>?_
    have fin:∀(ps:List Prm) (hP:PM m ps) (t:Tr) (y:n4) (a2 b2:Nat) (v:List V) (f':FL),PB1 2 m t b2→m≤b2→RepN t y→a2≤65000→bd0 ⟨pNm 0,ps,t⟩ v→f' 0=v→Q (.inr ((K:Int),ln,lf,(a2:Int),(b2:Int),f',1,1)):=by
     intro ps hP t y a2 b2 v f' hB hb hy ha2 hv he
     obtain⟨x,l,p1,p2,p3⟩:=eh4 hP (by omega) hB hb (i:=0) (by omega)
     refine hQ _ ?_
     have:=fe8 hr hq x0 K (by omega) q2 [⟨pNm 0,ps,t⟩] f' a2 (b2:Int) (by show 1≤K;omega) (by show K-1<q2;omega) (by show a2+(K-1)*70000≤900000;omega) ((CI.nil (fun _=>[])).snoc (ps:=ps) (t:=t) p1 p2 p3 hv fun j hj=>by
      have:j=0:=by simpa using hj
      subst this
      exact he)
     refine this.mono fun z hz=>.inr ?_
     obtain⟨cs,f,h1,h2,h3⟩:=hz
     exact⟨cs,f,h1,h2,by omega⟩
    rcases hz with⟨rfl,hm0⟩ | ⟨ps,g,a',rfl,hP,hR,h1,h2⟩
    ·subst hm0
     dsimp only[Sum.elim]
     refine Rs.bind (gw9 hr hq (0+1+1) 0 (by omega) (by omega)) fun z hz=>?_
     obtain⟨t,y,a2,b2,rfl,hB,hy,k1,k2,k3,k4⟩:=hz
     exact Rs.some (fin [] PM.nil t y a2 b2 [st (pNm 0),g8,i64 y.1,i64 y.2.1,st y.2.2.1,.ro 4 y.2.2.2.1 y.2.2.2.2] _ hB k3 hy (by omega) ⟨y,hy,.inl ⟨rfl,rfl⟩⟩ rfl)
    ·dsimp only[Sum.elim]
     refine Rs.bind (gw9 hr hq a' m (by omega) (by omega)) fun z hz=>?_
     obtain⟨t,y,a2,b2,rfl,hB,hy,k1,k2,k3,k4⟩:=hz
     exact Rs.pos ⟨by omega,rfl⟩ (Rs.some (fin ps hP t y a2 b2 [st (pNm 0),.ro 2 ps.length (fun j=>g (0+j)),i64 y.1,i64 y.2.1,st y.2.2.1,.ro 4 y.2.2.2.1 y.2.2.2.2] _ hB k3 hy (by omega) ⟨y,hy,.inr ⟨_,fun j p hj=>by rw[Nat.zero_add];exact hR j p hj,rfl⟩⟩ rfl))
   ·exact Rs.neg (fun h=>h0 (by have:=of_decide_eq_true h;omega)) (Rs.some (.inl rfl))
  exact main q hq2
 refine Rs.bind (hl _) fun z hz=>?_
 rcases hz with rfl| ⟨cs,f,rfl,h1,h2⟩
 ·exact Rs.some (.inl rfl)
 ·exact Rs.some (.inr ⟨cs,f,rfl,h1,h2⟩)
end Go.Proofs.YtjfkkokeegpeiaaGreatDoor
/- The laws of Prints and Builds, lifted. -/
namespace Go.Proofs.YtjfkkokeegpeiaaGreatDoor
open Go Go.Am Go.Proofs Go.Proofs.Lx
set_option maxRecDepth 100000
structure Hnd(n:Nat)(f:FL)(cs:List Prc)(x:List UInt8):Prop where
 pr:∃l,PrPs cs x l
 len:n=cs.length
 cell:∀j c,cs[j]? =some c→bd0 c (f j)
 sz:∀c∈cs,szT c.b≤1000000
 l4:cs.length≤10000
 l9:x.length≤1000000000
theorem Hnd.le{n:Nat}{f:FL}{cs:List Prc}{x:List UInt8}(h:Hnd n f cs x):Le (.ro 6 n f) (aj5 cs):=by
 rw[h.len]
 exact gw8 h.cell
theorem le_trans{a b c:V}(h:Le a b)(g:Le b c):Le a c:=fun _ _ _ _ _ k=>g _ _ _ _ _ (h _ _ _ _ _ k)
abbrev cb6:Type:=Nat×FI
abbrev cb4:Type:=Nat×FL
def ca9:AR cb6:=fun x=>([.ro 1 x.1 (fun j=>[i64 (x.2 j)])],[])
def hf1(t:TT):cb6:=(u7 (ag t 0),dTI (ag t 0) 0)
theorem hk7:VI ca9:=vd hf1 fun _=>rfl
def de1:cb4→CRes:=fun z=>.ret (.ro 6 z.1 z.2) []
def en2:ar3→cb4:=Sum.elim (fun _=>(0,fun _=>[])) (fun z=>z)
theorem fy1{args:List V}{L:List (Option Chunk)}(z:ar3)(h:SC E5 12 args L (dp3 z)):SC E5 12 args L (de1 (en2 z)):=by
 rcases z with z|z
 ·exact SC.le h Le.nil_ro
 ·have h2:=SC.giveM (L2:=[]) 0 h (by rfl) (by simp[V.bw,V.bw2,V.bw1,hp,V.pure,m8])
  simp[V.bw,V.bw2,V.bw1,hp]at h2
  exact h2
noncomputable def eo1(q:Nat)(x:cb6):Option cb4:=(fj3 q x).map en2
theorem gd1(q:Nat):Lw E5 12 ca9 de1 (eo1 q):=by
 intro x z h
 obtain⟨y,hy,rfl⟩:=Option.map_eq_some_iff.1 h
 exact fy1 y (sc9.1 (gl4 q x y hy))
abbrev bg3:Type:=Nat×FL
abbrev co7:Type:=ByteArray
def be3:AR bg3:=fun x=>([.ro 6 x.1 x.2],[])
def gp2(t:TT):bg3:=(u7 (ag t 0),iU (ag t 0))
theorem gg0:VI be3:=vd gp2 fun _=>rfl
def ep2:co7→CRes:=fun z=>.ret (st z) []
noncomputable def bt3(q:Nat)(x:bg3):Option co7:=@dite _ (∃p:List Prc×List UInt8,Hnd x.1 x.2 p.1 p.2) (Classical.propDecidable _) (fun h=>some (mkB (Classical.choose h).2)) (fun _=>none)
theorem fr5(q:Nat):Lw E5 13 be3 ep2 (bt3 q):=by
 intro x z h
 unfold bt3 at h
 split at h
 ·rename_i hc
  cases h
  have hH:=Classical.choose_spec hc
  generalize Classical.choose hc=p at*
  obtain⟨l,hl⟩:=hH.pr
  have h1:=gk2 hl (q:=4000000) (fun c hc=>⟨by have:=hH.sz c hc;omega,hH.sz c hc⟩) (by have:=hH.l4;omega) hH.l4 hH.l9
  have h2:=gh1 4000000 _ _ h1
  exact SC.arg (sc8.1 h2) (LeL.cons (le_trans hH.le (fl5 p.1)) LeL.nil) rfl rfl
 ·cases h
abbrev at8:Type:=Nat×FL
abbrev bt1:Type:=ByteArray
def ar6:AR at8:=fun x=>([.ro 6 x.1 x.2],[])
def fs0(t:TT):at8:=(u7 (ag t 0),iU (ag t 0))
theorem fw5:VI ar6:=vd fs0 fun _=>rfl
def cy7:bt1→CRes:=fun z=>.ret (st z) []
noncomputable def as3(q:Nat)(x:at8):Option bt1:=@dite _ (∃p:List Prc×List UInt8,Hnd x.1 x.2 p.1 p.2) (Classical.propDecidable _) (fun h=>some (mkB (Classical.choose h).2)) (fun _=>none)
theorem fe6(q:Nat):Lw E5 14 ar6 cy7 (as3 q):=by
 intro x z h
 unfold as3 at h
 split at h
 ·rename_i hc
  cases h
  have hH:=Classical.choose_spec hc
  generalize Classical.choose hc=p at*
  obtain⟨l,hl⟩:=hH.pr
  have h1:=fr0 hl (q:=4000000) (fun c hc=>⟨by have:=hH.sz c hc;omega,hH.sz c hc⟩) (by have:=hH.l4;omega) hH.l4 hH.l9
  have h2:=fv4 4000000 _ _ h1
  exact SC.arg (h2) (LeL.cons (le_trans hH.le (fl5 p.1)) LeL.nil) rfl rfl
 ·cases h
abbrev bu8:Type:=Nat×FI
abbrev aw7:Type:=Bool
def bv1:AR bu8:=fun x=>([.ro 1 x.1 (fun j=>[i64 (x.2 j)])],[])
def da4:aw7→CRes:=fun z=>.ret (bo z) []
def uY{β:Type}(c_MakeV:cb6→Option cb4)(c_PrintX:bg3→Option co7)(c_RPrintX:at8→Option bt1)(c_Lives:bf9→Option bj8)(x:bu8)(dn:aw7→Option β):Option β:=
 (c_MakeV x).bind fun z2=>(c_PrintX z2).bind fun z5=>(c_RPrintX z2).bind fun z8=>if(z5.toList==z8.toList)=true then(c_Lives ()).bind fun z9=>dn z9 else dn false
theorem fq5{β:Type}(c_MakeV c_PrintX)(c_RPrintX c_Lives)(x)(dn:aw7→Option β):uY c_MakeV c_PrintX c_RPrintX c_Lives x dn=(uY c_MakeV c_PrintX c_RPrintX c_Lives x some).bind dn:=by
 unfold uY
 repeat' first|exact n0|refine n1 fun _=>?_|refine n2 ?_ ?_|refine n3 (fun _=>?_) fun _=>?_|rfl
theorem ft1(c_MakeV c_PrintX)(c_RPrintX c_Lives)(x):f7 E5 (ftb 12 ca9 de1 c_MakeV (ftb 13 be3 ep2 c_PrintX (ftb 14 ar6 cy7 c_RPrintX (ftb 11 ax1 dg0 c_Lives ca0)))) lo0 4 (bv1 x).1 (bv1 x).2 K=uY (vf ca9 c_MakeV) (vf be3 c_PrintX) (vf ar6 c_RPrintX) (vf ax1 c_Lives) x (fun z=>some (.c (da4 z))):=by kernel_rfl
noncomputable def dk0(q:Nat)(x:bu8):Option aw7:=uY (eo1 q) (bt3 q) (as3 q) (eo3 q) x some
theorem ey3(q:Nat):Lw E5 4 bv1 da4 (dk0 q):=sof hW5 hX5 (fk (gd1 q) (fk (fr5 q) (fk (fe6 q) (fk (gj2 q) a8)))) (fun _=>b6) fun x=>(ft1 (eo1 q) (bt3 q) (as3 q) (eo3 q) x).trans (by rw[hk7,gg0,fw5,hn5,fq5]<;>rfl)
end Go.Proofs.YtjfkkokeegpeiaaGreatDoor
/- The laws of Prints and Builds. -/
namespace Go.Proofs.YtjfkkokeegpeiaaGreatDoor
open Go Go.Am Go.Proofs.Lx
set_option maxRecDepth 100000
theorem dq1(n:Nat):((List.range n).map pNm).Nodup:=List.Pairwise.map _ (fun i j hij h=>hij (gy8 h)) List.nodup_range
theorem gh4{ln:Nat}{lf:Nat→Int}(hr:uI ln lf){q:Nat}(hq:30≤q):Rs (eo1 q (ln,lf)) (fun z=>∃cs x,Hnd z.1 z.2 cs x∧(cs.map Prc.x).Nodup):=by
 unfold eo1
 refine Rs.map (hf7 hr hq) fun z hz=>?_
 rcases hz with rfl| ⟨cs,f,rfl,hC,hl⟩
 ·exact⟨[],[],⟨⟨_,.nil⟩,rfl,(fun j c h=>by simp at h),(fun c h=>by cases h),by decide,by decide⟩,List.Pairwise.nil⟩
 ·obtain⟨x,l,h1,h2⟩:=hC.pr
  refine⟨cs,x,⟨⟨l,h1⟩,rfl,hC.cell,fun c hc=>by have:=hC.sz c hc;omega,by omega,by omega⟩,?_⟩
  rw[hC.nm]
  exact dq1 _
theorem ef5{ln:Nat}{lf:Nat→Int}(hr:uI ln lf):dk0 100 (ln,lf)=some true:=by
 refine Rs.eq ?_
 unfold dk0 uY
 refine Rs.bind (gh4 hr (by decide)) fun z hz=>?_
 obtain⟨cs,x,hH,_⟩:=hz
 have hE:∃p:List Prc×List UInt8,Hnd z.1 z.2 p.1 p.2:=⟨(cs,x),hH⟩
 have e1:bt3 100 z=some (mkB (Classical.choose hE).2):=by unfold bt3;exact dif_pos hE
 have e2:as3 100 z=some (mkB (Classical.choose hE).2):=by unfold as3;exact dif_pos hE
 refine Rs.bind (Rs.of e1) fun z1 g1=>Rs.bind (Rs.of e2) fun z2 g2=>?_
 subst g1 g2
 exact Rs.pos (beq_self_eq_true _) (Rs.bind (Rs.of (ey2 100)) fun z hz=>Rs.some hz)
theorem parserPrints(v0:V)(h0:WTV E.P 29 v0):∃l',LeL [v0] l'∧SC E 4 l' [] (.ret (bo true) []):=by
 obtain⟨m,y,g1,hy⟩:=gy3 h0
 exact⟨_,LeL.cons g1 LeL.nil,sc5.1 (ey3 100 _ _ (ef5 hy))⟩
end Go.Proofs.YtjfkkokeegpeiaaGreatDoor

