/- Texts joined. -/
import Derived.Test.YtjfkkokeegpeiaaGreatDoorQH
/- Make: procedures that are printed and read. -/
set_option linter.unusedSimpArgs false
set_option linter.unusedVariables false
namespace Go.Proofs.YtjfkkokeegpeiaaGreatDoor
open Go Go.Am Go.Proofs.Lx
set_option maxRecDepth 100000
def pNm(i:Nat):ByteArray:=⟨#[112]⟩++itS (i:Int)
theorem hf5{i:Nat}(h:i<10):itS (i:Int)=mkB [UInt8.ofNat (48+i)]:=by
 refine aB ?_
 rw[sA (by omega),Int.toNat_natCast,m4,Lib.decDigits,dif_pos h]
theorem gs0(i:Nat)(h:i≤5):am8 (pNm i):=by
 have key:∀i,i≤5→Lx.resP (⟨#[112]⟩++mkB [UInt8.ofNat (48+i)])=false∧(⟨#[112]⟩++mkB [UInt8.ofNat (48+i)]:ByteArray).size≤12∧(⟨#[112]⟩++mkB [UInt8.ofNat (48+i)]:ByteArray).data.toList=112::[UInt8.ofNat (48+i)]∧∀b∈112::[UInt8.ofNat (48+i)],aE b.toNat=true:=by decide
 obtain⟨k1,k2,k3,k4⟩:=key i h
 unfold pNm
 rw[hf5 (by omega)]
 exact⟨k1,k2,_,_,k3,by decide,k4⟩
theorem gy8{m n:Nat}(h:pNm m=pNm n):m=n:=by
 have h1:(pNm m).data.toList=(pNm n).data.toList:=by rw[h]
 unfold pNm at h1
 rw[ByteArray.data_append,ByteArray.data_append,Array.toList_append,Array.toList_append,sA (by omega),sA (by omega),Int.toNat_natCast,Int.toNat_natCast]at h1
 have h2:=List.append_cancel_left h1
 have v1:=(vB m).2.2.1
 have v2:=(vB n).2.2.1
 rw[h2]at v1
 omega
theorem fp3(a b:Nat):(nmL a b).Nodup:=by
 unfold nmL
 refine List.Pairwise.map _ (fun i j hij h=>hij ?_) List.nodup_range
 have:=id7 h
 omega
theorem hb6(a b:Nat):(nmL a b).length≤12:=by unfold nmL;rw[List.length_map,List.length_range];omega
def bd0(c:Prc)(l:List V):Prop:=∃y:n4,RepN c.b y∧((c.ps=[]∧l=[st c.x,g8,i64 y.1,i64 y.2.1,st y.2.2.1,.ro 4 y.2.2.2.1 y.2.2.2.2])∨∃g,PRow c.ps g∧l=[st c.x,.ro 2 c.ps.length g,i64 y.1,i64 y.2.1,st y.2.2.1,.ro 4 y.2.2.2.1 y.2.2.2.2])
theorem hb4{c:Prc}{l:List V}(h:bd0 c l):LeL l (lF c):=by
 obtain⟨y,hy,h⟩:=h
 have ht:=leT _ _ hy
 unfold lF
 rcases h with⟨e,rfl⟩ | ⟨g,hg,rfl⟩
 ·rw[e]
  exact LeL.cons (Le.refl _) (LeL.cons Le.nil_ro ht)
 ·refine LeL.cons (Le.refl _) (LeL.cons (Le.ro_eq fun j hj=>?_) ht)
  have e1:(c.ps.map gh5).getD j [st ⟨#[]⟩,st ⟨#[]⟩]=[st c.ps[j].x,st c.ps[j].u]:=by
   rw[List.getD_eq_getElem?_getD,List.getElem?_map,List.getElem?_eq_getElem hj];rfl
  rw[e1]
  exact⟨hg j _ (List.getElem?_eq_getElem hj),by simp[m8,V.pure]⟩
theorem ek1(c:Prc):m8 (lF c)=true:=by
 unfold lF
 have:=fm8 c.b
 simp only[m8,V.pure,Bool.true_and,this,Bool.and_true]
theorem gw8{cs:List Prc}{f:FL}(h:∀j c,cs[j]? =some c→bd0 c (f j)):Le (.ro 6 cs.length f) (aj5 cs):=by
 unfold aj5
 refine Le.ro fun j hj=>?_
 have hc:cs[j]? =some cs[j]:=List.getElem?_eq_getElem hj
 have e:(cs.map lF).getD j gl0=lF cs[j]:=by rw[List.getD_eq_getElem?_getD,List.getElem?_map,hc];rfl
 rw[e]
 exact⟨hb4 (h j _ hc),ek1 _⟩
theorem fq9{c:Prc}{x':List UInt8}{l':List Tkn}(g:PrP c x' l'){cs:List Prc}{x:List UInt8}{l:List Tkn}(h:PrPs cs x l):PrPs (cs++[c]) (x++x') (l++l'):=by
 induction h with
 |nil=>
  have:=PrPs.cons c [] x' l' [] [] g .nil
  simpa using this
 |cons c0 cs x l xs ls h1 _ ih=>
  have:=PrPs.cons c0 (cs++[c]) x l (xs++x') (ls++l') h1 ih
  simpa using this
theorem fj4{m:Prm}(h:az7 m):(ay5 m).length≤30:=by
 obtain⟨⟨_,hx,_⟩,hu⟩:=h
 have hu:m.u.size≤12:=by
  rcases hu with hu|hu
  ·rw[hu];decide
  ·exact(bj0 _ hu).2
 unfold ay5
 split<;>simp only[List.length_append,List.length_cons,List.length_nil,d6]<;>omega
theorem db5:∀(ps:List Prm),(∀p∈ps,az7 p)→(cK ps).length≤40*ps.length
 | [],_=>by simp[cK]
 | [m],h=>by
  have:=fj4 (h m (by simp))
  simp only[cK,List.length_cons,List.length_nil]
  omega
 |m::n::l,h=>by
  have h1:=fj4 (h m (by simp))
  have h2:=db5 (n::l) fun p hp=>h p (by simp at hp⊢;exact .inr hp)
  simp only[cK,List.length_cons,List.length_append]at h2⊢
  omega
theorem eh4{m:Nat}{ps:List Prm}(hP:PM m ps)(hm:m≤3){t:Tr}{b':Nat}(hB:PB1 2 m t b')(hb:m≤b'){i:Nat}(hi:i≤5):∃x l,PrP ⟨pNm i,ps,t⟩ x l∧x.length≤20000000∧szT t≤60000:=by
 obtain⟨ts,rfl,s1,p1⟩:=hB
 have hSS:SS 2=14744:=rfl
 obtain⟨xy,ly,dy,hS,hd⟩:=p1 1
 have hv:ps.map Prm.x++nmL m b'=nmL 0 b':=by rw[hP.nm,cc4 (by omega) hb]
 have h1:=ha6 hS (by omega)
 have h2:=db5 ps hP.ok
 rw[hP.len]at h2
 have h3:=(gs0 i hi).2.1
 refine⟨_,_,⟨gs0 i hi,hP.ok,ts,xy,ly,dy,nmL m b',hS,rfl,by omega,by rw[hv];exact fp3 0 b',by rw[hv];exact hb6 0 b',rfl,rfl⟩,?_,?_⟩
 ·simp only[szZ]at h1
  simp only[List.length_append,List.length_cons,List.length_nil,d6]
  have:w_procedure.size=9:=rfl
  omega
 ·simp only[szT];omega
structure CI(cs:List Prc)(f:FL):Prop where
 cell:∀j c,cs[j]? =some c→bd0 c (f j)
 pr:∃x l,PrPs cs x l∧x.length≤cs.length*20000000
 sz:∀c∈cs,szT c.b≤60000
 nm:cs.map Prc.x=(List.range cs.length).map pNm
theorem CI.nil(f:FL):CI [] f:=⟨fun j c h=>(by simp at h),⟨_,_,.nil,by simp⟩,(fun c h=>by cases h),rfl⟩
theorem CI.snoc{cs:List Prc}{f:FL}(h:CI cs f){ps:List Prm}{t:Tr}{x:List UInt8}{l:List Tkn}(hp:PrP ⟨pNm cs.length,ps,t⟩ x l)(hx:x.length≤20000000)(hs:szT t≤60000){v:List V}(hv:bd0 ⟨pNm cs.length,ps,t⟩ v){f':FL}(e:∀j,j≤cs.length→f' j=if j<cs.length then f j else v):CI (cs++[⟨pNm cs.length,ps,t⟩]) f':=by
 refine⟨fun j c hj=>?_,?_,fun c hc=>?_,?_⟩
 ·by_cases hjl:j<cs.length
  ·rw[e j (by omega),if_pos hjl]
   rw[List.getElem?_append_left hjl]at hj
   exact h.cell j c hj
  ·rw[List.getElem?_append_right (by omega)]at hj
   have e0:j-cs.length=0:=by
    have:=(List.getElem?_eq_some_iff.1 hj).1
    simp at this;omega
   rw[e j (by omega),if_neg hjl]
   rw[e0]at hj
   simp at hj
   subst hj
   exact hv
 ·obtain⟨x0,l0,h1,h2⟩:=h.pr
  refine⟨_,_,fq9 hp h1,?_⟩
  rw[List.length_append,List.length_append]
  show _≤(cs.length+1)*20000000
  omega
 ·rcases List.mem_append.1 hc with hc|hc
  ·exact h.sz c hc
  ·obtain rfl:=List.mem_singleton.1 hc
   exact hs
 ·rw[List.map_append,h.nm,List.length_append,List.length_cons,List.length_nil,List.range_succ,List.map_append]
  rfl
section
variable {q:Nat} {ln:Nat} {lf:Nat→Int}
theorem hp3(q:Nat)(hq:12≤q)(m:Nat)(hm:m≤10):Rs (f9 q ((m:Nat):Int)) (fun z=>(⟨#[112]⟩:ByteArray)++z=pNm m∧z.size≤10):=by
 refine(aU (n:=(m:Int)) (by omega) (by omega) hq).mono fun z hz=>?_
 subst hz
 exact⟨rfl,jC (by omega) (by omega)⟩
theorem gw9(hr:uI ln lf)(hq:30≤q)(a m:Nat)(ha:a+60000≤1000000)(hm:m≤3):Rs (dA q (2,ln,lf,(a:Int),(m:Int))) (MS ln lf (PB1 2 m) a m 60000):=by
 have h:=if9 hr 2 (by omega) q (by omega) a m (by show a+58473≤_;omega) (by show m+58473≤_;omega)
 refine h.mono fun z hz=>?_
 obtain⟨t,y,a',b',h1,h2,h3,h4,h5,h6,h7⟩:=hz
 have h5:a'≤a+58473:=h5
 have h7:b'≤m+58473:=h7
 exact⟨t,y,a',b',h1,h2,h3,h4,by omega,h6,by omega⟩
theorem fe8(hr:uI ln lf)(hq:30≤q)(x0:g9)(K:Nat)(hK:K≤3):∀(q2:Nat) (cs:List Prc) (f:FL) (a:Nat) (mn:Int),cs.length≤K→K-cs.length<q2→a+(K-cs.length)*70000≤900000→CI cs f→
 Rs (lpG (Sum.elim (fun y=>eW (jK q) (Next q) (f9 q) (dS q) (dA q) (bV (jK q) (Next q) (f9 q) (dS q) (dA q) q x0) (o8 (jK q) (Next q) (f9 q) (dS q) (dA q) q x0) x0 y (fun y=>some (.inl y)) (fun z=>some (.inr z))) (fun y=>eY (jK q) (Next q) (f9 q) (dS q) (dA q) (bV (jK q) (Next q) (f9 q) (dS q) (dA q) q x0) (o8 (jK q) (Next q) (f9 q) (dS q) (dA q) q x0) x0 y (fun y=>some (.inl y)) (fun z=>some (.inr z)))) q2 (.inr ((K:Int),ln,lf,(a:Int),mn,f,cs.length,(cs.length:Int)))) (fun z=>∃cs f,z= .inr (cs.length,f)∧CI cs f∧cs.length≤K)
 |0,cs,f,a,mn,_,hq2,_,_=>by omega
 |q2+1,cs,f,a,mn,hle,hq2,ha,hC=>by
  refine Rs.step3 fun Q hQ=>?_
  dsimp only[Sum.elim]
  unfold eY
  dsimp only
  by_cases hlt:cs.length<K
  ·have hK2:(K-cs.length)*70000=(K-(cs.length+1))*70000+70000:=by
    rw[show K-cs.length=K-(cs.length+1)+1 by omega,Nat.add_mul,Nat.one_mul]
   refine Rs.pos (decide_eq_true (by omega)) ?_
   refine Rs.bind (hp3 q (by omega) cs.length (by omega)) fun z hz=>?_
   obtain⟨e1,e2⟩:=hz
   refine Rs.pos (by unfold maxLen;omega) ?_
   refine Rs.bind (w7 q hr a (by omega) mn 4 (by decide)) fun y hy=>?_
   obtain⟨m,hy,g0,g1⟩:=hy
   obtain⟨m,rfl⟩:∃k:Nat,m=(k:Int):=⟨m.toNat,by omega⟩
   subst hy
   rw[e1]
   refine Rs.bind (hf4 (jK q) (dA q) hr (by omega) x0 cs.length (K:Int) (cs.length:Int) f (pNm cs.length) m (by omega) (a+1) (by omega)) fun z hz=>?_
   have fin:∀(ps:List Prm) (hP:PM m ps) (a':Nat) (t:Tr) (y:n4) (a2 b2:Nat) (v:List V) (f':FL),PB1 2 m t b2→m≤b2→RepN t y→a2≤a+65000→bd0 ⟨pNm cs.length,ps,t⟩ v→(∀j,j≤cs.length→f' j=if j<cs.length then f j else v)→Q (.inr ((K:Int),ln,lf,(a2:Int),(b2:Int),f',cs.length+1,w ((cs.length:Int)+1))):=by
    intro ps hP a' t y a2 b2 v f' hB hb hy ha2 hv he
    obtain⟨x,l,p1,p2,p3⟩:=eh4 hP (by omega) hB hb (i:=cs.length) (by omega)
    refine hQ _ ?_
    rw[s9 (by omega)]
    have:=fe8 hr hq x0 K hK q2 (cs++[⟨pNm cs.length,ps,t⟩]) f' a2 (b2:Int) (by rw[List.length_append];exact hlt) (by rw[List.length_append];show K-(cs.length+1)<q2;omega) (by rw[List.length_append];show a2+(K-(cs.length+1))*70000≤900000;omega) (hC.snoc p1 p2 p3 hv he)
    rw[List.length_append]at this
    exact this
   rcases hz with⟨rfl,hm0⟩ | ⟨ps,g,a',rfl,hP,hR,h1,h2⟩
   ·subst hm0
    dsimp only[Sum.elim]
    refine Rs.bind (gw9 hr hq (a+1) 0 (by omega) (by omega)) fun z hz=>?_
    obtain⟨t,y,a2,b2,rfl,hB,hy,k1,k2,k3,k4⟩:=hz
    refine Rs.pos ⟨by unfold d5;omega,by unfold maxLen;omega,Nat.le_refl _⟩ (Rs.some ?_)
    refine fin [] PM.nil 0 t y a2 b2 [st (pNm cs.length),g8,i64 y.1,i64 y.2.1,st y.2.2.1,.ro 4 y.2.2.2.1 y.2.2.2.2] _ hB k3 hy (by omega) ⟨y,hy,.inl ⟨rfl,rfl⟩⟩ fun j hj=>?_
    simp only[ak1,az3]
    by_cases hjl:j<cs.length
    ·rw[if_pos hjl,if_pos hjl]
    ·rw[if_neg hjl,if_neg hjl,show j-cs.length=0 by omega]
     rfl
   ·dsimp only[Sum.elim]
    refine Rs.bind (gw9 hr hq a' m (by omega) (by omega)) fun z hz=>?_
    obtain⟨t,y,a2,b2,rfl,hB,hy,k1,k2,k3,k4⟩:=hz
    refine Rs.pos ⟨by omega,rfl⟩ (Rs.pos ⟨by unfold d5;omega,by unfold maxLen;omega,Nat.le_refl _⟩ (Rs.some ?_))
    refine fin ps hP 0 t y a2 b2 [st (pNm cs.length),.ro 2 ps.length (fun j=>g (0+j)),i64 y.1,i64 y.2.1,st y.2.2.1,.ro 4 y.2.2.2.1 y.2.2.2.2] _ hB k3 hy (by omega) ⟨y,hy,.inr ⟨_,fun j p hj=>by rw[Nat.zero_add];exact hR j p hj,rfl⟩⟩ fun j hj=>?_
    simp only[ak1,az3]
    by_cases hjl:j<cs.length
    ·rw[if_pos hjl,if_pos hjl]
    ·rw[if_neg hjl,if_neg hjl,show j-cs.length=0 by omega]
     rfl
  ·exact Rs.neg (fun h=>hlt (by have:=of_decide_eq_true h;omega)) (Rs.some ⟨cs,f,rfl,hC,hle⟩)
end
theorem hf7{ln:Nat}{lf:Nat→Int}(hr:uI ln lf){q:Nat}(hq:30≤q):Rs (fj3 q (ln,lf)) (fun z=>z= .inl ()∨∃cs f,z= .inr (cs.length,f)∧CI cs f∧cs.length≤3):=by
 unfold fj3 au0
 refine Rs.bind (ha8 q hr) fun z hz=>?_
 obtain⟨ln,lf⟩:=z
 have hr:uI ln lf:=hz
 refine Rs.bind (w7 q hr 0 (by omega) 0 4 (by decide)) fun y hy=>?_
 obtain⟨K,hy,g0,g1⟩:=hy
 obtain⟨K,rfl⟩:∃k:Nat,K=(k:Int):=⟨K.toNat,by omega⟩
 subst hy
 have hl:∀x0:g9,Rs (am9 (jK q) (Next q) (f9 q) (dS q) (dA q) q x0 (.inl ((K:Int),ln,lf,((0+1:Nat):Int),0))) (fun z=>z= .inl ()∨∃cs f,z= .inr (cs.length,f)∧CI cs f∧cs.length≤3):=by
  intro x0
  obtain⟨q2,hq2⟩:∃q',q=q'+1:=⟨q-1,by omega⟩
  unfold am9
  have main:∀q1,q1=q2+1→Rs (lpG (Sum.elim (fun y=>eW (jK q) (Next q) (f9 q) (dS q) (dA q) (bV (jK q) (Next q) (f9 q) (dS q) (dA q) q x0) (o8 (jK q) (Next q) (f9 q) (dS q) (dA q) q x0) x0 y (fun y=>some (.inl y)) (fun z=>some (.inr z))) (fun y=>eY (jK q) (Next q) (f9 q) (dS q) (dA q) (bV (jK q) (Next q) (f9 q) (dS q) (dA q) q x0) (o8 (jK q) (Next q) (f9 q) (dS q) (dA q) q x0) x0 y (fun y=>some (.inl y)) (fun z=>some (.inr z)))) q1 (.inl ((K:Int),ln,lf,((0+1:Nat):Int),0))) (fun z=>z= .inl ()∨∃cs f,z= .inr (cs.length,f)∧CI cs f∧cs.length≤3):=by
   rintro q1 rfl
   refine Rs.step3 fun Q hQ=>?_
   dsimp only[Sum.elim]
   unfold eW
   dsimp only
   by_cases h0:0<K
   ·refine Rs.pos (decide_eq_true (by omega)) ?_
    refine Rs.bind (hp3 q (by omega) 0 (by omega)) fun z hz=>?_
    obtain⟨e1,e2⟩:=hz
    refine Rs.pos (by unfold maxLen;omega) ?_
    refine Rs.bind (w7 q hr (0+1) (by omega) 0 4 (by decide)) fun y hy=>?_
    obtain⟨m,hy,m0,m1⟩:=hy
    obtain⟨m,rfl⟩:∃k:Nat,m=(k:Int):=⟨m.toNat,by omega⟩
    subst hy
    rw[e1]
    refine Rs.bind (ht8 (jK q) (dA q) hr (by omega) x0 (K:Int) (pNm 0) m (by omega) (0+1+1) (by omega)) fun z hz=>?_
    have fin:∀(ps:List Prm) (hP:PM m ps) (t:Tr) (y:n4) (a2 b2:Nat) (v:List V) (f':FL),PB1 2 m t b2→m≤b2→RepN t y→a2≤65000→bd0 ⟨pNm 0,ps,t⟩ v→f' 0=v→Q (.inr ((K:Int),ln,lf,(a2:Int),(b2:Int),f',1,1)):=by
     intro ps hP t y a2 b2 v f' hB hb hy ha2 hv he
     obtain⟨x,l,p1,p2,p3⟩:=eh4 hP (by omega) hB hb (i:=0) (by omega)
     refine hQ _ ?_
     have:=fe8 hr hq x0 K (by omega) q2 [⟨pNm 0,ps,t⟩] f' a2 (b2:Int) (by show 1≤K;omega) (by show K-1<q2;omega) (by show a2+(K-1)*70000≤900000;omega) ((CI.nil (fun _=>[])).snoc (ps:=ps) (t:=t) p1 p2 p3 hv fun j hj=>by
      have:j=0:=by simpa using hj
      subst this
      exact he)
     refine this.mono fun z hz=>.inr ?_
     obtain⟨cs,f,h1,h2,h3⟩:=hz
     exact⟨cs,f,h1,h2,by omega⟩
    rcases hz with⟨rfl,hm0⟩ | ⟨ps,g,a',rfl,hP,hR,h1,h2⟩
    ·subst hm0
     dsimp only[Sum.elim]
     refine Rs.bind (gw9 hr hq (0+1+1) 0 (by omega) (by omega)) fun z hz=>?_
     obtain⟨t,y,a2,b2,rfl,hB,hy,k1,k2,k3,k4⟩:=hz
     exact Rs.some (fin [] PM.nil t y a2 b2 [st (pNm 0),g8,i64 y.1,i64 y.2.1,st y.2.2.1,.ro 4 y.2.2.2.1 y.2.2.2.2] _ hB k3 hy (by omega) ⟨y,hy,.inl ⟨rfl,rfl⟩⟩ rfl)
    ·dsimp only[Sum.elim]
     refine Rs.bind (gw9 hr hq a' m (by omega) (by omega)) fun z hz=>?_
     obtain⟨t,y,a2,b2,rfl,hB,hy,k1,k2,k3,k4⟩:=hz
     exact Rs.pos ⟨by omega,rfl⟩ (Rs.some (fin ps hP t y a2 b2 [st (pNm 0),.ro 2 ps.length (fun j=>g (0+j)),i64 y.1,i64 y.2.1,st y.2.2.1,.ro 4 y.2.2.2.1 y.2.2.2.2] _ hB k3 hy (by omega) ⟨y,hy,.inr ⟨_,fun j p hj=>by rw[Nat.zero_add];exact hR j p hj,rfl⟩⟩ rfl))
   ·exact Rs.neg (fun h=>h0 (by have:=of_decide_eq_true h;omega)) (Rs.some (.inl rfl))
  exact main q hq2
 refine Rs.bind (hl _) fun z hz=>?_
 rcases hz with rfl| ⟨cs,f,rfl,h1,h2⟩
 ·exact Rs.some (.inl rfl)
 ·exact Rs.some (.inr ⟨cs,f,rfl,h1,h2⟩)
end Go.Proofs.YtjfkkokeegpeiaaGreatDoor
/- The laws of Prints and Builds, lifted. -/
namespace Go.Proofs.YtjfkkokeegpeiaaGreatDoor
open Go Go.Am Go.Proofs Go.Proofs.Lx
set_option maxRecDepth 100000
structure Hnd(n:Nat)(f:FL)(cs:List Prc)(x:List UInt8):Prop where
 pr:∃l,PrPs cs x l
 len:n=cs.length
 cell:∀j c,cs[j]? =some c→bd0 c (f j)
 sz:∀c∈cs,szT c.b≤1000000
 l4:cs.length≤10000
 l9:x.length≤1000000000
theorem Hnd.le{n:Nat}{f:FL}{cs:List Prc}{x:List UInt8}(h:Hnd n f cs x):Le (.ro 6 n f) (aj5 cs):=by
 rw[h.len]
 exact gw8 h.cell
theorem le_trans{a b c:V}(h:Le a b)(g:Le b c):Le a c:=fun _ _ _ _ _ k=>g _ _ _ _ _ (h _ _ _ _ _ k)
abbrev cb6:Type:=Nat×FI
abbrev cb4:Type:=Nat×FL
def ca9:AR cb6:=fun x=>([.ro 1 x.1 (fun j=>[i64 (x.2 j)])],[])
def hf1(t:TT):cb6:=(u7 (ag t 0),dTI (ag t 0) 0)
theorem hk7:VI ca9:=vd hf1 fun _=>rfl
def de1:cb4→CRes:=fun z=>.ret (.ro 6 z.1 z.2) []
def en2:ar3→cb4:=Sum.elim (fun _=>(0,fun _=>[])) (fun z=>z)
theorem fy1{args:List V}{L:List (Option Chunk)}(z:ar3)(h:SC E5 12 args L (dp3 z)):SC E5 12 args L (de1 (en2 z)):=by
 rcases z with z|z
 ·exact SC.le h Le.nil_ro
 ·have h2:=SC.giveM (L2:=[]) 0 h (by rfl) (by simp[V.bw,V.bw2,V.bw1,hp,V.pure,m8])
  simp[V.bw,V.bw2,V.bw1,hp]at h2
  exact h2
noncomputable def eo1(q:Nat)(x:cb6):Option cb4:=(fj3 q x).map en2
theorem gd1(q:Nat):Lw E5 12 ca9 de1 (eo1 q):=by
 intro x z h
 obtain⟨y,hy,rfl⟩:=Option.map_eq_some_iff.1 h
 exact fy1 y (sc9.1 (gl4 q x y hy))
abbrev bg3:Type:=Nat×FL
abbrev co7:Type:=ByteArray
def be3:AR bg3:=fun x=>([.ro 6 x.1 x.2],[])
def gp2(t:TT):bg3:=(u7 (ag t 0),iU (ag t 0))
theorem gg0:VI be3:=vd gp2 fun _=>rfl
def ep2:co7→CRes:=fun z=>.ret (st z) []
noncomputable def bt3(q:Nat)(x:bg3):Option co7:=@dite _ (∃p:List Prc×List UInt8,Hnd x.1 x.2 p.1 p.2) (Classical.propDecidable _) (fun h=>some (mkB (Classical.choose h).2)) (fun _=>none)
theorem fr5(q:Nat):Lw E5 13 be3 ep2 (bt3 q):=by
 intro x z h
 unfold bt3 at h
 split at h
 ·rename_i hc
  cases h
  have hH:=Classical.choose_spec hc
  generalize Classical.choose hc=p at*
  obtain⟨l,hl⟩:=hH.pr
  have h1:=gk2 hl (q:=4000000) (fun c hc=>⟨by have:=hH.sz c hc;omega,hH.sz c hc⟩) (by have:=hH.l4;omega) hH.l4 hH.l9
  have h2:=gh1 4000000 _ _ h1
  exact SC.arg (sc8.1 h2) (LeL.cons (le_trans hH.le (fl5 p.1)) LeL.nil) rfl rfl
 ·cases h
abbrev ir0:Type:=Nat×FL×Nat×FL
abbrev it3:Type:=Bool
def ir3:AR ir0:=fun x=>([.ro 6 x.1 x.2.1,.ro 6 x.2.2.1 x.2.2.2],[])
def jb9(t:TT):ir0:=(u7 (ag t 0),iU (ag t 0),u7 (ag t 1),iU (ag t 1))
theorem jb4:VI ir3:=vd jb9 fun _=>rfl
def ix3:it3→CRes:=fun z=>.ret (bo z) []
noncomputable def is3(q:Nat)(x:ir0):Option it3:=@ite _ (∃(cs:List Prc) (t:List UInt8),Hnd x.1 x.2.1 cs t∧(x.2.2.1,x.2.2.2)=(cs.length,pF cs)∧cs.length≤20000∧∀c∈cs,SmC 20000 c) (Classical.propDecidable _) (some true) none
theorem iz8(q:Nat):Lw E5 10 ir3 ix3 (is3 q):=by
 rintro⟨n,f,m,g⟩ z h
 unfold is3 at h
 split at h
 ·rename_i hc
  obtain⟨cs,t,hH,e,h1,h2⟩:=hc
  cases h
  obtain⟨b,h3,h4⟩:=iv8 cs h1 h2
  have eb:b=true:=h3.2 rfl
  rw[eb]at h4
  cases e
  exact SC.arg h4 (LeL.cons hH.le (LeL.refl _)) rfl rfl
 ·cases h
abbrev iq6:Type:=Nat×FI
abbrev ip7:Type:=Bool
def iq7:AR iq6:=fun x=>([.ro 1 x.1 (fun j=>[i64 (x.2 j)])],[])
def is1:ip7→CRes:=fun z=>.ret (bo z) []
def io6{β:Type}(c_MakeV:cb6→Option cb4)(c_PrintX:bg3→Option co7)(c_ParseV:bh1→Option co8)(c_SameY:ir0→Option it3)(c_Lives:bf9→Option bj8)(x:iq6)(dn:ip7→Option β):Option β:=
 (c_MakeV x).bind fun z2=>(c_PrintX z2).bind fun z5=>if decide ((z5.size:Int)>4000)=true then(c_Lives ()).bind fun z6=>dn z6 else(c_ParseV z5).bind fun z8=>if(z8.2.2.2==0)=true then(c_SameY (z2.1,z2.2,z8.1,z8.2.1)).bind fun z13=>if z13=true then(c_Lives ()).bind fun z14=>dn z14 else dn false else dn false
theorem iy1{β:Type}(c_MakeV c_PrintX)(c_ParseV c_SameY c_Lives)(x)(dn:ip7→Option β):io6 c_MakeV c_PrintX c_ParseV c_SameY c_Lives x dn=(io6 c_MakeV c_PrintX c_ParseV c_SameY c_Lives x some).bind dn:=by
 unfold io6
 repeat' first|exact n0|refine n1 fun _=>?_|refine n2 ?_ ?_|refine n3 (fun _=>?_) fun _=>?_|rfl
theorem iy2(c_MakeV c_PrintX)(c_ParseV c_SameY c_Lives)(x):f7 E5 (ftb 12 ca9 de1 c_MakeV (ftb 13 be3 ep2 c_PrintX (ftb 8 bj6 ds3 c_ParseV (ftb 10 ir3 ix3 c_SameY (ftb 11 ax1 dg0 c_Lives ca0))))) lo0 6 (iq7 x).1 (iq7 x).2 K=io6 (vf ca9 c_MakeV) (vf be3 c_PrintX) (vf bj6 c_ParseV) (vf ir3 c_SameY) (vf ax1 c_Lives) x (fun z=>some (.c (is1 z))):=by kernel_rfl
noncomputable def iu4(q:Nat)(x:iq6):Option ip7:=io6 (eo1 q) (bt3 q) (ai3 q) (is3 q) (eo3 q) x some
theorem iw3(q:Nat):Lw E5 6 iq7 is1 (iu4 q):=sof hW5 hX5 (fk (gd1 q) (fk (fr5 q) (fk (gc6 q) (fk (iz8 q) (fk (gj2 q) a8))))) (fun _=>b6) fun x=>(iy2 (eo1 q) (bt3 q) (ai3 q) (is3 q) (eo3 q) x).trans (by rw[hk7,gg0,go0,jb4,hn5,iy1]<;>rfl)
end Go.Proofs.YtjfkkokeegpeiaaGreatDoor
/- The laws of Prints and Builds. -/
namespace Go.Proofs.YtjfkkokeegpeiaaGreatDoor
open Go Go.Am Go.Proofs.Lx
set_option maxRecDepth 100000
theorem dq1(n:Nat):((List.range n).map pNm).Nodup:=List.Pairwise.map _ (fun i j hij h=>hij (gy8 h)) List.nodup_range
theorem gh4{ln:Nat}{lf:Nat→Int}(hr:uI ln lf){q:Nat}(hq:30≤q):Rs (eo1 q (ln,lf)) (fun z=>∃cs x,Hnd z.1 z.2 cs x∧(cs.map Prc.x).Nodup):=by
 unfold eo1
 refine Rs.map (hf7 hr hq) fun z hz=>?_
 rcases hz with rfl| ⟨cs,f,rfl,hC,hl⟩
 ·exact⟨[],[],⟨⟨_,.nil⟩,rfl,(fun j c h=>by simp at h),(fun c h=>by cases h),by decide,by decide⟩,List.Pairwise.nil⟩
 ·obtain⟨x,l,h1,h2⟩:=hC.pr
  refine⟨cs,x,⟨⟨l,h1⟩,rfl,hC.cell,fun c hc=>by have:=hC.sz c hc;omega,by omega,by omega⟩,?_⟩
  rw[hC.nm]
  exact dq1 _
theorem ja7{c c':Prc}{l:List V}(h:bd0 c l)(g:bd0 c' l):c.x=c'.x:=by
 have hd:∀{c:Prc},bd0 c l→l.head? =some (st c.x):=by
  rintro c ⟨y,_,⟨_,rfl⟩ | ⟨g,_,rfl⟩⟩<;>rfl
 have:=(hd h).symm.trans (hd g)
 simp only[Option.some.injEq,st,V.sc.injEq,Value.string.injEq]at this
 exact this
theorem jc9{n:Nat}{f:FL}{cs cs':List Prc}{x x':List UInt8}(h:Hnd n f cs x)(g:Hnd n f cs' x'):cs.map Prc.x=cs'.map Prc.x:=by
 have hl:cs.length=cs'.length:=h.len.symm.trans g.len
 apply List.ext_getElem
 ·rw[List.length_map,List.length_map,hl]
 ·intro j h1 h2
  rw[List.length_map]at h1 h2
  rw[List.getElem_map,List.getElem_map]
  exact ja7 (h.cell j _ (List.getElem?_eq_getElem h1)) (g.cell j _ (List.getElem?_eq_getElem h2))
theorem iu8{ln:Nat}{lf:Nat→Int}(hr:uI ln lf):iu4 100 (ln,lf)=some true:=by
 refine Rs.eq ?_
 unfold iu4 io6
 refine Rs.bind (gh4 hr (by decide)) fun z hz=>?_
 obtain⟨cs0,x0,hH0,hn0⟩:=hz
 have hE:∃p:List Prc×List UInt8,Hnd z.1 z.2 p.1 p.2:=⟨(cs0,x0),hH0⟩
 have e1:bt3 100 z=some (mkB (Classical.choose hE).2):=by unfold bt3;exact dif_pos hE
 have hH:=Classical.choose_spec hE
 generalize Classical.choose hE=p at*
 obtain⟨cs,x⟩:=p
 dsimp only at hH e1
 refine Rs.bind (Rs.of e1) fun z1 g1=>?_
 subst g1
 refine Rs.ite (fun _=>Rs.bind (Rs.of (ey2 100)) fun z hz=>Rs.some hz) fun hs=>?_
 have hs:(mkB x).size≤4000:=by
  have:¬(((mkB x).size:Int)>4000):=fun h=>hs (decide_eq_true h)
  omega
 obtain⟨l,hl⟩:=hH.pr
 have hn:(cs.map Prc.x).Nodup:=by rw[←jc9 hH0 hH];exact hn0
 have hP:=ir9 hl hn (m4 x) hs
 refine Rs.bind (Rs.of (br7 100 hP)) fun z2 g2=>?_
 subst g2
 refine Rs.pos rfl ?_
 obtain⟨s1,s2⟩:=iu9 hP
 have e3:is3 100 (z.1,z.2,cs.length,pF cs)=some true:=by
  unfold is3
  exact if_pos ⟨cs,x,hH,rfl,s1,s2⟩
 exact Rs.bind (Rs.of e3) fun z3 g3=>Rs.pos g3 (Rs.bind (Rs.of (ey2 100)) fun z hz=>Rs.some hz)
theorem parserBuilds(v0:V)(h0:WTV E.P 29 v0):∃l',LeL [v0] l'∧SC E 6 l' [] (.ret (bo true) []):=by
 obtain⟨m,y,g1,hy⟩:=gy3 h0
 exact⟨_,LeL.cons g1 LeL.nil,sc5.1 (iw3 100 _ _ (iu8 hy))⟩
end Go.Proofs.YtjfkkokeegpeiaaGreatDoor

